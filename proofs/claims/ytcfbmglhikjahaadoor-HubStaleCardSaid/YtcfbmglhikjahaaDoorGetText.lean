/- wire.GetText. -/
import Derived.Test.YtcfbmglhikjahaaDoorSpan
set_option linter.unusedVariables false
set_option linter.unusedSimpArgs false
namespace Go.Proofs.YtcfbmglhikjahaaDoor
open Go.RowKit Go.Proofs.YtcfbmglhikjahaaDoorW.PrintWords

theorem spanR_ok (l : List Int) (hb : AllB l) (a : Nat) (h : (spanR l a).2.2 = 0) : ∃ f t : Nat, spanR l a = ((f : Int), (t : Int), 0) ∧ a < f ∧ f ≤ t ∧ t ≤ l.length := by
  unfold spanR at h ⊢
  by_cases c1 : l.length ≤ a
  · rw [if_pos c1] at h; simp at h
  rw [if_neg c1] at h ⊢
  by_cases c2 : 192 ≤ l.getD a 0
  · rw [if_pos c2] at h; simp at h
  rw [if_neg c2] at h ⊢
  by_cases c3 : l.length < a + clS (l.getD a 0)
  · rw [if_pos c3] at h; simp at h
  rw [if_neg c3] at h ⊢
  by_cases c4 : beV ((l.drop a).take (clS (l.getD a 0))) % clM (l.getD a 0) < clL (l.getD a 0)
  · rw [if_pos c4] at h; simp at h
  rw [if_neg c4] at h ⊢
  by_cases c5 : 1048576 < beV ((l.drop a).take (clS (l.getD a 0))) % clM (l.getD a 0)
  · rw [if_pos c5] at h; simp at h
  rw [if_neg c5] at h ⊢
  by_cases c6 : (l.length : Int) < (a : Int) + (clS (l.getD a 0) : Int) + beV ((l.drop a).take (clS (l.getD a 0))) % clM (l.getD a 0)
  · rw [if_pos c6] at h; simp at h
  rw [if_neg c6] at h ⊢
  have hs : 0 < clS (l.getD a 0) := by unfold clS; split <;> (try split) <;> omega
  have hm : 0 ≤ beV ((l.drop a).take (clS (l.getD a 0))) % clM (l.getD a 0) := Int.emod_nonneg _ (by unfold clM; split <;> (try split) <;> omega)
  generalize beV ((l.drop a).take (clS (l.getD a 0))) % clM (l.getD a 0) = v at *
  obtain ⟨k, rfl⟩ := Int.eq_ofNat_of_zero_le hm
  exact ⟨a + clS (l.getD a 0), a + clS (l.getD a 0) + k, by simp, by omega, by omega, by omega⟩

/-- what GetText answers: the text, the place behind it, the error -/
def textR (l : List Int) (a : Nat) : List Int × Int × Int :=
  if (spanR l a).2.2 = 0 then ((l.drop (spanR l a).1.toNat).take ((spanR l a).2.1.toNat - (spanR l a).1.toNat), (spanR l a).2.1, 0) else ([], 0, (spanR l a).2.2)
theorem textR_bad (l : List Int) (a : Nat) (h : (spanR l a).2.2 ≠ 0) : textR l a = ([], 0, (spanR l a).2.2) := by unfold textR; rw [if_neg h]
theorem textR_ok (l : List Int) (hb : AllB l) (a : Nat) (h : (textR l a).2.2 = 0) :
    ∃ f t : Nat, spanR l a = ((f : Int), (t : Int), 0) ∧ textR l a = ((l.drop f).take (t - f), (t : Int), 0) ∧ a < f ∧ f ≤ t ∧ t ≤ l.length := by
  by_cases hz : (spanR l a).2.2 = 0
  · obtain ⟨f, t, he, h1, h2, h3⟩ := spanR_ok l hb a hz
    exact ⟨f, t, he, by unfold textR; rw [if_pos hz, he]; simp, h1, h2, h3⟩
  · rw [textR_bad l a hz] at h; exact absurd h hz

set_option maxRecDepth 100000 in
set_option maxHeartbeats 1000000 in
theorem gettext_bad (A : Option Addr) (n c : Nat) (l : List Int) (w : World) (hG : Classes w) (h : Rd w A n l) (hc : n ≤ c) (hn : n ≤ 140737488355328) (hb : AllB l) (a : Nat) (ha : a ≤ n) (hz : (textR l a).2.2 ≠ 0) :
    Calls Tryd.prog 50 #[.slice A n c, .int .i64 a] w fun e w' => e = .returned (.tuple #[.slice none 0 0, .int .i64 0, .int .i64 (textR l a).2.2]) ∧ w = w' := by
  have hz' : (spanR l a).2.2 ≠ 0 := fun h => hz (by unfold textR; rw [if_pos h])
  have hsp := span_any A n c l w hG h hc hn hb a ha
  rw [textR_bad l a hz'] at hz ⊢
  generalize spanR l a = r at *
  obtain ⟨r1, r2, r3⟩ := r
  have HS := Lib.hid hsp
  have hb : (r3 == 0) = false := by rw [beq_eq_false_iff_ne]; exact hz
  have hb2 : (r3 != 0) = true := by rw [bne_iff_ne]; exact hz
  clear h hsp hz hz'
  go_enter Tryd.func50, Tryd.ntmps50
  go_wp2_with (go_at_call 65; refine HS.out.mono ?_; rintro e w' ⟨rfl, rfl⟩)
  go_ret3
  exact ⟨rfl, rfl⟩

set_option maxRecDepth 100000 in
set_option maxHeartbeats 1000000 in
theorem gettext_good (A : Option Addr) (n c : Nat) (l : List Int) (w : World) (hG : Classes w) (h : Rd w A n l) (hc : n ≤ c) (hn : n ≤ 140737488355328) (hb : AllB l) (a : Nat) (ha : a ≤ n) (hz : (textR l a).2.2 = 0) :
    Calls Tryd.prog 50 #[.slice A n c, .int .i64 a] w fun e w' => ∃ v, e = .returned (.tuple #[v, .int .i64 (textR l a).2.1, .int .i64 0]) ∧ Ow w' w.heap.size v (textR l a).1 ∧ Below w.heap.size w w' := by
  have hsp := span_any A n c l w hG h hc hn hb a ha
  obtain ⟨f, t, he, ht, h1, h2, h3⟩ := textR_ok l hb a hz
  rw [he] at hsp
  rw [ht]
  have hl := h.1
  obtain ⟨A', hcut, hrd⟩ := rd_cut h hc f t h2 (by omega)
  have hcut' := hcut (f : Int) (t : Int) rfl rfl
  have hcl := clone_any A' (t - f) (c - f) _ w (hrd w h) (by omega)
  have HS := Lib.hid hsp
  have HC := Lib.hid hcl
  clear h hsp hz he ht hrd hcut hcl
  generalize (l.drop f).take (t - f) = xs at *
  go_enter Tryd.func50, Tryd.ntmps50
  go_wp2_with (first | (go_at_call 65; refine HS.out.mono ?_; rintro e w' ⟨rfl, rfl⟩) | (go_at_call 30; refine HC.out.mono ?_; rintro e w' ⟨v, rfl, ho, hb⟩))
  go_ret3
  exact ⟨_, rfl, ho, hb⟩
end Go.Proofs.YtcfbmglhikjahaaDoor
