/- package wire's reading half: GetNumber, span, GetText. -/
import Derived.Test.YtcfbmglhikjahaaDoorText
import Derived.Laws.BitsLemmas
set_option linter.unusedVariables false
set_option linter.unusedSimpArgs false
namespace Go.Proofs.YtcfbmglhikjahaaDoor
open Go.RowKit Go.Proofs.YtcfbmglhikjahaaDoorW.PrintWords

theorem Rd.cells {w : World} {A : Option Addr} {n : Nat} {l : List Int} (h : Rd w A n l) (hn : 0 < n) : ∃ b o, A = some ⟨b, o, none⟩ ∧ ∀ i, i < n → w.cell? ⟨b, o + i, none⟩ = some (.int .u8 (l.getD i 0)) := by
  obtain ⟨⟨b, o, sp⟩, rfl, hc⟩ := h.2.2 hn
  have h0 := hc 0 hn
  have hs : sp = none := by
    cases sp with
    | none => rfl
    | some k =>
      simp only [Addr.add, if_true, World.cell?] at h0
      split at h0 <;> simp at h0
  subst hs
  exact ⟨b, o, rfl, fun i hi => by have := hc i hi; rwa [add_plain'] at this⟩
where add_plain' {b o i : Nat} : (⟨b, o, none⟩ : Addr).add i = ⟨b, o + i, none⟩ := by unfold Addr.add; split <;> simp_all

/-- a cut of a slice that is read -/
theorem rd_cut {w : World} {A : Option Addr} {n c : Nat} {l : List Int} (h : Rd w A n l) (hc : n ≤ c) (a b : Nat) (hab : a ≤ b) (hb : b ≤ n) :
    ∃ A', (∀ (lo hi : Int), lo = a → hi = b → ∀ W : World, (Instr.slice 23 (.slice A n c) (some (.int .i64 lo)) (some (.int .i64 hi)) none).run Tryd.prog W = .ok (.slice A' (b - a) (c - a)) W) ∧ (∀ W, Rd W A n l → Rd W A' (b - a) ((l.drop a).take (b - a))) := by
  obtain ⟨i0, hi, hzz⟩ := Option.map_eq_some_iff.1 info_u8
  simp only [Prod.mk.injEq] at hzz
  obtain ⟨hz0, hz1, hz2⟩ := hzz
  refine ⟨if c = a then A else A.map (·.add (a * 1)), ?_, ?_⟩
  · rintro lo hi' rfl rfl W
    have := cut_mid (P := Tryd.prog) 23 5 .i64 .i64 Tryd.underlying23 hi 1 hz1 A n c (a : Int) (b : Int) (by omega) (by omega) (by omega) hc W
    simpa using this
  · intro W hW
    have h1 := (hW.take_ b hb).drop_ (c := c) a hab (by omega)
    have he : (l.take b).drop a = (l.drop a).take (b - a) := by rw [List.drop_take]
    rw [he] at h1
    simpa using h1

/-- what the loop of GetNumber makes -/
def accV (l : List Int) : Int := l.foldl (fun n c => Go.bits .or .i64 (wrap64 (n * 256)) (wrap64 c)) 0
theorem accV_snoc (l : List Int) (c : Int) : accV (l ++ [c]) = Go.bits .or .i64 (wrap64 (accV l * 256)) (wrap64 c) := by simp [accV]
theorem accV_eq (l : List Int) (h : AllB l) : accV l = wrap64 (beV l) := by
  have key : ∀ (l : List Int), AllB l → ∀ a b : Int, a = wrap64 b → l.foldl (fun n c => Go.bits .or .i64 (wrap64 (n * 256)) (wrap64 c)) a = wrap64 (l.foldl (fun n c => n * 256 + c) b) := by
    intro l
    induction l with
    | nil => intro _ a b h; exact h
    | cons x l ih =>
      intro hl a b hab
      have hx := hl x (by simp)
      refine ih (fun y hy => hl y (List.mem_cons_of_mem _ hy)) _ _ ?_
      have hw : wrap64 x = x := by unfold wrap64; omega
      show Go.bits .or .i64 (wrap64 (a * 256)) (wrap64 x) = wrap64 (b * 256 + x)
      rw [hw, or_low64 _ x 8 (by unfold wrap64; omega) hx.1 (by simpa using hx.2) (by omega), hab]
      unfold wrap64
      omega
  have := key l h 0 0 (by unfold wrap64; omega)
  simpa [accV, beV] using this
theorem accV_range (l : List Int) : ∀ (h : AllB l), -9223372036854775808 ≤ accV l ∧ accV l ≤ 9223372036854775807 := by
  intro h
  rw [accV_eq l h]
  unfold wrap64
  omega

/-- what GetNumber answers at a place that is none behind the end, of a size that may be -/
def numR (l : List Int) (a s : Nat) : Int × Int × Int :=
  if l.length < a + s then (0, 0, 111) else if accV ((l.drop a).take s) < 0 then (0, 0, 112) else (accV ((l.drop a).take s), (a : Int) + s, 0)

set_option maxRecDepth 100000 in
set_option maxHeartbeats 1000000 in
theorem getnum_any (A : Option Addr) (n c : Nat) (l : List Int) (w : World) (h : Rd w A n l) (hc : n ≤ c) (hn : n ≤ 140737488355328) (hb : AllB l) (a s : Nat) (ha : a ≤ n) (hs : s = 1 ∨ s = 2 ∨ s = 4 ∨ s = 8) :
    Calls Tryd.prog 51 #[.slice A n c, .int .i64 a, .int .i64 s] w fun e w' => e = .returned (.tuple #[.int .i64 (numR l a s).1, .int .i64 (numR l a s).2.1, .int .i64 (numR l a s).2.2]) ∧ w = w' := by
  have hl := h.1
  by_cases c1 : n < a + s
  · have He := Lib.hid (show numR l a s = (0, 0, 111) by unfold numR; rw [if_pos (by omega)])
    clear h hb hl
    go_enter Tryd.func51, Tryd.ntmps51
    go_wp2_with (go_at_call 66; refine (fits_yes _ (by omega) _).mono ?_; rintro e w' ⟨rfl, rfl⟩)
    go_ret3
    rw [He.out]
    exact ⟨rfl, rfl⟩
  · obtain ⟨A', hcut, hrd⟩ := rd_cut h hc a (a + s) (by omega) (by omega)
    have hcut' := hcut (a : Int) ((a : Int) + (s : Int)) rfl (by omega)
    rw [Nat.add_sub_cancel_left] at hcut' hrd
    obtain ⟨b, o, rfl, hcell⟩ := (hrd w h).cells (by omega)
    have hbx : AllB ((l.drop a).take s) := (hb.drop a).take s
    have hsl : ((l.drop a).take s).length = s := by simp; omega
    have He := Lib.hid (show numR l a s = if accV ((l.drop a).take s) < 0 then (0, 0, 112) else (accV ((l.drop a).take s), (a : Int) + s, 0) by unfold numR; rw [if_neg (by omega)])
    clear h hb hl hcut hrd
    generalize (l.drop a).take s = xs at *
    have HB := Lib.hid hbx
    have HL := Lib.hid hsl
    have HC := Lib.hid hcell
    clear hbx hsl hcell
    go_enter Tryd.func51, Tryd.ntmps51
    go_wp2_with (go_at_call 66; refine (fits_yes _ (by omega) _).mono ?_; rintro e w' ⟨rfl, rfl⟩)
    go_loop [9, 36] (fun v i => ∃ k : Nat, k ≤ s ∧ i = .int .i64 k ∧ v = .int .i64 (accV (xs.take k))) (fun _ i => s - (intOf i).toNat)
    case atStart => exact ⟨0, Nat.zero_le _, rfl, rfl⟩
    case round =>
      obtain ⟨k, hk, rfl, rfl⟩ := hrel
      by_cases hlt : k < s
      · have hce := HC.out k hlt
        have hx := HB.out.getD k
        have hts : xs.take (k + 1) = xs.take k ++ [xs.getD k 0] := by
          have := HL.out
          rw [List.take_succ_eq_append_getElem (by omega), List.getD_eq_getElem?_getD, List.getElem?_eq_getElem (by omega)]; rfl
        have hr := accV_range (xs.take k) (HB.out.take k)
        have HS := Lib.hid (show accV (xs.take (k + 1)) = _ by rw [hts, accV_snoc])
        clear hts
        go_wp2
        go_round
        case rel => exact ⟨k + 1, by omega, by go_num, by rw [HS.out, List.getD_eq_getElem?_getD]⟩
        case measure => simp [intOf]; omega
      · obtain rfl : k = s := by omega
        rw [show xs.take k = xs by rw [List.take_of_length_le (by have := HL.out; omega)]]
        have hr := accV_range xs HB.out
        by_cases hneg : accV xs < 0
        · go_wp2
          go_ret3
          rw [He.out, if_pos (by omega)]
          exact ⟨rfl, rfl⟩
        · go_wp2
          go_ret3
          rw [He.out, if_neg (by omega)]
          exact ⟨rfl, rfl⟩
end Go.Proofs.YtcfbmglhikjahaaDoor
