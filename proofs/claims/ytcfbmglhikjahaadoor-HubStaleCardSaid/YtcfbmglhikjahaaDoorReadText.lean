/- package frame's reader: text. -/
import Derived.Test.YtcfbmglhikjahaaDoorReader
import Derived.Test.YtcfbmglhikjahaaDoorPut
set_option linter.unusedVariables false
set_option linter.unusedSimpArgs false
namespace Go.Proofs.YtcfbmglhikjahaaDoor
open Go.RowKit Go.Proofs.YtcfbmglhikjahaaDoorW.PrintWords

/-- where a reader stands behind k texts -/
def rst (l : List Int) (a e : Int) : Nat → Int × Int
  | 0 => (a, e)
  | k + 1 => if (rst l a e k).2 = 0 then (textR l (rst l a e k).1.toNat).2 else rst l a e k
/-- the k-th text that is read -/
def rval (l : List Int) (a e : Int) (k : Nat) : List Int := if (rst l a e k).2 = 0 then (textR l (rst l a e k).1.toNat).1 else []
theorem rst_in (l : List Int) (hb : AllB l) (a e : Int) (ha : e = 0 → 0 ≤ a ∧ a ≤ l.length) : ∀ k, (rst l a e k).2 = 0 → 0 ≤ (rst l a e k).1 ∧ (rst l a e k).1 ≤ l.length := by
  intro k
  induction k with
  | zero => exact ha
  | succ k ih =>
    intro h
    simp only [rst] at h ⊢
    by_cases h0 : (rst l a e k).2 = 0
    · rw [if_pos h0] at h ⊢
      obtain ⟨f, t, _, ht, _, _, h3⟩ := textR_ok l hb _ h
      rw [ht]
      simp; omega
    · rw [if_neg h0] at h; exact absurd h h0

theorem rtext_step {T : Nat → Nat → Prop} {w wr w1 : World} {g n c m k : Nat} {A : Option Addr} {l : List Int} {a e p : Int} {tb po : Nat → Nat} {V : Value} {tx : List Int} {a' e' : Int}
    (K2 : ∀ b o, TR g b o → T b o) (K3 : ∀ i, i < m → T (tb i) (po i)) (K5 : ∀ b o, T b o → b < w.heap.size) (hT0 : ¬ T g 0) (HNE : ∀ i j, i < m → j < m → i ≠ j → ¬ (tb i = tb j ∧ po i = po j)) (HNG : ∀ i, i < m → tb i ≠ g)
    (hF : CF T w wr) (hD : ∀ j, j < k → ∃ v, wr.cell? ⟨tb j, po j, none⟩ = some v ∧ Ow wr w.heap.size v (rval l a e j)) (hN : ∀ j, k ≤ j → j < m → wr.cell? ⟨tb j, po j, none⟩ = some (.slice none 0 0))
    (hb1 : Below wr.heap.size wr w1) (hI : RC wr g A n c p 0) (ho : Ow w1 wr.heap.size V tx) (hk : k < m) (hV : rval l a e k = tx) :
    RC (((w1.setCell ⟨tb k, po k, none⟩ V).setCell ⟨g, 1, none⟩ (.int .i64 a')).setCell ⟨g, 2, none⟩ (.int .i64 e')) g A n c a' e' ∧
    CF T w (((w1.setCell ⟨tb k, po k, none⟩ V).setCell ⟨g, 1, none⟩ (.int .i64 a')).setCell ⟨g, 2, none⟩ (.int .i64 e')) ∧
    (∀ j, j < k + 1 → ∃ v, (((w1.setCell ⟨tb k, po k, none⟩ V).setCell ⟨g, 1, none⟩ (.int .i64 a')).setCell ⟨g, 2, none⟩ (.int .i64 e')).cell? ⟨tb j, po j, none⟩ = some v ∧ Ow (((w1.setCell ⟨tb k, po k, none⟩ V).setCell ⟨g, 1, none⟩ (.int .i64 a')).setCell ⟨g, 2, none⟩ (.int .i64 e')) w.heap.size v (rval l a e j)) ∧
    (∀ j, k + 1 ≤ j → j < m → (((w1.setCell ⟨tb k, po k, none⟩ V).setCell ⟨g, 1, none⟩ (.int .i64 a')).setCell ⟨g, 2, none⟩ (.int .i64 e')).cell? ⟨tb j, po j, none⟩ = some (.slice none 0 0)) := by
  have nt : ∀ i, i < m → ∀ o, (⟨tb i, po i, none⟩ : Addr) ≠ ⟨g, o, none⟩ := fun i hi o e => by injection e with e1; exact HNG i hi e1
  have hg : ∀ o, ¬ ((fun b o => b = tb k ∧ o = po k) : Nat → Nat → Prop) g o := fun o h => HNG k hk h.1.symm
  have hI1 : RC (w1.setCell ⟨tb k, po k, none⟩ V) g A n c p 0 :=
    (hI.cf (T := fun b o => b = tb k ∧ o = po k) (CF.of_below hb1) (hg 0) (hg 1) (hg 2)).cf (T := fun b o => b = tb k ∧ o = po k) (CF.set _ ⟨rfl, rfl⟩) (hg 0) (hg 1) (hg 2)
  have hsz : w.heap.size ≤ wr.heap.size := hF.size
  have hc1 : CF T wr w1 := CF.of_below hb1
  have hc2 : CF T w1 (((w1.setCell ⟨tb k, po k, none⟩ V).setCell ⟨g, 1, none⟩ (.int .i64 a')).setCell ⟨g, 2, none⟩ (.int .i64 e')) :=
    ((CF.set V (K3 k hk)).trans (CF.set _ (K2 g 1 ⟨rfl, .inl rfl⟩))).trans (CF.set _ (K2 g 2 ⟨rfl, .inr rfl⟩))
  have other : ∀ j, j < m → j ≠ k → (((w1.setCell ⟨tb k, po k, none⟩ V).setCell ⟨g, 1, none⟩ (.int .i64 a')).setCell ⟨g, 2, none⟩ (.int .i64 e')).cell? ⟨tb j, po j, none⟩ = w1.cell? ⟨tb j, po j, none⟩ := fun j hj hjk =>
    (World.cell?_setCell_other _ _ _ _ (nt j hj 2).symm).trans ((World.cell?_setCell_other _ _ _ _ (nt j hj 1).symm).trans (World.cell?_setCell_other _ _ _ _ (fun e => by injection e with e1 e2; exact HNE j k hj hk hjk ⟨e1.symm, e2.symm⟩)))
  refine ⟨RC.step hI1 a' e', (hF.trans hc1).trans hc2, fun j hj => ?_, fun j h1 h2 => ?_⟩
  · by_cases hjk : j = k
    · subst hjk
      have hlt : tb j < wr.heap.size := Nat.lt_of_lt_of_le (K5 _ _ (K3 j hk)) hsz
      obtain ⟨u, hu⟩ : ∃ u, w1.cell? ⟨tb j, po j, none⟩ = some u := ⟨_, pw_cell_below hb1 (hN j (Nat.le_refl _) hk)⟩
      refine ⟨V, (World.cell?_setCell_other _ _ _ _ (nt j hk 2).symm).trans ((World.cell?_setCell_other _ _ _ _ (nt j hk 1).symm).trans (set_cell _ hu)), ?_⟩
      rw [hV]
      exact CF.row (own_base_le ho hsz) hc2 K5
    · obtain ⟨v, h1, h2⟩ := hD j (by omega)
      exact ⟨v, (other j (by omega) hjk).trans (pw_cell_below hb1 h1), CF.row (CF.row h2 hc1 K5) hc2 K5⟩
  · exact (other j h2 (by omega)).trans (pw_cell_below hb1 (hN j (by omega) h2))

set_option maxRecDepth 100000 in
set_option maxHeartbeats 2000000 in
/-- (*reader).text -/
theorem rtext_any (g : Nat) (A : Option Addr) (n c : Nat) (l : List Int) (a e : Int) (m bt : Nat) (tb po : Nat → Nat) (w : World) (hI : RC w g A n c a e) (hG : Classes w) (hGN : 0 ≠ g ∧ ∀ i, i < m → 0 ≠ tb i) (hr : Rd w A n l) (hrN : 0 < n → ∀ ad, A = some ad → ad.block ≠ g ∧ ∀ i, i < m → ad.block ≠ tb i) (hc : n ≤ c) (hn : n ≤ 140737488355328) (hb : AllB l) (ha : e = 0 → 0 ≤ a ∧ a ≤ n)
    (hm : m ≤ 8) (hbg : bt ≠ g) (hbt : ∀ i, i < m → bt ≠ tb i ∧ tb i ≠ g) (hne : ∀ i j, i < m → j < m → i ≠ j → ¬ (tb i = tb j ∧ po i = po j))
    (hv : ∀ i, i < m → w.cell? ⟨bt, i, none⟩ = some (.pointer (some ⟨tb i, po i, none⟩))) (ht : ∀ i, i < m → w.cell? ⟨tb i, po i, none⟩ = some (.slice none 0 0) ∧ w.frozen? ⟨tb i, po i, none⟩ = false) :
    Calls Tryd.prog 35 #[.pointer (some ⟨g, 0, none⟩), .slice (some ⟨bt, 0, none⟩) m m] w fun x w' => x = .returned (.tuple #[]) ∧ RC w' g A n c (rst l a e m).1 (rst l a e m).2 ∧
      (∀ i, i < m → ∃ v, w'.cell? ⟨tb i, po i, none⟩ = some v ∧ Ow w' w.heap.size v (rval l a e i)) ∧ CF (fun b o => TR g b o ∨ ∃ i, i < m ∧ b = tb i ∧ o = po i) w w' := by
  obtain ⟨T, hT⟩ : ∃ T : Nat → Nat → Prop, T = (fun b o => TR g b o ∨ ∃ i, i < m ∧ b = tb i ∧ o = po i) := ⟨_, rfl⟩
  rw [← hT]
  have hTA : 0 < n → ∀ ad, A = some ad → ∀ o, ¬ T ad.block o := fun h0 ad e o h => by
    obtain ⟨h1, h2⟩ := hrN h0 ad e
    rw [hT] at h
    rcases h with ⟨h, _⟩ | ⟨i, hi, h, _⟩
    · exact h1 h
    · exact h2 i hi h
  have hTG : ∀ o, ¬ T 0 o := fun o h => by
    rw [hT] at h
    rcases h with ⟨h, _⟩ | ⟨i, hi, h, _⟩
    · exact hGN.1 h
    · exact hGN.2 i hi h
  have hTg : ∀ b o, TR g b o → T b o := fun b o h => by rw [hT]; exact .inl h
  have hTt : ∀ i, i < m → T (tb i) (po i) := fun i hi => by rw [hT]; exact .inr ⟨i, hi, rfl, rfl⟩
  have hTbt : ∀ o, ¬ T bt o := fun o h => by
    rw [hT] at h
    rcases h with ⟨h, _⟩ | ⟨i, hi, h, _⟩
    · exact hbg h
    · exact (hbt i hi).1 h
  have hT0 : ¬ T g 0 := fun h => by
    rw [hT] at h
    rcases h with ⟨_, h⟩ | ⟨i, hi, h, _⟩
    · omega
    · exact (hbt i hi).2 h.symm
  have hTw : ∀ b o, T b o → b < w.heap.size := fun b o h => by
    rw [hT] at h
    rcases h with ⟨rfl, _⟩ | ⟨i, hi, rfl, _⟩
    · exact hI.lt
    · exact World.block_lt_of_cell? w _ (ht i hi).1
  have hin := rst_in l hb a e (fun h => by have := ha h; have := hr.1; omega)
  have hl := hr.1
  have HI := Lib.hid hI
  have HG := Lib.hid hG
  have HR := Lib.hid hr
  have HB := Lib.hid hb
  have HV := Lib.hid hv
  have HT := Lib.hid ht
  have HNE := Lib.hid hne
  have HBT := Lib.hid hbt
  have HIN := Lib.hid hin
  have K1 := Lib.hid hTA
  have K6 := Lib.hid hTG
  have K2 := Lib.hid hTg
  have K3 := Lib.hid hTt
  have K4 := Lib.hid hTbt
  have K5 := Lib.hid hTw
  have HL := Lib.hid hl
  clear hI hG hr hrN hGN hb hv ht hne hbt hin hTA hTG hTg hTt hTbt hTw hT hl ha
  go_enter Tryd.func35, Tryd.ntmps35
  go_wp2
  go_loopw [8] (fun i wr => ∃ k : Nat, k ≤ m ∧ i = .int .i64 k ∧ Hid (RC wr g A n c (rst l a e k).1 (rst l a e k).2) ∧ Hid (CF T w wr) ∧ Hid (∀ j, j < k → ∃ v, wr.cell? ⟨tb j, po j, none⟩ = some v ∧ Ow wr w.heap.size v (rval l a e j)) ∧
    Hid (∀ j, k ≤ j → j < m → wr.cell? ⟨tb j, po j, none⟩ = some (.slice none 0 0))) (fun i _ => m - (intOf i).toNat)
  case atStart => exact ⟨0, Nat.zero_le _, rfl, HI, Lib.hid (CF.refl _ _), Lib.hid (fun j hj => by omega), Lib.hid (fun j _ hj => (HT.out j hj).1)⟩
  case round =>
    obtain ⟨k, hk, rfl, hI, hF, hD, hN⟩ := hrel
    by_cases hlt : k < m
    · have hce := hF.out.at (K4.out k) (HV.out k hlt)
      have htc := hN.out k (Nat.le_refl _) hlt
      have htf := hF.out.fz (HT.out k hlt).1 (HT.out k hlt).2
      have hR := hI.out
      have hs1 : rst l a e (k + 1) = if (rst l a e k).2 = 0 then (textR l (rst l a e k).1.toNat).2 else rst l a e k := rfl
      have hv1 : rval l a e k = if (rst l a e k).2 = 0 then (textR l (rst l a e k).1.toNat).1 else [] := rfl
      have hin := HIN.out k
      generalize hq : rst l a e k = q at *
      obtain ⟨qa, qe⟩ := q
      by_cases hz : qe = 0
      · subst hz
        obtain ⟨p, rfl⟩ := Int.eq_ofNat_of_zero_le (hin rfl).1
        have hpl : p ≤ n := by have := (hin rfl).2; have := HL.out; omega
        rw [if_pos rfl] at hs1 hv1
        simp only [Int.toNat_natCast] at hs1 hv1
        obtain ⟨c0, c1, c2, f0, f1, f2⟩ := hR
        have hrd := HR.out.cf hF.out K1.out
        have hcl := HG.out.cf hF.out K6.out
        by_cases hb0 : (textR l p).2.2 = 0
        · have HC := Lib.hid (gettext_good A n c l wr.drew hcl hrd hc hn HB.out p hpl hb0)
          obtain ⟨f, t, _, hte, _, _, _⟩ := textR_ok l HB.out p hb0
          rw [hte] at HC hs1 hv1
          generalize (l.drop f).take (t - f) = tx at *
          have HNG : Hid (∀ o, (⟨tb k, po k, none⟩ : Addr) ≠ ⟨g, o, none⟩) := Lib.hid (fun o e => by injection e with e1; exact (HBT.out k hlt).2 e1)
          have HS := Lib.hid hs1
          have HV1 := Lib.hid hv1
          have HW1 := Lib.hid (World.block_lt_of_cell? wr _ htc)
          have HW2 := Lib.hid (World.block_lt_of_cell? wr _ c0)
          clear hs1 hv1 hb0 hin hq hte hrd hcl hpl
          go_wp2_with fail
          go_region_law (go_simp; go_at_call 50; refine HC.out.mono ?_; rintro x w1 ⟨v, rfl, ho, hb1⟩; obtain ⟨A1, q1, rfl⟩ := own_slice ho; have hb1 : Below wr.heap.size wr w1 := (below_drew (Below.refl wr.heap.size wr)).trans hb1; have d1 := pw_cell_below hb1 c1; have d2 := pw_cell_below hb1 c2; have dt := pw_cell_below hb1 htc; have g1 : w1.frozen? ⟨g, 1, none⟩ = false := (hb1.frozen (p := ⟨g, 1, none⟩) HW2.out).trans f1; have g2 : w1.frozen? ⟨g, 2, none⟩ = false := (hb1.frozen (p := ⟨g, 2, none⟩) HW2.out).trans f2; have gt : w1.frozen? ⟨tb k, po k, none⟩ = false := (hb1.frozen (p := ⟨tb k, po k, none⟩) HW1.out).trans htf; have d3 := (World.cell?_setCell_other w1 ⟨tb k, po k, none⟩ ⟨g, 1, none⟩ (.slice A1 tx.length q1) (HNG.out 1)).trans d1; have d4 := (World.cell?_setCell_other w1 ⟨tb k, po k, none⟩ ⟨g, 2, none⟩ (.slice A1 tx.length q1) (HNG.out 2)).trans d2)
          all_goals
            have hst := Lib.hid (rtext_step (a' := (t : Int)) (e' := 0) K2.out K3.out K5.out hT0 HNE.out (fun i hi => (HBT.out i hi).2) hF.out hD.out hN.out hb1 hI.out ho hlt HV1.out)
            clear d1 d2 d3 d4 dt g1 g2 gt
            go_wp2
            go_roundw
            case rel => exact ⟨k + 1, by omega, by go_num, Lib.hid (by rw [HS.out]; exact hst.out.1), Lib.hid hst.out.2.1, Lib.hid hst.out.2.2.1, Lib.hid hst.out.2.2.2⟩
            case measure => simp [intOf]; omega
        · have HC := Lib.hid (gettext_bad A n c l wr.drew hcl hrd hc hn HB.out p hpl hb0)
          have hte : textR l p = ([], 0, (textR l p).2.2) := by
            by_cases hz : (spanR l p).2.2 = 0
            · exact absurd (by unfold textR; rw [if_pos hz]) hb0
            · unfold textR; rw [if_neg hz]
          rw [hte] at hs1 hv1
          generalize (textR l p).2.2 = er at *
          have HNG : Hid (∀ o, (⟨tb k, po k, none⟩ : Addr) ≠ ⟨g, o, none⟩) := Lib.hid (fun o e => by injection e with e1; exact (HBT.out k hlt).2 e1)
          have HS := Lib.hid hs1
          have HV1 := Lib.hid hv1
          have hst := Lib.hid (rtext_step (a' := 0) (e' := er) K2.out K3.out K5.out hT0 HNE.out (fun i hi => (HBT.out i hi).2) hF.out hD.out hN.out (below_drew (Below.refl wr.heap.size wr)) hI.out (own_nil _ _ _ _ : Ow wr.drew wr.heap.size (.slice none 0 0) []) hlt HV1.out)
          have d3 := (World.cell?_setCell_other wr ⟨tb k, po k, none⟩ ⟨g, 1, none⟩ (.slice none 0 0) (HNG.out 1)).trans c1
          have d4 := (World.cell?_setCell_other wr ⟨tb k, po k, none⟩ ⟨g, 2, none⟩ (.slice none 0 0) (HNG.out 2)).trans c2
          clear hs1 hv1 hb0 hin hq hte hrd hcl hpl
          go_wp2_with fail
          go_region_law (go_simp; go_at_call 50; refine HC.out.mono ?_; rintro x w1 ⟨rfl, rfl⟩)
          all_goals
            clear d3 d4
            go_wp2
            go_roundw
            case rel => exact ⟨k + 1, by omega, by go_num, Lib.hid (by rw [HS.out]; exact hst.out.1), Lib.hid hst.out.2.1, Lib.hid hst.out.2.2.1, Lib.hid hst.out.2.2.2⟩
            case measure => simp [intOf]; omega
      · have hb1 : (qe == 0) = false := by rw [beq_eq_false_iff_ne]; exact hz
        rw [if_neg hz] at hs1 hv1
        obtain ⟨c0, c1, c2, f0, f1, f2⟩ := hR
        have HS := Lib.hid hs1
        have HV1 := Lib.hid hv1
        have HZ := Lib.hid hz
        clear hs1 hv1 hin hq hz
        go_wp2
        go_roundw
        case rel =>
          refine ⟨k + 1, by omega, by go_num, Lib.hid (by rw [HS.out]; exact hI.out), hF, Lib.hid (fun j hj => ?_), Lib.hid (fun j h1 h2 => hN.out j (by omega) h2)⟩
          by_cases hjk : j = k
          · subst hjk
            exact ⟨_, htc, by rw [HV1.out]; exact own_nil _ _ _ _⟩
          · exact hD.out j (by omega)
        case measure => simp [intOf]; omega
    · obtain rfl : k = m := by omega
      go_wp2
      go_end0
      exact ⟨rfl, hI.out, hD.out, hF.out⟩
end Go.Proofs.YtcfbmglhikjahaaDoor
