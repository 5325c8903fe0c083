/- package frame's writer. -/
import Derived.Test.YtcfbmglhikjahaaDoorText
set_option linter.unusedVariables false
set_option linter.unusedSimpArgs false
namespace Go.Proofs.YtcfbmglhikjahaaDoor
open Go.RowKit Go.Proofs.YtcfbmglhikjahaaDoorW.PrintWords

/-- block g is a writer that has written xs -/
def IsW (W : World) (g : Nat) (xs : List Int) : Prop := ∃ v, W.heap[g]? = some (.cells #[v] 86 (0, 0)) ∧ Ow W (g + 1) v xs
theorem cell_block {W : World} {g : Nat} {cs : Array Value} {t : TypeId} (h : W.heap[g]? = some (.cells cs t (0, 0))) (i : Nat) (x : Value) (hi : cs[i]? = some x) : W.cell? ⟨g, i, none⟩ = some x ∧ W.frozen? ⟨g, i, none⟩ = false := by
  constructor
  · simp [World.cell?, h, hi]
  · simp [World.frozen?, h]
theorem IsW.cells {W : World} {g : Nat} {xs : List Int} (h : IsW W g xs) : ∃ v, W.cell? ⟨g, 0, none⟩ = some v ∧ W.frozen? ⟨g, 0, none⟩ = false ∧ Ow W (g + 1) v xs ∧ g < W.heap.size ∧ W.heap[g]? = some (.cells #[v] 86 (0, 0)) := by
  obtain ⟨v, h1, h2⟩ := h
  obtain ⟨h3, h4⟩ := cell_block h1 0 v rfl
  exact ⟨v, h3, h4, h2, (Array.getElem?_eq_some_iff.1 h1).1, h1⟩
theorem IsW.keep {W W' : World} {g : Nat} {xs : List Int} (h : IsW W g xs) (hb : Below W.heap.size W W') : IsW W' g xs := by
  obtain ⟨v, h1, h2⟩ := h
  exact ⟨v, (hb.block g (Array.getElem?_eq_some_iff.1 h1).1).trans h1, pw_own_below h2 hb⟩
/-- the cell of the writer takes a new value -/
theorem IsW.put {W : World} {g : Nat} {v v' : Value} {xs : List Int} (hg : W.heap[g]? = some (.cells #[v] 86 (0, 0))) (ho : Ow W (g + 1) v' xs) : IsW (W.setCell ⟨g, 0, none⟩ v') g xs := by
  refine ⟨v', ?_, ?_⟩
  · simp [World.setCell, Array.getElem?_modify, hg]
  · refine World.ownsRow.kept ho (row := some g) ⟨rfl, rfl, rfl, by simp [World.setCell], fun k _ hk => ?_⟩ ?_
    · have : g ≠ k := fun e => hk (by rw [e])
      simp [World.setCell, Array.getElem?_modify, this]
    · cases hv : v'.ownBlock with
      | none => exact .inl rfl
      | some k => exact .inr (fun e => by have := own_base ho k hv; injection e with e; omega)
theorem below_put {B g : Nat} {W : World} (v' : Value) (hg : B ≤ g) : Below B W (W.setCell ⟨g, 0, none⟩ v') := (Below.refl _ _).setCell (by simpa using hg) _
/-- behind an append onto the writer's row -/
theorem IsW.appended {W W1 : World} {g : Nat} {v : Value} (hgr : W.grownBy W1 v.ownBlock) (hb : ∀ k, v.ownBlock = some k → g + 1 ≤ k) (hg : W.heap[g]? = some (.cells #[v] 86 (0, 0))) :
    W1.heap[g]? = some (.cells #[v] 86 (0, 0)) ∧ Below g W W1 ∧ W1.cell? ⟨g, 0, none⟩ = some v ∧ W1.frozen? ⟨g, 0, none⟩ = false := by
  have hlt := (Array.getElem?_eq_some_iff.1 hg).1
  have h1 : W1.heap[g]? = some (.cells #[v] 86 (0, 0)) := (hgr.block g hlt (fun e => by have := hb g e.symm; omega)).trans hg
  obtain ⟨h3, h4⟩ := cell_block h1 0 v rfl
  exact ⟨h1, ⟨hgr.os, hgr.tape, hgr.output, hgr.size, fun k hk => hgr.block k (by omega) (fun e => by have := hb k e.symm; omega)⟩, h3, h4⟩

/-- what a writer's method leaves as it was: all below the writer's block, and whatever other block is no row of bytes -/
structure WFr (g : Nat) (w w' : World) : Prop where
  below : Below g w w'
  keep : ∀ (k : Nat) (cs : Array Value) (t : TypeId) (fr : Nat × Nat), k ≠ g → t ≠ 5 → w.heap[k]? = some (.cells cs t fr) → w'.heap[k]? = some (.cells cs t fr)
theorem WFr.refl (g : Nat) (w : World) : WFr g w w := ⟨Below.refl _ _, fun _ _ _ _ _ _ h => h⟩
theorem WFr.trans {g : Nat} {w w1 w2 : World} (h : WFr g w w1) (k : WFr g w1 w2) : WFr g w w2 := ⟨h.below.trans k.below, fun b cs t fr h1 h2 h3 => k.keep b cs t fr h1 h2 (h.keep b cs t fr h1 h2 h3)⟩
theorem WFr.of_below {g : Nat} {w w1 : World} (h : Below w.heap.size w w1) (hg : g ≤ w.heap.size) : WFr g w w1 := ⟨h.mono hg, fun b cs t fr _ _ h3 => (h.block b (Array.getElem?_eq_some_iff.1 h3).1).trans h3⟩
theorem WFr.appended {w1 w2 : World} {g n : Nat} {v : Value} {ys : List Value} (ho1 : w1.ownsRow (g + 1) 5 1 v n ys) (hg2 : w1.grownBy w2 v.ownBlock) (hb : Below g w1 w2) : WFr g w1 w2 :=
  ⟨hb, fun k cs t fr _ ht h => by
    refine (hg2.block k (Array.getElem?_eq_some_iff.1 h).1 (fun e => ?_)).trans h
    rcases ho1.2 with ⟨rfl, _⟩ | ⟨q, cap, cur, rfl, _, hh, _⟩
    · simp [Value.ownBlock] at e
    · have : k = q := by simpa [Value.ownBlock] using e
      subst this
      rw [h] at hh
      injection hh with hh
      injection hh with _ hte
      exact ht hte⟩
theorem WFr.put (g : Nat) (w : World) (v' : Value) : WFr g w (w.setCell ⟨g, 0, none⟩ v') :=
  ⟨below_put _ (Nat.le_refl _), fun k cs t fr hk _ h => by simp [World.setCell, Array.getElem?_modify, (Ne.symm hk), h]⟩

set_option maxRecDepth 100000 in
set_option maxHeartbeats 1000000 in
/-- (*writer).number -/
theorem wnumber_any (g : Nat) (xs : List Int) (n : Int) (s : Nat) (hs : s = 1 ∨ s = 2 ∨ s = 4 ∨ s = 8) (h0 : 0 ≤ n) (h1 : s < 8 → n < 256 ^ s) (h2 : n ≤ 9223372036854775807) (w : World) (hI : IsW w g xs) (hx : xs.length ≤ 1099511627776) :
    Calls Tryd.prog 60 #[.pointer (some ⟨g, 0, none⟩), .int .i64 n, .int .i64 s] w fun e w' => e = .returned (.tuple #[]) ∧ IsW w' g (xs ++ beB s n) ∧ WFr g w w' := by
  obtain ⟨v, hc, hf, ho, hlt, hg⟩ := hI.cells
  have HN := Lib.hid (fun W => number_any n s hs h0 h1 h2 W)
  have HO := Lib.hid ho
  have HG := Lib.hid hg
  clear hI ho hg h0 h1 h2
  go_enter Tryd.func60, Tryd.ntmps60
  go_wp2_with fail
  go_region_law (first | (refine step_append_row (g + 1) rfl _ _ 23 5 .u8 1 rfl Tryd.underlying23 info_u8 (by omega) v xs (beB s n) _ _ _ rfl rfl ho1 hr1 (by have := hb1.size; omega) (by omega) ?_; intro v2 w2 hown hg2 _; obtain ⟨A2, q2, rfl⟩ := own_slice hown; have hx2 := Lib.hid (IsW.appended hg2 (own_base ho1) hg1.out); have hc2 := hx2.out.2.2.1; have hf2 := hx2.out.2.2.2) | (go_simp; go_at_call 71; refine (HN.out _).mono ?_; rintro e w1 ⟨v1, rfl, ho1', hb1⟩; have hb1 : Below w.heap.size w w1 := (below_drew (Below.refl w.heap.size w)).trans hb1; have hc1 := pw_cell_below hb1 hc; have ho1 := pw_own_below HO.out hb1; obtain ⟨A1, q1, rfl, hr1⟩ := own_reads ho1'; have hg1 := Lib.hid ((hb1.block g hlt).trans HG.out)))
  all_goals
    go_end0
    exact ⟨rfl, IsW.put hx2.out.1 (by simpa [Ow] using hown), ((WFr.of_below hb1 (Nat.le_of_lt hlt)).trans (WFr.appended ho1 hg2 hx2.out.2.1)).trans (WFr.put _ _ _)⟩

/-- bytes that lie below block g -/
def RdB (g : Nat) (w : World) (A : Option Addr) (n : Nat) (l : List Int) : Prop := Rd w A n l ∧ (0 < n → ∀ ad, A = some ad → ad.block < g)
theorem RdB.keep {g : Nat} {w w' : World} {A : Option Addr} {n : Nat} {l : List Int} (h : RdB g w A n l) (hb : Below g w w') : RdB g w' A n l :=
  ⟨⟨h.1.1, h.1.2.1, fun hn => by
    obtain ⟨ad, e, hc⟩ := h.1.2.2 hn
    refine ⟨ad, e, fun j hj => (hb.cell ?_).trans (hc j hj)⟩
    have := h.2 hn ad e
    unfold Addr.add
    split <;> exact this⟩, h.2⟩
theorem RdB.of {w : World} {A : Option Addr} {n : Nat} {l : List Int} (h : Rd w A n l) : RdB w.heap.size w A n l :=
  ⟨h, fun hn ad e => by
    obtain ⟨ad', e', hc⟩ := h.2.2 hn
    rw [e] at e'
    injection e' with e'
    subst e'
    have := World.block_lt_of_cell? w _ (hc 0 hn)
    unfold Addr.add at this
    split at this <;> exact this⟩
theorem RdB.mono {g g' : Nat} {w : World} {A : Option Addr} {n : Nat} {l : List Int} (h : RdB g w A n l) (hg : g ≤ g') : RdB g' w A n l := ⟨h.1, fun hn ad e => Nat.lt_of_lt_of_le (h.2 hn ad e) hg⟩
theorem RdB.nil (g : Nat) (w : World) (A : Option Addr) : RdB g w A 0 [] := ⟨Rd.nil w A, fun h => absurd h (by omega)⟩
theorem Classes.keepB {g : Nat} {w w' : World} (h : Classes w) (hg : 0 < g) (hb : Below g w w') : Classes w' :=
  ⟨(hb.cell (p := ⟨0, 0, none⟩) hg).trans h.1, (hb.cell (p := ⟨0, 1, none⟩) hg).trans h.2.1, (hb.cell (p := ⟨0, 2, none⟩) hg).trans h.2.2⟩

/-- a text's bytes, its length ahead -/
def TB (l : List Int) : List Int := lenB l.length ++ l
def TBs (l : Nat → List Int) : Nat → List Int
  | 0 => []
  | k + 1 => TBs l k ++ TB (l k)
theorem TB_length_le (l : List Int) (h : l.length ≤ 1048576) : (TB l).length ≤ 1048580 := by
  unfold TB; rw [List.length_append, lenB_length]; unfold lenN; split <;> (try split) <;> omega
theorem TBs_length (l : Nat → List Int) (m : Nat) (h : ∀ i, i < m → (l i).length ≤ 1048576) : ∀ k, k ≤ m → (TBs l k).length ≤ k * 1048580 := by
  intro k
  induction k with
  | zero => intro _; simp [TBs]
  | succ k ih =>
    intro hk
    have h1 := ih (by omega)
    have h2 := TB_length_le (l k) (h k (by omega))
    simp only [TBs, List.length_append]
    omega

set_option maxRecDepth 100000 in
set_option maxHeartbeats 1000000 in
/-- (*writer).text -/
theorem wtext_any (g : Nat) (xs : List Int) (m bt : Nat) (A : Nat → Option Addr) (n c : Nat → Nat) (l : Nat → List Int) (w : World) (hI : IsW w g xs) (hG : Classes w) (hGg : 0 < g) (hx : xs.length ≤ 1048576000) (hm : m ≤ 8)
    (vs : Array Value) (hbt : w.heap[bt]? = some (.cells vs 23 (0, 0))) (hvs : ∀ i, i < m → vs[i]? = some (.slice (A i) (n i) (c i))) (hrd : ∀ i, i < m → RdB g w (A i) (n i) (l i)) (hn : ∀ i, i < m → n i ≤ 1048576) :
    Calls Tryd.prog 45 #[.pointer (some ⟨g, 0, none⟩), .slice (some ⟨bt, 0, none⟩) m m] w fun e w' => e = .returned (.tuple #[]) ∧ IsW w' g (xs ++ TBs l m) ∧ WFr g w w' := by
  have HBT := Lib.hid hbt
  have HV := Lib.hid hvs
  have HR := Lib.hid hrd
  have HNN := Lib.hid hn
  have HI := Lib.hid hI
  have HG := Lib.hid hG
  clear hbt hvs hrd hn hI hG
  go_enter Tryd.func45, Tryd.ntmps45
  go_wp2
  go_loopw [10] (fun i wr => ∃ k : Nat, k ≤ m ∧ i = .int .i64 k ∧ Hid (IsW wr g (xs ++ TBs l k)) ∧ Hid (wr.heap[bt]? = some (.cells vs 23 (0, 0))) ∧ Hid (WFr g w wr)) (fun i _ => m - (intOf i).toNat)
  case atStart => exact ⟨0, Nat.zero_le _, rfl, Lib.hid (by simpa [TBs] using HI.out), HBT, Lib.hid (WFr.refl _ _)⟩
  case round =>
    obtain ⟨k, hk, rfl, hI, hbt, hB⟩ := hrel
    by_cases hlt : k < m
    · have hce := (cell_block hbt.out k _ (HV.out k hlt)).1
      have hrk := Lib.hid ((HR.out k hlt).keep hB.out.below)
      have hnk := HNN.out k hlt
      have hlk := Lib.hid (hrk.out.1.1)
      obtain ⟨v, hc, hf, ho, hgl, hg⟩ := hI.out.cells
      have HO := Lib.hid ho
      have HGG := Lib.hid hg
      have hbg : bt ≠ g := fun e => by
        have h1 := hbt.out
        rw [e, hg] at h1
        injection h1 with h1
        injection h1 with _ ht
        exact absurd ht (by decide)
      have hlen : (xs ++ TBs l k).length ≤ 1048576000 + k * 1048580 := by
        have := TBs_length l m (fun i hi => by have := (HR.out i hi).1.1; have := HNN.out i hi; omega) k hk
        rw [List.length_append]; omega
      clear ho hg
      generalize hys : xs ++ TBs l k = ys at *
      have Hys := Lib.hid hys
      clear hys
      obtain ⟨tb, htb⟩ : ∃ tb, tb = TB (l k) := ⟨_, rfl⟩
      have hts : TBs l (k + 1) = TBs l k ++ TB (l k) := rfl
      have Htb := Lib.hid htb
      have htl : tb.length ≤ 1048580 := by rw [htb]; exact TB_length_le _ (by have := hlk.out; omega)
      clear htb
      go_wp2_with (first | (go_at_call 61; refine (text_any _ _ _ _ _ (HG.out.keepB hGg hB.out.below) hrk.out.1 hnk).mono ?_; rintro e w1 ⟨v1, rfl, ho1', hb1⟩; have hc1 := pw_cell_below hb1 hc; have ho1 := Lib.hid (pw_own_below HO.out hb1); have hg1 := Lib.hid ((hb1.block g hgl).trans HGG.out); replace ho1' : Ow w1 wr.heap.size v1 tb := by { have ht := Htb.out; unfold TB at ht; rw [ht]; first | exact ho1' | (rw [hlk.out]; exact ho1') }; obtain ⟨A1, q1, rfl, hr1'⟩ := own_reads ho1'; have hr1 := Lib.hid hr1'; clear hr1' ho1') | (at_builtin; refine print_append_row (w0 := w1) (g + 1) rfl _ _ 23 5 .u8 1 rfl Tryd.underlying23 info_u8 (by omega) v ys tb _ _ _ rfl rfl ho1.out hr1.out (Below.refl _ _) (by have := hb1.size; omega) (by omega) ?_; intro v2 w2 hown _ hg2 _; obtain ⟨A2, q2, rfl⟩ := own_slice hown; have hx2 := Lib.hid (IsW.appended hg2 (own_base ho1.out) hg1.out); have hc2 := hx2.out.2.2.1; have hf2 := hx2.out.2.2.2; have HOW := Lib.hid hown; clear hown))
      have HF := ((WFr.of_below hb1 (Nat.le_of_lt hgl)).trans (WFr.appended ho1.out hg2 hx2.out.2.1)).trans (WFr.put g w2 (.slice A2 (ys.length + tb.length) q2))
      go_roundw
      case rel => exact ⟨k + 1, by omega, by go_num, Lib.hid (by rw [hts, ← Htb.out, ← List.append_assoc, Hys.out]; exact IsW.put hx2.out.1 (by simpa [Ow] using HOW.out)), Lib.hid (HF.keep bt vs _ _ hbg (by decide) hbt.out), Lib.hid (hB.out.trans HF)⟩
      case measure => simp [intOf]; omega
    · obtain rfl : k = m := by omega
      go_wp2
      go_end0
      exact ⟨rfl, hI.out, hB.out⟩
end Go.Proofs.YtcfbmglhikjahaaDoor
