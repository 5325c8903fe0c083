/- package frame: Put. -/
import Derived.Test.YtcfbmglhikjahaaDoorPut
set_option linter.unusedVariables false
set_option linter.unusedSimpArgs false
namespace Go.Proofs.YtcfbmglhikjahaaDoor
open Go.RowKit Go.Proofs.YtcfbmglhikjahaaDoorW.PrintWords

/-- a message's bytes -/
def messageB (l : List Int) (ep fr kd : Int) (b s k t : List Int) : List Int := TB (contentB l ep fr kd b) ++ TB s ++ TB k ++ TB t
theorem messageOk_iff {n : Nat} {ep fr kd : Int} {m s k t : Nat} : messageOk n ep fr kd m s k t = true ↔ contentOk n ep fr kd m = true ∧ s = 3309 ∧ (k = 0 ∨ k = 32) ∧ (t = 0 ∨ t = 32) := by
  unfold messageOk tagOk
  simp only [Bool.and_eq_true, decide_eq_true_eq]
theorem contentB_length (l : List Int) (ep fr kd : Int) (b : List Int) (hl : l.length ≤ 32) (hb : b.length ≤ 30000) : (contentB l ep fr kd b).length ≤ 40000 := by
  have h1 : (TB l).length ≤ 36 := by unfold TB; rw [List.length_append, lenB_length]; unfold lenN; split <;> (try split) <;> omega
  have h2 : (TB b).length ≤ 30004 := by unfold TB; rw [List.length_append, lenB_length]; unfold lenN; split <;> (try split) <;> omega
  simp only [contentB, placeB, List.length_append, beB_length]
  omega

set_option maxRecDepth 100000 in
set_option maxHeartbeats 1000000 in
/-- frame.Put of what is no message -/
theorem put_bad (A B S C M : Option Addr) (n m s k t : Nat) (c d sc kc tc : Nat) (ep fr kd : Int) (w : World) (hok : messageOk n ep fr kd m s k t = false) :
    Calls Tryd.prog 29 #[.agg #[.slice A n c, .int .i64 ep, .int .i64 fr, .int .i64 kd, .slice B m d, .slice S s sc, .slice C k kc, .slice M t tc]] w fun e w' => e = .returned (.tuple #[.slice none 0 0, .int .i64 181]) ∧ Below w.heap.size w w' := by
  have HR := Lib.hid (fun W => rightm_any A B S C M n m s k t c d sc kc tc ep fr kd W)
  rw [hok] at HR
  clear hok
  go_enter Tryd.func29, Tryd.ntmps29
  go_wp2_with (go_at_call 39; refine (HR.out _).mono ?_; rintro e w1 ⟨rfl, hb1⟩)
  go_ret2
  exact ⟨rfl, box_one hb1⟩

set_option maxRecDepth 100000 in
set_option maxHeartbeats 2000000 in
/-- frame.Put -/
theorem put_good (A B S C M : Option Addr) (n m s k t : Nat) (c d sc kc tc : Nat) (l b sg kf mb : List Int) (ep fr kd : Int) (w : World) (hG : Classes w) (hr : Rd w A n l) (hrb : Rd w B m b) (hrs : Rd w S s sg) (hrk : Rd w C k kf) (hrm : Rd w M t mb)
    (hok : messageOk n ep fr kd m s k t = true) :
    Calls Tryd.prog 29 #[.agg #[.slice A n c, .int .i64 ep, .int .i64 fr, .int .i64 kd, .slice B m d, .slice S s sc, .slice C k kc, .slice M t tc]] w fun e w' => ∃ v, e = .returned (.tuple #[v, .int .i64 0]) ∧ Ow w' w.heap.size v (messageB l ep fr kd b sg kf mb) ∧ Below w.heap.size w w' := by
  have HR := Lib.hid (fun W => rightm_any A B S C M n m s k t c d sc kc tc ep fr kd W)
  rw [hok] at HR
  obtain ⟨hcok, hs, hk, ht⟩ := messageOk_iff.1 hok
  obtain ⟨⟨n0, n1, _⟩, _, _, m1⟩ := contentOk_iff.1 hcok
  have hGlt := World.block_lt_of_cell? w _ hG.1
  have HOK := Lib.hid hcok
  have HG := Lib.hid hG
  have HA := Lib.hid hr
  have HB := Lib.hid hrb
  have HS := Lib.hid (RdB.of hrs)
  have HK := Lib.hid (RdB.of hrk)
  have HM := Lib.hid (RdB.of hrm)
  have hcl := contentB_length l ep fr kd b (by have := hr.1; omega) (by have := hrb.1; omega)
  have HE := Lib.hid (show messageB l ep fr kd b sg kf mb = TB (contentB l ep fr kd b) ++ TB sg ++ TB kf ++ TB mb from rfl)
  have hkt : k ≤ 32 ∧ t ≤ 32 ∧ s ≤ 3309 := by omega
  obtain ⟨hk32, ht32, hs33⟩ := hkt
  clear hok hcok hG hr hrb hrs hrk hrm hs hk ht
  go_enter Tryd.func29, Tryd.ntmps29
  go_wp2_with fail
  refine (HR.out _).mono ?_
  rintro e w1 ⟨rfl, hb1⟩
  have hbx1 : w1.heap[w.heap.size]? = some (.cells #[.slice A n c, .int .i64 ep, .int .i64 fr, .int .i64 kd, .slice B m d, .slice S s sc, .slice C k kc, .slice M t tc] 49 (0, 0)) := (hb1.block _ (by simp)).trans (heap_alloc_new w _)
  have hs1 : w.heap.size < w1.heap.size := by have := hb1.size; simp at this; omega
  have HB1 := Lib.hid (box_one hb1)
  have HX1 := Lib.hid hbx1
  have hc0 := (cell_block hbx1 0 _ rfl).1
  have hc1 := (cell_block hbx1 1 _ rfl).1
  have hc2 := (cell_block hbx1 2 _ rfl).1
  have hc3 := (cell_block hbx1 3 _ rfl).1
  have hc4 := (cell_block hbx1 4 _ rfl).1
  clear hb1 hbx1
  go_wp2_with fail
  refine (bytes_good A B n c m d l b ep fr kd _ (HG.out.keep HB1.out) (HA.out.keep HB1.out) (HB.out.keep HB1.out) HOK.out).mono ?_
  rintro e w2 ⟨vc, rfl, hoc, hb2⟩
  obtain ⟨AC, qc, rfl, hrc⟩ := own_reads hoc
  generalize contentB l ep fr kd b = cb at *
  have hs2 : w1.heap.size ≤ w2.heap.size := hb2.size
  have hbx2 := (hb2.block _ hs1).trans HX1.out
  have hB2 : Below w.heap.size w w2 := HB1.out.trans (hb2.mono (Nat.le_of_lt hs1))
  -- the writer and the variadic's row
  obtain ⟨W3, hW3⟩ : ∃ W3, W3 = (w2.alloc (.cells #[.slice none 0 0] 86)).alloc (.cells #[.slice AC cb.length qc, .slice S s sc, .slice C k kc, .slice M t tc] 23) := ⟨_, rfl⟩
  have hb3 : Below w2.heap.size w2 W3 := by rw [hW3]; exact (below_box _ _).trans ((below_box _ _).mono (by simp))
  have hI3 : IsW W3 w2.heap.size [] := by rw [hW3]; exact (IsW.new w2).keep (below_box _ _)
  have hlt3 : W3.heap[w2.heap.size + 1]? = some (.cells #[.slice AC cb.length qc, .slice S s sc, .slice C k kc, .slice M t tc] 23 (0, 0)) := by
    rw [hW3]; have := heap_alloc_new (w2.alloc (.cells #[.slice none 0 0] 86)) (.cells #[.slice AC cb.length qc, .slice S s sc, .slice C k kc, .slice M t tc] 23); rwa [World.size_alloc] at this
  have hB3 : Below w.heap.size w W3 := hB2.trans (hb3.mono hB2.size)
  have hbx3 := (hb3.block _ (by omega)).trans hbx2
  have h0 : RdB w2.heap.size W3 AC cb.length cb := (RdB.of hrc).keep hb3
  have h1 : RdB w2.heap.size W3 S s sg := (HS.out.keep hB3).mono hB2.size
  have h2 : RdB w2.heap.size W3 C k kf := (HK.out.keep hB3).mono hB2.size
  have h3 : RdB w2.heap.size W3 M t mb := (HM.out.keep hB3).mono hB2.size
  have HT := Lib.hid (wtext_any w2.heap.size [] 4 (w2.heap.size + 1) (fun i => match i with | 0 => AC | 1 => S | 2 => C | _ => M) (fun i => match i with | 0 => cb.length | 1 => s | 2 => k | _ => t)
    (fun i => match i with | 0 => qc | 1 => sc | 2 => kc | _ => tc) (fun i => match i with | 0 => cb | 1 => sg | 2 => kf | _ => mb) W3 hI3 (HG.out.keep hB3) (by omega) (by simp) (by omega)
    #[.slice AC cb.length qc, .slice S s sc, .slice C k kc, .slice M t tc] hlt3
    (fun i hi => by match i, hi with | 0, _ => rfl | 1, _ => rfl | 2, _ => rfl | 3, _ => rfl)
    (fun i hi => by match i, hi with | 0, _ => exact h0 | 1, _ => exact h1 | 2, _ => exact h2 | 3, _ => exact h3)
    (fun i hi => by match i, hi with | 0, _ => exact (show cb.length ≤ 1048576 by omega) | 1, _ => exact (show s ≤ 1048576 by omega) | 2, _ => exact (show k ≤ 1048576 by omega) | 3, _ => exact (show t ≤ 1048576 by omega)))
  have hc5 := (cell_block hbx3 5 _ rfl).1
  have hc6 := (cell_block hbx3 6 _ rfl).1
  have hc7 := (cell_block hbx3 7 _ rfl).1
  have hbx2' := ((below_box w2 (.cells #[.slice none 0 0] 86)).block _ (Nat.lt_of_lt_of_le hs1 hs2)).trans hbx2
  have hd5 := (cell_block hbx2' 5 _ rfl).1
  have hd6 := (cell_block hbx2' 6 _ rfl).1
  have hd7 := (cell_block hbx2' 7 _ rfl).1
  have HB3 := Lib.hid hB3
  rw [hW3] at HT HB3
  clear hc5 hc6 hc7 hbx3 hbx2' hbx2 h0 h1 h2 h3 hB3 hlt3 hI3 hb3 hW3 hB2 hrc hoc hb2 hc0 hc1 hc2 hc3 hc4
  go_wp2_with fail
  refine HT.out.mono ?_
  rintro e w7 ⟨rfl, hI7, hF7⟩
  obtain ⟨v, hc7, _, ho7, _⟩ := hI7.cells
  have HF7 := Lib.hid hF7
  have HO7 := Lib.hid ho7
  clear hI7 hF7 ho7
  go_wp2_with fail
  go_ret2
  refine ⟨_, rfl, ?_, ?_⟩
  · rw [HE.out]
    have := HO7.out
    simp only [TBs, List.nil_append] at this
    exact own_base_le this (by omega)
  · exact HB3.out.trans (HF7.out.below.mono (by omega))
end Go.Proofs.YtcfbmglhikjahaaDoor
