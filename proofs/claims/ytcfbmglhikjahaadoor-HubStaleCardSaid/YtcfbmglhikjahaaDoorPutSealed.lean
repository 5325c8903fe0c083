/- package frame: Ahead, PutSealed. -/
import Derived.Test.YtcfbmglhikjahaaDoorSealed
import Derived.Test.YtcfbmglhikjahaaDoorBlocks
set_option linter.unusedVariables false
set_option linter.unusedSimpArgs false
namespace Go.Proofs.YtcfbmglhikjahaaDoor
open Go.RowKit Go.Proofs.YtcfbmglhikjahaaDoorW.PrintWords

set_option maxRecDepth 100000 in
set_option maxHeartbeats 1000000 in
/-- (*writer).text of one text, whatever block the row lies in -/
theorem wtext1 (g bt B : Nat) (v : Value) (xs : List Int) (A : Option Addr) (n c : Nat) (l : List Int) (w : World) (hg : w.heap[g]? = some (.cells #[v] 86 (0, 0))) (ho : Ow w B v xs) (hB : B ≤ w.heap.size) (hG : Classes w)
    (hx : xs.length ≤ 1000000) (hbt : w.heap[bt]? = some (.cells #[.slice A n c] 23 (0, 0))) (hr : Rd w A n l) (hn : n ≤ 1048576) :
    Calls Tryd.prog 45 #[.pointer (some ⟨g, 0, none⟩), .slice (some ⟨bt, 0, none⟩) 1 1] w fun e w' => e = .returned (.tuple #[]) ∧
      ∃ v', w'.heap[g]? = some (.cells #[v'] 86 (0, 0)) ∧ Ow w' B v' (xs ++ TB l) ∧ BF (fun b => b = g ∨ v.ownBlock = some b) w w' := by
  have HB := Lib.hid hbt
  have HG := Lib.hid hG
  have HR := Lib.hid hr
  have HO := Lib.hid ho
  have HH := Lib.hid hg
  have hgl : g < w.heap.size := (Array.getElem?_eq_some_iff.1 hg).1
  have hl := hr.1
  have htb : TB l = lenB n ++ l := by unfold TB; rw [hl]
  have htl : (TB l).length ≤ 1048580 := TB_length_le _ (by omega)
  obtain ⟨tb, htbe⟩ : ∃ tb, tb = TB l := ⟨_, rfl⟩
  rw [← htbe] at htb htl
  rw [← htbe]
  clear hbt hG hr ho hg hl htbe
  go_enter Tryd.func45, Tryd.ntmps45
  go_wp2
  go_loopw [10] (fun i wr => (i = .int .i64 0 ∧ wr = w) ∨ (i = .int .i64 1 ∧ ∃ v', Hid (wr.heap[g]? = some (.cells #[v'] 86 (0, 0))) ∧ Hid (Ow wr B v' (xs ++ tb)) ∧ Hid (BF (fun b => b = g ∨ v.ownBlock = some b) w wr))) (fun i _ => 1 - (intOf i).toNat)
  case atStart => exact .inl ⟨rfl, rfl⟩
  case round =>
    rcases hrel with ⟨rfl, rfl⟩ | ⟨rfl, v', h1, h2, h3⟩
    · have hce := (cell_block HB.out 0 _ rfl).1
      have hcg := cell_block HH.out 0 _ rfl
      obtain ⟨hc, hf⟩ := hcg
      go_wp2_with fail
      refine (text_any A n c l wr HG.out HR.out hn).mono ?_
      rintro e w1 ⟨v1, rfl, ho1, hb1⟩
      rw [← htb] at ho1
      have hh1 := (hb1.block g hgl).trans HH.out
      have hc1 := (cell_block hh1 0 _ rfl).1
      have hO1 := pw_own_below HO.out hb1
      obtain ⟨A1, q1, rfl, hr1⟩ := own_reads ho1
      obtain ⟨Av, qv, rfl⟩ := own_slice hO1
      have HH1 := Lib.hid hh1
      have HO1 := Lib.hid hO1
      have HR1 := Lib.hid hr1
      clear hh1 hO1 hr1 ho1 htb
      go_wp2_with (at_builtin; refine print_append_row (w0 := w1) B rfl _ _ 23 5 .u8 1 rfl Tryd.underlying23 info_u8 (by omega) (.slice Av xs.length qv) xs tb _ _ _ rfl rfl HO1.out HR1.out (Below.refl _ _) (by have := hb1.size; omega) (by omega) ?_; intro v2 w2 hown _ hg2 _; obtain ⟨A2, q2, rfl⟩ := own_slice hown; have hh2 := Lib.hid ((hg2.block g (Nat.lt_of_lt_of_le hgl hb1.size) (fun e => row_ne HO1.out HH1.out (by decide) e.symm)).trans HH1.out); have hc2 := (cell_block hh2.out 0 _ rfl).1; have hf2 := (cell_block hh2.out 0 _ rfl).2)
      have hG2 : BF (fun b => Value.ownBlock (.slice Av xs.length qv) = some b) w1 w2 := (BF.refl _ _).grown hg2 (fun _ e _ => e)
      have hF : BF (fun b => b = g ∨ Value.ownBlock (.slice Av xs.length qv) = some b) wr w2 := (BF.of_below hb1).over hG2 (fun b _ e => .inr e)
      have hS : BF (fun b => b = g) w2 (w2.setCell ⟨g, 0, none⟩ (.slice A2 (xs.length + tb.length) q2)) := (BF.refl _ _).set g 0 _ (fun _ => rfl)
      have hown' : Ow w2 B (.slice A2 (xs.length + tb.length) q2) (xs ++ tb) := by simpa [Ow] using hown
      go_roundw
      case rel => exact .inr ⟨rfl, .slice A2 (xs.length + tb.length) q2, Lib.hid (set_block hh2.out 0 _), Lib.hid (hS.row hown' (fun b e k => row_ne hown' hh2.out (by decide) (k ▸ e))), Lib.hid (hF.over hS (fun b _ e => .inl e))⟩
      case measure => simp [intOf]
    · go_wp2
      go_end0
      exact ⟨rfl, v', h1.out, h2.out, h3.out⟩
set_option maxRecDepth 100000 in
set_option maxHeartbeats 2000000 in
/-- frame.Ahead -/
theorem ahead_good (A B : Option Addr) (n c m d : Nat) (l : List Int) (ep fr gn : Int) (w : World) (hG : Classes w) (hr : Rd w A n l) (hok : sealedOk n ep fr gn m = true) :
    Calls Tryd.prog 49 #[.agg #[.slice A n c, .int .i64 ep, .int .i64 fr, .int .i64 gn, .slice B m d]] w fun e w' => ∃ v, e = .returned v ∧ Ow w' w.heap.size v (aheadB l ep fr gn) ∧ Below w.heap.size w w' := by
  have HR := Lib.hid (fun W => rsealed_any A B n c m d ep fr gn W)
  rw [hok] at HR
  have HO := Lib.hid (fun W => where_any A B n c m d ep fr gn W)
  obtain ⟨⟨n0, n1, e0, e1, f0, f1⟩, k0, k1, m1⟩ := sealedOk_iff.1 hok
  have hGlt := World.block_lt_of_cell? w _ hG.1
  have HG := Lib.hid hG
  have HA := Lib.hid (RdB.of hr)
  clear hok hG hr
  go_enter Tryd.func49, Tryd.ntmps49
  go_wp2_with fail
  refine (HR.out _).mono ?_
  rintro e w1 ⟨rfl, hb1⟩
  have hbx1 : w1.heap[w.heap.size]? = some (.cells #[.slice A n c, .int .i64 ep, .int .i64 fr, .int .i64 gn, .slice B m d] 69 (0, 0)) := (hb1.block _ (by simp)).trans (heap_alloc_new w _)
  have hB1 := box_one hb1
  have hs1 : w.heap.size < w1.heap.size := by have := hb1.size; simp at this; omega
  have hI2 := IsW.new w1
  have hB2 := below_box w1 (.cells #[.slice none 0 0] 86)
  have hbx2 := (hB2.block _ hs1).trans hbx1
  have HB2 := Lib.hid hB2
  have HI2 := Lib.hid hI2
  have HB1 := Lib.hid hB1
  have HX2 := Lib.hid hbx2
  clear hB2 hI2 hB1 hb1 hbx1
  have hc0 := (cell_block hbx2 0 _ rfl).1
  have hc1 := (cell_block hbx2 1 _ rfl).1
  have hc2 := (cell_block hbx2 2 _ rfl).1
  have hc3 := (cell_block hbx2 3 _ rfl).1
  have hc4 := (cell_block hbx2 4 _ rfl).1
  clear hbx2
  go_wp2_with fail
  refine (HO.out _).mono ?_
  rintro e w3 ⟨rfl, hb3⟩
  have hs3 : w1.heap.size < w3.heap.size := by have := hb3.size; simp at this; omega
  have hI3 := HI2.out.keep hb3
  have hbx3 := (hb3.block _ (by simp; omega)).trans HX2.out
  have hB3 : Below w.heap.size w w3 := (HB1.out.trans (HB2.out.mono (by omega))).trans (hb3.mono (by simp; omega))
  have HB3 := Lib.hid hB3
  have HX3 := Lib.hid hbx3
  have HI3 := Lib.hid hI3
  have HA3 := Lib.hid ((HA.out.keep hB3).mono (Nat.le_of_lt hs1))
  have HC3 := Lib.hid (HG.out.keep hB3)
  clear hB3 hbx3 hI3 hc0 hc1 hc2 hc3 hc4 hb3
  go_wp2_with fail
  refine (wplace_any w1.heap.size [] A n c l ep fr _ HI3.out HC3.out (by omega) (by simp) HA3.out n1 e0 e1 f0 f1).mono ?_
  rintro e w4 ⟨rfl, hI4, hF4⟩
  have hbx4 := hF4.keep _ _ _ _ (by omega) (by decide) HX3.out
  have hk3 := (cell_block hbx4 3 _ rfl).1
  have hs4 : w3.heap.size ≤ w4.heap.size := hF4.below.size
  have HI4 := Lib.hid hI4
  have HF4 := Lib.hid hF4
  clear hbx4 hI4 hF4
  simp only [List.nil_append] at HI4
  have hpl : (placeB l ep fr).length ≤ 2000000 := by
    have h1 := TB_length_le l (by have := HA.out.1.1; omega)
    simp only [placeB, List.length_append, beB_length]; omega
  have HE := Lib.hid (show aheadB l ep fr gn = placeB l ep fr ++ beB 4 gn from rfl)
  generalize placeB l ep fr = ps at *
  go_wp2_with fail
  refine (wnumber_any w1.heap.size ps gn 4 (by omega) (by omega) (fun _ => by omega) (by omega) _ HI4.out (by omega)).mono ?_
  rintro e w5 ⟨rfl, hI5, hF5⟩
  obtain ⟨v, hc7, _, ho7, _⟩ := hI5.cells
  have HF5 := Lib.hid hF5
  have HO7 := Lib.hid ho7
  clear hI5 hF5 ho7
  go_wp2_with fail
  go_ret
  refine ⟨_, rfl, ?_, ?_⟩
  · rw [HE.out]
    exact own_base_le HO7.out (by omega)
  · exact HB3.out.trans ((HF4.out.below.trans HF5.out.below).mono (Nat.le_of_lt hs1))
set_option maxRecDepth 100000 in
set_option maxHeartbeats 1000000 in
/-- frame.PutSealed of what is no sealed text -/
theorem puts_bad (A B : Option Addr) (n c m d : Nat) (ep fr gn : Int) (w : World) (hok : sealedOk n ep fr gn m = false) :
    Calls Tryd.prog 34 #[.agg #[.slice A n c, .int .i64 ep, .int .i64 fr, .int .i64 gn, .slice B m d]] w fun e w' => e = .returned (.tuple #[.slice none 0 0, .int .i64 181]) ∧ Below w.heap.size w w' := by
  have HR := Lib.hid (fun W => rsealed_any A B n c m d ep fr gn W)
  rw [hok] at HR
  clear hok
  go_enter Tryd.func34, Tryd.ntmps34
  go_wp2_with (go_at_call 48; refine (HR.out _).mono ?_; rintro e w1 ⟨rfl, hb1⟩)
  go_ret2
  exact ⟨rfl, box_one hb1⟩
set_option maxRecDepth 100000 in
set_option maxHeartbeats 2000000 in
/-- frame.PutSealed -/
theorem puts_good (A B : Option Addr) (n c m d : Nat) (l b : List Int) (ep fr gn : Int) (w : World) (hG : Classes w) (hr : Rd w A n l) (hrb : Rd w B m b) (hok : sealedOk n ep fr gn m = true) :
    Calls Tryd.prog 34 #[.agg #[.slice A n c, .int .i64 ep, .int .i64 fr, .int .i64 gn, .slice B m d]] w fun e w' => ∃ v, e = .returned (.tuple #[v, .int .i64 0]) ∧ Ow w' w.heap.size v (sealedB l ep fr gn b) ∧ Below w.heap.size w w' := by
  have HR := Lib.hid (fun W => rsealed_any A B n c m d ep fr gn W)
  rw [hok] at HR
  have HA := Lib.hid (fun W (hG : Classes W) (hr : Rd W A n l) => ahead_good A B n c m d l ep fr gn W hG hr hok)
  obtain ⟨⟨n0, n1, e0, e1, f0, f1⟩, k0, k1, m1⟩ := sealedOk_iff.1 hok
  have HG := Lib.hid hG
  have HRA := Lib.hid hr
  have HRB := Lib.hid hrb
  clear hok hG hr hrb
  go_enter Tryd.func34, Tryd.ntmps34
  go_wp2_with fail
  refine (HR.out _).mono ?_
  rintro e w1 ⟨rfl, hb1⟩
  have hbx1 : w1.heap[w.heap.size]? = some (.cells #[.slice A n c, .int .i64 ep, .int .i64 fr, .int .i64 gn, .slice B m d] 69 (0, 0)) := (hb1.block _ (by simp)).trans (heap_alloc_new w _)
  have hB1 := box_one hb1
  have hs1 : w.heap.size < w1.heap.size := by have := hb1.size; simp at this; omega
  have hc0 := (cell_block hbx1 0 _ rfl).1
  have hc1 := (cell_block hbx1 1 _ rfl).1
  have hc2 := (cell_block hbx1 2 _ rfl).1
  have hc3 := (cell_block hbx1 3 _ rfl).1
  have hc4 := (cell_block hbx1 4 _ rfl).1
  go_wp2_with fail
  refine (HA.out w1 (HG.out.keep hB1) (HRA.out.keep hB1)).mono ?_
  rintro e w2 ⟨v, rfl, ho, hb2⟩
  obtain ⟨A2, q2, rfl⟩ := own_slice ho
  have hal : (aheadB l ep fr gn).length ≤ 1000000 := by
    have h1 : (TB l).length ≤ 36 := by have := HRA.out.1; unfold TB; rw [List.length_append, lenB_length]; unfold lenN; split <;> (try split) <;> omega
    simp only [aheadB, placeB, List.length_append, beB_length]; omega
  have HE := Lib.hid (show sealedB l ep fr gn b = aheadB l ep fr gn ++ TB b from rfl)
  generalize aheadB l ep fr gn = ah at *
  obtain ⟨W, hW⟩ : ∃ W, W = (w2.alloc (.cells #[.slice A2 ah.length q2] 86)).alloc (.cells #[.slice B m d] 23) := ⟨_, rfl⟩
  have hbW : Below w2.heap.size w2 W := by rw [hW]; exact (below_box _ _).trans ((below_box _ _).mono (by simp))
  have hBw : Below w.heap.size w W := (hB1.trans (hb2.mono (Nat.le_of_lt hs1))).trans (hbW.mono (by have := hb2.size; omega))
  have hgW : W.heap[w2.heap.size]? = some (.cells #[.slice A2 ah.length q2] 86 (0, 0)) := by rw [hW]; exact heap_at
  have hbtW : W.heap[w2.heap.size + 1]? = some (.cells #[.slice B m d] 23 (0, 0)) := by
    rw [hW]; have := heap_alloc_new (w2.alloc (.cells #[.slice A2 ah.length q2] 86)) (.cells #[.slice B m d] 23); rwa [World.size_alloc] at this
  have HT := Lib.hid (wtext1 w2.heap.size (w2.heap.size + 1) w1.heap.size (.slice A2 ah.length q2) ah B m d b W hgW (pw_own_below ho hbW) (by have := hb2.size; have := hbW.size; omega) (HG.out.keep hBw) hal hbtW (HRB.out.keep hBw) (by omega))
  have hbx2 := (hb2.block _ hs1).trans hbx1
  have hd4 := (cell_block hbx2 4 _ rfl).1
  have hbx3 := ((below_box w2 (.cells #[.slice A2 ah.length q2] 86)).block _ (Nat.lt_of_lt_of_le hs1 hb2.size)).trans hbx2
  have hd5 := (cell_block hbx3 4 _ rfl).1
  have HBW := Lib.hid hBw
  have HS := Lib.hid (show w1.heap.size ≤ w2.heap.size from hb2.size)
  have HSW := Lib.hid (show w.heap.size ≤ W.heap.size from hBw.size)
  have HOB := Lib.hid (own_base ho)
  rw [hW] at HT HBW HSW
  clear hc0 hc1 hc2 hc3 hc4 hbx1 hbx2 hbx3 hbtW hgW hBw hbW hW ho hb2 hB1 hb1
  go_wp2_with fail
  refine HT.out.mono ?_
  rintro e w4 ⟨rfl, v4, hh4, ho4, hf4⟩
  obtain ⟨A4, q4, rfl⟩ := own_slice ho4
  have he0 := (cell_block hh4 0 _ rfl).1
  have HO4 := Lib.hid ho4
  have HF4 := Lib.hid hf4
  clear hh4 ho4 hf4
  go_wp2_with fail
  go_ret2
  refine ⟨.slice A4 (ah ++ TB b).length q4, by rw [List.length_append]; rfl, by rw [HE.out]; exact own_base_le HO4.out (Nat.le_of_lt hs1), ?_⟩
  refine HBW.out.trans (HF4.out.below (B := w.heap.size) HSW.out (fun k _ e => ?_))
  rcases e with e | e
  · have := HS.out; omega
  · have := HOB.out k e; omega
end Go.Proofs.YtcfbmglhikjahaaDoor
