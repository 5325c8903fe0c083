/- package frame: place, Bytes, Put. -/
import Derived.Test.YtcfbmglhikjahaaDoorRightM
set_option linter.unusedVariables false
set_option linter.unusedSimpArgs false
namespace Go.Proofs.YtcfbmglhikjahaaDoor
open Go.RowKit Go.Proofs.YtcfbmglhikjahaaDoorW.PrintWords

/-- a place's bytes -/
def placeB (l : List Int) (ep fr : Int) : List Int := TB l ++ beB 8 ep ++ beB 4 fr
theorem heap_at {W : World} {o o2 : Obj} : ((W.alloc o).alloc o2).heap[W.heap.size]? = some o := (heap_alloc_old (W.alloc o) o2 (by simp)).trans (heap_alloc_new W o)

set_option maxRecDepth 100000 in
set_option maxHeartbeats 1000000 in
/-- (*writer).place -/
theorem wplace_any (g : Nat) (xs : List Int) (A : Option Addr) (n c : Nat) (l : List Int) (ep fr : Int) (w : World) (hI : IsW w g xs) (hG : Classes w) (hGg : 0 < g) (hx : xs.length ≤ 1000000)
    (hr : RdB g w A n l) (hn : n ≤ 32) (h0 : 0 ≤ ep) (h1 : ep ≤ 1099511627776) (h2 : 0 ≤ fr) (h3 : fr < 65536) :
    Calls Tryd.prog 58 #[.pointer (some ⟨g, 0, none⟩), .agg #[.slice A n c, .int .i64 ep, .int .i64 fr]] w fun e w' => e = .returned (.tuple #[]) ∧ IsW w' g (xs ++ placeB l ep fr) ∧ WFr g w w' := by
  have hgl : g < w.heap.size := by obtain ⟨_, _, _, _, h, _⟩ := hI.cells; exact h
  obtain ⟨W2, hW2⟩ : ∃ W2, W2 = (w.alloc (.cells #[.slice A n c, .int .i64 ep, .int .i64 fr] 75)).alloc (.cells #[.slice A n c] 23) := ⟨_, rfl⟩
  have hb2 : Below w.heap.size w W2 := by rw [hW2]; exact (below_box _ _).trans ((below_box _ _).mono (by simp))
  have hF2 := WFr.of_below (g := g) hb2 (Nat.le_of_lt hgl)
  have hI2 := hI.keep hb2
  have hbx : W2.heap[w.heap.size]? = some (.cells #[.slice A n c, .int .i64 ep, .int .i64 fr] 75 (0, 0)) := by rw [hW2]; exact heap_at
  have hlt : W2.heap[w.heap.size + 1]? = some (.cells #[.slice A n c] 23 (0, 0)) := by
    rw [hW2]; have := heap_alloc_new (w.alloc (.cells #[.slice A n c, .int .i64 ep, .int .i64 fr] 75)) (.cells #[.slice A n c] 23); rwa [World.size_alloc] at this
  have hl := hr.1.1
  have hv : ∀ i, i < 1 → (#[Value.slice A n c] : Array Value)[i]? = some (.slice A n c) := fun i hi => by
    have : i = 0 := by omega
    subst this; rfl
  have HT := Lib.hid (wtext_any g xs 1 (w.heap.size + 1) (fun _ => A) (fun _ => n) (fun _ => c) (fun _ => l) W2 hI2 (hG.keepB hGg hF2.below) hGg (by omega) (by omega) #[.slice A n c] hlt hv (fun _ _ => hr.keep hF2.below) (fun _ _ => by show n ≤ 1048576; omega))
  have hts : TBs (fun _ => l) 1 = TB l := by simp [TBs]
  rw [hts, hW2] at HT
  have HB := Lib.hid hbx
  have HF2 := Lib.hid hF2
  rw [hW2] at HB HF2
  have htl : (xs ++ TB l).length ≤ 2100000 := by have := TB_length_le l (by omega); rw [List.length_append]; omega
  have hne : w.heap.size ≠ g := by omega
  have HX := Lib.hid (show xs ++ placeB l ep fr = xs ++ TB l ++ beB 8 ep ++ beB 4 fr by simp [placeB])
  clear hW2 hb2 hF2 hI2 hbx hlt hts hI hG hr hl
  generalize xs ++ TB l = ys at *
  have hzl : (ys ++ beB 8 ep).length ≤ 2100008 := by rw [List.length_append, beB_length]; omega
  go_enter Tryd.func58, Tryd.ntmps58
  go_wp2_with fail
  refine HT.out.mono ?_
  rintro e w3 ⟨rfl, hI3, hF3⟩
  have hb3 := hF3.keep _ _ _ _ hne (by decide) HB.out
  have hk1 := (cell_block hb3 1 _ rfl).1
  have HI3 := Lib.hid hI3
  have HB3 := Lib.hid hb3
  clear hI3 hb3
  go_wp2_with fail
  refine (wnumber_any g ys ep 8 (by omega) h0 (by omega) (by omega) _ HI3.out (by omega)).mono ?_
  rintro e w4 ⟨rfl, hI4, hF4⟩
  have hb4 := hF4.keep _ _ _ _ hne (by decide) HB3.out
  have hk2 := (cell_block hb4 2 _ rfl).1
  have HI4 := Lib.hid hI4
  clear hI4 hb4
  go_wp2_with fail
  refine (wnumber_any g (ys ++ beB 8 ep) fr 4 (by omega) h2 (fun _ => by omega) (by omega) _ HI4.out (by omega)).mono ?_
  rintro e w5 ⟨rfl, hI5, hF5⟩
  go_wp2_with fail
  go_end0
  exact ⟨rfl, by rw [HX.out]; exact hI5, ((HF2.out.trans hF3).trans hF4).trans hF5⟩

theorem own_base_le {w : World} {b b' : Nat} {e : TypeId} {size n : Nat} {v : Value} {xs : List Value} (h : w.ownsRow b e size v n xs) (hb : b' ≤ b) : w.ownsRow b' e size v n xs :=
  ⟨h.1, h.2.imp id fun ⟨g, cap, cur, h1, h2, h3⟩ => ⟨g, cap, cur, h1, Nat.le_trans hb h2, h3⟩⟩
theorem IsW.new (w : World) : IsW (w.alloc (.cells #[.slice none 0 0] 86)) w.heap.size [] :=
  ⟨_, heap_alloc_new w _, own_nil _ _ _ _⟩

/-- a content's bytes -/
def contentB (l : List Int) (ep fr kd : Int) (b : List Int) : List Int := placeB l ep fr ++ beB 1 kd ++ TB b
theorem contentOk_iff {n : Nat} {ep fr kd : Int} {m : Nat} : contentOk n ep fr kd m = true ↔ (0 < n ∧ n ≤ 32 ∧ 0 ≤ ep ∧ ep ≤ 1099511627776 ∧ 0 ≤ fr ∧ fr < 65536) ∧ 1 ≤ kd ∧ kd ≤ 5 ∧ m ≤ 30000 := by
  unfold contentOk
  rw [Bool.and_eq_true, placeOk_iff, decide_eq_true_eq]

set_option maxRecDepth 100000 in
set_option maxHeartbeats 1000000 in
/-- frame.Bytes of what is no content -/
theorem bytes_bad (A B : Option Addr) (n c m d : Nat) (ep fr kd : Int) (w : World) (hok : contentOk n ep fr kd m = false) :
    Calls Tryd.prog 44 #[.agg #[.slice A n c, .int .i64 ep, .int .i64 fr, .int .i64 kd, .slice B m d]] w fun e w' => e = .returned (.tuple #[.slice none 0 0, .int .i64 181]) ∧ Below w.heap.size w w' := by
  have HR := Lib.hid (fun W => right_any A B n c m d ep fr kd W)
  rw [hok] at HR
  clear hok
  go_enter Tryd.func44, Tryd.ntmps44
  go_wp2_with (go_at_call 53; refine (HR.out _).mono ?_; rintro e w1 ⟨rfl, hb1⟩)
  go_ret2
  exact ⟨rfl, box_one hb1⟩

set_option maxRecDepth 100000 in
set_option maxHeartbeats 2000000 in
/-- frame.Bytes -/
theorem bytes_good (A B : Option Addr) (n c m d : Nat) (l b : List Int) (ep fr kd : Int) (w : World) (hG : Classes w) (hr : Rd w A n l) (hrb : Rd w B m b) (hok : contentOk n ep fr kd m = true) :
    Calls Tryd.prog 44 #[.agg #[.slice A n c, .int .i64 ep, .int .i64 fr, .int .i64 kd, .slice B m d]] w fun e w' => ∃ v, e = .returned (.tuple #[v, .int .i64 0]) ∧ Ow w' w.heap.size v (contentB l ep fr kd b) ∧ Below w.heap.size w w' := by
  have HR := Lib.hid (fun W => right_any A B n c m d ep fr kd W)
  rw [hok] at HR
  have HO := Lib.hid (fun W => of_any A B n c m d ep fr kd W)
  obtain ⟨⟨n0, n1, e0, e1, f0, f1⟩, k0, k1, m1⟩ := contentOk_iff.1 hok
  have hGlt := World.block_lt_of_cell? w _ hG.1
  have HG := Lib.hid hG
  have HA := Lib.hid (RdB.of hr)
  have HB := Lib.hid (RdB.of hrb)
  clear hok hG hr hrb
  go_enter Tryd.func44, Tryd.ntmps44
  go_wp2_with fail
  refine (HR.out _).mono ?_
  rintro e w1 ⟨rfl, hb1⟩
  have hbx1 : w1.heap[w.heap.size]? = some (.cells #[.slice A n c, .int .i64 ep, .int .i64 fr, .int .i64 kd, .slice B m d] 36 (0, 0)) := (hb1.block _ (by simp)).trans (heap_alloc_new w _)
  have hB1 := box_one hb1
  have hs1 : w.heap.size < w1.heap.size := by have := hb1.size; simp at this; omega
  -- the writer's block
  have hI2 := IsW.new w1
  have hB2 := below_box w1 (.cells #[.slice none 0 0] 86)
  have hs2 : (w1.alloc (.cells #[.slice none 0 0] 86)).heap.size = w1.heap.size + 1 := by simp
  have hbx2 := (hB2.block _ hs1).trans hbx1
  have HB2 := Lib.hid hB2
  have HI2 := Lib.hid hI2
  have HB1 := Lib.hid hB1
  have HX2 := Lib.hid hbx2
  clear hB2 hI2 hB1 hs2 hb1 hbx1
  have hc0 := (cell_block hbx2 0 _ rfl).1
  have hc1 := (cell_block hbx2 1 _ rfl).1
  have hc2 := (cell_block hbx2 2 _ rfl).1
  have hc3 := (cell_block hbx2 3 _ rfl).1
  have hc4 := (cell_block hbx2 4 _ rfl).1
  clear hbx2
  go_wp2_with fail
  refine (HO.out _).mono ?_
  rintro e w3 ⟨rfl, hb3⟩
  have hs3 : w1.heap.size < w3.heap.size := by have := hb3.size; simp at this; omega
  have hI3 := HI2.out.keep hb3
  have hbx3 := (hb3.block _ (by simp; omega)).trans HX2.out
  have hB3 : Below w.heap.size w w3 := (HB1.out.trans (HB2.out.mono (by omega))).trans (hb3.mono (by simp; omega))
  have HB3 := Lib.hid hB3
  have HX3 := Lib.hid hbx3
  have HI3 := Lib.hid hI3
  have HA3 := Lib.hid ((HA.out.keep hB3).mono (Nat.le_of_lt hs1))
  have HC3 := Lib.hid (HG.out.keep hB3)
  clear hB3 hbx3 hI3 hc0 hc1 hc2 hc3 hc4 hb3
  go_wp2_with fail
  refine (wplace_any w1.heap.size [] A n c l ep fr _ HI3.out HC3.out (by omega) (by simp) HA3.out n1 e0 e1 f0 f1).mono ?_
  rintro e w4 ⟨rfl, hI4, hF4⟩
  have hbx4 := hF4.keep _ _ _ _ (by omega) (by decide) HX3.out
  have hk3 := (cell_block hbx4 3 _ rfl).1
  have hs4 : w3.heap.size ≤ w4.heap.size := hF4.below.size
  have HX4 := Lib.hid hbx4
  have HI4 := Lib.hid hI4
  have HF4 := Lib.hid hF4
  clear hbx4 hI4 hF4
  simp only [List.nil_append] at HI4
  have hpl : (placeB l ep fr).length ≤ 2000000 := by
    have h1 := TB_length_le l (by have := HA.out.1.1; omega)
    simp only [placeB, List.length_append, beB_length]; omega
  have hpl2 : (placeB l ep fr ++ beB 1 kd).length ≤ 2000001 := by rw [List.length_append, beB_length]; omega
  have HE := Lib.hid (show contentB l ep fr kd b = placeB l ep fr ++ beB 1 kd ++ TB b from rfl)
  generalize placeB l ep fr = ps at *
  go_wp2_with fail
  refine (wnumber_any w1.heap.size ps kd 1 (by omega) (by omega) (fun _ => by omega) (by omega) _ HI4.out (by omega)).mono ?_
  rintro e w5 ⟨rfl, hI5, hF5⟩
  have hbx5 := hF5.keep _ _ _ _ (by omega) (by decide) HX4.out
  have hk4 := (cell_block hbx5 4 _ rfl).1
  have hs5 : w4.heap.size ≤ w5.heap.size := hF5.below.size
  have HI5 := Lib.hid hI5
  have HF5 := Lib.hid hF5
  -- the variadic's row
  have hB6 := below_box w5 (.cells #[.slice B m d] 23)
  have hI6 := Lib.hid (hI5.keep hB6)
  have hF6 := WFr.of_below (g := w1.heap.size) hB6 (by omega)
  have hB36 : Below w1.heap.size w3 (w5.alloc (.cells #[.slice B m d] 23)) := (HF4.out.below.trans hF5.below).trans hF6.below
  have hBw6 : Below w.heap.size w (w5.alloc (.cells #[.slice B m d] 23)) := HB3.out.trans (hB36.mono (Nat.le_of_lt hs1))
  have hlt6 := heap_alloc_new w5 (.cells #[.slice B m d] 23)
  have hv : ∀ i, i < 1 → (#[Value.slice B m d] : Array Value)[i]? = some (.slice B m d) := fun i hi => by
    have : i = 0 := by omega
    subst this; rfl
  have hRB6 := (HB.out.keep hBw6).mono (Nat.le_of_lt hs1)
  have HT := Lib.hid (wtext_any w1.heap.size (ps ++ beB 1 kd) 1 w5.heap.size (fun _ => B) (fun _ => m) (fun _ => d) (fun _ => b) _ hI6.out (HG.out.keep hBw6) (by omega) (by omega) (by omega) #[.slice B m d] hlt6 hv (fun _ _ => hRB6) (fun _ _ => by show m ≤ 1048576; omega))
  have HBW := Lib.hid hBw6
  clear hbx5 hI5 hF5 hB6 hI6 hF6 hB36 hBw6 hlt6 hv hRB6
  go_wp2_with fail
  refine HT.out.mono ?_
  rintro e w7 ⟨rfl, hI7, hF7⟩
  obtain ⟨v, hc7, _, ho7, _⟩ := hI7.cells
  have HF7 := Lib.hid hF7
  have HO7 := Lib.hid ho7
  clear hI7 hF7 ho7
  go_wp2_with fail
  go_ret2
  refine ⟨_, rfl, ?_, ?_⟩
  · rw [HE.out]
    have := HO7.out
    simp only [TBs, List.nil_append] at this
    exact own_base_le this (by omega)
  · exact HBW.out.trans (HF7.out.below.mono (Nat.le_of_lt hs1))
end Go.Proofs.YtcfbmglhikjahaaDoor
