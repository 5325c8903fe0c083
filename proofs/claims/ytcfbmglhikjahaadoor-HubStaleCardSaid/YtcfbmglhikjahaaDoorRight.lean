/- package frame: what may be a content, a message, a sealed text. -/
import Derived.Test.YtcfbmglhikjahaaDoorWriter
import Derived.Laws.EntriesVeiled
set_option linter.unusedVariables false
set_option linter.unusedSimpArgs false
namespace Go.Proofs.YtcfbmglhikjahaaDoor
open Go.RowKit Go.Proofs.YtcfbmglhikjahaaDoorW.PrintWords

def placeOk (n : Nat) (ep fr : Int) : Bool := decide (0 < n ∧ n ≤ 32 ∧ 0 ≤ ep ∧ ep ≤ 1099511627776 ∧ 0 ≤ fr ∧ fr < 65536)
theorem placeOk_iff {n : Nat} {ep fr : Int} : placeOk n ep fr = true ↔ (0 < n ∧ n ≤ 32 ∧ 0 ≤ ep ∧ ep ≤ 1099511627776 ∧ 0 ≤ fr ∧ fr < 65536) := by simp [placeOk]
theorem placeOk_no {n : Nat} {ep fr : Int} (h : ¬ (0 < n ∧ n ≤ 32 ∧ 0 ≤ ep ∧ ep ≤ 1099511627776 ∧ 0 ≤ fr ∧ fr < 65536)) : placeOk n ep fr = false := by simpa [placeOk] using h

theorem below_box (w : World) (o : Obj) : Below w.heap.size w (w.alloc o) := (Below.refl _ _).alloc (Nat.le_refl _) _

set_option maxRecDepth 100000 in
set_option maxHeartbeats 1000000 in
/-- place.right -/
theorem place_right_any (A : Option Addr) (n c : Nat) (ep fr : Int) (w : World) :
    Calls Tryd.prog 64 #[.agg #[.slice A n c, .int .i64 ep, .int .i64 fr]] w fun e w' => e = .returned (.bool (placeOk n ep fr)) ∧ Below w.heap.size w w' := by
  by_cases c1 : 0 < n
  · by_cases c2 : n ≤ 32
    · by_cases c3 : 0 ≤ ep
      · by_cases c4 : ep ≤ 1099511627776
        · by_cases c5 : 0 ≤ fr
          · by_cases c6 : fr < 65536
            · have H := Lib.hid (placeOk_iff.2 ⟨c1, c2, c3, c4, c5, c6⟩)
              go_enter Tryd.func64, Tryd.ntmps64
              go_wp2
              go_ret
              exact ⟨by rw [H.out]; rfl, below_box _ _⟩
            · have H := Lib.hid (placeOk_no (n := n) (ep := ep) (fr := fr) (by omega))
              go_enter Tryd.func64, Tryd.ntmps64
              go_wp2
              go_ret
              exact ⟨by rw [H.out]; rfl, below_box _ _⟩
          · have H := Lib.hid (placeOk_no (n := n) (ep := ep) (fr := fr) (by omega))
            go_enter Tryd.func64, Tryd.ntmps64
            go_wp2
            go_ret
            exact ⟨by rw [H.out]; rfl, below_box _ _⟩
        · have H := Lib.hid (placeOk_no (n := n) (ep := ep) (fr := fr) (by omega))
          go_enter Tryd.func64, Tryd.ntmps64
          go_wp2
          go_ret
          exact ⟨by rw [H.out]; rfl, below_box _ _⟩
      · have H := Lib.hid (placeOk_no (n := n) (ep := ep) (fr := fr) (by omega))
        go_enter Tryd.func64, Tryd.ntmps64
        go_wp2
        go_ret
        exact ⟨by rw [H.out]; rfl, below_box _ _⟩
    · have H := Lib.hid (placeOk_no (n := n) (ep := ep) (fr := fr) (by omega))
      go_enter Tryd.func64, Tryd.ntmps64
      go_wp2
      go_ret
      exact ⟨by rw [H.out]; rfl, below_box _ _⟩
  · have H := Lib.hid (placeOk_no (n := n) (ep := ep) (fr := fr) (by omega))
    go_enter Tryd.func64, Tryd.ntmps64
    go_wp2
    go_ret
    exact ⟨by rw [H.out]; rfl, below_box _ _⟩

set_option maxRecDepth 100000 in
set_option maxHeartbeats 1000000 in
/-- of: where a content is said -/
theorem of_any (A B : Option Addr) (n c m d : Nat) (ep fr kd : Int) (w : World) :
    Calls Tryd.prog 59 #[.agg #[.slice A n c, .int .i64 ep, .int .i64 fr, .int .i64 kd, .slice B m d]] w fun e w' => e = .returned (.agg #[.slice A n c, .int .i64 ep, .int .i64 fr]) ∧ Below w.heap.size w w' := by
  go_enter Tryd.func59, Tryd.ntmps59
  go_wp2
  exact bodyPost_ret (v := .agg #[.slice A n c, .int .i64 ep, .int .i64 fr]) (by simp [results, Tryd.results59, go_sem]) rfl ⟨rfl, ((below_box _ _).trans ((below_box _ _).mono (by simp)))⟩

theorem box_cell {W w1 : World} {cs : Array Value} {t : TypeId} (hb : Below (W.alloc (.cells cs t)).heap.size (W.alloc (.cells cs t)) w1) (i : Nat) (x : Value) (hi : cs[i]? = some x) : w1.cell? ⟨W.heap.size, i, none⟩ = some x :=
  pw_cell_below hb (cell_block (heap_alloc_new W (.cells cs t)) i x hi).1
theorem box_then {W w1 w2 : World} {o : Obj} (hb : Below (W.alloc o).heap.size (W.alloc o) w1) (hb2 : Below w1.heap.size w1 w2) : Below W.heap.size W w2 := by
  have h1 : Below W.heap.size W w1 := (below_box W o).trans (hb.mono (by simp))
  exact h1.trans (hb2.mono h1.size)

def contentOk (n : Nat) (ep fr kd : Int) (m : Nat) : Bool := placeOk n ep fr && decide (1 ≤ kd ∧ kd ≤ 5 ∧ m ≤ 30000)

set_option maxRecDepth 100000 in
set_option maxHeartbeats 1000000 in
/-- frame.Right -/
theorem right_any (A B : Option Addr) (n c m d : Nat) (ep fr kd : Int) (w : World) :
    Calls Tryd.prog 53 #[.agg #[.slice A n c, .int .i64 ep, .int .i64 fr, .int .i64 kd, .slice B m d]] w fun e w' => e = .returned (.bool (contentOk n ep fr kd m)) ∧ Below w.heap.size w w' := by
  have key : ∀ (p q : Bool), placeOk n ep fr = p → decide (1 ≤ kd ∧ kd ≤ 5 ∧ m ≤ 30000) = q → contentOk n ep fr kd m = (p && q) := by rintro p q rfl rfl; rfl
  have HO := Lib.hid (fun W => of_any A B n c m d ep fr kd W)
  have HP := Lib.hid (fun W => place_right_any A n c ep fr W)
  rcases hp : placeOk n ep fr with _ | _
  · have H := Lib.hid (key false _ hp rfl)
    have HQ : Hid (∀ W, Calls Tryd.prog 64 #[.agg #[.slice A n c, .int .i64 ep, .int .i64 fr]] W fun e w' => e = .returned (.bool false) ∧ Below W.heap.size W w') := Lib.hid (by rw [← hp]; exact HP.out)
    clear hp key HP
    go_enter Tryd.func53, Tryd.ntmps53
    go_wp2_with (first | (go_at_call 59; refine (HO.out _).mono ?_; rintro e w1 ⟨rfl, hb1⟩; have hk3 := box_cell hb1 3 _ rfl; have hk4 := box_cell hb1 4 _ rfl) | (go_at_call 64; refine (HQ.out _).mono ?_; rintro e w2 ⟨rfl, hb2⟩; have hk5 := pw_cell_below hb2 hk3; have hk6 := pw_cell_below hb2 hk4))
    go_ret
    exact ⟨by rw [H.out]; rfl, box_then hb1 hb2⟩
  · have HQ : Hid (∀ W, Calls Tryd.prog 64 #[.agg #[.slice A n c, .int .i64 ep, .int .i64 fr]] W fun e w' => e = .returned (.bool true) ∧ Below W.heap.size W w') := Lib.hid (by rw [← hp]; exact HP.out)
    by_cases c1 : 1 ≤ kd
    · by_cases c2 : kd ≤ 5
      · by_cases c3 : m ≤ 30000
        · have H := Lib.hid (key true true hp (by simpa using ⟨c1, c2, c3⟩))
          have c3b : decide ((m : Int) ≤ 30000) = true := decide_eq_true (by omega)
          clear hp key HP
          go_enter Tryd.func53, Tryd.ntmps53
          go_wp2_with (first | (go_at_call 59; refine (HO.out _).mono ?_; rintro e w1 ⟨rfl, hb1⟩; have hk3 := box_cell hb1 3 _ rfl; have hk4 := box_cell hb1 4 _ rfl) | (go_at_call 64; refine (HQ.out _).mono ?_; rintro e w2 ⟨rfl, hb2⟩; have hk5 := pw_cell_below hb2 hk3; have hk6 := pw_cell_below hb2 hk4))
          go_ret
          exact ⟨by rw [H.out]; rfl, box_then hb1 hb2⟩
        · have H := Lib.hid (key true false hp (by simp; omega))
          have c3b : decide ((m : Int) ≤ 30000) = false := decide_eq_false (by omega)
          clear hp key HP
          go_enter Tryd.func53, Tryd.ntmps53
          go_wp2_with (first | (go_at_call 59; refine (HO.out _).mono ?_; rintro e w1 ⟨rfl, hb1⟩; have hk3 := box_cell hb1 3 _ rfl; have hk4 := box_cell hb1 4 _ rfl) | (go_at_call 64; refine (HQ.out _).mono ?_; rintro e w2 ⟨rfl, hb2⟩; have hk5 := pw_cell_below hb2 hk3; have hk6 := pw_cell_below hb2 hk4))
          go_ret
          exact ⟨by rw [H.out]; rfl, box_then hb1 hb2⟩
      · have H := Lib.hid (key true false hp (by simp; omega))
        clear hp key HP
        go_enter Tryd.func53, Tryd.ntmps53
        go_wp2_with (first | (go_at_call 59; refine (HO.out _).mono ?_; rintro e w1 ⟨rfl, hb1⟩; have hk3 := box_cell hb1 3 _ rfl; have hk4 := box_cell hb1 4 _ rfl) | (go_at_call 64; refine (HQ.out _).mono ?_; rintro e w2 ⟨rfl, hb2⟩; have hk5 := pw_cell_below hb2 hk3; have hk6 := pw_cell_below hb2 hk4))
        go_ret
        exact ⟨by rw [H.out]; rfl, box_then hb1 hb2⟩
    · have H := Lib.hid (key true false hp (by simp; omega))
      clear hp key HP
      go_enter Tryd.func53, Tryd.ntmps53
      go_wp2_with (first | (go_at_call 59; refine (HO.out _).mono ?_; rintro e w1 ⟨rfl, hb1⟩; have hk3 := box_cell hb1 3 _ rfl; have hk4 := box_cell hb1 4 _ rfl) | (go_at_call 64; refine (HQ.out _).mono ?_; rintro e w2 ⟨rfl, hb2⟩; have hk5 := pw_cell_below hb2 hk3; have hk6 := pw_cell_below hb2 hk4))
      go_ret
      exact ⟨by rw [H.out]; rfl, box_then hb1 hb2⟩
end Go.Proofs.YtcfbmglhikjahaaDoor
