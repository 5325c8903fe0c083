/- package frame: a sealed text: what may be one. -/
import Derived.Test.YtcfbmglhikjahaaDoorPut
set_option linter.unusedVariables false
set_option linter.unusedSimpArgs false
namespace Go.Proofs.YtcfbmglhikjahaaDoor
open Go.RowKit Go.Proofs.YtcfbmglhikjahaaDoorW.PrintWords

set_option maxRecDepth 100000 in
set_option maxHeartbeats 1000000 in
/-- where: where a sealed text is said -/
theorem where_any (A B : Option Addr) (n c m d : Nat) (ep fr kd : Int) (w : World) :
    Calls Tryd.prog 63 #[.agg #[.slice A n c, .int .i64 ep, .int .i64 fr, .int .i64 kd, .slice B m d]] w fun e w' => e = .returned (.agg #[.slice A n c, .int .i64 ep, .int .i64 fr]) ∧ Below w.heap.size w w' := by
  go_enter Tryd.func63, Tryd.ntmps63
  go_wp2
  exact bodyPost_ret (v := .agg #[.slice A n c, .int .i64 ep, .int .i64 fr]) (by simp [results, Tryd.results63, go_sem]) rfl ⟨rfl, ((below_box _ _).trans ((below_box _ _).mono (by simp)))⟩


def sealedOk (n : Nat) (ep fr kd : Int) (m : Nat) : Bool := placeOk n ep fr && decide (0 ≤ kd ∧ kd ≤ 1073741824 ∧ m ≤ 32800)

set_option maxRecDepth 100000 in
set_option maxHeartbeats 1000000 in
/-- rightSealed -/
theorem rsealed_any (A B : Option Addr) (n c m d : Nat) (ep fr kd : Int) (w : World) :
    Calls Tryd.prog 48 #[.agg #[.slice A n c, .int .i64 ep, .int .i64 fr, .int .i64 kd, .slice B m d]] w fun e w' => e = .returned (.bool (sealedOk n ep fr kd m)) ∧ Below w.heap.size w w' := by
  have key : ∀ (p q : Bool), placeOk n ep fr = p → decide (0 ≤ kd ∧ kd ≤ 1073741824 ∧ m ≤ 32800) = q → sealedOk n ep fr kd m = (p && q) := by rintro p q rfl rfl; rfl
  have HO := Lib.hid (fun W => where_any A B n c m d ep fr kd W)
  have HP := Lib.hid (fun W => place_right_any A n c ep fr W)
  rcases hp : placeOk n ep fr with _ | _
  · have H := Lib.hid (key false _ hp rfl)
    have HQ : Hid (∀ W, Calls Tryd.prog 64 #[.agg #[.slice A n c, .int .i64 ep, .int .i64 fr]] W fun e w' => e = .returned (.bool false) ∧ Below W.heap.size W w') := Lib.hid (by rw [← hp]; exact HP.out)
    clear hp key HP
    go_enter Tryd.func48, Tryd.ntmps48
    go_wp2_with (first | (go_at_call 63; refine (HO.out _).mono ?_; rintro e w1 ⟨rfl, hb1⟩; have hk3 := box_cell hb1 3 _ rfl; have hk4 := box_cell hb1 4 _ rfl) | (go_at_call 64; refine (HQ.out _).mono ?_; rintro e w2 ⟨rfl, hb2⟩; have hk5 := pw_cell_below hb2 hk3; have hk6 := pw_cell_below hb2 hk4))
    go_ret
    exact ⟨by rw [H.out]; rfl, box_then hb1 hb2⟩
  · have HQ : Hid (∀ W, Calls Tryd.prog 64 #[.agg #[.slice A n c, .int .i64 ep, .int .i64 fr]] W fun e w' => e = .returned (.bool true) ∧ Below W.heap.size W w') := Lib.hid (by rw [← hp]; exact HP.out)
    by_cases c1 : 0 ≤ kd
    · by_cases c2 : kd ≤ 1073741824
      · by_cases c3 : m ≤ 32800
        · have H := Lib.hid (key true true hp (by simpa using ⟨c1, c2, c3⟩))
          have c3b : decide ((m : Int) ≤ 32800) = true := decide_eq_true (by omega)
          clear hp key HP
          go_enter Tryd.func48, Tryd.ntmps48
          go_wp2_with (first | (go_at_call 63; refine (HO.out _).mono ?_; rintro e w1 ⟨rfl, hb1⟩; have hk3 := box_cell hb1 3 _ rfl; have hk4 := box_cell hb1 4 _ rfl) | (go_at_call 64; refine (HQ.out _).mono ?_; rintro e w2 ⟨rfl, hb2⟩; have hk5 := pw_cell_below hb2 hk3; have hk6 := pw_cell_below hb2 hk4))
          go_ret
          exact ⟨by rw [H.out]; rfl, box_then hb1 hb2⟩
        · have H := Lib.hid (key true false hp (by simp; omega))
          have c3b : decide ((m : Int) ≤ 32800) = false := decide_eq_false (by omega)
          clear hp key HP
          go_enter Tryd.func48, Tryd.ntmps48
          go_wp2_with (first | (go_at_call 63; refine (HO.out _).mono ?_; rintro e w1 ⟨rfl, hb1⟩; have hk3 := box_cell hb1 3 _ rfl; have hk4 := box_cell hb1 4 _ rfl) | (go_at_call 64; refine (HQ.out _).mono ?_; rintro e w2 ⟨rfl, hb2⟩; have hk5 := pw_cell_below hb2 hk3; have hk6 := pw_cell_below hb2 hk4))
          go_ret
          exact ⟨by rw [H.out]; rfl, box_then hb1 hb2⟩
      · have H := Lib.hid (key true false hp (by simp; omega))
        clear hp key HP
        go_enter Tryd.func48, Tryd.ntmps48
        go_wp2_with (first | (go_at_call 63; refine (HO.out _).mono ?_; rintro e w1 ⟨rfl, hb1⟩; have hk3 := box_cell hb1 3 _ rfl; have hk4 := box_cell hb1 4 _ rfl) | (go_at_call 64; refine (HQ.out _).mono ?_; rintro e w2 ⟨rfl, hb2⟩; have hk5 := pw_cell_below hb2 hk3; have hk6 := pw_cell_below hb2 hk4))
        go_ret
        exact ⟨by rw [H.out]; rfl, box_then hb1 hb2⟩
    · have H := Lib.hid (key true false hp (by simp; omega))
      clear hp key HP
      go_enter Tryd.func48, Tryd.ntmps48
      go_wp2_with (first | (go_at_call 63; refine (HO.out _).mono ?_; rintro e w1 ⟨rfl, hb1⟩; have hk3 := box_cell hb1 3 _ rfl; have hk4 := box_cell hb1 4 _ rfl) | (go_at_call 64; refine (HQ.out _).mono ?_; rintro e w2 ⟨rfl, hb2⟩; have hk5 := pw_cell_below hb2 hk3; have hk6 := pw_cell_below hb2 hk4))
      go_ret
      exact ⟨by rw [H.out]; rfl, box_then hb1 hb2⟩
theorem sealedOk_iff {n : Nat} {ep fr kd : Int} {m : Nat} : sealedOk n ep fr kd m = true ↔ (0 < n ∧ n ≤ 32 ∧ 0 ≤ ep ∧ ep ≤ 1099511627776 ∧ 0 ≤ fr ∧ fr < 65536) ∧ 0 ≤ kd ∧ kd ≤ 1073741824 ∧ m ≤ 32800 := by
  unfold sealedOk
  rw [Bool.and_eq_true, placeOk_iff, decide_eq_true_eq]
/-- what stands ahead of what is closed -/
def aheadB (l : List Int) (ep fr gn : Int) : List Int := placeB l ep fr ++ beB 4 gn
/-- a sealed text's bytes -/
def sealedB (l : List Int) (ep fr gn : Int) (b : List Int) : List Int := aheadB l ep fr gn ++ TB b
end Go.Proofs.YtcfbmglhikjahaaDoor
