/- package frame: what may be a message. -/
import Derived.Test.YtcfbmglhikjahaaDoorRight
set_option linter.unusedVariables false
set_option linter.unusedSimpArgs false
namespace Go.Proofs.YtcfbmglhikjahaaDoor
open Go.RowKit Go.Proofs.YtcfbmglhikjahaaDoorW.PrintWords

def tagOk (n : Nat) : Bool := decide (n = 0 ∨ n = 32)
set_option maxRecDepth 100000 in
theorem tag_any (A : Option Addr) (n c : Nat) (w : World) :
    Calls Tryd.prog 52 #[.slice A n c] w fun e w' => e = .returned (.bool (tagOk n)) ∧ w = w' := by
  by_cases c1 : n = 0
  · subst c1
    have H := Lib.hid (show tagOk 0 = true by decide)
    go_enter Tryd.func52, Tryd.ntmps52
    go_wp2
    go_ret
    exact ⟨by rw [H.out]; rfl, rfl⟩
  · have k1 : ((n : Int) == 0) = false := by rw [beq_eq_false_iff_ne]; omega
    have k2 : (n == 0) = false := by rw [beq_eq_false_iff_ne]; omega
    by_cases c2 : n = 32
    · subst c2
      have H := Lib.hid (show tagOk 32 = true by decide)
      go_enter Tryd.func52, Tryd.ntmps52
      go_wp2
      go_ret
      exact ⟨by rw [H.out]; rfl, rfl⟩
    · have k3 : ((n : Int) == 32) = false := by rw [beq_eq_false_iff_ne]; omega
      have k4 : (n == 32) = false := by rw [beq_eq_false_iff_ne]; omega
      have H := Lib.hid (show tagOk n = false by simp [tagOk, c1, c2])
      go_enter Tryd.func52, Tryd.ntmps52
      go_wp2
      go_ret
      exact ⟨by rw [H.out]; rfl, rfl⟩

theorem box_one {W w1 : World} {o : Obj} (hb : Below (W.alloc o).heap.size (W.alloc o) w1) : Below W.heap.size W w1 := (below_box _ _).trans (hb.mono (by simp))
/-- a message's eight cells -/
def MC (A B S C M : Option Addr) (n m s k t : Nat) (c d sc kc tc : Nat) (ep fr kd : Int) : Array Value :=
  #[.slice A n c, .int .i64 ep, .int .i64 fr, .int .i64 kd, .slice B m d, .slice S s sc, .slice C k kc, .slice M t tc]
def messageOk (n : Nat) (ep fr kd : Int) (m s k t : Nat) : Bool := contentOk n ep fr kd m && (decide (s = 3309) && (tagOk k && tagOk t))

set_option maxRecDepth 100000 in
set_option maxHeartbeats 1000000 in
theorem rightm_any (A B S C M : Option Addr) (n m s k t : Nat) (c d sc kc tc : Nat) (ep fr kd : Int) (w : World) :
    Calls Tryd.prog 39 #[.agg #[.slice A n c, .int .i64 ep, .int .i64 fr, .int .i64 kd, .slice B m d, .slice S s sc, .slice C k kc, .slice M t tc]] w fun e w' => e = .returned (.bool (messageOk n ep fr kd m s k t)) ∧ Below w.heap.size w w' := by
  have key : ∀ (p q r u : Bool), contentOk n ep fr kd m = p → decide (s = 3309) = q → tagOk k = r → tagOk t = u → messageOk n ep fr kd m s k t = (p && (q && (r && u))) := by rintro p q r u rfl rfl rfl rfl; rfl
  have HP := Lib.hid (fun W => right_any A B n c m d ep fr kd W)
  have HT := Lib.hid (fun W => tag_any C k kc W)
  have HU := Lib.hid (fun W => tag_any M t tc W)
  rcases hp : contentOk n ep fr kd m with _ | _
  · have HQ : Hid (∀ W, Calls Tryd.prog 53 #[.agg #[.slice A n c, .int .i64 ep, .int .i64 fr, .int .i64 kd, .slice B m d]] W fun e w' => e = .returned (.bool false) ∧ Below W.heap.size W w') := Lib.hid (by rw [← hp]; exact HP.out)
    have H := Lib.hid (key false _ _ _ hp rfl rfl rfl)
    clear hp key HP
    go_enter Tryd.func39, Tryd.ntmps39
    go_wp2_with (go_at_call 53; refine (HQ.out _).mono ?_; rintro e w1 ⟨rfl, hb1⟩)
    go_ret
    exact ⟨by rw [H.out]; rfl, box_one hb1⟩
  · have HQ : Hid (∀ W, Calls Tryd.prog 53 #[.agg #[.slice A n c, .int .i64 ep, .int .i64 fr, .int .i64 kd, .slice B m d]] W fun e w' => e = .returned (.bool true) ∧ Below W.heap.size W w') := Lib.hid (by rw [← hp]; exact HP.out)
    by_cases c1 : s = 3309
    · subst c1
      rcases hr : tagOk k with _ | _
      · have HT1 : Hid (∀ W, Calls Tryd.prog 52 #[.slice C k kc] W fun e w' => e = .returned (.bool false) ∧ W = w') := Lib.hid (by rw [← hr]; exact HT.out)
        have H := Lib.hid (key true true false _ hp (by simp) hr rfl)
        clear hp key HP hr HT
        go_enter Tryd.func39, Tryd.ntmps39
        go_wp2_with (first | (go_at_call 53; refine (HQ.out _).mono ?_; rintro e w1 ⟨rfl, hb1⟩; have hk5 := box_cell hb1 5 _ rfl; have hk6 := box_cell hb1 6 _ rfl; have hk7 := box_cell hb1 7 _ rfl) | (go_at_call 52; refine (HT1.out _).mono ?_; rintro e w2 ⟨rfl, rfl⟩))
        go_ret
        exact ⟨by rw [H.out]; rfl, box_one hb1⟩
      · have HT1 : Hid (∀ W, Calls Tryd.prog 52 #[.slice C k kc] W fun e w' => e = .returned (.bool true) ∧ W = w') := Lib.hid (by rw [← hr]; exact HT.out)
        have H := Lib.hid (key true true true _ hp (by simp) hr rfl)
        clear hp key HP hr HT
        generalize tagOk t = b at *
        go_enter Tryd.func39, Tryd.ntmps39
        have tok : True := trivial
        go_wp2_with (first | (go_at_call 53; refine (HQ.out _).mono ?_; rintro e w1 ⟨rfl, hb1⟩; have hk5 := box_cell hb1 5 _ rfl; have hk6 := box_cell hb1 6 _ rfl; have hk7 := box_cell hb1 7 _ rfl) | (go_at_call 52; have _t := tok; refine (HT1.out _).mono ?_; rintro e w2 ⟨rfl, rfl⟩; clear tok) | (go_at_call 52; refine (HU.out _).mono ?_; rintro e w2 ⟨rfl, rfl⟩))
        go_ret
        exact ⟨by rw [H.out]; simp, box_one hb1⟩
    · have k1 : ((s : Int) == 3309) = false := by rw [beq_eq_false_iff_ne]; omega
      have k2 : (s == 3309) = false := by rw [beq_eq_false_iff_ne]; omega
      have H := Lib.hid (key true false _ _ hp (by simpa using c1) rfl rfl)
      clear hp key HP
      go_enter Tryd.func39, Tryd.ntmps39
      go_wp2_with (go_at_call 53; refine (HQ.out _).mono ?_; rintro e w1 ⟨rfl, hb1⟩; have hk5 := box_cell hb1 5 _ rfl; have hk6 := box_cell hb1 6 _ rfl; have hk7 := box_cell hb1 7 _ rfl)
      go_ret
      exact ⟨by rw [H.out]; rfl, box_one hb1⟩
end Go.Proofs.YtcfbmglhikjahaaDoor
