/- package frame's reader: end. -/
import Derived.Test.YtcfbmglhikjahaaDoorReader
set_option linter.unusedVariables false
set_option linter.unusedSimpArgs false
namespace Go.Proofs.YtcfbmglhikjahaaDoor
open Go.RowKit Go.Proofs.YtcfbmglhikjahaaDoorW.PrintWords

/-- nothing turned -/
abbrev CN (w w' : World) : Prop := CF (fun _ _ => False) w w'
theorem CN.drewN (w : World) (k : Nat) : CN w (w.drewN k) := by
  induction k with
  | zero => exact CF.refl _ _
  | succ k ih => rw [← World.drew_drewN]; exact ih.drew
def endR (n : Nat) (a e : Int) (ok : Bool) : Int := if e = 0 ∧ (a ≠ n ∨ ok = false) then 181 else e
set_option maxRecDepth 100000 in
set_option maxHeartbeats 1000000 in
/-- (*reader).end -/
theorem rend_any (g : Nat) (A : Option Addr) (n c : Nat) (a e : Int) (ok : Bool) (w : World) (hI : RC w g A n c a e) :
    Calls Tryd.prog 38 #[.pointer (some ⟨g, 0, none⟩), .bool ok] w fun x w' => x = .returned (.int .i64 (endR n a e ok)) ∧ CN w w' := by
  obtain ⟨c0, c1, c2, f0, f1, f2⟩ := hI
  by_cases he : e = 0
  · subst he
    by_cases ha : a = n
    · subst ha
      cases ok
      · have H := Lib.hid (show endR n n 0 false = 181 by simp [endR])
        go_enter Tryd.func38, Tryd.ntmps38
        go_wp2_with fail
        go_quiet (fail)
        go_wp2
        go_ret
        exact ⟨by rw [H.out]; rfl, CN.drewN _ _⟩
      · have H := Lib.hid (show endR n n 0 true = 0 by simp [endR])
        go_enter Tryd.func38, Tryd.ntmps38
        go_wp2_with fail
        go_quiet (fail)
        go_wp2
        go_ret
        exact ⟨by rw [H.out]; rfl, CN.drewN _ _⟩
    · have H := Lib.hid (show endR n a 0 ok = 181 by simp [endR, ha])
      have k1 : (a != (n : Int)) = true := by rw [bne_iff_ne]; exact ha
      have k2 : (a == (n : Int)) = false := by rw [beq_eq_false_iff_ne]; exact ha
      go_enter Tryd.func38, Tryd.ntmps38
      go_wp2_with fail
      go_quiet (fail)
      go_wp2
      go_ret
      exact ⟨by rw [H.out]; rfl, CN.drewN _ _⟩
  · have H := Lib.hid (show endR n a e ok = e by simp [endR, he])
    have k1 : (e == 0) = false := by rw [beq_eq_false_iff_ne]; exact he
    go_enter Tryd.func38, Tryd.ntmps38
    go_wp2_with fail
    go_quiet (fail)
    go_wp2
    go_ret
    exact ⟨by rw [H.out]; rfl, CN.drewN _ _⟩
end Go.Proofs.YtcfbmglhikjahaaDoor
