/- package hub: Post. -/
import Derived.Test.YtcfbmglhikjahaaDoorTake
set_option linter.unusedVariables false
set_option linter.unusedSimpArgs false
namespace Go.Proofs.YtcfbmglhikjahaaDoor
open Go.RowKit Go.Proofs.YtcfbmglhikjahaaDoorW.PrintWords

theorem msg_enter (args : Array Value) (W : World) : Sem.run Tryd.prog (callFunc 32 args) W = .ok (.enter 32 args) W := by
  kernel_rfl
section post
variable (g : Nat) (vg vq vp : Value) (A : Option Addr) (n c : Nat) (grp l : List Int) (ep : Int) (w : World) (B B0 m : Nat) (xs : List Value)
set_option maxRecDepth 100000 in
/-- Post of what is wrong, or of another epoch -/
theorem post_bad (hG : Classes w) (hh : IsHub w g vg ep vq vp) (hg : Ow w B0 vg grp) (bg : AllB grp) (h : Rd w A n l) (hc : n ≤ c) (hn : n ≤ 1048576) (hb : AllB l) (r : Int) (hr : (mE l ≠ 0 ∧ r = mE l) ∨ (mE l = 0 ∧ ¬ (mG l = grp ∧ mT l = ep) ∧ r = 221)) :
    Calls Tryd.prog 11 #[.pointer (some ⟨g, 0, none⟩), .slice A n c] w fun x w' => x = .returned (.tuple #[.int .i64 0, .int .i64 r]) ∧ CN w w' := by
  have HM := hmsg_any g vq vp vg A n c grp l ep w hG hh B0 hg bg h hc (by omega) hb
  have HT : Hid (Calls Tryd.prog 31 #[.pointer (some ⟨g, 0, none⟩), .int .i64 1, .slice A n c, .func (.func 32) #[.pointer (some ⟨g, 0, none⟩)] #[]] w fun x w' => x = .returned (.tuple #[.int .i64 0, .int .i64 r]) ∧ CN w w') := by
    refine Lib.hid ?_
    rcases hr with ⟨h1, rfl⟩ | ⟨h1, h2, rfl⟩
    · exact take_err g 32 _ A n c 1 _ _ _ w msg_enter HM h1
    · rw [h1] at HM
      have : (decide (mG l = grp) && decide (mT l = ep)) = false := by
        rw [Bool.eq_false_iff]; intro k; simp only [Bool.and_eq_true, decide_eq_true_eq] at k; exact h2 k
      rw [this] at HM
      exact take_stale g 32 _ A n c 1 _ w msg_enter HM
  clear hG hh hg bg h hb hr HM
  go_enter Tryd.func11, Tryd.ntmps11
  go_wp2_with fail
  refine HT.out.mono ?_
  rintro x w1 ⟨rfl, hc1⟩
  go_wp2
  go_ret2
  exact ⟨rfl, hc1⟩
set_option maxRecDepth 100000 in
/-- Post -/
theorem post_good (hG : Classes w) (hh : IsHub w g vg ep vq vp) (hg : Ow w B0 vg grp) (bg : AllB grp) (h : Rd w A n l) (hc : n ≤ c) (hn : n ≤ 1048576) (hb : AllB l) (he : mE l = 0) (h1 : mG l = grp) (h2 : mT l = ep)
    (hB : B ≤ w.heap.size) (hq : w.ownsRow B 45 3 vq m xs) (hvp : vp.ownBlock ≠ some g) (hm : m < 1000) (e0 : 0 ≤ ep) (e1 : ep ≤ 1099511627776) :
    Calls Tryd.prog 11 #[.pointer (some ⟨g, 0, none⟩), .slice A n c] w fun x w' => ∃ v1 v, x = .returned (.tuple #[.int .i64 m, .int .i64 0]) ∧
      IsHub w' g vg (if mK l = 4 then ep + 1 else ep) v1 vp ∧ w'.ownsRow B 45 3 v1 (m + 1) (xs ++ [Value.int .i64 1, Value.int .i64 ep, v]) ∧ Ow w' w.heap.size v l ∧ (v1.ownBlock = vq.ownBlock ∨ ∃ k, v1.ownBlock = some k ∧ w.heap.size ≤ k) ∧ BF (HS g vq vp) w w' := by
  have HM := hmsg_any g vq vp vg A n c grp l ep w hG hh B0 hg bg h hc (by omega) hb
  have hnw : (decide (mG l = grp) && decide (mT l = ep)) = true := by simp [h1, h2]
  rw [he, hnw] at HM
  have HT := Lib.hid (take_good g vg vq vp 32 _ A n c 1 ep (decide (mK l = 4)) w m B xs l hh hB hq hvp h hn hm e0 e1 msg_enter HM)
  obtain ⟨ep', hep⟩ : ∃ e, e = if mK l = 4 then ep + 1 else ep := ⟨_, rfl⟩
  have hep2 : (if decide (mK l = 4) = true then ep + 1 else ep) = ep' := by rw [hep]; by_cases k : mK l = 4 <;> simp [k]
  rw [hep2] at HT
  rw [← hep]
  clear hG hh hg bg h hb HM hq hep hep2
  go_enter Tryd.func11, Tryd.ntmps11
  go_wp2_with fail
  refine HT.out.mono ?_
  rintro x w1 ⟨v1, v, rfl, r1, r2, r3, r4, r5⟩
  go_wp2
  go_ret2
  exact ⟨v1, v, rfl, r1, r2, r3, r4, r5⟩
end post
end Go.Proofs.YtcfbmglhikjahaaDoor
