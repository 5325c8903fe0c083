/- package hub: Text; package sodalitylaw22: message, sealed. -/
import Derived.Test.YtcfbmglhikjahaaDoorSealedRound
import Derived.Test.YtcfbmglhikjahaaDoorHead
import Derived.Test.YtcfbmglhikjahaaDoorPutSealed
set_option linter.unusedVariables false
set_option linter.unusedSimpArgs false
namespace Go.Proofs.YtcfbmglhikjahaaDoor
open Go.RowKit Go.Proofs.YtcfbmglhikjahaaDoorW.PrintWords

/-- what GetSealed answers, its parts -/
def sgG (l : List Int) : List Int := if getsE l = 0 then rval l 0 0 0 else []
def sgB (l : List Int) : List Int := if getsE l = 0 then sBody l else []
def sgT (l : List Int) : Int := if getsE l = 0 then (rplE l 0 0).1 else 0
def sgF (l : List Int) : Int := if getsE l = 0 then (rplF l 0 0).1 else 0
def sgN (l : List Int) : Int := if getsE l = 0 then (sN l).1 else 0
theorem gets_any (A : Option Addr) (n c : Nat) (l : List Int) (w : World) (hG : Classes w) (h : Rd w A n l) (hc : n ≤ c) (hn : n ≤ 140737488355328) (hb : AllB l) :
    Calls Tryd.prog 47 #[.slice A n c] w fun x w' => ∃ vg vb, x = .returned (.tuple #[.agg #[vg, .int .i64 (sgT l), .int .i64 (sgF l), .int .i64 (sgN l), vb], .int .i64 (getsE l)]) ∧
      Ow w' w.heap.size vg (sgG l) ∧ Ow w' w.heap.size vb (sgB l) ∧ CN w w' := by
  refine (gets_post A n c l w hG h hc hn hb).mono fun x w' hp => ?_
  obtain ⟨p1, p2, p3⟩ := hp
  unfold sgG sgB sgT sgF sgN
  by_cases h0 : getsE l = 0
  · obtain ⟨vg, vb, rfl, o1, o2⟩ := p2 h0
    rw [if_pos h0, if_pos h0, if_pos h0, if_pos h0, if_pos h0, h0]
    exact ⟨vg, vb, rfl, o1, o2, p3⟩
  · rw [if_neg h0, if_neg h0, if_neg h0, if_neg h0, if_neg h0]
    exact ⟨_, _, p1 h0, own_nil _ _ _ _, own_nil _ _ _ _, p3⟩
theorem sgG_bytes (l : List Int) (hb : AllB l) : AllB (sgG l) := by
  unfold sgG
  split
  · exact (rval_bytes _ hb 0 0 0).1
  · exact AllB.nil
set_option maxRecDepth 100000 in
set_option maxHeartbeats 1000000 in
/-- (*Hub).text -/
theorem htext_any (g : Nat) (vq vp vg : Value) (A : Option Addr) (n c : Nat) (grp l : List Int) (ep : Int) (w : World) (hG : Classes w) (hh : IsHub w g vg ep vq vp) (B : Nat) (hg : Ow w B vg grp) (bg : AllB grp) (h : Rd w A n l) (hc : n ≤ c) (hn : n ≤ 140737488355328) (hb : AllB l) :
    Calls Tryd.prog 33 #[.pointer (some ⟨g, 0, none⟩), .slice A n c] w fun x w' => x = .returned (.tuple #[.bool (decide (sgG l = grp) && decide (sgT l = ep)), .bool false, .int .i64 (getsE l)]) ∧ CN w w' := by
  have HT := Lib.hid (gets_any A n c l w hG h hc hn hb)
  have HM := Lib.hid (sgG_bytes l hb)
  have HH := Lib.hid hh
  have HG := Lib.hid hg
  have HBG := Lib.hid bg
  obtain ⟨Ag, qg, rfl⟩ := own_slice hg
  clear hG hh h hb hg bg
  generalize sgT l = t at *
  generalize sgF l = fr at *
  generalize sgN l = gn at *
  generalize getsE l = er at *
  have fin : ∀ w1 : World, CN w w1 → ∀ Ax qx, Ow w1 w.heap.size (.slice Ax (sgG l).length qx) (sgG l) → Calls Tryd.prog 46 #[.pointer (some ⟨g, 0, none⟩), .slice Ax (sgG l).length qx, .int .i64 t] w1 fun e w' => e = .returned (.bool (decide (sgG l = grp) && decide (t = ep))) ∧ w1 = w' := by
    intro w1 hcn Ax qx ho
    obtain ⟨Ax', qx', e', hrx⟩ := own_reads ho
    injection e' with e1 _ _
    subst e1
    have hz : BF (fun _ => False) w w1 := BF.of_cn hcn
    have h1 : IsHub w1 g (.slice Ag grp.length qg) ep vq vp := hz.at HH.out (fun k => k)
    have h2 : Ow w1 B (.slice Ag grp.length qg) grp := hz.row HG.out (fun _ _ k => k)
    obtain ⟨A', q', e', hr'⟩ := own_reads h2
    injection e' with e1 e2 e3
    subst e1
    exact now_any g vq vp Ag Ax grp.length qg (sgG l).length qx grp (sgG l) ep t w1 h1 hr' hrx HBG.out HM.out
  have FIN := Lib.hid fin
  clear fin
  go_enter Tryd.func33, Tryd.ntmps33
  go_wp2_with fail
  refine HT.out.mono ?_
  rintro x w1 ⟨vg, vb, rfl, o0, ob, hcn⟩
  obtain ⟨Ag', qg', rfl⟩ := own_slice o0
  obtain ⟨Ab, qb, rfl⟩ := own_slice ob
  have HO := Lib.hid o0
  have HC := Lib.hid hcn
  clear hcn o0 ob
  go_wp2_with fail
  refine (FIN.out _ (HC.out.alloc _) _ _ ?_).mono ?_
  · exact HO.out.alloc _
  rintro e w2 ⟨rfl, rfl⟩
  go_wp2_with fail
  go_ret3
  exact ⟨rfl, HC.out.alloc _⟩

theorem txt_enter (args : Array Value) (W : World) : Sem.run Tryd.prog (callFunc 33 args) W = .ok (.enter 33 args) W := by
  kernel_rfl
section text
variable (g : Nat) (vg vq vp : Value) (A : Option Addr) (n c : Nat) (grp l : List Int) (ep : Int) (w : World) (B B0 m : Nat) (xs : List Value)
set_option maxRecDepth 100000 in
/-- Text of what is wrong, or of another epoch -/
theorem htext_bad (hG : Classes w) (hh : IsHub w g vg ep vq vp) (hg : Ow w B0 vg grp) (bg : AllB grp) (h : Rd w A n l) (hc : n ≤ c) (hn : n ≤ 1048576) (hb : AllB l) (r : Int) (hr : (getsE l ≠ 0 ∧ r = getsE l) ∨ (getsE l = 0 ∧ ¬ (sgG l = grp ∧ sgT l = ep) ∧ r = 221)) :
    Calls Tryd.prog 13 #[.pointer (some ⟨g, 0, none⟩), .slice A n c] w fun x w' => x = .returned (.tuple #[.int .i64 0, .int .i64 r]) ∧ CN w w' := by
  have HM := htext_any g vq vp vg A n c grp l ep w hG hh B0 hg bg h hc (by omega) hb
  have HT : Hid (Calls Tryd.prog 31 #[.pointer (some ⟨g, 0, none⟩), .int .i64 3, .slice A n c, .func (.func 33) #[.pointer (some ⟨g, 0, none⟩)] #[]] w fun x w' => x = .returned (.tuple #[.int .i64 0, .int .i64 r]) ∧ CN w w') := by
    refine Lib.hid ?_
    rcases hr with ⟨h1, rfl⟩ | ⟨h1, h2, rfl⟩
    · exact take_err g 33 _ A n c 3 _ _ _ w txt_enter HM h1
    · rw [h1] at HM
      have : (decide (sgG l = grp) && decide (sgT l = ep)) = false := by
        rw [Bool.eq_false_iff]; intro k; simp only [Bool.and_eq_true, decide_eq_true_eq] at k; exact h2 k
      rw [this] at HM
      exact take_stale g 33 _ A n c 3 _ w txt_enter HM
  clear hG hh hg bg h hb hr HM
  go_enter Tryd.func13, Tryd.ntmps13
  go_wp2_with fail
  refine HT.out.mono ?_
  rintro x w1 ⟨rfl, hc1⟩
  go_wp2
  go_ret2
  exact ⟨rfl, hc1⟩
set_option maxRecDepth 100000 in
/-- Text -/
theorem htext_good (hG : Classes w) (hh : IsHub w g vg ep vq vp) (hg : Ow w B0 vg grp) (bg : AllB grp) (h : Rd w A n l) (hc : n ≤ c) (hn : n ≤ 1048576) (hb : AllB l) (he : getsE l = 0) (h1 : sgG l = grp) (h2 : sgT l = ep)
    (hB : B ≤ w.heap.size) (hq : w.ownsRow B 45 3 vq m xs) (hvp : vp.ownBlock ≠ some g) (hm : m < 1000) (e0 : 0 ≤ ep) (e1 : ep ≤ 1099511627776) :
    Calls Tryd.prog 13 #[.pointer (some ⟨g, 0, none⟩), .slice A n c] w fun x w' => ∃ v1 v, x = .returned (.tuple #[.int .i64 m, .int .i64 0]) ∧
      IsHub w' g vg ep v1 vp ∧ w'.ownsRow B 45 3 v1 (m + 1) (xs ++ [Value.int .i64 3, Value.int .i64 ep, v]) ∧ Ow w' w.heap.size v l ∧ (v1.ownBlock = vq.ownBlock ∨ ∃ k, v1.ownBlock = some k ∧ w.heap.size ≤ k) ∧ BF (HS g vq vp) w w' := by
  have HM := htext_any g vq vp vg A n c grp l ep w hG hh B0 hg bg h hc (by omega) hb
  have hnw : (decide (sgG l = grp) && decide (sgT l = ep)) = true := by simp [h1, h2]
  rw [he, hnw] at HM
  have HT := Lib.hid (take_good g vg vq vp 33 _ A n c 3 ep false w m B xs l hh hB hq hvp h hn hm e0 e1 txt_enter HM)
  rw [if_neg (by decide)] at HT
  clear hG hh hg bg h hb HM hq
  go_enter Tryd.func13, Tryd.ntmps13
  go_wp2_with fail
  refine HT.out.mono ?_
  rintro x w1 ⟨v1, v, rfl, r1, r2, r3, r4, r5⟩
  go_wp2
  go_ret2
  exact ⟨v1, v, rfl, r1, r2, r3, r4, r5⟩
end text
end Go.Proofs.YtcfbmglhikjahaaDoor
