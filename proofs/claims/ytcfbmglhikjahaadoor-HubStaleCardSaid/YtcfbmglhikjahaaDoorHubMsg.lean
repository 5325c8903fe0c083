/- package frame: Get of any bytes; package hub: how a message is looked at. -/
import Derived.Test.YtcfbmglhikjahaaDoorHub
set_option linter.unusedVariables false
set_option linter.unusedSimpArgs false
namespace Go.Proofs.YtcfbmglhikjahaaDoor
open Go.RowKit Go.Proofs.YtcfbmglhikjahaaDoorW.PrintWords

/-- what Get answers, its parts -/
def mG (l : List Int) : List Int := if getE l = 0 then rval (gIn l) 0 0 0 else []
def mB (l : List Int) : List Int := if getE l = 0 then gBody (gIn l) else []
def mX (l : List Int) (k : Nat) : List Int := if getE l = 0 then rval l 0 0 k else []
def mT (l : List Int) : Int := if getE l = 0 then (rplE (gIn l) 0 0).1 else 0
def mF (l : List Int) : Int := if getE l = 0 then (rplF (gIn l) 0 0).1 else 0
def mK (l : List Int) : Int := if getE l = 0 then (gK (gIn l)).1 else 0
theorem get_any (A : Option Addr) (n c : Nat) (l : List Int) (w : World) (hG : Classes w) (h : Rd w A n l) (hc : n ≤ c) (hn : n ≤ 140737488355328) (hb : AllB l) :
    Calls Tryd.prog 19 #[.slice A n c] w fun x w' => ∃ vg vb v1 v2 v3, x = .returned (.tuple #[.agg #[vg, .int .i64 (mT l), .int .i64 (mF l), .int .i64 (mK l), vb, v1, v2, v3], .int .i64 (getE l)]) ∧
      Ow w' w.heap.size vg (mG l) ∧ Ow w' w.heap.size vb (mB l) ∧ Ow w' w.heap.size v1 (mX l 1) ∧ Ow w' w.heap.size v2 (mX l 2) ∧ Ow w' w.heap.size v3 (mX l 3) ∧ CN w w' := by
  have nil : ∀ w', Ow w' w.heap.size (.slice none 0 0) [] := fun w' => own_nil _ _ _ _
  by_cases he : (gR l).2 = 0
  · refine (get_rest A n c l w hG h hc hn hb he).mono fun x w' hp => ?_
    obtain ⟨p1, p2, p3⟩ := hp
    unfold mG mB mX mT mF mK
    by_cases h0 : getE l = 0
    · obtain ⟨vg, vb, v1, v2, v3, rfl, o1, o2, o3, o4, o5⟩ := p2 h0
      rw [if_pos h0, if_pos h0, if_pos h0, if_pos h0, if_pos h0, if_pos h0, if_pos h0, if_pos h0, h0]
      exact ⟨vg, vb, v1, v2, v3, rfl, o1, o2, o3, o4, o5, p3⟩
    · rw [if_neg h0, if_neg h0, if_neg h0, if_neg h0, if_neg h0, if_neg h0, if_neg h0, if_neg h0]
      exact ⟨_, _, _, _, _, p1 h0, nil _, nil _, nil _, nil _, nil _, p3⟩
  · refine (get_bad1 A n c l w hG h hc hn hb he).mono fun x w' hp => ?_
    obtain ⟨p1, p3⟩ := hp
    have e : getE l = (gR l).2 := by unfold getE; rw [if_pos he]
    have h0 : ¬ getE l = 0 := by rw [e]; exact he
    unfold mG mB mX mT mF mK
    rw [if_neg h0, if_neg h0, if_neg h0, if_neg h0, if_neg h0, if_neg h0, if_neg h0, if_neg h0, e]
    exact ⟨_, _, _, _, _, p1, nil _, nil _, nil _, nil _, nil _, p3⟩
theorem mG_bytes (l : List Int) (hb : AllB l) : AllB (mG l) := by
  unfold mG
  split
  · exact (rval_bytes _ (rval_bytes l hb 0 0 0).1 0 0 0).1
  · exact AllB.nil
/-- the error of a message that a hub looks at -/
def mE (l : List Int) : Int := if getE l = 0 ∧ mK l = 5 then 181 else getE l
set_option maxRecDepth 100000 in
set_option maxHeartbeats 1000000 in
/-- (*Hub).message -/
theorem hmsg_any (g : Nat) (vq vp vg : Value) (A : Option Addr) (n c : Nat) (grp l : List Int) (ep : Int) (w : World) (hG : Classes w) (hh : IsHub w g vg ep vq vp) (B : Nat) (hg : Ow w B vg grp) (bg : AllB grp) (h : Rd w A n l) (hc : n ≤ c) (hn : n ≤ 140737488355328) (hb : AllB l) :
    Calls Tryd.prog 32 #[.pointer (some ⟨g, 0, none⟩), .slice A n c] w fun x w' => x = .returned (.tuple #[.bool (decide (mG l = grp) && decide (mT l = ep)), .bool (decide (mK l = 4)), .int .i64 (mE l)]) ∧ CN w w' := by
  have HT := Lib.hid (get_any A n c l w hG h hc hn hb)
  have HM := Lib.hid (mG_bytes l hb)
  have HH := Lib.hid hh
  have HG := Lib.hid hg
  have HBG := Lib.hid bg
  obtain ⟨Ag, qg, rfl⟩ := own_slice hg
  have HE := Lib.hid (show mE l = if getE l = 0 ∧ mK l = 5 then 181 else getE l from rfl)
  clear hG hh h hb hg bg
  generalize mE l = r at *
  generalize mT l = t at *
  generalize mK l = kd at *
  generalize mF l = fr at *
  generalize getE l = er at *
  have fin : ∀ w1 : World, CN w w1 → ∀ Ax qx, Ow w1 w.heap.size (.slice Ax (mG l).length qx) (mG l) → Calls Tryd.prog 46 #[.pointer (some ⟨g, 0, none⟩), .slice Ax (mG l).length qx, .int .i64 t] w1 fun e w' => e = .returned (.bool (decide (mG l = grp) && decide (t = ep))) ∧ w1 = w' := by
    intro w1 hcn Ax qx ho
    obtain ⟨Ax', qx', e', hrx⟩ := own_reads ho
    injection e' with e1 _ _
    subst e1
    have hz : BF (fun _ => False) w w1 := BF.of_cn hcn
    have h1 : IsHub w1 g (.slice Ag grp.length qg) ep vq vp := hz.at HH.out (fun k => k)
    have h2 : Ow w1 B (.slice Ag grp.length qg) grp := hz.row HG.out (fun _ _ k => k)
    obtain ⟨A', q', e', hr'⟩ := own_reads h2
    injection e' with e1 e2 e3
    subst e1
    exact now_any g vq vp Ag Ax grp.length qg (mG l).length qx grp (mG l) ep t w1 h1 hr' hrx HBG.out HM.out
  have FIN := Lib.hid fin
  clear fin
  by_cases h0 : er = 0
  · subst h0
    by_cases h5 : kd = 5
    · subst h5
      have HR : r = 181 := by rw [HE.out]; simp
      subst HR
      go_enter Tryd.func32, Tryd.ntmps32
      go_wp2_with fail
      refine HT.out.mono ?_
      rintro x w1 ⟨vg, vb, v1, v2, v3, rfl, o0, ob, o1, o2, o3, hcn⟩
      obtain ⟨Ag', qg', rfl⟩ := own_slice o0
      obtain ⟨Ab, qb, rfl⟩ := own_slice ob
      obtain ⟨A1, q1, rfl⟩ := own_slice o1
      obtain ⟨A2, q2, rfl⟩ := own_slice o2
      obtain ⟨A3, q3, rfl⟩ := own_slice o3
      have HO := Lib.hid o0
      have HC := Lib.hid hcn
      clear hcn o0 ob o1 o2 o3
      go_wp2_with fail
      go_region_law ((go_simp; go_at_call 46; refine (FIN.out _ (((HC.out.alloc _).alloc _).drew) _ _ ?_).mono ?_; exact (HO.out.alloc _).alloc _; rintro e w2 ⟨rfl, rfl⟩))
      all_goals
        go_wp2
        go_ret3
        exact ⟨rfl, ((HC.out.alloc _).alloc _).drew⟩
    · have k5 : (kd == 5) = false := beq_eq_false_iff_ne.2 h5
      have HR : r = 0 := by rw [HE.out]; simp [h5]
      subst HR
      by_cases h4 : kd = 4
      · subst h4
        go_enter Tryd.func32, Tryd.ntmps32
        go_wp2_with fail
        refine HT.out.mono ?_
        rintro x w1 ⟨vg, vb, v1, v2, v3, rfl, o0, ob, o1, o2, o3, hcn⟩
        obtain ⟨Ag', qg', rfl⟩ := own_slice o0
        obtain ⟨Ab, qb, rfl⟩ := own_slice ob
        obtain ⟨A1, q1, rfl⟩ := own_slice o1
        obtain ⟨A2, q2, rfl⟩ := own_slice o2
        obtain ⟨A3, q3, rfl⟩ := own_slice o3
        have HO := Lib.hid o0
        have HC := Lib.hid hcn
        clear hcn o0 ob o1 o2 o3
        go_wp2_with fail
        go_region_law ((go_simp; go_at_call 46; refine (FIN.out _ (((HC.out.alloc _).alloc _).drew) _ _ ?_).mono ?_; exact (HO.out.alloc _).alloc _; rintro e w2 ⟨rfl, rfl⟩))
        all_goals
          go_wp2
          go_ret3
          exact ⟨rfl, ((HC.out.alloc _).alloc _).drew⟩
      · have k4 : (kd == 4) = false := beq_eq_false_iff_ne.2 h4
        have d4 : decide (kd = 4) = false := decide_eq_false h4
        rw [d4]
        go_enter Tryd.func32, Tryd.ntmps32
        go_wp2_with fail
        refine HT.out.mono ?_
        rintro x w1 ⟨vg, vb, v1, v2, v3, rfl, o0, ob, o1, o2, o3, hcn⟩
        obtain ⟨Ag', qg', rfl⟩ := own_slice o0
        obtain ⟨Ab, qb, rfl⟩ := own_slice ob
        obtain ⟨A1, q1, rfl⟩ := own_slice o1
        obtain ⟨A2, q2, rfl⟩ := own_slice o2
        obtain ⟨A3, q3, rfl⟩ := own_slice o3
        have HO := Lib.hid o0
        have HC := Lib.hid hcn
        clear hcn o0 ob o1 o2 o3
        go_wp2_with fail
        go_region_law ((go_simp; go_at_call 46; refine (FIN.out _ (((HC.out.alloc _).alloc _).drew) _ _ ?_).mono ?_; exact (HO.out.alloc _).alloc _; rintro e w2 ⟨rfl, rfl⟩))
        all_goals
          go_wp2
          go_ret3
          exact ⟨rfl, ((HC.out.alloc _).alloc _).drew⟩
  · have k0 : (er == 0) = false := beq_eq_false_iff_ne.2 h0
    have HR : r = er := by rw [HE.out]; simp [h0]
    subst HR
    by_cases h4 : kd = 4
    · subst h4
      go_enter Tryd.func32, Tryd.ntmps32
      go_wp2_with fail
      refine HT.out.mono ?_
      rintro x w1 ⟨vg, vb, v1, v2, v3, rfl, o0, ob, o1, o2, o3, hcn⟩
      obtain ⟨Ag', qg', rfl⟩ := own_slice o0
      obtain ⟨Ab, qb, rfl⟩ := own_slice ob
      obtain ⟨A1, q1, rfl⟩ := own_slice o1
      obtain ⟨A2, q2, rfl⟩ := own_slice o2
      obtain ⟨A3, q3, rfl⟩ := own_slice o3
      have HO := Lib.hid o0
      have HC := Lib.hid hcn
      clear hcn o0 ob o1 o2 o3
      go_wp2_with fail
      go_region_law ((go_simp; go_at_call 46; refine (FIN.out _ (((HC.out.alloc _).alloc _).drew) _ _ ?_).mono ?_; exact (HO.out.alloc _).alloc _; rintro e w2 ⟨rfl, rfl⟩))
      all_goals
        go_wp2
        go_ret3
        exact ⟨rfl, ((HC.out.alloc _).alloc _).drew⟩
    · have k4 : (kd == 4) = false := beq_eq_false_iff_ne.2 h4
      have d4 : decide (kd = 4) = false := decide_eq_false h4
      rw [d4]
      go_enter Tryd.func32, Tryd.ntmps32
      go_wp2_with fail
      refine HT.out.mono ?_
      rintro x w1 ⟨vg, vb, v1, v2, v3, rfl, o0, ob, o1, o2, o3, hcn⟩
      obtain ⟨Ag', qg', rfl⟩ := own_slice o0
      obtain ⟨Ab, qb, rfl⟩ := own_slice ob
      obtain ⟨A1, q1, rfl⟩ := own_slice o1
      obtain ⟨A2, q2, rfl⟩ := own_slice o2
      obtain ⟨A3, q3, rfl⟩ := own_slice o3
      have HO := Lib.hid o0
      have HC := Lib.hid hcn
      clear hcn o0 ob o1 o2 o3
      go_wp2_with fail
      go_region_law ((go_simp; go_at_call 46; refine (FIN.out _ (((HC.out.alloc _).alloc _).drew) _ _ ?_).mono ?_; exact (HO.out.alloc _).alloc _; rintro e w2 ⟨rfl, rfl⟩))
      all_goals
        go_wp2
        go_ret3
        exact ⟨rfl, ((HC.out.alloc _).alloc _).drew⟩
end Go.Proofs.YtcfbmglhikjahaaDoor
