/- package frame: Get, to its end. -/
import Derived.Test.YtcfbmglhikjahaaDoorGetN
set_option linter.unusedVariables false
set_option linter.unusedSimpArgs false
namespace Go.Proofs.YtcfbmglhikjahaaDoor
open Go.RowKit Go.Proofs.YtcfbmglhikjahaaDoorW.PrintWords

set_option maxRecDepth 100000 in
set_option maxHeartbeats 4000000 in
theorem get_rest (A : Option Addr) (n c : Nat) (l : List Int) (w : World) (hG : Classes w) (h : Rd w A n l) (hc : n ≤ c) (hn : n ≤ 140737488355328) (hb : AllB l) (he : (gR l).2 = 0) :
    Calls Tryd.prog 19 #[.slice A n c] w (GetPost w l) := by
  have HT := Lib.hid (get_text A n c l w hG h hc hn hb)
  have hGw := World.block_lt_of_cell? w _ hG.1
  simp only at hGw
  have HG := Lib.hid hG
  have hxb := (rval_bytes l hb 0 0 0).1
  have hxl := (rval_bytes l hb 0 0 0).2
  have hxl' : (gIn l).length ≤ 140737488355328 := by have := h.1; unfold gIn; omega
  have HXB := Lib.hid (show AllB (gIn l) from hxb)
  have HE := Lib.hid he
  have HL := Lib.hid h.1
  unfold gW at HT
  clear hG h hb he hxb hxl
  go_enter Tryd.func19, Tryd.ntmps19
  go_wp2_with fail
  refine HT.out.mono ?_
  rintro x w5 ⟨rfl, hI5, hv5, hF5⟩
  obtain ⟨hr, hcn, hsz, hz, hm, A0, q0, v1, v2, v3, hin, hrd, hA0, hq0, m5, m6, m7, o1, o2, o3⟩ := get5 hI5 hv5 hF5
  obtain ⟨A1, q1, rfl⟩ := own_slice o1
  obtain ⟨A2, q2, rfl⟩ := own_slice o2
  obtain ⟨A3, q3, rfl⟩ := own_slice o3
  clear hI5 hv5 hF5 HT
  have i2 := hr.c2
  rw [HE.out] at i2
  have HCL := Lib.hid (HG.out.cf hcn (fun _ h => h))
  have HPL := Lib.hid (rplace_any (w.heap.size + 2) A0 (gIn l).length q0 (gIn l) 0 0 w5 hin HCL.out (by omega) hrd (fun _ ad e => by have := hA0 ad e; omega) hq0 hxl' HXB.out (fun _ => by omega))
  have HR := Lib.hid hr
  have HZ := Lib.hid hz
  have HM := Lib.hid hm
  have HCN := Lib.hid hcn
  have HRD := Lib.hid hrd
  have HA0 := Lib.hid hA0
  have HM5 := Lib.hid (And.intro m5 (And.intro m6 m7))
  have HO := Lib.hid (And.intro o1 (And.intro o2 o3))
  clear hin hr hz hm hcn hrd hA0 m5 m6 m7 o1 o2 o3
  go_wp2_with fail
  refine HPL.out.mono ?_
  rintro x w6 ⟨vg, rfl, og, hin6, hF6⟩
  obtain ⟨Ag, qg, rfl⟩ := own_slice og
  have hs6 := hF6.size
  -- the box of the place
  obtain ⟨W7, hW7⟩ : ∃ W7, W7 = w6.alloc (.cells #[.slice Ag (rval (gIn l) 0 0 0).length qg, .int .i64 (rplE (gIn l) 0 0).1, .int .i64 (rplF (gIn l) 0 0).1] 75) := ⟨_, rfl⟩
  have hb7 : Below w6.heap.size w6 W7 := by rw [hW7]; exact below_box _ _
  have hF7 : CF (TR (w.heap.size + 2)) w5 W7 := hF6.trans (CF.of_below hb7)
  have hin7 : RC W7 (w.heap.size + 2) A0 (gIn l).length q0 (rplF (gIn l) 0 0).2.1 (rplF (gIn l) 0 0).2.2 := hin6.cf (T := fun _ _ => False) (CF.of_below hb7) (fun h => h) (fun h => h) (fun h => h)
  have hp7 : W7.heap[w6.heap.size]? = some (.cells #[.slice Ag (rval (gIn l) 0 0 0).length qg, .int .i64 (rplE (gIn l) 0 0).1, .int .i64 (rplF (gIn l) 0 0).1] 75 (0, 0)) := by rw [hW7]; exact heap_alloc_new _ _
  have hrd7 : Rd W7 A0 (gIn l).length (gIn l) := HRD.out.cf hF7 (fun _ ad e o h => by have := HA0.out ad e; have := h.1; omega)
  have og7 := pw_own_below og hb7
  have hin71 := rnum_in (gIn l) (rplE (gIn l) 0 0).2.1 (rplE (gIn l) 0 0).2.2 4 (rnum_in (gIn l) (rst (gIn l) 0 0 1).1 (rst (gIn l) 0 0 1).2 8 (rst_in (gIn l) HXB.out 0 0 (fun _ => by omega) 1))
  have HN := Lib.hid (rnumber_any (w.heap.size + 2) A0 (gIn l).length q0 (gIn l) (rplF (gIn l) 0 0).2.1 (rplF (gIn l) 0 0).2.2 1 (by omega) W7.drew hin7.drew (show Rd W7.drew A0 _ _ from hrd7) hq0 hxl' HXB.out hin71)
  have HK := Lib.hid (show gK (gIn l) = rnum (gIn l) (rplF (gIn l) 0 0).2.1 (rplF (gIn l) 0 0).2.2 1 from rfl)
  rw [← HK.out] at HN
  have p0 : W7.cell? ⟨w6.heap.size, 0, none⟩ = some (.slice Ag (rval (gIn l) 0 0 0).length qg) := (Cl.block hp7 0 _ rfl).c
  have p1 : W7.cell? ⟨w6.heap.size, 1, none⟩ = some (.int .i64 (rplE (gIn l) 0 0).1) := (Cl.block hp7 1 _ rfl).c
  have p2 : W7.cell? ⟨w6.heap.size, 2, none⟩ = some (.int .i64 (rplF (gIn l) 0 0).1) := (Cl.block hp7 2 _ rfl).c
  have HP := Lib.hid (And.intro p0 (And.intro p1 p2))
  have HOG := Lib.hid og7
  have HF7 := Lib.hid hF7
  have hs7 : W7.heap.size = w6.heap.size + 1 := by rw [hW7]; simp
  have M0 : Hid (Cl W7 (w.heap.size + 1) 0 (.slice none 0 0)) := Lib.hid ((HM.out 0 _ (by omega) rfl).cf hF7 (TR_ne (by omega)))
  have M1 : Hid (Cl W7 (w.heap.size + 1) 1 (.int .i64 0)) := Lib.hid ((HM.out 1 _ (by omega) rfl).cf hF7 (TR_ne (by omega)))
  have M2 : Hid (Cl W7 (w.heap.size + 1) 2 (.int .i64 0)) := Lib.hid ((HM.out 2 _ (by omega) rfl).cf hF7 (TR_ne (by omega)))
  have M3 : Hid (Cl W7 (w.heap.size + 1) 3 (.int .i64 0)) := Lib.hid ((HM.out 3 _ (by omega) rfl).cf hF7 (TR_ne (by omega)))
  have M4 : Hid (Cl W7 (w.heap.size + 1) 4 (.slice none 0 0)) := Lib.hid ((HM.out 4 _ (by omega) rfl).cf hF7 (TR_ne (by omega)))
  generalize hep : (rplE (gIn l) 0 0).1 = ep at *
  generalize hfr : (rplF (gIn l) 0 0).1 = fr at *
  have HEP := Lib.hid hep
  have HFR := Lib.hid hfr
  clear hep hfr
  have HS7 := Lib.hid hs7
  have HF6 := Lib.hid hF6
  clear og7 hF7 hF6 hin7 hp7 hrd7 hb7 og hin6 hs7 hin71 p0 p1 p2
  go_wp2_with fail
  rw [← hW7]
  have P0 := Lib.hid (show W7.drew.cell? ⟨w6.heap.size, 0, none⟩ = some (.slice Ag (rval (gIn l) 0 0 0).length qg) from HP.out.1)
  have P1 := Lib.hid (show W7.drew.cell? ⟨w6.heap.size, 1, none⟩ = some (.int .i64 ep) from HP.out.2.1)
  have P2 := Lib.hid (show W7.drew.cell? ⟨w6.heap.size, 2, none⟩ = some (.int .i64 fr) from HP.out.2.2)
  clear hW7
  generalize hkk : gK (gIn l) = K at *
  obtain ⟨kd, ka, ke⟩ := K
  have HKK := Lib.hid hkk
  clear hkk
  have htr : ∀ b o, b ≠ w.heap.size + 2 → ¬ TR (w.heap.size + 2) b o := fun b o h => TR_ne h
  have HTR := Lib.hid htr
  have hne1 := Lib.hid (show w6.heap.size ≠ w.heap.size + 2 by omega)
  have hne2 := Lib.hid (show w.heap.size + 1 ≠ w6.heap.size by omega)
  have hne3 := Lib.hid (show w.heap.size + 1 ≠ w.heap.size + 2 by omega)
  clear htr
  go_region_held3 (fun w' => w'.cell? ⟨w6.heap.size, 0, none⟩ = some (.slice Ag (rval (gIn l) 0 0 0).length qg) ∧ w'.cell? ⟨w6.heap.size, 1, none⟩ = some (.int .i64 ep) ∧ w'.cell? ⟨w6.heap.size, 2, none⟩ = some (.int .i64 fr))
    (first | (with_reducible exact ⟨P0.out, P1.out, P2.out⟩) | (with_reducible exact ⟨s0, s1, s2⟩) | (with_reducible exact ⟨(set5_cell _ _ _ _ _ hne2.out).trans s0, (set5_cell _ _ _ _ _ hne2.out).trans s1, (set5_cell _ _ _ _ _ hne2.out).trans s2⟩))
    (first | (go_at_call 37; refine HN.out.mono ?_; rintro x w8 ⟨rfl, hin8', hF8'⟩; have hF8 : CF (TR (w.heap.size + 2)) W7 w8 := (CF.drew (CF.refl _ W7)).trans hF8'; have hin8 := Lib.hid hin8'; have s0 := hF8.at (HTR.out _ 0 hne1.out) HP.out.1; have s1 := hF8.at (HTR.out _ 1 hne1.out) HP.out.2.1; have s2 := hF8.at (HTR.out _ 2 hne1.out) HP.out.2.2; have ⟨m0c, m0f⟩ := M0.out.cf hF8 (HTR.out _ 0 hne3.out); have ⟨m1c, m1f⟩ := M1.out.cf hF8 (HTR.out _ 1 hne3.out); have ⟨m2c, m2f⟩ := M2.out.cf hF8 (HTR.out _ 2 hne3.out); have ⟨m3c, m3f⟩ := M3.out.cf hF8 (HTR.out _ 3 hne3.out); have ⟨m4c, m4f⟩ := M4.out.cf hF8 (HTR.out _ 4 hne3.out); have HF8 := Lib.hid hF8; clear hF8' hin8' hF8))
  obtain ⟨k0, k1, k2, k3, k4⟩ := set5_cl (.slice Ag (rval (gIn l) 0 0 0).length qg) (.int .i64 ep) (.int .i64 fr) (.int .i64 kd) (.slice none 0 0) ⟨m0c, m0f⟩ ⟨m1c, m1f⟩ ⟨m2c, m2f⟩ ⟨m3c, m3f⟩ ⟨m4c, m4f⟩
  have N8 := Lib.hid (And.intro (Cl.mk m0c m0f) (And.intro (Cl.mk m1c m1f) (And.intro (Cl.mk m2c m2f) (And.intro (Cl.mk m3c m3f) (Cl.mk m4c m4f)))))
  have hc9 := set5_cf w8 (w.heap.size + 1) (.slice Ag (rval (gIn l) 0 0 0).length qg) (.int .i64 ep) (.int .i64 fr) (.int .i64 kd) (.slice none 0 0)
  have hs8 := HF8.out.size
  have hs78 : w.heap.size + 5 < w8.heap.size := by have := HS7.out; omega
  obtain ⟨W9, hW9⟩ : ∃ W9, W9 = set5 w8 (w.heap.size + 1) (.slice Ag (rval (gIn l) 0 0 0).length qg) (.int .i64 ep) (.int .i64 fr) (.int .i64 kd) (.slice none 0 0) := ⟨_, rfl⟩
  have hz9e : W9.heap.size = w8.heap.size := by rw [hW9]; simp [set5, World.setCell]
  rw [← hW9] at hc9 k4
  have hz9 := hc9.size
  have hF9 : CF (fun b o => b = w.heap.size + 1 ∨ b = w.heap.size + 2) w5 W9 := ((HF7.out.mono (fun b o h => .inr h.1)).trans (HF8.out.mono (fun b o h => .inr h.1))).trans (hc9.mono (fun b o h => .inl h.1))
  have hin9 : RC W9 (w.heap.size + 2) A0 (gIn l).length q0 ka ke := hin8.out.cf hc9 (fun h => by omega) (fun h => by omega) (fun h => by omega)
  have hb10 := below_box W9 (.cells #[.pointer (some ⟨w.heap.size + 1, 4, none⟩)] 64)
  have hv10 := (cell_block (heap_alloc_new W9 (.cells #[.pointer (some ⟨w.heap.size + 1, 4, none⟩)] 64)) 0 _ rfl).1
  rw [hz9e] at hv10
  have hka : gK (gIn l) = (kd, ka, ke) := HKK.out
  have hin92 : ke = 0 → 0 ≤ ka ∧ ka ≤ ((gIn l).length : Int) := fun h => by
    have h0 := rnum_in (gIn l) (rplF (gIn l) 0 0).2.1 (rplF (gIn l) 0 0).2.2 1 (rnum_in (gIn l) (rplE (gIn l) 0 0).2.1 (rplE (gIn l) 0 0).2.2 4 (rnum_in (gIn l) (rst (gIn l) 0 0 1).1 (rst (gIn l) 0 0 1).2 8 (rst_in (gIn l) HXB.out 0 0 (fun _ => by omega) 1)))
    have h1 : rnum (gIn l) (rplF (gIn l) 0 0).2.1 (rplF (gIn l) 0 0).2.2 1 = (kd, ka, ke) := hka
    rw [h1] at h0
    exact h0 h
  have HT11 := rtext_any (w.heap.size + 2) A0 (gIn l).length q0 (gIn l) ka ke 1 w8.heap.size (fun _ => w.heap.size + 1) (fun _ => 4) _ (hin9.cf (T := fun _ _ => False) (CF.of_below hb10) (fun h => h) (fun h => h) (fun h => h))
    ((HCL.out.cf hF9 (fun o => by omega)).keep hb10) ⟨by omega, fun _ _ => by omega⟩ (Rd.keep (HRD.out.cf hF9 (fun _ ad e o h => by have := HA0.out ad e; omega)) hb10) (fun _ ad e => by have := HA0.out ad e; exact ⟨by omega, fun _ _ => by omega⟩) hq0 hxl' HXB.out hin92 (by omega)
    (by omega) (fun _ _ => by omega) (fun i j _ _ _ => by omega) (fun i hi => by
      have : i = 0 := by omega
      subst this; exact hv10) (fun _ _ => ⟨(k4.below hb10).c, (k4.below hb10).f⟩)
  have hgb : gB (gIn l) = rst (gIn l) ka ke 1 := by unfold gB; rw [hka]
  have hgv : gBody (gIn l) = rval (gIn l) ka ke 0 := by unfold gBody; rw [hka]
  rw [hW9] at HT11
  have HT := Lib.hid HT11
  have HGB := Lib.hid hgb
  have HGV := Lib.hid hgv
  clear HT11 hgb hgv hka hin92 hv10 hb10 hin9 hF9 hz9 hz9e hW9 k4 hc9 hs78 hs8 k0 k1 k2 k3 m0c m1c m2c m3c m4c m0f m1f m2f m3f m4f s0 s1 s2
  go_wp2_with fail
  refine HT.out.mono ?_
  rintro x w11 ⟨rfl, hin11, hv11, hF11⟩
  obtain ⟨vb, hvb, hob⟩ := hv11 0 (by omega)
  rw [← HGV.out] at hob
  obtain ⟨Ab, qb, rfl⟩ := own_slice hob
  have HE12 := Lib.hid (rend_any (w.heap.size + 2) A0 (gIn l).length q0 (rst (gIn l) ka ke 1).1 (rst (gIn l) ka ke 1).2 true w11 hin11)
  rw [← HGB.out] at HE12
  go_wp2_with fail
  refine HE12.out.mono ?_
  rintro x w12 ⟨rfl, hF12⟩
  have H12 := Lib.hid (Get12.of (vb := .slice Ab (gBody (gIn l)).length qb) (body := gBody (gIn l)) HR.out HCN.out hsz HZ.out HM5.out.1 HM5.out.2.1 HM5.out.2.2 HO.out.1 HO.out.2.1 HO.out.2.2 (HF7.out.trans HF8.out) (CF.row HOG.out HF8.out (fun b o h => by have := h.1; omega)) N8.out.1 N8.out.2.1 N8.out.2.2.1 N8.out.2.2.2.1 N8.out.2.2.2.2 _ hF11 hvb hob hF12)
  clear hvb hob hF11 hF12 hv11 hin11
  have HGE := Lib.hid (show getE l = if gE1 (gIn l) ≠ 0 then gE1 (gIn l) else endR l.length (gR l).1 (gR l).2 (gOk l) by unfold getE; rw [if_neg (by have := HE.out; omega)])
  have HE1 := Lib.hid (show endR (gIn l).length (gB (gIn l)).1 (gB (gIn l)).2 true = gE1 (gIn l) from rfl)
  rw [HE1.out]
  have HOK := Lib.hid (show gOk l = messageOk (rval (gIn l) 0 0 0).length (rplE (gIn l) 0 0).1 (rplF (gIn l) 0 0).1 (gK (gIn l)).1 (gBody (gIn l)).length (rval l 0 0 1).length (rval l 0 0 2).length (rval l 0 0 3).length from rfl)
  clear HE12 HT HPL HN M0 M1 M2 M3 M4 HM HZ HM5 HO HF7 HF8 HOG HP P0 P1 P2 N8 hin8 HRD HR HCL HTR HF6
  generalize he1 : gE1 (gIn l) = e1 at *
  by_cases c1 : e1 = 0
  · subst c1
    clear he1
    have m0c := H12.out.m0.c
    have m1c := H12.out.m1.c
    have m2c := H12.out.m2.c
    have m3c := H12.out.m3.c
    have m4c := H12.out.m4.c
    have m5c := H12.out.m5.c
    have m6c := H12.out.m6.c
    have m7c := H12.out.m7.c
    go_wp2_with fail
    refine (rightm_any _ _ _ _ _ _ _ _ _ _ _ _ _ _ _ _ _ _ _).mono ?_
    rintro x w13 ⟨rfl, hb13⟩
    have H13 := Lib.hid (H12.out.keep (CF.of_below hb13))
    have hok : messageOk (rval (gIn l) 0 0 0).length ep fr kd (gBody (gIn l)).length (rval l 0 0 1).length (rval l 0 0 2).length (rval l 0 0 3).length = gOk l := by rw [HOK.out, HEP.out, HFR.out, HKK.out]
    rw [hok]
    clear hok hb13 m0c m1c m2c m3c m4c m5c m6c m7c
    have HR2 := Lib.hid (rend_any (w.heap.size + 3) A n c (gR l).1 (gR l).2 (gOk l) w13 H13.out.r)
    go_wp2_with fail
    refine HR2.out.mono ?_
    rintro x w14 ⟨rfl, hF14⟩
    have H14 := Lib.hid (H13.out.keep hF14)
    clear hF14
    have hge : getE l = endR n (gR l).1 (gR l).2 (gOk l) := by rw [HGE.out, if_neg (by simp), HL.out]
    generalize endR n (gR l).1 (gR l).2 (gOk l) = e2 at *
    have HG2 := Lib.hid hge
    clear hge
    have ⟨r0c, r0f⟩ : Cl w14 w.heap.size 0 (.slice none 0 0) := H14.out.z 0 _ rfl
    have ⟨r1c, r1f⟩ : Cl w14 w.heap.size 1 (.int .i64 0) := H14.out.z 1 _ rfl
    have ⟨r2c, r2f⟩ : Cl w14 w.heap.size 2 (.int .i64 0) := H14.out.z 2 _ rfl
    have ⟨r3c, r3f⟩ : Cl w14 w.heap.size 3 (.int .i64 0) := H14.out.z 3 _ rfl
    have ⟨r4c, r4f⟩ : Cl w14 w.heap.size 4 (.slice none 0 0) := H14.out.z 4 _ rfl
    have ⟨r5c, r5f⟩ : Cl w14 w.heap.size 5 (.slice none 0 0) := H14.out.z 5 _ rfl
    have ⟨r6c, r6f⟩ : Cl w14 w.heap.size 6 (.slice none 0 0) := H14.out.z 6 _ rfl
    have ⟨r7c, r7f⟩ : Cl w14 w.heap.size 7 (.slice none 0 0) := H14.out.z 7 _ rfl
    by_cases c2 : e2 = 0
    · subst c2
      have m0c := H14.out.m0.c
      have m1c := H14.out.m1.c
      have m2c := H14.out.m2.c
      have m3c := H14.out.m3.c
      have m4c := H14.out.m4.c
      have m5c := H14.out.m5.c
      have m6c := H14.out.m6.c
      have m7c := H14.out.m7.c
      go_wp2
      refine bodyPost_ret (v := .tuple #[.agg #[.slice Ag (rval (gIn l) 0 0 0).length qg, .int .i64 ep, .int .i64 fr, .int .i64 kd, .slice Ab (gBody (gIn l)).length qb, .slice A1 (rval l 0 0 1).length q1, .slice A2 (rval l 0 0 2).length q2, .slice A3 (rval l 0 0 3).length q3], .int .i64 0]) (by simp [results, Tryd.results19, go_sem, r0c, r1c, r2c, r3c, r4c, r5c, r6c, r7c]) rfl ⟨fun h => absurd HG2.out h, fun _ => ⟨_, _, _, _, _, by rw [HEP.out, HFR.out, HKK.out], set8_row H14.out.og _ _ _ _ _ _ _ _, set8_row H14.out.ob _ _ _ _ _ _ _ _, set8_row H14.out.o1 _ _ _ _ _ _ _ _, set8_row H14.out.o2 _ _ _ _ _ _ _ _, set8_row H14.out.o3 _ _ _ _ _ _ _ _⟩, set8_cn H14.out.cn _ _ _ _ _ _ _ _⟩
    · have k1 : (e2 == 0) = false := by rw [beq_eq_false_iff_ne]; exact c2
      have k2 : (e2 != 0) = true := by rw [bne_iff_ne]; exact c2
      have C2 := Lib.hid c2
      clear c2
      go_wp2
      refine bodyPost_ret (v := .tuple #[.agg #[.slice none 0 0, .int .i64 0, .int .i64 0, .int .i64 0, .slice none 0 0, .slice none 0 0, .slice none 0 0, .slice none 0 0], .int .i64 e2]) (by simp [results, Tryd.results19, go_sem, r0c, r1c, r2c, r3c, r4c, r5c, r6c, r7c]) rfl ⟨fun h => by rw [HG2.out], fun h => absurd (HG2.out ▸ h) C2.out, set8_cn H14.out.cn _ _ _ _ _ _ _ _⟩
  · have k1 : (e1 == 0) = false := by rw [beq_eq_false_iff_ne]; exact c1
    have k2 : (e1 != 0) = true := by rw [bne_iff_ne]; exact c1
    have C1 := Lib.hid c1
    have hge : getE l = e1 := by rw [HGE.out, if_pos c1]
    have HG2 := Lib.hid hge
    clear c1 he1 hge
    have ⟨r0c, r0f⟩ : Cl w12 w.heap.size 0 (.slice none 0 0) := H12.out.z 0 _ rfl
    have ⟨r1c, r1f⟩ : Cl w12 w.heap.size 1 (.int .i64 0) := H12.out.z 1 _ rfl
    have ⟨r2c, r2f⟩ : Cl w12 w.heap.size 2 (.int .i64 0) := H12.out.z 2 _ rfl
    have ⟨r3c, r3f⟩ : Cl w12 w.heap.size 3 (.int .i64 0) := H12.out.z 3 _ rfl
    have ⟨r4c, r4f⟩ : Cl w12 w.heap.size 4 (.slice none 0 0) := H12.out.z 4 _ rfl
    have ⟨r5c, r5f⟩ : Cl w12 w.heap.size 5 (.slice none 0 0) := H12.out.z 5 _ rfl
    have ⟨r6c, r6f⟩ : Cl w12 w.heap.size 6 (.slice none 0 0) := H12.out.z 6 _ rfl
    have ⟨r7c, r7f⟩ : Cl w12 w.heap.size 7 (.slice none 0 0) := H12.out.z 7 _ rfl
    go_wp2
    refine bodyPost_ret (v := .tuple #[.agg #[.slice none 0 0, .int .i64 0, .int .i64 0, .int .i64 0, .slice none 0 0, .slice none 0 0, .slice none 0 0, .slice none 0 0], .int .i64 e1]) (by simp [results, Tryd.results19, go_sem, r0c, r1c, r2c, r3c, r4c, r5c, r6c, r7c]) rfl ⟨fun h => by rw [HG2.out], fun h => absurd (HG2.out ▸ h) C1.out, set8_cn H12.out.cn _ _ _ _ _ _ _ _⟩
end Go.Proofs.YtcfbmglhikjahaaDoor
