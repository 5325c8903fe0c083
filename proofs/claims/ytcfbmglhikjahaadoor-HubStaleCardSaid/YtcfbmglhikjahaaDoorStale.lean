/- HubStale, walked. -/
import Derived.Test.YtcfbmglhikjahaaDoorLawMsg
set_option linter.unusedVariables false
set_option linter.unusedSimpArgs false
namespace Go.Proofs.YtcfbmglhikjahaaDoor
open Go.RowKit Go.Proofs.YtcfbmglhikjahaaDoorW.PrintWords

/-- a hub at work: a call that began at w -/
structure ST (w wr : World) (g : Nat) (grp : List Int) (vg vq : Value) (ep : Int) (m : Nat) (xs : List Value) : Prop where
  below : Below w.heap.size w wr
  hub : IsHub wr g vg ep vq (.slice none 0 0)
  gle : w.heap.size ≤ g
  grp : Ow wr w.heap.size vg grp
  row : wr.ownsRow w.heap.size 45 3 vq m xs
theorem ST.keep {w wr w' : World} {g : Nat} {grp : List Int} {vg vq : Value} {ep : Int} {m : Nat} {xs : List Value} (h : ST w wr g grp vg vq ep m xs) (hb : Below wr.heap.size wr w') : ST w w' g grp vg vq ep m xs :=
  ⟨h.below.trans (hb.mono h.below.size), (hb.block g (Array.getElem?_eq_some_iff.1 h.hub).1).trans h.hub, h.gle, pw_own_below h.grp hb, pw_own_below h.row hb⟩
theorem ST.cn {w wr w' : World} {g : Nat} {grp : List Int} {vg vq : Value} {ep : Int} {m : Nat} {xs : List Value} (h : ST w wr g grp vg vq ep m xs) (hb : CN wr w') : ST w w' g grp vg vq ep m xs :=
  h.keep (hb.below (Nat.le_refl _) (fun _ _ k => k.elim))
theorem ST.not {w wr : World} {g : Nat} {grp : List Int} {vg vq : Value} {ep : Int} {m : Nat} {xs : List Value} (h : ST w wr g grp vg vq ep m xs) {b : Nat} {cs : Array Value} {t : TypeId} {fr : Nat × Nat} (hb : wr.heap[b]? = some (.cells cs t fr)) (h1 : t ≠ 63) (h2 : t ≠ 45) : ¬ HS g vq (.slice none 0 0) b := fun k => by
  rcases k with k | k | k
  · subst k
    have : wr.heap[b]? = _ := h.hub
    rw [hb] at this
    injection this with this
    injection this with _ e
    exact h1 e
  · exact row_ne h.row hb h2 k
  · cases k
theorem ST.post {w wr w' : World} {g : Nat} {grp : List Int} {vg vq v1 : Value} {ep ep' : Int} {m m' : Nat} {xs xs' : List Value} (h : ST w wr g grp vg vq ep m xs) (hh : IsHub w' g vg ep' v1 (.slice none 0 0)) (hq : w'.ownsRow w.heap.size 45 3 v1 m' xs') (hf : BF (HS g vq (.slice none 0 0)) wr w') :
    ST w w' g grp vg v1 ep' m' xs' := by
  refine ⟨h.below.trans (hf.below (B := w.heap.size) h.below.size (fun b _ k => ?_)), hh, h.gle, hf.row h.grp (fun b e k => ?_), hq⟩
  · rcases k with k | k | k
    · rw [k]; exact h.gle
    · exact own_base h.row b k
    · cases k
  · rcases k with k | k | k
    · exact row_ne h.grp h.hub (by decide) (k ▸ e)
    · exact rows_ne h.row h.grp (by decide) b e k
    · cases k
theorem st_new {w w1 w2 : World} {g : Nat} {vg : Value} {grp : List Int} (hb1 : Below w.heap.size w w1) (hg : w1.heap.size ≤ g) (hh : IsHub w2 g vg 0 (.slice none 0 0) (.slice none 0 0)) (ho : Ow w2 w1.heap.size vg grp) (hb : Below w1.heap.size w1 w2) : ST w w2 g grp vg (.slice none 0 0) 0 0 [] :=
  ⟨hb1.trans (hb.mono hb1.size), hh, Nat.le_trans hb1.size hg, own_base_le ho hb1.size, World.ownsRow_nil _ _ _ _⟩
theorem g_bytes : AllB [103] := AllB.cons (by omega) (by omega) AllB.nil
/-- what a hub sees of a commit, or of a message of another kind -/
theorem msg_facts (l : List Int) (ep fr kd : Int) (b : List Int) (hok : contentOk l.length ep fr kd b.length = true) :
    getE (msgB l ep fr kd b) = 0 ∧ mG (msgB l ep fr kd b) = l ∧ mT (msgB l ep fr kd b) = ep ∧ mK (msgB l ep fr kd b) = kd ∧ mE (msgB l ep fr kd b) = if kd = 5 then 181 else 0 := by
  have e : msgB l ep fr kd b = messageB l ep fr kd b (List.replicate 3309 0) [] [] := by unfold msgB; rw [if_pos hok]
  rw [e]
  obtain ⟨h0, h1, h2, h3, h4, h5⟩ := message_facts l ep fr kd b (List.replicate 3309 0) [] [] (by rw [msgOk]; exact hok)
  refine ⟨h0, h1, h2, h4, ?_⟩
  unfold mE
  rw [h0, h4]
  simp
theorem sel_facts (l : List Int) (ep fr : Int) (b : List Int) (hok : sealedOk l.length ep fr 0 b.length = true) :
    getsE (selB l ep fr b) = 0 ∧ sgG (selB l ep fr b) = l ∧ sgT (selB l ep fr b) = ep := by
  have e : selB l ep fr b = sealedB l ep fr 0 b := by unfold selB; rw [if_pos hok]
  rw [e]
  obtain ⟨h0, h1, h2, h3, h4, h5⟩ := sealed_get l ep fr 0 b hok
  unfold sgG sgT
  rw [if_pos h0, if_pos h0]
  exact ⟨h0, h1, h2⟩
set_option maxRecDepth 100000 in
set_option maxHeartbeats 4000000 in
theorem stale_walk (c k e : Int) (hc0 : 0 ≤ c) (hc1 : c < 256) (hk0 : 0 ≤ k) (hk1 : k < 256) (he0 : 0 ≤ e) (he1 : e < 256) (w : World) (hG : Classes w) :
    Calls Tryd.prog 4 #[.int .u8 c, .int .u8 k, .int .u8 e] w fun x w' => x = .returned (.bool true) ∧ Below w.heap.size w w' := by
  have HG := Lib.hid hG
  have kc := fun (w : World) (C : Array Value) (n c : Nat) => Lib.run_convert_bytes_const (P := Tryd.prog) w 23 5 C n c Tryd.underlying23 Tryd.underlying5
  clear hG
  go_enter Tryd.func4, Tryd.ntmps4
  go_wp2_with fail
  refine (head_true w HG.out).mono ?_
  rintro x w1 ⟨rfl, hb1⟩
  go_wp2_with fail
  refine (hnew_good _ 1 1 [103] _ (lit_reads w1 [103] (1, 2) (by decide)) (by omega) (by omega)).mono ?_
  rintro x w2 ⟨g, vg, rfl, hg, hh, ho, hb⟩
  have HS0 : Hid (ST w w2 g [103] vg (.slice none 0 0) 0 0 []) := Lib.hid (st_new (hb1.trans ((below_box w1 (.cells #[.int .u8 103] 5 (1, 2))).mono hb1.size)) hg hh ho hb)
  clear hg hh ho hb hb1
  go_wp2_with fail
  have hN8 : 0 ≤ c % 8 ∧ c % 8 < 8 := by omega
  generalize c % 8 = cn at *
  obtain ⟨N, rfl⟩ := Int.eq_ofNat_of_zero_le hN8.1
  have hN : N < 8 := by omega
  clear hN8
  go_loopw [10] (fun i wr => ∃ (j : Nat) (vq : Value) (xs : List Value), j ≤ N ∧ i = .int .i64 j ∧ Hid (ST w wr g [103] vg vq j j xs)) (fun i _ => N - (intOf i).toNat)
  case atStart => exact ⟨0, _, [], Nat.zero_le _, rfl, HS0⟩
  case round =>
    obtain ⟨j, vq, xs, hj, rfl, hst⟩ := hrel
    by_cases hlt : j < N
    · go_wp2_with fail
      have hb2 := below_box wr (.cells #[.int .u8 103] 5 (1, 2))
      have HS2 := Lib.hid (hst.out.keep hb2)
      have HG2 := Lib.hid (HG.out.keep HS2.out.below)
      refine (lmessage_any (some ⟨wr.heap.size, 0, none⟩) none 1 0 1 0 [103] [] j 0 4 _ HG2.out (lit_reads wr [103] (1, 2) (by decide)) (Rd.nil _ _)).mono ?_
      rintro x w3 ⟨v3, rfl, ho3, hb3⟩
      have hok : contentOk [103].length j 0 4 ([] : List Int).length = true := contentOk_iff.2 ⟨⟨by simp, by simp, by omega, by omega, by omega, by omega⟩, by omega, by omega, by simp⟩
      obtain ⟨f0, f1, f2, f3, f4⟩ := msg_facts [103] j 0 4 [] hok
      obtain ⟨g0, g1⟩ := msgB_bytes [103] j 0 4 [] g_bytes AllB.nil
      generalize msgB [103] j 0 4 [] = lb at *
      have HS3 := Lib.hid (HS2.out.keep hb3)
      have HG3 := Lib.hid (HG.out.keep HS3.out.below)
      obtain ⟨A3, q3, rfl, hr3⟩ := own_reads ho3
      have HP := Lib.hid (post_good g vg vq (.slice none 0 0) A3 lb.length q3 [103] lb j w3 w.heap.size _ j xs HG3.out HS3.out.hub HS3.out.grp g_bytes hr3 (ow_cap ho3) (by omega) g0 (by rw [f4]; rfl) f1 f2 HS3.out.below.size HS3.out.row (by simp [Value.ownBlock]) (by omega) (by omega) (by omega))
      rw [f3] at HP
      clear ho3 hr3 hb3 hb2 f0 f1 f2 f3 f4 g0 g1 hok
      go_wp2_with fail
      refine HP.out.mono ?_
      rintro x w4 ⟨v1, v4, rfl, hh4, hq4, ho4, _, hf4⟩
      rw [if_pos trivial] at hh4
      have HS4 := Lib.hid (HS3.out.post hh4 hq4 hf4)
      clear hh4 hq4 ho4 hf4
      go_wp2_with fail
      go_roundw
      case rel => exact ⟨j + 1, v1, _, by omega, by go_num, Lib.hid (by simpa using HS4.out)⟩
      case measure => simp [intOf]; omega
    · obtain rfl : j = N := by omega
      clear hlt
      go_wp2_with fail
      have hE0 : 0 ≤ e % 10 ∧ e % 10 < 10 := by omega
      have hK0 : 1 ≤ 1 + k % 4 ∧ 1 + k % 4 ≤ 4 := by omega
      generalize e % 10 = E at *
      generalize 1 + k % 4 = kd at *
      obtain ⟨W, hW⟩ : ∃ W, W = (wr.alloc (.cells #[.int .u8 103] 5 (1, 2))).alloc (.cells #[.slice (some ⟨wr.heap.size, 0, none⟩) 1 1, .int .i64 E, .int .i64 0, .int .i64 kd, .slice none 0 0] 36) := ⟨_, rfl⟩
      have hbW : Below wr.heap.size wr W := by rw [hW]; exact (below_box _ _).trans ((below_box _ _).mono (by simp))
      have hrW : Rd W (some ⟨wr.heap.size, 0, none⟩) 1 [103] := by rw [hW]; exact (lit_reads wr [103] (1, 2) (by decide)).keep (below_box _ _)
      have hxW : W.heap[wr.heap.size + 1]? = some (.cells #[.slice (some ⟨wr.heap.size, 0, none⟩) 1 1, .int .i64 E, .int .i64 0, .int .i64 kd, .slice none 0 0] 36 (0, 0)) := by
        rw [hW]; have := heap_alloc_new (wr.alloc (.cells #[.int .u8 103] 5 (1, 2))) (.cells #[.slice (some ⟨wr.heap.size, 0, none⟩) 1 1, .int .i64 E, .int .i64 0, .int .i64 kd, .slice none 0 0] 36); rwa [World.size_alloc] at this
      have h1W : W.heap[wr.heap.size]? = some (.cells #[.int .u8 103] 5 (1, 2)) := by rw [hW]; exact heap_at
      have HS2 := Lib.hid (hst.out.keep hbW)
      have HG2 := Lib.hid (HG.out.keep HS2.out.below)
      have H1W := Lib.hid h1W
      have HRW := Lib.hid hrW
      have HXW := Lib.hid hxW
      rw [← hW]
      clear hW hbW hrW hxW h1W
      refine (lsealed_any (some ⟨wr.heap.size, 0, none⟩) none 1 0 1 0 [103] [] E 0 kd W HG2.out HRW.out (Rd.nil _ _)).mono ?_
      rintro x w3 ⟨v3, rfl, ho3, hb3⟩
      have hso : sealedOk [103].length E 0 0 ([] : List Int).length = true := sealedOk_iff.2 ⟨⟨by simp, by simp, by omega, by omega, by omega, by omega⟩, by omega, by omega, by simp⟩
      obtain ⟨s0, s1, s2⟩ := sel_facts [103] E 0 [] hso
      obtain ⟨t0, t1⟩ := selB_bytes [103] E 0 [] g_bytes AllB.nil
      generalize selB [103] E 0 [] = sb at *
      have HS3 := Lib.hid (HS2.out.keep hb3)
      have HG3 := Lib.hid (HG.out.keep HS3.out.below)
      have HX3 := Lib.hid ((hb3.block _ (Array.getElem?_eq_some_iff.1 HXW.out).1).trans HXW.out)
      have HR3 := Lib.hid (HRW.out.keep hb3)
      have H13 := Lib.hid ((hb3.block _ (Array.getElem?_eq_some_iff.1 H1W.out).1).trans H1W.out)
      obtain ⟨A3, q3, rfl, hr3⟩ := own_reads ho3
      have hmo : contentOk [103].length E 0 kd ([] : List Int).length = true := contentOk_iff.2 ⟨⟨by simp, by simp, by omega, by omega, by omega, by omega⟩, by omega, by omega, by simp⟩
      obtain ⟨f0, f1, f2, f3, f4⟩ := msg_facts [103] E 0 kd [] hmo
      rw [if_neg (by omega)] at f4
      obtain ⟨g0, g1⟩ := msgB_bytes [103] E 0 kd [] g_bytes AllB.nil
      obtain ⟨mb, hmb⟩ : ∃ b, b = msgB [103] E 0 kd [] := ⟨_, rfl⟩
      rw [← hmb] at f0 f1 f2 f3 f4 g0 g1
      by_cases hEj : E = j
      · have HT := Lib.hid (htext_good g vg vq (.slice none 0 0) A3 sb.length q3 [103] sb j w3 w.heap.size _ j xs HG3.out HS3.out.hub HS3.out.grp g_bytes hr3 (ow_cap ho3) (by omega) t0 s0 s1 (by rw [s2, hEj]) HS3.out.below.size HS3.out.row (by simp [Value.ownBlock]) (by omega) (by omega) (by omega))
        have HF := Lib.hid (And.intro f1 (And.intro f2 (And.intro f3 (And.intro f4 (And.intro g0 g1)))))
        have HMB := Lib.hid hmb
        have HEJ := Lib.hid hEj
        have k1 : (E == (j : Int)) = true := beq_iff_eq.2 hEj
        have k2 : (E != (j : Int)) = false := by rw [bne_eq_false_iff_eq]; exact hEj
        clear s0 s1 s2 t0 t1 hso hr3 ho3 hb3 hmo f0 f1 f2 f3 f4 g0 g1 hmb hEj
        go_wp2_with fail
        refine HT.out.mono ?_
        rintro x w4 ⟨v1, v4, rfl, hh4, hq4, ho4, _, hf4⟩
        have HS4 := Lib.hid (HS3.out.post hh4 hq4 hf4)
        have HG4 := Lib.hid (HG.out.keep HS4.out.below)
        have HX4 := Lib.hid (hf4.at HX3.out (HS3.out.not HX3.out (by decide) (by decide)))
        have HR4 := Lib.hid (hf4.rd HR3.out (fun ad e h0 => by injection e with e; subst e; exact HS3.out.not H13.out (by decide) (by decide)))
        clear hh4 hq4 ho4 hf4
        have c0 := (Cl.block HX4.out 0 _ rfl).c
        have c1 := (Cl.block HX4.out 1 _ rfl).c
        have c2 := (Cl.block HX4.out 2 _ rfl).c
        have c3 := (Cl.block HX4.out 3 _ rfl).c
        have c4 := (Cl.block HX4.out 4 _ rfl).c
        go_wp2_with fail
        refine (lmessage_any (some ⟨wr.heap.size, 0, none⟩) none 1 0 1 0 [103] [] E 0 kd w4 HG4.out HR4.out (Rd.nil _ _)).mono ?_
        rintro x w5 ⟨v5, rfl, ho5, hb5⟩
        rw [← HMB.out] at ho5
        obtain ⟨f1, f2, f3, f4, g0, g1⟩ := HF.out
        have HS5 := Lib.hid (HS4.out.keep hb5)
        have HG5 := Lib.hid (HG.out.keep HS5.out.below)
        have HX5 := Lib.hid ((hb5.block _ (Array.getElem?_eq_some_iff.1 HX4.out).1).trans HX4.out)
        obtain ⟨A5, q5, rfl, hr5⟩ := own_reads ho5
        have HP := Lib.hid (post_good g vg v1 (.slice none 0 0) A5 mb.length q5 [103] mb j w5 w.heap.size _ (j + 1) _ HG5.out HS5.out.hub HS5.out.grp g_bytes hr5 (ow_cap ho5) (by omega) g0 f4 f1 (by rw [f2, HEJ.out]) HS5.out.below.size HS5.out.row (by simp [Value.ownBlock]) (by omega) (by omega) (by omega))
        rw [f3] at HP
        obtain ⟨ep', hep'⟩ : ∃ e : Int, e = if kd = 4 then (j : Int) + 1 else j := ⟨_, rfl⟩
        have hge : (j : Int) ≤ ep' := by rw [hep']; split <;> omega
        rw [← hep'] at HP
        clear ho5 hr5 hb5 f1 f2 f3 f4 g0 g1 c0 c1 c2 c3 c4 hep'
        go_wp2_with fail
        refine HP.out.mono ?_
        rintro x w6 ⟨v6, u6', rfl, hh6, hq6, ho6, _, hf6⟩
        have HS6 := Lib.hid (HS5.out.post hh6 hq6 hf6)
        have HX6 := Lib.hid (hf6.at HX5.out (HS5.out.not HX5.out (by decide) (by decide)))
        have c1 := (Cl.block HX6.out 1 _ rfl).c
        clear hh6 hq6 ho6 hf6
        go_wp2_with fail
        refine (epoch_any _ _ _ _ _ _ HS6.out.hub).mono ?_
        rintro x w7 ⟨rfl, rfl⟩
        go_wp2_with fail
        go_ret
        exact ⟨rfl, HS6.out.below⟩
      · have HT := Lib.hid (htext_bad g vg vq (.slice none 0 0) A3 sb.length q3 [103] sb j w3 _ HG3.out HS3.out.hub HS3.out.grp g_bytes hr3 (ow_cap ho3) (by omega) t0 221 (.inr ⟨s0, fun k => hEj (by rw [← s2]; exact k.2), rfl⟩))
        have HF := Lib.hid (And.intro f1 (And.intro f2 (And.intro f3 (And.intro f4 (And.intro g0 g1)))))
        have HMB := Lib.hid hmb
        have HEJ := Lib.hid hEj
        have k1 : (E == (j : Int)) = false := beq_eq_false_iff_ne.2 hEj
        have k2 : (E != (j : Int)) = true := bne_iff_ne.2 hEj
        clear s0 s1 s2 t0 t1 hso hr3 ho3 hb3 hmo f0 f1 f2 f3 f4 g0 g1 hmb hEj
        go_wp2_with fail
        refine HT.out.mono ?_
        rintro x w4 ⟨rfl, hf4⟩
        have HS4 := Lib.hid (HS3.out.cn hf4)
        have hb4 : Below w3.heap.size w3 w4 := hf4.below (Nat.le_refl _) (fun _ _ k => k.elim)
        have HG4 := Lib.hid (HG.out.keep HS4.out.below)
        have HX4 := Lib.hid ((hb4.block _ (Array.getElem?_eq_some_iff.1 HX3.out).1).trans HX3.out)
        have HR4 := Lib.hid (HR3.out.keep hb4)
        clear hf4 hb4
        have c0 := (Cl.block HX4.out 0 _ rfl).c
        have c1 := (Cl.block HX4.out 1 _ rfl).c
        have c2 := (Cl.block HX4.out 2 _ rfl).c
        have c3 := (Cl.block HX4.out 3 _ rfl).c
        have c4 := (Cl.block HX4.out 4 _ rfl).c
        go_wp2_with fail
        refine (lmessage_any (some ⟨wr.heap.size, 0, none⟩) none 1 0 1 0 [103] [] E 0 kd w4 HG4.out HR4.out (Rd.nil _ _)).mono ?_
        rintro x w5 ⟨v5, rfl, ho5, hb5⟩
        rw [← HMB.out] at ho5
        obtain ⟨f1, f2, f3, f4, g0, g1⟩ := HF.out
        have HS5 := Lib.hid (HS4.out.keep hb5)
        have HG5 := Lib.hid (HG.out.keep HS5.out.below)
        have HX5 := Lib.hid ((hb5.block _ (Array.getElem?_eq_some_iff.1 HX4.out).1).trans HX4.out)
        obtain ⟨A5, q5, rfl, hr5⟩ := own_reads ho5
        have HP := Lib.hid (post_bad g vg vq (.slice none 0 0) A5 mb.length q5 [103] mb j w5 _ HG5.out HS5.out.hub HS5.out.grp g_bytes hr5 (ow_cap ho5) (by omega) g0 221 (.inr ⟨f4, fun k => HEJ.out (by rw [← f2]; exact k.2), rfl⟩))
        clear ho5 hr5 hb5 f1 f2 f3 f4 g0 g1 c0 c1 c2 c3 c4
        go_wp2_with fail
        refine HP.out.mono ?_
        rintro x w6 ⟨rfl, hf6⟩
        have HS6 := Lib.hid (HS5.out.cn hf6)
        have hb6 : Below w5.heap.size w5 w6 := hf6.below (Nat.le_refl _) (fun _ _ k => k.elim)
        have HX6 := Lib.hid ((hb6.block _ (Array.getElem?_eq_some_iff.1 HX5.out).1).trans HX5.out)
        have c1 := (Cl.block HX6.out 1 _ rfl).c
        clear hf6 hb6
        go_wp2_with fail
        refine (epoch_any _ _ _ _ _ _ HS6.out.hub).mono ?_
        rintro x w7 ⟨rfl, rfl⟩
        go_wp2_with fail
        go_ret
        exact ⟨rfl, HS6.out.below⟩
end Go.Proofs.YtcfbmglhikjahaaDoor
