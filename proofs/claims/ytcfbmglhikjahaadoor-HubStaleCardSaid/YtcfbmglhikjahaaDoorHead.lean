/- package sodalitylaw22: head. -/
import Derived.Test.YtcfbmglhikjahaaDoorPost
import Derived.Lib.SlBytesConst
set_option linter.unusedVariables false
set_option linter.unusedSimpArgs false
namespace Go.Proofs.YtcfbmglhikjahaaDoor
open Go.RowKit Go.Proofs.YtcfbmglhikjahaaDoorW.PrintWords

theorem message_facts (l : List Int) (ep fr kd : Int) (b s k t : List Int) (hok : messageOk l.length ep fr kd b.length s.length k.length t.length = true) :
    getE (messageB l ep fr kd b s k t) = 0 ∧ mG (messageB l ep fr kd b s k t) = l ∧ mT (messageB l ep fr kd b s k t) = ep ∧ mF (messageB l ep fr kd b s k t) = fr ∧ mK (messageB l ep fr kd b s k t) = kd ∧ mB (messageB l ep fr kd b s k t) = b := by
  obtain ⟨hI, h1, h2, h3, h0⟩ := message_get l ep fr kd b s k t hok
  obtain ⟨c0, c1, c2, c3, c4, c5⟩ := content_get l ep fr kd b (messageOk_iff.1 hok).1
  unfold mG mT mF mK mB
  rw [if_pos h0, if_pos h0, if_pos h0, if_pos h0, if_pos h0, hI]
  exact ⟨h0, c0, c1, c2, c3, c4⟩
theorem TB_bytes (l : List Int) (h : AllB l) : AllB (TB l) := (lenB_bytes _).append h
theorem message_bytes (l : List Int) (ep fr kd : Int) (b s k t : List Int) (hl : AllB l) (hb : AllB b) (hs : AllB s) (hk : AllB k) (ht : AllB t) : AllB (messageB l ep fr kd b s k t) :=
  (((TB_bytes _ (((((TB_bytes _ hl).append (beB_bytes _ _)).append (beB_bytes _ _)).append (beB_bytes _ _)).append (TB_bytes _ hb))).append (TB_bytes _ hs)).append (TB_bytes _ hk)).append (TB_bytes _ ht)
theorem message_length (l : List Int) (ep fr kd : Int) (b s k t : List Int) (hok : messageOk l.length ep fr kd b.length s.length k.length t.length = true) : (messageB l ep fr kd b s k t).length ≤ 100000 := by
  obtain ⟨hc, hs, hk, ht⟩ := messageOk_iff.1 hok
  obtain ⟨⟨n0, n1, e0, e1, f0, f1⟩, k0, k1, m1⟩ := contentOk_iff.1 hc
  have hcl := contentB_length l ep fr kd b n1 m1
  have hN : ∀ x : List Int, (TB x).length ≤ x.length + 4 := fun x => by rw [TB_length]; unfold lenN; split <;> (try split) <;> omega
  have a1 := hN (contentB l ep fr kd b)
  have a2 := hN s
  have a3 := hN k
  have a4 := hN t
  unfold messageB
  simp only [List.length_append]
  omega
def zeros (n : Nat) : List Int := List.replicate n 0
theorem lit_reads (W : World) (l : List Int) (f : Nat × Nat) (hl : l.length ≤ 1000) : Rd (W.alloc (.cells (nums .u8 l).toArray 5 f)) (some ⟨W.heap.size, 0, none⟩) l.length l := by
  refine ⟨rfl, by omega, fun h0 => ⟨_, rfl, fun j hj => ?_⟩⟩
  have e : (⟨W.heap.size, 0, none⟩ : Addr).add j = ⟨W.heap.size, j, none⟩ := by unfold Addr.add; split <;> simp_all
  rw [e]
  have hh := heap_alloc_new W (.cells (nums .u8 l).toArray 5 f)
  simp only [World.cell?, hh]
  simp [nums, List.getD_eq_getElem?_getD, List.getElem?_eq_getElem hj]
/-- the message that head posts -/
def headB : List Int := messageB [103] 0 0 4 [] (List.replicate 3309 0) [] []
theorem headB_facts : mE headB = 0 ∧ mG headB = [103] ∧ mT headB = 0 ∧ mK headB = 4 ∧ AllB headB ∧ headB.length ≤ 100000 := by
  have hok : messageOk [103].length 0 0 4 ([] : List Int).length (List.replicate 3309 (0 : Int)).length ([] : List Int).length ([] : List Int).length = true := by
    rw [List.length_replicate]; decide
  obtain ⟨h0, h1, h2, h3, h4, h5⟩ := message_facts [103] 0 0 4 [] (List.replicate 3309 0) [] [] hok
  have hz : AllB (List.replicate 3309 0) := fun x hx => by rw [List.eq_of_mem_replicate hx]; omega
  refine ⟨?_, h1, h2, h4, message_bytes _ _ _ _ _ _ _ _ (AllB.cons (by omega) (by omega) AllB.nil) AllB.nil hz AllB.nil AllB.nil, message_length _ _ _ _ _ _ _ _ hok⟩
  unfold headB mE
  rw [h0, h4]
  simp
theorem made_zeros (W : World) (m : Nat) (hm : m ≤ 1000000) : Rd (W.alloc (.cells (madeCells #[.int .u8 0] m) 5)) (some ⟨W.heap.size, 0, none⟩) m (List.replicate m 0) := by
  obtain ⟨A, q, e, h⟩ := own_reads (own_made' W 0 5 .u8 m (Nat.zero_le _) (by omega))
  injection e with e1 e2 e3
  subst e1
  rwa [List.length_replicate] at h
theorem ow_cap {W : World} {B : Nat} {e : TypeId} {size n k q : Nat} {A : Option Addr} {xs : List Value} (h : W.ownsRow B e size (.slice A n q) k xs) : k ≤ q := by
  rcases h.2 with ⟨h, rfl⟩ | ⟨gg, cap, cur, h, _, _, h3, _⟩
  · omega
  · injection h with _ _ h6
    subst h6
    exact h3
theorem hs_nil {g b : Nat} (h : HS g (.slice none 0 0) (.slice none 0 0) b) : b = g := by
  rcases h with h | h | h
  · exact h
  · cases h
  · cases h
set_option maxRecDepth 100000 in
set_option maxHeartbeats 4000000 in
theorem head_true (w : World) (hG : Classes w) :
    Calls Tryd.prog 7 #[] w fun x w' => x = .returned (.bool true) ∧ Below w.heap.size w w' := by
  have HG := Lib.hid hG
  have kc := fun (w : World) (C : Array Value) (n c : Nat) => Lib.run_convert_bytes_const (P := Tryd.prog) w 23 5 C n c Tryd.underlying23 Tryd.underlying5
  clear hG
  go_enter Tryd.func7, Tryd.ntmps7
  go_wp2_with fail
  have hb0 := below_box w (.cells #[.int .u8 103] 5 (1, 2))
  refine (hnew_good _ 1 1 [103] _ (lit_reads w [103] (1, 2) (by decide)) (by omega) (by omega)).mono ?_
  rintro x w1 ⟨g, vg, rfl, hg, hh, ho, hb⟩
  have hb1 := hb0.trans (hb.mono (by simp))
  have HB1 := Lib.hid hb1
  go_wp2_with fail
  refine (hnew_bad _ 0 0 _ (.inl rfl)).mono ?_
  rintro x w1' ⟨rfl, rfl⟩
  have km : ∀ W : World, (Instr.makeSlice 23 (.int .i64 3309) (.int .i64 3309)).run Tryd.prog W = .ok (.slice (some ⟨W.heap.size, 0, none⟩) 3309 3309) (W.alloc (.cells (madeCells #[.int .u8 0] 3309) 5)) :=
    print_make (P := Tryd.prog) 23 5 .u8 1 Tryd.underlying23 info_u8 (by omega) 3309 (by omega)
  have hm3 := made_zeros (w1.alloc (.cells #[.int .u8 103] 5 (1, 2))) 3309 (by omega)
  generalize madeCells #[Value.int .u8 0] 3309 = mz at *
  obtain ⟨W3, hW3⟩ : ∃ W, W = (w1.alloc (.cells #[.int .u8 103] 5 (1, 2))).alloc (.cells mz 5) := ⟨_, rfl⟩
  have hb3 : Below w1.heap.size w1 W3 := by rw [hW3]; exact (below_box _ _).trans ((below_box _ _).mono (by simp))
  have hr3 : Rd W3 (some ⟨w1.heap.size, 0, none⟩) 1 [103] := by rw [hW3]; exact (lit_reads w1 [103] (1, 2) (by decide)).keep (below_box _ _)
  rw [← hW3] at hm3
  have HB3 := Lib.hid (hb1.trans (hb3.mono hb1.size))
  have HP := Lib.hid (put_good (some ⟨w1.heap.size, 0, none⟩) none (some ⟨w1.heap.size + 1, 0, none⟩) none none 1 0 3309 0 0 1 0 3309 0 0 [103] [] (List.replicate 3309 0) [] [] 0 0 4 W3 (HG.out.keep HB3.out) hr3 (Rd.nil _ _) (by simpa using hm3) (Rd.nil _ _) (Rd.nil _ _) (by decide))
  rw [show messageB [103] 0 0 4 [] (List.replicate 3309 0) [] [] = headB from rfl] at HP
  have F := Lib.hid headB_facts
  generalize headB = lb at HP F
  have HH := Lib.hid hh
  have HO := Lib.hid ho
  have HZ3 : Hid (BF (fun _ => False) w1 W3) := Lib.hid (BF.of_below hb3)
  have HW3 := Lib.hid hW3
  rw [hW3] at HP
  clear hW3 hr3 hm3 hb3 hh ho hb hb1 hb0
  go_wp2_with fail
  refine HP.out.mono ?_
  rintro x w4 ⟨v4, rfl, ho4, hb4⟩
  obtain ⟨A4, q4, rfl⟩ := own_slice ho4
  rw [← HW3.out] at ho4 hb4
  have hz4 : BF (fun _ => False) w1 w4 := HZ3.out.then hb4
  have HO4 := Lib.hid ho4
  have HH4 := Lib.hid (hz4.at HH.out (fun k => k))
  have HV4 := Lib.hid (hz4.row HO.out (fun _ _ k => k))
  have HB4 : Hid (Below w.heap.size w w4) := Lib.hid (HB3.out.trans (hb4.mono HB3.out.size))
  have HC4 := Lib.hid (HG.out.keep HB4.out)
  obtain ⟨f0, f1, f2, f3, f4, f5⟩ := F.out
  obtain ⟨A4', q4', e4, hr4⟩ := own_reads ho4
  injection e4 with e41 e42 e43
  subst e41 e43
  clear e42
  have bg : AllB [103] := AllB.cons (by omega) (by omega) AllB.nil
  have HP1 := Lib.hid (post_good g vg (.slice none 0 0) (.slice none 0 0) A4 lb.length q4 [103] lb 0 w4 w4.heap.size _ 0 [] HC4.out HH4.out HV4.out bg hr4 (ow_cap ho4) (by omega) f4 f0 f1 f2 (Nat.le_refl _) (World.ownsRow_nil _ _ _ _) (by simp [Value.ownBlock]) (by omega) (by omega) (by omega))
  rw [f3] at HP1
  clear ho4 hb4 f0 f1 f2 f3 f4 f5 hr4
  go_wp2_with fail
  refine HP1.out.mono ?_
  rintro x w5 ⟨v5, u5, rfl, hh5, hq5, ho5, hat5, hf5⟩
  obtain ⟨A5, q5, rfl⟩ := ow_slice hq5
  have hne : ∀ b, HS g (.slice none 0 0) (.slice none 0 0) b → b = g := fun b h => hs_nil h
  have ho45 : Ow w5 W3.heap.size (.slice A4 lb.length q4) lb := hf5.row HO4.out (fun b e k => row_ne HO4.out HH4.out (by decide) (hne b k ▸ e))
  have hv5 := hf5.row HV4.out (fun b e k => row_ne HV4.out HH4.out (by decide) (hne b k ▸ e))
  obtain ⟨A4', q4', e4, hr5⟩ := own_reads ho45
  injection e4 with e41 e42 e43
  subst e41 e43
  clear e42
  have HB5 : Hid (Below w.heap.size w w5) := Lib.hid (HB4.out.trans (hf5.below HB4.out.size (fun b _ k => by rw [hne b k]; have := hg; simp at this; omega)))
  have HC5 := Lib.hid (HG.out.keep HB5.out)
  rw [if_pos trivial, show (0 : Int) + 1 = 1 from rfl] at hh5
  have HH5 := Lib.hid hh5
  have HP2 := Lib.hid (post_bad g vg _ _ A4 lb.length q4 [103] lb 1 w5 _ HC5.out HH5.out hv5 bg hr5 (ow_cap ho45) (by have := F.out.2.2.2.2.2; omega) F.out.2.2.2.2.1 221 (.inr ⟨F.out.1, fun k => by have := F.out.2.2.1; omega, rfl⟩))
  clear hh5 hq5 ho5 hat5 hf5 ho45 hv5 hr5
  go_wp2_with fail
  refine HP2.out.mono ?_
  rintro x w6 ⟨rfl, hc6⟩
  have hz6 : BF (fun _ => False) w5 w6 := BF.of_cn hc6
  have HH6 := Lib.hid (hz6.at HH5.out (fun k => k))
  have HB6 : Hid (Below w.heap.size w w6) := Lib.hid (HB5.out.trans (hz6.below (B := w.heap.size) HB5.out.size (fun _ _ k => k.elim)))
  clear hc6 hz6
  go_wp2_with fail
  refine (epoch_any _ _ _ _ _ _ HH6.out).mono ?_
  rintro x w7 ⟨rfl, rfl⟩
  go_wp2_with fail
  refine (len_any _ _ _ _ _ _ _ _ HH6.out).mono ?_
  rintro x w7 ⟨rfl, rfl⟩
  go_wp2_with fail
  go_ret
  exact ⟨rfl, HB6.out⟩
end Go.Proofs.YtcfbmglhikjahaaDoor
