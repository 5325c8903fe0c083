/- package sodalitylaw22: message, sealed. -/
import Derived.Test.YtcfbmglhikjahaaDoorHubText
set_option linter.unusedVariables false
set_option linter.unusedSimpArgs false
namespace Go.Proofs.YtcfbmglhikjahaaDoor
open Go.RowKit Go.Proofs.YtcfbmglhikjahaaDoorW.PrintWords

/-- a content's message, with a signature of noughts -/
def msgB (l : List Int) (ep fr kd : Int) (b : List Int) : List Int := if contentOk l.length ep fr kd b.length = true then messageB l ep fr kd b (List.replicate 3309 0) [] [] else []
theorem msgOk (l : List Int) (ep fr kd : Int) (b : List Int) : messageOk l.length ep fr kd b.length (List.replicate 3309 (0 : Int)).length ([] : List Int).length ([] : List Int).length = contentOk l.length ep fr kd b.length := by
  unfold messageOk tagOk
  rw [List.length_replicate]
  simp
theorem zeros_bytes (n : Nat) : AllB (List.replicate n 0) := fun x hx => by rw [List.eq_of_mem_replicate hx]; omega
theorem msgB_bytes (l : List Int) (ep fr kd : Int) (b : List Int) (hl : AllB l) (hb : AllB b) : AllB (msgB l ep fr kd b) ∧ (msgB l ep fr kd b).length ≤ 100000 := by
  unfold msgB
  split
  · rename_i h
    exact ⟨message_bytes _ _ _ _ _ _ _ _ hl hb (zeros_bytes _) AllB.nil AllB.nil, message_length _ _ _ _ _ _ _ _ (by rw [msgOk]; exact h)⟩
  · exact ⟨AllB.nil, by simp⟩
/-- put of a content's message -/
theorem put_msg (A B Z : Option Addr) (n m c d : Nat) (l b : List Int) (ep fr kd : Int) (w : World) (hG : Classes w) (hr : Rd w A n l) (hrb : Rd w B m b) (hz : Rd w Z 3309 (List.replicate 3309 0)) :
    Calls Tryd.prog 29 #[.agg #[.slice A n c, .int .i64 ep, .int .i64 fr, .int .i64 kd, .slice B m d, .slice Z 3309 3309, .slice none 0 0, .slice none 0 0]] w fun e w' => ∃ v er, e = .returned (.tuple #[v, .int .i64 er]) ∧ Ow w' w.heap.size v (msgB l ep fr kd b) ∧ Below w.heap.size w w' := by
  have hl := hr.1
  have hm := hrb.1
  have hok := msgOk l ep fr kd b
  rw [hl, hm, List.length_replicate] at hok
  unfold msgB
  rw [hl, hm]
  by_cases h : contentOk n ep fr kd m = true
  · rw [if_pos h]
    exact (put_good A B Z none none n m 3309 0 0 c d 3309 0 0 l b (List.replicate 3309 0) [] [] ep fr kd w hG hr hrb hz (Rd.nil _ _) (Rd.nil _ _) (by rw [h] at hok; exact hok)).mono fun e w' ⟨v, h1, h2, h3⟩ => ⟨v, 0, h1, h2, h3⟩
  · rw [if_neg h]
    have h' : contentOk n ep fr kd m = false := by simpa using h
    exact (put_bad A B Z none none n m 3309 0 0 c d 3309 0 0 ep fr kd w (by rw [h'] at hok; exact hok)).mono fun e w' ⟨h1, h3⟩ => ⟨_, 181, h1, own_nil _ _ _ _, h3⟩
set_option maxRecDepth 100000 in
set_option maxHeartbeats 1000000 in
/-- law22.message -/
theorem lmessage_any (A B : Option Addr) (n m c d : Nat) (l b : List Int) (ep fr kd : Int) (w : World) (hG : Classes w) (hr : Rd w A n l) (hrb : Rd w B m b) :
    Calls Tryd.prog 12 #[.agg #[.slice A n c, .int .i64 ep, .int .i64 fr, .int .i64 kd, .slice B m d]] w fun e w' => ∃ v, e = .returned v ∧ Ow w' w.heap.size v (msgB l ep fr kd b) ∧ Below w.heap.size w w' := by
  have km : ∀ W : World, (Instr.makeSlice 23 (.int .i64 3309) (.int .i64 3309)).run Tryd.prog W = .ok (.slice (some ⟨W.heap.size, 0, none⟩) 3309 3309) (W.alloc (.cells (madeCells #[.int .u8 0] 3309) 5)) :=
    print_make (P := Tryd.prog) 23 5 .u8 1 Tryd.underlying23 info_u8 (by omega) 3309 (by omega)
  obtain ⟨W, hW⟩ : ∃ W, W = w.alloc (.cells #[.slice A n c, .int .i64 ep, .int .i64 fr, .int .i64 kd, .slice B m d] 36) := ⟨_, rfl⟩
  have hbW : Below w.heap.size w W := by rw [hW]; exact below_box _ _
  have hWb : W.heap[w.heap.size]? = some (.cells #[.slice A n c, .int .i64 ep, .int .i64 fr, .int .i64 kd, .slice B m d] 36 (0, 0)) := by rw [hW]; exact heap_alloc_new _ _
  have hzW : W.heap.size = w.heap.size + 1 := by rw [hW]; simp
  have hm3 := made_zeros W 3309 (by omega)
  generalize madeCells #[Value.int .u8 0] 3309 = mz at *
  have hb3 := below_box W (.cells mz 5)
  have HP : Hid (∀ W', CN (W.alloc (.cells mz 5)) W' → Calls Tryd.prog 29 #[.agg #[.slice A n c, .int .i64 ep, .int .i64 fr, .int .i64 kd, .slice B m d, .slice (some ⟨W.heap.size, 0, none⟩) 3309 3309, .slice none 0 0, .slice none 0 0]] W' fun e w' => ∃ v er, e = .returned (.tuple #[v, .int .i64 er]) ∧ Ow w' w.heap.size v (msgB l ep fr kd b) ∧ Below w.heap.size w w' ∧ Below W'.heap.size W' w') :=
    Lib.hid (fun W' hc => by
      have hB : Below w.heap.size w W' := (hbW.trans (hb3.mono (by omega))).trans (hc.below (by simp; omega) (fun _ _ k => k.elim))
      refine (put_msg A B (some ⟨W.heap.size, 0, none⟩) n m c d l b ep fr kd W' (hG.keep hB) (hr.keep hB) (hrb.keep hB) ((BF.of_cn (S := fun _ => False) hc).rd hm3 (fun _ _ _ k => k))).mono fun e w' ⟨v, er, h1, h2, h3⟩ => ⟨v, er, h1, own_base_le h2 hB.size, hB.trans (h3.mono hB.size), h3⟩)
  have hcc : W.cell? ⟨w.heap.size, 0, none⟩ = some (.slice A n c) ∧ W.cell? ⟨w.heap.size, 1, none⟩ = some (.int .i64 ep) ∧ W.cell? ⟨w.heap.size, 2, none⟩ = some (.int .i64 fr) ∧ W.cell? ⟨w.heap.size, 3, none⟩ = some (.int .i64 kd) ∧ W.cell? ⟨w.heap.size, 4, none⟩ = some (.slice B m d) := ⟨(Cl.block hWb 0 _ rfl).c, (Cl.block hWb 1 _ rfl).c, (Cl.block hWb 2 _ rfl).c, (Cl.block hWb 3 _ rfl).c, (Cl.block hWb 4 _ rfl).c⟩
  have HC := Lib.hid hcc
  have HCD := Lib.hid (show W.drew.cell? ⟨w.heap.size, 0, none⟩ = some (.slice A n c) ∧ W.drew.cell? ⟨w.heap.size, 1, none⟩ = some (.int .i64 ep) ∧ W.drew.cell? ⟨w.heap.size, 2, none⟩ = some (.int .i64 fr) ∧ W.drew.cell? ⟨w.heap.size, 3, none⟩ = some (.int .i64 kd) ∧ W.drew.cell? ⟨w.heap.size, 4, none⟩ = some (.slice B m d) from hcc)
  have HCA := Lib.hid (show (W.alloc (.cells mz 5)).drew.cell? ⟨w.heap.size, 0, none⟩ = some (.slice A n c) ∧ (W.alloc (.cells mz 5)).drew.cell? ⟨w.heap.size, 1, none⟩ = some (.int .i64 ep) ∧ (W.alloc (.cells mz 5)).drew.cell? ⟨w.heap.size, 2, none⟩ = some (.int .i64 fr) ∧ (W.alloc (.cells mz 5)).drew.cell? ⟨w.heap.size, 3, none⟩ = some (.int .i64 kd) ∧ (W.alloc (.cells mz 5)).drew.cell? ⟨w.heap.size, 4, none⟩ = some (.slice B m d) from ⟨pw_cell_below (below_drew (below_box W _)) hcc.1, pw_cell_below (below_drew (below_box W _)) hcc.2.1, pw_cell_below (below_drew (below_box W _)) hcc.2.2.1, pw_cell_below (below_drew (below_box W _)) hcc.2.2.2.1, pw_cell_below (below_drew (below_box W _)) hcc.2.2.2.2⟩)
  have HWW := Lib.hid hW
  have HZ := Lib.hid hzW
  generalize msgB l ep fr kd b = ms at *
  clear hG hr hrb hm3 hbW hWb hzW hW hcc hb3
  go_enter Tryd.func12, Tryd.ntmps12
  go_wp2_with fail
  rw [← HWW.out]
  clear HWW
  go_region_held3 (fun w' => w'.cell? ⟨w.heap.size, 0, none⟩ = some (.slice A n c) ∧ w'.cell? ⟨w.heap.size, 1, none⟩ = some (.int .i64 ep) ∧ w'.cell? ⟨w.heap.size, 2, none⟩ = some (.int .i64 fr) ∧ w'.cell? ⟨w.heap.size, 3, none⟩ = some (.int .i64 kd) ∧ w'.cell? ⟨w.heap.size, 4, none⟩ = some (.slice B m d))
    (first | (with_reducible exact HCD.out) | (with_reducible exact HCA.out) | (with_reducible exact hc4.out))
    (first | (go_at_call 29; refine (HP.out _ (CF.drew (CF.refl _ _))).mono ?_; rintro x w4 ⟨v4, er, rfl, ho4, hb4, hb5⟩; have hc4 := Lib.hid (And.intro (pw_cell_below hb5 HCA.out.1) (And.intro (pw_cell_below hb5 HCA.out.2.1) (And.intro (pw_cell_below hb5 HCA.out.2.2.1) (And.intro (pw_cell_below hb5 HCA.out.2.2.2.1) (pw_cell_below hb5 HCA.out.2.2.2.2))))); obtain ⟨A4, q4, rfl⟩ := own_slice ho4))
  all_goals
    go_wp2
    go_ret
    exact ⟨_, rfl, ho4, hb4⟩
/-- the bytes of a sealed text -/
def selB (l : List Int) (ep fr : Int) (b : List Int) : List Int := if sealedOk l.length ep fr 0 b.length = true then sealedB l ep fr 0 b else []
set_option maxRecDepth 100000 in
set_option maxHeartbeats 1000000 in
/-- law22.sealed's bytes -/
theorem lsealed_any (A B : Option Addr) (n m c d : Nat) (l b : List Int) (ep fr kd : Int) (w : World) (hG : Classes w) (hr : Rd w A n l) (hrb : Rd w B m b) :
    Calls Tryd.prog 14 #[.agg #[.slice A n c, .int .i64 ep, .int .i64 fr, .int .i64 kd, .slice B m d]] w fun e w' => ∃ v, e = .returned v ∧ Ow w' w.heap.size v (selB l ep fr b) ∧ Below w.heap.size w w' := by
  obtain ⟨W, hW⟩ : ∃ W, W = w.alloc (.cells #[.slice A n c, .int .i64 ep, .int .i64 fr, .int .i64 kd, .slice B m d] 36) := ⟨_, rfl⟩
  have hbW : Below w.heap.size w W := by rw [hW]; exact below_box _ _
  have HP : Hid (Calls Tryd.prog 34 #[.agg #[.slice A n c, .int .i64 ep, .int .i64 fr, .int .i64 0, .slice B m d]] W fun e w' => ∃ v er, e = .returned (.tuple #[v, .int .i64 er]) ∧ Ow w' w.heap.size v (selB l ep fr b) ∧ Below w.heap.size w w') := Lib.hid (by
    have hl := hr.1
    have hm := hrb.1
    by_cases h : sealedOk n ep fr 0 m = true
    · unfold selB; rw [hl, hm, if_pos h]
      exact (puts_good A B n c m d l b ep fr 0 W (hG.keep hbW) (hr.keep hbW) (hrb.keep hbW) h).mono fun e w' ⟨v, h1, h2, h3⟩ => ⟨v, 0, h1, own_base_le h2 hbW.size, hbW.trans (h3.mono hbW.size)⟩
    · have h' : sealedOk n ep fr 0 m = false := by simpa using h
      unfold selB; rw [hl, hm, if_neg h]
      exact (puts_bad A B n c m d ep fr 0 W h').mono fun e w' ⟨h1, h3⟩ => ⟨_, 181, h1, own_nil _ _ _ _, hbW.trans (h3.mono hbW.size)⟩)
  generalize selB l ep fr b = ms at *
  rw [hW] at HP
  clear hG hr hrb hbW hW
  go_enter Tryd.func14, Tryd.ntmps14
  go_wp2_with fail
  refine HP.out.mono ?_
  rintro x w4 ⟨v4, er, rfl, ho4, hb4⟩
  obtain ⟨A4, q4, rfl⟩ := own_slice ho4
  go_wp2_with fail
  go_ret
  exact ⟨_, rfl, ho4, hb4⟩
theorem sealedB_bytes (l : List Int) (ep fr gn : Int) (b : List Int) (hl : AllB l) (hb : AllB b) : AllB (sealedB l ep fr gn b) :=
  ((((TB_bytes _ hl).append (beB_bytes _ _)).append (beB_bytes _ _)).append (beB_bytes _ _)).append (TB_bytes _ hb)
theorem sealedB_length (l : List Int) (ep fr gn : Int) (b : List Int) (hok : sealedOk l.length ep fr gn b.length = true) : (sealedB l ep fr gn b).length ≤ 100000 := by
  obtain ⟨⟨n0, n1, e0, e1, f0, f1⟩, k0, k1, m1⟩ := sealedOk_iff.1 hok
  have hN : ∀ x : List Int, (TB x).length ≤ x.length + 4 := fun x => by rw [TB_length]; unfold lenN; split <;> (try split) <;> omega
  have a1 := hN l
  have a2 := hN b
  simp only [sealedB, aheadB, placeB, List.length_append, beB_length]
  omega
theorem selB_bytes (l : List Int) (ep fr : Int) (b : List Int) (hl : AllB l) (hb : AllB b) : AllB (selB l ep fr b) ∧ (selB l ep fr b).length ≤ 100000 := by
  unfold selB
  split
  · rename_i h
    exact ⟨sealedB_bytes _ _ _ _ _ hl hb, sealedB_length _ _ _ _ _ h⟩
  · exact ⟨AllB.nil, by simp⟩
end Go.Proofs.YtcfbmglhikjahaaDoor
