/- package hub: New, Epoch, Len, Leave, Fetch. -/
import Derived.Test.YtcfbmglhikjahaaDoorRound
import Derived.Test.YtcfbmglhikjahaaDoorBlocks
set_option linter.unusedVariables false
set_option linter.unusedSimpArgs false
namespace Go.Proofs.YtcfbmglhikjahaaDoor
open Go.RowKit Go.Proofs.YtcfbmglhikjahaaDoorW.PrintWords

/-- block g is a hub -/
abbrev IsHub (W : World) (g : Nat) (vg : Value) (ep : Int) (vq vp : Value) : Prop := W.heap[g]? = some (.cells #[vg, .int .i64 ep, vq, vp] 63 (0, 0))
/-- what a hub's methods turn -/
def HS (g : Nat) (vq vp : Value) (b : Nat) : Prop := b = g ∨ vq.ownBlock = some b ∨ vp.ownBlock = some b
theorem info_pack : (Tryd.prog.info? 64).map (fun i => (i.zero, i.size, i.bytes)) = some (some (.pointer none), 1, 8) := by kernel_rfl

set_option maxRecDepth 100000 in
/-- hub.New of what is no group's name -/
theorem hnew_bad (A : Option Addr) (n c : Nat) (w : World) (hn : n = 0 ∨ 32 < n) :
    Calls Tryd.prog 8 #[.slice A n c] w fun e w' => e = .returned (.pointer none) ∧ w = w' := by
  by_cases c1 : n = 0
  · subst c1
    go_enter Tryd.func8, Tryd.ntmps8
    go_wp2
    go_ret
    exact ⟨rfl, rfl⟩
  · have k1 : ((n : Int) == 0) = false := by rw [beq_eq_false_iff_ne]; omega
    have k2 : (n == 0) = false := by rw [beq_eq_false_iff_ne]; omega
    have k3 : 32 < n := by omega
    go_enter Tryd.func8, Tryd.ntmps8
    go_wp2
    go_ret
    exact ⟨rfl, rfl⟩
set_option maxRecDepth 100000 in
set_option maxHeartbeats 1000000 in
/-- hub.New -/
theorem hnew_good (A : Option Addr) (n c : Nat) (l : List Int) (w : World) (h : Rd w A n l) (h0 : 0 < n) (h1 : n ≤ 32) :
    Calls Tryd.prog 8 #[.slice A n c] w fun e w' => ∃ g vg, e = .returned (.pointer (some ⟨g, 0, none⟩)) ∧ w.heap.size ≤ g ∧ IsHub w' g vg 0 (.slice none 0 0) (.slice none 0 0) ∧ Ow w' w.heap.size vg l ∧ Below w.heap.size w w' := by
  have k1 : ((n : Int) == 0) = false := by rw [beq_eq_false_iff_ne]; omega
  have k2 : (n == 0) = false := by rw [beq_eq_false_iff_ne]; omega
  have HR := Lib.hid h
  clear h
  go_enter Tryd.func8, Tryd.ntmps8
  go_wp2_with fail
  refine (clone_any A n c l w HR.out (by omega)).mono ?_
  rintro e w1 ⟨v, rfl, ho, hb⟩
  obtain ⟨A1, q1, rfl⟩ := own_slice ho
  go_wp2_with fail
  go_ret
  refine ⟨_, _, rfl, hb.size, heap_alloc_new _ _, ho.alloc _, hb.trans ((below_box w1 _).mono hb.size)⟩
theorem epoch_any (g : Nat) (vg vq vp : Value) (ep : Int) (w : World) (h : IsHub w g vg ep vq vp) :
    Calls Tryd.prog 15 #[.pointer (some ⟨g, 0, none⟩)] w fun e w' => e = .returned (.int .i64 ep) ∧ w = w' := by
  have h1 := (cell_block h 1 _ rfl).1
  go_enter Tryd.func15, Tryd.ntmps15
  go_wp2
  go_ret
  exact ⟨rfl, rfl⟩
theorem len_any (g : Nat) (vg vp : Value) (A : Option Addr) (n c : Nat) (ep : Int) (w : World) (h : IsHub w g vg ep (.slice A n c) vp) :
    Calls Tryd.prog 17 #[.pointer (some ⟨g, 0, none⟩)] w fun e w' => e = .returned (.int .i64 n) ∧ w = w' := by
  have h1 := (cell_block h 2 _ rfl).1
  go_enter Tryd.func17, Tryd.ntmps17
  go_wp2
  go_ret
  exact ⟨rfl, rfl⟩
theorem equalb_dummy : True := trivial
set_option maxRecDepth 100000 in
set_option maxHeartbeats 1000000 in
/-- (*Hub).now -/
theorem now_any (g : Nat) (vq vp : Value) (A B : Option Addr) (n c m d : Nat) (l x : List Int) (ep t : Int) (w : World) (h : IsHub w g (.slice A n c) ep vq vp) (hl : Rd w A n l) (hx : Rd w B m x) (bl : AllB l) (bx : AllB x) :
    Calls Tryd.prog 46 #[.pointer (some ⟨g, 0, none⟩), .slice B m d, .int .i64 t] w fun e w' => e = .returned (.bool (decide (x = l) && decide (t = ep))) ∧ w = w' := by
  have h0 := (cell_block h 0 _ rfl).1
  have h1 := (cell_block h 1 _ rfl).1
  have HA := Lib.hid hl
  have HB := Lib.hid hx
  clear h hl hx
  go_enter Tryd.func46, Tryd.ntmps46
  go_wp2_with fail
  refine (equal_any B A m d n c x l w HB.out HA.out bx bl).mono ?_
  rintro e w1 ⟨rfl, rfl⟩
  by_cases e1 : x = l
  · have q1 : decide (x = l) = true := decide_eq_true e1
    by_cases e2 : t = ep
    · have q2 : decide (t = ep) = true := decide_eq_true e2
      have q3 : (t == ep) = true := beq_iff_eq.2 e2
      rw [q1]
      go_wp2_with fail
      go_ret
      exact ⟨by rw [q1, q2]; rfl, rfl⟩
    · have q2 : decide (t = ep) = false := decide_eq_false e2
      have q3 : (t == ep) = false := beq_eq_false_iff_ne.2 e2
      rw [q1]
      go_wp2_with fail
      go_ret
      exact ⟨by rw [q1, q2]; rfl, rfl⟩
  · have q1 : decide (x = l) = false := decide_eq_false e1
    rw [q1]
    go_wp2_with fail
    go_ret
    exact ⟨by rw [q1]; rfl, rfl⟩
set_option maxRecDepth 100000 in
set_option maxHeartbeats 1000000 in
theorem leave_good (g : Nat) (vg vq vp : Value) (ps : List Value) (B : Nat) (A : Option Addr) (n c : Nat) (l : List Int) (ep : Int) (w : World) (h : IsHub w g vg ep vq vp) (hB : B ≤ w.heap.size)
    (hp : w.ownsRow B 64 1 vp ps.length ps) (hl : Rd w A n l) (h0 : 0 < n) (h1 : n ≤ 10000) (h2 : ps.length < 64) :
    Calls Tryd.prog 9 #[.pointer (some ⟨g, 0, none⟩), .slice A n c] w fun e w' => ∃ v1 v b, e = .returned (.tuple #[.int .i64 ps.length, .int .i64 0]) ∧ IsHub w' g vg ep vq v1 ∧
      w'.ownsRow B 64 1 v1 (ps ++ [Value.pointer (some ⟨b, 0, none⟩)]).length (ps ++ [Value.pointer (some ⟨b, 0, none⟩)]) ∧ w.heap.size ≤ b ∧ w'.heap[b]? = some (.cells #[v] 23 (0, 0)) ∧ Ow w' w.heap.size v l ∧
      (v1.ownBlock = vp.ownBlock ∨ ∃ k, v1.ownBlock = some k ∧ w.heap.size ≤ k) ∧ BF (HS g vq vp) w w' := by
  have k1 : ((n : Int) == 0) = false := by rw [beq_eq_false_iff_ne]; omega
  have k2 : (n == 0) = false := by rw [beq_eq_false_iff_ne]; omega
  have k3 : decide (10000 < (n : Int)) = false := decide_eq_false (by omega)
  have k4 : ((ps.length : Int) == 64) = false := by rw [beq_eq_false_iff_ne]; omega
  obtain ⟨Ap, qp, rfl⟩ := own_slice hp
  have c3 : w.cell? ⟨g, 3, none⟩ = some (.slice Ap ps.length qp) := (cell_block h 3 _ rfl).1
  have f3 := (cell_block h 3 _ rfl).2
  have HL := Lib.hid hl
  have HP := Lib.hid hp
  have HH := Lib.hid h
  clear hl hp h
  go_enter Tryd.func9, Tryd.ntmps9
  go_wp2_with fail
  refine (clone_any A n c l _ HL.out (by omega)).mono ?_
  rintro e w1 ⟨v, rfl, ho, hb⟩
  obtain ⟨A1, q1, rfl⟩ := own_slice ho
  have c3' : (w1.alloc (.cells #[.slice A1 l.length q1] 23)).cell? ⟨g, 3, none⟩ = some (.slice Ap ps.length qp) := pw_cell_below (hb.trans ((below_box w1 _).mono hb.size)) c3
  have HO := Lib.hid ho
  clear ho
  obtain ⟨W, hW⟩ : ∃ W, W = (w1.alloc (.cells #[.slice A1 l.length q1] 23)).alloc (.cells #[.pointer (some ⟨w1.heap.size, 0, none⟩)] 64) := ⟨_, rfl⟩
  have hbW : Below w.heap.size w W := by rw [hW]; exact hb.trans (((below_box w1 _).trans ((below_box _ _).mono (by simp))).mono hb.size)
  have hWs : W.heap.size = w1.heap.size + 2 := by rw [hW]; simp
  have hWbox : W.heap[w1.heap.size]? = some (.cells #[.slice A1 l.length q1] 23 (0, 0)) := by rw [hW]; exact heap_at
  have hWp : W.cell? ⟨w1.heap.size + 1, 0, none⟩ = some (.pointer (some ⟨w1.heap.size, 0, none⟩)) := by
    have : W.heap[w1.heap.size + 1]? = some (.cells #[.pointer (some ⟨w1.heap.size, 0, none⟩)] 64 (0, 0)) := by
      rw [hW]; have := heap_alloc_new (w1.alloc (.cells #[.slice A1 l.length q1] 23)) (.cells #[.pointer (some ⟨w1.heap.size, 0, none⟩)] 64); rwa [World.size_alloc] at this
    exact (cell_block this 0 _ rfl).1
  have hWo : Ow W w.heap.size (.slice A1 l.length q1) l := by rw [hW]; exact (HO.out.alloc _).alloc _
  have hWr := pw_own_below HP.out hbW
  have hWh : W.heap[g]? = _ := (hbW.block g (Array.getElem?_eq_some_iff.1 HH.out).1).trans HH.out
  have hgl : g < w.heap.size := (Array.getElem?_eq_some_iff.1 HH.out).1
  have hsz := hb.size
  have HW := Lib.hid hW
  clear hW
  go_wp2_with (at_builtin; rw [← HW.out]; refine append_one B rfl _ _ 61 64 (.pointer none) 1 8 rfl Tryd.underlying61 info_pack rfl (by omega) (.slice Ap ps.length qp) ps.length ps [.pointer (some ⟨w1.heap.size, 0, none⟩)] (w1.heap.size + 1) 1 rfl rfl hWr rfl (by intro j u hj; match j, hj with | 0, hj => injection hj with hj; rw [← hj]; exact hWp) (by simp [Value.oneCell']) (by omega) (by unfold maxLen; omega) (by omega) ?_; intro v1 w2 hown hg hat; obtain ⟨A2, q2, rfl⟩ := own_slice hown; have hh2 := Lib.hid ((hg.block g (by omega) (fun e => row_ne hWr hWh (by decide) e.symm)).trans hWh); have d3 : w2.cell? ⟨g, 3, none⟩ = some (.slice Ap ps.length qp) := (cell_block hh2.out 3 _ rfl).1; have f3 := (cell_block hh2.out 3 _ rfl).2; clear hWp)
  go_ret2
  have hF : BF (HS g vq (.slice Ap ps.length qp)) w w2 := (BF.of_below hbW).grown hg (fun b e _ => .inr (.inr e))
  have hF' := hF.set g 3 (.slice A2 (ps.length + 1) q2) (fun _ => .inl rfl)
  have hP := HP.out
  have hS : BF (fun b => b = g) w2 (w2.setCell ⟨g, 3, none⟩ (.slice A2 (ps.length + 1) q2)) := (BF.refl _ _).set g 3 _ (fun _ => rfl)
  have hG2 : BF (fun b => Value.ownBlock (.slice Ap ps.length qp) = some b) W w2 := (BF.refl _ _).grown hg (fun _ e _ => e)
  refine ⟨.slice A2 (ps.length + 1) q2, .slice A1 l.length q1, w1.heap.size, rfl, ?_, ?_, hsz, ?_, ?_, ?_, hF'⟩
  · exact set_block hh2.out 3 _
  · rw [List.length_append]; exact hS.row hown (fun b e k => row_ne hown hh2.out (by decide) (k ▸ e))
  · exact hS.at (hG2.at hWbox (row_ne hWr hWbox (by decide))) (by omega)
  · have hw2 := hG2.row hWo (fun b e => rows_ne hWr hWo (by decide) b e)
    exact hS.row hw2 (fun b e k => row_ne hw2 hh2.out (by decide) (k ▸ e))
  · rcases hat with e | e
    · exact .inl e
    · exact .inr ⟨_, e, hbW.size⟩

set_option maxRecDepth 100000 in
/-- Leave of what is no package -/
theorem leave_bad (g : Nat) (A : Option Addr) (n c : Nat) (w : World) (hn : n = 0 ∨ 10000 < n) :
    Calls Tryd.prog 9 #[.pointer (some ⟨g, 0, none⟩), .slice A n c] w fun e w' => e = .returned (.tuple #[.int .i64 0, .int .i64 1]) ∧ w = w' := by
  by_cases c1 : n = 0
  · subst c1
    go_enter Tryd.func9, Tryd.ntmps9
    go_wp2
    go_ret2
    exact ⟨rfl, rfl⟩
  · have k1 : ((n : Int) == 0) = false := by rw [beq_eq_false_iff_ne]; omega
    have k2 : (n == 0) = false := by rw [beq_eq_false_iff_ne]; omega
    have k3 : decide (10000 < (n : Int)) = true := decide_eq_true (by omega)
    go_enter Tryd.func9, Tryd.ntmps9
    go_wp2
    go_ret2
    exact ⟨rfl, rfl⟩
/-- Fetch of what is none -/
theorem fetch_out (g : Nat) (vg vq vp : Value) (ps : List Value) (B : Nat) (i : Int) (ep : Int) (w : World) (h : IsHub w g vg ep vq vp) (hp : w.ownsRow B 64 1 vp ps.length ps) (hi : i < 0 ∨ ps.length ≤ i) :
    Calls Tryd.prog 10 #[.pointer (some ⟨g, 0, none⟩), .int .i64 i] w fun e w' => e = .returned (.tuple #[.slice none 0 0, .int .i64 1]) ∧ w = w' := by
  obtain ⟨Ap, qp, rfl⟩ := own_slice hp
  have c3 : w.cell? ⟨g, 3, none⟩ = some (.slice Ap ps.length qp) := (cell_block h 3 _ rfl).1
  clear hp h
  by_cases c1 : i < 0
  · have k1 : decide (i < 0) = true := decide_eq_true c1
    go_enter Tryd.func10, Tryd.ntmps10
    go_wp2
    go_ret2
    exact ⟨rfl, rfl⟩
  · have k1 : decide (i < 0) = false := decide_eq_false c1
    have k2 : decide (ps.length ≤ i) = true := decide_eq_true (by omega)
    go_enter Tryd.func10, Tryd.ntmps10
    go_wp2
    go_ret2
    exact ⟨rfl, rfl⟩
/-- Fetch of what was fetched -/
theorem fetch_nil (g : Nat) (vg vq vp : Value) (ps : List Value) (B : Nat) (i : Nat) (ep : Int) (w : World) (h : IsHub w g vg ep vq vp) (hp : w.ownsRow B 64 1 vp ps.length ps) (hi : ps[i]? = some (.pointer none)) :
    Calls Tryd.prog 10 #[.pointer (some ⟨g, 0, none⟩), .int .i64 i] w fun e w' => e = .returned (.tuple #[.slice none 0 0, .int .i64 1]) ∧ w = w' := by
  have hlt : i < ps.length := (List.getElem?_eq_some_iff.1 hi).1
  rcases hp.2 with ⟨rfl, h0⟩ | ⟨gp, cap, cur, rfl, hBp, hcur, hcap, _, hsz, htk⟩
  · omega
  have c3 : w.cell? ⟨g, 3, none⟩ = some (.slice (some ⟨gp, 0, none⟩) ps.length cap) := (cell_block h 3 _ rfl).1
  have ci : w.cell? ⟨gp, i, none⟩ = some (.pointer none) := by
    have := hp.cells (g := gp) rfl i _ hi
    have e : (⟨gp, 0, none⟩ : Addr).add i = ⟨gp, i, none⟩ := by unfold Addr.add; split <;> simp_all
    rwa [e] at this
  clear hp h
  have k1 : decide ((i : Int) < 0) = false := decide_eq_false (by omega)
  have k2 : decide (ps.length ≤ (i : Int)) = false := decide_eq_false (by omega)
  go_enter Tryd.func10, Tryd.ntmps10
  go_wp2
  go_ret2
  exact ⟨rfl, rfl⟩
/-- Fetch -/
theorem fetch_good (g : Nat) (vg vq vp v : Value) (ps : List Value) (B : Nat) (i b : Nat) (ep : Int) (w : World) (h : IsHub w g vg ep vq vp) (hp : w.ownsRow B 64 1 vp ps.length ps) (hi : ps[i]? = some (.pointer (some ⟨b, 0, none⟩)))
    (hb : w.heap[b]? = some (.cells #[v] 23 (0, 0))) (hv : ∃ A n c, v = .slice A n c) :
    Calls Tryd.prog 10 #[.pointer (some ⟨g, 0, none⟩), .int .i64 i] w fun e w' => e = .returned (.tuple #[v, .int .i64 0]) ∧ IsHub w' g vg ep vq vp ∧ w'.ownsRow B 64 1 vp (ps.set i (.pointer none)).length (ps.set i (.pointer none)) ∧
      BF (HS g vq vp) w w' := by
  have hlt : i < ps.length := (List.getElem?_eq_some_iff.1 hi).1
  obtain ⟨A, n, c, rfl⟩ := hv
  have hp0 := hp
  rcases hp.2 with ⟨rfl, h0⟩ | ⟨gp, cap, cur, rfl, hBp, hcur, hcap, hmx, hsz, htk⟩
  · omega
  have c3 : w.cell? ⟨g, 3, none⟩ = some (.slice (some ⟨gp, 0, none⟩) ps.length cap) := (cell_block h 3 _ rfl).1
  have ci : w.cell? ⟨gp, i, none⟩ = some (.pointer (some ⟨b, 0, none⟩)) := by
    have := hp.cells (g := gp) rfl i _ hi
    have e : (⟨gp, 0, none⟩ : Addr).add i = ⟨gp, i, none⟩ := by unfold Addr.add; split <;> simp_all
    rwa [e] at this
  have fi : w.frozen? ⟨gp, i, none⟩ = false := by simp [World.frozen?, hcur]
  have cb : w.cell? ⟨b, 0, none⟩ = some (.slice A n c) := (cell_block hb 0 _ rfl).1
  have HH := Lib.hid h
  have HP := Lib.hid hp0
  have hgp : gp ≠ g := fun e => row_ne hp h (by decide) (by simp [Value.ownBlock, e])
  have hcur' := Lib.hid hcur
  have htk' := Lib.hid htk
  clear hp h hp0 hb hi hcur htk
  have k1 : decide ((i : Int) < 0) = false := decide_eq_false (by omega)
  have k2 : decide (ps.length ≤ (i : Int)) = false := decide_eq_false (by omega)
  go_enter Tryd.func10, Tryd.ntmps10
  go_wp2
  go_ret2
  have hS : BF (fun b => b = gp) w (w.setCell ⟨gp, i, none⟩ (.pointer none)) := (BF.refl _ _).set gp i _ (fun _ => rfl)
  refine ⟨rfl, hS.at HH.out (fun e => hgp e.symm), ?_, hS.mono (fun b e => .inr (.inr (by simp [Value.ownBlock, e])))⟩
  refine ⟨by simp, .inr ⟨gp, cap, cur.setIfInBounds i (.pointer none), by rw [List.length_set], hBp, set_block hcur'.out i _, by rw [List.length_set]; exact hcap, hmx, by simpa using hsz, ?_⟩⟩
  have := htk'.out
  rw [Nat.mul_one] at this ⊢
  rw [Array.toList_setIfInBounds, List.length_set, List.take_set, this]
end Go.Proofs.YtcfbmglhikjahaaDoor
