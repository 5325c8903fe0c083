/- package frame: GetSealed. -/
import Derived.Test.YtcfbmglhikjahaaDoorGetO
import Derived.Test.YtcfbmglhikjahaaDoorSealed
import Derived.Test.YtcfbmglhikjahaaDoorBlocks
set_option linter.unusedVariables false
set_option linter.unusedSimpArgs false
namespace Go.Proofs.YtcfbmglhikjahaaDoor
open Go.RowKit Go.Proofs.YtcfbmglhikjahaaDoorW.PrintWords

/-- what stands in the bytes of a sealed text -/
def sN (l : List Int) : Int × Int × Int := rnum l (rplF l 0 0).2.1 (rplF l 0 0).2.2 4
def sT (l : List Int) : Int × Int := rst l (sN l).2.1 (sN l).2.2 1
def sBody (l : List Int) : List Int := rval l (sN l).2.1 (sN l).2.2 0
def sOk (l : List Int) : Bool := sealedOk (rval l 0 0 0).length (rplE l 0 0).1 (rplF l 0 0).1 (sN l).1 (sBody l).length
def getsE (l : List Int) : Int := endR l.length (sT l).1 (sT l).2 (sOk l)
theorem alloc5 {T : Nat → Nat → Prop} {W w4 : World} {v0 v1 v2 v3 v4 : Value} {t : TypeId} (h : CF T (W.alloc (.cells #[v0, v1, v2, v3, v4] t)).drew w4) (hn : ∀ o, ¬ T W.heap.size o) :
    (w4.cell? ⟨W.heap.size, 0, none⟩ = some v0 ∧ w4.cell? ⟨W.heap.size, 1, none⟩ = some v1 ∧ w4.cell? ⟨W.heap.size, 2, none⟩ = some v2 ∧ w4.cell? ⟨W.heap.size, 3, none⟩ = some v3 ∧ w4.cell? ⟨W.heap.size, 4, none⟩ = some v4) ∧
    (w4.frozen? ⟨W.heap.size, 0, none⟩ = false ∧ w4.frozen? ⟨W.heap.size, 1, none⟩ = false ∧ w4.frozen? ⟨W.heap.size, 2, none⟩ = false ∧ w4.frozen? ⟨W.heap.size, 3, none⟩ = false ∧ w4.frozen? ⟨W.heap.size, 4, none⟩ = false) := by
  have hb : (W.alloc (.cells #[v0, v1, v2, v3, v4] t)).drew.heap[W.heap.size]? = some (.cells #[v0, v1, v2, v3, v4] t (0, 0)) := heap_alloc_new W _
  have K := fun (i : Nat) (x : Value) (hi : (#[v0, v1, v2, v3, v4] : Array Value)[i]? = some x) => (Cl.block hb i x hi).cf h (hn i)
  have k0 := K 0 _ rfl
  have k1 := K 1 _ rfl
  have k2 := K 2 _ rfl
  have k3 := K 3 _ rfl
  have k4 := K 4 _ rfl
  exact ⟨⟨k0.c, k1.c, k2.c, k3.c, k4.c⟩, ⟨k0.f, k1.f, k2.f, k3.f, k4.f⟩⟩
def zS : Array Value := #[.slice none 0 0, .int .i64 0, .int .i64 0, .int .i64 0, .slice none 0 0]
/-- where the sealed text has its place, epoch, leaf and number -/
structure S4 (w W X : World) (g : Nat) (A : Option Addr) (n c : Nat) (v0 : Value) (grp : List Int) (ep fr gn ka ke : Int) : Prop where
  r : RC X (w.heap.size + 1) A n c ka ke
  f : CF (TR (w.heap.size + 1)) W X
  ge : W.heap.size ≤ g
  m0 : Cl X g 0 v0
  m1 : Cl X g 1 (.int .i64 ep)
  m2 : Cl X g 2 (.int .i64 fr)
  m3 : Cl X g 3 (.int .i64 gn)
  m4 : Cl X g 4 (.slice none 0 0)
  og : Ow X W.heap.size v0 grp
  ne : ∀ b, v0.ownBlock = some b → b ≠ g
theorem ow_lt {W : World} {B : Nat} {v : Value} {l : List Int} (h : Ow W B v l) : ∀ b, v.ownBlock = some b → b < W.heap.size := fun b e => by
  rcases h.2 with ⟨rfl, _⟩ | ⟨q, cap, cur, rfl, _, hh, _⟩
  · simp [Value.ownBlock] at e
  · have : q = b := by simpa [Value.ownBlock] using e
    subst this
    exact (Array.getElem?_eq_some_iff.1 hh).1
theorem S4.of_new {w W W3 w4 : World} {A : Option Addr} {n c : Nat} {v0 : Value} {grp : List Int} {ep fr gn ka ke : Int} {t : TypeId} (hf : CF (TR (w.heap.size + 1)) W W3) (h4 : CF (TR (w.heap.size + 1)) W3 w4) (hz : w.heap.size + 2 ≤ W.heap.size) (hr : RC w4 (w.heap.size + 1) A n c ka ke)
    (ho : Ow W3 W.heap.size v0 grp) : S4 w W (w4.alloc (.cells #[v0, .int .i64 ep, .int .i64 fr, .int .i64 gn, .slice none 0 0] t)) w4.heap.size A n c v0 grp ep fr gn ka ke := by
  have hb := heap_alloc_new w4 (.cells #[v0, .int .i64 ep, .int .i64 fr, .int .i64 gn, .slice none 0 0] t)
  have hB := below_box w4 (.cells #[v0, .int .i64 ep, .int .i64 fr, .int .i64 gn, .slice none 0 0] t)
  exact ⟨hr.cf (T := fun _ _ => False) (CF.of_below hB) (fun k => k) (fun k => k) (fun k => k), (hf.trans h4).trans (CF.of_below hB), (hf.trans h4).size, Cl.block hb 0 _ rfl, Cl.block hb 1 _ rfl, Cl.block hb 2 _ rfl, Cl.block hb 3 _ rfl, Cl.block hb 4 _ rfl,
    pw_own_below (CF.row ho h4 (fun b o k => by have := k.1; omega)) hB, fun b e => by have := ow_lt ho b e; have := h4.size; omega⟩
theorem S4.of_set {w W W3 w4 : World} {A : Option Addr} {n c : Nat} {v0 : Value} {grp : List Int} {ep fr gn ka ke : Int} {x0 x1 x2 x3 x4 : Value} (hf : CF (TR (w.heap.size + 1)) W W3) (h4 : CF (TR (w.heap.size + 1)) W3 w4) (hz : w.heap.size + 2 ≤ W.heap.size) (hr : RC w4 (w.heap.size + 1) A n c ka ke)
    (ho : Ow W3 W.heap.size v0 grp) (k0 : Cl w4 W3.heap.size 0 x0) (k1 : Cl w4 W3.heap.size 1 x1) (k2 : Cl w4 W3.heap.size 2 x2) (k3 : Cl w4 W3.heap.size 3 x3) (k4 : Cl w4 W3.heap.size 4 x4) :
    S4 w W (set5 w4 W3.heap.size v0 (.int .i64 ep) (.int .i64 fr) (.int .i64 gn) (.slice none 0 0)) W3.heap.size A n c v0 grp ep fr gn ka ke := by
  have hs := hf.size
  have hc := set5_cf w4 W3.heap.size v0 (.int .i64 ep) (.int .i64 fr) (.int .i64 gn) (.slice none 0 0)
  obtain ⟨l0, l1, l2, l3, l4⟩ := set5_cl v0 (.int .i64 ep) (.int .i64 fr) (.int .i64 gn) (.slice none 0 0) k0 k1 k2 k3 k4
  have hcw : CF (TR (w.heap.size + 1)) W (set5 w4 W3.heap.size v0 (.int .i64 ep) (.int .i64 fr) (.int .i64 gn) (.slice none 0 0)) :=
    (hf.trans h4).over hc (fun b o hb k => by have := k.1; omega)
  refine ⟨hr.cf hc (fun k => by have := k.1; omega) (fun k => by have := k.1; omega) (fun k => by have := k.1; omega), hcw, hs, l0, l1, l2, l3, l4, ?_, fun b e => Nat.ne_of_lt (ow_lt ho b e)⟩
  have h1 : Ow w4 W.heap.size v0 grp := CF.row ho h4 (fun b o k => by have := k.1; omega)
  have hlt := ow_lt ho
  refine ⟨h1.1, ?_⟩
  rcases h1.2 with hn | ⟨q, cap, cur, rfl, hb, hgg, rest⟩
  · exact .inl hn
  · refine .inr ⟨q, cap, cur, rfl, hb, ?_, rest⟩
    rw [hc.block q (Array.getElem?_eq_some_iff.1 hgg).1 (fun o k => by have := hlt q rfl; have := k.1; omega)]
    exact hgg
/-- where the sealed text is whole -/
structure S5 (w w5 : World) (g : Nat) (A : Option Addr) (n c : Nat) (v0 vb : Value) (grp body : List Int) (ep fr gn ka ke : Int) : Prop where
  r : RC w5 (w.heap.size + 1) A n c ka ke
  cn : CN w w5
  ge : w.heap.size + 2 ≤ g
  z : ∀ (i : Nat) (v : Value), zS[i]? = some v → Cl w5 w.heap.size i v
  m0 : Cl w5 g 0 v0
  m1 : Cl w5 g 1 (.int .i64 ep)
  m2 : Cl w5 g 2 (.int .i64 fr)
  m3 : Cl w5 g 3 (.int .i64 gn)
  m4 : Cl w5 g 4 vb
  og : Ow w5 (w.heap.size + 2) v0 grp
  ob : Ow w5 (w.heap.size + 2) vb body
theorem S5.of {w W X w5 : World} {g : Nat} {A : Option Addr} {n c : Nat} {v0 vb : Value} {grp body : List Int} {ep fr gn ka ke ka' ke' : Int} (h : S4 w W X g A n c v0 grp ep fr gn ka ke) (ob : Obj) (hz : W.heap.size = w.heap.size + 2) (hb : Below w.heap.size w W) {t : TypeId}
    (hs : W.heap[w.heap.size]? = some (.cells zS t (0, 0))) (hF : CF (fun b o => TR (w.heap.size + 1) b o ∨ ∃ i, i < 1 ∧ b = g ∧ o = 4) (X.alloc ob) w5) (hr : RC w5 (w.heap.size + 1) A n c ka' ke') (hc : w5.cell? ⟨g, 4, none⟩ = some vb)
    (ho : Ow w5 (X.alloc ob).heap.size vb body) : S5 w w5 g A n c v0 vb grp body ep fr gn ka' ke' := by
  have hge := h.ge
  have hsX := h.f.size
  have hB := below_box X ob
  have hT : ∀ b o, b ≠ w.heap.size + 1 → ¬ (b = g ∧ o = 4) → ¬ (TR (w.heap.size + 1) b o ∨ ∃ i, i < 1 ∧ b = g ∧ o = 4) := fun b o h1 h2 k => by
    rcases k with k | ⟨_, _, k1, k2⟩
    · exact h1 k.1
    · exact h2 ⟨k1, k2⟩
  have hXw : CF (fun b o => TR (w.heap.size + 1) b o ∨ ∃ i, i < 1 ∧ b = g ∧ o = 4) W w5 := ((h.f.mono (fun b o k => .inl k)).alloc ob).trans hF
  have up : ∀ {o : Nat} {v : Value}, o ≠ 4 → Cl X g o v → Cl w5 g o v := fun h4 k => (k.below hB).cf hF (hT _ _ (by omega) (fun k => h4 k.2))
  refine ⟨hr, (CF.of_below hb).over hXw (fun b o hb k => ?_), by omega, fun i v hi => (Cl.block hs i v hi).cf hXw (hT _ _ (by omega) (by omega)), up (by omega) h.m0, up (by omega) h.m1, up (by omega) h.m2, up (by omega) h.m3, ⟨hc, (hF.frozen _ _ (World.block_lt_of_cell? _ _ (h.m4.below hB).c)).trans (h.m4.below hB).f⟩, ?_, own_base_le ho (by have := hB.size; omega)⟩
  · rcases k with k | ⟨_, _, k, _⟩
    · have := k.1; omega
    · omega
  · have h1 := pw_own_below h.og hB
    refine ⟨h1.1, ?_⟩
    rcases h1.2 with hn | ⟨q, cap, cur, rfl, hb, hgg, rest⟩
    · exact .inl hn
    · refine .inr ⟨q, cap, cur, rfl, by omega, ?_, rest⟩
      rw [hF.block q (Array.getElem?_eq_some_iff.1 hgg).1 (fun o k => by
        rcases k with k | ⟨_, _, k, _⟩
        · have := k.1; omega
        · exact h.ne q rfl k)]
      exact hgg
theorem S5.keep {w w5 w' : World} {g : Nat} {A : Option Addr} {n c : Nat} {v0 vb : Value} {grp body : List Int} {ep fr gn ka ke : Int} (h : S5 w w5 g A n c v0 vb grp body ep fr gn ka ke) (hc : CN w5 w') : S5 w w' g A n c v0 vb grp body ep fr gn ka ke :=
  have f : ∀ {b o : Nat} {v : Value}, Cl w5 b o v → Cl w' b o v := fun k => k.cf hc (fun x => x)
  ⟨h.r.cf hc (fun x => x) (fun x => x) (fun x => x), h.cn.trans hc, h.ge, fun i v hi => f (h.z i v hi), f h.m0, f h.m1, f h.m2, f h.m3, f h.m4, CF.row h.og hc (fun _ _ x => x.elim), CF.row h.ob hc (fun _ _ x => x.elim)⟩
theorem set5_cn {w W : World} (h : CN w W) (u0 u1 u2 u3 u4 : Value) : CN w (set5 W w.heap.size u0 u1 u2 u3 u4) := by
  have K := fun (W : World) (o : Nat) (u : Value) (hO : CN w W) => CF.set_new hO (b := w.heap.size) (o := o) u (Nat.le_refl _)
  exact K _ _ _ (K _ _ _ (K _ _ _ (K _ _ _ (K _ _ _ h))))
theorem set5_row {W : World} {b : Nat} {v : Value} {xs : List Int} (h : Ow W (b + 2) v xs) (u0 u1 u2 u3 u4 : Value) : Ow (set5 W b u0 u1 u2 u3 u4) b v xs := by
  have K := fun (W : World) (o : Nat) (u : Value) (hO : Ow W (b + 2) v xs) => CF.row (T := fun b' o' => b' = b ∧ o' = o) hO (CF.set u ⟨rfl, rfl⟩) (fun b' o' h => by omega)
  exact own_base_le (K _ _ _ (K _ _ _ (K _ _ _ (K _ _ _ (K _ _ _ h))))) (by omega)
/-- what GetSealed answers -/
def GetsPost (w : World) (l : List Int) (x : Ending) (w' : World) : Prop :=
  (getsE l ≠ 0 → x = .returned (.tuple #[.agg #[.slice none 0 0, .int .i64 0, .int .i64 0, .int .i64 0, .slice none 0 0], .int .i64 (getsE l)])) ∧
  (getsE l = 0 → ∃ vg vb, x = .returned (.tuple #[.agg #[vg, .int .i64 (rplE l 0 0).1, .int .i64 (rplF l 0 0).1, .int .i64 (sN l).1, vb], .int .i64 0]) ∧ Ow w' w.heap.size vg (rval l 0 0 0) ∧ Ow w' w.heap.size vb (sBody l)) ∧ CN w w'
set_option maxRecDepth 100000 in
set_option maxHeartbeats 4000000 in
theorem gets_post (A : Option Addr) (n c : Nat) (l : List Int) (w : World) (hG : Classes w) (h : Rd w A n l) (hc : n ≤ c) (hn : n ≤ 140737488355328) (hb : AllB l) :
    Calls Tryd.prog 47 #[.slice A n c] w (GetsPost w l) := by
  obtain ⟨W, hW⟩ : ∃ W, W = (w.alloc (.cells #[.slice none 0 0, .int .i64 0, .int .i64 0, .int .i64 0, .slice none 0 0] 69)).alloc (.cells #[.slice A n c, .int .i64 0, .int .i64 0] 72) := ⟨_, rfl⟩
  have hbW : Below w.heap.size w W := by rw [hW]; exact (below_box _ _).trans ((below_box _ _).mono (by simp))
  have hzW : W.heap.size = w.heap.size + 2 := by rw [hW]; simp
  have hsW : W.heap[w.heap.size]? = some (.cells #[.slice none 0 0, .int .i64 0, .int .i64 0, .int .i64 0, .slice none 0 0] 69 (0, 0)) := by rw [hW]; exact heap_at
  have hrW : W.heap[w.heap.size + 1]? = some (.cells #[.slice A n c, .int .i64 0, .int .i64 0] 72 (0, 0)) := by
    rw [hW]; have := heap_alloc_new (w.alloc (.cells #[.slice none 0 0, .int .i64 0, .int .i64 0, .int .i64 0, .slice none 0 0] 69)) (.cells #[.slice A n c, .int .i64 0, .int .i64 0] 72); rwa [World.size_alloc] at this
  have hGw := World.block_lt_of_cell? w _ hG.1
  simp only at hGw
  have HP := Lib.hid (rplace_any (w.heap.size + 1) A n c l 0 0 W (RC.block hrW) (hG.keep hbW) (by omega) (h.keep hbW) (fun h0 ad e => by have := h.block_lt h0 ad e; omega) hc hn hb (fun _ => by omega))
  have HW := Lib.hid hW
  rw [hW] at HP
  clear hW
  go_enter Tryd.func47, Tryd.ntmps47
  go_wp2_with fail
  refine HP.out.mono ?_
  rintro x w2 ⟨v, rfl, ho, hI, hF⟩
  obtain ⟨A2, q2, rfl⟩ := own_slice ho
  rw [← HW.out] at ho hF
  obtain ⟨W3, hW3⟩ : ∃ W3, W3 = w2.alloc (.cells #[.slice A2 (rval l 0 0 0).length q2, .int .i64 (rplE l 0 0).1, .int .i64 (rplF l 0 0).1] 75) := ⟨_, rfl⟩
  have hb3 : Below w2.heap.size w2 W3 := by rw [hW3]; exact below_box _ _
  have hp3 : W3.heap[w2.heap.size]? = some (.cells #[.slice A2 (rval l 0 0 0).length q2, .int .i64 (rplE l 0 0).1, .int .i64 (rplF l 0 0).1] 75 (0, 0)) := by rw [hW3]; exact heap_alloc_new _ _
  have hs2 := hF.size
  rw [hzW] at hs2
  have HF2 := Lib.hid hF
  have HO2 := Lib.hid ho
  have HI2 := Lib.hid hI
  have HB3 := Lib.hid hb3
  have HP3 := Lib.hid hp3
  clear ho hF hI hb3 hp3 HP
  go_wp2_with fail
  rw [← hW3]
  have HW3 := Lib.hid hW3
  clear hW3
  have hbw3 : CF (TR (w.heap.size + 1)) W W3 := HF2.out.over (CF.of_below (T := fun _ _ => False) HB3.out) (fun _ _ _ k => k.elim)
  have hcl3 : CN w W3 := (CF.of_below hbW).over hbw3 (fun b o hb k => by have := k.1; omega)
  have hin3 := HI2.out.cf (CF.of_below (T := fun _ _ => False) HB3.out) (fun k => k) (fun k => k) (fun k => k)
  have hrd3 : Rd W3 A n l := (BF.of_cn (S := fun _ => False) hcl3).rd h (fun _ _ _ k => k)
  have hl := h.1
  have hin1 := rst_in l hb 0 0 (fun _ => by omega) 1
  have hin2 := rnum_in l (rst l 0 0 1).1 (rst l 0 0 1).2 8 hin1
  have hin3' := rnum_in l (rplE l 0 0).2.1 (rplE l 0 0).2.2 4 hin2
  have HN : Hid (∀ W', CN W3 W' → Calls Tryd.prog 37 #[.pointer (some ⟨w.heap.size + 1, 0, none⟩), .int .i64 4] W' fun x w' => x = .returned (.int .i64 (sN l).1) ∧ RC w' (w.heap.size + 1) A n c (sN l).2.1 (sN l).2.2 ∧ CF (TR (w.heap.size + 1)) W' w') :=
    Lib.hid (fun W' hW' => (rnumber_any (w.heap.size + 1) A n c l (rplF l 0 0).2.1 (rplF l 0 0).2.2 4 (by omega) W' (hin3.cf hW' (fun k => k) (fun k => k) (fun k => k)) ((BF.of_cn (S := fun _ => False) hW').rd hrd3 (fun _ _ _ k => k)) hc hn hb (fun h0 => by have := hin3' h0; have := hl; unfold rplF at *; omega)).mono
      (fun x w' hx => hx))
  have p0 : W3.cell? ⟨w2.heap.size, 0, none⟩ = some (.slice A2 (rval l 0 0 0).length q2) := (Cl.block HP3.out 0 _ rfl).c
  have p1 : W3.cell? ⟨w2.heap.size, 1, none⟩ = some (.int .i64 (rplE l 0 0).1) := (Cl.block HP3.out 1 _ rfl).c
  have p2 : W3.cell? ⟨w2.heap.size, 2, none⟩ = some (.int .i64 (rplF l 0 0).1) := (Cl.block HP3.out 2 _ rfl).c
  have HP := Lib.hid (And.intro p0 (And.intro p1 p2))
  have HRD := Lib.hid hrd3
  have HCL := Lib.hid hcl3
  have HWW := Lib.hid hbw3
  have hst : sT l = rst l (sN l).2.1 (sN l).2.2 1 := rfl
  have hsb : sBody l = rval l (sN l).2.1 (sN l).2.2 0 := rfl
  have hso : sOk l = sealedOk (rval l 0 0 0).length (rplE l 0 0).1 (rplF l 0 0).1 (sN l).1 (sBody l).length := rfl
  generalize hep : (rplE l 0 0).1 = ep at *
  generalize hfr : (rplF l 0 0).1 = fr at *
  have HEP := Lib.hid hep
  have HFR := Lib.hid hfr
  have hin4 : (sN l).2.2 = 0 → 0 ≤ (sN l).2.1 ∧ (sN l).2.1 ≤ l.length := rnum_in l (rplF l 0 0).2.1 (rplF l 0 0).2.2 4 hin3'
  generalize hsn : sN l = K at *
  obtain ⟨gn, ka, ke⟩ := K
  have HIN := Lib.hid (show ke = 0 → 0 ≤ ka ∧ ka ≤ (n : Int) from fun h => by have := hin4 h; simp only at this; omega)
  have HST := Lib.hid (show sT l = rst l ka ke 1 from hst)
  have HSB := Lib.hid (show sBody l = rval l ka ke 0 from hsb)
  have HSO := Lib.hid (show sOk l = sealedOk (rval l 0 0 0).length ep fr gn (sBody l).length from hso)
  clear hin4 hst hsb hso
  have HSN := Lib.hid hsn
  have hs3 : W3.heap.size = w2.heap.size + 1 := by rw [HW3.out]; simp
  have HS3 := Lib.hid hs3
  have hne := Lib.hid (show w2.heap.size ≠ w.heap.size + 1 by omega)
  clear hep hfr hsn hcl3 hbw3 hin3 hrd3 hin1 hin2 hin3' p0 p1 p2 hs3
  have HPD := Lib.hid (show W3.drew.cell? ⟨w2.heap.size, 0, none⟩ = some (.slice A2 (rval l 0 0 0).length q2) ∧ W3.drew.cell? ⟨w2.heap.size, 1, none⟩ = some (.int .i64 ep) ∧ W3.drew.cell? ⟨w2.heap.size, 2, none⟩ = some (.int .i64 fr) from HP.out)
  have HTR : Hid (∀ o, ¬ TR (w.heap.size + 1) w2.heap.size o) := Lib.hid (fun o => TR_ne hne.out)
  have hne3 := Lib.hid (show W3.heap.size ≠ w2.heap.size by have := HS3.out; omega)
  have HTR3 : Hid (∀ o, ¬ TR (w.heap.size + 1) W3.heap.size o) := Lib.hid (fun o => TR_ne (by have := HS3.out; omega))
  go_region_held3 (fun w' => w'.cell? ⟨w2.heap.size, 0, none⟩ = some (.slice A2 (rval l 0 0 0).length q2) ∧ w'.cell? ⟨w2.heap.size, 1, none⟩ = some (.int .i64 ep) ∧ w'.cell? ⟨w2.heap.size, 2, none⟩ = some (.int .i64 fr))
    (first | (with_reducible exact HPD.out) | (with_reducible exact ⟨s0, s1, s2⟩) | (with_reducible exact ⟨pw_cell_below (below_drew (below_box W3 _)) HP.out.1, pw_cell_below (below_drew (below_box W3 _)) HP.out.2.1, pw_cell_below (below_drew (below_box W3 _)) HP.out.2.2⟩) | (with_reducible exact ⟨pw_cell_below (below_box w4 _) s0, pw_cell_below (below_box w4 _) s1, pw_cell_below (below_box w4 _) s2⟩) | (with_reducible exact ⟨(set5_cell _ _ _ _ _ hne3.out).trans s0, (set5_cell _ _ _ _ _ hne3.out).trans s1, (set5_cell _ _ _ _ _ hne3.out).trans s2⟩))
    (first | (go_at_call 37; refine (HN.out _ (by first | exact (CF.refl _ _).drew | exact ((CF.refl _ _).alloc _).drew)).mono ?_; rintro x w4 ⟨rfl, hin4', hF4'⟩; have hin4 := Lib.hid hin4'; (first | (obtain ⟨⟨c0, c1, c2, c3, c4⟩, ⟨f0, f1, f2, f3, f4⟩⟩ := alloc5 hF4' HTR3.out) | skip); have HF4 := Lib.hid (show CF (TR (w.heap.size + 1)) W3 w4 from by first | exact ((CF.refl _ _).drew).trans hF4' | exact (((CF.refl _ _).alloc _).drew).trans hF4'); have s0 := HF4.out.at (HTR.out 0) HP.out.1; have s1 := HF4.out.at (HTR.out 1) HP.out.2.1; have s2 := HF4.out.at (HTR.out 2) HP.out.2.2; clear hin4' hF4'))
  all_goals
    have HO3 := Lib.hid (pw_own_below HO2.out HB3.out)
    have HZ := Lib.hid (show w.heap.size + 2 ≤ W.heap.size by omega)
    first
    | (have H4 := Lib.hid (S4.of_set HWW.out HF4.out HZ.out hin4.out HO3.out (Cl.mk c0 f0) (Cl.mk c1 f1) (Cl.mk c2 f2) (Cl.mk c3 f3) (Cl.mk c4 f4) (ep := ep) (fr := fr) (gn := gn))
       clear c0 c1 c2 c3 c4 f0 f1 f2 f3 f4
       unfold set5 at H4
       generalize ((((w4.setCell ⟨W3.heap.size, 0, none⟩ (.slice A2 (rval l 0 0 0).length q2)).setCell ⟨W3.heap.size, 1, none⟩ (.int .i64 ep)).setCell ⟨W3.heap.size, 2, none⟩ (.int .i64 fr)).setCell ⟨W3.heap.size, 3, none⟩ (.int .i64 gn)).setCell ⟨W3.heap.size, 4, none⟩ (.slice none 0 0) = X at H4 ⊢
       generalize W3.heap.size = g at H4 ⊢)
    | (have H4 := Lib.hid (S4.of_new HWW.out HF4.out HZ.out hin4.out HO3.out (ep := ep) (fr := fr) (gn := gn) (t := 69))
       generalize w4.alloc (.cells #[.slice A2 (rval l 0 0 0).length q2, .int .i64 ep, .int .i64 fr, .int .i64 gn, .slice none 0 0] 69) = X at H4 ⊢
       generalize w4.heap.size = g at H4 ⊢)
    clear s0 s1 s2
    have hcX : CN w X := (CF.of_below hbW).over H4.out.f (fun b o hb k => by have := k.1; omega)
    have hgg := H4.out.ge
    have hb10 := below_box X (.cells #[.pointer (some ⟨g, 4, none⟩)] 64)
    have hv10 := (cell_block (heap_alloc_new X (.cells #[.pointer (some ⟨g, 4, none⟩)] 64)) 0 _ rfl).1
    have hgX := World.block_lt_of_cell? X _ H4.out.m4.c
    simp only at hgX
    have HT := Lib.hid (rtext_any (w.heap.size + 1) A n c l ka ke 1 X.heap.size (fun _ => g) (fun _ => 4) _ (H4.out.r.cf (T := fun _ _ => False) (CF.of_below hb10) (fun h => h) (fun h => h) (fun h => h))
      ((hG.cf hcX (fun _ k => k)).keep hb10) ⟨by omega, fun _ _ => by omega⟩ (Rd.keep ((BF.of_cn (S := fun _ => False) hcX).rd h (fun _ _ _ k => k)) hb10) (fun h0 ad e => by have := h.block_lt h0 ad e; exact ⟨by omega, fun _ _ => by omega⟩) hc hn hb HIN.out (by omega)
      (by have := hcX.size; have := H4.out.r.lt; omega) (fun _ _ => ⟨by omega, by omega⟩) (fun i j _ _ _ => by omega) (fun i hi => by
        have : i = 0 := by omega
        subst this; exact hv10) (fun _ _ => ⟨(H4.out.m4.below hb10).c, (H4.out.m4.below hb10).f⟩))
    rw [← HST.out] at HT
    clear hcX hb10 hv10
    go_wp2_with fail
    refine HT.out.mono ?_
    rintro x w5 ⟨rfl, hr5, hv5, hF5⟩
    obtain ⟨vb, hvb, hob⟩ := hv5 0 (by omega)
    rw [← HSB.out] at hob
    obtain ⟨Ab, qb, rfl⟩ := own_slice hob
    have H5 := Lib.hid (S5.of H4.out _ hzW hbW hsW hF5 hr5 hvb hob)
    clear hvb hob hv5 hF5 hr5
    have m0c := H5.out.m0.c
    have m1c := H5.out.m1.c
    have m2c := H5.out.m2.c
    have m3c := H5.out.m3.c
    have m4c := H5.out.m4.c
    go_wp2_with fail
    refine (rsealed_any _ _ _ _ _ _ _ _ _ _).mono ?_
    rintro x w6 ⟨rfl, hb6⟩
    rw [← HSO.out]
    have H6 := Lib.hid (H5.out.keep (CF.of_below hb6))
    clear hb6 m0c m1c m2c m3c m4c
    have HR2 := Lib.hid (rend_any (w.heap.size + 1) A n c (sT l).1 (sT l).2 (sOk l) w6 H6.out.r)
    go_wp2_with fail
    refine HR2.out.mono ?_
    rintro x w7 ⟨rfl, hF7⟩
    have H7 := Lib.hid (H6.out.keep hF7)
    clear hF7
    have hge : getsE l = endR n (sT l).1 (sT l).2 (sOk l) := by unfold getsE; rw [hl]
    generalize endR n (sT l).1 (sT l).2 (sOk l) = e2 at *
    have HG2 := Lib.hid hge
    clear hge
    have ⟨r0c, r0f⟩ : Cl w7 w.heap.size 0 (.slice none 0 0) := H7.out.z 0 _ rfl
    have ⟨r1c, r1f⟩ : Cl w7 w.heap.size 1 (.int .i64 0) := H7.out.z 1 _ rfl
    have ⟨r2c, r2f⟩ : Cl w7 w.heap.size 2 (.int .i64 0) := H7.out.z 2 _ rfl
    have ⟨r3c, r3f⟩ : Cl w7 w.heap.size 3 (.int .i64 0) := H7.out.z 3 _ rfl
    have ⟨r4c, r4f⟩ : Cl w7 w.heap.size 4 (.slice none 0 0) := H7.out.z 4 _ rfl
    by_cases c2 : e2 = 0
    · subst c2
      have m0c := H7.out.m0.c
      have m1c := H7.out.m1.c
      have m2c := H7.out.m2.c
      have m3c := H7.out.m3.c
      have m4c := H7.out.m4.c
      go_wp2
      refine bodyPost_ret (v := .tuple #[.agg #[.slice A2 (rval l 0 0 0).length q2, .int .i64 ep, .int .i64 fr, .int .i64 gn, .slice Ab (sBody l).length qb], .int .i64 0]) (by simp [results, Tryd.results47, go_sem, r0c, r1c, r2c, r3c, r4c]) rfl ⟨fun h => absurd HG2.out h, fun _ => ⟨_, _, by rw [HEP.out, HFR.out, HSN.out], set5_row H7.out.og _ _ _ _ _, set5_row H7.out.ob _ _ _ _ _⟩, set5_cn H7.out.cn _ _ _ _ _⟩
    · have k1 : (e2 == 0) = false := by rw [beq_eq_false_iff_ne]; exact c2
      have k2 : (e2 != 0) = true := by rw [bne_iff_ne]; exact c2
      have C2 := Lib.hid c2
      clear c2
      go_wp2
      refine bodyPost_ret (v := .tuple #[.agg #[.slice none 0 0, .int .i64 0, .int .i64 0, .int .i64 0, .slice none 0 0], .int .i64 e2]) (by simp [results, Tryd.results47, go_sem, r0c, r1c, r2c, r3c, r4c]) rfl ⟨fun h => by rw [HG2.out], fun h => absurd (HG2.out ▸ h) C2.out, set5_cn H7.out.cn _ _ _ _ _⟩
end Go.Proofs.YtcfbmglhikjahaaDoor
