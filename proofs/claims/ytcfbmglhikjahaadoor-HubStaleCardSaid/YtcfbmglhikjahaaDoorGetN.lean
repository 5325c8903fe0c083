/- package frame: Get, where the outer parts can be read. -/
import Derived.Test.YtcfbmglhikjahaaDoorGetM
set_option linter.unusedVariables false
set_option linter.unusedSimpArgs false
namespace Go.Proofs.YtcfbmglhikjahaaDoor
open Go.RowKit Go.Proofs.YtcfbmglhikjahaaDoorW.PrintWords

theorem own_block_ge {W : World} {B : Nat} {A : Option Addr} {n q : Nat} {xs : List Value} {k : Nat} (h : W.ownsRow B 5 1 (.slice A k q) n xs) : ∀ ad, A = some ad → B ≤ ad.block := fun ad e => by
  subst e
  exact own_base h ad.block rfl
theorem TR_ne {g b o : Nat} (h : b ≠ g) : ¬ TR g b o := fun k => h k.1

/-- what is known behind the four texts -/
structure Get5 (w w5 : World) (A : Option Addr) (n c : Nat) (l : List Int) : Prop where
  r : RC w5 (w.heap.size + 3) A n c (gR l).1 (gR l).2
  cn : CN w w5
  size : w.heap.size + 5 ≤ w5.heap.size
  z : ∀ (i : Nat) (v : Value), zM[i]? = some v → Cl w5 w.heap.size i v
  m : ∀ (i : Nat) (v : Value), i < 5 → zM[i]? = some v → Cl w5 (w.heap.size + 1) i v
  ex : ∃ A0 q0 v1 v2 v3, RC w5 (w.heap.size + 2) A0 (gIn l).length q0 0 0 ∧ Rd w5 A0 (gIn l).length (gIn l) ∧ (∀ ad, A0 = some ad → w.heap.size + 5 ≤ ad.block) ∧ (gIn l).length ≤ q0 ∧
    Cl w5 (w.heap.size + 1) 5 v1 ∧ Cl w5 (w.heap.size + 1) 6 v2 ∧ Cl w5 (w.heap.size + 1) 7 v3 ∧ Ow w5 (w.heap.size + 5) v1 (rval l 0 0 1) ∧ Ow w5 (w.heap.size + 5) v2 (rval l 0 0 2) ∧ Ow w5 (w.heap.size + 5) v3 (rval l 0 0 3)
theorem get5 {w w5 : World} {A : Option Addr} {n c : Nat} {l : List Int} (hI5 : RC w5 (w.heap.size + 3) A n c (gR l).1 (gR l).2)
    (hv5 : ∀ i, i < 4 → ∃ v, w5.cell? ⟨tb4 w.heap.size i, po4 i, none⟩ = some v ∧ Ow w5 (w.heap.size + 5) v (rval l 0 0 i)) (hF5 : CF (T4 w.heap.size) (gW w A n c) w5) : Get5 w w5 A n c l := by
  obtain ⟨b0, b1, b2, b3, b4⟩ := gW_blocks w A n c
  refine ⟨hI5, (CF.of_below (gW_below w A n c)).over hF5 (fun b o hb h => by have := T4_ge h; omega), by have := hF5.size; rw [gW_size] at this; exact this, fun i v hi => (Cl.block b0 i v hi).cf hF5 (T4_not (by omega) (by omega) (by omega)),
    fun i v h5 hi => (Cl.block b1 i v hi).cf hF5 (T4_not (by omega) (by omega) (by omega)), ?_⟩
  obtain ⟨v0, c0, o0⟩ := hv5 0 (by omega)
  obtain ⟨v1, c1, o1⟩ := hv5 1 (by omega)
  obtain ⟨v2, c2, o2⟩ := hv5 2 (by omega)
  obtain ⟨v3, c3, o3⟩ := hv5 3 (by omega)
  obtain ⟨A0, q0, rfl, hr0⟩ := own_reads o0
  have hq0 : (rval l 0 0 0).length ≤ q0 := by
    rcases o0.2 with ⟨h, h2⟩ | ⟨g, cap, cur, h, _, _, h3, _⟩
    · have : rval l 0 0 0 = [] := List.eq_nil_of_length_eq_zero h2
      rw [this]; simp
    · injection h with h4 h5 h6
      subst h6
      exact h3
  have F := fun (b o : Nat) (hb : b < w.heap.size + 5) => hF5.frozen b o (by rw [gW_size]; exact hb)
  refine ⟨A0, q0, v1, v2, v3, ?_, hr0, own_block_ge o0, hq0, ⟨c1, (F (w.heap.size + 1) 5 (by omega)).trans (Cl.block b1 5 _ rfl).f⟩, ⟨c2, (F (w.heap.size + 1) 6 (by omega)).trans (Cl.block b1 6 _ rfl).f⟩, ⟨c3, (F (w.heap.size + 1) 7 (by omega)).trans (Cl.block b1 7 _ rfl).f⟩, o1, o2, o3⟩
  have i1 := (Cl.block b2 1 _ rfl).cf hF5 (T4_not (by omega) (by omega) (by omega))
  have i2 := (Cl.block b2 2 _ rfl).cf hF5 (T4_not (by omega) (by omega) (by omega))
  exact ⟨c0, i1.c, i2.c, (F (w.heap.size + 2) 0 (by omega)).trans (Cl.block b2 0 _ rfl).f, i1.f, i2.f⟩

abbrev set5 (W : World) (b : Nat) (u0 u1 u2 u3 u4 : Value) : World := ((((W.setCell ⟨b, 0, none⟩ u0).setCell ⟨b, 1, none⟩ u1).setCell ⟨b, 2, none⟩ u2).setCell ⟨b, 3, none⟩ u3).setCell ⟨b, 4, none⟩ u4
theorem set5_cell {W : World} {b b' o : Nat} (u0 u1 u2 u3 u4 : Value) (h : b' ≠ b) : (((((W.setCell ⟨b', 0, none⟩ u0).setCell ⟨b', 1, none⟩ u1).setCell ⟨b', 2, none⟩ u2).setCell ⟨b', 3, none⟩ u3).setCell ⟨b', 4, none⟩ u4).cell? ⟨b, o, none⟩ = W.cell? ⟨b, o, none⟩ := by
  have K : ∀ (X : World) (o' : Nat) (u : Value), (X.setCell ⟨b', o', none⟩ u).cell? ⟨b, o, none⟩ = X.cell? ⟨b, o, none⟩ := fun X o' u => World.cell?_setCell_other _ _ _ _ (fun e => by injection e with e; exact h e)
  rw [K, K, K, K, K]
theorem set5_cf (W : World) (b : Nat) (u0 u1 u2 u3 u4 : Value) : CF (fun x o => x = b ∧ o < 5) W (set5 W b u0 u1 u2 u3 u4) :=
  ((((CF.set _ ⟨rfl, by omega⟩).trans (CF.set _ ⟨rfl, by omega⟩)).trans (CF.set _ ⟨rfl, by omega⟩)).trans (CF.set _ ⟨rfl, by omega⟩)).trans (CF.set _ ⟨rfl, by omega⟩)
theorem set5_cl {W : World} {b : Nat} {x0 x1 x2 x3 x4 : Value} (u0 u1 u2 u3 u4 : Value) (h0 : Cl W b 0 x0) (h1 : Cl W b 1 x1) (h2 : Cl W b 2 x2) (h3 : Cl W b 3 x3) (h4 : Cl W b 4 x4) :
    Cl (set5 W b u0 u1 u2 u3 u4) b 0 u0 ∧ Cl (set5 W b u0 u1 u2 u3 u4) b 1 u1 ∧ Cl (set5 W b u0 u1 u2 u3 u4) b 2 u2 ∧ Cl (set5 W b u0 u1 u2 u3 u4) b 3 u3 ∧ Cl (set5 W b u0 u1 u2 u3 u4) b 4 u4 := by
  refine ⟨?_, ?_, ?_, ?_, ?_⟩
  · exact ((((h0.set u0).set_other u1 (by omega)).set_other u2 (by omega)).set_other u3 (by omega)).set_other u4 (by omega)
  · exact ((((h1.set_other u0 (by omega)).set u1).set_other u2 (by omega)).set_other u3 (by omega)).set_other u4 (by omega)
  · exact ((((h2.set_other u0 (by omega)).set_other u1 (by omega)).set u2).set_other u3 (by omega)).set_other u4 (by omega)
  · exact ((((h3.set_other u0 (by omega)).set_other u1 (by omega)).set_other u2 (by omega)).set u3).set_other u4 (by omega)
  · exact ((((h4.set_other u0 (by omega)).set_other u1 (by omega)).set_other u2 (by omega)).set_other u3 (by omega)).set u4

/-- what is known behind the inner parts -/
structure Get12 (w w12 : World) (A : Option Addr) (n c : Nat) (l : List Int) (vg vb v1 v2 v3 : Value) (ep fr kd : Int) (grp body : List Int) : Prop where
  r : RC w12 (w.heap.size + 3) A n c (gR l).1 (gR l).2
  cn : CN w w12
  size : w.heap.size + 5 ≤ w12.heap.size
  z : ∀ (i : Nat) (v : Value), zM[i]? = some v → Cl w12 w.heap.size i v
  m0 : Cl w12 (w.heap.size + 1) 0 vg
  m1 : Cl w12 (w.heap.size + 1) 1 (.int .i64 ep)
  m2 : Cl w12 (w.heap.size + 1) 2 (.int .i64 fr)
  m3 : Cl w12 (w.heap.size + 1) 3 (.int .i64 kd)
  m4 : Cl w12 (w.heap.size + 1) 4 vb
  m5 : Cl w12 (w.heap.size + 1) 5 v1
  m6 : Cl w12 (w.heap.size + 1) 6 v2
  m7 : Cl w12 (w.heap.size + 1) 7 v3
  og : Ow w12 (w.heap.size + 5) vg grp
  ob : Ow w12 (w.heap.size + 5) vb body
  o1 : Ow w12 (w.heap.size + 5) v1 (rval l 0 0 1)
  o2 : Ow w12 (w.heap.size + 5) v2 (rval l 0 0 2)
  o3 : Ow w12 (w.heap.size + 5) v3 (rval l 0 0 3)
/-- nothing but the message's and the inner reader's cells turns -/
theorem Get12.of {w w12 : World} {A : Option Addr} {n c : Nat} {l : List Int} {vg vb v1 v2 v3 : Value} {ep fr kd : Int} {grp body : List Int} {w5 w8 w11 : World} {v4 : Value}
    (r5 : RC w5 (w.heap.size + 3) A n c (gR l).1 (gR l).2) (cn5 : CN w w5) (sz5 : w.heap.size + 5 ≤ w5.heap.size) (z5 : ∀ (i : Nat) (v : Value), zM[i]? = some v → Cl w5 w.heap.size i v)
    (m5 : Cl w5 (w.heap.size + 1) 5 v1) (m6 : Cl w5 (w.heap.size + 1) 6 v2) (m7 : Cl w5 (w.heap.size + 1) 7 v3) (o1 : Ow w5 (w.heap.size + 5) v1 (rval l 0 0 1)) (o2 : Ow w5 (w.heap.size + 5) v2 (rval l 0 0 2)) (o3 : Ow w5 (w.heap.size + 5) v3 (rval l 0 0 3))
    (hF8 : CF (TR (w.heap.size + 2)) w5 w8) (og : Ow w8 w5.heap.size vg grp) {y0 y1 y2 y3 : Value} (n0 : Cl w8 (w.heap.size + 1) 0 y0) (n1 : Cl w8 (w.heap.size + 1) 1 y1) (n2 : Cl w8 (w.heap.size + 1) 2 y2) (n3 : Cl w8 (w.heap.size + 1) 3 y3) (n4 : Cl w8 (w.heap.size + 1) 4 v4)
    (ob : Obj) (hF11 : CF (fun b o => TR (w.heap.size + 2) b o ∨ ∃ i, i < 1 ∧ b = w.heap.size + 1 ∧ o = 4) ((set5 w8 (w.heap.size + 1) vg (.int .i64 ep) (.int .i64 fr) (.int .i64 kd) v4).alloc ob) w11)
    (hb : w11.cell? ⟨w.heap.size + 1, 4, none⟩ = some vb) (hob : Ow w11 ((set5 w8 (w.heap.size + 1) vg (.int .i64 ep) (.int .i64 fr) (.int .i64 kd) v4).alloc ob).heap.size vb body) (hF12 : CN w11 w12) :
    Get12 w w12 A n c l vg vb v1 v2 v3 ep fr kd grp body := by
  obtain ⟨W9, hW9⟩ : ∃ W9, W9 = set5 w8 (w.heap.size + 1) vg (.int .i64 ep) (.int .i64 fr) (.int .i64 kd) v4 := ⟨_, rfl⟩
  have hc9 := set5_cf w8 (w.heap.size + 1) vg (.int .i64 ep) (.int .i64 fr) (.int .i64 kd) v4
  obtain ⟨k0, k1, k2, k3, k4⟩ := set5_cl vg (.int .i64 ep) (.int .i64 fr) (.int .i64 kd) v4 n0 n1 n2 n3 n4
  rw [← hW9] at hc9 k0 k1 k2 k3 k4 hF11 hob
  -- from w5 to w11
  have hT : CF (fun b o => b = w.heap.size + 1 ∨ b = w.heap.size + 2) w5 w11 :=
    (((hF8.mono (fun b o h => .inr h.1)).trans (hc9.mono (fun b o h => .inl h.1))).alloc ob).trans (hF11.mono (fun b o h => by
      rcases h with h | ⟨_, _, h, _⟩
      · exact .inr h.1
      · exact .inl h))
  have hT12 : CF (fun b o => b = w.heap.size + 1 ∨ b = w.heap.size + 2) w5 w12 := hT.trans (hF12.mono (fun _ _ h => h.elim))
  have hz9 : w8.heap.size ≤ W9.heap.size := hc9.size
  have hz11 := hF11.size
  rw [World.size_alloc] at hz11 hob
  have far : ∀ {b o : Nat} {v : Value}, Cl W9 b o v → ¬ (TR (w.heap.size + 2) b o ∨ ∃ i, i < 1 ∧ b = w.heap.size + 1 ∧ o = 4) → Cl w12 b o v := fun h hn =>
    ((h.below (below_box _ ob)).cf hF11 hn).cf hF12 (fun k => k)
  have hn : ∀ o, o ≠ 4 → ¬ (TR (w.heap.size + 2) (w.heap.size + 1) o ∨ ∃ i, i < 1 ∧ w.heap.size + 1 = w.heap.size + 1 ∧ o = 4) := fun o ho h => by
    rcases h with h | ⟨_, _, _, h⟩
    · have := h.1; omega
    · exact ho h
  have up : ∀ {o : Nat} {v : Value}, 5 ≤ o → Cl w5 (w.heap.size + 1) o v → Cl w12 (w.heap.size + 1) o v := fun ho h => far ((h.cf hF8 (TR_ne (by omega))).cf hc9 (fun k => by have := k.2; omega)) (hn _ (by omega))
  refine ⟨r5.cf hT12 (by omega) (by omega) (by omega), cn5.over hT12 (fun b o hb h => by omega), by have := hT12.size; omega, fun i v hi => (z5 i v hi).cf hT12 (by omega), far k0 (hn _ (by omega)), far k1 (hn _ (by omega)), far k2 (hn _ (by omega)), far k3 (hn _ (by omega)),
    ?_, up (by omega) m5, up (by omega) m6, up (by omega) m7, ?_, ?_, CF.row o1 hT12 (fun b o h => by omega), CF.row o2 hT12 (fun b o h => by omega), CF.row o3 hT12 (fun b o h => by omega)⟩
  · have : Cl w11 (w.heap.size + 1) 4 vb := ⟨hb, (hF11.frozen _ _ (World.block_lt_of_cell? _ _ (k4.below (below_box _ ob)).c)).trans (k4.below (below_box _ ob)).f⟩
    exact this.cf hF12 (fun k => k)
  · have h8 : CF (fun b o => b = w.heap.size + 1 ∨ b = w.heap.size + 2) w8 w12 := (((hc9.mono (fun b o h => .inl h.1)).alloc ob).trans (hF11.mono (fun b o h => by
      rcases h with h | ⟨_, _, h, _⟩
      · exact .inr h.1
      · exact .inl h))).trans (hF12.mono (fun _ _ h => h.elim))
    exact own_base_le (CF.row og h8 (fun b o h => by omega)) sz5
  · exact own_base_le (CF.row hob hF12 (fun _ _ h => h.elim)) (by have := hF8.size; omega)
theorem Get12.keep {w w12 w' : World} {A : Option Addr} {n c : Nat} {l : List Int} {vg vb v1 v2 v3 : Value} {ep fr kd : Int} {grp body : List Int} (h : Get12 w w12 A n c l vg vb v1 v2 v3 ep fr kd grp body) (hc : CN w12 w') : Get12 w w' A n c l vg vb v1 v2 v3 ep fr kd grp body :=
  have f : ∀ {b o : Nat} {v : Value}, Cl w12 b o v → Cl w' b o v := fun k => k.cf hc (fun x => x)
  ⟨h.r.cf hc (fun x => x) (fun x => x) (fun x => x), h.cn.trans hc, Nat.le_trans h.size hc.size, fun i v hi => f (h.z i v hi), f h.m0, f h.m1, f h.m2, f h.m3, f h.m4, f h.m5, f h.m6, f h.m7,
    CF.row h.og hc (fun _ _ x => x.elim), CF.row h.ob hc (fun _ _ x => x.elim), CF.row h.o1 hc (fun _ _ x => x.elim), CF.row h.o2 hc (fun _ _ x => x.elim), CF.row h.o3 hc (fun _ _ x => x.elim)⟩
/-- what Get answers -/
def GetPost (w : World) (l : List Int) (x : Ending) (w' : World) : Prop :=
  (getE l ≠ 0 → x = .returned (.tuple #[.agg #[.slice none 0 0, .int .i64 0, .int .i64 0, .int .i64 0, .slice none 0 0, .slice none 0 0, .slice none 0 0, .slice none 0 0], .int .i64 (getE l)])) ∧
  (getE l = 0 → ∃ vg vb v1 v2 v3, x = .returned (.tuple #[.agg #[vg, .int .i64 (rplE (gIn l) 0 0).1, .int .i64 (rplF (gIn l) 0 0).1, .int .i64 (gK (gIn l)).1, vb, v1, v2, v3], .int .i64 0]) ∧
    Ow w' w.heap.size vg (rval (gIn l) 0 0 0) ∧ Ow w' w.heap.size vb (gBody (gIn l)) ∧ Ow w' w.heap.size v1 (rval l 0 0 1) ∧ Ow w' w.heap.size v2 (rval l 0 0 2) ∧ Ow w' w.heap.size v3 (rval l 0 0 3)) ∧ CN w w'
abbrev set8 (W : World) (b : Nat) (u0 u1 u2 u3 u4 u5 u6 u7 : Value) : World := (((((((W.setCell ⟨b, 0, none⟩ u0).setCell ⟨b, 1, none⟩ u1).setCell ⟨b, 2, none⟩ u2).setCell ⟨b, 3, none⟩ u3).setCell ⟨b, 4, none⟩ u4).setCell ⟨b, 5, none⟩ u5).setCell ⟨b, 6, none⟩ u6).setCell ⟨b, 7, none⟩ u7
theorem set8_cn {w W : World} (h : CN w W) (u0 u1 u2 u3 u4 u5 u6 u7 : Value) : CN w (set8 W w.heap.size u0 u1 u2 u3 u4 u5 u6 u7) := by
  have K := fun (W : World) (o : Nat) (u : Value) (hO : CN w W) => CF.set_new hO (b := w.heap.size) (o := o) u (Nat.le_refl _)
  exact K _ _ _ (K _ _ _ (K _ _ _ (K _ _ _ (K _ _ _ (K _ _ _ (K _ _ _ (K _ _ _ h)))))))
theorem set8_row {W : World} {b : Nat} {v : Value} {xs : List Int} (h : Ow W (b + 5) v xs) (u0 u1 u2 u3 u4 u5 u6 u7 : Value) : Ow (set8 W b u0 u1 u2 u3 u4 u5 u6 u7) b v xs := by
  have K := fun (W : World) (o : Nat) (u : Value) (hO : Ow W (b + 5) v xs) => CF.row (T := fun b' o' => b' = b ∧ o' = o) hO (CF.set u ⟨rfl, rfl⟩) (fun b' o' h => by omega)
  exact own_base_le (K _ _ _ (K _ _ _ (K _ _ _ (K _ _ _ (K _ _ _ (K _ _ _ (K _ _ _ (K _ _ _ h)))))))) (by omega)
end Go.Proofs.YtcfbmglhikjahaaDoor
