/- What a call leaves as it was, said cell by cell. -/
import Derived.Test.YtcfbmglhikjahaaDoorWriter
set_option linter.unusedVariables false
set_option linter.unusedSimpArgs false
namespace Go.Proofs.YtcfbmglhikjahaaDoor
open Go.RowKit Go.Proofs.YtcfbmglhikjahaaDoorW.PrintWords

/-- of what lay there only the cells T may have turned -/
structure CF (T : Nat → Nat → Prop) (w w' : World) : Prop where
  os : w'.os = w.os
  tape : w'.tape = w.tape
  output : w'.output = w.output
  size : w.heap.size ≤ w'.heap.size
  cells : ∀ b o, b < w.heap.size → ¬ T b o → w'.cell? ⟨b, o, none⟩ = w.cell? ⟨b, o, none⟩
  frozen : ∀ b o, b < w.heap.size → w'.frozen? ⟨b, o, none⟩ = w.frozen? ⟨b, o, none⟩
  block : ∀ b, b < w.heap.size → (∀ o, ¬ T b o) → w'.heap[b]? = w.heap[b]?
theorem CF.refl (T : Nat → Nat → Prop) (w : World) : CF T w w := ⟨rfl, rfl, rfl, Nat.le_refl _, fun _ _ _ _ => rfl, fun _ _ _ => rfl, fun _ _ _ => rfl⟩
theorem CF.trans {T : Nat → Nat → Prop} {w w1 w2 : World} (h : CF T w w1) (k : CF T w1 w2) : CF T w w2 :=
  ⟨k.os.trans h.os, k.tape.trans h.tape, k.output.trans h.output, Nat.le_trans h.size k.size,
    fun b o hb ht => (k.cells b o (Nat.lt_of_lt_of_le hb h.size) ht).trans (h.cells b o hb ht),
    fun b o hb => (k.frozen b o (Nat.lt_of_lt_of_le hb h.size)).trans (h.frozen b o hb),
    fun b hb ht => (k.block b (Nat.lt_of_lt_of_le hb h.size) ht).trans (h.block b hb ht)⟩
theorem CF.mono {T T' : Nat → Nat → Prop} {w w' : World} (h : CF T w w') (ht : ∀ b o, T b o → T' b o) : CF T' w w' :=
  ⟨h.os, h.tape, h.output, h.size, fun b o hb hn => h.cells b o hb (fun k => hn (ht b o k)), h.frozen, fun b hb hn => h.block b hb (fun o k => hn o (ht b o k))⟩
theorem CF.of_below {T : Nat → Nat → Prop} {w w' : World} (h : Below w.heap.size w w') : CF T w w' :=
  ⟨h.os, h.tape, h.output, h.size, fun b o hb _ => h.cell (p := ⟨b, o, none⟩) hb, fun b o hb => h.frozen (p := ⟨b, o, none⟩) hb, fun b hb _ => h.block b hb⟩
theorem CF.set {T : Nat → Nat → Prop} {w : World} {b o : Nat} (v : Value) (ht : T b o) : CF T w (w.setCell ⟨b, o, none⟩ v) := by
  have hs : (w.setCell ⟨b, o, none⟩ v).heap.size = w.heap.size := by simp [World.setCell]
  refine ⟨rfl, rfl, rfl, by rw [hs]; exact Nat.le_refl _, fun b' o' _ hn => ?_, fun b' o' _ => ?_, fun b' _ hn => ?_⟩
  · exact World.cell?_setCell_other w ⟨b, o, none⟩ ⟨b', o', none⟩ v (fun e => hn (by injection e with e1 e2; subst e1; subst e2; exact ht))
  · exact World.frozen?_setCell w ⟨b, o, none⟩ ⟨b', o', none⟩ v
  · have : b ≠ b' := fun e => hn o (e ▸ ht)
    simp [World.setCell, Array.getElem?_modify, this]
theorem CF.set_new {T : Nat → Nat → Prop} {w0 w : World} (h : CF T w0 w) {b o : Nat} (v : Value) (hb : w0.heap.size ≤ b) : CF T w0 (w.setCell ⟨b, o, none⟩ v) := by
  have hs : (w.setCell ⟨b, o, none⟩ v).heap.size = w.heap.size := by simp [World.setCell]
  refine ⟨h.os, h.tape, h.output, by rw [hs]; exact h.size, fun b' o' hb' hn => ?_, fun b' o' hb' => ?_, fun b' hb' hn => ?_⟩
  · exact (World.cell?_setCell_other w ⟨b, o, none⟩ ⟨b', o', none⟩ v (fun e => by injection e with e1 e2; omega)).trans (h.cells b' o' hb' hn)
  · exact (World.frozen?_setCell w ⟨b, o, none⟩ ⟨b', o', none⟩ v).trans (h.frozen b' o' hb')
  · have : b ≠ b' := by omega
    simp only [World.setCell, Array.getElem?_modify, this, if_false]
    exact h.block b' hb' hn
theorem CF.alloc {T : Nat → Nat → Prop} {w0 w : World} (h : CF T w0 w) (o : Obj) : CF T w0 (w.alloc o) := h.trans (CF.of_below ((Below.refl _ _).alloc (Nat.le_refl _) _))
theorem CF.drew {T : Nat → Nat → Prop} {w0 w : World} (h : CF T w0 w) : CF T w0 w.drew := ⟨h.os, h.tape, h.output, h.size, h.cells, h.frozen, h.block⟩
theorem CF.below {T : Nat → Nat → Prop} {w w' : World} {B : Nat} (h : CF T w w') (hB : B ≤ w.heap.size) (ht : ∀ b o, T b o → B ≤ b) : Below B w w' :=
  ⟨h.os, h.tape, h.output, h.size, fun b hb => h.block b (Nat.lt_of_lt_of_le hb hB) (fun o k => by have := ht b o k; omega)⟩
theorem CF.row {T : Nat → Nat → Prop} {w w' : World} {B : Nat} {e : TypeId} {size n : Nat} {v : Value} {xs : List Value} (h : w.ownsRow B e size v n xs) (hc : CF T w w') (ht : ∀ b o, T b o → b < B) : w'.ownsRow B e size v n xs := by
  refine ⟨h.1, ?_⟩
  rcases h.2 with hn | ⟨g, cap, cur, rfl, hb, hgg, rest⟩
  · exact .inl hn
  · refine .inr ⟨g, cap, cur, rfl, hb, ?_, rest⟩
    rw [hc.block g (Array.getElem?_eq_some_iff.1 hgg).1 (fun o k => by have := ht g o k; omega)]
    exact hgg
/-- a cell that is none of T -/
theorem CF.at {T : Nat → Nat → Prop} {w w' : World} {b o : Nat} {v : Value} (h : CF T w w') (hn : ¬ T b o) (hc : w.cell? ⟨b, o, none⟩ = some v) : w'.cell? ⟨b, o, none⟩ = some v :=
  (h.cells b o (World.block_lt_of_cell? w _ hc) hn).trans hc
theorem CF.fz {T : Nat → Nat → Prop} {w w' : World} {b o : Nat} {v : Value} (h : CF T w w') (hc : w.cell? ⟨b, o, none⟩ = some v) (hf : w.frozen? ⟨b, o, none⟩ = false) : w'.frozen? ⟨b, o, none⟩ = false :=
  (h.frozen b o (World.block_lt_of_cell? w _ hc)).trans hf
theorem set_cell {w : World} {b o : Nat} {u : Value} (v : Value) (hc : w.cell? ⟨b, o, none⟩ = some u) : (w.setCell ⟨b, o, none⟩ v).cell? ⟨b, o, none⟩ = some v := World.cell?_setCell_same' _ _ _ (by rw [hc]; rfl)
theorem CF.over {T T' : Nat → Nat → Prop} {w W w' : World} (h : CF T' w W) (k : CF T W w') (ht : ∀ b o, b < w.heap.size → T b o → T' b o) : CF T' w w' :=
  ⟨k.os.trans h.os, k.tape.trans h.tape, k.output.trans h.output, Nat.le_trans h.size k.size,
    fun b o hb hn => (k.cells b o (Nat.lt_of_lt_of_le hb h.size) (fun c => hn (ht b o hb c))).trans (h.cells b o hb hn),
    fun b o hb => (k.frozen b o (Nat.lt_of_lt_of_le hb h.size)).trans (h.frozen b o hb),
    fun b hb hn => (k.block b (Nat.lt_of_lt_of_le hb h.size) (fun o c => hn o (ht b o hb c))).trans (h.block b hb hn)⟩
/-- a cell, which is not frozen -/
structure Cl (w : World) (b o : Nat) (v : Value) : Prop where
  c : w.cell? ⟨b, o, none⟩ = some v
  f : w.frozen? ⟨b, o, none⟩ = false
theorem Cl.cf {T : Nat → Nat → Prop} {w w' : World} {b o : Nat} {v : Value} (h : Cl w b o v) (hc : CF T w w') (hn : ¬ T b o) : Cl w' b o v := ⟨hc.at hn h.c, hc.fz h.c h.f⟩
theorem Cl.block {W : World} {g : Nat} {cs : Array Value} {t : TypeId} (h : W.heap[g]? = some (.cells cs t (0, 0))) (i : Nat) (x : Value) (hi : cs[i]? = some x) : Cl W g i x := ⟨(cell_block h i x hi).1, (cell_block h i x hi).2⟩
theorem Cl.set {w : World} {b o : Nat} {u : Value} (h : Cl w b o u) (v : Value) : Cl (w.setCell ⟨b, o, none⟩ v) b o v := ⟨set_cell v h.c, (World.frozen?_setCell _ _ _ _).trans h.f⟩
theorem Cl.set_other {w : World} {b o b' o' : Nat} {u : Value} (h : Cl w b o u) (v : Value) (hn : ¬ (b' = b ∧ o' = o)) : Cl (w.setCell ⟨b', o', none⟩ v) b o u :=
  ⟨(World.cell?_setCell_other w ⟨b', o', none⟩ ⟨b, o, none⟩ v (fun e => hn (by injection e with e1 e2; exact ⟨e1, e2⟩))).trans h.c, (World.frozen?_setCell _ _ _ _).trans h.f⟩
theorem Cl.below {w w' : World} {b o : Nat} {v : Value} (h : Cl w b o v) (hb : Below w.heap.size w w') : Cl w' b o v := ⟨pw_cell_below hb h.c, (hb.frozen (p := ⟨b, o, none⟩) (World.block_lt_of_cell? w _ h.c)).trans h.f⟩
end Go.Proofs.YtcfbmglhikjahaaDoor
