/- What a call leaves as it was, said block by block; append of one element. -/
import Derived.Test.YtcfbmglhikjahaaDoorEnd
import Derived.Test.YtcfbmglhikjahaaDoorPut
import Derived.Maps.AppendAt
set_option linter.unusedVariables false
set_option linter.unusedSimpArgs false
namespace Go.Proofs.YtcfbmglhikjahaaDoor
open Go.RowKit Go.Proofs.YtcfbmglhikjahaaDoorW.PrintWords

/-- of what lay there only the blocks S may have turned -/
structure BF (S : Nat → Prop) (w w' : World) : Prop where
  os : w'.os = w.os
  tape : w'.tape = w.tape
  output : w'.output = w.output
  size : w.heap.size ≤ w'.heap.size
  block : ∀ b, b < w.heap.size → ¬ S b → w'.heap[b]? = w.heap[b]?
variable {S S' : Nat → Prop} {w w0 w1 w2 w' : World}
theorem BF.refl (S : Nat → Prop) (w : World) : BF S w w := ⟨rfl, rfl, rfl, Nat.le_refl _, fun _ _ _ => rfl⟩
theorem BF.mono (h : BF S w w') (hs : ∀ b, S b → S' b) : BF S' w w' := ⟨h.os, h.tape, h.output, h.size, fun b hb hn => h.block b hb (fun k => hn (hs b k))⟩
/-- a second step may turn what the first has laid -/
theorem BF.over (h : BF S w w1) (k : BF S' w1 w2) (hs : ∀ b, b < w.heap.size → S' b → S b) : BF S w w2 :=
  ⟨k.os.trans h.os, k.tape.trans h.tape, k.output.trans h.output, Nat.le_trans h.size k.size, fun b hb hn => (k.block b (Nat.lt_of_lt_of_le hb h.size) (fun c => hn (hs b hb c))).trans (h.block b hb hn)⟩
theorem BF.trans (h : BF S w w1) (k : BF S w1 w2) : BF S w w2 := h.over k (fun _ _ c => c)
theorem BF.of_below (h : Below w.heap.size w w') : BF S w w' := ⟨h.os, h.tape, h.output, h.size, fun b hb _ => h.block b hb⟩
theorem BF.of_cn (h : CN w w') : BF S w w' := ⟨h.os, h.tape, h.output, h.size, fun b hb _ => h.block b hb (fun _ k => k)⟩
theorem BF.then (h : BF S w w1) (k : Below w1.heap.size w1 w2) : BF S w w2 := h.over (S' := fun _ => False) (BF.of_below k) (fun _ _ c => c.elim)
theorem BF.then_cn (h : BF S w w1) (k : CN w1 w2) : BF S w w2 := h.over (S' := fun _ => False) (BF.of_cn k) (fun _ _ c => c.elim)
theorem BF.alloc (h : BF S w w1) (o : Obj) : BF S w (w1.alloc o) := h.then (below_box _ _)
theorem BF.drew (h : BF S w w1) : BF S w w1.drew := ⟨h.os, h.tape, h.output, h.size, h.block⟩
theorem BF.set (h : BF S w w1) (b o : Nat) (v : Value) (hb : b < w.heap.size → S b) : BF S w (w1.setCell ⟨b, o, none⟩ v) := by
  have hs : (w1.setCell ⟨b, o, none⟩ v).heap.size = w1.heap.size := by simp [World.setCell]
  refine ⟨h.os, h.tape, h.output, by rw [hs]; exact h.size, fun b' hb' hn => ?_⟩
  have : b ≠ b' := fun e => hn (e ▸ hb (e ▸ hb'))
  simp only [World.setCell, Array.getElem?_modify, this, if_false]
  exact h.block b' hb' hn
theorem BF.grown {v : Value} (h : BF S w w1) (k : w1.grownBy w2 v.ownBlock) (hb : ∀ b, v.ownBlock = some b → b < w.heap.size → S b) : BF S w w2 :=
  h.over (S' := fun b => v.ownBlock = some b) ⟨k.os, k.tape, k.output, k.size, fun b hl hn => k.block b hl (fun e => hn e.symm)⟩ (fun b hl c => hb b c hl)
theorem BF.below {B : Nat} (h : BF S w w') (hB : B ≤ w.heap.size) (hs : ∀ b, b < w.heap.size → S b → B ≤ b) : Below B w w' :=
  ⟨h.os, h.tape, h.output, h.size, fun b hb => h.block b (Nat.lt_of_lt_of_le hb hB) (fun c => by have := hs b (by omega) c; omega)⟩
theorem BF.at (h : BF S w w') {b : Nat} {o : Obj} (hb : w.heap[b]? = some o) (hn : ¬ S b) : w'.heap[b]? = some o := (h.block b (Array.getElem?_eq_some_iff.1 hb).1 hn).trans hb
theorem BF.row (h : BF S w w') {B : Nat} {e : TypeId} {size n : Nat} {v : Value} {xs : List Value} (hr : w.ownsRow B e size v n xs) (hn : ∀ b, v.ownBlock = some b → ¬ S b) : w'.ownsRow B e size v n xs := by
  refine ⟨hr.1, ?_⟩
  rcases hr.2 with hq | ⟨g, cap, cur, rfl, hb, hgg, rest⟩
  · exact .inl hq
  · exact .inr ⟨g, cap, cur, rfl, hb, h.at hgg (hn g rfl), rest⟩
theorem BF.rd (h : BF S w w') {A : Option Addr} {n : Nat} {l : List Int} (hr : Rd w A n l) (hn : ∀ ad, A = some ad → 0 < n → ¬ S ad.block) : Rd w' A n l :=
  ⟨hr.1, hr.2.1, fun h0 => by
    obtain ⟨ad, e, hc⟩ := hr.2.2 h0
    refine ⟨ad, e, fun j hj => ?_⟩
    have hcj := hc j hj
    have hl := World.block_lt_of_cell? w _ hcj
    rw [add_block] at hl
    rw [← hcj]
    exact World.cell?_of_block (h.block _ (by rw [add_block]; exact hl) (by rw [add_block]; exact hn ad e h0))⟩
/-- blocks of different types are different ones -/
theorem row_ne {B : Nat} {e t : TypeId} {size n : Nat} {v : Value} {xs : List Value} {cs : Array Value} {fr : Nat × Nat} {b : Nat} (hr : w.ownsRow B e size v n xs) (hb : w.heap[b]? = some (.cells cs t fr)) (ht : t ≠ e) : v.ownBlock ≠ some b := fun k => by
  rcases hr.2 with ⟨rfl, _⟩ | ⟨q, cap, cur, rfl, _, hh, _⟩
  · simp [Value.ownBlock] at k
  · have : q = b := by simpa [Value.ownBlock] using k
    subst this
    rw [hb] at hh
    injection hh with hh
    injection hh with _ hte
    exact ht hte
theorem rows_ne {B B' : Nat} {e t : TypeId} {size n size' n' : Nat} {v v' : Value} {xs xs' : List Value} (hr : w.ownsRow B e size v n xs) (hr' : w.ownsRow B' t size' v' n' xs') (ht : t ≠ e) : ∀ b, v'.ownBlock = some b → v.ownBlock ≠ some b := fun b hb => by
  rcases hr'.2 with ⟨rfl, _⟩ | ⟨q, cap, cur, rfl, _, hh, _⟩
  · simp [Value.ownBlock] at hb
  · have : q = b := by simpa [Value.ownBlock] using hb
    subst this
    exact row_ne hr hh ht
theorem set_block {W : World} {g : Nat} {cs : Array Value} {t : TypeId} (h : W.heap[g]? = some (.cells cs t (0, 0))) (o : Nat) (v : Value) : (W.setCell ⟨g, o, none⟩ v).heap[g]? = some (.cells (cs.setIfInBounds o v) t (0, 0)) := by
  simp [World.setCell, Array.getElem?_modify, h]

/-- append of one element that lies in a block of its own -/
theorem append_one {P : Program} {ops : Array Oper} {rest : List Oper} {o : Oper} {a : Act} {Q : Exit → Act → World → Prop} {W : World} (base : Nat) (hgd : o.guard = none) (s x : Operand) (t e : TypeId) (z : Value) (size bytes : Nat)
    (ho : o.op = .call { callee := .builtin .append, args := #[s, x], argTypes := #[t, t] }) (ht : P.underlying t = some (.slice e))
    (hinfo : (P.info? e).map (fun i => (i.zero, i.size, i.bytes)) = some (some z, size, bytes)) (hz : z.cells.size = size) (hsz : 0 < size)
    (v : Value) (n : Nat) (xs us : List Value) (b c : Nat) (hs : a.eval s = v) (hx : a.eval x = .slice (some ⟨b, 0, none⟩) 1 c) (HO : W.ownsRow base e size v n xs) (hus : us.length = size)
    (hu : ∀ j u, us[j]? = some u → W.cell? ⟨b, j, none⟩ = some u) (h1 : ∀ u ∈ us, u.oneCell' = true) (hbase : base ≤ W.heap.size) (hm : n + 1 ≤ maxLen) (hl : (n + 1) * bytes ≤ 140737488355328)
    (h : ∀ v1 w1, w1.ownsRow base e size v1 (n + 1) (xs ++ us) → W.grownBy w1 v.ownBlock → (v1.ownBlock = v.ownBlock ∨ v1.ownBlock = some W.heap.size) → wpList P ops Q rest (a.put o.dst v1) w1) :
    wpList P ops Q (o :: rest) a W := by
  cases hi : P.info? e with
  | none => rw [hi] at hinfo; cases hinfo
  | some i =>
    rw [hi] at hinfo
    simp only [Option.map_some, Option.some.injEq, Prod.mk.injEq] at hinfo
    refine wpList_append_own_at W hgd s x t ho base e i z size bytes ht hi hinfo.1 hinfo.2.1 hinfo.2.2 hz hsz v n xs hs HO ⟨b, 0, none⟩ 1 c us hx (by omega) (fun j u hj => ?_) h1 hm hl hbase (fun v' w' k1 k2 _ k3 => h v' w' k1 k2 k3)
    have := hu j u hj
    have e : (⟨b, 0, none⟩ : Addr).add j = ⟨b, j, none⟩ := by unfold Addr.add; split <;> simp_all
    rw [e]; exact this
theorem step_append_one {P : Program} {ops : Array Oper} {o : Oper} {a : Act} {K : Act → World → Prop} {Q : Exit → Act → World → Prop} {E : Prop} {W : World} (base : Nat) (hgd : o.guard = none) (s x : Operand) (t e : TypeId) (z : Value) (size bytes : Nat)
    (ho : o.op = .call { callee := .builtin .append, args := #[s, x], argTypes := #[t, t] }) (ht : P.underlying t = some (.slice e))
    (hinfo : (P.info? e).map (fun i => (i.zero, i.size, i.bytes)) = some (some z, size, bytes)) (hz : z.cells.size = size) (hsz : 0 < size)
    (v : Value) (n : Nat) (xs us : List Value) (b c : Nat) (hs : a.eval s = v) (hx : a.eval x = .slice (some ⟨b, 0, none⟩) 1 c) (HO : W.ownsRow base e size v n xs) (hus : us.length = size)
    (hu : ∀ j u, us[j]? = some u → W.cell? ⟨b, j, none⟩ = some u) (h1 : ∀ u ∈ us, u.oneCell' = true) (hbase : base ≤ W.heap.size) (hm : n + 1 ≤ maxLen) (hl : (n + 1) * bytes ≤ 140737488355328)
    (h : ∀ v1 w1, w1.ownsRow base e size v1 (n + 1) (xs ++ us) → W.grownBy w1 v.ownBlock → (v1.ownBlock = v.ownBlock ∨ v1.ownBlock = some W.heap.size) → K (a.put o.dst v1) w1) :
    if Region.wanted o (yielded ops a.tmps) = true then Oper.wp P o a W K Q else E := by
  have hw : Region.wanted o (yielded ops a.tmps) = true := by simp [Region.wanted, hgd]
  rw [if_pos hw]
  refine wp_of_list (ops := ops) hgd ?_
  exact append_one base hgd s x t e z size bytes ho ht hinfo hz hsz v n xs us b c hs hx HO hus hu h1 hbase hm hl fun v1 w1 k1 k2 k3 => h v1 w1 k1 k2 k3
theorem ow_slice {B : Nat} {e : TypeId} {size n : Nat} {v : Value} {xs : List Value} (h : w.ownsRow B e size v n xs) : ∃ A q, v = .slice A n q := by
  rcases h.2 with ⟨rfl, rfl⟩ | ⟨gg, cap, cur, rfl, _⟩
  · exact ⟨_, _, rfl⟩
  · exact ⟨_, _, rfl⟩
end Go.Proofs.YtcfbmglhikjahaaDoor
