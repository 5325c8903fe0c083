/- From what the rows say of wire.classes to what the walks ask; a start at which it is met; a slice of slices of bytes that came in. -/
import Derived.Test.YtcfbmglhikjahaaDoorPacks
import Derived.Test.YtcfbmglhikjahaaDoorRows
import Derived.WalkKit
import Derived.ProofKit
import Derived.OpenShut
import Derived.LaidLaws
import Derived.Handed
import Derived.Carry
set_option linter.unusedVariables false
set_option linter.unusedSimpArgs false
namespace Go.Proofs.YtcfbmglhikjahaaDoor
open Go.ChangeShapes Go.WideShapes Go.ChangeAt Go.RowKit

theorem ownKnob_rfl : ownKnob Tryd.prog.godebug = none := by kernel_rfl
theorem laidOut_ : laidOutB Tryd.prog = true := by kernel_rfl
theorem classesN : Tryd.prog.globalNamed "sodality/wire.classes" = some 0 := by kernel_rfl
theorem classesType : (Tryd.prog.globals[0]?).map (·.type) = some 116 := by kernel_rfl
theorem cells_int : Tryd.prog.cellsOf 3 = 1 := by kernel_rfl
theorem cells_arr : Tryd.prog.cellsOf 116 = 3 := by kernel_rfl
theorem cells_bytes : Tryd.prog.cellsOf 23 = 1 := by kernel_rfl
theorem cells_u8 : Tryd.prog.cellsOf 5 = 1 := by kernel_rfl
def laidL : List (String × DataW Unit) := [("sodality/wire.classes", Rows.laid_sodality_wire_classes)]
set_option maxRecDepth 100000 in
theorem classes_of_laid {W : World} (h : laidMet Tryd.prog laidL W) : Classes W := by
  obtain ⟨ps, ⟨g, t, cs, fuel, p, q, hg, ht, hvar, hd, _, _⟩, _⟩ := h
  obtain rfl := Option.some.inj (classesN.symm.trans hg)
  obtain rfl := Option.some.inj (classesType.symm.trans ht)
  obtain ⟨xs, m, _, hx, hl, hxl, he⟩ := DataW.trod_array Tryd.underlying116 hd
  obtain ⟨l⟩ := cs
  simp only at hl he
  rw [cells_arr] at hl
  have hxs : xs.map (·.1) = [.lit (.int .i64 6), .lit (.int .i64 14), .lit (.int .i64 30)] := by
    have := (Prod.mk.inj hx).1
    injection this with this
    exact this.symm
  have g0 := he 0 (by omega)
  have g1 := he 1 (by omega)
  have g2 := he 2 (by omega)
  rw [cells_int] at g0 g1 g2
  have v0 := World.var?_cell hg hvar 0
  have v1 := World.var?_cell hg hvar 1
  have v2 := World.var?_cell hg hvar 2
  clear he hvar hd hx hg ht
  obtain ⟨c0, c1, c2, rfl⟩ : ∃ c0 c1 c2, l = [c0, c1, c2] := by
    rcases l with _ | ⟨c0, _ | ⟨c1, _ | ⟨c2, _ | ⟨c3, l⟩⟩⟩⟩
    · simp at hl
    · simp at hl
    · simp at hl
    · exact ⟨c0, c1, c2, rfl⟩
    · simp at hl
  obtain ⟨y0, y1, y2, rfl⟩ : ∃ c0 c1 c2, xs = [c0, c1, c2] := by
    rcases xs with _ | ⟨c0, _ | ⟨c1, _ | ⟨c2, _ | ⟨c3, l⟩⟩⟩⟩
    · simp at hxl
    · simp at hxl
    · simp at hxl
    · exact ⟨c0, c1, c2, rfl⟩
    · simp at hxl
  simp only [List.map_cons, List.map_nil, List.cons.injEq] at hxs
  obtain ⟨z0, z1, z2, _⟩ := hxs
  simp at g0 g1 g2
  obtain ⟨s0, e0, f0, _⟩ := DataW.trod_int Tryd.underlying3 g0
  obtain ⟨s1, e1, f1, _⟩ := DataW.trod_int Tryd.underlying3 g1
  obtain ⟨s2, e2, f2, _⟩ := DataW.trod_int Tryd.underlying3 g2
  subst f0 f1 f2
  simp at z0 z1 z2 e0 e1 e2
  subst z0 z1 z2 e0 e1 e2
  exact ⟨by simpa using v0, by simpa using v1, by simpa using v2⟩
/-- A settled world, but wire.classes holds its numbers. -/
noncomputable def clsWorld (os : Os) : World :=
  let w0 := World.holding Tryd.prog os ⟨#[], #[], []⟩
  { w0 with heap := w0.heap.modify 0 fun
      | .cells _ t frozen => .cells #[.int .i64 6, .int .i64 14, .int .i64 30] t frozen
      | o => o }
theorem laid_met (os : Os) (args : Array Value) : laidMet Tryd.prog laidL ((clsWorld os).forCall (fun _ _ => 0) ⟨#[], args, []⟩).memory :=
  laidMet_of_run (ps := [.cell 0 0, .cell 0 1, .cell 0 2]) 8 (by kernel_rfl) (by kernel_rfl) (by kernel_rfl)

section
variable {H : Type} {enc : TypeId × Value → H} {W : World}
/-- a slice of bytes that came in -/
theorem open_bytes {base : Nat} {sp : Nat → Bool} {held : Bool} {fuel : Nat} {cs : List Value} {x : DataW H × List MemPlace} (h : DataW.trod enc Tryd.prog W base sp held fuel 23 cs = some x) :
    ∃ A n c zs, cs = [.slice A n c] ∧ n ≤ c ∧ n ≤ maxLen ∧ Rd W A n zs ∧ AllB zs := by
  rcases open_ints Tryd.underlying23 Tryd.underlying5 cells_u8 h with ⟨hcs, _⟩ | ⟨a, l, c, zs, hcs, _, hl, hm, hz, _, hcell, hwz⟩
  · exact ⟨none, 0, 0, [], hcs, Nat.le_refl _, by omega, Rd.nil _ _, AllB.nil⟩
  · have hlz : l ≤ zs.length := by rw [hz]; split <;> omega
    refine ⟨some a, l, c, zs.take l, hcs, hl, Nat.le_trans hl hm, ⟨by simp; omega, ?_, fun h0 => ⟨a, rfl, fun j hj => ?_⟩⟩, ?_⟩
    · unfold maxLen at hm; omega
    · have := hcell j (by omega)
      rw [this]
      simp [List.getD_eq_getElem?_getD, List.getElem?_take, hj]
    · intro y hy
      have := hwz y (List.mem_of_mem_take hy)
      simp [Lit.wf] at this
      have h1 : IntKind.u8.min = 0 := by decide
      have h2 : IntKind.u8.max = 255 := by decide
      omega
theorem list_of (P : Nat → List Int → Prop) : ∀ n : Nat, (∀ i, i < n → ∃ l, P i l) → ∃ ls : List (List Int), ls.length = n ∧ ∀ i, i < n → P i (ls.getD i []) := by
  intro n
  induction n with
  | zero => intro _; exact ⟨[], rfl, fun i hi => absurd hi (by omega)⟩
  | succ n ih =>
    intro h
    obtain ⟨ls, h1, h2⟩ := ih (fun i hi => h i (by omega))
    obtain ⟨l, hl⟩ := h n (by omega)
    refine ⟨ls ++ [l], by simp [h1], fun i hi => ?_⟩
    by_cases e : i < n
    · rw [getD_snoc _ _ _ (by omega)]; exact h2 i e
    · obtain rfl : i = n := by omega
      have : (ls ++ [l]).getD i [] = l := by rw [← h1]; simp [List.getD_eq_getElem?_getD]
      rw [this]; exact hl
/-- a slice of slices of bytes that came in -/
theorem open_lists {base : Nat} {sp : Nat → Bool} {held : Bool} {fuel : Nat} {cs : List Value} {x : DataW H × List MemPlace} (h : DataW.trod enc Tryd.prog W base sp held fuel 22 cs = some x) :
    ∃ A n c ls, cs = [.slice A n c] ∧ RdL W A n ls := by
  rcases DataW.trod_slice Tryd.underlying22 h with ⟨hcs, _⟩ | ⟨a, len, cap, elems, rest, n, _, hcs, _, _, _, _, hlen, hel, _⟩
  · exact ⟨none, 0, 0, [], hcs, rfl, fun j hj => absurd hj (by omega)⟩
  · rw [cells_bytes] at hel
    have hE : ∀ i, i < len → ∃ l, ∃ Aj nj cj, W.cell? (a.add i) = some (.slice Aj nj cj) ∧ Rd W Aj nj l := by
      intro i hi
      have h1 := hel i hi
      rw [Nat.mul_one] at h1
      have h2 : ∃ y, elems[i]? = some y := ⟨_, List.getElem?_eq_getElem (by omega)⟩
      obtain ⟨y, hy⟩ := h2
      rw [hy, Option.bind_eq_some_iff] at h1
      obtain ⟨c1, hc1, hy1⟩ := h1
      obtain ⟨A, n1, c2, zs, e, _, _, hr, _⟩ := open_bytes hy1
      subst e
      exact ⟨zs, A, n1, c2, cell_of_cells?_one hc1, hr⟩
    obtain ⟨ls, h1, h2⟩ := list_of (fun i l => ∃ Aj nj cj, W.cell? (a.add i) = some (.slice Aj nj cj) ∧ Rd W Aj nj l) len hE
    refine ⟨some a, len, cap, ls, hcs, h1, fun j hj => ?_⟩
    obtain ⟨Aj, nj, cj, k1, k2⟩ := h2 j hj
    exact ⟨a, Aj, nj, cj, rfl, k1, k2⟩
end
end Go.Proofs.YtcfbmglhikjahaaDoor
