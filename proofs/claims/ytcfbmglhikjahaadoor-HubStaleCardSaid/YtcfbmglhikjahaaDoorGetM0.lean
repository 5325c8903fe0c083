/- package frame's Get: what it answers, and the memory with which it begins. -/
import Derived.Test.YtcfbmglhikjahaaDoorPlace
import Derived.Test.YtcfbmglhikjahaaDoorEnd
set_option linter.unusedVariables false
set_option linter.unusedSimpArgs false
namespace Go.Proofs.YtcfbmglhikjahaaDoor
open Go.RowKit Go.Proofs.YtcfbmglhikjahaaDoorW.PrintWords

theorem rval_bytes (l : List Int) (hb : AllB l) (a e : Int) (k : Nat) : AllB (rval l a e k) ∧ (rval l a e k).length ≤ l.length := by
  unfold rval
  split
  · unfold textR
    split
    · exact ⟨(hb.drop _).take _, by simp; omega⟩
    · exact ⟨AllB.nil, by simp⟩
  · exact ⟨AllB.nil, by simp⟩
/-- behind the four texts -/
def gR (l : List Int) : Int × Int := rst l 0 0 4
def gIn (l : List Int) : List Int := rval l 0 0 0
def gK (x : List Int) : Int × Int × Int := rnum x (rplF x 0 0).2.1 (rplF x 0 0).2.2 1
def gB (x : List Int) : Int × Int := rst x (gK x).2.1 (gK x).2.2 1
def gBody (x : List Int) : List Int := rval x (gK x).2.1 (gK x).2.2 0
def gE1 (x : List Int) : Int := endR x.length (gB x).1 (gB x).2 true
def gOk (l : List Int) : Bool := messageOk (rval (gIn l) 0 0 0).length (rplE (gIn l) 0 0).1 (rplF (gIn l) 0 0).1 (gK (gIn l)).1 (gBody (gIn l)).length (rval l 0 0 1).length (rval l 0 0 2).length (rval l 0 0 3).length
/-- the error of bytes that are to be a message -/
def getE (l : List Int) : Int := if (gR l).2 ≠ 0 then (gR l).2 else if gE1 (gIn l) ≠ 0 then gE1 (gIn l) else endR l.length (gR l).1 (gR l).2 (gOk l)

/-- a nil Message -/
def zM : Array Value := #[.slice none 0 0, .int .i64 0, .int .i64 0, .int .i64 0, .slice none 0 0, .slice none 0 0, .slice none 0 0, .slice none 0 0]
/-- the world in which Get first reads -/
def gW (w : World) (A : Option Addr) (n c : Nat) : World :=
  ((((w.alloc (.cells #[.slice none 0 0, .int .i64 0, .int .i64 0, .int .i64 0, .slice none 0 0, .slice none 0 0, .slice none 0 0, .slice none 0 0] 49)).alloc (.cells #[.slice none 0 0, .int .i64 0, .int .i64 0, .int .i64 0, .slice none 0 0, .slice none 0 0, .slice none 0 0, .slice none 0 0] 49)).alloc (.cells #[.slice none 0 0, .int .i64 0, .int .i64 0] 72)).alloc
    (.cells #[.slice A n c, .int .i64 0, .int .i64 0] 72)).alloc (.cells #[.pointer (some ⟨w.heap.size + 2, 0, none⟩), .pointer (some ⟨w.heap.size + 1, 5, none⟩), .pointer (some ⟨w.heap.size + 1, 6, none⟩), .pointer (some ⟨w.heap.size + 1, 7, none⟩)] 64)
def tb4 (B : Nat) (i : Nat) : Nat := if i = 0 then B + 2 else B + 1
def po4 (i : Nat) : Nat := if i = 0 then 0 else i + 4
/-- what Get's first call of text turns -/
def T4 (B : Nat) (b o : Nat) : Prop := TR (B + 3) b o ∨ ∃ i, i < 4 ∧ b = tb4 B i ∧ o = po4 i
theorem T4_ge {B b o : Nat} (h : T4 B b o) : B + 1 ≤ b ∧ b ≤ B + 3 := by
  rcases h with ⟨h, _⟩ | ⟨i, _, h, _⟩
  · omega
  · unfold tb4 at h; split at h <;> omega
theorem heap_up {W : World} {b : Nat} {x : Obj} (h : W.heap[b]? = some x) (o : Obj) : (W.alloc o).heap[b]? = some x := (heap_alloc_old W o (Array.getElem?_eq_some_iff.1 h).1).trans h
theorem heap_new (W : World) (o : Obj) (b : Nat) (hb : b = W.heap.size) : (W.alloc o).heap[b]? = some o := by subst hb; exact heap_alloc_new W o
theorem gW_size (w : World) (A : Option Addr) (n c : Nat) : (gW w A n c).heap.size = w.heap.size + 5 := by simp [gW]
theorem gW_below (w : World) (A : Option Addr) (n c : Nat) : Below w.heap.size w (gW w A n c) := by
  unfold gW
  have h1 := fun (W : World) (h : Below w.heap.size w W) (o : Obj) => h.trans ((below_box W o).mono h.size)
  exact h1 _ (h1 _ (h1 _ (h1 _ (below_box _ _) _) _) _) _
theorem gW_blocks (w : World) (A : Option Addr) (n c : Nat) :
    (gW w A n c).heap[w.heap.size]? = some (.cells zM 49 (0, 0)) ∧ (gW w A n c).heap[w.heap.size + 1]? = some (.cells zM 49 (0, 0)) ∧
    (gW w A n c).heap[w.heap.size + 2]? = some (.cells #[.slice none 0 0, .int .i64 0, .int .i64 0] 72 (0, 0)) ∧ (gW w A n c).heap[w.heap.size + 3]? = some (.cells #[.slice A n c, .int .i64 0, .int .i64 0] 72 (0, 0)) ∧
    (gW w A n c).heap[w.heap.size + 4]? = some (.cells #[.pointer (some ⟨w.heap.size + 2, 0, none⟩), .pointer (some ⟨w.heap.size + 1, 5, none⟩), .pointer (some ⟨w.heap.size + 1, 6, none⟩), .pointer (some ⟨w.heap.size + 1, 7, none⟩)] 64 (0, 0)) := by
  unfold gW zM
  refine ⟨heap_up (heap_up (heap_up (heap_up (heap_new _ _ _ rfl) _) _) _) _, heap_up (heap_up (heap_up (heap_new _ _ _ (by simp)) _) _) _, heap_up (heap_up (heap_new _ _ _ (by simp)) _) _, heap_up (heap_new _ _ _ (by simp)) _, heap_new _ _ _ (by simp)⟩
theorem RC.block {W : World} {g : Nat} {A : Option Addr} {n c : Nat} {a e : Int} {t : TypeId} (h : W.heap[g]? = some (.cells #[.slice A n c, .int .i64 a, .int .i64 e] t (0, 0))) : RC W g A n c a e :=
  ⟨(Cl.block h 0 _ rfl).c, (Cl.block h 1 _ rfl).c, (Cl.block h 2 _ rfl).c, (Cl.block h 0 _ rfl).f, (Cl.block h 1 _ rfl).f, (Cl.block h 2 _ rfl).f⟩

/-- Get's first call of text -/
theorem get_text (A : Option Addr) (n c : Nat) (l : List Int) (w : World) (hG : Classes w) (h : Rd w A n l) (hc : n ≤ c) (hn : n ≤ 140737488355328) (hb : AllB l) :
    Calls Tryd.prog 35 #[.pointer (some ⟨w.heap.size + 3, 0, none⟩), .slice (some ⟨w.heap.size + 4, 0, none⟩) 4 4] (gW w A n c) fun x w' => x = .returned (.tuple #[]) ∧ RC w' (w.heap.size + 3) A n c (gR l).1 (gR l).2 ∧
      (∀ i, i < 4 → ∃ v, w'.cell? ⟨tb4 w.heap.size i, po4 i, none⟩ = some v ∧ Ow w' (w.heap.size + 5) v (rval l 0 0 i)) ∧ CF (T4 w.heap.size) (gW w A n c) w' := by
  obtain ⟨b0, b1, b2, b3, b4⟩ := gW_blocks w A n c
  have hB := gW_below w A n c
  have hGw := World.block_lt_of_cell? w _ hG.1
  simp only at hGw
  have ht : ∀ i, i < 4 → (gW w A n c).cell? ⟨tb4 w.heap.size i, po4 i, none⟩ = some (.slice none 0 0) ∧ (gW w A n c).frozen? ⟨tb4 w.heap.size i, po4 i, none⟩ = false := by
    intro i hi
    match i, hi with
    | 0, _ => exact cell_block b2 0 _ rfl
    | 1, _ => exact cell_block b1 5 _ rfl
    | 2, _ => exact cell_block b1 6 _ rfl
    | 3, _ => exact cell_block b1 7 _ rfl
  have hv : ∀ i, i < 4 → (gW w A n c).cell? ⟨w.heap.size + 4, i, none⟩ = some (.pointer (some ⟨tb4 w.heap.size i, po4 i, none⟩)) := by
    intro i hi
    match i, hi with
    | 0, _ => exact (cell_block b4 0 _ rfl).1
    | 1, _ => exact (cell_block b4 1 _ rfl).1
    | 2, _ => exact (cell_block b4 2 _ rfl).1
    | 3, _ => exact (cell_block b4 3 _ rfl).1
  have htb : ∀ i, w.heap.size + 1 ≤ tb4 w.heap.size i ∧ tb4 w.heap.size i ≤ w.heap.size + 2 := fun i => by unfold tb4; split <;> omega
  have := rtext_any (w.heap.size + 3) A n c l 0 0 4 (w.heap.size + 4) (tb4 w.heap.size) po4 (gW w A n c) (RC.block b3) (hG.keep hB) ⟨by omega, fun i _ => by have := htb i; omega⟩ (h.keep hB)
    (fun h0 ad e => by have := h.block_lt h0 ad e; exact ⟨by omega, fun i _ => by have := htb i; omega⟩) hc hn hb (fun _ => by omega) (by omega) (by omega) (fun i _ => by have := htb i; omega)
    (fun i j hi hj hij => by unfold tb4 po4; by_cases h0 : i = 0 <;> by_cases h1 : j = 0 <;> simp [h0, h1] <;> omega) hv ht
  rw [gW_size] at this
  exact this
end Go.Proofs.YtcfbmglhikjahaaDoor
