/- Words that the contracts use: bytes that a slice reads as, rows that a call has made, numbers' bytes. -/
import Derived.Test.YtcfbmglhikjahaaDoorProg
import Derived.Test.YtcfbmglhikjahaaDoorWWords
import Derived.Lib.Hide
import Derived.Outline
import Derived.IntWalk
import Derived.LoopN
import Derived.BigQuiet
import Derived.Deep.QuietTactic
import Derived.Deep.RegionLaw
set_option linter.unusedVariables false
set_option linter.unusedSimpArgs false
namespace Go.Proofs.YtcfbmglhikjahaaDoor
open Go.RowKit Go.Proofs.YtcfbmglhikjahaaDoorW.PrintWords

theorem info_u8 : (Tryd.prog.info? 5).map (fun i => (i.zero, i.size, i.bytes)) = some (some (.int .u8 0), 1, 1) := by kernel_rfl

/-- bytes -/
def AllB (l : List Int) : Prop := ∀ x ∈ l, 0 ≤ x ∧ x < 256
theorem AllB.nil : AllB [] := fun _ h => by cases h
theorem AllB.append {a b : List Int} (h : AllB a) (k : AllB b) : AllB (a ++ b) := fun x hx => by
  rcases List.mem_append.1 hx with h' | h'
  · exact h x h'
  · exact k x h'
theorem AllB.take {a : List Int} (h : AllB a) (n : Nat) : AllB (a.take n) := fun x hx => h x (List.mem_of_mem_take hx)
theorem AllB.drop {a : List Int} (h : AllB a) (n : Nat) : AllB (a.drop n) := fun x hx => h x (List.mem_of_mem_drop hx)
theorem AllB.cons {x : Int} {a : List Int} (h0 : 0 ≤ x) (h1 : x < 256) (h : AllB a) : AllB (x :: a) := fun y hy => by
  rcases List.mem_cons.1 hy with rfl | h'
  · exact ⟨h0, h1⟩
  · exact h y h'
theorem AllB.getD {a : List Int} (h : AllB a) (i : Nat) : 0 ≤ a.getD i 0 ∧ a.getD i 0 < 256 := by
  rcases Nat.lt_or_ge i a.length with hi | hi
  · rw [List.getD_eq_getElem?_getD, List.getElem?_eq_getElem hi]; exact h _ (List.getElem_mem hi)
  · rw [List.getD_eq_getElem?_getD, List.getElem?_eq_none hi]; decide

/-- the bytes of a number, the greatest first -/
def beB : Nat → Int → List Int
  | 0, _ => []
  | k + 1, n => beB k (n / 256) ++ [n % 256]
theorem beB_length (k : Nat) : ∀ n, (beB k n).length = k := by
  induction k with
  | zero => intro n; rfl
  | succ k ih => intro n; simp [beB, ih]
theorem beB_bytes (k : Nat) : ∀ n, AllB (beB k n) := by
  induction k with
  | zero => intro n; exact AllB.nil
  | succ k ih => intro n; exact (ih _).append (AllB.cons (by omega) (by omega) AllB.nil)
/-- a number of bytes, the greatest first -/
def beV (l : List Int) : Int := l.foldl (fun n c => n * 256 + c) 0
theorem beV_snoc (l : List Int) (c : Int) : beV (l ++ [c]) = beV l * 256 + c := by simp [beV]
theorem beV_beB (k : Nat) : ∀ n : Int, 0 ≤ n → n < 256 ^ k → beV (beB k n) = n := by
  induction k with
  | zero => intro n h0 h1; simp at h1; have : n = 0 := by omega
            subst this; rfl
  | succ k ih =>
    intro n h0 h1
    have h2 : n / 256 < 256 ^ k := by rw [Int.pow_succ] at h1; omega
    simp only [beB]
    rw [beV_snoc, ih _ (by omega) h2]
    omega
theorem beV_bound (l : List Int) (h : AllB l) : 0 ≤ beV l ∧ beV l < 256 ^ l.length := by
  have key : ∀ (l : List Int), AllB l → ∀ a : Int, 0 ≤ a → 0 ≤ l.foldl (fun n c => n * 256 + c) a ∧ l.foldl (fun n c => n * 256 + c) a < (a + 1) * 256 ^ l.length := by
    intro l
    induction l with
    | nil => intro _ a ha; simp; omega
    | cons x l ih =>
      intro hl a ha
      have hx := hl x (by simp)
      obtain ⟨h1, h2⟩ := ih (fun y hy => hl y (List.mem_cons_of_mem _ hy)) (a * 256 + x) (by omega)
      refine ⟨h1, Int.lt_of_lt_of_le h2 ?_⟩
      rw [List.length_cons, Int.pow_succ, ← Int.mul_assoc, Int.mul_right_comm]
      exact Int.mul_le_mul_of_nonneg_right (by omega) (Int.le_of_lt (Int.pow_pos (by omega)))
  have := key l h 0 (Int.le_refl _)
  simpa [beV] using this

theorem bits_comm (k : IntKind) (x y : Int) : Go.bits .or k x y = Go.bits .or k y x := by
  unfold Go.bits; simp only [BitVec.or_comm]
theorem or_low64 (x y : Int) (i : Nat) (hx : x % 2 ^ i = 0) (hy0 : 0 ≤ y) (hy : y < 2 ^ i) (hi : i ≤ 62) : Go.bits .or .i64 x y = wrap64 (x + y) := by
  have hand : BitVec.ofInt 64 x &&& BitVec.ofInt 64 y = 0#64 := by
    apply BitVec.eq_of_getElem_eq
    intro j hj
    rw [BitVec.getElem_and]
    simp only [BitVec.getElem_zero]
    by_cases hji : j < i
    · have : (BitVec.ofInt 64 x)[j] = false := by
        rw [BitVec.getElem_eq_testBit_toNat, BitVec.toNat_ofInt]
        obtain ⟨q, hq⟩ : ∃ q, x = 2 ^ i * q := ⟨x / 2 ^ i, by have := Int.mul_ediv_add_emod x (2 ^ i); omega⟩
        have : (x % ((2 ^ 64 : Nat) : Int)).toNat = 2 ^ i * (q % 2 ^ (64 - i)).toNat := by
          have h64 : ((2 ^ 64 : Nat) : Int) = 2 ^ i * 2 ^ (64 - i) := by
            rw [← Int.pow_add]; rw [show i + (64 - i) = 64 by omega]; rfl
          rw [h64, hq, Int.mul_emod_mul_of_pos _ _ (Int.pow_pos (by omega))]
          rw [Int.toNat_mul (Int.le_of_lt (Int.pow_pos (by omega))) (Int.emod_nonneg _ (Int.ne_of_gt (Int.pow_pos (by omega))))]
          congr 1
        rw [this, Nat.testBit_two_pow_mul]
        simp; omega
      rw [this]; rfl
    · have : (BitVec.ofInt 64 y)[j] = false := by
        rw [BitVec.getElem_eq_testBit_toNat, BitVec.toNat_ofInt]
        apply Nat.testBit_lt_two_pow
        have h2 : (2 : Int) ^ i ≤ 2 ^ j := by
          have : (2 : Nat) ^ i ≤ 2 ^ j := Nat.pow_le_pow_right (by omega) (by omega)
          exact_mod_cast this
        have h3 : (2 : Int) ^ j ≤ 2 ^ 64 := by
          have : (2 : Nat) ^ j ≤ 2 ^ 64 := Nat.pow_le_pow_right (by omega) (by omega)
          exact_mod_cast this
        rw [Int.emod_eq_of_lt hy0 (by simpa using (by omega : y < 2 ^ 64))]
        have : (y.toNat : Int) < ((2 ^ j : Nat) : Int) := by rw [Int.toNat_of_nonneg hy0]; push_cast; omega
        exact_mod_cast this
      rw [this, Bool.and_false]
  have h : BitVec.ofInt 64 x ||| BitVec.ofInt 64 y = BitVec.ofInt 64 (x + y) := by
    rw [← BitVec.add_eq_or_of_and_eq_zero _ _ hand, BitVec.ofInt_add]
  show IntKind.i64.wrap ((BitVec.ofInt 64 x ||| BitVec.ofInt 64 y).toNat : Int) = _
  rw [h, BitVec.toNat_ofInt, IntKind.wrap_i64]
  unfold wrap64
  have : (0 : Int) ≤ (x + y) % ((2 ^ 64 : Nat) : Int) := Int.emod_nonneg _ (by decide)
  rw [Int.toNat_of_nonneg this]
  simp only [show ((2 ^ 64 : Nat) : Int) = 18446744073709551616 from rfl]
  omega

/-! ### memory -/
/-- what a slice of bytes reads as -/
abbrev Rd (w : World) (A : Option Addr) (n : Nat) (l : List Int) : Prop := ReadsInt w .u8 A n l
theorem Rd.keep {w0 w : World} {A : Option Addr} {n : Nat} {l : List Int} (h : Rd w0 A n l) (hb : Below w0.heap.size w0 w) : Rd w A n l := ReadsInt.below h hb
theorem Rd.cell {w : World} {A : Option Addr} {n : Nat} {l : List Int} (h : Rd w A n l) (i : Nat) (hi : i < n) : ∃ ad, A = some ad ∧ w.cell? (ad.add i) = some (.int .u8 (l.getD i 0)) := by
  obtain ⟨ad, e, hc⟩ := h.2.2 (by omega)
  exact ⟨ad, e, hc i hi⟩
theorem Rd.nil (w : World) (A : Option Addr) : Rd w A 0 [] := ⟨rfl, by omega, fun h => absurd h (by omega)⟩
/-- a row of bytes that the call has made -/
abbrev Ow (w : World) (base : Nat) (v : Value) (l : List Int) : Prop := w.ownsRow base 5 1 v l.length (nums .u8 l)
/-- a row that was made whole -/
theorem own_nums (w : World) (k : IntKind) (e : TypeId) (l : List Int) (n : Nat) (hn : l.length = n) (hm : n ≤ 9223372036854775807) :
    (w.alloc (.cells (nums k l).toArray e)).ownsRow w.heap.size e 1 (.slice (some ⟨w.heap.size, 0, none⟩) n n) n (nums k l) := by
  subst hn
  exact own_lit w w.heap.size e k l (Nat.le_refl _) hm

/-! ### append at a step of a region that draws -/
theorem upon_mono {P : Program} {o : Oper} {a : Act} {next : Act → World → Prop} {Q0 Q : Exit → Act → World → Prop} (hq : ∀ c a w, Q0 (.panic c) a w → Q (.panic c) a w) (ho : LetsOut Q0 → LetsOut Q)
    (r : Result Next) (h : o.upon P a next Q0 r) : o.upon P a next Q r := by
  unfold Oper.upon at h ⊢
  split at h
  · exact h
  · exact h
  · exact h
  · refine Calls.mono h ?_
    intro e w' hh
    cases e with
    | returned v => exact hh
    | panicked c => exact hq _ _ _ hh
    | outgrown => exact ho hh
  · exact h
  · exact hq _ _ _ h
  · exact h.elim
theorem wp_of_list {P : Program} {ops : Array Oper} {o : Oper} {a : Act} {W : World} {K : Act → World → Prop} {Q : Exit → Act → World → Prop} (hgd : o.guard = none)
    (h : wpList P ops (Exit.then K (fun _ _ _ => False)) [o] a W) : o.wp P a W K Q := by
  unfold wpList at h
  have hw : Region.wanted o (yielded ops a.tmps) = true := by simp [Region.wanted, hgd]
  rw [if_pos hw] at h
  rcases h with h | ⟨_, _, _, h⟩
  · exact upon_mono (fun _ _ _ h => h.elim) (fun ⟨_, _, h⟩ => h.elim) _ h
  · exact h.elim
theorem step_append_row {P : Program} {ops : Array Oper} {o : Oper} {a : Act} {K : Act → World → Prop} {Q : Exit → Act → World → Prop} {E : Prop} {W : World} (base : Nat) (hgd : o.guard = none) (s x : Operand) (t e : TypeId) (k : IntKind) (bytes : Nat)
    (ho : o.op = .call { callee := .builtin .append, args := #[s, x], argTypes := #[t, t] })
    (ht : P.underlying t = some (.slice e)) (hinfo : (P.info? e).map (fun i => (i.zero, i.size, i.bytes)) = some (some (.int k 0), 1, bytes)) (hb0 : 0 < bytes)
    (v : Value) (xs ys : List Int) (A : Option Addr) (m c : Nat) (hs : a.eval s = v) (hx : a.eval x = .slice A m c)
    (HO : W.ownsRow base e 1 v xs.length (nums k xs)) (HR : ReadsInt W k A m ys) (hbase : base ≤ W.heap.size) (hl : (xs.length + m) * bytes ≤ 140737488355328)
    (h : ∀ v1 w1, w1.ownsRow base e 1 v1 (xs ++ ys).length (nums k (xs ++ ys)) → W.grownBy w1 v.ownBlock → (v1.ownBlock = v.ownBlock ∨ ∃ b, v1.ownBlock = some b ∧ W.heap.size ≤ b) → K (a.put o.dst v1) w1) :
    if Region.wanted o (yielded ops a.tmps) = true then Oper.wp P o a W K Q else E := by
  have hw : Region.wanted o (yielded ops a.tmps) = true := by simp [Region.wanted, hgd]
  rw [if_pos hw]
  refine wp_of_list (ops := ops) hgd ?_
  exact print_append_row (w0 := W) base hgd s x t e k bytes ho ht hinfo hb0 v xs ys A m c hs hx HO HR (Below.refl _ _) hbase hl fun v1 w1 h1 _ h2 h3 => h v1 w1 h1 h2 h3
end Go.Proofs.YtcfbmglhikjahaaDoor
