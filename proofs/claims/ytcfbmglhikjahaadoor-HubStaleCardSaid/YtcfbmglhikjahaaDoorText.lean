/- bytes.Clone, bytes.Equal, wire.Text. -/
import Derived.Test.YtcfbmglhikjahaaDoorWire
set_option linter.unusedVariables false
set_option linter.unusedSimpArgs false
namespace Go.Proofs.YtcfbmglhikjahaaDoor
open Go.RowKit Go.Proofs.YtcfbmglhikjahaaDoorW.PrintWords

theorem own_empty (w : World) : Ow (w.alloc (.cells #[] 5)) w.heap.size (.slice (some ⟨w.heap.size, 0, none⟩) 0 0) [] :=
  own_nums w .u8 5 [] 0 rfl (by omega)

set_option maxRecDepth 100000 in
set_option maxHeartbeats 1000000 in
/-- bytes.Clone: what was handed in, in memory of its own -/
theorem clone_any (A : Option Addr) (n c : Nat) (l : List Int) (w : World) (h : Rd w A n l) (hn : n ≤ 140737488355328) :
    Calls Tryd.prog 30 #[.slice A n c] w fun e w' => ∃ v, e = .returned v ∧ Ow w' w.heap.size v l ∧ Below w.heap.size w w' := by
  have hq := fun (w : World) => Lib.run_eql_slice_nil (P := Tryd.prog) w 23 5 A n c 0 0 Tryd.underlying23
  rcases A with _ | ad
  · have h0 : n = 0 := by
      rcases Nat.eq_zero_or_pos n with h0 | h0
      · exact h0
      · obtain ⟨ad, h, _⟩ := h.2.2 h0
        cases h
    subst h0
    obtain rfl : l = [] := List.eq_nil_of_length_eq_zero h.1
    have H := Lib.hid h
    clear h
    go_enter Tryd.func30, Tryd.ntmps30
    go_wp2
    go_ret
    exact ⟨_, rfl, own_nil _ _ _ _, Below.refl _ _⟩
  · have hl := h.1
    subst hl
    have H := Lib.hid h
    clear h
    go_enter Tryd.func30, Tryd.ntmps30
    go_wp2_with (at_builtin; refine print_append_row w.heap.size rfl _ _ 23 5 .u8 1 rfl Tryd.underlying23 info_u8 (by omega) _ [] l _ _ _ rfl rfl (own_empty w) (Rd.keep H.out (below_alloc (Below.refl _ _) _)) (below_alloc (Below.refl _ _) _) (by simp) (by simp; omega) ?_; intro v1 w1 hown hB hg hat)
    go_ret
    exact ⟨_, rfl, hown, hB⟩

set_option maxRecDepth 100000 in
set_option maxHeartbeats 1000000 in
/-- wire.Text: the bytes with their length ahead -/
theorem text_any (A : Option Addr) (n c : Nat) (l : List Int) (w : World) (hG : Classes w) (h : Rd w A n l) (hn : n ≤ 1048576) :
    Calls Tryd.prog 61 #[.slice A n c] w fun e w' => ∃ v, e = .returned (.tuple #[v, .int .i64 0]) ∧ Ow w' w.heap.size v (lenB n ++ l) ∧ Below w.heap.size w w' := by
  have hl := h.1
  subst hl
  have H := Lib.hid h
  have HG := Lib.hid hG
  clear h hG
  go_enter Tryd.func61, Tryd.ntmps61
  go_wp2_with (first | (go_at_call 72; refine (length_any _ (by omega) (by omega) _ HG.out).mono ?_; rintro e w1 ⟨v, rfl, ho, hb⟩) | (at_builtin; refine print_append_row w.heap.size rfl _ _ 23 5 .u8 1 rfl Tryd.underlying23 info_u8 (by omega) v (lenB l.length) l _ _ _ rfl rfl ho (Rd.keep H.out hb) hb hb.size (by rw [lenB_length]; unfold lenN; split <;> (try split) <;> omega) ?_; intro v1 w1 hown hB hg hat))
  go_ret2
  exact ⟨_, rfl, hown, hB⟩

theorem rd_string {w : World} {A : Option Addr} {n c : Nat} {l : List Int} (h : Rd w A n l) : (convert 23 9 (.slice A n c)).run Tryd.prog w = .ok (.string (strOfNums l)) w :=
  string_of_reads Tryd.underlying23 Tryd.underlying5 Tryd.underlying9 h

theorem bytes_eq_iff : ∀ (a b : List Int), AllB a → AllB b → ((strOfNums a).toList == (strOfNums b).toList) = decide (a = b) := by
  have hl : ∀ l : List Int, (strOfNums l).toList = l.map fun n => UInt8.ofNat n.toNat := by
    intro l
    rw [ByteArray.toList_eq]; rfl
  intro a
  induction a with
  | nil => intro b _ _; rw [hl, hl]; cases b <;> simp
  | cons x a ih =>
    intro b ha hb
    have ih' := fun b hb => ih b (fun y hy => ha y (List.mem_cons_of_mem _ hy)) hb
    cases b with
    | nil => rw [hl, hl]; simp
    | cons y b =>
      have h1 := ih' b (fun y hy => hb y (List.mem_cons_of_mem _ hy))
      rw [hl, hl] at h1 ⊢
      have hx := ha x (by simp)
      have hy := hb y (by simp)
      simp only [List.map_cons, List.cons_beq_cons, List.cons.injEq, Bool.decide_and]
      rw [h1]
      congr 1
      rw [Bool.eq_iff_iff]
      simp only [beq_iff_eq, decide_eq_true_eq]
      constructor
      · intro h
        have := congrArg UInt8.toNat h
        simp at this
        omega
      · intro h; rw [h]

set_option maxRecDepth 100000 in
theorem equal_any (A B : Option Addr) (n c m d : Nat) (a b : List Int) (w : World) (ha : Rd w A n a) (hb : Rd w B m b) (h1 : AllB a) (h2 : AllB b) :
    Calls Tryd.prog 62 #[.slice A n c, .slice B m d] w fun e w' => e = .returned (.bool (decide (a = b))) ∧ w = w' := by
  have k1 := rd_string (c := c) ha
  have k2 := rd_string (c := d) hb
  have he := Lib.hid (bytes_eq_iff a b h1 h2)
  clear ha hb
  go_enter Tryd.func62, Tryd.ntmps62
  go_wp2
  go_ret
  exact ⟨by rw [← he.out]; rfl, rfl⟩
end Go.Proofs.YtcfbmglhikjahaaDoor
