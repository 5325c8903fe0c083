/- package wire's writing half: fits, Number, length, Text; bytes.Clone. -/
import Derived.Test.YtcfbmglhikjahaaDoorBase
import Derived.WalkSpells
import Derived.StillTailTactics
import Derived.Lib.SliceRun
set_option linter.unusedVariables false
set_option linter.unusedSimpArgs false
namespace Go.Proofs.YtcfbmglhikjahaaDoor
open Go.RowKit Go.Proofs.YtcfbmglhikjahaaDoorW.PrintWords

theorem fits_yes (n : Int) (h : n = 1 ∨ n = 2 ∨ n = 4 ∨ n = 8) (w : World) :
    Calls Tryd.prog 66 #[.int .i64 n] w fun e w' => e = .returned (.bool true) ∧ w = w' := by
  rcases h with rfl | rfl | rfl | rfl
  all_goals
    go_enter Tryd.func66, Tryd.ntmps66
    go_wp2
    go_ret
    exact ⟨rfl, rfl⟩

set_option maxRecDepth 100000 in
set_option maxHeartbeats 1000000 in
/-- wire.Number: the bytes of a number, in memory of its own -/
theorem number_any (n : Int) (s : Nat) (hs : s = 1 ∨ s = 2 ∨ s = 4 ∨ s = 8) (h0 : 0 ≤ n) (h1 : s < 8 → n < 256 ^ s) (h2 : n ≤ 9223372036854775807) (w : World) :
    Calls Tryd.prog 71 #[.int .i64 n, .int .i64 s] w fun e w' => ∃ v, e = .returned v ∧ w'.ownsRow w.heap.size 5 1 v s (nums .u8 (beB s n)) ∧ Below w.heap.size w w' := by
  rcases hs with rfl | rfl | rfl | rfl
  · have hmk : ∀ W, (Instr.makeSlice 23 (.int .i64 1) (.int .i64 1)).run Tryd.prog W = .ok (.slice (some ⟨W.heap.size, 0, none⟩) 1 1) (W.alloc (.cells #[.int .u8 0] 5)) := fun _ => by kernel_rfl
    have hb : n < 256 := by simpa using h1
    clear h1 h2
    go_enter Tryd.func71, Tryd.ntmps71
    go_wp2_with (go_at_call 66; refine (fits_yes _ (by omega) _).mono ?_; rintro e w' ⟨rfl, rfl⟩)
    refine wp_loop_rounds 2 ?_
    iterate 2 (rw [rounds_succ]; go_wp2)
    go_ret
    refine ⟨_, rfl, ?_, (Below.refl _ _).alloc (Nat.le_refl _) _⟩
    have hc : ∀ cs : Array Value, cs = (nums .u8 (beB 1 n)).toArray → (w.alloc (.cells cs 5)).ownsRow w.heap.size 5 1 (.slice (some ⟨w.heap.size, 0, none⟩) 1 1) 1 (nums .u8 (beB 1 n)) := fun cs h => by rw [h]; exact own_nums w _ _ _ _ (beB_length _ _) (by omega)
    refine hc _ ?_
    simp [beB, nums]; omega
  · have hmk : ∀ W, (Instr.makeSlice 23 (.int .i64 2) (.int .i64 2)).run Tryd.prog W = .ok (.slice (some ⟨W.heap.size, 0, none⟩) 2 2) (W.alloc (.cells #[.int .u8 0, .int .u8 0] 5)) := fun _ => by kernel_rfl
    have hb : n < 65536 := by simpa using h1
    clear h1 h2
    go_enter Tryd.func71, Tryd.ntmps71
    go_wp2_with (go_at_call 66; refine (fits_yes _ (by omega) _).mono ?_; rintro e w' ⟨rfl, rfl⟩)
    refine wp_loop_rounds 3 ?_
    iterate 3 (rw [rounds_succ]; go_wp2)
    go_ret
    refine ⟨_, rfl, ?_, (Below.refl _ _).alloc (Nat.le_refl _) _⟩
    have hc : ∀ cs : Array Value, cs = (nums .u8 (beB 2 n)).toArray → (w.alloc (.cells cs 5)).ownsRow w.heap.size 5 1 (.slice (some ⟨w.heap.size, 0, none⟩) 2 2) 2 (nums .u8 (beB 2 n)) := fun cs h => by rw [h]; exact own_nums w _ _ _ _ (beB_length _ _) (by omega)
    refine hc _ ?_
    simp [beB, nums]; omega
  · have hmk : ∀ W, (Instr.makeSlice 23 (.int .i64 4) (.int .i64 4)).run Tryd.prog W = .ok (.slice (some ⟨W.heap.size, 0, none⟩) 4 4) (W.alloc (.cells #[.int .u8 0, .int .u8 0, .int .u8 0, .int .u8 0] 5)) := fun _ => by kernel_rfl
    have hb : n < 4294967296 := by simpa using h1
    clear h1 h2
    go_enter Tryd.func71, Tryd.ntmps71
    go_wp2_with (go_at_call 66; refine (fits_yes _ (by omega) _).mono ?_; rintro e w' ⟨rfl, rfl⟩)
    refine wp_loop_rounds 5 ?_
    iterate 5 (rw [rounds_succ]; go_wp2)
    go_ret
    refine ⟨_, rfl, ?_, (Below.refl _ _).alloc (Nat.le_refl _) _⟩
    have hc : ∀ cs : Array Value, cs = (nums .u8 (beB 4 n)).toArray → (w.alloc (.cells cs 5)).ownsRow w.heap.size 5 1 (.slice (some ⟨w.heap.size, 0, none⟩) 4 4) 4 (nums .u8 (beB 4 n)) := fun cs h => by rw [h]; exact own_nums w _ _ _ _ (beB_length _ _) (by omega)
    refine hc _ ?_
    simp [beB, nums]; omega
  · have hmk : ∀ W, (Instr.makeSlice 23 (.int .i64 8) (.int .i64 8)).run Tryd.prog W = .ok (.slice (some ⟨W.heap.size, 0, none⟩) 8 8) (W.alloc (.cells #[.int .u8 0, .int .u8 0, .int .u8 0, .int .u8 0, .int .u8 0, .int .u8 0, .int .u8 0, .int .u8 0] 5)) := fun _ => by kernel_rfl
    have H2 := Lib.hid h2
    clear h1 h2
    go_enter Tryd.func71, Tryd.ntmps71
    go_wp2_with (go_at_call 66; refine (fits_yes _ (by omega) _).mono ?_; rintro e w' ⟨rfl, rfl⟩)
    refine wp_loop_rounds 9 ?_
    iterate 9 (rw [rounds_succ]; go_wp2)
    go_ret
    refine ⟨_, rfl, ?_, (Below.refl _ _).alloc (Nat.le_refl _) _⟩
    have hc : ∀ cs : Array Value, cs = (nums .u8 (beB 8 n)).toArray → (w.alloc (.cells cs 5)).ownsRow w.heap.size 5 1 (.slice (some ⟨w.heap.size, 0, none⟩) 8 8) 8 (nums .u8 (beB 8 n)) := fun cs h => by rw [h]; exact own_nums w _ _ _ _ (beB_length _ _) (by omega)
    refine hc _ ?_
    have := H2.out; simp [beB, nums]; omega

/-- the table of lengths' classes -/
def Classes (w : World) : Prop := w.cell? ⟨0, 0, none⟩ = some (.int .i64 6) ∧ w.cell? ⟨0, 1, none⟩ = some (.int .i64 14) ∧ w.cell? ⟨0, 2, none⟩ = some (.int .i64 30)
theorem Classes.keep {w0 w : World} (h : Classes w0) (hb : Below w0.heap.size w0 w) : Classes w := ⟨pw_cell_below hb h.1, pw_cell_below hb h.2.1, pw_cell_below hb h.2.2⟩

/-- a length's bytes -/
def lenB (n : Int) : List Int := if n < 64 then beB 1 n else if n < 16384 then beB 2 (n + 16384) else beB 4 (n + 2147483648)
def lenN (n : Int) : Nat := if n < 64 then 1 else if n < 16384 then 2 else 4
theorem lenB_length (n : Int) : (lenB n).length = lenN n := by
  unfold lenB lenN
  split
  · simp [beB_length]
  · split <;> simp [beB_length]
theorem lenB_bytes (n : Int) : AllB (lenB n) := by
  unfold lenB
  split
  · exact beB_bytes _ _
  · split <;> exact beB_bytes _ _

theorem len_or0 (n : Int) (h0 : 0 ≤ n) (h1 : n < 64) : Go.bits .or .i64 n (IntKind.i64.wrap 0) = n := by
  have := or_low64 0 n 62 (by decide) h0 (by omega) (by omega)
  rw [show IntKind.i64.wrap 0 = 0 by decide, bits_comm, this]; unfold wrap64; omega
theorem len_wrap0 : IntKind.i64.wrap 1 = ((1 : Nat) : Int) := by decide
theorem len_or1 (n : Int) (h0 : 0 ≤ n) (h1 : n < 16384) : Go.bits .or .i64 n (IntKind.i64.wrap 16384) = n + 16384 := by
  have := or_low64 16384 n 14 (by decide) h0 (by omega) (by omega)
  rw [show IntKind.i64.wrap 16384 = 16384 by decide, bits_comm, this]; unfold wrap64; omega
theorem len_wrap1 : IntKind.i64.wrap 2 = ((2 : Nat) : Int) := by decide
theorem len_or2 (n : Int) (h0 : 0 ≤ n) (h1 : n ≤ 1048576) : Go.bits .or .i64 n (IntKind.i64.wrap 2147483648) = n + 2147483648 := by
  have := or_low64 2147483648 n 31 (by decide) h0 (by omega) (by omega)
  rw [show IntKind.i64.wrap 2147483648 = 2147483648 by decide, bits_comm, this]; unfold wrap64; omega
theorem len_wrap2 : IntKind.i64.wrap 4 = ((4 : Nat) : Int) := by decide

set_option maxRecDepth 100000 in
set_option maxHeartbeats 1000000 in
theorem length_any (n : Int) (h0 : 0 ≤ n) (h1 : n ≤ 1048576) (w : World) (hG : Classes w) :
    Calls Tryd.prog 72 #[.int .i64 n] w fun e w' => ∃ v, e = .returned v ∧ Ow w' w.heap.size v (lenB n) ∧ Below w.heap.size w w' := by
  obtain ⟨hc0, hc1, hc2⟩ := hG
  by_cases c1 : n < 64
  · have Hl := Lib.hid (show lenB n = beB 1 n by simp [lenB, c1])
    go_enter Tryd.func72, Tryd.ntmps72
    go_wp2
    go_step3
    go_wp2
    go_step3
    go_wp2
    refine wp_loop_rounds 1 ?_
    iterate 1 (rw [rounds_succ]; go_wp2)
    go_still_tail 9, (by kernel_rfl)
    change wpList _ _ _ _ _ w.drew
    rw [len_or0 n (by omega) (by omega), len_wrap0]
    have hB := below_drew (Below.refl w.heap.size w)
    have hz : w.drew.heap.size = w.heap.size := rfl
    generalize w.drew = w2 at *
    go_wp2_with (go_at_call 71; refine (number_any _ 1 (by omega) (by omega) (by omega) (by omega) _).mono ?_; rintro e w' ⟨v, rfl, ho, hb⟩)
    rw [Exit.noGoto_ret]
    go_ret
    refine ⟨v, rfl, ?_, ?_⟩
    · rw [Hl.out, hz] at *; simpa [Ow, beB_length] using ho
    · rw [hz] at hb; exact hB.trans hb
  · by_cases c2 : n < 16384
    · have Hl := Lib.hid (show lenB n = beB 2 (n + 16384) by simp [lenB, c1, c2])
      go_enter Tryd.func72, Tryd.ntmps72
      go_wp2
      go_step3
      go_wp2
      go_step3
      go_wp2
      refine wp_loop_rounds 2 ?_
      iterate 2 (rw [rounds_succ]; go_wp2)
      go_still_tail 9, (by kernel_rfl)
      change wpList _ _ _ _ _ w.drew
      rw [len_or1 n (by omega) (by omega), len_wrap1]
      have hB := below_drew (Below.refl w.heap.size w)
      have hz : w.drew.heap.size = w.heap.size := rfl
      generalize w.drew = w2 at *
      go_wp2_with (go_at_call 71; refine (number_any _ 2 (by omega) (by omega) (by omega) (by omega) _).mono ?_; rintro e w' ⟨v, rfl, ho, hb⟩)
      rw [Exit.noGoto_ret]
      go_ret
      refine ⟨v, rfl, ?_, ?_⟩
      · rw [Hl.out, hz] at *; simpa [Ow, beB_length] using ho
      · rw [hz] at hb; exact hB.trans hb
    · have Hl := Lib.hid (show lenB n = beB 4 (n + 2147483648) by simp [lenB, c1, c2])
      go_enter Tryd.func72, Tryd.ntmps72
      go_wp2
      go_step3
      go_wp2
      go_step3
      go_wp2
      refine wp_loop_rounds 3 ?_
      iterate 3 (rw [rounds_succ]; go_wp2)
      go_still_tail 9, (by kernel_rfl)
      change wpList _ _ _ _ _ w.drew
      rw [len_or2 n (by omega) (by omega), len_wrap2]
      have hB := below_drew (Below.refl w.heap.size w)
      have hz : w.drew.heap.size = w.heap.size := rfl
      generalize w.drew = w2 at *
      go_wp2_with (go_at_call 71; refine (number_any _ 4 (by omega) (by omega) (by omega) (by omega) _).mono ?_; rintro e w' ⟨v, rfl, ho, hb⟩)
      rw [Exit.noGoto_ret]
      go_ret
      refine ⟨v, rfl, ?_, ?_⟩
      · rw [Hl.out, hz] at *; simpa [Ow, beB_length] using ho
      · rw [hz] at hb; exact hB.trans hb
end Go.Proofs.YtcfbmglhikjahaaDoor
