/- package frame: Get. -/
import Derived.Test.YtcfbmglhikjahaaDoorGetM0
import Derived.Deep.RegionHeld3
set_option linter.unusedVariables false
set_option linter.unusedSimpArgs false
namespace Go.Proofs.YtcfbmglhikjahaaDoor
open Go.RowKit Go.Proofs.YtcfbmglhikjahaaDoorW.PrintWords

theorem T4_not {B b o : Nat} (h1 : b ≠ B + 3) (h2 : ¬ (b = B + 2 ∧ o = 0)) (h3 : ¬ (b = B + 1 ∧ 5 ≤ o)) : ¬ T4 B b o := fun h => by
  rcases h with ⟨h, _⟩ | ⟨i, hi, hb, ho⟩
  · exact h1 h
  · unfold tb4 at hb
    unfold po4 at ho
    split at hb
    · rename_i h0; rw [if_pos h0] at ho; exact h2 ⟨hb, ho⟩
    · rename_i h0; rw [if_neg h0] at ho; exact h3 ⟨hb, by omega⟩

set_option maxRecDepth 100000 in
set_option maxHeartbeats 4000000 in
/-- Get of bytes whose outer parts can't be read -/
theorem get_bad1 (A : Option Addr) (n c : Nat) (l : List Int) (w : World) (hG : Classes w) (h : Rd w A n l) (hc : n ≤ c) (hn : n ≤ 140737488355328) (hb : AllB l) (he : (gR l).2 ≠ 0) :
    Calls Tryd.prog 19 #[.slice A n c] w fun x w' => x = .returned (.tuple #[.agg #[.slice none 0 0, .int .i64 0, .int .i64 0, .int .i64 0, .slice none 0 0, .slice none 0 0, .slice none 0 0, .slice none 0 0], .int .i64 (gR l).2]) ∧ CN w w' := by
  have HT := Lib.hid (get_text A n c l w hG h hc hn hb)
  obtain ⟨b0, b1, b2, b3, b4⟩ := gW_blocks w A n c
  have HR := Lib.hid (fun (i : Nat) (v : Value) (hi : zM[i]? = some v) => Cl.block b0 i v hi)
  have HB := Lib.hid (gW_below w A n c)
  generalize (gR l).2 = e at *
  generalize (gR l).1 = a at *
  unfold gW at HT HR HB
  have k1 : (e == 0) = false := by rw [beq_eq_false_iff_ne]; exact he
  have k2 : (e != 0) = true := by rw [bne_iff_ne]; exact he
  clear b0 b1 b2 b3 b4 hG h hb he
  go_enter Tryd.func19, Tryd.ntmps19
  go_wp2_with fail
  refine HT.out.mono ?_
  rintro x w5 ⟨rfl, hI5, hv5, hF5⟩
  have nT : ∀ o, ¬ T4 w.heap.size w.heap.size o := fun o => T4_not (by omega) (by omega) (by omega)
  have r0 := (HR.out 0 _ rfl).cf hF5 (nT _)
  have r1 := (HR.out 1 _ rfl).cf hF5 (nT _)
  have r2 := (HR.out 2 _ rfl).cf hF5 (nT _)
  have r3 := (HR.out 3 _ rfl).cf hF5 (nT _)
  have r4 := (HR.out 4 _ rfl).cf hF5 (nT _)
  have r5 := (HR.out 5 _ rfl).cf hF5 (nT _)
  have r6 := (HR.out 6 _ rfl).cf hF5 (nT _)
  have r7 := (HR.out 7 _ rfl).cf hF5 (nT _)
  obtain ⟨r0c, r0f⟩ := r0
  obtain ⟨r1c, r1f⟩ := r1
  obtain ⟨r2c, r2f⟩ := r2
  obtain ⟨r3c, r3f⟩ := r3
  obtain ⟨r4c, r4f⟩ := r4
  obtain ⟨r5c, r5f⟩ := r5
  obtain ⟨r6c, r6f⟩ := r6
  obtain ⟨r7c, r7f⟩ := r7
  have HF : Hid (CN w w5) := Lib.hid ((CF.of_below HB.out).over hF5 (fun b o hb h => by have := T4_ge h; omega))
  have i2 := hI5.c2
  clear hI5 hv5 hF5
  go_wp2_with fail
  go_region
  go_wp2
  refine bodyPost_ret (v := .tuple #[.agg #[.slice none 0 0, .int .i64 0, .int .i64 0, .int .i64 0, .slice none 0 0, .slice none 0 0, .slice none 0 0, .slice none 0 0], .int .i64 e]) (by simp [results, Tryd.results19, go_sem, r0c, r1c, r2c, r3c, r4c, r5c, r6c, r7c]) rfl ⟨rfl, ?_⟩
  have K := fun (W : World) (o : Nat) (u : Value) (hO : CN w W) => CF.set_new hO (b := w.heap.size) (o := o) u (Nat.le_refl _)
  exact (K _ _ _ (K _ _ _ (K _ _ _ (K _ _ _ (K _ _ _ (K _ _ _ (K _ _ _ (K _ _ _ HF.out)))))))).drew
end Go.Proofs.YtcfbmglhikjahaaDoor
