/- package frame's reader. -/
import Derived.Test.YtcfbmglhikjahaaDoorGetText
import Derived.Test.YtcfbmglhikjahaaDoorCells
set_option linter.unusedVariables false
set_option linter.unusedSimpArgs false
namespace Go.Proofs.YtcfbmglhikjahaaDoor
open Go.RowKit Go.Proofs.YtcfbmglhikjahaaDoorW.PrintWords

theorem add_none (b o j : Nat) : (⟨b, o, none⟩ : Addr).add j = ⟨b, o + j, none⟩ := by unfold Addr.add; split <;> simp_all
theorem Rd.cf {T : Nat → Nat → Prop} {w w' : World} {A : Option Addr} {n : Nat} {l : List Int} (h : Rd w A n l) (hc : CF T w w') (hn : 0 < n → ∀ ad, A = some ad → ∀ o, ¬ T ad.block o) : Rd w' A n l :=
  ⟨h.1, h.2.1, fun h0 => by
    obtain ⟨b, o, rfl, hcell⟩ := h.cells h0
    refine ⟨⟨b, o, none⟩, rfl, fun j hj => ?_⟩
    rw [add_none]
    exact hc.at (hn h0 ⟨b, o, none⟩ rfl (o + j)) (hcell j hj)⟩
theorem Rd.block_lt {w : World} {A : Option Addr} {n : Nat} {l : List Int} (h : Rd w A n l) (h0 : 0 < n) (ad : Addr) (e : A = some ad) : ad.block < w.heap.size := by
  obtain ⟨b, o, rfl, hcell⟩ := h.cells h0
  injection e with e
  subst e
  exact World.block_lt_of_cell? w _ (hcell 0 h0)
theorem Classes.cf {T : Nat → Nat → Prop} {w w' : World} (h : Classes w) (hc : CF T w w') (hn : ∀ o, ¬ T 0 o) : Classes w' := ⟨hc.at (hn 0) h.1, hc.at (hn 1) h.2.1, hc.at (hn 2) h.2.2⟩

/-- block g is a reader: of bytes, at a place, with an error -/
structure RC (w : World) (g : Nat) (A : Option Addr) (n c : Nat) (a e : Int) : Prop where
  c0 : w.cell? ⟨g, 0, none⟩ = some (.slice A n c)
  c1 : w.cell? ⟨g, 1, none⟩ = some (.int .i64 a)
  c2 : w.cell? ⟨g, 2, none⟩ = some (.int .i64 e)
  f0 : w.frozen? ⟨g, 0, none⟩ = false
  f1 : w.frozen? ⟨g, 1, none⟩ = false
  f2 : w.frozen? ⟨g, 2, none⟩ = false
theorem RC.lt {w : World} {g : Nat} {A : Option Addr} {n c : Nat} {a e : Int} (h : RC w g A n c a e) : g < w.heap.size := World.block_lt_of_cell? w _ h.c0
theorem RC.cf {T : Nat → Nat → Prop} {w w' : World} {g : Nat} {A : Option Addr} {n c : Nat} {a e : Int} (h : RC w g A n c a e) (hc : CF T w w') (h0 : ¬ T g 0) (h1 : ¬ T g 1) (h2 : ¬ T g 2) : RC w' g A n c a e :=
  ⟨hc.at h0 h.c0, hc.at h1 h.c1, hc.at h2 h.c2, hc.fz h.c0 h.f0, hc.fz h.c1 h.f1, hc.fz h.c2 h.f2⟩
theorem RC.drew {w : World} {g : Nat} {A : Option Addr} {n c : Nat} {a e : Int} (h : RC w g A n c a e) : RC w.drew g A n c a e := ⟨h.c0, h.c1, h.c2, h.f0, h.f1, h.f2⟩
/-- the cells that a reader's step turns -/
def TR (g : Nat) (b o : Nat) : Prop := b = g ∧ (o = 1 ∨ o = 2)
theorem RC.step {w1 : World} {g : Nat} {A : Option Addr} {n c : Nat} {a e : Int} (h : RC w1 g A n c a e) (a' e' : Int) : RC ((w1.setCell ⟨g, 1, none⟩ (.int .i64 a')).setCell ⟨g, 2, none⟩ (.int .i64 e')) g A n c a' e' := by
  have ne : ∀ {b o o' : Nat}, o ≠ o' → (⟨b, o, none⟩ : Addr) ≠ ⟨b, o', none⟩ := fun h e => by injection e with _ e; exact h e
  have k2 : (w1.setCell ⟨g, 1, none⟩ (.int .i64 a')).cell? ⟨g, 2, none⟩ = some (.int .i64 e) := (World.cell?_setCell_other _ _ _ _ (ne (by omega))).trans h.c2
  exact ⟨(World.cell?_setCell_other _ _ _ _ (ne (by omega))).trans ((World.cell?_setCell_other _ _ _ _ (ne (by omega))).trans h.c0),
    (World.cell?_setCell_other _ _ _ _ (ne (by omega))).trans (set_cell _ h.c1), set_cell _ k2,
    (World.frozen?_setCell _ _ _ _).trans ((World.frozen?_setCell _ _ _ _).trans h.f0),
    (World.frozen?_setCell _ _ _ _).trans ((World.frozen?_setCell _ _ _ _).trans h.f1),
    (World.frozen?_setCell _ _ _ _).trans ((World.frozen?_setCell _ _ _ _).trans h.f2)⟩
theorem step_cf (w : World) (g : Nat) (a' e' : Int) : CF (TR g) w ((w.setCell ⟨g, 1, none⟩ (.int .i64 a')).setCell ⟨g, 2, none⟩ (.int .i64 e')) :=
  (CF.set _ ⟨rfl, .inl rfl⟩).trans (CF.set _ ⟨rfl, .inr rfl⟩)

/-- what a reader's number answers, and where the reader stands behind it -/
def rnum (l : List Int) (a e : Int) (s : Nat) : Int × Int × Int := if e = 0 then numR l a.toNat s else (0, a, e)

set_option maxRecDepth 100000 in
set_option maxHeartbeats 1000000 in
/-- (*reader).number -/
theorem rnumber_any (g : Nat) (A : Option Addr) (n c : Nat) (l : List Int) (a e : Int) (s : Nat) (hs : s = 1 ∨ s = 2 ∨ s = 4 ∨ s = 8) (w : World) (hI : RC w g A n c a e) (h : Rd w A n l) (hc : n ≤ c) (hn : n ≤ 140737488355328) (hb : AllB l) (ha : e = 0 → 0 ≤ a ∧ a ≤ n) :
    Calls Tryd.prog 37 #[.pointer (some ⟨g, 0, none⟩), .int .i64 s] w fun x w' => x = .returned (.int .i64 (rnum l a e s).1) ∧ RC w' g A n c (rnum l a e s).2.1 (rnum l a e s).2.2 ∧ CF (TR g) w w' := by
  by_cases he : e = 0
  · subst he
    obtain ⟨h0, h1⟩ := ha rfl
    obtain ⟨k, rfl⟩ := Int.eq_ofNat_of_zero_le h0
    have HN := Lib.hid (fun W (hW : Rd W A n l) => getnum_any A n c l W hW hc hn hb k s (by omega) hs)
    have hr : rnum l (k : Int) 0 s = numR l k s := by simp [rnum]
    rw [hr]
    generalize numR l k s = r at *
    obtain ⟨r1, r2, r3⟩ := r
    obtain ⟨c0, c1, c2, f0, f1, f2⟩ := hI
    have HI := Lib.hid (RC.mk c0 c1 c2 f0 f1 f2)
    have HD := Lib.hid (show Rd w.drew A n l from h)
    clear hr h hb hs
    go_enter Tryd.func37, Tryd.ntmps37
    go_wp2_with fail
    go_region_law (go_simp; go_at_call 51; refine (HN.out _ HD.out).mono ?_; rintro x w1 ⟨rfl, rfl⟩)
    all_goals
      go_wp2
      go_ret
      exact ⟨rfl, (RC.step HI.out r2 r3).drew, (step_cf w g r2 r3).drew⟩
  · have hr : rnum l a e s = (0, a, e) := by unfold rnum; rw [if_neg he]
    rw [hr]
    have hb1 : (e == 0) = false := by rw [beq_eq_false_iff_ne]; exact he
    obtain ⟨c0, c1, c2, f0, f1, f2⟩ := hI
    have HI := Lib.hid (RC.mk c0 c1 c2 f0 f1 f2)
    clear hr h hb hs he ha
    go_enter Tryd.func37, Tryd.ntmps37
    go_wp2
    go_ret
    exact ⟨rfl, HI.out, CF.refl _ _⟩
end Go.Proofs.YtcfbmglhikjahaaDoor
