/- package frame's reader: place, end. -/
import Derived.Test.YtcfbmglhikjahaaDoorReadText
set_option linter.unusedVariables false
set_option linter.unusedSimpArgs false
namespace Go.Proofs.YtcfbmglhikjahaaDoor
open Go.RowKit Go.Proofs.YtcfbmglhikjahaaDoorW.PrintWords

theorem rnum_in (l : List Int) (a e : Int) (s : Nat) (ha : e = 0 → 0 ≤ a ∧ a ≤ l.length) (h : (rnum l a e s).2.2 = 0) : 0 ≤ (rnum l a e s).2.1 ∧ (rnum l a e s).2.1 ≤ l.length := by
  unfold rnum at h ⊢
  by_cases he : e = 0
  · rw [if_pos he] at h ⊢
    have := ha he
    unfold numR at h ⊢
    by_cases c1 : l.length < a.toNat + s
    · rw [if_pos c1] at h; simp at h
    · rw [if_neg c1] at h ⊢
      by_cases c2 : accV ((l.drop a.toNat).take s) < 0
      · rw [if_pos c2] at h; simp at h
      · rw [if_neg c2]; simp; omega
  · rw [if_neg he] at h; exact absurd h he

/-- a place that is read: its epoch and its leaf with where the reader stands behind each -/
def rplE (l : List Int) (a e : Int) : Int × Int × Int := rnum l (rst l a e 1).1 (rst l a e 1).2 8
def rplF (l : List Int) (a e : Int) : Int × Int × Int := rnum l (rplE l a e).2.1 (rplE l a e).2.2 4

set_option maxRecDepth 100000 in
set_option maxHeartbeats 2000000 in
/-- (*reader).place -/
theorem rplace_any (g : Nat) (A : Option Addr) (n c : Nat) (l : List Int) (a e : Int) (w : World) (hI : RC w g A n c a e) (hG : Classes w) (hGN : 0 ≠ g) (hr : Rd w A n l) (hrN : 0 < n → ∀ ad, A = some ad → ad.block ≠ g) (hc : n ≤ c) (hn : n ≤ 140737488355328) (hb : AllB l) (ha : e = 0 → 0 ≤ a ∧ a ≤ n) :
    Calls Tryd.prog 36 #[.pointer (some ⟨g, 0, none⟩)] w fun x w' => ∃ v, x = .returned (.agg #[v, .int .i64 (rplE l a e).1, .int .i64 (rplF l a e).1]) ∧ Ow w' w.heap.size v (rval l a e 0) ∧ RC w' g A n c (rplF l a e).2.1 (rplF l a e).2.2 ∧ CF (TR g) w w' := by
  have hgw := hI.lt
  have hGw := World.block_lt_of_cell? w _ hG.1
  simp only at hGw
  obtain ⟨W2, hW2⟩ : ∃ W2, W2 = ((w.alloc (.cells #[.slice none 0 0, .int .i64 0, .int .i64 0] 75)).alloc (.cells #[.slice none 0 0, .int .i64 0, .int .i64 0] 75)).alloc (.cells #[.pointer (some ⟨w.heap.size + 1, 0, none⟩)] 64) := ⟨_, rfl⟩
  have hz2 : W2.heap.size = w.heap.size + 3 := by rw [hW2]; simp
  have hb2 : Below w.heap.size w W2 := by rw [hW2]; exact (below_box _ _).trans (((below_box _ _).trans ((below_box _ _).mono (by simp))).mono (by simp))
  have hr2 : W2.heap[w.heap.size]? = some (.cells #[.slice none 0 0, .int .i64 0, .int .i64 0] 75 (0, 0)) := by
    rw [hW2]; exact (heap_alloc_old _ _ (by simp; omega)).trans heap_at
  have hp2 : W2.heap[w.heap.size + 1]? = some (.cells #[.slice none 0 0, .int .i64 0, .int .i64 0] 75 (0, 0)) := by
    rw [hW2]; have := @heap_at (w.alloc (.cells #[.slice none 0 0, .int .i64 0, .int .i64 0] 75)) (.cells #[.slice none 0 0, .int .i64 0, .int .i64 0] 75) (.cells #[.pointer (some ⟨w.heap.size + 1, 0, none⟩)] 64); rwa [World.size_alloc] at this
  have hv2 : W2.heap[w.heap.size + 2]? = some (.cells #[.pointer (some ⟨w.heap.size + 1, 0, none⟩)] 64 (0, 0)) := by
    rw [hW2]; have := heap_alloc_new ((w.alloc (.cells #[.slice none 0 0, .int .i64 0, .int .i64 0] 75)).alloc (.cells #[.slice none 0 0, .int .i64 0, .int .i64 0] 75)) (.cells #[.pointer (some ⟨w.heap.size + 1, 0, none⟩)] 64); rwa [World.size_alloc, World.size_alloc] at this
  have R0 := Cl.block hr2 0 _ rfl
  have R1 := Cl.block hr2 1 _ rfl
  have R2 := Cl.block hr2 2 _ rfl
  have P0 := Cl.block hp2 0 _ rfl
  have P1 := Cl.block hp2 1 _ rfl
  have P2 := Cl.block hp2 2 _ rfl
  have V0 := Cl.block hv2 0 _ rfl
  have hF2 : CF (TR g) w W2 := CF.of_below hb2
  have hI2 : RC W2 g A n c a e := hI.cf (T := fun _ _ => False) (CF.of_below hb2) (fun h => h) (fun h => h) (fun h => h)
  have HT := Lib.hid (rtext_any g A n c l a e 1 (w.heap.size + 2) (fun _ => w.heap.size + 1) (fun _ => 0) W2 hI2 (hG.keep hb2) ⟨hGN, fun _ _ => by omega⟩ (hr.keep hb2) (fun h0 ad e => ⟨hrN h0 ad e, fun _ _ => by have := hr.block_lt h0 ad e; omega⟩) hc hn hb ha (by omega) (by omega) (fun _ _ => ⟨by omega, by omega⟩) (fun i j _ _ _ => by omega)
    (fun i hi => by
      have : i = 0 := by omega
      subst this; exact V0.c) (fun _ _ => ⟨P0.c, P0.f⟩))
  have hl := hr.1
  have hin1 := rst_in l hb a e (fun h => by have := ha h; omega) 1
  have hin2 := rnum_in l (rst l a e 1).1 (rst l a e 1).2 8 hin1
  have hin3 := rnum_in l (rplE l a e).2.1 (rplE l a e).2.2 4 hin2
  have he1 : rplE l a e = rnum l (rst l a e 1).1 (rst l a e 1).2 8 := rfl
  have he2 : rplF l a e = rnum l (rplE l a e).2.1 (rplE l a e).2.2 4 := rfl
  rw [hW2] at HT
  have HR2 := Lib.hid (And.intro R0 (And.intro R1 R2))
  have HP2 := Lib.hid (And.intro P1 P2)
  have HF2 := Lib.hid hF2
  have HT0 := Lib.hid P0.f
  rw [hW2] at HR2 HP2 HF2 HT0
  have HB := Lib.hid hb
  have HRD := Lib.hid hr
  have HL := Lib.hid hl
  have HIN := Lib.hid (And.intro hin1 (And.intro hin2 hin3))
  have HE1 := Lib.hid he1
  have HE2 := Lib.hid he2
  have HNN := Lib.hid (fun (h0 : 0 < n) ad (e : A = some ad) (o : Nat) (h : TR g ad.block o) => hrN h0 ad e h.1)
  clear hrN hW2 hz2 hb2 hr2 hp2 hv2 R0 R1 R2 P0 P1 P2 V0 hF2 hI2 hl hin1 hin2 hin3 he1 he2 hI hG hr hb ha
  go_enter Tryd.func36, Tryd.ntmps36
  go_wp2_with fail
  refine HT.out.mono ?_
  rintro x w3 ⟨rfl, hI3, hv3, hF3⟩
  obtain ⟨v, hv3, ho3⟩ := hv3 0 (by omega)
  have hs3 := hF3.size
  simp only [World.size_alloc] at hs3
  have hF3' : CF (TR g) w w3 := HF2.out.over hF3 (fun b o hb h => by
    rcases h with h | ⟨_, _, h, _⟩
    · exact h
    · omega)
  have nT : ∀ b o, b ≠ g → ¬ (b = w.heap.size + 1 ∧ o = 0) → ¬ (TR g b o ∨ ∃ i, i < 1 ∧ b = w.heap.size + 1 ∧ o = 0) := fun b o h1 h2 h => by
    rcases h with h | ⟨_, _, h3, h4⟩
    · exact h1 h.1
    · exact h2 ⟨h3, h4⟩
  have r0 := HR2.out.1.cf hF3 (nT _ _ (by omega) (by omega))
  have r1 := HR2.out.2.1.cf hF3 (nT _ _ (by omega) (by omega))
  have r2 := HR2.out.2.2.cf hF3 (nT _ _ (by omega) (by omega))
  have p1 := HP2.out.1.cf hF3 (nT _ _ (by omega) (by omega))
  have p2 := HP2.out.2.cf hF3 (nT _ _ (by omega) (by omega))
  have p0 : Cl w3 (w.heap.size + 1) 0 v := ⟨hv3, (hF3.frozen _ _ (by simp)).trans (HT0.out)⟩
  obtain ⟨A1, q1, rfl⟩ := own_slice ho3
  have HO3 := Lib.hid (own_base_le ho3 (show w.heap.size + 3 ≤ _ by simp))
  have HI3 := Lib.hid hI3
  have HF3 := Lib.hid hF3'
  have hrd3 := Lib.hid (HRD.out.cf hF3' HNN.out)
  clear hv3 ho3 hF3 hI3 hF3' nT hs3
  have HN := Lib.hid (rnumber_any g A n c l (rst l a e 1).1 (rst l a e 1).2 8 (by omega) w3 HI3.out hrd3.out hc hn HB.out (fun h => by have := HIN.out.1 h; have := HL.out; omega))
  rw [← HE1.out] at HN
  have hin2 := HIN.out.2.1
  rw [← HE1.out] at hin2
  have HIN2 := Lib.hid hin2
  clear hin2
  generalize hEq : rplE l a e = E at *
  have HEQ := Lib.hid hEq
  clear hEq
  obtain ⟨E1, E2, E3⟩ := E
  go_wp2_with fail
  refine HN.out.mono ?_
  rintro x w4 ⟨rfl, hI4, hF4⟩
  have nR : ∀ b o, b ≠ g → ¬ TR g b o := fun b o h1 h => h1 h.1
  have hs4 := hF4.size
  have r0 := r0.cf hF4 (nR _ _ (by omega))
  have r1 := r1.cf hF4 (nR _ _ (by omega))
  have r2 := r2.cf hF4 (nR _ _ (by omega))
  have p0 := p0.cf hF4 (nR _ _ (by omega))
  have p1 := p1.cf hF4 (nR _ _ (by omega))
  have p2 := p2.cf hF4 (nR _ _ (by omega))
  have k1 := p1.c
  have k2 := p1.f
  have R0 := Lib.hid (r0.set_other (.int .i64 E1) (b' := w.heap.size + 1) (o' := 1) (by omega))
  have R1 := Lib.hid (r1.set_other (.int .i64 E1) (b' := w.heap.size + 1) (o' := 1) (by omega))
  have R2 := Lib.hid (r2.set_other (.int .i64 E1) (b' := w.heap.size + 1) (o' := 1) (by omega))
  have P0 := Lib.hid (p0.set_other (.int .i64 E1) (b' := w.heap.size + 1) (o' := 1) (by omega))
  have P2 := Lib.hid (p2.set_other (.int .i64 E1) (b' := w.heap.size + 1) (o' := 1) (by omega))
  have P1 := Lib.hid (p1.set (.int .i64 E1))
  have F5 := Lib.hid (CF.set_new (HF3.out.trans hF4) (b := w.heap.size + 1) (o := 1) (.int .i64 E1) (by omega))
  have I5 := Lib.hid (hI4.cf (T := fun b o => b = w.heap.size + 1 ∧ o = 1) (CF.set (.int .i64 E1) ⟨rfl, rfl⟩) (by omega) (by omega) (by omega))
  have O5 := Lib.hid (CF.row (T := fun b o => TR g b o) HO3.out hF4 (fun b o h => by have := h.1; omega))
  have hrd5 := Lib.hid (HRD.out.cf F5.out HNN.out)
  have HN5 := Lib.hid (rnumber_any g A n c l E2 E3 4 (by omega) _ I5.out hrd5.out hc hn HB.out (fun h => by have := HIN2.out h; have := HL.out; omega))
  rw [← (show rplF l a e = rnum l E2 E3 4 from HE2.out)] at HN5
  generalize hFq : rplF l a e = F at *
  have HFQ := Lib.hid hFq
  clear hFq
  obtain ⟨G1, G2, G3⟩ := F
  clear r0 r1 r2 p0 p1 p2 hI4 HN nR
  go_wp2_with fail
  refine HN5.out.mono ?_
  rintro x w6 ⟨rfl, hI6, hF6⟩
  have nR : ∀ b o, b ≠ g → ¬ TR g b o := fun b o h1 h => h1 h.1
  have hs6 := hF6.size
  have r0 := R0.out.cf hF6 (nR _ _ (by omega))
  have r1 := R1.out.cf hF6 (nR _ _ (by omega))
  have r2 := R2.out.cf hF6 (nR _ _ (by omega))
  have p0 := P0.out.cf hF6 (nR _ _ (by omega))
  have p1 := P1.out.cf hF6 (nR _ _ (by omega))
  have p2 := P2.out.cf hF6 (nR _ _ (by omega))
  have F6 := Lib.hid (F5.out.trans hF6)
  have O6 := Lib.hid (CF.row (T := fun b o => TR g b o) (CF.row (T := fun b o => b = w.heap.size + 1 ∧ o = 1) O5.out (CF.set (.int .i64 E1) ⟨rfl, rfl⟩) (fun b o h => by have := h.1; omega)) hF6 (fun b o h => by have := h.1; omega))
  have I6 := Lib.hid hI6
  have ⟨r0c, r0f⟩ := r0
  have ⟨r1c, r1f⟩ := r1
  have ⟨r2c, r2f⟩ := r2
  have ⟨p0c, p0f⟩ := p0
  have ⟨p1c, p1f⟩ := p1
  have ⟨p2c, p2f⟩ := p2
  clear hI6 hF6 HN5 nR r0 r1 r2 p0 p1 p2
  go_wp2_with fail
  refine bodyPost_ret (v := .agg #[.slice A1 (rval l a e 0).length q1, .int .i64 E1, .int .i64 G1]) (by simp [results, Tryd.results36, go_sem, r0c, r1c, r2c]) rfl ⟨_, by rw [HEQ.out, HFQ.out], ?_, ?_, ?_⟩
  · have K := fun (W : World) (b o : Nat) (u : Value) (hb : b < w.heap.size + 3) (hO : Ow W (w.heap.size + 3) (.slice A1 (rval l a e 0).length q1) (rval l a e 0)) => CF.row (T := fun b' o' => b' = b ∧ o' = o) hO (CF.set u ⟨rfl, rfl⟩) (fun b' o' h => by have := h.1; omega)
    exact own_base_le (K _ _ _ _ (by omega) (K _ _ _ _ (by omega) (K _ _ _ _ (by omega) (K _ _ _ _ (by omega) O6.out)))) (by omega)
  · rw [HFQ.out]
    have K := fun (W : World) (b o : Nat) (u : Value) (hb : b ≠ g) (hO : RC W g A n c G2 G3) => RC.cf (T := fun b' o' => b' = b ∧ o' = o) hO (CF.set u ⟨rfl, rfl⟩) (fun h => hb h.1.symm) (fun h => hb h.1.symm) (fun h => hb h.1.symm)
    exact K _ _ _ _ (by omega) (K _ _ _ _ (by omega) (K _ _ _ _ (by omega) (K _ _ _ _ (by omega) I6.out)))
  · exact CF.set_new (CF.set_new (CF.set_new (CF.set_new F6.out _ (by omega)) _ (by omega)) _ (by omega)) _ (by omega)
end Go.Proofs.YtcfbmglhikjahaaDoor
