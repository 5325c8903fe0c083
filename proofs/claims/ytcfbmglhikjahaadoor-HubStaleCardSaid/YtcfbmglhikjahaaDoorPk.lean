/- What HubPacks keeps. -/
import Derived.Test.YtcfbmglhikjahaaDoorHead
set_option linter.unusedVariables false
set_option linter.unusedSimpArgs false
namespace Go.Proofs.YtcfbmglhikjahaaDoor
open Go.RowKit Go.Proofs.YtcfbmglhikjahaaDoorW.PrintWords

/-- a slice of slices of bytes -/
def RdL (w : World) (A : Option Addr) (n : Nat) (ls : List (List Int)) : Prop := ls.length = n ∧ ∀ j, j < n → ∃ ad Aj nj cj, A = some ad ∧ w.cell? (ad.add j) = some (.slice Aj nj cj) ∧ Rd w Aj nj (ls.getD j [])
/-- what stands at a hub of packages, and what was left there -/
structure PK (W0 W : World) (g : Nat) (vg vp vt : Value) (ps us : List Value) (ts : List (List Int)) : Prop where
  below : Below W0.heap.size W0 W
  hub : IsHub W g vg 0 (.slice none 0 0) vp
  gle : W0.heap.size ≤ g
  packs : W.ownsRow W0.heap.size 64 1 vp ps.length ps
  there : W.ownsRow W0.heap.size 23 1 vt us.length us
  len1 : ps.length = ts.length
  len2 : us.length = ts.length
  ptr : ∀ k, k < ts.length → ps[k]? = some (.pointer none) ∨ ∃ b, ps[k]? = some (.pointer (some ⟨b, 0, none⟩))
  box : ∀ k b, ps[k]? = some (.pointer (some ⟨b, 0, none⟩)) → ∃ v, W.heap[b]? = some (.cells #[v] 23 (0, 0)) ∧ Ow W W0.heap.size v (ts.getD k []) ∧ vt.ownBlock ≠ some b
  args : ∀ k, k < ts.length → ∃ A n c, us[k]? = some (.slice A n c) ∧ Rd W0 A n (ts.getD k [])
theorem hs_pk {W : World} {g b : Nat} {vp : Value} (h : HS g (.slice none 0 0) vp b) : b = g ∨ vp.ownBlock = some b := by
  rcases h with h | h | h
  · exact .inl h
  · cases h
  · exact .inr h
theorem getElem?_snoc {α : Type} (l : List α) (x y : α) (k : Nat) (h : (l ++ [x])[k]? = some y) : l[k]? = some y ∨ (k = l.length ∧ y = x) := by
  rcases Nat.lt_trichotomy k l.length with h1 | h1 | h1
  · rw [List.getElem?_append_left h1] at h; exact .inl h
  · subst h1; simp at h; exact .inr ⟨rfl, h.symm⟩
  · rw [List.getElem?_append_right (by omega)] at h
    have : ([x] : List α)[k - l.length]? = none := by apply List.getElem?_eq_none; simp; omega
    rw [this] at h; cases h
theorem getD_snoc (l : List (List Int)) (x : List Int) (k : Nat) (h : k < l.length) : (l ++ [x]).getD k [] = l.getD k [] := by
  rw [List.getD_eq_getElem?_getD, List.getD_eq_getElem?_getD, List.getElem?_append_left h]
theorem PK.next {W0 W w1 w2 : World} {g b : Nat} {vg vp vt v v1 vt1 u : Value} {ps us : List Value} {ts : List (List Int)} {x : List Int} {o : Obj} (h : PK W0 W g vg vp vt ps us ts)
    (hh : IsHub w1 g vg 0 (.slice none 0 0) v1) (hp : w1.ownsRow W0.heap.size 64 1 v1 (ps ++ [Value.pointer (some ⟨b, 0, none⟩)]).length (ps ++ [Value.pointer (some ⟨b, 0, none⟩)])) (hb : W.heap.size ≤ b)
    (hbox : w1.heap[b]? = some (.cells #[v] 23 (0, 0))) (ho : Ow w1 W.heap.size v x) (hat : v1.ownBlock = vp.ownBlock ∨ ∃ k, v1.ownBlock = some k ∧ W.heap.size ≤ k) (hf : BF (HS g (.slice none 0 0) vp) W w1)
    (hg2 : (w1.alloc o).grownBy w2 vt.ownBlock) (hown : w2.ownsRow W0.heap.size 23 1 vt1 (us.length + 1) (us ++ [u])) (hat2 : vt1.ownBlock = vt.ownBlock ∨ vt1.ownBlock = some (w1.alloc o).heap.size)
    (hu : ∃ A n c, u = .slice A n c ∧ Rd W0 A n x) : PK W0 w2 g vg v1 vt1 (ps ++ [Value.pointer (some ⟨b, 0, none⟩)]) (us ++ [u]) (ts ++ [x]) := by
  have hne : ∀ {k}, HS g (.slice none 0 0) vp k → k = g ∨ vp.ownBlock = some k := fun h => hs_pk (W := W) h
  have hsz := h.below.size
  have hlt := (World.ownsRow.lt h.there)
  have hgl : g < W.heap.size := (Array.getElem?_eq_some_iff.1 h.hub).1
  have hbl : b < w1.heap.size := (Array.getElem?_eq_some_iff.1 hbox).1
  -- from w1 on
  have hG : BF (fun k => vt.ownBlock = some k) w1 w2 := ((BF.refl _ w1).alloc o).grown hg2 (fun _ e _ => e)
  have hT1 : w1.ownsRow W0.heap.size 23 1 vt us.length us := hf.row h.there (fun k e c => by
    rcases hne c with c | c
    · exact row_ne h.there h.hub (by decide) (c ▸ e)
    · exact rows_ne h.packs h.there (by decide) k e c)
  have hsz1 : (w1.alloc o).heap.size = w1.heap.size + 1 := by simp
  refine ⟨?_, hG.at hh (fun e => row_ne hT1 hh (by decide) e), h.gle, hG.row hp (fun k e c => rows_ne hT1 hp (by decide) k e c), by rw [List.length_append]; exact hown, by simp [h.len1], by simp [h.len2], ?_, ?_, ?_⟩
  · have h1 := hf.below (B := W0.heap.size) hsz (fun k hk c => by
      rcases hne c with c | c
      · rw [c]; exact h.gle
      · exact own_base h.packs k c)
    have h2 := hG.below (B := W0.heap.size) (Nat.le_trans hsz hf.size) (fun k hk c => own_base h.there k c)
    exact (h.below.trans h1).trans h2
  · intro k hk
    rw [List.length_append] at hk
    by_cases e : k < ts.length
    · rw [List.getElem?_append_left (by rw [h.len1]; exact e)]
      exact h.ptr k e
    · have : k = ps.length := by rw [h.len1]; simp at hk; omega
      subst this
      exact .inr ⟨b, by simp⟩
  · intro k b' hk
    rcases getElem?_snoc _ _ _ _ hk with hk' | ⟨rfl, hk'⟩
    · have hkl : k < ts.length := by rw [← h.len1]; exact (List.getElem?_eq_some_iff.1 hk').1
      obtain ⟨v', e1, e2, e3⟩ := h.box k b' hk'
      have hb' : b' < W.heap.size := (Array.getElem?_eq_some_iff.1 e1).1
      have f1 : w1.heap[b']? = some (.cells #[v'] 23 (0, 0)) := hf.at e1 (fun c => by
        rcases hne c with c | c
        · have := h.hub; unfold IsHub at this; rw [← c, e1] at this; injection this with this; injection this with _ ht; exact absurd ht (by decide)
        · exact row_ne h.packs e1 (by decide) c)
      have f2 : Ow w1 W0.heap.size v' (ts.getD k []) := hf.row e2 (fun q e c => by
        rcases hne c with c | c
        · exact row_ne e2 h.hub (by decide) (c ▸ e)
        · exact rows_ne h.packs e2 (by decide) q e c)
      refine ⟨v', hG.at f1 e3, ?_, ?_⟩
      · rw [getD_snoc _ _ _ hkl]; exact hG.row f2 (fun q e c => rows_ne hT1 f2 (by decide) q e c)
      · rcases hat2 with c | c
        · rw [c]; exact e3
        · rw [c]; intro e; injection e with e; have := hf.size; omega
    · injection hk' with hk'
      injection hk' with hk'
      injection hk' with hk'
      subst hk'
      have e3 : vt.ownBlock ≠ some b' := fun e => by have := hlt b' e; omega
      refine ⟨v, hG.at hbox e3, ?_, ?_⟩
      · have : (ts ++ [x]).getD ps.length [] = x := by rw [h.len1]; simp [List.getD_eq_getElem?_getD]
        rw [this]
        have f2 : Ow w1 W0.heap.size v x := own_base_le ho hsz
        exact hG.row f2 (fun q e c => rows_ne hT1 f2 (by decide) q e c)
      · rcases hat2 with c | c
        · rw [c]; exact e3
        · rw [c]; intro e; injection e with e; omega
  · intro k hk
    rw [List.length_append] at hk
    by_cases e : k < ts.length
    · obtain ⟨A, n, c, k1, k2⟩ := h.args k e
      exact ⟨A, n, c, by rw [List.getElem?_append_left (by rw [h.len2]; exact e)]; exact k1, by rw [getD_snoc _ _ _ e]; exact k2⟩
    · have : k = us.length := by rw [h.len2]; simp at hk; omega
      subst this
      obtain ⟨A, n, c, k1, k2⟩ := hu
      refine ⟨A, n, c, by simp [k1], ?_⟩
      have : (ts ++ [x]).getD us.length [] = x := by rw [h.len2]; simp [List.getD_eq_getElem?_getD]
      rw [this]; exact k2
/-- a package is fetched -/
theorem PK.fetched {W0 W w1 : World} {g k : Nat} {vg vp vt : Value} {ps us : List Value} {ts : List (List Int)} (h : PK W0 W g vg vp vt ps us ts) (hh : IsHub w1 g vg 0 (.slice none 0 0) vp)
    (hp : w1.ownsRow W0.heap.size 64 1 vp (ps.set k (.pointer none)).length (ps.set k (.pointer none))) (hf : BF (HS g (.slice none 0 0) vp) W w1) : PK W0 w1 g vg vp vt (ps.set k (.pointer none)) us ts := by
  have hne : ∀ {k}, HS g (.slice none 0 0) vp k → k = g ∨ vp.ownBlock = some k := fun h => hs_pk (W := W) h
  have hsz := h.below.size
  refine ⟨?_, hh, h.gle, hp, ?_, by rw [List.length_set]; exact h.len1, h.len2, ?_, ?_, h.args⟩
  · exact h.below.trans (hf.below (B := W0.heap.size) hsz (fun k hk c => by
      rcases hne c with c | c
      · rw [c]; exact h.gle
      · exact own_base h.packs k c))
  · exact hf.row h.there (fun k e c => by
      rcases hne c with c | c
      · exact row_ne h.there h.hub (by decide) (c ▸ e)
      · exact rows_ne h.packs h.there (by decide) k e c)
  · intro j hj
    by_cases e : k = j
    · subst e; exact .inl (by rw [List.getElem?_set]; simp; rw [h.len1]; exact hj)
    · rw [List.getElem?_set_ne e]; exact h.ptr j hj
  · intro j b hj
    by_cases e : k = j
    · subst e
      rw [List.getElem?_set] at hj
      simp at hj
    · rw [List.getElem?_set_ne e] at hj
      obtain ⟨v', e1, e2, e3⟩ := h.box j b hj
      refine ⟨v', hf.at e1 (fun c => ?_), hf.row e2 (fun q e c => ?_), e3⟩
      · rcases hne c with c | c
        · have := h.hub; unfold IsHub at this; rw [← c, e1] at this; injection this with this; injection this with _ ht; exact absurd ht (by decide)
        · exact row_ne h.packs e1 (by decide) c
      · rcases hne c with c | c
        · exact row_ne e2 h.hub (by decide) (c ▸ e)
        · exact rows_ne h.packs e2 (by decide) q e c
/-- nothing of it is turned -/
theorem PK.keep {W0 W w1 : World} {g : Nat} {vg vp vt : Value} {ps us : List Value} {ts : List (List Int)} {S : Nat → Prop} (h : PK W0 W g vg vp vt ps us ts) (hf : BF S W w1)
    (hs : ∀ b, b < W.heap.size → S b → W0.heap.size ≤ b ∧ ∃ cs, W.heap[b]? = some (.cells cs 4 (0, 0))) : PK W0 w1 g vg vp vt ps us ts := by
  have hb : ∀ {b cs t}, W.heap[b]? = some (.cells cs t (0, 0)) → t ≠ 4 → ¬ S b := fun {b cs t} e ht c => by
    obtain ⟨_, cs', e'⟩ := hs b (Array.getElem?_eq_some_iff.1 e).1 c
    rw [e] at e'; injection e' with e'; injection e' with _ e'; exact ht e'
  have hr : ∀ {B n : Nat} {e : TypeId} {v : Value} {xs : List Value}, W.ownsRow B e 1 v n xs → e ≠ 4 → ∀ b, v.ownBlock = some b → ¬ S b := fun {B n e v xs} ho he b hk c => by
    rcases ho.2 with ⟨rfl, _⟩ | ⟨q, cap, cur, rfl, _, hh, _⟩
    · simp [Value.ownBlock] at hk
    · have : q = b := by simpa [Value.ownBlock] using hk
      subst this
      exact hb hh he c
  refine ⟨h.below.trans (hf.below (B := W0.heap.size) h.below.size (fun b hb c => (hs b hb c).1)), hf.at h.hub (hb h.hub (by decide)), h.gle, hf.row h.packs (hr h.packs (by decide)), hf.row h.there (hr h.there (by decide)), h.len1, h.len2, h.ptr, ?_, h.args⟩
  intro k b hk
  obtain ⟨v, e1, e2, e3⟩ := h.box k b hk
  exact ⟨v, hf.at e1 (hb e1 (by decide)), hf.row e2 (hr e2 (by decide)), e3⟩
end Go.Proofs.YtcfbmglhikjahaaDoor
