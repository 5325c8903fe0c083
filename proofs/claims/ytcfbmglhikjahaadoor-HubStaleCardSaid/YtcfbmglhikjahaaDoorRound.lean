/- what was put is got back: the plain law. -/
import Derived.Test.YtcfbmglhikjahaaDoorGetO
import Derived.Test.YtcfbmglhikjahaaDoorPutM
set_option linter.unusedVariables false
set_option linter.unusedSimpArgs false
namespace Go.Proofs.YtcfbmglhikjahaaDoor
open Go.RowKit Go.Proofs.YtcfbmglhikjahaaDoorW.PrintWords

theorem getD_mid (p x q : List Int) (h : 0 < x.length) : (p ++ x ++ q).getD p.length 0 = x.getD 0 0 := by
  rw [List.getD_eq_getElem?_getD, List.getD_eq_getElem?_getD, List.append_assoc, List.getElem?_append_right (Nat.le_refl _), Nat.sub_self, List.getElem?_append_left h]
theorem take_mid (p x q : List Int) : ((p ++ x ++ q).drop p.length).take x.length = x := by
  rw [List.append_assoc, List.drop_left, List.take_left]
theorem lenB_head (n : Int) (h0 : 0 ≤ n) (h1 : n ≤ 1048576) :
    clS ((lenB n).getD 0 0) = lenN n ∧ (lenB n).getD 0 0 < 192 ∧ beV (lenB n) % clM ((lenB n).getD 0 0) = n ∧ clL ((lenB n).getD 0 0) ≤ n := by
  unfold lenB lenN
  by_cases c1 : n < 64
  · simp only [if_pos c1]
    have e : (beB 1 n).getD 0 0 = n := by simp [beB]; omega
    rw [e, beV_beB 1 n h0 (by omega)]
    unfold clS clM clL
    simp only [if_pos c1]
    refine ⟨trivial, by omega, by omega, by omega⟩
  · simp only [if_neg c1]
    by_cases c2 : n < 16384
    · simp only [if_pos c2]
      have e : (beB 2 (n + 16384)).getD 0 0 = (n + 16384) / 256 := by simp [beB]; omega
      have d1 : ¬ (n + 16384) / 256 < 64 := by omega
      have d2 : (n + 16384) / 256 < 128 := by omega
      rw [e, beV_beB 2 _ (by omega) (by omega)]
      unfold clS clM clL
      simp only [if_neg d1, if_pos d2]
      refine ⟨trivial, by omega, by omega, by omega⟩
    · simp only [if_neg c2]
      have e : (beB 4 (n + 2147483648)).getD 0 0 = 128 := by simp [beB]; omega
      rw [e, beV_beB 4 _ (by omega) (by omega)]
      unfold clS clM clL
      refine ⟨rfl, by omega, ?_, ?_⟩
      · rw [if_neg (by omega), if_neg (by omega)]; omega
      · rw [if_neg (by omega), if_neg (by omega)]; omega
theorem spanR_at (p x q : List Int) (hx : x.length ≤ 1048576) : spanR (p ++ TB x ++ q) p.length = ((p.length : Int) + lenN x.length, (p.length : Int) + lenN x.length + x.length, 0) := by
  obtain ⟨h1, h2, h3, h4⟩ := lenB_head x.length (by omega) (by omega)
  have hN : 0 < lenN (x.length : Int) := by unfold lenN; split <;> (try split) <;> omega
  have hL : (lenB (x.length : Int)).length = lenN x.length := lenB_length _
  have e0 : p ++ TB x ++ q = p ++ lenB x.length ++ (x ++ q) := by unfold TB; simp [List.append_assoc]
  have eg : (p ++ TB x ++ q).getD p.length 0 = (lenB (x.length : Int)).getD 0 0 := by rw [e0, getD_mid _ _ _ (by omega)]
  have et : ((p ++ TB x ++ q).drop p.length).take (clS ((p ++ TB x ++ q).getD p.length 0)) = lenB (x.length : Int) := by
    rw [eg, h1, ← hL, e0, take_mid]
  have el : (p ++ TB x ++ q).length = p.length + lenN x.length + x.length + q.length := by rw [e0]; simp only [List.length_append, hL]; omega
  unfold spanR
  rw [et, eg, h1, h3, el]
  rw [if_neg (by omega), if_neg (by omega), if_neg (by omega), if_neg (by omega), if_neg (by omega), if_neg (by omega)]
theorem TB_length (x : List Int) : (TB x).length = lenN x.length + x.length := by unfold TB; rw [List.length_append, lenB_length]
theorem textR_at (p x q : List Int) (hx : x.length ≤ 1048576) : textR (p ++ TB x ++ q) p.length = (x, (p.length : Int) + (TB x).length, 0) := by
  unfold textR
  rw [spanR_at p x q hx, if_pos rfl]
  have e0 : p ++ TB x ++ q = (p ++ lenB x.length) ++ x ++ q := by unfold TB; simp [List.append_assoc]
  have e1 : ((p.length : Int) + lenN x.length).toNat = (p ++ lenB x.length).length := by rw [List.length_append, lenB_length]; omega
  have e2 : ((p.length : Int) + lenN x.length + x.length).toNat - (p ++ lenB (x.length : Int)).length = x.length := by rw [List.length_append, lenB_length]; omega
  simp only
  rw [e1, e2, e0, take_mid, TB_length]
  simp; omega
theorem numR_at (p q : List Int) (s : Nat) (v : Int) (h0 : 0 ≤ v) (h1 : v < 256 ^ s) (h2 : v < 9223372036854775808) : numR (p ++ beB s v ++ q) p.length s = (v, (p.length : Int) + s, 0) := by
  have et : ((p ++ beB s v ++ q).drop p.length).take s = beB s v := by
    have := take_mid p (beB s v) q
    rwa [beB_length] at this
  have el : (p ++ beB s v ++ q).length = p.length + s + q.length := by simp only [List.length_append, beB_length]
  have ea : accV (beB s v) = v := by rw [accV_eq _ (beB_bytes _ _), beV_beB _ _ h0 h1]; unfold wrap64; omega
  unfold numR
  rw [et, el, ea, if_neg (by omega), if_neg (by omega)]
theorem TBs_split (f : Nat → List Int) (m k : Nat) (h : k ≤ m) : ∃ r, TBs f m = TBs f k ++ r := by
  induction m with
  | zero => have : k = 0 := by omega
            subst this; exact ⟨[], by simp⟩
  | succ m ih =>
    by_cases e : k = m + 1
    · subst e; exact ⟨[], by simp⟩
    · obtain ⟨r, hr⟩ := ih (by omega)
      exact ⟨r ++ TB (f m), by simp only [TBs]; rw [hr, List.append_assoc]⟩
theorem rst_at (p q : List Int) (f : Nat → List Int) (m : Nat) (hf : ∀ i, i < m → (f i).length ≤ 1048576) :
    ∀ k, k ≤ m → rst (p ++ TBs f m ++ q) p.length 0 k = ((p.length : Int) + (TBs f k).length, 0) ∧ (k < m → rval (p ++ TBs f m ++ q) p.length 0 k = f k) := by
  have tx : ∀ k, k < m → textR (p ++ TBs f m ++ q) ((p.length : Int) + (TBs f k).length).toNat = (f k, (p.length : Int) + (TBs f k).length + (TB (f k)).length, 0) := by
    intro k hk
    obtain ⟨r, hr⟩ := TBs_split f m (k + 1) (by omega)
    have e : p ++ TBs f m ++ q = (p ++ TBs f k) ++ TB (f k) ++ (r ++ q) := by rw [hr]; simp [TBs, List.append_assoc]
    have e1 : ((p.length : Int) + (TBs f k).length).toNat = (p ++ TBs f k).length := by rw [List.length_append]; omega
    rw [e, e1, textR_at _ _ _ (hf k hk), List.length_append]
    simp
  intro k
  induction k with
  | zero =>
    intro _
    refine ⟨by simp [rst, TBs], fun hk => ?_⟩
    have := tx 0 hk
    simp only [TBs, List.length_nil] at this
    unfold rval
    simp only [rst, if_true]
    simp only [Int.natCast_zero, Int.add_zero] at this
    rw [this]
  | succ k ih =>
    intro hk
    obtain ⟨h1, _⟩ := ih (by omega)
    have h2 : rst (p ++ TBs f m ++ q) p.length 0 (k + 1) = ((p.length : Int) + (TBs f (k + 1)).length, 0) := by
      simp only [rst]
      rw [h1, if_pos rfl]
      simp only
      rw [tx k (by omega)]
      simp only [TBs, List.length_append]
      simp; omega
    refine ⟨h2, fun hk => ?_⟩
    unfold rval
    rw [h2, if_pos rfl]
    simp only
    rw [tx _ hk]

section message
variable (l : List Int) (ep fr kd : Int) (b s k t : List Int)
/-- what was put is got back -/
theorem content_get (hok : contentOk l.length ep fr kd b.length = true) :
    rval (contentB l ep fr kd b) 0 0 0 = l ∧ (rplE (contentB l ep fr kd b) 0 0).1 = ep ∧ (rplF (contentB l ep fr kd b) 0 0).1 = fr ∧ (gK (contentB l ep fr kd b)).1 = kd ∧ gBody (contentB l ep fr kd b) = b ∧ gE1 (contentB l ep fr kd b) = 0 := by
  obtain ⟨⟨n0, n1, e0, e1, f0, f1⟩, k0, k1, m1⟩ := contentOk_iff.1 hok
  have hL1 : l.length ≤ 1048576 := by omega
  have hL2 : b.length ≤ 1048576 := by omega
  have a0 := rst_at [] (beB 8 ep ++ beB 4 fr ++ beB 1 kd ++ TB b) (fun _ => l) 1 (fun _ _ => hL1)
  have ex0 : [] ++ TBs (fun _ => l) 1 ++ (beB 8 ep ++ beB 4 fr ++ beB 1 kd ++ TB b) = contentB l ep fr kd b := by simp [TBs, contentB, placeB, List.append_assoc]
  rw [ex0] at a0
  simp only [List.length_nil] at a0
  have r0 : rval (contentB l ep fr kd b) 0 0 0 = l := (a0 0 (by omega)).2 (by omega)
  have s0 : rst (contentB l ep fr kd b) 0 0 1 = (((TB l).length : Int), 0) := by
    have := (a0 1 (by omega)).1
    simpa [TBs] using this
  have pE : rplE (contentB l ep fr kd b) 0 0 = (ep, ((TB l).length : Int) + 8, 0) := by
    unfold rplE rnum
    rw [s0, if_pos rfl]
    have := numR_at (TB l) (beB 4 fr ++ beB 1 kd ++ TB b) 8 ep e0 (by omega) (by omega)
    have ex : TB l ++ beB 8 ep ++ (beB 4 fr ++ beB 1 kd ++ TB b) = contentB l ep fr kd b := by simp [contentB, placeB, List.append_assoc]
    rw [ex] at this
    simpa using this
  have pF : rplF (contentB l ep fr kd b) 0 0 = (fr, ((TB l).length : Int) + 12, 0) := by
    unfold rplF rnum
    rw [pE, if_pos rfl]
    have := numR_at (TB l ++ beB 8 ep) (beB 1 kd ++ TB b) 4 fr f0 (by omega) (by omega)
    have ex : TB l ++ beB 8 ep ++ beB 4 fr ++ (beB 1 kd ++ TB b) = contentB l ep fr kd b := by simp [contentB, placeB, List.append_assoc]
    rw [ex] at this
    have e : (((TB l).length : Int) + 8).toNat = (TB l ++ beB 8 ep).length := by rw [List.length_append, beB_length]; omega
    simp only
    rw [e, this, List.length_append, beB_length]
    simp; omega
  have pK : gK (contentB l ep fr kd b) = (kd, ((TB l).length : Int) + 13, 0) := by
    unfold gK rnum
    rw [pF, if_pos rfl]
    have := numR_at (TB l ++ beB 8 ep ++ beB 4 fr) (TB b) 1 kd (by omega) (by omega) (by omega)
    have ex : TB l ++ beB 8 ep ++ beB 4 fr ++ beB 1 kd ++ TB b = contentB l ep fr kd b := by simp [contentB, placeB, List.append_assoc]
    rw [ex] at this
    have e : (((TB l).length : Int) + 12).toNat = (TB l ++ beB 8 ep ++ beB 4 fr).length := by simp only [List.length_append, beB_length]; omega
    simp only
    rw [e, this]
    simp only [List.length_append, beB_length]
    simp; omega
  have a1 := rst_at (TB l ++ beB 8 ep ++ beB 4 fr ++ beB 1 kd) [] (fun _ => b) 1 (fun _ _ => hL2)
  have ex1 : (TB l ++ beB 8 ep ++ beB 4 fr ++ beB 1 kd) ++ TBs (fun _ => b) 1 ++ [] = contentB l ep fr kd b := by simp [TBs, contentB, placeB, List.append_assoc]
  have el1 : (((TB l ++ beB 8 ep ++ beB 4 fr ++ beB 1 kd).length : Nat) : Int) = ((TB l).length : Int) + 13 := by simp only [List.length_append, beB_length]; omega
  rw [ex1, el1] at a1
  have pB : gBody (contentB l ep fr kd b) = b := by
    unfold gBody; rw [pK]; exact (a1 0 (by omega)).2 (by omega)
  have hlen : ((contentB l ep fr kd b).length : Int) = ((TB l).length : Int) + 13 + (TB b).length := by simp only [contentB, placeB, List.length_append, beB_length]; omega
  have pG : gB (contentB l ep fr kd b) = (((contentB l ep fr kd b).length : Int), 0) := by
    unfold gB; rw [pK, hlen]
    have := (a1 1 (by omega)).1
    simpa [TBs] using this
  refine ⟨r0, by rw [pE], by rw [pF], by rw [pK], pB, ?_⟩
  unfold gE1 endR
  rw [pG]
  simp
theorem get_of (L C s k t : List Int) (f : Nat → List Int) (h0 : f 0 = C) (h1 : f 1 = s) (h2 : f 2 = k) (h3 : f 3 = t) (hL : TBs f 4 = L) (hf : ∀ i, i < 4 → (f i).length ≤ 1048576) :
    gIn L = C ∧ rval L 0 0 1 = s ∧ rval L 0 0 2 = k ∧ rval L 0 0 3 = t ∧ gR L = ((L.length : Int), 0) := by
  have a := rst_at [] [] f 4 hf
  rw [List.nil_append, List.append_nil, hL] at a
  simp only [List.length_nil, Int.natCast_zero, Int.zero_add] at a
  refine ⟨?_, ?_, ?_, ?_, ?_⟩
  · unfold gIn; rw [(a 0 (by omega)).2 (by omega), h0]
  · rw [(a 1 (by omega)).2 (by omega), h1]
  · rw [(a 2 (by omega)).2 (by omega), h2]
  · rw [(a 3 (by omega)).2 (by omega), h3]
  · unfold gR; rw [(a 4 (by omega)).1, hL]
def four (C s k t : List Int) (i : Nat) : List Int := match i with | 0 => C | 1 => s | 2 => k | _ => t
theorem message_get (hok : messageOk l.length ep fr kd b.length s.length k.length t.length = true) :
    gIn (messageB l ep fr kd b s k t) = contentB l ep fr kd b ∧ rval (messageB l ep fr kd b s k t) 0 0 1 = s ∧ rval (messageB l ep fr kd b s k t) 0 0 2 = k ∧ rval (messageB l ep fr kd b s k t) 0 0 3 = t ∧ getE (messageB l ep fr kd b s k t) = 0 := by
  have hm := messageOk_iff.1 hok
  have hc := hm.1
  have hs : s.length ≤ 1048576 := by rw [hm.2.1]; decide
  have hk : k.length ≤ 1048576 := by rcases hm.2.2.1 with h | h <;> rw [h] <;> decide
  have ht : t.length ≤ 1048576 := by rcases hm.2.2.2 with h | h <;> rw [h] <;> decide
  have hcl : (contentB l ep fr kd b).length ≤ 1048576 := by
    obtain ⟨⟨_, n1, _⟩, _, _, m1⟩ := contentOk_iff.1 hc
    exact Nat.le_trans (contentB_length l ep fr kd b n1 m1) (by decide)
  obtain ⟨hI, h1, h2, h3, hR⟩ := get_of (messageB l ep fr kd b s k t) (contentB l ep fr kd b) s k t (four (contentB l ep fr kd b) s k t) rfl rfl rfl rfl (by simp only [TBs, four, messageB, List.nil_append])
    (fun i hi => by
      match i, hi with
      | 0, _ => exact hcl
      | 1, _ => exact hs
      | 2, _ => exact hk
      | 3, _ => exact ht)
  obtain ⟨c0, c1, c2, c3, c4, c5⟩ := content_get l ep fr kd b hc
  refine ⟨hI, h1, h2, h3, ?_⟩
  unfold getE gOk
  rw [hI, h1, h2, h3, hR, c0, c1, c2, c3, c4, c5, hok]
  unfold endR
  simp
end message
end Go.Proofs.YtcfbmglhikjahaaDoor
