/- a sealed text that was put is got back: the plain law. -/
import Derived.Test.YtcfbmglhikjahaaDoorGetS
import Derived.Test.YtcfbmglhikjahaaDoorRound
set_option linter.unusedVariables false
set_option linter.unusedSimpArgs false
namespace Go.Proofs.YtcfbmglhikjahaaDoor
open Go.RowKit Go.Proofs.YtcfbmglhikjahaaDoorW.PrintWords

theorem sealed_get (l : List Int) (ep fr gn : Int) (b : List Int) (hok : sealedOk l.length ep fr gn b.length = true) :
    getsE (sealedB l ep fr gn b) = 0 ∧ rval (sealedB l ep fr gn b) 0 0 0 = l ∧ (rplE (sealedB l ep fr gn b) 0 0).1 = ep ∧ (rplF (sealedB l ep fr gn b) 0 0).1 = fr ∧ (sN (sealedB l ep fr gn b)).1 = gn ∧ sBody (sealedB l ep fr gn b) = b := by
  obtain ⟨⟨n0, n1, e0, e1, f0, f1⟩, k0, k1, m1⟩ := sealedOk_iff.1 hok
  have hL1 : l.length ≤ 1048576 := by omega
  have hL2 : b.length ≤ 1048576 := by omega
  have a0 := rst_at [] (beB 8 ep ++ beB 4 fr ++ beB 4 gn ++ TB b) (fun _ => l) 1 (fun _ _ => hL1)
  have ex0 : [] ++ TBs (fun _ => l) 1 ++ (beB 8 ep ++ beB 4 fr ++ beB 4 gn ++ TB b) = sealedB l ep fr gn b := by simp [TBs, sealedB, aheadB, placeB, List.append_assoc]
  rw [ex0] at a0
  simp only [List.length_nil] at a0
  have r0 : rval (sealedB l ep fr gn b) 0 0 0 = l := (a0 0 (by omega)).2 (by omega)
  have s0 : rst (sealedB l ep fr gn b) 0 0 1 = (((TB l).length : Int), 0) := by
    have := (a0 1 (by omega)).1
    simpa [TBs] using this
  have pE : rplE (sealedB l ep fr gn b) 0 0 = (ep, ((TB l).length : Int) + 8, 0) := by
    unfold rplE rnum
    rw [s0, if_pos rfl]
    have := numR_at (TB l) (beB 4 fr ++ beB 4 gn ++ TB b) 8 ep e0 (by omega) (by omega)
    have ex : TB l ++ beB 8 ep ++ (beB 4 fr ++ beB 4 gn ++ TB b) = sealedB l ep fr gn b := by simp [sealedB, aheadB, placeB, List.append_assoc]
    rw [ex] at this
    simpa using this
  have pF : rplF (sealedB l ep fr gn b) 0 0 = (fr, ((TB l).length : Int) + 12, 0) := by
    unfold rplF rnum
    rw [pE, if_pos rfl]
    have := numR_at (TB l ++ beB 8 ep) (beB 4 gn ++ TB b) 4 fr f0 (by omega) (by omega)
    have ex : TB l ++ beB 8 ep ++ beB 4 fr ++ (beB 4 gn ++ TB b) = sealedB l ep fr gn b := by simp [sealedB, aheadB, placeB, List.append_assoc]
    rw [ex] at this
    have e : (((TB l).length : Int) + 8).toNat = (TB l ++ beB 8 ep).length := by rw [List.length_append, beB_length]; omega
    simp only
    rw [e, this, List.length_append, beB_length]
    simp; omega
  have pK : sN (sealedB l ep fr gn b) = (gn, ((TB l).length : Int) + 16, 0) := by
    unfold sN rnum
    rw [pF, if_pos rfl]
    have := numR_at (TB l ++ beB 8 ep ++ beB 4 fr) (TB b) 4 gn (by omega) (by omega) (by omega)
    have ex : TB l ++ beB 8 ep ++ beB 4 fr ++ beB 4 gn ++ TB b = sealedB l ep fr gn b := by simp [sealedB, aheadB, placeB, List.append_assoc]
    rw [ex] at this
    have e : (((TB l).length : Int) + 12).toNat = (TB l ++ beB 8 ep ++ beB 4 fr).length := by simp only [List.length_append, beB_length]; omega
    simp only
    rw [e, this]
    simp only [List.length_append, beB_length]
    simp; omega
  have a1 := rst_at (TB l ++ beB 8 ep ++ beB 4 fr ++ beB 4 gn) [] (fun _ => b) 1 (fun _ _ => hL2)
  have ex1 : (TB l ++ beB 8 ep ++ beB 4 fr ++ beB 4 gn) ++ TBs (fun _ => b) 1 ++ [] = sealedB l ep fr gn b := by simp [TBs, sealedB, aheadB, placeB, List.append_assoc]
  have el1 : (((TB l ++ beB 8 ep ++ beB 4 fr ++ beB 4 gn).length : Nat) : Int) = ((TB l).length : Int) + 16 := by simp only [List.length_append, beB_length]; omega
  rw [ex1, el1] at a1
  have pB : sBody (sealedB l ep fr gn b) = b := by
    unfold sBody; rw [pK]; exact (a1 0 (by omega)).2 (by omega)
  have hlen : ((sealedB l ep fr gn b).length : Int) = ((TB l).length : Int) + 16 + (TB b).length := by simp only [sealedB, aheadB, placeB, List.length_append, beB_length]; omega
  have pG : sT (sealedB l ep fr gn b) = (((sealedB l ep fr gn b).length : Int), 0) := by
    unfold sT; rw [pK, hlen]
    have := (a1 1 (by omega)).1
    simpa [TBs] using this
  refine ⟨?_, r0, by rw [pE], by rw [pF], by rw [pK], pB⟩
  unfold getsE sOk endR
  rw [pG, r0, pE, pF, pK, pB, hok]
  simp
end Go.Proofs.YtcfbmglhikjahaaDoor
