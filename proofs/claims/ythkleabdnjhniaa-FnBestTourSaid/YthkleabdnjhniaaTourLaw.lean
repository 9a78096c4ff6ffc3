/-
  Lengths of tours: reversed ones, the way from end to end; plain facts.
-/
import Derived.Test.YthkleabdnjhniaaNearLaw
namespace Go.Proofs.Ythkleabdnjhniaa
open Go Go.RowKit
theorem stp_symm (p q : Pt) : stp p q = stp q p := by unfold stp; omega
theorem stp_tri (p q r : Pt) : stp p r ≤ stp p q + stp q r := by unfold stp; omega
theorem stp_self (p : Pt) : stp p p = 0 := by unfold stp; omega
/-- The k-th stop of a tour. -/
def nth (xs : List Pt) (os : List Int) (k : Nat) : Pt := ptOf xs (os.getD k 0)
theorem lenTo_succ (xs : List Pt) (os : List Int) (k : Nat) : lenTo xs os (k + 1) = lenTo xs os k + stp (nth xs os k) (nth xs os (k + 1)) := rfl
theorem lenTo_congr {xs : List Pt} {os us : List Int} : ∀ k, (∀ j, j ≤ k → os.getD j 0 = us.getD j 0) → lenTo xs os k = lenTo xs us k
  | 0, _ => rfl
  | k + 1, h => by
    rw [lenTo_succ, lenTo_succ, lenTo_congr k (fun j hj => h j (by omega))]
    unfold nth
    rw [h k (by omega), h (k + 1) (Nat.le_refl _)]
theorem lenTo_ge (xs : List Pt) (os : List Int) : ∀ k, stp (nth xs os 0) (nth xs os k) ≤ lenTo xs os k
  | 0 => by rw [stp_self]; exact Int.le_refl _
  | k + 1 => by
    have h1 := lenTo_ge xs os k
    have h2 := stp_tri (nth xs os 0) (nth xs os k) (nth xs os (k + 1))
    rw [lenTo_succ]
    omega
theorem getD_rev {os : List Int} {k : Nat} (hk : k < os.length) : os.reverse.getD k 0 = os.getD (os.length - 1 - k) 0 := by
  rw [List.getD_eq_getElem?_getD, List.getD_eq_getElem?_getD, List.getElem?_reverse hk]
theorem lenTo_rev (xs : List Pt) (os : List Int) : ∀ k, k < os.length → lenTo xs os.reverse k + lenTo xs os (os.length - 1 - k) = lenTo xs os (os.length - 1)
  | 0, _ => by simp [lenTo]
  | k + 1, hk => by
    have ih := lenTo_rev xs os k (by omega)
    obtain ⟨j, hj⟩ : ∃ j, os.length - 1 - k = j + 1 := ⟨os.length - 2 - k, by omega⟩
    have hj2 : os.length - 1 - (k + 1) = j := by omega
    rw [hj, lenTo_succ] at ih
    rw [hj2, lenTo_succ]
    have e1 : nth xs os.reverse k = nth xs os (j + 1) := by unfold nth; rw [getD_rev (by omega), hj]
    have e2 : nth xs os.reverse (k + 1) = nth xs os j := by unfold nth; rw [getD_rev (by omega), hj2]
    rw [e1, e2, stp_symm]
    omega
theorem tourL_rev (xs : List Pt) (os : List Int) : tourL xs os.reverse = tourL xs os := by
  unfold tourL
  rw [List.length_reverse]
  cases h : os.length with
  | zero => rfl
  | succ n =>
    have := lenTo_rev xs os (os.length - 1) (by omega)
    rw [Nat.sub_self] at this
    rw [h] at this
    simp only [lenTo] at this
    simpa using this
theorem ordOk_rev {n : Nat} {os : List Int} (h : ordOk n os) : ordOk n os.reverse := ⟨by rw [List.length_reverse]; exact h.1, fun i hi => List.mem_reverse.2 (h.2 i hi)⟩
theorem fits_mk {xs : List Pt} {os : List Int} (h : stopsB xs = true) (ho : ordOk xs.length os) : fitsB xs os = true := by
  unfold fitsB
  rw [Bool.and_eq_true]
  exact ⟨h, ordB_t.2 ho⟩
theorem tourLen_rev {xs : List Pt} {os : List Int} (h : fitsB xs os = true) : tourLen xs os.reverse = tourLen xs os := by
  obtain ⟨h1, h2⟩ := fits_of h
  rw [tourLen_yes h, tourLen_yes (fits_mk h1 (ordOk_rev h2)), tourL_rev]
theorem tourL_bd {xs : List Pt} {os : List Int} (h : fitsB xs os = true) : 0 ≤ tourL xs os ∧ tourL xs os ≤ 320000 := by
  obtain ⟨h1, h2⟩ := fits_of h
  have := lenTo_bd (stopsB_pts h1) os (os.length - 1)
  have h3 := stopsB_len h1
  have := h2.1
  unfold tourL
  omega
theorem tourL_ends {xs : List Pt} {os : List Int} : stp (nth xs os 0) (nth xs os (os.length - 1)) ≤ tourL xs os := lenTo_ge xs os _
end Go.Proofs.Ythkleabdnjhniaa
