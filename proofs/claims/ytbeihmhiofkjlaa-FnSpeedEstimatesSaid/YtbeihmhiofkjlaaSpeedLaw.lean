/-
  Plain laws on estimates of speeds: lists and numbers alone.
-/
import Derived.Test.YtbeihmhiofkjlaaSpeed
namespace Go.Proofs.Ytbeihmhiofkjlaa
open Go Go.RowKit
/-- Counts that fall by 3. -/
def fall (n : Nat) : List Int := (List.range n).map fun (j : Nat) => 7 - 3 * (j : Int)
theorem fall_len (n : Nat) : (fall n).length = n := by simp [fall]
theorem fall_succ (n : Nat) : fall (n + 1) = fall n ++ [7 - 3 * (n : Int)] := by simp [fall, List.range_succ]
theorem fall_at (n j : Nat) (hj : j < n) : (fall n).getD j 0 = 7 - 3 * (j : Int) := by simp [fall, hj]
theorem speeds_fall (W : Nat) (h : 1 ≤ W ∧ W ≤ 50) : speeds (fall (W + 4)) (W : Int) = [-3, -3, -3, -3] := by
  rw [speeds_yes (by rw [fall_len]; omega) h (w6_all (fun k hk => by rw [fall_len] at hk; rw [fall_at _ _ hk]; omega)), fall_len, show W + 4 - W = 4 by omega]
  have h3 : ∀ j, j < 4 → speedAt (fall (W + 4)) W j = -3 := by
    intro j hj
    unfold speedAt
    rw [fall_at _ _ (by omega), fall_at _ _ (by omega)]
    have : (7 - 3 * ((j + W : Nat) : Int) - (7 - 3 * (j : Int))) = (-3) * (W : Int) := by omega
    rw [this, Int.mul_ediv_cancel _ (by omega)]
  show [speedAt (fall (W + 4)) W 0, speedAt (fall (W + 4)) W 1, speedAt (fall (W + 4)) W 2, speedAt (fall (W + 4)) W 3] = _
  rw [h3 0 (by omega), h3 1 (by omega), h3 2 (by omega), h3 3 (by omega)]
theorem speeds_len0 (xs : List Int) (W : Nat) : (speeds xs (W : Int)).length = 0 ∨ ((speeds xs (W : Int)).length : Int) = (xs.length : Int) - (W : Int) := by
  unfold speeds
  split
  · rw [speedTo_len]; simp; omega
  · left; rfl
theorem speeds_one (xs : List Int) : speeds xs 1 = [] ∨ (speeds xs 1 = speedTo xs 1 (xs.length - 1) ∧ xs.length ≤ 200 ∧ within6 xs) := by
  by_cases h : xs.length ≤ 200 ∧ within6 xs
  · right; exact ⟨speeds_yes (W := 1) h.1 (by omega) h.2, h⟩
  · left; exact speeds_no (fun h' => h ⟨h'.1, h'.2.2⟩)
theorem speedAt_one (xs : List Int) (j : Nat) : speedAt xs 1 j = xs.getD (j + 1) 0 - xs.getD j 0 := by simp [speedAt]
theorem speedTo_get (xs : List Int) (W n j : Nat) (hj : j < n) : (speedTo xs W n).getD j 0 = speedAt xs W j := by simp [speedTo, hj]
end Go.Proofs.Ytbeihmhiofkjlaa
