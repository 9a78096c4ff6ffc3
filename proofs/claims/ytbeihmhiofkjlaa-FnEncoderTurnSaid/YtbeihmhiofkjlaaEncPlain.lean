/-
  Full turns of the signals, as plain facts on lists.
-/
import Derived.Test.YtbeihmhiofkjlaaCountLaw
namespace Go.Proofs.Ytbeihmhiofkjlaa
open Go Go.RowKit
/-- The sequence of the signals. -/
def ord4 (i : Nat) : Int := if i % 4 = 0 then 0 else if i % 4 = 1 then 1 else if i % 4 = 2 then 3 else 2
theorem ord4_bd (i : Nat) : 0 ≤ ord4 i ∧ ord4 i ≤ 3 := by unfold ord4; split <;> (try split) <;> (try split) <;> omega
theorem ord4_mod (i : Nat) : ord4 (i % 4) = ord4 i := by unfold ord4; rw [Nat.mod_mod]
theorem turn_up (i : Nat) : turn (ord4 i) (ord4 (i + 1)) = 1 := by
  have h : i % 4 = 0 ∨ i % 4 = 1 ∨ i % 4 = 2 ∨ i % 4 = 3 := by omega
  have e : (i + 1) % 4 = (i % 4 + 1) % 4 := by omega
  unfold ord4
  rw [e]
  rcases h with h | h | h | h <;> rw [h] <;> decide
theorem turn_down (i : Nat) : turn (ord4 i) (ord4 (i + 3)) = 3 := by
  have h : i % 4 = 0 ∨ i % 4 = 1 ∨ i % 4 = 2 ∨ i % 4 = 3 := by omega
  have e : (i + 3) % 4 = (i % 4 + 3) % 4 := by omega
  unfold ord4
  rw [e]
  rcases h with h | h | h | h <;> rw [h] <;> decide
def ups (a d n : Nat) : List Int := (List.range n).map (fun j => ord4 (a + d * (j + 1)))
theorem ups_len (a d n : Nat) : (ups a d n).length = n := by simp [ups]
theorem ups_succ (a d n : Nat) : ups a d (n + 1) = ups a d n ++ [ord4 (a + d * (n + 1))] := by simp [ups, List.range_succ]
theorem ups_sigs (a d n : Nat) : sigs (ups a d n) := by
  intro x hx
  obtain ⟨j, _, rfl⟩ := List.mem_map.1 hx
  exact ord4_bd _
theorem ups_fold_up (a : Nat) : ∀ n, (ups a 1 n).foldl encStep (ord4 a, 0, 0) = (ord4 (a + n), (n : Int), 0)
  | 0 => rfl
  | n + 1 => by
    rw [ups_succ, List.foldl_append, ups_fold_up a n, List.foldl_cons, List.foldl_nil, encStep_1, show a + 1 * (n + 1) = a + n + 1 by omega, turn_up]
    simp [Nat.add_assoc]
theorem ups_fold_down (a : Nat) : ∀ n, (ups a 3 n).foldl encStep (ord4 a, 0, 0) = (ord4 (a + 3 * n), -(n : Int), 0)
  | 0 => rfl
  | n + 1 => by
    rw [ups_succ, List.foldl_append, ups_fold_down a n, List.foldl_cons, List.foldl_nil, encStep_1, show a + 3 * (n + 1) = a + 3 * n + 3 by omega, turn_down]
    simp
    omega
theorem enc_up (a n : Nat) (h : n ≤ 200) : encC (ord4 a) (ups a 1 n) = ((n : Int), 0) := by
  rw [enc_yes (by rw [ups_len]; exact h) (ord4_bd a) (ups_sigs _ _ _), ups_fold_up]
theorem enc_down (a n : Nat) (h : n ≤ 200) : encC (ord4 a) (ups a 3 n) = (-(n : Int), 0) := by
  rw [enc_yes (by rw [ups_len]; exact h) (ord4_bd a) (ups_sigs _ _ _), ups_fold_down]
end Go.Proofs.Ytbeihmhiofkjlaa
