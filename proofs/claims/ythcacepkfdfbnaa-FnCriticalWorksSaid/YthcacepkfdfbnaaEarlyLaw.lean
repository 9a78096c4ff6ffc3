/-
  Earliest starts, as plain lists of numbers.
-/
import Derived.Test.YthcacepkfdfbnaaWorks
namespace Go.Proofs.Ythcacepkfdfbnaa
open Go Go.RowKit
def tm (ys : List Wk) (i : Nat) : Int := (ys[i]?.map Wk.Time).getD 0
theorem tm_at {ys : List Wk} {i : Nat} {t : Int} {y : List Int} (h : ys[i]? = some ⟨t, y⟩) : tm ys i = t := by simp [tm, h]
def startOf (ys : List Wk) (out : List Int) (As : List Int) : Int := As.foldl (fun m a => max m (out.getD a.toNat 0 + tm ys a.toNat)) 0
theorem startOf_snoc (ys : List Wk) (out As : List Int) (a : Int) : startOf ys out (As ++ [a]) = max (startOf ys out As) (out.getD a.toNat 0 + tm ys a.toNat) := by simp [startOf]
theorem startOf_take (ys : List Wk) (out As : List Int) (j : Nat) (a : Int) (h : As[j]? = some a) : startOf ys out (As.take (j + 1)) = max (startOf ys out (As.take j)) (out.getD a.toNat 0 + tm ys a.toNat) := by
  obtain ⟨hj, rfl⟩ := List.getElem?_eq_some_iff.1 h
  rw [List.take_succ_eq_append_getElem hj, startOf_snoc]
def afterOf (ys : List Wk) (k : Nat) : List Int := (ys[k]?.map Wk.After).getD []
theorem afterOf_at {ys : List Wk} {i : Nat} {t : Int} {y : List Int} (h : ys[i]? = some ⟨t, y⟩) : afterOf ys i = y := by simp [afterOf, h]
def earlyTo (ys : List Wk) : Nat → List Int
  | 0 => []
  | k + 1 => earlyTo ys k ++ [startOf ys (earlyTo ys k) (afterOf ys k)]
theorem earlyTo_len (ys : List Wk) : ∀ k, (earlyTo ys k).length = k
  | 0 => rfl
  | k + 1 => by simp [earlyTo, earlyTo_len ys k]
theorem earlyTo_succ {ys : List Wk} {k : Nat} {t : Int} {y : List Int} (h : ys[k]? = some ⟨t, y⟩) : earlyTo ys (k + 1) = earlyTo ys k ++ [startOf ys (earlyTo ys k) y] := by rw [earlyTo, afterOf_at h]
noncomputable def early (ys : List Wk) : List Int := if worksB ys then earlyTo ys ys.length else []
theorem early_no {ys : List Wk} (h : worksB ys = false) : early ys = [] := by unfold early; rw [h]; rfl
theorem early_yes {ys : List Wk} (h : worksB ys = true) : early ys = earlyTo ys ys.length := by unfold early; rw [h]; rfl
theorem early_len (ys : List Wk) : (early ys).length ≤ 12 := by
  by_cases h : worksB ys = true
  · rw [early_yes h, earlyTo_len]
    exact (worksB_t.1 h).1
  · rw [early_no (by simpa using h)]
    simp
theorem foldl_max_bd (f : Int → Int) (B : Int) : ∀ (As : List Int) (m : Int), 0 ≤ m → m ≤ B → (∀ a ∈ As, f a ≤ B) → 0 ≤ As.foldl (fun m a => max m (f a)) m ∧ As.foldl (fun m a => max m (f a)) m ≤ B
  | [], m, h1, h2, _ => ⟨h1, h2⟩
  | a :: As, m, h1, h2, h3 => by
    refine foldl_max_bd f B As _ ?_ ?_ (fun x hx => h3 x (List.mem_cons_of_mem _ hx))
    · show 0 ≤ max m (f a); omega
    · have := h3 a List.mem_cons_self
      show max m (f a) ≤ B
      omega
theorem wk_at {ys : List Wk} (h : worksOk ys) {k : Nat} {t : Int} {y : List Int} (hy : ys[k]? = some ⟨t, y⟩) : (1 ≤ t ∧ t ≤ 100) ∧ y.length ≤ 12 ∧ ∀ a ∈ y, 0 ≤ a ∧ a ≤ (k : Int) - 1 := h.2 k _ hy
theorem tm_bd {ys : List Wk} (h : worksOk ys) (i : Nat) : 0 ≤ tm ys i ∧ tm ys i ≤ 100 := by
  unfold tm
  cases hy : ys[i]? with
  | none => simp
  | some y =>
    have := (h.2 i y hy).1
    simp
    omega
theorem afterOf_bd {ys : List Wk} (h : worksOk ys) (k : Nat) : ∀ a ∈ afterOf ys k, 0 ≤ a ∧ a ≤ (k : Int) - 1 := by
  unfold afterOf
  cases hy : ys[k]? with
  | none => simp
  | some y => exact (h.2 k y hy).2.2
/-- What each start lies between. -/
theorem earlyTo_bd {ys : List Wk} (h : worksOk ys) : ∀ (k j : Nat), j < k → 0 ≤ (earlyTo ys k).getD j 0 ∧ (earlyTo ys k).getD j 0 ≤ 100 * (j : Int)
  | 0, j, hj => by omega
  | k + 1, j, hj => by
    rw [earlyTo]
    by_cases hjk : j < k
    · have := earlyTo_bd h k j hjk
      rw [List.getD_eq_getElem?_getD, List.getElem?_append_left (by rw [earlyTo_len]; exact hjk), ← List.getD_eq_getElem?_getD]
      exact this
    · obtain rfl : j = k := by omega
      rw [List.getD_eq_getElem?_getD, List.getElem?_append_right (by rw [earlyTo_len]; exact Nat.le_refl _), earlyTo_len, Nat.sub_self]
      simp only [List.getElem?_cons_zero, Option.getD_some]
      refine foldl_max_bd _ _ _ _ (by omega) (by omega) (fun a ha => ?_)
      obtain ⟨h1, h2⟩ := afterOf_bd h j a ha
      have h3 := earlyTo_bd h j a.toNat (by omega)
      have h4 := tm_bd h a.toNat
      omega
/-- A start under way, too. -/
theorem startOf_bd {ys : List Wk} (h : worksOk ys) (k : Nat) (As : List Int) (hA : ∀ a ∈ As, 0 ≤ a ∧ a ≤ (k : Int) - 1) : 0 ≤ startOf ys (earlyTo ys k) As ∧ startOf ys (earlyTo ys k) As ≤ 100 * (k : Int) := by
  refine foldl_max_bd _ _ _ _ (by omega) (by omega) (fun a ha => ?_)
  obtain ⟨h1, h2⟩ := hA a ha
  have h3 := earlyTo_bd h k a.toNat (by omega)
  have h4 := tm_bd h a.toNat
  omega
/-- The starts stay. -/
theorem earlyTo_get (ys : List Wk) (k : Nat) : ∀ n, k ≤ n → ∀ j, j < k → (earlyTo ys n).getD j 0 = (earlyTo ys k).getD j 0
  | n, hn, j, hj => by
    induction n with
    | zero => omega
    | succ n ih =>
      by_cases h : k = n + 1
      · rw [h]
      · rw [earlyTo, List.getD_eq_getElem?_getD, List.getElem?_append_left (by rw [earlyTo_len]; omega), ← List.getD_eq_getElem?_getD]
        exact ih (by omega)
end Go.Proofs.Ythcacepkfdfbnaa
