/-
  What the laws on work cycles say, as plain facts on lists.
-/
import Derived.Test.YthcacepkfdfbnaaCritical
namespace Go.Proofs.Ythcacepkfdfbnaa
open Go Go.RowKit
theorem worksB_part {ys : List Wk} (h : worksB ys = true) (k : Nat) : worksB (ys.take k) = true := by
  rw [worksB_t] at h ⊢
  refine ⟨by have := h.1; simp; omega, fun j y hy => ?_⟩
  rw [List.getElem?_take] at hy
  split at hy
  · exact h.2 j y hy
  · simp at hy
theorem worksB_self {ys : List Wk} (n : Nat) (hn : n = ys.length) : worksB (ys ++ [⟨1, [(n : Int)]⟩]) = false := by
  subst hn
  rw [worksB_f]
  intro h
  have h3 := (h.2 ys.length ⟨1, [(ys.length : Int)]⟩ (by rw [List.getElem?_append_right (by omega)]; simp)).2.2 (ys.length : Int) (by simp)
  omega
/-- The start of step k among all. -/
def st0 (ys : List Wk) (k : Nat) : Int := (earlyTo ys ys.length).getD k 0
theorem st0_eq {ys : List Wk} {k : Nat} (hk : k < ys.length) : st0 ys k = startOf ys (earlyTo ys k) (afterOf ys k) := by
  unfold st0
  rw [earlyTo_get ys (k + 1) ys.length hk k (by omega), earlyTo, List.getD_eq_getElem?_getD, List.getElem?_append_right (by rw [earlyTo_len]; exact Nat.le_refl _), earlyTo_len]
  simp
theorem foldl_max_ge (f : Int → Int) : ∀ (As : List Int) (m : Int), m ≤ As.foldl (fun m a => max m (f a)) m ∧ ∀ a ∈ As, f a ≤ As.foldl (fun m a => max m (f a)) m
  | [], m => ⟨Int.le_refl _, by simp⟩
  | a :: As, m => by
    obtain ⟨h1, h2⟩ := foldl_max_ge f As (max m (f a))
    refine ⟨?_, fun x hx => ?_⟩
    · show m ≤ List.foldl _ (max m (f a)) As; omega
    · rcases List.mem_cons.1 hx with rfl | hx
      · show f x ≤ List.foldl _ (max m (f x)) As; omega
      · exact h2 x hx
theorem foldl_max_in (f : Int → Int) : ∀ (As : List Int) (m : Int), As.foldl (fun m a => max m (f a)) m = m ∨ ∃ a ∈ As, As.foldl (fun m a => max m (f a)) m = f a
  | [], m => .inl rfl
  | a :: As, m => by
    show List.foldl _ (max m (f a)) As = m ∨ ∃ x ∈ a :: As, List.foldl _ (max m (f a)) As = f x
    rcases foldl_max_in f As (max m (f a)) with h | ⟨x, hx, h⟩
    · by_cases hm : f a ≤ m
      · left; rw [h]; omega
      · right; exact ⟨a, List.mem_cons_self, by rw [h]; omega⟩
    · right; exact ⟨x, List.mem_cons_of_mem _ hx, h⟩
/-- The end of step i: what the others wait for. -/
theorem endOf_eq (ys : List Wk) (i : Nat) : endOf ys i = st0 ys i + tm ys i := rfl
theorem after_fold {ys : List Wk} (h : worksOk ys) {k : Nat} (hk : k < ys.length) : st0 ys k = (afterOf ys k).foldl (fun m a => max m (endOf ys a.toNat)) 0 := by
  rw [st0_eq hk]
  unfold startOf
  have key : ∀ (As : List Int) (m : Int), (∀ a ∈ As, 0 ≤ a ∧ a ≤ (k : Int) - 1) → As.foldl (fun m a => max m ((earlyTo ys k).getD a.toNat 0 + tm ys a.toNat)) m = As.foldl (fun m a => max m (endOf ys a.toNat)) m := by
    intro As
    induction As with
    | nil => intro m _; rfl
    | cons a As ih =>
      intro m hA
      have ha := hA a List.mem_cons_self
      simp only [List.foldl_cons]
      rw [ih _ (fun x hx => hA x (List.mem_cons_of_mem _ hx)), endOf, earlyTo_get ys k ys.length (by omega) a.toNat (by omega)]
  exact key _ _ (afterOf_bd h k)
theorem st0_ge {ys : List Wk} (h : worksOk ys) {k : Nat} (hk : k < ys.length) : 0 ≤ st0 ys k ∧ ∀ a ∈ afterOf ys k, endOf ys a.toNat ≤ st0 ys k := by
  rw [after_fold h hk]
  exact foldl_max_ge _ _ _
theorem st0_in {ys : List Wk} (h : worksOk ys) {k : Nat} (hk : k < ys.length) : st0 ys k = 0 ∨ ∃ a ∈ afterOf ys k, st0 ys k = endOf ys a.toNat := by
  rw [after_fold h hk]
  exact foldl_max_in _ _ _
/-- The sum of the first k times. -/
def sumTo (ys : List Wk) : Nat → Int
  | 0 => 0
  | k + 1 => sumTo ys k + tm ys k
theorem sumTo_mono {ys : List Wk} (h : worksOk ys) : ∀ (k j : Nat), k ≤ j → sumTo ys k ≤ sumTo ys j
  | k, 0, hk => by obtain rfl : k = 0 := by omega
                   exact Int.le_refl _
  | k, j + 1, hk => by
    by_cases e : k = j + 1
    · rw [e]; exact Int.le_refl _
    · have := sumTo_mono h k j (by omega)
      have := tm_bd h j
      show _ ≤ sumTo ys j + tm ys j
      omega
theorem sumTo_bd {ys : List Wk} (h : worksOk ys) : ∀ k, 0 ≤ sumTo ys k ∧ sumTo ys k ≤ 100 * (k : Int)
  | 0 => by simp [sumTo]
  | k + 1 => by
    have := sumTo_bd h k
    have := tm_bd h k
    unfold sumTo
    omega
theorem st0_sum {ys : List Wk} (h : worksOk ys) : ∀ (k : Nat), k < ys.length → st0 ys k ≤ sumTo ys k := by
  intro k
  induction k using Nat.strongRecOn with
  | _ k ih =>
    intro hk
    have hs := (sumTo_bd h k).1
    rcases st0_in h hk with h0 | ⟨a, ha, h1⟩
    · omega
    · have hb := afterOf_bd h k a ha
      have h2 := ih a.toNat (by omega) (by omega)
      have h3 : sumTo ys (a.toNat + 1) = sumTo ys a.toNat + tm ys a.toNat := rfl
      have h4 := sumTo_mono h (a.toNat + 1) k (by omega)
      rw [endOf_eq] at h1
      omega
theorem cyc_ge {ys : List Wk} : ∀ (k : Nat), 0 ≤ cycTo ys k ∧ ∀ i, i < k → endOf ys i ≤ cycTo ys k
  | 0 => ⟨by simp [cycTo], by omega⟩
  | k + 1 => by
    obtain ⟨h1, h2⟩ := cyc_ge (ys := ys) k
    refine ⟨?_, fun i hi => ?_⟩
    · show 0 ≤ max (cycTo ys k) _; omega
    · show _ ≤ max (cycTo ys k) (endOf ys k)
      by_cases e : i = k
      · subst e; omega
      · have := h2 i (by omega); omega
theorem cyc_in {ys : List Wk} : ∀ (k : Nat), cycTo ys k = 0 ∨ ∃ i, i < k ∧ cycTo ys k = endOf ys i
  | 0 => .inl rfl
  | k + 1 => by
    have e : cycTo ys (k + 1) = max (cycTo ys k) (endOf ys k) := rfl
    rcases cyc_in (ys := ys) k with h | ⟨i, hi, h⟩
    · by_cases hm : endOf ys k ≤ cycTo ys k
      · left; rw [e]; omega
      · right; exact ⟨k, by omega, by rw [e]; omega⟩
    · by_cases hm : endOf ys k ≤ cycTo ys k
      · right; exact ⟨i, by omega, by rw [e]; omega⟩
      · right; exact ⟨k, by omega, by rw [e]; omega⟩
theorem cyc_sum {ys : List Wk} (h : worksOk ys) : cycTo ys ys.length ≤ sumTo ys ys.length := by
  rcases cyc_in (ys := ys) ys.length with h0 | ⟨i, hi, h1⟩
  · rw [h0]; exact (sumTo_bd h _).1
  · have h2 := st0_sum h i hi
    have h3 : sumTo ys (i + 1) = sumTo ys i + tm ys i := rfl
    have h4 := sumTo_mono h (i + 1) ys.length hi
    rw [h1, endOf_eq]
    omega
/-- Every time is at least 1. -/
theorem tm_pos {ys : List Wk} (h : worksOk ys) {k : Nat} (hk : k < ys.length) : 1 ≤ tm ys k := by
  have := (h.2 k ys[k] (List.getElem?_eq_getElem hk)).1
  unfold tm
  rw [List.getElem?_eq_getElem hk]
  simp
  omega
theorem cyc_in' {ys : List Wk} (h : worksOk ys) (hn : 0 < ys.length) : ∃ i, i < ys.length ∧ cycTo ys ys.length = endOf ys i := by
  rcases cyc_in (ys := ys) ys.length with h0 | h1
  · have h2 := (cyc_ge (ys := ys) ys.length).2 0 hn
    have h3 := tm_pos h hn
    have h4 := (st0_ge h hn).1
    rw [endOf_eq] at h2
    omega
  · exact h1
end Go.Proofs.Ythcacepkfdfbnaa
