/-
  Improving a tour by reversing parts, as plain lists.
-/
import Derived.Test.YthkleabdnjhniaaTourLaw
namespace Go.Proofs.Ythkleabdnjhniaa
open Go Go.RowKit
/-- The numbers at the places from i to i + t - 1 and from j - t + 1 to j exchanged; with t large: the part from i to j reversed. -/
def revP (os : List Int) (i j t : Nat) : List Int := (List.range os.length).map fun k => if i ≤ k ∧ k ≤ j ∧ (k < i + t ∨ j < k + t) then os.getD (i + j - k) 0 else os.getD k 0
def revAt (os : List Int) (i j : Nat) : List Int := (List.range os.length).map fun k => if i ≤ k ∧ k ≤ j then os.getD (i + j - k) 0 else os.getD k 0
/-- The numbers from i to m - 1 written anew. -/
def revTo (os : List Int) (i j m : Nat) : List Int := (List.range os.length).map fun k => if i ≤ k ∧ k < m then os.getD (i + j - k) 0 else os.getD k 0
theorem map_getD (os : List Int) : (List.range os.length).map (fun k => os.getD k 0) = os := by
  apply List.ext_getElem?
  intro k
  rw [List.getElem?_map]
  by_cases h : k < os.length
  · rw [List.getElem?_range h, List.getElem?_eq_getElem h]
    simp [h]
  · rw [List.getElem?_eq_none (by simpa using h), List.getElem?_eq_none (by omega)]
    rfl
theorem revP_len (os : List Int) (i j t : Nat) : (revP os i j t).length = os.length := by simp [revP]
theorem revAt_len (os : List Int) (i j : Nat) : (revAt os i j).length = os.length := by simp [revAt]
theorem revTo_len (os : List Int) (i j m : Nat) : (revTo os i j m).length = os.length := by simp [revTo]
theorem revP_zero (os : List Int) (i j : Nat) : revP os i j 0 = os := by
  conv => rhs; rw [← map_getD os]
  unfold revP
  refine List.map_congr_left (fun k _ => ?_)
  rw [if_neg (by omega)]
theorem revTo_start (os : List Int) (i j : Nat) : revTo os i j i = os := by
  conv => rhs; rw [← map_getD os]
  unfold revTo
  refine List.map_congr_left (fun k _ => ?_)
  rw [if_neg (by omega)]
theorem revTo_end (os : List Int) (i j : Nat) : revTo os i j (j + 1) = revAt os i j := by
  unfold revTo revAt
  refine List.map_congr_left (fun k _ => ?_)
  by_cases h : i ≤ k ∧ k ≤ j
  · rw [if_pos h, if_pos (by omega)]
  · rw [if_neg h, if_neg (by omega)]
theorem revP_end (os : List Int) (i j t : Nat) (h : j ≤ i + t + t) : revP os i j t = revAt os i j := by
  unfold revP revAt
  refine List.map_congr_left (fun k _ => ?_)
  by_cases h1 : i ≤ k ∧ k ≤ j
  · rw [if_pos h1]
    by_cases h2 : k < i + t ∨ j < k + t
    · rw [if_pos ⟨h1.1, h1.2, h2⟩]
    · rw [if_neg (fun e => h2 e.2.2)]
      congr 1
      omega
  · rw [if_neg h1, if_neg (fun e => h1 ⟨e.1, e.2.1⟩)]
theorem getD_map_range {f : Nat → Int} {n k : Nat} (h : k < n) : ((List.range n).map f).getD k 0 = f k := by
  rw [List.getD_eq_getElem?_getD, List.getElem?_map, List.getElem?_range h]
  rfl
theorem revTo_set (os : List Int) (i j m : Nat) (hi : i ≤ m) (hm : m < os.length) : (revTo os i j m).set m (os.getD (i + j - m) 0) = revTo os i j (m + 1) := by
  apply List.ext_getElem
  · simp [revTo]
  · intro k h1 h2
    rw [List.getElem_set]
    simp only [revTo, List.getElem_map, List.getElem_range]
    by_cases e : m = k
    · subst e
      rw [if_pos rfl, if_pos (by omega)]
    · rw [if_neg e]
      by_cases h3 : i ≤ k ∧ k < m
      · rw [if_pos h3, if_pos (by omega)]
      · rw [if_neg h3, if_neg (by omega)]
theorem revP_set (os : List Int) (i j t : Nat) (ht : i + t + t < j) (hj : j < os.length) :
    ((revP os i j t).set (i + t) ((revP os i j t).getD (j - t) 0)).set (j - t) ((revP os i j t).getD (i + t) 0) = revP os i j (t + 1) := by
  have e1 : (revP os i j t).getD (j - t) 0 = os.getD (j - t) 0 := by
    unfold revP
    rw [getD_map_range (by omega), if_neg (by omega)]
  have e2 : (revP os i j t).getD (i + t) 0 = os.getD (i + t) 0 := by
    unfold revP
    rw [getD_map_range (by omega), if_neg (by omega)]
  rw [e1, e2]
  apply List.ext_getElem
  · simp [revP]
  · intro k h1 h2
    rw [List.getElem_set, List.getElem_set]
    simp only [revP, List.getElem_map, List.getElem_range]
    by_cases a : j - t = k
    · subst a
      rw [if_pos rfl, if_pos (by omega)]
      congr 1
      omega
    · rw [if_neg a]
      by_cases b : i + t = k
      · subst b
        rw [if_pos rfl, if_pos (by omega)]
        congr 1
        omega
      · rw [if_neg b]
        by_cases h3 : i ≤ k ∧ k ≤ j ∧ (k < i + t ∨ j < k + t)
        · rw [if_pos h3, if_pos (by omega)]
        · rw [if_neg h3, if_neg (by omega)]
theorem revAt_getD (os : List Int) (i j k : Nat) (hk : k < os.length) : (revAt os i j).getD k 0 = if i ≤ k ∧ k ≤ j then os.getD (i + j - k) 0 else os.getD k 0 := by
  unfold revAt
  rw [getD_map_range hk]
theorem mem_getD {os : List Int} {x : Int} : x ∈ os ↔ ∃ k, k < os.length ∧ os.getD k 0 = x := by
  constructor
  · intro h
    obtain ⟨k, hk, rfl⟩ := List.getElem_of_mem h
    exact ⟨k, hk, by rw [List.getD_eq_getElem?_getD, List.getElem?_eq_getElem hk]; rfl⟩
  · rintro ⟨k, hk, rfl⟩
    rw [List.getD_eq_getElem?_getD, List.getElem?_eq_getElem hk]
    exact List.getElem_mem hk
theorem revAt_mem {os : List Int} {i j : Nat} (hj : j < os.length) {x : Int} (h : x ∈ os) : x ∈ revAt os i j := by
  obtain ⟨k, hk, rfl⟩ := mem_getD.1 h
  rw [mem_getD, revAt_len]
  by_cases h1 : i ≤ k ∧ k ≤ j
  · refine ⟨i + j - k, by omega, ?_⟩
    rw [revAt_getD _ _ _ _ (by omega), if_pos (by omega)]
    congr 1
    omega
  · refine ⟨k, hk, ?_⟩
    rw [revAt_getD _ _ _ _ hk, if_neg h1]
theorem revAt_ok {n : Nat} {os : List Int} {i j : Nat} (hj : j < os.length) (h : ordOk n os) : ordOk n (revAt os i j) := ⟨by rw [revAt_len]; exact h.1, fun k hk => revAt_mem hj (h.2 k hk)⟩
theorem revAt_fst {os : List Int} {i j : Nat} (hi : 1 ≤ i) : (revAt os i j).getD 0 0 = os.getD 0 0 := by
  by_cases h : 0 < os.length
  · rw [revAt_getD _ _ _ _ h, if_neg (by omega)]
  · have : os = [] := List.eq_nil_of_length_eq_zero (by omega)
    subst this
    rfl
/-! ### The search -/
/-- Reversing from i to j makes the tour shorter. -/
def shP (xs : List Pt) (os : List Int) (i j : Nat) : Bool := decide (tourL xs (revAt os i j) < tourL xs os)
/-- The first j behind n - m. -/
def findJ (P : Nat → Bool) (n : Nat) : Nat → Option Nat
  | 0 => none
  | m + 1 => if P (n - (m + 1)) then some (n - (m + 1)) else findJ P n m
def findI (P : Nat → Nat → Bool) (n : Nat) : Nat → Option (Nat × Nat)
  | 0 => none
  | m + 1 => match findJ (P (n - (m + 1))) n m with
    | some j => some (n - (m + 1), j)
    | none => findI P n m
theorem findJ_some {P : Nat → Bool} {n : Nat} : ∀ {m j : Nat}, m ≤ n → findJ P n m = some j → n - m ≤ j ∧ j < n ∧ P j = true
  | 0, j, _, h => by cases h
  | m + 1, j, hm, h => by
    rw [findJ] at h
    split at h
    · rename_i hp
      obtain rfl := Option.some.inj h
      exact ⟨Nat.le_refl _, by omega, hp⟩
    · have := findJ_some (by omega) h
      exact ⟨by omega, this.2.1, this.2.2⟩
theorem findI_some {P : Nat → Nat → Bool} {n : Nat} : ∀ {m : Nat} {p : Nat × Nat}, m ≤ n → findI P n m = some p → n - m ≤ p.1 ∧ p.1 < p.2 ∧ p.2 < n ∧ P p.1 p.2 = true
  | 0, p, _, h => by cases h
  | m + 1, p, hm, h => by
    rw [findI] at h
    split at h
    · rename_i j hj
      obtain rfl := Option.some.inj h
      have := findJ_some (by omega) hj
      exact ⟨Nat.le_refl _, by simp only; omega, this.2.1, this.2.2⟩
    · have := findI_some (by omega) h
      exact ⟨by omega, this.2.1, this.2.2.1, this.2.2.2⟩
theorem findJ_step {P : Nat → Bool} {n J : Nat} (h : J < n) : findJ P n (n - J) = if P J then some J else findJ P n (n - (J + 1)) := by
  obtain ⟨m, hm⟩ : ∃ m, n - J = m + 1 := ⟨n - J - 1, by omega⟩
  rw [hm, findJ, show n - (m + 1) = J by omega, show n - (J + 1) = m by omega]
theorem findI_step {P : Nat → Nat → Bool} {n I : Nat} (h : I < n) : findI P n (n - I) = match findJ (P I) n (n - (I + 1)) with
    | some j => some (I, j)
    | none => findI P n (n - (I + 1)) := by
  obtain ⟨m, hm⟩ : ∃ m, n - I = m + 1 := ⟨n - I - 1, by omega⟩
  rw [hm, findI, show n - (m + 1) = I by omega, show n - (I + 1) = m by omega]
/-- What the inner loop still finds. -/
def findIJ (P : Nat → Nat → Bool) (n I J : Nat) : Option (Nat × Nat) := match findJ (P I) n (n - J) with
    | some j => some (I, j)
    | none => findI P n (n - (I + 1))
theorem findIJ_yes {P : Nat → Nat → Bool} {n I J : Nat} (h : J < n) (hp : P I J = true) : findIJ P n I J = some (I, J) := by
  unfold findIJ
  rw [findJ_step h, if_pos hp]
theorem findIJ_no {P : Nat → Nat → Bool} {n I J : Nat} (h : J < n) (hp : P I J = false) : findIJ P n I J = findIJ P n I (J + 1) := by
  unfold findIJ
  rw [findJ_step h, if_neg (by rw [hp]; simp)]
theorem findIJ_end {P : Nat → Nat → Bool} {n I : Nat} : findIJ P n I n = findI P n (n - (I + 1)) := by
  unfold findIJ
  rw [Nat.sub_self]
  rfl
def shorterP (xs : List Pt) (os : List Int) : Option (Nat × Nat) := findI (shP xs os) os.length (os.length - 1)
theorem shorterP_start (xs : List Pt) (os : List Int) : shorterP xs os = findI (shP xs os) os.length (os.length - 1) := rfl
theorem shP_t {xs : List Pt} {os : List Int} {i j : Nat} (h : tourL xs (revAt os i j) < tourL xs os) : shP xs os i j = true := decide_eq_true h
theorem shP_f {xs : List Pt} {os : List Int} {i j : Nat} (h : ¬ tourL xs (revAt os i j) < tourL xs os) : shP xs os i j = false := decide_eq_false h
theorem shorterP_some {xs : List Pt} {os : List Int} {p : Nat × Nat} (h : shorterP xs os = some p) : 1 ≤ p.1 ∧ p.1 < p.2 ∧ p.2 < os.length ∧ tourL xs (revAt os p.1 p.2) < tourL xs os := by
  obtain ⟨h1, h2, h3, h4⟩ := findI_some (by omega) h
  exact ⟨by omega, h2, h3, of_decide_eq_true h4⟩
/-- Improving f times. -/
def impr (xs : List Pt) : Nat → List Int → List Int
  | 0, os => os
  | f + 1, os => match shorterP xs os with
    | none => os
    | some p => impr xs f (revAt os p.1 p.2)
theorem tourL_nonneg {xs : List Pt} (hp : ptsB xs = true) (os : List Int) : 0 ≤ tourL xs os := (lenTo_bd hp os _).1
theorem shorterP_zero {xs : List Pt} (hp : ptsB xs = true) {os : List Int} (h : (tourL xs os).toNat = 0) : shorterP xs os = none := by
  cases hs : shorterP xs os with
  | none => rfl
  | some p =>
    have h1 := (shorterP_some hs).2.2.2
    have := tourL_nonneg hp (revAt os p.1 p.2)
    omega
theorem impr_none {xs : List Pt} {os : List Int} (h : shorterP xs os = none) : ∀ f, impr xs f os = os
  | 0 => rfl
  | f + 1 => by rw [impr, h]
theorem impr_eq {xs : List Pt} (hp : ptsB xs = true) : ∀ (f g : Nat) (os : List Int), (tourL xs os).toNat ≤ f → (tourL xs os).toNat ≤ g → impr xs f os = impr xs g os
  | 0, g, os, h, _ => by rw [impr_none (shorterP_zero hp (by omega)), impr_none (shorterP_zero hp (by omega))]
  | f + 1, 0, os, _, h => by rw [impr_none (shorterP_zero hp (by omega)), impr_none (shorterP_zero hp (by omega))]
  | f + 1, g + 1, os, h1, h2 => by
    cases hs : shorterP xs os with
    | none => rw [impr_none hs, impr_none hs]
    | some p =>
      rw [impr, impr, hs]
      have h3 := (shorterP_some hs).2.2.2
      have h4 := tourL_nonneg hp (revAt os p.1 p.2)
      exact impr_eq hp f g _ (by omega) (by omega)
def improveL (xs : List Pt) (os : List Int) : List Int := impr xs (tourL xs os).toNat os
theorem improveL_none {xs : List Pt} {os : List Int} (h : shorterP xs os = none) : improveL xs os = os := impr_none h _
theorem improveL_some {xs : List Pt} (hp : ptsB xs = true) {os : List Int} {p : Nat × Nat} (h : shorterP xs os = some p) : improveL xs os = improveL xs (revAt os p.1 p.2) := by
  have h3 := (shorterP_some h).2.2.2
  have h4 := tourL_nonneg hp (revAt os p.1 p.2)
  unfold improveL
  obtain ⟨f, hf⟩ : ∃ f, (tourL xs os).toNat = f + 1 := ⟨(tourL xs os).toNat - 1, by omega⟩
  rw [hf, impr, h]
  exact impr_eq hp _ _ _ (by omega) (by omega)
structure ImprI (xs : List Pt) (os us : List Int) : Prop where
  done : shorterP xs us = none
  le : tourL xs us ≤ tourL xs os
  ok : ordOk xs.length os → ordOk xs.length us
  fst : us.getD 0 0 = os.getD 0 0
theorem improveL_inv {xs : List Pt} (hp : ptsB xs = true) : ∀ (f : Nat) (os : List Int), (tourL xs os).toNat = f → ImprI xs os (improveL xs os) := by
  intro f
  induction f using Nat.strongRecOn with
  | _ f ih =>
    intro os hf
    cases hs : shorterP xs os with
    | none =>
      rw [improveL_none hs]
      exact ⟨hs, Int.le_refl _, id, rfl⟩
    | some p =>
      rw [improveL_some hp hs]
      obtain ⟨h1, h2, h3, h4⟩ := shorterP_some hs
      have h5 := tourL_nonneg hp (revAt os p.1 p.2)
      have I := ih _ (by omega) (revAt os p.1 p.2) rfl
      refine ⟨I.done, by have := I.le; omega, fun h => I.ok (revAt_ok h3 h), I.fst.trans (revAt_fst h1)⟩
noncomputable def improve (xs : List Pt) (os : List Int) : List Int := if fitsB xs os then improveL xs os else []
theorem improve_yes {xs : List Pt} {os : List Int} (h : fitsB xs os = true) : improve xs os = improveL xs os := by unfold improve; rw [h]; rfl
theorem improve_no {xs : List Pt} {os : List Int} (h : fitsB xs os = false) : improve xs os = [] := by unfold improve; rw [h]; rfl
theorem improve_fit {xs : List Pt} {os : List Int} (h : fitsB xs os = true) : ImprI xs os (improve xs os) ∧ fitsB xs (improve xs os) = true := by
  obtain ⟨h1, h2⟩ := fits_of h
  rw [improve_yes h]
  have I := improveL_inv (stopsB_pts h1) _ os rfl
  exact ⟨I, fits_mk h1 (I.ok h2)⟩
theorem improve_len (xs : List Pt) (os : List Int) : (improve xs os).length ≤ 1000 := by
  cases h : fitsB xs os with
  | false => rw [improve_no h]; simp
  | true =>
    obtain ⟨_, h2⟩ := improve_fit h
    obtain ⟨h3, h4⟩ := fits_of h2
    have := h4.1
    have := stopsB_len h3
    omega
end Go.Proofs.Ythkleabdnjhniaa
