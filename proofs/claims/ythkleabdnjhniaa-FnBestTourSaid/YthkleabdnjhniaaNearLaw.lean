/-
  The nearest tour, as plain lists.
-/
import Derived.Test.YthkleabdnjhniaaOrderLaw
namespace Go.Proofs.Ythkleabdnjhniaa
open Go Go.RowKit
def ptOf (xs : List Pt) (i : Int) : Pt := xs.getD i.toNat ⟨0, 0⟩
/-- The nearest place among the first k that has not been visited; -1 for none. -/
def bestTo (xs : List Pt) (os : List Int) (last : Int) : Nat → Int
  | 0 => -1
  | k + 1 => if (k : Int) ∉ os ∧ (bestTo xs os last k < 0 ∨ stp (ptOf xs last) (ptOf xs k) < stp (ptOf xs last) (ptOf xs (bestTo xs os last k))) then (k : Int) else bestTo xs os last k
theorem bestTo_seen {xs : List Pt} {os : List Int} {last : Int} {k : Nat} (h : (k : Int) ∈ os) : bestTo xs os last (k + 1) = bestTo xs os last k := by
  rw [bestTo, if_neg (fun e => e.1 h)]
theorem bestTo_first {xs : List Pt} {os : List Int} {last : Int} {k : Nat} (h : (k : Int) ∉ os) (hb : bestTo xs os last k < 0) : bestTo xs os last (k + 1) = k := by
  rw [bestTo, if_pos ⟨h, .inl hb⟩]
theorem bestTo_less {xs : List Pt} {os : List Int} {last : Int} {k : Nat} (h : (k : Int) ∉ os) (hb : stp (ptOf xs last) (ptOf xs k) < stp (ptOf xs last) (ptOf xs (bestTo xs os last k))) : bestTo xs os last (k + 1) = k := by
  rw [bestTo, if_pos ⟨h, .inr hb⟩]
theorem bestTo_more {xs : List Pt} {os : List Int} {last : Int} {k : Nat} (hb : ¬ bestTo xs os last k < 0) (h : ¬ stp (ptOf xs last) (ptOf xs k) < stp (ptOf xs last) (ptOf xs (bestTo xs os last k))) : bestTo xs os last (k + 1) = bestTo xs os last k := by
  rw [bestTo, if_neg (fun e => e.2.elim hb h)]
structure BestI (xs : List Pt) (os : List Int) (last : Int) (k : Nat) (b : Int) : Prop where
  bd : -1 ≤ b ∧ b < k
  new : 0 ≤ b → b ∉ os
  none : b < 0 → ∀ i : Nat, i < k → (i : Int) ∈ os
  least : ∀ i : Nat, i < k → (i : Int) ∉ os → stp (ptOf xs last) (ptOf xs b) ≤ stp (ptOf xs last) (ptOf xs i)
theorem bestTo_inv (xs : List Pt) (os : List Int) (last : Int) : ∀ k, BestI xs os last k (bestTo xs os last k)
  | 0 => ⟨by simp [bestTo], by simp [bestTo], fun _ i hi => by omega, fun i hi => by omega⟩
  | k + 1 => by
    have I := bestTo_inv xs os last k
    by_cases h1 : (k : Int) ∈ os
    · rw [bestTo_seen h1]
      refine ⟨by have := I.bd; omega, I.new, fun hb i hi => ?_, fun i hi hn => ?_⟩
      · by_cases e : i = k
        · subst e; exact h1
        · exact I.none hb i (by omega)
      · by_cases e : i = k
        · subst e; exact absurd h1 hn
        · exact I.least i (by omega) hn
    · by_cases h2 : bestTo xs os last k < 0
      · rw [bestTo_first h1 h2]
        refine ⟨by omega, fun _ => h1, fun h => by omega, fun i hi hn => ?_⟩
        by_cases e : i = k
        · subst e; exact Int.le_refl _
        · exact absurd (I.none h2 i (by omega)) hn
      · by_cases h3 : stp (ptOf xs last) (ptOf xs k) < stp (ptOf xs last) (ptOf xs (bestTo xs os last k))
        · rw [bestTo_less h1 h3]
          refine ⟨by omega, fun _ => h1, fun h => by omega, fun i hi hn => ?_⟩
          by_cases e : i = k
          · subst e; exact Int.le_refl _
          · have := I.least i (by omega) hn
            omega
        · rw [bestTo_more h2 h3]
          refine ⟨by have := I.bd; omega, I.new, fun h => absurd h h2, fun i hi hn => ?_⟩
          by_cases e : i = k
          · subst e; omega
          · exact I.least i (by omega) hn
def nearNext (xs : List Pt) (os : List Int) : Int := if os = [] then 0 else bestTo xs os (os.getLastD 0) xs.length
def nearL (xs : List Pt) : Nat → List Int
  | 0 => []
  | j + 1 => nearL xs j ++ [nearNext xs (nearL xs j)]
theorem nearL_len (xs : List Pt) : ∀ j, (nearL xs j).length = j
  | 0 => rfl
  | j + 1 => by simp [nearL, nearL_len xs j]
theorem nearL_one (xs : List Pt) : nearL xs 1 = [0] := rfl
theorem nearL_next (xs : List Pt) (j : Nat) (hj : 1 ≤ j) : nearL xs (j + 1) = nearL xs j ++ [bestTo xs (nearL xs j) ((nearL xs j).getLastD 0) xs.length] := by
  rw [nearL, nearNext, if_neg (fun e => by have := congrArg List.length e; rw [nearL_len] at this; simp at this; omega)]
theorem unseen {n : Nat} {os : List Int} (h : os.length < n) : ∃ i : Nat, i < n ∧ (i : Int) ∉ os := by
  apply Classical.byContradiction
  intro hc
  have h2 : places n ⊆ os := by
    intro a ha
    have hb := mem_places.1 ha
    apply Classical.byContradiction
    intro hn
    exact hc ⟨a.toNat, by omega, by rw [Int.toNat_of_nonneg hb.1]; exact hn⟩
  have := List.Nodup.length_le_of_subset (places_nodup n) h2
  rw [places_len] at this
  omega
theorem best_some {xs : List Pt} {os : List Int} (last : Int) (h : os.length < xs.length) : 0 ≤ bestTo xs os last xs.length := by
  obtain ⟨i, hi, hn⟩ := unseen h
  apply Classical.byContradiction
  intro hc
  exact hn ((bestTo_inv xs os last xs.length).none (by omega) i hi)
theorem nearL_ok {xs : List Pt} : ∀ j, j ≤ xs.length → inN xs.length (nearL xs j) ∧ (nearL xs j).Nodup
  | 0, _ => ⟨(by intro a ha; cases ha), List.nodup_nil⟩
  | j + 1, hj => by
    obtain ⟨h1, h2⟩ := nearL_ok (xs := xs) j (by omega)
    have hx : (0 ≤ nearNext xs (nearL xs j) ∧ nearNext xs (nearL xs j) ≤ (xs.length : Int) - 1) ∧ nearNext xs (nearL xs j) ∉ nearL xs j := by
      unfold nearNext
      split
      · rename_i e
        rw [e]
        exact ⟨⟨by omega, by omega⟩, by simp⟩
      · have hb := best_some (xs := xs) ((nearL xs j).getLastD 0) (show (nearL xs j).length < xs.length by rw [nearL_len]; omega)
        have I := bestTo_inv xs (nearL xs j) ((nearL xs j).getLastD 0) xs.length
        exact ⟨⟨hb, by have := I.bd; omega⟩, I.new hb⟩
    refine ⟨fun a ha => ?_, ?_⟩
    · rw [nearL, List.mem_append, List.mem_singleton] at ha
      rcases ha with ha | rfl
      · exact h1 a ha
      · exact hx.1
    · rw [nearL, List.nodup_append]
      refine ⟨h2, by simp, fun a ha b hb => ?_⟩
      rw [List.mem_singleton] at hb
      rintro rfl
      exact hx.2 (hb ▸ ha)
noncomputable def nearest (xs : List Pt) : List Int := if stopsB xs then nearL xs xs.length else []
theorem nearest_yes {xs : List Pt} (h : stopsB xs = true) : nearest xs = nearL xs xs.length := by unfold nearest; rw [h]; rfl
theorem nearest_no {xs : List Pt} (h : stopsB xs = false) : nearest xs = [] := by unfold nearest; rw [h]; rfl
theorem nearest_len (xs : List Pt) : (nearest xs).length ≤ 1000 := by
  cases h : stopsB xs with
  | false => rw [nearest_no h]; simp
  | true => rw [nearest_yes h, nearL_len]; have := stopsB_len h; omega
theorem nearest_ok {xs : List Pt} (h : stopsB xs = true) : ordOk xs.length (nearest xs) := by
  rw [nearest_yes h]
  obtain ⟨h1, h2⟩ := nearL_ok (xs := xs) xs.length (Nat.le_refl _)
  exact ordOk_of (nearL_len xs _) h1 h2
theorem last_get {os : List Int} {j : Nat} (h : os.length = j + 1) : os[j]? = some (os.getLastD 0) := by
  have hne : os ≠ [] := by intro e; rw [e] at h; cases h
  rw [List.getLastD_eq_getLast?, List.getLast?_eq_getElem?, h, Nat.add_sub_cancel, List.getElem?_eq_getElem (by omega)]
  rfl
theorem ptOf_at {xs : List Pt} {k : Nat} {p : Pt} (h : xs[k]? = some p) : ptOf xs k = p := by
  unfold ptOf
  rw [Int.toNat_natCast, List.getD_eq_getElem?_getD, h]
  rfl
end Go.Proofs.Ythkleabdnjhniaa
