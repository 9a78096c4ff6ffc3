/-
  The best tour by trying all, as plain lists.
-/
import Derived.Test.YthkleabdnjhniaaImprLaw
namespace Go.Proofs.Ythkleabdnjhniaa
open Go Go.RowKit
/-- The best so far against all orders that begin in some way, where m numbers are missing. -/
def dfs (xs : List Pt) : Nat → List Int → List Int → List Int
  | 0, os, b => if b = [] ∨ tourL xs os < tourL xs b then os else b
  | m + 1, os, b => (List.range xs.length).foldl (fun b (k : Nat) => if (k : Int) ∈ os then b else dfs xs m (os ++ [(k : Int)]) b) b
def dfsTo (xs : List Pt) (m : Nat) (os : List Int) (k : Nat) (b : List Int) : List Int := (List.range k).foldl (fun b (k : Nat) => if (k : Int) ∈ os then b else dfs xs m (os ++ [(k : Int)]) b) b
theorem dfs_succ (xs : List Pt) (m : Nat) (os b : List Int) : dfs xs (m + 1) os b = dfsTo xs m os xs.length b := rfl
theorem dfsTo_zero (xs : List Pt) (m : Nat) (os b : List Int) : dfsTo xs m os 0 b = b := rfl
theorem dfsTo_step (xs : List Pt) (m : Nat) (os : List Int) (k : Nat) (b : List Int) : dfsTo xs m os (k + 1) b = if (k : Int) ∈ os then dfsTo xs m os k b else dfs xs m (os ++ [(k : Int)]) (dfsTo xs m os k b) := by
  unfold dfsTo
  rw [List.range_succ, List.foldl_append]
  rfl
theorem dfsTo_seen {xs : List Pt} {m : Nat} {os : List Int} {k : Nat} {b : List Int} (h : (k : Int) ∈ os) : dfsTo xs m os (k + 1) b = dfsTo xs m os k b := by rw [dfsTo_step, if_pos h]
theorem dfsTo_new {xs : List Pt} {m : Nat} {os : List Int} {k : Nat} {b : List Int} (h : (k : Int) ∉ os) : dfsTo xs m os (k + 1) b = dfs xs m (os ++ [(k : Int)]) (dfsTo xs m os k b) := by rw [dfsTo_step, if_neg h]
theorem dfs_first {xs : List Pt} {os : List Int} : dfs xs 0 os [] = os := by rw [dfs, if_pos (.inl rfl)]
theorem dfs_less {xs : List Pt} {os b : List Int} (h : tourL xs os < tourL xs b) : dfs xs 0 os b = os := by rw [dfs, if_pos (.inr h)]
theorem dfs_more {xs : List Pt} {os b : List Int} (hb : b ≠ []) (h : ¬ tourL xs os < tourL xs b) : dfs xs 0 os b = b := by rw [dfs, if_neg (fun e => e.elim hb h)]
structure DI (xs : List Pt) (os b r : List Int) (p : List Int → Prop) : Prop where
  le : b ≠ [] → r ≠ [] ∧ tourL xs r ≤ tourL xs b
  all : ∀ us, ordOk xs.length us → (∃ t, us = os ++ t) → p us → r ≠ [] ∧ tourL xs r ≤ tourL xs us
  mem : r = b ∨ (ordOk xs.length r ∧ ∃ t, r = os ++ t)
theorem dfs_inv (xs : List Pt) : ∀ (m : Nat) (os b : List Int), os.length + m = xs.length → os ≠ [] → inN xs.length os → os.Nodup → DI xs os b (dfs xs m os b) (fun _ => True)
  | 0, os, b, hl, hne, hin, hd => by
    have hok : ordOk xs.length os := ordOk_of (by omega) hin hd
    have hus : ∀ us, ordOk xs.length us → (∃ t, us = os ++ t) → us = os := by
      rintro us hu ⟨t, rfl⟩
      have h1 := hu.1
      rw [List.length_append] at h1
      have : t = [] := List.eq_nil_of_length_eq_zero (by omega)
      rw [this, List.append_nil]
    by_cases hb : b = []
    · subst hb
      rw [dfs_first]
      exact ⟨fun h => absurd rfl h, fun us hu ht _ => by rw [hus us hu ht]; exact ⟨hne, Int.le_refl _⟩, .inr ⟨hok, [], by simp⟩⟩
    · by_cases hlt : tourL xs os < tourL xs b
      · rw [dfs_less hlt]
        exact ⟨fun _ => ⟨hne, by omega⟩, fun us hu ht _ => by rw [hus us hu ht]; exact ⟨hne, Int.le_refl _⟩, .inr ⟨hok, [], by simp⟩⟩
      · rw [dfs_more hb hlt]
        exact ⟨fun _ => ⟨hb, Int.le_refl _⟩, fun us hu ht _ => by rw [hus us hu ht]; exact ⟨hb, by omega⟩, .inl rfl⟩
  | m + 1, os, b, hl, hne, hin, hd => by
    have key : ∀ k, k ≤ xs.length → DI xs os b (dfsTo xs m os k b) (fun us => ∃ j : Nat, j < k ∧ us[os.length]? = some (j : Int)) := by
      intro k
      induction k with
      | zero =>
        intro _
        rw [dfsTo_zero]
        exact ⟨fun h => ⟨h, Int.le_refl _⟩, fun us _ _ ⟨j, hj, _⟩ => by omega, .inl rfl⟩
      | succ k ih =>
        intro hk
        have I := ih (by omega)
        by_cases hs : (k : Int) ∈ os
        · rw [dfsTo_seen hs]
          refine ⟨I.le, fun us hu ht hp => ?_, I.mem⟩
          obtain ⟨j, hj, hju⟩ := hp
          by_cases e : j = k
          · subst e
            obtain ⟨t, rfl⟩ := ht
            have hnd := hu.nodup
            rw [List.getElem?_append_right (Nat.le_refl _)] at hju
            have hjt := List.mem_of_getElem? hju
            exact absurd rfl ((List.nodup_append.1 hnd).2.2 _ hs _ hjt)
          · exact I.all us hu ht ⟨j, by omega, hju⟩
        · rw [dfsTo_new hs]
          have D := dfs_inv xs m (os ++ [(k : Int)]) (dfsTo xs m os k b) (by simp; omega) (by simp) (by
            intro a ha
            rcases List.mem_append.1 ha with ha | ha
            · exact hin a ha
            · rw [List.mem_singleton] at ha
              omega) (by
            rw [List.nodup_append]
            refine ⟨hd, by simp, fun a ha c hc => ?_⟩
            rw [List.mem_singleton] at hc
            rintro rfl
            exact hs (hc ▸ ha))
          refine ⟨fun hb => ?_, fun us hu ht hp => ?_, ?_⟩
          · obtain ⟨h1, h2⟩ := I.le hb
            obtain ⟨h3, h4⟩ := D.le h1
            exact ⟨h3, by omega⟩
          · obtain ⟨j, hj, hju⟩ := hp
            by_cases e : j = k
            · subst e
              refine D.all us hu ?_ trivial
              obtain ⟨t, rfl⟩ := ht
              rw [List.getElem?_append_right (Nat.le_refl _), Nat.sub_self] at hju
              cases t with
              | nil => cases hju
              | cons c t =>
                have hc : c = (j : Int) := by simpa using hju
                subst hc
                exact ⟨t, by simp⟩
            · obtain ⟨h1, h2⟩ := I.all us hu ht ⟨j, by omega, hju⟩
              obtain ⟨h3, h4⟩ := D.le h1
              exact ⟨h3, by omega⟩
          · rcases D.mem with h | ⟨h1, t, h2⟩
            · rw [h]; exact I.mem
            · exact .inr ⟨h1, (k : Int) :: t, by rw [h2]; simp⟩
    rw [dfs_succ]
    have K := key xs.length (Nat.le_refl _)
    refine ⟨K.le, fun us hu ht _ => K.all us hu ht ?_, K.mem⟩
    have hlt : os.length < us.length := by have := hu.1; omega
    have hm := hu.inN us[os.length] (List.getElem_mem hlt)
    exact ⟨us[os.length].toNat, by omega, by rw [List.getElem?_eq_getElem hlt, Int.toNat_of_nonneg hm.1]⟩
noncomputable def best (xs : List Pt) : List Int := if stopsB xs = true ∧ xs.length ≤ 7 then dfs xs (xs.length - 1) [0] [] else []
theorem best_yes {xs : List Pt} (h : stopsB xs = true) (h7 : xs.length ≤ 7) : best xs = dfs xs (xs.length - 1) [0] [] := by unfold best; rw [if_pos ⟨h, h7⟩]
theorem best_no {xs : List Pt} (h : ¬ (stopsB xs = true ∧ xs.length ≤ 7)) : best xs = [] := by unfold best; rw [if_neg h]
structure BestT (xs : List Pt) (r : List Int) : Prop where
  ne : r ≠ []
  ok : ordOk xs.length r
  fst : r.getD 0 0 = 0
  le : ∀ us, ordOk xs.length us → us.getD 0 0 = 0 → tourL xs r ≤ tourL xs us
theorem best_is {xs : List Pt} (h : stopsB xs = true) (h7 : xs.length ≤ 7) : BestT xs (best xs) := by
  have hl := stopsB_len h
  rw [best_yes h h7]
  have D := dfs_inv xs (xs.length - 1) [0] [] (by simp; omega) (by simp) (by intro a ha; rw [List.mem_singleton] at ha; omega) (by simp)
  have hpre : ∀ us, ordOk xs.length us → us.getD 0 0 = 0 → ∃ t, us = [0] ++ t := by
    intro us hu h0
    cases us with
    | nil => have := hu.1; simp at this; omega
    | cons c t =>
      have : c = 0 := by simpa using h0
      subst this
      exact ⟨t, rfl⟩
  have hid : ordOk xs.length (places xs.length) := ordOk_of (places_len _) (fun a ha => mem_places.1 ha) (places_nodup _)
  have h00 : (places xs.length).getD 0 0 = 0 := by
    unfold places
    rw [getD_map_range (f := fun i : Nat => (i : Int)) (by omega)]
    rfl
  obtain ⟨hne, _⟩ := D.all _ hid (hpre _ hid h00) trivial
  rcases D.mem with hm | ⟨hm, t, ht⟩
  · exact absurd hm hne
  · refine ⟨hne, hm, by rw [ht]; rfl, fun us hu h0 => (D.all us hu (hpre us hu h0) trivial).2⟩
theorem best_len (xs : List Pt) : (best xs).length ≤ 1000 := by
  by_cases h : stopsB xs = true ∧ xs.length ≤ 7
  · have := (best_is h.1 h.2).ok.1
    omega
  · rw [best_no h]; simp
end Go.Proofs.Ythkleabdnjhniaa
