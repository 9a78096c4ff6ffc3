/-
  Orders of n places, as plain lists of numbers.
-/
import Derived.Test.YthkleabdnjhniaaTourLen
namespace Go.Proofs.Ythkleabdnjhniaa
open Go Go.RowKit
def ordOk (n : Nat) (os : List Int) : Prop := os.length = n ∧ ∀ i : Nat, i < n → (i : Int) ∈ os
open Classical in
noncomputable def ordB (n : Nat) (os : List Int) : Bool := decide (ordOk n os)
theorem ordB_t {n : Nat} {os : List Int} : ordB n os = true ↔ ordOk n os := by simp [ordB]
theorem ordB_f {n : Nat} {os : List Int} : ordB n os = false ↔ ¬ ordOk n os := by simp [ordB]
def places (n : Nat) : List Int := (List.range n).map (fun (i : Nat) => (i : Int))
theorem places_nodup (n : Nat) : (places n).Nodup := by
  unfold places List.Nodup
  rw [List.pairwise_map]
  exact List.Pairwise.imp (fun h e => h (Int.ofNat.inj e)) (List.nodup_range (n := n))
theorem places_len (n : Nat) : (places n).length = n := by simp [places]
theorem mem_places {n : Nat} {a : Int} : a ∈ places n ↔ 0 ≤ a ∧ a ≤ (n : Int) - 1 := by
  unfold places
  rw [List.mem_map]
  constructor
  · rintro ⟨i, hi, rfl⟩
    have := List.mem_range.1 hi
    omega
  · rintro ⟨h1, h2⟩
    exact ⟨a.toNat, List.mem_range.2 (by omega), by omega⟩
theorem nodup_of_erase : ∀ (os : List Int), (∀ a, a ∉ os.erase a) → os.Nodup
  | [], _ => List.nodup_nil
  | x :: t, h => by
    have hx : x ∉ t := by have := h x; rwa [List.erase_cons_head] at this
    refine List.nodup_cons.2 ⟨hx, nodup_of_erase t (fun a ha => ?_)⟩
    have hat : a ∈ t := List.mem_of_mem_erase ha
    have hne : a ≠ x := fun e => hx (e ▸ hat)
    refine h a ?_
    rw [List.erase_cons_tail (by simpa using fun e => hne e.symm)]
    exact List.mem_cons_of_mem _ ha
theorem ordOk_of {n : Nat} {os : List Int} (hl : os.length = n) (hi : inN n os) (hd : os.Nodup) : ordOk n os := by
  refine ⟨hl, fun i hin => ?_⟩
  by_cases h : (i : Int) ∈ os
  · exact h
  · have h1 : ((i : Int) :: os).Nodup := List.nodup_cons.2 ⟨h, hd⟩
    have h2 : ((i : Int) :: os) ⊆ places n := by
      intro a ha
      rcases List.mem_cons.1 ha with rfl | ha
      · exact mem_places.2 (by omega)
      · exact mem_places.2 (hi a ha)
    have := List.Nodup.length_le_of_subset h1 h2
    rw [places_len, List.length_cons] at this
    omega
theorem ordOk.erase {n : Nat} {os : List Int} (h : ordOk n os) (a : Int) (ha : a ∈ os) (hsub : ∀ i : Nat, i < n → (i : Int) ∈ os.erase a) : False := by
  have h2 : places n ⊆ os.erase a := by
    intro b hb
    have := mem_places.1 hb
    have h3 := hsub b.toNat (by omega)
    rwa [Int.toNat_of_nonneg this.1] at h3
  have := List.Nodup.length_le_of_subset (places_nodup n) h2
  rw [places_len, List.length_erase_of_mem ha, h.1] at this
  have hp : 0 < os.length := List.length_pos_of_mem ha
  have := h.1
  omega
theorem ordOk.inN {n : Nat} {os : List Int} (h : ordOk n os) : inN n os := by
  intro a ha
  by_cases hin : 0 ≤ a ∧ a ≤ (n : Int) - 1
  · exact hin
  · exact (h.erase a ha (fun i hi => by
      rw [List.mem_erase_of_ne (by rintro rfl; exact hin (by omega))]
      exact h.2 i hi)).elim
theorem ordOk.nodup {n : Nat} {os : List Int} (h : ordOk n os) : os.Nodup := by
  refine nodup_of_erase os (fun a ha => ?_)
  refine h.erase a (List.mem_of_mem_erase ha) (fun i hi => ?_)
  by_cases e : (i : Int) = a
  · rw [e]; exact ha
  · rw [List.mem_erase_of_ne e]
    exact h.2 i hi
/-- What has been seen behind k numbers. -/
def seenTo (n : Nat) (os : List Int) (k : Nat) : List Bool := (List.range n).map (fun (j : Nat) => decide ((j : Int) ∈ os.take k))
theorem seenTo_len (n : Nat) (os : List Int) (k : Nat) : (seenTo n os k).length = n := by simp [seenTo]
theorem seenTo_zero (n : Nat) (os : List Int) : seenTo n os 0 = List.replicate n false := by
  apply List.ext_getElem
  · simp [seenTo]
  · intro i h1 h2
    simp [seenTo]
theorem seenTo_at (n : Nat) (os : List Int) (k j : Nat) (hj : j < n) : (seenTo n os k)[j]? = some (decide ((j : Int) ∈ os.take k)) := by simp [seenTo, hj]
theorem take_succ_at {os : List Int} {k : Nat} {x : Int} (h : os[k]? = some x) : os.take (k + 1) = os.take k ++ [x] := by
  obtain ⟨hk, rfl⟩ := List.getElem?_eq_some_iff.1 h
  exact List.take_succ_eq_append_getElem hk
theorem seenTo_set (n : Nat) (os : List Int) (k X : Nat) (h : os[k]? = some (X : Int)) : (seenTo n os k).set X true = seenTo n os (k + 1) := by
  apply List.ext_getElem
  · simp [seenTo]
  · intro i h1 h2
    rw [List.getElem_set]
    simp only [seenTo, List.getElem_map, List.getElem_range, take_succ_at h, List.mem_append, List.mem_singleton]
    by_cases e : X = i
    · subst e
      simp
    · rw [if_neg e]
      have : ¬ ((i : Int) = (X : Int)) := by omega
      simp [this]
theorem ordB_len {n : Nat} {os : List Int} (h : os.length ≠ n) : ordB n os = false := ordB_f.2 (fun k => h k.1)
/-- A number out of range. -/
theorem ordB_out {n : Nat} {os : List Int} {k : Nat} {x : Int} (h : os[k]? = some x) (hx : ¬ (0 ≤ x ∧ x ≤ (n : Int) - 1)) : ordB n os = false := ordB_f.2 (fun k => hx (k.inN x (List.mem_of_getElem? h)))
/-- A number twice. -/
theorem ordB_twice {n : Nat} {os : List Int} {k : Nat} {x : Int} (h : os[k]? = some x) (hx : x ∈ os.take k) : ordB n os = false := by
  refine ordB_f.2 (fun hk => ?_)
  have hd := hk.nodup
  have e : os = os.take k ++ os.drop k := (List.take_append_drop k os).symm
  have hdr : x ∈ os.drop k := by
    obtain ⟨hl, hxe⟩ := List.getElem?_eq_some_iff.1 h
    rw [List.drop_eq_getElem_cons hl, hxe]
    exact List.mem_cons_self
  rw [e] at hd
  exact (List.nodup_append.1 hd).2.2 x hx x hdr rfl
theorem nodup_snoc {os : List Int} {k : Nat} {x : Int} (h : os[k]? = some x) (hd : (os.take k).Nodup) (hx : x ∉ os.take k) : (os.take (k + 1)).Nodup := by
  rw [take_succ_at h, List.nodup_append]
  refine ⟨hd, by simp, fun a ha b hb => ?_⟩
  rw [List.mem_singleton] at hb
  rintro rfl
  exact hx (hb ▸ ha)
noncomputable def fitsB (xs : List Pt) (os : List Int) : Bool := stopsB xs && ordB xs.length os
noncomputable def tourLen (xs : List Pt) (os : List Int) : Int := if fitsB xs os then tourL xs os else -1
theorem tourLen_yes {xs : List Pt} {os : List Int} (h : fitsB xs os = true) : tourLen xs os = tourL xs os := by unfold tourLen; rw [h]; rfl
theorem tourLen_no {xs : List Pt} {os : List Int} (h : fitsB xs os = false) : tourLen xs os = -1 := by unfold tourLen; rw [h]; rfl
theorem fits_of {xs : List Pt} {os : List Int} (h : fitsB xs os = true) : stopsB xs = true ∧ ordOk xs.length os := by
  unfold fitsB at h
  rw [Bool.and_eq_true] at h
  exact ⟨h.1, ordB_t.1 h.2⟩
end Go.Proofs.Ythkleabdnjhniaa
