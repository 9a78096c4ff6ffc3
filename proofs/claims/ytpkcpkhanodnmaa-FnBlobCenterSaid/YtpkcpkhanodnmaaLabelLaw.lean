/-
  The numbers of a picture's connected sets, as plain lists.
-/
import Derived.Test.YtpkcpkhanodnmaaFillLaw
namespace Go.Proofs.Ytpkcpkhanodnmaa
open Go Go.RowKit
def zerosTo (ys : List (List Bool)) (k : Nat) : List (List Int) := (ys.take k).map fun r => List.replicate r.length 0
theorem zerosTo_len (ys : List (List Bool)) (k : Nat) (hk : k ≤ ys.length) : (zerosTo ys k).length = k := by simp [zerosTo]; omega
theorem zerosTo_succ {ys : List (List Bool)} {k : Nat} {r : List Bool} (h : ys[k]? = some r) : zerosTo ys (k + 1) = zerosTo ys k ++ [List.replicate r.length 0] := by
  obtain ⟨hk, rfl⟩ := List.getElem?_eq_some_iff.1 h
  unfold zerosTo
  rw [List.take_succ_eq_append_getElem hk, List.map_append]
  rfl
abbrev LSt := List (List Int) × Nat
open Classical in
noncomputable def lstep (ys : List (List Bool)) (st : LSt) (y x : Nat) : LSt := if fr ys st.1 (x, y) then (fillI ys st.1 x y ((st.2 : Int) + 1), st.2 + 1) else st
theorem lstep_yes {ys : List (List Bool)} {st : LSt} {y x : Nat} (h : fr ys st.1 (x, y)) : lstep ys st y x = (fillI ys st.1 x y ((st.2 : Int) + 1), st.2 + 1) := by unfold lstep; rw [if_pos h]
theorem lstep_no {ys : List (List Bool)} {st : LSt} {y x : Nat} (h : ¬ fr ys st.1 (x, y)) : lstep ys st y x = st := by unfold lstep; rw [if_neg h]
noncomputable def labX (ys : List (List Bool)) (y : Nat) (st : LSt) : Nat → LSt
  | 0 => st
  | x + 1 => lstep ys (labX ys y st x) y x
noncomputable def labY (ys : List (List Bool)) : Nat → LSt
  | 0 => (zerosTo ys ys.length, 0)
  | y + 1 => labX ys y (labY ys y) (ys.headD []).length
noncomputable def labels (ys : List (List Bool)) : List (List Int) := if imgB ys then (labY ys ys.length).1 else []
theorem labels_no {ys : List (List Bool)} (h : imgB ys = false) : labels ys = [] := by unfold labels; rw [h]; rfl
theorem labels_yes {ys : List (List Bool)} (h : imgB ys = true) : labels ys = (labY ys ys.length).1 := by unfold labels; rw [h]; rfl
theorem zeros_dims (ys : List (List Bool)) : dims ys (zerosTo ys ys.length) := by
  refine ⟨zerosTo_len ys _ (Nat.le_refl _), fun k r s hr hs => ?_⟩
  unfold zerosTo at hs
  rw [List.take_length, List.getElem?_map, hr] at hs
  simp at hs
  rw [← hs]
  simp
theorem lstep_dims {ys : List (List Bool)} {st : LSt} (h : dims ys st.1) (y x : Nat) : dims ys (lstep ys st y x).1 := by
  by_cases hf : fr ys st.1 (x, y)
  · rw [lstep_yes hf]; exact fillI_dims h _ _ _
  · rw [lstep_no hf]; exact h
theorem labX_dims {ys : List (List Bool)} {st : LSt} (h : dims ys st.1) (y : Nat) : ∀ x, dims ys (labX ys y st x).1
  | 0 => h
  | x + 1 => lstep_dims (labX_dims h y x) y x
theorem labY_dims (ys : List (List Bool)) : ∀ y, dims ys (labY ys y).1
  | 0 => zeros_dims ys
  | y + 1 => labX_dims (labY_dims ys y) y _
theorem lstep_num (ys : List (List Bool)) (st : LSt) (y x : Nat) : st.2 ≤ (lstep ys st y x).2 ∧ (lstep ys st y x).2 ≤ st.2 + 1 := by
  by_cases hf : fr ys st.1 (x, y)
  · rw [lstep_yes hf]; simp
  · rw [lstep_no hf]; omega
theorem labX_num (ys : List (List Bool)) (y : Nat) (st : LSt) : ∀ x, (labX ys y st x).2 ≤ st.2 + x
  | 0 => Nat.le_refl _
  | x + 1 => by
    have h1 := labX_num ys y st x
    have h2 := (lstep_num ys (labX ys y st x) y x).2
    show (lstep ys _ y x).2 ≤ _
    omega
theorem imgOk_dims {ys : List (List Bool)} (h : imgOk ys) : ys.length ≤ 16 ∧ (ys.headD []).length ≤ 16 := by
  refine ⟨h.2.1, ?_⟩
  cases ys with
  | nil => simp
  | cons y ys => exact (h.2.2 0 y rfl).2.1
theorem labY_num {ys : List (List Bool)} (h : imgOk ys) : ∀ y, (labY ys y).2 ≤ y * 16
  | 0 => Nat.le_refl _
  | y + 1 => by
    have h1 := labY_num h y
    have h2 := labX_num ys y (labY ys y) (ys.headD []).length
    have h3 := (imgOk_dims h).2
    show (labX ys y (labY ys y) _).2 ≤ _
    omega
theorem dims_total {ys : List (List Bool)} (h : imgOk ys) {g : List (List Int)} (hd : dims ys g) : total g ≤ 16 * 16 := by
  have h1 : ∀ r ∈ g, r.length ≤ 16 := by
    intro r hr
    obtain ⟨k, hk, rfl⟩ := List.getElem_of_mem hr
    have h2 := hd.2 k (ys[k]'(by rw [← hd.1]; exact hk)) g[k] (List.getElem?_eq_getElem _) (List.getElem?_eq_getElem hk)
    have h3 := (h.2.2 k (ys[k]'(by rw [← hd.1]; exact hk)) (List.getElem?_eq_getElem _)).2.1
    omega
  have h2 : g.length ≤ 16 := by rw [hd.1]; exact h.2.1
  have key : ∀ l : List (List Int), (∀ r ∈ l, r.length ≤ 16) → total l ≤ 16 * l.length := by
    intro l
    induction l with
    | nil => simp [total]
    | cons r l ih =>
      intro hl
      have h3 := hl r List.mem_cons_self
      have h4 := ih (fun r hr => hl r (List.mem_cons_of_mem _ hr))
      simp [total] at *
      omega
  have := key g h1
  omega
theorem labels_tot (ys : List (List Bool)) : total (labels ys) ≤ 1000 := by
  by_cases h : imgB ys = true
  · rw [labels_yes h]
    have := dims_total (imgB_t.1 h) (labY_dims ys ys.length)
    omega
  · rw [labels_no (by simpa using h)]
    simp [total]
end Go.Proofs.Ytpkcpkhanodnmaa
