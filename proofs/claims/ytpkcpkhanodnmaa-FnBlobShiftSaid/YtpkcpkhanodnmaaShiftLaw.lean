/-
  A picture with an empty column at its left: its numbers and its sets; plain facts.
-/
import Derived.Test.YtpkcpkhanodnmaaBlobLaw
namespace Go.Proofs.Ytpkcpkhanodnmaa
open Go Go.RowKit
def wideB (ys : List (List Bool)) : List (List Bool) := ys.map fun r => false :: r
def wideI (g : List (List Int)) : List (List Int) := g.map fun r => 0 :: r
theorem wide_head {ys : List (List Bool)} (h : 1 ≤ ys.length) : ((wideB ys).headD []).length = (ys.headD []).length + 1 := by
  cases ys with
  | nil => simp at h
  | cons a ys => simp [wideB]
theorem wide_ok {ys : List (List Bool)} (h : imgB ys = true) (hw : (ys.headD []).length < 16) : imgB (wideB ys) = true := by
  rw [imgB_t] at h ⊢
  obtain ⟨h1, h2, h3⟩ := h
  refine ⟨by simpa [wideB] using h1, by simpa [wideB] using h2, fun k y hy => ?_⟩
  rw [wide_head h1]
  unfold wideB at hy
  rw [List.getElem?_map] at hy
  cases hk : ys[k]? with
  | none => rw [hk] at hy; cases hy
  | some r =>
    rw [hk] at hy
    simp at hy
    subst hy
    have := h3 k r hk
    unfold rowOk at *
    rw [List.length_cons]
    omega
theorem pix_sh0 (ys : List (List Bool)) (y : Nat) : pix (wideB ys) ((0 : Nat) : Int) (y : Int) = false := by
  unfold pix wideB
  rw [if_pos ⟨by omega, by omega⟩]
  simp only [Int.toNat_natCast]
  rw [List.getD_eq_getElem?_getD, List.getD_eq_getElem?_getD, List.getElem?_map]
  cases ys[y]? <;> rfl
theorem pix_sh (ys : List (List Bool)) (x y : Nat) : pix (wideB ys) ((x + 1 : Nat) : Int) (y : Int) = pix ys x y := by
  unfold pix wideB
  rw [if_pos ⟨by omega, by omega⟩, if_pos ⟨by omega, by omega⟩]
  simp only [Int.toNat_natCast]
  rw [List.getD_eq_getElem?_getD, List.getD_eq_getElem?_getD, List.getD_eq_getElem?_getD, List.getD_eq_getElem?_getD, List.getElem?_map]
  cases ys[y]? <;> rfl
theorem gr_wide (g : List (List Int)) (x y : Nat) : gr (wideI g) (x + 1) y = gr g x y := by
  unfold gr wideI
  rw [List.getD_eq_getElem?_getD, List.getD_eq_getElem?_getD, List.getD_eq_getElem?_getD, List.getD_eq_getElem?_getD, List.getElem?_map]
  cases g[y]? <;> rfl
theorem fr_wide {ys : List (List Bool)} {g : List (List Int)} (x y : Nat) : fr (wideB ys) (wideI g) (x + 1, y) ↔ fr ys g (x, y) := by
  unfold fr
  simp only
  rw [pix_sh, gr_wide]
theorem fr_wide0 {ys : List (List Bool)} {g : List (List Int)} (y : Nat) : ¬ fr (wideB ys) (wideI g) (0, y) := by
  intro h
  have := h.1
  simp only at this
  rw [pix_sh0] at this
  cases this
theorem adj_wide {a b c d : Nat} : adj (a + 1, b) (c + 1, d) ↔ adj (a, b) (c, d) := by
  unfold adj
  simp only
  omega
theorem rch_wide {ys : List (List Bool)} {g : List (List Int)} {x y : Nat} {r : Px} (h : Rch (fr (wideB ys) (wideI g)) (x + 1, y) r) : ∃ a, r = (a + 1, r.2) ∧ Rch (fr ys g) (x, y) (a, r.2) := by
  induction h with
  | base h => exact ⟨x, rfl, .base ((fr_wide x y).1 h)⟩
  | @step q r _ ha hr ih =>
    obtain ⟨a, e, ih⟩ := ih
    obtain ⟨r1, r2⟩ := r
    cases r1 with
    | zero => exact absurd hr (fr_wide0 r2)
    | succ c =>
      rw [e] at ha
      exact ⟨c, rfl, .step ih (adj_wide.1 ha) ((fr_wide c r2).1 hr)⟩
theorem rch_wide2 {ys : List (List Bool)} {g : List (List Int)} {x y : Nat} {r : Px} (h : Rch (fr ys g) (x, y) r) : Rch (fr (wideB ys) (wideI g)) (x + 1, y) (r.1 + 1, r.2) := by
  induction h with
  | base h => exact .base ((fr_wide x y).2 h)
  | @step q r _ ha hr ih => exact .step ih (adj_wide.2 ha) ((fr_wide r.1 r.2).2 hr)
theorem mark_wide (g : List (List Int)) (D E : Px → Prop) (n : Int) (h0 : ∀ y, ¬ E (0, y)) (h : ∀ x y, E (x + 1, y) ↔ D (x, y)) : mark (wideI g) E n = wideI (mark g D n) := by
  unfold mark wideI
  apply List.ext_getElem?
  intro y
  rw [List.getElem?_mapIdx, List.getElem?_map, List.getElem?_map, List.getElem?_mapIdx]
  cases hg : g[y]? with
  | none => rfl
  | some s =>
    simp only [Option.map_some]
    congr 1
    apply List.ext_getElem?
    intro x
    rw [List.getElem?_mapIdx]
    cases x with
    | zero => simp [h0 y]
    | succ x =>
      rw [List.getElem?_cons_succ, List.getElem?_cons_succ, List.getElem?_mapIdx]
      cases hs : s[x]? with
      | none => rfl
      | some v =>
        simp only [Option.map_some]
        congr 1
        by_cases hD : D (x, y)
        · rw [if_pos hD, if_pos ((h x y).2 hD)]
        · rw [if_neg hD, if_neg (fun e => hD ((h x y).1 e))]
theorem fill_wide {ys : List (List Bool)} {g : List (List Int)} (x y : Nat) (n : Int) : fillI (wideB ys) (wideI g) ((x + 1 : Nat) : Int) y n = wideI (fillI ys g x y n) := by
  unfold fillI
  refine mark_wide g _ _ n (fun b h => ?_) (fun a b => ?_)
  · obtain ⟨_, _, h⟩ := h
    exact absurd h.in (fr_wide0 b)
  · constructor
    · rintro ⟨_, _, h⟩
      simp only [Int.toNat_natCast] at h
      obtain ⟨c, e, h⟩ := rch_wide h
      have : a = c := by
        have := congrArg Prod.fst e
        simpa using this
      subst this
      exact ⟨by omega, by omega, h⟩
    · rintro ⟨_, _, h⟩
      exact ⟨by omega, by omega, rch_wide2 h⟩
def wideS (st : LSt) : LSt := (wideI st.1, st.2)
theorem lstep_wide0 {ys : List (List Bool)} (st : LSt) (y : Nat) : lstep (wideB ys) (wideS st) y 0 = wideS st := lstep_no (fr_wide0 y)
theorem lstep_wide {ys : List (List Bool)} (st : LSt) (y x : Nat) : lstep (wideB ys) (wideS st) y (x + 1) = wideS (lstep ys st y x) := by
  by_cases h : fr ys st.1 (x, y)
  · rw [lstep_yes h, lstep_yes (show fr (wideB ys) (wideS st).1 (x + 1, y) from (fr_wide x y).2 h)]
    show (fillI _ (wideI st.1) _ _ _, _) = (wideI (fillI _ _ _ _ _), _)
    rw [fill_wide]
    rfl
  · rw [lstep_no h, lstep_no (show ¬ fr (wideB ys) (wideS st).1 (x + 1, y) from fun e => h ((fr_wide x y).1 e))]
theorem labX_wide {ys : List (List Bool)} (st : LSt) (y : Nat) : ∀ x, labX (wideB ys) y (wideS st) (x + 1) = wideS (labX ys y st x)
  | 0 => lstep_wide0 st y
  | x + 1 => by
    show lstep _ (labX (wideB ys) y (wideS st) (x + 1)) y (x + 1) = _
    rw [labX_wide st y x, lstep_wide]
    rfl
theorem labY_wide {ys : List (List Bool)} (h : 1 ≤ ys.length) : ∀ y, labY (wideB ys) y = wideS (labY ys y)
  | 0 => by
    show (zerosTo (wideB ys) _, 0) = (wideI (zerosTo ys _), 0)
    congr 1
    unfold zerosTo wideI wideB
    rw [List.take_length, List.take_length, List.map_map, List.map_map]
    rfl
  | y + 1 => by
    show labX _ y (labY (wideB ys) y) _ = _
    rw [labY_wide h y, wide_head h, labX_wide]
    rfl
theorem labels_wide {ys : List (List Bool)} (h : imgB ys = true) (hw : (ys.headD []).length < 16) : labels (wideB ys) = wideI (labels ys) := by
  rw [labels_yes h, labels_yes (wide_ok h hw), labY_wide (imgB_t.1 h).1, show (wideB ys).length = ys.length by simp [wideB]]
  rfl
/-! ### The sets -/
def shB (b : Blb) : Blb := ⟨b.Size, b.SumX + b.Size, b.SumY, b.Left + 1, b.Right + 1, b.Top, b.Bottom⟩
theorem add_sh (b : Blb) (x y : Nat) : addB (shB b) (x + 1) y = shB (addB b x y) := by
  unfold addB shB
  simp only
  congr 1 <;> omega
theorem grow_sh (st : List Blb) (n : Int) (x y : Nat) : grow (st.map shB) n (x + 1) y = (grow st n x y).map shB := by
  unfold grow
  rw [List.length_map]
  split
  · rw [List.map_append]
    simp [shB, newB]
  · rfl
theorem bstep_sh (st : List Blb) (n : Int) (x y : Nat) (h0 : 0 ≤ n) (h1 : n ≤ (st.length : Int) + 1) : bstep (st.map shB) n (x + 1) y = (bstep st n x y).map shB := by
  unfold bstep
  split
  · rfl
  · rename_i hn
    rw [grow_sh]
    have hl : n.toNat - 1 < (grow st n x y).length := by
      rw [grow_len]
      split <;> omega
    rw [List.map_set]
    congr 1
    rw [List.getD_eq_getElem?_getD, List.getD_eq_getElem?_getD, List.getElem?_map, List.getElem?_eq_getElem hl]
    exact add_sh _ _ _
theorem blobX_sh {ys : List (List Bool)} (h : imgB ys = true) {y : Nat} (hy : y < ys.length) : ∀ x, x ≤ (ys.headD []).length → blobX (wideI (labels ys)) y ((blobY ys (labels ys) y).map shB) (x + 1) = (blobX (labels ys) y (blobY ys (labels ys) y) x).map shB
  | 0, _ => by
    show bstep _ (gr (wideI (labels ys)) 0 y) 0 y = _
    have : gr (wideI (labels ys)) 0 y = 0 := by
      unfold gr wideI
      rw [List.getD_eq_getElem?_getD, List.getD_eq_getElem?_getD, List.getElem?_map]
      cases (labels ys)[y]? <;> rfl
    rw [this, bstep_zero]
    rfl
  | x + 1, hx => by
    obtain ⟨h1, h2⟩ := blob_num h hy (show x < _ by omega)
    show bstep (blobX _ _ _ (x + 1)) (gr (wideI (labels ys)) (x + 1) y) (x + 1) y = _
    rw [blobX_sh h hy x (by omega), gr_wide, bstep_sh _ _ _ _ h1 h2]
    rfl
theorem blobY_sh {ys : List (List Bool)} (h : imgB ys = true) : ∀ y, y ≤ ys.length → blobY (wideB ys) (wideI (labels ys)) y = (blobY ys (labels ys) y).map shB
  | 0, _ => rfl
  | y + 1, hy => by
    show blobX _ y (blobY _ _ y) _ = _
    rw [blobY_sh h y (by omega), wide_head (imgB_t.1 h).1, blobX_sh h (by omega) _ (Nat.le_refl _)]
    rfl
theorem blobs_sh {ys : List (List Bool)} (h : imgB ys = true) (hw : (ys.headD []).length < 16) : blobs (wideB ys) = (blobs ys).map shB := by
  rw [blobs_yes h, blobs_yes (wide_ok h hw), labels_wide h hw, show (wideB ys).length = ys.length by simp [wideB]]
  exact blobY_sh h _ (Nat.le_refl _)
end Go.Proofs.Ytpkcpkhanodnmaa
