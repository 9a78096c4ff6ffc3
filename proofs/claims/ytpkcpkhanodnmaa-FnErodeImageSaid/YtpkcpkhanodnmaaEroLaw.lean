/-
  Erosion as plain pictures: what stays true, and that after nine erosions nothing does.
-/
import Derived.Test.YtpkcpkhanodnmaaErode
import Derived.Test.YtpkcpkhanodnmaaBlobLaw
namespace Go.Proofs.Ytpkcpkhanodnmaa
open Go Go.RowKit
theorem pix_true {ys : List (List Bool)} {x y : Int} (h : pix ys x y = true) : ∃ X Y : Nat, x = X ∧ y = Y ∧ ∃ r, ys[Y]? = some r ∧ r[X]? = some true := by
  unfold pix at h
  split at h
  · rename_i hh
    refine ⟨x.toNat, y.toNat, by omega, by omega, ?_⟩
    rw [List.getD_eq_getElem?_getD, List.getD_eq_getElem?_getD] at h
    cases h1 : ys[y.toNat]? with
    | none => rw [h1] at h; simp at h
    | some r =>
      rw [h1] at h
      refine ⟨r, rfl, ?_⟩
      simp only [Option.getD_some] at h
      cases h2 : r[x.toNat]? with
      | none => rw [h2] at h; cases h
      | some b => rw [h2] at h; simp only [Option.getD_some] at h; rw [h]
  · cases h
theorem pix_box {ys : List (List Bool)} (hok : imgOk ys) {x y : Int} (h : pix ys x y = true) : 0 ≤ x ∧ x < ((ys.headD []).length : Int) ∧ 0 ≤ y ∧ y < (ys.length : Int) := by
  obtain ⟨X, Y, rfl, rfl, r, h1, h2⟩ := pix_true h
  have := imgOk_row hok h1
  have hx := (List.getElem?_eq_some_iff.1 h2).1
  have hy := (List.getElem?_eq_some_iff.1 h1).1
  omega
theorem erode_ok {ys : List (List Bool)} (h : imgB ys = true) : imgB (erode ys) = true ∧ ((erode ys).headD []).length = (ys.headD []).length ∧ (erode ys).length = ys.length := by
  have hok := imgB_t.1 h
  have hl := erode_len hok
  obtain ⟨h1, h2, h3⟩ := hok
  have hrow : ∀ (k : Nat) y, (erode ys)[k]? = some y → y.length = (ys.headD []).length := by
    intro k y hy
    rw [erode_yes h, List.getElem?_map] at hy
    cases hk : (List.range ys.length)[k]? with
    | none => rw [hk] at hy; cases hy
    | some m =>
      rw [hk] at hy
      simp only [Option.map_some, Option.some.injEq] at hy
      rw [← hy]
      simp [erRow]
  have hw : 1 ≤ (ys.headD []).length ∧ (ys.headD []).length ≤ 16 := by
    cases ys with
    | nil => simp at h1
    | cons a t => have := h3 0 a rfl; exact ⟨this.1, this.2.1⟩
  have hhd : ((erode ys).headD []).length = (ys.headD []).length := by
    cases he : erode ys with
    | nil => rw [he] at hl; simp at hl; omega
    | cons a t => exact hrow 0 a (by rw [he]; rfl)
  refine ⟨imgB_t.2 ⟨by omega, by omega, fun k y hy => ?_⟩, hhd, hl⟩
  have := hrow k y hy
  unfold rowOk
  omega
theorem er_five {ys : List (List Bool)} {Y X : Nat} (h : er ys Y X = true) : pix ys X Y = true ∧ pix ys ((X : Int) - 1) Y = true ∧ pix ys ((X : Int) + 1) Y = true ∧ pix ys X ((Y : Int) - 1) = true ∧ pix ys X ((Y : Int) + 1) = true := by
  unfold er at h
  simp only [Bool.and_eq_true] at h
  obtain ⟨⟨⟨⟨a, b⟩, c⟩, d⟩, e⟩ := h
  exact ⟨a, b, c, d, e⟩
theorem pix_erode {ys : List (List Bool)} (h : imgB ys = true) {x y : Int} (hp : pix (erode ys) x y = true) : ∃ X Y : Nat, x = X ∧ y = Y ∧ er ys Y X = true := by
  obtain ⟨X, Y, rfl, rfl, r, h1, h2⟩ := pix_true hp
  refine ⟨X, Y, rfl, rfl, ?_⟩
  rw [erode_yes h, List.getElem?_map] at h1
  cases hk : (List.range ys.length)[Y]? with
  | none => rw [hk] at h1; cases h1
  | some m =>
    rw [hk] at h1
    simp only [Option.map_some, Option.some.injEq] at h1
    have hm : m = Y := by
      have := (List.getElem?_eq_some_iff.1 hk).2
      simpa using this.symm
    subst hm h1
    unfold erRow at h2
    rw [List.getElem?_map] at h2
    cases hj : (List.range (ys.headD []).length)[X]? with
    | none => rw [hj] at h2; cases h2
    | some m' =>
      rw [hj] at h2
      have hm' : m' = X := by
        have := (List.getElem?_eq_some_iff.1 hj).2
        simpa using this.symm
      subst hm'
      simpa using h2
noncomputable def erN : Nat → List (List Bool) → List (List Bool)
  | 0, ys => ys
  | j + 1, ys => erode (erN j ys)
theorem erN_ok {ys : List (List Bool)} (h : imgB ys = true) : ∀ j, imgB (erN j ys) = true ∧ ((erN j ys).headD []).length = (ys.headD []).length ∧ (erN j ys).length = ys.length
  | 0 => ⟨h, rfl, rfl⟩
  | j + 1 => by
    obtain ⟨a, b, c⟩ := erN_ok h j
    obtain ⟨d, e, f⟩ := erode_ok a
    exact ⟨d, e.trans b, f.trans c⟩
theorem erN_in {ys : List (List Bool)} (h : imgB ys = true) : ∀ (j : Nat) (x y : Int), pix (erN j ys) x y = true → (j : Int) ≤ x ∧ x + j < ((ys.headD []).length : Int) ∧ (j : Int) ≤ y ∧ y + j < (ys.length : Int)
  | 0, x, y, hp => by
    have := pix_box (imgB_t.1 h) hp
    omega
  | j + 1, x, y, hp => by
    obtain ⟨X, Y, rfl, rfl, he⟩ := pix_erode (erN_ok h j).1 hp
    obtain ⟨_, h2, h3, h4, h5⟩ := er_five he
    have a := erN_in h j _ _ h2
    have b := erN_in h j _ _ h3
    have c := erN_in h j _ _ h4
    have d := erN_in h j _ _ h5
    omega
theorem labX_none {ys : List (List Bool)} (hp : ∀ x y : Int, pix ys x y = false) (st : LSt) (y : Nat) : ∀ x, labX ys y st x = st
  | 0 => rfl
  | x + 1 => by
    show lstep ys (labX ys y st x) y x = st
    rw [labX_none hp st y x]
    refine lstep_no (fun hf => ?_)
    have := hf.1
    rw [hp] at this
    cases this
theorem labY_none {ys : List (List Bool)} (hp : ∀ x y : Int, pix ys x y = false) : ∀ y, (labY ys y).2 = 0
  | 0 => rfl
  | y + 1 => by
    show (labX ys y (labY ys y) _).2 = 0
    rw [labX_none hp]
    exact labY_none hp y
theorem blobs_none {ys : List (List Bool)} (h : imgB ys = true) (hp : ∀ x y : Int, pix ys x y = false) : blobs ys = [] := by
  rw [blobs_yes h]
  refine List.eq_nil_of_length_eq_zero ?_
  rw [blobY_num h ys.length (Nat.le_refl _)]
  exact labY_none hp _
theorem erN_nine {ys : List (List Bool)} (h : imgB ys = true) : blobs (erN 9 ys) = [] := by
  refine blobs_none (erN_ok h 9).1 (fun x y => ?_)
  cases hp : pix (erN 9 ys) x y with
  | false => rfl
  | true =>
    have := erN_in h 9 x y hp
    have := (imgOk_size (imgB_t.1 h)).2
    omega
/-- What the law asks of a sample. -/
theorem er_edge {ys : List (List Bool)} (h : imgB ys = true) {Y X : Nat} (he : er ys Y X = true) : pix ys X Y = true ∧ 1 ≤ X ∧ X + 1 < (ys.headD []).length ∧ 1 ≤ Y ∧ Y + 1 < ys.length := by
  obtain ⟨h1, h2, h3, h4, h5⟩ := er_five he
  have a := pix_box (imgB_t.1 h) h2
  have b := pix_box (imgB_t.1 h) h3
  have c := pix_box (imgB_t.1 h) h4
  have d := pix_box (imgB_t.1 h) h5
  exact ⟨h1, by omega, by omega, by omega, by omega⟩
theorem pix_er {ys : List (List Bool)} (h : imgB ys = true) {Y X : Nat} (hY : Y < ys.length) (hX : X < (ys.headD []).length) : pix (erode ys) X Y = er ys Y X := by
  refine pix_at (r := erRow ys Y) ?_ ?_
  · rw [erode_yes h]
    simp [hY]
  · simp only [erRow]
    rw [List.getElem?_map, List.getElem?_range hX]
    rfl
end Go.Proofs.Ytpkcpkhanodnmaa
