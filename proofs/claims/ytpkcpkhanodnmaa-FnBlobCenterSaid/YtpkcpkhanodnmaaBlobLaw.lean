/-
  The sets of a picture, as plain lists; what the numbers are, place by place.
-/
import Derived.Test.YtpkcpkhanodnmaaLabelLaw
import Derived.Test.YtpkcpkhanodnmaaBlobS
namespace Go.Proofs.Ytpkcpkhanodnmaa
open Go Go.RowKit
/-! ### The numbers, place by place -/
structure LVal (ys : List (List Bool)) (st : LSt) : Prop where
  d : dims ys st.1
  val : ∀ x y, gr st.1 x y = 0 ∨ (1 ≤ gr st.1 x y ∧ gr st.1 x y ≤ (st.2 : Int) ∧ pix ys x y = true)
theorem gr_dims {ys : List (List Bool)} {g : List (List Int)} (hd : dims ys g) {x y : Nat} (h : ∃ s, g[y]? = some s ∧ x < s.length) : True := trivial
theorem gr_none {g : List (List Int)} {x y : Nat} (h : ¬ ∃ s, g[y]? = some s ∧ x < s.length) : gr g x y = 0 := by
  unfold gr
  rw [List.getD_eq_getElem?_getD, List.getD_eq_getElem?_getD]
  cases hy : g[y]? with
  | none => simp
  | some s =>
    by_cases hx : x < s.length
    · exact absurd ⟨s, hy, hx⟩ h
    · simp [List.getElem?_eq_none (show s.length ≤ x by omega)]
theorem gr_fill {ys : List (List Bool)} {g : List (List Int)} (hd : dims ys g) (X Y : Nat) (n : Int) (x y : Nat) : gr (fillI ys g X Y n) x y = gr g x y ∨ (gr (fillI ys g X Y n) x y = n ∧ gr g x y = 0 ∧ pix ys x y = true) := by
  by_cases h : ∃ s, g[y]? = some s ∧ x < s.length
  · obtain ⟨s, h1, h2⟩ := h
    obtain ⟨k1, k2⟩ := gr_mark (D := RI (fr ys g) X Y) (n := n) h1 h2
    by_cases hD : RI (fr ys g) X Y (x, y)
    · exact .inr ⟨k1 hD, hD.2.2.in.2, hD.2.2.in.1⟩
    · exact .inl (k2 hD)
  · left
    rw [gr_none h, gr_none]
    rintro ⟨s, h1, h2⟩
    obtain ⟨s', h3, h4⟩ := mark_row _ _ h1
    exact h ⟨s', h3, by omega⟩
theorem gr_fill_self {ys : List (List Bool)} {g : List (List Int)} (hd : dims ys g) {X Y : Nat} {n : Int} (hf : fr ys g (X, Y)) : gr (fillI ys g X Y n) X Y = n := by
  obtain ⟨s, h1, h2⟩ := dims_in hd hf.1
  exact (gr_mark (D := RI (fr ys g) X Y) (n := n) h1 h2).1 ⟨by omega, by omega, .base hf⟩
theorem LVal.start (ys : List (List Bool)) : LVal ys (labY ys 0) := by
  refine ⟨zeros_dims ys, fun x y => .inl ?_⟩
  show gr (zerosTo ys ys.length) x y = 0
  unfold gr zerosTo
  rw [List.take_length, List.getD_eq_getElem?_getD, List.getD_eq_getElem?_getD, List.getElem?_map]
  cases ys[y]? with
  | none => simp
  | some r =>
    simp only [Option.map_some, Option.getD_some]
    by_cases hx : x < r.length
    · simp [hx]
    · rw [List.getElem?_eq_none (by simp; omega)]; rfl
theorem LVal.step {ys : List (List Bool)} {st : LSt} (h : LVal ys st) (y x : Nat) : LVal ys (lstep ys st y x) := by
  by_cases hf : fr ys st.1 (x, y)
  · rw [lstep_yes hf]
    refine ⟨fillI_dims h.d _ _ _, fun a b => ?_⟩
    have hv := h.val a b
    simp only
    rcases gr_fill h.d x y ((st.2 : Int) + 1) a b with e | ⟨e, _, e2⟩
    · rw [e]
      rcases hv with h1 | ⟨h1, h2, h3⟩
      · exact .inl h1
      · exact .inr ⟨h1, by omega, h3⟩
    · rw [e]
      exact .inr ⟨by omega, by omega, e2⟩
  · rw [lstep_no hf]; exact h
theorem LVal.stays {ys : List (List Bool)} {st : LSt} (h : LVal ys st) (y x a b : Nat) (hn : gr st.1 a b ≠ 0) : gr (lstep ys st y x).1 a b = gr st.1 a b := by
  by_cases hf : fr ys st.1 (x, y)
  · rw [lstep_yes hf]
    rcases gr_fill h.d x y ((st.2 : Int) + 1) a b with e | ⟨_, e, _⟩
    · exact e
    · exact absurd e hn
  · rw [lstep_no hf]
theorem labX_val {ys : List (List Bool)} {st : LSt} (h : LVal ys st) (y : Nat) : ∀ x, LVal ys (labX ys y st x)
  | 0 => h
  | x + 1 => (labX_val h y x).step y x
theorem labY_val (ys : List (List Bool)) : ∀ y, LVal ys (labY ys y)
  | 0 => LVal.start ys
  | y + 1 => labX_val (labY_val ys y) y _
theorem labX_stays {ys : List (List Bool)} {st : LSt} (h : LVal ys st) (y a b : Nat) (x x' : Nat) (hx : x ≤ x') (hn : gr (labX ys y st x).1 a b ≠ 0) : gr (labX ys y st x').1 a b = gr (labX ys y st x).1 a b := by
  induction x' with
  | zero => obtain rfl : x = 0 := by omega
            rfl
  | succ x' ih =>
    by_cases e : x = x' + 1
    · rw [e]
    · have h1 := ih (by omega)
      show gr (lstep ys _ y x').1 a b = _
      rw [(labX_val h y x').stays y x' a b (by rw [h1]; exact hn), h1]
theorem labY_stays (ys : List (List Bool)) (a b : Nat) (y y' : Nat) (hy : y ≤ y') (hn : gr (labY ys y).1 a b ≠ 0) : gr (labY ys y').1 a b = gr (labY ys y).1 a b := by
  induction y' with
  | zero => obtain rfl : y = 0 := by omega
            rfl
  | succ y' ih =>
    by_cases e : y = y' + 1
    · rw [e]
    · have h1 := ih (by omega)
      have h2 := labX_stays (labY_val ys y') y' a b 0 (ys.headD []).length (Nat.zero_le _) (by show gr (labY ys y').1 a b ≠ 0; rw [h1]; exact hn)
      show gr (labX ys y' (labY ys y') _).1 a b = _
      rw [h2]
      exact h1
/-- What is set behind place (y, x) is what the whole has. -/
theorem lab_final {ys : List (List Bool)} {y x : Nat} (hy : y < ys.length) (hx : x ≤ (ys.headD []).length) (a b : Nat) (hn : gr (labX ys y (labY ys y) x).1 a b ≠ 0) : gr (labY ys ys.length).1 a b = gr (labX ys y (labY ys y) x).1 a b := by
  have h1 := labX_stays (labY_val ys y) y a b x _ hx hn
  have h2 := labY_stays ys a b (y + 1) ys.length hy (by show gr (labX ys y (labY ys y) _).1 a b ≠ 0; rw [h1]; exact hn)
  rw [h2]
  exact h1
theorem step_set {ys : List (List Bool)} {st : LSt} (h : LVal ys st) {y x : Nat} (hp : pix ys x y = true) : gr (lstep ys st y x).1 x y ≠ 0 := by
  by_cases hf : fr ys st.1 (x, y)
  · rw [lstep_yes hf]
    rw [gr_fill_self h.d hf]
    omega
  · rw [lstep_no hf]
    intro h0
    exact hf ⟨hp, h0⟩
/-- The number of a sample, against how many there were before it. -/
theorem lab_num {ys : List (List Bool)} {y x : Nat} (hy : y < ys.length) (hx : x < (ys.headD []).length) :
    (pix ys x y = false ∧ gr (labY ys ys.length).1 x y = 0 ∧ (labX ys y (labY ys y) (x + 1)).2 = (labX ys y (labY ys y) x).2) ∨
    (pix ys x y = true ∧ 1 ≤ gr (labY ys ys.length).1 x y ∧ gr (labY ys ys.length).1 x y ≤ ((labX ys y (labY ys y) x).2 : Int) ∧ (labX ys y (labY ys y) (x + 1)).2 = (labX ys y (labY ys y) x).2) ∨
    (pix ys x y = true ∧ gr (labY ys ys.length).1 x y = ((labX ys y (labY ys y) x).2 : Int) + 1 ∧ (labX ys y (labY ys y) (x + 1)).2 = (labX ys y (labY ys y) x).2 + 1) := by
  have V := labX_val (labY_val ys y) y x
  have V1 := labX_val (labY_val ys y) y (x + 1)
  cases hp : pix ys x y with
  | false =>
    left
    refine ⟨rfl, ?_, ?_⟩
    · rcases (labY_val ys ys.length).val x y with h | ⟨_, _, h⟩
      · exact h
      · rw [hp] at h; cases h
    · show (lstep ys _ y x).2 = _
      rw [lstep_no (fun h => by have := h.1; simp only at this; rw [hp] at this; cases this)]
  | true =>
    right
    have hs := step_set V hp
    have hfin := lab_final hy hx x y (show gr (labX ys y (labY ys y) (x + 1)).1 x y ≠ 0 from hs)
    by_cases hf : fr ys (labX ys y (labY ys y) x).1 (x, y)
    · right
      refine ⟨rfl, ?_, ?_⟩
      · rw [hfin]
        show gr (lstep ys _ y x).1 x y = _
        rw [lstep_yes hf]
        exact gr_fill_self V.d hf
      · show (lstep ys _ y x).2 = _
        rw [lstep_yes hf]
    · left
      have e : labX ys y (labY ys y) (x + 1) = labX ys y (labY ys y) x := lstep_no hf
      refine ⟨rfl, ?_, ?_, by rw [e]⟩
      · rw [hfin]
        rcases V1.val x y with h | ⟨h, _, _⟩
        · exact absurd h hs
        · exact h
      · rw [hfin]
        rcases V1.val x y with h | ⟨_, h, _⟩
        · exact absurd h hs
        · rw [e] at h ⊢; exact h
/-! ### The sets -/
def addB (b : Blb) (x y : Nat) : Blb := ⟨b.Size + 1, b.SumX + x, b.SumY + y, min b.Left x, max b.Right x, min b.Top y, max b.Bottom y⟩
def newB (x y : Nat) : Blb := ⟨0, 0, 0, x, x, y, y⟩
instance : Inhabited Blb := ⟨⟨0, 0, 0, 0, 0, 0, 0⟩⟩
def grow (st : List Blb) (n : Int) (x y : Nat) : List Blb := if (st.length : Int) < n then st ++ [newB x y] else st
def bstep (st : List Blb) (n : Int) (x y : Nat) : List Blb := if n = 0 then st else (grow st n x y).set (n.toNat - 1) (addB ((grow st n x y).getD (n.toNat - 1) default) x y)
def blobX (g : List (List Int)) (y : Nat) (st : List Blb) : Nat → List Blb
  | 0 => st
  | x + 1 => bstep (blobX g y st x) (gr g x y) x y
def blobY (ys : List (List Bool)) (g : List (List Int)) : Nat → List Blb
  | 0 => []
  | y + 1 => blobX g y (blobY ys g y) (ys.headD []).length
noncomputable def blobs (ys : List (List Bool)) : List Blb := if imgB ys then blobY ys (labels ys) ys.length else []
theorem blobs_no {ys : List (List Bool)} (h : imgB ys = false) : blobs ys = [] := by unfold blobs; rw [h]; rfl
theorem blobs_yes {ys : List (List Bool)} (h : imgB ys = true) : blobs ys = blobY ys (labels ys) ys.length := by unfold blobs; rw [h]; rfl
theorem bstep_zero (st : List Blb) (x y : Nat) : bstep st 0 x y = st := by simp [bstep]
theorem grow_len (st : List Blb) (n : Int) (x y : Nat) : (grow st n x y).length = if (st.length : Int) < n then st.length + 1 else st.length := by
  unfold grow
  split <;> simp
theorem bstep_len (st : List Blb) (n : Int) (x y : Nat) (hn : n ≠ 0) : (bstep st n x y).length = (grow st n x y).length := by simp [bstep, hn]
section
variable {ys : List (List Bool)} (h : imgB ys = true)
include h
theorem blobX_num {y : Nat} (hy : y < ys.length) (hl : (blobY ys (labels ys) y).length = (labY ys y).2) : ∀ x, x ≤ (ys.headD []).length → (blobX (labels ys) y (blobY ys (labels ys) y) x).length = (labX ys y (labY ys y) x).2
  | 0, _ => hl
  | x + 1, hx => by
    have ih := blobX_num hy hl x (by omega)
    have hlab := lab_num hy (show x < (ys.headD []).length by omega)
    rw [← labels_yes h] at hlab
    show (bstep _ _ x y).length = _
    rcases hlab with ⟨_, h1, h2⟩ | ⟨_, h1, h2, h3⟩ | ⟨_, h1, h2⟩
    · rw [h1, bstep_zero, h2, ih]
    · rw [bstep_len _ _ _ _ (by omega), grow_len, if_neg (by omega), h3, ih]
    · rw [bstep_len _ _ _ _ (by omega), grow_len, if_pos (by omega), h2, ih]
theorem blobY_num : ∀ y, y ≤ ys.length → (blobY ys (labels ys) y).length = (labY ys y).2
  | 0, _ => rfl
  | y + 1, hy => blobX_num h hy (blobY_num y (by omega)) _ (Nat.le_refl _)
/-- What the loops ask: a number is at most one more than how many sets there are. -/
theorem blob_num {y x : Nat} (hy : y < ys.length) (hx : x < (ys.headD []).length) : 0 ≤ gr (labels ys) x y ∧ gr (labels ys) x y ≤ ((blobX (labels ys) y (blobY ys (labels ys) y) x).length : Int) + 1 := by
  rw [blobX_num h hy (blobY_num h y (by omega)) x (by omega)]
  have hlab := lab_num hy hx
  rw [← labels_yes h] at hlab
  rcases hlab with ⟨_, h1, h2⟩ | ⟨_, h1, h2, h3⟩ | ⟨_, h1, h2⟩ <;> omega
end
/-! ### What the numbers of a set lie between -/
def BBd (p : Nat) (b : Blb) : Prop := (0 ≤ b.Size ∧ b.Size ≤ p) ∧ (0 ≤ b.SumX ∧ b.SumX ≤ 16 * (p : Int)) ∧ (0 ≤ b.SumY ∧ b.SumY ≤ 16 * (p : Int))
theorem bstep_bd {st : List Blb} {p : Nat} (hs : ∀ b ∈ st, BBd p b) (n : Int) (x y : Nat) (hx : x < 16) (hy : y < 16) : ∀ b ∈ bstep st n x y, BBd (p + 1) b := by
  have up : ∀ b, BBd p b → BBd (p + 1) b := fun b h => by unfold BBd at *; omega
  have hg : ∀ b ∈ grow st n x y, BBd p b := by
    unfold grow
    split
    · intro b hb
      rcases List.mem_append.1 hb with hb | hb
      · exact hs b hb
      · rw [List.mem_singleton.1 hb]
        unfold BBd newB
        simp
        omega
    · exact hs
  unfold bstep
  split
  · exact fun b hb => up b (hs b hb)
  · intro b hb
    rcases List.mem_or_eq_of_mem_set hb with hb | rfl
    · exact up b (hg b hb)
    · have h0 : BBd p ((grow st n x y).getD (n.toNat - 1) default) := by
        rw [List.getD_eq_getElem?_getD]
        cases hk : (grow st n x y)[n.toNat - 1]? with
        | none =>
          show BBd p ⟨0, 0, 0, 0, 0, 0, 0⟩
          unfold BBd
          simp
          omega
        | some b => exact hg b (List.mem_of_getElem? hk)
      generalize (grow st n x y).getD (n.toNat - 1) default = c at h0
      unfold BBd addB at *
      simp only
      omega
theorem blobX_bd {g : List (List Int)} {y p : Nat} (hy : y < 16) {st : List Blb} (hs : ∀ b ∈ st, BBd p b) : ∀ x, x ≤ 16 → ∀ b ∈ blobX g y st x, BBd (p + x) b
  | 0, _ => hs
  | x + 1, hx => bstep_bd (blobX_bd hy hs x (by omega)) _ x y (by omega) hy
theorem bbd_up {p q : Nat} (h : p ≤ q) {b : Blb} (hb : BBd p b) : BBd q b := by unfold BBd at *; omega
theorem blobY_bd {ys : List (List Bool)} (hok : imgOk ys) {g : List (List Int)} : ∀ y, y ≤ ys.length → ∀ b ∈ blobY ys g y, BBd (y * 16) b
  | 0, _ => by simp [blobY]
  | y + 1, hy => fun b hb => by
    obtain ⟨h1, h2⟩ := imgOk_dims hok
    have := blobX_bd (g := g) (y := y) (by omega) (blobY_bd hok y (by omega)) (ys.headD []).length h2 b hb
    exact bbd_up (by omega) this
theorem blobs_len (ys : List (List Bool)) : (blobs ys).length ≤ 1000 := by
  by_cases h : imgB ys = true
  · rw [blobs_yes h, blobY_num h _ (Nat.le_refl _)]
    have := labY_num (imgB_t.1 h) ys.length
    have := (imgOk_dims (imgB_t.1 h)).1
    omega
  · rw [blobs_no (by simpa using h)]
    simp
end Go.Proofs.Ytpkcpkhanodnmaa
