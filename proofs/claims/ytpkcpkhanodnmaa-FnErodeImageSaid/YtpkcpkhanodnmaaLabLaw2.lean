/-
  Neighbours have the same number; plain facts.
-/
import Derived.Test.YtpkcpkhanodnmaaBlobLaw
namespace Go.Proofs.Ytpkcpkhanodnmaa
open Go Go.RowKit
def NbI (ys : List (List Bool)) (g : List (List Int)) : Prop := ∀ p q : Px, adj p q → pix ys p.1 p.2 = true → pix ys q.1 q.2 = true → gr g p.1 p.2 = gr g q.1 q.2
theorem NbI.step {ys : List (List Bool)} {st : LSt} (hd : dims ys st.1) (h : NbI ys st.1) (y x : Nat) : NbI ys (lstep ys st y x).1 := by
  by_cases hf : fr ys st.1 (x, y)
  · rw [lstep_yes hf]
    intro p q ha hp hq
    have hpq := h p q ha hp hq
    obtain ⟨s, s1, s2⟩ := dims_in hd hp
    obtain ⟨t, t1, t2⟩ := dims_in hd hq
    obtain ⟨k1, k2⟩ := gr_mark (D := RI (fr ys st.1) x y) (n := (st.2 : Int) + 1) s1 s2
    obtain ⟨l1, l2⟩ := gr_mark (D := RI (fr ys st.1) x y) (n := (st.2 : Int) + 1) t1 t2
    have iff : RI (fr ys st.1) x y p ↔ RI (fr ys st.1) x y q := by
      constructor
      · rintro ⟨a, b, c⟩
        exact ⟨a, b, .step c ha ⟨hq, hpq.symm.trans c.in.2⟩⟩
      · rintro ⟨a, b, c⟩
        exact ⟨a, b, .step c (adj_symm ha) ⟨hp, hpq.trans c.in.2⟩⟩
    show gr (fillI ys st.1 x y _) _ _ = gr (fillI ys st.1 x y _) _ _
    unfold fillI
    by_cases hD : RI (fr ys st.1) x y p
    · rw [k1 hD, l1 (iff.1 hD)]
    · rw [k2 hD, l2 (fun e => hD (iff.2 e)), hpq]
  · rw [lstep_no hf]; exact h
theorem labX_nb {ys : List (List Bool)} {st : LSt} (hd : dims ys st.1) (h : NbI ys st.1) (y : Nat) : ∀ x, NbI ys (labX ys y st x).1
  | 0 => h
  | x + 1 => NbI.step (labX_dims hd y x) (labX_nb hd h y x) y x
theorem labY_nb (ys : List (List Bool)) : ∀ y, NbI ys (labY ys y).1
  | 0 => fun p q _ _ _ => by
    have z : ∀ x y, gr (labY ys 0).1 x y = 0 := fun x y => by
      rcases (LVal.start ys).val x y with h | ⟨h1, h2, _⟩
      · exact h
      · have : (labY ys 0).2 = 0 := rfl
        rw [this] at h2
        omega
    rw [z, z]
  | y + 1 => labX_nb (labY_dims ys y) (labY_nb ys y) y _
/-- What the law asks of the numbers. -/
theorem lab_same {ys : List (List Bool)} (h : imgB ys = true) (p q : Px) (ha : adj p q) (hp : pix ys p.1 p.2 = true) (hq : pix ys q.1 q.2 = true) : gr (labels ys) p.1 p.2 = gr (labels ys) q.1 q.2 := by
  rw [labels_yes h]
  exact labY_nb ys _ p q ha hp hq
theorem lab_pos {ys : List (List Bool)} (h : imgB ys = true) {y x : Nat} (hy : y < ys.length) (hx : x < (ys.headD []).length) :
    (0 < gr (labels ys) x y ↔ pix ys x y = true) ∧ 0 ≤ gr (labels ys) x y ∧ gr (labels ys) x y ≤ ((labX ys y (labY ys y) x).2 : Int) + 1 ∧ ((labX ys y (labY ys y) (x + 1)).2 : Int) = max ((labX ys y (labY ys y) x).2 : Int) (gr (labels ys) x y) := by
  have hlab := lab_num hy hx
  rw [← labels_yes h] at hlab
  rcases hlab with ⟨h0, h1, h2⟩ | ⟨h0, h1, h2, h3⟩ | ⟨h0, h1, h2⟩ <;> rw [h0] <;> refine ⟨?_, ?_, ?_, ?_⟩ <;> (try simp) <;> omega
end Go.Proofs.Ytpkcpkhanodnmaa
