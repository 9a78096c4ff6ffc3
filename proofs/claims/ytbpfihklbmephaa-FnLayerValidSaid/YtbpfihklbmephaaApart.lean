/-
  Contracts of BoxesApart, of the program and of the reference; boxes by value.
-/
import Derived.Test.YtbpfihklbmephaaBoxS
namespace Go.Proofs.Ytbpfihklbmephaa
open Go Go.RowKit
/-- A box as a value. -/
def Bx.v (b : Bx) : Value := .agg #[.int .i64 b.X, .int .i64 b.Y, .int .i64 b.W, .int .i64 b.D]
def Bx.ok (b : Bx) : Prop := (0 ≤ b.X ∧ b.X ≤ 200) ∧ (0 ≤ b.Y ∧ b.Y ≤ 200) ∧ (0 ≤ b.W ∧ b.W ≤ 200) ∧ (0 ≤ b.D ∧ b.D ≤ 200)
instance (b : Bx) : Decidable b.ok := by unfold Bx.ok; infer_instance
def Bx.off (a b : Bx) : Prop := a.X + a.W ≤ b.X ∨ b.X + b.W ≤ a.X ∨ a.Y + a.D ≤ b.Y ∨ b.Y + b.D ≤ a.Y
instance (a b : Bx) : Decidable (a.off b) := by unfold Bx.off; infer_instance
/-- What BoxesApart gives. -/
def apartB (a b : Bx) : Bool := decide (a.ok ∧ b.ok ∧ a.off b)
def BoolPost (v : Bool) (w : World) (e : Ending) (w' : World) : Prop := e = .returned (.bool v) ∧ w.grownBy w' none

set_option maxHeartbeats 1000000 in
theorem l22Box_t (b : Bx) (w : World) (h : b.ok) : Calls Try.prog 30 #[b.v] w (BoolPost true w) := by
  obtain ⟨x, y, bw, d⟩ := b
  obtain ⟨⟨h1, h2⟩, ⟨h3, h4⟩, ⟨h5, h6⟩, ⟨h7, h8⟩⟩ := h
  unfold Bx.v
  simp only at *
  go_enter Try.func30, Try.ntmps30
  go_wp2
  go_ret
  exact ⟨rfl, World.grownBy_alloc _ _ _⟩
set_option maxHeartbeats 1000000 in
theorem l22Box_f (b : Bx) (w : World) (h : ¬ b.ok) : Calls Try.prog 30 #[b.v] w (BoolPost false w) := by
  obtain ⟨x, y, bw, d⟩ := b
  unfold Bx.v
  have hh : ¬ ((0 ≤ x ∧ x ≤ 200) ∧ (0 ≤ y ∧ y ≤ 200) ∧ (0 ≤ bw ∧ bw ≤ 200) ∧ (0 ≤ d ∧ d ≤ 200)) := h
  clear h
  by_cases h1 : 0 ≤ x ∧ x ≤ 200
  · by_cases h2 : 0 ≤ y ∧ y ≤ 200
    · by_cases h3 : 0 ≤ bw ∧ bw ≤ 200
      · have h4 : ¬ (0 ≤ d ∧ d ≤ 200) := fun h4 => hh ⟨h1, h2, h3, h4⟩
        clear hh
        go_enter Try.func30, Try.ntmps30
        go_wp2_with (go_at_call 42; first | (with_reducible refine (in_t x _ _ _ h1).mono ?_; rintro e w' ⟨rfl, rfl⟩) | (with_reducible refine (in_t y _ _ _ h2).mono ?_; rintro e w' ⟨rfl, rfl⟩) | (with_reducible refine (in_t bw _ _ _ h3).mono ?_; rintro e w' ⟨rfl, rfl⟩) | (with_reducible refine (in_f d _ _ _ h4).mono ?_; rintro e w' ⟨rfl, rfl⟩))
        go_ret
        exact ⟨rfl, World.grownBy_alloc _ _ _⟩
      · clear hh
        go_enter Try.func30, Try.ntmps30
        go_wp2_with (go_at_call 42; first | (with_reducible refine (in_t x _ _ _ h1).mono ?_; rintro e w' ⟨rfl, rfl⟩) | (with_reducible refine (in_t y _ _ _ h2).mono ?_; rintro e w' ⟨rfl, rfl⟩) | (with_reducible refine (in_f bw _ _ _ h3).mono ?_; rintro e w' ⟨rfl, rfl⟩))
        go_ret
        exact ⟨rfl, World.grownBy_alloc _ _ _⟩
    · clear hh
      go_enter Try.func30, Try.ntmps30
      go_wp2_with (go_at_call 42; first | (with_reducible refine (in_t x _ _ _ h1).mono ?_; rintro e w' ⟨rfl, rfl⟩) | (with_reducible refine (in_f y _ _ _ h2).mono ?_; rintro e w' ⟨rfl, rfl⟩))
      go_ret
      exact ⟨rfl, World.grownBy_alloc _ _ _⟩
  · clear hh
    go_enter Try.func30, Try.ntmps30
    go_wp2_with (go_at_call 42; (with_reducible refine (in_f x _ _ _ h1).mono ?_; rintro e w' ⟨rfl, rfl⟩))
    go_ret
    exact ⟨rfl, World.grownBy_alloc _ _ _⟩
theorem apart_eq {a b : Bx} {v : Bool} (h : (a.ok ∧ b.ok ∧ a.off b) ↔ v = true) : apartB a b = v := by
  unfold apartB
  cases v <;> simp at h ⊢ <;> exact h
theorem apart_or (a b : Bx) (ha : a.ok) (hb : b.ok) : (decide (a.X + a.W ≤ b.X) || decide (b.X + b.W ≤ a.X) || decide (a.Y + a.D ≤ b.Y) || decide (b.Y + b.D ≤ a.Y)) = apartB a b := by
  symm
  apply apart_eq
  simp [ha, hb, Bx.off, or_assoc]
set_option maxHeartbeats 4000000 in
theorem s_BoxesApart (a b : Bx) (w : World) : Calls Try.prog 11 #[a.v, b.v] w (BoolPost (apartB a b) w) := by
  by_cases ha : a.ok
  · by_cases hb : b.ok
    · have HO := Lib.hid (apart_or a b ha hb)
      obtain ⟨x, y, bw, d⟩ := a
      obtain ⟨x', y', bw', d'⟩ := b
      obtain ⟨⟨a1, a2⟩, ⟨a3, a4⟩, ⟨a5, a6⟩, ⟨a7, a8⟩⟩ := ha
      obtain ⟨⟨b1, b2⟩, ⟨b3, b4⟩, ⟨b5, b6⟩, ⟨b7, b8⟩⟩ := hb
      simp only [Bx.v] at *
      go_enter Try.func11, Try.ntmps11
      go_wp2
      all_goals
        go_ret
        exact ⟨congrArg (fun v => Ending.returned (Value.bool v)) (by rw [← HO.out] <;> (rw [Bool.eq_iff_iff]; simp; try omega)), by repeat (first | exact World.grownBy.refl _ _ | apply gb_alloc)⟩
    · have hf : apartB a b = false := apart_eq (by simp [hb])
      rw [hf]
      go_enter Try.func11, Try.ntmps11
      unfold Bx.v
      go_wp2_with fail
      refine (l22Box_t a _ ha).mono ?_
      rintro e w1 ⟨rfl, g1⟩
      have c0 := gb_cell g1 (b := w.heap.size + 1) (o := 0) (v := .int .i64 b.X) (by simp [go_sem]) (by simp)
      have c1 := gb_cell g1 (b := w.heap.size + 1) (o := 1) (v := .int .i64 b.Y) (by simp [go_sem]) (by simp)
      have c2 := gb_cell g1 (b := w.heap.size + 1) (o := 2) (v := .int .i64 b.W) (by simp [go_sem]) (by simp)
      have c3 := gb_cell g1 (b := w.heap.size + 1) (o := 3) (v := .int .i64 b.D) (by simp [go_sem]) (by simp)
      go_wp2_with fail
      refine (l22Box_f b _ hb).mono ?_
      rintro e w2 ⟨rfl, g2⟩
      go_wp2_with fail
      go_ret
      exact ⟨rfl, gb_trans (gb_trans (gb_alloc (gb_alloc (World.grownBy.refl _ _) _) _) g1) g2⟩
  · have hf : apartB a b = false := apart_eq (by simp [ha])
    rw [hf]
    unfold Bx.v
    go_enter Try.func11, Try.ntmps11
    go_wp2_with fail
    refine (l22Box_f a _ ha).mono ?_
    rintro e w1 ⟨rfl, g1⟩
    go_wp2_with fail
    go_ret
    exact ⟨rfl, gb_trans (gb_alloc (gb_alloc (World.grownBy.refl _ _) _) _) g1⟩
set_option maxHeartbeats 4000000 in
theorem i_BoxesApart (a b : Bx) (w : World) : Calls Try.prog 13 #[a.v, b.v] w (BoolPost (apartB a b) w) := by
  by_cases hab : a.ok ∧ b.ok
  · obtain ⟨ha, hb⟩ := hab
    have HO := Lib.hid (apart_or a b ha hb)
    obtain ⟨x, y, bw, d⟩ := a
    obtain ⟨x', y', bw', d'⟩ := b
    obtain ⟨⟨a1, a2⟩, ⟨a3, a4⟩, ⟨a5, a6⟩, ⟨a7, a8⟩⟩ := ha
    obtain ⟨⟨b1, b2⟩, ⟨b3, b4⟩, ⟨b5, b6⟩, ⟨b7, b8⟩⟩ := hb
    simp only [Bx.v] at *
    go_enter Try.func13, Try.ntmps13
    go_wp2
    go_rounds 9
    all_goals
      go_ret
      exact ⟨congrArg (fun v => Ending.returned (Value.bool v)) (by rw [← HO.out] <;> (rw [Bool.eq_iff_iff]; simp; try omega)), by repeat (first | exact World.grownBy.refl _ _ | apply gb_alloc)⟩
  · have hf : apartB a b = false := apart_eq (by simp; intro h1 h2; exact absurd ⟨h1, h2⟩ hab)
    rw [hf]
    obtain ⟨x, y, bw, d⟩ := a
    obtain ⟨x', y', bw', d'⟩ := b
    have hno : ¬ ((0 ≤ x ∧ x ≤ 200) ∧ (0 ≤ y ∧ y ≤ 200) ∧ (0 ≤ bw ∧ bw ≤ 200) ∧ (0 ≤ d ∧ d ≤ 200) ∧ (0 ≤ x' ∧ x' ≤ 200) ∧ (0 ≤ y' ∧ y' ≤ 200) ∧ (0 ≤ bw' ∧ bw' ≤ 200) ∧ (0 ≤ d' ∧ d' ≤ 200)) := fun h => hab ⟨⟨h.1, h.2.1, h.2.2.1, h.2.2.2.1⟩, h.2.2.2.2⟩
    have HN := Lib.hid hno
    clear hab hf hno
    simp only [Bx.v] at *
    go_enter Try.func13, Try.ntmps13
    go_wp2
    go_rounds 9
    all_goals first
      | (exfalso; have := HN.out; simp only [Bool.not_eq_false', decide_eq_true_eq] at *; omega)
      | (go_ret; exact ⟨rfl, by repeat (first | exact World.grownBy.refl _ _ | apply gb_alloc)⟩)
end Go.Proofs.Ytbpfihklbmephaa
