/-
  ProgramValid: both programs ask the same of a program.
-/
import Derived.Test.YtbhelobahfgaeaaDoorCommandS
namespace Go.Proofs.YtbhelobahfgaeaaDoor
open Go Go.RowKit
def xyB (x y : Int) : Bool := inB x (-10000) 10000 && inB y (-10000) 10000
theorem i_PointValid (x y : Int) (w : World) : Calls Tryd.prog 51 #[.agg #[.int .i64 x, .int .i64 y]] w fun e w' => e = .returned (.bool (xyB x y)) ∧ w.grownBy w' none := by
  unfold xyB
  cases e1 : inB x (-10000) 10000 with
  | false =>
    go_enter Tryd.func51, Tryd.ntmps51
    go_wp2_with (go_at_call 52; refine (within_b _ _ _ _).mono ?_; rintro e w' ⟨rfl, rfl⟩)
    go_ret
    exact ⟨rfl, World.grownBy_alloc _ _ _⟩
  | true =>
    cases e2 : inB y (-10000) 10000 with
    | false =>
      go_enter Tryd.func51, Tryd.ntmps51
      go_wp2_with (go_at_call 52; refine (within_b _ _ _ _).mono ?_; rintro e w' ⟨rfl, rfl⟩)
      go_ret
      exact ⟨rfl, World.grownBy_alloc _ _ _⟩
    | true =>
      go_enter Tryd.func51, Tryd.ntmps51
      go_wp2_with (go_at_call 52; refine (within_b _ _ _ _).mono ?_; rintro e w' ⟨rfl, rfl⟩)
      go_ret
      exact ⟨rfl, World.grownBy_alloc _ _ _⟩
theorem s_PointValid (x y : Int) (w : World) : Calls Tryd.prog 46 #[.agg #[.int .i64 x, .int .i64 y]] w fun e w' => e = .returned (.bool (xyB x y)) ∧ w.grownBy w' none := by
  unfold xyB
  cases e1 : inB x (-10000) 10000 with
  | false =>
    go_enter Tryd.func46, Tryd.ntmps46
    go_wp2_with (go_at_call 47; refine (in_b _ _ _ _).mono ?_; rintro e w' ⟨rfl, rfl⟩)
    go_ret
    exact ⟨rfl, World.grownBy_alloc _ _ _⟩
  | true =>
    cases e2 : inB y (-10000) 10000 with
    | false =>
      go_enter Tryd.func46, Tryd.ntmps46
      go_wp2_with (go_at_call 47; refine (in_b _ _ _ _).mono ?_; rintro e w' ⟨rfl, rfl⟩)
      go_ret
      exact ⟨rfl, World.grownBy_alloc _ _ _⟩
    | true =>
      go_enter Tryd.func46, Tryd.ntmps46
      go_wp2_with (go_at_call 47; refine (in_b _ _ _ _).mono ?_; rintro e w' ⟨rfl, rfl⟩)
      go_ret
      exact ⟨rfl, World.grownBy_alloc _ _ _⟩
/-- A command's numbers are in range. -/
def cmdB (c : Cmd) : Bool :=
  if c.Kind = 1 then xyB c.A c.B
  else if c.Kind = 4 ∨ c.Kind = 5 then inB c.A 1 99 && (c.B == 0)
  else if c.Kind = 2 ∨ c.Kind = 3 ∨ c.Kind = 6 then (c.A == 0) && (c.B == 0)
  else false
/-- The depth behind a command. -/
def dep (c : Cmd) (d : Int) : Int := if c.Kind = 5 then d + 1 else if c.Kind = 6 then d - 1 else d
def progGo : List Cmd → Int → Bool
  | [], d => d == 0
  | c :: cs, d => cmdB c && (!decide (dep c d < 0) && progGo cs (dep c d))
def progB (xs : List Cmd) : Bool := decide (xs.length ≤ 30) && progGo xs 0
theorem progGo_step {xs : List Cmd} {k : Nat} {c : Cmd} (h : xs[k]? = some c) (d : Int) : progGo (xs.drop k) d = (cmdB c && (!decide (dep c d < 0) && progGo (xs.drop (k + 1)) (dep c d))) := by
  obtain ⟨hk, rfl⟩ := List.getElem?_eq_some_iff.1 h
  rw [List.drop_eq_getElem_cons hk, progGo]
set_option maxHeartbeats 1000000 in
theorem i_cmd (c : Cmd) (w : World) : Calls Tryd.prog 40 #[.agg #[.int .i64 c.Kind, .int .i64 c.A, .int .i64 c.B]] w fun e w' => e = .returned (.bool (cmdB c)) ∧ w.grownBy w' none := by
  obtain ⟨K, A, B⟩ := c
  have g0 := gb_alloc (World.grownBy.refl w none) (.cells #[.int .i64 K, .int .i64 A, .int .i64 B] 47)
  unfold cmdB
  dsimp only
  by_cases k1 : K = 1
  · subst k1
    rw [if_pos rfl]
    go_enter Tryd.func40, Tryd.ntmps40
    go_wp2_with fail
    refine (i_PointValid A B _).mono ?_
    rintro e w1 ⟨rfl, g1⟩
    go_wp2_with fail
    go_ret
    exact ⟨rfl, gb_trans g0 g1⟩
  rw [if_neg k1]
  by_cases k2 : K = 4 ∨ K = 5
  · rw [if_pos k2]
    have H := within_b A 1 99 (w.alloc (.cells #[.int .i64 K, .int .i64 A, .int .i64 B] 47))
    generalize inB A 1 99 = q at H ⊢
    rcases k2 with rfl | rfl
    all_goals
      cases q with
      | false =>
        go_enter Tryd.func40, Tryd.ntmps40
        go_wp2_with fail
        refine H.mono ?_
        rintro e w1 ⟨rfl, rfl⟩
        go_wp2_with fail
        go_ret
        exact ⟨rfl, g0⟩
      | true =>
        go_enter Tryd.func40, Tryd.ntmps40
        go_wp2_with fail
        refine H.mono ?_
        rintro e w1 ⟨rfl, rfl⟩
        go_wp2_with fail
        go_ret
        exact ⟨by simp, g0⟩
  rw [if_neg k2]
  by_cases k3 : K = 2 ∨ K = 3 ∨ K = 6
  · rw [if_pos k3]
    cases q : (A == 0) with
    | false =>
      rcases k3 with rfl | rfl | rfl
      all_goals
        go_enter Tryd.func40, Tryd.ntmps40
        go_wp2_with fail
        go_ret
        exact ⟨rfl, g0⟩
    | true =>
      rcases k3 with rfl | rfl | rfl
      all_goals
        go_enter Tryd.func40, Tryd.ntmps40
        go_wp2_with fail
        go_ret
        exact ⟨by simp, g0⟩
  rw [if_neg k3]
  have e1 : (K == 1) = false := beq_eq_false_iff_ne.2 (by omega)
  have e2 : (K == 2) = false := beq_eq_false_iff_ne.2 (by omega)
  have e3 : (K == 3) = false := beq_eq_false_iff_ne.2 (by omega)
  have e4 : (K == 4) = false := beq_eq_false_iff_ne.2 (by omega)
  have e5 : (K == 5) = false := beq_eq_false_iff_ne.2 (by omega)
  have e6 : (K == 6) = false := beq_eq_false_iff_ne.2 (by omega)
  clear k1 k2 k3
  go_enter Tryd.func40, Tryd.ntmps40
  go_wp2_with fail
  go_ret
  exact ⟨rfl, g0⟩
set_option maxHeartbeats 1000000 in
theorem s_cmd (c : Cmd) (w : World) : Calls Tryd.prog 32 #[.agg #[.int .i64 c.Kind, .int .i64 c.A, .int .i64 c.B]] w fun e w' => e = .returned (.bool (cmdB c)) ∧ w.grownBy w' none := by
  obtain ⟨K, A, B⟩ := c
  have g0 := gb_alloc (World.grownBy.refl w none) (.cells #[.int .i64 K, .int .i64 A, .int .i64 B] 47)
  unfold cmdB
  dsimp only
  by_cases k1 : K = 1
  · subst k1
    rw [if_pos rfl]
    go_enter Tryd.func32, Tryd.ntmps32
    go_wp2_with fail
    refine (s_PointValid A B _).mono ?_
    rintro e w1 ⟨rfl, g1⟩
    go_wp2_with fail
    go_ret
    exact ⟨rfl, gb_trans g0 g1⟩
  rw [if_neg k1]
  by_cases k2 : K = 4 ∨ K = 5
  · rw [if_pos k2]
    have H := in_b A 1 99 (w.alloc (.cells #[.int .i64 K, .int .i64 A, .int .i64 B] 47))
    generalize inB A 1 99 = q at H ⊢
    rcases k2 with rfl | rfl
    all_goals
      cases q with
      | false =>
        go_enter Tryd.func32, Tryd.ntmps32
        go_wp2_with fail
        refine H.mono ?_
        rintro e w1 ⟨rfl, rfl⟩
        go_wp2_with fail
        go_ret
        exact ⟨rfl, g0⟩
      | true =>
        go_enter Tryd.func32, Tryd.ntmps32
        go_wp2_with fail
        refine H.mono ?_
        rintro e w1 ⟨rfl, rfl⟩
        go_wp2_with fail
        go_ret
        exact ⟨by simp, g0⟩
  rw [if_neg k2]
  by_cases k3 : K = 2 ∨ K = 3 ∨ K = 6
  · rw [if_pos k3]
    cases q : (A == 0) with
    | false =>
      rcases k3 with rfl | rfl | rfl
      all_goals
        go_enter Tryd.func32, Tryd.ntmps32
        go_wp2_with fail
        go_ret
        exact ⟨rfl, g0⟩
    | true =>
      rcases k3 with rfl | rfl | rfl
      all_goals
        go_enter Tryd.func32, Tryd.ntmps32
        go_wp2_with fail
        go_ret
        exact ⟨by simp, g0⟩
  rw [if_neg k3]
  have e1 : (K == 1) = false := beq_eq_false_iff_ne.2 (by omega)
  have e2 : (K == 2) = false := beq_eq_false_iff_ne.2 (by omega)
  have e3 : (K == 3) = false := beq_eq_false_iff_ne.2 (by omega)
  have e4 : (K == 4) = false := beq_eq_false_iff_ne.2 (by omega)
  have e5 : (K == 5) = false := beq_eq_false_iff_ne.2 (by omega)
  have e6 : (K == 6) = false := beq_eq_false_iff_ne.2 (by omega)
  clear k1 k2 k3
  go_enter Tryd.func32, Tryd.ntmps32
  go_wp2_with fail
  go_ret
  exact ⟨rfl, g0⟩
end Go.Proofs.YtbhelobahfgaeaaDoor
