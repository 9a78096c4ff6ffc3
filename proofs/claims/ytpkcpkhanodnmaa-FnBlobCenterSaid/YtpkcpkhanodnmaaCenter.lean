/-
  BlobCenter: both programs give the same point.
-/
import Derived.Test.YtpkcpkhanodnmaaBlobS
namespace Go.Proofs.Ytpkcpkhanodnmaa
open Go Go.RowKit
def cenB (b : Blb) : Bool := inB b.Size 1 256 && inB b.SumX 0 4096 && inB b.SumY 0 4096
def cenX (b : Blb) : Int := if cenB b then 100 * b.SumX / b.Size else 0
def cenY (b : Blb) : Int := if cenB b then 100 * b.SumY / b.Size else 0
set_option maxHeartbeats 1000000 in
theorem i_BlobCenter (b : Blb) (w : World) : Calls Try.prog 16 #[.agg #[.int .i64 b.Size, .int .i64 b.SumX, .int .i64 b.SumY, .int .i64 b.Left, .int .i64 b.Right, .int .i64 b.Top, .int .i64 b.Bottom]] w fun e w' => e = .returned (.agg #[.int .i64 (cenX b), .int .i64 (cenY b)]) ∧ w.grownBy w' none := by
  obtain ⟨sz, sx, sy, l, r, t, bo⟩ := b
  unfold cenX cenY cenB
  dsimp only
  cases e1 : inB sz 1 256 with
  | false =>
    simp only [Bool.false_and, Bool.false_eq_true, if_false]
    go_enter Try.func16, Try.ntmps16
    go_wp2_with (go_at_call 45; refine (within_b _ _ _ _).mono ?_; rintro e w' ⟨rfl, rfl⟩)
    exact bodyPost_ret (v := .agg #[.int .i64 0, .int .i64 0]) (by simp [results, Try.results16, go_sem]) rfl ⟨rfl, gb_alloc (gb_alloc (World.grownBy.refl _ _) _) _⟩
  | true =>
  cases e2 : inB sx 0 4096 with
  | false =>
    simp only [Bool.false_and, Bool.and_false, Bool.false_eq_true, if_false]
    go_enter Try.func16, Try.ntmps16
    go_wp2_with (go_at_call 45; refine (within_b _ _ _ _).mono ?_; rintro e w' ⟨rfl, rfl⟩)
    exact bodyPost_ret (v := .agg #[.int .i64 0, .int .i64 0]) (by simp [results, Try.results16, go_sem]) rfl ⟨rfl, gb_alloc (gb_alloc (World.grownBy.refl _ _) _) _⟩
  | true =>
  cases e3 : inB sy 0 4096 with
  | false =>
    simp only [Bool.false_and, Bool.and_false, Bool.false_eq_true, if_false]
    go_enter Try.func16, Try.ntmps16
    go_wp2_with (go_at_call 45; refine (within_b _ _ _ _).mono ?_; rintro e w' ⟨rfl, rfl⟩)
    exact bodyPost_ret (v := .agg #[.int .i64 0, .int .i64 0]) (by simp [results, Try.results16, go_sem]) rfl ⟨rfl, gb_alloc (gb_alloc (World.grownBy.refl _ _) _) _⟩
  | true =>
    obtain ⟨h1, h2⟩ := inB_t.1 e1
    obtain ⟨h3, h4⟩ := inB_t.1 e2
    obtain ⟨h5, h6⟩ := inB_t.1 e3
    simp only [Bool.true_and, Bool.and_true, if_true]
    go_enter Try.func16, Try.ntmps16
    go_wp2_with (go_at_call 45; refine (within_b _ _ _ _).mono ?_; rintro e w' ⟨rfl, rfl⟩)
    go_region
    all_goals
      go_wp2
      exact bodyPost_ret (v := .agg #[.int .i64 (100 * sx / sz), .int .i64 (100 * sy / sz)]) (by simp [results, Try.results16, go_sem]) rfl ⟨rfl, by first | exact gb_drew (gb_alloc (gb_alloc (World.grownBy.refl _ _) _) _) | exact gb_alloc (gb_alloc (World.grownBy.refl _ _) _) _⟩
set_option maxHeartbeats 1000000 in
theorem s_BlobCenter (b : Blb) (w : World) : Calls Try.prog 14 #[.agg #[.int .i64 b.Size, .int .i64 b.SumX, .int .i64 b.SumY, .int .i64 b.Left, .int .i64 b.Right, .int .i64 b.Top, .int .i64 b.Bottom]] w fun e w' => e = .returned (.agg #[.int .i64 (cenX b), .int .i64 (cenY b)]) ∧ w.grownBy w' none := by
  obtain ⟨sz, sx, sy, l, r, t, bo⟩ := b
  unfold cenX cenY cenB
  dsimp only
  cases e1 : inB sz 1 256 with
  | false =>
    simp only [Bool.false_and, Bool.false_eq_true, if_false]
    go_enter Try.func14, Try.ntmps14
    go_wp2_with (go_at_call 44; refine (in_b _ _ _ _).mono ?_; rintro e w' ⟨rfl, rfl⟩)
    exact bodyPost_ret (v := .agg #[.int .i64 0, .int .i64 0]) (by simp [results, Try.results14, go_sem]) rfl ⟨rfl, gb_alloc (gb_alloc (World.grownBy.refl _ _) _) _⟩
  | true =>
  cases e2 : inB sx 0 4096 with
  | false =>
    simp only [Bool.false_and, Bool.and_false, Bool.false_eq_true, if_false]
    go_enter Try.func14, Try.ntmps14
    go_wp2_with (go_at_call 44; refine (in_b _ _ _ _).mono ?_; rintro e w' ⟨rfl, rfl⟩)
    exact bodyPost_ret (v := .agg #[.int .i64 0, .int .i64 0]) (by simp [results, Try.results14, go_sem]) rfl ⟨rfl, gb_alloc (gb_alloc (World.grownBy.refl _ _) _) _⟩
  | true =>
  cases e3 : inB sy 0 4096 with
  | false =>
    simp only [Bool.false_and, Bool.and_false, Bool.false_eq_true, if_false]
    go_enter Try.func14, Try.ntmps14
    go_wp2_with (go_at_call 44; refine (in_b _ _ _ _).mono ?_; rintro e w' ⟨rfl, rfl⟩)
    exact bodyPost_ret (v := .agg #[.int .i64 0, .int .i64 0]) (by simp [results, Try.results14, go_sem]) rfl ⟨rfl, gb_alloc (gb_alloc (World.grownBy.refl _ _) _) _⟩
  | true =>
    obtain ⟨h1, h2⟩ := inB_t.1 e1
    obtain ⟨h3, h4⟩ := inB_t.1 e2
    obtain ⟨h5, h6⟩ := inB_t.1 e3
    simp only [Bool.true_and, Bool.and_true, if_true]
    go_enter Try.func14, Try.ntmps14
    go_wp2_with (go_at_call 44; refine (in_b _ _ _ _).mono ?_; rintro e w' ⟨rfl, rfl⟩)
    go_region
    all_goals
      go_wp2
      exact bodyPost_ret (v := .agg #[.int .i64 (100 * sx / sz), .int .i64 (100 * sy / sz)]) (by simp [results, Try.results14, go_sem]) rfl ⟨rfl, by first | exact gb_drew (gb_alloc (gb_alloc (World.grownBy.refl _ _) _) _) | exact gb_alloc (gb_alloc (World.grownBy.refl _ _) _) _⟩
theorem eqPoint_s (x y : Int) (w : World) : Calls Try.prog 17 #[.agg #[.int .i64 x, .int .i64 y], .agg #[.int .i64 x, .int .i64 y]] w fun e w' => e = .returned (.bool true) ∧ w.grownBy w' none := by
  go_enter Try.func17, Try.ntmps17
  go_wp2
  go_ret
  exact ⟨rfl, gb_alloc (gb_alloc (World.grownBy.refl _ _) _) _⟩
end Go.Proofs.Ytpkcpkhanodnmaa
