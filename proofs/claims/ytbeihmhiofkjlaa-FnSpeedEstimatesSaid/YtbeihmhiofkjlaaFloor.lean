/-
  Quotients rounded down.
-/
import Derived.Test.YtbeihmhiofkjlaaInts
namespace Go.Proofs.Ytbeihmhiofkjlaa
open Go Go.RowKit
theorem tdiv_floor (a b : Int) (hb : 0 < b) : a / b = if a.tmod b < 0 then a.tdiv b - 1 else a.tdiv b := by
  have h1 := Int.mul_tdiv_add_tmod a b
  have h2 := Int.mul_ediv_add_emod a b
  have h3 := Int.emod_nonneg a (show b ≠ 0 by omega)
  have h4 := Int.emod_lt_of_pos a hb
  have h5 : a.tmod b < b := Int.tmod_lt_of_pos a hb
  have h6 : -b < a.tmod b := by
    have := Int.tmod_lt_of_pos (-a) hb
    rw [Int.neg_tmod] at this
    omega
  generalize a.tdiv b = q at *
  generalize a.tmod b = r at *
  generalize a / b = q' at *
  generalize a % b = r' at *
  split
  · have : b * q' = b * (q - 1) + (r + b - r') := by rw [Int.mul_sub]; omega
    have h7 : q' - (q - 1) < 1 := by
      apply Int.lt_of_mul_lt_mul_left (a := b) _ (by omega)
      rw [Int.mul_sub]; omega
    have h8 : -1 < q' - (q - 1) := by
      apply Int.lt_of_mul_lt_mul_left (a := b) _ (by omega)
      rw [Int.mul_sub]; omega
    omega
  · have h7 : q' - q < 1 := by
      apply Int.lt_of_mul_lt_mul_left (a := b) _ (by omega)
      rw [Int.mul_sub]; omega
    have h8 : -1 < q' - q := by
      apply Int.lt_of_mul_lt_mul_left (a := b) _ (by omega)
      rw [Int.mul_sub]; omega
    omega
theorem tdiv_bd (a b : Int) (_hb : 0 < b) (ha : -9000000000000000000 ≤ a ∧ a ≤ 9000000000000000000) : -9000000000000000000 ≤ a.tdiv b ∧ a.tdiv b ≤ 9000000000000000000 := by
  have h := Int.natAbs_tdiv_le_natAbs a b
  omega
theorem floor_any (a b : Int) (w : World) (hb : 0 < b ∧ b ≤ 9000000000000000000) (ha : -9000000000000000000 ≤ a ∧ a ≤ 9000000000000000000) :
    Calls Try.prog 44 #[.int .i64 a, .int .i64 b] w fun e w' => e = .returned (.int .i64 (a / b)) ∧ w = w' := by
  obtain ⟨hb1, hb2⟩ := hb
  have hq := tdiv_bd a b hb1 ha
  obtain ⟨q1, q2⟩ := hq
  obtain ⟨a1, a2⟩ := ha
  have hF := Lib.hid (tdiv_floor a b hb1)
  by_cases hr : a.tmod b < 0
  · have hF2 : RowKit.Hid (a / b = a.tdiv b - 1) := by have := hF.out; rw [if_pos hr] at this; exact this
    clear hF
    go_enter Try.func44, Try.ntmps44
    go_wp2
    go_ret
    exact ⟨by rw [hF2.out]; rfl, rfl⟩
  · have hF2 : RowKit.Hid (a / b = a.tdiv b) := by have := hF.out; rw [if_neg hr] at this; exact this
    clear hF
    go_enter Try.func44, Try.ntmps44
    go_wp2
    go_ret
    exact ⟨by rw [hF2.out]; rfl, rfl⟩
theorem l1Floor_any (a b : Int) (w : World) (hb : 0 < b ∧ b ≤ 9000000000000000000) (ha : -9000000000000000000 ≤ a ∧ a ≤ 9000000000000000000) :
    Calls Try.prog 43 #[.int .i64 a, .int .i64 b] w fun e w' => e = .returned (.int .i64 (a / b)) ∧ w = w' := by
  obtain ⟨hb1, hb2⟩ := hb
  have hq := tdiv_bd a b hb1 ha
  obtain ⟨q1, q2⟩ := hq
  obtain ⟨a1, a2⟩ := ha
  have hF := Lib.hid (tdiv_floor a b hb1)
  by_cases hr : a.tmod b < 0
  · have hF2 : RowKit.Hid (a / b = a.tdiv b - 1) := by have := hF.out; rw [if_pos hr] at this; exact this
    clear hF
    go_enter Try.func43, Try.ntmps43
    go_wp2
    go_ret
    exact ⟨by rw [hF2.out]; rfl, rfl⟩
  · have hF2 : RowKit.Hid (a / b = a.tdiv b) := by have := hF.out; rw [if_neg hr] at this; exact this
    clear hF
    go_enter Try.func43, Try.ntmps43
    go_wp2
    go_ret
    exact ⟨by rw [hF2.out]; rfl, rfl⟩
end Go.Proofs.Ytbeihmhiofkjlaa
