/-
  Contracts of GrayCode and GrayValue, of the program and of the reference.
-/
import Derived.Test.YtbeihmhiofkjlaaBase
import Derived.Test.YtbeihmhiofkjlaaGrayLaw
namespace Go.Proofs.Ytbeihmhiofkjlaa
open Go Go.RowKit

/-! ### The walks -/
/-- What GrayCode gives. -/
def codeI (n : Int) : Int := if 0 ≤ n ∧ n ≤ 65535 then (gray n.toNat : Nat) else -1
def valueI (n : Int) : Int := if 0 ≤ n ∧ n ≤ 65535 then (gv n.toNat : Nat) else -1
theorem codeI_of (n : Nat) (h : n ≤ 65535) : codeI (n : Int) = (gray n : Nat) := by
  unfold codeI
  rw [if_pos (by omega), Int.toNat_natCast]
theorem valueI_of (n : Nat) (h : n ≤ 65535) : valueI (n : Int) = (gv n : Nat) := by
  unfold valueI
  rw [if_pos (by omega), Int.toNat_natCast]
theorem xor_half (n : Nat) (h : n ≤ 65535) : bits .xor .i64 (n : Int) ((n : Int) / 2) = codeI n := by
  rw [codeI_of n h, show ((n : Int) / 2) = ((n / 2 : Nat) : Int) by omega, xor_i64 _ _ (by omega) (by omega)]
  rfl
theorem i_GrayCode (n : Int) (w : World) : Calls Try.prog 15 #[.int .i64 n] w fun e w' => e = .returned (.int .i64 (codeI n)) ∧ w = w' := by
  by_cases h : 0 ≤ n ∧ n ≤ 65535
  · obtain ⟨h1, h2⟩ := h
    obtain ⟨n, rfl⟩ := Int.eq_ofNat_of_zero_le h1
    have hx := Lib.hid (xor_half n (by omega))
    go_enter Try.func15, Try.ntmps15
    go_wp2
    go_ret
    exact ⟨by rw [hx.out]; rfl, rfl⟩
  · have hc : codeI n = -1 := by unfold codeI; rw [if_neg h]
    rw [hc]
    go_enter Try.func15, Try.ntmps15
    go_wp2_with (go_at_call 37; refine (within_f _ _ _ _ h).mono ?_; rintro e w' ⟨rfl, rfl⟩)
    go_ret
    exact ⟨rfl, rfl⟩
theorem s_GrayCode (n : Int) (w : World) : Calls Try.prog 14 #[.int .i64 n] w fun e w' => e = .returned (.int .i64 (codeI n)) ∧ w = w' := by
  by_cases h : 0 ≤ n ∧ n ≤ 65535
  · obtain ⟨h1, h2⟩ := h
    obtain ⟨n, rfl⟩ := Int.eq_ofNat_of_zero_le h1
    have hx := Lib.hid (xor_half n (by omega))
    go_enter Try.func14, Try.ntmps14
    go_wp2
    go_ret
    exact ⟨by rw [hx.out]; rfl, rfl⟩
  · have hc : codeI n = -1 := by unfold codeI; rw [if_neg h]
    rw [hc]
    go_enter Try.func14, Try.ntmps14
    go_wp2_with (go_at_call 36; refine (in_f _ _ _ _ h).mono ?_; rintro e w' ⟨rfl, rfl⟩)
    go_ret
    exact ⟨rfl, rfl⟩
set_option maxHeartbeats 400000 in
theorem i_GrayValue (n : Int) (w : World) : Calls Try.prog 19 #[.int .i64 n] w fun e w' => e = .returned (.int .i64 (valueI n)) ∧ w = w' := by
  by_cases h : 0 ≤ n ∧ n ≤ 65535
  · obtain ⟨h1, h2⟩ := h
    obtain ⟨n, rfl⟩ := Int.eq_ofNat_of_zero_le h1
    rw [valueI_of n (by omega)]
    go_enter Try.func19, Try.ntmps19
    go_wp2
    go_loop [0, 3] (fun g v => ∃ a b : Nat, g = .int .i64 b ∧ v = .int .i64 a ∧ b ≤ 65535 ∧ a < 65536 ∧ (a ^^^ gv b) = gv n) (fun g _ => (intOf g).toNat)
    case atStart => exact ⟨0, n, rfl, rfl, by omega, by omega, by rw [Nat.zero_xor]⟩
    case round =>
      obtain ⟨a, b, rfl, rfl, hb, ha, hx⟩ := hrel
      have HX := Lib.hid hx
      clear hx
      by_cases h0 : b = 0
      · subst h0
        go_wp2
        go_ret
        have := HX.out
        rw [gv_zero, Nat.xor_zero] at this
        exact ⟨by rw [← this]; rfl, rfl⟩
      · have hpos : (0 : Int) < b := by omega
        go_wp2
        go_round
        case rel => exact ⟨a ^^^ b, b / 2, by go_num, by rw [xor_i64 _ _ (by omega) (by omega)], by omega, Nat.xor_lt_two_pow (n := 16) (by omega) (by omega), xor_step _ _ _ (by omega) HX.out⟩
        case measure => simp [intOf]; omega
  · have hc : valueI n = -1 := by unfold valueI; rw [if_neg h]
    rw [hc]
    go_enter Try.func19, Try.ntmps19
    go_wp2_with (go_at_call 37; refine (within_f _ _ _ _ h).mono ?_; rintro e w' ⟨rfl, rfl⟩)
    go_ret
    exact ⟨rfl, rfl⟩
set_option maxHeartbeats 400000 in
theorem s_GrayValue (n : Int) (w : World) : Calls Try.prog 18 #[.int .i64 n] w fun e w' => e = .returned (.int .i64 (valueI n)) ∧ w = w' := by
  by_cases h : 0 ≤ n ∧ n ≤ 65535
  · obtain ⟨h1, h2⟩ := h
    obtain ⟨n, rfl⟩ := Int.eq_ofNat_of_zero_le h1
    rw [valueI_of n (by omega)]
    go_enter Try.func18, Try.ntmps18
    go_wp2
    go_loop [0, 3] (fun g v => ∃ a b : Nat, g = .int .i64 b ∧ v = .int .i64 a ∧ b ≤ 65535 ∧ a < 65536 ∧ (a ^^^ gv b) = gv n) (fun g _ => (intOf g).toNat)
    case atStart => exact ⟨0, n, rfl, rfl, by omega, by omega, by rw [Nat.zero_xor]⟩
    case round =>
      obtain ⟨a, b, rfl, rfl, hb, ha, hx⟩ := hrel
      have HX := Lib.hid hx
      clear hx
      by_cases h0 : b = 0
      · subst h0
        go_wp2
        go_ret
        have := HX.out
        rw [gv_zero, Nat.xor_zero] at this
        exact ⟨by rw [← this]; rfl, rfl⟩
      · have hpos : (0 : Int) < b := by omega
        go_wp2
        go_round
        case rel => exact ⟨a ^^^ b, b / 2, by go_num, by rw [xor_i64 _ _ (by omega) (by omega)], by omega, Nat.xor_lt_two_pow (n := 16) (by omega) (by omega), xor_step _ _ _ (by omega) HX.out⟩
        case measure => simp [intOf]; omega
  · have hc : valueI n = -1 := by unfold valueI; rw [if_neg h]
    rw [hc]
    go_enter Try.func18, Try.ntmps18
    go_wp2_with (go_at_call 36; refine (in_f _ _ _ _ h).mono ?_; rintro e w' ⟨rfl, rfl⟩)
    go_ret
    exact ⟨rfl, rfl⟩
end Go.Proofs.Ytbeihmhiofkjlaa
