/-
  Contracts of EncoderAngle, of the program and of the reference, and of its draw.
-/
import Derived.Test.YtbeihmhiofkjlaaBase
import Derived.Test.YtbeihmhiofkjlaaDrawn
namespace Go.Proofs.Ytbeihmhiofkjlaa
open Go Go.RowKit
def angleI (c s : Int) : Int := if (-1000000 ≤ c ∧ c ≤ 1000000) ∧ (1 ≤ s ∧ s ≤ 10000) then c % s * 360 / s else -1
theorem angle_yes {c s : Int} (h : (-1000000 ≤ c ∧ c ≤ 1000000) ∧ (1 ≤ s ∧ s ≤ 10000)) : angleI c s = c % s * 360 / s := by unfold angleI; rw [if_pos h]
theorem angle_no {c s : Int} (h : ¬ ((-1000000 ≤ c ∧ c ≤ 1000000) ∧ (1 ≤ s ∧ s ≤ 10000))) : angleI c s = -1 := by unfold angleI; rw [if_neg h]
theorem tmod_bd (c s : Int) (h : 1 ≤ s) : -s < c.tmod s ∧ c.tmod s < s := by
  constructor
  · exact Int.lt_tmod_of_pos c (by omega)
  · exact Int.tmod_lt_of_pos _ (by omega)
theorem tmod_mod (c s : Int) : c.tmod s % s = c % s := by
  have h := Int.mul_tdiv_add_tmod c s
  have : (c.tmod s + s * c.tdiv s) % s = c.tmod s % s := Int.add_mul_emod_self_left _ _ _
  rw [← this, Int.add_comm, h]
theorem angle_i (c s : Int) : (c.tmod s + s) % s = c % s := by rw [Int.add_emod_right, tmod_mod]
theorem angle_neg (c s : Int) (h : 1 ≤ s) (hn : c.tmod s < 0) : c.tmod s + s = c % s := by
  have := angle_i c s
  have hb := tmod_bd c s h
  rw [Int.emod_eq_of_lt (by omega) (by omega)] at this
  exact this
theorem angle_pos (c s : Int) (h : 1 ≤ s) (hn : 0 ≤ c.tmod s) : c.tmod s = c % s := by
  have := tmod_mod c s
  have hb := tmod_bd c s h
  rw [Int.emod_eq_of_lt (by omega) (by omega)] at this
  exact this
theorem i_EncoderAngle (c s : Int) (w : World) : Calls Try.prog 17 #[.int .i64 c, .int .i64 s] w fun e w' => e = .returned (.int .i64 (angleI c s)) ∧ w = w' := by
  by_cases h1 : -1000000 ≤ c ∧ c ≤ 1000000
  · by_cases h2 : 1 ≤ s ∧ s ≤ 10000
    · obtain ⟨t1, t2⟩ := tmod_bd c s h2.1
      have hfin : c.tmod s % s * 360 / s = angleI c s := by rw [tmod_mod, angle_yes ⟨h1, h2⟩]
      have hF := Lib.hid hfin
      have hm1 : 0 ≤ c.tmod s % s := Int.emod_nonneg _ (by omega)
      have hm2 : c.tmod s % s < s := Int.emod_lt_of_pos _ (by omega)
      obtain ⟨a1, a2⟩ := h1
      obtain ⟨b1, b2⟩ := h2
      clear hfin
      go_enter Try.func17, Try.ntmps17
      go_wp2
      go_ret
      exact ⟨by rw [← hF.out]; rfl, rfl⟩
    · rw [angle_no (fun h => h2 h.2)]
      go_enter Try.func17, Try.ntmps17
      go_wp2_with (go_at_call 37; first | (with_reducible refine (within_t c _ _ _ h1).mono ?_; rintro e w' ⟨rfl, rfl⟩) | (with_reducible refine (within_f s _ _ _ h2).mono ?_; rintro e w' ⟨rfl, rfl⟩))
      go_ret
      exact ⟨rfl, rfl⟩
  · rw [angle_no (fun h => h1 h.1)]
    go_enter Try.func17, Try.ntmps17
    go_wp2_with (go_at_call 37; with_reducible refine (within_f c _ _ _ h1).mono ?_; rintro e w' ⟨rfl, rfl⟩)
    go_ret
    exact ⟨rfl, rfl⟩
theorem s_EncoderAngle (c s : Int) (w : World) : Calls Try.prog 16 #[.int .i64 c, .int .i64 s] w fun e w' => e = .returned (.int .i64 (angleI c s)) ∧ w = w' := by
  by_cases h2 : 1 ≤ s ∧ s ≤ 10000
  · by_cases h1 : -1000000 ≤ c ∧ c ≤ 1000000
    · obtain ⟨t1, t2⟩ := tmod_bd c s h2.1
      have hy := angle_yes ⟨h1, h2⟩
      by_cases hn : c.tmod s < 0
      · have hfin : 360 * (c.tmod s + s) / s = angleI c s := by rw [hy, angle_neg c s h2.1 hn, Int.mul_comm]
        have hF := Lib.hid hfin
        obtain ⟨a1, a2⟩ := h1
        obtain ⟨b1, b2⟩ := h2
        clear hfin hy
        go_enter Try.func16, Try.ntmps16
        go_wp2
        go_ret
        exact ⟨by rw [← hF.out]; rfl, rfl⟩
      · have hfin : 360 * (c.tmod s) / s = angleI c s := by rw [hy, angle_pos c s h2.1 (by omega), Int.mul_comm]
        have hF := Lib.hid hfin
        have hn' : 0 ≤ c.tmod s := by omega
        obtain ⟨a1, a2⟩ := h1
        obtain ⟨b1, b2⟩ := h2
        clear hfin hy hn
        go_enter Try.func16, Try.ntmps16
        go_wp2
        go_ret
        exact ⟨by rw [← hF.out]; rfl, rfl⟩
    · rw [angle_no (fun h => h1 h.1)]
      go_enter Try.func16, Try.ntmps16
      go_wp2_with (go_at_call 36; first | (with_reducible refine (in_t s _ _ _ h2).mono ?_; rintro e w' ⟨rfl, rfl⟩) | (with_reducible refine (in_f c _ _ _ h1).mono ?_; rintro e w' ⟨rfl, rfl⟩))
      go_ret
      exact ⟨rfl, rfl⟩
  · rw [angle_no (fun h => h2 h.2)]
    go_enter Try.func16, Try.ntmps16
    go_wp2_with (go_at_call 36; with_reducible refine (in_f s _ _ _ h2).mono ?_; rintro e w' ⟨rfl, rfl⟩)
    go_ret
    exact ⟨rfl, rfl⟩
end Go.Proofs.Ytbeihmhiofkjlaa
