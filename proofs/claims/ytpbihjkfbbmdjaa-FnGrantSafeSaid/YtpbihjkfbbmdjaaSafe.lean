/-
  StateSafe.
-/
import Derived.Test.YtpbihjkfbbmdjaaFinS
namespace Go.Proofs.Ytpbihjkfbbmdjaa
open Go Go.RowKit
def safeB (cs : List Clm) (fr : List Int) : Bool := claimsB cs fr && decide ((finish cs fr).length = cs.length)
theorem i_StateSafe (v : Value) (cs : List Clm) (u : Value) (fr : List Int) (w : World) (hv : DRds LClm DClm w v cs) (hu : Rds LI w u fr) :
    Calls Try.prog 11 #[v, u] w fun e w' => e = .returned (.bool (safeB cs fr)) ∧ w.grownBy w' none := by
  have H := i_ClaimsValid v u cs fr w hv hu
  unfold safeB
  have HF : RowKit.Hid (∀ w1, w.grownBy w1 none → Calls Try.prog 15 #[v, u] w1 fun e w' => ∃ r, e = .returned r ∧ St w1 w' [Own LI r (finish cs fr)]) := fun w1 g => i_FinishOrder v cs u fr w1 (hv.kept g) (hu.kept g)
  obtain ⟨a, n, cap, rfl, -, -, HN, -⟩ := hv.clms
  cases hq : claimsB cs fr with
  | false =>
    rw [hq] at H
    clear hq
    go_enter Try.func11, Try.ntmps11
    go_wp2_with (go_at_call 28; refine H.mono ?_; rintro e w1 ⟨rfl, g1⟩)
    go_ret
    exact ⟨rfl, g1⟩
  | true =>
    rw [hq] at H
    clear hq
    rw [Bool.true_and]
    obtain ⟨F, hF⟩ : ∃ F, RowKit.Hid (F = (finish cs fr).length) := ⟨_, rfl⟩
    rw [← hF.out, ← HN.out]
    go_enter Try.func11, Try.ntmps11
    go_wp2_with fail
    refine H.mono ?_
    rintro e w1 ⟨rfl, g1⟩
    go_wp2_with fail
    refine (HF.out w1 g1).mono ?_
    rintro e w2 ⟨r, rfl, S⟩
    obtain ⟨ra, rn, rc, rfl, hrn⟩ := (St.own S).slice
    have g2 := gb_trans g1 S.gb
    obtain rfl : rn = F := by rw [hrn, hF.out]
    clear hrn S g1 H
    by_cases h : rn = n
    · have e1 : ((rn : Int) == (n : Int)) = true := beq_iff_eq.2 (by omega)
      go_wp2_with fail
      go_ret
      exact ⟨by simp [h], g2⟩
    · have e1 : ((rn : Int) == (n : Int)) = false := beq_eq_false_iff_ne.2 (by omega)
      go_wp2_with fail
      go_ret
      exact ⟨by simp [h], g2⟩
theorem s_StateSafe (v : Value) (cs : List Clm) (u : Value) (fr : List Int) (w : World) (hv : DRds LClm DClm w v cs) (hu : Rds LI w u fr) :
    Calls Try.prog 8 #[v, u] w fun e w' => e = .returned (.bool (safeB cs fr)) ∧ w.grownBy w' none := by
  have H := s_ClaimsValid v u cs fr w hv hu
  unfold safeB
  have HF : RowKit.Hid (Calls Try.prog 14 #[v, u] w fun e w' => ∃ r, e = .returned r ∧ St w w' [Own LI r (finish cs fr)]) := s_FinishOrder v cs u fr w hv hu
  obtain ⟨a, n, cap, rfl, -, -, HN, -⟩ := hv.clms
  cases hq : claimsB cs fr with
  | false =>
    rw [hq] at H
    clear hq
    go_enter Try.func8, Try.ntmps8
    go_wp2_with (go_at_call 24; refine H.mono ?_; rintro e w1 ⟨rfl, rfl⟩)
    go_ret
    exact ⟨rfl, World.grownBy.refl _ _⟩
  | true =>
    rw [hq] at H
    clear hq
    rw [Bool.true_and]
    obtain ⟨F, hF⟩ : ∃ F, RowKit.Hid (F = (finish cs fr).length) := ⟨_, rfl⟩
    rw [← hF.out, ← HN.out]
    go_enter Try.func8, Try.ntmps8
    go_wp2_with fail
    refine H.mono ?_
    rintro e w1 ⟨rfl, rfl⟩
    go_wp2_with fail
    refine HF.out.mono ?_
    rintro e w2 ⟨r, rfl, S⟩
    obtain ⟨ra, rn, rc, rfl, hrn⟩ := (St.own S).slice
    have g2 := S.gb
    obtain rfl : rn = F := by rw [hrn, hF.out]
    clear hrn S H
    by_cases h : rn = n
    · have e1 : ((rn : Int) == (n : Int)) = true := beq_iff_eq.2 (by omega)
      go_wp2_with fail
      go_ret
      exact ⟨by simp [h], g2⟩
    · have e1 : ((rn : Int) == (n : Int)) = false := beq_eq_false_iff_ne.2 (by omega)
      go_wp2_with fail
      go_ret
      exact ⟨by simp [h], g2⟩
end Go.Proofs.Ytpbihjkfbbmdjaa
