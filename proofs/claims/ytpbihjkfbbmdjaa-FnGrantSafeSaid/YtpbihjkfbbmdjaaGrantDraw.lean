/-
  The draw of FnGrantSafe.
-/
import Derived.Test.YtpbihjkfbbmdjaaClmDraw
namespace Go.Proofs.Ytpbihjkfbbmdjaa
open Go Go.RowKit
set_option linter.unusedVariables false
def DGQ (w : World) (e : Ending) (w' : World) : Prop :=
  ∃ (v : Value) (ys : List Clm) (u : Value) (fr : List Int) (n : Int) (t : Value) (want : List Int), e = .returned (.tuple #[v, u, .int .i64 n, t]) ∧ ys.length ≤ 4 ∧ fr.length ≤ 5 ∧ (-1 ≤ n ∧ n ≤ 4) ∧ want.length ≤ 6 ∧ St w w' [DOwn LClm DClm v ys, Own LI u fr, Own LI t want]
set_option maxRecDepth 100000 in
set_option maxHeartbeats 400000 in
theorem DrawGrantSafe_any (a : Option Addr) (len cap : Nat) (w : World) (h : Byts w a len cap) : Calls Try.prog 22 #[.slice a len cap] w (DGQ w) := by
  go_enter Try.func22, Try.ntmps22
  go_wp2_with fail
  refine (open_s a len cap w h).mono ?_
  rintro e w1 ⟨B, rfl, S1⟩
  go_wp2_with fail
  refine (claims_s w B 0 [] 14 _ S1 (by omega) (by omega)).mono ?_
  rintro e w2 ⟨v, ys, u, fr, m', rfl, hl, hfl, hm, S2⟩
  obtain ⟨oa, on, oc, rfl, -, -, HON, -⟩ := (St.drds S2.tail).get
  obtain ⟨fa, fn, fc, rfl, hfn⟩ := (St.own S2.tail.tail).slice
  have hon : on ≤ 4 := by have := HON.out; omega
  have hfn5 : fn ≤ 5 := by omega
  clear S1 hfn
  go_wp2_with fail
  refine (pick_s w B _ _ ((on : Int) + 1) _ S2 (by omega)).mono ?_
  rintro e w3 ⟨p, rfl, ⟨p0, p1, -⟩, S3⟩
  replace p1 := p1 (by omega)
  clear S2
  go_wp2_with fail
  refine (pick_s w B _ _ 12 _ S3 (by omega)).mono ?_
  rintro e w4 ⟨q, rfl, ⟨q0, q1, -⟩, S4⟩
  replace q1 := q1 (by omega)
  clear S3
  obtain ⟨D1, hD1, d10, d11⟩ : ∃ D1 : Int, Int.tdiv q 11 = D1 ∧ 0 ≤ D1 ∧ D1 ≤ 1 := ⟨_, rfl, by rw [Int.tdiv_eq_ediv_of_nonneg q0]; omega, by rw [Int.tdiv_eq_ediv_of_nonneg q0]; omega⟩
  have i1 : IntKind.i64.wrap D1 = D1 := IntWalk.i64_in _ (by omega)
  have i2 : IntKind.i64.wrap (p - D1) = p - D1 := IntWalk.i64_in _ (by omega)
  go_wp2_with fail
  refine (pick_s w B _ _ 14 _ S4 (by omega)).mono ?_
  rintro e w5 ⟨r, rfl, ⟨r0, r1, -⟩, S5⟩
  replace r1 := r1 (by omega)
  clear S4
  obtain ⟨D2, hD2, d20⟩ : ∃ D2 : Nat, Int.tdiv r 13 = (D2 : Int) ∧ D2 ≤ 1 := ⟨(r / 13).toNat, by rw [Int.tdiv_eq_ediv_of_nonneg r0]; omega, by omega⟩
  have i3 : IntKind.i64.wrap (D2 : Int) = (D2 : Int) := IntWalk.i64_in _ (by omega)
  have RW := row_s w B _ _ (fn + D2) 2 _ S5 (by omega) (by omega) (by omega)
  rw [show (((fn + D2 : Nat)) : Int) = (fn : Int) + (D2 : Int) by omega] at RW
  have RW := Lib.hid RW
  go_wp2_with fail
  refine RW.out.mono ?_
  rintro e w6 ⟨t, want, rfl, hwl, S6⟩
  have S7 : St w w6 [DOwn LClm DClm (.slice oa on oc) ys, Own LI (.slice fa fn fc) fr, Own LI t want] := S6.swap.tail.rot.rot
  clear S5 S6 RW
  go_wp2_with fail
  exact bodyPost_ret (v := .tuple #[.slice oa on oc, .slice fa fn fc, .int .i64 (p - D1), t]) (by simp [results, Try.results22, go_sem]) rfl ⟨_, ys, _, fr, _, _, want, rfl, hl, hfl, by omega, by omega, S7⟩
end Go.Proofs.Ytpbihjkfbbmdjaa
