/-
  PackLayer of the reference.
-/
import Derived.Test.YtbpfihklbmephaaPack
namespace Go.Proofs.Ytbpfihklbmephaa
open Go Go.RowKit
set_option maxHeartbeats 4000000 in
theorem split_s (pw pd ww d : Int) (n : Nat) (w : World) (b1 : 1 ≤ pw ∧ pw ≤ 200) (b2 : 1 ≤ pd ∧ pd ≤ 200) (b3 : 1 ≤ ww ∧ ww ≤ 200) (b4 : 1 ≤ d ∧ d ≤ 200) (hnd : (n : Int) * d ≤ pd) :
    Calls Try.prog 38 #[.int .i64 pw, .int .i64 pd, .int .i64 ww, .int .i64 d, .int .i64 (n : Int)] w fun e w' => ∃ r, e = .returned r ∧ St w w' [Own LBx r (cand pw pd ww d n)] := by
  obtain ⟨n200, nd0, c1b, c2b, r0, r1⟩ := cand_bd b1 b2 b3 b4 hnd
  obtain ⟨C1, hC1⟩ : ∃ C1 : Nat, pw / ww = (C1 : Int) := ⟨(pw / ww).toNat, by omega⟩
  obtain ⟨C2, hC2⟩ : ∃ C2 : Nat, pw / d = (C2 : Int) := ⟨(pw / d).toNat, by omega⟩
  obtain ⟨R2, hR2⟩ : ∃ R2 : Nat, (pd - (n : Int) * d) / ww = (R2 : Int) := ⟨((pd - (n : Int) * d) / ww).toNat, by omega⟩
  have hC1b : C1 ≤ 200 := by omega
  have hC2b : C2 ≤ 200 := by omega
  have hR2b : R2 ≤ 200 := by omega
  have hcand : RowKit.Hid (cand pw pd ww d n = (((([] : List Bx) ++ gridTo 0 ww d C1 n).take 60) ++ gridTo ((n : Int) * d) d ww C2 R2).take 60) := by
    show _ = _
    unfold cand
    rw [hC1, hC2, hR2, Int.toNat_natCast, Int.toNat_natCast, Int.toNat_natCast]
  have HC1 := Lib.hid hC1
  have HC2 := Lib.hid hC2
  have HR2 := Lib.hid hR2
  obtain ⟨pw1, pw2⟩ := b1
  obtain ⟨pd1, pd2⟩ := b2
  obtain ⟨ww1, ww2⟩ := b3
  obtain ⟨d1, d2⟩ := b4
  have q1 := hC1
  have S1 := (St.refl w).ownEmpty LBx
  clear hC1 hC2 hR2 c1b c2b r0 r1
  go_enter Try.func38, Try.ntmps38
  go_wp2_with fail
  refine (s_rows w _ [] _ 0 ww d n C1 _ S1 (by simp) ⟨by omega, by omega⟩ (by omega) (by omega) ⟨by omega, by omega⟩ ⟨by omega, by omega⟩).mono ?_
  rintro e w1 ⟨v1, rfl, S2⟩
  clear S1 q1
  have q2 := HC2.out
  have q3 := HR2.out
  have q4 : IntKind.i64.wrap ((n : Int) * d) = (n : Int) * d := IntWalk.i64_in _ (by omega)
  have q5 : IntKind.i64.wrap (pd - (n : Int) * d) = pd - (n : Int) * d := IntWalk.i64_in _ (by omega)
  have q8 : IntKind.i64.wrap (R2 : Int) = (R2 : Int) := IntWalk.i64_in _ (by omega)
  have q9 : IntKind.i64.wrap (C2 : Int) = (C2 : Int) := IntWalk.i64_in _ (by omega)
  have z1 : ¬ ww = 0 := by omega
  have z2 : ¬ d = 0 := by omega
  have z3 : (ww == 0) = false := by simpa using z1
  have z4 : (d == 0) = false := by simpa using z2
  have q6 : Int.tdiv (pd - (n : Int) * d) ww = (R2 : Int) := by rw [Int.tdiv_eq_ediv_of_nonneg (by omega)]; exact HR2.out
  have q7 : Int.tdiv pw d = (C2 : Int) := by rw [Int.tdiv_eq_ediv_of_nonneg (by omega)]; exact HC2.out
  go_wp2_with fail
  go_region_held3 (fun _ => True) (trivial) ((go_at_call 43; refine (s_rows w _ _ _ ((n : Int) * d) d ww R2 C2 _ (S2.drew) (take60_len _) ⟨by omega, by omega⟩ (by omega) (by omega) ⟨by omega, by omega⟩ ⟨by omega, by omega⟩).mono ?_; rintro e w2 ⟨v2, rfl, S3⟩))
  rw [← hcand.out] at S3
  clear S2 q2 q3 q4 q5 q6 q7 q8 q9 z1 z2 z3 z4
  go_wp2
  go_ret
  exact ⟨_, rfl, S3⟩
set_option maxHeartbeats 4000000 in
theorem s_PackLayer (pw pd ww d : Int) (w : World) :
    Calls Try.prog 21 #[.int .i64 pw, .int .i64 pd, .int .i64 ww, .int .i64 d] w fun e w' => ∃ r, e = .returned r ∧ St w w' [Own LBx r (pack pw pd ww d)] := by
  have SE := (St.refl w).ownEmpty LBx
  cases hB : sizeB pw pd ww d with
  | false =>
    have hp : RowKit.Hid (pack pw pd ww d = []) := by show _ = _; unfold pack; rw [hB]; rfl
    rw [← hp.out] at SE
    go_enter Try.func21, Try.ntmps21
    go_wp2_with (go_at_call 36; refine (size_s _ _ _ _ _).mono ?_; rintro e w' ⟨rfl, rfl⟩)
    go_ret
    exact ⟨_, rfl, SE⟩
  | true =>
    have hp : RowKit.Hid (pack pw pd ww d = bestOf pw pd ww d (pd / d + 1).toNat) := by show _ = _; unfold pack; rw [hB]; rfl
    obtain ⟨b1, b2, b3, b4⟩ := sizeB_bd hB
    have HB := Lib.hid (And.intro b1 (And.intro b2 (And.intro b3 b4)))
    obtain ⟨NN, hNN⟩ : ∃ NN : Nat, pd / d + 1 = (NN : Int) := ⟨(pd / d + 1).toNat, by have := Int.ediv_nonneg (show 0 ≤ pd by omega) (show 0 ≤ d by omega); omega⟩
    have HNN := Lib.hid hNN
    have hNb : NN ≤ 201 := by have := Int.ediv_le_self d (show 0 ≤ pd by omega); omega
    obtain ⟨pw1, pw2⟩ := b1
    obtain ⟨pd1, pd2⟩ := b2
    obtain ⟨ww1, ww2⟩ := b3
    obtain ⟨d1, d2⟩ := b4
    clear hNN
    go_enter Try.func21, Try.ntmps21
    go_wp2_with (go_at_call 36; refine (size_s _ _ _ _ _).mono ?_; rintro e w' ⟨rfl, rfl⟩)
    have S0 : St w (w.alloc (.cells #[] 25)) [Own LBx (.slice (some ⟨w.heap.size, 0, none⟩) 0 0) (bestOf pw pd ww d 0)] := SE
    clear SE hB
    go_loopw [9, 10, 11] (fun o i _ wr => ∃ n : Nat, n ≤ NN ∧ i = .int .i64 n ∧ St w wr [Own LBx o (bestOf pw pd ww d n)]) (fun _ i _ _ => NN - (intOf i).toNat)
    case atStart => exact ⟨0, by omega, rfl, S0⟩
    case round =>
      obtain ⟨n, hn, rfl, S⟩ := hrel
      clear S0
      have nb := mul_bd (a := (n : Int)) (b := d) (by omega) (by omega) (by omega) (by omega)
      obtain ⟨nb0, nb1⟩ := nb
      by_cases hnd : (n : Int) * d ≤ pd
      rotate_left
      · have hnn : n = NN := by
          have h1 : ¬ ((n : Int) < pd / d + 1) := fun q => hnd ((le_iff d1 n (pd := pd)).2 q)
          rw [HNN.out] at h1
          omega
        have e : RowKit.Hid (pack pw pd ww d = bestOf pw pd ww d n) := by show _ = _; rw [hp.out, HNN.out, Int.toNat_natCast, hnn]
        rw [← e.out] at S
        clear hnn
        go_wp2
        go_ret
        exact ⟨_, rfl, S⟩
      have hlt : n < NN := by
        have h1 := (le_iff d1 n (pd := pd)).1 hnd
        rw [HNN.out] at h1
        omega
      go_wp2_with fail
      refine (split_s pw pd ww d n _ HB.out.1 HB.out.2.1 HB.out.2.2.1 HB.out.2.2.2 hnd).mono ?_
      rintro e w2 ⟨v2, rfl, S2⟩
      have S3 := S.call S2
      simp only [List.cons_append, List.nil_append] at S3
      clear S S2
      obtain ⟨la, ln, lc, rfl, hln⟩ := (St.own S3).slice
      obtain ⟨ba, bn, bc, hbv, hbn⟩ := (St.own (St.tail S3)).slice
      subst hbv
      by_cases hlong : bn < ln
      · have S4 : St w w2 [Own LBx (.slice la ln lc) (bestOf pw pd ww d (n + 1))] := by
          unfold bestOf
          rw [if_pos (by omega)]
          exact St.drop1 (Ms := [_]) S3
        clear S3 hln hbn
        go_wp2
        go_roundw
        case rel => exact ⟨n + 1, by omega, by go_num, S4⟩
        case measure => simp [intOf]; omega
      · have S4 : St w w2 [Own LBx (.slice ba bn bc) (bestOf pw pd ww d (n + 1))] := by
          unfold bestOf
          rw [if_neg (by omega)]
          exact St.tail S3
        clear S3 hln hbn
        go_wp2
        go_roundw
        case rel => exact ⟨n + 1, by omega, by go_num, S4⟩
        case measure => simp [intOf]; omega
end Go.Proofs.Ytbpfihklbmephaa
