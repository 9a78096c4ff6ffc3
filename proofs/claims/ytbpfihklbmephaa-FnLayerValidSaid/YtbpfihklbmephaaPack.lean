/-
  PackLayer: both programs give the same layer.
-/
import Derived.Test.YtbpfihklbmephaaRows60
namespace Go.Proofs.Ytbpfihklbmephaa
open Go Go.RowKit
def sizeB (pw pd w d : Int) : Bool := inB pw 1 200 && inB pd 1 200 && inB w 1 200 && inB d 1 200
theorem sizeB_bd {pw pd w d : Int} (h : sizeB pw pd w d = true) : (1 ≤ pw ∧ pw ≤ 200) ∧ (1 ≤ pd ∧ pd ≤ 200) ∧ (1 ≤ w ∧ w ≤ 200) ∧ (1 ≤ d ∧ d ≤ 200) := by
  unfold sizeB at h
  simp only [Bool.and_eq_true] at h
  exact ⟨inB_t.1 h.1.1.1, inB_t.1 h.1.1.2, inB_t.1 h.1.2, inB_t.1 h.2⟩
set_option maxHeartbeats 1000000 in
theorem size_s (pw pd ww d : Int) (w : World) : Calls Try.prog 36 #[.int .i64 pw, .int .i64 pd, .int .i64 ww, .int .i64 d] w fun e w' => e = .returned (.bool (sizeB pw pd ww d)) ∧ w = w' := by
  unfold sizeB
  cases e1 : inB pw 1 200 <;> cases e2 : inB pd 1 200 <;> cases e3 : inB ww 1 200 <;> cases e4 : inB d 1 200
  all_goals
    go_enter Try.func36, Try.ntmps36
    go_wp2_with (go_at_call 42; refine (in_b _ _ _ _).mono ?_; rintro e w' ⟨rfl, rfl⟩)
    go_ret
    exact ⟨rfl, rfl⟩
def cand (pw pd ww d : Int) (n : Nat) : List Bx := (((([] : List Bx) ++ gridTo 0 ww d (pw / ww).toNat n).take 60) ++ gridTo ((n : Int) * d) d ww (pw / d).toNat ((pd - (n : Int) * d) / ww).toNat).take 60
def bestOf (pw pd ww d : Int) : Nat → List Bx
  | 0 => []
  | k + 1 => if (bestOf pw pd ww d k).length < (cand pw pd ww d k).length then cand pw pd ww d k else bestOf pw pd ww d k
def pack (pw pd ww d : Int) : List Bx := if sizeB pw pd ww d then bestOf pw pd ww d (pd / d + 1).toNat else []
theorem cand_len (pw pd ww d : Int) (n : Nat) : (cand pw pd ww d n).length ≤ 60 := take60_len _
theorem bestOf_len (pw pd ww d : Int) : ∀ k, (bestOf pw pd ww d k).length ≤ 60
  | 0 => by simp [bestOf]
  | k + 1 => by
    unfold bestOf
    split
    · exact cand_len _ _ _ _ _
    · exact bestOf_len pw pd ww d k
theorem pack_len (pw pd ww d : Int) : (pack pw pd ww d).length ≤ 60 := by
  unfold pack
  split
  · exact bestOf_len _ _ _ _ _
  · simp
/-- The bounds of what a candidate reckons. -/
theorem cand_bd {pw pd ww d : Int} (h1 : 1 ≤ pw ∧ pw ≤ 200) (h2 : 1 ≤ pd ∧ pd ≤ 200) (h3 : 1 ≤ ww ∧ ww ≤ 200) (h4 : 1 ≤ d ∧ d ≤ 200) {n : Nat} (hn : (n : Int) * d ≤ pd) :
    n ≤ 200 ∧ 0 ≤ (n : Int) * d ∧ (0 ≤ pw / ww ∧ pw / ww ≤ 200) ∧ (0 ≤ pw / d ∧ pw / d ≤ 200) ∧ (0 ≤ (pd - (n : Int) * d) / ww ∧ (pd - (n : Int) * d) / ww ≤ 200) := by
  have hnd : 0 ≤ (n : Int) * d := Int.mul_nonneg (by omega) (by omega)
  have hn1 : (n : Int) ≤ (n : Int) * d := by
    have := Int.mul_le_mul_of_nonneg_left (show (1 : Int) ≤ d by omega) (show (0 : Int) ≤ n by omega)
    omega
  have q : ∀ a b : Int, 0 ≤ a → a ≤ 200 → 1 ≤ b → 0 ≤ a / b ∧ a / b ≤ 200 := fun a b ha ha2 hb => by
    have e1 := Int.ediv_nonneg ha (show 0 ≤ b by omega)
    have e2 := Int.ediv_le_self b ha
    omega
  exact ⟨by omega, hnd, q _ _ (by omega) (by omega) (by omega), q _ _ (by omega) (by omega) (by omega), q _ _ (by omega) (by omega) (by omega)⟩
theorem le_iff {pd d : Int} (hd : 1 ≤ d) (n : Nat) : (n : Int) * d ≤ pd ↔ (n : Int) < pd / d + 1 := by
  rw [Int.lt_add_one_iff, Int.le_ediv_iff_mul_le (by omega)]
set_option maxHeartbeats 8000000 in
theorem i_PackLayer (pw pd ww d : Int) (w : World) :
    Calls Try.prog 22 #[.int .i64 pw, .int .i64 pd, .int .i64 ww, .int .i64 d] w fun e w' => ∃ r, e = .returned r ∧ St w w' [Own LBx r (pack pw pd ww d)] := by
  have SA := (St.refl w).alloc (.cells #[.int .i64 pw, .int .i64 pd, .int .i64 ww, .int .i64 d] 3)
  cases hB : sizeB pw pd ww d with
  | false =>
    have hp : RowKit.Hid (pack pw pd ww d = []) := by show _ = _; unfold pack; rw [hB]; rfl
    have SN := SA.ownNil LBx
    rw [← hp.out] at SN
    unfold sizeB at hB
    cases e1 : inB pw 1 200 with
    | false =>
      clear hB
      go_enter Try.func22, Try.ntmps22
      go_wp2
      refine wp_loop_rounds 5 ?_
      repeat any_goals (rw [rounds_succ]; go_wp2_with (go_at_call 31; refine (within_b _ _ _ _).mono ?_; rintro e w' ⟨rfl, rfl⟩))
      go_ret
      exact ⟨_, rfl, SN⟩
    | true =>
    cases e2 : inB pd 1 200 with
    | false =>
      clear hB
      go_enter Try.func22, Try.ntmps22
      go_wp2
      refine wp_loop_rounds 5 ?_
      repeat any_goals (rw [rounds_succ]; go_wp2_with (go_at_call 31; refine (within_b _ _ _ _).mono ?_; rintro e w' ⟨rfl, rfl⟩))
      go_ret
      exact ⟨_, rfl, SN⟩
    | true =>
    cases e3 : inB ww 1 200 with
    | false =>
      clear hB
      go_enter Try.func22, Try.ntmps22
      go_wp2
      refine wp_loop_rounds 5 ?_
      repeat any_goals (rw [rounds_succ]; go_wp2_with (go_at_call 31; refine (within_b _ _ _ _).mono ?_; rintro e w' ⟨rfl, rfl⟩))
      go_ret
      exact ⟨_, rfl, SN⟩
    | true =>
      have e4 : inB d 1 200 = false := by rw [e1, e2, e3] at hB; simpa using hB
      clear hB
      go_enter Try.func22, Try.ntmps22
      go_wp2
      refine wp_loop_rounds 5 ?_
      repeat any_goals (rw [rounds_succ]; go_wp2_with (go_at_call 31; refine (within_b _ _ _ _).mono ?_; rintro e w' ⟨rfl, rfl⟩))
      go_ret
      exact ⟨_, rfl, SN⟩
  | true =>
    have hp : RowKit.Hid (pack pw pd ww d = bestOf pw pd ww d (pd / d + 1).toNat) := by show _ = _; unfold pack; rw [hB]; rfl
    obtain ⟨b1, b2, b3, b4⟩ := sizeB_bd hB
    unfold sizeB at hB
    simp only [Bool.and_eq_true] at hB
    obtain ⟨⟨⟨e1, e2⟩, e3⟩, e4⟩ := hB
    have HB := Lib.hid (And.intro b1 (And.intro b2 (And.intro b3 b4)))
    obtain ⟨NN, hNN⟩ : ∃ NN : Nat, pd / d + 1 = (NN : Int) := ⟨(pd / d + 1).toNat, by have := Int.ediv_nonneg (show 0 ≤ pd by omega) (show 0 ≤ d by omega); omega⟩
    have HNN := Lib.hid hNN
    have hNb : NN ≤ 201 := by have := Int.ediv_le_self d (show 0 ≤ pd by omega); omega
    obtain ⟨C1, hC1⟩ : ∃ C1 : Nat, pw / ww = (C1 : Int) := ⟨(pw / ww).toNat, by have := Int.ediv_nonneg (show 0 ≤ pw by omega) (show 0 ≤ ww by omega); omega⟩
    obtain ⟨C2, hC2⟩ : ∃ C2 : Nat, pw / d = (C2 : Int) := ⟨(pw / d).toNat, by have := Int.ediv_nonneg (show 0 ≤ pw by omega) (show 0 ≤ d by omega); omega⟩
    have hC1b : C1 ≤ 200 := by have := Int.ediv_le_self ww (show 0 ≤ pw by omega); omega
    have hC2b : C2 ≤ 200 := by have := Int.ediv_le_self d (show 0 ≤ pw by omega); omega
    have HC1 := Lib.hid hC1
    have HC2 := Lib.hid hC2
    obtain ⟨pw1, pw2⟩ := b1
    obtain ⟨pd1, pd2⟩ := b2
    obtain ⟨ww1, ww2⟩ := b3
    obtain ⟨d1, d2⟩ := b4
    have hq0 : 0 ≤ pd / d := Int.ediv_nonneg (by omega) (by omega)
    have hq1 : pd / d ≤ 200 := by have := Int.ediv_le_self d (show 0 ≤ pd by omega); omega
    clear hNN hC1 hC2
    go_enter Try.func22, Try.ntmps22
    go_wp2
    refine wp_loop_rounds 5 ?_
    repeat any_goals (rw [rounds_succ]; go_wp2_with (go_at_call 31; refine (within_b _ _ _ _).mono ?_; rintro e w' ⟨rfl, rfl⟩))
    have S0 : St w (w.alloc (.cells #[.int .i64 pw, .int .i64 pd, .int .i64 ww, .int .i64 d] 3)) [Own LBx (.slice none 0 0) (bestOf pw pd ww d 0)] := SA.ownNil LBx
    clear SA e1 e2 e3 e4
    rw [HNN.out]
    go_loopw [11, 12, 13, 32] (fun o _ _ i wr => ∃ n : Nat, n ≤ NN ∧ i = .int .i64 n ∧ St w wr [Own LBx o (bestOf pw pd ww d n)]) (fun _ _ _ i _ => NN - (intOf i).toNat)
    case atStart => exact ⟨0, by omega, rfl, S0⟩
    case round =>
      obtain ⟨n, hn, rfl, S⟩ := hrel
      clear S0
      by_cases hlt : n < NN
      rotate_left
      · obtain rfl : n = NN := by omega
        have e : RowKit.Hid (pack pw pd ww d = bestOf pw pd ww d n) := by show _ = _; rw [hp.out, HNN.out, Int.toNat_natCast]
        rw [← e.out] at S
        go_wp2
        go_ret
        exact ⟨_, rfl, S⟩
      have hnd : (n : Int) * d ≤ pd := (le_iff d1 n).2 (by rw [HNN.out]; omega)
      obtain ⟨n200, nd0, -, -, r0, r1⟩ := cand_bd HB.out.1 HB.out.2.1 HB.out.2.2.1 HB.out.2.2.2 hnd
      obtain ⟨R2, hR2⟩ : ∃ R2 : Nat, (pd - (n : Int) * d) / ww = (R2 : Int) := ⟨((pd - (n : Int) * d) / ww).toNat, by omega⟩
      have hR2b : R2 ≤ 200 := by omega
      have HR2 := Lib.hid hR2
      have hcand : RowKit.Hid (cand pw pd ww d n = (((([] : List Bx) ++ gridTo 0 ww d C1 n).take 60) ++ gridTo ((n : Int) * d) d ww C2 R2).take 60) := by
        show _ = _
        unfold cand
        rw [HC1.out, HC2.out, hR2, Int.toNat_natCast, Int.toNat_natCast, Int.toNat_natCast]
      have S1 := S.ownNil LBx
      have q1 := HC1.out
      clear hR2 S r0 r1
      go_wp2_with fail
      refine (i_rows w _ [] _ 0 ww d n C1 _ S1 (by simp) ⟨by omega, by omega⟩ (by omega) (by omega) ⟨by omega, by omega⟩ ⟨by omega, by omega⟩).mono ?_
      rintro e w1 ⟨v1, rfl, S2⟩
      clear S1 q1
      have q2 := HC2.out
      have q3 := HR2.out
      have q4 : IntKind.i64.wrap ((n : Int) * d) = (n : Int) * d := IntWalk.i64_in _ (by omega)
      have q5 : IntKind.i64.wrap (pd - (n : Int) * d) = pd - (n : Int) * d := IntWalk.i64_in _ (by omega)
      have q8 : IntKind.i64.wrap (R2 : Int) = (R2 : Int) := IntWalk.i64_in _ (by omega)
      have q9 : IntKind.i64.wrap (C2 : Int) = (C2 : Int) := IntWalk.i64_in _ (by omega)
      have z1 : ¬ ww = 0 := by omega
      have z2 : ¬ d = 0 := by omega
      have z3 : (ww == 0) = false := by simpa using z1
      have z4 : (d == 0) = false := by simpa using z2
      have q6 : Int.tdiv (pd - (n : Int) * d) ww = (R2 : Int) := by rw [Int.tdiv_eq_ediv_of_nonneg (by omega)]; exact HR2.out
      have q7 : Int.tdiv pw d = (C2 : Int) := by rw [Int.tdiv_eq_ediv_of_nonneg (by omega)]; exact HC2.out
      go_wp2_with fail
      go_region_held3 (fun _ => True) (trivial) ((go_at_call 39; refine (i_rows w _ _ _ ((n : Int) * d) d ww R2 C2 _ (S2.drew) (take60_len _) ⟨by omega, by omega⟩ (by omega) (by omega) ⟨by omega, by omega⟩ ⟨by omega, by omega⟩).mono ?_; rintro e w2 ⟨v2, rfl, S3⟩))
      rw [← hcand.out] at S3
      clear S2 q2 q3 q4 q5 q6 q7 q8 q9 z1 z2 z3 z4
      obtain ⟨la, ln, lc, rfl, hln⟩ := (St.own S3).slice
      obtain ⟨ba, bn, bc, hbv, hbn⟩ := (St.own (St.tail S3)).slice
      subst hbv
      by_cases hlong : bn < ln
      · have S4 : St w w2 [Own LBx (.slice la ln lc) (bestOf pw pd ww d (n + 1))] := by
          unfold bestOf
          rw [if_pos (by omega)]
          exact St.drop1 (Ms := [_]) S3
        clear S3 hln hbn
        go_wp2
        go_roundw
        case rel => exact ⟨n + 1, by omega, by go_num, S4⟩
        case measure => simp [intOf]; omega
      · have S4 : St w w2 [Own LBx (.slice ba bn bc) (bestOf pw pd ww d (n + 1))] := by
          unfold bestOf
          rw [if_neg (by omega)]
          exact St.tail S3
        clear S3 hln hbn
        go_wp2
        go_roundw
        case rel => exact ⟨n + 1, by omega, by go_num, S4⟩
        case measure => simp [intOf]; omega
end Go.Proofs.Ytbpfihklbmephaa
