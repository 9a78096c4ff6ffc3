/-
  FnSpeedEstimates: for every code the law on estimates of speeds returns true; nothing that was there is written. No condition.
-/
import Derived.Test.YtbeihmhiofkjlaaSpeedLaw
import Derived.Test.YtbeihmhiofkjlaaSpeedDraw
import Derived.Test.YtbeihmhiofkjlaaBridge
import Derived.Test.YtbeihmhiofkjlaaSame
import Derived.Test.YtbeihmhiofkjlaaRows
import Derived.ProofKit
import Derived.OpenShut
import Derived.ShutString
import Derived.ChangeOld
namespace Go.Proofs.Ytbeihmhiofkjlaa
open Go Go.RowKit
set_option linter.unusedVariables false
/-- The sum of the first k of a list. -/
def sumI (os : List Int) : Nat → Int
  | 0 => 0
  | k + 1 => sumI os k + os.getD k 0
theorem sumI_speed (xs : List Int) (n : Nat) : ∀ k, k ≤ n → sumI (speedTo xs 1 n) k = xs.getD k 0 - xs.getD 0 0
  | 0, _ => by simp [sumI]
  | k + 1, hk => by
    rw [sumI, sumI_speed xs n k (by omega), speedTo_get _ _ _ _ (by omega), speedAt_one]
    omega
set_option maxRecDepth 100000 in
set_option maxHeartbeats 8000000 in
theorem law_FnSpeedEstimates (a : Option Addr) (len cap : Nat) (w : World) (hw : Byts w a len cap) :
    Calls Try.prog 13 #[.slice a len cap] w fun e w' => e = .returned (.bool true) ∧ Below w.heap.size w w' := by
  have HB := Lib.hid hw; have hm : len ≤ 9223372036854775807 := (by have := hw.1; have := hw.2.1; unfold maxLen at this; omega); clear hw; by_cases hl : 1048576 < len; (go_enter Try.func13, Try.ntmps13; go_wp2_with fail; go_ret; exact ⟨rfl, Below.refl _ _⟩)
  go_enter Try.func13, Try.ntmps13
  go_wp2_with fail
  refine (DrawSpeedEstimates_any _ _ _ _ HB.out).mono ?_
  rintro e w1 ⟨u, xs, win, rfl, ⟨v1, v2⟩, o1, hx, g1⟩
  have S := (St.refl w).ofI o1 g1
  clear o1 g1
  obtain ⟨W, rfl⟩ := Int.eq_ofNat_of_zero_le v1
  go_wp2_with fail
  refine (i_SpeedEstimates _ _ _ _ (St.own S).ints).mono ?_
  rintro e w2 ⟨r2, rfl, o2, g2⟩
  replace S := S.ofI o2 g2
  clear o2 g2
  go_wp2_with fail
  refine (s_SpeedEstimates _ _ _ _ (St.own (St.tail S)).ints).mono ?_
  rintro e w3 ⟨r3, rfl, o3, g3⟩
  replace S := S.ofI o3 g3
  clear o3 g3
  go_wp2_with fail
  refine (sameInts_t _ _ _ _ (St.own (St.tail S)).ints (St.own S).ints).mono ?_
  rintro e w4 ⟨rfl, T⟩
  replace S := (St.tail S).grow T
  clear T
  obtain ⟨oa, on, oc, rfl, hoc, hom, HON, HOC⟩ := LI_get (St.own S)
  obtain ⟨la, ln, lc, rfl, hlc, hlm, HLN, HLC⟩ := LI_get (St.own (St.tail S))
  have hln : ln ≤ 17 := by have := HLN.out; omega
  by_cases hW : 1 ≤ W ∧ W ≤ 50
  rotate_left
  · obtain rfl : on = 0 := by rw [HON.out, speeds_no (fun h => hW (by omega))]; rfl
    have hw51 : W < 1 ∨ 50 < W := by omega
    clear HON HOC HLC hW
    rcases hw51 with h | h
    · obtain rfl : W = 0 := by omega
      clear h
      go_wp2_with (go_at_call 21; refine (alive_any _).mono ?_; rintro e w' ⟨rfl, rfl⟩)
      go_ret
      exact ⟨rfl, S.below⟩
    · have h1 : ¬ (W : Int) < 1 := by omega
      have h2 : (50 : Int) < W := by omega
      go_wp2_with (go_at_call 21; refine (alive_any _).mono ?_; rintro e w' ⟨rfl, rfl⟩)
      go_ret
      exact ⟨rfl, S.below⟩
  obtain ⟨hW1, hW50⟩ := hW
  have LEN0 := Lib.hid (speeds_len0 xs W)
  have FALL := Lib.hid (speeds_fall W ⟨hW1, hW50⟩)
  have h1 : ¬ (W : Int) < 1 := by omega
  have h2 : ¬ (50 : Int) < W := by omega
  obtain ⟨H, hH⟩ : ∃ H, H = w4.heap.size := ⟨_, rfl⟩
  have S2 := S.ownEmptyAt LI H hH
  have HH := Lib.hid hH
  clear hH HOC HLC
  go_wp2
  rw [← HH.out]
  go_loopw [6, 7] (fun u i wr => ∃ k : Nat, k ≤ W + 4 ∧ i = .int .i64 k ∧ St w wr [Own LI u (fall k), Own LI (.slice oa on oc) (speeds xs (W : Int)), Own LI (.slice la ln lc) xs]) (fun _ i _ => W + 4 - (intOf i).toNat)
  case atStart => exact ⟨0, by omega, rfl, S2⟩
  case round =>
    obtain ⟨k, hk, rfl, S3⟩ := hrel
    clear S S2
    by_cases hlt : k < W + 4
    · have hki : (k : Int) < (W : Int) + 4 := by omega
      have hfl : (fall k).length ≤ 1000000000 := by rw [fall_len]; omega
      go_wp2_with (at_builtin; refine wpList_app1 LI_info rfl _ _ rfl S3 (7 - 3 * (k : Int)) #[.int .i64 (7 - 3 * (k : Int))] rfl rfl rfl hfl ?_; intro v6 w6 S4)
      rw [← fall_succ] at S4
      clear S3
      go_roundw
      case rel => exact ⟨k + 1, by omega, by go_num, S4⟩
      case measure => (simp [intOf]; try omega)
    obtain rfl : k = W + 4 := by omega
    have hki : ¬ ((W + 4 : Nat) : Int) < (W : Int) + 4 := by omega
    go_wp2_with fail
    refine (i_SpeedEstimates _ _ _ _ (St.own S3).ints).mono ?_
    rintro e w5 ⟨r5, rfl, o5, g5⟩
    have S4 := S3.ofI o5 g5
    rw [FALL.out] at S4
    clear o5 g5 S3
    obtain ⟨ea, en, ec, rfl, hec, hem, HEN, HEC⟩ := LI_get (St.own S4)
    obtain rfl : en = 4 := HEN.out
    go_wp2
    go_loop [9] (fun i => ∃ k : Nat, k ≤ 4 ∧ i = .int .i64 k) (fun i => 4 - (intOf i).toNat)
    case atStart => exact ⟨0, by omega, rfl⟩
    case round =>
      obtain ⟨k, hk, rfl⟩ := hrel
      by_cases hlt : k < 4
      · obtain ⟨b, off, x, rfl, hb, hx1, hc1⟩ := HEC.out k hlt
        obtain rfl : x = -3 := by
          have := hx1.out
          rcases (show k = 0 ∨ k = 1 ∨ k = 2 ∨ k = 3 by omega) with rfl | rfl | rfl | rfl <;> simpa using this.symm
        have i0 : (k : Int) < 4 := by omega
        clear hx1
        go_wp2
        go_round
        case rel => exact ⟨k + 1, by omega, by go_num⟩
        case measure => (simp [intOf]; try omega)
      obtain rfl : k = 4 := by omega
      clear HEC HEN
      go_wp2_with fail
      refine (i_SpeedEstimates _ xs 1 _ (St.own (St.tail (St.tail (St.tail S4)))).ints).mono ?_
      rintro e w6 ⟨r6, rfl, o6, g6⟩
      have S5 := S4.ofI o6 g6
      clear o6 g6 S4
      obtain ⟨pa, pn, pc, rfl, hpc, hpm, HPN, HPC⟩ := LI_get (St.own S5)
      have FACT : RowKit.Hid (∀ k, k < pn → (speeds xs 1).getD k 0 = xs.getD (k + 1) 0 - xs.getD k 0 ∧ k + 1 < xs.length ∧ within6 xs) := by
        intro k hk
        rcases speeds_one xs with h | ⟨h, h3, h4⟩
        · rw [HPN.out, h] at hk; simp at hk
        · rw [HPN.out, h, speedTo_len] at hk
          rw [h, speedTo_get _ _ _ _ hk, speedAt_one]
          exact ⟨rfl, by omega, h4⟩
      have SUM : RowKit.Hid (∀ k, k ≤ pn → 0 < pn → sumI (speeds xs 1) k = xs.getD k 0 - xs.getD 0 0) := by
        intro k hk hp
        rcases speeds_one xs with h | ⟨h, h3, h4⟩
        · rw [HPN.out, h] at hp; simp at hp
        · rw [HPN.out, h, speedTo_len] at hk
          rw [h, sumI_speed _ _ _ hk]
      have LAST : RowKit.Hid (0 < pn → pn = ln - 1 ∧ 1 ≤ ln) := by
        intro hp
        rcases speeds_one xs with h | ⟨h, h3, h4⟩
        · rw [HPN.out, h] at hp; simp at hp
        · have h5 := HPN.out
          rw [h, speedTo_len] at h5
          have := HLN.out
          omega
      have W6 : RowKit.Hid (∀ k, 0 < pn → k < xs.length → -1000000 ≤ xs.getD k 0 ∧ xs.getD k 0 ≤ 1000000) := fun k hp hk => w6_at (FACT.out 0 hp).2.2 k hk
      go_wp2
      go_loop [10, 12] (fun s i => ∃ (k : Nat) (U : Int), k ≤ pn ∧ i = .int .i64 k ∧ s = .int .i64 U ∧ RowKit.Hid (U = sumI (speeds xs 1) k)) (fun _ i => pn - (intOf i).toNat)
      case atStart => exact ⟨0, 0, by omega, rfl, rfl, rfl⟩
      case round =>
        obtain ⟨k, U, hk, rfl, rfl, HU⟩ := hrel
        by_cases hlt : k < pn
        · obtain ⟨b, off, x, rfl, hb, hx1, hc1⟩ := HPC.out k hlt
          obtain ⟨f1, f2, -⟩ := FACT.out k hlt
          have f3 : x = xs.getD (k + 1) 0 - xs.getD k 0 := by rw [← f1, List.getD_eq_getElem?_getD, hx1.out]; rfl
          have f4 := SUM.out k hk (by omega)
          have f5 := W6.out k (by omega) (by omega)
          have f6 := W6.out (k + 1) (by omega) f2
          have f7 := W6.out 0 (by omega) (by omega)
          rw [← HU.out] at f4
          have U1 : -2000000 ≤ U ∧ U ≤ 2000000 := by omega
          have X1 : -2000000 ≤ x ∧ x ≤ 2000000 := by omega
          obtain ⟨U1, U2⟩ := U1
          obtain ⟨X1, X2⟩ := X1
          have HU2 : RowKit.Hid (U + x = sumI (speeds xs 1) (k + 1)) := by show _ = sumI _ k + _; rw [← HU.out, f1, f3]
          have i0 : (k : Int) < pn := by omega
          clear hx1 f1 f2 f3 f4 f5 f6 f7
          go_wp2
          go_round
          case rel => exact ⟨k + 1, U + x, by omega, by go_num, by first | rfl | go_num, HU2⟩
          case measure => (simp [intOf]; try omega)
        obtain rfl : k = pn := by omega
        have ONF : RowKit.Hid (((on : Int) == 0) = true ∨ (((on : Int) == 0) = false ∧ ((on : Int) == (ln : Int) - (W : Int)) = true)) := by
          rcases LEN0.out with h | h
          · left; have := HON.out; simp; omega
          · by_cases h0 : on = 0
            · left; simp [h0]
            · right
              have h5 := HON.out
              have h6 := HLN.out
              refine ⟨by simpa using h0, ?_⟩
              have : (on : Int) = (ln : Int) - (W : Int) := by omega
              simp [this]
        have I1 : RowKit.Hid (IntKind.i64.wrap ((ln : Int) - (W : Int)) = (ln : Int) - (W : Int)) := IntWalk.i64_in _ (by omega)
        have SB := Lib.hid S5.below
        by_cases hk0 : k = 0
        · subst hk0
          clear FACT SUM LAST W6 HPC HPN HU
          rcases ONF.out with h1 | ⟨h1, h2⟩
          · clear ONF
            go_wp2
            go_quiet (fail)
            go_wp2
            go_ret
            exact ⟨rfl, gb_below (gb_drewN (below_gb SB.out) _)⟩
          · have i1 := I1.out
            clear ONF
            go_wp2
            go_quiet (fail)
            go_wp2
            go_ret
            exact ⟨rfl, gb_below (gb_drewN (below_gb SB.out) _)⟩
        · obtain ⟨hk1, hk2⟩ := LAST.out (by omega)
          have hU : U = xs.getD (ln - 1) 0 - xs.getD 0 0 := by rw [← hk1, HU.out]; exact SUM.out k (Nat.le_refl _) (by omega)
          have hx1 := W6.out (ln - 1) (by omega) (by have := HLN.out; omega)
          have hx2 := W6.out 0 (by omega) (by have := HLN.out; omega)
          obtain ⟨la', ln', lc', hv', -, -, -, HLC⟩ := LI_get (St.own (St.tail (St.tail (St.tail (St.tail S5)))))
          simp only [Value.slice.injEq] at hv'
          obtain ⟨rfl, rfl, rfl⟩ := hv'
          obtain ⟨b, off, x, rfl, hb, hx3, hc1⟩ := HLC.out (ln - 1) (by omega)
          obtain ⟨b', off', y, hab, hb', hx4, hc2⟩ := HLC.out 0 (by omega)
          obtain ⟨rfl, rfl⟩ : b = b' ∧ off = off' := by simpa using hab
          rw [show xs.getD (ln - 1) 0 = x by rw [List.getD_eq_getElem?_getD, hx3.out]; rfl] at hU hx1
          rw [show xs.getD 0 0 = y by rw [List.getD_eq_getElem?_getD, hx4.out]; rfl] at hU hx2
          rw [Nat.add_zero] at hc2
          obtain ⟨hx1a, hx1b⟩ := hx1
          obtain ⟨hx2a, hx2b⟩ := hx2
          have I2 : RowKit.Hid (IntKind.i64.wrap ((ln : Int) - 1) = ((ln - 1 : Nat) : Int)) := by show _ = _; rw [IntWalk.i64_in _ (by omega)]; omega
          have I3 : RowKit.Hid (IntKind.i64.wrap (x - y) = x - y) := IntWalk.i64_in _ (by omega)
          have j1 : (0 : Int) ≤ ((ln - 1 : Nat) : Int) := by omega
          have j2 : ((ln - 1 : Nat) : Int) < (ln : Int) := by omega
          have j3 : 0 < ln := by omega
          have j4 : (0 : Int) < (ln : Int) := by omega
          have j5 : ((k : Int) == 0) = false := by simpa using hk0
          subst hU
          clear FACT SUM LAST W6 HPC HPN HU HLC hx3 hx4 hab hk1
          rcases ONF.out with h1 | ⟨h1, h2⟩ <;> (
            have i1 := I1.out
            have i2 := I2.out
            have i3 := I3.out
            clear ONF
            go_wp2
            go_quiet (fail)
            go_wp2
            go_ret
            exact ⟨rfl, gb_below (gb_drewN (below_gb SB.out) _)⟩)
end Go.Proofs.Ytbeihmhiofkjlaa
namespace Go.Proofs.Ytbeihmhiofkjlaa.fnSpeedEstimatesDone
open Go Go.ChangeShapes Go.WideShapes Go.ChangeAt Go.RowKit Go.Proofs.Ytbeihmhiofkjlaa
set_option linter.unusedVariables false
theorem own : ownKnob Try.prog.godebug = none := by kernel_rfl
theorem laidOut : laidOutB Try.prog = true := by kernel_rfl
set_option maxRecDepth 100000 in
theorem lifted (os : Os) (started : os.Started) (H : Type) (enc : TypeId × Value → H) :
    ReturnsInHanded {} Try.checked os 13 .any (Rows.fnSpeedEstimatesSpec.pre6 enc Try.prog Try.f13 Rows.fnSpeedEstimatesRow.domain false) (Rows.fnSpeedEstimatesSpec.post enc Try.prog Try.f13 false true false false) := by
  refine returnsInHanded_of_change (C := Try.checked) own started (by kernel_rfl) Try.func13
    (ChangeSpec.witness6 (enc := enc) (C := Try.checked) false ⟨#[], #[.slice none 0 0], []⟩ 8 (by kernel_rfl) (by kernel_rfl) (by kernel_rfl) (by kernel_rfl)) ?_
  intro W base args ds gs before hval0 hW hcnd _
  have hval : ∀ (j : Nat) t v, Try.f13.params[j]? = some t → args[j]? = some v → Value.okWide Try.prog W .any base t v := hval0
  have hW' := hW
  obtain ⟨p, q, hA0, hV, rfl, hfz, hnd⟩ := hW
  have hA : DataW.TrodAll enc Try.prog W 0 (fun _ => true) true Try.f13.params.toList args.toList ds p := hA0
  rw [Try.params13] at hA hval
  obtain ⟨v0, vs0, d0, ds0, p0, q0, hargs, rfl, rfl, h0, r0⟩ := trodAll_cons hA
  obtain ⟨rfl, rfl, rfl⟩ := trodAll_nil r0
  obtain rfl : args = #[v0] := by cases args; simp_all
  obtain ⟨rfl, rfl⟩ := trodVars_none hV
  obtain ⟨a0, len0, cap0, rfl⟩ := okWide_slice Try.underlying26 (hval 0 26 v0 rfl rfl)
  have k0 := h0
  have lt0 : ∀ x ∈ p0, x.block < W.heap.size := by obtain ⟨m, hm⟩ := k0; exact DataW.trod_lt m _ _ _ hm
  have w0 : Byts W a0 len0 cap0 := by
    obtain ⟨fuel, hf⟩ := h0
    rcases open_ints Try.underlying26 Try.underlying5 (by kernel_rfl) hf with ⟨hcs, _⟩ | ⟨x, l, c, zs, hcs, _, hl, hm, hz, _, hcell, hwz⟩
    · simp [Value.cells] at hcs
      obtain ⟨rfl, rfl, rfl⟩ := hcs
      exact byts_nil W
    · simp [Value.cells] at hcs
      obtain ⟨rfl, rfl, rfl⟩ := hcs
      exact byts_of hl hm (by simpa using hz) hcell hwz
  clear hA0 hval0
  refine (law_FnSpeedEstimates a0 len0 cap0 W w0).mono fun e W' ⟨he, bel⟩ => ?_
  subst he
  exact ⟨_, rfl, _, _, _, [], _, [], hW', trodAll_mk1 (shut_bool Try.underlying4 _), (trodAll_cons_mk (Below.trod laidOut (by kernel_rfl) (of_decide_eq_true (by kernel_rfl)) k0 bel lt0) trodAll_mk0), rfl, bel.frame _, fun h => by cases h⟩
theorem over : Rows.fnSpeedEstimatesRow.holds Try.pinned (OpenSpec.ofChange Rows.fnSpeedEstimatesSpec) :=
  OpenClaim.holds_of_wide 13 Try.f13 rfl rfl rfl rfl rfl rfl rfl ⟨rfl, rfl, rfl, rfl, rfl⟩ rfl rfl rfl rfl rfl (by kernel_rfl) Try.func13 (by kernel_rfl)
    (of_decide_eq_true (by kernel_rfl)) (by unfold Func.isWrapper; first | (rw [if_pos (by decide +kernel)]; kernel_rfl) | (rw [if_neg (by decide +kernel)]; exact ⟨rfl, rfl⟩))
    (fun os started H enc _ => lifted os started H enc)
theorem proved : Rows.FnSpeedEstimatesSaid := over
#print axioms proved
end Go.Proofs.Ytbeihmhiofkjlaa.fnSpeedEstimatesDone
