/-
  FnLatestStarts: for every code the law on latest starts returns true; nothing that was there is written. No condition.
-/
import Derived.Test.YthcacepkfdfbnaaWksDraws
import Derived.Test.YthcacepkfdfbnaaCycOpen
import Derived.Test.YthcacepkfdfbnaaCycLate
import Derived.Test.YthcacepkfdfbnaaSameS
import Derived.Test.YthcacepkfdfbnaaRows
import Derived.ProofKit
import Derived.OpenShut
import Derived.ShutString
import Derived.ChangeOld
namespace Go.Proofs.Ythcacepkfdfbnaa
open Go Go.RowKit
set_option linter.unusedVariables false
set_option maxRecDepth 100000 in
set_option maxHeartbeats 8000000 in
theorem law_FnLatestStarts (a : Option Addr) (len cap : Nat) (w : World) (hw : Byts w a len cap) :
    Calls Try.prog 9 #[.slice a len cap] w fun e w' => e = .returned (.bool true) ∧ Below w.heap.size w w' := by
  have HB := Lib.hid hw; have hm : len ≤ 9223372036854775807 := (by have := hw.1; have := hw.2.1; unfold maxLen at this; omega); clear hw; by_cases hl : 1048576 < len; (go_enter Try.func9, Try.ntmps9; go_wp2_with fail; go_ret; exact ⟨rfl, Below.refl _ _⟩)
  go_enter Try.func9, Try.ntmps9
  go_wp2_with fail
  refine (DrawLatestStarts_any _ _ _ _ HB.out).mono ?_
  rintro e w1 ⟨v, ys, rfl, hyl, -, S⟩
  go_wp2_with fail
  refine (i_LatestStarts _ ys _ (St.drds S)).mono ?_
  rintro e w2 ⟨o1, rfl, T⟩
  replace S := S.call T
  clear T
  simp only [List.cons_append, List.nil_append] at S
  go_wp2_with fail
  refine (s_LatestStarts _ ys _ (St.drds (St.tail S))).mono ?_
  rintro e w3 ⟨o2, rfl, T⟩
  replace S := S.call T
  clear T
  simp only [List.cons_append, List.nil_append] at S
  go_wp2_with fail
  refine (sameInts_s _ _ _ _ (St.own (St.tail S)) (St.own S)).mono ?_
  rintro e w4 ⟨rfl, n4, rfl⟩
  replace S := St.tail (S.drewN n4)
  go_wp2_with fail
  refine (i_EarliestStarts _ ys _ (St.drds (St.tail S))).mono ?_
  rintro e w5 ⟨o3, rfl, T⟩
  replace S := S.call T
  clear T
  simp only [List.cons_append, List.nil_append] at S
  obtain ⟨C, hC⟩ : ∃ C, C = cycle ys := ⟨_, rfl⟩
  go_wp2_with fail
  refine (i_CycleTime _ ys _ (St.drds (St.tail (St.tail S)))).mono ?_
  rintro e ws ⟨rfl, T⟩
  replace S := S.grow T
  rw [← hC]
  clear T
  by_cases hok : 0 < (late ys).length
  rotate_left
  · obtain ⟨oa, on, oc, rfl, hon⟩ := (St.own (St.tail S)).slice
    obtain rfl : on = 0 := by omega
    clear hon hC
    go_wp2
    go_loop [7, 8, 9] (fun i _ _ => i = .int .i64 0) (fun _ _ _ => 0)
    case atStart => rfl
    case round =>
      subst hrel
      go_wp2_with (go_at_call 19; refine (alive_any _).mono ?_; rintro e w' ⟨rfl, rfl⟩)
      go_ret
      exact ⟨rfl, S.below⟩
  have hB : worksB ys = true := by
    cases h : worksB ys with
    | true => rfl
    | false => rw [late_no h] at hok; simp at hok
  have HOK := Lib.hid (worksB_t.1 hB)
  rw [early_yes hB, late_yes hB] at S
  rw [cycle_yes hB] at hC
  have hy0 : 0 < ys.length := by rw [late_yes hB, lateRun_len, lateInit_len] at hok; exact hok
  obtain ⟨eb, eoff, m', ec, rfl, hec, hem, HM', EC⟩ := ints_open (st0 ys) (St.own S) (fun k hk => rfl) (by rw [earlyTo_len]; exact hy0)
  obtain ⟨ob, ooff, m, oc, rfl, hmc, hmm, HM, OC⟩ := ints_open (lt0 ys) (St.own (St.tail S)) (fun k hk => rfl) (by rw [lateRun_len, lateInit_len]; exact hy0)
  obtain ⟨lb, loff, n, lc, rfl, hnc, hnm, HN, hn0, hn12, LC⟩ := wks_open (St.drds (St.tail (St.tail S))) HOK.out hy0
  obtain rfl : m = n := by rw [HM.out, HN.out, lateRun_len, lateInit_len]
  obtain rfl : m = m' := by rw [HM'.out, HN.out, earlyTo_len]
  have SB := Lib.hid S.below
  have TB := Lib.hid (fun k => tm_bd HOK.out k)
  have LO := Lib.hid (fun k (hk : k < ys.length) => lt0_lo HOK.out hk)
  have HI := Lib.hid (fun k (hk : k < ys.length) => lt0_hi HOK.out hk)
  have ORD := Lib.hid (fun k (hk : k < ys.length) => lt0_ord HOK.out hk)
  have PB := Lib.hid (fun k (hk : k < ys.length) => lt0_pos HOK.out hk)
  have HC := Lib.hid hC
  clear hok hB hy0 S hC
  go_wp2
  go_loopw [7, 8, 9] (fun i _ _ wr => ∃ k q : Nat, k ≤ m ∧ i = .int .i64 k ∧ wr = ws.drewN q) (fun i _ _ _ => m - (intOf i).toNat)
  case atStart => exact ⟨0, 0, by omega, rfl, rfl⟩
  case round =>
    obtain ⟨k, q, hk, rfl, rfl⟩ := hrel
    by_cases hlt : k < m
    rotate_left
    · have hm1 : ((m : Int) == 0) = false := by simpa using (show ¬ (m : Int) = 0 by omega)
      obtain rfl : k = m := by omega
      go_wp2_with (go_at_call 19; refine (alive_any _).mono ?_; rintro e w' ⟨rfl, rfl⟩)
      go_ret
      exact ⟨rfl, gb_below (gb_drewN (below_gb SB.out) q)⟩
    obtain ⟨lc0, ra, rn, rc, lc1, hrn12, hrn, LR⟩ := LC.out k hlt
    have oc0 := OC.out k hlt
    have ec0 := EC.out k hlt
    have hkl : k < ys.length := by have := HN.out; omega
    have h1 := LO.out k hkl
    have h2 := HI.out k hkl
    have h3 := PB.out k hkl
    have h4 := TB.out k
    have hO1 := ORD.out k hkl
    obtain ⟨O, hO⟩ : ∃ O, O = lt0 ys k := ⟨_, rfl⟩
    obtain ⟨E, hE⟩ : ∃ E, E = st0 ys k := ⟨_, rfl⟩
    obtain ⟨T, hT⟩ : ∃ T, T = tm ys k := ⟨_, rfl⟩
    rw [← hO] at oc0 h1 h2 h3 hO1
    rw [← hE] at ec0 h1
    rw [← hT] at lc0 h2 h4
    rw [← HC.out] at h2
    obtain ⟨h3a, h3b⟩ := h3
    obtain ⟨h4a, h4b⟩ := h4
    have GE := Lib.hid hO1
    have d1 : decide (O < E) = false := by simpa using h1
    have i0 : (0 : Int) ≤ (k : Int) := by omega
    have i1 : (k : Int) < (m : Int) := by omega
    have J6 : RowKit.Hid (IntKind.i64.wrap (O + T) = O + T) := IntWalk.i64_in _ (by omega)
    clear hO hE hT hO1
    go_wp2
    have j6 := J6.out
    go_quiet (fail)
    clear j6
    go_wp2
    go_loopw [8, 9] (fun i _ wr => ∃ j q : Nat, j ≤ rn ∧ i = .int .i64 j ∧ wr = ws.drewN q) (fun i _ _ => rn - (intOf i).toNat)
    case atStart => exact ⟨0, _, by omega, rfl, World.drewN_drewN _ _ _⟩
    case round =>
      obtain ⟨j, q, hj, rfl, rfl⟩ := hrel
      by_cases hlt2 : j < rn
      rotate_left
      · go_wp2
        go_roundw
        case rel => exact ⟨k + 1, _, by omega, by go_num, rfl⟩
        case measure => simp [intOf]; omega
      obtain ⟨rb, roff, A, rfl, hAk, hA, rc0⟩ := LR.out j hlt2
      have ocA := OC.out A (by omega)
      have lcA := (LC.out A (by omega)).1
      have hle := GE.out _ hA.out.1
      rw [Int.toNat_natCast] at hle
      have hb1 := PB.out A (by omega)
      have hb2 := TB.out A
      obtain ⟨P, hP⟩ : ∃ P, P = lt0 ys A := ⟨_, rfl⟩
      obtain ⟨U, hU⟩ : ∃ U, U = tm ys A := ⟨_, rfl⟩
      rw [← hP] at ocA hle hb1
      rw [← hU] at lcA hle hb2
      obtain ⟨hb1a, hb1b⟩ := hb1
      obtain ⟨hb2a, hb2b⟩ := hb2
      have i2 : (0 : Int) ≤ (A : Int) := by omega
      have i3 : (A : Int) < (m : Int) := by omega
      have J7 : RowKit.Hid (IntKind.i64.wrap (P + U) = P + U) := IntWalk.i64_in _ (by omega)
      clear hP hU
      go_wp2
      have j7 := J7.out
      go_quiet (fail)
      clear j7
      go_wp2
      go_roundw
      case rel => exact ⟨j + 1, _, by omega, by go_num, rfl⟩
      case measure => simp [intOf]; omega
end Go.Proofs.Ythcacepkfdfbnaa
namespace Go.Proofs.Ythcacepkfdfbnaa.fnLatestStartsDone
open Go Go.ChangeShapes Go.WideShapes Go.ChangeAt Go.RowKit Go.Proofs.Ythcacepkfdfbnaa
set_option linter.unusedVariables false
theorem own : ownKnob Try.prog.godebug = none := by kernel_rfl
theorem laidOut : laidOutB Try.prog = true := by kernel_rfl
set_option maxRecDepth 100000 in
theorem lifted (os : Os) (started : os.Started) (H : Type) (enc : TypeId × Value → H) :
    ReturnsInHanded {} Try.checked os 9 .any (Rows.fnLatestStartsSpec.pre6 enc Try.prog Try.f9 Rows.fnLatestStartsRow.domain false) (Rows.fnLatestStartsSpec.post enc Try.prog Try.f9 false true false false) := by
  refine returnsInHanded_of_change (C := Try.checked) own started (by kernel_rfl) Try.func9
    (ChangeSpec.witness6 (enc := enc) (C := Try.checked) false ⟨#[], #[.slice none 0 0], []⟩ 8 (by kernel_rfl) (by kernel_rfl) (by kernel_rfl) (by kernel_rfl)) ?_
  intro W base args ds gs before hval0 hW hcnd _
  have hval : ∀ (j : Nat) t v, Try.f9.params[j]? = some t → args[j]? = some v → Value.okWide Try.prog W .any base t v := hval0
  have hW' := hW
  obtain ⟨p, q, hA0, hV, rfl, hfz, hnd⟩ := hW
  have hA : DataW.TrodAll enc Try.prog W 0 (fun _ => true) true Try.f9.params.toList args.toList ds p := hA0
  rw [Try.params9] at hA hval
  obtain ⟨v0, vs0, d0, ds0, p0, q0, hargs, rfl, rfl, h0, r0⟩ := trodAll_cons hA
  obtain ⟨rfl, rfl, rfl⟩ := trodAll_nil r0
  obtain rfl : args = #[v0] := by cases args; simp_all
  obtain ⟨rfl, rfl⟩ := trodVars_none hV
  obtain ⟨a0, len0, cap0, rfl⟩ := okWide_slice Try.underlying29 (hval 0 29 v0 rfl rfl)
  have k0 := h0
  have lt0 : ∀ x ∈ p0, x.block < W.heap.size := by obtain ⟨m, hm⟩ := k0; exact DataW.trod_lt m _ _ _ hm
  have w0 : Byts W a0 len0 cap0 := by
    obtain ⟨fuel, hf⟩ := h0
    rcases open_ints Try.underlying29 Try.underlying5 (by kernel_rfl) hf with ⟨hcs, _⟩ | ⟨x, l, c, zs, hcs, _, hl, hm, hz, _, hcell, hwz⟩
    · simp [Value.cells] at hcs
      obtain ⟨rfl, rfl, rfl⟩ := hcs
      exact byts_nil W
    · simp [Value.cells] at hcs
      obtain ⟨rfl, rfl, rfl⟩ := hcs
      exact byts_of hl hm (by simpa using hz) hcell hwz
  clear hA0 hval0
  refine (law_FnLatestStarts a0 len0 cap0 W w0).mono fun e W' ⟨he, bel⟩ => ?_
  subst he
  exact ⟨_, rfl, _, _, _, [], _, [], hW', trodAll_mk1 (shut_bool Try.underlying4 _), (trodAll_cons_mk (Below.trod laidOut (by kernel_rfl) (of_decide_eq_true (by kernel_rfl)) k0 bel lt0) trodAll_mk0), rfl, bel.frame _, fun h => by cases h⟩
theorem over : Rows.fnLatestStartsRow.holds Try.pinned (OpenSpec.ofChange Rows.fnLatestStartsSpec) :=
  OpenClaim.holds_of_wide 9 Try.f9 rfl rfl rfl rfl rfl rfl rfl ⟨rfl, rfl, rfl, rfl, rfl⟩ rfl rfl rfl rfl rfl (by kernel_rfl) Try.func9 (by kernel_rfl)
    (of_decide_eq_true (by kernel_rfl)) (by unfold Func.isWrapper; first | (rw [if_pos (by decide +kernel)]; kernel_rfl) | (rw [if_neg (by decide +kernel)]; exact ⟨rfl, rfl⟩))
    (fun os started H enc _ => lifted os started H enc)
theorem proved : Rows.FnLatestStartsSaid := over
#print axioms proved
end Go.Proofs.Ythcacepkfdfbnaa.fnLatestStartsDone
