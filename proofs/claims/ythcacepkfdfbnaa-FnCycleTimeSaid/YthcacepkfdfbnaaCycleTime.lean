/-
  FnCycleTime: for every code the law on cycle times returns true; nothing that was there is written. No condition.
-/
import Derived.Test.YthcacepkfdfbnaaWksDraws
import Derived.Test.YthcacepkfdfbnaaCycOpen
import Derived.Test.YthcacepkfdfbnaaRows
import Derived.ProofKit
import Derived.OpenShut
import Derived.ShutString
import Derived.ChangeOld
namespace Go.Proofs.Ythcacepkfdfbnaa
open Go Go.RowKit
set_option linter.unusedVariables false
set_option maxHeartbeats 8000000 in
theorem law_FnCycleTime (a : Option Addr) (len cap : Nat) (w : World) (hw : Byts w a len cap) :
    Calls Try.prog 7 #[.slice a len cap] w fun e w' => e = .returned (.bool true) ∧ Below w.heap.size w w' := by
  have HB := Lib.hid hw; have hm : len ≤ 9223372036854775807 := (by have := hw.1; have := hw.2.1; unfold maxLen at this; omega); clear hw; by_cases hl : 1048576 < len; (go_enter Try.func7, Try.ntmps7; go_wp2_with fail; go_ret; exact ⟨rfl, Below.refl _ _⟩)
  go_enter Try.func7, Try.ntmps7
  go_wp2_with fail
  refine (DrawCycleTime_any _ _ _ _ HB.out).mono ?_
  rintro e w1 ⟨v, ys, rfl, hyl, -, S⟩
  obtain ⟨C, hC⟩ : ∃ C, C = cycle ys := ⟨_, rfl⟩
  have HC := Lib.hid hC
  go_wp2_with fail
  refine (i_CycleTime _ ys _ (St.drds S)).mono ?_
  rintro e w2 ⟨rfl, T⟩
  replace S := S.grow T
  rw [← hC]
  clear T hC
  go_wp2_with fail
  refine (s_CycleTime _ ys _ (St.drds S)).mono ?_
  rintro e w3 ⟨rfl, T⟩
  replace S := S.grow T
  rw [← HC.out]
  clear T
  cases hB : worksB ys with
  | false =>
    have hc := HC.out
    rw [cycle_no hB] at hc
    subst hc
    clear HC
    go_wp2_with (go_at_call 19; refine (alive_any _).mono ?_; rintro e w' ⟨rfl, rfl⟩)
    go_ret
    exact ⟨rfl, S.below⟩
  | true =>
    have HOK := Lib.hid (worksB_t.1 hB)
    have hcy := HC.out
    rw [cycle_yes hB] at hcy
    have hC0 : 0 ≤ C := by rw [hcy]; exact (cyc_ge (ys := ys) _).1
    have hC1 : C ≤ 1200 := by rw [hcy]; exact (cycTo_bd HOK.out _ (Nat.le_refl _)).2
    have HCY := Lib.hid hcy
    by_cases hn : ys.length = 0
    · obtain ⟨va, vn, vc, rfl, -, -, HVN, -⟩ := (St.drds S).get
      obtain rfl : vn = 0 := by have := HVN.out; omega
      obtain rfl : C = 0 := by rw [hcy, hn]; rfl
      clear hcy hn HC HVN
      go_wp2_with fail
      refine (i_EarliestStarts _ ys _ (St.drds S)).mono ?_
      rintro e w4 ⟨o1, rfl, T⟩
      replace S := S.call T
      clear T
      go_wp2
      go_loop [5, 6, 8] (fun s mt i => i = .int .i64 0 ∧ s = .int .i64 0 ∧ mt = .bool true) (fun _ _ _ => 0)
      case atStart => exact ⟨rfl, rfl, rfl⟩
      case round =>
        obtain ⟨rfl, rfl, rfl⟩ := hrel
        go_wp2
        go_ret
        exact ⟨rfl, S.below⟩
    have hy0 : 0 < ys.length := by omega
    obtain ⟨lb, loff, m, lc, rfl, hnc, hnm, HN, hn0, hn12, -⟩ := wks_open (St.drds S) HOK.out hy0
    have hm0 : ((m : Int) == 0) = false := by simpa using (show ¬ (m : Int) = 0 by omega)
    clear hcy hn HC
    go_wp2_with fail
    refine (i_EarliestStarts _ ys _ (St.drds S)).mono ?_
    rintro e w4 ⟨o1, rfl, T⟩
    replace S := S.call T
    clear T
    simp only [List.cons_append, List.nil_append] at S
    rw [early_yes hB] at S
    obtain ⟨ob, ooff, m', oc, rfl, hmc, hmm, HM, OC⟩ := ints_open (st0 ys) (St.own S) (fun k hk => rfl) (by rw [earlyTo_len]; exact hy0)
    obtain ⟨lb', loff', m2, lc', hv', -, -, -, -, -, LC⟩ := wks_open (St.drds (St.tail S)) HOK.out hy0
    simp only [Value.slice.injEq, Option.some.injEq, Addr.mk.injEq, and_true] at hv'
    obtain ⟨⟨rfl, rfl⟩, rfl, rfl⟩ := hv'
    obtain rfl : m = m' := by rw [HM.out, HN.out, earlyTo_len]
    have SB := Lib.hid S.below
    have START : RowKit.Hid (∃ jj, jj < m ∧ endOf ys jj = C) := by
      obtain ⟨i, hi, h⟩ := cyc_in' HOK.out hy0
      exact ⟨i, by rw [HN.out]; exact hi, by rw [HCY.out, h]⟩
    have LEQ : RowKit.Hid (∀ k, k < m → endOf ys k ≤ C) := fun k hk => by rw [HCY.out]; exact (cyc_ge (ys := ys) _).2 k (by rw [← HN.out]; exact hk)
    have SUM : RowKit.Hid (C ≤ sumTo ys m) := by show C ≤ _; rw [HCY.out, HN.out]; exact cyc_sum HOK.out
    have TB := Lib.hid (fun k => tm_bd HOK.out k)
    have EB := Lib.hid (fun k (hk : k < ys.length) => endOf_bd HOK.out k hk)
    have UB := Lib.hid (fun k => sumTo_bd HOK.out k)
    clear hB hy0 S HM
    go_wp2
    go_loopw [5, 6, 8] (fun s mt i wr => ∃ (k q : Nat) (U : Int) (M : Bool), k ≤ m ∧ i = .int .i64 k ∧ s = .int .i64 U ∧ mt = .bool M ∧ RowKit.Hid (U = sumTo ys k) ∧ RowKit.Hid (M = true ∨ ∃ jj, k ≤ jj ∧ jj < m ∧ endOf ys jj = C) ∧ wr = w4.drewN q) (fun _ _ i _ => m - (intOf i).toNat)
    case atStart => exact ⟨0, 0, 0, false, by omega, rfl, rfl, rfl, rfl, by obtain ⟨jj, h1, h2⟩ := START.out; exact .inr ⟨jj, by omega, h1, h2⟩, rfl⟩
    case round =>
      obtain ⟨k, q, U, M, hk, rfl, rfl, rfl, HU, MET, rfl⟩ := hrel
      have hU := UB.out k
      rw [← HU.out] at hU
      obtain ⟨hU0, hU1⟩ := hU
      by_cases hlt : k < m
      rotate_left
      · obtain rfl : k = m := by omega
        have hM : M = true := by
          rcases MET.out with h | ⟨jj, h1, h2, -⟩
          · exact h
          · omega
        subst hM
        have hle : C ≤ U := by rw [HU.out]; exact SUM.out
        clear MET
        go_wp2
        go_ret
        exact ⟨rfl, gb_below (gb_drewN (below_gb SB.out) q)⟩
      have oc0 := OC.out k hlt
      have lc0 := (LC.out k hlt).1
      obtain ⟨P, hP⟩ : ∃ P, P = st0 ys k := ⟨_, rfl⟩
      obtain ⟨T, hT⟩ : ∃ T, T = tm ys k := ⟨_, rfl⟩
      have hT2 := TB.out k
      rw [← hP] at oc0
      rw [← hT] at lc0 hT2
      obtain ⟨t0, t1⟩ := hT2
      have hE : endOf ys k = P + T := by rw [endOf_eq, hP, hT]
      have hEb := EB.out k (by have := HN.out; omega)
      have hle := LEQ.out k hlt
      rw [hE] at hEb hle
      obtain ⟨e0, e1⟩ := hEb
      have HE := Lib.hid hE
      have NEXT : RowKit.Hid ((M || (P + T == C)) = true ∨ ∃ jj, k + 1 ≤ jj ∧ jj < m ∧ endOf ys jj = C) := by
        rcases MET.out with h | ⟨jj, h1, h2, h3⟩
        · exact .inl (by simp [h])
        · by_cases hjj : jj = k
          · subst hjj
            left
            rw [HE.out] at h3
            simp [h3]
          · exact .inr ⟨jj, by omega, h2, h3⟩
      have HU2 : RowKit.Hid (U + T = sumTo ys (k + 1)) := by show _ = sumTo ys k + tm ys k; rw [← HU.out, hT]
      have i0 : (0 : Int) ≤ (k : Int) := by omega
      have i1 : (k : Int) < (m : Int) := by omega
      have i6 : IntKind.i64.wrap (P + T) = P + T := IntWalk.i64_in _ (by omega)
      clear MET hE hP hT
      cases hM : M <;> cases hPO : (P + T == C) <;> (
        rw [hM, hPO] at NEXT
        clear hM
        go_wp2
        go_quiet (fail)
        go_wp2
        go_quiet (fail)
        clear i6
        go_wp2
        go_roundw
        case rel => exact ⟨k + 1, _, U + T, _, by omega, by go_num, by first | rfl | go_num, rfl, HU2, NEXT, rfl⟩
        case measure => simp [intOf]; omega)
end Go.Proofs.Ythcacepkfdfbnaa
namespace Go.Proofs.Ythcacepkfdfbnaa.fnCycleTimeDone
open Go Go.ChangeShapes Go.WideShapes Go.ChangeAt Go.RowKit Go.Proofs.Ythcacepkfdfbnaa
set_option linter.unusedVariables false
theorem own : ownKnob Try.prog.godebug = none := by kernel_rfl
theorem laidOut : laidOutB Try.prog = true := by kernel_rfl
set_option maxRecDepth 100000 in
theorem lifted (os : Os) (started : os.Started) (H : Type) (enc : TypeId × Value → H) :
    ReturnsInHanded {} Try.checked os 7 .any (Rows.fnCycleTimeSpec.pre6 enc Try.prog Try.f7 Rows.fnCycleTimeRow.domain false) (Rows.fnCycleTimeSpec.post enc Try.prog Try.f7 false true false false) := by
  refine returnsInHanded_of_change (C := Try.checked) own started (by kernel_rfl) Try.func7
    (ChangeSpec.witness6 (enc := enc) (C := Try.checked) false ⟨#[], #[.slice none 0 0], []⟩ 8 (by kernel_rfl) (by kernel_rfl) (by kernel_rfl) (by kernel_rfl)) ?_
  intro W base args ds gs before hval0 hW hcnd _
  have hval : ∀ (j : Nat) t v, Try.f7.params[j]? = some t → args[j]? = some v → Value.okWide Try.prog W .any base t v := hval0
  have hW' := hW
  obtain ⟨p, q, hA0, hV, rfl, hfz, hnd⟩ := hW
  have hA : DataW.TrodAll enc Try.prog W 0 (fun _ => true) true Try.f7.params.toList args.toList ds p := hA0
  rw [Try.params7] at hA hval
  obtain ⟨v0, vs0, d0, ds0, p0, q0, hargs, rfl, rfl, h0, r0⟩ := trodAll_cons hA
  obtain ⟨rfl, rfl, rfl⟩ := trodAll_nil r0
  obtain rfl : args = #[v0] := by cases args; simp_all
  obtain ⟨rfl, rfl⟩ := trodVars_none hV
  obtain ⟨a0, len0, cap0, rfl⟩ := okWide_slice Try.underlying29 (hval 0 29 v0 rfl rfl)
  have k0 := h0
  have lt0 : ∀ x ∈ p0, x.block < W.heap.size := by obtain ⟨m, hm⟩ := k0; exact DataW.trod_lt m _ _ _ hm
  have w0 : Byts W a0 len0 cap0 := by
    obtain ⟨fuel, hf⟩ := h0
    rcases open_ints Try.underlying29 Try.underlying5 (by kernel_rfl) hf with ⟨hcs, _⟩ | ⟨x, l, c, zs, hcs, _, hl, hm, hz, _, hcell, hwz⟩
    · simp [Value.cells] at hcs
      obtain ⟨rfl, rfl, rfl⟩ := hcs
      exact byts_nil W
    · simp [Value.cells] at hcs
      obtain ⟨rfl, rfl, rfl⟩ := hcs
      exact byts_of hl hm (by simpa using hz) hcell hwz
  clear hA0 hval0
  refine (law_FnCycleTime a0 len0 cap0 W w0).mono fun e W' ⟨he, bel⟩ => ?_
  subst he
  exact ⟨_, rfl, _, _, _, [], _, [], hW', trodAll_mk1 (shut_bool Try.underlying4 _), (trodAll_cons_mk (Below.trod laidOut (by kernel_rfl) (of_decide_eq_true (by kernel_rfl)) k0 bel lt0) trodAll_mk0), rfl, bel.frame _, fun h => by cases h⟩
theorem over : Rows.fnCycleTimeRow.holds Try.pinned (OpenSpec.ofChange Rows.fnCycleTimeSpec) :=
  OpenClaim.holds_of_wide 7 Try.f7 rfl rfl rfl rfl rfl rfl rfl ⟨rfl, rfl, rfl, rfl, rfl⟩ rfl rfl rfl rfl rfl (by kernel_rfl) Try.func7 (by kernel_rfl)
    (of_decide_eq_true (by kernel_rfl)) (by unfold Func.isWrapper; first | (rw [if_pos (by decide +kernel)]; kernel_rfl) | (rw [if_neg (by decide +kernel)]; exact ⟨rfl, rfl⟩))
    (fun os started H enc _ => lifted os started H enc)
theorem proved : Rows.FnCycleTimeSaid := over
#print axioms proved
end Go.Proofs.Ythcacepkfdfbnaa.fnCycleTimeDone
