/-
  FnLayerFill: for every code the law on shares returns true; nothing that was there is written. No condition.
-/
import Derived.Test.YtbpfihklbmephaaPalDraw
import Derived.Test.YtbpfihklbmephaaPalLaw
import Derived.Test.YtbpfihklbmephaaRows
import Derived.ProofKit
import Derived.OpenShut
import Derived.ShutString
import Derived.ChangeOld
namespace Go.Proofs.Ytbpfihklbmephaa
open Go Go.RowKit
set_option linter.unusedVariables false
set_option maxRecDepth 100000 in
set_option maxHeartbeats 8000000 in
theorem law_FnLayerFill (a : Option Addr) (len cap : Nat) (w : World) (hw : Byts w a len cap) :
    Calls Try.prog 10 #[.slice a len cap] w fun e w' => e = .returned (.bool true) ∧ Below w.heap.size w w' := by
  have HB := Lib.hid hw; have hm : len ≤ 9223372036854775807 := (by have := hw.1; have := hw.2.1; unfold maxLen at this; omega); clear hw; by_cases hl : 1048576 < len; (go_enter Try.func10, Try.ntmps10; go_wp2_with fail; go_ret; exact ⟨rfl, Below.refl _ _⟩)
  go_enter Try.func10, Try.ntmps10
  go_wp2_with fail
  refine (DrawLayerFill_any _ _ _ _ HB.out).mono ?_
  rintro e w1 ⟨P, Q, v, xs, rfl, hp, hq, hxl, S⟩
  go_wp2_with fail
  refine (i_LayerFill P Q _ xs _ (St.own S)).mono ?_
  rintro e w2 ⟨rfl, T⟩
  replace S := S.grow T
  clear T
  obtain ⟨N, hN⟩ : ∃ N, layerFill P Q xs = N := ⟨_, rfl⟩
  rw [hN]
  go_wp2_with fail
  refine (s_LayerFill P Q _ xs _ (St.own S)).mono ?_
  rintro e w3 ⟨rfl, T⟩
  replace S := S.grow T
  clear T
  rw [hN]
  cases hB : layerB P Q xs with
  | false =>
    obtain rfl : N = -1 := by rw [← hN, layerFill_no hB]
    clear hN hB
    go_wp2_with (go_at_call 15; refine (alive_any _).mono ?_; rintro e w' ⟨rfl, rfl⟩)
    go_ret
    exact ⟨rfl, S.below⟩
  | true =>
    have hok := layerB_t.1 hB
    obtain ⟨b0, b1⟩ := fill_bd hok
    rw [hN] at b0 b1
    obtain ⟨va, n, vc, rfl, hvc, hvm, HVN, -⟩ := LBx_own S
    have hm0 := fill_mono hok (n / 2)
    rw [hN] at hm0
    obtain ⟨N2, hN2⟩ : ∃ N2, layerFill P Q (xs.take (n / 2)) = N2 := ⟨_, rfl⟩
    rw [hN2] at hm0
    have H2 := Lib.hid hN2
    have H0 := Lib.hid (fill_nil hok)
    have hn61 : n ≤ 61 := by have := HVN.out; omega
    have hd : Int.tdiv (n : Int) 2 = ((n / 2 : Nat) : Int) := by
      rw [Int.tdiv_eq_ediv_of_nonneg (by omega)]
      omega
    obtain ⟨M, hM⟩ : ∃ M : Nat, n / 2 = M := ⟨_, rfl⟩
    rw [hM] at hd H2
    have hMn : M ≤ n := by omega
    have hMc : M ≤ vc := by omega
    have hMci : (M : Int) ≤ (vc : Int) := by omega
    have hM0 : (0 : Int) ≤ (M : Int) := by omega
    have hiM : IntKind.i64.wrap (M : Int) = (M : Int) := IntWalk.i64_in _ (by omega)
    have RT := Lib.hid (Rds.take (St.own S) M hMn)
    clear hN hB hok hN2 hM
    go_wp2_with fail
    refine (i_LayerFill P Q _ [] _ (Rds.nil LBx _)).mono ?_
    rintro e w4 ⟨rfl, T⟩
    have RT2 := Lib.hid (RT.out.kept T)
    replace S := S.grow T
    clear T
    rw [H0.out]
    go_wp2_with fail
    refine (i_LayerFill P Q _ _ _ RT2.out).mono ?_
    rintro e w5 ⟨rfl, T⟩
    replace S := S.grow T
    clear T
    rw [H2.out]
    go_wp2
    go_ret
    exact ⟨rfl, S.below⟩
end Go.Proofs.Ytbpfihklbmephaa
namespace Go.Proofs.Ytbpfihklbmephaa.fnLayerFillDone
open Go Go.ChangeShapes Go.WideShapes Go.ChangeAt Go.RowKit Go.Proofs.Ytbpfihklbmephaa
set_option linter.unusedVariables false
theorem own : ownKnob Try.prog.godebug = none := by kernel_rfl
theorem laidOut : laidOutB Try.prog = true := by kernel_rfl
set_option maxRecDepth 100000 in
theorem lifted (os : Os) (started : os.Started) (H : Type) (enc : TypeId × Value → H) :
    ReturnsInHanded {} Try.checked os 10 .any (Rows.fnLayerFillSpec.pre6 enc Try.prog Try.f10 Rows.fnLayerFillRow.domain false) (Rows.fnLayerFillSpec.post enc Try.prog Try.f10 false true false false) := by
  refine returnsInHanded_of_change (C := Try.checked) own started (by kernel_rfl) Try.func10
    (ChangeSpec.witness6 (enc := enc) (C := Try.checked) false ⟨#[], #[.slice none 0 0], []⟩ 8 (by kernel_rfl) (by kernel_rfl) (by kernel_rfl) (by kernel_rfl)) ?_
  intro W base args ds gs before hval0 hW hcnd _
  have hval : ∀ (j : Nat) t v, Try.f10.params[j]? = some t → args[j]? = some v → Value.okWide Try.prog W .any base t v := hval0
  have hW' := hW
  obtain ⟨p, q, hA0, hV, rfl, hfz, hnd⟩ := hW
  have hA : DataW.TrodAll enc Try.prog W 0 (fun _ => true) true Try.f10.params.toList args.toList ds p := hA0
  rw [Try.params10] at hA hval
  obtain ⟨v0, vs0, d0, ds0, p0, q0, hargs, rfl, rfl, h0, r0⟩ := trodAll_cons hA
  obtain ⟨rfl, rfl, rfl⟩ := trodAll_nil r0
  obtain rfl : args = #[v0] := by cases args; simp_all
  obtain ⟨rfl, rfl⟩ := trodVars_none hV
  obtain ⟨a0, len0, cap0, rfl⟩ := okWide_slice Try.underlying28 (hval 0 28 v0 rfl rfl)
  have k0 := h0
  have lt0 : ∀ x ∈ p0, x.block < W.heap.size := by obtain ⟨m, hm⟩ := k0; exact DataW.trod_lt m _ _ _ hm
  have w0 : Byts W a0 len0 cap0 := by
    obtain ⟨fuel, hf⟩ := h0
    rcases open_ints Try.underlying28 Try.underlying5 (by kernel_rfl) hf with ⟨hcs, _⟩ | ⟨x, l, c, zs, hcs, _, hl, hm, hz, _, hcell, hwz⟩
    · simp [Value.cells] at hcs
      obtain ⟨rfl, rfl, rfl⟩ := hcs
      exact byts_nil W
    · simp [Value.cells] at hcs
      obtain ⟨rfl, rfl, rfl⟩ := hcs
      exact byts_of hl hm (by simpa using hz) hcell hwz
  clear hA0 hval0
  refine (law_FnLayerFill a0 len0 cap0 W w0).mono fun e W' ⟨he, bel⟩ => ?_
  subst he
  exact ⟨_, rfl, _, _, _, [], _, [], hW', trodAll_mk1 (shut_bool Try.underlying4 _), (trodAll_cons_mk (Below.trod laidOut (by kernel_rfl) (of_decide_eq_true (by kernel_rfl)) k0 bel lt0) trodAll_mk0), rfl, bel.frame _, fun h => by cases h⟩
theorem over : Rows.fnLayerFillRow.holds Try.pinned (OpenSpec.ofChange Rows.fnLayerFillSpec) :=
  OpenClaim.holds_of_wide 10 Try.f10 rfl rfl rfl rfl rfl rfl rfl ⟨rfl, rfl, rfl, rfl, rfl⟩ rfl rfl rfl rfl rfl (by kernel_rfl) Try.func10 (by kernel_rfl)
    (of_decide_eq_true (by kernel_rfl)) (by unfold Func.isWrapper; first | (rw [if_pos (by decide +kernel)]; kernel_rfl) | (rw [if_neg (by decide +kernel)]; exact ⟨rfl, rfl⟩))
    (fun os started H enc _ => lifted os started H enc)
theorem proved : Rows.FnLayerFillSaid := over
#print axioms proved
end Go.Proofs.Ytbpfihklbmephaa.fnLayerFillDone
