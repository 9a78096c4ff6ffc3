/-
  FnExactPackLayer: for all arguments both programs return the same; the arguments are left as they were, the result is new memory. No condition.
-/
import Derived.Test.YtbpfihklbmephaaPackS
import Derived.Test.YtbpfihklbmephaaBoxS
import Derived.Test.YtbpfihklbmephaaOpen
import Derived.Test.YtbpfihklbmephaaRows
import Derived.ProofKit
import Derived.OpenShut
import Derived.ShutString
import Derived.ChangeOld
namespace Go.Proofs.Ytbpfihklbmephaa
open Go Go.RowKit
set_option linter.unusedVariables false
set_option maxHeartbeats 4000000 in
theorem law_FnExactPackLayer (a0 : Int) (a1 : Int) (a2 : Int) (a3 : Int) (w : World) (h0 : (Lit.int .i64 a0).wf = true) (h1 : (Lit.int .i64 a1).wf = true) (h2 : (Lit.int .i64 a2).wf = true) (h3 : (Lit.int .i64 a3).wf = true) :
    Calls Try.prog 6 #[.int .i64 a0, .int .i64 a1, .int .i64 a2, .int .i64 a3] w fun e w' => e = .returned (.bool true) ∧ Below w.heap.size w w' := by
  clear h0
  clear h1
  clear h2
  clear h3
  have lr0 := pack_len a0 a1 a2 a3
  have S := St.refl w
  go_enter Try.func6, Try.ntmps6
  go_wp2_with fail
  refine (s_PackLayer _ _ _ _ _ ).mono ?_
  rintro e w2 ⟨r1, rfl, T⟩
  replace S := S.call T
  clear T 
  simp only [List.cons_append, List.nil_append] at S
  go_wp2_with fail
  refine (i_PackLayer _ _ _ _ _ ).mono ?_
  rintro e w4 ⟨r3, rfl, T⟩
  replace S := S.call T
  clear T 
  simp only [List.cons_append, List.nil_append] at S
  go_wp2_with fail
  have R0 := St.own S
  have R1 := St.own (St.moveOut (Ms := [_]) S)
  refine (eqBoxS_s _ _ (pack a0 a1 a2 a3) _ R0 R1).mono ?_
  rintro e w5 ⟨rfl, T⟩
  clear R0 R1
  replace S := S.grow T
  clear T
  go_wp2_with fail
  refine (markBoxS_s w _ (pack a0 a1 a2 a3) (1) _ _ S (by omega) (by omega) (by omega)).mono ?_
  rintro e w6 ⟨rfl, T⟩
  replace S := T
  clear T
  go_wp2_with fail
  have R0 := St.own S
  refine (heldBoxS_s _ (pack a0 a1 a2 a3).length (1) _ R0 (by omega) (by omega) (by omega)).mono ?_
  rintro e w7 ⟨rfl, T⟩
  replace S := S.grow T
  clear T R0
  go_wp2_with fail
  refine (i_PackLayer _ _ _ _ _ ).mono ?_
  rintro e w9 ⟨r8, rfl, T⟩
  replace S := S.call T
  clear T 
  simp only [List.cons_append, List.nil_append] at S
  go_wp2_with fail
  have R0 := St.own S
  have R1 := St.own (St.moveOut (Ms := [_, _]) S)
  refine (eqBoxS_s _ _ (pack a0 a1 a2 a3) _ R0 R1).mono ?_
  rintro e w10 ⟨rfl, T⟩
  clear R0 R1
  replace S := S.grow T
  clear T
  go_wp2_with fail
  have R0 := St.own (St.moveOut (Ms := [_]) S)
  refine (heldBoxS_s _ (pack a0 a1 a2 a3).length (1) _ R0 (by omega) (by omega) (by omega)).mono ?_
  rintro e w11 ⟨rfl, T⟩
  replace S := S.grow T
  clear T R0
  go_wp2_with fail
  go_ret
  exact ⟨rfl, S.below⟩
end Go.Proofs.Ytbpfihklbmephaa
namespace Go.Proofs.Ytbpfihklbmephaa.fnExactPackLayerDone
open Go Go.ChangeShapes Go.WideShapes Go.ChangeAt Go.RowKit Go.Proofs.Ytbpfihklbmephaa
set_option linter.unusedVariables false
theorem own : ownKnob Try.prog.godebug = none := by kernel_rfl
theorem laidOut : laidOutB Try.prog = true := by kernel_rfl
set_option maxRecDepth 100000 in
theorem lifted (os : Os) (started : os.Started) (H : Type) (enc : TypeId × Value → H) :
    ReturnsInHanded {} Try.checked os 6 .any (Rows.fnExactPackLayerSpec.pre6 enc Try.prog Try.f6 Rows.fnExactPackLayerRow.domain false) (Rows.fnExactPackLayerSpec.post enc Try.prog Try.f6 false true false false) := by
  refine returnsInHanded_of_change (C := Try.checked) own started (by kernel_rfl) Try.func6
    (ChangeSpec.witness6 (enc := enc) (C := Try.checked) false ⟨#[], #[.int .i64 0, .int .i64 0, .int .i64 0, .int .i64 0], []⟩ 8 (by kernel_rfl) (by kernel_rfl) (by kernel_rfl) (by kernel_rfl)) ?_
  intro W base args ds gs before hval0 hW hcnd _
  have hval : ∀ (j : Nat) t v, Try.f6.params[j]? = some t → args[j]? = some v → Value.okWide Try.prog W .any base t v := hval0
  have hW' := hW
  obtain ⟨p, q, hA0, hV, rfl, hfz, hnd⟩ := hW
  have hA : DataW.TrodAll enc Try.prog W 0 (fun _ => true) true Try.f6.params.toList args.toList ds p := hA0
  rw [Try.params6] at hA hval
  obtain ⟨v0, vs0, d0, ds0, p0, q0, hargs, rfl, rfl, h0, r0⟩ := trodAll_cons hA
  obtain ⟨v1, vs1, d1, ds1, p1, q1, rfl, rfl, rfl, h1, r1⟩ := trodAll_cons r0
  obtain ⟨v2, vs2, d2, ds2, p2, q2, rfl, rfl, rfl, h2, r2⟩ := trodAll_cons r1
  obtain ⟨v3, vs3, d3, ds3, p3, q3, rfl, rfl, rfl, h3, r3⟩ := trodAll_cons r2
  obtain ⟨rfl, rfl, rfl⟩ := trodAll_nil r3
  obtain rfl : args = #[v0, v1, v2, v3] := by cases args; simp_all
  obtain ⟨rfl, rfl⟩ := trodVars_none hV
  obtain ⟨a0, rfl, rfl, rfl, w0⟩ := open_int Try.underlying3 (hval 0 3 v0 rfl rfl) h0
  obtain ⟨a1, rfl, rfl, rfl, w1⟩ := open_int Try.underlying3 (hval 1 3 v1 rfl rfl) h1
  obtain ⟨a2, rfl, rfl, rfl, w2⟩ := open_int Try.underlying3 (hval 2 3 v2 rfl rfl) h2
  obtain ⟨a3, rfl, rfl, rfl, w3⟩ := open_int Try.underlying3 (hval 3 3 v3 rfl rfl) h3
  clear hA0 hval0
  refine (law_FnExactPackLayer a0 a1 a2 a3 W w0 w1 w2 w3).mono fun e W' ⟨he, bel⟩ => ?_
  subst he
  exact ⟨_, rfl, _, _, _, [], _, [], hW', trodAll_mk1 (shut_bool Try.underlying4 _), (trodAll_cons_mk (shut_int Try.underlying3 w0) (trodAll_cons_mk (shut_int Try.underlying3 w1) (trodAll_cons_mk (shut_int Try.underlying3 w2) (trodAll_cons_mk (shut_int Try.underlying3 w3) trodAll_mk0)))), rfl, bel.frame _, fun h => by cases h⟩
theorem over : Rows.fnExactPackLayerRow.holds Try.pinned (OpenSpec.ofChange Rows.fnExactPackLayerSpec) :=
  OpenClaim.holds_of_wide 6 Try.f6 rfl rfl rfl rfl rfl rfl rfl ⟨rfl, rfl, rfl, rfl, rfl⟩ rfl rfl rfl rfl rfl (by kernel_rfl) Try.func6 (by kernel_rfl)
    (of_decide_eq_true (by kernel_rfl)) (by unfold Func.isWrapper; first | (rw [if_pos (by decide +kernel)]; kernel_rfl) | (rw [if_neg (by decide +kernel)]; exact ⟨rfl, rfl⟩))
    (fun os started H enc _ => lifted os started H enc)
theorem proved : Rows.FnExactPackLayerSaid := over
#print axioms proved
end Go.Proofs.Ytbpfihklbmephaa.fnExactPackLayerDone
