/-
  FnExactLayerFill: for all arguments both programs return the same; the arguments are left as they were, the result is new memory. No condition.
-/
import Derived.Test.YtbpfihklbmephaaShare
import Derived.Test.YtbpfihklbmephaaBoxS
import Derived.Test.YtbpfihklbmephaaOpen
import Derived.Test.YtbpfihklbmephaaRows
import Derived.ProofKit
import Derived.OpenShut
import Derived.ShutString
import Derived.ChangeOld
namespace Go.Proofs.Ytbpfihklbmephaa
open Go Go.RowKit
set_option linter.unusedVariables false
set_option maxHeartbeats 4000000 in
theorem law_FnExactLayerFill (a0 : Int) (a1 : Int) (v2 : Value) (x2 : List Bx) (w : World) (h0 : (Lit.int .i64 a0).wf = true) (h1 : (Lit.int .i64 a1).wf = true) (h2 : Rds LBx w v2 x2) :
    Calls Try.prog 8 #[.int .i64 a0, .int .i64 a1, v2] w fun e w' => e = .returned (.bool true) ∧ Below w.heap.size w w' := by
  clear h0
  clear h1
  have S := St.refl w
  go_enter Try.func8, Try.ntmps8
  go_wp2_with fail
  refine (szBoxS_s _ x2 1048576 _ h2 (by omega) (by omega)).mono ?_
  rintro e w' ⟨z1, rfl, p1z1, p2z1, p3z1, rfl⟩
  by_cases qz1 : z1 < 0
  · go_wp2_with fail
    go_ret
    exact ⟨rfl, Below.refl _ _⟩
  replace p3z1 := p3z1 (by omega)
  go_wp2_with fail
  refine (toBoxS_s _ x2 _ (S.rds h2) (by omega)).mono ?_
  rintro e w3 ⟨u2, rfl, T⟩
  replace S := S.call T
  clear T
  simp only [List.cons_append, List.nil_append] at S
  go_wp2_with fail
  have R0 := St.own S
  refine (s_LayerFill _ _ _ x2 _ R0).mono ?_
  rintro e w4 ⟨rfl, T⟩
  replace S := S.grow T
  clear T R0
  go_wp2_with fail
  refine (toBoxS_s _ x2 _ (S.rds h2) (by omega)).mono ?_
  rintro e w6 ⟨u5, rfl, T⟩
  replace S := S.call T
  clear T
  simp only [List.cons_append, List.nil_append] at S
  go_wp2_with fail
  have R0 := St.own S
  refine (i_LayerFill _ _ _ x2 _ R0).mono ?_
  rintro e w7 ⟨rfl, T⟩
  replace S := S.grow T
  clear T R0
  go_wp2_with fail
  refine (toBoxS_s _ x2 _ (S.rds h2) (by omega)).mono ?_
  rintro e w9 ⟨u8, rfl, T⟩
  replace S := S.call T
  clear T
  simp only [List.cons_append, List.nil_append] at S
  go_wp2_with fail
  have R0 := St.own (St.moveOut (Ms := [_]) S)
  have R1 := St.own S
  refine (eqBoxS_s _ _ x2 _ R0 R1).mono ?_
  rintro e w10 ⟨rfl, T⟩
  clear R0 R1
  replace S := S.grow T
  clear T
  go_wp2_with fail
  go_ret
  exact ⟨rfl, S.below⟩
end Go.Proofs.Ytbpfihklbmephaa
namespace Go.Proofs.Ytbpfihklbmephaa.fnExactLayerFillDone
open Go Go.ChangeShapes Go.WideShapes Go.ChangeAt Go.RowKit Go.Proofs.Ytbpfihklbmephaa
set_option linter.unusedVariables false
theorem own : ownKnob Try.prog.godebug = none := by kernel_rfl
theorem laidOut : laidOutB Try.prog = true := by kernel_rfl
set_option maxRecDepth 100000 in
theorem lifted (os : Os) (started : os.Started) (H : Type) (enc : TypeId × Value → H) :
    ReturnsInHanded {} Try.checked os 8 .any (Rows.fnExactLayerFillSpec.pre6 enc Try.prog Try.f8 Rows.fnExactLayerFillRow.domain false) (Rows.fnExactLayerFillSpec.post enc Try.prog Try.f8 false true false false) := by
  refine returnsInHanded_of_change (C := Try.checked) own started (by kernel_rfl) Try.func8
    (ChangeSpec.witness6 (enc := enc) (C := Try.checked) false ⟨#[], #[.int .i64 0, .int .i64 0, .slice none 0 0], []⟩ 8 (by kernel_rfl) (by kernel_rfl) (by kernel_rfl) (by kernel_rfl)) ?_
  intro W base args ds gs before hval0 hW hcnd _
  have hval : ∀ (j : Nat) t v, Try.f8.params[j]? = some t → args[j]? = some v → Value.okWide Try.prog W .any base t v := hval0
  have hW' := hW
  obtain ⟨p, q, hA0, hV, rfl, hfz, hnd⟩ := hW
  have hA : DataW.TrodAll enc Try.prog W 0 (fun _ => true) true Try.f8.params.toList args.toList ds p := hA0
  rw [Try.params8] at hA hval
  obtain ⟨v0, vs0, d0, ds0, p0, q0, hargs, rfl, rfl, h0, r0⟩ := trodAll_cons hA
  obtain ⟨v1, vs1, d1, ds1, p1, q1, rfl, rfl, rfl, h1, r1⟩ := trodAll_cons r0
  obtain ⟨v2, vs2, d2, ds2, p2, q2, rfl, rfl, rfl, h2, r2⟩ := trodAll_cons r1
  obtain ⟨rfl, rfl, rfl⟩ := trodAll_nil r2
  obtain rfl : args = #[v0, v1, v2] := by cases args; simp_all
  obtain ⟨rfl, rfl⟩ := trodVars_none hV
  obtain ⟨a0, rfl, rfl, rfl, w0⟩ := open_int Try.underlying3 (hval 0 3 v0 rfl rfl) h0
  obtain ⟨a1, rfl, rfl, rfl, w1⟩ := open_int Try.underlying3 (hval 1 3 v1 rfl rfl) h1
  obtain ⟨a2, len2, cap2, rfl⟩ := okWide_slice Try.underlying33 (hval 2 33 v2 rfl rfl)
  have k2 := h2
  have lt2 : ∀ x ∈ p2, x.block < W.heap.size := by obtain ⟨m, hm⟩ := k2; exact DataW.trod_lt m _ _ _ hm
  obtain ⟨x2, w2⟩ : ∃ xs, Rds LBx W (.slice a2 len2 cap2) xs := by
    obtain ⟨fuel, hf⟩ := h2
    haveI : Inhabited Bx := ⟨⟨0, 0, 0, 0⟩⟩
    obtain ⟨xs, hx, _⟩ := open_rds LBx (fun _ => True) (v := (.slice a2 len2 cap2)) Try.underlying33 (by kernel_rfl) hf (fun cs n y hl ht => by obtain ⟨m, hf⟩ := open_fields Try.underlying23 (by kernel_rfl) hl ht; obtain ⟨b0, y0, e0, t0⟩ := hf 0 _ rfl; obtain ⟨a0, rfl⟩ := open_intv Try.underlying3 t0; obtain ⟨b1, y1, e1, t1⟩ := hf 1 _ rfl; obtain ⟨a1, rfl⟩ := open_intv Try.underlying3 t1; obtain ⟨b2, y2, e2, t2⟩ := hf 2 _ rfl; obtain ⟨a2, rfl⟩ := open_intv Try.underlying3 t2; obtain ⟨b3, y3, e3, t3⟩ := hf 3 _ rfl; obtain ⟨a3, rfl⟩ := open_intv Try.underlying3 t3; obtain rfl := list_eq4 hl e0 e1 e2 e3; exact ⟨⟨a0, a1, a2, a3⟩, rfl, trivial⟩)
    exact ⟨xs, hx⟩
  clear hA0 hval0
  refine (law_FnExactLayerFill a0 a1 _ x2 W w0 w1 w2).mono fun e W' ⟨he, bel⟩ => ?_
  subst he
  exact ⟨_, rfl, _, _, _, [], _, [], hW', trodAll_mk1 (shut_bool Try.underlying4 _), (trodAll_cons_mk (shut_int Try.underlying3 w0) (trodAll_cons_mk (shut_int Try.underlying3 w1) (trodAll_cons_mk (Below.trod laidOut (by kernel_rfl) (of_decide_eq_true (by kernel_rfl)) k2 bel lt2) trodAll_mk0))), rfl, bel.frame _, fun h => by cases h⟩
theorem over : Rows.fnExactLayerFillRow.holds Try.pinned (OpenSpec.ofChange Rows.fnExactLayerFillSpec) :=
  OpenClaim.holds_of_wide 8 Try.f8 rfl rfl rfl rfl rfl rfl rfl ⟨rfl, rfl, rfl, rfl, rfl⟩ rfl rfl rfl rfl rfl (by kernel_rfl) Try.func8 (by kernel_rfl)
    (of_decide_eq_true (by kernel_rfl)) (by unfold Func.isWrapper; first | (rw [if_pos (by decide +kernel)]; kernel_rfl) | (rw [if_neg (by decide +kernel)]; exact ⟨rfl, rfl⟩))
    (fun os started H enc _ => lifted os started H enc)
theorem proved : Rows.FnExactLayerFillSaid := over
#print axioms proved
end Go.Proofs.Ytbpfihklbmephaa.fnExactLayerFillDone
