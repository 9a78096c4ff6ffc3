/-
  FnExactProgramValid: for all arguments both programs return the same; the arguments are left as they were, the result is new memory. No condition.
-/
import Derived.Test.YtbhelobahfgaeaaCmdWalk
import Derived.Test.YtbhelobahfgaeaaCommandS
import Derived.Test.YtbhelobahfgaeaaOpen
import Derived.Test.YtbhelobahfgaeaaRows
import Derived.ProofKit
import Derived.OpenShut
import Derived.ShutString
import Derived.ChangeOld
namespace Go.Proofs.Ytbhelobahfgaeaa
open Go Go.RowKit
set_option linter.unusedVariables false
set_option maxHeartbeats 4000000 in
theorem law_FnExactProgramValid (v0 : Value) (x0 : List Cmd) (w : World) (h0 : Rds LCmd w v0 x0) :
    Calls Try.prog 3 #[v0] w fun e w' => e = .returned (.bool true) ∧ Below w.heap.size w w' := by
  have S := St.refl w
  go_enter Try.func3, Try.ntmps3
  go_wp2_with fail
  refine (szCommandS_s _ x0 1048576 _ h0 (by omega) (by omega)).mono ?_
  rintro e w' ⟨z1, rfl, p1z1, p2z1, p3z1, rfl⟩
  by_cases qz1 : z1 < 0
  · go_wp2_with fail
    go_ret
    exact ⟨rfl, Below.refl _ _⟩
  replace p3z1 := p3z1 (by omega)
  go_wp2_with fail
  refine (toCommandS_s _ x0 _ (S.rds h0) (by omega)).mono ?_
  rintro e w3 ⟨u2, rfl, T⟩
  replace S := S.call T
  clear T
  simp only [List.cons_append, List.nil_append] at S
  go_wp2_with fail
  have R0 := St.own S
  refine (s_ProgramValid _ x0 _ R0).mono ?_
  rintro e w4 ⟨rfl, T⟩
  replace S := S.grow T
  clear T R0
  go_wp2_with fail
  refine (toCommandS_s _ x0 _ (S.rds h0) (by omega)).mono ?_
  rintro e w6 ⟨u5, rfl, T⟩
  replace S := S.call T
  clear T
  simp only [List.cons_append, List.nil_append] at S
  go_wp2_with fail
  have R0 := St.own S
  refine (i_ProgramValid _ x0 _ R0).mono ?_
  rintro e w7 ⟨rfl, T⟩
  replace S := S.grow T
  clear T R0
  go_wp2_with fail
  refine (toCommandS_s _ x0 _ (S.rds h0) (by omega)).mono ?_
  rintro e w9 ⟨u8, rfl, T⟩
  replace S := S.call T
  clear T
  simp only [List.cons_append, List.nil_append] at S
  go_wp2_with fail
  have R0 := St.own (St.moveOut (Ms := [_]) S)
  have R1 := St.own S
  refine (eqCommandS_s _ _ x0 _ R0 R1).mono ?_
  rintro e w10 ⟨rfl, T⟩
  clear R0 R1
  replace S := S.grow T
  clear T
  go_wp2_with fail
  go_ret
  exact ⟨rfl, S.below⟩
end Go.Proofs.Ytbhelobahfgaeaa
namespace Go.Proofs.Ytbhelobahfgaeaa.fnExactProgramValidDone
open Go Go.ChangeShapes Go.WideShapes Go.ChangeAt Go.RowKit Go.Proofs.Ytbhelobahfgaeaa
set_option linter.unusedVariables false
theorem own : ownKnob Try.prog.godebug = none := by kernel_rfl
theorem laidOut : laidOutB Try.prog = true := by kernel_rfl
set_option maxRecDepth 100000 in
theorem lifted (os : Os) (started : os.Started) (H : Type) (enc : TypeId × Value → H) :
    ReturnsInHanded {} Try.checked os 3 .any (Rows.fnExactProgramValidSpec.pre6 enc Try.prog Try.f3 Rows.fnExactProgramValidRow.domain false) (Rows.fnExactProgramValidSpec.post enc Try.prog Try.f3 false true false false) := by
  refine returnsInHanded_of_change (C := Try.checked) own started (by kernel_rfl) Try.func3
    (ChangeSpec.witness6 (enc := enc) (C := Try.checked) false ⟨#[], #[.slice none 0 0], []⟩ 8 (by kernel_rfl) (by kernel_rfl) (by kernel_rfl) (by kernel_rfl)) ?_
  intro W base args ds gs before hval0 hW hcnd _
  have hval : ∀ (j : Nat) t v, Try.f3.params[j]? = some t → args[j]? = some v → Value.okWide Try.prog W .any base t v := hval0
  have hW' := hW
  obtain ⟨p, q, hA0, hV, rfl, hfz, hnd⟩ := hW
  have hA : DataW.TrodAll enc Try.prog W 0 (fun _ => true) true Try.f3.params.toList args.toList ds p := hA0
  rw [Try.params3] at hA hval
  obtain ⟨v0, vs0, d0, ds0, p0, q0, hargs, rfl, rfl, h0, r0⟩ := trodAll_cons hA
  obtain ⟨rfl, rfl, rfl⟩ := trodAll_nil r0
  obtain rfl : args = #[v0] := by cases args; simp_all
  obtain ⟨rfl, rfl⟩ := trodVars_none hV
  obtain ⟨a0, len0, cap0, rfl⟩ := okWide_slice Try.underlying22 (hval 0 22 v0 rfl rfl)
  have k0 := h0
  have lt0 : ∀ x ∈ p0, x.block < W.heap.size := by obtain ⟨m, hm⟩ := k0; exact DataW.trod_lt m _ _ _ hm
  obtain ⟨x0, w0⟩ : ∃ xs, Rds LCmd W (.slice a0 len0 cap0) xs := by
    obtain ⟨fuel, hf⟩ := h0
    haveI : Inhabited Cmd := ⟨⟨0, 0, 0⟩⟩
    obtain ⟨xs, hx, _⟩ := open_rds LCmd (fun _ => True) (v := (.slice a0 len0 cap0)) Try.underlying22 (by kernel_rfl) hf (fun cs n y hl ht => by obtain ⟨m, hf⟩ := open_fields Try.underlying41 (by kernel_rfl) hl ht; obtain ⟨b0, y0, e0, t0⟩ := hf 0 _ rfl; obtain ⟨a0, rfl⟩ := open_intv Try.underlying3 t0; obtain ⟨b1, y1, e1, t1⟩ := hf 1 _ rfl; obtain ⟨a1, rfl⟩ := open_intv Try.underlying3 t1; obtain ⟨b2, y2, e2, t2⟩ := hf 2 _ rfl; obtain ⟨a2, rfl⟩ := open_intv Try.underlying3 t2; obtain rfl := list_eq3 hl e0 e1 e2; exact ⟨⟨a0, a1, a2⟩, rfl, trivial⟩)
    exact ⟨xs, hx⟩
  clear hA0 hval0
  refine (law_FnExactProgramValid _ x0 W w0).mono fun e W' ⟨he, bel⟩ => ?_
  subst he
  exact ⟨_, rfl, _, _, _, [], _, [], hW', trodAll_mk1 (shut_bool Try.underlying4 _), (trodAll_cons_mk (Below.trod laidOut (by kernel_rfl) (of_decide_eq_true (by kernel_rfl)) k0 bel lt0) trodAll_mk0), rfl, bel.frame _, fun h => by cases h⟩
theorem over : Rows.fnExactProgramValidRow.holds Try.pinned (OpenSpec.ofChange Rows.fnExactProgramValidSpec) :=
  OpenClaim.holds_of_wide 3 Try.f3 rfl rfl rfl rfl rfl rfl rfl ⟨rfl, rfl, rfl, rfl, rfl⟩ rfl rfl rfl rfl rfl (by kernel_rfl) Try.func3 (by kernel_rfl)
    (of_decide_eq_true (by kernel_rfl)) (by unfold Func.isWrapper; first | (rw [if_pos (by decide +kernel)]; kernel_rfl) | (rw [if_neg (by decide +kernel)]; exact ⟨rfl, rfl⟩))
    (fun os started H enc _ => lifted os started H enc)
theorem proved : Rows.FnExactProgramValidSaid := over
#print axioms proved
end Go.Proofs.Ytbhelobahfgaeaa.fnExactProgramValidDone
