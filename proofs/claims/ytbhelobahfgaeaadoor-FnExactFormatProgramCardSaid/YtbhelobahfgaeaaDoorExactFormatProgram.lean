/-
  FnExactFormatProgram: for all arguments both programs return the same; the arguments are left as they were, the result is new memory. No condition.
-/
import Derived.Test.YtbhelobahfgaeaaDoorFormat
import Derived.Test.YtbhelobahfgaeaaDoorCommandS
import Derived.Test.YtbhelobahfgaeaaDoorStringS
import Derived.Test.YtbhelobahfgaeaaDoorOpen
import Derived.Test.YtbhelobahfgaeaaDoorRows
import Derived.ProofKit
import Derived.OpenShut
import Derived.ShutString
import Derived.ChangeOld
import Derived.Lib.LaidTab
import Derived.LaidMore
import Derived.Stop.Joined
import Derived.Stop.LaidErr
import Derived.MakeChecks
import Derived.SevenTiedAt
import Derived.Test.YtbhelobahfgaeaaDoorCards
import Derived.Test.YtbhelobahfgaeaaDoorTie
namespace Go.Proofs.YtbhelobahfgaeaaDoor
open Go Go.RowKit
set_option linter.unusedVariables false
theorem laid_tail {P : Program} {n : String} {d : DataW Unit} {r : List (String × DataW Unit)} {w : World} (h : laidMet P ((n, d) :: r) w) : laidMet P r w := laidMet.tail h
theorem env_FnExactFormatProgram {W : World} (h : laidMetH Tryd.prog Rows.fnExactFormatProgramRow.laid W) : Tab W := by
  rw [MakeChecks.laidMetH_plain _ _ _ (by kernel_rfl)] at h
  have h3 : laidMet Tryd.prog [("internal/strconv.uint64pow10", Lib.tabData .u64 Lib.pow10Tab)] W := laid_tail (laid_tail h)
  exact Lib.tabIs_of_head (g := 2) (t := 104) (e := 87) (n := 20) (by kernel_rfl) (by kernel_rfl) Tryd.underlying104 Tryd.underlying87 (by kernel_rfl) (by kernel_rfl) h3
set_option maxRecDepth 100000 in
set_option maxHeartbeats 4000000 in
theorem law_FnExactFormatProgram (v0 : Value) (x0 : List Cmd) (w : World) (ht : Tab w) (h0 : Rds LCmd w v0 x0) :
    Calls Tryd.prog 4 #[v0] w fun e w' => e = .returned (.bool true) ∧ Below w.heap.size w w' := by
  have lr0 := formatL_len x0
  have S := St.refl w
  go_enter Tryd.func4, Tryd.ntmps4
  go_wp2_with fail
  refine (szCommandS_s _ x0 1048576 _ h0 (by omega) (by omega)).mono ?_
  rintro e w' ⟨z1, rfl, p1z1, p2z1, p3z1, rfl⟩
  by_cases qz1 : z1 < 0
  · go_wp2_with fail
    go_ret
    exact ⟨rfl, Below.refl _ _⟩
  replace p3z1 := p3z1 (by omega)
  go_wp2_with fail
  refine (toCommandS_s _ x0 _ (S.rds h0) (by omega)).mono ?_
  rintro e w3 ⟨u2, rfl, T⟩
  replace S := S.call T
  clear T
  simp only [List.cons_append, List.nil_append] at S
  go_wp2_with fail
  have R0 := St.own S
  refine (s_FormatProgram _ x0 _ R0).mono ?_
  rintro e w5 ⟨r4, rfl, T⟩
  replace S := S.call T
  clear T R0
  simp only [List.cons_append, List.nil_append] at S
  go_wp2_with fail
  refine (toCommandS_s _ x0 _ (S.rds h0) (by omega)).mono ?_
  rintro e w7 ⟨u6, rfl, T⟩
  replace S := S.call T
  clear T
  simp only [List.cons_append, List.nil_append] at S
  go_wp2_with fail
  have R0 := St.own S
  refine (i_FormatProgram _ x0 _ (ht.grow S.gb) R0).mono ?_
  rintro e w9 ⟨r8, rfl, T⟩
  replace S := S.call T
  clear T R0
  simp only [List.cons_append, List.nil_append] at S
  go_wp2_with fail
  have R0 := St.own S
  have R1 := St.own (St.moveOut (Ms := [_, _]) S)
  refine (eqStringS_s _ _ (formatL x0) _ R0 R1).mono ?_
  rintro e w10 ⟨rfl, T⟩
  clear R0 R1
  obtain ⟨m, rfl⟩ := T
  replace S := S.drewN m
  go_wp2_with fail
  refine (toCommandS_s _ x0 _ (S.rds h0) (by omega)).mono ?_
  rintro e w12 ⟨u11, rfl, T⟩
  replace S := S.call T
  clear T
  simp only [List.cons_append, List.nil_append] at S
  go_wp2_with fail
  have R0 := St.own (St.moveOut (Ms := [_, _]) S)
  have R1 := St.own S
  refine (eqCommandS_s _ _ x0 _ R0 R1).mono ?_
  rintro e w13 ⟨rfl, T⟩
  clear R0 R1
  replace S := S.grow T
  clear T
  replace S := St.moveOut (Ms := [_, _]) S
  simp only [List.cons_append, List.nil_append] at S
  go_wp2_with fail
  refine (markCommandS_s w _ x0 (1) _ _ S (by omega) (by omega) (by omega)).mono ?_
  rintro e w14 ⟨rfl, T⟩
  replace S := T
  clear T
  go_wp2_with fail
  have R0 := St.own (St.moveOut (Ms := [_, _]) S)
  have R1 := St.own (St.moveOut (Ms := [_, _, _]) S)
  refine (eqStringS_s _ _ (formatL x0) _ R0 R1).mono ?_
  rintro e w15 ⟨rfl, T⟩
  clear R0 R1
  obtain ⟨m, rfl⟩ := T
  replace S := S.drewN m
  replace S := St.moveOut (Ms := [_, _]) S
  simp only [List.cons_append, List.nil_append] at S
  go_wp2_with fail
  refine (markStringS_s w _ (formatL x0) (1) _ _ S (by omega) (by omega) (by omega)).mono ?_
  rintro e w16 ⟨rfl, T⟩
  replace S := T
  clear T
  go_wp2_with fail
  have R0 := St.own S
  refine (heldStringS_s _ (formatL x0).length (1) _ R0 (by omega) (by omega) (by omega)).mono ?_
  rintro e w17 ⟨rfl, T⟩
  replace S := S.grow T
  clear T R0
  go_wp2_with fail
  refine (toCommandS_s _ x0 _ (S.rds h0) (by omega)).mono ?_
  rintro e w19 ⟨u18, rfl, T⟩
  replace S := S.call T
  clear T
  simp only [List.cons_append, List.nil_append] at S
  go_wp2_with fail
  have R0 := St.own S
  refine (i_FormatProgram _ x0 _ (ht.grow S.gb) R0).mono ?_
  rintro e w21 ⟨r20, rfl, T⟩
  replace S := S.call T
  clear T R0
  simp only [List.cons_append, List.nil_append] at S
  go_wp2_with fail
  have R0 := St.own S
  have R1 := St.own (St.moveOut (Ms := [_, _, _, _, _]) S)
  refine (eqStringS_s _ _ (formatL x0) _ R0 R1).mono ?_
  rintro e w22 ⟨rfl, T⟩
  clear R0 R1
  obtain ⟨m, rfl⟩ := T
  replace S := S.drewN m
  go_wp2_with fail
  have R0 := St.own (St.moveOut (Ms := [_, _]) S)
  refine (heldStringS_s _ (formatL x0).length (1) _ R0 (by omega) (by omega) (by omega)).mono ?_
  rintro e w23 ⟨rfl, T⟩
  replace S := S.grow T
  clear T R0
  go_wp2_with fail
  go_ret
  exact ⟨rfl, S.below⟩
end Go.Proofs.YtbhelobahfgaeaaDoor
namespace Go.Proofs.YtbhelobahfgaeaaDoor.fnExactFormatProgramDone
open Go Go.ChangeShapes Go.WideShapes Go.ChangeAt Go.RowKit Go.Proofs.YtbhelobahfgaeaaDoor
set_option linter.unusedVariables false
theorem own : ownKnob Tryd.prog.godebug = none := by kernel_rfl
theorem laidOut : laidOutB Tryd.prog = true := by kernel_rfl
theorem door_met (os : Os) (args : Array Value) : laidMetH Tryd.prog Rows.fnExactFormatProgramRow.laid ((World.doorLaid Tryd.prog 400 os).forCall (fun _ _ => 0) ⟨#[], args, []⟩).memory :=
  laidMetH_of_parts3 (fuel := 8) (laidMet_of_run' 8 (by kernel_rfl) (by kernel_rfl)) (by kernel_rfl) (by kernel_rfl)
set_option maxRecDepth 100000 in
theorem lifted (os : Os) (started : os.Started) (H : Type) (enc : TypeId × Value → H) :
    ReturnsInHanded {} Tryd.checked os 4 .any (fun w args => (Rows.fnExactFormatProgramSpec.pre enc Tryd.prog Tryd.f4 [] false w args ∧ laidMetH Tryd.prog Rows.fnExactFormatProgramRow.laid w) ∧ sizedMet enc Tryd.prog Tryd.f4 (OpenSpec.ofChange Rows.fnExactFormatProgramSpec) false w args) (Rows.fnExactFormatProgramSpec.post enc Tryd.prog Tryd.f4 false true false false) := by
  refine returnsInHanded_of_change_and (C := Tryd.checked) (X := fun w _ => laidMetH Tryd.prog Rows.fnExactFormatProgramRow.laid w) (fun _ _ _ hh h => h.of_heap hh) own started (by kernel_rfl) Tryd.func4
    (ChangeSpec.witness_shaped (enc := enc) (C := Tryd.checked) (os := os) (X := fun w _ => laidMetH Tryd.prog Rows.fnExactFormatProgramRow.laid w) false (World.doorLaid Tryd.prog 400 os) #[.slice none 0 0] 8 rfl (World.shaped_of_RefB (by kernel_rfl) (by kernel_rfl)) (by kernel_rfl) (by kernel_rfl) (by kernel_rfl) (door_met os _)) ?_
  intro W base args ds gs before hval0 hW hcnd _ hL _
  have hval : ∀ (j : Nat) t v, Tryd.f4.params[j]? = some t → args[j]? = some v → Value.okWide Tryd.prog W .any base t v := hval0
  have hW' := hW
  obtain ⟨p, q, hA0, hV, rfl, hfz, hnd⟩ := hW
  have hA : DataW.TrodAll enc Tryd.prog W 0 (fun _ => true) true Tryd.f4.params.toList args.toList ds p := hA0
  rw [Tryd.params4] at hA hval
  obtain ⟨v0, vs0, d0, ds0, p0, q0, hargs, rfl, rfl, h0, r0⟩ := trodAll_cons hA
  obtain ⟨rfl, rfl, rfl⟩ := trodAll_nil r0
  obtain rfl : args = #[v0] := by cases args; simp_all
  obtain ⟨rfl, rfl⟩ := trodVars_none hV
  obtain ⟨a0, len0, cap0, rfl⟩ := okWide_slice Tryd.underlying34 (hval 0 34 v0 rfl rfl)
  have k0 := h0
  have lt0 : ∀ x ∈ p0, x.block < W.heap.size := by obtain ⟨m, hm⟩ := k0; exact DataW.trod_lt m _ _ _ hm
  obtain ⟨x0, w0⟩ : ∃ xs, Rds LCmd W (.slice a0 len0 cap0) xs := by
    obtain ⟨fuel, hf⟩ := h0
    haveI : Inhabited Cmd := ⟨⟨0, 0, 0⟩⟩
    obtain ⟨xs, hx, _⟩ := open_rds LCmd (fun _ => True) (v := (.slice a0 len0 cap0)) Tryd.underlying34 (by kernel_rfl) hf (fun cs n y hl ht => by obtain ⟨m, hf⟩ := open_fields Tryd.underlying54 (by kernel_rfl) hl ht; obtain ⟨b0, y0, e0, t0⟩ := hf 0 _ rfl; obtain ⟨a0, rfl⟩ := open_intv Tryd.underlying3 t0; obtain ⟨b1, y1, e1, t1⟩ := hf 1 _ rfl; obtain ⟨a1, rfl⟩ := open_intv Tryd.underlying3 t1; obtain ⟨b2, y2, e2, t2⟩ := hf 2 _ rfl; obtain ⟨a2, rfl⟩ := open_intv Tryd.underlying3 t2; obtain rfl := list_eq3 hl e0 e1 e2; exact ⟨⟨a0, a1, a2⟩, rfl, trivial⟩)
    exact ⟨xs, hx⟩
  clear hA0 hval0
  refine (law_FnExactFormatProgram _ x0 W (env_FnExactFormatProgram hL) w0).mono fun e W' ⟨he, bel⟩ => ?_
  subst he
  exact ⟨_, rfl, _, _, _, [], _, [], hW', trodAll_mk1 (shut_bool Tryd.underlying4 _), (trodAll_cons_mk (Below.trod laidOut (by kernel_rfl) (of_decide_eq_true (by kernel_rfl)) k0 bel lt0) trodAll_mk0), rfl, bel.frame _, fun h => by cases h⟩
theorem over : Rows.fnExactFormatProgramRow.holds Tryd.pinned (OpenSpec.ofChange Rows.fnExactFormatProgramSpec) :=
  OpenClaim.holds_of_wide 4 Tryd.f4 rfl rfl rfl rfl rfl rfl rfl ⟨rfl, rfl, rfl, rfl, rfl⟩ rfl rfl rfl rfl rfl (by kernel_rfl) Tryd.func4 (by kernel_rfl)
    (of_decide_eq_true (by kernel_rfl)) (by unfold Func.isWrapper; first | (rw [if_pos (by decide +kernel)]; kernel_rfl) | (rw [if_neg (by decide +kernel)]; exact ⟨rfl, rfl⟩))
    (fun os started H enc _ => lifted os started H enc)
theorem proved : Rows.FnExactFormatProgramCardSaid :=
  Claim7.holds_tied_plain_at .later [] [.data, .data, .data] true (true, "a6e63804e49b2e0694065d3be7dde78e1925f78b364814113e24d46b35a3597e") true over (fun _ h => by cases h) (by kernel_rfl) (fun _ h => by cases h) fnExactFormatProgram_row_tie rfl ⟨rfl, rfl⟩ (by kernel_rfl) rfl
    (fun f fn hf hfn => by
      obtain rfl : f = 4 := Option.some.inj ((show Tryd.prog.funcNamed "loop.example/robotcell/laws.FnExactFormatProgram" = some 4 by kernel_rfl).symm.trans hf) |>.symm
      obtain rfl : fn = Tryd.f4 := (Option.some.inj (Tryd.func4.symm.trans hfn)).symm
      exact ⟨by kernel_rfl, fun j t ht => by
        rw [Tryd.params4] at ht
        have hm : t ∈ [34] := by simpa using Array.mem_of_getElem? ht
        have hall : ([34].all fun u => !Tryd.prog.wantsStandIn u) = true := by kernel_rfl
        exact (show Tryd.prog.wantsStandIn t = false by simpa using List.all_eq_true.1 hall t hm)⟩)
    (by kernel_rfl)
#print axioms proved
end Go.Proofs.YtbhelobahfgaeaaDoor.fnExactFormatProgramDone
