/-
  FnExactParseProgram: for all arguments both programs return the same; the arguments are left as they were, the result is new memory. No condition.
-/
import Derived.Test.YtbhelobahfgaeaaDoorParseI
import Derived.Test.YtbhelobahfgaeaaDoorParseS
import Derived.Test.YtbhelobahfgaeaaDoorEnvRow
import Derived.Test.YtbhelobahfgaeaaDoorStringS
import Derived.Test.YtbhelobahfgaeaaDoorCommandS
import Derived.Test.YtbhelobahfgaeaaDoorOpen
import Derived.Test.YtbhelobahfgaeaaDoorRows
import Derived.ProofKit
import Derived.OpenShut
import Derived.ShutString
import Derived.ChangeOld
import Derived.Lay
import Derived.LaidMore
import Derived.Stop.Joined
import Derived.MakeChecks
import Derived.SevenTiedAt
import Derived.Test.YtbhelobahfgaeaaDoorCards
import Derived.Test.YtbhelobahfgaeaaDoorTie
namespace Go.Proofs.YtbhelobahfgaeaaDoor
open Go Go.RowKit
set_option linter.unusedVariables false
theorem le_letters : ∀ (xs : List ByteArray) (j : Nat) (x : ByteArray), xs[j]? = some x → x.size ≤ letters xs
  | [], j, x, h => by cases h
  | a :: xs, 0, x, h => by
    obtain rfl : a = x := by simpa using h
    simp [letters]
  | a :: xs, j + 1, x, h => by
    have := le_letters xs j x (by simpa using h)
    unfold letters at this ⊢
    rw [List.map_cons, List.sum_cons]
    omega
theorem env_FnExactParseProgram {W : World} (hsh : W.ShapedOpen Tryd.prog) (h : laidMetH Tryd.prog Rows.fnExactParseProgramRow.laid W) : Env W := env_of hsh h
set_option maxRecDepth 100000 in
set_option maxHeartbeats 4000000 in
theorem law_FnExactParseProgram (v0 : Value) (x0 : List ByteArray) (w : World) (E : Env w) (h0 : Rds LS w v0 x0 ∧ ∀ z ∈ x0, z.size ≤ maxLen) :
    Calls Tryd.prog 5 #[v0] w fun e w' => e = .returned (.bool true) ∧ Below w.heap.size w w' := by
  have lr0 := parseL_len x0
  obtain ⟨h0, hz0⟩ := h0
  have S := St.refl w
  go_enter Tryd.func5, Tryd.ntmps5
  go_wp2_with fail
  refine (szStringS_s _ x0 1048576 _ h0 (fun j x hx => by have := hz0 x (List.mem_of_getElem? hx); unfold maxLen at this; omega) (by omega) (by omega)).mono ?_
  rintro e w2 ⟨z1, rfl, p1z1, p2z1, p3z1, T⟩
  replace S := S.grow T
  clear T
  by_cases qz1 : z1 < 0
  · go_wp2_with fail
    go_ret
    exact ⟨rfl, S.below⟩
  replace p3z1 := p3z1 (by omega)
  obtain ⟨p4z1, p5z1⟩ := p3z1
  have HZ : RowKit.Hid (∀ (j : Nat) x, x0[j]? = some x → x.size ≤ 4294967200) := by
    intro j x hx
    have := le_letters x0 j x hx
    omega
  clear hz0
  go_wp2_with fail
  refine (toStringS_s _ x0 _ (S.rds h0) (by omega)).mono ?_
  rintro e w3 ⟨u2, rfl, T⟩
  replace S := S.call T
  clear T
  simp only [List.cons_append, List.nil_append] at S
  go_wp2_with fail
  have R0 := St.own S
  refine (s_ParseProgram _ x0 _ HZ.out (by omega) R0).mono ?_
  rintro e w5 ⟨r4, rfl, T⟩
  replace S := S.call T
  clear T R0
  simp only [List.cons_append, List.nil_append] at S
  go_wp2_with fail
  refine (toStringS_s _ x0 _ (S.rds h0) (by omega)).mono ?_
  rintro e w7 ⟨u6, rfl, T⟩
  replace S := S.call T
  clear T
  simp only [List.cons_append, List.nil_append] at S
  go_wp2_with fail
  have R0 := St.own S
  refine (i_ParseProgram _ x0 _ (E.grow S.gb) HZ.out (by omega) R0).mono ?_
  rintro e w9 ⟨r8, rfl, T⟩
  replace S := S.call T
  clear T R0
  simp only [List.cons_append, List.nil_append] at S
  go_wp2_with fail
  have R0 := St.own S
  have R1 := St.own (St.moveOut (Ms := [_, _]) S)
  refine (eqCommandS_s _ _ (parseL x0) _ R0 R1).mono ?_
  rintro e w10 ⟨rfl, T⟩
  clear R0 R1
  replace S := S.grow T
  clear T
  go_wp2_with fail
  refine (toStringS_s _ x0 _ (S.rds h0) (by omega)).mono ?_
  rintro e w12 ⟨u11, rfl, T⟩
  replace S := S.call T
  clear T
  simp only [List.cons_append, List.nil_append] at S
  go_wp2_with fail
  have R0 := St.own (St.moveOut (Ms := [_, _]) S)
  have R1 := St.own S
  refine (eqStringS_s _ _ x0 _ R0 R1).mono ?_
  rintro e w13 ⟨rfl, T⟩
  clear R0 R1
  obtain ⟨m, rfl⟩ := T
  replace S := S.drewN m
  replace S := St.moveOut (Ms := [_, _]) S
  simp only [List.cons_append, List.nil_append] at S
  go_wp2_with fail
  refine (markStringS_s w _ x0 (1) _ _ S (by omega) (by omega) (by omega)).mono ?_
  rintro e w14 ⟨rfl, T⟩
  replace S := T
  clear T
  go_wp2_with fail
  have R0 := St.own (St.moveOut (Ms := [_, _]) S)
  have R1 := St.own (St.moveOut (Ms := [_, _, _]) S)
  refine (eqCommandS_s _ _ (parseL x0) _ R0 R1).mono ?_
  rintro e w15 ⟨rfl, T⟩
  clear R0 R1
  replace S := S.grow T
  clear T
  replace S := St.moveOut (Ms := [_, _]) S
  simp only [List.cons_append, List.nil_append] at S
  go_wp2_with fail
  refine (markCommandS_s w _ (parseL x0) (1) _ _ S (by omega) (by omega) (by omega)).mono ?_
  rintro e w16 ⟨rfl, T⟩
  replace S := T
  clear T
  go_wp2_with fail
  have R0 := St.own S
  refine (heldCommandS_s _ (parseL x0).length (1) _ R0 (by omega) (by omega) (by omega)).mono ?_
  rintro e w17 ⟨rfl, T⟩
  replace S := S.grow T
  clear T R0
  go_wp2_with fail
  refine (toStringS_s _ x0 _ (S.rds h0) (by omega)).mono ?_
  rintro e w19 ⟨u18, rfl, T⟩
  replace S := S.call T
  clear T
  simp only [List.cons_append, List.nil_append] at S
  go_wp2_with fail
  have R0 := St.own S
  refine (i_ParseProgram _ x0 _ (E.grow S.gb) HZ.out (by omega) R0).mono ?_
  rintro e w21 ⟨r20, rfl, T⟩
  replace S := S.call T
  clear T R0
  simp only [List.cons_append, List.nil_append] at S
  go_wp2_with fail
  have R0 := St.own S
  have R1 := St.own (St.moveOut (Ms := [_, _, _, _, _]) S)
  refine (eqCommandS_s _ _ (parseL x0) _ R0 R1).mono ?_
  rintro e w22 ⟨rfl, T⟩
  clear R0 R1
  replace S := S.grow T
  clear T
  go_wp2_with fail
  have R0 := St.own (St.moveOut (Ms := [_, _]) S)
  refine (heldCommandS_s _ (parseL x0).length (1) _ R0 (by omega) (by omega) (by omega)).mono ?_
  rintro e w23 ⟨rfl, T⟩
  replace S := S.grow T
  clear T R0
  go_wp2_with fail
  go_ret
  exact ⟨rfl, S.below⟩
end Go.Proofs.YtbhelobahfgaeaaDoor
namespace Go.Proofs.YtbhelobahfgaeaaDoor.fnExactParseProgramDone
open Go Go.ChangeShapes Go.WideShapes Go.ChangeAt Go.RowKit Go.Proofs.YtbhelobahfgaeaaDoor
set_option linter.unusedVariables false
theorem own : ownKnob Tryd.prog.godebug = none := by kernel_rfl
theorem laidOut : laidOutB Tryd.prog = true := by kernel_rfl
theorem door_met (os : Os) (args : Array Value) : laidMetH Tryd.prog Rows.fnExactParseProgramRow.laid ((World.laidAll Tryd.prog os Rows.fnExactParseProgramRow.laid).forCall (fun _ _ => 0) ⟨#[], args, []⟩).memory := by
  rw [MakeChecks.laidMetH_plain _ _ _ (by kernel_rfl)]
  exact laidMet_laidAll _ (by kernel_rfl) (by kernel_rfl)
set_option maxRecDepth 100000 in
theorem lifted (os : Os) (started : os.Started) (H : Type) (enc : TypeId × Value → H) :
    ReturnsInHanded {} Tryd.checked os 5 .any (fun w args => (Rows.fnExactParseProgramSpec.pre enc Tryd.prog Tryd.f5 [] false w args ∧ laidMetH Tryd.prog Rows.fnExactParseProgramRow.laid w) ∧ sizedMet enc Tryd.prog Tryd.f5 (OpenSpec.ofChange Rows.fnExactParseProgramSpec) false w args) (Rows.fnExactParseProgramSpec.post enc Tryd.prog Tryd.f5 false true false false) := by
  refine ret_and_shaped (C := Tryd.checked) (X := fun w _ => laidMetH Tryd.prog Rows.fnExactParseProgramRow.laid w) (fun _ _ _ hh h => h.of_heap hh) own started (by kernel_rfl) Tryd.func5
    (ChangeSpec.witness_shaped (enc := enc) (C := Tryd.checked) (os := os) (X := fun w _ => laidMetH Tryd.prog Rows.fnExactParseProgramRow.laid w) false (World.laidAll Tryd.prog os Rows.fnExactParseProgramRow.laid) #[.slice none 0 0] 8 (World.laidAll_os _ _ _) (World.shaped_of_ZipB (by kernel_rfl) (by kernel_rfl)) (by kernel_rfl) (by kernel_rfl) (by kernel_rfl) (door_met os _)) ?_
  intro W base args ds gs before hval0 hW hsh hL
  have hval : ∀ (j : Nat) t v, Tryd.f5.params[j]? = some t → args[j]? = some v → Value.okWide Tryd.prog W .any base t v := hval0
  have hW' := hW
  obtain ⟨p, q, hA0, hV, rfl, hfz, hnd⟩ := hW
  have hA : DataW.TrodAll enc Tryd.prog W 0 (fun _ => true) true Tryd.f5.params.toList args.toList ds p := hA0
  rw [Tryd.params5] at hA hval
  obtain ⟨v0, vs0, d0, ds0, p0, q0, hargs, rfl, rfl, h0, r0⟩ := trodAll_cons hA
  obtain ⟨rfl, rfl, rfl⟩ := trodAll_nil r0
  obtain rfl : args = #[v0] := by cases args; simp_all
  obtain ⟨rfl, rfl⟩ := trodVars_none hV
  obtain ⟨a0, len0, cap0, rfl⟩ := okWide_slice Tryd.underlying25 (hval 0 25 v0 rfl rfl)
  have k0 := h0
  have lt0 : ∀ x ∈ p0, x.block < W.heap.size := by obtain ⟨m, hm⟩ := k0; exact DataW.trod_lt m _ _ _ hm
  obtain ⟨x0, w0⟩ : ∃ xs, Rds LS W (.slice a0 len0 cap0) xs ∧ ∀ z ∈ xs, z.size ≤ maxLen := by
    obtain ⟨fuel, hf⟩ := h0
    haveI : Inhabited ByteArray := ⟨ByteArray.empty⟩
    obtain ⟨xs, hx, hq⟩ := open_rds LS (fun z : ByteArray => z.size ≤ maxLen) (v := (.slice a0 len0 cap0)) Tryd.underlying25 (by kernel_rfl) hf (fun cs n y hl ht => by obtain ⟨a, rfl, _, hz⟩ := DataW.trod_string Tryd.underlying9 ht; exact ⟨a, rfl, hz⟩)
    exact ⟨xs, hx, hq⟩
  clear hA0 hval0
  refine (law_FnExactParseProgram _ x0 W (env_FnExactParseProgram hsh hL) w0).mono fun e W' ⟨he, bel⟩ => ?_
  subst he
  exact ⟨_, rfl, _, _, _, [], _, [], hW', trodAll_mk1 (shut_bool Tryd.underlying4 _), (trodAll_cons_mk (Below.trod laidOut (by kernel_rfl) (of_decide_eq_true (by kernel_rfl)) k0 bel lt0) trodAll_mk0), rfl, bel.frame _, fun h => by cases h⟩
theorem over : Rows.fnExactParseProgramRow.holds Tryd.pinned (OpenSpec.ofChange Rows.fnExactParseProgramSpec) :=
  OpenClaim.holds_of_wide 5 Tryd.f5 rfl rfl rfl rfl rfl rfl rfl ⟨rfl, rfl, rfl, rfl, rfl⟩ rfl rfl rfl rfl rfl (by kernel_rfl) Tryd.func5 (by kernel_rfl)
    (of_decide_eq_true (by kernel_rfl)) (by unfold Func.isWrapper; first | (rw [if_pos (by decide +kernel)]; kernel_rfl) | (rw [if_neg (by decide +kernel)]; exact ⟨rfl, rfl⟩))
    (fun os started H enc _ => lifted os started H enc)
theorem proved : Rows.FnExactParseProgramCardSaid :=
  Claim7.holds_tied_plain_at .later [] [.data, .data, .data, .data, .sentinel, .sentinel, .pinned] true (true, "a6e63804e49b2e0694065d3be7dde78e1925f78b364814113e24d46b35a3597e") true over (fun _ h => by cases h) (by kernel_rfl) (fun _ h => by cases h) fnExactParseProgram_row_tie rfl ⟨rfl, rfl⟩ (by kernel_rfl) rfl
    (fun f fn hf hfn => by
      obtain rfl : f = 5 := Option.some.inj ((show Tryd.prog.funcNamed "loop.example/robotcell/laws.FnExactParseProgram" = some 5 by kernel_rfl).symm.trans hf) |>.symm
      obtain rfl : fn = Tryd.f5 := (Option.some.inj (Tryd.func5.symm.trans hfn)).symm
      exact ⟨by kernel_rfl, fun j t ht => by
        rw [Tryd.params5] at ht
        have hm : t ∈ [25] := by simpa using Array.mem_of_getElem? ht
        have hall : ([25].all fun u => !Tryd.prog.wantsStandIn u) = true := by kernel_rfl
        exact (show Tryd.prog.wantsStandIn t = false by simpa using List.all_eq_true.1 hall t hm)⟩)
    (by kernel_rfl)
#print axioms proved
end Go.Proofs.YtbhelobahfgaeaaDoor.fnExactParseProgramDone
