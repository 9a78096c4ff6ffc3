/-
  FnFormatProgram: for every code the law on formatted programs returns true; nothing that was there is written. No condition.
-/
import Derived.Test.YtbhelobahfgaeaaDoorCmdDraw
import Derived.Test.YtbhelobahfgaeaaDoorParseI
import Derived.Test.YtbhelobahfgaeaaDoorSameT
import Derived.Test.YtbhelobahfgaeaaDoorSameC
import Derived.Test.YtbhelobahfgaeaaDoorEnvRow
import Derived.ProofKit
import Derived.OpenShut
import Derived.ShutString
import Derived.ChangeOld
import Derived.Stop.Joined
import Derived.SevenTiedAt
import Derived.Lay
import Derived.LaidMore
namespace Go.Proofs.YtbhelobahfgaeaaDoor
open Go Go.RowKit
set_option linter.unusedVariables false
theorem env_FnFormatProgram {W : World} (hsh : W.ShapedOpen Tryd.prog) (h : laidMetH Tryd.prog Rows.fnFormatProgramRow.laid W) : Env W := env_of hsh h
set_option maxRecDepth 100000 in
set_option maxHeartbeats 1000000 in
theorem law_FnFormatProgram (a : Option Addr) (len cap : Nat) (w : World) (E : Env w) (hw : Byts w a len cap) :
    Calls Tryd.prog 3 #[.slice a len cap] w fun e w' => e = .returned (.bool true) ∧ Below w.heap.size w w' := by
  have HB := Lib.hid hw; have hm : len ≤ 9223372036854775807 := (by have := hw.1; have := hw.2.1; unfold maxLen at this; omega); clear hw; by_cases hl : 1048576 < len; (go_enter Tryd.func3, Tryd.ntmps3; go_wp2_with fail; go_ret; exact ⟨rfl, Below.refl _ _⟩)
  go_enter Tryd.func3, Tryd.ntmps3
  go_wp2_with fail
  refine (DrawFormatProgram_any _ _ _ _ HB.out).mono ?_
  rintro e w1 ⟨v, xs, rfl, hl, S⟩
  obtain ⟨va, n, vc, rfl, -, -, HN, -⟩ := LCmd_own S
  have HL := Lib.hid hl
  clear hl
  go_wp2_with fail
  refine (i_FormatProgram _ xs _ (E.grow S.gb).tab (St.own S)).mono ?_
  rintro e w2 ⟨r1, rfl, T⟩
  replace S := S.call T
  clear T
  simp only [List.cons_append, List.nil_append] at S
  go_wp2_with fail
  refine (s_FormatProgram _ xs _ (St.own S.tail)).mono ?_
  rintro e w3 ⟨r2, rfl, T⟩
  replace S := S.call T
  clear T
  simp only [List.cons_append, List.nil_append] at S
  have SM := Lib.hid (sameTexts_s _ _ _ _ (St.own S.tail) (St.own S))
  replace S := S.tail
  obtain ⟨ra, m, rc, rfl, -, -, HM, -⟩ := LS_own S
  go_wp2_with fail
  refine SM.out.mono ?_
  rintro e w4 ⟨rfl, nq, rfl⟩
  clear SM
  replace S := S.drewN nq
  have PV := Lib.hid (s_ProgramValid _ xs _ (St.own S.tail))
  go_wp2_with fail
  refine PV.out.mono ?_
  rintro e w5 ⟨rfl, g5⟩
  clear PV
  replace S := S.grow g5
  clear g5
  cases hp : progB xs with
  | false =>
    obtain rfl : m = 0 := by rw [HM.out]; unfold formatL; rw [hp]; rfl
    have SH := Lib.hid S
    clear S hp HM
    go_wp2_with (go_at_call 12; refine (alive_any _).mono ?_; rintro e w' ⟨rfl, rfl⟩)
    go_ret
    exact ⟨rfl, SH.out.below⟩
  | true =>
    obtain ⟨e1, e2⟩ := parse_format hp
    have hz : ∀ (j : Nat) x, (formatL xs)[j]? = some x → x.size ≤ 4294967200 := by
      intro j x hx
      unfold formatL at hx
      rw [hp, if_pos rfl, List.getElem?_map] at hx
      cases hc : xs[j]? with
      | none => rw [hc] at hx; cases hx
      | some c =>
        rw [hc] at hx
        obtain rfl := Option.some.inj hx
        exact Nat.le_trans (line_size (progB_cmd hp j c hc)) (by decide)
    have hfl := formatL_len xs
    have IP := Lib.hid (i_ParseProgram _ _ _ (E.grow S.gb) hz (by omega) (St.own S))
    obtain rfl : n = m := by rw [HN.out, HM.out]; unfold formatL; rw [hp, if_pos rfl, List.length_map]
    have SH := Lib.hid S
    rw [e1, e2] at IP
    clear S hp HM hz hfl
    go_wp2_with fail
    refine IP.out.mono ?_
    rintro e w6 ⟨r3, rfl, T⟩
    have S := SH.out.call T
    clear T IP SH
    simp only [List.cons_append, List.nil_append] at S
    have SC := Lib.hid (sameCommands_s _ _ xs _ (St.own S) (St.own S.tail.tail))
    have G := Lib.hid S.gb
    clear S
    go_wp2_with fail
    refine SC.out.mono ?_
    rintro e w7 ⟨rfl, g7⟩
    go_wp2
    go_ret
    exact ⟨rfl, gb_below (gb_trans G.out g7)⟩
end Go.Proofs.YtbhelobahfgaeaaDoor
namespace Go.Proofs.YtbhelobahfgaeaaDoor.fnFormatProgramDone
open Go Go.ChangeShapes Go.WideShapes Go.ChangeAt Go.RowKit Go.Proofs.YtbhelobahfgaeaaDoor
set_option linter.unusedVariables false
theorem own : ownKnob Tryd.prog.godebug = none := by kernel_rfl
theorem laidOut : laidOutB Tryd.prog = true := by kernel_rfl
theorem door_met (os : Os) (args : Array Value) : laidMetH Tryd.prog Rows.fnFormatProgramRow.laid ((World.laidAll Tryd.prog os Rows.fnFormatProgramRow.laid).forCall (fun _ _ => 0) ⟨#[], args, []⟩).memory := by
  rw [MakeChecks.laidMetH_plain _ _ _ (by kernel_rfl)]
  exact laidMet_laidAll _ (by kernel_rfl) (by kernel_rfl)
set_option maxRecDepth 100000 in
theorem lifted (os : Os) (started : os.Started) (H : Type) (enc : TypeId × Value → H) :
    ReturnsInHanded {} Tryd.checked os 3 .any (fun w args => (Rows.fnFormatProgramSpec.pre enc Tryd.prog Tryd.f3 [] false w args ∧ laidMetH Tryd.prog Rows.fnFormatProgramRow.laid w) ∧ sizedMet enc Tryd.prog Tryd.f3 (OpenSpec.ofChange Rows.fnFormatProgramSpec) false w args) (Rows.fnFormatProgramSpec.post enc Tryd.prog Tryd.f3 false true false false) := by
  refine ret_and_shaped (C := Tryd.checked) (X := fun w _ => laidMetH Tryd.prog Rows.fnFormatProgramRow.laid w) (fun _ _ _ hh h => h.of_heap hh) own started (by kernel_rfl) Tryd.func3
    (ChangeSpec.witness_shaped (enc := enc) (C := Tryd.checked) (os := os) (X := fun w _ => laidMetH Tryd.prog Rows.fnFormatProgramRow.laid w) false (World.laidAll Tryd.prog os Rows.fnFormatProgramRow.laid) #[.slice none 0 0] 8 (World.laidAll_os _ _ _) (World.shaped_of_ZipB (by kernel_rfl) (by kernel_rfl)) (by kernel_rfl) (by kernel_rfl) (by kernel_rfl) (door_met os _)) ?_
  intro W base args ds gs before hval0 hW hsh hL
  have hval : ∀ (j : Nat) t v, Tryd.f3.params[j]? = some t → args[j]? = some v → Value.okWide Tryd.prog W .any base t v := hval0
  have hW' := hW
  obtain ⟨p, q, hA0, hV, rfl, hfz, hnd⟩ := hW
  have hA : DataW.TrodAll enc Tryd.prog W 0 (fun _ => true) true Tryd.f3.params.toList args.toList ds p := hA0
  rw [Tryd.params3] at hA hval
  obtain ⟨v0, vs0, d0, ds0, p0, q0, hargs, rfl, rfl, h0, r0⟩ := trodAll_cons hA
  obtain ⟨rfl, rfl, rfl⟩ := trodAll_nil r0
  obtain rfl : args = #[v0] := by cases args; simp_all
  obtain ⟨rfl, rfl⟩ := trodVars_none hV
  obtain ⟨a0, len0, cap0, rfl⟩ := okWide_slice Tryd.underlying22 (hval 0 22 v0 rfl rfl)
  have k0 := h0
  have lt0 : ∀ x ∈ p0, x.block < W.heap.size := by obtain ⟨m, hm⟩ := k0; exact DataW.trod_lt m _ _ _ hm
  have w0 : Byts W a0 len0 cap0 := by
    obtain ⟨fuel, hf⟩ := h0
    rcases open_ints Tryd.underlying22 Tryd.underlying5 (by kernel_rfl) hf with ⟨hcs, _⟩ | ⟨x, l, c, zs, hcs, _, hl, hm, hz, _, hcell, hwz⟩
    · simp [Value.cells] at hcs
      obtain ⟨rfl, rfl, rfl⟩ := hcs
      exact byts_nil W
    · simp [Value.cells] at hcs
      obtain ⟨rfl, rfl, rfl⟩ := hcs
      exact byts_of hl hm (by simpa using hz) hcell hwz
  clear hA0 hval0
  refine (law_FnFormatProgram a0 len0 cap0 W (env_FnFormatProgram hsh hL) w0).mono fun e W' ⟨he, bel⟩ => ?_
  subst he
  exact ⟨_, rfl, _, _, _, [], _, [], hW', trodAll_mk1 (shut_bool Tryd.underlying4 _), (trodAll_cons_mk (Below.trod laidOut (by kernel_rfl) (of_decide_eq_true (by kernel_rfl)) k0 bel lt0) trodAll_mk0), rfl, bel.frame _, fun h => by cases h⟩
theorem over : Rows.fnFormatProgramRow.holds Tryd.pinned (OpenSpec.ofChange Rows.fnFormatProgramSpec) :=
  OpenClaim.holds_of_wide 3 Tryd.f3 rfl rfl rfl rfl rfl rfl rfl ⟨rfl, rfl, rfl, rfl, rfl⟩ rfl rfl rfl rfl rfl (by kernel_rfl) Tryd.func3 (by kernel_rfl)
    (of_decide_eq_true (by kernel_rfl)) (by unfold Func.isWrapper; first | (rw [if_pos (by decide +kernel)]; kernel_rfl) | (rw [if_neg (by decide +kernel)]; exact ⟨rfl, rfl⟩))
    (fun os started H enc _ => lifted os started H enc)
theorem proved : Rows.FnFormatProgramCardSaid :=
  Claim7.holds_tied_plain_at .later [] [.data, .data, .data, .data, .sentinel, .sentinel, .pinned] true (true, "a6e63804e49b2e0694065d3be7dde78e1925f78b364814113e24d46b35a3597e") true over (fun _ h => by cases h) (by kernel_rfl) (fun _ h => by cases h) fnFormatProgram_row_tie rfl ⟨rfl, rfl⟩ (by kernel_rfl) rfl
    (fun f fn hf hfn => by
      obtain rfl : f = 3 := Option.some.inj ((show Tryd.prog.funcNamed "loop.example/robotcell/laws.FnFormatProgram" = some 3 by kernel_rfl).symm.trans hf) |>.symm
      obtain rfl : fn = Tryd.f3 := (Option.some.inj (Tryd.func3.symm.trans hfn)).symm
      exact ⟨by kernel_rfl, fun j t ht => by
        rw [Tryd.params3] at ht
        have hm : t ∈ [22] := by simpa using Array.mem_of_getElem? ht
        have hall : ([22].all fun u => !Tryd.prog.wantsStandIn u) = true := by kernel_rfl
        exact (show Tryd.prog.wantsStandIn t = false by simpa using List.all_eq_true.1 hall t hm)⟩)
    (by kernel_rfl)
#print axioms proved
end Go.Proofs.YtbhelobahfgaeaaDoor.fnFormatProgramDone
