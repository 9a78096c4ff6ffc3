/-
  FnParseProgram: what is read back is valid and has the lines as its text; the line reported is bad also without the lines behind it.
-/
import Derived.Test.YtbhelobahfgaeaaDoorParseD
import Derived.Test.YtbhelobahfgaeaaDoorParseI
import Derived.Test.YtbhelobahfgaeaaDoorParseS
import Derived.Test.YtbhelobahfgaeaaDoorSameT
import Derived.Test.YtbhelobahfgaeaaDoorSameC
import Derived.Test.YtbhelobahfgaeaaDoorEnvRow
import Derived.ProofKit
import Derived.OpenShut
import Derived.ShutString
import Derived.ChangeOld
import Derived.Stop.Joined
import Derived.SevenTiedAt
import Derived.Lay
import Derived.LaidMore
namespace Go.Proofs.YtbhelobahfgaeaaDoor
open Go Go.RowKit
set_option linter.unusedVariables false
theorem lines_back : ∀ ls : List ByteArray, (∀ x ∈ ls, (readI x).isSome = true) → (cmdsL ls).map lineB = ls
  | [], _ => rfl
  | x :: ls, h => by
    have h1 := h x (List.mem_cons_self ..)
    have ih := lines_back ls (fun y hy => h y (List.mem_cons_of_mem _ hy))
    unfold cmdsL at ih ⊢
    cases hr : readI x with
    | none => rw [hr] at h1; cases h1
    | some c => rw [List.filterMap_cons, hr, List.map_cons, ih, (readI_some hr).2]
theorem format_back {ls : List ByteArray} (hb : badL ls = none) (hp : progB (cmdsL ls) = true) : formatL (cmdsL ls) = ls := by
  unfold formatL
  rw [if_pos hp]
  refine lines_back ls (fun x hx => ?_)
  unfold badL at hb
  rw [List.findIdx?_eq_none_iff] at hb
  have := hb x hx
  cases hr : readI x with
  | none => rw [hr] at this; simp at this
  | some c => rfl
theorem bad_take {ls : List ByteArray} {k : Nat} (h : badL ls = some k) : k < ls.length ∧ badL (ls.take (k + 1)) = some k := by
  unfold badL at h ⊢
  rw [List.findIdx?_eq_some_iff_getElem] at h
  obtain ⟨hk, h1, h2⟩ := h
  refine ⟨hk, ?_⟩
  rw [List.findIdx?_eq_some_iff_getElem]
  refine ⟨by rw [List.length_take]; omega, by rw [List.getElem_take]; exact h1, fun j hj => ?_⟩
  rw [List.getElem_take]
  exact h2 j hj
theorem env_FnParseProgram {W : World} (hsh : W.ShapedOpen Tryd.prog) (h : laidMetH Tryd.prog Rows.fnParseProgramRow.laid W) : Env W := env_of hsh h
set_option maxRecDepth 100000 in
set_option maxHeartbeats 1000000 in
theorem law_FnParseProgram (a : Option Addr) (len cap : Nat) (w : World) (E : Env w) (hw : Byts w a len cap) :
    Calls Tryd.prog 6 #[.slice a len cap] w fun e w' => e = .returned (.bool true) ∧ Below w.heap.size w w' := by
  have HB := Lib.hid hw; have hm : len ≤ 9223372036854775807 := (by have := hw.1; have := hw.2.1; unfold maxLen at this; omega); clear hw; by_cases hl : 1048576 < len; (go_enter Tryd.func6, Tryd.ntmps6; go_wp2_with fail; go_ret; exact ⟨rfl, Below.refl _ _⟩)
  go_enter Tryd.func6, Tryd.ntmps6
  go_wp2_with fail
  refine (DrawParseProgram_any _ _ _ _ HB.out).mono ?_
  rintro e w1 ⟨v, ls, rfl, hl30, hz, S⟩
  obtain ⟨va, n, vc, rfl, hnc, -, HN, -⟩ := LS_own S
  have HZ : RowKit.Hid (∀ (j : Nat) x, ls[j]? = some x → x.size ≤ 4294967200) := fun j x hx => Nat.le_trans (hz x (List.mem_of_getElem? hx)) (by decide)
  have hn30 : n ≤ 30 := by rw [HN.out]; exact hl30
  have HL := Lib.hid hl30
  clear hz hl30
  go_wp2_with fail
  refine (i_ParseProgram _ ls _ (E.grow S.gb) HZ.out (by have := HL.out; omega) (St.own S)).mono ?_
  rintro e w2 ⟨r1, rfl, T⟩
  replace S := S.call T
  clear T
  simp only [List.cons_append, List.nil_append] at S
  go_wp2_with fail
  refine (s_ParseProgram _ ls _ HZ.out (by have := HL.out; omega) (St.own S.tail)).mono ?_
  rintro e w3 ⟨r2, rfl, T⟩
  replace S := S.call T
  clear T
  simp only [List.cons_append, List.nil_append] at S
  have SC := Lib.hid (sameCommands_s _ _ (parseL ls) _ (St.own S.tail) (St.own S))
  replace S := S.tail
  obtain ⟨ra, m, rc, rfl, -, -, HM, -⟩ := LCmd_own S
  go_wp2_with fail
  refine SC.out.mono ?_
  rintro e w4 ⟨rfl, g4⟩
  clear SC
  replace S := S.grow g4
  clear g4
  cases hb : badL ls with
  | none =>
    cases hp : progB (cmdsL ls) with
    | true =>
      obtain ⟨e1, e2⟩ := parse_yes hb hp
      have FB := Lib.hid (format_back hb hp)
      rw [e1]
      rw [e2] at S
      have PV := Lib.hid (i_ProgramValid _ _ w4 (St.own S))
      rw [hp] at PV
      clear e1 e2 HM hb hp
      go_wp2_with fail
      refine PV.out.mono ?_
      rintro e w5 ⟨rfl, g5⟩
      clear PV
      replace S := S.grow g5
      clear g5
      go_wp2_with fail
      refine (i_FormatProgram _ _ _ (E.grow S.gb).tab (St.own S)).mono ?_
      rintro e w6 ⟨r3, rfl, T⟩
      replace S := S.call T
      clear T
      simp only [List.cons_append, List.nil_append] at S
      rw [FB.out] at S
      have SM := Lib.hid (sameTexts_s _ _ _ _ (St.own S) (St.own S.tail.tail))
      have G := Lib.hid S.gb
      clear S
      go_wp2_with fail
      refine SM.out.mono ?_
      rintro e w7 ⟨rfl, nq, rfl⟩
      go_wp2_with (go_at_call 12; refine (alive_any _).mono ?_; rintro e w' ⟨rfl, rfl⟩)
      go_ret
      exact ⟨rfl, gb_below (gb_drewN G.out nq)⟩
    | false =>
      obtain ⟨e1, e2⟩ := parse_not hb hp
      rw [e1, ← HN.out]
      obtain rfl : m = 0 := by rw [HM.out, e2]; rfl
      have SH := Lib.hid S.gb
      clear S HM e1 e2 hb hp
      go_wp2_with fail
      go_ret
      exact ⟨rfl, gb_below SH.out⟩
  | some k =>
    obtain ⟨e1, e2⟩ := parse_bad hb
    obtain ⟨hk, hb2⟩ := bad_take hb
    obtain ⟨e3, -⟩ := parse_bad hb2
    rw [e1]
    obtain rfl : m = 0 := by rw [HM.out, e2]; rfl
    have hkn : k < n := by rw [HN.out]; exact hk
    have TK := (St.own S.tail).take (k + 1) (by omega)
    have IP := Lib.hid (i_ParseProgram _ (ls.take (k + 1)) _ (E.grow S.gb) (fun j x hx => HZ.out j x (by rw [List.getElem?_take] at hx; split at hx; exact hx; cases hx)) (by rw [List.length_take]; have := HL.out; omega) TK)
    rw [e3] at IP
    have SH := Lib.hid S.gb
    clear S HM e1 e2 e3 hb hb2 TK hk
    go_wp2_with fail
    refine IP.out.mono ?_
    rintro e w5 ⟨r3, rfl, T⟩
    have G5 := Lib.hid (gb_trans SH.out T.gb)
    clear T IP
    go_wp2_with fail
    go_ret
    exact ⟨rfl, gb_below G5.out⟩
end Go.Proofs.YtbhelobahfgaeaaDoor
namespace Go.Proofs.YtbhelobahfgaeaaDoor.fnParseProgramDone
open Go Go.ChangeShapes Go.WideShapes Go.ChangeAt Go.RowKit Go.Proofs.YtbhelobahfgaeaaDoor
set_option linter.unusedVariables false
theorem own : ownKnob Tryd.prog.godebug = none := by kernel_rfl
theorem laidOut : laidOutB Tryd.prog = true := by kernel_rfl
theorem door_met (os : Os) (args : Array Value) : laidMetH Tryd.prog Rows.fnParseProgramRow.laid ((World.laidAll Tryd.prog os Rows.fnParseProgramRow.laid).forCall (fun _ _ => 0) ⟨#[], args, []⟩).memory := by
  rw [MakeChecks.laidMetH_plain _ _ _ (by kernel_rfl)]
  exact laidMet_laidAll _ (by kernel_rfl) (by kernel_rfl)
set_option maxRecDepth 100000 in
theorem lifted (os : Os) (started : os.Started) (H : Type) (enc : TypeId × Value → H) :
    ReturnsInHanded {} Tryd.checked os 6 .any (fun w args => (Rows.fnParseProgramSpec.pre enc Tryd.prog Tryd.f6 [] false w args ∧ laidMetH Tryd.prog Rows.fnParseProgramRow.laid w) ∧ sizedMet enc Tryd.prog Tryd.f6 (OpenSpec.ofChange Rows.fnParseProgramSpec) false w args) (Rows.fnParseProgramSpec.post enc Tryd.prog Tryd.f6 false true false false) := by
  refine ret_and_shaped (C := Tryd.checked) (X := fun w _ => laidMetH Tryd.prog Rows.fnParseProgramRow.laid w) (fun _ _ _ hh h => h.of_heap hh) own started (by kernel_rfl) Tryd.func6
    (ChangeSpec.witness_shaped (enc := enc) (C := Tryd.checked) (os := os) (X := fun w _ => laidMetH Tryd.prog Rows.fnParseProgramRow.laid w) false (World.laidAll Tryd.prog os Rows.fnParseProgramRow.laid) #[.slice none 0 0] 8 (World.laidAll_os _ _ _) (World.shaped_of_ZipB (by kernel_rfl) (by kernel_rfl)) (by kernel_rfl) (by kernel_rfl) (by kernel_rfl) (door_met os _)) ?_
  intro W base args ds gs before hval0 hW hsh hL
  have hval : ∀ (j : Nat) t v, Tryd.f6.params[j]? = some t → args[j]? = some v → Value.okWide Tryd.prog W .any base t v := hval0
  have hW' := hW
  obtain ⟨p, q, hA0, hV, rfl, hfz, hnd⟩ := hW
  have hA : DataW.TrodAll enc Tryd.prog W 0 (fun _ => true) true Tryd.f6.params.toList args.toList ds p := hA0
  rw [Tryd.params6] at hA hval
  obtain ⟨v0, vs0, d0, ds0, p0, q0, hargs, rfl, rfl, h0, r0⟩ := trodAll_cons hA
  obtain ⟨rfl, rfl, rfl⟩ := trodAll_nil r0
  obtain rfl : args = #[v0] := by cases args; simp_all
  obtain ⟨rfl, rfl⟩ := trodVars_none hV
  obtain ⟨a0, len0, cap0, rfl⟩ := okWide_slice Tryd.underlying22 (hval 0 22 v0 rfl rfl)
  have k0 := h0
  have lt0 : ∀ x ∈ p0, x.block < W.heap.size := by obtain ⟨m, hm⟩ := k0; exact DataW.trod_lt m _ _ _ hm
  have w0 : Byts W a0 len0 cap0 := by
    obtain ⟨fuel, hf⟩ := h0
    rcases open_ints Tryd.underlying22 Tryd.underlying5 (by kernel_rfl) hf with ⟨hcs, _⟩ | ⟨x, l, c, zs, hcs, _, hl, hm, hz, _, hcell, hwz⟩
    · simp [Value.cells] at hcs
      obtain ⟨rfl, rfl, rfl⟩ := hcs
      exact byts_nil W
    · simp [Value.cells] at hcs
      obtain ⟨rfl, rfl, rfl⟩ := hcs
      exact byts_of hl hm (by simpa using hz) hcell hwz
  clear hA0 hval0
  refine (law_FnParseProgram a0 len0 cap0 W (env_FnParseProgram hsh hL) w0).mono fun e W' ⟨he, bel⟩ => ?_
  subst he
  exact ⟨_, rfl, _, _, _, [], _, [], hW', trodAll_mk1 (shut_bool Tryd.underlying4 _), (trodAll_cons_mk (Below.trod laidOut (by kernel_rfl) (of_decide_eq_true (by kernel_rfl)) k0 bel lt0) trodAll_mk0), rfl, bel.frame _, fun h => by cases h⟩
theorem over : Rows.fnParseProgramRow.holds Tryd.pinned (OpenSpec.ofChange Rows.fnParseProgramSpec) :=
  OpenClaim.holds_of_wide 6 Tryd.f6 rfl rfl rfl rfl rfl rfl rfl ⟨rfl, rfl, rfl, rfl, rfl⟩ rfl rfl rfl rfl rfl (by kernel_rfl) Tryd.func6 (by kernel_rfl)
    (of_decide_eq_true (by kernel_rfl)) (by unfold Func.isWrapper; first | (rw [if_pos (by decide +kernel)]; kernel_rfl) | (rw [if_neg (by decide +kernel)]; exact ⟨rfl, rfl⟩))
    (fun os started H enc _ => lifted os started H enc)
theorem proved : Rows.FnParseProgramCardSaid :=
  Claim7.holds_tied_plain_at .later [] [.data, .data, .data, .data, .sentinel, .sentinel, .pinned] true (true, "a6e63804e49b2e0694065d3be7dde78e1925f78b364814113e24d46b35a3597e") true over (fun _ h => by cases h) (by kernel_rfl) (fun _ h => by cases h) fnParseProgram_row_tie rfl ⟨rfl, rfl⟩ (by kernel_rfl) rfl
    (fun f fn hf hfn => by
      obtain rfl : f = 6 := Option.some.inj ((show Tryd.prog.funcNamed "loop.example/robotcell/laws.FnParseProgram" = some 6 by kernel_rfl).symm.trans hf) |>.symm
      obtain rfl : fn = Tryd.f6 := (Option.some.inj (Tryd.func6.symm.trans hfn)).symm
      exact ⟨by kernel_rfl, fun j t ht => by
        rw [Tryd.params6] at ht
        have hm : t ∈ [22] := by simpa using Array.mem_of_getElem? ht
        have hall : ([22].all fun u => !Tryd.prog.wantsStandIn u) = true := by kernel_rfl
        exact (show Tryd.prog.wantsStandIn t = false by simpa using List.all_eq_true.1 hall t hm)⟩)
    (by kernel_rfl)
#print axioms proved
end Go.Proofs.YtbhelobahfgaeaaDoor.fnParseProgramDone
