/-
  FnExactSpeedEstimates: for every list and window both programs return the same list, the argument is left as it was, the result is new memory. No condition.
-/
import Derived.Test.YtbeihmhiofkjlaaSpeed
import Derived.Test.YtbeihmhiofkjlaaRows
import Derived.ProofKit
import Derived.OpenShut
import Derived.ShutString
import Derived.ChangeOld
namespace Go.Proofs.Ytbeihmhiofkjlaa
open Go Go.RowKit
set_option linter.unusedVariables false
theorem speeds_len (xs : List Int) (win : Int) : (speeds xs win).length ≤ 200 := by
  unfold speeds
  split
  · rename_i h; rw [speedTo_len]; omega
  · simp
set_option maxHeartbeats 2000000 in
theorem law_FnExactSpeedEstimates (v : Value) (xs : List Int) (win : Int) (w : World) (hv : Ints w v xs) (hw : (Lit.int .i64 win).wf = true) :
    Calls Try.prog 12 #[v, .int .i64 win] w fun e w' => e = .returned (.bool true) ∧ Below w.heap.size w w' := by
  clear hw
  have HV := Lib.hid hv
  obtain ⟨a, n, cap, rfl, h1, hm, HN, HC⟩ := hv.get
  clear HC
  by_cases hl : 1048576 < n
  · go_enter Try.func12, Try.ntmps12
    go_wp2_with fail
    go_ret
    exact ⟨rfl, Below.refl _ _⟩
  have hn : RowKit.Hid (xs.length ≤ 1099511627776) := by show xs.length ≤ 1099511627776; rw [← HN.out]; omega
  obtain ⟨L, hL⟩ : ∃ L, L = speeds xs win := ⟨_, rfl⟩
  have HL := Lib.hid hL
  have LL : RowKit.Hid (L.length ≤ 200) := by show L.length ≤ 200; rw [hL]; exact speeds_len _ _
  have ll : L.length ≤ 200 := LL.out
  clear hL
  go_enter Try.func12, Try.ntmps12
  go_wp2_with fail
  refine (toIntS_any _ _ _ HV.out hn.out).mono ?_
  rintro e w1 ⟨u1, rfl, o1, g1⟩
  have O1 := Lib.hid o1
  have G1 := Lib.hid g1
  clear o1 g1
  go_wp2_with fail
  refine (s_SpeedEstimates _ _ _ _ O1.out.ints).mono ?_
  rintro e w2 ⟨r2, rfl, o2, g2⟩
  rw [← HL.out] at o2
  have O2 := Lib.hid o2
  have G2 := Lib.hid (gb_trans G1.out g2)
  have V2 := Lib.hid (HV.out.kept G2.out)
  clear o2 g2
  go_wp2_with fail
  refine (toIntS_any _ _ _ V2.out hn.out).mono ?_
  rintro e w3 ⟨u3, rfl, o3, g3⟩
  have O3 := Lib.hid o3
  have R3 := Lib.hid (O2.out.kept0 g3)
  have G3 := Lib.hid (gb_trans G2.out g3)
  clear o3
  go_wp2_with fail
  refine (i_SpeedEstimates _ _ _ _ O3.out.ints).mono ?_
  rintro e w4 ⟨r4, rfl, o4, g4⟩
  rw [← HL.out] at o4
  have O4 := Lib.hid o4
  have U4 := Lib.hid (O3.out.kept0 g4)
  have R4 := Lib.hid (R3.out.kept0 g4)
  have G4 := Lib.hid (gb_trans G3.out g4)
  have S3 := Lib.hid g3.size
  clear o4 g4 g3
  go_wp2_with fail
  refine (eqIntS_t _ _ L _ O4.out.ints R4.out.ints).mono ?_
  rintro e w5 ⟨rfl, g5⟩
  have G5 := Lib.hid (gb_trans G4.out g5)
  have V5 := Lib.hid (HV.out.kept G5.out)
  go_wp2_with fail
  refine (toIntS_any _ _ _ V5.out hn.out).mono ?_
  rintro e w6 ⟨u6, rfl, o6, g6⟩
  have O6 := Lib.hid o6
  have U6 := Lib.hid ((U4.out.kept0 g5).kept0 g6)
  clear o6
  go_wp2_with fail
  refine (eqIntS_t _ _ xs _ U6.out.ints O6.out.ints).mono ?_
  rintro e w7 ⟨rfl, g7⟩
  have g57 := gb_trans g5 (gb_trans g6 g7)
  have U7 := Lib.hid (U4.out.kept0 g57)
  have R7 := Lib.hid (R4.out.kept0 g57)
  have Q7 := Lib.hid (O4.out.kept0 g57)
  have G7 := Lib.hid (gb_trans G4.out g57)
  clear g5 g6 g7 g57
  go_wp2_with fail
  refine (markIntS_any _ _ _ 1 _ U7.out (by omega) (by omega) hn.out).mono ?_
  rintro e w8 ⟨rfl, o8, g8⟩
  have U3lt := O3.out.lt
  have hne2 : r2.ownBlock = none ∨ r2.ownBlock ≠ u3.ownBlock := by
    cases hb : r2.ownBlock with
    | none => exact .inl rfl
    | some b =>
      refine .inr fun he => ?_
      have := (O2.out.lt b hb).2
      have := (U3lt b he.symm).1
      omega
  have hne4 : r4.ownBlock = none ∨ r4.ownBlock ≠ u3.ownBlock := by
    cases hb : r4.ownBlock with
    | none => exact .inl rfl
    | some b =>
      refine .inr fun he => ?_
      have := (O4.out.lt b hb).1
      have := (U3lt b he.symm).2
      omega
  have R8 := Lib.hid (R7.out.kept g8 hne2)
  have Q8 := Lib.hid (Q7.out.kept g8 hne4)
  have G8 := Lib.hid (gb_own G7.out g8 (fun r hr => by have := (U3lt r hr).1; have := G2.out.size; omega))
  clear o8 g8 hne2 hne4 U3lt
  have hn' := hn.out
  go_wp2_with fail
  refine (eqIntS_t _ _ L _ Q8.out.ints R8.out.ints).mono ?_
  rintro e w9 ⟨rfl, g9⟩
  have R9 := Lib.hid (R8.out.kept0 g9)
  have Q9 := Lib.hid (Q8.out.kept0 g9)
  have G9 := Lib.hid (gb_trans G8.out g9)
  clear g9
  go_wp2_with fail
  refine (markIntS_any _ _ _ 1 _ Q9.out (by omega) (by omega) (by omega)).mono ?_
  rintro e wa ⟨rfl, oa, ga⟩
  have hne : r2.ownBlock = none ∨ r2.ownBlock ≠ r4.ownBlock := by
    cases hb : r2.ownBlock with
    | none => exact .inl rfl
    | some b =>
      refine .inr fun he => ?_
      have := (O2.out.lt b hb).2
      have := (O4.out.lt b he.symm).1
      have := S3.out
      omega
  have Ra := Lib.hid (R9.out.kept ga hne)
  have Qa := Lib.hid oa
  have Ga := Lib.hid (gb_own G9.out ga (fun r hr => by have := (O4.out.lt r hr).1; have := G3.out.size; omega))
  have Va := Lib.hid (HV.out.kept Ga.out)
  clear ga oa hne
  go_wp2_with fail
  refine (heldIntS_any _ L.length 1 _ Qa.out.ints (by omega) (by omega) (by omega)).mono ?_
  rintro e wb ⟨rfl, gb⟩
  have Rb := Lib.hid (Ra.out.kept0 gb)
  have Qb := Lib.hid (Qa.out.kept0 gb)
  have Gb := Lib.hid (gb_trans Ga.out gb)
  have Vb := Lib.hid (HV.out.kept Gb.out)
  clear gb
  go_wp2_with fail
  refine (toIntS_any _ _ _ Vb.out hn.out).mono ?_
  rintro e wc ⟨uc, rfl, oc, gc⟩
  have Oc := Lib.hid oc
  clear oc
  go_wp2_with fail
  refine (i_SpeedEstimates _ _ _ _ Oc.out.ints).mono ?_
  rintro e wd ⟨rd, rfl, od, gd⟩
  rw [← HL.out] at od
  have Od := Lib.hid od
  have Rd' := Lib.hid ((Rb.out.kept0 gc).kept0 gd)
  have Qd := Lib.hid ((Qb.out.kept0 gc).kept0 gd)
  have Gd := Lib.hid (gb_trans Gb.out (gb_trans gc gd))
  clear od gc gd
  go_wp2_with fail
  refine (eqIntS_t _ _ L _ Od.out.ints Rd'.out.ints).mono ?_
  rintro e we ⟨rfl, ge⟩
  have Qe := Lib.hid (Qd.out.kept0 ge)
  have Ge := Lib.hid (gb_trans Gd.out ge)
  clear ge
  go_wp2_with fail
  refine (heldIntS_any _ L.length 1 _ Qe.out.ints (by omega) (by omega) (by omega)).mono ?_
  rintro e wf ⟨rfl, gf⟩
  have Gf := Lib.hid (gb_trans Ge.out gf)
  clear gf
  go_wp2_with fail
  go_ret
  exact ⟨rfl, gb_below Gf.out⟩
end Go.Proofs.Ytbeihmhiofkjlaa
namespace Go.Proofs.Ytbeihmhiofkjlaa.fnExactSpeedEstimatesDone
open Go Go.ChangeShapes Go.WideShapes Go.ChangeAt Go.RowKit Go.Proofs.Ytbeihmhiofkjlaa
set_option linter.unusedVariables false
theorem own : ownKnob Try.prog.godebug = none := by kernel_rfl
theorem laidOut : laidOutB Try.prog = true := by kernel_rfl
set_option maxRecDepth 100000 in
theorem lifted (os : Os) (started : os.Started) (H : Type) (enc : TypeId × Value → H) :
    ReturnsInHanded {} Try.checked os 12 .any (Rows.fnExactSpeedEstimatesSpec.pre6 enc Try.prog Try.f12 Rows.fnExactSpeedEstimatesRow.domain false) (Rows.fnExactSpeedEstimatesSpec.post enc Try.prog Try.f12 false true false false) := by
  refine returnsInHanded_of_change (C := Try.checked) own started (by kernel_rfl) Try.func12
    (ChangeSpec.witness6 (enc := enc) (C := Try.checked) false ⟨#[], #[.slice none 0 0, .int .i64 0], []⟩ 8 (by kernel_rfl) (by kernel_rfl) (by kernel_rfl) (by kernel_rfl)) ?_
  intro W base args ds gs before hval0 hW hcnd _
  have hval : ∀ (j : Nat) t v, Try.f12.params[j]? = some t → args[j]? = some v → Value.okWide Try.prog W .any base t v := hval0
  have hW' := hW
  obtain ⟨p, q, hA0, hV, rfl, hfz, hnd⟩ := hW
  have hA : DataW.TrodAll enc Try.prog W 0 (fun _ => true) true Try.f12.params.toList args.toList ds p := hA0
  rw [Try.params12] at hA hval
  obtain ⟨v0, vs0, d0, ds0, p0, q0, hargs, rfl, rfl, h0, r0⟩ := trodAll_cons hA
  obtain ⟨v1, vs1, d1, ds1, p1, q1, rfl, rfl, rfl, h1, r1⟩ := trodAll_cons r0
  obtain ⟨rfl, rfl, rfl⟩ := trodAll_nil r1
  obtain rfl : args = #[v0, v1] := by cases args; simp_all
  obtain ⟨rfl, rfl⟩ := trodVars_none hV
  obtain ⟨a0, len0, cap0, rfl⟩ := okWide_slice Try.underlying32 (hval 0 32 v0 rfl rfl)
  have k0 := h0
  have lt0 : ∀ x ∈ p0, x.block < W.heap.size := by obtain ⟨m, hm⟩ := k0; exact DataW.trod_lt m _ _ _ hm
  obtain ⟨x0, w0⟩ : ∃ xs, Ints W (.slice a0 len0 cap0) xs := by
    obtain ⟨fuel, hf⟩ := h0
    rcases open_ints Try.underlying32 Try.underlying3 (by kernel_rfl) hf with ⟨hcs, _⟩ | ⟨x, l, c, zs, hcs, _, hl, hm, hz, _, hcell, hwz⟩
    · simp [Value.cells] at hcs
      obtain ⟨rfl, rfl, rfl⟩ := hcs
      exact ⟨[], ints_nil W⟩
    · simp [Value.cells] at hcs
      obtain ⟨rfl, rfl, rfl⟩ := hcs
      exact ⟨_, ints_of hl hm (by simpa using hz) hcell⟩
  obtain ⟨a1, rfl, rfl, rfl, w1⟩ := open_int Try.underlying3 (hval 1 3 v1 rfl rfl) h1
  clear hA0 hval0
  refine (law_FnExactSpeedEstimates _ x0 a1 W w0 w1).mono fun e W' ⟨he, bel⟩ => ?_
  subst he
  exact ⟨_, rfl, _, _, _, [], _, [], hW', trodAll_mk1 (shut_bool Try.underlying4 _), (trodAll_cons_mk (Below.trod laidOut (by kernel_rfl) (of_decide_eq_true (by kernel_rfl)) k0 bel lt0) (trodAll_cons_mk (shut_int Try.underlying3 w1) trodAll_mk0)), rfl, bel.frame _, fun h => by cases h⟩
theorem over : Rows.fnExactSpeedEstimatesRow.holds Try.pinned (OpenSpec.ofChange Rows.fnExactSpeedEstimatesSpec) :=
  OpenClaim.holds_of_wide 12 Try.f12 rfl rfl rfl rfl rfl rfl rfl ⟨rfl, rfl, rfl, rfl, rfl⟩ rfl rfl rfl rfl rfl (by kernel_rfl) Try.func12 (by kernel_rfl)
    (of_decide_eq_true (by kernel_rfl)) (by unfold Func.isWrapper; first | (rw [if_pos (by decide +kernel)]; kernel_rfl) | (rw [if_neg (by decide +kernel)]; exact ⟨rfl, rfl⟩))
    (fun os started H enc _ => lifted os started H enc)
theorem proved : Rows.FnExactSpeedEstimatesSaid := over
#print axioms proved
end Go.Proofs.Ytbeihmhiofkjlaa.fnExactSpeedEstimatesDone
