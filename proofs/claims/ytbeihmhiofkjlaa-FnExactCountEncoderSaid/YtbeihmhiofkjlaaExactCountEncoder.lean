/-
  FnExactCountEncoder: for every first sample and every list the program's CountEncoder and the reference's return the same, and the list is left as it was. No condition.
-/
import Derived.Test.YtbeihmhiofkjlaaCount
import Derived.Test.YtbeihmhiofkjlaaRows
import Derived.ProofKit
import Derived.OpenShut
import Derived.ShutString
import Derived.ChangeOld
namespace Go.Proofs.Ytbeihmhiofkjlaa
open Go Go.RowKit
set_option linter.unusedVariables false
set_option maxHeartbeats 1000000 in
theorem law_FnExactCountEncoder (f : Int) (v : Value) (xs : List Int) (w : World) (hw : (Lit.int .i64 f).wf = true) (hv : Ints w v xs) :
    Calls Try.prog 9 #[.int .i64 f, v] w fun e w' => e = .returned (.bool true) ∧ Below w.heap.size w w' := by
  clear hw
  have HV := Lib.hid hv
  obtain ⟨a, n, cap, rfl, h1, hm, HN, HC⟩ := hv.get
  clear hv HC
  by_cases hl : 1048576 < n
  · go_enter Try.func9, Try.ntmps9
    go_wp2_with fail
    go_ret
    exact ⟨rfl, Below.refl _ _⟩
  have hn : RowKit.Hid (xs.length ≤ 1099511627776) := by show xs.length ≤ 1099511627776; rw [← HN.out]; omega
  go_enter Try.func9, Try.ntmps9
  go_wp2_with fail
  refine (toIntS_any _ _ _ HV.out hn.out).mono ?_
  rintro e w1 ⟨u1, rfl, o1, g1⟩
  have O1 := Lib.hid o1
  clear o1
  go_wp2_with fail
  refine (s_CountEncoder _ _ _ _ O1.out.ints).mono ?_
  rintro e w2 ⟨rfl, g2⟩
  have V2 := Lib.hid ((HV.out.kept g1).kept g2)
  go_wp2_with fail
  refine (toIntS_any _ _ _ V2.out hn.out).mono ?_
  rintro e w3 ⟨u3, rfl, o3, g3⟩
  have O3 := Lib.hid o3
  clear o3
  go_wp2_with fail
  refine (i_CountEncoder _ _ _ _ O3.out.ints).mono ?_
  rintro e w4 ⟨rfl, g4⟩
  have V4 := Lib.hid ((V2.out.kept g3).kept g4)
  go_wp2_with fail
  refine (toIntS_any _ _ _ V4.out hn.out).mono ?_
  rintro e w5 ⟨u5, rfl, o5, g5⟩
  have O5 := Lib.hid o5
  clear o5
  go_wp2_with fail
  refine (eqIntS_t _ _ xs _ ((O3.out.ints.kept g4).kept g5) O5.out.ints).mono ?_
  rintro e w6 ⟨rfl, g6⟩
  go_wp2_with fail
  go_ret
  exact ⟨rfl, gb_below (gb_trans g1 (gb_trans g2 (gb_trans g3 (gb_trans g4 (gb_trans g5 g6)))))⟩
end Go.Proofs.Ytbeihmhiofkjlaa
namespace Go.Proofs.Ytbeihmhiofkjlaa.fnExactCountEncoderDone
open Go Go.ChangeShapes Go.WideShapes Go.ChangeAt Go.RowKit Go.Proofs.Ytbeihmhiofkjlaa
set_option linter.unusedVariables false
theorem own : ownKnob Try.prog.godebug = none := by kernel_rfl
theorem laidOut : laidOutB Try.prog = true := by kernel_rfl
set_option maxRecDepth 100000 in
theorem lifted (os : Os) (started : os.Started) (H : Type) (enc : TypeId × Value → H) :
    ReturnsInHanded {} Try.checked os 9 .any (Rows.fnExactCountEncoderSpec.pre6 enc Try.prog Try.f9 Rows.fnExactCountEncoderRow.domain false) (Rows.fnExactCountEncoderSpec.post enc Try.prog Try.f9 false true false false) := by
  refine returnsInHanded_of_change (C := Try.checked) own started (by kernel_rfl) Try.func9
    (ChangeSpec.witness6 (enc := enc) (C := Try.checked) false ⟨#[], #[.int .i64 0, .slice none 0 0], []⟩ 8 (by kernel_rfl) (by kernel_rfl) (by kernel_rfl) (by kernel_rfl)) ?_
  intro W base args ds gs before hval0 hW hcnd _
  have hval : ∀ (j : Nat) t v, Try.f9.params[j]? = some t → args[j]? = some v → Value.okWide Try.prog W .any base t v := hval0
  have hW' := hW
  obtain ⟨p, q, hA0, hV, rfl, hfz, hnd⟩ := hW
  have hA : DataW.TrodAll enc Try.prog W 0 (fun _ => true) true Try.f9.params.toList args.toList ds p := hA0
  rw [Try.params9] at hA hval
  obtain ⟨v0, vs0, d0, ds0, p0, q0, hargs, rfl, rfl, h0, r0⟩ := trodAll_cons hA
  obtain ⟨v1, vs1, d1, ds1, p1, q1, rfl, rfl, rfl, h1, r1⟩ := trodAll_cons r0
  obtain ⟨rfl, rfl, rfl⟩ := trodAll_nil r1
  obtain rfl : args = #[v0, v1] := by cases args; simp_all
  obtain ⟨rfl, rfl⟩ := trodVars_none hV
  obtain ⟨a0, rfl, rfl, rfl, w0⟩ := open_int Try.underlying3 (hval 0 3 v0 rfl rfl) h0
  obtain ⟨a1, len1, cap1, rfl⟩ := okWide_slice Try.underlying32 (hval 1 32 v1 rfl rfl)
  have k1 := h1
  have lt1 : ∀ x ∈ p1, x.block < W.heap.size := by obtain ⟨m, hm⟩ := k1; exact DataW.trod_lt m _ _ _ hm
  obtain ⟨x1, w1⟩ : ∃ xs, Ints W (.slice a1 len1 cap1) xs := by
    obtain ⟨fuel, hf⟩ := h1
    rcases open_ints Try.underlying32 Try.underlying3 (by kernel_rfl) hf with ⟨hcs, _⟩ | ⟨x, l, c, zs, hcs, _, hl, hm, hz, _, hcell, hwz⟩
    · simp [Value.cells] at hcs
      obtain ⟨rfl, rfl, rfl⟩ := hcs
      exact ⟨[], ints_nil W⟩
    · simp [Value.cells] at hcs
      obtain ⟨rfl, rfl, rfl⟩ := hcs
      exact ⟨_, ints_of hl hm (by simpa using hz) hcell⟩
  clear hA0 hval0
  refine (law_FnExactCountEncoder a0 _ x1 W w0 w1).mono fun e W' ⟨he, bel⟩ => ?_
  subst he
  exact ⟨_, rfl, _, _, _, [], _, [], hW', trodAll_mk1 (shut_bool Try.underlying4 _), (trodAll_cons_mk (shut_int Try.underlying3 w0) (trodAll_cons_mk (Below.trod laidOut (by kernel_rfl) (of_decide_eq_true (by kernel_rfl)) k1 bel lt1) trodAll_mk0)), rfl, bel.frame _, fun h => by cases h⟩
theorem over : Rows.fnExactCountEncoderRow.holds Try.pinned (OpenSpec.ofChange Rows.fnExactCountEncoderSpec) :=
  OpenClaim.holds_of_wide 9 Try.f9 rfl rfl rfl rfl rfl rfl rfl ⟨rfl, rfl, rfl, rfl, rfl⟩ rfl rfl rfl rfl rfl (by kernel_rfl) Try.func9 (by kernel_rfl)
    (of_decide_eq_true (by kernel_rfl)) (by unfold Func.isWrapper; first | (rw [if_pos (by decide +kernel)]; kernel_rfl) | (rw [if_neg (by decide +kernel)]; exact ⟨rfl, rfl⟩))
    (fun os started H enc _ => lifted os started H enc)
theorem proved : Rows.FnExactCountEncoderSaid := over
#print axioms proved
end Go.Proofs.Ytbeihmhiofkjlaa.fnExactCountEncoderDone
