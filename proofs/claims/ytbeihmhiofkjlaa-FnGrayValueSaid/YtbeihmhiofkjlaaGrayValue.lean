/-
  FnGrayValue: for every code the law on values of Gray codes returns true; nothing that was there is written. No condition.
-/
import Derived.Test.YtbeihmhiofkjlaaGray
import Derived.Test.YtbeihmhiofkjlaaGrayDraw
import Derived.Test.YtbeihmhiofkjlaaRows
import Derived.ProofKit
import Derived.OpenShut
import Derived.ShutString
import Derived.ChangeOld
namespace Go.Proofs.Ytbeihmhiofkjlaa
open Go Go.RowKit
set_option linter.unusedVariables false
set_option maxHeartbeats 1000000 in
theorem DrawGrayValue_any (a : Option Addr) (len cap : Nat) (w : World) (h : Byts w a len cap) :
    Calls Try.prog 23 #[.slice a len cap] w (DrawI w) := by
  have HB := Lib.hid h
  clear h
  go_enter Try.func23, Try.ntmps23
  go_wp2_with (go_at_call 22; refine (DrawGrayCode_any _ _ _ _ HB.out).mono ?_; rintro e w1 ⟨x, rfl, hg⟩)
  go_ret
  exact ⟨_, rfl, hg⟩
set_option maxHeartbeats 1000000 in
theorem law_FnGrayValue (a : Option Addr) (len cap : Nat) (w : World) (hw : Byts w a len cap) :
    Calls Try.prog 8 #[.slice a len cap] w fun e w' => e = .returned (.bool true) ∧ Below w.heap.size w w' := by
  have HB := Lib.hid hw; have hm : len ≤ 9223372036854775807 := (by have := hw.1; have := hw.2.1; unfold maxLen at this; omega); clear hw; by_cases hl : 1048576 < len; (go_enter Try.func8, Try.ntmps8; go_wp2_with fail; go_ret; exact ⟨rfl, Below.refl _ _⟩)
  go_enter Try.func8, Try.ntmps8
  go_wp2_with (go_at_call 23; refine (DrawGrayValue_any _ _ _ _ HB.out).mono ?_; rintro e w1 ⟨x, rfl, hg⟩)
  by_cases hx : 0 ≤ x ∧ x ≤ 65535
  · obtain ⟨h1, h2⟩ := hx
    obtain ⟨n, rfl⟩ := Int.eq_ofNat_of_zero_le h1
    have hk := valueI_of n (by omega)
    have hl := gv_lt (g := n) (by omega)
    have g0 : 0 ≤ valueI (n : Int) := by omega
    have g1 : valueI (n : Int) ≤ 65535 := by omega
    have gV : codeI (valueI (n : Int)) = (n : Int) := by rw [hk, codeI_of _ (by omega), gray_gv]
    clear hk hl
    refine (i_GrayValue _ _).mono ?_
    rintro e w' ⟨rfl, rfl⟩
    go_wp2_with (first | (go_at_call 15; refine (i_GrayCode _ _).mono ?_; rintro e w' ⟨rfl, rfl⟩) | (go_at_call 18; refine (s_GrayValue _ _).mono ?_; rintro e w' ⟨rfl, rfl⟩) | (go_at_call 19; refine (i_GrayValue _ _).mono ?_; rintro e w' ⟨rfl, rfl⟩))
    all_goals (go_ret; exact ⟨rfl, gb_below hg⟩)
  · have hc : valueI x = -1 := by unfold valueI; rw [if_neg hx]
    by_cases h1 : x < 0
    · refine (i_GrayValue _ _).mono ?_
      rintro e w' ⟨rfl, rfl⟩
      go_wp2_with (first | (go_at_call 19; refine (i_GrayValue _ _).mono ?_; rintro e w' ⟨rfl, rfl⟩) | (go_at_call 18; refine (s_GrayValue _ _).mono ?_; rintro e w' ⟨rfl, rfl⟩) | (go_at_call 21; refine (alive_any _).mono ?_; rintro e w' ⟨rfl, rfl⟩))
      all_goals (go_ret; exact ⟨rfl, gb_below hg⟩)
    · have h2 : 65535 < x := by omega
      refine (i_GrayValue _ _).mono ?_
      rintro e w' ⟨rfl, rfl⟩
      go_wp2_with (first | (go_at_call 19; refine (i_GrayValue _ _).mono ?_; rintro e w' ⟨rfl, rfl⟩) | (go_at_call 18; refine (s_GrayValue _ _).mono ?_; rintro e w' ⟨rfl, rfl⟩) | (go_at_call 21; refine (alive_any _).mono ?_; rintro e w' ⟨rfl, rfl⟩))
      all_goals (go_ret; exact ⟨rfl, gb_below hg⟩)
end Go.Proofs.Ytbeihmhiofkjlaa
namespace Go.Proofs.Ytbeihmhiofkjlaa.fnGrayValueDone
open Go Go.ChangeShapes Go.WideShapes Go.ChangeAt Go.RowKit Go.Proofs.Ytbeihmhiofkjlaa
set_option linter.unusedVariables false
theorem own : ownKnob Try.prog.godebug = none := by kernel_rfl
theorem laidOut : laidOutB Try.prog = true := by kernel_rfl
set_option maxRecDepth 100000 in
theorem lifted (os : Os) (started : os.Started) (H : Type) (enc : TypeId × Value → H) :
    ReturnsInHanded {} Try.checked os 8 .any (Rows.fnGrayValueSpec.pre6 enc Try.prog Try.f8 Rows.fnGrayValueRow.domain false) (Rows.fnGrayValueSpec.post enc Try.prog Try.f8 false true false false) := by
  refine returnsInHanded_of_change (C := Try.checked) own started (by kernel_rfl) Try.func8
    (ChangeSpec.witness6 (enc := enc) (C := Try.checked) false ⟨#[], #[.slice none 0 0], []⟩ 8 (by kernel_rfl) (by kernel_rfl) (by kernel_rfl) (by kernel_rfl)) ?_
  intro W base args ds gs before hval0 hW hcnd _
  have hval : ∀ (j : Nat) t v, Try.f8.params[j]? = some t → args[j]? = some v → Value.okWide Try.prog W .any base t v := hval0
  have hW' := hW
  obtain ⟨p, q, hA0, hV, rfl, hfz, hnd⟩ := hW
  have hA : DataW.TrodAll enc Try.prog W 0 (fun _ => true) true Try.f8.params.toList args.toList ds p := hA0
  rw [Try.params8] at hA hval
  obtain ⟨v0, vs0, d0, ds0, p0, q0, hargs, rfl, rfl, h0, r0⟩ := trodAll_cons hA
  obtain ⟨rfl, rfl, rfl⟩ := trodAll_nil r0
  obtain rfl : args = #[v0] := by cases args; simp_all
  obtain ⟨rfl, rfl⟩ := trodVars_none hV
  obtain ⟨a0, len0, cap0, rfl⟩ := okWide_slice Try.underlying26 (hval 0 26 v0 rfl rfl)
  have k0 := h0
  have lt0 : ∀ x ∈ p0, x.block < W.heap.size := by obtain ⟨m, hm⟩ := k0; exact DataW.trod_lt m _ _ _ hm
  have w0 : Byts W a0 len0 cap0 := by
    obtain ⟨fuel, hf⟩ := h0
    rcases open_ints Try.underlying26 Try.underlying5 (by kernel_rfl) hf with ⟨hcs, _⟩ | ⟨x, l, c, zs, hcs, _, hl, hm, hz, _, hcell, hwz⟩
    · simp [Value.cells] at hcs
      obtain ⟨rfl, rfl, rfl⟩ := hcs
      exact byts_nil W
    · simp [Value.cells] at hcs
      obtain ⟨rfl, rfl, rfl⟩ := hcs
      exact byts_of hl hm (by simpa using hz) hcell hwz
  clear hA0 hval0
  refine (law_FnGrayValue a0 len0 cap0 W w0).mono fun e W' ⟨he, bel⟩ => ?_
  subst he
  exact ⟨_, rfl, _, _, _, [], _, [], hW', trodAll_mk1 (shut_bool Try.underlying4 _), (trodAll_cons_mk (Below.trod laidOut (by kernel_rfl) (of_decide_eq_true (by kernel_rfl)) k0 bel lt0) trodAll_mk0), rfl, bel.frame _, fun h => by cases h⟩
theorem over : Rows.fnGrayValueRow.holds Try.pinned (OpenSpec.ofChange Rows.fnGrayValueSpec) :=
  OpenClaim.holds_of_wide 8 Try.f8 rfl rfl rfl rfl rfl rfl rfl ⟨rfl, rfl, rfl, rfl, rfl⟩ rfl rfl rfl rfl rfl (by kernel_rfl) Try.func8 (by kernel_rfl)
    (of_decide_eq_true (by kernel_rfl)) (by unfold Func.isWrapper; first | (rw [if_pos (by decide +kernel)]; kernel_rfl) | (rw [if_neg (by decide +kernel)]; exact ⟨rfl, rfl⟩))
    (fun os started H enc _ => lifted os started H enc)
theorem proved : Rows.FnGrayValueSaid := over
#print axioms proved
end Go.Proofs.Ytbeihmhiofkjlaa.fnGrayValueDone
