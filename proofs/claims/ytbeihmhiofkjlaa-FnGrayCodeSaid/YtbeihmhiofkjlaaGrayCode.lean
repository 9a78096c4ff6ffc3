/-
  FnGrayCode: for every code the law on neighbouring Gray codes returns true; nothing that was there is written. No condition.
-/
import Derived.Test.YtbeihmhiofkjlaaGray
import Derived.Test.YtbeihmhiofkjlaaGrayDraw
import Derived.Test.YtbeihmhiofkjlaaRows
import Derived.ProofKit
import Derived.OpenShut
import Derived.ShutString
import Derived.ChangeOld
namespace Go.Proofs.Ytbeihmhiofkjlaa
open Go Go.RowKit
set_option linter.unusedVariables false

set_option maxHeartbeats 1000000 in
theorem law_FnGrayCode (a : Option Addr) (len cap : Nat) (w : World) (hw : Byts w a len cap) :
    Calls Try.prog 7 #[.slice a len cap] w fun e w' => e = .returned (.bool true) ∧ Below w.heap.size w w' := by
  have HB := Lib.hid hw
  have hm : len ≤ 9223372036854775807 := by have := hw.1; have := hw.2.1; unfold maxLen at this; omega
  clear hw
  by_cases hl : 1048576 < len
  · go_enter Try.func7, Try.ntmps7
    go_wp2_with fail
    go_ret
    exact ⟨rfl, Below.refl _ _⟩
  go_enter Try.func7, Try.ntmps7
  go_wp2_with (go_at_call 22; refine (DrawGrayCode_any _ _ _ _ HB.out).mono ?_; rintro e w1 ⟨x, rfl, hg⟩)
  by_cases hx : 0 ≤ x ∧ x ≤ 65535
  · obtain ⟨h1, h2⟩ := hx
    obtain ⟨n, rfl⟩ := Int.eq_ofNat_of_zero_le h1
    have hk := codeI_of n (by omega)
    have hl := gray_lt (n := n) (by omega)
    have g0 : 0 ≤ codeI (n : Int) := by omega
    have g1 : codeI (n : Int) ≤ 65535 := by omega
    have gV : valueI (codeI (n : Int)) = (n : Int) := by rw [hk, valueI_of _ (by omega), gv_gray]
    by_cases h3 : n = 65535
    · have h4 : (65535 : Int) ≤ n := by omega
      clear h3 hk hl
      refine (i_GrayCode _ _).mono ?_
      rintro e w' ⟨rfl, rfl⟩
      go_wp2_with (first | (go_at_call 15; refine (i_GrayCode _ _).mono ?_; rintro e w' ⟨rfl, rfl⟩) | (go_at_call 14; refine (s_GrayCode _ _).mono ?_; rintro e w' ⟨rfl, rfl⟩) | (go_at_call 19; refine (i_GrayValue _ _).mono ?_; rintro e w' ⟨rfl, rfl⟩))
      all_goals (go_ret; exact ⟨rfl, gb_below hg⟩)
    · obtain ⟨D, hD1, hD4, hD5, hD3⟩ : ∃ D : Nat, bits .xor .i64 (codeI (n : Int)) (codeI ((n : Int) + 1)) = (D : Int) ∧ (0 : Int) < (D : Int) ∧ (D : Int) ≤ 65535 ∧ bits .and .i64 (D : Int) ((D : Int) - 1) = 0 := by
        have hl1 := gray_lt (n := n + 1) (by omega)
        have hn := gray_next n
        have hlt : gray n ^^^ gray (n + 1) < 65536 := Nat.xor_lt_two_pow (n := 16) hl hl1
        have hk1 : codeI ((n : Int) + 1) = (gray (n + 1) : Nat) := codeI_of (n + 1) (by omega)
        refine ⟨gray n ^^^ gray (n + 1), ?_, by omega, by omega, ?_⟩
        · rw [hk, hk1, xor_i64 _ _ (by omega) (by omega)]
        · rw [show ((gray n ^^^ gray (n + 1) : Nat) : Int) - 1 = ((gray n ^^^ gray (n + 1)) - 1 : Nat) by omega, and_i64 _ _ (by omega) (by omega), hn.2]
          rfl
      have h4 : (n : Int) ≤ 65534 := by omega
      clear h3 h2 hk hl
      refine (i_GrayCode _ _).mono ?_
      rintro e w' ⟨rfl, rfl⟩
      go_wp2_with (first | (go_at_call 15; refine (i_GrayCode _ _).mono ?_; rintro e w' ⟨rfl, rfl⟩) | (go_at_call 14; refine (s_GrayCode _ _).mono ?_; rintro e w' ⟨rfl, rfl⟩) | (go_at_call 19; refine (i_GrayValue _ _).mono ?_; rintro e w' ⟨rfl, rfl⟩))
      all_goals (go_ret; exact ⟨rfl, gb_below hg⟩)
  · have hc : codeI x = -1 := by unfold codeI; rw [if_neg hx]
    by_cases h1 : x < 0
    · refine (i_GrayCode _ _).mono ?_
      rintro e w' ⟨rfl, rfl⟩
      go_wp2_with (first | (go_at_call 15; refine (i_GrayCode _ _).mono ?_; rintro e w' ⟨rfl, rfl⟩) | (go_at_call 14; refine (s_GrayCode _ _).mono ?_; rintro e w' ⟨rfl, rfl⟩) | (go_at_call 21; refine (alive_any _).mono ?_; rintro e w' ⟨rfl, rfl⟩))
      all_goals (go_ret; exact ⟨rfl, gb_below hg⟩)
    · have h2 : 65535 < x := by omega
      refine (i_GrayCode _ _).mono ?_
      rintro e w' ⟨rfl, rfl⟩
      go_wp2_with (first | (go_at_call 15; refine (i_GrayCode _ _).mono ?_; rintro e w' ⟨rfl, rfl⟩) | (go_at_call 14; refine (s_GrayCode _ _).mono ?_; rintro e w' ⟨rfl, rfl⟩) | (go_at_call 21; refine (alive_any _).mono ?_; rintro e w' ⟨rfl, rfl⟩))
      all_goals (go_ret; exact ⟨rfl, gb_below hg⟩)
end Go.Proofs.Ytbeihmhiofkjlaa
namespace Go.Proofs.Ytbeihmhiofkjlaa.fnGrayCodeDone
open Go Go.ChangeShapes Go.WideShapes Go.ChangeAt Go.RowKit Go.Proofs.Ytbeihmhiofkjlaa
set_option linter.unusedVariables false
theorem own : ownKnob Try.prog.godebug = none := by kernel_rfl
theorem laidOut : laidOutB Try.prog = true := by kernel_rfl
set_option maxRecDepth 100000 in
theorem lifted (os : Os) (started : os.Started) (H : Type) (enc : TypeId × Value → H) :
    ReturnsInHanded {} Try.checked os 7 .any (Rows.fnGrayCodeSpec.pre6 enc Try.prog Try.f7 Rows.fnGrayCodeRow.domain false) (Rows.fnGrayCodeSpec.post enc Try.prog Try.f7 false true false false) := by
  refine returnsInHanded_of_change (C := Try.checked) own started (by kernel_rfl) Try.func7
    (ChangeSpec.witness6 (enc := enc) (C := Try.checked) false ⟨#[], #[.slice none 0 0], []⟩ 8 (by kernel_rfl) (by kernel_rfl) (by kernel_rfl) (by kernel_rfl)) ?_
  intro W base args ds gs before hval0 hW hcnd _
  have hval : ∀ (j : Nat) t v, Try.f7.params[j]? = some t → args[j]? = some v → Value.okWide Try.prog W .any base t v := hval0
  have hW' := hW
  obtain ⟨p, q, hA0, hV, rfl, hfz, hnd⟩ := hW
  have hA : DataW.TrodAll enc Try.prog W 0 (fun _ => true) true Try.f7.params.toList args.toList ds p := hA0
  rw [Try.params7] at hA hval
  obtain ⟨v0, vs0, d0, ds0, p0, q0, hargs, rfl, rfl, h0, r0⟩ := trodAll_cons hA
  obtain ⟨rfl, rfl, rfl⟩ := trodAll_nil r0
  obtain rfl : args = #[v0] := by cases args; simp_all
  obtain ⟨rfl, rfl⟩ := trodVars_none hV
  obtain ⟨a0, len0, cap0, rfl⟩ := okWide_slice Try.underlying26 (hval 0 26 v0 rfl rfl)
  have k0 := h0
  have lt0 : ∀ x ∈ p0, x.block < W.heap.size := by obtain ⟨m, hm⟩ := k0; exact DataW.trod_lt m _ _ _ hm
  have w0 : Byts W a0 len0 cap0 := by
    obtain ⟨fuel, hf⟩ := h0
    rcases open_ints Try.underlying26 Try.underlying5 (by kernel_rfl) hf with ⟨hcs, _⟩ | ⟨x, l, c, zs, hcs, _, hl, hm, hz, _, hcell, hwz⟩
    · simp [Value.cells] at hcs
      obtain ⟨rfl, rfl, rfl⟩ := hcs
      exact byts_nil W
    · simp [Value.cells] at hcs
      obtain ⟨rfl, rfl, rfl⟩ := hcs
      exact byts_of hl hm (by simpa using hz) hcell hwz
  clear hA0 hval0
  refine (law_FnGrayCode a0 len0 cap0 W w0).mono fun e W' ⟨he, bel⟩ => ?_
  subst he
  exact ⟨_, rfl, _, _, _, [], _, [], hW', trodAll_mk1 (shut_bool Try.underlying4 _), (trodAll_cons_mk (Below.trod laidOut (by kernel_rfl) (of_decide_eq_true (by kernel_rfl)) k0 bel lt0) trodAll_mk0), rfl, bel.frame _, fun h => by cases h⟩
theorem over : Rows.fnGrayCodeRow.holds Try.pinned (OpenSpec.ofChange Rows.fnGrayCodeSpec) :=
  OpenClaim.holds_of_wide 7 Try.f7 rfl rfl rfl rfl rfl rfl rfl ⟨rfl, rfl, rfl, rfl, rfl⟩ rfl rfl rfl rfl rfl (by kernel_rfl) Try.func7 (by kernel_rfl)
    (of_decide_eq_true (by kernel_rfl)) (by unfold Func.isWrapper; first | (rw [if_pos (by decide +kernel)]; kernel_rfl) | (rw [if_neg (by decide +kernel)]; exact ⟨rfl, rfl⟩))
    (fun os started H enc _ => lifted os started H enc)
theorem proved : Rows.FnGrayCodeSaid := over
#print axioms proved
end Go.Proofs.Ytbeihmhiofkjlaa.fnGrayCodeDone
