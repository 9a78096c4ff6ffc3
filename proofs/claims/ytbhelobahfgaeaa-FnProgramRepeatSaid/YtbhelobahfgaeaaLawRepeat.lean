/-
  FnProgramRepeat: for all codes the law on nested repetitions returns true; nothing that was there is written. No condition.
-/
import Derived.Test.YtbhelobahfgaeaaCmdDraw
import Derived.Test.YtbhelobahfgaeaaExpandS
import Derived.Test.YtbhelobahfgaeaaSameC
import Derived.Test.YtbhelobahfgaeaaRows
import Derived.ProofKit
import Derived.OpenShut
import Derived.ShutString
import Derived.ChangeOld
namespace Go.Proofs.Ytbhelobahfgaeaa
open Go Go.RowKit
set_option linter.unusedVariables false
def pR (m n : Int) : List Cmd := [⟨5, m, 0⟩, ⟨5, n, 0⟩, ⟨2, 0, 0⟩, ⟨6, 0, 0⟩, ⟨6, 0, 0⟩]
def fR (m n : Int) : Fo := .rep ⟨5, m, 0⟩ ⟨6, 0, 0⟩ (.rep ⟨5, n, 0⟩ ⟨6, 0, 0⟩ (.one ⟨2, 0, 0⟩ .nil) .nil) .nil
theorem cmdB_5 {m : Int} (h : 1 ≤ m ∧ m ≤ 99) : cmdB ⟨5, m, 0⟩ = true := by
  have := inB_t.2 h
  simp [cmdB, this]
theorem fR_wf {m n : Int} (hm : 1 ≤ m ∧ m ≤ 99) (hn : 1 ≤ n ∧ n ≤ 99) : (fR m n).wf :=
  ⟨cmdB_5 hm, by decide, rfl, rfl, ⟨cmdB_5 hn, by decide, rfl, rfl, ⟨by decide, by decide, by decide, trivial⟩, trivial⟩, trivial⟩
theorem pR_prog {m n : Int} (hm : 1 ≤ m ∧ m ≤ 99) (hn : 1 ≤ n ∧ n ≤ 99) : progB (pR m n) = true := by
  have h1 := cmdB_5 hm
  have h2 := cmdB_5 hn
  simp [progB, pR, progGo, dep, h1, h2, show cmdB ⟨2, 0, 0⟩ = true by decide, show cmdB ⟨6, 0, 0⟩ = true by decide]
theorem pR_exp {m n : Int} (hm : 1 ≤ m ∧ m ≤ 99) (hn : 1 ≤ n ∧ n ≤ 99) : (parseF (pR m n)).exp.length = m.toNat * n.toNat := by
  rw [parseF_eq (fR_wf hm hn) (show (fR m n).flat = pR m n from rfl)]
  unfold fR
  rw [exp_len_rep, exp_len_rep]
  simp [Fo.exp]
theorem pR_ok {m n M : Int} (hm : 1 ≤ m ∧ m ≤ 99) (hn : 1 ≤ n ∧ n ≤ 99) (hM : n * m = M) : expandOk (pR m n) = decide (M ≤ 500) ∧ (M ≤ 500 → ((expandL (pR m n)).length : Int) = M) := by
  have h1 := pR_exp hm hn
  obtain ⟨a, rfl⟩ := Int.eq_ofNat_of_zero_le (show 0 ≤ m by omega)
  obtain ⟨b, rfl⟩ := Int.eq_ofNat_of_zero_le (show 0 ≤ n by omega)
  simp only [Int.toNat_natCast] at h1
  have h2 : ((a * b : Nat) : Int) = M := by rw [← hM]; simp [Int.mul_comm]
  have h3 : expandOk (pR a b) = decide (M ≤ 500) := by
    rw [expandOk, pR_prog hm hn, Bool.true_and, okL, h1]
    exact decide_eq_decide.2 (by omega)
  refine ⟨h3, fun h => ?_⟩
  rw [expandL, h3, decide_eq_true h, if_pos rfl, h1, h2]
set_option maxHeartbeats 8000000 in
theorem law_FnProgramRepeat (a : Option Addr) (len cap : Nat) (a2 : Option Addr) (len2 cap2 : Nat) (w : World) (hw : Byts w a len cap) (hw2 : Byts w a2 len2 cap2) :
    Calls Try.prog 7 #[.slice a len cap, .slice a2 len2 cap2] w fun e w' => e = .returned (.bool true) ∧ Below w.heap.size w w' := by
  have HB := Lib.hid hw
  have hm : len ≤ 9223372036854775807 := (by have := hw.1; have := hw.2.1; unfold maxLen at this; omega)
  have hm2 : len2 ≤ 9223372036854775807 := (by have := hw2.1; have := hw2.2.1; unfold maxLen at this; omega)
  clear hw hw2
  by_cases hl : 1048576 < len
  · go_enter Try.func7, Try.ntmps7
    go_wp2_with fail
    go_ret
    exact ⟨rfl, Below.refl _ _⟩
  by_cases hl2 : 1048576 < len2
  · go_enter Try.func7, Try.ntmps7
    go_wp2_with fail
    go_ret
    exact ⟨rfl, Below.refl _ _⟩
  have hr : Int.tmod (len2 : Int) 40 = ((len2 % 40 : Nat) : Int) := by
    rw [Int.tmod_eq_emod_of_nonneg (by omega)]; rfl
  obtain ⟨R, hR⟩ : ∃ R : Nat, R = len2 % 40 := ⟨_, rfl⟩
  rw [← hR] at hr
  have hR40 : R < 40 := by rw [hR]; exact Nat.mod_lt _ (by omega)
  clear hR
  go_enter Try.func7, Try.ntmps7
  go_wp2_with fail
  obtain ⟨N, hN⟩ : ∃ N : Int, 1 + (R : Int) = N := ⟨_, rfl⟩
  rw [hN]
  have hN1 : 1 ≤ N ∧ N ≤ 99 := by omega
  refine (DrawProgramValid_any _ _ _ _ HB.out).mono ?_
  rintro e w1 ⟨v, xs, rfl, hxl, S⟩
  obtain ⟨va, vn, vc, rfl, -, -, HVN, -⟩ := LCmd_own S
  have hvn : vn ≤ 16 := by rw [HVN.out]; exact hxl
  clear hr hN hxl
  go_wp2_with fail
  obtain ⟨M1, hM1⟩ : ∃ M1 : Int, 1 + (vn : Int) = M1 := ⟨_, rfl⟩
  rw [hM1]
  have hM2 : 1 ≤ M1 ∧ M1 ≤ 99 := by omega
  have SL := (S.grow (gb_alloc (World.grownBy.refl w1 none) (.cells #[.int .i64 6, .int .i64 0, .int .i64 0] 33))).ownLitAt LCmd (pR M1 N) #[.int .i64 5, .int .i64 M1, .int .i64 0, .int .i64 5, .int .i64 N, .int .i64 0, .int .i64 2, .int .i64 0, .int .i64 0, .int .i64 6, .int .i64 0, .int .i64 0, .int .i64 6, .int .i64 0, .int .i64 0] rfl (show 5 ≤ maxLen by decide) (w1.heap.size + 1) (by simp)
  rw [show (pR M1 N).length = 5 from rfl] at SL
  obtain ⟨M, hM⟩ : ∃ M : Int, N * M1 = M := ⟨_, rfl⟩
  obtain ⟨p1, p2⟩ := pR_ok hM2 hN1 hM
  have hMb : 0 ≤ M ∧ M ≤ 9801 := by
    obtain ⟨x, rfl⟩ := Int.eq_ofNat_of_zero_le (show 0 ≤ N by omega)
    obtain ⟨y, rfl⟩ := Int.eq_ofNat_of_zero_le (show 0 ≤ M1 by omega)
    have h4 : x * y ≤ 99 * 99 := Nat.mul_le_mul (by omega) (by omega)
    have h5 : (x : Int) * (y : Int) = ((x * y : Nat) : Int) := by simp
    omega
  obtain ⟨hMa, hMb⟩ := hMb
  have P2 := Lib.hid p2
  clear p2 hM1 S
  have IH := i_ExpandProgram _ _ _ (St.own SL)
  rw [p1] at IH
  refine IH.mono ?_
  rintro e w2 ⟨o1, rfl, T⟩
  replace SL := SL.call T
  clear T IH
  simp only [List.cons_append, List.nil_append] at SL
  go_wp2_with fail
  have IH := s_ExpandProgram _ _ _ (St.own (St.tail SL))
  rw [p1] at IH
  refine IH.mono ?_
  rintro e w3 ⟨o2, rfl, T⟩
  replace SL := SL.call T
  clear T IH
  simp only [List.cons_append, List.nil_append] at SL
  obtain ⟨oa, on, oc, rfl, -, -, HON, -⟩ := LCmd_own (St.tail SL)
  have SAME := sameCommands_s _ _ _ _ (St.own (St.tail SL)) (St.own SL)
  have SB := Lib.hid SL.gb
  clear SL p1
  by_cases hq : M ≤ 500
  · rw [decide_eq_true hq]
    have e1 : RowKit.Hid ((on : Int) = M) := by show _ = _; rw [HON.out]; exact P2.out hq
    have e1' := e1.out
    go_wp2_with fail
    refine SAME.mono ?_
    rintro e w4 ⟨rfl, g4⟩
    go_wp2_with fail
    go_ret
    exact ⟨rfl, gb_below (gb_trans SB.out g4)⟩
  · rw [decide_eq_false hq]
    go_wp2_with fail
    refine SAME.mono ?_
    rintro e w4 ⟨rfl, g4⟩
    go_wp2_with fail
    go_ret
    exact ⟨by simp [hq], gb_below (gb_trans SB.out g4)⟩
end Go.Proofs.Ytbhelobahfgaeaa
namespace Go.Proofs.Ytbhelobahfgaeaa.fnProgramRepeatDone
open Go Go.ChangeShapes Go.WideShapes Go.ChangeAt Go.RowKit Go.Proofs.Ytbhelobahfgaeaa
set_option linter.unusedVariables false
theorem own : ownKnob Try.prog.godebug = none := by kernel_rfl
theorem laidOut : laidOutB Try.prog = true := by kernel_rfl
set_option maxRecDepth 100000 in
theorem lifted (os : Os) (started : os.Started) (H : Type) (enc : TypeId × Value → H) :
    ReturnsInHanded {} Try.checked os 7 .any (Rows.fnProgramRepeatSpec.pre6 enc Try.prog Try.f7 Rows.fnProgramRepeatRow.domain false) (Rows.fnProgramRepeatSpec.post enc Try.prog Try.f7 false true false false) := by
  refine returnsInHanded_of_change (C := Try.checked) own started (by kernel_rfl) Try.func7
    (ChangeSpec.witness6 (enc := enc) (C := Try.checked) false ⟨#[], #[.slice none 0 0, .slice none 0 0], []⟩ 8 (by kernel_rfl) (by kernel_rfl) (by kernel_rfl) (by kernel_rfl)) ?_
  intro W base args ds gs before hval0 hW hcnd _
  have hval : ∀ (j : Nat) t v, Try.f7.params[j]? = some t → args[j]? = some v → Value.okWide Try.prog W .any base t v := hval0
  have hW' := hW
  obtain ⟨p, q, hA0, hV, rfl, hfz, hnd⟩ := hW
  have hA : DataW.TrodAll enc Try.prog W 0 (fun _ => true) true Try.f7.params.toList args.toList ds p := hA0
  rw [Try.params7] at hA hval
  obtain ⟨v0, vs0, d0, ds0, p0, q0, hargs, rfl, rfl, h0, r0⟩ := trodAll_cons hA
  obtain ⟨v1, vs1, d1, ds1, p1, q1, rfl, rfl, rfl, h1, r1⟩ := trodAll_cons r0
  obtain ⟨rfl, rfl, rfl⟩ := trodAll_nil r1
  obtain rfl : args = #[v0, v1] := by cases args; simp_all
  obtain ⟨rfl, rfl⟩ := trodVars_none hV
  obtain ⟨a0, len0, cap0, rfl⟩ := okWide_slice Try.underlying29 (hval 0 29 v0 rfl rfl)
  have k0 := h0
  have lt0 : ∀ x ∈ p0, x.block < W.heap.size := by obtain ⟨m, hm⟩ := k0; exact DataW.trod_lt m _ _ _ hm
  have w0 : Byts W a0 len0 cap0 := by
    obtain ⟨fuel, hf⟩ := h0
    rcases open_ints Try.underlying29 Try.underlying5 (by kernel_rfl) hf with ⟨hcs, _⟩ | ⟨x, l, c, zs, hcs, _, hl, hm, hz, _, hcell, hwz⟩
    · simp [Value.cells] at hcs
      obtain ⟨rfl, rfl, rfl⟩ := hcs
      exact byts_nil W
    · simp [Value.cells] at hcs
      obtain ⟨rfl, rfl, rfl⟩ := hcs
      exact byts_of hl hm (by simpa using hz) hcell hwz
  obtain ⟨a1, len1, cap1, rfl⟩ := okWide_slice Try.underlying29 (hval 1 29 v1 rfl rfl)
  have k1 := h1
  have lt1 : ∀ x ∈ p1, x.block < W.heap.size := by obtain ⟨m, hm⟩ := k1; exact DataW.trod_lt m _ _ _ hm
  have w1 : Byts W a1 len1 cap1 := by
    obtain ⟨fuel, hf⟩ := h1
    rcases open_ints Try.underlying29 Try.underlying5 (by kernel_rfl) hf with ⟨hcs, _⟩ | ⟨x, l, c, zs, hcs, _, hl, hm, hz, _, hcell, hwz⟩
    · simp [Value.cells] at hcs
      obtain ⟨rfl, rfl, rfl⟩ := hcs
      exact byts_nil W
    · simp [Value.cells] at hcs
      obtain ⟨rfl, rfl, rfl⟩ := hcs
      exact byts_of hl hm (by simpa using hz) hcell hwz
  clear hA0 hval0
  refine (law_FnProgramRepeat a0 len0 cap0 a1 len1 cap1 W w0 w1).mono fun e W' ⟨he, bel⟩ => ?_
  subst he
  exact ⟨_, rfl, _, _, _, [], _, [], hW', trodAll_mk1 (shut_bool Try.underlying4 _), (trodAll_cons_mk (Below.trod laidOut (by kernel_rfl) (of_decide_eq_true (by kernel_rfl)) k0 bel lt0) (trodAll_cons_mk (Below.trod laidOut (by kernel_rfl) (of_decide_eq_true (by kernel_rfl)) k1 bel lt1) trodAll_mk0)), rfl, bel.frame _, fun h => by cases h⟩
theorem over : Rows.fnProgramRepeatRow.holds Try.pinned (OpenSpec.ofChange Rows.fnProgramRepeatSpec) :=
  OpenClaim.holds_of_wide 7 Try.f7 rfl rfl rfl rfl rfl rfl rfl ⟨rfl, rfl, rfl, rfl, rfl⟩ rfl rfl rfl rfl rfl (by kernel_rfl) Try.func7 (by kernel_rfl)
    (of_decide_eq_true (by kernel_rfl)) (by unfold Func.isWrapper; first | (rw [if_pos (by decide +kernel)]; kernel_rfl) | (rw [if_neg (by decide +kernel)]; exact ⟨rfl, rfl⟩))
    (fun os started H enc _ => lifted os started H enc)
theorem proved : Rows.FnProgramRepeatSaid := over
#print axioms proved
end Go.Proofs.Ytbhelobahfgaeaa.fnProgramRepeatDone
