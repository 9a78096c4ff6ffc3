/-
  FnExpandProgram: for every code the law on the execution of programs returns true; nothing that was there is written. No condition.
-/
import Derived.Test.YtbhelobahfgaeaaCmdDraw
import Derived.Test.YtbhelobahfgaeaaCmdLaw
import Derived.Test.YtbhelobahfgaeaaExpandS
import Derived.Test.YtbhelobahfgaeaaSameC
import Derived.Test.YtbhelobahfgaeaaMem2
import Derived.Test.YtbhelobahfgaeaaRows
import Derived.ProofKit
import Derived.OpenShut
import Derived.ShutString
import Derived.ChangeOld
namespace Go.Proofs.Ytbhelobahfgaeaa
open Go Go.RowKit
set_option linter.unusedVariables false
set_option maxRecDepth 100000 in
set_option maxHeartbeats 16000000 in
theorem law_FnExpandProgram (a : Option Addr) (len cap : Nat) (w : World) (hw : Byts w a len cap) :
    Calls Try.prog 6 #[.slice a len cap] w fun e w' => e = .returned (.bool true) ∧ Below w.heap.size w w' := by
  have HB := Lib.hid hw; have hm : len ≤ 9223372036854775807 := (by have := hw.1; have := hw.2.1; unfold maxLen at this; omega); clear hw; by_cases hl : 1048576 < len; (go_enter Try.func6, Try.ntmps6; go_wp2_with fail; go_ret; exact ⟨rfl, Below.refl _ _⟩)
  go_enter Try.func6, Try.ntmps6
  go_wp2_with fail
  refine (DrawExpandProgram_any _ _ _ _ HB.out).mono ?_
  rintro e w1 ⟨v, xs, rfl, hxl, S⟩
  obtain ⟨va, n, vc, rfl, hvc, hvm, HN, -⟩ := LCmd_own S
  have hn16 : n ≤ 16 := by rw [HN.out]; exact hxl
  have HXL := Lib.hid hxl
  clear hxl
  cases hq : expandOk xs with
  | false =>
    have h0 : expandL xs = [] := by rw [expandL, hq]; rfl
    go_wp2_with fail
    have IH := i_ExpandProgram _ xs _ (St.own S)
    rw [hq, h0] at IH
    refine IH.mono ?_
    rintro e w2 ⟨o1, rfl, T⟩
    replace S := S.call T
    clear T IH
    simp only [List.cons_append, List.nil_append] at S
    go_wp2_with fail
    have IH := s_ExpandProgram _ xs _ (St.own S.tail)
    rw [hq, h0] at IH
    refine IH.mono ?_
    rintro e w3 ⟨o2, rfl, T⟩
    replace S := S.call T
    clear T IH
    simp only [List.cons_append, List.nil_append] at S
    obtain ⟨oa, on, oc, rfl, -, -, HON, -⟩ := LCmd_own S.tail
    obtain rfl : on = 0 := HON.out
    go_wp2_with fail
    refine (sameCommands_s _ _ _ _ (St.own S.tail) (St.own S)).mono ?_
    rintro e w4 ⟨rfl, g4⟩
    replace S := S.grow g4
    clear g4 h0 hq
    go_wp2_with (go_at_call 14; refine (alive_any _).mono ?_; rintro e w' ⟨rfl, rfl⟩)
    go_ret
    exact ⟨rfl, S.below⟩
  | true =>
    obtain ⟨E, hE⟩ : ∃ E, E = expandL xs := ⟨_, rfl⟩
    have KIND : RowKit.Hid (∀ (k : Nat) (c : Cmd), E[k]? = some c → c.Kind ≠ 5 ∧ c.Kind ≠ 6) := by rw [hE]; exact expandL_kinds hq
    have PL : RowKit.Hid (plainB xs = true → E = xs) := by rw [hE]; exact expandL_plain hq
    have hl5 : E.length ≤ 500 := by rw [hE]; exact expandL_len xs
    obtain ⟨lp1, lp2⟩ := expand_loop hq
    rw [← hE] at lp1 lp2
    have LP1 := Lib.hid lp1
    have LP2 := Lib.hid lp2
    clear lp1 lp2
    go_wp2_with fail
    have IH := i_ExpandProgram _ xs _ (St.own S)
    rw [hq, ← hE] at IH
    refine IH.mono ?_
    rintro e w2 ⟨o1, rfl, T⟩
    replace S := S.call T
    clear T IH
    simp only [List.cons_append, List.nil_append] at S
    go_wp2_with fail
    have IH := s_ExpandProgram _ xs _ (St.own S.tail)
    rw [hq, ← hE] at IH
    refine IH.mono ?_
    rintro e w3 ⟨o2, rfl, T⟩
    replace S := S.call T
    clear T IH hE hq
    simp only [List.cons_append, List.nil_append] at S
    go_wp2_with fail
    refine (sameCommands_s _ _ _ _ (St.own S.tail) (St.own S)).mono ?_
    rintro e w4 ⟨rfl, g4⟩
    replace S := (S.grow g4).tail
    clear g4
    obtain ⟨oa, on, oc, rfl, -, -, HON, HOC⟩ := LCmd_own S
    obtain ⟨xa, xn, xc, hxv, -, -, -, HXC⟩ := LCmd_own S.tail
    simp only [Value.slice.injEq] at hxv
    obtain ⟨rfl, rfl, rfl⟩ := hxv
    have on5 : on ≤ 500 := by rw [HON.out]; exact hl5
    have SH := Lib.hid S
    clear S
    go_wp2_with fail
    go_loop [8, 9] (fun pv i => ∃ (k : Nat) (B : Bool), k ≤ n ∧ i = .int .i64 k ∧ pv = .bool B ∧ RowKit.Hid (plainB (xs.take k) = B)) (fun _ i => n - (intOf i).toNat)
    case atStart => exact ⟨0, true, by omega, rfl, rfl, (show _ = _ from rfl)⟩
    case round =>
      obtain ⟨k, B, hk, rfl, rfl, HBk⟩ := hrel
      by_cases hlt : k < n
      · obtain ⟨g, c, rfl, -, -, hx, ⟨c0, c1, c2⟩, -⟩ := HXC.out k hlt
        have hs := plainB_snoc _ _ _ hx.out
        rw [HBk.out] at hs
        obtain ⟨K, A, C⟩ := c
        dsimp only at c0 hs
        have hlt' : (k : Int) < (n : Int) := by omega
        have hk0 : (0 : Int) ≤ (k : Int) := by omega
        cases B with
        | false =>
          have HB2 : RowKit.Hid (plainB (xs.take (k + 1)) = false) := hs
          clear hs HBk hx c1 c2
          go_wp2_with fail
          go_round
          case rel => exact ⟨k + 1, false, by omega, by go_num, rfl, HB2⟩
          case measure => simp [intOf]; omega
        | true =>
          by_cases k5 : K = 5
          · subst k5
            have HB2 : RowKit.Hid (plainB (xs.take (k + 1)) = false) := hs
            clear hs HBk hx c1 c2
            go_wp2_with fail
            go_round
            case rel => exact ⟨k + 1, false, by omega, by go_num, rfl, HB2⟩
            case measure => simp [intOf]; omega
          · have e5 : (K == 5) = false := beq_eq_false_iff_ne.2 k5
            have HB2 : RowKit.Hid (plainB (xs.take (k + 1)) = true) := by show _ = _; rw [hs]; simp [k5]
            clear hs HBk hx c1 c2
            go_wp2_with fail
            go_round
            case rel => exact ⟨k + 1, true, by omega, by go_num, (by simp [k5]), HB2⟩
            case measure => simp [intOf]; omega
      have HP : RowKit.Hid (plainB xs = B) := by
        have := HBk.out
        rw [List.take_of_length_le (by rw [← HN.out]; omega)] at this
        exact this
      clear HBk HXC
      obtain ⟨P, hP⟩ : ∃ P, P = B := ⟨_, rfl⟩
      rw [← hP] at HP ⊢
      clear hP
      go_wp2_with fail
      go_loop [10] (fun i => ∃ k : Nat, k ≤ on ∧ i = .int .i64 k) (fun i => on - (intOf i).toNat)
      case atStart => exact ⟨0, by omega, rfl⟩
      case round =>
        obtain ⟨j, hj, rfl⟩ := hrel
        by_cases hlt2 : j < on
        · obtain ⟨g, c, rfl, -, -, hx, ⟨c0, c1, c2⟩, -⟩ := HOC.out j hlt2
          obtain ⟨k5, k6⟩ := KIND.out j c hx.out
          have e5 : (c.Kind == 5) = false := beq_eq_false_iff_ne.2 k5
          have e6 : (c.Kind == 6) = false := beq_eq_false_iff_ne.2 k6
          have hlt' : (j : Int) < (on : Int) := by omega
          have hk0 : (0 : Int) ≤ (j : Int) := by omega
          clear hx c1 c2
          go_wp2_with fail
          go_round
          case rel => exact ⟨j + 1, by omega, by go_num⟩
          case measure => simp [intOf]; omega
        clear HOC KIND
        have SL := SH.out.ownLit LCmd [(⟨5, 2, 0⟩ : Cmd)] #[.int .i64 5, .int .i64 2, .int .i64 0] rfl (show 1 ≤ maxLen by decide)
        have RV := St.own (St.tail (St.tail SL))
        have hll : ([(⟨5, 2, 0⟩ : Cmd)]).length + xs.length ≤ 1099511627776 := by have := HXL.out; simp; omega
        have hnl : ([(⟨5, 2, 0⟩ : Cmd)] ++ xs).length ≤ 1000000000 := by have := HXL.out; simp; omega
        go_wp2_with (first
          | (at_builtin; refine wpList_appR LCmd_info rfl _ _ rfl SL xs _ RV rfl rfl hll ?_; intro v5 w5 S5; clear SL RV)
          | (at_builtin; refine wpList_app1 LCmd_info rfl _ _ rfl S5 (⟨6, 0, 0⟩ : Cmd) #[.int .i64 6, .int .i64 0, .int .i64 0] rfl rfl (by simp [Act.eval]) hnl ?_; intro v6 w6 S6; clear S5))
        have S7 : St w w6 [Own LCmd v6 (loopC xs), Own LCmd (.slice oa on oc) E, Own LCmd (.slice va n vc) xs] := S6
        clear S6
        obtain ⟨la, ln, lc, rfl, -, -, HLN, -⟩ := LCmd_own S7
        have hln : ln ≤ 18 := by rw [HLN.out]; have := HXL.out; simp [loopC]; omega
        have IH := i_ExpandProgram _ _ _ (St.own S7)
        have hln30 : (ln : Int) ≤ 30 := by omega
        have LP3 : RowKit.Hid (expandOk (loopC xs) = decide (2 * on ≤ 500)) := by
          show _ = _
          rw [LP1.out, ← HON.out, ← HLN.out, decide_eq_true (by omega), Bool.true_and]
        rw [LP3.out] at IH
        refine IH.mono ?_
        rintro e w7 ⟨o3, rfl, T⟩
        replace S7 := S7.call T
        clear T IH
        simp only [List.cons_append, List.nil_append] at S7
        by_cases h2 : 2 * on ≤ 500
        rotate_left
        · rw [decide_eq_false h2]
          have h2' : ¬ 2 * (on : Int) ≤ 500 := by omega
          have RO := Lib.hid (St.own (St.tail (St.tail S7)))
          have RX := Lib.hid (St.own (St.tail (St.tail (St.tail S7))))
          have G := Lib.hid S7.gb
          clear S7
          cases P with
          | false =>
            go_wp2_with fail
            go_ret
            exact ⟨by simp [h2'], gb_below (G.out)⟩
          | true =>
            obtain rfl : E = xs := PL.out (HP.out)
            have SAME := sameCommands_s _ _ _ _ RO.out RX.out
            go_wp2_with fail
            refine SAME.mono ?_
            rintro e w9 ⟨rfl, g9⟩
            go_wp2_with fail
            go_ret
            exact ⟨by simp [h2'], gb_below (gb_trans G.out g9)⟩
        rw [decide_eq_true h2]
        have h2' : 2 * (on : Int) ≤ 500 := by omega
        have EQ := Lib.hid (LP2.out (by rw [LP3.out, decide_eq_true h2]))
        rw [EQ.out] at S7
        have S8 := S7.ownEmpty LCmd
        have R8 := St.own (St.tail (St.tail (St.tail S8)))
        have h8 : ([] : List Cmd).length + E.length ≤ 1099511627776 := by simp; omega
        have h9 : E.length + E.length ≤ 1099511627776 := by omega
        clear S7
        go_wp2_with (first
          | (at_builtin; refine wpList_appRG LCmd_info rfl _ _ rfl S8 E _ R8 rfl rfl h8 ?_; intro v9 w9 S9; rw [List.nil_append] at S9; clear S8 R8; have R9 := St.own (St.tail (St.tail (St.tail S9))))
          | (at_builtin; refine wpList_appRG LCmd_info rfl _ _ rfl S9 E _ R9 rfl rfl h9 ?_; intro v10 w10 S10; clear S9 R9))
        refine (sameCommands_s _ _ _ _ (St.own (St.tail S10)) (St.own S10)).mono ?_
        rintro e w11 ⟨rfl, g11⟩
        replace S10 := S10.grow g11
        have RO := Lib.hid (St.own (St.tail (St.tail (St.tail S10))))
        have RX := Lib.hid (St.own (St.tail (St.tail (St.tail (St.tail S10)))))
        have G := Lib.hid S10.gb
        clear S10 g11
        cases P with
        | false =>
          go_wp2_with fail
          go_ret
          exact ⟨by simp [h2'], gb_below (G.out)⟩
        | true =>
          obtain rfl : E = xs := PL.out (HP.out)
          have SAME := sameCommands_s _ _ _ _ RO.out RX.out
          go_wp2_with fail
          refine SAME.mono ?_
          rintro e w9 ⟨rfl, g9⟩
          go_wp2_with fail
          go_ret
          exact ⟨by simp [h2'], gb_below (gb_trans G.out g9)⟩
end Go.Proofs.Ytbhelobahfgaeaa
namespace Go.Proofs.Ytbhelobahfgaeaa.fnExpandProgramDone
open Go Go.ChangeShapes Go.WideShapes Go.ChangeAt Go.RowKit Go.Proofs.Ytbhelobahfgaeaa
set_option linter.unusedVariables false
theorem own : ownKnob Try.prog.godebug = none := by kernel_rfl
theorem laidOut : laidOutB Try.prog = true := by kernel_rfl
set_option maxRecDepth 100000 in
theorem lifted (os : Os) (started : os.Started) (H : Type) (enc : TypeId × Value → H) :
    ReturnsInHanded {} Try.checked os 6 .any (Rows.fnExpandProgramSpec.pre6 enc Try.prog Try.f6 Rows.fnExpandProgramRow.domain false) (Rows.fnExpandProgramSpec.post enc Try.prog Try.f6 false true false false) := by
  refine returnsInHanded_of_change (C := Try.checked) own started (by kernel_rfl) Try.func6
    (ChangeSpec.witness6 (enc := enc) (C := Try.checked) false ⟨#[], #[.slice none 0 0], []⟩ 8 (by kernel_rfl) (by kernel_rfl) (by kernel_rfl) (by kernel_rfl)) ?_
  intro W base args ds gs before hval0 hW hcnd _
  have hval : ∀ (j : Nat) t v, Try.f6.params[j]? = some t → args[j]? = some v → Value.okWide Try.prog W .any base t v := hval0
  have hW' := hW
  obtain ⟨p, q, hA0, hV, rfl, hfz, hnd⟩ := hW
  have hA : DataW.TrodAll enc Try.prog W 0 (fun _ => true) true Try.f6.params.toList args.toList ds p := hA0
  rw [Try.params6] at hA hval
  obtain ⟨v0, vs0, d0, ds0, p0, q0, hargs, rfl, rfl, h0, r0⟩ := trodAll_cons hA
  obtain ⟨rfl, rfl, rfl⟩ := trodAll_nil r0
  obtain rfl : args = #[v0] := by cases args; simp_all
  obtain ⟨rfl, rfl⟩ := trodVars_none hV
  obtain ⟨a0, len0, cap0, rfl⟩ := okWide_slice Try.underlying29 (hval 0 29 v0 rfl rfl)
  have k0 := h0
  have lt0 : ∀ x ∈ p0, x.block < W.heap.size := by obtain ⟨m, hm⟩ := k0; exact DataW.trod_lt m _ _ _ hm
  have w0 : Byts W a0 len0 cap0 := by
    obtain ⟨fuel, hf⟩ := h0
    rcases open_ints Try.underlying29 Try.underlying5 (by kernel_rfl) hf with ⟨hcs, _⟩ | ⟨x, l, c, zs, hcs, _, hl, hm, hz, _, hcell, hwz⟩
    · simp [Value.cells] at hcs
      obtain ⟨rfl, rfl, rfl⟩ := hcs
      exact byts_nil W
    · simp [Value.cells] at hcs
      obtain ⟨rfl, rfl, rfl⟩ := hcs
      exact byts_of hl hm (by simpa using hz) hcell hwz
  clear hA0 hval0
  refine (law_FnExpandProgram a0 len0 cap0 W w0).mono fun e W' ⟨he, bel⟩ => ?_
  subst he
  exact ⟨_, rfl, _, _, _, [], _, [], hW', trodAll_mk1 (shut_bool Try.underlying4 _), (trodAll_cons_mk (Below.trod laidOut (by kernel_rfl) (of_decide_eq_true (by kernel_rfl)) k0 bel lt0) trodAll_mk0), rfl, bel.frame _, fun h => by cases h⟩
theorem over : Rows.fnExpandProgramRow.holds Try.pinned (OpenSpec.ofChange Rows.fnExpandProgramSpec) :=
  OpenClaim.holds_of_wide 6 Try.f6 rfl rfl rfl rfl rfl rfl rfl ⟨rfl, rfl, rfl, rfl, rfl⟩ rfl rfl rfl rfl rfl (by kernel_rfl) Try.func6 (by kernel_rfl)
    (of_decide_eq_true (by kernel_rfl)) (by unfold Func.isWrapper; first | (rw [if_pos (by decide +kernel)]; kernel_rfl) | (rw [if_neg (by decide +kernel)]; exact ⟨rfl, rfl⟩))
    (fun os started H enc _ => lifted os started H enc)
theorem proved : Rows.FnExpandProgramSaid := over
#print axioms proved
end Go.Proofs.Ytbhelobahfgaeaa.fnExpandProgramDone
