/-
  FnEarliestStarts: for every code the law on earliest starts returns true; nothing that was there is written. No condition.
-/
import Derived.Test.YthcacepkfdfbnaaWksDraws
import Derived.Test.YthcacepkfdfbnaaCycOpen
import Derived.Test.YthcacepkfdfbnaaSameS
import Derived.Test.YthcacepkfdfbnaaRows
import Derived.ProofKit
import Derived.OpenShut
import Derived.ShutString
import Derived.ChangeOld
namespace Go.Proofs.Ythcacepkfdfbnaa
open Go Go.RowKit
set_option linter.unusedVariables false
set_option maxHeartbeats 8000000 in
theorem law_FnEarliestStarts (a : Option Addr) (len cap : Nat) (w : World) (hw : Byts w a len cap) :
    Calls Try.prog 5 #[.slice a len cap] w fun e w' => e = .returned (.bool true) ∧ Below w.heap.size w w' := by
  have HB := Lib.hid hw; have hm : len ≤ 9223372036854775807 := (by have := hw.1; have := hw.2.1; unfold maxLen at this; omega); clear hw; by_cases hl : 1048576 < len; (go_enter Try.func5, Try.ntmps5; go_wp2_with fail; go_ret; exact ⟨rfl, Below.refl _ _⟩)
  go_enter Try.func5, Try.ntmps5
  go_wp2_with fail
  refine (DrawEarliestStarts_any _ _ _ _ HB.out).mono ?_
  rintro e w1 ⟨v, ys, rfl, hyl, -, S⟩
  go_wp2_with fail
  refine (i_EarliestStarts _ ys _ (St.drds S)).mono ?_
  rintro e w2 ⟨o1, rfl, T⟩
  replace S := S.call T
  clear T
  simp only [List.cons_append, List.nil_append] at S
  go_wp2_with fail
  refine (s_EarliestStarts _ ys _ (St.drds (St.tail S))).mono ?_
  rintro e w3 ⟨o2, rfl, T⟩
  replace S := S.call T
  clear T
  simp only [List.cons_append, List.nil_append] at S
  go_wp2_with fail
  refine (sameInts_s _ _ _ _ (St.own (St.tail S)) (St.own S)).mono ?_
  rintro e w4 ⟨rfl, n4, rfl⟩
  replace S := St.tail (S.drewN n4)
  by_cases hok : 0 < (early ys).length
  rotate_left
  · obtain ⟨oa, on, oc, rfl, hon⟩ := (St.own S).slice
    obtain rfl : on = 0 := by omega
    clear hon
    go_wp2
    go_loop [5, 6, 7, 8] (fun i _ _ _ => i = .int .i64 0) (fun _ _ _ _ => 0)
    case atStart => rfl
    case round =>
      subst hrel
      go_wp2_with (go_at_call 19; refine (alive_any _).mono ?_; rintro e w' ⟨rfl, rfl⟩)
      go_ret
      exact ⟨rfl, S.below⟩
  have hB : worksB ys = true := by
    cases h : worksB ys with
    | true => rfl
    | false => rw [early_no h] at hok; simp at hok
  have HOK := Lib.hid (worksB_t.1 hB)
  rw [early_yes hB] at S
  have hy0 : 0 < ys.length := by rw [early_yes hB, earlyTo_len] at hok; exact hok
  obtain ⟨ob, ooff, m, oc, rfl, hmc, hmm, HM, OC⟩ := ints_open (st0 ys) (St.own S) (fun k hk => rfl) (by rw [earlyTo_len]; exact hy0)
  obtain ⟨lb, loff, n, lc, rfl, hnc, hnm, HN, hn0, hn12, LC⟩ := wks_open (St.drds (St.tail S)) HOK.out hy0
  obtain rfl : m = n := by rw [HM.out, HN.out, earlyTo_len]
  have ST := Lib.hid (fun k (hk : k < ys.length) => st0_ge HOK.out hk)
  have SI := Lib.hid (fun k (hk : k < ys.length) => st0_in HOK.out hk)
  have SB := Lib.hid S.below
  have TB := Lib.hid (fun k => tm_bd HOK.out k)
  have EB := Lib.hid (fun k (hk : k < ys.length) => endOf_bd HOK.out k hk)
  clear hok hB hy0 S
  obtain ⟨ws, hws⟩ : ∃ ws, ws = w3.drewN n4 := ⟨_, rfl⟩
  rw [← hws] at OC LC SB ⊢
  clear hws
  go_wp2
  go_loopw [5, 6, 7, 8] (fun i _ _ _ wr => ∃ k q : Nat, k ≤ m ∧ i = .int .i64 k ∧ wr = ws.drewN q) (fun i _ _ _ _ => m - (intOf i).toNat)
  case atStart => exact ⟨0, 0, by omega, rfl, rfl⟩
  case round =>
    obtain ⟨k, q, hk, rfl, rfl⟩ := hrel
    by_cases hlt : k < m
    rotate_left
    · have hm0 : ¬ (m : Int) = 0 := by omega
      have hm1 : ((m : Int) == 0) = false := by simpa using hm0
      obtain rfl : k = m := by omega
      go_wp2_with (go_at_call 19; refine (alive_any _).mono ?_; rintro e w' ⟨rfl, rfl⟩)
      go_ret
      exact ⟨rfl, gb_below (gb_drewN (below_gb SB.out) q)⟩
    obtain ⟨lc0, ra, rn, rc, lc1, hrn12, hrn, LR⟩ := LC.out k hlt
    have oc0 := OC.out k hlt
    have hkl : k < ys.length := by have := HN.out; omega
    have hO1 := (ST.out k hkl).2
    have hO2 := SI.out k hkl
    obtain ⟨O, hO⟩ : ∃ O, O = st0 ys k := ⟨_, rfl⟩
    rw [← hO] at oc0 hO1 hO2
    have START : RowKit.Hid ((O == 0) = true ∨ ∃ (jj A : Nat), jj < rn ∧ (afterOf ys k)[jj]? = some (A : Int) ∧ endOf ys A = O) := by
      rcases hO2 with h | ⟨x, hx, h⟩
      · exact .inl (by simp [h])
      · obtain ⟨jj, hj, e⟩ := List.getElem_of_mem hx
        have hb := afterOf_bd HOK.out k x hx
        exact .inr ⟨jj, x.toNat, by rw [hrn.out]; exact hj, by rw [List.getElem?_eq_getElem hj, e]; congr 1; omega, h.symm⟩
    have GE := Lib.hid hO1
    have HO := Lib.hid hO
    clear hO hO1 hO2
    go_wp2
    go_loopw [6, 7, 8] (fun mt i _ wr => ∃ (j q : Nat) (M : Bool), j ≤ rn ∧ i = .int .i64 j ∧ mt = .bool M ∧ RowKit.Hid (M = true ∨ ∃ (jj A : Nat), j ≤ jj ∧ jj < rn ∧ (afterOf ys k)[jj]? = some (A : Int) ∧ endOf ys A = O) ∧ wr = ws.drewN q) (fun _ i _ _ => rn - (intOf i).toNat)
    case atStart => exact ⟨0, q, (O == 0), by omega, rfl, rfl, by rcases START.out with h | ⟨jj, A, h1, h2⟩; exact .inl h; exact .inr ⟨jj, A, by omega, h1, h2⟩, rfl⟩
    case round =>
      obtain ⟨j, q, M, hj, rfl, rfl, MET, rfl⟩ := hrel
      by_cases hlt2 : j < rn
      rotate_left
      · have hM : M = true := by
          rcases MET.out with h | ⟨jj, A, h1, h2, -⟩
          · exact h
          · omega
        subst hM
        go_wp2
        go_roundw
        case rel => exact ⟨k + 1, _, by omega, by go_num, rfl⟩
        case measure => simp [intOf]; omega
      obtain ⟨rb, roff, A, rfl, hAk, hA, rc0⟩ := LR.out j hlt2
      have ocA := OC.out A (by omega)
      have lcA := (LC.out A (by omega)).1
      obtain ⟨P, hP⟩ : ∃ P, P = st0 ys A := ⟨_, rfl⟩
      obtain ⟨T, hT⟩ : ∃ T, T = tm ys A := ⟨_, rfl⟩
      rw [← hP] at ocA
      rw [← hT] at lcA
      have hE : endOf ys A = P + T := by rw [endOf_eq, hP, hT]
      have hEb := EB.out A (by omega)
      have hle := GE.out _ hA.out.1
      rw [Int.toNat_natCast] at hle
      rw [hE] at hEb hle
      obtain ⟨e0, e1⟩ := hEb
      have HE := Lib.hid hE
      have i0 : (0 : Int) ≤ (A : Int) := by omega
      have i1 : (A : Int) < (m : Int) := by omega
      have i2 : (0 : Int) ≤ (k : Int) := by omega
      have i3 : (k : Int) < (m : Int) := by omega
      have i4 : (0 : Int) ≤ (j : Int) := by omega
      have i5 : (j : Int) < (rn : Int) := by omega
      have i6 : IntKind.i64.wrap (P + T) = P + T := IntWalk.i64_in _ (by omega)
      clear hE hP hT
      have NEXT : RowKit.Hid ((M || (P + T == O)) = true ∨ ∃ (jj A : Nat), j + 1 ≤ jj ∧ jj < rn ∧ (afterOf ys k)[jj]? = some (A : Int) ∧ endOf ys A = O) := by
        rcases MET.out with h | ⟨jj, A', h1, h2, h3, h4⟩
        · exact .inl (by simp [h])
        · by_cases hjj : jj = j
          · subst hjj
            left
            have h5 := hA.out.2
            rw [h5] at h3
            have h6 : A = A' := by have := Option.some.inj h3; omega
            subst h6
            rw [HE.out] at h4
            simp [h4]
          · exact .inr ⟨jj, A', by omega, h2, h3, h4⟩
      clear MET
      cases hM : M <;> cases hPO : (P + T == O) <;> (
        rw [hM, hPO] at NEXT
        clear hM
        go_wp2
        go_quiet (fail)
        clear i6
        go_wp2
        go_roundw
        case rel => exact ⟨j + 1, _, _, by omega, by go_num, rfl, NEXT, rfl⟩
        case measure => simp [intOf]; omega)
end Go.Proofs.Ythcacepkfdfbnaa
namespace Go.Proofs.Ythcacepkfdfbnaa.fnEarliestStartsDone
open Go Go.ChangeShapes Go.WideShapes Go.ChangeAt Go.RowKit Go.Proofs.Ythcacepkfdfbnaa
set_option linter.unusedVariables false
theorem own : ownKnob Try.prog.godebug = none := by kernel_rfl
theorem laidOut : laidOutB Try.prog = true := by kernel_rfl
set_option maxRecDepth 100000 in
theorem lifted (os : Os) (started : os.Started) (H : Type) (enc : TypeId × Value → H) :
    ReturnsInHanded {} Try.checked os 5 .any (Rows.fnEarliestStartsSpec.pre6 enc Try.prog Try.f5 Rows.fnEarliestStartsRow.domain false) (Rows.fnEarliestStartsSpec.post enc Try.prog Try.f5 false true false false) := by
  refine returnsInHanded_of_change (C := Try.checked) own started (by kernel_rfl) Try.func5
    (ChangeSpec.witness6 (enc := enc) (C := Try.checked) false ⟨#[], #[.slice none 0 0], []⟩ 8 (by kernel_rfl) (by kernel_rfl) (by kernel_rfl) (by kernel_rfl)) ?_
  intro W base args ds gs before hval0 hW hcnd _
  have hval : ∀ (j : Nat) t v, Try.f5.params[j]? = some t → args[j]? = some v → Value.okWide Try.prog W .any base t v := hval0
  have hW' := hW
  obtain ⟨p, q, hA0, hV, rfl, hfz, hnd⟩ := hW
  have hA : DataW.TrodAll enc Try.prog W 0 (fun _ => true) true Try.f5.params.toList args.toList ds p := hA0
  rw [Try.params5] at hA hval
  obtain ⟨v0, vs0, d0, ds0, p0, q0, hargs, rfl, rfl, h0, r0⟩ := trodAll_cons hA
  obtain ⟨rfl, rfl, rfl⟩ := trodAll_nil r0
  obtain rfl : args = #[v0] := by cases args; simp_all
  obtain ⟨rfl, rfl⟩ := trodVars_none hV
  obtain ⟨a0, len0, cap0, rfl⟩ := okWide_slice Try.underlying29 (hval 0 29 v0 rfl rfl)
  have k0 := h0
  have lt0 : ∀ x ∈ p0, x.block < W.heap.size := by obtain ⟨m, hm⟩ := k0; exact DataW.trod_lt m _ _ _ hm
  have w0 : Byts W a0 len0 cap0 := by
    obtain ⟨fuel, hf⟩ := h0
    rcases open_ints Try.underlying29 Try.underlying5 (by kernel_rfl) hf with ⟨hcs, _⟩ | ⟨x, l, c, zs, hcs, _, hl, hm, hz, _, hcell, hwz⟩
    · simp [Value.cells] at hcs
      obtain ⟨rfl, rfl, rfl⟩ := hcs
      exact byts_nil W
    · simp [Value.cells] at hcs
      obtain ⟨rfl, rfl, rfl⟩ := hcs
      exact byts_of hl hm (by simpa using hz) hcell hwz
  clear hA0 hval0
  refine (law_FnEarliestStarts a0 len0 cap0 W w0).mono fun e W' ⟨he, bel⟩ => ?_
  subst he
  exact ⟨_, rfl, _, _, _, [], _, [], hW', trodAll_mk1 (shut_bool Try.underlying4 _), (trodAll_cons_mk (Below.trod laidOut (by kernel_rfl) (of_decide_eq_true (by kernel_rfl)) k0 bel lt0) trodAll_mk0), rfl, bel.frame _, fun h => by cases h⟩
theorem over : Rows.fnEarliestStartsRow.holds Try.pinned (OpenSpec.ofChange Rows.fnEarliestStartsSpec) :=
  OpenClaim.holds_of_wide 5 Try.f5 rfl rfl rfl rfl rfl rfl rfl ⟨rfl, rfl, rfl, rfl, rfl⟩ rfl rfl rfl rfl rfl (by kernel_rfl) Try.func5 (by kernel_rfl)
    (of_decide_eq_true (by kernel_rfl)) (by unfold Func.isWrapper; first | (rw [if_pos (by decide +kernel)]; kernel_rfl) | (rw [if_neg (by decide +kernel)]; exact ⟨rfl, rfl⟩))
    (fun os started H enc _ => lifted os started H enc)
theorem proved : Rows.FnEarliestStartsSaid := over
#print axioms proved
end Go.Proofs.Ythcacepkfdfbnaa.fnEarliestStartsDone
