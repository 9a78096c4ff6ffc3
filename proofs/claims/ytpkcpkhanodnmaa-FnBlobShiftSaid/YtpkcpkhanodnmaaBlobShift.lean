/-
  FnBlobShift: for every code the law on shifted pictures returns true; nothing that was there is written. No condition.
-/
import Derived.Test.YtpkcpkhanodnmaaImgDraws
import Derived.Test.YtpkcpkhanodnmaaBlobsR
import Derived.Test.YtpkcpkhanodnmaaShiftLaw
import Derived.Test.YtpkcpkhanodnmaaBlobLaw2
import Derived.Test.YtpkcpkhanodnmaaRowsAt
import Derived.Test.YtpkcpkhanodnmaaOpen
import Derived.Test.YtpkcpkhanodnmaaRows
import Derived.ProofKit
import Derived.OpenShut
import Derived.ShutString
import Derived.ChangeOld
namespace Go.Proofs.Ytpkcpkhanodnmaa
open Go Go.RowKit
set_option linter.unusedVariables false
theorem wideB_succ {ys : List (List Bool)} {k : Nat} {r : List Bool} (h : ys[k]? = some r) : wideB (ys.take k) ++ [false :: r] = wideB (ys.take (k + 1)) := by
  obtain ⟨hk, rfl⟩ := List.getElem?_eq_some_iff.1 h
  rw [List.take_succ_eq_append_getElem hk, wideB, wideB, List.map_append]
  rfl
theorem wideB_len (ys : List (List Bool)) : (wideB ys).length = ys.length := by simp [wideB]
set_option maxRecDepth 100000 in
set_option maxHeartbeats 8000000 in
theorem law_FnBlobShift (a : Option Addr) (len cap : Nat) (w : World) (hw : Byts w a len cap) :
    Calls Try.prog 10 #[.slice a len cap] w fun e w' => e = .returned (.bool true) ∧ Below w.heap.size w w' := by
  have HB := Lib.hid hw; have hm : len ≤ 9223372036854775807 := (by have := hw.1; have := hw.2.1; unfold maxLen at this; omega); clear hw; by_cases hl : 1048576 < len; (go_enter Try.func10, Try.ntmps10; go_wp2_with fail; go_ret; exact ⟨rfl, Below.refl _ _⟩)
  go_enter Try.func10, Try.ntmps10
  go_wp2_with fail
  refine (DrawFindBlobs_any _ _ _ _ HB.out).mono ?_
  rintro e w1 ⟨v, ys, rfl, hyl, hyt, S⟩
  go_wp2_with fail
  refine (i_FindBlobs _ ys _ (St.drds S)).mono ?_
  rintro e w2 ⟨o1, rfl, T⟩
  replace S := S.call T
  clear T
  simp only [List.cons_append, List.nil_append] at S
  obtain ⟨ia, iN, ic, rfl, hic, him, HIN, -⟩ := LBlb_get (St.own S)
  go_wp2_with fail
  refine (s_FindBlobs _ ys _ (St.drds (St.tail S))).mono ?_
  rintro e w3 ⟨o2, rfl, T⟩
  obtain ⟨ja, jn, jc, rfl, -, -, HJN, -⟩ := LBlb_get (St.own T)
  obtain rfl : iN = jn := by rw [HIN.out, HJN.out]
  replace S := S.grow T.gb
  clear T HJN
  obtain ⟨va, vn, vc, rfl, hvc, hvm, HVN, -⟩ := (St.drds (St.tail S)).rows
  go_wp2_with fail
  refine (s_ImageValid _ ys _ (St.drds (St.tail S))).mono ?_
  rintro e w4 ⟨rfl, T⟩
  replace S := S.grow T
  clear T
  cases hB : imgB ys with
  | false =>
    go_wp2_with (go_at_call 24; refine (alive_any _).mono ?_; rintro e w' ⟨rfl, rfl⟩)
    go_ret
    exact ⟨rfl, S.below⟩
  | true =>
    have hok := imgB_t.1 hB
    have hvn16 : vn ≤ 16 := by have := hok.2.1; have := HVN.out; omega
    have hv1 : 0 < vn := by have := hok.1; have := HVN.out; omega
    obtain ⟨va', vn', vc', hv', -, -, -, HVC⟩ := (St.drds (St.tail S)).rows
    simp only [Value.slice.injEq] at hv'
    obtain ⟨rfl, rfl, rfl⟩ := hv'
    obtain ⟨b, off, ra, rn, rc, r, rfl, hb, hy, hrn, hrc, hrm, hrd, hc⟩ := HVC.out 0 hv1
    rw [Nat.add_zero] at hc
    have hr : rn = (ys.headD []).length := by rw [hrn.out]; exact imgOk_row hok hy.out
    have hr16 : rn ≤ 16 := by have := (imgOk_dims hok).2; omega
    have HH := Lib.hid hr
    have HBB := Lib.hid hB
    have HOK := Lib.hid hok
    clear hB hok HVC hrd hy hrn hr
    by_cases h16 : rn = 16
    · subst h16
      go_wp2_with (go_at_call 24; refine (alive_any _).mono ?_; rintro e w' ⟨rfl, rfl⟩)
      go_ret
      exact ⟨rfl, S.below⟩
    have h16' : ((rn : Int) == 16) = false := by simpa using (show ¬ (rn : Int) = 16 by omega)
    have SHF := Lib.hid (blobs_sh HBB.out (by have := HH.out; omega))
    have S1 : St w (w4.alloc (.cells #[] 39)) (DOwn LSB DB (.slice (some ⟨w4.heap.size, 0, none⟩) 0 0) (wideB (ys.take 0)) :: [Own LBlb (.slice ia iN ic) (blobs ys), DOwn LSB DB (.slice (some ⟨b, off, none⟩) vn vc) ys]) := St.downEmpty (L := LSB) (D := DB) S
    clear S
    go_wp2
    go_loopw [5, 6] (fun o i wr => ∃ k : Nat, k ≤ vn ∧ i = .int .i64 k ∧ St w wr (DOwn LSB DB o (wideB (ys.take k)) :: [Own LBlb (.slice ia iN ic) (blobs ys), DOwn LSB DB (.slice (some ⟨b, off, none⟩) vn vc) ys])) (fun _ i _ => vn - (intOf i).toNat)
    case atStart => exact ⟨0, by omega, rfl, S1⟩
    case round =>
      obtain ⟨k, hk, rfl, S⟩ := hrel
      clear S1 hc
      by_cases hlt : k < vn
      · have hki : (k : Int) < (vn : Int) := by omega
        obtain ⟨va', vn', vc', hv', -, -, -, HVC⟩ := (St.drds (St.tail (St.tail S))).rows
        simp only [Value.slice.injEq] at hv'
        obtain ⟨rfl, rfl, rfl⟩ := hv'
        obtain ⟨b2, off2, ra2, rn2, rc2, r2, hbo, hb2, hy2, hrn2, hrc2, hrm2, hrd2, hc2⟩ := HVC.out k hlt
        simp only [Option.some.injEq, Addr.mk.injEq, and_true] at hbo
        obtain ⟨rfl, rfl⟩ := hbo
        have hr2 : r2.length ≤ 16 := (HOK.out.2.2 k r2 hy2.out).2.1
        have hrl : ([false] : List Bool).length + r2.length ≤ 1099511627776 := by simp; omega
        have hwl : (wideB (ys.take k)).length ≤ 1000000000 := by rw [wideB_len, List.length_take]; omega
        have WS := Lib.hid (wideB_succ hy2.out)
        have S2 : St w (wr.alloc (.cells #[.bool false] 4)) (Own LB (.slice (some ⟨wr.heap.size, 0, none⟩) 1 1) [false] :: DOwn LSB DB u5 (wideB (ys.take k)) :: [Own LBlb (.slice ia iN ic) (blobs ys), DOwn LSB DB (.slice (some ⟨b, off, none⟩) vn vc) ys]) := S.ownLit LB [false] #[.bool false] rfl (by decide)
        have R2 : Rds LB (wr.alloc (.cells #[.bool false] 4)) (.slice ra2 rn2 rc2) r2 := hrd2.kept (World.grownBy_alloc _ _ _)
        clear S HVC hrd2 hrn2 hy2
        obtain ⟨o, rfl⟩ : ∃ o, o = u5 := ⟨_, rfl⟩
        go_wp2_with (first
          | (at_builtin; refine wpList_appR LB_info rfl _ _ rfl S2 r2 _ R2 rfl rfl hrl ?_; intro v6 w6 S6; obtain ⟨ua, un, uc, rfl, -⟩ := (St.own S6).slice; have S7 := S6.swap; clear S6 S2 R2)
          | (at_builtin; refine wpList_drow1 LSB_info rfl _ _ rfl S7 rfl rfl hwl ?_; intro v8 w8 S8; clear S7))
        have S9 : St w w8 (DOwn LSB DB v8 (wideB (ys.take (k + 1))) :: [Own LBlb (.slice ia iN ic) (blobs ys), DOwn LSB DB (.slice (some ⟨b, off, none⟩) vn vc) ys]) := by rw [← WS.out]; exact S8
        clear S8
        go_roundw
        case rel => exact ⟨k + 1, by omega, by go_num, S9⟩
        case measure => (simp [intOf]; try omega)
      obtain rfl : k = vn := by omega
      rw [List.take_of_length_le (by have := HVN.out; omega)] at S
      go_wp2_with fail
      refine (i_FindBlobs _ (wideB ys) _ (St.drds S)).mono ?_
      rintro e w5 ⟨o4, rfl, T⟩
      replace S := S.call T
      clear T
      simp only [List.cons_append, List.nil_append] at S
      rw [SHF.out] at S
      obtain ⟨wa, wn, wc, rfl, hwc, hwm, HWN, -⟩ := LBlb_get (St.own S)
      obtain rfl : wn = iN := by rw [HWN.out, HIN.out, List.length_map]
      have FIN : RowKit.Hid (∀ q ∈ blobs ys, BFin q) := blobs_fin
      have SH := Lib.hid S
      have SB := Lib.hid S.below
      clear S HWN HIN
      go_wp2
      go_loopw [8, 9] (fun i _ wr => ∃ k : Nat, k ≤ wn ∧ i = .int .i64 k ∧ w5.grownBy wr none) (fun i _ _ => wn - (intOf i).toNat)
      case atStart => exact ⟨0, by omega, rfl, World.grownBy.refl _ _⟩
      case round =>
        obtain ⟨k, hk, rfl, hg⟩ := hrel
        by_cases hlt : k < wn
        rotate_left
        · obtain rfl : k = wn := by omega
          go_wp2
          go_ret
          exact ⟨rfl, gb_below (gb_trans (below_gb SB.out) hg)⟩
        have S := SH.out.grow hg
        obtain ⟨wa', wn', wc', hv', -, -, -, HWC⟩ := LBlb_get (St.own S)
        simp only [Value.slice.injEq] at hv'
        obtain ⟨rfl, rfl, rfl⟩ := hv'
        obtain ⟨ia', in', ic', hv', -, -, -, HIC⟩ := LBlb_get (St.own (St.tail (St.tail S)))
        simp only [Value.slice.injEq] at hv'
        obtain ⟨rfl, rfl, rfl⟩ := hv'
        obtain ⟨b1, off1, q1, rfl, hb1, hq1, d0, d1, d2, d3, d4, d5, d6⟩ := HWC.out k hlt
        obtain ⟨b', off', q, rfl, hb', hq, e0, e1, e2, e3, e4, e5, e6⟩ := HIC.out k hlt
        obtain rfl : q1 = shB q := by
          have := hq1.out
          rw [List.getElem?_map, hq.out] at this
          exact (Option.some.inj this).symm
        have F := FIN.out q (List.mem_of_getElem? hq.out)
        obtain ⟨⟨f1, f2⟩, ⟨f3, f4, f5⟩, ⟨f6, f7, f8⟩, ⟨f9, f10⟩, ⟨f11, f12⟩, ⟨f13, f14, f15, f16⟩, -, f17⟩ := F
        obtain ⟨Q0, Q1, Q2, Q3, Q4, Q5, Q6⟩ := q
        simp only [shB] at *
        have hki : (k : Int) < (wn : Int) := by omega
        have HG := Lib.hid (gb_alloc hg (.cells #[.int .i64 Q0, .int .i64 Q1, .int .i64 Q2, .int .i64 Q3, .int .i64 Q4, .int .i64 Q5, .int .i64 Q6] 27))
        clear HWC HIC hq hq1 S hg
        go_wp2
        go_quiet (fail)
        go_wp2
        go_roundw
        case rel => exact ⟨k + 1, by omega, by go_num, gb_drewN HG.out _⟩
        case measure => (simp [intOf]; try omega)
end Go.Proofs.Ytpkcpkhanodnmaa
namespace Go.Proofs.Ytpkcpkhanodnmaa.fnBlobShiftDone
open Go Go.ChangeShapes Go.WideShapes Go.ChangeAt Go.RowKit Go.Proofs.Ytpkcpkhanodnmaa
set_option linter.unusedVariables false
theorem own : ownKnob Try.prog.godebug = none := by kernel_rfl
theorem laidOut : laidOutB Try.prog = true := by kernel_rfl
set_option maxRecDepth 100000 in
theorem lifted (os : Os) (started : os.Started) (H : Type) (enc : TypeId × Value → H) :
    ReturnsInHanded {} Try.checked os 10 .any (Rows.fnBlobShiftSpec.pre6 enc Try.prog Try.f10 Rows.fnBlobShiftRow.domain false) (Rows.fnBlobShiftSpec.post enc Try.prog Try.f10 false true false false) := by
  refine returnsInHanded_of_change (C := Try.checked) own started (by kernel_rfl) Try.func10
    (ChangeSpec.witness6 (enc := enc) (C := Try.checked) false ⟨#[], #[.slice none 0 0], []⟩ 8 (by kernel_rfl) (by kernel_rfl) (by kernel_rfl) (by kernel_rfl)) ?_
  intro W base args ds gs before hval0 hW hcnd _
  have hval : ∀ (j : Nat) t v, Try.f10.params[j]? = some t → args[j]? = some v → Value.okWide Try.prog W .any base t v := hval0
  have hW' := hW
  obtain ⟨p, q, hA0, hV, rfl, hfz, hnd⟩ := hW
  have hA : DataW.TrodAll enc Try.prog W 0 (fun _ => true) true Try.f10.params.toList args.toList ds p := hA0
  rw [Try.params10] at hA hval
  obtain ⟨v0, vs0, d0, ds0, p0, q0, hargs, rfl, rfl, h0, r0⟩ := trodAll_cons hA
  obtain ⟨rfl, rfl, rfl⟩ := trodAll_nil r0
  obtain rfl : args = #[v0] := by cases args; simp_all
  obtain ⟨rfl, rfl⟩ := trodVars_none hV
  obtain ⟨a0, len0, cap0, rfl⟩ := okWide_slice Try.underlying36 (hval 0 36 v0 rfl rfl)
  have k0 := h0
  have lt0 : ∀ x ∈ p0, x.block < W.heap.size := by obtain ⟨m, hm⟩ := k0; exact DataW.trod_lt m _ _ _ hm
  have w0 : Byts W a0 len0 cap0 := by
    obtain ⟨fuel, hf⟩ := h0
    rcases open_ints Try.underlying36 Try.underlying5 (by kernel_rfl) hf with ⟨hcs, _⟩ | ⟨x, l, c, zs, hcs, _, hl, hm, hz, _, hcell, hwz⟩
    · simp [Value.cells] at hcs
      obtain ⟨rfl, rfl, rfl⟩ := hcs
      exact byts_nil W
    · simp [Value.cells] at hcs
      obtain ⟨rfl, rfl, rfl⟩ := hcs
      exact byts_of hl hm (by simpa using hz) hcell hwz
  clear hA0 hval0
  refine (law_FnBlobShift a0 len0 cap0 W w0).mono fun e W' ⟨he, bel⟩ => ?_
  subst he
  exact ⟨_, rfl, _, _, _, [], _, [], hW', trodAll_mk1 (shut_bool Try.underlying4 _), (trodAll_cons_mk (Below.trod laidOut (by kernel_rfl) (of_decide_eq_true (by kernel_rfl)) k0 bel lt0) trodAll_mk0), rfl, bel.frame _, fun h => by cases h⟩
theorem over : Rows.fnBlobShiftRow.holds Try.pinned (OpenSpec.ofChange Rows.fnBlobShiftSpec) :=
  OpenClaim.holds_of_wide 10 Try.f10 rfl rfl rfl rfl rfl rfl rfl ⟨rfl, rfl, rfl, rfl, rfl⟩ rfl rfl rfl rfl rfl (by kernel_rfl) Try.func10 (by kernel_rfl)
    (of_decide_eq_true (by kernel_rfl)) (by unfold Func.isWrapper; first | (rw [if_pos (by decide +kernel)]; kernel_rfl) | (rw [if_neg (by decide +kernel)]; exact ⟨rfl, rfl⟩))
    (fun os started H enc _ => lifted os started H enc)
theorem proved : Rows.FnBlobShiftSaid := over
#print axioms proved
end Go.Proofs.Ytpkcpkhanodnmaa.fnBlobShiftDone
