/-
  FnErodeImage: for every code the law on erosion returns true; nothing that was there is written. No condition.
-/
import Derived.Test.YtpkcpkhanodnmaaImgDraws
import Derived.Test.YtpkcpkhanodnmaaEroLaw
import Derived.Test.YtpkcpkhanodnmaaBlobs
import Derived.Test.YtpkcpkhanodnmaaRowsAt
import Derived.Test.YtpkcpkhanodnmaaOpen
import Derived.Test.YtpkcpkhanodnmaaRows
import Derived.ProofKit
import Derived.OpenShut
import Derived.ShutString
import Derived.ChangeOld
namespace Go.Proofs.Ytpkcpkhanodnmaa
open Go Go.RowKit
set_option linter.unusedVariables false
/-- The sample is on the border. -/
def edgeB (X Y W H : Nat) : Bool := ((X : Int) == 0 || (Y : Int) == 0 || (X : Int) == (W : Int) - 1 || (Y : Int) == (H : Int) - 1)
theorem edge_not {X Y W H : Nat} (h1 : 1 ≤ X) (h2 : X + 1 < W) (h3 : 1 ≤ Y) (h4 : Y + 1 < H) : ((X : Int) == 0) = false ∧ ((Y : Int) == 0) = false ∧ ((X : Int) == (W : Int) - 1) = false ∧ ((Y : Int) == (H : Int) - 1) = false := by
  refine ⟨?_, ?_, ?_, ?_⟩ <;> (simp only [beq_eq_false_iff_ne, ne_eq]; omega)
set_option maxRecDepth 100000 in
set_option maxHeartbeats 8000000 in
theorem law_FnErodeImage (a : Option Addr) (len cap : Nat) (w : World) (hw : Byts w a len cap) :
    Calls Try.prog 8 #[.slice a len cap] w fun e w' => e = .returned (.bool true) ∧ Below w.heap.size w w' := by
  have HB := Lib.hid hw; have hm : len ≤ 9223372036854775807 := (by have := hw.1; have := hw.2.1; unfold maxLen at this; omega); clear hw; by_cases hl : 1048576 < len; (go_enter Try.func8, Try.ntmps8; go_wp2_with fail; go_ret; exact ⟨rfl, Below.refl _ _⟩)
  go_enter Try.func8, Try.ntmps8
  go_wp2_with fail
  refine (DrawErodeImage_any _ _ _ _ HB.out).mono ?_
  rintro e w1 ⟨v, ys, rfl, hyl, hyt, S⟩
  go_wp2_with fail
  refine (i_ErodeImage _ ys _ (St.drds S)).mono ?_
  rintro e w2 ⟨o1, rfl, T⟩
  replace S := S.call T
  clear T
  simp only [List.cons_append, List.nil_append] at S
  go_wp2_with fail
  refine (s_ErodeImage _ ys _ (St.drds (St.tail S))).mono ?_
  rintro e w3 ⟨o2, rfl, T⟩
  replace S := S.call T
  clear T
  simp only [List.cons_append, List.nil_append] at S
  obtain ⟨wa, wn, wc, rfl, hwc, hwm, HWN, -⟩ := (St.drds S).rows
  obtain ⟨oa, on, oc, rfl, hoc, hom, HON, -⟩ := (St.drds (St.tail S)).rows
  obtain ⟨va, vn, vc, rfl, hvc, hvm, HVN, -⟩ := (St.drds (St.tail (St.tail S))).rows
  obtain rfl : wn = on := by rw [HWN.out, HON.out]
  go_wp2_with fail
  refine (s_ImageValid _ ys _ (St.drds (St.tail (St.tail S)))).mono ?_
  rintro e w4 ⟨rfl, T⟩
  replace S := S.grow T
  clear T
  cases hB : imgB ys with
  | false =>
    obtain rfl : wn = 0 := by rw [HWN.out, erode_no hB]; rfl
    clear HWN HON HVN
    go_wp2_with (go_at_call 24; refine (alive_any _).mono ?_; rintro e w' ⟨rfl, rfl⟩)
    go_ret
    exact ⟨rfl, S.below⟩
  | true =>
    obtain ⟨hE, hEW, hEH⟩ := erode_ok hB
    have hok := imgB_t.1 hB
    obtain rfl : wn = vn := by rw [HWN.out, HVN.out, hEH]
    obtain ⟨h16, hW16⟩ := imgOk_size hok
    have hn1 : 0 < wn := by have := HVN.out; have := hok.1; omega
    have hn16 : wn ≤ 16 := by have := HVN.out; omega
    have RW := Lib.hid (rows_bool_own (St.drds S) (imgB_t.1 hE))
    have RO := Lib.hid (rows_bool_own (St.drds (St.tail S)) (imgB_t.1 hE))
    have RI := Lib.hid (rows_bool_own (St.drds (St.tail (St.tail S))) hok)
    rw [hEW] at RW RO
    have ER : RowKit.Hid (∀ y x, y < wn → x < (ys.headD []).length → pix (erode ys) x y = true → pix ys x y = true ∧ 1 ≤ x ∧ x + 1 < (ys.headD []).length ∧ 1 ≤ y ∧ y + 1 < wn) := by
      intro y x hy hx hp
      rw [pix_er hB (by have := HVN.out; omega) hx] at hp
      have := er_edge hB hp
      rw [← HVN.out] at this
      exact this
    obtain ⟨W, hW⟩ : ∃ W, (ys.headD []).length = W := ⟨_, rfl⟩
    rw [hW] at RW RO RI ER hW16
    have HBB := Lib.hid hB
    have SH := Lib.hid S
    have HE0 := HON
    clear hB hE hEW hEH hok h16 S HWN hW
    obtain ⟨b, off, c, coff, rc, rfl, hc0, -, -, -⟩ := RO.out 0 hn1
    rw [Nat.add_zero] at hc0
    go_wp2
    go_loopw [6, 7, 8] (fun i _ _ wr => ∃ y q : Nat, y ≤ wn ∧ i = .int .i64 y ∧ wr = w4.drewN q) (fun i _ _ _ => wn - (intOf i).toNat)
    case atStart => exact ⟨0, 0, by omega, rfl, rfl⟩
    case round =>
      obtain ⟨y, q, hy, rfl, rfl⟩ := hrel
      by_cases hlt : y < wn
      · have hyi : (y : Int) < (wn : Int) := by omega
        obtain ⟨b2, off2, c2, coff2, rc2, hb2, hc2, -, -, HC2⟩ := RO.out y hlt
        simp only [Option.some.injEq, Addr.mk.injEq, and_true] at hb2
        obtain ⟨rfl, rfl⟩ := hb2
        obtain ⟨b3, off3, c3, coff3, rc3, rfl, hc3, -, -, HC3⟩ := RW.out y hlt
        obtain ⟨b4, off4, c4, coff4, rc4, rfl, hc4, -, -, HC4⟩ := RI.out y hlt
        go_wp2
        go_loopw [7, 8] (fun i _ wr => ∃ x q : Nat, x ≤ W ∧ i = .int .i64 x ∧ wr = w4.drewN q) (fun i _ _ => W - (intOf i).toNat)
        case atStart => exact ⟨0, q, by omega, rfl, rfl⟩
        case round =>
          obtain ⟨x, q, hx, rfl, rfl⟩ := hrel
          by_cases hlt2 : x < W
          rotate_left
          · obtain rfl : x = W := by omega
            go_wp2
            go_roundw
            case rel => exact ⟨y + 1, q, by omega, by go_num, rfl⟩
            case measure => (simp [intOf]; try omega)
          have hxi : (x : Int) < (W : Int) := by omega
          have v2 := HC2.out x hlt2
          have v3 := HC3.out x hlt2
          have v4 := HC4.out x hlt2
          cases hP : pix (erode ys) x y with
          | false =>
            rw [hP] at v2 v3
            clear hP
            cases z1 : ((x : Int) == 0) with
            | true =>
              go_wp2
              go_quiet (fail)
              go_wp2
              go_roundw
              case rel => exact ⟨x + 1, _, by omega, by go_num, rfl⟩
              case measure => (simp [intOf]; try omega)
            | false =>
              cases z2 : ((y : Int) == 0) with
              | true =>
                go_wp2
                go_quiet (fail)
                go_wp2
                go_roundw
                case rel => exact ⟨x + 1, _, by omega, by go_num, rfl⟩
                case measure => (simp [intOf]; try omega)
              | false =>
                cases z3 : ((x : Int) == (W : Int) - 1) with
                | true =>
                  go_wp2
                  go_quiet (fail)
                  go_wp2
                  go_roundw
                  case rel => exact ⟨x + 1, _, by omega, by go_num, rfl⟩
                  case measure => (simp [intOf]; try omega)
                | false =>
                  cases z4 : ((y : Int) == (wn : Int) - 1) with
                  | true =>
                    go_wp2
                    go_quiet (fail)
                    go_wp2
                    go_roundw
                    case rel => exact ⟨x + 1, _, by omega, by go_num, rfl⟩
                    case measure => (simp [intOf]; try omega)
                  | false =>
                    go_wp2
                    go_quiet (fail)
                    go_wp2
                    go_roundw
                    case rel => exact ⟨x + 1, _, by omega, by go_num, rfl⟩
                    case measure => (simp [intOf]; try omega)
          | true =>
            obtain ⟨p1, p2, p3, p4, p5⟩ := ER.out y x hlt hlt2 hP
            rw [hP] at v2 v3
            rw [p1] at v4
            obtain ⟨z1, z2, z3, z4⟩ := edge_not p2 p3 p4 p5
            clear hP p1
            go_wp2
            go_quiet (fail)
            go_wp2
            go_roundw
            case rel => exact ⟨x + 1, _, by omega, by go_num, rfl⟩
            case measure => (simp [intOf]; try omega)
      obtain rfl : y = wn := by omega
      have S := SH.out.tail.drewN q
      clear hc0 SH RW RO RI ER
      go_wp2
      go_loopw [4, 9] (fun o i wr => ∃ j : Nat, j ≤ 8 ∧ i = .int .i64 j ∧ St w wr (DOwn LSB DB o (erN (j + 1) ys) :: [DOwn LSB DB (.slice va y vc) ys])) (fun _ i _ => 8 - (intOf i).toNat)
      case atStart => exact ⟨0, by omega, rfl, S⟩
      case round =>
        obtain ⟨j, hj, rfl, S⟩ := hrel
        by_cases hlt3 : j < 8
        · go_wp2_with fail
          refine (i_ErodeImage _ _ _ (St.drds S)).mono ?_
          rintro e w7 ⟨o7, rfl, T⟩
          have S7 : St w w7 (DOwn LSB DB o7 (erN (j + 1 + 1) ys) :: [DOwn LSB DB (.slice va y vc) ys]) := St.tail (St.swap (S.call T))
          clear T S
          go_wp2
          go_roundw
          case rel => exact ⟨j + 1, by omega, by go_num, S7⟩
          case measure => (simp [intOf]; try omega)
        obtain rfl : j = 8 := by omega
        have hL := (erN_ok HBB.out 9).2.2
        obtain ⟨qa, qn, qc, rfl, -, -, HQN, -⟩ := (St.drds S).rows
        obtain rfl : qn = y := by rw [HQN.out, HVN.out]; exact hL
        go_wp2_with fail
        refine (i_FindBlobs _ _ _ (St.drds S)).mono ?_
        rintro e w7 ⟨o7, rfl, T⟩
        rw [show blobs (erN (8 + 1) ys) = [] from erN_nine HBB.out] at T
        obtain ⟨fa, fn, fc, rfl, -, -, HFN, -⟩ := LBlb_get (St.own T)
        obtain rfl : fn = 0 := HFN.out
        replace S := S.grow T.gb
        clear T HFN HQN HVN
        go_wp2
        go_ret
        exact ⟨rfl, S.below⟩
end Go.Proofs.Ytpkcpkhanodnmaa
namespace Go.Proofs.Ytpkcpkhanodnmaa.fnErodeImageDone
open Go Go.ChangeShapes Go.WideShapes Go.ChangeAt Go.RowKit Go.Proofs.Ytpkcpkhanodnmaa
set_option linter.unusedVariables false
theorem own : ownKnob Try.prog.godebug = none := by kernel_rfl
theorem laidOut : laidOutB Try.prog = true := by kernel_rfl
set_option maxRecDepth 100000 in
theorem lifted (os : Os) (started : os.Started) (H : Type) (enc : TypeId × Value → H) :
    ReturnsInHanded {} Try.checked os 8 .any (Rows.fnErodeImageSpec.pre6 enc Try.prog Try.f8 Rows.fnErodeImageRow.domain false) (Rows.fnErodeImageSpec.post enc Try.prog Try.f8 false true false false) := by
  refine returnsInHanded_of_change (C := Try.checked) own started (by kernel_rfl) Try.func8
    (ChangeSpec.witness6 (enc := enc) (C := Try.checked) false ⟨#[], #[.slice none 0 0], []⟩ 8 (by kernel_rfl) (by kernel_rfl) (by kernel_rfl) (by kernel_rfl)) ?_
  intro W base args ds gs before hval0 hW hcnd _
  have hval : ∀ (j : Nat) t v, Try.f8.params[j]? = some t → args[j]? = some v → Value.okWide Try.prog W .any base t v := hval0
  have hW' := hW
  obtain ⟨p, q, hA0, hV, rfl, hfz, hnd⟩ := hW
  have hA : DataW.TrodAll enc Try.prog W 0 (fun _ => true) true Try.f8.params.toList args.toList ds p := hA0
  rw [Try.params8] at hA hval
  obtain ⟨v0, vs0, d0, ds0, p0, q0, hargs, rfl, rfl, h0, r0⟩ := trodAll_cons hA
  obtain ⟨rfl, rfl, rfl⟩ := trodAll_nil r0
  obtain rfl : args = #[v0] := by cases args; simp_all
  obtain ⟨rfl, rfl⟩ := trodVars_none hV
  obtain ⟨a0, len0, cap0, rfl⟩ := okWide_slice Try.underlying36 (hval 0 36 v0 rfl rfl)
  have k0 := h0
  have lt0 : ∀ x ∈ p0, x.block < W.heap.size := by obtain ⟨m, hm⟩ := k0; exact DataW.trod_lt m _ _ _ hm
  have w0 : Byts W a0 len0 cap0 := by
    obtain ⟨fuel, hf⟩ := h0
    rcases open_ints Try.underlying36 Try.underlying5 (by kernel_rfl) hf with ⟨hcs, _⟩ | ⟨x, l, c, zs, hcs, _, hl, hm, hz, _, hcell, hwz⟩
    · simp [Value.cells] at hcs
      obtain ⟨rfl, rfl, rfl⟩ := hcs
      exact byts_nil W
    · simp [Value.cells] at hcs
      obtain ⟨rfl, rfl, rfl⟩ := hcs
      exact byts_of hl hm (by simpa using hz) hcell hwz
  clear hA0 hval0
  refine (law_FnErodeImage a0 len0 cap0 W w0).mono fun e W' ⟨he, bel⟩ => ?_
  subst he
  exact ⟨_, rfl, _, _, _, [], _, [], hW', trodAll_mk1 (shut_bool Try.underlying4 _), (trodAll_cons_mk (Below.trod laidOut (by kernel_rfl) (of_decide_eq_true (by kernel_rfl)) k0 bel lt0) trodAll_mk0), rfl, bel.frame _, fun h => by cases h⟩
theorem over : Rows.fnErodeImageRow.holds Try.pinned (OpenSpec.ofChange Rows.fnErodeImageSpec) :=
  OpenClaim.holds_of_wide 8 Try.f8 rfl rfl rfl rfl rfl rfl rfl ⟨rfl, rfl, rfl, rfl, rfl⟩ rfl rfl rfl rfl rfl (by kernel_rfl) Try.func8 (by kernel_rfl)
    (of_decide_eq_true (by kernel_rfl)) (by unfold Func.isWrapper; first | (rw [if_pos (by decide +kernel)]; kernel_rfl) | (rw [if_neg (by decide +kernel)]; exact ⟨rfl, rfl⟩))
    (fun os started H enc _ => lifted os started H enc)
theorem proved : Rows.FnErodeImageSaid := over
#print axioms proved
end Go.Proofs.Ytpkcpkhanodnmaa.fnErodeImageDone
