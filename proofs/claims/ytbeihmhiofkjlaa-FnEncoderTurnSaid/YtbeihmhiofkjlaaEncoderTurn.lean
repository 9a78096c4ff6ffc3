/-
  FnEncoderTurn: for every code the law on full turns of the signals returns true; nothing that was there is written. No condition.
-/
import Derived.Test.YtbeihmhiofkjlaaEncPlain
import Derived.Test.YtbeihmhiofkjlaaCountDraw
import Derived.Test.YtbeihmhiofkjlaaBridge
import Derived.Test.YtbeihmhiofkjlaaLoc
import Derived.Test.YtbeihmhiofkjlaaRows
import Derived.ProofKit
import Derived.OpenShut
import Derived.ShutString
import Derived.ChangeOld
namespace Go.Proofs.Ytbeihmhiofkjlaa
open Go Go.RowKit
set_option linter.unusedVariables false
set_option maxHeartbeats 8000000 in
theorem law_FnEncoderTurn (a : Option Addr) (len cap : Nat) (w : World) (hw : Byts w a len cap) :
    Calls Try.prog 10 #[.slice a len cap] w fun e w' => e = .returned (.bool true) ∧ Below w.heap.size w w' := by
  have HB := Lib.hid hw; have hm : len ≤ 9223372036854775807 := (by have := hw.1; have := hw.2.1; unfold maxLen at this; omega); clear hw; by_cases hl : 1048576 < len; (go_enter Try.func10, Try.ntmps10; go_wp2_with fail; go_ret; exact ⟨rfl, Below.refl _ _⟩)
  go_enter Try.func10, Try.ntmps10
  go_wp2_with fail
  refine (DrawCountEncoder_any _ _ _ _ HB.out).mono ?_
  rintro e w1 ⟨f, u, xs, rfl, ⟨f0, f1⟩, o1, hx, g1⟩
  have S := (St.refl w).ofI o1 g1
  obtain ⟨ua, un, uc, rfl, -, -, HUN, -⟩ := ints_at (St.own S)
  have hun : un ≤ 20 := by have := HUN.out; omega
  obtain ⟨T, hT⟩ : ∃ T : Nat, 1 + (un : Int) % 9 = (T : Int) := ⟨(1 + (un : Int) % 9).toNat, by omega⟩
  have hT1 : 1 ≤ T := by omega
  have hT9 : T ≤ 9 := by omega
  have HT := Lib.hid hT
  have hm0 : 0 ≤ (un : Int) % 9 := by omega
  have hm8 : (un : Int) % 9 ≤ 8 := by omega
  obtain ⟨H, hH⟩ : ∃ H, H = w1.heap.size := ⟨_, rfl⟩
  have S1 := (St.tail S).loc #[.int .i64 0, .int .i64 1, .int .i64 3, .int .i64 2] 3
  rw [← hH] at S1
  have HH := Lib.hid hH
  obtain ⟨wl, hwl⟩ : ∃ wl, wl = w1.alloc (.cells #[.int .i64 0, .int .i64 1, .int .i64 3, .int .i64 2] 3) := ⟨_, rfl⟩
  rw [← hwl] at S1
  have CL : RowKit.Hid (∀ w' Ms, St w w' (Loc H 3 #[.int .i64 0, .int .i64 1, .int .i64 3, .int .i64 2] :: Ms) → ∀ k, k < 4 → w'.cell? ⟨H, k, none⟩ = some (.int .i64 (ord4 k))) := by
    intro w' Ms Q k hk
    rcases (show k = 0 ∨ k = 1 ∨ k = 2 ∨ k = 3 by omega) with rfl | rfl | rfl | rfl <;> exact St.locCell Q _ _ rfl
  have HWL := Lib.hid hwl
  clear o1 g1 hx hT hH hwl HUN S
  go_wp2_with fail
  rw [HT.out, ← HWL.out, ← HH.out]
  clear hm0 hm8 HT HWL HH
  have hc1 := Lib.hid (CL.out wl [] S1)
  go_loop [7, 8] (fun at_ i => ∃ k A : Nat, k ≤ 4 ∧ A ≤ 3 ∧ i = .int .i64 k ∧ at_ = .int .i64 A) (fun _ i => 4 - (intOf i).toNat)
  case atStart => exact ⟨0, 0, by omega, by omega, rfl, rfl⟩
  case round =>
    obtain ⟨k, A, hk, hA, rfl, rfl⟩ := hrel
    by_cases hlt : k < 4
    · have hc := hc1.out k hlt
      have i0 : (k : Int) < 4 := by omega
      by_cases hf : ord4 k = f
      · have hf' : (ord4 k == f) = true := by simpa using hf
        go_wp2
        go_round
        case rel => exact ⟨k + 1, k, by omega, by omega, by go_num, rfl⟩
        case measure => simp [intOf]; omega
      · have hf' : (ord4 k == f) = false := by simpa using hf
        go_wp2
        go_round
        case rel => exact ⟨k + 1, A, by omega, by omega, by go_num, rfl⟩
        case measure => simp [intOf]; omega
    obtain rfl : k = 4 := by omega
    have S2 := ((S1.ownEmpty LI).ownEmptyAt LI (wl.heap.size + 1) (by simp)).swap
    clear hc1
    go_wp2
    go_loopw [9, 10, 11] (fun up dn i wr => ∃ j : Nat, j ≤ 4 * T ∧ i = .int .i64 ((j : Int) + 1) ∧ St w wr [Own LI up (ups A 1 j), Own LI dn (ups A 3 j), Loc H 3 #[.int .i64 0, .int .i64 1, .int .i64 3, .int .i64 2]]) (fun _ _ i _ => 4 * T + 1 - (intOf i).toNat)
    case atStart => exact ⟨0, by omega, rfl, S2⟩
    case round =>
      obtain ⟨j, hj, rfl, S3⟩ := hrel
      clear S1 S2
      by_cases hlt : j < 4 * T
      · obtain ⟨X, hX⟩ : ∃ X, X = (A + 1 * (j + 1)) % 4 := ⟨_, rfl⟩
        obtain ⟨Y, hY⟩ : ∃ Y, Y = (A + 3 * (j + 1)) % 4 := ⟨_, rfl⟩
        have cX := CL.out _ _ (St.rot S3) X (by omega)
        obtain ⟨Z1, hZ1⟩ : ∃ Z, Z = ord4 (A + 1 * (j + 1)) := ⟨_, rfl⟩
        obtain ⟨Z2, hZ2⟩ : ∃ Z, Z = ord4 (A + 3 * (j + 1)) := ⟨_, rfl⟩
        rw [show ord4 X = Z1 by rw [hX, ord4_mod, hZ1]] at cX
        have HY2 : RowKit.Hid (ord4 Y = Z2) := by show _ = _; rw [hY, ord4_mod, hZ2]
        have HZ1 := Lib.hid hZ1
        have HZ2 := Lib.hid hZ2
        clear hZ1 hZ2
        have e1 : ((A : Int) + ((j : Int) + 1)) % 4 = (X : Int) := by omega
        have e2 : ((A : Int) + 3 * ((j : Int) + 1)) % 4 = (Y : Int) := by omega
        have hX4 : (X : Int) < 4 := by omega
        have hY4 : (Y : Int) < 4 := by omega
        have hX0 : (0 : Int) ≤ X := by omega
        have hY0 : (0 : Int) ≤ Y := by omega
        have hYY : Y < 4 := by omega
        have HY := Lib.hid hY
        have hj40 : j ≤ 40 := by omega
        have hju : (ups A 1 j).length ≤ 1000000000 := by rw [ups_len]; omega
        have hjd : (ups A 3 j).length ≤ 1000000000 := by rw [ups_len]; omega
        clear hX hY
        go_wp2_with (first
          | (at_builtin; refine wpList_app1 LI_info rfl _ _ rfl S3 Z1 #[.int .i64 Z1] rfl rfl rfl hju ?_; intro v4 w4 S4; have cY := CL.out _ _ (St.rot S4) Y hYY; rw [HY2.out] at cY; have S5 := St.swap S4; clear S4)
          | (at_builtin; refine wpList_app1 LI_info rfl _ _ rfl S5 Z2 #[.int .i64 Z2] rfl rfl rfl hjd ?_; intro v5 w5 S6))
        have S7 := St.swap S6
        rw [HZ1.out, HZ2.out, ← ups_succ, ← ups_succ] at S7
        clear S6 S5 e1 e2
        go_roundw
        case rel => exact ⟨j + 1, by omega, by go_num, S7⟩
        case measure => simp [intOf]; omega
      · obtain rfl : j = 4 * T := by omega
        have cA := CL.out _ _ (St.rot S3) A (by omega)
        have i0 : (0 : Int) ≤ A := by omega
        have i1 : (A : Int) < 4 := by omega
        have E1 := Lib.hid (show encC (ord4 A) (ups A 1 (4 * T)) = (4 * (T : Int), 0) by rw [enc_up _ _ (by omega)]; simp)
        have E2 := Lib.hid (show encC (ord4 A) (ups A 3 (4 * T)) = (-4 * (T : Int), 0) by rw [enc_down _ _ (by omega)]; simp; omega)
        go_wp2_with fail
        refine (i_CountEncoder _ _ _ _ (St.own S3).ints).mono ?_
        rintro e w6 ⟨rfl, T1⟩
        rw [E1.out]
        have cA6 := gb_cell T1 cA (by simp)
        replace S3 := S3.grow T1
        clear T1 cA
        go_wp2_with fail
        refine (i_CountEncoder _ _ _ _ (St.own (St.tail S3)).ints).mono ?_
        rintro e w7 ⟨rfl, T1⟩
        rw [E2.out]
        have cA7 := gb_cell T1 cA6 (by simp)
        replace S3 := S3.grow T1
        clear T1 cA6
        go_wp2_with fail
        refine (s_CountEncoder _ _ _ _ (St.own S3).ints).mono ?_
        rintro e w8 ⟨rfl, T1⟩
        rw [E1.out]
        replace S3 := S3.grow T1
        clear T1 cA7
        go_wp2
        go_ret
        exact ⟨rfl, S3.below⟩
end Go.Proofs.Ytbeihmhiofkjlaa
namespace Go.Proofs.Ytbeihmhiofkjlaa.fnEncoderTurnDone
open Go Go.ChangeShapes Go.WideShapes Go.ChangeAt Go.RowKit Go.Proofs.Ytbeihmhiofkjlaa
set_option linter.unusedVariables false
theorem own : ownKnob Try.prog.godebug = none := by kernel_rfl
theorem laidOut : laidOutB Try.prog = true := by kernel_rfl
set_option maxRecDepth 100000 in
theorem lifted (os : Os) (started : os.Started) (H : Type) (enc : TypeId × Value → H) :
    ReturnsInHanded {} Try.checked os 10 .any (Rows.fnEncoderTurnSpec.pre6 enc Try.prog Try.f10 Rows.fnEncoderTurnRow.domain false) (Rows.fnEncoderTurnSpec.post enc Try.prog Try.f10 false true false false) := by
  refine returnsInHanded_of_change (C := Try.checked) own started (by kernel_rfl) Try.func10
    (ChangeSpec.witness6 (enc := enc) (C := Try.checked) false ⟨#[], #[.slice none 0 0], []⟩ 8 (by kernel_rfl) (by kernel_rfl) (by kernel_rfl) (by kernel_rfl)) ?_
  intro W base args ds gs before hval0 hW hcnd _
  have hval : ∀ (j : Nat) t v, Try.f10.params[j]? = some t → args[j]? = some v → Value.okWide Try.prog W .any base t v := hval0
  have hW' := hW
  obtain ⟨p, q, hA0, hV, rfl, hfz, hnd⟩ := hW
  have hA : DataW.TrodAll enc Try.prog W 0 (fun _ => true) true Try.f10.params.toList args.toList ds p := hA0
  rw [Try.params10] at hA hval
  obtain ⟨v0, vs0, d0, ds0, p0, q0, hargs, rfl, rfl, h0, r0⟩ := trodAll_cons hA
  obtain ⟨rfl, rfl, rfl⟩ := trodAll_nil r0
  obtain rfl : args = #[v0] := by cases args; simp_all
  obtain ⟨rfl, rfl⟩ := trodVars_none hV
  obtain ⟨a0, len0, cap0, rfl⟩ := okWide_slice Try.underlying26 (hval 0 26 v0 rfl rfl)
  have k0 := h0
  have lt0 : ∀ x ∈ p0, x.block < W.heap.size := by obtain ⟨m, hm⟩ := k0; exact DataW.trod_lt m _ _ _ hm
  have w0 : Byts W a0 len0 cap0 := by
    obtain ⟨fuel, hf⟩ := h0
    rcases open_ints Try.underlying26 Try.underlying5 (by kernel_rfl) hf with ⟨hcs, _⟩ | ⟨x, l, c, zs, hcs, _, hl, hm, hz, _, hcell, hwz⟩
    · simp [Value.cells] at hcs
      obtain ⟨rfl, rfl, rfl⟩ := hcs
      exact byts_nil W
    · simp [Value.cells] at hcs
      obtain ⟨rfl, rfl, rfl⟩ := hcs
      exact byts_of hl hm (by simpa using hz) hcell hwz
  clear hA0 hval0
  refine (law_FnEncoderTurn a0 len0 cap0 W w0).mono fun e W' ⟨he, bel⟩ => ?_
  subst he
  exact ⟨_, rfl, _, _, _, [], _, [], hW', trodAll_mk1 (shut_bool Try.underlying4 _), (trodAll_cons_mk (Below.trod laidOut (by kernel_rfl) (of_decide_eq_true (by kernel_rfl)) k0 bel lt0) trodAll_mk0), rfl, bel.frame _, fun h => by cases h⟩
theorem over : Rows.fnEncoderTurnRow.holds Try.pinned (OpenSpec.ofChange Rows.fnEncoderTurnSpec) :=
  OpenClaim.holds_of_wide 10 Try.f10 rfl rfl rfl rfl rfl rfl rfl ⟨rfl, rfl, rfl, rfl, rfl⟩ rfl rfl rfl rfl rfl (by kernel_rfl) Try.func10 (by kernel_rfl)
    (of_decide_eq_true (by kernel_rfl)) (by unfold Func.isWrapper; first | (rw [if_pos (by decide +kernel)]; kernel_rfl) | (rw [if_neg (by decide +kernel)]; exact ⟨rfl, rfl⟩))
    (fun os started H enc _ => lifted os started H enc)
theorem proved : Rows.FnEncoderTurnSaid := over
#print axioms proved
end Go.Proofs.Ytbeihmhiofkjlaa.fnEncoderTurnDone
