/-
  FnFindBlobs: for every code the law on the sets of pictures returns true; nothing that was there is written. No condition.
-/
import Derived.Test.YtpkcpkhanodnmaaImgDraws
import Derived.Test.YtpkcpkhanodnmaaBlobsR
import Derived.Test.YtpkcpkhanodnmaaBlobLaw2
import Derived.Test.YtpkcpkhanodnmaaRowsAt
import Derived.Test.YtpkcpkhanodnmaaOpen
import Derived.Test.YtpkcpkhanodnmaaRows
import Derived.ProofKit
import Derived.OpenShut
import Derived.ShutString
import Derived.ChangeOld
namespace Go.Proofs.Ytpkcpkhanodnmaa
open Go Go.RowKit
set_option linter.unusedVariables false
attribute [local go_sem ↓] run_max_int2
theorem szs_bd : ∀ (st : List Blb), (∀ b ∈ st, BFin b) → 0 ≤ szs st ∧ szs st ≤ 256 * (st.length : Int)
  | [], _ => by simp [szs]
  | a :: st, h => by
    have h1 := szs_bd st (fun b hb => h b (List.mem_cons_of_mem _ hb))
    have h2 := (h a List.mem_cons_self).size
    simp only [szs, List.map_cons, List.sum_cons, List.length_cons] at *
    omega
theorem szs_take_bd {st : List Blb} (h : ∀ b ∈ st, BFin b) (hl : st.length ≤ 1000) (k : Nat) : -300000 ≤ szs st - szs (st.take k) ∧ szs st - szs (st.take k) ≤ 300000 := by
  have h1 := szs_bd st h
  have h2 := szs_bd (st.take k) (fun b hb => h b (List.mem_of_mem_take hb))
  have h3 : (st.take k).length ≤ 1000 := by rw [List.length_take]; omega
  omega
/-- The products that the law forms. -/
theorem fin_prods {b : Blb} (h : BFin b) : (0 ≤ (b.Right - b.Left + 1) * (b.Bottom - b.Top + 1) ∧ (b.Right - b.Left + 1) * (b.Bottom - b.Top + 1) ≤ 256) ∧ (0 ≤ b.Left * b.Size ∧ b.Left * b.Size ≤ 4096) ∧ (0 ≤ b.Right * b.Size ∧ b.Right * b.Size ≤ 4096) ∧ (0 ≤ b.Top * b.Size ∧ b.Top * b.Size ≤ 4096) ∧ (0 ≤ b.Bottom * b.Size ∧ b.Bottom * b.Size ≤ 4096) := by
  obtain ⟨⟨s1, s2⟩, ⟨l1, l2, l3⟩, ⟨t1, t2, t3⟩, -, -, -, -, -⟩ := h
  have m : ∀ a c x y : Int, 0 ≤ a → 0 ≤ c → a ≤ x → c ≤ y → 0 ≤ a * c ∧ a * c ≤ x * y := fun a c x y h1 h2 h3 h4 =>
    ⟨Int.mul_nonneg h1 h2, Int.mul_le_mul h3 h4 h2 (by omega)⟩
  refine ⟨m _ _ 16 16 (by omega) (by omega) (by omega) (by omega), ?_, ?_, ?_, ?_⟩ <;> exact m _ _ 16 256 (by omega) (by omega) (by omega) (by omega)
theorem get_of_eq {α : Type} {xs : List α} {k : Nat} {x y : α} (h : xs[k]? = some x) (h2 : xs[k]? = some y) : x = y := by rw [h] at h2; exact Option.some.inj h2
set_option maxRecDepth 100000 in
set_option maxHeartbeats 8000000 in
theorem law_FnFindBlobs (a : Option Addr) (len cap : Nat) (w : World) (hw : Byts w a len cap) :
    Calls Try.prog 11 #[.slice a len cap] w fun e w' => e = .returned (.bool true) ∧ Below w.heap.size w w' := by
  have HB := Lib.hid hw; have hm : len ≤ 9223372036854775807 := (by have := hw.1; have := hw.2.1; unfold maxLen at this; omega); clear hw; by_cases hl : 1048576 < len; (go_enter Try.func11, Try.ntmps11; go_wp2_with fail; go_ret; exact ⟨rfl, Below.refl _ _⟩)
  go_enter Try.func11, Try.ntmps11
  go_wp2_with fail
  refine (DrawFindBlobs_any _ _ _ _ HB.out).mono ?_
  rintro e w1 ⟨v, ys, rfl, hyl, hyt, S⟩
  go_wp2_with fail
  refine (i_FindBlobs _ ys _ (St.drds S)).mono ?_
  rintro e w2 ⟨o1, rfl, T⟩
  replace S := S.call T
  clear T
  simp only [List.cons_append, List.nil_append] at S
  go_wp2_with fail
  refine (s_FindBlobs _ ys _ (St.drds (St.tail S))).mono ?_
  rintro e w3 ⟨o2, rfl, T⟩
  replace S := S.call T
  clear T
  simp only [List.cons_append, List.nil_append] at S
  obtain ⟨wa, wn, wc, rfl, hwc, hwm, HWN, -⟩ := LBlb_get (St.own S)
  obtain ⟨ia, iN, ic, rfl, hic, him, HIN, -⟩ := LBlb_get (St.own (St.tail S))
  obtain rfl : wn = iN := by rw [HWN.out, HIN.out]
  go_wp2_with fail
  refine (i_LabelImage _ ys _ (St.drds (St.tail (St.tail S)))).mono ?_
  rintro e w4 ⟨o3, rfl, T⟩
  replace S := S.call T
  clear T
  simp only [List.cons_append, List.nil_append] at S
  obtain ⟨la, ln, lc, rfl, hlc, hlm, HLN, -⟩ := (St.drds S).rows
  cases hB : imgB ys with
  | false =>
    obtain rfl : ln = 0 := by rw [HLN.out, labels_no hB]; rfl
    obtain rfl : wn = 0 := by rw [HWN.out, blobs_no hB]; rfl
    have SB := Lib.hid S.below
    clear HLN HWN HIN S hB
    go_wp2
    go_loop [6, 7, 9, 10] (fun m t i _ => m = .int .i64 0 ∧ t = .int .i64 0 ∧ i = .int .i64 0) (fun _ _ _ _ => 0)
    case atStart => exact ⟨rfl, rfl, rfl⟩
    case round =>
      obtain ⟨rfl, rfl, rfl⟩ := hrel
      go_wp2
      go_loop [7, 11, 12] (fun t i _ => t = .int .i64 0 ∧ i = .int .i64 0) (fun _ _ _ => 0)
      case atStart => exact ⟨rfl, rfl⟩
      case round =>
        obtain ⟨rfl, rfl⟩ := hrel
        go_wp2_with (go_at_call 24; refine (alive_any _).mono ?_; rintro e w' ⟨rfl, rfl⟩)
        go_ret
        exact ⟨rfl, SB.out⟩
  | true =>
    obtain ⟨B, hBB⟩ : ∃ B, blobs ys = B := ⟨_, rfl⟩
    have hok := imgB_t.1 hB
    obtain rfl : ln = ys.length := by rw [HLN.out, labels_yes hB]; exact (labY_dims ys ys.length).1
    have hn16 := (imgOk_dims hok).1
    have hW16 := (imgOk_dims hok).2
    have FIN : RowKit.Hid (∀ b ∈ B, BFin b) := by show ∀ b ∈ B, BFin b; rw [← hBB]; exact blobs_fin
    have hBl : B.length ≤ 1000 := by rw [← hBB]; exact blobs_len ys
    have BYS : RowKit.Hid (blobY ys (labels ys) ys.length = B) := by show _ = _; rw [← hBB, blobs_yes hB]
    rw [hBB] at S HWN HIN
    have RL := Lib.hid (rows_lab_own (St.drds S) hB)
    have STEP : RowKit.Hid (∀ y x, y < ys.length → x < (ys.headD []).length → ((blobX (labels ys) y (blobY ys (labels ys) y) (x + 1)).length : Int) = max ((blobX (labels ys) y (blobY ys (labels ys) y) x).length : Int) (gr (labels ys) x y) ∧
      szs (blobX (labels ys) y (blobY ys (labels ys) y) (x + 1)) = szs (blobX (labels ys) y (blobY ys (labels ys) y) x) + (if 0 < gr (labels ys) x y then 1 else 0)) := fun y x hy hx => blob_step hB hy hx
    have NUM : RowKit.Hid (∀ y x, y < ys.length → x < (ys.headD []).length → 0 ≤ gr (labels ys) x y) := fun y x hy hx => (blob_num hB hy hx).1
    have LBD : RowKit.Hid (∀ y x, y < ys.length → x ≤ (ys.headD []).length → (blobX (labels ys) y (blobY ys (labels ys) y) x).length ≤ 1000) := by
      intro y x hy hx
      rw [blobX_num hB hy (blobY_num hB y (by omega)) x hx]
      have h1 := labX_num ys y (labY ys y) x
      have h2 := labY_num hok y
      omega
    obtain ⟨H, hH⟩ : ∃ H, ys.length = H := ⟨_, rfl⟩
    obtain ⟨W, hW⟩ : ∃ W, (ys.headD []).length = W := ⟨_, rfl⟩
    have ROW : RowKit.Hid (∀ y, blobY ys (labels ys) (y + 1) = blobX (labels ys) y (blobY ys (labels ys) y) W) := fun y => by rw [← hW]; rfl
    rw [hH] at hn16 RL STEP NUM LBD BYS
    rw [hW] at hW16 RL STEP NUM LBD
    rw [hH]
    have SH := Lib.hid S
    rw [hH] at SH
    have SB := Lib.hid S.below
    clear HLN hok hBB hB S hH hW
    go_wp2
    go_loop [6, 7, 9, 10] (fun m t i _ => ∃ (y M T : Nat), y ≤ H ∧ i = .int .i64 y ∧ m = .int .i64 M ∧ t = .int .i64 T ∧ T ≤ 16 * y ∧ RowKit.Hid (M = (blobY ys (labels ys) y).length) ∧ RowKit.Hid ((T : Int) = szs (blobY ys (labels ys) y))) (fun _ _ i _ => H - (intOf i).toNat)
    case atStart => exact ⟨0, 0, 0, by omega, rfl, rfl, rfl, by omega, rfl, rfl⟩
    case round =>
      obtain ⟨y, M, T, hy, rfl, rfl, rfl, hT, HM, HT⟩ := hrel
      by_cases hlt : y < H
      · have hyi : (y : Int) < (H : Int) := by omega
        obtain ⟨b2, off2, c2, coff2, rc2, rfl, hc2, hrc2, hrm2, H2⟩ := RL.out y hlt
        go_wp2
        go_loop [6, 7, 10] (fun m t i => ∃ (x M T : Nat), x ≤ W ∧ i = .int .i64 x ∧ m = .int .i64 M ∧ t = .int .i64 T ∧ T ≤ 16 * y + x ∧ RowKit.Hid (M = (blobX (labels ys) y (blobY ys (labels ys) y) x).length) ∧ RowKit.Hid ((T : Int) = szs (blobX (labels ys) y (blobY ys (labels ys) y) x))) (fun _ _ i => W - (intOf i).toNat)
        case atStart => exact ⟨0, M, T, by omega, rfl, rfl, rfl, by omega, HM, HT⟩
        case round =>
          clear HM HT hT
          obtain ⟨x, M, T, hx, rfl, rfl, rfl, hT, HM, HT⟩ := hrel
          by_cases hlt2 : x < W
          rotate_left
          · obtain rfl : x = W := by omega
            have HM2 : RowKit.Hid (M = (blobY ys (labels ys) (y + 1)).length) := by show _ = _; rw [ROW.out]; exact HM.out
            have HT2 : RowKit.Hid ((T : Int) = szs (blobY ys (labels ys) (y + 1))) := by show _ = _; rw [ROW.out]; exact HT.out
            go_wp2
            go_round
            case rel => exact ⟨y + 1, M, T, by omega, by go_num, rfl, rfl, by omega, HM2, HT2⟩
            case measure => (simp [intOf]; try omega)
          have hM3 : M ≤ 1000 := by have := LBD.out y x hlt hx; have := HM.out; omega
          have v2 := H2.out x hlt2
          obtain ⟨q3, q4⟩ := STEP.out y x hlt hlt2
          have q2 := NUM.out y x hlt hlt2
          rw [← HM.out] at q3
          rw [← HT.out] at q4
          obtain ⟨N, hN⟩ : ∃ N, N = gr (labels ys) x y := ⟨_, rfl⟩
          rw [← hN] at v2 q2 q3 q4
          obtain ⟨n, rfl⟩ := Int.eq_ofNat_of_zero_le q2
          obtain ⟨M', hM'⟩ : ∃ M' : Nat, (M' : Int) = max (M : Int) (n : Int) := ⟨max M n, by omega⟩
          have HM' : RowKit.Hid (M' = (blobX (labels ys) y (blobY ys (labels ys) y) (x + 1)).length) := by show _ = _; omega
          have hmx := hM'.symm
          have hxi : (x : Int) < (W : Int) := by omega
          clear hM' q3 HM q2 hN
          by_cases hn0 : n = 0
          · subst hn0
            have HT' : RowKit.Hid ((T : Int) = szs (blobX (labels ys) y (blobY ys (labels ys) y) (x + 1))) := by show _ = _; rw [q4, if_neg (by simp)]; omega
            clear q4
            go_wp2
            go_round
            case rel => exact ⟨x + 1, M', T, by omega, by go_num, by go_num, rfl, by omega, HM', HT'⟩
            case measure => (simp [intOf]; try omega)
          · have hn1 : (0 : Int) < (n : Int) := by omega
            have HT' : RowKit.Hid (((T + 1 : Nat) : Int) = szs (blobX (labels ys) y (blobY ys (labels ys) y) (x + 1))) := by show _ = _; rw [q4, if_pos hn1]; omega
            clear q4 hn0
            go_wp2
            go_round
            case rel => exact ⟨x + 1, M', T + 1, by omega, by go_num, by go_num, by go_num, by omega, HM', HT'⟩
            case measure => (simp [intOf]; try omega)
      obtain rfl : y = H := by omega
      have hMB : M = wn := by rw [HM.out, BYS.out, HWN.out]
      have hTB : RowKit.Hid ((T : Int) = szs B - szs (B.take 0)) := by show _ = _; rw [HT.out, BYS.out]; simp [szs]
      subst hMB
      have hMi : M ≤ 1000 := by have := HWN.out; omega
      clear HM HT hT
      go_wp2
      go_loopw [7, 11, 12] (fun t i _ wr => ∃ (k : Nat) (T : Int), k ≤ M ∧ i = .int .i64 k ∧ t = .int .i64 T ∧ RowKit.Hid (T = szs B - szs (B.take k)) ∧ w4.grownBy wr none) (fun _ i _ _ => M - (intOf i).toNat)
      case atStart => exact ⟨0, T, by omega, rfl, rfl, hTB, World.grownBy.refl _ _⟩
      case round =>
        clear hTB
        obtain ⟨k, T, hk, rfl, rfl, HT, hg⟩ := hrel
        by_cases hlt : k < M
        rotate_left
        · obtain rfl : k = M := by omega
          obtain rfl : T = 0 := by rw [HT.out, HWN.out, List.take_length]; omega
          clear HT
          go_wp2_with (go_at_call 24; refine (alive_any _).mono ?_; rintro e w' ⟨rfl, rfl⟩)
          go_ret
          exact ⟨rfl, gb_below (gb_trans (below_gb SB.out) hg)⟩
        have S := SH.out.grow hg
        obtain ⟨wa', wn', wc', hv', -, -, -, HWC⟩ := LBlb_get (St.own (St.tail S))
        simp only [Value.slice.injEq] at hv'
        obtain ⟨rfl, rfl, rfl⟩ := hv'
        obtain ⟨ia', in', ic', hv', -, -, -, HIC⟩ := LBlb_get (St.own (St.tail (St.tail S)))
        simp only [Value.slice.injEq] at hv'
        obtain ⟨rfl, rfl, rfl⟩ := hv'
        obtain ⟨b, off, q, rfl, hb, hq, d0, d1, d2, d3, d4, d5, d6⟩ := HWC.out k hlt
        obtain ⟨b', off', q', rfl, hb', hq', e0, e1, e2, e3, e4, e5, e6⟩ := HIC.out k hlt
        obtain rfl : q = q' := get_of_eq hq.out hq'.out
        have F := FIN.out q (List.mem_of_getElem? hq.out)
        obtain ⟨⟨p1, p2⟩, ⟨p3, p4⟩, ⟨p5, p6⟩, ⟨p7, p8⟩, p9, p10⟩ := fin_prods F
        obtain ⟨⟨f1, f2⟩, ⟨f3, f4, f5⟩, ⟨f6, f7, f8⟩, ⟨f9, f10⟩, ⟨f11, f12⟩, ⟨f13, f14, f15, f16⟩, -, f17⟩ := F
        have hkB : k < B.length := by rw [← HWN.out]; exact hlt
        have hqk : B[k] = q := by have := hq.out; rw [List.getElem?_eq_getElem hkB] at this; exact Option.some.inj this
        have HT2 : RowKit.Hid (T - q.Size = szs B - szs (B.take (k + 1))) := by show _ = _; rw [HT.out, szs_take B k hkB, hqk]; omega
        have hTb := szs_take_bd FIN.out hBl k
        rw [← HT.out] at hTb
        obtain ⟨T0, T1⟩ := hTb
        obtain ⟨Q0, Q1, Q2, Q3, Q4, Q5, Q6⟩ := q
        dsimp only at *
        have hki : (k : Int) < (M : Int) := by omega
        have HG := Lib.hid (gb_alloc hg (.cells #[.int .i64 Q0, .int .i64 Q1, .int .i64 Q2, .int .i64 Q3, .int .i64 Q4, .int .i64 Q5, .int .i64 Q6] 27))
        clear HWC HIC hq hq' HT hqk hkB S hg
        have k1 : decide (Q0 < 1) = false := decide_eq_false (by omega)
        have k2 : decide ((Q4 - Q3 + 1) * (Q6 - Q5 + 1) < Q0) = false := decide_eq_false (by omega)
        have k3 : decide (Q1 < Q3 * Q0) = false := decide_eq_false (by omega)
        have k4 : decide (Q4 * Q0 < Q1) = false := decide_eq_false (by omega)
        have k5 : decide (Q2 < Q5 * Q0) = false := decide_eq_false (by omega)
        have k6 : decide (Q6 * Q0 < Q2) = false := decide_eq_false (by omega)
        go_wp2
        go_quiet (fail)
        go_wp2
        go_roundw
        case rel => exact ⟨k + 1, T - Q0, by omega, by go_num, by go_num, HT2, gb_drewN HG.out _⟩
        case measure => (simp [intOf]; try omega)
end Go.Proofs.Ytpkcpkhanodnmaa
namespace Go.Proofs.Ytpkcpkhanodnmaa.fnFindBlobsDone
open Go Go.ChangeShapes Go.WideShapes Go.ChangeAt Go.RowKit Go.Proofs.Ytpkcpkhanodnmaa
set_option linter.unusedVariables false
theorem own : ownKnob Try.prog.godebug = none := by kernel_rfl
theorem laidOut : laidOutB Try.prog = true := by kernel_rfl
set_option maxRecDepth 100000 in
theorem lifted (os : Os) (started : os.Started) (H : Type) (enc : TypeId × Value → H) :
    ReturnsInHanded {} Try.checked os 11 .any (Rows.fnFindBlobsSpec.pre6 enc Try.prog Try.f11 Rows.fnFindBlobsRow.domain false) (Rows.fnFindBlobsSpec.post enc Try.prog Try.f11 false true false false) := by
  refine returnsInHanded_of_change (C := Try.checked) own started (by kernel_rfl) Try.func11
    (ChangeSpec.witness6 (enc := enc) (C := Try.checked) false ⟨#[], #[.slice none 0 0], []⟩ 8 (by kernel_rfl) (by kernel_rfl) (by kernel_rfl) (by kernel_rfl)) ?_
  intro W base args ds gs before hval0 hW hcnd _
  have hval : ∀ (j : Nat) t v, Try.f11.params[j]? = some t → args[j]? = some v → Value.okWide Try.prog W .any base t v := hval0
  have hW' := hW
  obtain ⟨p, q, hA0, hV, rfl, hfz, hnd⟩ := hW
  have hA : DataW.TrodAll enc Try.prog W 0 (fun _ => true) true Try.f11.params.toList args.toList ds p := hA0
  rw [Try.params11] at hA hval
  obtain ⟨v0, vs0, d0, ds0, p0, q0, hargs, rfl, rfl, h0, r0⟩ := trodAll_cons hA
  obtain ⟨rfl, rfl, rfl⟩ := trodAll_nil r0
  obtain rfl : args = #[v0] := by cases args; simp_all
  obtain ⟨rfl, rfl⟩ := trodVars_none hV
  obtain ⟨a0, len0, cap0, rfl⟩ := okWide_slice Try.underlying36 (hval 0 36 v0 rfl rfl)
  have k0 := h0
  have lt0 : ∀ x ∈ p0, x.block < W.heap.size := by obtain ⟨m, hm⟩ := k0; exact DataW.trod_lt m _ _ _ hm
  have w0 : Byts W a0 len0 cap0 := by
    obtain ⟨fuel, hf⟩ := h0
    rcases open_ints Try.underlying36 Try.underlying5 (by kernel_rfl) hf with ⟨hcs, _⟩ | ⟨x, l, c, zs, hcs, _, hl, hm, hz, _, hcell, hwz⟩
    · simp [Value.cells] at hcs
      obtain ⟨rfl, rfl, rfl⟩ := hcs
      exact byts_nil W
    · simp [Value.cells] at hcs
      obtain ⟨rfl, rfl, rfl⟩ := hcs
      exact byts_of hl hm (by simpa using hz) hcell hwz
  clear hA0 hval0
  refine (law_FnFindBlobs a0 len0 cap0 W w0).mono fun e W' ⟨he, bel⟩ => ?_
  subst he
  exact ⟨_, rfl, _, _, _, [], _, [], hW', trodAll_mk1 (shut_bool Try.underlying4 _), (trodAll_cons_mk (Below.trod laidOut (by kernel_rfl) (of_decide_eq_true (by kernel_rfl)) k0 bel lt0) trodAll_mk0), rfl, bel.frame _, fun h => by cases h⟩
theorem over : Rows.fnFindBlobsRow.holds Try.pinned (OpenSpec.ofChange Rows.fnFindBlobsSpec) :=
  OpenClaim.holds_of_wide 11 Try.f11 rfl rfl rfl rfl rfl rfl rfl ⟨rfl, rfl, rfl, rfl, rfl⟩ rfl rfl rfl rfl rfl (by kernel_rfl) Try.func11 (by kernel_rfl)
    (of_decide_eq_true (by kernel_rfl)) (by unfold Func.isWrapper; first | (rw [if_pos (by decide +kernel)]; kernel_rfl) | (rw [if_neg (by decide +kernel)]; exact ⟨rfl, rfl⟩))
    (fun os started H enc _ => lifted os started H enc)
theorem proved : Rows.FnFindBlobsSaid := over
#print axioms proved
end Go.Proofs.Ytpkcpkhanodnmaa.fnFindBlobsDone
