/-
  FnTourLength: for every code the law on lengths of tours returns true; nothing that was there is written. No condition.
-/
import Derived.Test.YthkleabdnjhniaaOrderDraw
import Derived.Test.YthkleabdnjhniaaStopsDraw
import Derived.Test.YthkleabdnjhniaaTourLaw
import Derived.Test.YthkleabdnjhniaaOrder
import Derived.Test.YthkleabdnjhniaaQuiet
import Derived.Test.YthkleabdnjhniaaRows
import Derived.ProofKit
import Derived.OpenShut
import Derived.ShutString
import Derived.ChangeOld
namespace Go.Proofs.Ythkleabdnjhniaa
open Go Go.RowKit Go.Sort
set_option linter.unusedVariables false
def DTwoQ (w : World) (e : Ending) (w' : World) : Prop := ∃ (v : Value) (xs : List Pt) (u : Value) (os : List Int), e = .returned (.tuple #[v, u]) ∧ xs.length ≤ 20 ∧ os.length ≤ 20 ∧ St w w' [Own LI u os, Own LPt v xs]
theorem DrawTourLength_any (a : Option Addr) (len cap : Nat) (w : World) (h : Byts w a len cap) : Calls Try.prog 24 #[.slice a len cap] w (DTwoQ w) := by (go_enter Try.func24, Try.ntmps24; go_wp2_with fail; refine (open_s a len cap w h).mono ?_; rintro e w1 ⟨B, rfl, S1⟩; go_wp2_with fail; refine (stops_s w B 0 [] 9 12 _ S1 (by omega) (by omega) (by omega) (by omega)).mono ?_; rintro e w2 ⟨v, xs, m', rfl, hl, hm', S2⟩; obtain ⟨va, vn, vc, rfl, -, -, HVN, -⟩ := LPt_own S2; have hvn : vn ≤ 20 := (by have := HVN.out; omega); go_wp2_with fail; refine (orderD_s w B m' [Own LPt (.slice va vn vc) xs] vn 9 _ S2.swap (by omega) (by omega) hvn).mono ?_; rintro e w3 ⟨u, os, m2, rfl, hol, -, S3⟩; go_wp2_with fail; exact bodyPost_ret (v := .tuple #[.slice va vn vc, u]) (by simp [results, Try.results24, go_sem]) rfl ⟨_, xs, _, os, rfl, hl, by omega, St.tail (St.swap S3)⟩)
theorem abs_s (n : Int) (w : World) (h : -1000000 ≤ n ∧ n ≤ 1000000) : Calls Try.prog 25 #[.int .i64 n] w fun e w' => e = .returned (.int .i64 (max n (-n))) ∧ w = w' := by
  obtain ⟨h1, h2⟩ := h
  go_enter Try.func25, Try.ntmps25
  go_wp2
  all_goals
    go_ret
    refine ⟨?_, rfl⟩
    show Ending.returned (Value.int _ _) = _
    congr 2
    omega
theorem mx_if2 (a b : Int) : (if a < b then b else a) = max a b := by split <;> omega
theorem run_max_int2 {P : Program} (w : World) (ts : Array TypeId) (t : TypeId) (x y : Int) : (Builtin.max_ ts t #[.int .i64 x, .int .i64 y]).run P w = .ok (.int .i64 (max x y)) w := by
  simp [Builtin.max_, Builtin.max2, mx_if2]
attribute [local go_sem ↓] run_max_int2
set_option maxRecDepth 100000 in
set_option maxHeartbeats 8000000 in
theorem law_FnTourLength (a : Option Addr) (len cap : Nat) (w : World) (hw : Byts w a len cap) :
    Calls Try.prog 6 #[.slice a len cap] w fun e w' => e = .returned (.bool true) ∧ Below w.heap.size w w' := by
  have HB := Lib.hid hw; have hm : len ≤ 9223372036854775807 := (by have := hw.1; have := hw.2.1; unfold maxLen at this; omega); clear hw; by_cases hl : 1048576 < len; (go_enter Try.func6, Try.ntmps6; go_wp2_with fail; go_ret; exact ⟨rfl, Below.refl _ _⟩)
  go_enter Try.func6, Try.ntmps6
  go_wp2_with fail
  refine (DrawTourLength_any _ _ _ _ HB.out).mono ?_
  rintro e w1 ⟨v, xs, u, os, rfl, hxl, hol, S⟩
  go_wp2_with fail
  refine (i_TourLength _ xs _ os _ (St.own (St.tail S)) (St.own S)).mono ?_
  rintro e w2 ⟨rfl, T⟩
  replace S := S.grow T
  clear T
  obtain ⟨N, hN⟩ : ∃ N, tourLen xs os = N := ⟨_, rfl⟩
  rw [hN]
  go_wp2_with fail
  refine (s_TourLength _ xs _ os _ (St.own (St.tail S)) (St.own S)).mono ?_
  rintro e w3 ⟨rfl, T⟩
  replace S := S.grow T
  clear T
  rw [hN]
  cases hB : fitsB xs os with
  | false =>
    obtain rfl : N = -1 := by rw [← hN, tourLen_no hB]
    clear hN hB
    go_wp2_with (go_at_call 19; refine (alive_any _).mono ?_; rintro e w' ⟨rfl, rfl⟩)
    go_ret
    exact ⟨rfl, S.below⟩
  | true =>
    have hN2 := hN
    rw [tourLen_yes hB] at hN2
    have hNb := tourL_bd hB
    rw [hN2] at hNb
    obtain ⟨N0, N1⟩ := hNb
    obtain ⟨h1, h2⟩ := fits_of hB
    have HP := Lib.hid (stopsB_pts h1)
    have hs := stopsB_len h1
    have hxo := h2.1
    obtain ⟨va, vn, vc, rfl, hvc, hvm, HVN, -⟩ := LPt_own (St.tail S)
    obtain ⟨ua, un, uc, rfl, huc, hum, HUN, -⟩ := LI_own S
    obtain rfl : vn = un := by rw [HVN.out, HUN.out, hxo]
    have hv16 : vn ≤ 16 := by have := HVN.out; omega
    have hv1 : 1 ≤ vn := by have := HVN.out; omega
    obtain ⟨M, rfl⟩ : ∃ M, vn = M + 1 := ⟨vn - 1, by omega⟩
    have HREV := Lib.hid ((tourLen_rev hB).trans hN)
    have ENDS := Lib.hid (tourL_ends (xs := xs) (os := os))
    have ONE : RowKit.Hid (M = 0 → N = 0) := by
      intro h
      rw [← hN2]
      unfold tourL
      rw [← HUN.out, h]
      rfl
    have HIN := Lib.hid h2.inN
    have SH := Lib.hid S
    have S2 : St w (w3.alloc (.cells #[] 3)) (Own LI (.slice (some ⟨w3.heap.size, 0, none⟩) 0 0) [] :: [Own LI (.slice ua (M + 1) uc) os, Own LPt (.slice va (M + 1) vc) xs]) := S.ownEmpty LI
    clear hN hB h1 h2 hs hxo S
    go_wp2
    have hos : os.length = M + 1 := by have := HUN.out; omega
    have HOS := Lib.hid hos
    have HXS : RowKit.Hid (M + 1 = xs.length) := HVN.out
    clear hos HUN HVN
    go_loopw [6, 7] (fun o i wr => ∃ J : Nat, J ≤ M + 1 ∧ i = .int .i64 ((J : Int) - 1) ∧ St w wr (Own LI o ((os.drop J).reverse) :: [Own LI (.slice ua (M + 1) uc) os, Own LPt (.slice va (M + 1) vc) xs])) (fun _ i _ => (intOf i + 1).toNat)
    case atStart => exact ⟨M + 1, by omega, by go_num, by rw [List.drop_eq_nil_of_le (by have := HOS.out; omega)]; exact S2⟩
    case round =>
      obtain ⟨J, hJ, hi, S⟩ := hrel
      clear S2
      cases J with
      | succ I =>
        obtain rfl : u7 = .int .i64 (I : Int) := by rw [hi]; congr 1; omega
        have hI : I < M + 1 := by omega
        have hIi : (I : Int) < (M : Int) + 1 := by omega
        have h0I : (0 : Int) ≤ (I : Int) := by omega
        obtain ⟨ua', un', uc', hv', -, -, -, HC⟩ := rds_ints (St.own (St.tail S))
        simp only [Value.slice.injEq] at hv'
        obtain ⟨rfl, rfl, rfl⟩ := hv'
        obtain ⟨b, off, rfl, hb, hc⟩ := HC.out I hI
        obtain ⟨Z, hZ⟩ : ∃ Z, os.getD I 0 = Z := ⟨_, rfl⟩
        rw [hZ] at hc
        have NX : RowKit.Hid ((os.drop (I + 1)).reverse ++ [Z] = (os.drop I).reverse) := by
          show _ = _
          have hl : I < os.length := by rw [HOS.out]; omega
          rw [List.drop_eq_getElem_cons hl, List.reverse_cons]
          rw [List.getD_eq_getElem?_getD, List.getElem?_eq_getElem hl] at hZ
          rw [show os[I] = Z from hZ]
        have hll : ((os.drop (I + 1)).reverse).length ≤ 1000000000 := by simp; have := HOS.out; omega
        clear HC hi hZ
        obtain ⟨o, rfl⟩ : ∃ o, o = u6 := ⟨_, rfl⟩
        go_wp2_with (at_builtin; refine wpList_app1 LI_info rfl _ _ rfl S Z #[.int .i64 Z] rfl rfl rfl hll ?_; intro v' w5 S4; rw [NX.out] at S4; clear S)
        go_roundw
        case rel => exact ⟨I, by omega, by go_num, S4⟩
        case measure => (simp [intOf]; try omega)
      | zero =>
        obtain rfl : u7 = .int .i64 (-1) := by rw [hi]; rfl
        rw [List.drop_zero] at S
        obtain ⟨oa, on, oc, rfl, hoc, hom, HON, -⟩ := LI_own S
        obtain ⟨ua', un', uc', hv', -, -, -, HC⟩ := rds_ints (St.own (St.tail S))
        simp only [Value.slice.injEq] at hv'
        obtain ⟨rfl, rfl, rfl⟩ := hv'
        obtain ⟨va', vn', vc', hv', -, -, -, HD⟩ := LPt_get (St.own (St.tail (St.tail S)))
        simp only [Value.slice.injEq] at hv'
        obtain ⟨rfl, rfl, rfl⟩ := hv'
        obtain ⟨b, off, rfl, hb, hc⟩ := HC.out 0 (by omega)
        rw [Nat.add_zero] at hc
        obtain ⟨b', off', hbo, hb', hc'⟩ := HC.out M (by omega)
        simp only [Option.some.injEq, Addr.mk.injEq, and_true] at hbo
        obtain ⟨rfl, rfl⟩ := hbo
        have z0 : 0 ≤ os.getD 0 0 ∧ os.getD 0 0 ≤ (M : Int) := by
          have h := HIN.out (os.getD 0 0) (by rw [List.getD_eq_getElem?_getD, List.getElem?_eq_getElem (by rw [HOS.out]; omega)]; exact List.getElem_mem _)
          have := HXS.out
          omega
        have zM : 0 ≤ os.getD M 0 ∧ os.getD M 0 ≤ (M : Int) := by
          have h := HIN.out (os.getD M 0) (by rw [List.getD_eq_getElem?_getD, List.getElem?_eq_getElem (by rw [HOS.out]; omega)]; exact List.getElem_mem _)
          have := HXS.out
          omega
        have en := ENDS.out
        rw [hN2, HOS.out, Nat.add_sub_cancel] at en
        unfold nth at en
        obtain ⟨A, hA⟩ := Int.eq_ofNat_of_zero_le z0.1
        obtain ⟨B, hB⟩ := Int.eq_ofNat_of_zero_le zM.1
        rw [hA] at hc z0 en
        rw [hB] at hc' zM en
        have hAM : A < M + 1 := by omega
        have hBM : B < M + 1 := by omega
        have hAi : (A : Int) < (M : Int) + 1 := by omega
        have hBi : (B : Int) < (M : Int) + 1 := by omega
        obtain ⟨c, coff, p, rfl, hcb, hp, p0, p1⟩ := HD.out A hAM
        obtain ⟨c', coff', q, hbo, hcb', hq, q0, q1⟩ := HD.out B hBM
        simp only [Option.some.injEq, Addr.mk.injEq, and_true] at hbo
        obtain ⟨rfl, rfl⟩ := hbo
        rw [ptOf_at hp.out, ptOf_at hq.out] at en
        have okp := pt_at HP.out hp.out
        have okq := pt_at HP.out hq.out
        obtain ⟨PX, PY⟩ := p
        obtain ⟨QX, QY⟩ := q
        obtain ⟨⟨x1, x2⟩, x3, x4⟩ := okp
        obtain ⟨⟨y1, y2⟩, y3, y4⟩ := okq
        unfold stp at en
        dsimp only at *
        have RT : RowKit.Hid (∀ W, wr.grownBy W none → Calls Try.prog 22 #[.slice (some ⟨c, coff, none⟩) (M + 1) vc, .slice oa on oc] W fun e w' => e = .returned (.int .i64 N) ∧ W.grownBy w' none) := by
          intro W hg
          have := i_TourLength _ xs _ os.reverse W ((St.own (St.tail (St.tail S))).kept hg) ((St.own S).kept hg)
          rwa [HREV.out] at this
        have SB := Lib.hid S.below
        clear HC HD HIN HON hN2 hp hq hi S HREV ENDS SH HP hxl hol
        obtain ⟨AX, hAX⟩ : ∃ AX, max (PX - QX) (-(PX - QX)) = AX := ⟨_, rfl⟩
        obtain ⟨AY, hAY⟩ : ∃ AY, max (PY - QY) (-(PY - QY)) = AY := ⟨_, rfl⟩
        have CX : RowKit.Hid (∀ W, Calls Try.prog 25 #[.int .i64 (PX - QX)] W fun e w' => e = .returned (.int .i64 AX) ∧ W = w') := fun W => by
          have := abs_s (PX - QX) W (by omega)
          rwa [hAX] at this
        have CY : RowKit.Hid (∀ W, Calls Try.prog 25 #[.int .i64 (PY - QY)] W fun e w' => e = .returned (.int .i64 AY) ∧ W = w') := fun W => by
          have := abs_s (PY - QY) W (by omega)
          rwa [hAY] at this
        have hmx : max AX AY ≤ N := by omega
        have k0 : ((wr.alloc (.cells #[.int .i64 PX, .int .i64 PY] 41)).alloc (.cells #[.int .i64 QX, .int .i64 QY] 41)).cell? ⟨wr.heap.size, 0, none⟩ = some (.int .i64 PX) :=
          gb_cell (World.grownBy_alloc _ _ none) (by rw [cell_of_row _ _ _ _ _ _ (heap_alloc_new wr _)]; rfl) (by simp)
        have k1 : ((wr.alloc (.cells #[.int .i64 PX, .int .i64 PY] 41)).alloc (.cells #[.int .i64 QX, .int .i64 QY] 41)).cell? ⟨wr.heap.size, 1, none⟩ = some (.int .i64 PY) :=
          gb_cell (World.grownBy_alloc _ _ none) (by rw [cell_of_row _ _ _ _ _ _ (heap_alloc_new wr _)]; rfl) (by simp)
        have k2 : ((wr.alloc (.cells #[.int .i64 PX, .int .i64 PY] 41)).alloc (.cells #[.int .i64 QX, .int .i64 QY] 41)).cell? ⟨wr.heap.size + 1, 0, none⟩ = some (.int .i64 QX) := by
          rw [cell_of_row _ _ _ _ _ _ (heap_alloc_at (wr.alloc (.cells #[.int .i64 PX, .int .i64 PY] 41)) _ (wr.heap.size + 1) (by simp))]; rfl
        have k3 : ((wr.alloc (.cells #[.int .i64 PX, .int .i64 PY] 41)).alloc (.cells #[.int .i64 QX, .int .i64 QY] 41)).cell? ⟨wr.heap.size + 1, 1, none⟩ = some (.int .i64 QY) := by
          rw [cell_of_row _ _ _ _ _ _ (heap_alloc_at (wr.alloc (.cells #[.int .i64 PX, .int .i64 PY] 41)) _ (wr.heap.size + 1) (by simp))]; rfl
        have d0 := qcell k0
        have d1 := qcell k1
        have d2 := qcell k2
        have d3 := qcell k3
        have G2 : RowKit.Hid (∀ d os, wr.grownBy (grow (redrawn ((wr.alloc (.cells #[.int .i64 PX, .int .i64 PY] 41)).alloc (.cells #[.int .i64 QX, .int .i64 QY] 41)) d) os) none) := fun d os => gb_trans (gb_alloc (gb_alloc (World.grownBy.refl _ _) _) _) (qg _ d os)
        clear k0 k1 k2 k3 en hAX hAY
        by_cases hM : M = 0
        · obtain rfl := ONE.out hM
          have hM1 : decide ((1 : Int) < (M : Int) + 1) = false := decide_eq_false (by omega)
          clear hM ONE hA hB
          go_wp2
          (refine wp_region_quiet_below (by kernel_rfl) (by kernel_rfl) ?_; (repeat (go_big_quiet_step ((first | (with_reducible exact qc (RT.out _ (G2.out _ _))) | (with_reducible exact qc0 (CX.out _)) | (with_reducible exact qc0 (CY.out _)))))); refine wpQuiet_nil ?_; intro _ hw'; obtain ⟨⟨dq, osq⟩, hw''⟩ := hw'; subst hw'')
          have HQ := gb_trans (gb_trans (below_gb SB.out) (World.grownBy.refl _ _)) (G2.out dq osq)
          go_wp2
          go_ret
          exact ⟨rfl, gb_below HQ⟩
        · have hM1 : (1 : Int) < (M : Int) + 1 := by omega
          clear hM ONE hA hB
          go_wp2
          (refine wp_region_quiet_below (by kernel_rfl) (by kernel_rfl) ?_; (repeat (go_big_quiet_step ((first | (with_reducible exact qc (RT.out _ (G2.out _ _))) | (with_reducible exact qc0 (CX.out _)) | (with_reducible exact qc0 (CY.out _)))))); refine wpQuiet_nil ?_; intro _ hw'; obtain ⟨⟨dq, osq⟩, hw''⟩ := hw'; subst hw'')
          have HQ := gb_trans (below_gb SB.out) (G2.out dq osq)
          go_wp2
          go_ret
          exact ⟨rfl, gb_below HQ⟩
end Go.Proofs.Ythkleabdnjhniaa
namespace Go.Proofs.Ythkleabdnjhniaa.fnTourLengthDone
open Go Go.ChangeShapes Go.WideShapes Go.ChangeAt Go.RowKit Go.Proofs.Ythkleabdnjhniaa
set_option linter.unusedVariables false
theorem own : ownKnob Try.prog.godebug = none := by kernel_rfl
theorem laidOut : laidOutB Try.prog = true := by kernel_rfl
set_option maxRecDepth 100000 in
theorem lifted (os : Os) (started : os.Started) (H : Type) (enc : TypeId × Value → H) :
    ReturnsInHanded {} Try.checked os 6 .any (Rows.fnTourLengthSpec.pre6 enc Try.prog Try.f6 Rows.fnTourLengthRow.domain false) (Rows.fnTourLengthSpec.post enc Try.prog Try.f6 false true false false) := by
  refine returnsInHanded_of_change (C := Try.checked) own started (by kernel_rfl) Try.func6
    (ChangeSpec.witness6 (enc := enc) (C := Try.checked) false ⟨#[], #[.slice none 0 0], []⟩ 8 (by kernel_rfl) (by kernel_rfl) (by kernel_rfl) (by kernel_rfl)) ?_
  intro W base args ds gs before hval0 hW hcnd _
  have hval : ∀ (j : Nat) t v, Try.f6.params[j]? = some t → args[j]? = some v → Value.okWide Try.prog W .any base t v := hval0
  have hW' := hW
  obtain ⟨p, q, hA0, hV, rfl, hfz, hnd⟩ := hW
  have hA : DataW.TrodAll enc Try.prog W 0 (fun _ => true) true Try.f6.params.toList args.toList ds p := hA0
  rw [Try.params6] at hA hval
  obtain ⟨v0, vs0, d0, ds0, p0, q0, hargs, rfl, rfl, h0, r0⟩ := trodAll_cons hA
  obtain ⟨rfl, rfl, rfl⟩ := trodAll_nil r0
  obtain rfl : args = #[v0] := by cases args; simp_all
  obtain ⟨rfl, rfl⟩ := trodVars_none hV
  obtain ⟨a0, len0, cap0, rfl⟩ := okWide_slice Try.underlying29 (hval 0 29 v0 rfl rfl)
  have k0 := h0
  have lt0 : ∀ x ∈ p0, x.block < W.heap.size := by obtain ⟨m, hm⟩ := k0; exact DataW.trod_lt m _ _ _ hm
  have w0 : Byts W a0 len0 cap0 := by
    obtain ⟨fuel, hf⟩ := h0
    rcases open_ints Try.underlying29 Try.underlying5 (by kernel_rfl) hf with ⟨hcs, _⟩ | ⟨x, l, c, zs, hcs, _, hl, hm, hz, _, hcell, hwz⟩
    · simp [Value.cells] at hcs
      obtain ⟨rfl, rfl, rfl⟩ := hcs
      exact byts_nil W
    · simp [Value.cells] at hcs
      obtain ⟨rfl, rfl, rfl⟩ := hcs
      exact byts_of hl hm (by simpa using hz) hcell hwz
  clear hA0 hval0
  refine (law_FnTourLength a0 len0 cap0 W w0).mono fun e W' ⟨he, bel⟩ => ?_
  subst he
  exact ⟨_, rfl, _, _, _, [], _, [], hW', trodAll_mk1 (shut_bool Try.underlying4 _), (trodAll_cons_mk (Below.trod laidOut (by kernel_rfl) (of_decide_eq_true (by kernel_rfl)) k0 bel lt0) trodAll_mk0), rfl, bel.frame _, fun h => by cases h⟩
theorem over : Rows.fnTourLengthRow.holds Try.pinned (OpenSpec.ofChange Rows.fnTourLengthSpec) :=
  OpenClaim.holds_of_wide 6 Try.f6 rfl rfl rfl rfl rfl rfl rfl ⟨rfl, rfl, rfl, rfl, rfl⟩ rfl rfl rfl rfl rfl (by kernel_rfl) Try.func6 (by kernel_rfl)
    (of_decide_eq_true (by kernel_rfl)) (by unfold Func.isWrapper; first | (rw [if_pos (by decide +kernel)]; kernel_rfl) | (rw [if_neg (by decide +kernel)]; exact ⟨rfl, rfl⟩))
    (fun os started H enc _ => lifted os started H enc)
theorem proved : Rows.FnTourLengthSaid := over
#print axioms proved
end Go.Proofs.Ythkleabdnjhniaa.fnTourLengthDone
