/-
  FnCriticalWorks: for every code the law on critical steps returns true; nothing that was there is written. No condition.
-/
import Derived.Test.YthcacepkfdfbnaaWksDraws
import Derived.Test.YthcacepkfdfbnaaCycOpen
import Derived.Test.YthcacepkfdfbnaaCycCrit
import Derived.Test.YthcacepkfdfbnaaSameS
import Derived.Test.YthcacepkfdfbnaaRows
import Derived.StillTailTactics
import Derived.ProofKit
import Derived.OpenShut
import Derived.ShutString
import Derived.ChangeOld
namespace Go.Proofs.Ythcacepkfdfbnaa
open Go Go.RowKit
set_option linter.unusedVariables false
set_option maxRecDepth 100000 in
set_option maxHeartbeats 8000000 in
theorem law_FnCriticalWorks (a : Option Addr) (len cap : Nat) (w : World) (hw : Byts w a len cap) :
    Calls Try.prog 11 #[.slice a len cap] w fun e w' => e = .returned (.bool true) ∧ Below w.heap.size w w' := by
  have HB := Lib.hid hw; have hm : len ≤ 9223372036854775807 := (by have := hw.1; have := hw.2.1; unfold maxLen at this; omega); clear hw; by_cases hl : 1048576 < len; (go_enter Try.func11, Try.ntmps11; go_wp2_with fail; go_ret; exact ⟨rfl, Below.refl _ _⟩)
  go_enter Try.func11, Try.ntmps11
  go_wp2_with fail
  refine (DrawCriticalWorks_any _ _ _ _ HB.out).mono ?_
  rintro e w1 ⟨v, ys, rfl, hyl, -, S⟩
  go_wp2_with fail
  refine (i_CriticalWorks _ ys _ (St.drds S)).mono ?_
  rintro e w2 ⟨o1, rfl, T⟩
  replace S := S.call T
  clear T
  simp only [List.cons_append, List.nil_append] at S
  go_wp2_with fail
  refine (s_CriticalWorks _ ys _ (St.drds (St.tail S))).mono ?_
  rintro e w3 ⟨o2, rfl, T⟩
  replace S := S.call T
  clear T
  simp only [List.cons_append, List.nil_append] at S
  go_wp2_with fail
  refine (sameInts_s _ _ _ _ (St.own (St.tail S)) (St.own S)).mono ?_
  rintro e w4 ⟨rfl, n4, rfl⟩
  replace S := St.tail (S.drewN n4)
  obtain ⟨va, vn, vc, rfl, hvc, hvm, HVN, -⟩ := (St.drds (St.tail S)).get
  obtain ⟨oa, on, oc, rfl, hoc, hom, HON, HOC⟩ := LI_get (St.own S)
  go_wp2_with fail
  refine (s_WorksValid _ ys _ (St.drds (St.tail S))).mono ?_
  rintro e w5 ⟨rfl, T⟩
  replace S := S.grow T
  clear T HOC
  cases hB : worksB ys with
  | false =>
    obtain rfl : on = 0 := by rw [HON.out]; unfold critical; rw [early_no hB]; rfl
    clear HON
    go_wp2_with (go_at_call 19; refine (alive_any _).mono ?_; rintro e w' ⟨rfl, rfl⟩)
    go_ret
    exact ⟨rfl, S.below⟩
  | true =>
    by_cases hn0 : vn = 0
    · have hy0 : ys.length = 0 := by rw [← HVN.out]; exact hn0
      obtain rfl : on = 0 := by rw [HON.out, critical_eq hB, hy0]; rfl
      subst hn0
      clear HON HVN
      go_wp2_with (go_at_call 19; refine (alive_any _).mono ?_; rintro e w' ⟨rfl, rfl⟩)
      go_ret
      exact ⟨rfl, S.below⟩
    have hy0 : 0 < ys.length := by rw [← HVN.out]; omega
    have hm1 : ((vn : Int) == 0) = false := by simpa using (show ¬ (vn : Int) = 0 by omega)
    have HOK := Lib.hid (worksB_t.1 hB)
    obtain ⟨C, hC⟩ : ∃ C, C = cycle ys := ⟨_, rfl⟩
    go_wp2_with fail
    refine (i_CycleTime _ ys _ (St.drds (St.tail S))).mono ?_
    rintro e ws ⟨rfl, T⟩
    replace S := S.grow T
    rw [← hC]
    clear T
    rw [cycle_yes hB] at hC
    rw [critical_eq hB] at S HON
    have hC0 : 0 ≤ C := by rw [hC]; exact (cyc_ge (ys := ys) _).1
    have hC1 : C ≤ 1200 := by rw [hC]; exact (cycTo_bd HOK.out _ (Nat.le_refl _)).2
    obtain ⟨oa', on', oc', hv', -, -, -, HOC⟩ := LI_get (St.own S)
    simp only [Value.slice.injEq] at hv'
    obtain ⟨rfl, rfl, rfl⟩ := hv'
    obtain ⟨xs, hR, hxl, hrd⟩ := St.drds (St.tail S)
    have hvn8 : vn ≤ 8 := by have := HVN.out; omega
    have hxs8 : ([] : List (Int × Sl)).length + xs.length ≤ 1099511627776 := by have := HVN.out; simp; omega
    have HXL := Lib.hid hxl
    have HRD := Lib.hid hrd
    have HR := Lib.hid hR
    have HC := Lib.hid hC
    have HBB := Lib.hid hB
    have SB := Lib.hid S.below
    have LEN : RowKit.Hid (0 < on) := by show 0 < on; rw [HON.out]; exact crit_some hB hy0
    have hon12 : on ≤ 12 := by have := critTo_len ys ys.length; have := HON.out; have := HVN.out; omega
    clear hxl hrd hR hC hB hy0 S
    go_wp2
    go_loopw [6, 7, 8, 9] (fun at_ i _ _ wr => ∃ k A : Nat, k ≤ vn ∧ i = .int .i64 k ∧ at_ = .int .i64 A ∧ RowKit.Hid (A = (critTo ys k).length) ∧ ws.grownBy wr none) (fun _ i _ _ _ => vn - (intOf i).toNat)
    case atStart => exact ⟨0, 0, by omega, rfl, rfl, rfl, World.grownBy.refl _ _⟩
    case round =>
      obtain ⟨k, A, hk, rfl, rfl, HA, hg⟩ := hrel
      have hA12 : A ≤ 12 := by have := critTo_len ys k; have := HA.out; omega
      by_cases hlt : k < vn
      rotate_left
      · obtain rfl : k = vn := by omega
        obtain rfl : A = on := by rw [HA.out, HON.out, HVN.out]
        have hA0 : 0 < A := LEN.out
        clear HA HON
        go_wp2
        go_ret
        exact ⟨rfl, gb_below (gb_trans (below_gb SB.out) hg)⟩
      have hkx : k < xs.length := by have := HXL.out; have := HVN.out; omega
      have hky : k < ys.length := by have := HVN.out; omega
      obtain ⟨va', vn', vc', hv', -, -, -, HC2⟩ := (HR.out.kept hg).get
      simp only [Value.slice.injEq] at hv'
      obtain ⟨rfl, rfl, rfl⟩ := hv'
      obtain ⟨b, off, ⟨t, ra, rn, rc⟩, rfl, hb, hx, hcs⟩ := HC2.out k hlt
      have hc0 := hcs 0 _ rfl
      have hc1 := hcs 1 _ rfl
      rw [show LWk.s = 2 from rfl, Nat.add_zero] at hc0
      rw [show LWk.s = 2 from rfl] at hc1
      have hrdk := HRD.out k _ _ hx.out (List.getElem?_eq_getElem hky)
      have htt : t = tm ys k := by
        have : t = ys[k].Time := hrdk.1
        rw [this]
        unfold tm
        rw [List.getElem?_eq_getElem hky]
        rfl
      have hrr : Rds LI ws (.slice ra rn rc) (afterOf ys k) := by
        have h2 : Rds LI ws (.slice ra rn rc) ys[k].After := hrdk.2
        unfold afterOf
        rw [List.getElem?_eq_getElem hky]
        exact h2
      have ht := tm_bd HOK.out k
      rw [← htt] at ht
      obtain ⟨ht0, ht1⟩ := ht
      have HTT := Lib.hid htt
      have HRR := Lib.hid hrr
      have HX := Lib.hid hx.out
      have HXK := Lib.hid hkx
      have SW := Lib.hid (St.refl wr)
      have HG := Lib.hid hg
      have i0 : (0 : Int) ≤ (k : Int) := by omega
      have i1 : (k : Int) < (vn : Int) := by omega
      have I6 : RowKit.Hid (IntKind.i64.wrap (t + 1) = t + 1) := IntWalk.i64_in _ (by omega)
      clear HC2 hx hcs hrdk htt hrr hkx hky hg
      go_wp2_with (at_builtin; refine wpList_appR LWk_info rfl _ _ rfl (SW.out.ownEmpty LWk) xs _ ((HR.out.kept HG.out).kept (St.gb (SW.out.ownEmpty LWk))) rfl rfl hxs8 ?_; intro v4 w4 S4)
      obtain ⟨la, ln, lcap, rfl, hll, hlm, HLN, HLC⟩ := S4.ownGet
      have hlnk : k < ln := by rw [HLN.out]; simpa using HXK.out
      obtain ⟨g, x4, rfl, hg1, hg2, hx4, hcs4, hf4⟩ := HLC.out k hlnk
      have hd0 := hcs4 0 _ rfl
      have hd1 := hcs4 1 _ rfl
      rw [show LWk.s = 2 from rfl, Nat.add_zero] at hd0
      rw [show LWk.s = 2 from rfl] at hd1
      have hc0' := gb_cell S4.gb hc0 (by simp)
      have hc1' := gb_cell S4.gb hc1 (by simp)
      have hne : b ≠ g := by omega
      have i2 : (k : Int) < (ln : Int) := by omega
      have S5 : RowKit.Hid (St wr ((w4.setCell ⟨g, k * 2, none⟩ (.int .i64 (t + 1))).setCell ⟨g, k * 2 + 1, none⟩ (.slice ra rn rc)) [Own LWk (.slice (some ⟨g, 0, none⟩) ln lcap) (xs.set k (t + 1, ra, rn, rc))]) := by
        have e : xs[k]'HXK.out = (t, ra, rn, rc) := by
          have := HX.out
          rw [List.getElem?_eq_getElem HXK.out] at this
          exact Option.some.inj this
        have q1 := S4.setAt (g := g) rfl k 0 (t + 1, ra, rn, rc) (.int .i64 (t + 1)) (by simpa using HXK.out) (by decide) (by simp only [List.nil_append]; rw [e]; rfl)
        have q2 := q1.setAt (g := g) rfl k 1 (t + 1, ra, rn, rc) (.slice ra rn rc) (by simpa using HXK.out) (by decide) (by simp only [List.nil_append]; rw [List.getElem_set_self]; rfl)
        simp only [List.nil_append, List.set_set] at q2
        exact q2
      have HNE := Lib.hid hne
      clear HLC hx4 hcs4 hc0 hc1 S4 HLN
      have i6 := I6.out
      go_still_tail 15, (by kernel_rfl)
      clear i6
      have S6 := Lib.hid S5.out.drew
      have LON : RowKit.Hid (DRds LWk DWk ((w4.setCell ⟨g, k * 2, none⟩ (.int .i64 (t + 1))).setCell ⟨g, k * 2 + 1, none⟩ (.slice ra rn rc)).drew (.slice (some ⟨g, 0, none⟩) ln lcap) (longer ys k)) := by
        have q := drds_set (y := (⟨t + 1, afterOf ys k⟩ : Wk)) HXL.out HRD.out (gb_trans HG.out S6.out.gb) k (t + 1, ra, rn, rc) (St.own S6.out) ⟨rfl, (HRR.out.kept HG.out).kept S6.out.gb⟩
        unfold longer
        rw [← HTT.out]
        exact q
      have GX := Lib.hid (gb_trans HG.out S6.out.gb)
      clear S5 hc0' hc1'
      have CY : RowKit.Hid (∀ (L : worksB (longer ys k) = true), (cycle (longer ys k) = C + 1 ↔ isCrit ys k = true)) := by
        intro L
        rw [cycle_yes L, HC.out, isCrit_iff HBB.out]
        exact longer_cycle HOK.out (worksB_t.1 L) (by have := HVN.out; omega)
      have CB : RowKit.Hid (∀ (L : worksB (longer ys k) = true), 0 ≤ cycle (longer ys k) ∧ cycle (longer ys k) ≤ 1200) := by
        intro L
        rw [cycle_yes L]
        exact cycTo_bd (worksB_t.1 L) _ (Nat.le_refl _)
      have CRY : RowKit.Hid (isCrit ys k = true → A < on ∧ (critTo ys ys.length)[A]? = some (k : Int)) := by
        intro hc
        rw [HA.out, HON.out]
        exact crit_yes (by have := HVN.out; omega) hc
      have CRN : RowKit.Hid (isCrit ys k = false → ∀ z, (critTo ys ys.length)[A]? = some z → z ≠ (k : Int)) := by
        intro hc z hz
        rw [HA.out] at hz
        exact crit_no (by have := HVN.out; omega) hc z hz
      have NXT : RowKit.Hid (∀ (q : Bool), isCrit ys k = q → (if q then A + 1 else A) = (critTo ys (k + 1)).length) := by
        intro q hq
        cases q with
        | true => rw [critTo_yes hq, HA.out]; simp
        | false => rw [critTo_no hq, HA.out]; rfl
      have I7 : RowKit.Hid (IntKind.i64.wrap (C + 1) = C + 1) := IntWalk.i64_in _ (by omega)
      cases hcr : isCrit ys k with
      | true =>
        obtain ⟨hAo, hz⟩ := CRY.out hcr
        obtain ⟨b', off', z, rfl, hb', hz', hcz⟩ := HOC.out A hAo
        obtain rfl : z = (k : Int) := by have := hz'.out; rw [hz] at this; exact (Option.some.inj this).symm
        have hcx := gb_cell GX.out hcz (by simp)
        have NX := Lib.hid (NXT.out true hcr)
        have CY2 : RowKit.Hid (∀ (L : worksB (longer ys k) = true), cycle (longer ys k) = C + 1) := fun L => (CY.out L).2 hcr
        have hAi : (A : Int) < (on : Int) := by omega
        clear hz hz' hcz CRY CRN NXT CY
        cases hL : worksB (longer ys k) with
        | false =>
          go_wp2_with fail
          refine (i_WorksValid _ _ _ LON.out).mono ?_
          rintro e w7 ⟨rfl, T⟩
          rw [hL]
          have GY := gb_trans GX.out T
          clear T
          go_wp2
          go_roundw
          case rel => exact ⟨k + 1, A + 1, by omega, by go_num, by first | rfl | go_num, NX.out, GY⟩
          case measure => simp [intOf]; omega
        | true =>
          have c1 := CY2.out hL
          obtain ⟨c2, c3⟩ := CB.out hL
          obtain ⟨X, hX⟩ : ∃ X, X = cycle (longer ys k) := ⟨_, rfl⟩
          rw [← hX] at c1 c2 c3
          have HXX := Lib.hid hX
          clear hX
          subst c1
          go_wp2_with fail
          refine (i_WorksValid _ _ _ LON.out).mono ?_
          rintro e w7 ⟨rfl, T⟩
          rw [hL]
          have GY := gb_trans GX.out T
          have LON2 := Lib.hid (LON.out.kept T)
          clear T
          go_wp2_with fail
          refine (i_CycleTime _ _ _ LON2.out).mono ?_
          rintro e w8 ⟨rfl, T⟩
          rw [← HXX.out]
          have GZ := gb_trans GY T
          clear T GY
          go_wp2
          go_roundw
          case rel => exact ⟨k + 1, A + 1, by omega, by go_num, by first | rfl | go_num, NX.out, GZ⟩
          case measure => simp [intOf]; omega
      | false =>
        have NX := Lib.hid (NXT.out false hcr)
        have CY2 : RowKit.Hid (∀ (L : worksB (longer ys k) = true), cycle (longer ys k) ≠ C + 1) := fun L h => by have := (CY.out L).1 h; rw [hcr] at this; cases this
        by_cases hAo : A < on
        · obtain ⟨b', off', z, rfl, hb', hz', hcz⟩ := HOC.out A hAo
          have hzk := CRN.out hcr z hz'.out
          have hcx := gb_cell GX.out hcz (by simp)
          have hzk' : (z == (k : Int)) = false := by simpa using hzk
          have hAi : (A : Int) < (on : Int) := by omega
          clear hz' hcz hzk CRY CRN NXT CY
          cases hL : worksB (longer ys k) with
          | false =>
            go_wp2_with fail
            refine (i_WorksValid _ _ _ LON.out).mono ?_
            rintro e w7 ⟨rfl, T⟩
            rw [hL]
            have GY := gb_trans GX.out T
            clear T
            go_wp2
            go_roundw
            case rel => exact ⟨k + 1, A, by omega, by go_num, by first | rfl | go_num, NX.out, GY⟩
            case measure => simp [intOf]; omega
          | true =>
            have c1 := CY2.out hL
            obtain ⟨c2, c3⟩ := CB.out hL
            obtain ⟨X, hX⟩ : ∃ X, X = cycle (longer ys k) := ⟨_, rfl⟩
            rw [← hX] at c1 c2 c3
            have HXX := Lib.hid hX
            clear hX
            have c1' : (X == C + 1) = false := by simpa using c1
            go_wp2_with fail
            refine (i_WorksValid _ _ _ LON.out).mono ?_
            rintro e w7 ⟨rfl, T⟩
            rw [hL]
            have GY := gb_trans GX.out T
            have LON2 := Lib.hid (LON.out.kept T)
            clear T
            go_wp2_with fail
            refine (i_CycleTime _ _ _ LON2.out).mono ?_
            rintro e w8 ⟨rfl, T⟩
            rw [← HXX.out]
            have GZ := gb_trans GY T
            clear T GY
            go_wp2
            go_roundw
            case rel => exact ⟨k + 1, A, by omega, by go_num, by first | rfl | go_num, NX.out, GZ⟩
            case measure => simp [intOf]; omega
        · have hAi : ¬ (A : Int) < (on : Int) := by omega
          clear CRY CRN NXT CY
          cases hL : worksB (longer ys k) with
          | false =>
            go_wp2_with fail
            refine (i_WorksValid _ _ _ LON.out).mono ?_
            rintro e w7 ⟨rfl, T⟩
            rw [hL]
            have GY := gb_trans GX.out T
            clear T
            go_wp2
            go_roundw
            case rel => exact ⟨k + 1, A, by omega, by go_num, by first | rfl | go_num, NX.out, GY⟩
            case measure => simp [intOf]; omega
          | true =>
            have c1 := CY2.out hL
            obtain ⟨c2, c3⟩ := CB.out hL
            obtain ⟨X, hX⟩ : ∃ X, X = cycle (longer ys k) := ⟨_, rfl⟩
            rw [← hX] at c1 c2 c3
            have HXX := Lib.hid hX
            clear hX
            have c1' : (X == C + 1) = false := by simpa using c1
            go_wp2_with fail
            refine (i_WorksValid _ _ _ LON.out).mono ?_
            rintro e w7 ⟨rfl, T⟩
            rw [hL]
            have GY := gb_trans GX.out T
            have LON2 := Lib.hid (LON.out.kept T)
            clear T
            go_wp2_with fail
            refine (i_CycleTime _ _ _ LON2.out).mono ?_
            rintro e w8 ⟨rfl, T⟩
            rw [← HXX.out]
            have GZ := gb_trans GY T
            clear T GY
            go_wp2
            go_roundw
            case rel => exact ⟨k + 1, A, by omega, by go_num, by first | rfl | go_num, NX.out, GZ⟩
            case measure => simp [intOf]; omega
end Go.Proofs.Ythcacepkfdfbnaa
namespace Go.Proofs.Ythcacepkfdfbnaa.fnCriticalWorksDone
open Go Go.ChangeShapes Go.WideShapes Go.ChangeAt Go.RowKit Go.Proofs.Ythcacepkfdfbnaa
set_option linter.unusedVariables false
theorem own : ownKnob Try.prog.godebug = none := by kernel_rfl
theorem laidOut : laidOutB Try.prog = true := by kernel_rfl
set_option maxRecDepth 100000 in
theorem lifted (os : Os) (started : os.Started) (H : Type) (enc : TypeId × Value → H) :
    ReturnsInHanded {} Try.checked os 11 .any (Rows.fnCriticalWorksSpec.pre6 enc Try.prog Try.f11 Rows.fnCriticalWorksRow.domain false) (Rows.fnCriticalWorksSpec.post enc Try.prog Try.f11 false true false false) := by
  refine returnsInHanded_of_change (C := Try.checked) own started (by kernel_rfl) Try.func11
    (ChangeSpec.witness6 (enc := enc) (C := Try.checked) false ⟨#[], #[.slice none 0 0], []⟩ 8 (by kernel_rfl) (by kernel_rfl) (by kernel_rfl) (by kernel_rfl)) ?_
  intro W base args ds gs before hval0 hW hcnd _
  have hval : ∀ (j : Nat) t v, Try.f11.params[j]? = some t → args[j]? = some v → Value.okWide Try.prog W .any base t v := hval0
  have hW' := hW
  obtain ⟨p, q, hA0, hV, rfl, hfz, hnd⟩ := hW
  have hA : DataW.TrodAll enc Try.prog W 0 (fun _ => true) true Try.f11.params.toList args.toList ds p := hA0
  rw [Try.params11] at hA hval
  obtain ⟨v0, vs0, d0, ds0, p0, q0, hargs, rfl, rfl, h0, r0⟩ := trodAll_cons hA
  obtain ⟨rfl, rfl, rfl⟩ := trodAll_nil r0
  obtain rfl : args = #[v0] := by cases args; simp_all
  obtain ⟨rfl, rfl⟩ := trodVars_none hV
  obtain ⟨a0, len0, cap0, rfl⟩ := okWide_slice Try.underlying29 (hval 0 29 v0 rfl rfl)
  have k0 := h0
  have lt0 : ∀ x ∈ p0, x.block < W.heap.size := by obtain ⟨m, hm⟩ := k0; exact DataW.trod_lt m _ _ _ hm
  have w0 : Byts W a0 len0 cap0 := by
    obtain ⟨fuel, hf⟩ := h0
    rcases open_ints Try.underlying29 Try.underlying5 (by kernel_rfl) hf with ⟨hcs, _⟩ | ⟨x, l, c, zs, hcs, _, hl, hm, hz, _, hcell, hwz⟩
    · simp [Value.cells] at hcs
      obtain ⟨rfl, rfl, rfl⟩ := hcs
      exact byts_nil W
    · simp [Value.cells] at hcs
      obtain ⟨rfl, rfl, rfl⟩ := hcs
      exact byts_of hl hm (by simpa using hz) hcell hwz
  clear hA0 hval0
  refine (law_FnCriticalWorks a0 len0 cap0 W w0).mono fun e W' ⟨he, bel⟩ => ?_
  subst he
  exact ⟨_, rfl, _, _, _, [], _, [], hW', trodAll_mk1 (shut_bool Try.underlying4 _), (trodAll_cons_mk (Below.trod laidOut (by kernel_rfl) (of_decide_eq_true (by kernel_rfl)) k0 bel lt0) trodAll_mk0), rfl, bel.frame _, fun h => by cases h⟩
theorem over : Rows.fnCriticalWorksRow.holds Try.pinned (OpenSpec.ofChange Rows.fnCriticalWorksSpec) :=
  OpenClaim.holds_of_wide 11 Try.f11 rfl rfl rfl rfl rfl rfl rfl ⟨rfl, rfl, rfl, rfl, rfl⟩ rfl rfl rfl rfl rfl (by kernel_rfl) Try.func11 (by kernel_rfl)
    (of_decide_eq_true (by kernel_rfl)) (by unfold Func.isWrapper; first | (rw [if_pos (by decide +kernel)]; kernel_rfl) | (rw [if_neg (by decide +kernel)]; exact ⟨rfl, rfl⟩))
    (fun os started H enc _ => lifted os started H enc)
theorem proved : Rows.FnCriticalWorksSaid := over
#print axioms proved
end Go.Proofs.Ythcacepkfdfbnaa.fnCriticalWorksDone
