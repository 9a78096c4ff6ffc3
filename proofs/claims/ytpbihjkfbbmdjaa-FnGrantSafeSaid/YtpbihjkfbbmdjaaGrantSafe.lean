/-
  FnGrantSafe: for every code the law on grants returns true; nothing that was there is written. No condition.
-/
import Derived.Test.YtpbihjkfbbmdjaaGrantPlain
import Derived.Test.YtpbihjkfbbmdjaaGrantS
import Derived.Test.YtpbihjkfbbmdjaaGrantDraw
import Derived.Test.YtpbihjkfbbmdjaaSameS
import Derived.Test.YtpbihjkfbbmdjaaRows
import Derived.ProofKit
import Derived.OpenShut
import Derived.ShutString
import Derived.ChangeOld
namespace Go.Proofs.Ytpbihjkfbbmdjaa
open Go Go.RowKit
set_option linter.unusedVariables false
theorem row_at {w w' : World} {ra : Option Addr} {rn rc : Nat} {y : List Int} (h : Rds LI w (.slice ra rn rc) y) (g : w.grownBy w' none) {j : Nat} {x : Int} (hx : y[j]? = some x) : ∃ b off, ra = some ⟨b, off, none⟩ ∧ w'.cell? ⟨b, off + j, none⟩ = some (.int .i64 x) := by
  obtain ⟨a, n, cap, hv, -, -, HN, HC⟩ := LI_get h
  simp only [Value.slice.injEq] at hv
  obtain ⟨rfl, rfl, rfl⟩ := hv
  obtain ⟨b, off, x', ha, -, hx', hc⟩ := HC.out j (by rw [HN.out]; exact (List.getElem?_eq_some_iff.1 hx).1)
  have := hx'.out
  rw [hx] at this
  obtain rfl := Option.some.inj this
  exact ⟨b, off, ha, gb_cell g hc (by simp)⟩
theorem at_lt {xs : List Int} {n j : Nat} (h : xs.length = n) (hj : j < n) : ∃ x, xs[j]? = some x := ⟨_, List.getElem?_eq_getElem (by omega)⟩
set_option maxRecDepth 100000 in
set_option maxHeartbeats 1000000 in
theorem law_FnGrantSafe (a : Option Addr) (len cap : Nat) (w : World) (hw : Byts w a len cap) :
    Calls Try.prog 6 #[.slice a len cap] w fun e w' => e = .returned (.bool true) ∧ Below w.heap.size w w' := by
  have HB := Lib.hid hw; have hm : len ≤ 9223372036854775807 := (by have := hw.1; have := hw.2.1; unfold maxLen at this; omega); clear hw; by_cases hl : 1048576 < len; (go_enter Try.func6, Try.ntmps6; go_wp2_with fail; go_ret; exact ⟨rfl, Below.refl _ _⟩)
  go_enter Try.func6, Try.ntmps6
  go_wp2_with fail
  refine (DrawGrantSafe_any _ _ _ _ HB.out).mono ?_
  rintro e w1 ⟨v, cs, u, fr, n, t, want, rfl, hcl4, hfl5, hn, hwl6, S⟩
  go_wp2_with fail
  refine (i_GrantSafe _ cs _ fr n _ want _ (St.drds S) (St.own S.tail) (St.own S.tail.tail)).mono ?_
  rintro e w2 ⟨r1, s1, rfl, T⟩
  replace S := S.call T
  clear T
  simp only [List.cons_append, List.nil_append] at S
  go_wp2_with fail
  refine (s_GrantSafe _ cs _ fr n _ want _ (St.drds S.tail.tail) (St.own S.tail.tail.tail) (St.own S.tail.tail.tail.tail)).mono ?_
  rintro e w3 ⟨r2, s2, rfl, T⟩
  replace S := S.call T
  clear T
  simp only [List.cons_append, List.nil_append] at S
  obtain ⟨a2, n2, c2, rfl, -, -, HN2, -⟩ := (St.drds S).get
  obtain ⟨b2, m2, d2, rfl, -⟩ := (St.own S.tail).slice
  have SM := Lib.hid (sameInts_s _ _ _ _ (St.own S.tail.tail.tail) (St.own S.tail))
  replace S := S.tail.tail
  obtain ⟨a1, n1, c1, rfl, -, -, HN1, -⟩ := (St.drds S).get
  obtain ⟨b1, m1, d1, rfl, hm1⟩ := (St.own S.tail).slice
  obtain rfl : n1 = n2 := by rw [HN1.out, HN2.out]
  obtain ⟨la, ln, lc, rfl, -, -, HL, HLC⟩ := (St.drds S.tail.tail).clms
  obtain ⟨fa, M, fc, rfl, hM⟩ := (St.own S.tail.tail.tail).slice
  obtain ⟨ta, W, tc, rfl, hW⟩ := (St.own S.tail.tail.tail.tail).slice
  have HM := Lib.hid hM
  have HW := Lib.hid hW
  have HM1 := Lib.hid hm1
  have hln4 : ln ≤ 4 := by rw [HL.out]; exact hcl4
  have hM5 : M ≤ 5 := by rw [HM.out]; exact hfl5
  have CVS := Lib.hid (fun W g => s_ClaimsValid _ _ cs fr W (St.drds ((S.grow g).tail.tail)) (St.own ((S.grow g).tail.tail.tail)))
  have hno : RowKit.Hid (claimsB cs fr = false ∨ n < 0 ∨ (ln : Int) ≤ n → grantB cs fr n want = false) := by
    intro h
    cases hg : grantB cs fr n want with
    | false => rfl
    | true =>
      obtain ⟨g1, g2, -⟩ := grant_facts hg
      have := HL.out
      rcases h with h | h | h
      · rw [h] at g1; cases g1
      · omega
      · omega
  clear hM hW hm1 HN2
  by_cases hbad : claimsB cs fr = false ∨ n < 0 ∨ (ln : Int) ≤ n
  · have hg := hno.out hbad
    rw [hg]
    have SH := Lib.hid S
    clear S hno hg HLC
    cases hB : claimsB cs fr with
    | false =>
      rw [hB] at CVS
      clear hB hbad
      go_wp2_with fail
      refine SM.out.mono ?_
      rintro e w4 ⟨rfl, nq, rfl⟩
      go_wp2_with fail
      refine (CVS.out _ (gb_drewN (World.grownBy.refl _ _) _)).mono ?_
      rintro e w5 ⟨rfl, rfl⟩
      go_wp2_with (go_at_call 25; refine (alive_any _).mono ?_; rintro e w' ⟨rfl, rfl⟩)
      go_ret
      exact ⟨rfl, gb_below (gb_drewN SH.out.gb _)⟩
    | true =>
      rw [hB] at CVS
      have hr : n < 0 ∨ (ln : Int) ≤ n := by
        rcases hbad with h | h
        · rw [h] at hB; cases hB
        · exact h
      clear hB hbad
      by_cases hn0 : n < 0
      · clear hr
        go_wp2_with fail
        refine SM.out.mono ?_
        rintro e w4 ⟨rfl, nq, rfl⟩
        go_wp2_with fail
        refine (CVS.out _ (gb_drewN (World.grownBy.refl _ _) _)).mono ?_
        rintro e w5 ⟨rfl, rfl⟩
        go_wp2_with (go_at_call 25; refine (alive_any _).mono ?_; rintro e w' ⟨rfl, rfl⟩)
        go_ret
        exact ⟨rfl, gb_below (gb_drewN SH.out.gb _)⟩
      · have hge : (ln : Int) ≤ n := by omega
        clear hr
        go_wp2_with fail
        refine SM.out.mono ?_
        rintro e w4 ⟨rfl, nq, rfl⟩
        go_wp2_with fail
        refine (CVS.out _ (gb_drewN (World.grownBy.refl _ _) _)).mono ?_
        rintro e w5 ⟨rfl, rfl⟩
        go_wp2_with (go_at_call 25; refine (alive_any _).mono ?_; rintro e w' ⟨rfl, rfl⟩)
        go_ret
        exact ⟨rfl, gb_below (gb_drewN SH.out.gb _)⟩
  have hB : claimsB cs fr = true := by
    cases h : claimsB cs fr with
    | false => exact absurd (.inl h) hbad
    | true => rfl
  obtain ⟨N, rfl⟩ : ∃ N : Nat, n = (N : Int) := ⟨n.toNat, by omega⟩
  have hNl : N < ln := by omega
  have hNi : (N : Int) < (ln : Int) := by omega
  have hN0 : (0 : Int) ≤ (N : Int) := by omega
  have CB := Lib.hid hB
  rw [hB] at CVS
  clear hbad hB hno hn
  have GZ : grantB cs fr (N : Int) (List.replicate M 0) = safeB cs fr := by rw [HM.out]; exact grant_zero CB.out (by have := HL.out; omega)
  have hMb : M ≤ 1099511627776 := by omega
  clear HLC
  go_wp2_with fail
  refine SM.out.mono ?_
  rintro e w4 ⟨rfl, nq, rfl⟩
  replace S := S.drewN nq
  go_wp2_with fail
  refine (CVS.out _ (gb_drewN (World.grownBy.refl _ _) _)).mono ?_
  rintro e w5 ⟨rfl, rfl⟩
  clear SM CVS
  go_wp2_with (at_make; refine wpList_mk LI_info rfl _ _ rfl S _ M rfl rfl rfl hMb ?_; intro w6 S6 g6; clear S)
  refine (i_GrantSafe _ cs _ fr (N : Int) _ (List.replicate M 0) _ (St.drds S6.tail.tail.tail) (St.own S6.tail.tail.tail.tail) (St.own S6)).mono ?_
  rintro e w7 ⟨r3, s3, rfl, T⟩
  have S7 := S6.call T
  clear T S6 g6
  simp only [List.cons_append, List.nil_append] at S7
  replace S7 := S7.tail.tail.tail
  rw [GZ]
  clear GZ
  have SF := Lib.hid (i_StateSafe _ cs _ fr _ (St.drds S7.tail.tail) (St.own S7.tail.tail.tail))
  generalize hsb : safeB cs fr = sb at SF ⊢
  clear hsb
  go_wp2_with fail
  refine SF.out.mono ?_
  rintro e w8 ⟨rfl, g8⟩
  have S8 := S7.grow g8
  clear S7 g8 SF
  cases hg : grantB cs fr (N : Int) want with
  | false =>
    obtain rfl : n1 = 0 := by rw [HN1.out, (grant_no hg).1]; rfl
    have SH := Lib.hid S8
    clear S8 hg
    go_wp2
    refine wp_loop_rounds 2 ?_
    rw [rounds_succ]
    go_wp2
    go_ret
    exact ⟨rfl, SH.out.below⟩
  | true =>
    obtain ⟨e1, e2⟩ := grant_yes hg
    rw [Int.toNat_natCast] at e1
    rw [e1, e2] at S8
    obtain ⟨-, -, hwf, hwa⟩ := grant_facts hg
    have SAF := Lib.hid (grantB_safe hg)
    obtain rfl : ln = n1 := by rw [HN1.out, e1, afterC_len, HL.out]
    obtain rfl : M = m1 := by rw [HM1.out, e2, subL_len, HM.out]
    obtain rfl : M = W := by rw [HW.out, hwf, HM.out]
    obtain ⟨oa, on, oc, hov, -, -, -, HOC⟩ := (St.drds S8).clms
    simp only [Value.slice.injEq] at hov
    obtain ⟨rfl, rfl, rfl⟩ := hov
    obtain ⟨la', ln', lc', hlv, -, -, -, HLC⟩ := (St.drds S8.tail.tail).clms
    simp only [Value.slice.injEq] at hlv
    obtain ⟨rfl, rfl, rfl⟩ := hlv
    have RN := Lib.hid (St.own S8.tail)
    have RF := Lib.hid (St.own S8.tail.tail.tail)
    have RW := Lib.hid (St.own S8.tail.tail.tail.tail)
    have WA := Lib.hid hwa
    have WF := Lib.hid hwf
    have GS := Lib.hid S8
    clear S8 hg e1 e2 hwa hwf HM1 HN1
    go_wp2
    go_loopw [16, 17, 18] (fun i _ _ wr => ∃ k : Nat, k ≤ ln ∧ i = .int .i64 k ∧ w8.grownBy wr none) (fun i _ _ _ => ln - (intOf i).toNat)
    case atStart => exact ⟨0, by omega, rfl, World.grownBy.refl _ _⟩
    case round =>
      obtain ⟨k, hk, rfl, G⟩ := hrel
      by_cases hlt : k < ln
      · have hki : (k : Int) < (ln : Int) := by omega
        have hk0 : (0 : Int) ≤ (k : Int) := by omega
        obtain ⟨ob, oo, pa, pn, pc, qa, qn, qc, y1, z1, rfl, hob, hy1, hpn, hpc, hqn, hqc, hpd, hqd, co0, co1⟩ := HOC.out k hlt
        obtain ⟨lb, lo, ra, rn, rc, sa, sn, sc, y, z, rfl, hlb, hy, hrn, hrc, hsn, hsc, hrd, hsd, cl0, cl1⟩ := HLC.out k hlt
        obtain ⟨ly, lz, ay, az⟩ := claimsB_at CB.out k _ hy.out
        dsimp only at ly lz ay az
        have EQ : RowKit.Hid ((k = N → ∀ (j : Nat) (x yj zj : Int), want[j]? = some x → y[j]? = some yj → z[j]? = some zj → y1[j]? = some (yj + x) ∧ z1[j]? = some (zj - x)) ∧ (¬ k = N → y1 = y ∧ z1 = z)) := by
          refine ⟨?_, ?_⟩
          · rintro rfl j x yj zj hx hyj hzj
            exact grant_this CB.out WA.out hy.out hy1.out hx hyj hzj
          · intro hk
            have := grant_other hy.out hy1.out hk
            simp only [Clm.mk.injEq] at this
            exact this
        have hl1 : y1.length = y.length ∧ z1.length = z.length := by
          by_cases hkN : k = N
          · subst hkN
            have := hy1.out
            rw [afterC_at hy.out, List.getElem?_set_self (List.getElem?_eq_some_iff.1 hy.out).1] at this
            have := Option.some.inj this
            unfold grantC at this
            simp only [Clm.mk.injEq] at this
            rw [← this.1, ← this.2, addL_len, subL_len]
            exact ⟨rfl, rfl⟩
          · obtain ⟨q1, q2⟩ := EQ.out.2 hkN
            rw [q1, q2]
            exact ⟨rfl, rfl⟩
        obtain rfl : M = rn := by rw [hrn.out, ly, HM.out]
        obtain rfl : M = sn := by rw [hsn.out, lz, HM.out]
        obtain rfl : M = pn := by rw [hpn.out, hl1.1, ly, HM.out]
        obtain rfl : M = qn := by rw [hqn.out, hl1.2, lz, HM.out]
        have lyM : RowKit.Hid (y.length = M ∧ z.length = M) := ⟨by rw [ly, HM.out], by rw [lz, HM.out]⟩
        have P1 := Lib.hid hpd
        have P2 := Lib.hid hqd
        have P3 := Lib.hid hrd
        have P4 := Lib.hid hsd
        have AY := Lib.hid ay
        have AZ := Lib.hid az
        clear hpd hqd hrd hsd ay az hl1 ly lz hy hy1 hrn hsn hpn hqn HOC HLC
        obtain ⟨wo, rfl⟩ : ∃ wo : World, wo = wr := ⟨_, rfl⟩
        go_wp2
        go_loopw [17, 18] (fun i _ wr => ∃ j : Nat, j ≤ M ∧ i = .int .i64 j ∧ w8.grownBy wr none) (fun i _ _ => M - (intOf i).toNat)
        case atStart => exact ⟨0, by omega, rfl, G⟩
        case round =>
          obtain ⟨j, hj, rfl, G2⟩ := hrel
          clear G
          by_cases hlt2 : j < M
          rotate_left
          · obtain rfl : j = M := by omega
            have GG := Lib.hid G2
            clear G2
            go_wp2
            go_roundw
            case rel => exact ⟨k + 1, by omega, by go_num, GG.out⟩
            case measure => simp [intOf]; omega
          have hji : (j : Int) < (M : Int) := by omega
          have hj0 : (0 : Int) ≤ (j : Int) := by omega
          obtain ⟨yj, hyj⟩ := at_lt lyM.out.1 hlt2
          obtain ⟨zj, hzj⟩ := at_lt lyM.out.2 hlt2
          obtain ⟨fj, hfj⟩ := at_lt HM.out.symm hlt2
          obtain ⟨x, hx⟩ := at_lt (show want.length = M by rw [WF.out, HM.out]) hlt2
          obtain ⟨y0, y100⟩ := amtB_at AY.out hyj
          obtain ⟨z0, z100⟩ := amtB_at AZ.out hzj
          obtain ⟨f0, f100⟩ := amtB_at (claimsB_len CB.out).2.2 hfj
          obtain ⟨x0, x100⟩ := amtB_at WA.out hx
          have hnj : (subL fr want)[j]? = some (fj - x) := by rw [← subW_in ⟨f0, f100⟩ ⟨x0, x100⟩]; exact subL_at hfj hx
          obtain ⟨nb, no, rfl, cn⟩ := row_at RN.out G2 hnj
          obtain ⟨fb, fo, rfl, cf⟩ := row_at RF.out G2 hfj
          obtain ⟨tb, tof, rfl, ct⟩ := row_at RW.out G2 hx
          obtain ⟨yb, yo, rfl, cy⟩ := row_at P3.out G2 hyj
          obtain ⟨zb, zo, rfl, cz⟩ := row_at P4.out G2 hzj
          have co0' := gb_cell G2 co0 (by simp)
          have co1' := gb_cell G2 co1 (by simp)
          have cl0' := gb_cell G2 cl0 (by simp)
          have cl1' := gb_cell G2 cl1 (by simp)
          have GG := Lib.hid G2
          by_cases hkN : k = N
          · obtain ⟨q1, q2⟩ := EQ.out.1 hkN j x yj zj hx hyj hzj
            obtain ⟨pb, po, rfl, cp⟩ := row_at P1.out G2 q1
            obtain ⟨qb, qo, rfl, cq⟩ := row_at P2.out G2 q2
            subst hkN
            clear hyj hzj hfj hx hnj q1 q2 G2 co0 co1 cl0 cl1
            go_wp2
            go_quiet (fail)
            go_wp2
            go_roundw
            case rel => exact ⟨j + 1, by omega, by go_num, gb_drewN GG.out _⟩
            case measure => simp [intOf]; omega
          · obtain ⟨q1, q2⟩ := EQ.out.2 hkN
            subst q1
            subst q2
            obtain ⟨pb, po, rfl, cp⟩ := row_at P1.out G2 hyj
            obtain ⟨qb, qo, rfl, cq⟩ := row_at P2.out G2 hzj
            have hne : ((k : Int) == (N : Int)) = false := beq_eq_false_iff_ne.2 (by omega)
            clear hyj hzj hfj hx hnj G2 co0 co1 cl0 cl1
            go_wp2
            go_quiet (fail)
            go_wp2
            go_roundw
            case rel => exact ⟨j + 1, by omega, by go_num, gb_drewN GG.out _⟩
            case measure => simp [intOf]; omega
      · obtain rfl : k = ln := by omega
        have S9 := GS.out.grow G
        have SF := i_StateSafe _ _ _ _ _ (St.drds S9) (St.own S9.tail)
        rw [show safeB (afterC cs N want) (subL fr want) = true from by simpa using SAF.out] at SF
        have SF := Lib.hid SF
        have SB := Lib.hid S9
        clear S9 HOC HLC
        go_wp2_with fail
        refine SF.out.mono ?_
        rintro e w9 ⟨rfl, g9⟩
        go_wp2
        go_ret
        exact ⟨rfl, (SB.out.grow g9).below⟩
end Go.Proofs.Ytpbihjkfbbmdjaa
namespace Go.Proofs.Ytpbihjkfbbmdjaa.fnGrantSafeDone
open Go Go.ChangeShapes Go.WideShapes Go.ChangeAt Go.RowKit Go.Proofs.Ytpbihjkfbbmdjaa
set_option linter.unusedVariables false
theorem own : ownKnob Try.prog.godebug = none := by kernel_rfl
theorem laidOut : laidOutB Try.prog = true := by kernel_rfl
set_option maxRecDepth 100000 in
theorem lifted (os : Os) (started : os.Started) (H : Type) (enc : TypeId × Value → H) :
    ReturnsInHanded {} Try.checked os 6 .any (Rows.fnGrantSafeSpec.pre6 enc Try.prog Try.f6 Rows.fnGrantSafeRow.domain false) (Rows.fnGrantSafeSpec.post enc Try.prog Try.f6 false true false false) := by
  refine returnsInHanded_of_change (C := Try.checked) own started (by kernel_rfl) Try.func6
    (ChangeSpec.witness6 (enc := enc) (C := Try.checked) false ⟨#[], #[.slice none 0 0], []⟩ 8 (by kernel_rfl) (by kernel_rfl) (by kernel_rfl) (by kernel_rfl)) ?_
  intro W base args ds gs before hval0 hW hcnd _
  have hval : ∀ (j : Nat) t v, Try.f6.params[j]? = some t → args[j]? = some v → Value.okWide Try.prog W .any base t v := hval0
  have hW' := hW
  obtain ⟨p, q, hA0, hV, rfl, hfz, hnd⟩ := hW
  have hA : DataW.TrodAll enc Try.prog W 0 (fun _ => true) true Try.f6.params.toList args.toList ds p := hA0
  rw [Try.params6] at hA hval
  obtain ⟨v0, vs0, d0, ds0, p0, q0, hargs, rfl, rfl, h0, r0⟩ := trodAll_cons hA
  obtain ⟨rfl, rfl, rfl⟩ := trodAll_nil r0
  obtain rfl : args = #[v0] := by cases args; simp_all
  obtain ⟨rfl, rfl⟩ := trodVars_none hV
  obtain ⟨a0, len0, cap0, rfl⟩ := okWide_slice Try.underlying38 (hval 0 38 v0 rfl rfl)
  have k0 := h0
  have lt0 : ∀ x ∈ p0, x.block < W.heap.size := by obtain ⟨m, hm⟩ := k0; exact DataW.trod_lt m _ _ _ hm
  have w0 : Byts W a0 len0 cap0 := by
    obtain ⟨fuel, hf⟩ := h0
    rcases open_ints Try.underlying38 Try.underlying5 (by kernel_rfl) hf with ⟨hcs, _⟩ | ⟨x, l, c, zs, hcs, _, hl, hm, hz, _, hcell, hwz⟩
    · simp [Value.cells] at hcs
      obtain ⟨rfl, rfl, rfl⟩ := hcs
      exact byts_nil W
    · simp [Value.cells] at hcs
      obtain ⟨rfl, rfl, rfl⟩ := hcs
      exact byts_of hl hm (by simpa using hz) hcell hwz
  clear hA0 hval0
  refine (law_FnGrantSafe a0 len0 cap0 W w0).mono fun e W' ⟨he, bel⟩ => ?_
  subst he
  exact ⟨_, rfl, _, _, _, [], _, [], hW', trodAll_mk1 (shut_bool Try.underlying4 _), (trodAll_cons_mk (Below.trod laidOut (by kernel_rfl) (of_decide_eq_true (by kernel_rfl)) k0 bel lt0) trodAll_mk0), rfl, bel.frame _, fun h => by cases h⟩
theorem over : Rows.fnGrantSafeRow.holds Try.pinned (OpenSpec.ofChange Rows.fnGrantSafeSpec) :=
  OpenClaim.holds_of_wide 6 Try.f6 rfl rfl rfl rfl rfl rfl rfl ⟨rfl, rfl, rfl, rfl, rfl⟩ rfl rfl rfl rfl rfl (by kernel_rfl) Try.func6 (by kernel_rfl)
    (of_decide_eq_true (by kernel_rfl)) (by unfold Func.isWrapper; first | (rw [if_pos (by decide +kernel)]; kernel_rfl) | (rw [if_neg (by decide +kernel)]; exact ⟨rfl, rfl⟩))
    (fun os started H enc _ => lifted os started H enc)
theorem proved : Rows.FnGrantSafeSaid := over
#print axioms proved
end Go.Proofs.Ytpbihjkfbbmdjaa.fnGrantSafeDone
