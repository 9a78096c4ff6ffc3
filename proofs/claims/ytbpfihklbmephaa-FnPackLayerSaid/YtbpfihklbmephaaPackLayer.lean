/-
  FnPackLayer: for every code the law on packed layers returns true; nothing that was there is written. No condition.
-/
import Derived.Test.YtbpfihklbmephaaPalDraw
import Derived.Test.YtbpfihklbmephaaPackS
import Derived.Test.YtbpfihklbmephaaPackLaw
import Derived.Test.YtbpfihklbmephaaDrawn3
import Derived.Test.YtbpfihklbmephaaBlk
import Derived.Test.YtbpfihklbmephaaRows
import Derived.Deep.RegionLaw
import Derived.ProofKit
import Derived.OpenShut
import Derived.ShutString
import Derived.ChangeOld
namespace Go.Proofs.Ytbpfihklbmephaa
open Go Go.RowKit
set_option linter.unusedVariables false
set_option maxRecDepth 100000 in
set_option maxHeartbeats 1000000 in
theorem law_FnPackLayer (a : Option Addr) (len cap : Nat) (w : World) (hw : Byts w a len cap) :
    Calls Try.prog 7 #[.slice a len cap] w fun e w' => e = .returned (.bool true) ∧ Below w.heap.size w w' := by
  have HB := Lib.hid hw; have hm : len ≤ 9223372036854775807 := (by have := hw.1; have := hw.2.1; unfold maxLen at this; omega); clear hw; by_cases hl : 1048576 < len; (go_enter Try.func7, Try.ntmps7; go_wp2_with fail; go_ret; exact ⟨rfl, Below.refl _ _⟩)
  go_enter Try.func7, Try.ntmps7
  go_wp2_with fail
  refine (DrawPackLayer_any _ _ _ _ HB.out).mono ?_
  rintro e w1 ⟨P, Q, ww, d, rfl, hp, hq, hr, hs, g1⟩
  have S := (St.refl w).grow g1
  clear g1
  go_wp2_with fail
  refine (i_PackLayer P Q ww d _).mono ?_
  rintro e w2 ⟨v1, rfl, T⟩
  replace S := S.call T
  clear T
  go_wp2_with fail
  refine (s_PackLayer P Q ww d _).mono ?_
  rintro e w3 ⟨v2, rfl, T⟩
  replace S := S.call T
  clear T
  simp only [List.cons_append, List.nil_append] at S
  obtain ⟨xs, hx⟩ : ∃ xs, xs = pack P Q ww d := ⟨_, rfl⟩
  have hl60 : xs.length ≤ 60 := by rw [hx]; exact pack_len P Q ww d
  rw [← hx] at S
  obtain ⟨a2, n2, c2, rfl, -, -, HN2, -⟩ := LBx_own S
  obtain ⟨a1, n, c1, rfl, hc1, hm1, HN, -⟩ := LBx_own S.tail
  obtain rfl : n = n2 := by rw [HN.out, HN2.out]
  have hn60 : n ≤ 60 := by rw [HN.out]; exact hl60
  cases hB : sizeB P Q ww d with
  | false =>
    obtain rfl : n = 0 := by rw [HN.out, hx]; unfold pack; rw [hB]; rfl
    clear HN HN2 hx
    have hB2 : ¬ ((1 ≤ P ∧ P ≤ 200) ∧ (1 ≤ Q ∧ Q ≤ 200) ∧ (1 ≤ ww ∧ ww ≤ 200) ∧ (1 ≤ d ∧ d ≤ 200)) := by
      intro h
      unfold sizeB at hB
      rw [inB_t.2 h.1, inB_t.2 h.2.1, inB_t.2 h.2.2.1, inB_t.2 h.2.2.2] at hB
      cases hB
    clear hB
    go_wp2
    refine wp_loop_rounds 2 ?_
    by_cases k1 : P < 1
    · clear hB2
      rw [rounds_succ]
      go_wp2_with (go_at_call 15; refine (alive_any _).mono ?_; rintro e w' ⟨rfl, rfl⟩)
      go_ret
      exact ⟨rfl, S.below⟩
    by_cases k2 : 200 < P
    · clear hB2
      rw [rounds_succ]
      go_wp2_with (go_at_call 15; refine (alive_any _).mono ?_; rintro e w' ⟨rfl, rfl⟩)
      go_ret
      exact ⟨rfl, S.below⟩
    by_cases k3 : Q < 1
    · clear hB2
      rw [rounds_succ]
      go_wp2_with (go_at_call 15; refine (alive_any _).mono ?_; rintro e w' ⟨rfl, rfl⟩)
      go_ret
      exact ⟨rfl, S.below⟩
    by_cases k4 : 200 < Q
    · clear hB2
      rw [rounds_succ]
      go_wp2_with (go_at_call 15; refine (alive_any _).mono ?_; rintro e w' ⟨rfl, rfl⟩)
      go_ret
      exact ⟨rfl, S.below⟩
    by_cases k5 : ww < 1
    · clear hB2
      rw [rounds_succ]
      go_wp2_with (go_at_call 15; refine (alive_any _).mono ?_; rintro e w' ⟨rfl, rfl⟩)
      go_ret
      exact ⟨rfl, S.below⟩
    by_cases k6 : 200 < ww
    · clear hB2
      rw [rounds_succ]
      go_wp2_with (go_at_call 15; refine (alive_any _).mono ?_; rintro e w' ⟨rfl, rfl⟩)
      go_ret
      exact ⟨rfl, S.below⟩
    by_cases k7 : d < 1
    · clear hB2
      rw [rounds_succ]
      go_wp2_with (go_at_call 15; refine (alive_any _).mono ?_; rintro e w' ⟨rfl, rfl⟩)
      go_ret
      exact ⟨rfl, S.below⟩
    by_cases k8 : 200 < d
    · clear hB2
      rw [rounds_succ]
      go_wp2_with (go_at_call 15; refine (alive_any _).mono ?_; rintro e w' ⟨rfl, rfl⟩)
      go_ret
      exact ⟨rfl, S.below⟩
    exfalso
    omega
  | true =>
    obtain ⟨b1, b2, b3, b4⟩ := sizeB_bd hB
    have n0 : ∀ {x y : Int}, 1 ≤ x ∧ x ≤ 200 → 1 ≤ y ∧ y ≤ 200 → ∃ z : Nat, x / y = (z : Int) ∧ z ≤ 200 := by
      intro x y hx hy
      have h1 := Int.ediv_nonneg (show 0 ≤ x by omega) (show 0 ≤ y by omega)
      have h2 := Int.ediv_le_self y (show 0 ≤ x by omega)
      exact ⟨(x / y).toNat, by omega, by omega⟩
    obtain ⟨A1, hA1, lA1⟩ := n0 b1 b3
    obtain ⟨B1, hB1, lB1⟩ := n0 b2 b4
    obtain ⟨C1, hC1, lC1⟩ := n0 b1 b4
    obtain ⟨D1, hD1, lD1⟩ := n0 b2 b3
    have hxs : xs = bestOf P Q ww d (Q / d + 1).toNat := by rw [hx]; unfold pack; rw [hB]; rfl
    obtain ⟨k1, k2, k3, k4, k5⟩ := pack_law b1 b2 b3 b4 hxs hA1 hB1 hC1 hD1
    have OK := Lib.hid k1
    have OF := Lib.hid k2
    have CT := Lib.hid (And.intro k3 (And.intro k4 k5))
    have QS := Lib.hid (And.intro hA1 (And.intro hB1 (And.intro hC1 hD1)))
    have SZ := Lib.hid (And.intro b1 (And.intro b2 (And.intro b3 b4)))
    clear hB hx hxs k1 k2 k3 k4 k5 hA1 hB1 hC1 hD1 n0 b1 b2 b3 b4
    go_wp2
    go_loopw [9] (fun i wr => ∃ k : Nat, k ≤ n ∧ i = .int .i64 k ∧ w3.grownBy wr none) (fun i _ => n - (intOf i).toNat)
    case atStart => exact ⟨0, by omega, rfl, World.grownBy.refl _ _⟩
    case round =>
      obtain ⟨k, hk, rfl, G⟩ := hrel
      by_cases hlt : k < n
      · have hki : (k : Int) < (n : Int) := by omega
        have hk0 : (0 : Int) ≤ (k : Int) := by omega
        obtain ⟨g2, cp2, hv2, -, -⟩ := S.ownBlk (by have := HN.out; omega)
        simp only [Value.slice.injEq] at hv2
        obtain ⟨rfl, -, rfl⟩ := hv2
        obtain ⟨g1, cp1, hv1, -, -⟩ := S.tail.ownBlk (by have := HN.out; omega)
        simp only [Value.slice.injEq] at hv1
        obtain ⟨rfl, -, rfl⟩ := hv1
        obtain ⟨x, hx, ⟨f4, f5, f6, f7⟩, -⟩ := LBx_cells (S.grow G) k (by have := HN.out; omega)
        obtain ⟨x', hx', ⟨f0, f1, f2, f3⟩, -⟩ := LBx_cells (S.grow G).tail k (by have := HN.out; omega)
        obtain rfl : x = x' := by rw [hx] at hx'; exact Option.some.inj hx'
        have ho := OF.out x (List.mem_of_getElem? hx)
        clear hx hx'
        obtain ⟨X0, X1, X2, X3⟩ := x
        dsimp only at f0 f1 f2 f3 f4 f5 f6 f7
        have hcase : (X2 = ww ∧ X3 = d) ∨ (X2 = d ∧ X3 = ww ∧ ¬ d = ww) := by
          unfold bxOf at ho
          dsimp only at ho
          omega
        have SH := Lib.hid S
        have GH := Lib.hid G
        clear ho S G
        rcases hcase with ⟨h2, h3⟩ | ⟨h2, h3, hne⟩ <;> (rw [h2] at f2 f6; rw [h3] at f3 f7; clear h2 h3)
        · go_wp2_with fail
          go_quiet (fail)
          clear f0 f1 f2 f3 f4 f5 f6 f7
          have S2 := SH.out
          go_wp2
          go_roundw
          case rel => exact ⟨k + 1, by omega, by go_num, gb_drewN GH.out _⟩
          case measure => simp [intOf]; omega
        · have hne' : (d == ww) = false := by simpa using hne
          clear hne
          go_wp2_with fail
          go_quiet (fail)
          clear f0 f1 f2 f3 f4 f5 f6 f7
          have S2 := SH.out
          go_wp2
          go_roundw
          case rel => exact ⟨k + 1, by omega, by go_num, gb_drewN GH.out _⟩
          case measure => simp [intOf]; omega
      · obtain rfl : k = n := by omega
        obtain ⟨⟨b1, b1'⟩, ⟨b2, b2'⟩, ⟨b3, b3'⟩, ⟨b4, b4'⟩⟩ := SZ.out
        obtain ⟨q1, q2, q3, q4⟩ := QS.out
        obtain ⟨k3, k4, k5⟩ := CT.out
        rw [← HN.out] at k3 k4 k5
        have e1 : ¬ P < 1 := by omega
        have e2 : ¬ 200 < P := by omega
        have e3 : ¬ Q < 1 := by omega
        have e4 : ¬ 200 < Q := by omega
        have e5 : ¬ ww < 1 := by omega
        have e6 : ¬ 200 < ww := by omega
        have e7 : ¬ d < 1 := by omega
        have e8 : ¬ 200 < d := by omega
        have z1 : ¬ ww = 0 := by omega
        have z2 : ¬ d = 0 := by omega
        have z3 : (ww == 0) = false := by simpa using z1
        have z4 : (d == 0) = false := by simpa using z2
        have t1 : Int.tdiv P ww = (A1 : Int) := by rw [Int.tdiv_eq_ediv_of_nonneg (by omega)]; exact q1
        have t2 : Int.tdiv Q d = (B1 : Int) := by rw [Int.tdiv_eq_ediv_of_nonneg (by omega)]; exact q2
        have t3 : Int.tdiv P d = (C1 : Int) := by rw [Int.tdiv_eq_ediv_of_nonneg (by omega)]; exact q3
        have t4 : Int.tdiv Q ww = (D1 : Int) := by rw [Int.tdiv_eq_ediv_of_nonneg (by omega)]; exact q4
        obtain ⟨M1, hM1⟩ : ∃ M : Nat, A1 * B1 = M := ⟨_, rfl⟩
        obtain ⟨M2, hM2⟩ : ∃ M : Nat, C1 * D1 = M := ⟨_, rfl⟩
        have lM1 : M1 ≤ 40000 := by rw [← hM1]; exact Nat.mul_le_mul lA1 lB1
        have lM2 : M2 ≤ 40000 := by rw [← hM2]; exact Nat.mul_le_mul lC1 lD1
        have p1 : (A1 : Int) * (B1 : Int) = (M1 : Int) := by rw [← hM1, Int.natCast_mul]
        have p2 : (C1 : Int) * (D1 : Int) = (M2 : Int) := by rw [← hM2, Int.natCast_mul]
        rw [hM1] at k3
        rw [hM2] at k4
        obtain ⟨T1, p3⟩ : ∃ T : Int, (k : Int) * ww = T := ⟨_, rfl⟩
        obtain ⟨T2, p4⟩ : ∃ T : Int, T1 * d = T := ⟨_, rfl⟩
        obtain ⟨T3, p5⟩ : ∃ T : Int, P * Q = T := ⟨_, rfl⟩
        rw [p3, p4, p5] at k5
        have l1 := mul_bd (show (0 : Int) ≤ (k : Int) by omega) (by omega) (show 0 ≤ ww by omega) (by omega)
        have l3 := mul_bd (show 0 ≤ P by omega) (by omega) (show 0 ≤ Q by omega) (by omega)
        rw [p3] at l1
        rw [p5] at l3
        have l2 : 0 ≤ T2 := by rw [← p4]; exact Int.mul_nonneg l1.1 (by omega)
        have i1 : IntKind.i64.wrap (A1 : Int) = (A1 : Int) := IntWalk.i64_in _ (by omega)
        have i2 : IntKind.i64.wrap (B1 : Int) = (B1 : Int) := IntWalk.i64_in _ (by omega)
        have i3 : IntKind.i64.wrap (C1 : Int) = (C1 : Int) := IntWalk.i64_in _ (by omega)
        have i4 : IntKind.i64.wrap (D1 : Int) = (D1 : Int) := IntWalk.i64_in _ (by omega)
        have i5 : IntKind.i64.wrap (M1 : Int) = (M1 : Int) := IntWalk.i64_in _ (by omega)
        have i6 : IntKind.i64.wrap (M2 : Int) = (M2 : Int) := IntWalk.i64_in _ (by omega)
        have i7 : IntKind.i64.wrap T1 = T1 := IntWalk.i64_in _ (by omega)
        have i8 : IntKind.i64.wrap T2 = T2 := IntWalk.i64_in _ (by omega)
        have i9 : IntKind.i64.wrap T3 = T3 := IntWalk.i64_in _ (by omega)
        have CV : RowKit.Hid (∀ W, wr.grownBy W none → Calls Try.prog 19 #[.int .i64 P, .int .i64 Q, .slice a1 k c1] W fun e w' => e = .returned (.bool true) ∧ W.grownBy w' none) := by
          intro W hg
          have := i_LayerValid P Q _ xs W ((St.own (S.grow G).tail).kept hg)
          rwa [layerB_of OK.out] at this
        have GB := Lib.hid (gb_trans S.gb G)
        obtain ⟨MX, hMX⟩ : ∃ MX : Int, (if M1 < M2 then (M2 : Int) else (M1 : Int)) = MX := ⟨_, rfl⟩
        obtain ⟨MN, hMN⟩ : ∃ MN : Int, (if MX < 60 then MX else 60) = MN := ⟨_, rfl⟩
        have k6 : MN ≤ (k : Int) := by rw [← hMN, ← hMX]; split <;> split <;> omega
        clear OK OF CT QS SZ S G k3 k4 hM1 hM2 q1 q2 q3 q4 HN HN2
        go_wp2_with fail
        refine wp_drawn_put3 (shp [some (.int .i64 P), some (.int .i64 Q), some (.slice a1 k c1), some (.bool true), some (.bool true), some (.slice a1 k c1), some (.int .i64 (k : Int)), some (.int .i64 P), some (.int .i64 ww), some (.int .i64 A1), some (.int .i64 Q), some (.int .i64 d), some (.int .i64 B1), some (.int .i64 M1), some (.int .i64 P), some (.int .i64 d), some (.int .i64 C1), some (.int .i64 Q), some (.int .i64 ww), some (.int .i64 D1), some (.int .i64 M2), some (.int .i64 MX), some (.int .i64 MN), some (.bool true), some (.bool true), some (.bool true), some (.slice a1 k c1), some (.int .i64 (k : Int)), some (.int .i64 ww), some (.int .i64 T1), some (.int .i64 d), some (.int .i64 T2), some (.int .i64 P), some (.int .i64 Q), some (.int .i64 T3), some (.bool true), some (.bool true), some (.bool true)]) (fun D S w' => wr.grownBy w' none) (by kernel_rfl) (by kernel_rfl) ((St.refl wr).drew.gb) ?_ ?_
        · refine step_plain3 rfl (fun D a w hD hB hL hJ hd hs K hK => ?_) ?_
          · have e3 : a.tmps[3]?.getD undef = .int .i64 P := hs.at 3 (by kernel_rfl)
            clear hB hL hD hd hs
            have HJ := Lib.hid hJ
            clear hJ
            go_simp
            exact hK.out _ _ rfl HJ.out (fun _ _ h => h)
          refine step_plain3 rfl (fun D a w hD hB hL hJ hd hs K hK => ?_) ?_
          · have e4 : a.tmps[4]?.getD undef = .int .i64 Q := hs.at 4 (by kernel_rfl)
            clear hB hL hD hd hs
            have HJ := Lib.hid hJ
            clear hJ
            go_simp
            exact hK.out _ _ rfl HJ.out (fun _ _ h => h)
          refine step_plain3 rfl (fun D a w hD hB hL hJ hd hs K hK => ?_) ?_
          · have e7 : a.tmps[7]?.getD undef = .slice a1 k c1 := hs.at 7 (by kernel_rfl)
            clear hB hL hD hd hs
            have HJ := Lib.hid hJ
            clear hJ
            go_simp
            exact hK.out _ _ rfl HJ.out (fun _ _ h => h)
          refine step_plain3 rfl (fun D a w hD hB hL hJ hd hs K hK => ?_) ?_
          · have e123 : a.tmps[123]?.getD undef = .int .i64 P := hs.get 0 123 (by kernel_rfl) (by kernel_rfl)
            have e124 : a.tmps[124]?.getD undef = .int .i64 Q := hs.get 1 124 (by kernel_rfl) (by kernel_rfl)
            have e125 : a.tmps[125]?.getD undef = .slice a1 k c1 := hs.get 2 125 (by kernel_rfl) (by kernel_rfl)
            have HJ := Lib.hid hJ
            clear hJ hB hL hD hd hs
            go_simp
            refine (CV.out _ HJ.out).mono ?_
            rintro e w2 ⟨rfl, g2⟩
            exact hK.out _ _ rfl (gb_trans HJ.out g2) (fun _ _ h => h)
          refine step_plain3 rfl (fun D a w hD hB hL hJ hd hs K hK => ?_) ?_
          · have e126 : a.tmps[126]?.getD undef = .bool true := hs.get 3 126 (by kernel_rfl) (by kernel_rfl)
            clear hB hL hD hd hs
            have HJ := Lib.hid hJ
            clear hJ
            go_simp
            exact hK.out _ _ rfl HJ.out (fun _ _ h => h)
          refine step_guard3 4 127 true rfl (by kernel_rfl) (fun a w hs => hs.get 4 127 (by kernel_rfl) (by kernel_rfl)) (fun D a w hD hB hL hJ hd hs K hK => ?_) ?_
          · have e7 : a.tmps[7]?.getD undef = .slice a1 k c1 := hs.at 7 (by kernel_rfl)
            clear hB hL hD hd hs
            have HJ := Lib.hid hJ
            clear hJ
            go_simp
            exact hK.out _ _ rfl HJ.out (fun _ _ h => h)
          refine step_guard3 4 127 true rfl (by kernel_rfl) (fun a w hs => hs.get 4 127 (by kernel_rfl) (by kernel_rfl)) (fun D a w hD hB hL hJ hd hs K hK => ?_) ?_
          · have e128 : a.tmps[128]?.getD undef = .slice a1 k c1 := hs.get 5 128 (by kernel_rfl) (by kernel_rfl)
            clear hB hL hD hd hs
            have HJ := Lib.hid hJ
            clear hJ
            go_simp
            exact hK.out _ _ rfl HJ.out (fun _ _ h => h)
          refine step_guard3 4 127 true rfl (by kernel_rfl) (fun a w hs => hs.get 4 127 (by kernel_rfl) (by kernel_rfl)) (fun D a w hD hB hL hJ hd hs K hK => ?_) ?_
          · have e3 : a.tmps[3]?.getD undef = .int .i64 P := hs.at 3 (by kernel_rfl)
            clear hB hL hD hd hs
            have HJ := Lib.hid hJ
            clear hJ
            go_simp
            exact hK.out _ _ rfl HJ.out (fun _ _ h => h)
          refine step_guard3 4 127 true rfl (by kernel_rfl) (fun a w hs => hs.get 4 127 (by kernel_rfl) (by kernel_rfl)) (fun D a w hD hB hL hJ hd hs K hK => ?_) ?_
          · have e5 : a.tmps[5]?.getD undef = .int .i64 ww := hs.at 5 (by kernel_rfl)
            clear hB hL hD hd hs
            have HJ := Lib.hid hJ
            clear hJ
            go_simp
            exact hK.out _ _ rfl HJ.out (fun _ _ h => h)
          refine step_guard3 4 127 true rfl (by kernel_rfl) (fun a w hs => hs.get 4 127 (by kernel_rfl) (by kernel_rfl)) (fun D a w hD hB hL hJ hd hs K hK => ?_) ?_
          · have e130 : a.tmps[130]?.getD undef = .int .i64 P := hs.get 7 130 (by kernel_rfl) (by kernel_rfl)
            have e131 : a.tmps[131]?.getD undef = .int .i64 ww := hs.get 8 131 (by kernel_rfl) (by kernel_rfl)
            clear hB hL hD hd hs
            have HJ := Lib.hid hJ
            clear hJ
            go_simp
            exact hK.out _ _ rfl HJ.out (fun _ _ h => h)
          refine step_guard3 4 127 true rfl (by kernel_rfl) (fun a w hs => hs.get 4 127 (by kernel_rfl) (by kernel_rfl)) (fun D a w hD hB hL hJ hd hs K hK => ?_) ?_
          · have e4 : a.tmps[4]?.getD undef = .int .i64 Q := hs.at 4 (by kernel_rfl)
            clear hB hL hD hd hs
            have HJ := Lib.hid hJ
            clear hJ
            go_simp
            exact hK.out _ _ rfl HJ.out (fun _ _ h => h)
          refine step_guard3 4 127 true rfl (by kernel_rfl) (fun a w hs => hs.get 4 127 (by kernel_rfl) (by kernel_rfl)) (fun D a w hD hB hL hJ hd hs K hK => ?_) ?_
          · have e6 : a.tmps[6]?.getD undef = .int .i64 d := hs.at 6 (by kernel_rfl)
            clear hB hL hD hd hs
            have HJ := Lib.hid hJ
            clear hJ
            go_simp
            exact hK.out _ _ rfl HJ.out (fun _ _ h => h)
          refine step_guard3 4 127 true rfl (by kernel_rfl) (fun a w hs => hs.get 4 127 (by kernel_rfl) (by kernel_rfl)) (fun D a w hD hB hL hJ hd hs K hK => ?_) ?_
          · have e133 : a.tmps[133]?.getD undef = .int .i64 Q := hs.get 10 133 (by kernel_rfl) (by kernel_rfl)
            have e134 : a.tmps[134]?.getD undef = .int .i64 d := hs.get 11 134 (by kernel_rfl) (by kernel_rfl)
            clear hB hL hD hd hs
            have HJ := Lib.hid hJ
            clear hJ
            go_simp
            exact hK.out _ _ rfl HJ.out (fun _ _ h => h)
          refine step_guard3 4 127 true rfl (by kernel_rfl) (fun a w hs => hs.get 4 127 (by kernel_rfl) (by kernel_rfl)) (fun D a w hD hB hL hJ hd hs K hK => ?_) ?_
          · have e132 : a.tmps[132]?.getD undef = .int .i64 A1 := hs.get 9 132 (by kernel_rfl) (by kernel_rfl)
            have e135 : a.tmps[135]?.getD undef = .int .i64 B1 := hs.get 12 135 (by kernel_rfl) (by kernel_rfl)
            clear hB hL hD hd hs
            have HJ := Lib.hid hJ
            clear hJ
            go_simp
            exact hK.out _ _ rfl HJ.out (fun _ _ h => h)
          refine step_guard3 4 127 true rfl (by kernel_rfl) (fun a w hs => hs.get 4 127 (by kernel_rfl) (by kernel_rfl)) (fun D a w hD hB hL hJ hd hs K hK => ?_) ?_
          · have e3 : a.tmps[3]?.getD undef = .int .i64 P := hs.at 3 (by kernel_rfl)
            clear hB hL hD hd hs
            have HJ := Lib.hid hJ
            clear hJ
            go_simp
            exact hK.out _ _ rfl HJ.out (fun _ _ h => h)
          refine step_guard3 4 127 true rfl (by kernel_rfl) (fun a w hs => hs.get 4 127 (by kernel_rfl) (by kernel_rfl)) (fun D a w hD hB hL hJ hd hs K hK => ?_) ?_
          · have e6 : a.tmps[6]?.getD undef = .int .i64 d := hs.at 6 (by kernel_rfl)
            clear hB hL hD hd hs
            have HJ := Lib.hid hJ
            clear hJ
            go_simp
            exact hK.out _ _ rfl HJ.out (fun _ _ h => h)
          refine step_guard3 4 127 true rfl (by kernel_rfl) (fun a w hs => hs.get 4 127 (by kernel_rfl) (by kernel_rfl)) (fun D a w hD hB hL hJ hd hs K hK => ?_) ?_
          · have e137 : a.tmps[137]?.getD undef = .int .i64 P := hs.get 14 137 (by kernel_rfl) (by kernel_rfl)
            have e138 : a.tmps[138]?.getD undef = .int .i64 d := hs.get 15 138 (by kernel_rfl) (by kernel_rfl)
            clear hB hL hD hd hs
            have HJ := Lib.hid hJ
            clear hJ
            go_simp
            exact hK.out _ _ rfl HJ.out (fun _ _ h => h)
          refine step_guard3 4 127 true rfl (by kernel_rfl) (fun a w hs => hs.get 4 127 (by kernel_rfl) (by kernel_rfl)) (fun D a w hD hB hL hJ hd hs K hK => ?_) ?_
          · have e4 : a.tmps[4]?.getD undef = .int .i64 Q := hs.at 4 (by kernel_rfl)
            clear hB hL hD hd hs
            have HJ := Lib.hid hJ
            clear hJ
            go_simp
            exact hK.out _ _ rfl HJ.out (fun _ _ h => h)
          refine step_guard3 4 127 true rfl (by kernel_rfl) (fun a w hs => hs.get 4 127 (by kernel_rfl) (by kernel_rfl)) (fun D a w hD hB hL hJ hd hs K hK => ?_) ?_
          · have e5 : a.tmps[5]?.getD undef = .int .i64 ww := hs.at 5 (by kernel_rfl)
            clear hB hL hD hd hs
            have HJ := Lib.hid hJ
            clear hJ
            go_simp
            exact hK.out _ _ rfl HJ.out (fun _ _ h => h)
          refine step_guard3 4 127 true rfl (by kernel_rfl) (fun a w hs => hs.get 4 127 (by kernel_rfl) (by kernel_rfl)) (fun D a w hD hB hL hJ hd hs K hK => ?_) ?_
          · have e140 : a.tmps[140]?.getD undef = .int .i64 Q := hs.get 17 140 (by kernel_rfl) (by kernel_rfl)
            have e141 : a.tmps[141]?.getD undef = .int .i64 ww := hs.get 18 141 (by kernel_rfl) (by kernel_rfl)
            clear hB hL hD hd hs
            have HJ := Lib.hid hJ
            clear hJ
            go_simp
            exact hK.out _ _ rfl HJ.out (fun _ _ h => h)
          refine step_guard3 4 127 true rfl (by kernel_rfl) (fun a w hs => hs.get 4 127 (by kernel_rfl) (by kernel_rfl)) (fun D a w hD hB hL hJ hd hs K hK => ?_) ?_
          · have e139 : a.tmps[139]?.getD undef = .int .i64 C1 := hs.get 16 139 (by kernel_rfl) (by kernel_rfl)
            have e142 : a.tmps[142]?.getD undef = .int .i64 D1 := hs.get 19 142 (by kernel_rfl) (by kernel_rfl)
            clear hB hL hD hd hs
            have HJ := Lib.hid hJ
            clear hJ
            go_simp
            exact hK.out _ _ rfl HJ.out (fun _ _ h => h)
          refine step_guard3 4 127 true rfl (by kernel_rfl) (fun a w hs => hs.get 4 127 (by kernel_rfl) (by kernel_rfl)) (fun D a w hD hB hL hJ hd hs K hK => ?_) ?_
          · have e136 : a.tmps[136]?.getD undef = .int .i64 M1 := hs.get 13 136 (by kernel_rfl) (by kernel_rfl)
            have e143 : a.tmps[143]?.getD undef = .int .i64 M2 := hs.get 20 143 (by kernel_rfl) (by kernel_rfl)
            clear hB hL hD hd hs
            have HJ := Lib.hid hJ
            clear hJ
            go_simp
            exact hK.out _ _ rfl HJ.out (fun _ _ h => h)
          refine step_guard3 4 127 true rfl (by kernel_rfl) (fun a w hs => hs.get 4 127 (by kernel_rfl) (by kernel_rfl)) (fun D a w hD hB hL hJ hd hs K hK => ?_) ?_
          · have e144 : a.tmps[144]?.getD undef = .int .i64 MX := hs.get 21 144 (by kernel_rfl) (by kernel_rfl)
            clear hB hL hD hd hs
            have HJ := Lib.hid hJ
            clear hJ
            go_simp
            exact hK.out _ _ rfl HJ.out (fun _ _ h => h)
          refine step_guard3 4 127 true rfl (by kernel_rfl) (fun a w hs => hs.get 4 127 (by kernel_rfl) (by kernel_rfl)) (fun D a w hD hB hL hJ hd hs K hK => ?_) ?_
          · have e129 : a.tmps[129]?.getD undef = .int .i64 (k : Int) := hs.get 6 129 (by kernel_rfl) (by kernel_rfl)
            have e145 : a.tmps[145]?.getD undef = .int .i64 MN := hs.get 22 145 (by kernel_rfl) (by kernel_rfl)
            clear hB hL hD hd hs
            have HJ := Lib.hid hJ
            clear hJ
            go_simp
            exact hK.out _ _ rfl HJ.out (fun _ _ h => h)
          refine step_plain3 rfl (fun D a w hD hB hL hJ hd hs K hK => ?_) ?_
          · have e127 : a.tmps[127]?.getD undef = .bool true := hs.get 4 127 (by kernel_rfl) (by kernel_rfl)
            have e146 : a.tmps[146]?.getD undef = .bool true := hs.get 23 146 (by kernel_rfl) (by kernel_rfl)
            clear hB hL hD hd hs
            have HJ := Lib.hid hJ
            clear hJ
            go_simp
            exact hK.out _ _ rfl HJ.out (fun _ _ h => h)
          refine step_plain3 rfl (fun D a w hD hB hL hJ hd hs K hK => ?_) ?_
          · have e147 : a.tmps[147]?.getD undef = .bool true := hs.get 24 147 (by kernel_rfl) (by kernel_rfl)
            clear hB hL hD hd hs
            have HJ := Lib.hid hJ
            clear hJ
            go_simp
            exact hK.out _ _ rfl HJ.out (fun _ _ h => h)
          refine step_guard3 25 148 true rfl (by kernel_rfl) (fun a w hs => hs.get 25 148 (by kernel_rfl) (by kernel_rfl)) (fun D a w hD hB hL hJ hd hs K hK => ?_) ?_
          · have e7 : a.tmps[7]?.getD undef = .slice a1 k c1 := hs.at 7 (by kernel_rfl)
            clear hB hL hD hd hs
            have HJ := Lib.hid hJ
            clear hJ
            go_simp
            exact hK.out _ _ rfl HJ.out (fun _ _ h => h)
          refine step_guard3 25 148 true rfl (by kernel_rfl) (fun a w hs => hs.get 25 148 (by kernel_rfl) (by kernel_rfl)) (fun D a w hD hB hL hJ hd hs K hK => ?_) ?_
          · have e149 : a.tmps[149]?.getD undef = .slice a1 k c1 := hs.get 26 149 (by kernel_rfl) (by kernel_rfl)
            clear hB hL hD hd hs
            have HJ := Lib.hid hJ
            clear hJ
            go_simp
            exact hK.out _ _ rfl HJ.out (fun _ _ h => h)
          refine step_guard3 25 148 true rfl (by kernel_rfl) (fun a w hs => hs.get 25 148 (by kernel_rfl) (by kernel_rfl)) (fun D a w hD hB hL hJ hd hs K hK => ?_) ?_
          · have e5 : a.tmps[5]?.getD undef = .int .i64 ww := hs.at 5 (by kernel_rfl)
            clear hB hL hD hd hs
            have HJ := Lib.hid hJ
            clear hJ
            go_simp
            exact hK.out _ _ rfl HJ.out (fun _ _ h => h)
          refine step_guard3 25 148 true rfl (by kernel_rfl) (fun a w hs => hs.get 25 148 (by kernel_rfl) (by kernel_rfl)) (fun D a w hD hB hL hJ hd hs K hK => ?_) ?_
          · have e150 : a.tmps[150]?.getD undef = .int .i64 (k : Int) := hs.get 27 150 (by kernel_rfl) (by kernel_rfl)
            have e151 : a.tmps[151]?.getD undef = .int .i64 ww := hs.get 28 151 (by kernel_rfl) (by kernel_rfl)
            clear hB hL hD hd hs
            have HJ := Lib.hid hJ
            clear hJ
            go_simp
            exact hK.out _ _ rfl HJ.out (fun _ _ h => h)
          refine step_guard3 25 148 true rfl (by kernel_rfl) (fun a w hs => hs.get 25 148 (by kernel_rfl) (by kernel_rfl)) (fun D a w hD hB hL hJ hd hs K hK => ?_) ?_
          · have e6 : a.tmps[6]?.getD undef = .int .i64 d := hs.at 6 (by kernel_rfl)
            clear hB hL hD hd hs
            have HJ := Lib.hid hJ
            clear hJ
            go_simp
            exact hK.out _ _ rfl HJ.out (fun _ _ h => h)
          refine step_guard3 25 148 true rfl (by kernel_rfl) (fun a w hs => hs.get 25 148 (by kernel_rfl) (by kernel_rfl)) (fun D a w hD hB hL hJ hd hs K hK => ?_) ?_
          · have e152 : a.tmps[152]?.getD undef = .int .i64 T1 := hs.get 29 152 (by kernel_rfl) (by kernel_rfl)
            have e153 : a.tmps[153]?.getD undef = .int .i64 d := hs.get 30 153 (by kernel_rfl) (by kernel_rfl)
            clear hB hL hD hd hs
            have HJ := Lib.hid hJ
            clear hJ
            go_simp
            exact hK.out _ _ rfl HJ.out (fun _ _ h => h)
          refine step_guard3 25 148 true rfl (by kernel_rfl) (fun a w hs => hs.get 25 148 (by kernel_rfl) (by kernel_rfl)) (fun D a w hD hB hL hJ hd hs K hK => ?_) ?_
          · have e3 : a.tmps[3]?.getD undef = .int .i64 P := hs.at 3 (by kernel_rfl)
            clear hB hL hD hd hs
            have HJ := Lib.hid hJ
            clear hJ
            go_simp
            exact hK.out _ _ rfl HJ.out (fun _ _ h => h)
          refine step_guard3 25 148 true rfl (by kernel_rfl) (fun a w hs => hs.get 25 148 (by kernel_rfl) (by kernel_rfl)) (fun D a w hD hB hL hJ hd hs K hK => ?_) ?_
          · have e4 : a.tmps[4]?.getD undef = .int .i64 Q := hs.at 4 (by kernel_rfl)
            clear hB hL hD hd hs
            have HJ := Lib.hid hJ
            clear hJ
            go_simp
            exact hK.out _ _ rfl HJ.out (fun _ _ h => h)
          refine step_guard3 25 148 true rfl (by kernel_rfl) (fun a w hs => hs.get 25 148 (by kernel_rfl) (by kernel_rfl)) (fun D a w hD hB hL hJ hd hs K hK => ?_) ?_
          · have e155 : a.tmps[155]?.getD undef = .int .i64 P := hs.get 32 155 (by kernel_rfl) (by kernel_rfl)
            have e156 : a.tmps[156]?.getD undef = .int .i64 Q := hs.get 33 156 (by kernel_rfl) (by kernel_rfl)
            clear hB hL hD hd hs
            have HJ := Lib.hid hJ
            clear hJ
            go_simp
            exact hK.out _ _ rfl HJ.out (fun _ _ h => h)
          refine step_guard3 25 148 true rfl (by kernel_rfl) (fun a w hs => hs.get 25 148 (by kernel_rfl) (by kernel_rfl)) (fun D a w hD hB hL hJ hd hs K hK => ?_) ?_
          · have e154 : a.tmps[154]?.getD undef = .int .i64 T2 := hs.get 31 154 (by kernel_rfl) (by kernel_rfl)
            have e157 : a.tmps[157]?.getD undef = .int .i64 T3 := hs.get 34 157 (by kernel_rfl) (by kernel_rfl)
            clear hB hL hD hd hs
            have HJ := Lib.hid hJ
            clear hJ
            go_simp
            exact hK.out _ _ rfl HJ.out (fun _ _ h => h)
          refine step_plain3 rfl (fun D a w hD hB hL hJ hd hs K hK => ?_) ?_
          · have e148 : a.tmps[148]?.getD undef = .bool true := hs.get 25 148 (by kernel_rfl) (by kernel_rfl)
            have e158 : a.tmps[158]?.getD undef = .bool true := hs.get 35 158 (by kernel_rfl) (by kernel_rfl)
            clear hB hL hD hd hs
            have HJ := Lib.hid hJ
            clear hJ
            go_simp
            exact hK.out _ _ rfl HJ.out (fun _ _ h => h)
          refine step_plain3 rfl (fun D a w hD hB hL hJ hd hs K hK => ?_) ?_
          · have e159 : a.tmps[159]?.getD undef = .bool true := hs.get 36 159 (by kernel_rfl) (by kernel_rfl)
            clear hB hL hD hd hs
            have HJ := Lib.hid hJ
            clear hJ
            go_simp
            exact hK.out _ _ rfl HJ.out (fun _ _ h => h)
          exact step_nil3
        · intro vs D w' hD hJ hA
          have f2 : vs 37 = .bool true := hA 37 (by decide)
          have G2 := gb_trans GB.out hJ
          clear hJ hA hD
          simp only [putAll, Act.put, List.setIfInBounds_toArray, List.set_cons_zero, List.set_cons_succ, f2]
          go_wp2
          go_ret
          exact ⟨rfl, gb_below G2⟩
end Go.Proofs.Ytbpfihklbmephaa
namespace Go.Proofs.Ytbpfihklbmephaa.fnPackLayerDone
open Go Go.ChangeShapes Go.WideShapes Go.ChangeAt Go.RowKit Go.Proofs.Ytbpfihklbmephaa
set_option linter.unusedVariables false
theorem own : ownKnob Try.prog.godebug = none := by kernel_rfl
theorem laidOut : laidOutB Try.prog = true := by kernel_rfl
set_option maxRecDepth 100000 in
theorem lifted (os : Os) (started : os.Started) (H : Type) (enc : TypeId × Value → H) :
    ReturnsInHanded {} Try.checked os 7 .any (Rows.fnPackLayerSpec.pre6 enc Try.prog Try.f7 Rows.fnPackLayerRow.domain false) (Rows.fnPackLayerSpec.post enc Try.prog Try.f7 false true false false) := by
  refine returnsInHanded_of_change (C := Try.checked) own started (by kernel_rfl) Try.func7
    (ChangeSpec.witness6 (enc := enc) (C := Try.checked) false ⟨#[], #[.slice none 0 0], []⟩ 8 (by kernel_rfl) (by kernel_rfl) (by kernel_rfl) (by kernel_rfl)) ?_
  intro W base args ds gs before hval0 hW hcnd _
  have hval : ∀ (j : Nat) t v, Try.f7.params[j]? = some t → args[j]? = some v → Value.okWide Try.prog W .any base t v := hval0
  have hW' := hW
  obtain ⟨p, q, hA0, hV, rfl, hfz, hnd⟩ := hW
  have hA : DataW.TrodAll enc Try.prog W 0 (fun _ => true) true Try.f7.params.toList args.toList ds p := hA0
  rw [Try.params7] at hA hval
  obtain ⟨v0, vs0, d0, ds0, p0, q0, hargs, rfl, rfl, h0, r0⟩ := trodAll_cons hA
  obtain ⟨rfl, rfl, rfl⟩ := trodAll_nil r0
  obtain rfl : args = #[v0] := by cases args; simp_all
  obtain ⟨rfl, rfl⟩ := trodVars_none hV
  obtain ⟨a0, len0, cap0, rfl⟩ := okWide_slice Try.underlying28 (hval 0 28 v0 rfl rfl)
  have k0 := h0
  have lt0 : ∀ x ∈ p0, x.block < W.heap.size := by obtain ⟨m, hm⟩ := k0; exact DataW.trod_lt m _ _ _ hm
  have w0 : Byts W a0 len0 cap0 := by
    obtain ⟨fuel, hf⟩ := h0
    rcases open_ints Try.underlying28 Try.underlying5 (by kernel_rfl) hf with ⟨hcs, _⟩ | ⟨x, l, c, zs, hcs, _, hl, hm, hz, _, hcell, hwz⟩
    · simp [Value.cells] at hcs
      obtain ⟨rfl, rfl, rfl⟩ := hcs
      exact byts_nil W
    · simp [Value.cells] at hcs
      obtain ⟨rfl, rfl, rfl⟩ := hcs
      exact byts_of hl hm (by simpa using hz) hcell hwz
  clear hA0 hval0
  refine (law_FnPackLayer a0 len0 cap0 W w0).mono fun e W' ⟨he, bel⟩ => ?_
  subst he
  exact ⟨_, rfl, _, _, _, [], _, [], hW', trodAll_mk1 (shut_bool Try.underlying4 _), (trodAll_cons_mk (Below.trod laidOut (by kernel_rfl) (of_decide_eq_true (by kernel_rfl)) k0 bel lt0) trodAll_mk0), rfl, bel.frame _, fun h => by cases h⟩
theorem over : Rows.fnPackLayerRow.holds Try.pinned (OpenSpec.ofChange Rows.fnPackLayerSpec) :=
  OpenClaim.holds_of_wide 7 Try.f7 rfl rfl rfl rfl rfl rfl rfl ⟨rfl, rfl, rfl, rfl, rfl⟩ rfl rfl rfl rfl rfl (by kernel_rfl) Try.func7 (by kernel_rfl)
    (of_decide_eq_true (by kernel_rfl)) (by unfold Func.isWrapper; first | (rw [if_pos (by decide +kernel)]; kernel_rfl) | (rw [if_neg (by decide +kernel)]; exact ⟨rfl, rfl⟩))
    (fun os started H enc _ => lifted os started H enc)
theorem proved : Rows.FnPackLayerSaid := over
#print axioms proved
end Go.Proofs.Ytbpfihklbmephaa.fnPackLayerDone
