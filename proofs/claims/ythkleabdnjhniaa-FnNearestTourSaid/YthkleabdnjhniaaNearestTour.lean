/-
  FnNearestTour: for every code the law on nearest tours returns true; nothing that was there is written. No condition.
-/
import Derived.Test.YthkleabdnjhniaaStopsDraw
import Derived.Test.YthkleabdnjhniaaNearestS
import Derived.Test.YthkleabdnjhniaaNearest
import Derived.Test.YthkleabdnjhniaaTourLaw
import Derived.Test.YthkleabdnjhniaaOrder
import Derived.Test.YthkleabdnjhniaaSameS
import Derived.Test.YthkleabdnjhniaaDrawn
import Derived.Test.YthkleabdnjhniaaRows
import Derived.ProofKit
import Derived.OpenShut
import Derived.ShutString
import Derived.ChangeOld
namespace Go.Proofs.Ythkleabdnjhniaa
open Go Go.RowKit
set_option linter.unusedVariables false
theorem DrawNearestTour_any (a : Option Addr) (len cap : Nat) (w : World) (h : Byts w a len cap) :
    Calls Try.prog 31 #[.slice a len cap] w fun e w' => ∃ v xs, e = .returned v ∧ xs.length ≤ 20 ∧ St w w' [Own LPt v xs] := by
  go_enter Try.func31, Try.ntmps31
  go_wp2_with fail
  refine (open_s a len cap w h).mono ?_
  rintro e w1 ⟨B, rfl, S1⟩
  go_wp2_with fail
  refine (stops_s w B 0 [] 9 9 _ S1 (by omega) (by omega) (by omega) (by omega)).mono ?_
  rintro e w2 ⟨v, xs, m', rfl, hl, -, S2⟩
  go_wp2_with fail
  go_ret
  exact ⟨v, xs, rfl, hl, St.drop1 (Ms := [_]) S2⟩
theorem rds_lit {α : Type} (L : Lay α) (w : World) (xs : List α) (cells : Array Value) (hc : cells.toList = L.flat xs) (hn : xs.length ≤ maxLen) :
    Rds L (w.alloc (.cells cells L.T)) (.slice (some ⟨w.heap.size, 0, none⟩) xs.length xs.length) xs := St.own ((St.refl w).ownLit L xs cells hc hn)
theorem nearL_fst (xs : List Pt) : ∀ j, 1 ≤ j → (nearL xs j)[0]? = some 0
  | 0, h => by omega
  | 1, _ => rfl
  | j + 2, _ => by
    rw [nearL, List.getElem?_append_left (by rw [nearL_len]; omega)]
    exact nearL_fst xs (j + 1) (by omega)
theorem nearL_snd (xs : List Pt) : ∀ j, 2 ≤ j → (nearL xs j)[1]? = some (bestTo xs [0] 0 xs.length)
  | 0, h => by omega
  | 1, h => by omega
  | 2, _ => rfl
  | j + 3, _ => by
    rw [nearL, List.getElem?_append_left (by rw [nearL_len]; omega)]
    exact nearL_snd xs (j + 2) (by omega)
theorem two_len {p q : Pt} (hp : ptB p = true) (hq : ptB q = true) : tourLen [p, q] [0, 1] = stp p q := by
  have hf : fitsB [p, q] [0, 1] = true := by
    refine fits_mk ?_ ⟨rfl, fun i hi => ?_⟩
    · unfold stopsB ptsB
      rw [inB_t.2 ⟨by simp, by simp⟩]
      simp [hp, hq]
    · simp at hi
      have : i = 0 ∨ i = 1 := by omega
      rcases this with rfl | rfl <;> simp
  rw [tourLen_yes hf]
  simp [tourL, lenTo]
set_option maxRecDepth 100000 in
set_option maxHeartbeats 8000000 in
theorem law_FnNearestTour (a : Option Addr) (len cap : Nat) (w : World) (hw : Byts w a len cap) :
    Calls Try.prog 8 #[.slice a len cap] w fun e w' => e = .returned (.bool true) ∧ Below w.heap.size w w' := by
  have HB := Lib.hid hw; have hm : len ≤ 9223372036854775807 := (by have := hw.1; have := hw.2.1; unfold maxLen at this; omega); clear hw; by_cases hl : 1048576 < len; (go_enter Try.func8, Try.ntmps8; go_wp2_with fail; go_ret; exact ⟨rfl, Below.refl _ _⟩)
  go_enter Try.func8, Try.ntmps8
  go_wp2_with fail
  refine (DrawNearestTour_any _ _ _ _ HB.out).mono ?_
  rintro e w1 ⟨v, xs, rfl, hxl, S⟩
  go_wp2_with fail
  refine (i_NearestTour _ xs _ (St.own S)).mono ?_
  rintro e w2 ⟨o1, rfl, T⟩
  replace S := S.call T
  clear T
  simp only [List.cons_append, List.nil_append] at S
  go_wp2_with fail
  refine (s_NearestTour _ xs _ (St.own (St.tail S))).mono ?_
  rintro e w3 ⟨o2, rfl, T⟩
  replace S := S.call T
  clear T
  simp only [List.cons_append, List.nil_append] at S
  go_wp2_with fail
  refine (sameInts_s _ _ _ _ (St.own (St.tail S)) (St.own S)).mono ?_
  rintro e w4 ⟨rfl, q, rfl⟩
  replace S := St.tail (S.drewN q)
  obtain ⟨oa, on, uc, rfl, hoc, hom, HON, -⟩ := LI_own S
  obtain ⟨va, n, vc, rfl, hvc, hvm, HVN, -⟩ := LPt_own (St.tail S)
  cases hB : stopsB xs with
  | false =>
    obtain rfl : on = 0 := by rw [HON.out, nearest_no hB]; rfl
    clear HON HVN
    go_wp2_with (go_at_call 19; refine (alive_any _).mono ?_; rintro e w' ⟨rfl, rfl⟩)
    go_ret
    exact ⟨rfl, S.below⟩
  | true =>
    have hs := stopsB_len hB
    obtain rfl : on = n := by rw [HON.out, HVN.out, nearest_yes hB, nearL_len]
    have hn1 : 0 < on := by have := HVN.out; omega
    have hn16 : on ≤ 16 := by have := HVN.out; omega
    have hn1i : (0 : Int) < (on : Int) := by omega
    have hz : ((on : Int) == 0) = false := by simpa using (show ¬ (on : Int) = 0 by omega)
    have HP := Lib.hid (stopsB_pts hB)
    have hok := nearest_ok hB
    have hF := fits_mk hB hok
    have hN := tourLen_yes hF
    have hbd := tourL_bd hF
    rw [← hN] at hbd
    obtain ⟨N, hNN⟩ : ∃ N, tourLen xs (nearest xs) = N := ⟨_, rfl⟩
    rw [hNN] at hbd
    have HNN := Lib.hid hNN
    obtain ⟨N0, N1⟩ := hbd
    obtain ⟨oa', on', oc', hv', -, -, -, HC⟩ := LI_own S
    simp only [Value.slice.injEq] at hv'
    obtain ⟨rfl, rfl, rfl⟩ := hv'
    obtain ⟨g, x0, rfl, hg0, hgl, hx0, hc0, hf0⟩ := HC.out 0 hn1
    obtain rfl : x0 = 0 := by
      have := hx0.out
      rw [nearest_yes hB, nearL_fst _ _ (by omega)] at this
      exact (Option.some.inj this).symm
    have SND : RowKit.Hid (2 ≤ xs.length → (nearest xs)[1]? = some (bestTo xs [0] 0 xs.length)) := fun h => by rw [nearest_yes hB]; exact nearL_snd xs _ h
    clear hB hs hok hF hN hNN hx0 HC
    go_wp2_with fail
    refine (i_TourLength _ xs _ (nearest xs) _ (St.own (St.tail S)) (St.own S)).mono ?_
    rintro e w5 ⟨rfl, T⟩
    have hc5 := gb_cell T hc0 (by simp)
    replace S := S.grow T
    clear T hc0
    rw [HNN.out]
    have SH := Lib.hid S
    have SB := Lib.hid S.below
    clear S
    go_wp2
    go_loopw [5] (fun i wr => ∃ X : Nat, 1 ≤ X ∧ X ≤ on ∧ i = .int .i64 X ∧ w5.grownBy wr none) (fun i _ => on - (intOf i).toNat)
    case atStart => exact ⟨1, by omega, by omega, rfl, World.grownBy.refl _ _⟩
    case round =>
      obtain ⟨X, hk1, hkX, rfl, hg⟩ := hrel
      by_cases hlt : X < on
      rotate_left
      · obtain rfl : X = on := by omega
        go_wp2
        go_ret
        exact ⟨rfl, gb_below (gb_trans (below_gb SB.out) hg)⟩
      have S := SH.out.grow hg
      have hon1 : 1 < on := by omega
      obtain ⟨oa', on', oc', hv', -, -, -, HC⟩ := LI_own S
      simp only [Value.slice.injEq] at hv'
      obtain ⟨rfl, rfl, rfl⟩ := hv'
      obtain ⟨g', z1, hga, -, -, hz1, o1, -⟩ := HC.out 1 hon1
      simp only [Option.some.injEq, Addr.mk.injEq, and_true] at hga
      subst hga
      have BI := bestTo_inv xs [0] 0 xs.length
      have bs := best_some (xs := xs) (os := [0]) 0 (by have := HVN.out; simp; omega)
      obtain rfl : z1 = bestTo xs [0] 0 xs.length := by
        have := hz1.out
        rw [SND.out (by have := HVN.out; omega)] at this
        exact (Option.some.inj this).symm
      have bb := BI.bd
      have bl := BI.least X (by have := HVN.out; omega) (by simp; omega)
      obtain ⟨Z, hZ⟩ := Int.eq_ofNat_of_zero_le bs
      rw [hZ] at o1 bl bb
      have hZn : Z < on := by have := HVN.out; omega
      have hZi : (Z : Int) < (on : Int) := by omega
      have hki : (X : Int) < (on : Int) := by omega
      have hon1i : (1 : Int) < (on : Int) := by omega
      obtain ⟨va', n', vc', hv', -, -, -, HD⟩ := LPt_get (St.own (St.tail S))
      simp only [Value.slice.injEq] at hv'
      obtain ⟨rfl, rfl, rfl⟩ := hv'
      obtain ⟨c, coff, p, rfl, hcb, hp, p0, p1⟩ := HD.out 0 hn1
      obtain ⟨c', coff', q, hbo, hcb', hq, k0, k1⟩ := HD.out X hlt
      simp only [Option.some.injEq, Addr.mk.injEq, and_true] at hbo
      obtain ⟨rfl, rfl⟩ := hbo
      obtain ⟨c', coff', r, hbo, hcb', hr, b0, b1⟩ := HD.out Z hZn
      simp only [Option.some.injEq, Addr.mk.injEq, and_true] at hbo
      obtain ⟨rfl, rfl⟩ := hbo
      rw [Nat.zero_mul, Nat.add_zero] at p0 p1
      have e0 : ptOf xs 0 = p := ptOf_at (k := 0) hp.out
      rw [e0, ptOf_at hr.out, ptOf_at hq.out] at bl
      have t1 := two_len (ptsB_at HP.out hp.out) (ptsB_at HP.out hq.out)
      have t2 := two_len (ptsB_at HP.out hp.out) (ptsB_at HP.out hr.out)
      obtain ⟨PX, PY⟩ := p
      obtain ⟨KX, KY⟩ := q
      obtain ⟨BX, BY⟩ := r
      obtain ⟨N1', hN1⟩ : ∃ N1, stp ⟨PX, PY⟩ ⟨KX, KY⟩ = N1 := ⟨_, rfl⟩
      obtain ⟨N2', hN2⟩ : ∃ N2, stp ⟨PX, PY⟩ ⟨BX, BY⟩ = N2 := ⟨_, rfl⟩
      rw [hN1] at t1 bl
      rw [hN2] at t2 bl
      have hds : decide (N1' < N2') = false := decide_eq_false (by omega)
      have C1 : RowKit.Hid (∀ {v u : Value} (w : World), Rds LPt w v [(⟨PX, PY⟩ : Pt), ⟨KX, KY⟩] → Rds LI w u [(0 : Int), 1] → Calls Try.prog 22 #[v, u] w fun e w' => e = .returned (.int .i64 N1') ∧ w.grownBy w' none) := by
        intro v u w h1 h2
        have := i_TourLength v _ u _ w h1 h2
        rwa [t1] at this
      have C2 : RowKit.Hid (∀ {v u : Value} (w : World), Rds LPt w v [(⟨PX, PY⟩ : Pt), ⟨BX, BY⟩] → Rds LI w u [(0 : Int), 1] → Calls Try.prog 22 #[v, u] w fun e w' => e = .returned (.int .i64 N2') ∧ w.grownBy w' none) := by
        intro v u w h1 h2
        have := i_TourLength v _ u _ w h1 h2
        rwa [t2] at this
      dsimp only at *
      clear HC HD hp hq hr t1 t2 hN1 hN2 bl BI bs bb hZ e0 hz1 S
      go_wp2

      refine wp_drawn_put (shs (none) [shVal _ (.slice (some ⟨c, coff, none⟩) on vc), shVal _ (.pointer (some ⟨c, coff, none⟩)), shVal _ (.agg #[.int .i64 PX, .int .i64 PY]), shVal _ (.slice (some ⟨c, coff, none⟩) on vc), shVal _ (.int .i64 (X : Int)), shVal _ (.pointer (some ⟨c, coff + X * 2, none⟩)), shVal _ (.agg #[.int .i64 KX, .int .i64 KY]), ⟨fun v w => Rds LPt w v [(⟨PX, PY⟩ : Pt), ⟨KX, KY⟩], fun _ _ _ h hg => h.kept hg⟩, ⟨fun v w => Rds LI w v [(0 : Int), 1], fun _ _ _ h hg => h.kept hg⟩, shVal _ (.int .i64 N1'), shVal _ (.slice (some ⟨c, coff, none⟩) on vc), shVal _ (.pointer (some ⟨c, coff, none⟩)), shVal _ (.agg #[.int .i64 PX, .int .i64 PY]), shVal _ (.slice (some ⟨c, coff, none⟩) on vc), shVal _ (.slice (some ⟨g, 0, none⟩) on uc), shVal _ (.pointer (some ⟨g, 1, none⟩)), shVal _ (.int .i64 (Z : Int)), shVal _ (.pointer (some ⟨c, coff + Z * 2, none⟩)), shVal _ (.agg #[.int .i64 BX, .int .i64 BY]), ⟨fun v w => Rds LPt w v [(⟨PX, PY⟩ : Pt), ⟨BX, BY⟩], fun _ _ _ h hg => h.kept hg⟩, ⟨fun v w => Rds LI w v [(0 : Int), 1], fun _ _ _ h hg => h.kept hg⟩, shVal _ (.int .i64 N2'), shVal _ (.bool false)])
        (fun k w' => wr.grownBy w' none) (none) (by kernel_rfl) (by kernel_rfl) (shs_st _ _) (gb_drew (World.grownBy.refl _ _)) ?_ ?_
      · refine step_plain rfl (fun k a w' hk hJ hd hs K hK => ?_) ?_
        · have e3 : a.tmps[3]?.getD undef = .slice (some ⟨c, coff, none⟩) on vc := hs.at 3 (by kernel_rfl)
          clear hd hs
          have hkk : k < 23 := hk
          clear hk
          have HJ := Lib.hid hJ; clear hJ
          go_simp
          try simp (disch := omega) only [IntWalk.i64_in]
          exact hK.out _ _ rfl HJ.out (World.grownBy.refl _ _)
        refine step_plain rfl (fun k a w' hk hJ hd hs K hK => ?_) ?_
        · have e43 : a.tmps[43]?.getD undef = .slice (some ⟨c, coff, none⟩) on vc := hs.get 0 43 (by kernel_rfl) (by kernel_rfl)
          clear hd hs
          have hkk : k < 23 := hk
          clear hk
          have HJ := Lib.hid hJ; clear hJ
          go_simp
          exact hK.out _ _ rfl HJ.out (World.grownBy.refl _ _)
        refine step_plain rfl (fun k a w' hk hJ hd hs K hK => ?_) ?_
        · have e44 : a.tmps[44]?.getD undef = .pointer (some ⟨c, coff, none⟩) := hs.get 1 44 (by kernel_rfl) (by kernel_rfl)
          clear hd hs
          have hkk : k < 23 := hk
          clear hk
          have z0 := gb_cell hJ p0 (by simp)
          have z1 := gb_cell hJ p1 (by simp)
          have HJ := Lib.hid hJ; clear hJ
          go_simp
          exact hK.out _ _ rfl HJ.out (World.grownBy.refl _ _)
        refine step_plain rfl (fun k a w' hk hJ hd hs K hK => ?_) ?_
        · have e3 : a.tmps[3]?.getD undef = .slice (some ⟨c, coff, none⟩) on vc := hs.at 3 (by kernel_rfl)
          clear hd hs
          have hkk : k < 23 := hk
          clear hk
          have HJ := Lib.hid hJ; clear hJ
          go_simp
          try simp (disch := omega) only [IntWalk.i64_in]
          exact hK.out _ _ rfl HJ.out (World.grownBy.refl _ _)
        refine step_plain rfl (fun k a w' hk hJ hd hs K hK => ?_) ?_
        · have e5 : a.tmps[5]?.getD undef = .int .i64 (X : Int) := hs.at 5 (by kernel_rfl)
          clear hd hs
          have hkk : k < 23 := hk
          clear hk
          have HJ := Lib.hid hJ; clear hJ
          go_simp
          try simp (disch := omega) only [IntWalk.i64_in]
          exact hK.out _ _ rfl HJ.out (World.grownBy.refl _ _)
        refine step_plain rfl (fun k a w' hk hJ hd hs K hK => ?_) ?_
        · have e46 : a.tmps[46]?.getD undef = .slice (some ⟨c, coff, none⟩) on vc := hs.get 3 46 (by kernel_rfl) (by kernel_rfl)
          have e47 : a.tmps[47]?.getD undef = .int .i64 (X : Int) := hs.get 4 47 (by kernel_rfl) (by kernel_rfl)
          clear hd hs
          have hkk : k < 23 := hk
          clear hk
          have HJ := Lib.hid hJ; clear hJ
          go_simp
          exact hK.out _ _ rfl HJ.out (World.grownBy.refl _ _)
        refine step_plain rfl (fun k a w' hk hJ hd hs K hK => ?_) ?_
        · have e48 : a.tmps[48]?.getD undef = .pointer (some ⟨c, coff + X * 2, none⟩) := hs.get 5 48 (by kernel_rfl) (by kernel_rfl)
          clear hd hs
          have hkk : k < 23 := hk
          clear hk
          have z0 := gb_cell hJ k0 (by simp)
          have z1 := gb_cell hJ k1 (by simp)
          have HJ := Lib.hid hJ; clear hJ
          go_simp
          exact hK.out _ _ rfl HJ.out (World.grownBy.refl _ _)
        refine step_plain rfl (fun k a w' hk hJ hd hs K hK => ?_) ?_
        · have e45 : a.tmps[45]?.getD undef = .agg #[.int .i64 PX, .int .i64 PY] := hs.get 2 45 (by kernel_rfl) (by kernel_rfl)
          have e49 : a.tmps[49]?.getD undef = .agg #[.int .i64 KX, .int .i64 KY] := hs.get 6 49 (by kernel_rfl) (by kernel_rfl)
          clear hd hs
          have hkk : k < 23 := hk
          clear hk
          have HJ := Lib.hid hJ; clear hJ
          go_simp
          exact hK.out _ _ (rds_lit LPt w' [(⟨PX, PY⟩ : Pt), ⟨KX, KY⟩] _ rfl (by simp [maxLen])) (gb_alloc HJ.out _) (World.grownBy_alloc _ _ _)
        refine step_plain rfl (fun k a w' hk hJ hd hs K hK => ?_) ?_
        · clear hd hs
          have hkk : k < 23 := hk
          clear hk
          have HJ := Lib.hid hJ; clear hJ
          go_simp
          exact hK.out _ _ (rds_lit LI w' [(0 : Int), 1] _ rfl (by simp [maxLen])) (gb_alloc HJ.out _) (World.grownBy_alloc _ _ _)
        refine step_plain rfl (fun k a w' hk hJ hd hs K hK => ?_) ?_
        · have e50 := hs.get 7 50 (by kernel_rfl) (by kernel_rfl)
          have e51 := hs.get 8 51 (by kernel_rfl) (by kernel_rfl)
          clear hd hs
          have hkk : k < 23 := hk
          clear hk
          have HJ := Lib.hid hJ; clear hJ
          go_simp
          refine (C1.out _ e50 e51).mono ?_
          rintro e w2 ⟨rfl, hg⟩
          exact hK.out _ _ rfl (gb_trans HJ.out hg) hg
        refine step_plain rfl (fun k a w' hk hJ hd hs K hK => ?_) ?_
        · have e3 : a.tmps[3]?.getD undef = .slice (some ⟨c, coff, none⟩) on vc := hs.at 3 (by kernel_rfl)
          clear hd hs
          have hkk : k < 23 := hk
          clear hk
          have HJ := Lib.hid hJ; clear hJ
          go_simp
          try simp (disch := omega) only [IntWalk.i64_in]
          exact hK.out _ _ rfl HJ.out (World.grownBy.refl _ _)
        refine step_plain rfl (fun k a w' hk hJ hd hs K hK => ?_) ?_
        · have e53 : a.tmps[53]?.getD undef = .slice (some ⟨c, coff, none⟩) on vc := hs.get 10 53 (by kernel_rfl) (by kernel_rfl)
          clear hd hs
          have hkk : k < 23 := hk
          clear hk
          have HJ := Lib.hid hJ; clear hJ
          go_simp
          exact hK.out _ _ rfl HJ.out (World.grownBy.refl _ _)
        refine step_plain rfl (fun k a w' hk hJ hd hs K hK => ?_) ?_
        · have e54 : a.tmps[54]?.getD undef = .pointer (some ⟨c, coff, none⟩) := hs.get 11 54 (by kernel_rfl) (by kernel_rfl)
          clear hd hs
          have hkk : k < 23 := hk
          clear hk
          have z0 := gb_cell hJ p0 (by simp)
          have z1 := gb_cell hJ p1 (by simp)
          have HJ := Lib.hid hJ; clear hJ
          go_simp
          exact hK.out _ _ rfl HJ.out (World.grownBy.refl _ _)
        refine step_plain rfl (fun k a w' hk hJ hd hs K hK => ?_) ?_
        · have e3 : a.tmps[3]?.getD undef = .slice (some ⟨c, coff, none⟩) on vc := hs.at 3 (by kernel_rfl)
          clear hd hs
          have hkk : k < 23 := hk
          clear hk
          have HJ := Lib.hid hJ; clear hJ
          go_simp
          try simp (disch := omega) only [IntWalk.i64_in]
          exact hK.out _ _ rfl HJ.out (World.grownBy.refl _ _)
        refine step_plain rfl (fun k a w' hk hJ hd hs K hK => ?_) ?_
        · have e4 : a.tmps[4]?.getD undef = .slice (some ⟨g, 0, none⟩) on uc := hs.at 4 (by kernel_rfl)
          clear hd hs
          have hkk : k < 23 := hk
          clear hk
          have HJ := Lib.hid hJ; clear hJ
          go_simp
          try simp (disch := omega) only [IntWalk.i64_in]
          exact hK.out _ _ rfl HJ.out (World.grownBy.refl _ _)
        refine step_plain rfl (fun k a w' hk hJ hd hs K hK => ?_) ?_
        · have e57 : a.tmps[57]?.getD undef = .slice (some ⟨g, 0, none⟩) on uc := hs.get 14 57 (by kernel_rfl) (by kernel_rfl)
          clear hd hs
          have hkk : k < 23 := hk
          clear hk
          have HJ := Lib.hid hJ; clear hJ
          go_simp
          exact hK.out _ _ rfl HJ.out (World.grownBy.refl _ _)
        refine step_plain rfl (fun k a w' hk hJ hd hs K hK => ?_) ?_
        · have e58 : a.tmps[58]?.getD undef = .pointer (some ⟨g, 1, none⟩) := hs.get 15 58 (by kernel_rfl) (by kernel_rfl)
          clear hd hs
          have hkk : k < 23 := hk
          clear hk
          have z0 := gb_cell hJ o1 (by simp)
          have HJ := Lib.hid hJ; clear hJ
          go_simp
          exact hK.out _ _ rfl HJ.out (World.grownBy.refl _ _)
        refine step_plain rfl (fun k a w' hk hJ hd hs K hK => ?_) ?_
        · have e56 : a.tmps[56]?.getD undef = .slice (some ⟨c, coff, none⟩) on vc := hs.get 13 56 (by kernel_rfl) (by kernel_rfl)
          have e59 : a.tmps[59]?.getD undef = .int .i64 (Z : Int) := hs.get 16 59 (by kernel_rfl) (by kernel_rfl)
          clear hd hs
          have hkk : k < 23 := hk
          clear hk
          have HJ := Lib.hid hJ; clear hJ
          go_simp
          exact hK.out _ _ rfl HJ.out (World.grownBy.refl _ _)
        refine step_plain rfl (fun k a w' hk hJ hd hs K hK => ?_) ?_
        · have e60 : a.tmps[60]?.getD undef = .pointer (some ⟨c, coff + Z * 2, none⟩) := hs.get 17 60 (by kernel_rfl) (by kernel_rfl)
          clear hd hs
          have hkk : k < 23 := hk
          clear hk
          have z0 := gb_cell hJ b0 (by simp)
          have z1 := gb_cell hJ b1 (by simp)
          have HJ := Lib.hid hJ; clear hJ
          go_simp
          exact hK.out _ _ rfl HJ.out (World.grownBy.refl _ _)
        refine step_plain rfl (fun k a w' hk hJ hd hs K hK => ?_) ?_
        · have e55 : a.tmps[55]?.getD undef = .agg #[.int .i64 PX, .int .i64 PY] := hs.get 12 55 (by kernel_rfl) (by kernel_rfl)
          have e61 : a.tmps[61]?.getD undef = .agg #[.int .i64 BX, .int .i64 BY] := hs.get 18 61 (by kernel_rfl) (by kernel_rfl)
          clear hd hs
          have hkk : k < 23 := hk
          clear hk
          have HJ := Lib.hid hJ; clear hJ
          go_simp
          exact hK.out _ _ (rds_lit LPt w' [(⟨PX, PY⟩ : Pt), ⟨BX, BY⟩] _ rfl (by simp [maxLen])) (gb_alloc HJ.out _) (World.grownBy_alloc _ _ _)
        refine step_plain rfl (fun k a w' hk hJ hd hs K hK => ?_) ?_
        · clear hd hs
          have hkk : k < 23 := hk
          clear hk
          have HJ := Lib.hid hJ; clear hJ
          go_simp
          exact hK.out _ _ (rds_lit LI w' [(0 : Int), 1] _ rfl (by simp [maxLen])) (gb_alloc HJ.out _) (World.grownBy_alloc _ _ _)
        refine step_plain rfl (fun k a w' hk hJ hd hs K hK => ?_) ?_
        · have e62 := hs.get 19 62 (by kernel_rfl) (by kernel_rfl)
          have e63 := hs.get 20 63 (by kernel_rfl) (by kernel_rfl)
          clear hd hs
          have hkk : k < 23 := hk
          clear hk
          have HJ := Lib.hid hJ; clear hJ
          go_simp
          refine (C2.out _ e62 e63).mono ?_
          rintro e w2 ⟨rfl, hg⟩
          exact hK.out _ _ rfl (gb_trans HJ.out hg) hg
        refine step_plain rfl (fun k a w' hk hJ hd hs K hK => ?_) ?_
        · have e52 : a.tmps[52]?.getD undef = .int .i64 N1' := hs.get 9 52 (by kernel_rfl) (by kernel_rfl)
          have e64 : a.tmps[64]?.getD undef = .int .i64 N2' := hs.get 21 64 (by kernel_rfl) (by kernel_rfl)
          clear hd hs
          have hkk : k < 23 := hk
          clear hk
          have HJ := Lib.hid hJ; clear hJ
          go_simp
          try simp (disch := omega) only [IntWalk.i64_in]
          exact hK.out _ _ rfl HJ.out (World.grownBy.refl _ _)
        exact step_nil
      · intro vs w' hJ hA
        have f65 : vs 22 = .bool false := hA 22 (by decide)
        clear hA
        simp only [putAll, Act.put, List.setIfInBounds_toArray, List.set_cons_zero, List.set_cons_succ, f65]
        clear f65
        go_wp2
        go_roundw
        case rel => exact ⟨X + 1, by omega, by omega, by go_num, gb_trans hg hJ⟩
        case measure => (simp [intOf]; try omega)
end Go.Proofs.Ythkleabdnjhniaa
namespace Go.Proofs.Ythkleabdnjhniaa.fnNearestTourDone
open Go Go.ChangeShapes Go.WideShapes Go.ChangeAt Go.RowKit Go.Proofs.Ythkleabdnjhniaa
set_option linter.unusedVariables false
theorem own : ownKnob Try.prog.godebug = none := by kernel_rfl
theorem laidOut : laidOutB Try.prog = true := by kernel_rfl
set_option maxRecDepth 100000 in
theorem lifted (os : Os) (started : os.Started) (H : Type) (enc : TypeId × Value → H) :
    ReturnsInHanded {} Try.checked os 8 .any (Rows.fnNearestTourSpec.pre6 enc Try.prog Try.f8 Rows.fnNearestTourRow.domain false) (Rows.fnNearestTourSpec.post enc Try.prog Try.f8 false true false false) := by
  refine returnsInHanded_of_change (C := Try.checked) own started (by kernel_rfl) Try.func8
    (ChangeSpec.witness6 (enc := enc) (C := Try.checked) false ⟨#[], #[.slice none 0 0], []⟩ 8 (by kernel_rfl) (by kernel_rfl) (by kernel_rfl) (by kernel_rfl)) ?_
  intro W base args ds gs before hval0 hW hcnd _
  have hval : ∀ (j : Nat) t v, Try.f8.params[j]? = some t → args[j]? = some v → Value.okWide Try.prog W .any base t v := hval0
  have hW' := hW
  obtain ⟨p, q, hA0, hV, rfl, hfz, hnd⟩ := hW
  have hA : DataW.TrodAll enc Try.prog W 0 (fun _ => true) true Try.f8.params.toList args.toList ds p := hA0
  rw [Try.params8] at hA hval
  obtain ⟨v0, vs0, d0, ds0, p0, q0, hargs, rfl, rfl, h0, r0⟩ := trodAll_cons hA
  obtain ⟨rfl, rfl, rfl⟩ := trodAll_nil r0
  obtain rfl : args = #[v0] := by cases args; simp_all
  obtain ⟨rfl, rfl⟩ := trodVars_none hV
  obtain ⟨a0, len0, cap0, rfl⟩ := okWide_slice Try.underlying29 (hval 0 29 v0 rfl rfl)
  have k0 := h0
  have lt0 : ∀ x ∈ p0, x.block < W.heap.size := by obtain ⟨m, hm⟩ := k0; exact DataW.trod_lt m _ _ _ hm
  have w0 : Byts W a0 len0 cap0 := by
    obtain ⟨fuel, hf⟩ := h0
    rcases open_ints Try.underlying29 Try.underlying5 (by kernel_rfl) hf with ⟨hcs, _⟩ | ⟨x, l, c, zs, hcs, _, hl, hm, hz, _, hcell, hwz⟩
    · simp [Value.cells] at hcs
      obtain ⟨rfl, rfl, rfl⟩ := hcs
      exact byts_nil W
    · simp [Value.cells] at hcs
      obtain ⟨rfl, rfl, rfl⟩ := hcs
      exact byts_of hl hm (by simpa using hz) hcell hwz
  clear hA0 hval0
  refine (law_FnNearestTour a0 len0 cap0 W w0).mono fun e W' ⟨he, bel⟩ => ?_
  subst he
  exact ⟨_, rfl, _, _, _, [], _, [], hW', trodAll_mk1 (shut_bool Try.underlying4 _), (trodAll_cons_mk (Below.trod laidOut (by kernel_rfl) (of_decide_eq_true (by kernel_rfl)) k0 bel lt0) trodAll_mk0), rfl, bel.frame _, fun h => by cases h⟩
theorem over : Rows.fnNearestTourRow.holds Try.pinned (OpenSpec.ofChange Rows.fnNearestTourSpec) :=
  OpenClaim.holds_of_wide 8 Try.f8 rfl rfl rfl rfl rfl rfl rfl ⟨rfl, rfl, rfl, rfl, rfl⟩ rfl rfl rfl rfl rfl (by kernel_rfl) Try.func8 (by kernel_rfl)
    (of_decide_eq_true (by kernel_rfl)) (by unfold Func.isWrapper; first | (rw [if_pos (by decide +kernel)]; kernel_rfl) | (rw [if_neg (by decide +kernel)]; exact ⟨rfl, rfl⟩))
    (fun os started H enc _ => lifted os started H enc)
theorem proved : Rows.FnNearestTourSaid := over
#print axioms proved
end Go.Proofs.Ythkleabdnjhniaa.fnNearestTourDone
