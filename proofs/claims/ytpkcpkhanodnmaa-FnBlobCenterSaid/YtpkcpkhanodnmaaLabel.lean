/-
  LabelImage: both programs give the same numbers.
-/
import Derived.Test.YtpkcpkhanodnmaaLabelLaw
import Derived.Test.YtpkcpkhanodnmaaFlood
namespace Go.Proofs.Ytpkcpkhanodnmaa
open Go Go.RowKit
set_option maxRecDepth 100000 in
set_option maxHeartbeats 8000000 in
theorem i_LabelImage (v : Value) (ys : List (List Bool)) (w : World) (hv : DRds LSB DB w v ys) :
    Calls Try.prog 33 #[v] w fun e w' => ∃ r, e = .returned r ∧ St w w' [DOwn LSI DI r (labels ys)] := by
  have hI := i_ImageValid v ys w hv
  cases hB : imgB ys with
  | false =>
    rw [hB] at hI
    rw [labels_no hB]
    have hI' := Lib.hid hI
    clear hI hB
    go_enter Try.func33, Try.ntmps33
    go_wp2_with (go_at_call 21; refine (hI'.out).mono ?_; rintro e w1 ⟨rfl, g1⟩)
    go_ret
    exact ⟨_, rfl, ((St.refl w).grow g1).downNil⟩
  | true =>
    rw [hB] at hI
    have hI' := Lib.hid hI
    have hok := Lib.hid (imgB_t.1 hB)
    rw [labels_yes hB]
    clear hI hB
    have HV := Lib.hid hv
    obtain ⟨a, n, cap, rfl, h1, hm, HN, HC⟩ := hv.rows
    have hn16 : n ≤ 16 := by have := HN.out; have := hok.out.2.1; omega
    obtain ⟨W, hW⟩ : ∃ W, W = (ys.headD []).length := ⟨_, rfl⟩
    have HW := Lib.hid hW
    have hW16 : W ≤ 16 := by have := (imgOk_dims hok.out).2; omega
    clear hW
    go_enter Try.func33, Try.ntmps33
    go_wp2_with (go_at_call 21; refine (hI'.out).mono ?_; rintro e w1 ⟨rfl, g1⟩)
    have S0 : St w w1 [DOwn LSI DI (.slice none 0 0) (zerosTo ys 0)] := ((St.refl w).grow g1).downNil
    clear g1
    go_loopw [3, 5, 16] (fun o _ i wr => ∃ k : Nat, k ≤ n ∧ i = .int .i64 k ∧ St w wr [DOwn LSI DI o (zerosTo ys k)]) (fun _ _ i _ => n - (intOf i).toNat)
    case atStart => exact ⟨0, by omega, rfl, S0⟩
    case round =>
      obtain ⟨k, hk, rfl, S⟩ := hrel
      clear S0
      by_cases hlt : k < n
      · obtain ⟨b, off, ra, rn, rc, r, rfl, hb, hy, hrn, hrc, hrm, hrd, hc⟩ := HC.out k hlt
        have hr16 : rn ≤ 16 := by have := (hok.out.2.2 k r hy.out).2.1; have := hrn.out; omega
        have hc' := gb_cell S.gb hc (by simp)
        have hzl : (zerosTo ys k).length ≤ 1000000000 := by rw [zerosTo_len _ _ (by have := HN.out; omega)]; omega
        have HZ : RowKit.Hid (zerosTo ys k ++ [List.replicate rn 0] = zerosTo ys (k + 1)) := by show _ = _; rw [zerosTo_succ hy.out, hrn.out]
        clear hc hrd hrn hy
        go_wp2_with (first
          | (at_make; refine wpList_mk LI_info rfl _ _ rfl S (rn : Int) rn rfl rfl rfl (by omega) ?_; intro w2 S2 hg; have S3 := S2.swap; clear S2 hg hc')
          | (at_builtin; refine wpList_drow1 LSI_info rfl _ _ rfl S3 rfl rfl hzl ?_; intro v4 w4 S4))
        rw [HZ.out] at S4
        clear S S3
        go_roundw
        case rel => exact ⟨k + 1, by omega, by go_num, S4⟩
        case measure => (simp [intOf]; try omega)
      obtain rfl : k = n := by omega
      have S1 : St w wr [DOwn LSI DI u3 (labY ys 0).1] := by
        have : (labY ys 0).1 = zerosTo ys k := by rw [HN.out]; rfl
        rw [this]
        exact S
      clear S
      go_wp2
      obtain ⟨o, rfl⟩ : ∃ o, o = u3 := ⟨_, rfl⟩
      go_loopw [6, 7, 8, 9, 10, 29] (fun nx _ _ _ _ i wr => ∃ (y C : Nat), y ≤ k ∧ i = .int .i64 y ∧ nx = .int .i64 C ∧ RowKit.Hid (C = (labY ys y).2) ∧ St w wr [DOwn LSI DI o (labY ys y).1]) (fun _ _ _ _ _ i _ => k - (intOf i).toNat)
      case atStart => exact ⟨0, 0, by omega, rfl, rfl, rfl, S1⟩
      case round =>
        obtain ⟨y, C, hy, rfl, rfl, HCC, S⟩ := hrel
        clear S1
        by_cases hlt : y < k
        rotate_left
        · obtain rfl : y = k := by omega
          have e : RowKit.Hid ((labY ys y).1 = (labY ys ys.length).1) := by show _ = _; rw [HN.out]
          rw [e.out] at S
          clear e HCC
          go_wp2
          go_ret
          exact ⟨_, rfl, S⟩
        obtain ⟨b, off, ra, rn, rc, r, rfl, hb, hyr, hrn, hrc, hrm, hrd, hc⟩ := HC.out y hlt
        have hrW : RowKit.Hid (rn = W) := by show rn = W; rw [hrn.out, HW.out]; exact imgOk_row hok.out hyr.out
        have hr16 : rn ≤ 16 := by have := hrW.out; omega
        have hc' := gb_cell S.gb hc (by simp)
        obtain ⟨-, HR⟩ := rds_bool_at hrd
        have hC : C ≤ y * 16 := by rw [HCC.out]; exact labY_num hok.out y
        have DY := Lib.hid (labY_dims ys y)
        clear hc hrd
        go_wp2
        obtain ⟨wo, rfl⟩ : ∃ wo : World, wo = wr := ⟨_, rfl⟩
        go_loopw [6, 9, 10, 36] (fun nx _ _ i wr => ∃ (x D : Nat), x ≤ rn ∧ i = .int .i64 x ∧ nx = .int .i64 D ∧ D ≤ y * 16 + x ∧ RowKit.Hid (D = (labX ys y (labY ys y) x).2) ∧ St w wr [DOwn LSI DI o (labX ys y (labY ys y) x).1]) (fun _ _ _ i _ => rn - (intOf i).toNat)
        case atStart => exact ⟨0, C, by omega, rfl, rfl, by omega, HCC, S⟩
        case round =>
          clear HCC S hC hc'
          obtain ⟨x, D, hx, rfl, rfl, hD, HDD, S⟩ := hrel
          by_cases hlt2 : x < rn
          rotate_left
          · obtain rfl : x = rn := by omega
            have e : RowKit.Hid (labX ys y (labY ys y) x = labY ys (y + 1)) := by show _ = _; rw [hrW.out, HW.out]; rfl
            rw [e.out] at S
            have HC2 : RowKit.Hid (D = (labY ys (y + 1)).2) := by show _ = _; rw [HDD.out, e.out]
            clear e HDD
            go_wp2
            go_roundw
            case rel => exact ⟨y + 1, D, by omega, by go_num, rfl, HC2, S⟩
            case measure => (simp [intOf]; try omega)
          obtain ⟨b2, off2, z, rfl, hb2, hz, c2⟩ := HR.out x hlt2
          have hpz := Lib.hid (pix_at hyr.out hz.out)
          have c2' := gb_cell S.gb c2 (by simp)
          clear c2 hz
          cases z with
          | false =>
            have e : labX ys y (labY ys y) (x + 1) = labX ys y (labY ys y) x := lstep_no (fun h => by have := h.1; simp only at this; rw [hpz.out] at this; cases this)
            have S2 : RowKit.Hid (St w wr [DOwn LSI DI o (labX ys y (labY ys y) (x + 1)).1]) := by rw [e]; exact S
            have HD2 : RowKit.Hid (D = (labX ys y (labY ys y) (x + 1)).2) := by show _ = _; rw [e]; exact HDD.out
            clear e HDD S
            go_wp2
            go_roundw
            case rel => exact ⟨x + 1, D, by omega, by go_num, rfl, by omega, HD2, S2.out⟩
            case measure => (simp [intOf]; try omega)
          | true =>
            have DX := Lib.hid (labX_dims DY.out y x)
            obtain ⟨s1, hs1, hIs⟩ := dims_in DX.out (x := x) (y := y) hpz.out
            obtain ⟨gb, gn, gc, ga1, gn1, gc1, rfl, hgn, hgl, hgc, hgg⟩ := grid_at S hs1
            obtain ⟨v1, hv1⟩ : ∃ v, s1[x]? = some v := ⟨_, List.getElem?_eq_getElem hIs⟩
            obtain ⟨rb1, rfl, hgc1, hgf, -⟩ := hgg x v1 hv1
            have hgr := gr_at hs1 hv1
            have hJg : y < gn := by have := (List.getElem?_eq_some_iff.1 hs1).1; omega
            have hIg : x < gn1 := by omega
            have hJgi : (y : Int) < gn := by omega
            have hIgi : (x : Int) < gn1 := by omega
            by_cases hv0 : v1 = 0
            rotate_left
            · have e : labX ys y (labY ys y) (x + 1) = labX ys y (labY ys y) x := lstep_no (fun h => hv0 (hgr.symm.trans h.2))
              have S2 : RowKit.Hid (St w wr [DOwn LSI DI (.slice (some ⟨gb, 0, none⟩) gn gc) (labX ys y (labY ys y) (x + 1)).1]) := by rw [e]; exact S
              have HD2 : RowKit.Hid (D = (labX ys y (labY ys y) (x + 1)).2) := by show _ = _; rw [e]; exact HDD.out
              have hv0' : (v1 == 0) = false := by simpa using hv0
              clear e HDD S hgr hs1 hv1 hgg hgn hgl
              go_wp2
              go_roundw
              case rel => exact ⟨x + 1, D, by omega, by go_num, rfl, by omega, HD2, S2.out⟩
              case measure => (simp [intOf]; try omega)
            subst hv0
            have hfr : fr ys (labX ys y (labY ys y) x).1 (x, y) := ⟨hpz.out, hgr⟩
            have e : labX ys y (labY ys y) (x + 1) = _ := lstep_yes hfr
            have HE : RowKit.Hid ((labX ys y (labY ys y) (x + 1)).1 = fillI ys (labX ys y (labY ys y) x).1 x y ((D : Int) + 1)) := by show _ = _; rw [e, HDD.out]
            have HD2 : RowKit.Hid (D + 1 = (labX ys y (labY ys y) (x + 1)).2) := by show _ = _; rw [e, HDD.out]
            have SH := Lib.hid S
            clear e HDD S hgr hs1 hv1 hgg hgn hgl hfr
            go_wp2_with fail
            refine (spread_s w _ ys _ ((D : Int) + 1) ⟨by omega, by omega⟩ hok.out HV.out _ _ (x : Int) (y : Int) wr [] rfl DX.out ⟨by omega, by omega⟩ ⟨by omega, by omega⟩ SH.out).mono ?_
            rintro e w5 ⟨u5, rfl, S5⟩
            rw [← HE.out] at S5
            clear SH
            go_wp2
            go_roundw
            case rel => exact ⟨x + 1, D + 1, by omega, by go_num, by go_num, by omega, HD2, S5⟩
            case measure => (simp [intOf]; try omega)
set_option maxRecDepth 100000 in
set_option maxHeartbeats 8000000 in
theorem s_LabelImage (v : Value) (ys : List (List Bool)) (w : World) (hv : DRds LSB DB w v ys) :
    Calls Try.prog 35 #[v] w fun e w' => ∃ r, e = .returned r ∧ St w w' [DOwn LSI DI r (labels ys)] := by
  have hI := s_ImageValid v ys (w.alloc (.cells #[] 47)) (hv.kept (World.grownBy_alloc _ _ _))
  have SE : St w (w.alloc (.cells #[] 47)) [DOwn LSI DI (.slice (some ⟨w.heap.size, 0, none⟩) 0 0) []] := (St.refl w).downEmpty (L := LSI) (D := DI)
  cases hB : imgB ys with
  | false =>
    rw [hB] at hI
    rw [labels_no hB]
    have hI' := Lib.hid hI
    clear hI hB
    go_enter Try.func35, Try.ntmps35
    go_wp2_with (go_at_call 19; refine (hI'.out).mono ?_; rintro e w1 ⟨rfl, g1⟩)
    go_ret
    exact ⟨_, rfl, SE.grow g1⟩
  | true =>
    rw [hB] at hI
    have hI' := Lib.hid hI
    have hok := Lib.hid (imgB_t.1 hB)
    rw [labels_yes hB]
    clear hI hB
    have HV := Lib.hid hv
    obtain ⟨a, n, cap, rfl, h1, hm, HN, HC⟩ := hv.rows
    have hn16 : n ≤ 16 := by have := HN.out; have := hok.out.2.1; omega
    obtain ⟨W, hW⟩ : ∃ W, W = (ys.headD []).length := ⟨_, rfl⟩
    have HW := Lib.hid hW
    have hW16 : W ≤ 16 := by have := (imgOk_dims hok.out).2; omega
    clear hW
    have hn0 : 0 < n := by have := HN.out; have := hok.out.1; omega
    obtain ⟨b, off, ra0, rn0, rc0, r0, rfl, hb0, hy0, hrn0, hrc0, hrm0, hrd0, c0⟩ := HC.out 0 hn0
    rw [Nat.add_zero] at c0
    have hrW0 : rn0 = W := by rw [hrn0.out, HW.out]; exact imgOk_row hok.out hy0.out
    subst hrW0
    have hn0i : (0 : Int) < n := by omega
    clear hrd0 hrn0 hy0
    go_enter Try.func35, Try.ntmps35
    go_wp2_with (go_at_call 19; refine (hI'.out).mono ?_; rintro e w1 ⟨rfl, g1⟩)
    have S0 : St w w1 [DOwn LSI DI (.slice (some ⟨w.heap.size, 0, none⟩) 0 0) (zerosTo ys 0)] := SE.grow g1
    clear g1 SE
    go_loopw [3, 4] (fun o i wr => ∃ k : Nat, k ≤ n ∧ i = .int .i64 k ∧ St w wr [DOwn LSI DI o (zerosTo ys k)]) (fun _ i _ => n - (intOf i).toNat)
    case atStart => exact ⟨0, by omega, rfl, S0⟩
    case round =>
      obtain ⟨k, hk, rfl, S⟩ := hrel
      clear S0
      by_cases hlt : k < n
      · obtain ⟨b', off', ra, rn, rc, r, hab, hb, hy, hrn, hrc, hrm, hrd, hc⟩ := HC.out k hlt
        obtain rfl : rn = rn0 := by rw [hrn.out, HW.out]; exact imgOk_row hok.out hy.out
        have hr16 : rn ≤ 16 := by have := (hok.out.2.2 k r hy.out).2.1; have := hrn.out; omega
        have hc' := gb_cell S.gb c0 (by simp)
        have hzl : (zerosTo ys k).length ≤ 1000000000 := by rw [zerosTo_len _ _ (by have := HN.out; omega)]; omega
        have HZ : RowKit.Hid (zerosTo ys k ++ [List.replicate rn 0] = zerosTo ys (k + 1)) := by show _ = _; rw [zerosTo_succ hy.out, hrn.out]
        clear hc hrd hrn hy hab
        go_wp2_with (first
          | (at_make; refine wpList_mk LI_info rfl _ _ rfl S (rn : Int) rn rfl rfl rfl (by omega) ?_; intro w2 S2 hg; have S3 := S2.swap; clear S2 hg hc')
          | (at_builtin; refine wpList_drow1 LSI_info rfl _ _ rfl S3 rfl rfl hzl ?_; intro v4 w4 S4))
        rw [HZ.out] at S4
        clear S S3
        go_roundw
        case rel => exact ⟨k + 1, by omega, by go_num, S4⟩
        case measure => (simp [intOf]; try omega)
      obtain rfl : k = n := by omega
      have S1 : St w wr [DOwn LSI DI u3 (labY ys 0).1] := by
        have : (labY ys 0).1 = zerosTo ys k := by rw [HN.out]; rfl
        rw [this]
        exact S
      clear S
      go_wp2
      obtain ⟨o, rfl⟩ : ∃ o, o = u3 := ⟨_, rfl⟩
      go_loopw [5, 6, 7] (fun nx i _ wr => ∃ (y C : Nat), y ≤ k ∧ i = .int .i64 y ∧ nx = .int .i64 C ∧ RowKit.Hid (C = (labY ys y).2) ∧ St w wr [DOwn LSI DI o (labY ys y).1]) (fun _ i _ _ => k - (intOf i).toNat)
      case atStart => exact ⟨0, 0, by omega, rfl, rfl, rfl, S1⟩
      case round =>
        obtain ⟨y, C, hy, rfl, rfl, HCC, S⟩ := hrel
        clear S1
        by_cases hlt : y < k
        rotate_left
        · obtain rfl : y = k := by omega
          have e : RowKit.Hid ((labY ys y).1 = (labY ys ys.length).1) := by show _ = _; rw [HN.out]
          rw [e.out] at S
          clear e HCC
          go_wp2
          go_ret
          exact ⟨_, rfl, S⟩
        obtain ⟨b', off', ra, rn, rc, r, hab, hb, hyr, hrn, hrc, hrm, hrd, hc⟩ := HC.out y hlt
        obtain ⟨rfl, rfl⟩ : b = b' ∧ off = off' := by simpa using hab
        obtain rfl : rn = rn0 := by rw [hrn.out, HW.out]; exact imgOk_row hok.out hyr.out
        have hr16 : rn ≤ 16 := by omega
        obtain ⟨-, HR⟩ := rds_bool_at hrd
        have hC : C ≤ y * 16 := by rw [HCC.out]; exact labY_num hok.out y
        have DY := Lib.hid (labY_dims ys y)
        clear hrd hab
        go_wp2
        obtain ⟨wo, rfl⟩ : ∃ wo : World, wo = wr := ⟨_, rfl⟩
        go_loopw [5, 7] (fun nx i wr => ∃ (x D : Nat), x ≤ rn ∧ i = .int .i64 x ∧ nx = .int .i64 D ∧ D ≤ y * 16 + x ∧ RowKit.Hid (D = (labX ys y (labY ys y) x).2) ∧ St w wr [DOwn LSI DI o (labX ys y (labY ys y) x).1]) (fun _ i _ => rn - (intOf i).toNat)
        case atStart => exact ⟨0, C, by omega, rfl, rfl, by omega, HCC, S⟩
        case round =>
          clear HCC S hC
          obtain ⟨x, D, hx, rfl, rfl, hD, HDD, S⟩ := hrel
          have c0' := gb_cell S.gb c0 (by simp)
          have hc' := gb_cell S.gb hc (by simp)
          by_cases hlt2 : x < rn
          rotate_left
          · obtain rfl : x = rn := by omega
            have e : RowKit.Hid (labX ys y (labY ys y) x = labY ys (y + 1)) := by show _ = _; rw [HW.out]; rfl
            rw [e.out] at S
            have HC2 : RowKit.Hid (D = (labY ys (y + 1)).2) := by show _ = _; rw [HDD.out, e.out]
            clear e HDD
            go_wp2
            go_roundw
            case rel => exact ⟨y + 1, D, by omega, by go_num, rfl, HC2, S⟩
            case measure => (simp [intOf]; try omega)
          obtain ⟨b2, off2, z, rfl, hb2, hz, c2⟩ := HR.out x hlt2
          have hpz := Lib.hid (pix_at hyr.out hz.out)
          have c2' := gb_cell S.gb c2 (by simp)
          clear c2 hz
          cases z with
          | false =>
            have e : labX ys y (labY ys y) (x + 1) = labX ys y (labY ys y) x := lstep_no (fun h => by have := h.1; simp only at this; rw [hpz.out] at this; cases this)
            have S2 : RowKit.Hid (St w wr [DOwn LSI DI o (labX ys y (labY ys y) (x + 1)).1]) := by rw [e]; exact S
            have HD2 : RowKit.Hid (D = (labX ys y (labY ys y) (x + 1)).2) := by show _ = _; rw [e]; exact HDD.out
            clear e HDD S
            go_wp2
            go_roundw
            case rel => exact ⟨x + 1, D, by omega, by go_num, rfl, by omega, HD2, S2.out⟩
            case measure => (simp [intOf]; try omega)
          | true =>
            have DX := Lib.hid (labX_dims DY.out y x)
            obtain ⟨s1, hs1, hIs⟩ := dims_in DX.out (x := x) (y := y) hpz.out
            obtain ⟨gb, gn, gc, ga1, gn1, gc1, rfl, hgn, hgl, hgc, hgg⟩ := grid_at S hs1
            obtain ⟨v1, hv1⟩ : ∃ v, s1[x]? = some v := ⟨_, List.getElem?_eq_getElem hIs⟩
            obtain ⟨rb1, rfl, hgc1, hgf, -⟩ := hgg x v1 hv1
            have hgr := gr_at hs1 hv1
            have hJg : y < gn := by have := (List.getElem?_eq_some_iff.1 hs1).1; omega
            have hIg : x < gn1 := by omega
            have hJgi : (y : Int) < gn := by omega
            have hIgi : (x : Int) < gn1 := by omega
            by_cases hv0 : v1 = 0
            rotate_left
            · have e : labX ys y (labY ys y) (x + 1) = labX ys y (labY ys y) x := lstep_no (fun h => hv0 (hgr.symm.trans h.2))
              have S2 : RowKit.Hid (St w wr [DOwn LSI DI (.slice (some ⟨gb, 0, none⟩) gn gc) (labX ys y (labY ys y) (x + 1)).1]) := by rw [e]; exact S
              have HD2 : RowKit.Hid (D = (labX ys y (labY ys y) (x + 1)).2) := by show _ = _; rw [e]; exact HDD.out
              have hv0' : (v1 == 0) = false := by simpa using hv0
              clear e HDD S hgr hs1 hv1 hgg hgn hgl
              go_wp2
              go_roundw
              case rel => exact ⟨x + 1, D, by omega, by go_num, rfl, by omega, HD2, S2.out⟩
              case measure => (simp [intOf]; try omega)
            subst hv0
            have hfr : fr ys (labX ys y (labY ys y) x).1 (x, y) := ⟨hpz.out, hgr⟩
            have e : labX ys y (labY ys y) (x + 1) = _ := lstep_yes hfr
            have HE : RowKit.Hid ((labX ys y (labY ys y) (x + 1)).1 = fillI ys (labX ys y (labY ys y) x).1 x y ((D : Int) + 1)) := by show _ = _; rw [e, HDD.out]
            have HD2 : RowKit.Hid (D + 1 = (labX ys y (labY ys y) (x + 1)).2) := by show _ = _; rw [e, HDD.out]
            have SH := Lib.hid S
            have FR := Lib.hid hfr
            clear e HDD S hgr hs1 hv1 hgg hgn hgl hfr
            go_wp2_with fail
            refine (flood_s w _ ys _ ((D : Int) + 1) ⟨by omega, by omega⟩ hok.out HV.out _ x y wr [] DX.out FR.out SH.out).mono ?_
            rintro e w5 ⟨u5, rfl, S5⟩
            rw [← HE.out] at S5
            clear SH
            go_wp2
            go_roundw
            case rel => exact ⟨x + 1, D + 1, by omega, by go_num, by go_num, by omega, HD2, S5⟩
            case measure => (simp [intOf]; try omega)
end Go.Proofs.Ytpkcpkhanodnmaa
