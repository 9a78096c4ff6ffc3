/-
  NearestTour: both programs give the same tour.
-/
import Derived.Test.YthkleabdnjhniaaNearLaw
import Derived.Test.YthkleabdnjhniaaOrder
import Derived.Test.YthkleabdnjhniaaQuiet
import Derived.Test.YthkleabdnjhniaaDeep
namespace Go.Proofs.Ythkleabdnjhniaa
open Go Go.RowKit Go.Sort
set_option maxRecDepth 100000 in
set_option maxHeartbeats 4000000 in
theorem i_NearestTour (v : Value) (xs : List Pt) (w : World) (hv : Rds LPt w v xs) :
    Calls Try.prog 27 #[v] w fun e w' => ∃ r, e = .returned r ∧ St w w' [Own LI r (nearest xs)] := by
  have HI : RowKit.Hid (Calls Try.prog 16 #[v] w fun e w' => e = .returned (.bool (stopsB xs)) ∧ w.grownBy w' none) := i_StopsValid v xs w hv
  cases hB : stopsB xs with
  | false =>
    rw [hB] at HI
    rw [nearest_no hB]
    clear hB
    go_enter Try.func27, Try.ntmps27
    go_wp2_with (go_at_call 16; refine (HI.out).mono ?_; rintro e w1 ⟨rfl, g1⟩)
    go_ret
    exact ⟨_, rfl, ((St.refl w).grow g1).ownNil LI⟩
  | true =>
    rw [hB] at HI
    obtain ⟨R, hR⟩ : ∃ R, R = nearest xs := ⟨_, rfl⟩
    rw [← hR]
    rw [nearest_yes hB] at hR
    have HP := Lib.hid (stopsB_pts hB)
    have hs := stopsB_len hB
    obtain ⟨a, n, cap, rfl, h1, hm, HN, HC⟩ := LPt_get hv
    have hn16 : n ≤ 16 := by have := HN.out; omega
    have hn1 : 1 ≤ n := by have := HN.out; omega
    have HR := Lib.hid hR
    clear hB hs hR
    go_enter Try.func27, Try.ntmps27
    go_wp2_with (go_at_call 16; refine (HI.out).mono ?_; rintro e w1 ⟨rfl, g1⟩)
    have S0 : St w (w1.alloc (.cells #[.int .i64 0] 3)) [Own LI (.slice (some ⟨w1.heap.size, 0, none⟩) 1 1) (nearL xs 1)] := ((St.refl w).grow g1).ownLit LI [0] #[.int .i64 0] rfl (by unfold maxLen; simp)
    clear g1
    go_loopw [3, 4, 5, 6, 7] (fun o _ _ _ _ wr => ∃ j : Nat, 1 ≤ j ∧ j ≤ n ∧ St w wr [Own LI o (nearL xs j)]) (fun o _ _ _ _ _ => n - (match o with | .slice _ m _ => m | _ => 0))
    case atStart => exact ⟨1, by omega, hn1, S0⟩
    case round =>
      obtain ⟨j, hj1, hjn, S⟩ := hrel
      clear S0
      obtain ⟨oa, on, oc, rfl, hoc, hom, HON, HOC⟩ := LI_own S
      obtain rfl : on = j := by have := HON.out; rw [nearL_len] at this; exact this
      by_cases hlt : on < n
      rotate_left
      · obtain rfl : on = n := by omega
        have e : RowKit.Hid (nearL xs on = R) := by show _ = _; rw [HR.out, HN.out]
        rw [e.out] at S
        go_wp2
        go_ret
        exact ⟨_, rfl, S⟩
      obtain ⟨J, rfl⟩ : ∃ J, on = J + 1 := ⟨on - 1, by omega⟩
      obtain ⟨g, la, rfl, hg1, hg2, hla, hcl, hfl⟩ := HOC.out J (by omega)
      have hlast : RowKit.Hid (la = (nearL xs (J + 1)).getLastD 0) := by
        have h1 := hla.out
        rw [last_get (nearL_len xs (J + 1))] at h1
        exact (Option.some.inj h1).symm
      have hin := (nearL_ok (xs := xs) (J + 1) (by have := HN.out; omega)).1 la (List.mem_of_getElem? hla.out)
      obtain ⟨LA, rfl⟩ := Int.eq_ofNat_of_zero_le hin.1
      have hLA : LA < n := by have := HN.out; omega
      obtain ⟨b, off, p, rfl, hb, hp, p0, p1⟩ := HC.out LA hLA
      have p0' := gb_cell S.gb p0 (by simp)
      have p1' := gb_cell S.gb p1 (by simp)
      have okp := Lib.hid (pt_at HP.out hp.out)
      have hpl := Lib.hid (ptOf_at hp.out)
      have i0 : (0 : Int) ≤ (J : Int) := by omega
      have hJJ : ((J + 1 : Nat) : Int) - 1 = (J : Int) := by omega
      have hLAi : (LA : Int) < (n : Int) := by omega
      have hlti : (J : Int) + 1 < (n : Int) := by omega
      have hnl : (nearL xs (J + 1)).length ≤ 1000000000 := by rw [nearL_len]; omega
      clear HOC hla hin p0 p1
      have CF : ∀ (k : Nat) (q : Bool), hasB (nearL xs (J + 1)) (k : Int) = q → RowKit.Hid (∀ W, Rds LI W (.slice (some ⟨g, 0, none⟩) (J + 1) oc) (nearL xs (J + 1)) → Calls Try.prog 54 #[.slice (some ⟨g, 0, none⟩) (J + 1) oc, .int .i64 (k : Int)] W fun e w' => e = .returned (.bool q) ∧ W = w') := by
        intro k q hq W hW
        rw [← hq]
        exact contains_s _ _ _ _ hW
      have CFH := Lib.hid CF
      have SH := Lib.hid S
      clear CF S
      go_wp2
      clear hcl p0' p1'
      obtain ⟨wo, rfl⟩ : ∃ wo : World, wo = wr := ⟨_, rfl⟩
      go_loopw [5, 6, 7, 28] (fun b5 _ _ i wr => ∃ (k : Nat) (B : Int), k ≤ n ∧ i = .int .i64 k ∧ b5 = .int .i64 B ∧ -1 ≤ B ∧ B < k ∧ RowKit.Hid (B = bestTo xs (nearL xs (J + 1)) LA k) ∧ (wo.alloc (.cells #[.int .i64 p.X, .int .i64 p.Y] 41)).grownBy wr none) (fun _ _ _ i _ => n - (intOf i).toNat)
      case atStart => exact ⟨0, -1, by omega, rfl, rfl, by omega, by omega, rfl, World.grownBy.refl _ _⟩
      case round =>
        obtain ⟨k, B, hk, rfl, rfl, hB0, hB1, HBB, hg⟩ := hrel
        have S := (SH.out.alloc (.cells #[.int .i64 p.X, .int .i64 p.Y] 41)).grow hg
        by_cases hlt2 : k < n
        rotate_left
        · obtain rfl : k = n := by omega
          have HN2 : RowKit.Hid (nearL xs (J + 1) ++ [B] = nearL xs (J + 1 + 1)) := by
            show _ = _
            rw [nearL_next xs (J + 1) (by omega), HBB.out, ← hlast.out, HN.out]
          go_wp2_with (at_builtin; refine wpList_app1 LI_info rfl _ _ rfl S B #[.int .i64 B] rfl rfl rfl hnl ?_; intro v' w5 S9; rw [HN2.out] at S9)
          clear S
          obtain ⟨ua, un, uc, rfl, hun⟩ := Rds.slice (St.own S9)
          rw [nearL_len] at hun
          subst hun
          go_roundw
          case rel => exact ⟨J + 1 + 1, by omega, by omega, S9⟩
          case measure => (simp; try omega)
        obtain ⟨b2, off2, pk, hbo, hb2, hpk, k0, k1⟩ := HC.out k hlt2
        obtain ⟨rfl, rfl⟩ : b = b2 ∧ off = off2 := by simpa using hbo
        have k0' := gb_cell S.gb k0 (by simp)
        have k1' := gb_cell S.gb k1 (by simp)
        have okk := Lib.hid (pt_at HP.out hpk.out)
        have hki : (k : Int) < (n : Int) := by omega
        have l0 : wr.cell? ⟨wo.heap.size, 0, none⟩ = some (.int .i64 p.X) := gb_cell hg ((cell_of_row _ _ _ _ _ _ (heap_alloc_new wo _)).trans rfl) (by simp)
        have l1 : wr.cell? ⟨wo.heap.size, 1, none⟩ = some (.int .i64 p.Y) := gb_cell hg ((cell_of_row _ _ _ _ _ _ (heap_alloc_new wo _)).trans rfl) (by simp)
        have hgw : wo.heap.size < wr.heap.size := by have := hg.size; simp at this; omega
        have RR := Lib.hid (qrds ((St.own S).kept (World.grownBy_alloc wr (.cells #[.int .i64 pk.X, .int .i64 pk.Y] 41) none)))
        have HG := Lib.hid (gb_trans (gb_trans hg (World.grownBy_alloc wr (.cells #[.int .i64 pk.X, .int .i64 pk.Y] 41) none)) (World.grownBy.refl _ _))
        cases hc : hasB (nearL xs (J + 1)) (k : Int) with
        | true =>
          have CT := CFH.out k true hc
          have HB2 : RowKit.Hid (B = bestTo xs (nearL xs (J + 1)) LA (k + 1)) := by show _ = _; rw [bestTo_seen (hasB_t.1 hc), HBB.out]
          clear HBB hc
          go_wp2
          (refine wp_region_quiet_below (by kernel_rfl) (by kernel_rfl) ?_; (repeat (go_big_quiet_step ((go_at_call 54; with_reducible exact qc0 (CT.out _ (RR.out _ _)))))); refine wpQuiet_nil ?_; intro _ hw'; obtain ⟨⟨dq, osq⟩, hw''⟩ := hw'; subst hw'')
          have HQ := gb_trans HG.out (qg (wr.alloc (.cells #[.int .i64 pk.X, .int .i64 pk.Y] 41)) dq osq)
          go_wp2
          go_roundw
          case rel => exact ⟨k + 1, B, by omega, by go_num, rfl, by omega, by omega, HB2, HQ⟩
          case measure => (simp [intOf]; try omega)
        | false =>
          have CT := CFH.out k false hc
          by_cases hneg : B < 0
          · have HB2 : RowKit.Hid ((k : Int) = bestTo xs (nearL xs (J + 1)) LA (k + 1)) := by show _ = _; rw [bestTo_first (hasB_f.1 hc) (by rw [← HBB.out]; exact hneg)]
            clear HBB hc
            go_wp2
            (refine wp_region_quiet_below (by kernel_rfl) (by kernel_rfl) ?_; (repeat (go_big_quiet_step ((go_at_call 54; with_reducible exact qc0 (CT.out _ (RR.out _ _)))))); refine wpQuiet_nil ?_; intro _ hw'; obtain ⟨⟨dq, osq⟩, hw''⟩ := hw'; subst hw'')
            have HQ := gb_trans HG.out (qg (wr.alloc (.cells #[.int .i64 pk.X, .int .i64 pk.Y] 41)) dq osq)
            go_wp2
            go_roundw
            case rel => exact ⟨k + 1, k, by omega, by go_num, rfl, by omega, by omega, HB2, HQ⟩
            case measure => (simp [intOf]; try omega)
          · obtain ⟨BI, rfl⟩ : ∃ BI : Nat, B = (BI : Int) := ⟨B.toNat, by omega⟩
            have hBn : BI < n := by omega
            have hBi : (BI : Int) < (n : Int) := by omega
            have hB0' : (0 : Int) ≤ (BI : Int) := by omega
            have hdn : decide ((BI : Int) < 0) = false := by simp
            obtain ⟨b3, off3, pb, hbo, hb3, hpb, j0, j1⟩ := HC.out BI hBn
            obtain ⟨rfl, rfl⟩ : b = b3 ∧ off = off3 := by simpa using hbo
            have okb := Lib.hid (pt_at HP.out hpb.out)
            obtain ⟨S1, hS1⟩ : ∃ S1, S1 = stp p pk := ⟨_, rfl⟩
            obtain ⟨S2, hS2⟩ : ∃ S2, S2 = stp p pb := ⟨_, rfl⟩
            have C1 : RowKit.Hid (∀ W, Calls Try.prog 55 #[.agg #[.int .i64 p.X, .int .i64 p.Y], .agg #[.int .i64 pk.X, .int .i64 pk.Y]] W fun e w' => e = .returned (.int .i64 S1) ∧ W.grownBy w' none) := by
              rw [hS1]; exact fun W => i_step p pk W okp.out okk.out
            have C2 : RowKit.Hid (∀ W, Calls Try.prog 55 #[.agg #[.int .i64 p.X, .int .i64 p.Y], .agg #[.int .i64 pb.X, .int .i64 pb.Y]] W fun e w' => e = .returned (.int .i64 S2) ∧ W.grownBy w' none) := by
              rw [hS2]; exact fun W => i_step p pb W okp.out okb.out
            have m0 := qcell (gb_cell (World.grownBy_alloc wr (.cells #[.int .i64 pk.X, .int .i64 pk.Y] 41) none) l0 (by simp))
            have m1 := qcell (gb_cell (World.grownBy_alloc wr (.cells #[.int .i64 pk.X, .int .i64 pk.Y] 41) none) l1 (by simp))
            have n0 : ∀ d os, (grow (redrawn (wr.alloc (.cells #[.int .i64 pk.X, .int .i64 pk.Y] 41)) d) os).cell? ⟨wr.heap.size, 0, none⟩ = some (.int .i64 pk.X) := qcell ((cell_of_row _ _ _ _ _ _ (heap_alloc_new wr _)).trans rfl)
            have n1 : ∀ d os, (grow (redrawn (wr.alloc (.cells #[.int .i64 pk.X, .int .i64 pk.Y] 41)) d) os).cell? ⟨wr.heap.size, 1, none⟩ = some (.int .i64 pk.Y) := qcell ((cell_of_row _ _ _ _ _ _ (heap_alloc_new wr _)).trans rfl)
            have o0 := qcell (gb_cell (World.grownBy_alloc wr (.cells #[.int .i64 pk.X, .int .i64 pk.Y] 41) none) (gb_cell S.gb j0 (by simp)) (by simp))
            have o1 := qcell (gb_cell (World.grownBy_alloc wr (.cells #[.int .i64 pk.X, .int .i64 pk.Y] 41) none) (gb_cell S.gb j1 (by simp)) (by simp))
            have e1 : stp (ptOf xs LA) (ptOf xs k) = S1 := by rw [hpl.out, ptOf_at hpk.out, hS1]
            have e2 : stp (ptOf xs LA) (ptOf xs (bestTo xs (nearL xs (J + 1)) LA k)) = S2 := by rw [← HBB.out, hpl.out, ptOf_at hpb.out, hS2]
            by_cases hss : S1 < S2
            · have HB2 : RowKit.Hid ((k : Int) = bestTo xs (nearL xs (J + 1)) LA (k + 1)) := by show _ = _; rw [bestTo_less (hasB_f.1 hc) (by rw [e1, e2]; exact hss)]
              clear HBB hc hS1 hS2 e1 e2 j0 j1
              go_wp2
              (refine wp_region_quiet_below (by kernel_rfl) (by kernel_rfl) ?_; (repeat (go_big_quiet_step ((first | (go_at_call 54; with_reducible exact qc0 (CT.out _ (RR.out _ _))) | (with_reducible exact qc (C1.out _)) | (with_reducible exact qc (C2.out _)))))); refine wpQuiet_nil ?_; intro _ hw'; obtain ⟨⟨dq, osq⟩, hw''⟩ := hw'; subst hw'')
              have HQ := gb_trans HG.out (qg (wr.alloc (.cells #[.int .i64 pk.X, .int .i64 pk.Y] 41)) dq osq)
              go_wp2
              go_roundw
              case rel => exact ⟨k + 1, k, by omega, by go_num, rfl, by omega, by omega, HB2, HQ⟩
              case measure => (simp [intOf]; try omega)
            · have hds : decide (S1 < S2) = false := by simpa using hss
              have HB2 : RowKit.Hid ((BI : Int) = bestTo xs (nearL xs (J + 1)) LA (k + 1)) := by show _ = _; rw [bestTo_more (by rw [← HBB.out]; exact hneg) (by rw [e1, e2]; exact hss), HBB.out]
              clear HBB hc hS1 hS2 e1 e2 j0 j1
              go_wp2
              (refine wp_region_quiet_below (by kernel_rfl) (by kernel_rfl) ?_; (repeat (go_big_quiet_step ((first | (go_at_call 54; with_reducible exact qc0 (CT.out _ (RR.out _ _))) | (with_reducible exact qc (C1.out _)) | (with_reducible exact qc (C2.out _)))))); refine wpQuiet_nil ?_; intro _ hw'; obtain ⟨⟨dq, osq⟩, hw''⟩ := hw'; subst hw'')
              have HQ := gb_trans HG.out (qg (wr.alloc (.cells #[.int .i64 pk.X, .int .i64 pk.Y] 41)) dq osq)
              go_wp2
              go_roundw
              case rel => exact ⟨k + 1, BI, by omega, by go_num, rfl, by omega, by omega, HB2, HQ⟩
              case measure => (simp [intOf]; try omega)
end Go.Proofs.Ythkleabdnjhniaa
