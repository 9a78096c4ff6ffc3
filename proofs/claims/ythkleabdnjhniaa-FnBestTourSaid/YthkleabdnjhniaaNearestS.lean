/-
  NearestTour of the reference: the same tour.
-/
import Derived.Test.YthkleabdnjhniaaNearest
namespace Go.Proofs.Ythkleabdnjhniaa
open Go Go.RowKit Go.Sort
/-- Which places have been visited. -/
def visB (n : Nat) (os : List Int) : List Bool := (List.range n).map (fun (j : Nat) => decide ((j : Int) ∈ os))
theorem visB_len (n : Nat) (os : List Int) : (visB n os).length = n := by simp [visB]
theorem visB_nil (n : Nat) : visB n [] = List.replicate n false := by
  apply List.ext_getElem
  · simp [visB]
  · intro i h1 h2
    simp [visB]
theorem visB_at {n : Nat} (os : List Int) {j : Nat} (hj : j < n) : (visB n os)[j]? = some (hasB os (j : Int)) := by simp [visB, hj, hasB]
theorem visB_set (n : Nat) (os : List Int) (X : Nat) : (visB n os).set X true = visB n (os ++ [(X : Int)]) := by
  apply List.ext_getElem
  · simp [visB]
  · intro i h1 h2
    rw [List.getElem_set]
    simp only [visB, List.getElem_map, List.getElem_range, List.mem_append, List.mem_singleton]
    by_cases e : X = i
    · subst e
      simp
    · rw [if_neg e]
      have : ¬ ((i : Int) = (X : Int)) := by omega
      simp [this]
theorem nearL_at {xs : List Pt} (j : Nat) (hj : j < xs.length) : 0 ≤ nearNext xs (nearL xs j) ∧ nearNext xs (nearL xs j) ≤ (xs.length : Int) - 1 :=
  (nearL_ok (xs := xs) (j + 1) (by omega)).1 _ (by rw [nearL]; simp)
theorem nearNext_eq (xs : List Pt) (j : Nat) : nearNext xs (nearL xs (j + 1)) = bestTo xs (nearL xs (j + 1)) (nearNext xs (nearL xs j)) xs.length := by
  rw [nearNext, if_neg (fun e => by have := congrArg List.length e; rw [nearL_len] at this; simp at this)]
  congr 1
  rw [nearL]
  simp
set_option maxRecDepth 100000 in
set_option maxHeartbeats 4000000 in
theorem s_NearestTour (v : Value) (xs : List Pt) (w : World) (hv : Rds LPt w v xs) :
    Calls Try.prog 26 #[v] w fun e w' => ∃ r, e = .returned r ∧ St w w' [Own LI r (nearest xs)] := by
  have SE : St w (w.alloc (.cells #[] 3)) [Own LI (.slice (some ⟨w.heap.size, 0, none⟩) 0 0) []] := (St.refl w).ownEmpty LI
  have HI : RowKit.Hid (Calls Try.prog 14 #[v] (w.alloc (.cells #[] 3)) fun e w' => e = .returned (.bool (stopsB xs)) ∧ (w.alloc (.cells #[] 3)).grownBy w' none) := s_StopsValid v xs _ (hv.kept (World.grownBy_alloc _ _ _))
  cases hB : stopsB xs with
  | false =>
    rw [hB] at HI
    rw [nearest_no hB]
    clear hB
    go_enter Try.func26, Try.ntmps26
    go_wp2_with (go_at_call 14; refine (HI.out).mono ?_; rintro e w1 ⟨rfl, g1⟩)
    go_ret
    exact ⟨_, rfl, SE.grow g1⟩
  | true =>
    rw [hB] at HI
    obtain ⟨R, hR⟩ : ∃ R, R = nearest xs := ⟨_, rfl⟩
    rw [← hR]
    rw [nearest_yes hB] at hR
    have HP := Lib.hid (stopsB_pts hB)
    have hs := stopsB_len hB
    obtain ⟨a, n, cap, rfl, h1, hm, HN, HC⟩ := LPt_get hv
    have hn16 : n ≤ 16 := by have := HN.out; omega
    have hn1 : 1 ≤ n := by have := HN.out; omega
    have HR := Lib.hid hR
    clear hB hs hR
    go_enter Try.func26, Try.ntmps26
    go_wp2_with (first | (go_at_call 14; refine (HI.out).mono ?_; rintro e w1 ⟨rfl, g1⟩; have S1 := SE.grow g1; clear g1 SE) | (at_make; refine wpList_mk LB_info rfl _ _ rfl S1 _ n rfl rfl rfl (by omega) ?_; intro w2 S2 hg))
    rw [← visB_nil n] at S2
    clear S1 hg
    obtain ⟨D, hD⟩ : ∃ D, D = w1.heap.size := ⟨_, rfl⟩
    rw [← hD] at S2 ⊢
    clear hD
    go_loopw [3, 5, 6, 7] (fun o at_ _ _ wr => ∃ (j : Nat) (AT : Int), j ≤ n ∧ at_ = .int .i64 AT ∧ (j < n → 0 ≤ AT ∧ AT < n) ∧ RowKit.Hid (AT = nearNext xs (nearL xs j)) ∧ St w wr [Own LB (.slice (some ⟨D, 0, none⟩) n n) (visB n (nearL xs j)), Own LI o (nearL xs j)]) (fun o _ _ _ _ => n - (match o with | .slice _ m _ => m | _ => 0))
    case atStart => exact ⟨0, 0, by omega, rfl, fun _ => ⟨by omega, by omega⟩, rfl, S2⟩
    case round =>
      obtain ⟨j, AT, hjn, rfl, hAT, HAT, S⟩ := hrel
      clear S2
      obtain ⟨oa, on, oc, rfl, hoc, hom, HON, -⟩ := LI_own (St.tail S)
      obtain rfl : on = j := by have := HON.out; rw [nearL_len] at this; exact this
      by_cases hlt : on < n
      rotate_left
      · obtain rfl : on = n := by omega
        have e : RowKit.Hid (nearL xs on = R) := by show _ = _; rw [HR.out, HN.out]
        have S3 := St.tail S
        rw [e.out] at S3
        clear S
        go_wp2
        go_ret
        exact ⟨_, rfl, S3⟩
      obtain ⟨a0, a1⟩ := hAT hlt
      obtain ⟨A, rfl⟩ := Int.eq_ofNat_of_zero_le a0
      have hA : A < n := by omega
      have hAi : (A : Int) < (n : Int) := by omega
      have hlti : (on : Int) < (n : Int) := by omega
      obtain ⟨da, dn, dc, hdv, -, -, HDN, HDC⟩ := LB_own S
      simp only [Value.slice.injEq] at hdv
      obtain ⟨rfl, rfl, rfl⟩ := hdv
      obtain ⟨g, z, hga, hg1, hg2, hz, hcz, hfz⟩ := HDC.out A hA
      simp only [Option.some.injEq, Addr.mk.injEq, and_true] at hga
      subst hga
      have S3 := (LB_set S (g := D) rfl A true (by rw [visB_len]; exact hA)).swap
      rw [visB_set] at S3
      have hnl : (nearL xs on).length ≤ 1000000000 := by rw [nearL_len]; omega
      have NX : RowKit.Hid (nearL xs on ++ [(A : Int)] = nearL xs (on + 1)) := by show _ = _; rw [nearL, ← HAT.out]
      clear S HDN HDC hz hAT
      go_wp2_with (at_builtin; refine wpList_app1 LI_info rfl _ _ rfl S3 (A : Int) #[.int .i64 A] rfl rfl (by simp [Act.eval]) hnl ?_; intro v' w5 S4; rw [NX.out] at S4; clear S3)
      obtain ⟨oa2, on2, oc2, rfl, hoc2, hom2, HON2, -⟩ := LI_own S4
      obtain rfl : on2 = on + 1 := by have := HON2.out; rw [nearL_len] at this; exact this
      obtain ⟨b, off, p, rfl, hb, hp, p0, p1⟩ := HC.out A hA
      have okp := Lib.hid (pt_at HP.out hp.out)
      have hpl := Lib.hid (ptOf_at hp.out)
      have SH := Lib.hid S4.swap
      have NXT := Lib.hid (nearNext_eq xs on)
      have NAT : RowKit.Hid (∀ (h : on + 1 < n), 0 ≤ nearNext xs (nearL xs (on + 1)) ∧ nearNext xs (nearL xs (on + 1)) < n) := by
        intro h
        have := nearL_at (xs := xs) (on + 1) (by have := HN.out; omega)
        have := HN.out
        omega
      clear S4 HON HON2 hcz hfz
      go_loopw [6, 7] (fun b6 i wr => ∃ (k : Nat) (B : Int), k ≤ n ∧ i = .int .i64 k ∧ b6 = .int .i64 B ∧ -1 ≤ B ∧ B < k ∧ RowKit.Hid (B = bestTo xs (nearL xs (on + 1)) A k) ∧ w5.grownBy wr none) (fun _ i _ => n - (intOf i).toNat)
      case atStart => exact ⟨0, -1, by omega, rfl, rfl, by omega, by omega, rfl, World.grownBy.refl _ _⟩
      case round =>
        obtain ⟨k, B, hk, rfl, rfl, hB0, hB1, HBB, hg⟩ := hrel
        have S := SH.out.grow hg
        by_cases hlt2 : k < n
        rotate_left
        · obtain rfl : k = n := by omega
          have HB3 : RowKit.Hid (B = nearNext xs (nearL xs (on + 1))) := by
            show _ = _
            rw [NXT.out, ← HAT.out, HBB.out, HN.out]
          have HB4 : on + 1 < k → 0 ≤ B ∧ B < k := by intro h; have := NAT.out h; rw [← HB3.out] at this; exact this
          clear NAT NXT
          go_wp2
          go_roundw
          case rel => exact ⟨on + 1, B, by omega, rfl, HB4, HB3, S⟩
          case measure => (simp; try omega)
        obtain ⟨b2, off2, pk, hbo, hb2, hpk, k0, k1⟩ := HC.out k hlt2
        obtain ⟨rfl, rfl⟩ : b = b2 ∧ off = off2 := by simpa using hbo
        have k0' := gb_cell S.gb k0 (by simp)
        have k1' := gb_cell S.gb k1 (by simp)
        have p0' := gb_cell S.gb p0 (by simp)
        have p1' := gb_cell S.gb p1 (by simp)
        have okk := Lib.hid (pt_at HP.out hpk.out)
        have hki : (k : Int) < (n : Int) := by omega
        obtain ⟨da, dn', dc, hdv, -, -, HDN, HDC⟩ := LB_own S
        simp only [Value.slice.injEq] at hdv
        obtain ⟨rfl, rfl, rfl⟩ := hdv
        obtain ⟨g, z, hga, -, -, hz, hcz, -⟩ := HDC.out k hlt2
        simp only [Option.some.injEq, Addr.mk.injEq, and_true] at hga
        subst hga
        have hzz : z = hasB (nearL xs (on + 1)) (k : Int) := by
          have := hz.out
          rw [visB_at _ hlt2] at this
          exact (Option.some.inj this).symm
        have d0 := qcell hcz
        have d1 := qcell p0'
        have d2 := qcell p1'
        have d3 := qcell k0'
        have d4 := qcell k1'
        clear HDC HDN hz hcz hbo
        cases z with
        | true =>
          have HB2 : RowKit.Hid (B = bestTo xs (nearL xs (on + 1)) A (k + 1)) := by show _ = _; rw [bestTo_seen (hasB_t.1 hzz.symm), HBB.out]
          clear HBB hzz
          go_wp2
          (refine wp_region_quiet_below (by kernel_rfl) (by kernel_rfl) ?_; (repeat (go_big_quiet_step (fail))); refine wpQuiet_nil ?_; intro _ hw'; obtain ⟨⟨dq, osq⟩, hw''⟩ := hw'; subst hw'')
          have HQ := gb_trans hg (qg wr dq osq)
          go_wp2
          go_roundw
          case rel => exact ⟨k + 1, B, by omega, by go_num, rfl, by omega, by omega, HB2, HQ⟩
          case measure => (simp [intOf]; try omega)
        | false =>
          by_cases hneg : B < 0
          · have HB2 : RowKit.Hid ((k : Int) = bestTo xs (nearL xs (on + 1)) A (k + 1)) := by show _ = _; rw [bestTo_first (hasB_f.1 hzz.symm) (by rw [← HBB.out]; exact hneg)]
            clear HBB hzz
            go_wp2
            (refine wp_region_quiet_below (by kernel_rfl) (by kernel_rfl) ?_; (repeat (go_big_quiet_step (fail))); refine wpQuiet_nil ?_; intro _ hw'; obtain ⟨⟨dq, osq⟩, hw''⟩ := hw'; subst hw'')
            have HQ := gb_trans hg (qg wr dq osq)
            go_wp2
            go_roundw
            case rel => exact ⟨k + 1, k, by omega, by go_num, rfl, by omega, by omega, HB2, HQ⟩
            case measure => (simp [intOf]; try omega)
          · obtain ⟨BI, rfl⟩ : ∃ BI : Nat, B = (BI : Int) := ⟨B.toNat, by omega⟩
            have hBn : BI < n := by omega
            have hBi : (BI : Int) < (n : Int) := by omega
            have hB0' : (0 : Int) ≤ (BI : Int) := by omega
            have hdn : decide ((BI : Int) < 0) = false := by simp
            obtain ⟨b3, off3, pb, hbo, hb3, hpb, j0, j1⟩ := HC.out BI hBn
            obtain ⟨rfl, rfl⟩ : b = b3 ∧ off = off3 := by simpa using hbo
            have okb := Lib.hid (pt_at HP.out hpb.out)
            obtain ⟨S1, hS1⟩ : ∃ S1, S1 = stp p pk := ⟨_, rfl⟩
            obtain ⟨S2, hS2⟩ : ∃ S2, S2 = stp p pb := ⟨_, rfl⟩
            have C1 : RowKit.Hid (∀ W, Calls Try.prog 53 #[.agg #[.int .i64 p.X, .int .i64 p.Y], .agg #[.int .i64 pk.X, .int .i64 pk.Y]] W fun e w' => e = .returned (.int .i64 S1) ∧ W.grownBy w' none) := by
              rw [hS1]; exact fun W => s_step p pk W okp.out okk.out
            have C2 : RowKit.Hid (∀ W, Calls Try.prog 53 #[.agg #[.int .i64 p.X, .int .i64 p.Y], .agg #[.int .i64 pb.X, .int .i64 pb.Y]] W fun e w' => e = .returned (.int .i64 S2) ∧ W.grownBy w' none) := by
              rw [hS2]; exact fun W => s_step p pb W okp.out okb.out
            have o0 := qcell (gb_cell S.gb j0 (by simp))
            have o1 := qcell (gb_cell S.gb j1 (by simp))
            have e1 : stp (ptOf xs A) (ptOf xs k) = S1 := by rw [hpl.out, ptOf_at hpk.out, hS1]
            have e2 : stp (ptOf xs A) (ptOf xs (bestTo xs (nearL xs (on + 1)) A k)) = S2 := by rw [← HBB.out, hpl.out, ptOf_at hpb.out, hS2]
            by_cases hss : S1 < S2
            · have HB2 : RowKit.Hid ((k : Int) = bestTo xs (nearL xs (on + 1)) A (k + 1)) := by show _ = _; rw [bestTo_less (hasB_f.1 hzz.symm) (by rw [e1, e2]; exact hss)]
              clear HBB hzz hS1 hS2 e1 e2 j0 j1
              go_wp2
              (refine wp_region_quiet_below (by kernel_rfl) (by kernel_rfl) ?_; (repeat (go_big_quiet_step ((first | (with_reducible exact qc (C1.out _)) | (with_reducible exact qc (C2.out _)))))); refine wpQuiet_nil ?_; intro _ hw'; obtain ⟨⟨dq, osq⟩, hw''⟩ := hw'; subst hw'')
              have HQ := gb_trans hg (qg wr dq osq)
              go_wp2
              go_roundw
              case rel => exact ⟨k + 1, k, by omega, by go_num, rfl, by omega, by omega, HB2, HQ⟩
              case measure => (simp [intOf]; try omega)
            · have hds : decide (S1 < S2) = false := by simpa using hss
              have HB2 : RowKit.Hid ((BI : Int) = bestTo xs (nearL xs (on + 1)) A (k + 1)) := by show _ = _; rw [bestTo_more (by rw [← HBB.out]; exact hneg) (by rw [e1, e2]; exact hss), HBB.out]
              clear HBB hzz hS1 hS2 e1 e2 j0 j1
              go_wp2
              (refine wp_region_quiet_below (by kernel_rfl) (by kernel_rfl) ?_; (repeat (go_big_quiet_step ((first | (with_reducible exact qc (C1.out _)) | (with_reducible exact qc (C2.out _)))))); refine wpQuiet_nil ?_; intro _ hw'; obtain ⟨⟨dq, osq⟩, hw''⟩ := hw'; subst hw'')
              have HQ := gb_trans hg (qg wr dq osq)
              go_wp2
              go_roundw
              case rel => exact ⟨k + 1, BI, by omega, by go_num, rfl, by omega, by omega, HB2, HQ⟩
              case measure => (simp [intOf]; try omega)
end Go.Proofs.Ythkleabdnjhniaa
