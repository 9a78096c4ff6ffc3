/-
  ErodeImage: both programs give the picture whose samples have all four neighbours.
-/
import Derived.Test.YtpkcpkhanodnmaaPix
namespace Go.Proofs.Ytpkcpkhanodnmaa
open Go Go.RowKit
/-- The sample behind erosion. -/
def er (ys : List (List Bool)) (y x : Nat) : Bool := pix ys x y && pix ys ((x : Int) - 1) y && pix ys ((x : Int) + 1) y && pix ys x ((y : Int) - 1) && pix ys x ((y : Int) + 1)
def erRow (ys : List (List Bool)) (y : Nat) : List Bool := (List.range (ys.headD []).length).map (er ys y)
noncomputable def erode (ys : List (List Bool)) : List (List Bool) := if imgB ys then (List.range ys.length).map (erRow ys) else []
theorem erode_no {ys : List (List Bool)} (h : imgB ys = false) : erode ys = [] := by unfold erode; rw [h]; rfl
theorem erode_yes {ys : List (List Bool)} (h : imgB ys = true) : erode ys = (List.range ys.length).map (erRow ys) := by unfold erode; rw [h]; rfl
theorem erode_len {ys : List (List Bool)} (h : imgOk ys) : (erode ys).length = ys.length := by rw [erode_yes (imgB_t.2 h)]; simp
theorem total_map {γ : Type} (f : Nat → List γ) (W n : Nat) (h : ∀ k, (f k).length = W) : total ((List.range n).map f) = n * W := by
  induction n with
  | zero => simp [total]
  | succ n ih => rw [List.range_succ, List.map_append, List.map_cons, List.map_nil, total_snoc, ih, h, Nat.add_mul]; omega
theorem imgOk_size {ys : List (List Bool)} (h : imgOk ys) : ys.length ≤ 16 ∧ (ys.headD []).length ≤ 16 := by
  refine ⟨h.2.1, ?_⟩
  cases ys with
  | nil => simp
  | cons y ys => exact (h.2.2 0 y rfl).2.1
theorem erode_tot (ys : List (List Bool)) : total (erode ys) ≤ 1000 := by
  by_cases h : imgB ys = true
  · rw [erode_yes h, total_map (erRow ys) (ys.headD []).length _ (by simp [erRow])]
    obtain ⟨h1, h2⟩ := imgOk_size (imgB_t.1 h)
    have := Nat.mul_le_mul h1 h2
    omega
  · rw [erode_no (by simpa using h)]
    simp [total]
/-- The first samples of a row; the first rows. -/
def erTo (ys : List (List Bool)) (y j : Nat) : List Bool := (List.range j).map (er ys y)
theorem erTo_len (ys : List (List Bool)) (y j : Nat) : (erTo ys y j).length = j := by simp [erTo]
theorem erTo_succ (ys : List (List Bool)) (y j : Nat) : erTo ys y (j + 1) = erTo ys y j ++ [er ys y j] := by simp [erTo, List.range_succ]
def erTop (ys : List (List Bool)) (k : Nat) : List (List Bool) := (List.range k).map (erRow ys)
theorem erTop_len (ys : List (List Bool)) (k : Nat) : (erTop ys k).length = k := by simp [erTop]
theorem erTop_succ (ys : List (List Bool)) (k : Nat) : erTop ys (k + 1) = erTop ys k ++ [erRow ys k] := by simp [erTop, List.range_succ]
set_option maxHeartbeats 4000000 in
theorem i_ErodeImage (v : Value) (ys : List (List Bool)) (w : World) (hv : DRds LSB DB w v ys) :
    Calls Try.prog 27 #[v] w fun e w' => ∃ r, e = .returned r ∧ St w w' [DOwn LSB DB r (erode ys)] := by
  have hI := i_ImageValid v ys w hv
  cases hB : imgB ys with
  | false =>
    rw [hB] at hI
    rw [erode_no hB]
    have hI' := Lib.hid hI
    clear hI hB
    go_enter Try.func27, Try.ntmps27
    go_wp2_with (go_at_call 21; refine (hI'.out).mono ?_; rintro e w1 ⟨rfl, g1⟩)
    go_ret
    exact ⟨_, rfl, ((St.refl w).grow g1).downNil⟩
  | true =>
    rw [hB] at hI
    have hI' := Lib.hid hI
    have hok := Lib.hid (imgB_t.1 hB)
    rw [erode_yes hB]
    clear hI hB
    obtain ⟨a, n, cap, rfl, h1, hm, HN, HC⟩ := hv.rows
    have hn16 : n ≤ 16 := by have := HN.out; have := hok.out.2.1; omega
    obtain ⟨W, hW⟩ : ∃ W, W = (ys.headD []).length := ⟨_, rfl⟩
    have HW := Lib.hid hW
    have hW16 : W ≤ 16 := by have := (imgOk_size hok.out).2; omega
    clear hW
    go_enter Try.func27, Try.ntmps27
    go_wp2_with (go_at_call 21; refine (hI'.out).mono ?_; rintro e w1 ⟨rfl, g1⟩)
    have S0 : St w w1 [DOwn LSB DB (.slice none 0 0) (erTop ys 0)] := ((St.refl w).grow g1).downNil
    clear g1
    go_loopw [3, 4, 5, 6, 7, 13, 20] (fun o _ _ _ _ i _ wr => ∃ k : Nat, k ≤ n ∧ i = .int .i64 k ∧ St w wr [DOwn LSB DB o (erTop ys k)]) (fun _ _ _ _ _ i _ _ => n - (intOf i).toNat)
    case atStart => exact ⟨0, by omega, rfl, S0⟩
    case round =>
      obtain ⟨k, hk, rfl, S⟩ := hrel
      by_cases hlt : k < n
      rotate_left
      · obtain rfl : k = n := by omega
        have e : RowKit.Hid (erTop ys k = (List.range ys.length).map (erRow ys)) := by show _ = _; rw [HN.out]; rfl
        rw [e.out] at S
        clear e
        go_wp2
        go_ret
        exact ⟨_, rfl, S⟩
      obtain ⟨b, off, ra, rn, rc, r, rfl, hb, hy, hrn, hrc, hrm, hrd, hc⟩ := HC.out k hlt
      have hrW : RowKit.Hid (rn = W) := by show rn = W; rw [hrn.out, HW.out]; exact imgOk_row hok.out hy.out
      have hr16 : rn ≤ 16 := by have := hrW.out; omega
      have hc' := gb_cell S.gb hc (by simp)
      clear hc hrd hrn hy
      go_wp2_with fail
      have S1 : St w wr (Own LB (.slice none 0 0) (erTo ys k 0) :: [DOwn LSB DB u3 (erTop ys k)]) := S.ownNil LB
      clear S
      obtain ⟨o, rfl⟩ : ∃ o, o = u3 := ⟨_, rfl⟩
      go_loopw [6, 7, 20] (fun u _ i wr => ∃ j : Nat, j ≤ rn ∧ i = .int .i64 j ∧ St w wr (Own LB u (erTo ys k j) :: [DOwn LSB DB o (erTop ys k)])) (fun _ _ i _ => rn - (intOf i).toNat)
      case atStart => exact ⟨0, by omega, rfl, S1⟩
      case round =>
        obtain ⟨j, hj, rfl, S'⟩ := hrel
        clear S1 hc'
        by_cases hlt2 : j < rn
        rotate_left
        · obtain rfl : j = rn := by omega
          have e : RowKit.Hid (erTo ys k j = erRow ys k) := by show _ = _; rw [hrW.out, HW.out]; rfl
          rw [e.out] at S'
          obtain ⟨ua, un, uc, rfl, -⟩ := (St.own S').slice
          have S2 := S'.swap
          clear e S'
          go_wp2_with (at_builtin; refine wpList_drow1 LSB_info rfl _ _ rfl S2 rfl rfl (by rw [erTop_len]; omega) ?_; intro v' w2 S3)
          rw [← erTop_succ] at S3
          go_roundw
          case rel => exact ⟨k + 1, by omega, by go_num, S3⟩
          case measure => simp [intOf]; omega
        have hrd0 := S'.drdsOld hv
        obtain ⟨u, rfl⟩ : ∃ u, u = u6 := ⟨_, rfl⟩
        cases e1 : pix ys (j : Int) (k : Int) with
        | false =>
          have ee : RowKit.Hid (er ys k j = false) := by show er ys k j = false; simp only [er, e1, Bool.and_true, Bool.true_and, Bool.and_false, Bool.false_and]
          have S2 : St w wr (Own LB u (erTo ys k j) :: DOwn LSB DB o (erTop ys k) :: []) := S'
          clear S'
          go_wp2_with (first | (go_at_call 55; refine (sample_s _ ys _ _ _ hrd0).mono ?_; rintro e w' ⟨rfl, rfl⟩) | (at_builtin; refine wpList_app1 LB_info rfl _ _ rfl S2 false #[.bool false] rfl rfl rfl (by rw [erTo_len]; omega) ?_; intro v' w2 S3))
          rw [← ee.out, ← erTo_succ] at S3
          go_roundw
          case rel => exact ⟨j + 1, by omega, by go_num, S3⟩
          case measure => simp [intOf]; omega
        | true =>
          cases e2 : pix ys ((j : Int) - 1) (k : Int) with
          | false =>
            have ee : RowKit.Hid (er ys k j = false) := by show er ys k j = false; simp only [er, e1, e2, Bool.and_true, Bool.true_and, Bool.and_false, Bool.false_and]
            have S2 : St w wr (Own LB u (erTo ys k j) :: DOwn LSB DB o (erTop ys k) :: []) := S'
            clear S'
            go_wp2_with (first | (go_at_call 55; refine (sample_s _ ys _ _ _ hrd0).mono ?_; rintro e w' ⟨rfl, rfl⟩) | (at_builtin; refine wpList_app1 LB_info rfl _ _ rfl S2 false #[.bool false] rfl rfl rfl (by rw [erTo_len]; omega) ?_; intro v' w2 S3))
            rw [← ee.out, ← erTo_succ] at S3
            go_roundw
            case rel => exact ⟨j + 1, by omega, by go_num, S3⟩
            case measure => simp [intOf]; omega
          | true =>
            cases e3 : pix ys ((j : Int) + 1) (k : Int) with
            | false =>
              have ee : RowKit.Hid (er ys k j = false) := by show er ys k j = false; simp only [er, e1, e2, e3, Bool.and_true, Bool.true_and, Bool.and_false, Bool.false_and]
              have S2 : St w wr (Own LB u (erTo ys k j) :: DOwn LSB DB o (erTop ys k) :: []) := S'
              clear S'
              go_wp2_with (first | (go_at_call 55; refine (sample_s _ ys _ _ _ hrd0).mono ?_; rintro e w' ⟨rfl, rfl⟩) | (at_builtin; refine wpList_app1 LB_info rfl _ _ rfl S2 false #[.bool false] rfl rfl rfl (by rw [erTo_len]; omega) ?_; intro v' w2 S3))
              rw [← ee.out, ← erTo_succ] at S3
              go_roundw
              case rel => exact ⟨j + 1, by omega, by go_num, S3⟩
              case measure => simp [intOf]; omega
            | true =>
              cases e4 : pix ys (j : Int) ((k : Int) - 1) with
              | false =>
                have ee : RowKit.Hid (er ys k j = false) := by show er ys k j = false; simp only [er, e1, e2, e3, e4, Bool.and_true, Bool.true_and, Bool.and_false, Bool.false_and]
                have S2 : St w wr (Own LB u (erTo ys k j) :: DOwn LSB DB o (erTop ys k) :: []) := S'
                clear S'
                go_wp2_with (first | (go_at_call 55; refine (sample_s _ ys _ _ _ hrd0).mono ?_; rintro e w' ⟨rfl, rfl⟩) | (at_builtin; refine wpList_app1 LB_info rfl _ _ rfl S2 false #[.bool false] rfl rfl rfl (by rw [erTo_len]; omega) ?_; intro v' w2 S3))
                rw [← ee.out, ← erTo_succ] at S3
                go_roundw
                case rel => exact ⟨j + 1, by omega, by go_num, S3⟩
                case measure => simp [intOf]; omega
              | true =>
                cases e5 : pix ys (j : Int) ((k : Int) + 1) with
                | false =>
                  have ee : RowKit.Hid (er ys k j = false) := by show er ys k j = false; simp only [er, e1, e2, e3, e4, e5, Bool.and_true, Bool.true_and, Bool.and_false, Bool.false_and]
                  have S2 : St w wr (Own LB u (erTo ys k j) :: DOwn LSB DB o (erTop ys k) :: []) := S'
                  clear S'
                  go_wp2_with (first | (go_at_call 55; refine (sample_s _ ys _ _ _ hrd0).mono ?_; rintro e w' ⟨rfl, rfl⟩) | (at_builtin; refine wpList_app1 LB_info rfl _ _ rfl S2 false #[.bool false] rfl rfl rfl (by rw [erTo_len]; omega) ?_; intro v' w2 S3))
                  rw [← ee.out, ← erTo_succ] at S3
                  go_roundw
                  case rel => exact ⟨j + 1, by omega, by go_num, S3⟩
                  case measure => simp [intOf]; omega
                | true =>
                  have ee : RowKit.Hid (er ys k j = true) := by show er ys k j = true; simp only [er, e1, e2, e3, e4, e5, Bool.and_true, Bool.true_and, Bool.and_false, Bool.false_and]
                  have S2 : St w wr (Own LB u (erTo ys k j) :: DOwn LSB DB o (erTop ys k) :: []) := S'
                  clear S'
                  go_wp2_with (first | (go_at_call 55; refine (sample_s _ ys _ _ _ hrd0).mono ?_; rintro e w' ⟨rfl, rfl⟩) | (at_builtin; refine wpList_app1 LB_info rfl _ _ rfl S2 true #[.bool true] rfl rfl rfl (by rw [erTo_len]; omega) ?_; intro v' w2 S3))
                  rw [← ee.out, ← erTo_succ] at S3
                  go_roundw
                  case rel => exact ⟨j + 1, by omega, by go_num, S3⟩
                  case measure => simp [intOf]; omega
set_option maxHeartbeats 4000000 in
theorem s_ErodeImage (v : Value) (ys : List (List Bool)) (w : World) (hv : DRds LSB DB w v ys) :
    Calls Try.prog 26 #[v] w fun e w' => ∃ r, e = .returned r ∧ St w w' [DOwn LSB DB r (erode ys)] := by
  have HI : RowKit.Hid (∀ wr, DRds LSB DB wr v ys → Calls Try.prog 19 #[v] wr fun e w' => e = .returned (.bool (imgB ys)) ∧ wr.grownBy w' none) := fun wr h => s_ImageValid v ys wr h
  have S0 : St w (w.alloc (.cells #[] 39)) [DOwn LSB DB (.slice (some ⟨w.heap.size, 0, none⟩) 0 0) []] := (St.refl w).downEmpty (L := LSB) (D := DB)
  cases hB : imgB ys with
  | false =>
    rw [hB] at HI
    rw [erode_no hB]
    clear hB
    go_enter Try.func26, Try.ntmps26
    go_wp2_with fail
    go_loopw [3, 4, 5, 6] (fun o i _ _ wr => i = .int .i64 0 ∧ St w wr [DOwn LSB DB o []]) (fun _ _ _ _ _ => 0)
    case atStart => exact ⟨rfl, S0⟩
    case round =>
      obtain ⟨rfl, S⟩ := hrel
      have hr := S.drdsOld hv
      clear S0
      go_wp2_with (go_at_call 19; refine (HI.out _ hr).mono ?_; rintro e w1 ⟨rfl, g1⟩)
      go_ret
      exact ⟨_, rfl, S.grow g1⟩
  | true =>
    rw [hB] at HI
    have hok := Lib.hid (imgB_t.1 hB)
    rw [erode_yes hB]
    clear hB
    have hv0 := hv
    obtain ⟨a, n, cap, rfl, h1, hm, HN, HC⟩ := hv.rows
    have hn16 : n ≤ 16 := by have := HN.out; have := hok.out.2.1; omega
    have hn1 : 0 < n := by have := HN.out; have := hok.out.1; omega
    have hn1' : (0 : Int) < n := by omega
    obtain ⟨W, hW⟩ : ∃ W, W = (ys.headD []).length := ⟨_, rfl⟩
    have HW := Lib.hid hW
    have hW16 : W ≤ 16 := by have := (imgOk_size hok.out).2; omega
    obtain ⟨b, off, ra0, rn0, rc0, r0, rfl, hb0, hy0, hrn0, hrc0, hrm0, hrd00, c0⟩ := HC.out 0 hn1
    rw [Nat.add_zero] at c0
    obtain rfl : rn0 = W := by rw [hrn0.out, hW]; exact imgOk_row hok.out hy0.out
    clear hW hy0 hrn0 hrd00
    go_enter Try.func26, Try.ntmps26
    go_wp2_with fail
    go_loopw [3, 4, 5, 6] (fun o i _ _ wr => ∃ k : Nat, k ≤ n ∧ i = .int .i64 k ∧ St w wr [DOwn LSB DB o (erTop ys k)]) (fun _ i _ _ _ => n - (intOf i).toNat)
    case atStart => exact ⟨0, by omega, rfl, S0⟩
    case round =>
      obtain ⟨k, hk, rfl, S⟩ := hrel
      have hr := S.drdsOld hv0
      clear S0
      by_cases hlt : k < n
      rotate_left
      · obtain rfl : k = n := by omega
        have e : RowKit.Hid (erTop ys k = (List.range ys.length).map (erRow ys)) := by show _ = _; rw [HN.out]; rfl
        rw [e.out] at S
        clear e
        go_wp2_with (go_at_call 19; refine (HI.out _ hr).mono ?_; rintro e w1 ⟨rfl, g1⟩)
        go_ret
        exact ⟨_, rfl, S.grow g1⟩
      obtain ⟨b', off', ra, rn, rc, r, hab, hb, hy, hrn, hrc, hrm, hrd, hc⟩ := HC.out k hlt
      obtain ⟨rfl, rfl⟩ : b = b' ∧ off = off' := by simpa using hab
      obtain rfl : rn0 = rn := by rw [HW.out, hrn.out]; exact (imgOk_row hok.out hy.out).symm
      obtain ⟨-, HC2⟩ := rds_bool_at hrd
      clear hab hrd hrn
      go_wp2_with (go_at_call 19; refine (HI.out _ hr).mono ?_; rintro e w1 ⟨rfl, g1⟩)
      have S1 : St w (w1.alloc (.cells #[] 4)) (Own LB (.slice (some ⟨w1.heap.size, 0, none⟩) 0 0) (erTo ys k 0) :: [DOwn LSB DB u3 (erTop ys k)]) := (S.grow g1).ownEmpty LB
      clear S g1 hr
      obtain ⟨o, rfl⟩ : ∃ o, o = u3 := ⟨_, rfl⟩
      go_loopw [5, 6] (fun u i wr => ∃ j : Nat, j ≤ rn0 ∧ i = .int .i64 j ∧ St w wr (Own LB u (erTo ys k j) :: [DOwn LSB DB o (erTop ys k)])) (fun _ i _ => rn0 - (intOf i).toNat)
      case atStart => exact ⟨0, by omega, rfl, S1⟩
      case round =>
        obtain ⟨j, hj, rfl, S'⟩ := hrel
        have c0' := gb_cell S'.gb c0 (by simp)
        have hc' := gb_cell S'.gb hc (by simp)
        clear S1
        by_cases hlt2 : j < rn0
        rotate_left
        · obtain rfl : j = rn0 := by omega
          have e : RowKit.Hid (erTo ys k j = erRow ys k) := by show _ = _; rw [HW.out]; rfl
          rw [e.out] at S'
          obtain ⟨ua, un, uc, rfl, -⟩ := (St.own S').slice
          have S2 := S'.swap
          clear e S'
          go_wp2_with (at_builtin; refine wpList_drow1 LSB_info rfl _ _ rfl S2 rfl rfl (by rw [erTop_len]; omega) ?_; intro v' w2 S3)
          rw [← erTop_succ] at S3
          go_roundw
          case rel => exact ⟨k + 1, by omega, by go_num, S3⟩
          case measure => simp [intOf]; omega
        obtain ⟨b2, off2, z, rfl, hb2, hz, hd⟩ := HC2.out j hlt2
        have hd' := gb_cell S'.gb hd (by simp)
        have hrd0 := S'.drdsOld hv0
        have ez : RowKit.Hid (pix ys (j : Int) (k : Int) = z) := pix_at hy.out hz.out
        obtain ⟨u, rfl⟩ : ∃ u, u = u5 := ⟨_, rfl⟩
        cases z with
        | false =>
          have ee : RowKit.Hid (er ys k j = false) := by show er ys k j = false; simp only [er, ez.out, Bool.and_true, Bool.true_and, Bool.and_false, Bool.false_and]
          have S2 : St w wr (Own LB u (erTo ys k j) :: DOwn LSB DB o (erTop ys k) :: []) := S'
          clear S' hd hc c0
          go_wp2_with (first | (go_at_call 54; refine (at_s _ ys _ _ _ hrd0 hok.out).mono ?_; rintro e w' ⟨rfl, rfl⟩) | (at_builtin; refine wpList_app1 LB_info rfl _ _ rfl S2 false #[.bool false] rfl rfl rfl (by rw [erTo_len]; omega) ?_; intro v' w2 S3))
          rw [← ee.out, ← erTo_succ] at S3
          go_roundw
          case rel => exact ⟨j + 1, by omega, by go_num, S3⟩
          case measure => simp [intOf]; omega
        | true =>
          cases e2 : pix ys ((j : Int) - 1) (k : Int) with
          | false =>
            have ee : RowKit.Hid (er ys k j = false) := by show er ys k j = false; simp only [er, ez.out, e2, Bool.and_true, Bool.true_and, Bool.and_false, Bool.false_and]
            have S2 : St w wr (Own LB u (erTo ys k j) :: DOwn LSB DB o (erTop ys k) :: []) := S'
            clear S' hd hc c0
            go_wp2_with (first | (go_at_call 54; refine (at_s _ ys _ _ _ hrd0 hok.out).mono ?_; rintro e w' ⟨rfl, rfl⟩) | (at_builtin; refine wpList_app1 LB_info rfl _ _ rfl S2 false #[.bool false] rfl rfl rfl (by rw [erTo_len]; omega) ?_; intro v' w2 S3))
            rw [← ee.out, ← erTo_succ] at S3
            go_roundw
            case rel => exact ⟨j + 1, by omega, by go_num, S3⟩
            case measure => simp [intOf]; omega
          | true =>
            cases e3 : pix ys ((j : Int) + 1) (k : Int) with
            | false =>
              have ee : RowKit.Hid (er ys k j = false) := by show er ys k j = false; simp only [er, ez.out, e2, e3, Bool.and_true, Bool.true_and, Bool.and_false, Bool.false_and]
              have S2 : St w wr (Own LB u (erTo ys k j) :: DOwn LSB DB o (erTop ys k) :: []) := S'
              clear S' hd hc c0
              go_wp2_with (first | (go_at_call 54; refine (at_s _ ys _ _ _ hrd0 hok.out).mono ?_; rintro e w' ⟨rfl, rfl⟩) | (at_builtin; refine wpList_app1 LB_info rfl _ _ rfl S2 false #[.bool false] rfl rfl rfl (by rw [erTo_len]; omega) ?_; intro v' w2 S3))
              rw [← ee.out, ← erTo_succ] at S3
              go_roundw
              case rel => exact ⟨j + 1, by omega, by go_num, S3⟩
              case measure => simp [intOf]; omega
            | true =>
              cases e4 : pix ys (j : Int) ((k : Int) - 1) with
              | false =>
                have ee : RowKit.Hid (er ys k j = false) := by show er ys k j = false; simp only [er, ez.out, e2, e3, e4, Bool.and_true, Bool.true_and, Bool.and_false, Bool.false_and]
                have S2 : St w wr (Own LB u (erTo ys k j) :: DOwn LSB DB o (erTop ys k) :: []) := S'
                clear S' hd hc c0
                go_wp2_with (first | (go_at_call 54; refine (at_s _ ys _ _ _ hrd0 hok.out).mono ?_; rintro e w' ⟨rfl, rfl⟩) | (at_builtin; refine wpList_app1 LB_info rfl _ _ rfl S2 false #[.bool false] rfl rfl rfl (by rw [erTo_len]; omega) ?_; intro v' w2 S3))
                rw [← ee.out, ← erTo_succ] at S3
                go_roundw
                case rel => exact ⟨j + 1, by omega, by go_num, S3⟩
                case measure => simp [intOf]; omega
              | true =>
                cases e5 : pix ys (j : Int) ((k : Int) + 1) with
                | false =>
                  have ee : RowKit.Hid (er ys k j = false) := by show er ys k j = false; simp only [er, ez.out, e2, e3, e4, e5, Bool.and_true, Bool.true_and, Bool.and_false, Bool.false_and]
                  have S2 : St w wr (Own LB u (erTo ys k j) :: DOwn LSB DB o (erTop ys k) :: []) := S'
                  clear S' hd hc c0
                  go_wp2_with (first | (go_at_call 54; refine (at_s _ ys _ _ _ hrd0 hok.out).mono ?_; rintro e w' ⟨rfl, rfl⟩) | (at_builtin; refine wpList_app1 LB_info rfl _ _ rfl S2 false #[.bool false] rfl rfl rfl (by rw [erTo_len]; omega) ?_; intro v' w2 S3))
                  rw [← ee.out, ← erTo_succ] at S3
                  go_roundw
                  case rel => exact ⟨j + 1, by omega, by go_num, S3⟩
                  case measure => simp [intOf]; omega
                | true =>
                  have ee : RowKit.Hid (er ys k j = true) := by show er ys k j = true; simp only [er, ez.out, e2, e3, e4, e5, Bool.and_true, Bool.true_and, Bool.and_false, Bool.false_and]
                  have S2 : St w wr (Own LB u (erTo ys k j) :: DOwn LSB DB o (erTop ys k) :: []) := S'
                  clear S' hd hc c0
                  go_wp2_with (first | (go_at_call 54; refine (at_s _ ys _ _ _ hrd0 hok.out).mono ?_; rintro e w' ⟨rfl, rfl⟩) | (at_builtin; refine wpList_app1 LB_info rfl _ _ rfl S2 true #[.bool true] rfl rfl rfl (by rw [erTo_len]; omega) ?_; intro v' w2 S3))
                  rw [← ee.out, ← erTo_succ] at S3
                  go_roundw
                  case rel => exact ⟨j + 1, by omega, by go_num, S3⟩
                  case measure => simp [intOf]; omega
end Go.Proofs.Ytpkcpkhanodnmaa
