/-
  ProgramValid, both programs: the walk over the commands.
-/
import Derived.Test.YtbhelobahfgaeaaDoorCmdRule
namespace Go.Proofs.YtbhelobahfgaeaaDoor
open Go Go.RowKit
set_option maxHeartbeats 2000000 in
theorem i_ProgramValid (v : Value) (xs : List Cmd) (w : World) (hv : Rds LCmd w v xs) :
    Calls Tryd.prog 27 #[v] w fun e w' => e = .returned (.bool (progB xs)) ∧ w.grownBy w' none := by
  obtain ⟨a, n, cap, rfl, h1, hm, HN, HC⟩ := LCmd_get hv
  unfold progB
  rw [← HN.out]
  clear hv
  by_cases h30 : n ≤ 30
  rotate_left
  · have h30' : 30 < (n : Int) := by omega
    go_enter Tryd.func27, Tryd.ntmps27
    go_wp2_with fail
    go_ret
    exact ⟨by simp [h30], World.grownBy.refl _ _⟩
  have h30' : ¬ 30 < (n : Int) := by omega
  rw [decide_eq_true h30, Bool.true_and]
  go_enter Tryd.func27, Tryd.ntmps27
  go_wp2_with fail
  go_loopw [3, 11] (fun dv i wr => ∃ (k : Nat) (d : Int), k ≤ n ∧ i = .int .i64 k ∧ dv = .int .i64 d ∧ 0 ≤ d ∧ d ≤ (k : Int) ∧ RowKit.Hid (progGo (xs.drop k) d = progGo xs 0) ∧ w.grownBy wr none) (fun _ i _ => n - (intOf i).toNat)
  case atStart => exact ⟨0, 0, by omega, rfl, rfl, by omega, by omega, rfl, World.grownBy.refl _ _⟩
  case round =>
    obtain ⟨k, d, hk, rfl, rfl, hd0, hdk, HG, hg⟩ := hrel
    by_cases hlt : k < n
    rotate_left
    · have he : RowKit.Hid (progGo xs 0 = (d == 0)) := by
        show _ = _
        rw [← HG.out, List.drop_of_length_le (by rw [← HN.out]; omega)]; rfl
      clear HG
      by_cases hz : d = 0
      · subst hz
        go_wp2_with fail
        go_ret
        exact ⟨by rw [he.out]; rfl, hg⟩
      · have e1 : (d == 0) = false := beq_eq_false_iff_ne.2 hz
        rw [e1] at he
        go_wp2_with fail
        go_ret
        exact ⟨by rw [he.out]; rfl, hg⟩
    obtain ⟨b, off, c, rfl, hb, hx, c0, c1, c2⟩ := HC.out k hlt
    have hlt' : (k : Int) < (n : Int) := by omega
    have c0' := gb_cell hg c0 (by simp)
    have c1' := gb_cell hg c1 (by simp)
    have c2' := gb_cell hg c2 (by simp)
    have hs := progGo_step hx.out d
    rw [HG.out] at hs
    obtain ⟨K, A, B⟩ := c
    dsimp only at c0' c1' c2'
    clear HG hx c0 c1 c2
    have g0 := gb_alloc hg (.cells #[.int .i64 K, .int .i64 A, .int .i64 B] 47)
    have H := i_cmd ⟨K, A, B⟩ (wr.alloc (.cells #[.int .i64 K, .int .i64 A, .int .i64 B] 47))
    dsimp only at H
    have d0 : (wr.alloc (.cells #[.int .i64 K, .int .i64 A, .int .i64 B] 47)).cell? ⟨wr.heap.size, 0, none⟩ = some (.int .i64 K) := by simp [go_sem]
    cases hq : cmdB ⟨K, A, B⟩ with
    | false =>
      rw [hq] at H hs
      rw [Bool.false_and] at hs
      have he := Lib.hid hs
      clear hs hq
      go_wp2_with fail
      refine H.mono ?_
      rintro e w1 ⟨rfl, g1⟩
      have d0' := gb_cell g1 d0 (by simp)
      have G := gb_trans g0 g1
      clear d0 c0' c1' c2' H g0 g1
      go_wp2_with fail
      go_ret
      exact ⟨by rw [he.out]; rfl, G⟩
    | true =>
    rw [hq] at H hs
    rw [Bool.true_and] at hs
    have HS := Lib.hid hs
    clear hs hq
    go_wp2_with fail
    refine H.mono ?_
    rintro e w1 ⟨rfl, g1⟩
    have d0' := gb_cell g1 d0 (by simp)
    have G := gb_trans g0 g1
    clear d0 c0' c1' c2' H g0 g1
    by_cases k5 : K = 5
    · subst k5
      have hd : dep ⟨5, A, B⟩ d = d + 1 := rfl
      have HG : RowKit.Hid (progGo (xs.drop (k + 1)) (d + 1) = progGo xs 0) := by
        have := HS.out
        rw [hd, decide_eq_false (by omega)] at this
        exact this.symm
      clear HS hd
      go_wp2_with fail
      go_roundw
      case rel => exact ⟨k + 1, d + 1, by omega, by go_num, by go_num, by omega, by omega, HG, G⟩
      case measure => simp [intOf]; omega
    have e5 : (K == 5) = false := beq_eq_false_iff_ne.2 k5
    by_cases k6 : K = 6
    · subst k6
      have hd : dep ⟨6, A, B⟩ d = d - 1 := rfl
      by_cases hneg : d - 1 < 0
      · have he : RowKit.Hid (progGo xs 0 = false) := by
          show _ = _
          rw [HS.out, hd, decide_eq_true hneg]; rfl
        clear HS hd
        go_wp2_with fail
        go_ret
        exact ⟨by rw [he.out]; rfl, G⟩
      · have HG : RowKit.Hid (progGo (xs.drop (k + 1)) (d - 1) = progGo xs 0) := by
          have := HS.out
          rw [hd, decide_eq_false hneg] at this
          exact this.symm
        clear HS hd
        go_wp2_with fail
        go_roundw
        case rel => exact ⟨k + 1, d - 1, by omega, by go_num, by go_num, by omega, by omega, HG, G⟩
        case measure => simp [intOf]; omega
    have e6 : (K == 6) = false := beq_eq_false_iff_ne.2 k6
    have hd : dep ⟨K, A, B⟩ d = d := by simp [dep, k5, k6]
    have HG : RowKit.Hid (progGo (xs.drop (k + 1)) d = progGo xs 0) := by
      have := HS.out
      rw [hd, decide_eq_false (by omega)] at this
      exact this.symm
    have hdn : ¬ d < 0 := by omega
    clear HS hd
    go_wp2_with fail
    go_roundw
    case rel => exact ⟨k + 1, d, by omega, by go_num, by go_num, by omega, by omega, HG, G⟩
    case measure => simp [intOf]; omega
set_option maxHeartbeats 2000000 in
theorem s_ProgramValid (v : Value) (xs : List Cmd) (w : World) (hv : Rds LCmd w v xs) :
    Calls Tryd.prog 11 #[v] w fun e w' => e = .returned (.bool (progB xs)) ∧ w.grownBy w' none := by
  obtain ⟨a, n, cap, rfl, h1, hm, HN, HC⟩ := LCmd_get hv
  unfold progB
  rw [← HN.out]
  clear hv
  go_enter Tryd.func11, Tryd.ntmps11
  go_wp2_with fail
  go_loopw [3, 4] (fun dv i wr => ∃ (k : Nat) (d : Int), k ≤ n ∧ i = .int .i64 k ∧ dv = .int .i64 d ∧ 0 ≤ d ∧ d ≤ (k : Int) ∧ RowKit.Hid (progGo (xs.drop k) d = progGo xs 0) ∧ w.grownBy wr none) (fun _ i _ => n - (intOf i).toNat)
  case atStart => exact ⟨0, 0, by omega, rfl, rfl, by omega, by omega, rfl, World.grownBy.refl _ _⟩
  case round =>
    obtain ⟨k, d, hk, rfl, rfl, hd0, hdk, HG, hg⟩ := hrel
    by_cases hlt : k < n
    rotate_left
    · have he : RowKit.Hid (progGo xs 0 = (d == 0)) := by
        show _ = _
        rw [← HG.out, List.drop_of_length_le (by rw [← HN.out]; omega)]; rfl
      clear HG
      by_cases hz : d = 0
      · subst hz
        by_cases h30 : n ≤ 30
        · have h30' : (n : Int) ≤ 30 := by omega
          go_wp2_with fail
          go_ret
          exact ⟨by rw [he.out]; simp [h30], hg⟩
        · have h30' : ¬ (n : Int) ≤ 30 := by omega
          go_wp2_with fail
          go_ret
          exact ⟨by simp [h30], hg⟩
      · have e1 : (d == 0) = false := beq_eq_false_iff_ne.2 hz
        rw [e1] at he
        go_wp2_with fail
        go_ret
        exact ⟨by rw [he.out]; simp, hg⟩
    obtain ⟨b, off, c, rfl, hb, hx, c0, c1, c2⟩ := HC.out k hlt
    have hlt' : (k : Int) < (n : Int) := by omega
    have c0' := gb_cell hg c0 (by simp)
    have c1' := gb_cell hg c1 (by simp)
    have c2' := gb_cell hg c2 (by simp)
    have hs := progGo_step hx.out d
    rw [HG.out] at hs
    obtain ⟨K, A, B⟩ := c
    dsimp only at c0' c1' c2'
    clear HG hx c0 c1 c2
    have H := s_cmd ⟨K, A, B⟩ wr
    dsimp only at H
    cases hq : cmdB ⟨K, A, B⟩ with
    | false =>
      rw [hq] at H hs
      rw [Bool.false_and] at hs
      have he := Lib.hid hs
      clear hs hq
      go_wp2_with fail
      refine H.mono ?_
      rintro e w1 ⟨rfl, g1⟩
      have d0' := gb_cell g1 c0' (by simp)
      have G := gb_trans hg g1
      clear c0' c1' c2' H g1
      go_wp2_with fail
      go_ret
      exact ⟨by rw [he.out]; simp, G⟩
    | true =>
    rw [hq] at H hs
    rw [Bool.true_and] at hs
    have HS := Lib.hid hs
    clear hs hq
    go_wp2_with fail
    refine H.mono ?_
    rintro e w1 ⟨rfl, g1⟩
    have d0' := gb_cell g1 c0' (by simp)
    have G := gb_trans hg g1
    clear c0' c1' c2' H g1
    by_cases k5 : K = 5
    · subst k5
      have hd : dep ⟨5, A, B⟩ d = d + 1 := rfl
      have HG : RowKit.Hid (progGo (xs.drop (k + 1)) (d + 1) = progGo xs 0) := by
        have := HS.out
        rw [hd, decide_eq_false (by omega)] at this
        exact this.symm
      clear HS hd
      go_wp2_with fail
      go_roundw
      case rel => exact ⟨k + 1, d + 1, by omega, by go_num, by go_num, by omega, by omega, HG, G⟩
      case measure => simp [intOf]; omega
    have e5 : (K == 5) = false := beq_eq_false_iff_ne.2 k5
    by_cases k6 : K = 6
    · subst k6
      have hd : dep ⟨6, A, B⟩ d = d - 1 := rfl
      by_cases hneg : d - 1 < 0
      · have he : RowKit.Hid (progGo xs 0 = false) := by
          show _ = _
          rw [HS.out, hd, decide_eq_true hneg]; rfl
        clear HS hd
        go_wp2_with fail
        go_ret
        exact ⟨by rw [he.out]; simp, G⟩
      · have HG : RowKit.Hid (progGo (xs.drop (k + 1)) (d - 1) = progGo xs 0) := by
          have := HS.out
          rw [hd, decide_eq_false hneg] at this
          exact this.symm
        clear HS hd
        go_wp2_with fail
        go_roundw
        case rel => exact ⟨k + 1, d - 1, by omega, by go_num, by go_num, by omega, by omega, HG, G⟩
        case measure => simp [intOf]; omega
    have e6 : (K == 6) = false := beq_eq_false_iff_ne.2 k6
    have hd : dep ⟨K, A, B⟩ d = d := by simp [dep, k5, k6]
    have HG : RowKit.Hid (progGo (xs.drop (k + 1)) d = progGo xs 0) := by
      have := HS.out
      rw [hd, decide_eq_false (by omega)] at this
      exact this.symm
    have hdn : ¬ d < 0 := by omega
    clear HS hd
    go_wp2_with fail
    go_roundw
    case rel => exact ⟨k + 1, d, by omega, by go_num, by go_num, by omega, by omega, HG, G⟩
    case measure => simp [intOf]; omega
end Go.Proofs.YtbhelobahfgaeaaDoor
