/-
  LayerFill: both programs give the same share; what the boxes cover.
-/
import Derived.Test.YtbpfihklbmephaaLayer
namespace Go.Proofs.Ytbpfihklbmephaa
open Go Go.RowKit
def areaTo (xs : List Bx) : Nat → Int
  | 0 => 0
  | k + 1 => areaTo xs k + (xs.getD k ⟨0, 0, 0, 0⟩).W * (xs.getD k ⟨0, 0, 0, 0⟩).D
noncomputable def layerFill (pw pd : Int) (xs : List Bx) : Int := if layerB pw pd xs then 1000 * areaTo xs xs.length / (pw * pd) else -1
theorem layerFill_no {pw pd : Int} {xs : List Bx} (h : layerB pw pd xs = false) : layerFill pw pd xs = -1 := by unfold layerFill; rw [h]; rfl
theorem layerFill_yes {pw pd : Int} {xs : List Bx} (h : layerB pw pd xs = true) : layerFill pw pd xs = 1000 * areaTo xs xs.length / (pw * pd) := by unfold layerFill; rw [h]; rfl
theorem box_area {pw pd : Int} {b : Bx} (h1 : 1 ≤ pw ∧ pw ≤ 200) (h2 : 1 ≤ pd ∧ pd ≤ 200) (h : bxIn pw pd b) : 0 ≤ b.W * b.D ∧ b.W * b.D ≤ 40000 := by
  obtain ⟨h3, h4, h5, h6⟩ := h
  have : b.W * b.D ≤ 200 * 200 := Int.mul_le_mul (by omega) (by omega) (by omega) (by omega)
  exact ⟨Int.mul_nonneg (by omega) (by omega), by omega⟩
theorem areaTo_bd {pw pd : Int} {xs : List Bx} (h : layerB pw pd xs = true) : ∀ k, k ≤ xs.length → 0 ≤ areaTo xs k ∧ areaTo xs k ≤ 40000 * (k : Int)
  | 0, _ => by simp [areaTo]
  | k + 1, hk => by
    have ih := areaTo_bd h k (by omega)
    obtain ⟨⟨h1, h2, _⟩, h3, _⟩ := layerB_t.1 h
    have hb := box_area h1 h2 (h3 k _ (List.getElem?_eq_getElem (by omega)))
    have e : xs.getD k ⟨0, 0, 0, 0⟩ = xs[k] := by rw [List.getD_eq_getElem?_getD, List.getElem?_eq_getElem (by omega)]; rfl
    rw [areaTo, e]
    omega
theorem area_at {xs : List Bx} {k : Nat} {x : Bx} (h : xs[k]? = some x) : areaTo xs (k + 1) = areaTo xs k + x.W * x.D := by
  have e : xs.getD k ⟨0, 0, 0, 0⟩ = x := by rw [List.getD_eq_getElem?_getD, h]; rfl
  rw [areaTo, e]
set_option maxRecDepth 100000 in
set_option maxHeartbeats 4000000 in
theorem i_LayerFill (pw pd : Int) (v : Value) (xs : List Bx) (w : World) (hv : Rds LBx w v xs) :
    Calls Try.prog 27 #[.int .i64 pw, .int .i64 pd, v] w fun e w' => e = .returned (.int .i64 (layerFill pw pd xs)) ∧ w.grownBy w' none := by
  have HI : RowKit.Hid (Calls Try.prog 19 #[.int .i64 pw, .int .i64 pd, v] w fun e w' => e = .returned (.bool (layerB pw pd xs)) ∧ w.grownBy w' none) := i_LayerValid pw pd v xs w hv
  obtain ⟨a, n, cap, rfl, h1, hm, HN, HC⟩ := LBx_get hv
  cases hB : layerB pw pd xs with
  | false =>
    rw [hB] at HI
    rw [layerFill_no hB]
    clear hB HC
    go_enter Try.func27, Try.ntmps27
    go_wp2_with (refine (HI.out).mono ?_; rintro e w1 ⟨rfl, g1⟩)
    go_ret
    exact ⟨rfl, g1⟩
  | true =>
    rw [hB] at HI
    obtain ⟨⟨⟨p1, p2⟩, ⟨q1, q2⟩, h60⟩, hin, -⟩ := layerB_t.1 hB
    have hn60 : n ≤ 60 := by have := HN.out; omega
    have BD : RowKit.Hid (∀ k, k ≤ n → 0 ≤ areaTo xs k ∧ areaTo xs k ≤ 40000 * (k : Int)) := fun k hk => areaTo_bd hB k (by have := HN.out; omega)
    have IN : RowKit.Hid (∀ (k : Nat) (b : Bx), xs[k]? = some b → 0 ≤ b.W * b.D ∧ b.W * b.D ≤ 40000) := fun k b hb => box_area ⟨p1, p2⟩ ⟨q1, q2⟩ (hin k b hb)
    have RES : RowKit.Hid (layerFill pw pd xs = 1000 * areaTo xs n / (pw * pd)) := by show _ = _; rw [layerFill_yes hB, HN.out]
    have hpp : 1 ≤ pw * pd ∧ pw * pd ≤ 40000 := by
      have h1 : (1 : Int) * 1 ≤ pw * pd := Int.mul_le_mul p1 q1 (by omega) (by omega)
      have h2 : pw * pd ≤ 200 * 200 := Int.mul_le_mul p2 q2 (by omega) (by omega)
      omega
    obtain ⟨pp1, pp2⟩ := hpp
    clear hB hin h60
    go_enter Try.func27, Try.ntmps27
    go_wp2_with fail
    refine (HI.out).mono ?_
    rintro e w1 ⟨rfl, g1⟩
    clear HI
    go_wp2
    go_loopw [7, 9, 17] (fun s _ i wr => ∃ (k : Nat) (M : Int), k ≤ n ∧ i = .int .i64 k ∧ s = .int .i64 M ∧ RowKit.Hid (M = areaTo xs k) ∧ w.grownBy wr none) (fun _ _ i _ => n - (intOf i).toNat)
    case atStart => exact ⟨0, 0, by omega, rfl, rfl, rfl, g1⟩
    case round =>
      clear g1
      obtain ⟨k, M, hk, rfl, rfl, HM, hg⟩ := hrel
      have hMb := BD.out k hk
      rw [← HM.out] at hMb
      obtain ⟨m1, m2⟩ := hMb
      by_cases hlt : k < n
      rotate_left
      · obtain rfl : k = n := by omega
        have hs : IntKind.i64.wrap (1000 * M) = 1000 * M := IntWalk.i64_in _ (by omega)
        have hs2 : IntKind.i64.wrap (pw * pd) = pw * pd := IntWalk.i64_in _ (by omega)
        have hne : ¬ pw * pd = 0 := by omega
        have hne2 : (pw * pd == 0) = false := by simpa using hne
        have hd0 : Int.tdiv (1000 * M) (pw * pd) = 1000 * M / (pw * pd) := Int.tdiv_eq_ediv_of_nonneg (by omega)
        have hq0 : 0 ≤ 1000 * M / (pw * pd) := Int.ediv_nonneg (by omega) (by omega)
        have hq1 : 1000 * M / (pw * pd) ≤ 1000 * M := Int.ediv_le_self _ (by omega)
        have hs3 : IntKind.i64.wrap (1000 * M / (pw * pd)) = 1000 * M / (pw * pd) := IntWalk.i64_in _ (by omega)
        have e : RowKit.Hid (layerFill pw pd xs = 1000 * M / (pw * pd)) := by show _ = _; rw [RES.out, HM.out]
        clear HM RES
        go_wp2
        go_ret
        exact ⟨by rw [e.out]; rfl, hg⟩
      obtain ⟨b, off, x, rfl, hb, hx, c0, c1, c2, c3⟩ := HC.out k hlt
      have c0' := gb_cell hg c0 (by simp)
      have c1' := gb_cell hg c1 (by simp)
      have c2' := gb_cell hg c2 (by simp)
      have c3' := gb_cell hg c3 (by simp)
      obtain ⟨a1, a2⟩ := IN.out k x hx.out
      have HM2 : RowKit.Hid (M + x.W * x.D = areaTo xs (k + 1)) := by show _ = _; rw [area_at hx.out, HM.out]
      have hs1 : IntKind.i64.wrap (x.W * x.D) = x.W * x.D := IntWalk.i64_in _ (by omega)
      have hs2 : IntKind.i64.wrap (M + x.W * x.D) = M + x.W * x.D := IntWalk.i64_in _ (by omega)
      have HG := Lib.hid (gb_alloc hg (.cells #[.int .i64 x.X, .int .i64 x.Y, .int .i64 x.W, .int .i64 x.D] 25))
      have hki : (k : Int) < (n : Int) := by omega
      clear c0 c1 c2 c3 hx HM hg
      go_wp2
      go_roundw
      case rel => exact ⟨k + 1, M + x.W * x.D, by omega, by go_num, rfl, HM2, HG.out⟩
      case measure => (simp [intOf]; try omega)
set_option maxRecDepth 100000 in
set_option maxHeartbeats 4000000 in
theorem s_LayerFill (pw pd : Int) (v : Value) (xs : List Bx) (w : World) (hv : Rds LBx w v xs) :
    Calls Try.prog 26 #[.int .i64 pw, .int .i64 pd, v] w fun e w' => e = .returned (.int .i64 (layerFill pw pd xs)) ∧ w.grownBy w' none := by
  have HI : RowKit.Hid (Calls Try.prog 17 #[.int .i64 pw, .int .i64 pd, v] w fun e w' => e = .returned (.bool (layerB pw pd xs)) ∧ w.grownBy w' none) := s_LayerValid pw pd v xs w hv
  obtain ⟨a, n, cap, rfl, h1, hm, HN, HC⟩ := LBx_get hv
  cases hB : layerB pw pd xs with
  | false =>
    rw [hB] at HI
    rw [layerFill_no hB]
    clear hB HC
    go_enter Try.func26, Try.ntmps26
    go_wp2_with (refine (HI.out).mono ?_; rintro e w1 ⟨rfl, g1⟩)
    go_ret
    exact ⟨rfl, g1⟩
  | true =>
    rw [hB] at HI
    obtain ⟨⟨⟨p1, p2⟩, ⟨q1, q2⟩, h60⟩, hin, -⟩ := layerB_t.1 hB
    have hn60 : n ≤ 60 := by have := HN.out; omega
    have BD : RowKit.Hid (∀ k, k ≤ n → 0 ≤ areaTo xs k ∧ areaTo xs k ≤ 40000 * (k : Int)) := fun k hk => areaTo_bd hB k (by have := HN.out; omega)
    have IN : RowKit.Hid (∀ (k : Nat) (b : Bx), xs[k]? = some b → 0 ≤ b.W * b.D ∧ b.W * b.D ≤ 40000) := fun k b hb => box_area ⟨p1, p2⟩ ⟨q1, q2⟩ (hin k b hb)
    have RES : RowKit.Hid (layerFill pw pd xs = 1000 * areaTo xs n / (pw * pd)) := by show _ = _; rw [layerFill_yes hB, HN.out]
    have hpp : 1 ≤ pw * pd ∧ pw * pd ≤ 40000 := by
      have h1 : (1 : Int) * 1 ≤ pw * pd := Int.mul_le_mul p1 q1 (by omega) (by omega)
      have h2 : pw * pd ≤ 200 * 200 := Int.mul_le_mul p2 q2 (by omega) (by omega)
      omega
    obtain ⟨pp1, pp2⟩ := hpp
    clear hB hin h60
    go_enter Try.func26, Try.ntmps26
    go_wp2_with fail
    refine (HI.out).mono ?_
    rintro e w1 ⟨rfl, g1⟩
    clear HI
    go_wp2
    go_loopw [7, 8] (fun s i wr => ∃ (k : Nat) (M : Int), k ≤ n ∧ i = .int .i64 k ∧ s = .int .i64 M ∧ RowKit.Hid (M = areaTo xs k) ∧ w.grownBy wr none) (fun _ i _ => n - (intOf i).toNat)
    case atStart => exact ⟨0, 0, by omega, rfl, rfl, rfl, g1⟩
    case round =>
      clear g1
      obtain ⟨k, M, hk, rfl, rfl, HM, hg⟩ := hrel
      have hMb := BD.out k hk
      rw [← HM.out] at hMb
      obtain ⟨m1, m2⟩ := hMb
      by_cases hlt : k < n
      rotate_left
      · obtain rfl : k = n := by omega
        have hs : IntKind.i64.wrap (1000 * M) = 1000 * M := IntWalk.i64_in _ (by omega)
        have hs2 : IntKind.i64.wrap (pw * pd) = pw * pd := IntWalk.i64_in _ (by omega)
        have hne : ¬ pw * pd = 0 := by omega
        have hne2 : (pw * pd == 0) = false := by simpa using hne
        have hd0 : Int.tdiv (1000 * M) (pw * pd) = 1000 * M / (pw * pd) := Int.tdiv_eq_ediv_of_nonneg (by omega)
        have hq0 : 0 ≤ 1000 * M / (pw * pd) := Int.ediv_nonneg (by omega) (by omega)
        have hq1 : 1000 * M / (pw * pd) ≤ 1000 * M := Int.ediv_le_self _ (by omega)
        have hs3 : IntKind.i64.wrap (1000 * M / (pw * pd)) = 1000 * M / (pw * pd) := IntWalk.i64_in _ (by omega)
        have e : RowKit.Hid (layerFill pw pd xs = 1000 * M / (pw * pd)) := by show _ = _; rw [RES.out, HM.out]
        clear HM RES
        go_wp2
        go_ret
        exact ⟨by rw [e.out]; rfl, hg⟩
      obtain ⟨b, off, x, rfl, hb, hx, c0, c1, c2, c3⟩ := HC.out k hlt
      have c2' := gb_cell hg c2 (by simp)
      have c3' := gb_cell hg c3 (by simp)
      obtain ⟨a1, a2⟩ := IN.out k x hx.out
      have HM2 : RowKit.Hid (M + x.W * x.D = areaTo xs (k + 1)) := by show _ = _; rw [area_at hx.out, HM.out]
      have hs1 : IntKind.i64.wrap (x.W * x.D) = x.W * x.D := IntWalk.i64_in _ (by omega)
      have hs2 : IntKind.i64.wrap (M + x.W * x.D) = M + x.W * x.D := IntWalk.i64_in _ (by omega)
      have HG := Lib.hid hg
      have hki : (k : Int) < (n : Int) := by omega
      clear c0 c1 c2 c3 hx HM hg
      go_wp2
      go_quiet (fail)
      go_wp2
      go_roundw
      case rel => exact ⟨k + 1, M + x.W * x.D, by omega, by go_num, rfl, HM2, gb_drewN HG.out _⟩
      case measure => (simp [intOf]; try omega)
end Go.Proofs.Ytbpfihklbmephaa
