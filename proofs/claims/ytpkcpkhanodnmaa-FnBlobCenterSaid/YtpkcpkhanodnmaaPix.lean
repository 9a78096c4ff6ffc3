/-
  A sample of a picture, asked by both programs.
-/
import Derived.Test.YtpkcpkhanodnmaaImage
namespace Go.Proofs.Ytpkcpkhanodnmaa
open Go Go.RowKit
/-- A sample; those outside are false. -/
def pix (ys : List (List Bool)) (x y : Int) : Bool := if 0 ≤ y ∧ 0 ≤ x then (ys.getD y.toNat []).getD x.toNat false else false
theorem pix_out {ys : List (List Bool)} {x y : Int} (h : ¬ (0 ≤ y ∧ 0 ≤ x)) : pix ys x y = false := by unfold pix; rw [if_neg h]
theorem pix_high {ys : List (List Bool)} {x : Int} {Y : Nat} (h : ys.length ≤ Y) : pix ys x Y = false := by
  unfold pix
  split
  · simp [List.getD, List.getElem?_eq_none h]
  · rfl
theorem pix_wide {ys : List (List Bool)} {X Y : Nat} {r : List Bool} (hr : ys[Y]? = some r) (h : r.length ≤ X) : pix ys X Y = false := by
  unfold pix
  rw [if_pos ⟨by omega, by omega⟩]
  simp [List.getD, hr, List.getElem?_eq_none h]
theorem pix_at {ys : List (List Bool)} {X Y : Nat} {r : List Bool} {b : Bool} (hr : ys[Y]? = some r) (h : r[X]? = some b) : pix ys X Y = b := by
  unfold pix
  rw [if_pos ⟨by omega, by omega⟩]
  simp [List.getD, hr, h]
theorem rds_bool_at {w : World} {ra : Option Addr} {rn rc : Nat} {y : List Bool} (h : Rds LB w (.slice ra rn rc) y) : RowKit.Hid (rn = y.length) ∧
    RowKit.Hid (∀ k, k < rn → ∃ (b off : Nat) (x : Bool), ra = some ⟨b, off, none⟩ ∧ b < w.heap.size ∧ RowKit.Hid (y[k]? = some x) ∧ w.cell? ⟨b, off + k, none⟩ = some (.bool x)) := by
  obtain ⟨a', n', c', hv, _, _, HN, HC⟩ := LB_get h
  simp only [Value.slice.injEq] at hv
  obtain ⟨rfl, rfl, rfl⟩ := hv
  exact ⟨HN, HC⟩
set_option maxHeartbeats 1000000 in
theorem sample_s (v : Value) (ys : List (List Bool)) (x y : Int) (w : World) (hv : DRds LSB DB w v ys) :
    Calls Try.prog 55 #[v, .int .i64 x, .int .i64 y] w fun e w' => e = .returned (.bool (pix ys x y)) ∧ w = w' := by
  obtain ⟨a, n, cap, rfl, h1, hm, HN, HC⟩ := hv.rows
  by_cases h0 : 0 ≤ y
  rotate_left
  · rw [pix_out (fun h => h0 h.1)]
    go_enter Try.func55, Try.ntmps55
    go_wp2
    go_ret
    exact ⟨rfl, rfl⟩
  obtain ⟨Y, rfl⟩ := Int.eq_ofNat_of_zero_le h0
  by_cases hY : Y < n
  rotate_left
  · rw [pix_high (by have := HN.out; omega)]
    go_enter Try.func55, Try.ntmps55
    go_wp2
    go_ret
    exact ⟨rfl, rfl⟩
  by_cases hx0 : 0 ≤ x
  rotate_left
  · rw [pix_out (fun h => hx0 h.2)]
    go_enter Try.func55, Try.ntmps55
    go_wp2
    go_ret
    exact ⟨rfl, rfl⟩
  obtain ⟨X, rfl⟩ := Int.eq_ofNat_of_zero_le hx0
  obtain ⟨b, off, ra, rn, rc, r, rfl, hb, hy, hrn, hrc, hrm, hrd, hc⟩ := HC.out Y hY
  by_cases hX : X < rn
  rotate_left
  · rw [pix_wide hy.out (by have := hrn.out; omega)]
    clear hrn hy
    go_enter Try.func55, Try.ntmps55
    go_wp2
    go_ret
    exact ⟨rfl, rfl⟩
  obtain ⟨-, HC2⟩ := rds_bool_at hrd
  obtain ⟨b2, off2, z, rfl, hb2, hz, hd⟩ := HC2.out X hX
  rw [pix_at hy.out hz.out]
  clear hrn hy hz
  go_enter Try.func55, Try.ntmps55
  go_wp2
  go_ret
  exact ⟨rfl, rfl⟩
/-- What is known of a valid picture. -/
theorem imgOk_row {ys : List (List Bool)} (h : imgOk ys) {k : Nat} {r : List Bool} (hr : ys[k]? = some r) : r.length = (ys.headD []).length := (h.2.2 k r hr).2.2
set_option maxHeartbeats 1000000 in
theorem at_s (v : Value) (ys : List (List Bool)) (x y : Int) (w : World) (hv : DRds LSB DB w v ys) (hok : imgOk ys) :
    Calls Try.prog 54 #[v, .int .i64 x, .int .i64 y] w fun e w' => e = .returned (.bool (pix ys x y)) ∧ w = w' := by
  obtain ⟨a, n, cap, rfl, h1, hm, HN, HC⟩ := hv.rows
  have hn : 0 < n := by have := HN.out; have := hok.1; omega
  obtain ⟨b, off, ra0, rn0, rc0, r0, rfl, hb0, hy0, hrn0, hrc0, hrm0, hrd0, c0⟩ := HC.out 0 hn
  rw [Nat.add_zero] at c0
  have hW : RowKit.Hid (∀ (k : Nat) (r : List Bool), ys[k]? = some r → r.length = rn0) := by
    intro k r hr
    rw [hrn0.out, imgOk_row hok hr, imgOk_row hok hy0.out]
  have hn0 : (0 : Int) < n := by omega
  by_cases h0 : 0 ≤ y ∧ y ≤ (n : Int) - 1
  rotate_left
  · have e : pix ys x y = false := by
      by_cases hy : 0 ≤ y
      · obtain ⟨Y, rfl⟩ := Int.eq_ofNat_of_zero_le hy
        exact pix_high (by have := HN.out; omega)
      · exact pix_out (fun h => hy h.1)
    have e1 : inB y 0 ((n : Int) - 1) = false := inB_f.2 h0
    rw [e]
    clear e hrn0 hy0
    go_enter Try.func54, Try.ntmps54
    go_wp2_with (go_at_call 44; refine (in_b _ _ _ _).mono ?_; rintro e w' ⟨rfl, rfl⟩)
    go_ret
    exact ⟨rfl, rfl⟩
  have e1 : inB y 0 ((n : Int) - 1) = true := inB_t.2 h0
  obtain ⟨hy1, hy2⟩ := h0
  obtain ⟨Y, rfl⟩ := Int.eq_ofNat_of_zero_le hy1
  obtain ⟨b', off', ra, rn, rc, r, hab, hb, hy, hrn, hrc, hrm, hrd, hc⟩ := HC.out Y (by omega)
  obtain ⟨rfl, rfl⟩ : b = b' ∧ off = off' := by simpa using hab
  have hrr : RowKit.Hid (rn = rn0) := by show rn = rn0; rw [hrn.out]; exact hW.out Y r hy.out
  by_cases hx : 0 ≤ x ∧ x ≤ (rn0 : Int) - 1
  rotate_left
  · have e : pix ys x Y = false := by
      by_cases hx' : 0 ≤ x
      · obtain ⟨X, rfl⟩ := Int.eq_ofNat_of_zero_le hx'
        exact pix_wide hy.out (by have := hrn.out; have := hrr.out; omega)
      · exact pix_out (fun h => hx' h.2)
    have e2 : inB x 0 ((rn0 : Int) - 1) = false := inB_f.2 hx
    rw [e]
    clear e hrn0 hy0 hrn hy hab
    go_enter Try.func54, Try.ntmps54
    go_wp2_with (go_at_call 44; refine (in_b _ _ _ _).mono ?_; rintro e w' ⟨rfl, rfl⟩)
    go_ret
    exact ⟨rfl, rfl⟩
  have e2 : inB x 0 ((rn0 : Int) - 1) = true := inB_t.2 hx
  obtain ⟨hx1, hx2⟩ := hx
  obtain ⟨X, rfl⟩ := Int.eq_ofNat_of_zero_le hx1
  obtain ⟨-, HC2⟩ := rds_bool_at hrd
  have hXr : X < rn := by have := hrr.out; omega
  obtain ⟨b2, off2, z, rfl, hb2, hz, hd⟩ := HC2.out X hXr
  rw [pix_at hy.out hz.out]
  clear hrn hy hz hrn0 hy0 hab
  go_enter Try.func54, Try.ntmps54
  go_wp2_with (go_at_call 44; refine (in_b _ _ _ _).mono ?_; rintro e w' ⟨rfl, rfl⟩)
  go_ret
  exact ⟨rfl, rfl⟩
end Go.Proofs.Ytpkcpkhanodnmaa
