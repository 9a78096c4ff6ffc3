/-
  StopsValid: both programs ask the same of a list of points.
-/
import Derived.Test.YthkleabdnjhniaaPointS
namespace Go.Proofs.Ythkleabdnjhniaa
open Go Go.RowKit
def ptB (p : Pt) : Bool := inB p.X (-10000) 10000 && inB p.Y (-10000) 10000
def ptsB (xs : List Pt) : Bool := xs.all ptB
def stopsB (xs : List Pt) : Bool := inB (xs.length : Int) 1 16 && ptsB xs
theorem ptsB_f {xs : List Pt} {k : Nat} {p : Pt} (h : xs[k]? = some p) (hp : ptB p = false) : ptsB xs = false := by
  unfold ptsB
  rw [List.all_eq_false]
  exact ⟨p, List.mem_of_getElem? h, by simp [hp]⟩
theorem ptsB_t {xs : List Pt} (h : ∀ (k : Nat) (p : Pt), xs[k]? = some p → ptB p = true) : ptsB xs = true := by
  unfold ptsB
  rw [List.all_eq_true]
  intro p hp
  obtain ⟨k, hk, rfl⟩ := List.getElem_of_mem hp
  exact h k _ (List.getElem?_eq_getElem hk)
theorem ptsB_at {xs : List Pt} (h : ptsB xs = true) {k : Nat} {p : Pt} (hp : xs[k]? = some p) : ptB p = true := List.all_eq_true.1 h p (List.mem_of_getElem? hp)
theorem ptB_bd {p : Pt} (h : ptB p = true) : (-10000 ≤ p.X ∧ p.X ≤ 10000) ∧ (-10000 ≤ p.Y ∧ p.Y ≤ 10000) := by
  unfold ptB at h
  rw [Bool.and_eq_true] at h
  exact ⟨inB_t.1 h.1, inB_t.1 h.2⟩
theorem stopsB_pts {xs : List Pt} (h : stopsB xs = true) : ptsB xs = true := by
  unfold stopsB at h
  rw [Bool.and_eq_true] at h
  exact h.2
theorem stopsB_len {xs : List Pt} (h : stopsB xs = true) : 1 ≤ xs.length ∧ xs.length ≤ 16 := by
  unfold stopsB at h
  rw [Bool.and_eq_true] at h
  have := inB_t.1 h.1
  omega
theorem i_PointValid (p : Pt) (w : World) : Calls Try.prog 61 #[.agg #[.int .i64 p.X, .int .i64 p.Y]] w fun e w' => e = .returned (.bool (ptB p)) ∧ w.grownBy w' none := by
  obtain ⟨x, y⟩ := p
  unfold ptB
  dsimp only
  cases e1 : inB x (-10000) 10000 with
  | false =>
    go_enter Try.func61, Try.ntmps61
    go_wp2_with (go_at_call 42; refine (within_b _ _ _ _).mono ?_; rintro e w' ⟨rfl, rfl⟩)
    go_ret
    exact ⟨rfl, World.grownBy_alloc _ _ _⟩
  | true =>
    cases e2 : inB y (-10000) 10000 with
    | false =>
      go_enter Try.func61, Try.ntmps61
      go_wp2_with (go_at_call 42; refine (within_b _ _ _ _).mono ?_; rintro e w' ⟨rfl, rfl⟩)
      go_ret
      exact ⟨rfl, World.grownBy_alloc _ _ _⟩
    | true =>
      go_enter Try.func61, Try.ntmps61
      go_wp2_with (go_at_call 42; refine (within_b _ _ _ _).mono ?_; rintro e w' ⟨rfl, rfl⟩)
      go_ret
      exact ⟨rfl, World.grownBy_alloc _ _ _⟩
theorem s_PointValid (p : Pt) (w : World) : Calls Try.prog 39 #[.agg #[.int .i64 p.X, .int .i64 p.Y]] w fun e w' => e = .returned (.bool (ptB p)) ∧ w.grownBy w' none := by
  obtain ⟨x, y⟩ := p
  unfold ptB
  dsimp only
  cases e1 : inB x (-10000) 10000 with
  | false =>
    go_enter Try.func39, Try.ntmps39
    go_wp2_with (go_at_call 40; refine (in_b _ _ _ _).mono ?_; rintro e w' ⟨rfl, rfl⟩)
    go_ret
    exact ⟨rfl, World.grownBy_alloc _ _ _⟩
  | true =>
    cases e2 : inB y (-10000) 10000 with
    | false =>
      go_enter Try.func39, Try.ntmps39
      go_wp2_with (go_at_call 40; refine (in_b _ _ _ _).mono ?_; rintro e w' ⟨rfl, rfl⟩)
      go_ret
      exact ⟨rfl, World.grownBy_alloc _ _ _⟩
    | true =>
      go_enter Try.func39, Try.ntmps39
      go_wp2_with (go_at_call 40; refine (in_b _ _ _ _).mono ?_; rintro e w' ⟨rfl, rfl⟩)
      go_ret
      exact ⟨rfl, World.grownBy_alloc _ _ _⟩
set_option maxHeartbeats 1000000 in
theorem allPoints_s (v : Value) (xs : List Pt) (w : World) (hv : Rds LPt w v xs) :
    Calls Try.prog 43 #[v] w fun e w' => e = .returned (.bool (ptsB xs)) ∧ w.grownBy w' none := by
  obtain ⟨a, n, cap, rfl, h1, hm, HN, HC⟩ := LPt_get hv
  have GOOD : RowKit.Hid ((∀ (k : Nat) (p : Pt), k < n → xs[k]? = some p → ptB p = true) → ptsB xs = true) := fun h =>
    ptsB_t (fun k p hp => h k p (by rw [HN.out]; exact (List.getElem?_eq_some_iff.1 hp).1) hp)
  go_enter Try.func43, Try.ntmps43
  go_wp2
  go_loopw [4, 7] (fun _ i wr => ∃ k : Nat, k ≤ n ∧ i = .int .i64 k ∧ RowKit.Hid (∀ (j : Nat) (p : Pt), j < k → xs[j]? = some p → ptB p = true) ∧ w.grownBy wr none) (fun _ i _ => n - (intOf i).toNat)
  case atStart => exact ⟨0, by omega, rfl, (fun j p hj => by omega), World.grownBy.refl _ _⟩
  case round =>
    obtain ⟨k, hk, rfl, HE, hg⟩ := hrel
    by_cases hlt : k < n
    rotate_left
    · have he := Lib.hid (GOOD.out (fun j p hj hp => HE.out j p (by omega) hp))
      clear HE
      go_wp2
      go_ret
      exact ⟨by rw [he.out]; rfl, hg⟩
    obtain ⟨b, off, p, rfl, hb, hp, hc0, hc1⟩ := HC.out k hlt
    have hc0' := gb_cell hg hc0 (by simp)
    have hc1' := gb_cell hg hc1 (by simp)
    have HG := Lib.hid (gb_alloc hg (.cells #[.int .i64 p.X, .int .i64 p.Y] 41))
    clear hc0 hc1
    cases hpt : ptB p with
    | false =>
      have he := Lib.hid (ptsB_f hp.out hpt)
      clear HE hg
      go_wp2_with (go_at_call 61; refine (i_PointValid p _).mono ?_; rintro e w2 ⟨rfl, g2⟩)
      go_ret
      exact ⟨by rw [he.out]; rfl, gb_trans HG.out g2⟩
    | true =>
      have HE2 : RowKit.Hid (∀ (j : Nat) (p : Pt), j < k + 1 → xs[j]? = some p → ptB p = true) := by
        intro j q hj hq
        by_cases hjk : j < k
        · exact HE.out j q hjk hq
        · obtain rfl : j = k := by omega
          rw [hp.out] at hq
          obtain rfl := Option.some.inj hq
          exact hpt
      clear HE hg
      go_wp2_with (go_at_call 61; refine (i_PointValid p _).mono ?_; rintro e w2 ⟨rfl, g2⟩)
      have G2 := gb_trans HG.out g2
      clear g2
      go_roundw
      case rel => exact ⟨k + 1, by omega, by go_num, HE2, G2⟩
      case measure => simp [intOf]; omega
theorem i_StopsValid (v : Value) (xs : List Pt) (w : World) (hv : Rds LPt w v xs) :
    Calls Try.prog 16 #[v] w fun e w' => e = .returned (.bool (stopsB xs)) ∧ w.grownBy w' none := by
  have hv0 := hv
  obtain ⟨a, n, cap, rfl, h1, hm, HN, HC⟩ := LPt_get hv
  have e0 : stopsB xs = (inB (n : Int) 1 16 && ptsB xs) := by unfold stopsB; rw [← HN.out]
  rw [e0]
  clear e0 HC
  cases e1 : inB (n : Int) 1 16 with
  | false =>
    go_enter Try.func16, Try.ntmps16
    go_wp2_with (go_at_call 42; refine (within_b _ _ _ _).mono ?_; rintro e w' ⟨rfl, rfl⟩)
    go_ret
    exact ⟨rfl, World.grownBy.refl _ _⟩
  | true =>
    go_enter Try.func16, Try.ntmps16
    go_wp2_with (first | (go_at_call 42; refine (within_b _ _ _ _).mono ?_; rintro e w' ⟨rfl, rfl⟩) | (go_at_call 43; refine (allPoints_s _ xs _ hv0).mono ?_; rintro e w2 ⟨rfl, g2⟩))
    go_ret
    exact ⟨rfl, g2⟩
set_option maxHeartbeats 1000000 in
theorem s_StopsValid (v : Value) (xs : List Pt) (w : World) (hv : Rds LPt w v xs) :
    Calls Try.prog 14 #[v] w fun e w' => e = .returned (.bool (stopsB xs)) ∧ w.grownBy w' none := by
  obtain ⟨a, n, cap, rfl, h1, hm, HN, HC⟩ := LPt_get hv
  have GOOD : RowKit.Hid ((∀ (k : Nat) (p : Pt), k < n → xs[k]? = some p → ptB p = true) → stopsB xs = inB (n : Int) 1 16) := fun h => by
    unfold stopsB
    rw [ptsB_t (fun k p hp => h k p (by rw [HN.out]; exact (List.getElem?_eq_some_iff.1 hp).1) hp), ← HN.out, Bool.and_true]
  have BAD : RowKit.Hid (∀ (k : Nat) (p : Pt), xs[k]? = some p → ptB p = false → stopsB xs = false) := fun k p hp hb => by
    unfold stopsB
    rw [ptsB_f hp hb, Bool.and_false]
  go_enter Try.func14, Try.ntmps14
  go_wp2
  go_loopw [3] (fun i wr => ∃ k : Nat, k ≤ n ∧ i = .int .i64 k ∧ RowKit.Hid (∀ (j : Nat) (p : Pt), j < k → xs[j]? = some p → ptB p = true) ∧ w.grownBy wr none) (fun i _ => n - (intOf i).toNat)
  case atStart => exact ⟨0, by omega, rfl, (fun j p hj => by omega), World.grownBy.refl _ _⟩
  case round =>
    obtain ⟨k, hk, rfl, HE, hg⟩ := hrel
    by_cases hlt : k < n
    rotate_left
    · have he := Lib.hid (GOOD.out (fun j p hj hp => HE.out j p (by omega) hp))
      clear HE
      go_wp2_with (go_at_call 40; refine (in_b _ _ _ _).mono ?_; rintro e w' ⟨rfl, rfl⟩)
      go_ret
      exact ⟨by rw [he.out]; rfl, hg⟩
    obtain ⟨b, off, p, rfl, hb, hp, hc0, hc1⟩ := HC.out k hlt
    have hc0' := gb_cell hg hc0 (by simp)
    have hc1' := gb_cell hg hc1 (by simp)
    have HG := Lib.hid hg
    clear hc0 hc1
    cases hpt : ptB p with
    | false =>
      have he := Lib.hid (BAD.out k p hp.out hpt)
      clear HE hg
      go_wp2_with (go_at_call 39; refine (s_PointValid p _).mono ?_; rintro e w2 ⟨rfl, g2⟩)
      go_ret
      exact ⟨by rw [he.out]; rfl, gb_trans HG.out g2⟩
    | true =>
      have HE2 : RowKit.Hid (∀ (j : Nat) (p : Pt), j < k + 1 → xs[j]? = some p → ptB p = true) := by
        intro j q hj hq
        by_cases hjk : j < k
        · exact HE.out j q hjk hq
        · obtain rfl : j = k := by omega
          rw [hp.out] at hq
          obtain rfl := Option.some.inj hq
          exact hpt
      clear HE hg
      go_wp2_with (go_at_call 39; refine (s_PointValid p _).mono ?_; rintro e w2 ⟨rfl, g2⟩)
      have G2 := gb_trans HG.out g2
      clear g2
      go_roundw
      case rel => exact ⟨k + 1, by omega, by go_num, HE2, G2⟩
      case measure => simp [intOf]; omega
end Go.Proofs.Ythkleabdnjhniaa
