/-
  ImageValid: both programs ask the same of a picture.
-/
import Derived.Test.YtpkcpkhanodnmaaBoolSS
namespace Go.Proofs.Ytpkcpkhanodnmaa
open Go Go.RowKit
def rowOk (W : Nat) (y : List Bool) : Prop := 1 ≤ y.length ∧ y.length ≤ 16 ∧ y.length = W
def imgOk (ys : List (List Bool)) : Prop := 1 ≤ ys.length ∧ ys.length ≤ 16 ∧ ∀ (k : Nat) y, ys[k]? = some y → rowOk (ys.headD []).length y
open Classical in
noncomputable def imgB (ys : List (List Bool)) : Bool := decide (imgOk ys)
theorem imgB_t {ys : List (List Bool)} : imgB ys = true ↔ imgOk ys := by simp [imgB]
theorem imgB_f {ys : List (List Bool)} : imgB ys = false ↔ ¬ imgOk ys := by simp [imgB]
set_option maxHeartbeats 1000000 in
theorem i_ImageValid (v : Value) (ys : List (List Bool)) (w : World) (hv : DRds LSB DB w v ys) :
    Calls Try.prog 21 #[v] w fun e w' => e = .returned (.bool (imgB ys)) ∧ w.grownBy w' none := by
  obtain ⟨a, n, cap, rfl, h1, hm, HN, HC⟩ := hv.rows
  by_cases hr : 1 ≤ (n : Int) ∧ (n : Int) ≤ 16
  rotate_left
  · have e : imgB ys = false := imgB_f.2 (fun h => hr (by have := HN.out; have := h.1; have := h.2.1; omega))
    rw [e]
    go_enter Try.func21, Try.ntmps21
    go_wp2_with (go_at_call 45; refine (within_f _ _ _ _ hr).mono ?_; rintro e w' ⟨rfl, rfl⟩)
    go_ret
    exact ⟨rfl, World.grownBy.refl _ _⟩
  obtain ⟨hr1, hr2⟩ := hr
  obtain ⟨b, off, ra0, rn0, rc0, y0, rfl, hb0, hy0, hrn0, hrc0, hrm0, hrd0, c0⟩ := HC.out 0 (by omega)
  have hW : RowKit.Hid ((ys.headD []).length = rn0) := by
    show (ys.headD []).length = rn0
    rw [hrn0.out]
    have := hy0.out
    cases ys with
    | nil => simp at this
    | cons z zs => simp at this; simp [this]
  rw [Nat.add_zero] at c0
  have BAD : RowKit.Hid (∀ (k : Nat) (y : List Bool) (rn : Nat), ys[k]? = some y → rn = y.length → ¬ ((1 ≤ (rn : Int) ∧ (rn : Int) ≤ 16) ∧ rn = rn0) → imgB ys = false) := by
    intro k y rn hy hrn hne
    refine imgB_f.2 (fun h => hne ?_)
    obtain ⟨k1, k2, k3⟩ := h.2.2 k y hy
    rw [hW.out] at k3
    exact ⟨⟨by omega, by omega⟩, by omega⟩
  have GOOD : RowKit.Hid ((∀ (k : Nat) (y : List Bool), k < n → ys[k]? = some y → rowOk rn0 y) → imgB ys = true) := by
    intro h
    refine imgB_t.2 ⟨by have := HN.out; omega, by have := HN.out; omega, fun k y hy => ?_⟩
    rw [hW.out]
    exact h k y (by rw [HN.out]; exact (List.getElem?_eq_some_iff.1 hy).1) hy
  clear hrd0 hy0 hrn0
  go_enter Try.func21, Try.ntmps21
  go_wp2_with (go_at_call 45; refine (within_t _ _ _ _ ⟨hr1, hr2⟩).mono ?_; rintro e w' ⟨rfl, rfl⟩)
  go_loop [11] (fun i => ∃ k : Nat, k ≤ n ∧ i = .int .i64 k ∧ RowKit.Hid (∀ (j : Nat) (y : List Bool), j < k → ys[j]? = some y → rowOk rn0 y)) (fun i => n - (intOf i).toNat)
  case atStart => exact ⟨0, by omega, rfl, fun j y hj => by omega⟩
  case round =>
    obtain ⟨k, hk, rfl, HE⟩ := hrel
    by_cases hlt : k < n
    rotate_left
    · have hg := Lib.hid (GOOD.out (fun j y hj hy => HE.out j y (by omega) hy))
      clear HE
      go_wp2
      go_ret
      exact ⟨by rw [hg.out]; rfl, World.grownBy.refl _ _⟩
    obtain ⟨b', off', ra, rn, rc, y, hab, hb, hy, hrn, hrc, hrm, hrd, c1⟩ := HC.out k hlt
    obtain ⟨rfl, rfl⟩ : b = b' ∧ off = off' := by simpa using hab
    clear hab hrd
    by_cases hA : 1 ≤ (rn : Int) ∧ (rn : Int) ≤ 16
    rotate_left
    · have hg := Lib.hid (BAD.out k y rn hy.out hrn.out (fun h => hA h.1))
      go_wp2_with (go_at_call 45; refine (within_f _ _ _ _ hA).mono ?_; rintro e w' ⟨rfl, rfl⟩)
      go_ret
      exact ⟨by rw [hg.out]; rfl, World.grownBy.refl _ _⟩
    by_cases hB : rn = rn0
    rotate_left
    · have hg := Lib.hid (BAD.out k y rn hy.out hrn.out (fun h => hB h.2))
      obtain ⟨hA1, hA2⟩ := hA
      go_wp2_with (go_at_call 45; refine (within_t _ _ _ _ ⟨hA1, hA2⟩).mono ?_; rintro e w' ⟨rfl, rfl⟩)
      go_ret
      exact ⟨by rw [hg.out]; rfl, World.grownBy.refl _ _⟩
    subst hB
    have HE2 : RowKit.Hid (∀ (j : Nat) (y : List Bool), j < k + 1 → ys[j]? = some y → rowOk rn y) := by
      intro j z hj hz
      by_cases hjk : j < k
      · exact HE.out j z hjk hz
      · obtain rfl : j = k := by omega
        rw [hy.out] at hz
        obtain rfl := Option.some.inj hz
        have := hrn.out
        exact ⟨by omega, by omega, by omega⟩
    obtain ⟨hA1, hA2⟩ := hA
    clear HE
    go_wp2_with (go_at_call 45; refine (within_t _ _ _ _ ⟨hA1, hA2⟩).mono ?_; rintro e w' ⟨rfl, rfl⟩)
    go_round
    case rel => exact ⟨k + 1, by omega, by go_num, HE2⟩
    case measure => simp [intOf]; omega
set_option maxHeartbeats 1000000 in
theorem s_ImageValid (v : Value) (ys : List (List Bool)) (w : World) (hv : DRds LSB DB w v ys) :
    Calls Try.prog 19 #[v] w fun e w' => e = .returned (.bool (imgB ys)) ∧ w.grownBy w' none := by
  obtain ⟨a, n, cap, rfl, h1, hm, HN, HC⟩ := hv.rows
  by_cases hr : 1 ≤ (n : Int) ∧ (n : Int) ≤ 16
  rotate_left
  · have e : imgB ys = false := imgB_f.2 (fun h => hr (by have := HN.out; have := h.1; have := h.2.1; omega))
    rw [e]
    go_enter Try.func19, Try.ntmps19
    go_wp2_with (go_at_call 44; refine (in_f _ _ _ _ hr).mono ?_; rintro e w' ⟨rfl, rfl⟩)
    go_ret
    exact ⟨rfl, World.grownBy.refl _ _⟩
  obtain ⟨hr1, hr2⟩ := hr
  obtain ⟨b, off, ra0, rn0, rc0, y0, rfl, hb0, hy0, hrn0, hrc0, hrm0, hrd0, c0⟩ := HC.out 0 (by omega)
  have hW : RowKit.Hid ((ys.headD []).length = rn0) := by
    show (ys.headD []).length = rn0
    rw [hrn0.out]
    have := hy0.out
    cases ys with
    | nil => simp at this
    | cons z zs => simp at this; simp [this]
  rw [Nat.add_zero] at c0
  have BAD : RowKit.Hid (∀ (k : Nat) (y : List Bool) (rn : Nat), ys[k]? = some y → rn = y.length → ¬ ((1 ≤ (rn : Int) ∧ (rn : Int) ≤ 16) ∧ rn = rn0) → imgB ys = false) := by
    intro k y rn hy hrn hne
    refine imgB_f.2 (fun h => hne ?_)
    obtain ⟨k1, k2, k3⟩ := h.2.2 k y hy
    rw [hW.out] at k3
    exact ⟨⟨by omega, by omega⟩, by omega⟩
  have hn0 : (0 : Int) < n := by omega
  by_cases hA : 1 ≤ (rn0 : Int) ∧ (rn0 : Int) ≤ 16
  rotate_left
  · have e : imgB ys = false := BAD.out 0 y0 rn0 hy0.out hrn0.out (fun h => hA h.1)
    rw [e]
    have e1 : inB (n : Int) 1 16 = true := inB_t.2 ⟨hr1, hr2⟩
    have e2 : inB (rn0 : Int) 1 16 = false := inB_f.2 hA
    clear e
    go_enter Try.func19, Try.ntmps19
    go_wp2_with (go_at_call 44; refine (in_b _ _ _ _).mono ?_; rintro e w' ⟨rfl, rfl⟩)
    go_ret
    exact ⟨rfl, World.grownBy.refl _ _⟩
  obtain ⟨hA1, hA2⟩ := hA
  have GOOD : RowKit.Hid ((∀ (k : Nat) (y : List Bool), k < n → ys[k]? = some y → rowOk rn0 y) → imgB ys = true) := by
    intro h
    refine imgB_t.2 ⟨by have := HN.out; omega, by have := HN.out; omega, fun k y hy => ?_⟩
    rw [hW.out]
    exact h k y (by rw [HN.out]; exact (List.getElem?_eq_some_iff.1 hy).1) hy
  clear hrd0 hy0 hrn0
  go_enter Try.func19, Try.ntmps19
  go_wp2_with (go_at_call 44; refine (in_t _ _ _ _ ⟨by omega, by omega⟩).mono ?_; rintro e w' ⟨rfl, rfl⟩)
  go_loopw [3] (fun i wr => ∃ k : Nat, k ≤ n ∧ i = .int .i64 k ∧ RowKit.Hid (∀ (j : Nat) (y : List Bool), j < k → ys[j]? = some y → rowOk rn0 y) ∧ w.grownBy wr none) (fun i _ => n - (intOf i).toNat)
  case atStart => exact ⟨0, by omega, rfl, (fun j y hj => by omega), World.grownBy.refl _ _⟩
  case round =>
    obtain ⟨k, hk, rfl, HE, hg⟩ := hrel
    by_cases hlt : k < n
    rotate_left
    · have he := Lib.hid (GOOD.out (fun j y hj hy => HE.out j y (by omega) hy))
      clear HE
      go_wp2
      go_ret
      exact ⟨by rw [he.out]; rfl, hg⟩
    obtain ⟨b', off', ra, rn, rc, y, hab, hb, hy, hrn, hrc, hrm, hrd, c1⟩ := HC.out k hlt
    obtain ⟨rfl, rfl⟩ : b = b' ∧ off = off' := by simpa using hab
    have c0' := gb_cell hg c0 (by simp)
    have c1' := gb_cell hg c1 (by simp)
    have HG := Lib.hid hg
    have i0 : (0 : Int) ≤ (k : Int) := by omega
    have i1 : (k : Int) < (n : Int) := by omega
    clear hab hrd hg c1
    by_cases hB : rn = rn0
    rotate_left
    · have he := Lib.hid (BAD.out k y rn hy.out hrn.out (fun h => hB h.2))
      go_wp2
      go_quiet (fail)
      go_wp2
      go_ret
      exact ⟨by rw [he.out]; rfl, gb_drewN HG.out _⟩
    subst hB
    have HE2 : RowKit.Hid (∀ (j : Nat) (y : List Bool), j < k + 1 → ys[j]? = some y → rowOk rn y) := by
      intro j z hj hz
      by_cases hjk : j < k
      · exact HE.out j z hjk hz
      · obtain rfl : j = k := by omega
        rw [hy.out] at hz
        obtain rfl := Option.some.inj hz
        have := hrn.out
        exact ⟨by omega, by omega, by omega⟩
    clear HE
    go_wp2
    go_quiet (fail)
    go_wp2
    go_roundw
    case rel => exact ⟨k + 1, by omega, by go_num, HE2, gb_drewN HG.out _⟩
    case measure => simp [intOf]; omega
end Go.Proofs.Ytpkcpkhanodnmaa
