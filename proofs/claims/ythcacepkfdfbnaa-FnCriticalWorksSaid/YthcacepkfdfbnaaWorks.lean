/-
  WorksValid: both programs ask the same of a list of steps.
-/
import Derived.Test.YthcacepkfdfbnaaWorkS
namespace Go.Proofs.Ythcacepkfdfbnaa
open Go Go.RowKit
def wkOk (k : Nat) (y : Wk) : Prop := (1 ≤ y.Time ∧ y.Time ≤ 100) ∧ y.After.length ≤ 12 ∧ ∀ a ∈ y.After, 0 ≤ a ∧ a ≤ (k : Int) - 1
def worksOk (ys : List Wk) : Prop := ys.length ≤ 12 ∧ ∀ (k : Nat) (y : Wk), ys[k]? = some y → wkOk k y
open Classical in
noncomputable def worksB (ys : List Wk) : Bool := decide (worksOk ys)
theorem worksB_t {ys : List Wk} : worksB ys = true ↔ worksOk ys := by simp [worksB]
theorem worksB_f {ys : List Wk} : worksB ys = false ↔ ¬ worksOk ys := by simp [worksB]
theorem rds_int_at {w : World} {ra : Option Addr} {rn rc : Nat} {y : List Int} (h : Rds LI w (.slice ra rn rc) y) : RowKit.Hid (rn = y.length) ∧
    RowKit.Hid (∀ k, k < rn → ∃ (b off : Nat) (x : Int), ra = some ⟨b, off, none⟩ ∧ b < w.heap.size ∧ RowKit.Hid (y[k]? = some x) ∧ w.cell? ⟨b, off + k, none⟩ = some (.int .i64 x)) := by
  obtain ⟨a', n', c', hv, _, _, HN, HC⟩ := LI_get h
  simp only [Value.slice.injEq] at hv
  obtain ⟨rfl, rfl, rfl⟩ := hv
  exact ⟨HN, HC⟩
set_option maxHeartbeats 2000000 in
theorem i_WorksValid (v : Value) (ys : List Wk) (w : World) (hv : DRds LWk DWk w v ys) :
    Calls Try.prog 16 #[v] w fun e w' => e = .returned (.bool (worksB ys)) ∧ w.grownBy w' none := by
  obtain ⟨a, n, cap, rfl, h1, hm, HN, HC⟩ := hv.wks
  by_cases hr : 12 < n
  · have e : worksB ys = false := worksB_f.2 (fun h => by have := HN.out; have := h.1; omega)
    rw [e]
    clear e
    go_enter Try.func16, Try.ntmps16
    go_wp2_with fail
    go_ret
    exact ⟨rfl, World.grownBy.refl _ _⟩
  have BAD : RowKit.Hid (∀ (k : Nat) (t : Int) (y : List Int), ys[k]? = some ⟨t, y⟩ → ¬ wkOk k ⟨t, y⟩ → worksB ys = false) := fun k t y hy hne => worksB_f.2 (fun h => hne (h.2 k _ hy))
  have GOOD : RowKit.Hid ((∀ (k : Nat) (y : Wk), k < n → ys[k]? = some y → wkOk k y) → worksB ys = true) := fun h =>
    worksB_t.2 ⟨by have := HN.out; omega, fun k y hy => h k y (by rw [HN.out]; exact (List.getElem?_eq_some_iff.1 hy).1) hy⟩
  go_enter Try.func16, Try.ntmps16
  go_wp2_with fail
  go_loopw [12] (fun i wr => ∃ k : Nat, k ≤ n ∧ i = .int .i64 k ∧ RowKit.Hid (∀ (j : Nat) (y : Wk), j < k → ys[j]? = some y → wkOk j y) ∧ w.grownBy wr none) (fun i _ => n - (intOf i).toNat)
  case atStart => exact ⟨0, by omega, rfl, (fun j y hj => by omega), World.grownBy.refl _ _⟩
  case round =>
    obtain ⟨k, hk, rfl, HE, hg⟩ := hrel
    by_cases hlt : k < n
    rotate_left
    · have he := Lib.hid (GOOD.out (fun j y hj hy => HE.out j y (by omega) hy))
      clear HE
      go_wp2
      go_ret
      exact ⟨by rw [he.out]; rfl, hg⟩
    obtain ⟨b, off, t, ra, rn, rc, y, rfl, hb, hy, hrn, hrc, hrm, hrd, hc0, hc1⟩ := HC.out k hlt
    have hc0' := gb_cell hg hc0 (by simp)
    have hc1' := gb_cell hg hc1 (by simp)
    have G1 := gb_alloc hg (.cells #[.int .i64 t, .slice ra rn rc] 33)
    obtain ⟨HN2, HC2⟩ := rds_int_at hrd
    clear hc0 hc1
    by_cases hA : 1 ≤ t ∧ t ≤ 100
    rotate_left
    · have he := Lib.hid (BAD.out k t y hy.out (fun h => hA h.1))
      clear HE
      go_wp2_with (go_at_call 40; refine (within_f _ _ _ _ hA).mono ?_; rintro e w' ⟨rfl, rfl⟩)
      go_ret
      exact ⟨by rw [he.out]; rfl, G1⟩
    obtain ⟨hA1, hA2⟩ := hA
    by_cases hB : 12 < rn
    · have he := Lib.hid (BAD.out k t y hy.out (fun h => by have := h.2.1; have := hrn.out; simp only at *; omega))
      clear HE
      go_wp2_with (go_at_call 40; refine (within_t _ _ _ _ ⟨hA1, hA2⟩).mono ?_; rintro e w' ⟨rfl, rfl⟩)
      go_ret
      exact ⟨by rw [he.out]; rfl, G1⟩
    go_wp2_with (go_at_call 40; refine (within_t _ _ _ _ ⟨hA1, hA2⟩).mono ?_; rintro e w' ⟨rfl, rfl⟩)
    have G1' := Lib.hid G1
    have HG := Lib.hid hg
    clear hg G1
    go_loop [6, 30] (fun _ i => ∃ j : Nat, j ≤ rn ∧ i = .int .i64 j ∧ RowKit.Hid (∀ (q : Nat) (x : Int), q < j → y[q]? = some x → 0 ≤ x ∧ x ≤ (k : Int) - 1)) (fun _ i => rn - (intOf i).toNat)
    case atStart => exact ⟨0, by omega, rfl, fun q x hq => by omega⟩
    case round =>
      obtain ⟨j, hj, rfl, HF⟩ := hrel
      by_cases hlt2 : j < rn
      · obtain ⟨b2, off2, x, rfl, hb2, hx, hd⟩ := HC2.out j hlt2
        have hd' := gb_cell G1'.out hd (by simp)
        clear hd
        by_cases hX : 0 ≤ x ∧ x ≤ (k : Int) - 1
        · have HF2 : RowKit.Hid (∀ (q : Nat) (x : Int), q < j + 1 → y[q]? = some x → 0 ≤ x ∧ x ≤ (k : Int) - 1) := by
            intro q z hq hz
            by_cases hqj : q < j
            · exact HF.out q z hqj hz
            · obtain rfl : q = j := by omega
              rw [hx.out] at hz
              obtain rfl := Option.some.inj hz
              exact hX
          clear HF
          go_wp2_with (go_at_call 40; refine (within_t _ _ _ _ hX).mono ?_; rintro e w' ⟨rfl, rfl⟩)
          go_round
          case rel => exact ⟨j + 1, by omega, by go_num, HF2⟩
          case measure => simp [intOf]; omega
        · have he := Lib.hid (BAD.out k t y hy.out (fun h => hX (h.2.2 x (List.mem_of_getElem? hx.out))))
          clear HE HF
          go_wp2_with (go_at_call 40; refine (within_f _ _ _ _ hX).mono ?_; rintro e w' ⟨rfl, rfl⟩)
          go_ret
          exact ⟨by rw [he.out]; rfl, G1'.out⟩
      · have HE2 : RowKit.Hid (∀ (j : Nat) (y : Wk), j < k + 1 → ys[j]? = some y → wkOk j y) := by
          intro q z hq hz
          by_cases hqk : q < k
          · exact HE.out q z hqk hz
          · obtain rfl : q = k := by omega
            rw [hy.out] at hz
            obtain rfl := Option.some.inj hz
            refine ⟨⟨hA1, hA2⟩, by have := hrn.out; simp only at *; omega, fun a ha => ?_⟩
            obtain ⟨p, hp, rfl⟩ := List.getElem_of_mem ha
            have hp' : p < y.length := hp
            exact HF.out p _ (by have := hrn.out; omega) (List.getElem?_eq_getElem hp)
        clear HE HF
        go_wp2
        go_roundw
        case rel => exact ⟨k + 1, by omega, by go_num, HE2, G1'.out⟩
        case measure => simp [intOf]; omega
set_option maxHeartbeats 2000000 in
theorem s_WorksValid (v : Value) (ys : List Wk) (w : World) (hv : DRds LWk DWk w v ys) :
    Calls Try.prog 14 #[v] w fun e w' => e = .returned (.bool (worksB ys)) ∧ w.grownBy w' none := by
  obtain ⟨a, n, cap, rfl, h1, hm, HN, HC⟩ := hv.wks
  have BAD : RowKit.Hid (∀ (k : Nat) (t : Int) (y : List Int), ys[k]? = some ⟨t, y⟩ → ¬ wkOk k ⟨t, y⟩ → worksB ys = false) := fun k t y hy hne => worksB_f.2 (fun h => hne (h.2 k _ hy))
  have GOOD : RowKit.Hid ((∀ (k : Nat) (y : Wk), k < n → ys[k]? = some y → wkOk k y) → worksB ys = decide ((n : Int) ≤ 12)) := by
    intro h
    by_cases hl : n ≤ 12
    · rw [worksB_t.2 ⟨by have := HN.out; omega, fun k y hy => h k y (by rw [HN.out]; exact (List.getElem?_eq_some_iff.1 hy).1) hy⟩]
      simp; omega
    · rw [worksB_f.2 (fun h => hl (by have := HN.out; have := h.1; omega))]
      simp; omega
  go_enter Try.func14, Try.ntmps14
  go_wp2_with fail
  go_loop [3, 4] (fun i _ => ∃ k : Nat, k ≤ n ∧ i = .int .i64 k ∧ RowKit.Hid (∀ (j : Nat) (y : Wk), j < k → ys[j]? = some y → wkOk j y)) (fun i _ => n - (intOf i).toNat)
  case atStart => exact ⟨0, by omega, rfl, fun j y hj => by omega⟩
  case round =>
    obtain ⟨k, hk, rfl, HE⟩ := hrel
    by_cases hlt : k < n
    rotate_left
    · have he := Lib.hid (GOOD.out (fun j y hj hy => HE.out j y (by omega) hy))
      clear HE
      by_cases h12 : n ≤ 12
      · go_wp2
        go_ret
        exact ⟨by rw [he.out]; simp [Act.tmps], World.grownBy.refl _ _⟩
      · go_wp2
        go_ret
        exact ⟨by rw [he.out]; simp [Act.tmps], World.grownBy.refl _ _⟩
    obtain ⟨b, off, t, ra, rn, rc, y, rfl, hb, hy, hrn, hrc, hrm, hrd, hc0, hc1⟩ := HC.out k hlt
    obtain ⟨HN2, HC2⟩ := rds_int_at hrd
    by_cases hA : 1 ≤ t ∧ t ≤ 100
    rotate_left
    · have he := Lib.hid (BAD.out k t y hy.out (fun h => hA h.1))
      clear HE
      go_wp2_with (go_at_call 38; refine (in_f _ _ _ _ hA).mono ?_; rintro e w' ⟨rfl, rfl⟩)
      go_ret
      exact ⟨by rw [he.out]; rfl, World.grownBy.refl _ _⟩
    obtain ⟨hA1, hA2⟩ := hA
    by_cases hB : 12 < rn
    · have he := Lib.hid (BAD.out k t y hy.out (fun h => by have := h.2.1; have := hrn.out; simp only at *; omega))
      clear HE
      go_wp2_with (go_at_call 38; refine (in_t _ _ _ _ ⟨hA1, hA2⟩).mono ?_; rintro e w' ⟨rfl, rfl⟩)
      go_ret
      exact ⟨by rw [he.out]; rfl, World.grownBy.refl _ _⟩
    go_wp2_with (go_at_call 38; refine (in_t _ _ _ _ ⟨hA1, hA2⟩).mono ?_; rintro e w' ⟨rfl, rfl⟩)
    go_loop [4] (fun i => ∃ j : Nat, j ≤ rn ∧ i = .int .i64 j ∧ RowKit.Hid (∀ (q : Nat) (x : Int), q < j → y[q]? = some x → 0 ≤ x ∧ x ≤ (k : Int) - 1)) (fun i => rn - (intOf i).toNat)
    case atStart => exact ⟨0, by omega, rfl, fun q x hq => by omega⟩
    case round =>
      obtain ⟨j, hj, rfl, HF⟩ := hrel
      by_cases hlt2 : j < rn
      · obtain ⟨b2, off2, x, rfl, hb2, hx, hd⟩ := HC2.out j hlt2
        by_cases hX : 0 ≤ x ∧ x ≤ (k : Int) - 1
        · have HF2 : RowKit.Hid (∀ (q : Nat) (x : Int), q < j + 1 → y[q]? = some x → 0 ≤ x ∧ x ≤ (k : Int) - 1) := by
            intro q z hq hz
            by_cases hqj : q < j
            · exact HF.out q z hqj hz
            · obtain rfl : q = j := by omega
              rw [hx.out] at hz
              obtain rfl := Option.some.inj hz
              exact hX
          clear HF
          go_wp2_with (go_at_call 38; refine (in_t _ _ _ _ hX).mono ?_; rintro e w' ⟨rfl, rfl⟩)
          go_round
          case rel => exact ⟨j + 1, by omega, by go_num, HF2⟩
          case measure => simp [intOf]; omega
        · have he := Lib.hid (BAD.out k t y hy.out (fun h => hX (h.2.2 x (List.mem_of_getElem? hx.out))))
          clear HE HF
          go_wp2_with (go_at_call 38; refine (in_f _ _ _ _ hX).mono ?_; rintro e w' ⟨rfl, rfl⟩)
          go_ret
          exact ⟨by rw [he.out]; rfl, World.grownBy.refl _ _⟩
      · have HE2 : RowKit.Hid (∀ (j : Nat) (y : Wk), j < k + 1 → ys[j]? = some y → wkOk j y) := by
          intro q z hq hz
          by_cases hqk : q < k
          · exact HE.out q z hqk hz
          · obtain rfl : q = k := by omega
            rw [hy.out] at hz
            obtain rfl := Option.some.inj hz
            refine ⟨⟨hA1, hA2⟩, by have := hrn.out; simp only at *; omega, fun a ha => ?_⟩
            obtain ⟨p, hp, rfl⟩ := List.getElem_of_mem ha
            have hp' : p < y.length := hp
            exact HF.out p _ (by have := hrn.out; omega) (List.getElem?_eq_getElem hp)
        clear HE HF
        go_wp2
        go_round
        case rel => exact ⟨k + 1, by omega, by go_num, HE2⟩
        case measure => simp [intOf]; omega
end Go.Proofs.Ythcacepkfdfbnaa
