/-
  Contracts of CountEncoder, of the program and of the reference.
-/
import Derived.Test.YtbeihmhiofkjlaaInts
namespace Go.Proofs.Ytbeihmhiofkjlaa
open Go Go.RowKit

/-- The place of a pair of signals in the sequence 0, 1, 3, 2. -/
def place (s : Int) : Int := if s = 3 then 2 else if s = 2 then 3 else s
def turn (p s : Int) : Int := (place s - place p + 4) % 4
def encStep (t : Int × Int × Int) (s : Int) : Int × Int × Int :=
  (s, t.2.1 + (if turn t.1 s = 1 then 1 else if turn t.1 s = 3 then -1 else 0), t.2.2 + (if turn t.1 s = 2 then 1 else 0))
def sigs (xs : List Int) : Prop := ∀ x ∈ xs, 0 ≤ x ∧ x ≤ 3
instance (xs : List Int) : Decidable (sigs xs) := by unfold sigs; infer_instance
def encC (f : Int) (xs : List Int) : Int × Int := if xs.length ≤ 200 ∧ (0 ≤ f ∧ f ≤ 3) ∧ sigs xs then (xs.foldl encStep (f, 0, 0)).2 else (0, 0)
theorem enc_yes {f : Int} {xs : List Int} (h1 : xs.length ≤ 200) (h2 : 0 ≤ f ∧ f ≤ 3) (h3 : sigs xs) : encC f xs = (xs.foldl encStep (f, 0, 0)).2 := by unfold encC; rw [if_pos ⟨h1, h2, h3⟩]
theorem enc_no {f : Int} {xs : List Int} (h : ¬ (xs.length ≤ 200 ∧ (0 ≤ f ∧ f ≤ 3) ∧ sigs xs)) : encC f xs = (0, 0) := by unfold encC; rw [if_neg h]
/-- What the loop holds after k samples: the last sample, the count, the errors. -/
def encAt (f : Int) (xs : List Int) (k : Nat) : Int × Int × Int := (xs.take k).foldl encStep (f, 0, 0)
theorem encAt_zero (f : Int) (xs : List Int) : encAt f xs 0 = (f, 0, 0) := rfl
theorem encAt_succ (f : Int) (xs : List Int) (k : Nat) (hk : k < xs.length) : encAt f xs (k + 1) = encStep (encAt f xs k) (xs.getD k 0) := by
  unfold encAt
  rw [List.take_succ_eq_append_getElem hk, List.foldl_append, show xs.getD k 0 = xs[k] by simp [hk]]
  rfl
theorem encAt_last (f : Int) (xs : List Int) : encAt f xs xs.length = xs.foldl encStep (f, 0, 0) := by unfold encAt; rw [List.take_length]
theorem encStep_1 (p c b s : Int) : encStep (p, c, b) s = (s, c + (if turn p s = 1 then 1 else if turn p s = 3 then -1 else 0), b + (if turn p s = 2 then 1 else 0)) := rfl
/-- The state after k samples, with its bounds. -/
theorem enc_bd (f : Int) (xs : List Int) (hf : 0 ≤ f ∧ f ≤ 3) : ∀ k, k ≤ xs.length → (∀ j, j < k → 0 ≤ xs.getD j 0 ∧ xs.getD j 0 ≤ 3) →
    ∃ p c b : Int, encAt f xs k = (p, c, b) ∧ (0 ≤ p ∧ p ≤ 3) ∧ (-(k : Int) ≤ c ∧ c ≤ k) ∧ (0 ≤ b ∧ b ≤ k)
  | 0, _, _ => ⟨f, 0, 0, rfl, hf, by omega, by omega⟩
  | k + 1, hk, h => by
    obtain ⟨p, c, b, e, hp, hc, hb⟩ := enc_bd f xs hf k (by omega) (fun j hj => h j (by omega))
    refine ⟨_, _, _, by rw [encAt_succ f xs k (by omega), e, encStep_1], h k (by omega), ?_, ?_⟩
    · split
      · omega
      · split <;> omega
    · split <;> omega
theorem sig_at {xs : List Int} (h : sigs xs) (k : Nat) (hk : k < xs.length) : 0 ≤ xs.getD k 0 ∧ xs.getD k 0 ≤ 3 := by
  rw [show xs.getD k 0 = xs[k] by simp [hk]]
  exact h _ (List.getElem_mem hk)
theorem sigs_all {xs : List Int} (h : ∀ k, k < xs.length → 0 ≤ xs.getD k 0 ∧ xs.getD k 0 ≤ 3) : sigs xs := by
  intro x hx
  obtain ⟨k, hk, rfl⟩ := List.getElem_of_mem hx
  have := h k hk
  rwa [show xs.getD k 0 = xs[k] by simp [hk]] at this
def CountPost (c : Int × Int) (w : World) (e : Ending) (w' : World) : Prop := e = .returned (.tuple #[.int .i64 c.1, .int .i64 c.2]) ∧ w.grownBy w' none

set_option maxHeartbeats 4000000 in
theorem i_CountEncoder (f : Int) (v : Value) (xs : List Int) (w : World) (hv : Ints w v xs) :
    Calls Try.prog 26 #[.int .i64 f, v] w (CountPost (encC f xs) w) := by
  have hv0 := Lib.hid hv
  obtain ⟨a, n, cap, rfl, h1, hm, HN, HC⟩ := hv.get
  clear hv
  by_cases hl : 200 < n
  · rw [enc_no (fun h => by have := HN.out; omega)]
    go_enter Try.func26, Try.ntmps26
    go_wp2
    go_ret2
    exact ⟨rfl, World.grownBy.refl _ _⟩
  by_cases hf : 0 ≤ f ∧ f ≤ 3
  rotate_left
  · rw [enc_no (fun h => hf h.2.1)]
    go_enter Try.func26, Try.ntmps26
    go_wp2_with (go_at_call 37; refine (within_f _ _ _ _ hf).mono ?_; rintro e w' ⟨rfl, rfl⟩)
    go_ret2
    exact ⟨rfl, World.grownBy.refl _ _⟩
  have HF := Lib.hid hf
  obtain ⟨f0, f3⟩ := hf
  have hl' : n ≤ 200 := by omega
  clear hl
  go_enter Try.func26, Try.ntmps26
  go_wp2
  go_loopw [0, 7, 8, 22] (fun p c q i wr => ∃ (k m : Nat) (P C E : Int), k ≤ n ∧ i = .int .i64 k ∧ p = .int .i64 P ∧ c = .int .i64 C ∧ q = .int .i64 E ∧ RowKit.Hid (encAt f xs k = (P, C, E) ∧ ∀ j, j < k → 0 ≤ xs.getD j 0 ∧ xs.getD j 0 ≤ 3) ∧
    wr = (w.alloc (.cells #[.int .i64 0, .int .i64 1, .int .i64 3, .int .i64 2] 47)).drewN m) (fun _ _ _ i _ => n - (intOf i).toNat)
  case atStart => exact ⟨0, 0, f, 0, 0, by omega, rfl, rfl, rfl, rfl, ⟨rfl, fun j hj => by omega⟩, rfl⟩
  case round =>
    obtain ⟨k, m, P, C, E, hk, rfl, rfl, rfl, rfl, HE, rfl⟩ := hrel
    obtain ⟨bP, bC, bE⟩ : (0 ≤ P ∧ P ≤ 3) ∧ (-(k : Int) ≤ C ∧ C ≤ k) ∧ (0 ≤ E ∧ E ≤ k) := by
      obtain ⟨p', c', b', e, h⟩ := enc_bd f xs HF.out k (by rw [← HN.out]; exact hk) HE.out.2
      rw [HE.out.1] at e
      obtain ⟨rfl, e2⟩ := Prod.mk.inj e
      obtain ⟨rfl, rfl⟩ := Prod.mk.inj e2
      exact h
    obtain ⟨bP0, bP3⟩ := bP
    obtain ⟨bC0, bC1⟩ := bC
    obtain ⟨bE0, bE1⟩ := bE
    by_cases hlt : k < n
    · obtain ⟨b, off, x, rfl, hc, hx, hb⟩ := HC.out k hlt
      by_cases hok : 0 ≤ x ∧ x ≤ 3
      · have HS : RowKit.Hid (encAt f xs (k + 1) = encStep (P, C, E) x ∧ ∀ j, j < k + 1 → 0 ≤ xs.getD j 0 ∧ xs.getD j 0 ≤ 3) := by
          refine ⟨by rw [encAt_succ f xs k (by rw [← HN.out]; exact hlt), HE.out.1, hx.out], fun j hj => ?_⟩
          by_cases hjk : j < k
          · exact HE.out.2 j hjk
          · obtain rfl : j = k := by omega
            rw [← hx.out]; exact hok
        clear HE hx
        rcases (show P = 0 ∨ P = 1 ∨ P = 2 ∨ P = 3 from by omega) with rfl | rfl | rfl | rfl <;> rcases (show x = 0 ∨ x = 1 ∨ x = 2 ∨ x = 3 from by omega) with rfl | rfl | rfl | rfl
        all_goals
          go_wp2
          go_quiet (fail)
          go_wp2
          go_roundw
          case rel => exact ⟨k + 1, _, _, _, _, by omega, by go_num, rfl, rfl, rfl, ⟨HS.out.1.trans (by simp [encStep, turn, place] <;> omega), HS.out.2⟩, rfl⟩
          case measure => simp [intOf]; omega
      · have hbad : encC f xs = (0, 0) := enc_no (fun h => hok (by rw [hx.out]; exact sig_at h.2.2 k (by rw [← HN.out]; exact hlt)))
        have HBad := Lib.hid hbad
        clear HE hx hbad
        go_wp2_with (go_at_call 37; refine (within_f _ _ _ _ hok).mono ?_; rintro e w' ⟨rfl, rfl⟩)
        go_ret2
        exact ⟨by rw [HBad.out]; rfl, gb_drewN (World.grownBy_alloc _ _ _) m⟩
    · have hkn : k = n := by omega
      have hfin : encC f xs = (C, E) := by
        rw [enc_yes (by rw [← HN.out]; omega) HF.out (sigs_all (fun j hj => HE.out.2 j (by rw [hkn, HN.out]; exact hj))), ← encAt_last, ← HN.out, ← hkn, HE.out.1]
      have HFin := Lib.hid hfin
      clear HE hkn hfin
      go_wp2
      go_ret2
      exact ⟨by rw [HFin.out]; rfl, gb_drewN (World.grownBy_alloc _ _ _) m⟩
theorem l25Place_any (s : Int) (w : World) (h : 0 ≤ s ∧ s ≤ 3) : Calls Try.prog 41 #[.int .i64 s] w fun e w' => e = .returned (.int .i64 (place s)) ∧ w.grownBy w' none := by
  rcases (show s = 0 ∨ s = 1 ∨ s = 2 ∨ s = 3 from by omega) with rfl | rfl | rfl | rfl
  all_goals
    go_enter Try.func41, Try.ntmps41
    go_wp2
    go_ret
    exact ⟨rfl, World.grownBy_alloc _ _ _⟩

set_option maxHeartbeats 4000000 in
theorem s_CountEncoder (f : Int) (v : Value) (xs : List Int) (w : World) (hv : Ints w v xs) :
    Calls Try.prog 24 #[.int .i64 f, v] w (CountPost (encC f xs) w) := by
  have hv0 := Lib.hid hv
  obtain ⟨a, n, cap, rfl, h1, hm, HN, HC⟩ := hv.get
  clear hv
  by_cases hf : 0 ≤ f ∧ f ≤ 3
  rotate_left
  · rw [enc_no (fun h => hf h.2.1)]
    go_enter Try.func24, Try.ntmps24
    go_wp2_with (go_at_call 36; refine (in_f _ _ _ _ hf).mono ?_; rintro e w' ⟨rfl, rfl⟩)
    go_ret2
    exact ⟨rfl, World.grownBy.refl _ _⟩
  by_cases hl : 200 < n
  · rw [enc_no (fun h => by have := HN.out; omega)]
    obtain ⟨f0, f3⟩ := hf
    go_enter Try.func24, Try.ntmps24
    go_wp2
    go_ret2
    exact ⟨rfl, World.grownBy.refl _ _⟩
  have HF := Lib.hid hf
  obtain ⟨f0, f3⟩ := hf
  have hl' : n ≤ 200 := by omega
  clear hl
  go_enter Try.func24, Try.ntmps24
  go_wp2
  go_loopw [6, 7, 8, 9] (fun c q p i wr => ∃ (k : Nat) (P C E : Int), k ≤ n ∧ i = .int .i64 k ∧ p = .int .i64 P ∧ c = .int .i64 C ∧ q = .int .i64 E ∧ RowKit.Hid (encAt f xs k = (P, C, E) ∧ ∀ j, j < k → 0 ≤ xs.getD j 0 ∧ xs.getD j 0 ≤ 3) ∧
    w.grownBy wr none) (fun _ _ _ i _ => n - (intOf i).toNat)
  case atStart => exact ⟨0, f, 0, 0, by omega, rfl, rfl, rfl, rfl, ⟨rfl, fun j hj => by omega⟩, World.grownBy.refl _ _⟩
  case round =>
    obtain ⟨k, P, C, E, hk, rfl, rfl, rfl, rfl, HE, hgr⟩ := hrel
    obtain ⟨bP, bC, bE⟩ : (0 ≤ P ∧ P ≤ 3) ∧ (-(k : Int) ≤ C ∧ C ≤ k) ∧ (0 ≤ E ∧ E ≤ k) := by
      obtain ⟨p', c', b', e, h⟩ := enc_bd f xs HF.out k (by rw [← HN.out]; exact hk) HE.out.2
      rw [HE.out.1] at e
      obtain ⟨rfl, e2⟩ := Prod.mk.inj e
      obtain ⟨rfl, rfl⟩ := Prod.mk.inj e2
      exact h
    obtain ⟨bC0, bC1⟩ := bC
    obtain ⟨bE0, bE1⟩ := bE
    by_cases hlt : k < n
    · obtain ⟨b, off, x, rfl, hc, hx, hb⟩ := HC.out k hlt
      have hc' := gb_cell hgr hc (by simp)
      have hb' : b < wr.heap.size := Nat.lt_of_lt_of_le hb hgr.size
      have hb1 : b < wr.heap.size + 1 := by omega
      have hb2 : b < wr.heap.size + 1 + 1 := by omega
      have hb3 : b < wr.heap.size + 1 + 1 + 1 := by omega
      by_cases hok : 0 ≤ x ∧ x ≤ 3
      · have HS : RowKit.Hid (encAt f xs (k + 1) = encStep (P, C, E) x ∧ ∀ j, j < k + 1 → 0 ≤ xs.getD j 0 ∧ xs.getD j 0 ≤ 3) := by
          refine ⟨by rw [encAt_succ f xs k (by rw [← HN.out]; exact hlt), HE.out.1, hx.out], fun j hj => ?_⟩
          by_cases hjk : j < k
          · exact HE.out.2 j hjk
          · obtain rfl : j = k := by omega
            rw [← hx.out]; exact hok
        have HG := Lib.hid hgr
        clear HE hx hgr hc
        rcases (show P = 0 ∨ P = 1 ∨ P = 2 ∨ P = 3 from by omega) with rfl | rfl | rfl | rfl <;> rcases (show x = 0 ∨ x = 1 ∨ x = 2 ∨ x = 3 from by omega) with rfl | rfl | rfl | rfl
        all_goals
          go_wp2
          go_roundw
          case rel => exact ⟨k + 1, _, _, _, by omega, by go_num, rfl, rfl, rfl, ⟨HS.out.1.trans (by simp [encStep, turn, place] <;> omega), HS.out.2⟩, by repeat (first | exact HG.out | apply gb_alloc)⟩
          case measure => simp [intOf]; omega
      · have hbad : encC f xs = (0, 0) := enc_no (fun h => hok (by rw [hx.out]; exact sig_at h.2.2 k (by rw [← HN.out]; exact hlt)))
        have HBad := Lib.hid hbad
        have HG := Lib.hid hgr
        clear HE hx hgr hc hbad
        go_wp2_with (go_at_call 36; refine (in_f _ _ _ _ hok).mono ?_; rintro e w' ⟨rfl, rfl⟩)
        go_ret2
        exact ⟨by rw [HBad.out]; rfl, HG.out⟩
    · have hkn : k = n := by omega
      have hfin : encC f xs = (C, E) := by
        rw [enc_yes (by rw [← HN.out]; omega) HF.out (sigs_all (fun j hj => HE.out.2 j (by rw [hkn, HN.out]; exact hj))), ← encAt_last, ← HN.out, ← hkn, HE.out.1]
      have HFin := Lib.hid hfin
      have HG := Lib.hid hgr
      clear HE hkn hfin hgr
      go_wp2
      go_ret2
      exact ⟨by rw [HFin.out]; rfl, HG.out⟩
end Go.Proofs.Ytbeihmhiofkjlaa
