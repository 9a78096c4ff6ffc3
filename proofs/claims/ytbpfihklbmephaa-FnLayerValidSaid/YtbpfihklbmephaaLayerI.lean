/-
  LayerValid: both programs ask the same of a layer.
-/
import Derived.Test.YtbpfihklbmephaaApart
namespace Go.Proofs.Ytbpfihklbmephaa
open Go Go.RowKit
def bxIn (pw pd : Int) (b : Bx) : Prop := (0 ≤ b.X ∧ b.X ≤ pw) ∧ (0 ≤ b.Y ∧ b.Y ≤ pd) ∧ (1 ≤ b.W ∧ b.W ≤ pw - b.X) ∧ (1 ≤ b.D ∧ b.D ≤ pd - b.Y)
def layerOk (pw pd : Int) (xs : List Bx) : Prop := ((1 ≤ pw ∧ pw ≤ 200) ∧ (1 ≤ pd ∧ pd ≤ 200) ∧ xs.length ≤ 60) ∧ (∀ (k : Nat) (b : Bx), xs[k]? = some b → bxIn pw pd b) ∧ ∀ (j k : Nat) (a b : Bx), j < k → xs[j]? = some a → xs[k]? = some b → apartB b a = true
open Classical in
noncomputable def layerB (pw pd : Int) (xs : List Bx) : Bool := decide (layerOk pw pd xs)
theorem layerB_t {pw pd : Int} {xs : List Bx} : layerB pw pd xs = true ↔ layerOk pw pd xs := by simp [layerB]
theorem layerB_f {pw pd : Int} {xs : List Bx} : layerB pw pd xs = false ↔ ¬ layerOk pw pd xs := by simp [layerB]
theorem apartB_comm (a b : Bx) : apartB a b = apartB b a := by
  unfold apartB
  congr 1
  apply propext
  unfold Bx.off
  constructor
  · rintro ⟨h1, h2, h3⟩; exact ⟨h2, h1, by omega⟩
  · rintro ⟨h1, h2, h3⟩; exact ⟨h2, h1, by omega⟩
theorem bxIn_ok {pw pd : Int} (h1 : 1 ≤ pw ∧ pw ≤ 200) (h2 : 1 ≤ pd ∧ pd ≤ 200) (b : Bx) : bxIn pw pd b ↔ b.ok ∧ 1 ≤ b.W ∧ 1 ≤ b.D ∧ b.X + b.W ≤ pw ∧ b.Y + b.D ≤ pd := by
  unfold bxIn Bx.ok
  omega
set_option maxHeartbeats 4000000 in
theorem i_LayerValid (pw pd : Int) (v : Value) (xs : List Bx) (w : World) (hv : Rds LBx w v xs) :
    Calls Try.prog 19 #[.int .i64 pw, .int .i64 pd, v] w fun e w' => e = .returned (.bool (layerB pw pd xs)) ∧ w.grownBy w' none := by
  obtain ⟨a, n, cap, rfl, h1, hm, HN, HC⟩ := LBx_get hv
  have NO : RowKit.Hid (¬ ((1 ≤ pw ∧ pw ≤ 200) ∧ (1 ≤ pd ∧ pd ≤ 200) ∧ n ≤ 60) → layerB pw pd xs = false) := fun h => layerB_f.2 (fun k => h (by rw [HN.out]; exact k.1))
  cases e1 : inB pw 1 200 with
  | false =>
    have he := Lib.hid (NO.out (fun h => inB_f.1 e1 h.1))
    go_enter Try.func19, Try.ntmps19
    go_wp2_with (go_at_call 31; refine (within_b _ _ _ _).mono ?_; rintro e w' ⟨rfl, rfl⟩)
    go_ret
    exact ⟨by rw [he.out]; rfl, World.grownBy.refl _ _⟩
  | true =>
  cases e2 : inB pd 1 200 with
  | false =>
    have he := Lib.hid (NO.out (fun h => inB_f.1 e2 h.2.1))
    go_enter Try.func19, Try.ntmps19
    go_wp2_with (go_at_call 31; refine (within_b _ _ _ _).mono ?_; rintro e w' ⟨rfl, rfl⟩)
    go_ret
    exact ⟨by rw [he.out]; rfl, World.grownBy.refl _ _⟩
  | true =>
  by_cases h60 : 60 < n
  · have he := Lib.hid (NO.out (fun h => by have := h.2.2; omega))
    go_enter Try.func19, Try.ntmps19
    go_wp2_with (go_at_call 31; refine (within_b _ _ _ _).mono ?_; rintro e w' ⟨rfl, rfl⟩)
    go_ret
    exact ⟨by rw [he.out]; rfl, World.grownBy.refl _ _⟩
  obtain ⟨pw1, pw2⟩ := inB_t.1 e1
  obtain ⟨pd1, pd2⟩ := inB_t.1 e2
  have BAD : RowKit.Hid (∀ (k : Nat) (b : Bx), xs[k]? = some b → ¬ bxIn pw pd b → layerB pw pd xs = false) := fun k b hb h => layerB_f.2 (fun q => h (q.2.1 k b hb))
  have MEET : RowKit.Hid (∀ (j k : Nat) (a b : Bx), j < k → xs[j]? = some a → xs[k]? = some b → apartB b a = false → layerB pw pd xs = false) := fun j k a b hj ha hb h => layerB_f.2 (fun q => by rw [q.2.2 j k a b hj ha hb] at h; cases h)
  have GOOD : RowKit.Hid ((∀ (k : Nat) (b : Bx), k < n → xs[k]? = some b → bxIn pw pd b ∧ ∀ (j : Nat) (a : Bx), j < k → xs[j]? = some a → apartB b a = true) → layerB pw pd xs = true) := by
    intro h
    have hlt : ∀ (k : Nat) (b : Bx), xs[k]? = some b → k < n := fun k b hb => by rw [HN.out]; exact (List.getElem?_eq_some_iff.1 hb).1
    exact layerB_t.2 ⟨⟨⟨pw1, pw2⟩, ⟨pd1, pd2⟩, by have := HN.out; omega⟩, fun k b hb => (h k b (hlt k b hb) hb).1, fun j k a b hj ha hb => (h k b (hlt k b hb) hb).2 j a hj ha⟩
  go_enter Try.func19, Try.ntmps19
  go_wp2_with (go_at_call 31; refine (within_b _ _ _ _).mono ?_; rintro e w' ⟨rfl, rfl⟩)
  go_loopw [7, 8, 10, 26, 67] (fun _ _ _ i _ wr => ∃ k : Nat, k ≤ n ∧ i = .int .i64 k ∧ RowKit.Hid (∀ (k' : Nat) (b : Bx), k' < k → xs[k']? = some b → bxIn pw pd b ∧ ∀ (j : Nat) (a : Bx), j < k' → xs[j]? = some a → apartB b a = true) ∧ w.grownBy wr none) (fun _ _ _ i _ _ => n - (intOf i).toNat)
  case atStart => exact ⟨0, by omega, rfl, (fun k' b hk' => by omega), World.grownBy.refl _ _⟩
  case round =>
    obtain ⟨k, hk, rfl, HE, hg⟩ := hrel
    by_cases hlt : k < n
    rotate_left
    · have he := Lib.hid (GOOD.out (fun j b hj hb => HE.out j b (by omega) hb))
      clear HE
      go_wp2
      go_ret
      exact ⟨by rw [he.out]; rfl, hg⟩
    obtain ⟨b, off, x, rfl, hb, hx, c0, c1, c2, c3⟩ := HC.out k hlt
    have c0' := gb_cell hg c0 (by simp)
    have c1' := gb_cell hg c1 (by simp)
    have c2' := gb_cell hg c2 (by simp)
    have c3' := gb_cell hg c3 (by simp)
    have G1 := Lib.hid (gb_alloc hg (.cells #[.int .i64 x.X, .int .i64 x.Y, .int .i64 x.W, .int .i64 x.D] 25))
    clear c0 c1 c2 c3 hg
    have BX := Lib.hid (BAD.out k x hx.out)
    cases f1 : inB x.X 0 pw with
    | false =>
      have he := Lib.hid (BX.out (fun h => inB_f.1 f1 h.1))
      clear HE
      go_wp2_with (go_at_call 31; refine (within_b _ _ _ _).mono ?_; rintro e w' ⟨rfl, rfl⟩)
      go_ret
      exact ⟨by rw [he.out]; rfl, G1.out⟩
    | true =>
    obtain ⟨x1, x2⟩ := inB_t.1 f1
    cases f2 : inB x.Y 0 pd with
    | false =>
      have he := Lib.hid (BX.out (fun h => inB_f.1 f2 h.2.1))
      clear HE
      go_wp2_with (go_at_call 31; refine (within_b _ _ _ _).mono ?_; rintro e w' ⟨rfl, rfl⟩)
      go_ret
      exact ⟨by rw [he.out]; rfl, G1.out⟩
    | true =>
    obtain ⟨y1, y2⟩ := inB_t.1 f2
    cases f3 : inB x.W 1 (pw - x.X) with
    | false =>
      have he := Lib.hid (BX.out (fun h => inB_f.1 f3 h.2.2.1))
      clear HE
      go_wp2_with (go_at_call 31; refine (within_b _ _ _ _).mono ?_; rintro e w' ⟨rfl, rfl⟩)
      go_ret
      exact ⟨by rw [he.out]; rfl, G1.out⟩
    | true =>
    cases f4 : inB x.D 1 (pd - x.Y) with
    | false =>
      have he := Lib.hid (BX.out (fun h => inB_f.1 f4 h.2.2.2))
      clear HE
      go_wp2_with (go_at_call 31; refine (within_b _ _ _ _).mono ?_; rintro e w' ⟨rfl, rfl⟩)
      go_ret
      exact ⟨by rw [he.out]; rfl, G1.out⟩
    | true =>
    have hin := Lib.hid (show bxIn pw pd x from ⟨⟨x1, x2⟩, ⟨y1, y2⟩, inB_t.1 f3, inB_t.1 f4⟩)
    obtain ⟨H8, hH8⟩ : ∃ H8, H8 = wr.heap.size := ⟨_, rfl⟩
    have hB0 : (wr.alloc (.cells #[.int .i64 x.X, .int .i64 x.Y, .int .i64 x.W, .int .i64 x.D] 25)).heap[H8]? = some (.cells #[.int .i64 x.X, .int .i64 x.Y, .int .i64 x.W, .int .i64 x.D] 25 (0, 0)) := by rw [hH8]; exact heap_alloc_new wr _
    have HB0 := Lib.hid hB0
    have HH8 := Lib.hid hH8
    clear hB0 hH8
    go_wp2_with (go_at_call 31; refine (within_b _ _ _ _).mono ?_; rintro e w' ⟨rfl, rfl⟩)
    clear c0' c1' c2' c3'
    rw [← HH8.out]
    obtain ⟨wo, rfl⟩ : ∃ wo : World, wo = wr := ⟨_, rfl⟩
    go_loopw [10, 67] (fun _ i wr' => ∃ j : Nat, j ≤ k ∧ i = .int .i64 j ∧ RowKit.Hid (∀ (j' : Nat) (a : Bx), j' < j → xs[j']? = some a → apartB x a = true) ∧ w.grownBy wr' none ∧ wr'.heap[H8]? = some (.cells #[.int .i64 x.X, .int .i64 x.Y, .int .i64 x.W, .int .i64 x.D] 25 (0, 0))) (fun _ i _ => k - (intOf i).toNat)
    case atStart => exact ⟨0, by omega, rfl, (fun j' a hj' => by omega), G1.out, HB0.out⟩
    case round =>
      obtain ⟨j, hj, rfl, HF, hg, hB⟩ := hrel
      have HBh := Lib.hid hB
      by_cases hlt2 : j < k
      rotate_left
      · obtain rfl : j = k := by omega
        have HE2 : RowKit.Hid (∀ (k' : Nat) (b : Bx), k' < j + 1 → xs[k']? = some b → bxIn pw pd b ∧ ∀ (j' : Nat) (a : Bx), j' < k' → xs[j']? = some a → apartB b a = true) := by
          intro k' b hk' hb'
          by_cases hkk : k' < j
          · exact HE.out k' b hkk hb'
          · obtain rfl : k' = j := by omega
            rw [hx.out] at hb'
            obtain rfl := Option.some.inj hb'
            exact ⟨hin.out, HF.out⟩
        clear HE HF hB
        go_wp2
        go_roundw
        case rel => exact ⟨j + 1, by omega, by go_num, HE2, hg⟩
        case measure => simp [intOf]; omega
      obtain ⟨b2, off2, z, hab, hb2, hz, d0, d1, d2, d3⟩ := HC.out j (by omega)
      obtain ⟨rfl, rfl⟩ : b = b2 ∧ off = off2 := by simpa using hab
      have d0' := gb_cell hg d0 (by simp)
      have d1' := gb_cell hg d1 (by simp)
      have d2' := gb_cell hg d2 (by simp)
      have d3' := gb_cell hg d3 (by simp)
      have k0 : wr.cell? ⟨H8, 0, none⟩ = some (.int .i64 x.X) := by simp [World.cell?, hB]
      have k1 : wr.cell? ⟨H8, 1, none⟩ = some (.int .i64 x.Y) := by simp [World.cell?, hB]
      have k2 : wr.cell? ⟨H8, 2, none⟩ = some (.int .i64 x.W) := by simp [World.cell?, hB]
      have k3 : wr.cell? ⟨H8, 3, none⟩ = some (.int .i64 x.D) := by simp [World.cell?, hB]
      have hH8l : H8 < wr.heap.size := lt_of_block hB
      have G2 := Lib.hid (gb_alloc hg (.cells #[.int .i64 z.X, .int .i64 z.Y, .int .i64 z.W, .int .i64 z.D] 25))
      have HB2 := Lib.hid (gb_heap (World.grownBy_alloc wr (.cells #[.int .i64 z.X, .int .i64 z.Y, .int .i64 z.W, .int .i64 z.D] 25) none) hB (by simp))
      clear hab d0 d1 d2 d3 hB hg
      cases hap : apartB x z with
      | false =>
        have he := Lib.hid (MEET.out j k z x hlt2 hz.out hx.out hap)
        clear HE HF
        go_wp2_with (go_at_call 13; refine (i_BoxesApart x z _).mono ?_; rintro e w2 ⟨rfl, g2⟩; rw [hap])
        go_ret
        exact ⟨by rw [he.out]; rfl, gb_trans G2.out g2⟩
      | true =>
        have HF2 : RowKit.Hid (∀ (j' : Nat) (a : Bx), j' < j + 1 → xs[j']? = some a → apartB x a = true) := by
          intro j' a hj' ha
          by_cases hjj : j' < j
          · exact HF.out j' a hjj ha
          · obtain rfl : j' = j := by omega
            rw [hz.out] at ha
            obtain rfl := Option.some.inj ha
            exact hap
        clear HF
        go_wp2_with (go_at_call 13; refine (i_BoxesApart x z _).mono ?_; rintro e w2 ⟨rfl, g2⟩; rw [hap])
        have G3 := gb_trans G2.out g2
        have HB3 := gb_heap g2 HB2.out (by simp)
        clear g2
        go_roundw
        case rel => exact ⟨j + 1, by omega, by go_num, HF2, G3, HB3⟩
        case measure => simp [intOf]; omega
end Go.Proofs.Ytbpfihklbmephaa
