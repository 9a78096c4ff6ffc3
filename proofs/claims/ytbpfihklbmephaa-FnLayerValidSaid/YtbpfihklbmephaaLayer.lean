/-
  LayerValid of the reference.
-/
import Derived.Test.YtbpfihklbmephaaLayerI
import Derived.Test.YtbpfihklbmephaaPack
import Derived.Test.YtbpfihklbmephaaQuiet
namespace Go.Proofs.Ytbpfihklbmephaa
open Go Go.RowKit Go.Sort
attribute [local go_sem ↓] Go.wp_at_zero Go.wp_at_succ
set_option maxRecDepth 100000 in
set_option maxHeartbeats 16000000 in
theorem s_LayerValid (pw pd : Int) (v : Value) (xs : List Bx) (w : World) (hv : Rds LBx w v xs) :
    Calls Try.prog 17 #[.int .i64 pw, .int .i64 pd, v] w fun e w' => e = .returned (.bool (layerB pw pd xs)) ∧ w.grownBy w' none := by
  obtain ⟨a, n, cap, rfl, h1, hm, HN, HC⟩ := LBx_get hv
  have NO : RowKit.Hid (¬ ((1 ≤ pw ∧ pw ≤ 200) ∧ (1 ≤ pd ∧ pd ≤ 200) ∧ n ≤ 60) → layerB pw pd xs = false) := fun h => layerB_f.2 (fun k => h (by rw [HN.out]; exact k.1))
  cases e0 : sizeB pw pd 1 1 with
  | false =>
    have he := Lib.hid (NO.out (fun h => by
      have q1 : inB pw 1 200 = true := inB_t.2 h.1
      have q2 : inB pd 1 200 = true := inB_t.2 h.2.1
      have q3 : inB 1 1 200 = true := inB_t.2 (by omega)
      unfold sizeB at e0
      rw [q1, q2, q3] at e0
      cases e0))
    go_enter Try.func17, Try.ntmps17
    go_wp2_with (go_at_call 36; refine (size_s _ _ _ _ _).mono ?_; rintro e w' ⟨rfl, rfl⟩)
    go_ret
    exact ⟨by rw [he.out]; rfl, World.grownBy.refl _ _⟩
  | true =>
  by_cases h60 : 60 < n
  · have he := Lib.hid (NO.out (fun h => by have := h.2.2; omega))
    go_enter Try.func17, Try.ntmps17
    go_wp2_with (go_at_call 36; refine (size_s _ _ _ _ _).mono ?_; rintro e w' ⟨rfl, rfl⟩)
    go_ret
    exact ⟨by rw [he.out]; rfl, World.grownBy.refl _ _⟩
  have e1 : inB pw 1 200 = true ∧ inB pd 1 200 = true := by
    unfold sizeB at e0
    simp only [Bool.and_eq_true] at e0
    exact ⟨e0.1.1.1, e0.1.1.2⟩
  obtain ⟨pw1, pw2⟩ := inB_t.1 e1.1
  obtain ⟨pd1, pd2⟩ := inB_t.1 e1.2
  have BAD : RowKit.Hid (∀ (k : Nat) (b : Bx), xs[k]? = some b → ¬ (b.ok ∧ 1 ≤ b.W ∧ 1 ≤ b.D ∧ b.X + b.W ≤ pw ∧ b.Y + b.D ≤ pd) → layerB pw pd xs = false) := fun k b hb h => layerB_f.2 (fun q => h ((bxIn_ok ⟨pw1, pw2⟩ ⟨pd1, pd2⟩ b).1 (q.2.1 k b hb)))
  have MEET : RowKit.Hid (∀ (j k : Nat) (a b : Bx), j < k → xs[j]? = some a → xs[k]? = some b → apartB a b = false → layerB pw pd xs = false) := fun j k a b hj ha hb h => layerB_f.2 (fun q => by have := q.2.2 j k a b hj ha hb; rw [apartB_comm] at this; rw [this] at h; cases h)
  have GOOD : RowKit.Hid ((∀ (k : Nat) (b : Bx), k < n → xs[k]? = some b → (b.ok ∧ 1 ≤ b.W ∧ 1 ≤ b.D ∧ b.X + b.W ≤ pw ∧ b.Y + b.D ≤ pd) ∧ ∀ (j : Nat) (a : Bx), j < k → xs[j]? = some a → apartB a b = true) → layerB pw pd xs = true) := by
    intro h
    have hlt : ∀ (k : Nat) (b : Bx), xs[k]? = some b → k < n := fun k b hb => by rw [HN.out]; exact (List.getElem?_eq_some_iff.1 hb).1
    exact layerB_t.2 ⟨⟨⟨pw1, pw2⟩, ⟨pd1, pd2⟩, by have := HN.out; omega⟩, fun k b hb => (bxIn_ok ⟨pw1, pw2⟩ ⟨pd1, pd2⟩ b).2 (h k b (hlt k b hb) hb).1, fun j k a b hj ha hb => by rw [apartB_comm]; exact (h k b (hlt k b hb) hb).2 j a hj ha⟩
  clear e1
  go_enter Try.func17, Try.ntmps17
  go_wp2_with (go_at_call 36; refine (size_s _ _ _ _ _).mono ?_; rintro e w' ⟨rfl, rfl⟩)
  go_loopw [7, 8] (fun i _ wr => ∃ k : Nat, k ≤ n ∧ i = .int .i64 k ∧ RowKit.Hid (∀ (k' : Nat) (b : Bx), k' < k → xs[k']? = some b → (b.ok ∧ 1 ≤ b.W ∧ 1 ≤ b.D ∧ b.X + b.W ≤ pw ∧ b.Y + b.D ≤ pd) ∧ ∀ (j : Nat) (a : Bx), j < k' → xs[j]? = some a → apartB a b = true) ∧ w.grownBy wr none) (fun i _ _ => n - (intOf i).toNat)
  case atStart => exact ⟨0, by omega, rfl, (fun k' b hk' => by omega), World.grownBy.refl _ _⟩
  case round =>
    obtain ⟨k, hk, rfl, HE, hg⟩ := hrel
    by_cases hlt : k < n
    rotate_left
    · have he := Lib.hid (GOOD.out (fun j b hj hb => HE.out j b (by omega) hb))
      clear HE
      go_wp2
      go_ret
      exact ⟨by rw [he.out]; rfl, hg⟩
    obtain ⟨b, off, x, rfl, hb, hx, c0, c1, c2, c3⟩ := HC.out k hlt
    have c0' := gb_cell hg c0 (by simp)
    have c1' := gb_cell hg c1 (by simp)
    have c2' := gb_cell hg c2 (by simp)
    have c3' := gb_cell hg c3 (by simp)
    have d0 := qcell c0'
    have d1 := qcell c1'
    have d2 := qcell c2'
    have d3 := qcell c3'
    have HG := Lib.hid hg
    clear c0 c1 c2 c3 c0' c1' c2' c3' hg
    have BX := Lib.hid (BAD.out k x hx.out)
    have i0 : (0 : Int) ≤ (k : Int) := by omega
    have i1 : (k : Int) < (n : Int) := by omega
    by_cases hok : x.ok
    rotate_left
    · have he := Lib.hid (BX.out (fun h => hok h.1))
      have CB : RowKit.Hid (∀ W, Calls Try.prog 30 #[.agg #[.int .i64 x.X, .int .i64 x.Y, .int .i64 x.W, .int .i64 x.D]] W fun e w' => e = .returned (.bool false) ∧ W.grownBy w' none) := fun W => l22Box_f x W hok
      clear HE
      go_wp2
      (refine wp_region_quiet_below (by kernel_rfl) (by kernel_rfl) ?_; (repeat (go_big_quiet_step ((with_reducible exact qc (CB.out _))))); refine wpQuiet_nil ?_; intro _ hw'; obtain ⟨⟨dq, osq⟩, hw''⟩ := hw'; subst hw'')
      have G2 := gb_trans HG.out (qg _ dq osq)
      go_wp2
      go_ret
      exact ⟨by rw [he.out]; rfl, G2⟩
    obtain ⟨⟨x1, x2⟩, ⟨y1, y2⟩, ⟨w1', w2'⟩, ⟨d1', d2'⟩⟩ := id hok
    have HOK := Lib.hid hok
    have CB : RowKit.Hid (∀ W, Calls Try.prog 30 #[.agg #[.int .i64 x.X, .int .i64 x.Y, .int .i64 x.W, .int .i64 x.D]] W fun e w' => e = .returned (.bool true) ∧ W.grownBy w' none) := fun W => l22Box_t x W hok
    clear hok
    have s1 : IntKind.i64.wrap (x.X + x.W) = x.X + x.W := IntWalk.i64_in _ (by omega)
    have s2 : IntKind.i64.wrap (x.Y + x.D) = x.Y + x.D := IntWalk.i64_in _ (by omega)
    by_cases hW : x.W < 1
    · have he := Lib.hid (BX.out (fun h => by have := h.2.1; omega))
      have t1 : decide (x.W < 1) = true := by simpa using hW
      clear HE
      go_wp2
      (refine wp_region_quiet_below (by kernel_rfl) (by kernel_rfl) ?_; (repeat (go_big_quiet_step ((with_reducible exact qc (CB.out _))))); refine wpQuiet_nil ?_; intro _ hw'; obtain ⟨⟨dq, osq⟩, hw''⟩ := hw'; subst hw'')
      have G2 := gb_trans HG.out (qg _ dq osq)
      go_wp2
      go_ret
      exact ⟨by rw [he.out]; rfl, G2⟩
    have t1 : decide (x.W < 1) = false := by simpa using hW
    by_cases hD : x.D < 1
    · have he := Lib.hid (BX.out (fun h => by have := h.2.2.1; omega))
      have t2 : decide (x.D < 1) = true := by simpa using hD
      clear HE
      go_wp2
      (refine wp_region_quiet_below (by kernel_rfl) (by kernel_rfl) ?_; (repeat (go_big_quiet_step ((with_reducible exact qc (CB.out _))))); refine wpQuiet_nil ?_; intro _ hw'; obtain ⟨⟨dq, osq⟩, hw''⟩ := hw'; subst hw'')
      have G2 := gb_trans HG.out (qg _ dq osq)
      go_wp2
      go_ret
      exact ⟨by rw [he.out]; rfl, G2⟩
    have t2 : decide (x.D < 1) = false := by simpa using hD
    by_cases hXW : pw < x.X + x.W
    · have he := Lib.hid (BX.out (fun h => by have := h.2.2.2.1; omega))
      have t3 : decide (pw < x.X + x.W) = true := by simpa using hXW
      clear HE
      go_wp2
      (refine wp_region_quiet_below (by kernel_rfl) (by kernel_rfl) ?_; (repeat (go_big_quiet_step ((with_reducible exact qc (CB.out _))))); refine wpQuiet_nil ?_; intro _ hw'; obtain ⟨⟨dq, osq⟩, hw''⟩ := hw'; subst hw'')
      have G2 := gb_trans HG.out (qg _ dq osq)
      go_wp2
      go_ret
      exact ⟨by rw [he.out]; rfl, G2⟩
    have t3 : decide (pw < x.X + x.W) = false := by simpa using hXW
    by_cases hYD : pd < x.Y + x.D
    · have he := Lib.hid (BX.out (fun h => by have := h.2.2.2.2; omega))
      have t4 : decide (pd < x.Y + x.D) = true := by simpa using hYD
      clear HE
      go_wp2
      (refine wp_region_quiet_below (by kernel_rfl) (by kernel_rfl) ?_; (repeat (go_big_quiet_step ((with_reducible exact qc (CB.out _))))); refine wpQuiet_nil ?_; intro _ hw'; obtain ⟨⟨dq, osq⟩, hw''⟩ := hw'; subst hw'')
      have G2 := gb_trans HG.out (qg _ dq osq)
      go_wp2
      go_ret
      exact ⟨by rw [he.out]; rfl, G2⟩
    have t4 : decide (pd < x.Y + x.D) = false := by simpa using hYD
    have hin := Lib.hid (show x.ok ∧ 1 ≤ x.W ∧ 1 ≤ x.D ∧ x.X + x.W ≤ pw ∧ x.Y + x.D ≤ pd from ⟨HOK.out, by omega, by omega, by omega, by omega⟩)
    go_wp2
    (refine wp_region_quiet_below (by kernel_rfl) (by kernel_rfl) ?_; (repeat (go_big_quiet_step ((with_reducible exact qc (CB.out _))))); refine wpQuiet_nil ?_; intro _ hw'; obtain ⟨⟨dq, osq⟩, hw''⟩ := hw'; subst hw'')
    have G2 := gb_trans HG.out (qg _ dq osq)
    clear d0 d1 d2 d3
    generalize grow (redrawn wr dq) osq = wo at *
    go_wp2
    go_loopw [8] (fun i wr => ∃ j : Nat, j ≤ k ∧ i = .int .i64 j ∧ RowKit.Hid (∀ (j' : Nat) (a : Bx), j' < j → xs[j']? = some a → apartB a x = true) ∧ w.grownBy wr none) (fun i _ => k - (intOf i).toNat)
    case atStart => exact ⟨0, by omega, rfl, (fun j' a hj' => by omega), G2⟩
    case round =>
      obtain ⟨j, hj, rfl, HF, hg⟩ := hrel
      clear G2 s1 s2 t1 t2 t3 t4
      by_cases hlt2 : j < k
      rotate_left
      · obtain rfl : j = k := by omega
        have HE2 : RowKit.Hid (∀ (k' : Nat) (b : Bx), k' < j + 1 → xs[k']? = some b → (b.ok ∧ 1 ≤ b.W ∧ 1 ≤ b.D ∧ b.X + b.W ≤ pw ∧ b.Y + b.D ≤ pd) ∧ ∀ (j' : Nat) (a : Bx), j' < k' → xs[j']? = some a → apartB a b = true) := by
          intro k' b hk' hb'
          by_cases hkk : k' < j
          · exact HE.out k' b hkk hb'
          · obtain rfl : k' = j := by omega
            rw [hx.out] at hb'
            obtain rfl := Option.some.inj hb'
            exact ⟨hin.out, HF.out⟩
        clear HE HF
        go_wp2
        go_roundw
        case rel => exact ⟨j + 1, by omega, by go_num, HE2, hg⟩
        case measure => simp [intOf]; omega
      obtain ⟨bb, offb, xb, habb, hbb, hxb, q0, q1, q2, q3⟩ := HC.out k hlt
      obtain ⟨rfl, rfl⟩ : b = bb ∧ off = offb := by simpa using habb
      obtain rfl : x = xb := by have h1 := hxb.out; rw [hx.out] at h1; exact Option.some.inj h1
      obtain ⟨b2, off2, z, hab, hb2, hz, d0, d1, d2, d3⟩ := HC.out j (by omega)
      obtain ⟨rfl, rfl⟩ : b = b2 ∧ off = off2 := by simpa using hab
      have q0' := gb_cell hg q0 (by simp)
      have q1' := gb_cell hg q1 (by simp)
      have q2' := gb_cell hg q2 (by simp)
      have q3' := gb_cell hg q3 (by simp)
      have d0' := gb_cell hg d0 (by simp)
      have d1' := gb_cell hg d1 (by simp)
      have d2' := gb_cell hg d2 (by simp)
      have d3' := gb_cell hg d3 (by simp)
      have z0 := qcell q0'
      have z1 := qcell q1'
      have z2 := qcell q2'
      have z3 := qcell q3'
      have z4 := qcell d0'
      have z5 := qcell d1'
      have z6 := qcell d2'
      have z7 := qcell d3'
      have CA : RowKit.Hid (∀ W, Calls Try.prog 11 #[.agg #[.int .i64 z.X, .int .i64 z.Y, .int .i64 z.W, .int .i64 z.D], .agg #[.int .i64 x.X, .int .i64 x.Y, .int .i64 x.W, .int .i64 x.D]] W fun e w' => e = .returned (.bool (apartB z x)) ∧ W.grownBy w' none) := fun W => s_BoxesApart z x W
      clear q0' q1' q2' q3' d0' d1' d2' d3'
      have HG2 := Lib.hid hg
      have j0 : (0 : Int) ≤ (j : Int) := by omega
      have j1 : (j : Int) < (n : Int) := by omega
      clear hab habb d0 d1 d2 d3 q0 q1 q2 q3 hg
      cases hap : apartB z x with
      | false =>
        have he := Lib.hid (MEET.out j k z x hlt2 hz.out hx.out hap)
        rw [hap] at CA
        have hap' := Lib.hid hap
        clear HE HF hap
        go_wp2
        (refine wp_region_quiet_below (by kernel_rfl) (by kernel_rfl) ?_; (repeat (go_big_quiet_step ((with_reducible exact qc (CA.out _))))); refine wpQuiet_nil ?_; intro _ hw'; obtain ⟨⟨dq, osq⟩, hw''⟩ := hw'; subst hw'')
        have G3 := gb_trans HG2.out (qg _ dq osq)
        go_wp2
        go_ret
        exact ⟨by rw [he.out]; rfl, G3⟩
      | true =>
        have HF2 : RowKit.Hid (∀ (j' : Nat) (a : Bx), j' < j + 1 → xs[j']? = some a → apartB a x = true) := by
          intro j' a hj' ha
          by_cases hjj : j' < j
          · exact HF.out j' a hjj ha
          · obtain rfl : j' = j := by omega
            rw [hz.out] at ha
            obtain rfl := Option.some.inj ha
            exact hap
        rw [hap] at CA
        have hap' := Lib.hid hap
        clear HF hap
        go_wp2
        (refine wp_region_quiet_below (by kernel_rfl) (by kernel_rfl) ?_; (repeat (go_big_quiet_step ((with_reducible exact qc (CA.out _))))); refine wpQuiet_nil ?_; intro _ hw'; obtain ⟨⟨dq, osq⟩, hw''⟩ := hw'; subst hw'')
        have G3 := gb_trans HG2.out (qg _ dq osq)
        go_wp2
        go_roundw
        case rel => exact ⟨j + 1, by omega, by go_num, HF2, G3⟩
        case measure => simp [intOf]; omega
end Go.Proofs.Ytbpfihklbmephaa
