/-
  ClaimsValid: both programs; atMost and l19Enough; the closures of FinishOrder.
-/
import Derived.Test.YtpbihjkfbbmdjaaClaims
namespace Go.Proofs.Ytpbihjkfbbmdjaa
open Go Go.RowKit
set_option maxHeartbeats 1000000 in
theorem clmPred_s (q : Nat) (a : Option Addr) (m c : Nat) (W : World) (hq : q < W.heap.size) (hcell : W.cell? ⟨q, 0, none⟩ = some (.slice a m c)) (ra : Option Addr) (rn rc : Nat) (sa : Option Addr) (sn sc : Nat) (y z : List Int) (hy : Rds LI W (.slice ra rn rc) y) (hz : Rds LI W (.slice sa sn sc) z) :
    Calls Try.prog 47 #[.agg #[.slice ra rn rc, .slice sa sn sc], .pointer (some ⟨q, 0, none⟩)] W fun e w' => e = .returned (.bool (!clmB m ⟨y, z⟩)) ∧ W.grownBy w' none := by
  have g0 := gb_alloc (World.grownBy.refl W none) (.cells #[.slice ra rn rc, .slice sa sn sc] 43)
  have hne : q ≠ W.heap.size := by omega
  have hy' := hy.kept g0
  have hz' := hz.kept g0
  have c0 := gb_cell g0 hcell (by simp)
  have c1 : (W.alloc (.cells #[.slice ra rn rc, .slice sa sn sc] 43)).cell? ⟨W.heap.size, 1, none⟩ = some (.slice sa sn sc) := by simp [go_sem]
  unfold clmB
  generalize hq1 : (decide (y.length = m) && amtB y) = q1
  generalize hq2 : (decide (z.length = m) && amtB z) = q2
  have H1 := i_amounts _ y m _ hy'
  rw [hq1] at H1
  have H2 : RowKit.Hid (∀ w1 : World, Rds LI w1 (.slice sa sn sc) z → Calls Try.prog 39 #[.slice sa sn sc, .int .i64 m] w1 fun e w' => e = .returned (.bool q2) ∧ w1.grownBy w' none) := fun w1 hz1 => by
    rw [← hq2]; exact i_amounts _ z m _ hz1
  clear hq1 hq2 hy hz hy'
  go_enter Try.func47, Try.ntmps47
  go_wp2_with fail
  refine H1.mono ?_
  rintro e w1 ⟨rfl, g1⟩
  have c0' := gb_cell g1 c0 (by simp)
  have c1' := gb_cell g1 c1 (by simp)
  have g2 := gb_trans g0 g1
  clear c0 c1 H1 hcell
  have hz1 := hz'.kept g1
  cases q1 with
  | false =>
    go_wp2_with fail
    go_ret
    exact ⟨by simp, g2⟩
  | true =>
    go_wp2_with fail
    refine (H2.out _ hz1).mono ?_
    rintro e w2 ⟨rfl, g3⟩
    go_wp2_with fail
    go_ret
    exact ⟨by simp, gb_trans g2 g3⟩
set_option maxHeartbeats 1000000 in
theorem conClm_s (v : Value) (cs : List Clm) (q : Nat) (a : Option Addr) (m c : Nat) (w : World) (hv : DRds LClm DClm w v cs) (hq : q < w.heap.size) (hcell : w.cell? ⟨q, 0, none⟩ = some (.slice a m c)) :
    Calls Try.prog 46 #[v, .func (.func 47) #[] #[.pointer (some ⟨q, 0, none⟩)]] w fun e w' => e = .returned (.bool (!cs.all (clmB m))) ∧ w.grownBy w' none := by
  have H := idxClm_s 47 #[.pointer (some ⟨q, 0, none⟩)] (enters_of Try.func47 (by kernel_rfl) rfl) (fun x => !clmB m x) v cs w hv
    (fun W ra rn rc sa sn sc y z hg hy hz _ => clmPred_s q a m c W (Nat.lt_of_lt_of_le hq hg.size) (gb_cell hg hcell (by simp)) ra rn rc sa sn sc y z hy hz)
  have e : (!cs.all (clmB m)) = decide (0 ≤ firstI (fun x => !clmB m x) cs) := by rw [firstI_any]; simp [List.all_eq_not_any_not]
  rw [e]
  generalize firstI (fun x => !clmB m x) cs = r at H ⊢
  clear e hv
  go_enter Try.func46, Try.ntmps46
  go_wp2_with (go_at_call 32; refine H.mono ?_; rintro e w' ⟨rfl, hb'⟩)
  go_ret
  exact ⟨rfl, hb'⟩
set_option maxHeartbeats 1000000 in
theorem i_ClaimsValid (v u : Value) (cs : List Clm) (fr : List Int) (w : World) (hv : DRds LClm DClm w v cs) (hu : Rds LI w u fr) :
    Calls Try.prog 28 #[v, u] w fun e w' => e = .returned (.bool (claimsB cs fr)) ∧ w.grownBy w' none := by
  obtain ⟨a, n, cap, rfl, h1, hm, HN, -⟩ := hv.clms
  obtain ⟨a', m, cap', rfl, h1', hm', HM, -⟩ := LI_get hu
  have g0 := gb_alloc (World.grownBy.refl w none) (.cells #[.slice a' m cap'] 23)
  have hv' := hv.kept g0
  have H1 := i_amounts _ fr m _ (hu.kept g0)
  have c0 : (w.alloc (.cells #[.slice a' m cap'] 23)).cell? ⟨w.heap.size, 0, none⟩ = some (.slice a' m cap') := by simp [go_sem]
  have hlt : w.heap.size < (w.alloc (.cells #[.slice a' m cap'] 23)).heap.size := by simp
  have HQ : RowKit.Hid (claimsB cs fr = (decide (n ≤ 6) && (decide (m ≤ 4) && (amtB fr && cs.all (clmB m))))) := by
    show _ = _
    unfold claimsB; rw [← HN.out, ← HM.out]
  rw [HQ.out]
  have e1 : (decide (fr.length = m) && amtB fr) = amtB fr := by rw [← HM.out]; simp
  rw [e1] at H1
  have CON : RowKit.Hid (∀ w1 : World, (w.alloc (.cells #[.slice a' m cap'] 23)).grownBy w1 none → Calls Try.prog 46 #[.slice a n cap, .func (.func 47) #[] #[.pointer (some ⟨w.heap.size, 0, none⟩)]] w1 fun e w' => e = .returned (.bool (!cs.all (clmB m))) ∧ w1.grownBy w' none) := fun w1 g1 =>
    conClm_s _ cs w.heap.size a' m cap' w1 (hv'.kept g1) (Nat.lt_of_lt_of_le hlt g1.size) (gb_cell g1 c0 (by simp))
  generalize amtB fr = q1 at H1 ⊢
  generalize cs.all (clmB m) = q2 at CON ⊢
  clear e1 HQ hv hu hv' HN HM
  by_cases h6 : n ≤ 6
  rotate_left
  · have h6' : 6 < (n : Int) := by omega
    clear H1 CON
    go_enter Try.func28, Try.ntmps28
    go_wp2_with fail
    go_ret
    exact ⟨by simp [h6], g0⟩
  have h6' : ¬ 6 < (n : Int) := by omega
  go_enter Try.func28, Try.ntmps28
  go_wp2_with fail
  refine H1.mono ?_
  rintro e w1 ⟨rfl, g1⟩
  have c0' := gb_cell g1 c0 (by simp)
  have g2 := gb_trans g0 g1
  have H2 := Lib.hid (CON.out w1 g1)
  clear c0 H1 CON g1
  cases q1 with
  | false =>
    go_wp2_with fail
    go_ret
    exact ⟨by simp, g2⟩
  | true =>
    by_cases h4 : m ≤ 4
    rotate_left
    · have h4' : 4 < (m : Int) := by omega
      go_wp2_with fail
      go_ret
      exact ⟨by simp [h4], g2⟩
    have h4' : ¬ 4 < (m : Int) := by omega
    go_wp2_with fail
    refine H2.out.mono ?_
    rintro e w2 ⟨rfl, g3⟩
    go_wp2_with fail
    go_ret
    exact ⟨by simp [h4, h6], gb_trans g2 g3⟩
end Go.Proofs.Ytpbihjkfbbmdjaa
