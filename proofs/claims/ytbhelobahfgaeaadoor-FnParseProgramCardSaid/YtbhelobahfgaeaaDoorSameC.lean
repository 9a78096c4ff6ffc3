/-
  laws.sameCommands: equal lists.
-/
import Derived.Test.YtbhelobahfgaeaaDoorCommandS
import Derived.BigQuiet
namespace Go.Proofs.YtbhelobahfgaeaaDoor
open Go Go.RowKit
set_option maxHeartbeats 2000000 in
theorem sameCommands_s (v u : Value) (xs : List Cmd) (w : World) (hv : Rds LCmd w v xs) (hu : Rds LCmd w u xs) :
    Calls Tryd.prog 14 #[v, u] w fun e w' => e = .returned (.bool true) ∧ w.grownBy w' none := by
  obtain ⟨a, n, cap, rfl, h1, hm, HN, HC⟩ := LCmd_get hv
  obtain ⟨a', n', cap', rfl, h1', hm', HN', HC'⟩ := LCmd_get hu
  obtain rfl : n = n' := by rw [HN.out, HN'.out]
  clear hv hu
  go_enter Tryd.func14, Tryd.ntmps14
  go_wp2
  go_loopw [5] (fun i wr => ∃ k : Nat, k ≤ n ∧ i = .int .i64 k ∧ w.grownBy wr none) (fun i _ => n - (intOf i).toNat)
  case atStart => exact ⟨0, by omega, rfl, World.grownBy.refl _ _⟩
  case round =>
    obtain ⟨k, hk, rfl, hg⟩ := hrel
    by_cases hlt : k < n
    rotate_left
    · go_wp2
      go_ret
      exact ⟨rfl, hg⟩
    obtain ⟨b, off, c, rfl, hb, hx, c0, c1, c2⟩ := HC.out k hlt
    obtain ⟨b', off', c', rfl, hb', hx', d0, d1, d2⟩ := HC'.out k hlt
    obtain rfl : c = c' := by have h1 := hx.out; have h2 := hx'.out; rw [h1] at h2; exact Option.some.inj h2
    obtain ⟨K, A, B⟩ := c
    dsimp only at c0 c1 c2 d0 d1 d2
    have c0' := gb_cell hg c0 (by simp)
    have c1' := gb_cell hg c1 (by simp)
    have c2' := gb_cell hg c2 (by simp)
    have d0' := gb_cell hg d0 (by simp)
    have d1' := gb_cell hg d1 (by simp)
    have d2' := gb_cell hg d2 (by simp)
    have hlt' : (k : Int) < (n : Int) := by omega
    have hk0 : (0 : Int) ≤ (k : Int) := by omega
    clear c0 c1 c2 d0 d1 d2 hx hx'
    go_wp2
    go_quiet (fail)
    go_wp2
    go_roundw
    case rel => exact ⟨k + 1, by omega, by go_num, gb_drewN hg _⟩
    case measure => simp [intOf]; omega
end Go.Proofs.YtbhelobahfgaeaaDoor
