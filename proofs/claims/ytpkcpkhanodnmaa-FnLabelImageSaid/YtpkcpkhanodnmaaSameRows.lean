/-
  The laws' helper on two tables of numbers.
-/
import Derived.Test.YtpkcpkhanodnmaaSameS
import Derived.Test.YtpkcpkhanodnmaaIntSS
namespace Go.Proofs.Ytpkcpkhanodnmaa
open Go Go.RowKit
set_option maxHeartbeats 400000 in
theorem sameRows_s (v u : Value) (ys : List (List Int)) (w : World) (hv : DRds LSI DI w v ys) (hu : DRds LSI DI w u ys) :
    Calls Try.prog 34 #[v, u] w fun e w' => e = .returned (.bool true) ∧ w.grownBy w' none := by
  obtain ⟨a, n, cap, rfl, h1, hm, HN, HC⟩ := hv.rows
  obtain ⟨a', n', cap', rfl, h1', hm', HN', HC'⟩ := hu.rows
  obtain rfl : n = n' := by rw [HN.out, HN'.out]
  go_enter Try.func34, Try.ntmps34
  go_wp2
  go_loopw [5] (fun i wr => ∃ k : Nat, k ≤ n ∧ i = .int .i64 k ∧ w.grownBy wr none) (fun i _ => n - (intOf i).toNat)
  case atStart => exact ⟨0, by omega, rfl, World.grownBy.refl _ _⟩
  case round =>
    obtain ⟨k, hk, rfl, hg⟩ := hrel
    by_cases hlt : k < n
    · obtain ⟨b, off, ra, rn, rc, y, rfl, hb, hy, hrn, hrc, hrm, hrd, c1⟩ := HC.out k hlt
      obtain ⟨b', off', ra', rn', rc', y', rfl, hb', hy', hrn', hrc', hrm', hrd', c2⟩ := HC'.out k hlt
      obtain rfl : y = y' := by have h1 := hy.out; have h2 := hy'.out; rw [h1] at h2; exact Option.some.inj h2
      have c1' := gb_cell hg c1 (by simp)
      have c2' := gb_cell hg c2 (by simp)
      have R1 := hrd.kept hg
      have R2 := hrd'.kept hg
      have HG := Lib.hid hg
      have i0 : (0 : Int) ≤ (k : Int) := by omega
      have i1 : (k : Int) < (n : Int) := by omega
      clear c1 c2 hrd hrd' hg hrn hrn'
      go_wp2
      go_quiet ((go_at_call 59; exact Calls.quiet_of (sameInts_s _ _ y _ (R1.kept (gb_drewN (World.grownBy.refl _ _) _)) (R2.kept (gb_drewN (World.grownBy.refl _ _) _)))))
      go_wp2
      go_roundw
      case rel => exact ⟨k + 1, by omega, by go_num, gb_drewN HG.out _⟩
      case measure => simp [intOf]; omega
    · go_wp2
      go_ret
      exact ⟨rfl, hg⟩
end Go.Proofs.Ytpkcpkhanodnmaa
