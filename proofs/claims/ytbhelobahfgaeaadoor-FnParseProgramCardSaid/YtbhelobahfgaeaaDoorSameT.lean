/-
  The laws' own sameTexts, over two slices that read as one list.
-/
import Derived.Test.YtbhelobahfgaeaaDoorStringS
import Derived.BigQuiet
namespace Go.Proofs.YtbhelobahfgaeaaDoor
open Go Go.RowKit
set_option maxHeartbeats 400000 in
theorem sameTexts_s (v u : Value) (xs : List ByteArray) (w : World) (hv : Rds LS w v xs) (hu : Rds LS w u xs) :
    Calls Tryd.prog 9 #[v, u] w fun e w' => e = .returned (.bool true) ∧ ∃ m, w' = w.drewN m := by
  obtain ⟨a, n, cap, rfl, h1, hm, HN, HC⟩ := LS_get hv
  obtain ⟨a', n', cap', rfl, h1', hm', HN', HC'⟩ := LS_get hu
  obtain rfl : n = n' := by rw [HN.out, HN'.out]
  go_enter Tryd.func9, Tryd.ntmps9
  go_wp2
  go_loopw [5] (fun i wr => ∃ k m : Nat, k ≤ n ∧ i = .int .i64 k ∧ wr = w.drewN m) (fun i _ => n - (intOf i).toNat)
  case atStart => exact ⟨0, 0, by omega, rfl, rfl⟩
  case round =>
    obtain ⟨k, m, hk, rfl, rfl⟩ := hrel
    by_cases hlt : k < n
    · obtain ⟨b, off, x, rfl, _, hx, c1⟩ := HC.out k hlt
      obtain ⟨b', off', x', rfl, _, hx', c2⟩ := HC'.out k hlt
      obtain rfl : x = x' := by have h1 := hx.out; have h2 := hx'.out; rw [h1] at h2; exact Option.some.inj h2
      go_wp2
      go_quiet (fail)
      go_wp2
      go_roundw
      case rel => exact ⟨k + 1, _, by omega, by go_num, rfl⟩
      case measure => simp [intOf]; omega
    · go_wp2
      go_ret
      exact ⟨rfl, m, rfl⟩
end Go.Proofs.YtbhelobahfgaeaaDoor
