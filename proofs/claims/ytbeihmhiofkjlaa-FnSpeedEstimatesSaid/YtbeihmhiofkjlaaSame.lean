/-
  The laws' own sameInts.
-/
import Derived.Test.YtbeihmhiofkjlaaInts
namespace Go.Proofs.Ytbeihmhiofkjlaa
open Go Go.RowKit
set_option maxHeartbeats 400000 in
theorem sameInts_t (v u : Value) (xs : List Int) (w : World) (hv : Ints w v xs) (hu : Ints w u xs) :
    Calls Try.prog 35 #[v, u] w fun e w' => e = .returned (.bool true) ∧ w.grownBy w' none := by
  obtain ⟨a, cap, rfl, h1, h2, h3⟩ := hv
  obtain ⟨a', cap', rfl, h1', h2', h3'⟩ := hu
  obtain ⟨n, hn⟩ : ∃ n, n = xs.length := ⟨_, rfl⟩
  have hm : n ≤ 9223372036854775807 := by unfold maxLen at h2; omega
  have hcell : ∀ k, k < n → ∃ (b off b' off' : Nat) (x : Int), a = some ⟨b, off, none⟩ ∧ a' = some ⟨b', off', none⟩ ∧ w.cell? ⟨b, off + k, none⟩ = some (.int .i64 x) ∧ w.cell? ⟨b', off' + k, none⟩ = some (.int .i64 x) := by
    intro k hk
    rcases h3 with h3 | ⟨b, off, ha, h3⟩
    · subst h3; simp at hn; omega
    rcases h3' with h3' | ⟨b', off', ha', h3'⟩
    · subst h3'; simp at hn; omega
    exact ⟨b, off, b', off', _, ha, ha', h3 k (by omega), h3' k (by omega)⟩
  rw [← hn]
  rw [← hn] at h1 h1'
  have HC := Lib.hid hcell
  clear hcell h3 h3' hn
  go_enter Try.func35, Try.ntmps35
  go_wp2
  go_loopw [5] (fun i wr => ∃ k m : Nat, k ≤ n ∧ i = .int .i64 k ∧ wr = w.drewN m) (fun i _ => n - (intOf i).toNat)
  case atStart => exact ⟨0, 0, by omega, rfl, rfl⟩
  case round =>
    obtain ⟨k, m, hk, rfl, rfl⟩ := hrel
    by_cases hlt : k < n
    · obtain ⟨b, off, b', off', x, rfl, rfl, c1, c2⟩ := HC.out k hlt
      go_wp2
      go_quiet (fail)
      go_wp2
      go_roundw
      case rel => exact ⟨k + 1, _, by omega, by go_num, rfl⟩
      case measure => simp [intOf]; omega
    · go_wp2
      go_ret
      exact ⟨rfl, gb_drewN (World.grownBy.refl _ _) m⟩
end Go.Proofs.Ytbeihmhiofkjlaa
