/-
  Contracts of the small functions that every statement of this seat reaches: ranges, the reader of the draws.
-/
import Derived.Test.YtbeihmhiofkjlaaKit
import Derived.Test.YtbeihmhiofkjlaaChecked
namespace Go.Proofs.Ytbeihmhiofkjlaa
open Go Go.RowKit

theorem within_t (n lo hi : Int) (w : World) (h : lo ≤ n ∧ n ≤ hi) : Calls Try.prog 37 #[.int .i64 n, .int .i64 lo, .int .i64 hi] w fun e w' => e = .returned (.bool true) ∧ w = w' := by
  obtain ⟨h1, h2⟩ := h
  go_enter Try.func37, Try.ntmps37
  go_wp2
  go_ret
  exact ⟨rfl, rfl⟩
theorem within_f (n lo hi : Int) (w : World) (h : ¬ (lo ≤ n ∧ n ≤ hi)) : Calls Try.prog 37 #[.int .i64 n, .int .i64 lo, .int .i64 hi] w fun e w' => e = .returned (.bool false) ∧ w = w' := by
  by_cases h1 : lo ≤ n
  · have h2 : ¬ n ≤ hi := fun h2 => h ⟨h1, h2⟩
    clear h
    go_enter Try.func37, Try.ntmps37
    go_wp2
    go_ret
    exact ⟨rfl, rfl⟩
  · clear h
    go_enter Try.func37, Try.ntmps37
    go_wp2
    go_ret
    exact ⟨rfl, rfl⟩

theorem in_t (n lo hi : Int) (w : World) (h : lo ≤ n ∧ n ≤ hi) : Calls Try.prog 36 #[.int .i64 n, .int .i64 lo, .int .i64 hi] w fun e w' => e = .returned (.bool true) ∧ w = w' := by
  obtain ⟨h1, h2⟩ := h
  go_enter Try.func36, Try.ntmps36
  go_wp2
  go_ret
  exact ⟨rfl, rfl⟩
theorem in_f (n lo hi : Int) (w : World) (h : ¬ (lo ≤ n ∧ n ≤ hi)) : Calls Try.prog 36 #[.int .i64 n, .int .i64 lo, .int .i64 hi] w fun e w' => e = .returned (.bool false) ∧ w = w' := by
  by_cases h1 : lo ≤ n
  · have h2 : ¬ n ≤ hi := fun h2 => h ⟨h1, h2⟩
    clear h
    go_enter Try.func36, Try.ntmps36
    go_wp2
    go_ret
    exact ⟨rfl, rfl⟩
  · clear h
    go_enter Try.func36, Try.ntmps36
    go_wp2
    go_ret
    exact ⟨rfl, rfl⟩

set_option maxHeartbeats 1000000 in
theorem pick_any (B m : Nat) (n : Int) (w : World) (hr : Rd 49 w B m) (hm : m ≤ 1000000) :
    Calls Try.prog 39 #[.pointer (some ⟨B, 0, none⟩), .int .i64 n] w (PickPost 49 w B m n) := by
  obtain ⟨ca, len, cap, p, h1, h2, h3, hb, hc⟩ := hr
  have c0 : w.cell? ⟨B, 0, none⟩ = some (.slice ca len cap) := by simp [World.cell?, hb]
  have c1 : w.cell? ⟨B, 1, none⟩ = some (.int .i64 p) := by simp [World.cell?, hb]
  have f1 : w.frozen? ⟨B, 1, none⟩ = false := by simp [World.frozen?, hb]
  have H := Lib.hid hb
  have hset : (w.setCell ⟨B, 1, none⟩ (.int .i64 (p + 1))).heap[B]? = some (.cells #[.slice ca len cap, .int .i64 (p + 1)] 49 (0, 0)) := by
    simp [World.setCell, Array.getElem?_modify, hb]
  have hgs : w.grownBy (w.setCell ⟨B, 1, none⟩ (.int .i64 (p + 1))) (some B) := gb_setCell (World.grownBy.refl _ _) 1 _
  have post : ∀ v nq, Pk n v → PickPost 49 w B m n (.returned (.int .i64 v)) ((w.setCell ⟨B, 1, none⟩ (.int .i64 (p + 1))).drewN nq) := by
    intro v nq hp
    refine ⟨v, rfl, hp, ⟨ca, len, cap, p + 1, by omega, by omega, h3, hset, ?_⟩, gb_drewN hgs nq⟩
    rcases hc with hc | ⟨b, off, ha, hne, hc⟩
    · exact .inl hc
    · refine .inr ⟨b, off, ha, hne, fun j hj => ?_⟩
      obtain ⟨c, hc, hr⟩ := hc j hj
      exact ⟨c, gb_cell hgs hc (by simp; omega), hr⟩
  have Post := Lib.hid post
  clear post hgs hset hb
  have hp2 : p ≤ 1000000 := by omega
  by_cases hn : n < 1
  · have Hc := Lib.hid hc
    clear hc h2 hm
    go_enter Try.func39, Try.ntmps39
    go_wp2
    go_ret
    exact Post.out 0 0 ⟨by omega, by omega, by omega⟩
  · rcases hc with rfl | ⟨b, off, rfl, hne, hc⟩
    · clear h2 hm
      go_enter Try.func39, Try.ntmps39
      go_wp2
      go_ret
      exact Post.out 0 0 ⟨by omega, by omega, by omega⟩
    · by_cases h0 : len = 0
      · subst h0
        clear h2 hm hc
        go_enter Try.func39, Try.ntmps39
        go_wp2
        go_ret
        exact Post.out 0 0 ⟨by omega, by omega, by omega⟩
      have hz : ((len : Int) == 0) = false := by simpa using h0
      obtain ⟨q, rfl⟩ := Int.eq_ofNat_of_zero_le h1
      by_cases hlt : (q : Int) < len
      · obtain ⟨c, hc1, hc2, hc3⟩ := hc q (by omega)
        clear hc h2 hm
        go_enter Try.func39, Try.ntmps39
        go_wp2
        go_ret
        exact Post.out _ 0 ⟨Int.emod_nonneg _ (by omega), fun _ => Int.emod_lt_of_pos _ (by omega), by omega⟩
      · obtain ⟨c, hc1, hc2, hc3⟩ := hc (q % len) (Nat.mod_lt _ (by omega))
        obtain ⟨d, hd1, hd2, hd3⟩ := hc ((q * 7 + 3) % len) (Nat.mod_lt _ (by omega))
        have i0 : (0 : Int) ≤ (q : Int) % len := by omega
        have i1 : (q : Int) % len < len := Int.emod_lt_of_pos _ (by omega)
        have i2 : (0 : Int) ≤ ((q : Int) * 7 + 3) % len := Int.emod_nonneg _ (by omega)
        have i3 : ((q : Int) * 7 + 3) % len < len := Int.emod_lt_of_pos _ (by omega)
        have i4 : (0 : Int) ≤ (q : Int) / len := Int.ediv_nonneg (by omega) (by omega)
        have i5 : (q : Int) / len ≤ q := Int.ediv_le_self _ (by omega)
        clear hc h2 hm
        go_enter Try.func39, Try.ntmps39
        go_wp2
        go_quiet (fail)
        go_wp2
        go_ret
        refine Post.out _ _ ⟨Int.tmod_nonneg _ (xor_nonneg _ _ (by omega) (by omega) (by omega) (by omega)), fun _ => ?_, by omega⟩
        rw [Int.tmod_eq_emod_of_nonneg (xor_nonneg _ _ (by omega) (by omega) (by omega) (by omega))]
        exact Int.emod_lt_of_pos _ (by omega)
set_option maxHeartbeats 400000 in
theorem open_any (a : Option Addr) (len cap : Nat) (w : World) (h : Byts w a len cap) :
    Calls Try.prog 38 #[.slice a len cap] w (OpenPost 49 w) := by
  obtain ⟨h1, h2, hc⟩ := h
  unfold maxLen at h2
  have post : ∀ (l c : Nat), l ≤ len → l ≤ 2000 → OpenPost 49 w (.returned (.pointer (some ⟨w.heap.size, 0, none⟩))) (w.alloc (.cells #[.slice a l c, .int .i64 0] 49)) := by
    intro l c hl h20
    refine ⟨w.heap.size, rfl, Nat.le_refl _, ⟨a, l, c, 0, by omega, by omega, h20, heap_alloc_new w _, ?_⟩, World.grownBy_alloc _ _ _⟩
    rcases hc with hc | ⟨b, off, rfl, hc⟩
    · exact .inl (by omega)
    · by_cases h0 : l = 0
      · exact .inl h0
      refine .inr ⟨b, off, rfl, ?_, fun j hj => ?_⟩
      · obtain ⟨c, hc, _⟩ := hc 0 (by omega)
        have := cell_lt hc
        omega
      · obtain ⟨c, hc, hr⟩ := hc j (by omega)
        exact ⟨c, gb_cell (World.grownBy_alloc w _ none) hc (by simp), hr⟩
  have Post := Lib.hid post
  clear post hc
  by_cases hl : 2000 < len
  · go_enter Try.func38, Try.ntmps38
    go_wp2
    go_ret
    exact Post.out 2000 cap (by omega) (by omega)
  · go_enter Try.func38, Try.ntmps38
    go_wp2
    go_ret
    exact Post.out len cap (by omega) (by omega)
set_option maxHeartbeats 400000 in
theorem odd_any (B m : Nat) (n : Int) (w : World) (hr : Rd 49 w B m) (hm : m ≤ 1000000) (h63 : n ≤ 1000000) :
    Calls Try.prog 42 #[.pointer (some ⟨B, 0, none⟩), .int .i64 n] w (OddPost 49 w B m) := by
  have HR := Lib.hid hr
  clear hr
  by_cases h : 0 < n
  · go_enter Try.func42, Try.ntmps42
    go_wp2_with (go_at_call 39; refine (pick_any B m _ _ HR.out hm).mono ?_; rintro e w' ⟨v, rfl, hp, hr', hg⟩)
    go_ret
    exact ⟨_, rfl, hr', hg⟩
  · have hpost : OddPost 49 w B m (.returned (.bool false)) w := ⟨false, rfl, HR.out.mono (by omega), World.grownBy.refl _ _⟩
    have Post := Lib.hid hpost
    clear hpost
    go_enter Try.func42, Try.ntmps42
    go_wp2_with fail
    go_ret
    exact Post.out
theorem alive_any (w : World) : Calls Try.prog 21 #[] w fun e w' => e = .returned (.bool true) ∧ w = w' := by
  go_enter Try.func21, Try.ntmps21
  go_wp2
  go_ret
  exact ⟨rfl, rfl⟩
end Go.Proofs.Ytbeihmhiofkjlaa
