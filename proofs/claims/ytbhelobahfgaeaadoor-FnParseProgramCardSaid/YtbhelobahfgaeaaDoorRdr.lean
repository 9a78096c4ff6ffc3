/-
  Contracts of the small functions that every statement of this seat reaches: ranges; the reader of the draws, under an assertion.
-/
import Derived.Test.YtbhelobahfgaeaaDoorMem
import Derived.Test.YtbhelobahfgaeaaDoorChecked
namespace Go.Proofs.YtbhelobahfgaeaaDoor
open Go Go.RowKit

theorem within_t (n lo hi : Int) (w : World) (h : lo ≤ n ∧ n ≤ hi) : Calls Tryd.prog 52 #[.int .i64 n, .int .i64 lo, .int .i64 hi] w fun e w' => e = .returned (.bool true) ∧ w = w' := by
  obtain ⟨h1, h2⟩ := h
  go_enter Tryd.func52, Tryd.ntmps52
  go_wp2
  go_ret
  exact ⟨rfl, rfl⟩
theorem within_f (n lo hi : Int) (w : World) (h : ¬ (lo ≤ n ∧ n ≤ hi)) : Calls Tryd.prog 52 #[.int .i64 n, .int .i64 lo, .int .i64 hi] w fun e w' => e = .returned (.bool false) ∧ w = w' := by
  by_cases h1 : lo ≤ n
  · have h2 : ¬ n ≤ hi := fun h2 => h ⟨h1, h2⟩
    clear h
    go_enter Tryd.func52, Tryd.ntmps52
    go_wp2
    go_ret
    exact ⟨rfl, rfl⟩
  · clear h
    go_enter Tryd.func52, Tryd.ntmps52
    go_wp2
    go_ret
    exact ⟨rfl, rfl⟩
theorem in_t (n lo hi : Int) (w : World) (h : lo ≤ n ∧ n ≤ hi) : Calls Tryd.prog 47 #[.int .i64 n, .int .i64 lo, .int .i64 hi] w fun e w' => e = .returned (.bool true) ∧ w = w' := by
  obtain ⟨h1, h2⟩ := h
  go_enter Tryd.func47, Tryd.ntmps47
  go_wp2
  go_ret
  exact ⟨rfl, rfl⟩
theorem in_f (n lo hi : Int) (w : World) (h : ¬ (lo ≤ n ∧ n ≤ hi)) : Calls Tryd.prog 47 #[.int .i64 n, .int .i64 lo, .int .i64 hi] w fun e w' => e = .returned (.bool false) ∧ w = w' := by
  by_cases h1 : lo ≤ n
  · have h2 : ¬ n ≤ hi := fun h2 => h ⟨h1, h2⟩
    clear h
    go_enter Tryd.func47, Tryd.ntmps47
    go_wp2
    go_ret
    exact ⟨rfl, rfl⟩
  · clear h
    go_enter Tryd.func47, Tryd.ntmps47
    go_wp2
    go_ret
    exact ⟨rfl, rfl⟩
/-- In range, as a Bool that no walk opens. -/
def inB (n lo hi : Int) : Bool := decide (lo ≤ n ∧ n ≤ hi)
theorem inB_t {n lo hi : Int} : inB n lo hi = true ↔ lo ≤ n ∧ n ≤ hi := by simp [inB]
theorem inB_f {n lo hi : Int} : inB n lo hi = false ↔ ¬ (lo ≤ n ∧ n ≤ hi) := by simp only [inB, decide_eq_false_iff_not]
theorem within_b (n lo hi : Int) (w : World) : Calls Tryd.prog 52 #[.int .i64 n, .int .i64 lo, .int .i64 hi] w fun e w' => e = .returned (.bool (inB n lo hi)) ∧ w = w' := by
  by_cases h : lo ≤ n ∧ n ≤ hi
  · exact (within_t n lo hi w h).mono (fun e w' ⟨he, hw⟩ => ⟨by rw [he, inB_t.2 h], hw⟩)
  · exact (within_f n lo hi w h).mono (fun e w' ⟨he, hw⟩ => ⟨by rw [he, inB_f.2 h], hw⟩)
theorem in_b (n lo hi : Int) (w : World) : Calls Tryd.prog 47 #[.int .i64 n, .int .i64 lo, .int .i64 hi] w fun e w' => e = .returned (.bool (inB n lo hi)) ∧ w = w' := by
  by_cases h : lo ≤ n ∧ n ≤ hi
  · exact (in_t n lo hi w h).mono (fun e w' ⟨he, hw⟩ => ⟨by rw [he, inB_t.2 h], hw⟩)
  · exact (in_f n lo hi w h).mono (fun e w' ⟨he, hw⟩ => ⟨by rw [he, inB_f.2 h], hw⟩)

/-- THE READER: block B holds the bytes and the place; at most m picks so far; the bytes lie in w0. -/
def Rdr (w0 : World) (B m : Nat) : Asr where
  at_ w F := (∃ (ca : Option Addr) (len cap : Nat) (p : Int), 0 ≤ p ∧ p ≤ m ∧ len ≤ 2000 ∧ w.heap[B]? = some (.cells #[.slice ca len cap, .int .i64 p] 63 (0, 0)) ∧
    (len = 0 ∨ ∃ b off, ca = some ⟨b, off, none⟩ ∧ b < w0.heap.size ∧ ∀ j, j < len → ∃ c : Int, w0.cell? ⟨b, off + j, none⟩ = some (.int .u8 c) ∧ 0 ≤ c ∧ c ≤ 255)) ∧ F = [B]
  lt := by
    rintro w F ⟨⟨ca, len, cap, p, _, _, _, hb, _⟩, rfl⟩ b hb'
    simp at hb'
    subst hb'
    exact lt_of_block hb
  keep := by
    rintro w w' F ⟨⟨ca, len, cap, p, h1, h2, h3, hb, h4⟩, rfl⟩ he
    exact ⟨⟨ca, len, cap, p, h1, h2, h3, (he B (by simp)).trans hb, h4⟩, rfl⟩
theorem St.rdrMono {w0 w : World} {B m m' : Nat} {Ls : List Asr} (S : St w0 w (Rdr w0 B m :: Ls)) (h : m ≤ m') : St w0 w (Rdr w0 B m' :: Ls) :=
  S.mono (fun F ⟨⟨ca, len, cap, p, h1, h2, h3⟩, hF⟩ => ⟨⟨ca, len, cap, p, h1, by omega, h3⟩, hF⟩)
def PickQ (w0 : World) (B m : Nat) (Ls : List Asr) (n : Int) (e : Ending) (w' : World) : Prop :=
  ∃ v : Int, e = .returned (.int .i64 v) ∧ Pk n v ∧ St w0 w' (Rdr w0 B (m + 1) :: Ls)
def OddQ (w0 : World) (B m : Nat) (Ls : List Asr) (e : Ending) (w' : World) : Prop :=
  ∃ v : Bool, e = .returned (.bool v) ∧ St w0 w' (Rdr w0 B (m + 1) :: Ls)

set_option maxHeartbeats 1000000 in
theorem pick_s (w0 : World) (B m : Nat) (Ls : List Asr) (n : Int) (w : World) (S : St w0 w (Rdr w0 B m :: Ls)) (hm : m ≤ 1000000) :
    Calls Tryd.prog 39 #[.pointer (some ⟨B, 0, none⟩), .int .i64 n] w (PickQ w0 B m Ls n) := by
  have Hg := Lib.hid S.gb
  obtain ⟨F, ⟨⟨ca, len, cap, p, h1, h2, h3, hb, hc⟩, rfl⟩, hF, hw⟩ := S.writeBy
  have hBl := (hF B (by simp)).1
  have hBs := (hF B (by simp)).2
  have c0 : w.cell? ⟨B, 0, none⟩ = some (.slice ca len cap) := by simp [World.cell?, hb]
  have c1 : w.cell? ⟨B, 1, none⟩ = some (.int .i64 p) := by simp [World.cell?, hb]
  have f1 : w.frozen? ⟨B, 1, none⟩ = false := by simp [World.frozen?, hb]
  have H := Lib.hid hb
  have hset : (w.setCell ⟨B, 1, none⟩ (.int .i64 (p + 1))).heap[B]? = some (.cells #[.slice ca len cap, .int .i64 (p + 1)] 63 (0, 0)) := by
    simp [World.setCell, Array.getElem?_modify, hb]
  have hgs : w.grownBy (w.setCell ⟨B, 1, none⟩ (.int .i64 (p + 1))) (some B) := gb_setCell (World.grownBy.refl _ _) 1 _
  have post : ∀ v nq, Pk n v → PickQ w0 B m Ls n (.returned (.int .i64 v)) ((w.setCell ⟨B, 1, none⟩ (.int .i64 (p + 1))).drewN nq) := by
    intro v nq hp
    exact ⟨v, rfl, hp, hw _ (Rdr w0 B (m + 1)) [B] (some B) (gb_drewN hgs nq) (by simp) ⟨⟨ca, len, cap, p + 1, by omega, by omega, h3, hset, hc⟩, rfl⟩ (by simp)⟩
  have Post := Lib.hid post
  have hc' : len = 0 ∨ ∃ b off, ca = some ⟨b, off, none⟩ ∧ b < B ∧ ∀ j, j < len → ∃ c : Int, w.cell? ⟨b, off + j, none⟩ = some (.int .u8 c) ∧ 0 ≤ c ∧ c ≤ 255 := by
    rcases hc with hc | ⟨b, off, ha, hlt, hc⟩
    · exact .inl hc
    · refine .inr ⟨b, off, ha, by omega, fun j hj => ?_⟩
      obtain ⟨c, hc, hr⟩ := hc j hj
      exact ⟨c, gb_cell Hg.out hc (by simp), hr⟩
  clear post hgs hset hb hw hF S hc
  have hp2 : p ≤ 1000000 := by omega
  by_cases hn : n < 1
  · have Hc := Lib.hid hc'
    clear hc' h2 hm
    go_enter Tryd.func39, Tryd.ntmps39
    go_wp2
    go_ret
    exact Post.out 0 0 ⟨by omega, by omega, by omega⟩
  · rcases hc' with rfl | ⟨b, off, rfl, hne, hc⟩
    · clear h2 hm
      go_enter Tryd.func39, Tryd.ntmps39
      go_wp2
      go_ret
      exact Post.out 0 0 ⟨by omega, by omega, by omega⟩
    · by_cases h0 : len = 0
      · subst h0
        clear h2 hm hc
        go_enter Tryd.func39, Tryd.ntmps39
        go_wp2
        go_ret
        exact Post.out 0 0 ⟨by omega, by omega, by omega⟩
      have hz : ((len : Int) == 0) = false := by simpa using h0
      obtain ⟨q, rfl⟩ := Int.eq_ofNat_of_zero_le h1
      by_cases hlt : (q : Int) < len
      · obtain ⟨c, hc1, hc2, hc3⟩ := hc q (by omega)
        clear hc h2 hm
        go_enter Tryd.func39, Tryd.ntmps39
        go_wp2
        go_ret
        exact Post.out _ 0 ⟨Int.emod_nonneg _ (by omega), fun _ => Int.emod_lt_of_pos _ (by omega), by omega⟩
      · obtain ⟨c, hc1, hc2, hc3⟩ := hc (q % len) (Nat.mod_lt _ (by omega))
        obtain ⟨d, hd1, hd2, hd3⟩ := hc ((q * 7 + 3) % len) (Nat.mod_lt _ (by omega))
        have i0 : (0 : Int) ≤ (q : Int) % len := by omega
        have i1 : (q : Int) % len < len := Int.emod_lt_of_pos _ (by omega)
        have i2 : (0 : Int) ≤ ((q : Int) * 7 + 3) % len := Int.emod_nonneg _ (by omega)
        have i3 : ((q : Int) * 7 + 3) % len < len := Int.emod_lt_of_pos _ (by omega)
        have i4 : (0 : Int) ≤ (q : Int) / len := Int.ediv_nonneg (by omega) (by omega)
        have i5 : (q : Int) / len ≤ q := Int.ediv_le_self _ (by omega)
        clear hc h2 hm
        go_enter Tryd.func39, Tryd.ntmps39
        go_wp2
        go_quiet (fail)
        go_wp2
        go_ret
        refine Post.out _ _ ⟨Int.tmod_nonneg _ (xor_nonneg _ _ (by omega) (by omega) (by omega) (by omega)), fun _ => ?_, by omega⟩
        rw [Int.tmod_eq_emod_of_nonneg (xor_nonneg _ _ (by omega) (by omega) (by omega) (by omega))]
        exact Int.emod_lt_of_pos _ (by omega)
set_option maxHeartbeats 400000 in
theorem open_s (a : Option Addr) (len cap : Nat) (w : World) (h : Byts w a len cap) :
    Calls Tryd.prog 29 #[.slice a len cap] w fun e w' => ∃ B, e = .returned (.pointer (some ⟨B, 0, none⟩)) ∧ St w w' [Rdr w B 0] := by
  obtain ⟨h1, h2, hc⟩ := h
  unfold maxLen at h2
  have post : ∀ (l c : Nat), l ≤ len → l ≤ 2000 → ∃ B, (Ending.returned (.pointer (some ⟨w.heap.size, 0, none⟩))) = .returned (.pointer (some ⟨B, 0, none⟩)) ∧ St w (w.alloc (.cells #[.slice a l c, .int .i64 0] 63)) [Rdr w B 0] := by
    intro l c hl h20
    refine ⟨w.heap.size, rfl, (St.refl w).push (World.grownBy_alloc _ _ _) (F := [w.heap.size]) ⟨⟨a, l, c, 0, by omega, by omega, h20, heap_alloc_new w _, ?_⟩, rfl⟩ (by simp)⟩
    rcases hc with hc | ⟨b, off, rfl, hc⟩
    · exact .inl (by omega)
    · by_cases h0 : l = 0
      · exact .inl h0
      refine .inr ⟨b, off, rfl, ?_, fun j hj => hc j (by omega)⟩
      obtain ⟨c, hc, _⟩ := hc 0 (by omega)
      exact cell_lt hc
  have Post := Lib.hid post
  clear post hc
  by_cases hl : 2000 < len
  · go_enter Tryd.func29, Tryd.ntmps29
    go_wp2
    go_ret
    exact Post.out 2000 cap (by omega) (by omega)
  · go_enter Tryd.func29, Tryd.ntmps29
    go_wp2
    go_ret
    exact Post.out len cap (by omega) (by omega)
set_option maxHeartbeats 400000 in
theorem odd_s (w0 : World) (B m : Nat) (Ls : List Asr) (n : Int) (w : World) (S : St w0 w (Rdr w0 B m :: Ls)) (hm : m ≤ 1000000) (h63 : n ≤ 1000000) :
    Calls Tryd.prog 42 #[.pointer (some ⟨B, 0, none⟩), .int .i64 n] w (OddQ w0 B m Ls) := by
  by_cases h : 0 < n
  · go_enter Tryd.func42, Tryd.ntmps42
    go_wp2_with (go_at_call 39; refine (pick_s w0 B m Ls _ _ S hm).mono ?_; rintro e w' ⟨v, rfl, hp, S'⟩)
    go_ret
    exact ⟨_, rfl, S'⟩
  · have Post := Lib.hid (show OddQ w0 B m Ls (.returned (.bool false)) w from ⟨false, rfl, S.rdrMono (by omega)⟩)
    go_enter Tryd.func42, Tryd.ntmps42
    go_wp2_with fail
    go_ret
    exact Post.out
theorem alive_any (w : World) : Calls Tryd.prog 12 #[] w fun e w' => e = .returned (.bool true) ∧ w = w' := by
  go_enter Tryd.func12, Tryd.ntmps12
  go_wp2
  go_ret
  exact ⟨rfl, rfl⟩
end Go.Proofs.YtbhelobahfgaeaaDoor
