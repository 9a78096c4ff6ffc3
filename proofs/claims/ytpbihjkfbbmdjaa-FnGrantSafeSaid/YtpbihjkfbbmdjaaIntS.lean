/-
  Slices of Int: the layout; the contracts of the laws' helpers on []int.
-/
import Derived.Test.YtpbihjkfbbmdjaaRdr
namespace Go.Proofs.Ytpbihjkfbbmdjaa
open Go Go.RowKit
def LI : Lay Int := ⟨1, 3, fun x => [(.int .i64 x)], fun _ => rfl, Nat.one_pos, by intro x u hu; simp at hu; subst hu; rfl⟩
theorem LI_info : Nonempty (ElemInfo Try.prog LI 23 0) := ElemInfo.mk' (z := .int .i64 0) (bytes := 8) Try.underlying23 (by kernel_rfl) rfl (by decide)
theorem LI_get {w : World} {v : Value} {xs : List Int} (h : Rds LI w v xs) : ∃ (a : Option Addr) (n cap : Nat), v = .slice a n cap ∧ n ≤ cap ∧ cap ≤ 9223372036854775807 ∧ RowKit.Hid (n = xs.length) ∧
    RowKit.Hid (∀ k, k < n → ∃ (b off : Nat) (x : Int), a = some ⟨b, off, none⟩ ∧ b < w.heap.size ∧ RowKit.Hid (xs[k]? = some x) ∧ w.cell? ⟨b, off + k, none⟩ = some (.int .i64 x)) := h.get1 (c := fun x => Value.int .i64 x) rfl (fun _ => rfl)
theorem LI_own {w0 w : World} {v : Value} {xs : List Int} {Ls : List Asr} (h : St w0 w (Own LI v xs :: Ls)) : ∃ (a : Option Addr) (n cap : Nat), v = .slice a n cap ∧ n ≤ cap ∧ cap ≤ 9223372036854775807 ∧ RowKit.Hid (n = xs.length) ∧
    RowKit.Hid (∀ k, k < n → ∃ (g : Nat) (x : Int), a = some ⟨g, 0, none⟩ ∧ w0.heap.size ≤ g ∧ g < w.heap.size ∧ RowKit.Hid (xs[k]? = some x) ∧ w.cell? ⟨g, k, none⟩ = some (.int .i64 x) ∧ w.frozen? ⟨g, k, none⟩ = false) := h.ownGet1 (c := fun x => Value.int .i64 x) rfl (fun _ => rfl)
theorem LI_set {w0 w : World} {v : Value} {xs : List Int} {Ls : List Asr} (h : St w0 w (Own LI v xs :: Ls)) {g : Nat} (hv : v.ownBlock = some g) (k : Nat) (x : Int) (hk : k < xs.length) : St w0 (w.setCell ⟨g, k, none⟩ (.int .i64 x)) (Own LI v (xs.set k x) :: Ls) := h.setAt1 (c := fun x => Value.int .i64 x) rfl (fun _ => rfl) hv k x _ rfl hk
theorem szIntS_s (v : Value) (xs : List Int) (k : Int) (w : World) (hv : Rds LI w v xs) (h0 : -1 ≤ k) (h1 : k ≤ 1048576) :
    Calls Try.prog 45 #[v, .int .i64 k] w fun e w' => ∃ r : Int, e = .returned (.int .i64 r) ∧ -1 ≤ r ∧ r ≤ k ∧ (0 ≤ r → (xs.length : Int) ≤ k - r) ∧ w = w' := by
  obtain ⟨a, n, cap, rfl, h2, hm, HN, HC⟩ := LI_get hv
  have e : (xs.length : Int) = (n : Int) := by have := HN.out; omega
  rw [e]
  by_cases hlt : k - (n : Int) < 0
  · go_enter Try.func45, Try.ntmps45
    go_wp2
    go_ret
    exact ⟨-1, rfl, by omega, by omega, by omega, rfl⟩
  · go_enter Try.func45, Try.ntmps45
    go_wp2
    go_ret
    exact ⟨k - (n : Int), rfl, by omega, by omega, by omega, rfl⟩
set_option maxHeartbeats 400000 in
theorem toIntS_s (v : Value) (xs : List Int) (w : World) (hv : Rds LI w v xs) (hn : xs.length ≤ 1099511627776) :
    Calls Try.prog 10 #[v] w fun e w' => ∃ u, e = .returned u ∧ St w w' [Own LI u xs] := by
  obtain ⟨a, n, cap, rfl, h1, hm, HN, HC⟩ := LI_get hv
  have hn' : n ≤ 1099511627776 := by rw [HN.out]; exact hn
  clear hn
  go_enter Try.func10, Try.ntmps10
  go_wp2_with (at_make; refine wpList_mk LI_info rfl _ _ rfl (St.refl w) _ n rfl rfl rfl hn' ?_; intro w1 S hg)
  go_loopw [4] (fun i wr => ∃ k : Nat, k ≤ n ∧ i = .int .i64 k ∧ St w wr [Own LI (.slice (some ⟨w.heap.size, 0, none⟩) n n) (xs.take k ++ List.replicate (n - k) 0)]) (fun i _ => n - (intOf i).toNat)
  case atStart => exact ⟨0, by omega, rfl, by simpa using S⟩
  case round =>
    obtain ⟨k, hk, rfl, S'⟩ := hrel
    clear S hg
    by_cases hlt : k < n
    · obtain ⟨b, off, x, rfl, hb, hx, hc⟩ := HC.out k hlt
      have hc' := gb_cell S'.gb hc (by simp)
      obtain ⟨a1, n1, c1, hv1, -, -, HN1, HC1⟩ := LI_own S'
      obtain ⟨g, y, ha, -, -, -, hd, hf⟩ := HC1.out k (by simp only [Value.slice.injEq] at hv1; omega)
      simp only [Value.slice.injEq] at hv1
      obtain ⟨hv1, -, -⟩ := hv1
      rw [ha] at hv1
      simp only [Option.some.injEq, Addr.mk.injEq, and_true] at hv1
      obtain rfl := hv1
      have S2 := LI_set S' (g := w.heap.size) rfl k x (by rw [fill_len xs 0 k n HN.out hk]; exact hlt)
      rw [fill_step xs 0 k n HN.out hlt x hx.out] at S2
      clear hx HN1 HC1 ha S' hc
      go_wp2
      go_roundw
      case rel => exact ⟨k + 1, by omega, by go_num, S2⟩
      case measure => simp [intOf]; omega
    · obtain rfl : k = n := by omega
      rw [fill_end xs 0 k HN.out] at S'
      go_wp2
      go_ret
      exact ⟨_, rfl, S'⟩
set_option maxHeartbeats 400000 in
theorem eqIntS_s (v u : Value) (xs : List Int) (w : World) (hv : Rds LI w v xs) (hu : Rds LI w u xs) :
    Calls Try.prog 13 #[v, u] w fun e w' => e = .returned (.bool true) ∧ ∃ m, w' = w.drewN m := by
  obtain ⟨a, n, cap, rfl, h1, hm, HN, HC⟩ := LI_get hv
  obtain ⟨a', n', cap', rfl, h1', hm', HN', HC'⟩ := LI_get hu
  obtain rfl : n = n' := by rw [HN.out, HN'.out]
  go_enter Try.func13, Try.ntmps13
  go_wp2
  go_loopw [5] (fun i wr => ∃ k m : Nat, k ≤ n ∧ i = .int .i64 k ∧ wr = w.drewN m) (fun i _ => n - (intOf i).toNat)
  case atStart => exact ⟨0, 0, by omega, rfl, rfl⟩
  case round =>
    obtain ⟨k, m, hk, rfl, rfl⟩ := hrel
    by_cases hlt : k < n
    · obtain ⟨b, off, x, rfl, _, hx, c1⟩ := HC.out k hlt
      obtain ⟨b', off', x', rfl, _, hx', c2⟩ := HC'.out k hlt
      obtain rfl : x = x' := by have h1 := hx.out; have h2 := hx'.out; rw [h1] at h2; exact Option.some.inj h2
      go_wp2
      go_quiet (fail)
      go_wp2
      go_roundw
      case rel => exact ⟨k + 1, _, by omega, by go_num, rfl⟩
      case measure => simp [intOf]; omega
    · go_wp2
      go_ret
      exact ⟨rfl, m, rfl⟩
/-- The j-th mark. -/
def mkInt (k0 : Int) (j : Nat) : Int := k0 + (j : Int)
set_option maxHeartbeats 400000 in
theorem markIntS_s (w0 : World) (v : Value) (xs : List Int) (k0 : Int) (Ls : List Asr) (w : World) (S : St w0 w (Own LI v xs :: Ls)) (hk0 : 0 ≤ k0) (hk1 : k0 ≤ 1099511627776) (hn : xs.length ≤ 1099511627776) :
    Calls Try.prog 17 #[v, .int .i64 k0] w fun e w' => e = .returned (.int .i64 (k0 + (xs.length : Int))) ∧ St w0 w' (Own LI v ((List.range xs.length).map (mkInt k0)) :: Ls) := by
  obtain ⟨a, n, cap, rfl, h1, hm, HN, HC⟩ := LI_own S
  have hn' : n ≤ 1099511627776 := by rw [HN.out]; exact hn
  have Sh : RowKit.Hid (∀ wr k, k = n → St w0 wr (Own LI (.slice a n cap) ((List.range k).map (mkInt k0) ++ xs.drop k) :: Ls) → St w0 wr (Own LI (.slice a n cap) ((List.range xs.length).map (mkInt k0)) :: Ls)) := by
    rintro wr k rfl h
    rw [HN.out, List.drop_length, List.append_nil] at h
    rw [HN.out]
    exact h
  have HL : RowKit.Hid ((n : Int) = (xs.length : Int)) := by show (n : Int) = (xs.length : Int); rw [HN.out]
  clear hn HC
  go_enter Try.func17, Try.ntmps17
  go_wp2
  go_loopw [1, 5] (fun u i wr => ∃ k : Nat, k ≤ n ∧ u = .int .i64 (k0 + (k : Int)) ∧ i = .int .i64 k ∧ St w0 wr (Own LI (.slice a n cap) ((List.range k).map (mkInt k0) ++ xs.drop k) :: Ls)) (fun _ i _ => n - (intOf i).toNat)
  case atStart => exact ⟨0, by omega, by simp, rfl, by simpa using S⟩
  case round =>
    obtain ⟨k, hk, rfl, rfl, S'⟩ := hrel
    clear S
    by_cases hlt : k < n
    · obtain ⟨a1, n1, c1, hv1, -, -, HN1, HC1⟩ := LI_own S'
      simp only [Value.slice.injEq] at hv1
      obtain ⟨rfl, rfl, rfl⟩ := hv1
      obtain ⟨g, y, rfl, hg1, hg2, -, hd, hf⟩ := HC1.out k hlt
      have S2 := LI_set S' (g := g) rfl k (mkInt k0 k) (by rw [← HN1.out]; exact hlt)
      rw [mark_step _ xs k (by rw [← HN.out]; exact hlt)] at S2
      have e : RowKit.Hid (mkInt k0 k = k0 + (k : Int)) := rfl
      rw [e.out] at S2
      clear HC1 HN1 S'
      go_wp2
      go_roundw
      case rel => exact ⟨k + 1, by omega, by go_num, by go_num, S2⟩
      case measure => simp [intOf]; omega
    · have S2 := Sh.out wr k (by omega) S'
      obtain rfl : k = n := by omega
      go_wp2
      go_ret
      exact ⟨by rw [HL.out]; rfl, S2⟩
set_option maxHeartbeats 400000 in
theorem heldIntS_s (v : Value) (m : Nat) (k0 : Int) (w : World) (hv : Rds LI w v ((List.range m).map (mkInt k0))) (hk0 : 0 ≤ k0) (hk1 : k0 ≤ 1099511627776) (hn : m ≤ 1099511627776) :
    Calls Try.prog 18 #[v, .int .i64 k0] w fun e w' => e = .returned (.int .i64 (k0 + (m : Int))) ∧ w.grownBy w' none := by
  obtain ⟨a, n, cap, rfl, h1, hm, HN, HC⟩ := LI_get hv
  obtain rfl : n = m := by have := HN.out; simpa using this
  clear HN hv
  go_enter Try.func18, Try.ntmps18
  go_wp2
  go_loopw [1, 5] (fun u i wr => ∃ k q : Nat, k ≤ n ∧ u = .int .i64 (k0 + (k : Int)) ∧ i = .int .i64 k ∧ wr = w.drewN q) (fun _ i _ => n - (intOf i).toNat)
  case atStart => exact ⟨0, 0, by omega, by simp, rfl, rfl⟩
  case round =>
    obtain ⟨k, q, hk, rfl, rfl, rfl⟩ := hrel
    by_cases hlt : k < n
    · obtain ⟨b, off, x, rfl, _, hx, c1⟩ := HC.out k hlt
      obtain rfl : x = k0 + (k : Int) := by
        have := hx.out
        rw [List.getElem?_map, List.getElem?_range hlt] at this
        exact (Option.some.inj this).symm
      clear hx
      go_wp2
      go_roundw
      case rel => exact ⟨k + 1, _, by omega, by go_num, by go_num, rfl⟩
      case measure => simp [intOf]; omega
    · obtain rfl : k = n := by omega
      go_wp2
      go_ret
      exact ⟨rfl, gb_drewN (World.grownBy.refl _ _) q⟩
end Go.Proofs.Ytpbihjkfbbmdjaa
