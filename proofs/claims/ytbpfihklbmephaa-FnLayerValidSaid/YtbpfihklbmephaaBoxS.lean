/-
  Structs of 4 ints: the layout of a slice of them; the contracts of the laws' helpers on []Box.
-/
import Derived.Test.YtbpfihklbmephaaRdr
namespace Go.Proofs.Ytbpfihklbmephaa
open Go Go.RowKit
structure Bx where
  X : Int
  Y : Int
  W : Int
  D : Int
/-- .. as a value. -/
def Bx.val (x : Bx) : Value := .agg #[.int .i64 x.X, .int .i64 x.Y, .int .i64 x.W, .int .i64 x.D]
def LBx : Lay Bx := ⟨4, 25, fun x => [.int .i64 x.X, .int .i64 x.Y, .int .i64 x.W, .int .i64 x.D], fun _ => rfl, by decide, by intro x u hu; simp at hu; rcases hu with h | h | h | h <;> subst h <;> rfl⟩
theorem LBx_info : Nonempty (ElemInfo Try.prog LBx 36 ⟨0, 0, 0, 0⟩) := ElemInfo.mk' (z := .agg #[.int .i64 0, .int .i64 0, .int .i64 0, .int .i64 0]) (bytes := 32) Try.underlying36 (by kernel_rfl) rfl (by decide)
theorem LBx_get {w : World} {v : Value} {xs : List Bx} (h : Rds LBx w v xs) : ∃ (a : Option Addr) (n cap : Nat), v = .slice a n cap ∧ n ≤ cap ∧ cap ≤ 9223372036854775807 ∧ RowKit.Hid (n = xs.length) ∧
    RowKit.Hid (∀ k, k < n → ∃ (b off : Nat) (x : Bx), a = some ⟨b, off, none⟩ ∧ b < w.heap.size ∧ RowKit.Hid (xs[k]? = some x) ∧ w.cell? ⟨b, off + k * 4, none⟩ = some (.int .i64 x.X) ∧ w.cell? ⟨b, off + k * 4 + 1, none⟩ = some (.int .i64 x.Y) ∧ w.cell? ⟨b, off + k * 4 + 2, none⟩ = some (.int .i64 x.W) ∧ w.cell? ⟨b, off + k * 4 + 3, none⟩ = some (.int .i64 x.D)) := by
  obtain ⟨a, n, cap, hv, h1, h2, HN, HC⟩ := h.get
  refine ⟨a, n, cap, hv, h1, h2, HN, fun k hk => ?_⟩
  obtain ⟨b, off, x, ha, hb, hx, hc⟩ := HC.out k hk
  exact ⟨b, off, x, ha, hb, hx, hc 0 _ rfl, hc 1 _ rfl, hc 2 _ rfl, hc 3 _ rfl⟩
theorem LBx_own {w0 w : World} {v : Value} {xs : List Bx} {Ls : List Asr} (h : St w0 w (Own LBx v xs :: Ls)) : ∃ (a : Option Addr) (n cap : Nat), v = .slice a n cap ∧ n ≤ cap ∧ cap ≤ 9223372036854775807 ∧ RowKit.Hid (n = xs.length) ∧
    RowKit.Hid (∀ k, k < n → ∃ (g : Nat) (x : Bx), a = some ⟨g, 0, none⟩ ∧ w0.heap.size ≤ g ∧ g < w.heap.size ∧ RowKit.Hid (xs[k]? = some x) ∧ (w.cell? ⟨g, k * 4, none⟩ = some (.int .i64 x.X) ∧ w.cell? ⟨g, k * 4 + 1, none⟩ = some (.int .i64 x.Y) ∧ w.cell? ⟨g, k * 4 + 2, none⟩ = some (.int .i64 x.W) ∧ w.cell? ⟨g, k * 4 + 3, none⟩ = some (.int .i64 x.D)) ∧ (∀ j, w.frozen? ⟨g, j, none⟩ = false)) := by
  obtain ⟨a, n, cap, hv, h1, h2, HN, HC⟩ := h.ownGet
  refine ⟨a, n, cap, hv, h1, h2, HN, fun k hk => ?_⟩
  obtain ⟨g, x, ha, hb, hb2, hx, hc, hf⟩ := HC.out k hk
  exact ⟨g, x, ha, hb, hb2, hx, ⟨hc 0 _ rfl, hc 1 _ rfl, hc 2 _ rfl, hc 3 _ rfl⟩, hf⟩
theorem LBx_setX {w0 w : World} {v : Value} {xs : List Bx} {Ls : List Asr} (h : St w0 w (Own LBx v xs :: Ls)) {g : Nat} (hv : v.ownBlock = some g) (k : Nat) (x : Bx) (z : Int) (hx : xs[k]? = some x) :
    St w0 (w.setCell ⟨g, k * 4, none⟩ (.int .i64 z)) (Own LBx v (xs.set k { x with X := z }) :: Ls) := by
  obtain ⟨hk, rfl⟩ := List.getElem?_eq_some_iff.1 hx
  exact h.setAt hv k 0 _ _ hk (by decide) rfl
theorem LBx_setY {w0 w : World} {v : Value} {xs : List Bx} {Ls : List Asr} (h : St w0 w (Own LBx v xs :: Ls)) {g : Nat} (hv : v.ownBlock = some g) (k : Nat) (x : Bx) (z : Int) (hx : xs[k]? = some x) :
    St w0 (w.setCell ⟨g, k * 4 + 1, none⟩ (.int .i64 z)) (Own LBx v (xs.set k { x with Y := z }) :: Ls) := by
  obtain ⟨hk, rfl⟩ := List.getElem?_eq_some_iff.1 hx
  exact h.setAt hv k 1 _ _ hk (by decide) rfl
theorem LBx_setW {w0 w : World} {v : Value} {xs : List Bx} {Ls : List Asr} (h : St w0 w (Own LBx v xs :: Ls)) {g : Nat} (hv : v.ownBlock = some g) (k : Nat) (x : Bx) (z : Int) (hx : xs[k]? = some x) :
    St w0 (w.setCell ⟨g, k * 4 + 2, none⟩ (.int .i64 z)) (Own LBx v (xs.set k { x with W := z }) :: Ls) := by
  obtain ⟨hk, rfl⟩ := List.getElem?_eq_some_iff.1 hx
  exact h.setAt hv k 2 _ _ hk (by decide) rfl
theorem LBx_setD {w0 w : World} {v : Value} {xs : List Bx} {Ls : List Asr} (h : St w0 w (Own LBx v xs :: Ls)) {g : Nat} (hv : v.ownBlock = some g) (k : Nat) (x : Bx) (z : Int) (hx : xs[k]? = some x) :
    St w0 (w.setCell ⟨g, k * 4 + 3, none⟩ (.int .i64 z)) (Own LBx v (xs.set k { x with D := z }) :: Ls) := by
  obtain ⟨hk, rfl⟩ := List.getElem?_eq_some_iff.1 hx
  exact h.setAt hv k 3 _ _ hk (by decide) rfl
theorem LBx_setAll {w0 w : World} {v : Value} {xs : List Bx} {Ls : List Asr} (s0 : St w0 w (Own LBx v xs :: Ls)) {g : Nat} (hv : v.ownBlock = some g) (k : Nat) (z : Bx) (hk : k < xs.length) :
    St w0 ((((w.setCell ⟨g, k * 4, none⟩ (.int .i64 z.X)).setCell ⟨g, k * 4 + 1, none⟩ (.int .i64 z.Y)).setCell ⟨g, k * 4 + 2, none⟩ (.int .i64 z.W)).setCell ⟨g, k * 4 + 3, none⟩ (.int .i64 z.D)) (Own LBx v (xs.set k z) :: Ls) := by
  obtain ⟨x, hx⟩ : ∃ x, xs[k]? = some x := ⟨_, List.getElem?_eq_getElem hk⟩
  have s1 := LBx_setX s0 hv k x z.X (by rw [hx])
  have s2 := LBx_setY s1 hv k { x with X := z.X } z.Y (by rw [List.getElem?_set_self (by simpa using hk)])
  have s3 := LBx_setW s2 hv k { x with X := z.X, Y := z.Y } z.W (by rw [List.getElem?_set_self (by simpa using hk)])
  have s4 := LBx_setD s3 hv k { x with X := z.X, Y := z.Y, W := z.W } z.D (by rw [List.getElem?_set_self (by simpa using hk)])
  simp only [List.set_set] at s4
  exact s4
set_option maxHeartbeats 1000000 in
theorem toBox_s (x : Bx) (w : World) : Calls Try.prog 12 #[.agg #[.int .i64 x.X, .int .i64 x.Y, .int .i64 x.W, .int .i64 x.D]] w fun e w' => e = .returned (.agg #[.int .i64 x.X, .int .i64 x.Y, .int .i64 x.W, .int .i64 x.D]) ∧ w.grownBy w' none := by
  obtain ⟨xX, xY, xW, xD⟩ := x
  go_enter Try.func12, Try.ntmps12
  go_wp2
  exact bodyPost_ret (v := .agg #[.int .i64 xX, .int .i64 xY, .int .i64 xW, .int .i64 xD]) (by simp [results, Try.results12, go_sem]) rfl ⟨rfl, gb_alloc (gb_alloc (gb_alloc (World.grownBy.refl _ _) _) _) _⟩
set_option maxHeartbeats 1000000 in
theorem eqBox_s (x : Bx) (w : World) : Calls Try.prog 37 #[.agg #[.int .i64 x.X, .int .i64 x.Y, .int .i64 x.W, .int .i64 x.D], .agg #[.int .i64 x.X, .int .i64 x.Y, .int .i64 x.W, .int .i64 x.D]] w fun e w' => e = .returned (.bool true) ∧ w.grownBy w' none := by
  obtain ⟨xX, xY, xW, xD⟩ := x
  go_enter Try.func37, Try.ntmps37
  go_wp2
  go_ret
  exact ⟨rfl, gb_alloc (gb_alloc (World.grownBy.refl _ _) _) _⟩
set_option maxHeartbeats 1000000 in
theorem toBoxS_s (v : Value) (xs : List Bx) (w : World) (hv : Rds LBx w v xs) (hn : xs.length ≤ 1099511627776) :
    Calls Try.prog 18 #[v] w fun e w' => ∃ u, e = .returned u ∧ St w w' [Own LBx u xs] := by
  obtain ⟨a, n, cap, rfl, h1, hm, HN, HC⟩ := LBx_get hv
  have hn' : n ≤ 1099511627776 := by rw [HN.out]; exact hn
  clear hn
  go_enter Try.func18, Try.ntmps18
  go_wp2_with (at_make; refine wpList_mk LBx_info rfl _ _ rfl (St.refl w) _ n rfl rfl rfl hn' ?_; intro w1 S hg)
  go_loopw [4] (fun i wr => ∃ k : Nat, k ≤ n ∧ i = .int .i64 k ∧ St w wr [Own LBx (.slice (some ⟨w.heap.size, 0, none⟩) n n) (xs.take k ++ List.replicate (n - k) ⟨0, 0, 0, 0⟩)]) (fun i _ => n - (intOf i).toNat)
  case atStart => exact ⟨0, by omega, rfl, by simpa using S⟩
  case round =>
    obtain ⟨k, hk, rfl, S'⟩ := hrel
    clear S hg
    by_cases hlt : k < n
    · obtain ⟨b, off, x, rfl, hb, hx, hc0, hc1, hc2, hc3⟩ := HC.out k hlt
      have hc0' := gb_cell S'.gb hc0 (by simp)
      clear hc0
      have hc1' := gb_cell S'.gb hc1 (by simp)
      clear hc1
      have hc2' := gb_cell S'.gb hc2 (by simp)
      clear hc2
      have hc3' := gb_cell S'.gb hc3 (by simp)
      clear hc3
      go_wp2_with (go_at_call 12; refine (toBox_s x _).mono ?_; rintro e w2 ⟨rfl, g2⟩; have S1 := S'.grow g2; obtain ⟨a1, n1, c1, hv1, -, -, HN1, HC1⟩ := LBx_own S1; obtain ⟨g, y, ha, -, -, -, ⟨hd0, hd1, hd2, hd3⟩, hf⟩ := HC1.out k (by simp only [Value.slice.injEq] at hv1; omega); simp only [Value.slice.injEq] at hv1; obtain ⟨hv1, -, -⟩ := hv1; rw [ha] at hv1; simp only [Option.some.injEq, Addr.mk.injEq, and_true] at hv1; obtain rfl := hv1; have S2 := LBx_setAll S1 (g := w.heap.size) rfl k x (by rw [fill_len xs ⟨0, 0, 0, 0⟩ k n HN.out hk]; exact hlt); rw [fill_step xs ⟨0, 0, 0, 0⟩ k n HN.out hlt x hx.out] at S2; clear hx HN1 HC1 ha S' S1 g2)
      go_roundw
      case rel => exact ⟨k + 1, by omega, by go_num, S2⟩
      case measure => simp [intOf]; omega
    · obtain rfl : k = n := by omega
      rw [fill_end xs ⟨0, 0, 0, 0⟩ k HN.out] at S'
      go_wp2
      go_ret
      exact ⟨_, rfl, S'⟩
set_option maxHeartbeats 1000000 in
theorem eqBoxS_s (v u : Value) (xs : List Bx) (w : World) (hv : Rds LBx w v xs) (hu : Rds LBx w u xs) :
    Calls Try.prog 20 #[v, u] w fun e w' => e = .returned (.bool true) ∧ w.grownBy w' none := by
  obtain ⟨a, n, cap, rfl, h1, hm, HN, HC⟩ := LBx_get hv
  obtain ⟨a', n', cap', rfl, h1', hm', HN', HC'⟩ := LBx_get hu
  obtain rfl : n = n' := by rw [HN.out, HN'.out]
  go_enter Try.func20, Try.ntmps20
  go_wp2
  go_loopw [5] (fun i wr => ∃ k : Nat, k ≤ n ∧ i = .int .i64 k ∧ w.grownBy wr none) (fun i _ => n - (intOf i).toNat)
  case atStart => exact ⟨0, by omega, rfl, World.grownBy.refl _ _⟩
  case round =>
    obtain ⟨k, hk, rfl, hg⟩ := hrel
    by_cases hlt : k < n
    · obtain ⟨b, off, x, rfl, _, hx, hc0, hc1, hc2, hc3⟩ := HC.out k hlt
      obtain ⟨b', off', x', rfl, _, hx', hd0, hd1, hd2, hd3⟩ := HC'.out k hlt
      obtain rfl : x = x' := by have h1 := hx.out; have h2 := hx'.out; rw [h1] at h2; exact Option.some.inj h2
      have hc0' := gb_cell hg hc0 (by simp)
      have hd0' := gb_cell hg hd0 (by simp)
      clear hc0 hd0
      have hc1' := gb_cell hg hc1 (by simp)
      have hd1' := gb_cell hg hd1 (by simp)
      clear hc1 hd1
      have hc2' := gb_cell hg hc2 (by simp)
      have hd2' := gb_cell hg hd2 (by simp)
      clear hc2 hd2
      have hc3' := gb_cell hg hc3 (by simp)
      have hd3' := gb_cell hg hd3 (by simp)
      clear hc3 hd3
      have HG := Lib.hid hg
      have i0 : (0 : Int) ≤ (k : Int) := by omega
      have i1 : (k : Int) < (n : Int) := by omega
      clear hg hx hx'
      go_wp2
      go_region_held3 (fun w' => w'.cell? ⟨b, off + k * 4, none⟩ = some (.int .i64 x.X) ∧ w'.cell? ⟨b', off' + k * 4, none⟩ = some (.int .i64 x.X) ∧ w'.cell? ⟨b, off + k * 4 + 1, none⟩ = some (.int .i64 x.Y) ∧ w'.cell? ⟨b', off' + k * 4 + 1, none⟩ = some (.int .i64 x.Y) ∧ w'.cell? ⟨b, off + k * 4 + 2, none⟩ = some (.int .i64 x.W) ∧ w'.cell? ⟨b', off' + k * 4 + 2, none⟩ = some (.int .i64 x.W) ∧ w'.cell? ⟨b, off + k * 4 + 3, none⟩ = some (.int .i64 x.D) ∧ w'.cell? ⟨b', off' + k * 4 + 3, none⟩ = some (.int .i64 x.D)) (first | go_keep | (go_split_ands; refine ⟨?_, ?_, ?_, ?_, ?_, ?_, ?_, ?_⟩ <;> exact gb_cell g2 (by assumption) (by simp))) ((go_at_call 37; refine (eqBox_s x _).mono ?_; rintro e w2 ⟨rfl, g2⟩))
      have G2 := gb_trans (gb_drew HG.out) g2
      clear g2 hc0' hd0' hc1' hd1' hc2' hd2' hc3' hd3'
      go_wp2
      go_roundw
      case rel => exact ⟨k + 1, by omega, by go_num, G2⟩
      case measure => simp [intOf]; omega
    · go_wp2
      go_ret
      exact ⟨rfl, hg⟩
/-- The j-th mark. -/
def mkBx (k0 : Int) (j : Nat) : Bx := ⟨k0 + 4 * (j : Int), k0 + 4 * (j : Int) + 1, k0 + 4 * (j : Int) + 1 + 1, k0 + 4 * (j : Int) + 1 + 1 + 1⟩
theorem mkzBxX (k0 : Int) (k : Nat) : (mkBx k0 k).X = k0 + 4 * (k : Int) := rfl
theorem mkzBxY (k0 : Int) (k : Nat) : (mkBx k0 k).Y = k0 + 4 * (k : Int) + 1 := rfl
theorem mkzBxW (k0 : Int) (k : Nat) : (mkBx k0 k).W = k0 + 4 * (k : Int) + 1 + 1 := rfl
theorem mkzBxD (k0 : Int) (k : Nat) : (mkBx k0 k).D = k0 + 4 * (k : Int) + 1 + 1 + 1 := rfl
set_option maxHeartbeats 4000000 in
theorem markBoxS_s (w0 : World) (v : Value) (xs : List Bx) (k0 : Int) (Ls : List Asr) (w : World) (S : St w0 w (Own LBx v xs :: Ls)) (hk0 : 0 ≤ k0) (hk1 : k0 ≤ 1099511627776) (hn : xs.length ≤ 1099511627776) :
    Calls Try.prog 23 #[v, .int .i64 k0] w fun e w' => e = .returned (.int .i64 (k0 + 4 * (xs.length : Int))) ∧ St w0 w' (Own LBx v ((List.range xs.length).map (mkBx k0)) :: Ls) := by
  obtain ⟨a, n, cap, rfl, h1, hm, HN, HC⟩ := LBx_own S
  have hn' : n ≤ 1099511627776 := by rw [HN.out]; exact hn
  have Sh : RowKit.Hid (∀ wr k, k = n → St w0 wr (Own LBx (.slice a n cap) ((List.range k).map (mkBx k0) ++ xs.drop k) :: Ls) → St w0 wr (Own LBx (.slice a n cap) ((List.range xs.length).map (mkBx k0)) :: Ls)) := by
    rintro wr k rfl h
    rw [HN.out, List.drop_length, List.append_nil] at h
    rw [HN.out]
    exact h
  have HL : RowKit.Hid ((n : Int) = (xs.length : Int)) := by show (n : Int) = (xs.length : Int); rw [HN.out]
  clear hn HC
  go_enter Try.func23, Try.ntmps23
  go_wp2
  go_loopw [1, 5] (fun u i wr => ∃ k : Nat, k ≤ n ∧ u = .int .i64 (k0 + 4 * (k : Int)) ∧ i = .int .i64 k ∧ St w0 wr (Own LBx (.slice a n cap) ((List.range k).map (mkBx k0) ++ xs.drop k) :: Ls)) (fun _ i _ => n - (intOf i).toNat)
  case atStart => exact ⟨0, by omega, by simp, rfl, by simpa using S⟩
  case round =>
    obtain ⟨k, hk, rfl, rfl, s0⟩ := hrel
    clear S
    by_cases hlt : k < n
    · have hk2 : k < xs.length := by rw [← HN.out]; exact hlt
      obtain ⟨a1, n1, c1, hv1, -, -, HN1, HC1⟩ := LBx_own s0
      simp only [Value.slice.injEq] at hv1
      obtain ⟨rfl, rfl, rfl⟩ := hv1
      obtain ⟨g, x, rfl, hg1, hg2, hx, ⟨hc0, hc1, hc2, hc3⟩, hf⟩ := HC1.out k hlt
      have hx2 : some xs[k] = some x := by have := hx.out; rw [mark_get _ _ _ hk2] at this; exact this
      have SE := LBx_setAll s0 (g := g) rfl k (mkBx k0 k) (by rw [mark_len _ _ _ (by omega)]; exact hk2)
      rw [mark_step _ xs k hk2] at SE
      simp only [mkzBxX, mkzBxY, mkzBxW, mkzBxD] at SE
      have SF := Lib.hid SE
      clear HC1 HN1 s0 hx hx2 hk2 SE hg1 hg2
      go_wp2
      go_roundw
      case rel => exact ⟨k + 1, by omega, by go_num, by go_num, SF.out⟩
      case measure => simp [intOf]; omega
    · have S2 := Sh.out wr k (by omega) s0
      obtain rfl : k = n := by omega
      go_wp2
      go_ret
      exact ⟨by rw [HL.out]; rfl, S2⟩
set_option maxHeartbeats 4000000 in
theorem heldBoxS_s (v : Value) (m : Nat) (k0 : Int) (w : World) (hv : Rds LBx w v ((List.range m).map (mkBx k0))) (hk0 : 0 ≤ k0) (hk1 : k0 ≤ 1099511627776) (hn : m ≤ 1099511627776) :
    Calls Try.prog 24 #[v, .int .i64 k0] w fun e w' => e = .returned (.int .i64 (k0 + 4 * (m : Int))) ∧ w.grownBy w' none := by
  obtain ⟨a, n, cap, rfl, h1, hm, HN, HC⟩ := LBx_get hv
  obtain rfl : n = m := by have := HN.out; simpa using this
  clear HN hv
  go_enter Try.func24, Try.ntmps24
  go_wp2
  go_loopw [1, 5] (fun u i wr => ∃ k q : Nat, k ≤ n ∧ u = .int .i64 (k0 + 4 * (k : Int)) ∧ i = .int .i64 k ∧ wr = w.drewN q) (fun _ i _ => n - (intOf i).toNat)
  case atStart => exact ⟨0, 0, by omega, by simp, rfl, rfl⟩
  case round =>
    obtain ⟨k, q, hk, rfl, rfl, rfl⟩ := hrel
    by_cases hlt : k < n
    · obtain ⟨b, off, x, rfl, _, hx, hc0, hc1, hc2, hc3⟩ := HC.out k hlt
      obtain rfl : x = mkBx k0 k := by
        have := hx.out
        rw [List.getElem?_map, List.getElem?_range hlt] at this
        exact (Option.some.inj this).symm
      clear hx
      simp only [mkBx] at hc0 hc1 hc2 hc3
      go_wp2
      go_roundw
      case rel => exact ⟨k + 1, _, by omega, by go_num, by go_num, rfl⟩
      case measure => simp [intOf]; omega
    · obtain rfl : k = n := by omega
      go_wp2
      go_ret
      exact ⟨rfl, gb_drewN (World.grownBy.refl _ _) q⟩
theorem szBoxS_s (v : Value) (xs : List Bx) (k : Int) (w : World) (hv : Rds LBx w v xs) (h0 : -1 ≤ k) (h1 : k ≤ 1048576) :
    Calls Try.prog 16 #[v, .int .i64 k] w fun e w' => ∃ r : Int, e = .returned (.int .i64 r) ∧ -1 ≤ r ∧ r ≤ k ∧ (0 ≤ r → (xs.length : Int) ≤ k - r) ∧ w = w' := by
  obtain ⟨a, n, cap, rfl, h2, hm, HN, HC⟩ := LBx_get hv
  have e : (xs.length : Int) = (n : Int) := by have := HN.out; omega
  rw [e]
  by_cases hlt : k - (n : Int) < 0
  · go_enter Try.func16, Try.ntmps16
    go_wp2
    go_ret
    exact ⟨-1, rfl, by omega, by omega, by omega, rfl⟩
  · go_enter Try.func16, Try.ntmps16
    go_wp2
    go_ret
    exact ⟨k - (n : Int), rfl, by omega, by omega, by omega, rfl⟩
end Go.Proofs.Ytbpfihklbmephaa
