/-
  Structs of 3 ints: the layout of a slice of them; the contracts of the laws' helpers on []Command.
-/
import Derived.Test.YtbhelobahfgaeaaDoorRdr
namespace Go.Proofs.YtbhelobahfgaeaaDoor
open Go Go.RowKit
structure Cmd where
  Kind : Int
  A : Int
  B : Int
/-- .. as a value. -/
def Cmd.val (x : Cmd) : Value := .agg #[.int .i64 x.Kind, .int .i64 x.A, .int .i64 x.B]
def LCmd : Lay Cmd := ⟨3, 47, fun x => [.int .i64 x.Kind, .int .i64 x.A, .int .i64 x.B], fun _ => rfl, by decide, by intro x u hu; simp at hu; rcases hu with h | h | h <;> subst h <;> rfl⟩
theorem LCmd_info : Nonempty (ElemInfo Tryd.prog LCmd 23 ⟨0, 0, 0⟩) := ElemInfo.mk' (z := .agg #[.int .i64 0, .int .i64 0, .int .i64 0]) (bytes := 24) Tryd.underlying23 (by kernel_rfl) rfl (by decide)
theorem LCmd_get {w : World} {v : Value} {xs : List Cmd} (h : Rds LCmd w v xs) : ∃ (a : Option Addr) (n cap : Nat), v = .slice a n cap ∧ n ≤ cap ∧ cap ≤ 9223372036854775807 ∧ RowKit.Hid (n = xs.length) ∧
    RowKit.Hid (∀ k, k < n → ∃ (b off : Nat) (x : Cmd), a = some ⟨b, off, none⟩ ∧ b < w.heap.size ∧ RowKit.Hid (xs[k]? = some x) ∧ w.cell? ⟨b, off + k * 3, none⟩ = some (.int .i64 x.Kind) ∧ w.cell? ⟨b, off + k * 3 + 1, none⟩ = some (.int .i64 x.A) ∧ w.cell? ⟨b, off + k * 3 + 2, none⟩ = some (.int .i64 x.B)) := by
  obtain ⟨a, n, cap, hv, h1, h2, HN, HC⟩ := h.get
  refine ⟨a, n, cap, hv, h1, h2, HN, fun k hk => ?_⟩
  obtain ⟨b, off, x, ha, hb, hx, hc⟩ := HC.out k hk
  exact ⟨b, off, x, ha, hb, hx, hc 0 _ rfl, hc 1 _ rfl, hc 2 _ rfl⟩
theorem LCmd_own {w0 w : World} {v : Value} {xs : List Cmd} {Ls : List Asr} (h : St w0 w (Own LCmd v xs :: Ls)) : ∃ (a : Option Addr) (n cap : Nat), v = .slice a n cap ∧ n ≤ cap ∧ cap ≤ 9223372036854775807 ∧ RowKit.Hid (n = xs.length) ∧
    RowKit.Hid (∀ k, k < n → ∃ (g : Nat) (x : Cmd), a = some ⟨g, 0, none⟩ ∧ w0.heap.size ≤ g ∧ g < w.heap.size ∧ RowKit.Hid (xs[k]? = some x) ∧ (w.cell? ⟨g, k * 3, none⟩ = some (.int .i64 x.Kind) ∧ w.cell? ⟨g, k * 3 + 1, none⟩ = some (.int .i64 x.A) ∧ w.cell? ⟨g, k * 3 + 2, none⟩ = some (.int .i64 x.B)) ∧ (∀ j, w.frozen? ⟨g, j, none⟩ = false)) := by
  obtain ⟨a, n, cap, hv, h1, h2, HN, HC⟩ := h.ownGet
  refine ⟨a, n, cap, hv, h1, h2, HN, fun k hk => ?_⟩
  obtain ⟨g, x, ha, hb, hb2, hx, hc, hf⟩ := HC.out k hk
  exact ⟨g, x, ha, hb, hb2, hx, ⟨hc 0 _ rfl, hc 1 _ rfl, hc 2 _ rfl⟩, hf⟩
theorem LCmd_setKind {w0 w : World} {v : Value} {xs : List Cmd} {Ls : List Asr} (h : St w0 w (Own LCmd v xs :: Ls)) {g : Nat} (hv : v.ownBlock = some g) (k : Nat) (x : Cmd) (z : Int) (hx : xs[k]? = some x) :
    St w0 (w.setCell ⟨g, k * 3, none⟩ (.int .i64 z)) (Own LCmd v (xs.set k { x with Kind := z }) :: Ls) := by
  obtain ⟨hk, rfl⟩ := List.getElem?_eq_some_iff.1 hx
  exact h.setAt hv k 0 _ _ hk (by decide) rfl
theorem LCmd_setA {w0 w : World} {v : Value} {xs : List Cmd} {Ls : List Asr} (h : St w0 w (Own LCmd v xs :: Ls)) {g : Nat} (hv : v.ownBlock = some g) (k : Nat) (x : Cmd) (z : Int) (hx : xs[k]? = some x) :
    St w0 (w.setCell ⟨g, k * 3 + 1, none⟩ (.int .i64 z)) (Own LCmd v (xs.set k { x with A := z }) :: Ls) := by
  obtain ⟨hk, rfl⟩ := List.getElem?_eq_some_iff.1 hx
  exact h.setAt hv k 1 _ _ hk (by decide) rfl
theorem LCmd_setB {w0 w : World} {v : Value} {xs : List Cmd} {Ls : List Asr} (h : St w0 w (Own LCmd v xs :: Ls)) {g : Nat} (hv : v.ownBlock = some g) (k : Nat) (x : Cmd) (z : Int) (hx : xs[k]? = some x) :
    St w0 (w.setCell ⟨g, k * 3 + 2, none⟩ (.int .i64 z)) (Own LCmd v (xs.set k { x with B := z }) :: Ls) := by
  obtain ⟨hk, rfl⟩ := List.getElem?_eq_some_iff.1 hx
  exact h.setAt hv k 2 _ _ hk (by decide) rfl
theorem LCmd_setAll {w0 w : World} {v : Value} {xs : List Cmd} {Ls : List Asr} (s0 : St w0 w (Own LCmd v xs :: Ls)) {g : Nat} (hv : v.ownBlock = some g) (k : Nat) (z : Cmd) (hk : k < xs.length) :
    St w0 (((w.setCell ⟨g, k * 3, none⟩ (.int .i64 z.Kind)).setCell ⟨g, k * 3 + 1, none⟩ (.int .i64 z.A)).setCell ⟨g, k * 3 + 2, none⟩ (.int .i64 z.B)) (Own LCmd v (xs.set k z) :: Ls) := by
  obtain ⟨x, hx⟩ : ∃ x, xs[k]? = some x := ⟨_, List.getElem?_eq_getElem hk⟩
  have s1 := LCmd_setKind s0 hv k x z.Kind (by rw [hx])
  have s2 := LCmd_setA s1 hv k { x with Kind := z.Kind } z.A (by rw [List.getElem?_set_self (by simpa using hk)])
  have s3 := LCmd_setB s2 hv k { x with Kind := z.Kind, A := z.A } z.B (by rw [List.getElem?_set_self (by simpa using hk)])
  simp only [List.set_set] at s3
  exact s3
set_option maxHeartbeats 1000000 in
theorem toCommand_s (x : Cmd) (w : World) : Calls Tryd.prog 35 #[.agg #[.int .i64 x.Kind, .int .i64 x.A, .int .i64 x.B]] w fun e w' => e = .returned (.agg #[.int .i64 x.Kind, .int .i64 x.A, .int .i64 x.B]) ∧ w.grownBy w' none := by
  obtain ⟨xKind, xA, xB⟩ := x
  go_enter Tryd.func35, Tryd.ntmps35
  go_wp2
  exact bodyPost_ret (v := .agg #[.int .i64 xKind, .int .i64 xA, .int .i64 xB]) (by simp [results, Tryd.results35, go_sem]) rfl ⟨rfl, gb_alloc (gb_alloc (gb_alloc (World.grownBy.refl _ _) _) _) _⟩
set_option maxHeartbeats 1000000 in
theorem eqCommand_s (x : Cmd) (w : World) : Calls Tryd.prog 36 #[.agg #[.int .i64 x.Kind, .int .i64 x.A, .int .i64 x.B], .agg #[.int .i64 x.Kind, .int .i64 x.A, .int .i64 x.B]] w fun e w' => e = .returned (.bool true) ∧ w.grownBy w' none := by
  obtain ⟨xKind, xA, xB⟩ := x
  go_enter Tryd.func36, Tryd.ntmps36
  go_wp2
  go_ret
  exact ⟨rfl, gb_alloc (gb_alloc (World.grownBy.refl _ _) _) _⟩
set_option maxHeartbeats 1000000 in
theorem toCommandS_s (v : Value) (xs : List Cmd) (w : World) (hv : Rds LCmd w v xs) (hn : xs.length ≤ 1099511627776) :
    Calls Tryd.prog 16 #[v] w fun e w' => ∃ u, e = .returned u ∧ St w w' [Own LCmd u xs] := by
  obtain ⟨a, n, cap, rfl, h1, hm, HN, HC⟩ := LCmd_get hv
  have hn' : n ≤ 1099511627776 := by rw [HN.out]; exact hn
  clear hn
  go_enter Tryd.func16, Tryd.ntmps16
  go_wp2_with (at_make; refine wpList_mk LCmd_info rfl _ _ rfl (St.refl w) _ n rfl rfl rfl hn' ?_; intro w1 S hg)
  go_loopw [4] (fun i wr => ∃ k : Nat, k ≤ n ∧ i = .int .i64 k ∧ St w wr [Own LCmd (.slice (some ⟨w.heap.size, 0, none⟩) n n) (xs.take k ++ List.replicate (n - k) ⟨0, 0, 0⟩)]) (fun i _ => n - (intOf i).toNat)
  case atStart => exact ⟨0, by omega, rfl, by simpa using S⟩
  case round =>
    obtain ⟨k, hk, rfl, S'⟩ := hrel
    clear S hg
    by_cases hlt : k < n
    · obtain ⟨b, off, x, rfl, hb, hx, hc0, hc1, hc2⟩ := HC.out k hlt
      have hc0' := gb_cell S'.gb hc0 (by simp)
      clear hc0
      have hc1' := gb_cell S'.gb hc1 (by simp)
      clear hc1
      have hc2' := gb_cell S'.gb hc2 (by simp)
      clear hc2
      go_wp2_with (go_at_call 35; refine (toCommand_s x _).mono ?_; rintro e w2 ⟨rfl, g2⟩; have S1 := S'.grow g2; obtain ⟨a1, n1, c1, hv1, -, -, HN1, HC1⟩ := LCmd_own S1; obtain ⟨g, y, ha, -, -, -, ⟨hd0, hd1, hd2⟩, hf⟩ := HC1.out k (by simp only [Value.slice.injEq] at hv1; omega); simp only [Value.slice.injEq] at hv1; obtain ⟨hv1, -, -⟩ := hv1; rw [ha] at hv1; simp only [Option.some.injEq, Addr.mk.injEq, and_true] at hv1; obtain rfl := hv1; have S2 := LCmd_setAll S1 (g := w.heap.size) rfl k x (by rw [fill_len xs ⟨0, 0, 0⟩ k n HN.out hk]; exact hlt); rw [fill_step xs ⟨0, 0, 0⟩ k n HN.out hlt x hx.out] at S2; clear hx HN1 HC1 ha S' S1 g2)
      go_roundw
      case rel => exact ⟨k + 1, by omega, by go_num, S2⟩
      case measure => simp [intOf]; omega
    · obtain rfl : k = n := by omega
      rw [fill_end xs ⟨0, 0, 0⟩ k HN.out] at S'
      go_wp2
      go_ret
      exact ⟨_, rfl, S'⟩
set_option maxHeartbeats 1000000 in
theorem eqCommandS_s (v u : Value) (xs : List Cmd) (w : World) (hv : Rds LCmd w v xs) (hu : Rds LCmd w u xs) :
    Calls Tryd.prog 18 #[v, u] w fun e w' => e = .returned (.bool true) ∧ w.grownBy w' none := by
  obtain ⟨a, n, cap, rfl, h1, hm, HN, HC⟩ := LCmd_get hv
  obtain ⟨a', n', cap', rfl, h1', hm', HN', HC'⟩ := LCmd_get hu
  obtain rfl : n = n' := by rw [HN.out, HN'.out]
  go_enter Tryd.func18, Tryd.ntmps18
  go_wp2
  go_loopw [5] (fun i wr => ∃ k : Nat, k ≤ n ∧ i = .int .i64 k ∧ w.grownBy wr none) (fun i _ => n - (intOf i).toNat)
  case atStart => exact ⟨0, by omega, rfl, World.grownBy.refl _ _⟩
  case round =>
    obtain ⟨k, hk, rfl, hg⟩ := hrel
    by_cases hlt : k < n
    · obtain ⟨b, off, x, rfl, _, hx, hc0, hc1, hc2⟩ := HC.out k hlt
      obtain ⟨b', off', x', rfl, _, hx', hd0, hd1, hd2⟩ := HC'.out k hlt
      obtain rfl : x = x' := by have h1 := hx.out; have h2 := hx'.out; rw [h1] at h2; exact Option.some.inj h2
      have hc0' := gb_cell hg hc0 (by simp)
      have hd0' := gb_cell hg hd0 (by simp)
      clear hc0 hd0
      have hc1' := gb_cell hg hc1 (by simp)
      have hd1' := gb_cell hg hd1 (by simp)
      clear hc1 hd1
      have hc2' := gb_cell hg hc2 (by simp)
      have hd2' := gb_cell hg hd2 (by simp)
      clear hc2 hd2
      have HG := Lib.hid hg
      have i0 : (0 : Int) ≤ (k : Int) := by omega
      have i1 : (k : Int) < (n : Int) := by omega
      clear hg hx hx'
      go_wp2
      go_region_held3 (fun w' => w'.cell? ⟨b, off + k * 3, none⟩ = some (.int .i64 x.Kind) ∧ w'.cell? ⟨b', off' + k * 3, none⟩ = some (.int .i64 x.Kind) ∧ w'.cell? ⟨b, off + k * 3 + 1, none⟩ = some (.int .i64 x.A) ∧ w'.cell? ⟨b', off' + k * 3 + 1, none⟩ = some (.int .i64 x.A) ∧ w'.cell? ⟨b, off + k * 3 + 2, none⟩ = some (.int .i64 x.B) ∧ w'.cell? ⟨b', off' + k * 3 + 2, none⟩ = some (.int .i64 x.B)) (first | go_keep | (go_split_ands; refine ⟨?_, ?_, ?_, ?_, ?_, ?_⟩ <;> exact gb_cell g2 (by assumption) (by simp))) ((go_at_call 36; refine (eqCommand_s x _).mono ?_; rintro e w2 ⟨rfl, g2⟩))
      have G2 := gb_trans (gb_drew HG.out) g2
      clear g2 hc0' hd0' hc1' hd1' hc2' hd2'
      go_wp2
      go_roundw
      case rel => exact ⟨k + 1, by omega, by go_num, G2⟩
      case measure => simp [intOf]; omega
    · go_wp2
      go_ret
      exact ⟨rfl, hg⟩
/-- The j-th mark. -/
def mkCmd (k0 : Int) (j : Nat) : Cmd := ⟨k0 + 3 * (j : Int), k0 + 3 * (j : Int) + 1, k0 + 3 * (j : Int) + 1 + 1⟩
theorem mkzCmdKind (k0 : Int) (k : Nat) : (mkCmd k0 k).Kind = k0 + 3 * (k : Int) := rfl
theorem mkzCmdA (k0 : Int) (k : Nat) : (mkCmd k0 k).A = k0 + 3 * (k : Int) + 1 := rfl
theorem mkzCmdB (k0 : Int) (k : Nat) : (mkCmd k0 k).B = k0 + 3 * (k : Int) + 1 + 1 := rfl
set_option maxHeartbeats 4000000 in
theorem markCommandS_s (w0 : World) (v : Value) (xs : List Cmd) (k0 : Int) (Ls : List Asr) (w : World) (S : St w0 w (Own LCmd v xs :: Ls)) (hk0 : 0 ≤ k0) (hk1 : k0 ≤ 1099511627776) (hn : xs.length ≤ 1099511627776) :
    Calls Tryd.prog 19 #[v, .int .i64 k0] w fun e w' => e = .returned (.int .i64 (k0 + 3 * (xs.length : Int))) ∧ St w0 w' (Own LCmd v ((List.range xs.length).map (mkCmd k0)) :: Ls) := by
  obtain ⟨a, n, cap, rfl, h1, hm, HN, HC⟩ := LCmd_own S
  have hn' : n ≤ 1099511627776 := by rw [HN.out]; exact hn
  have Sh : RowKit.Hid (∀ wr k, k = n → St w0 wr (Own LCmd (.slice a n cap) ((List.range k).map (mkCmd k0) ++ xs.drop k) :: Ls) → St w0 wr (Own LCmd (.slice a n cap) ((List.range xs.length).map (mkCmd k0)) :: Ls)) := by
    rintro wr k rfl h
    rw [HN.out, List.drop_length, List.append_nil] at h
    rw [HN.out]
    exact h
  have HL : RowKit.Hid ((n : Int) = (xs.length : Int)) := by show (n : Int) = (xs.length : Int); rw [HN.out]
  clear hn HC
  go_enter Tryd.func19, Tryd.ntmps19
  go_wp2
  go_loopw [1, 5] (fun u i wr => ∃ k : Nat, k ≤ n ∧ u = .int .i64 (k0 + 3 * (k : Int)) ∧ i = .int .i64 k ∧ St w0 wr (Own LCmd (.slice a n cap) ((List.range k).map (mkCmd k0) ++ xs.drop k) :: Ls)) (fun _ i _ => n - (intOf i).toNat)
  case atStart => exact ⟨0, by omega, by simp, rfl, by simpa using S⟩
  case round =>
    obtain ⟨k, hk, rfl, rfl, s0⟩ := hrel
    clear S
    by_cases hlt : k < n
    · have hk2 : k < xs.length := by rw [← HN.out]; exact hlt
      obtain ⟨a1, n1, c1, hv1, -, -, HN1, HC1⟩ := LCmd_own s0
      simp only [Value.slice.injEq] at hv1
      obtain ⟨rfl, rfl, rfl⟩ := hv1
      obtain ⟨g, x, rfl, hg1, hg2, hx, ⟨hc0, hc1, hc2⟩, hf⟩ := HC1.out k hlt
      have hx2 : some xs[k] = some x := by have := hx.out; rw [mark_get _ _ _ hk2] at this; exact this
      have SE := LCmd_setAll s0 (g := g) rfl k (mkCmd k0 k) (by rw [mark_len _ _ _ (by omega)]; exact hk2)
      rw [mark_step _ xs k hk2] at SE
      simp only [mkzCmdKind, mkzCmdA, mkzCmdB] at SE
      have SF := Lib.hid SE
      clear HC1 HN1 s0 hx hx2 hk2 SE hg1 hg2
      go_wp2
      go_roundw
      case rel => exact ⟨k + 1, by omega, by go_num, by go_num, SF.out⟩
      case measure => simp [intOf]; omega
    · have S2 := Sh.out wr k (by omega) s0
      obtain rfl : k = n := by omega
      go_wp2
      go_ret
      exact ⟨by rw [HL.out]; rfl, S2⟩
set_option maxHeartbeats 4000000 in
theorem heldCommandS_s (v : Value) (m : Nat) (k0 : Int) (w : World) (hv : Rds LCmd w v ((List.range m).map (mkCmd k0))) (hk0 : 0 ≤ k0) (hk1 : k0 ≤ 1099511627776) (hn : m ≤ 1099511627776) :
    Calls Tryd.prog 25 #[v, .int .i64 k0] w fun e w' => e = .returned (.int .i64 (k0 + 3 * (m : Int))) ∧ w.grownBy w' none := by
  obtain ⟨a, n, cap, rfl, h1, hm, HN, HC⟩ := LCmd_get hv
  obtain rfl : n = m := by have := HN.out; simpa using this
  clear HN hv
  go_enter Tryd.func25, Tryd.ntmps25
  go_wp2
  go_loopw [1, 5] (fun u i wr => ∃ k q : Nat, k ≤ n ∧ u = .int .i64 (k0 + 3 * (k : Int)) ∧ i = .int .i64 k ∧ wr = w.drewN q) (fun _ i _ => n - (intOf i).toNat)
  case atStart => exact ⟨0, 0, by omega, by simp, rfl, rfl⟩
  case round =>
    obtain ⟨k, q, hk, rfl, rfl, rfl⟩ := hrel
    by_cases hlt : k < n
    · obtain ⟨b, off, x, rfl, _, hx, hc0, hc1, hc2⟩ := HC.out k hlt
      obtain rfl : x = mkCmd k0 k := by
        have := hx.out
        rw [List.getElem?_map, List.getElem?_range hlt] at this
        exact (Option.some.inj this).symm
      clear hx
      simp only [mkCmd] at hc0 hc1 hc2
      go_wp2
      go_roundw
      case rel => exact ⟨k + 1, _, by omega, by go_num, by go_num, rfl⟩
      case measure => simp [intOf]; omega
    · obtain rfl : k = n := by omega
      go_wp2
      go_ret
      exact ⟨rfl, gb_drewN (World.grownBy.refl _ _) q⟩
theorem szCommandS_s (v : Value) (xs : List Cmd) (k : Int) (w : World) (hv : Rds LCmd w v xs) (h0 : -1 ≤ k) (h1 : k ≤ 1048576) :
    Calls Tryd.prog 15 #[v, .int .i64 k] w fun e w' => ∃ r : Int, e = .returned (.int .i64 r) ∧ -1 ≤ r ∧ r ≤ k ∧ (0 ≤ r → (xs.length : Int) ≤ k - r) ∧ w = w' := by
  obtain ⟨a, n, cap, rfl, h2, hm, HN, HC⟩ := LCmd_get hv
  have e : (xs.length : Int) = (n : Int) := by have := HN.out; omega
  rw [e]
  by_cases hlt : k - (n : Int) < 0
  · go_enter Tryd.func15, Tryd.ntmps15
    go_wp2
    go_ret
    exact ⟨-1, rfl, by omega, by omega, by omega, rfl⟩
  · go_enter Tryd.func15, Tryd.ntmps15
    go_wp2
    go_ret
    exact ⟨k - (n : Int), rfl, by omega, by omega, by omega, rfl⟩
end Go.Proofs.YtbhelobahfgaeaaDoor
