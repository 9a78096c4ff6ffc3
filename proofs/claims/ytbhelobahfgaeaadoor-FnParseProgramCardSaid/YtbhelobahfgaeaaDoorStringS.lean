/-
  Slices of texts: the layout; the contracts of the laws' helpers on []string.
-/
import Derived.Test.YtbhelobahfgaeaaDoorNum
import Derived.Test.YtbhelobahfgaeaaDoorQuiet
namespace Go.Proofs.YtbhelobahfgaeaaDoor
open Go Go.RowKit
def LS : Lay ByteArray := ⟨1, 9, fun x => [(.string x)], fun _ => rfl, Nat.one_pos, by intro x u hu; simp at hu; subst hu; rfl⟩
theorem LS_info : Nonempty (ElemInfo Tryd.prog LS 25 ByteArray.empty) := ElemInfo.mk' (z := .string ByteArray.empty) (bytes := 16) Tryd.underlying25 (by kernel_rfl) rfl (by decide)
theorem LS_get {w : World} {v : Value} {xs : List ByteArray} (h : Rds LS w v xs) : ∃ (a : Option Addr) (n cap : Nat), v = .slice a n cap ∧ n ≤ cap ∧ cap ≤ 9223372036854775807 ∧ RowKit.Hid (n = xs.length) ∧
    RowKit.Hid (∀ k, k < n → ∃ (b off : Nat) (x : ByteArray), a = some ⟨b, off, none⟩ ∧ b < w.heap.size ∧ RowKit.Hid (xs[k]? = some x) ∧ w.cell? ⟨b, off + k, none⟩ = some (.string x)) := h.get1 (c := fun x => Value.string x) rfl (fun _ => rfl)
theorem LS_own {w0 w : World} {v : Value} {xs : List ByteArray} {Ls : List Asr} (h : St w0 w (Own LS v xs :: Ls)) : ∃ (a : Option Addr) (n cap : Nat), v = .slice a n cap ∧ n ≤ cap ∧ cap ≤ 9223372036854775807 ∧ RowKit.Hid (n = xs.length) ∧
    RowKit.Hid (∀ k, k < n → ∃ (g : Nat) (x : ByteArray), a = some ⟨g, 0, none⟩ ∧ w0.heap.size ≤ g ∧ g < w.heap.size ∧ RowKit.Hid (xs[k]? = some x) ∧ w.cell? ⟨g, k, none⟩ = some (.string x) ∧ w.frozen? ⟨g, k, none⟩ = false) := h.ownGet1 (c := fun x => Value.string x) rfl (fun _ => rfl)
theorem LS_set {w0 w : World} {v : Value} {xs : List ByteArray} {Ls : List Asr} (h : St w0 w (Own LS v xs :: Ls)) {g : Nat} (hv : v.ownBlock = some g) (k : Nat) (x : ByteArray) (hk : k < xs.length) : St w0 (w.setCell ⟨g, k, none⟩ (.string x)) (Own LS v (xs.set k x) :: Ls) := h.setAt1 (c := fun x => Value.string x) rfl (fun _ => rfl) hv k x _ rfl hk
/-- The letters of the first k texts. -/
def letters (xs : List ByteArray) : Nat := (xs.map (·.size)).sum
theorem letters_take (xs : List ByteArray) (k : Nat) (x : ByteArray) (hx : xs[k]? = some x) : letters (xs.take (k + 1)) = letters (xs.take k) + x.size := by
  obtain ⟨hk, rfl⟩ := List.getElem?_eq_some_iff.1 hx
  unfold letters
  rw [List.take_succ_eq_append_getElem hk, List.map_append, List.sum_append]
  simp only [List.map_cons, List.map_nil, List.sum_cons, List.sum_nil, Nat.add_zero]
set_option maxHeartbeats 400000 in
theorem szStringS_s (v : Value) (xs : List ByteArray) (k : Int) (w : World) (hv : Rds LS w v xs) (hz : ∀ (j : Nat) x, xs[j]? = some x → x.size ≤ 9223372036854775807) (h0 : -1 ≤ k) (h1 : k ≤ 1048576) :
    Calls Tryd.prog 22 #[v, .int .i64 k] w fun e w' => ∃ r : Int, e = .returned (.int .i64 r) ∧ -1 ≤ r ∧ r ≤ k ∧ (0 ≤ r → (xs.length : Int) ≤ k - r ∧ (letters xs : Int) ≤ k - r) ∧ w.grownBy w' none := by
  have HZ := Lib.hid hz
  clear hz
  obtain ⟨a, n, cap, rfl, h2, hm, HN, HC⟩ := LS_get hv
  have e : (xs.length : Int) = (n : Int) := by have := HN.out; omega
  have HL : RowKit.Hid (∀ j, j = n → letters (xs.take j) = letters xs) := by
    rintro j rfl
    rw [HN.out, List.take_length]
  have HTK : RowKit.Hid (∀ j x, xs[j]? = some x → letters (xs.take (j + 1)) = letters (xs.take j) + x.size) := letters_take xs
  rw [e]
  clear e
  by_cases hlt : k - (n : Int) < 0
  · go_enter Tryd.func22, Tryd.ntmps22
    go_wp2
    go_ret
    exact ⟨-1, rfl, by omega, by omega, by omega, World.grownBy.refl _ _⟩
  · go_enter Tryd.func22, Tryd.ntmps22
    go_wp2
    go_loopw [1, 5] (fun u i wr => ∃ (j : Nat) (r : Int), j ≤ n ∧ u = .int .i64 r ∧ i = .int .i64 j ∧ 0 ≤ r ∧ RowKit.Hid (r = k - (n : Int) - (letters (xs.take j) : Int)) ∧ w.grownBy wr none) (fun _ i _ => n - (intOf i).toNat)
    case atStart => exact ⟨0, k - (n : Int), by omega, rfl, rfl, by omega, (show _ = _ by simp [letters]), World.grownBy.refl _ _⟩
    case round =>
      obtain ⟨j, r, hj, rfl, rfl, hr0, HR, G⟩ := hrel
      have hrk : r ≤ k := by have := HR.out; omega
      by_cases hlt2 : j < n
      · obtain ⟨b, off, x, rfl, hb, hx, hc⟩ := HC.out j hlt2
        have hc' := gb_cell G hc (by simp)
        have hl := HTK.out j x hx.out
        have hxs : x.size ≤ 9223372036854775807 := HZ.out j x hx.out
        by_cases hneg : r - (x.size : Int) < 0
        · clear hl hx
          go_wp2
          go_ret
          exact ⟨-1, rfl, by omega, by omega, by omega, G⟩
        · have HR2 : RowKit.Hid (r - (x.size : Int) = k - (n : Int) - (letters (xs.take (j + 1)) : Int)) := by show _ = _; rw [hl, HR.out]; omega
          clear hl hx HR
          go_wp2
          go_roundw
          case rel => exact ⟨j + 1, r - (x.size : Int), by omega, rfl, by go_num, by omega, HR2, G⟩
          case measure => simp [intOf]; omega
      · obtain rfl : j = n := by omega
        have hl := HL.out j rfl
        have := HR.out
        rw [hl] at this
        clear HR HL hl
        go_wp2
        go_ret
        exact ⟨r, rfl, by omega, by omega, fun _ => by omega, G⟩
set_option maxHeartbeats 400000 in
theorem toStringS_s (v : Value) (xs : List ByteArray) (w : World) (hv : Rds LS w v xs) (hn : xs.length ≤ 1099511627776) :
    Calls Tryd.prog 24 #[v] w fun e w' => ∃ u, e = .returned u ∧ St w w' [Own LS u xs] := by
  obtain ⟨a, n, cap, rfl, h1, hm, HN, HC⟩ := LS_get hv
  have hn' : n ≤ 1099511627776 := by rw [HN.out]; exact hn
  clear hn
  go_enter Tryd.func24, Tryd.ntmps24
  go_wp2_with (at_make; refine wpList_mk LS_info rfl _ _ rfl (St.refl w) _ n rfl rfl rfl hn' ?_; intro w1 S hg)
  go_loopw [4] (fun i wr => ∃ k : Nat, k ≤ n ∧ i = .int .i64 k ∧ St w wr [Own LS (.slice (some ⟨w.heap.size, 0, none⟩) n n) (xs.take k ++ List.replicate (n - k) ByteArray.empty)]) (fun i _ => n - (intOf i).toNat)
  case atStart => exact ⟨0, by omega, rfl, by simpa using S⟩
  case round =>
    obtain ⟨k, hk, rfl, S'⟩ := hrel
    clear S hg
    by_cases hlt : k < n
    · obtain ⟨b, off, x, rfl, hb, hx, hc⟩ := HC.out k hlt
      have hc' := gb_cell S'.gb hc (by simp)
      obtain ⟨a1, n1, c1, hv1, -, -, HN1, HC1⟩ := LS_own S'
      obtain ⟨g, y, ha, -, -, -, hd, hf⟩ := HC1.out k (by simp only [Value.slice.injEq] at hv1; omega)
      simp only [Value.slice.injEq] at hv1
      obtain ⟨hv1, -, -⟩ := hv1
      rw [ha] at hv1
      simp only [Option.some.injEq, Addr.mk.injEq, and_true] at hv1
      obtain rfl := hv1
      have S2 := LS_set S' (g := w.heap.size) rfl k x (by rw [fill_len xs ByteArray.empty k n HN.out hk]; exact hlt)
      rw [fill_step xs ByteArray.empty k n HN.out hlt x hx.out] at S2
      clear hx HN1 HC1 ha S' hc
      go_wp2
      go_roundw
      case rel => exact ⟨k + 1, by omega, by go_num, S2⟩
      case measure => simp [intOf]; omega
    · obtain rfl : k = n := by omega
      rw [fill_end xs ByteArray.empty k HN.out] at S'
      go_wp2
      go_ret
      exact ⟨_, rfl, S'⟩
set_option maxHeartbeats 400000 in
theorem eqStringS_s (v u : Value) (xs : List ByteArray) (w : World) (hv : Rds LS w v xs) (hu : Rds LS w u xs) :
    Calls Tryd.prog 17 #[v, u] w fun e w' => e = .returned (.bool true) ∧ ∃ m, w' = w.drewN m := by
  obtain ⟨a, n, cap, rfl, h1, hm, HN, HC⟩ := LS_get hv
  obtain ⟨a', n', cap', rfl, h1', hm', HN', HC'⟩ := LS_get hu
  obtain rfl : n = n' := by rw [HN.out, HN'.out]
  go_enter Tryd.func17, Tryd.ntmps17
  go_wp2
  go_loopw [5] (fun i wr => ∃ k m : Nat, k ≤ n ∧ i = .int .i64 k ∧ wr = w.drewN m) (fun i _ => n - (intOf i).toNat)
  case atStart => exact ⟨0, 0, by omega, rfl, rfl⟩
  case round =>
    obtain ⟨k, m, hk, rfl, rfl⟩ := hrel
    by_cases hlt : k < n
    · obtain ⟨b, off, x, rfl, _, hx, c1⟩ := HC.out k hlt
      obtain ⟨b', off', x', rfl, _, hx', c2⟩ := HC'.out k hlt
      obtain rfl : x = x' := by have h1 := hx.out; have h2 := hx'.out; rw [h1] at h2; exact Option.some.inj h2
      go_wp2
      go_quiet (fail)
      go_wp2
      go_roundw
      case rel => exact ⟨k + 1, _, by omega, by go_num, rfl⟩
      case measure => simp [intOf]; omega
    · go_wp2
      go_ret
      exact ⟨rfl, m, rfl⟩
/-- The j-th mark. -/
def mkStr (k0 : Int) (j : Nat) : ByteArray := markB (k0 + (j : Int))
set_option maxHeartbeats 400000 in
theorem markStringS_s (w0 : World) (v : Value) (xs : List ByteArray) (k0 : Int) (Ls : List Asr) (w : World) (S : St w0 w (Own LS v xs :: Ls)) (hk0 : 0 ≤ k0) (hk1 : k0 ≤ 1099511627776) (hn : xs.length ≤ 1099511627776) :
    Calls Tryd.prog 20 #[v, .int .i64 k0] w fun e w' => e = .returned (.int .i64 (k0 + (xs.length : Int))) ∧ St w0 w' (Own LS v ((List.range xs.length).map (mkStr k0)) :: Ls) := by
  obtain ⟨a, n, cap, rfl, h1, hm, HN, HC⟩ := LS_own S
  have hn' : n ≤ 1099511627776 := by rw [HN.out]; exact hn
  have Sh : RowKit.Hid (∀ wr k, k = n → St w0 wr (Own LS (.slice a n cap) ((List.range k).map (mkStr k0) ++ xs.drop k) :: Ls) → St w0 wr (Own LS (.slice a n cap) ((List.range xs.length).map (mkStr k0)) :: Ls)) := by
    rintro wr k rfl h
    rw [HN.out, List.drop_length, List.append_nil] at h
    rw [HN.out]
    exact h
  have HL : RowKit.Hid ((n : Int) = (xs.length : Int)) := by show (n : Int) = (xs.length : Int); rw [HN.out]
  clear hn HC
  go_enter Tryd.func20, Tryd.ntmps20
  go_wp2
  go_loopw [1, 5] (fun u i wr => ∃ k : Nat, k ≤ n ∧ u = .int .i64 (k0 + (k : Int)) ∧ i = .int .i64 k ∧ St w0 wr (Own LS (.slice a n cap) ((List.range k).map (mkStr k0) ++ xs.drop k) :: Ls)) (fun _ i _ => n - (intOf i).toNat)
  case atStart => exact ⟨0, by omega, by simp, rfl, by simpa using S⟩
  case round =>
    obtain ⟨k, hk, rfl, rfl, S'⟩ := hrel
    clear S
    by_cases hlt : k < n
    · have MT := Lib.hid (markText_s (k0 + (k : Int)) wr (by omega))
      go_wp2_with fail
      refine MT.out.mono ?_
      rintro e w2 ⟨rfl, g2⟩
      have S1 := S'.grow g2
      clear S' g2 MT
      obtain ⟨a1, n1, c1, hv1, -, -, HN1, HC1⟩ := LS_own S1
      simp only [Value.slice.injEq] at hv1
      obtain ⟨rfl, rfl, rfl⟩ := hv1
      obtain ⟨g, y, rfl, hg1, hg2, -, hd, hf⟩ := HC1.out k hlt
      have S2 := LS_set S1 (g := g) rfl k (mkStr k0 k) (by rw [← HN1.out]; exact hlt)
      rw [mark_step _ xs k (by rw [← HN.out]; exact hlt)] at S2
      have e : RowKit.Hid (mkStr k0 k = markB (k0 + (k : Int))) := rfl
      rw [e.out] at S2
      clear HC1 HN1 S1
      go_wp2
      go_roundw
      case rel => exact ⟨k + 1, by omega, by go_num, by go_num, S2⟩
      case measure => simp [intOf]; omega
    · have S2 := Sh.out wr k (by omega) S'
      obtain rfl : k = n := by omega
      go_wp2
      go_ret
      exact ⟨by rw [HL.out]; rfl, S2⟩
set_option maxHeartbeats 400000 in
theorem heldStringS_s (v : Value) (m : Nat) (k0 : Int) (w : World) (hv : Rds LS w v ((List.range m).map (mkStr k0))) (hk0 : 0 ≤ k0) (hk1 : k0 ≤ 1099511627776) (hn : m ≤ 1099511627776) :
    Calls Tryd.prog 21 #[v, .int .i64 k0] w fun e w' => e = .returned (.int .i64 (k0 + (m : Int))) ∧ w.grownBy w' none := by
  obtain ⟨a, n, cap, rfl, h1, hm, HN, HC⟩ := LS_get hv
  obtain rfl : n = m := by have := HN.out; simpa using this
  clear HN hv
  go_enter Tryd.func21, Tryd.ntmps21
  go_wp2
  go_loopw [1, 5] (fun u i wr => ∃ k : Nat, k ≤ n ∧ u = .int .i64 (k0 + (k : Int)) ∧ i = .int .i64 k ∧ w.grownBy wr none) (fun _ i _ => n - (intOf i).toNat)
  case atStart => exact ⟨0, by omega, by simp, rfl, World.grownBy.refl _ _⟩
  case round =>
    obtain ⟨k, hk, rfl, rfl, G⟩ := hrel
    by_cases hlt : k < n
    · obtain ⟨b, off, x, rfl, _, hx, c1⟩ := HC.out k hlt
      obtain rfl : x = markB (k0 + (k : Int)) := by
        have := hx.out
        rw [List.getElem?_map, List.getElem?_range hlt] at this
        exact (Option.some.inj this).symm
      clear hx
      have c1' := gb_cell G c1 (by simp)
      have MT := Lib.hid (fun W => markText_s (k0 + (k : Int)) W (by omega))
      generalize markB (k0 + (k : Int)) = MB at c1 c1' MT
      have c2 := qcell c1'
      go_wp2_with fail
      (refine wp_region_quiet_below (by kernel_rfl) (by kernel_rfl) ?_; (repeat (go_big_quiet_step ((with_reducible exact qc (MT.out _))))); refine wpQuiet_nil ?_; intro _ hw'; obtain ⟨⟨dq, osq⟩, hw''⟩ := hw'; subst hw'')
      have G2 := gb_trans G (qg wr dq osq)
      go_wp2
      go_roundw
      case rel => exact ⟨k + 1, by omega, by go_num, by go_num, G2⟩
      case measure => simp [intOf]; omega
    · obtain rfl : k = n := by omega
      go_wp2
      go_ret
      exact ⟨rfl, G⟩
end Go.Proofs.YtbhelobahfgaeaaDoor
