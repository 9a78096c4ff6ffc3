/-
  Slices of slices of Bool: the contracts of the laws' helpers on [][]bool.
-/
import Derived.Test.YtpkcpkhanodnmaaDeep
import Derived.Test.YtpkcpkhanodnmaaBoolS
namespace Go.Proofs.Ytpkcpkhanodnmaa
open Go Go.RowKit
abbrev LSB : Lay Sl := LSl 39
abbrev DB : Deep Sl (List Bool) := DRow LB
theorem LSB_info : Nonempty (ElemInfo Try.prog LSB 31 (none, 0, 0)) := ElemInfo.mk' (z := .slice none 0 0) (bytes := 24) Try.underlying31 (by kernel_rfl) rfl (by decide)
set_option maxHeartbeats 400000 in
theorem szBoolSS_s (v : Value) (ys : List (List Bool)) (k0 : Int) (w : World) (hv : DRds LSB DB w v ys) (h0 : 0 ≤ k0) (h1 : k0 ≤ 1048576) :
    Calls Try.prog 18 #[v, .int .i64 k0] w fun e w' => ∃ r : Int, e = .returned (.int .i64 r) ∧ -1 ≤ r ∧ r ≤ k0 ∧ (0 ≤ r → (ys.length : Int) ≤ k0 ∧ (total ys : Int) ≤ k0) ∧ w = w' := by
  obtain ⟨a, n, cap, rfl, h2, hm, HN, HC⟩ := hv.rows
  have e : (ys.length : Int) = (n : Int) := by have := HN.out; omega
  rw [e]
  by_cases hlt : k0 - (n : Int) < 0
  · go_enter Try.func18, Try.ntmps18
    go_wp2
    go_ret
    exact ⟨-1, rfl, by omega, by omega, by omega, rfl⟩
  · have FIN : RowKit.Hid (∀ k, k = n → total (ys.take k) = total ys) := by
      rintro k rfl
      rw [HN.out, List.take_length]
    go_enter Try.func18, Try.ntmps18
    go_wp2
    go_loop [1, 5] (fun u i => ∃ (k : Nat) (r : Int), k ≤ n ∧ i = .int .i64 k ∧ u = .int .i64 r ∧ 0 ≤ r ∧ r ≤ k0 ∧ RowKit.Hid ((total (ys.take k) : Int) ≤ k0 - r)) (fun _ i => n - (intOf i).toNat)
    case atStart => exact ⟨0, k0 - (n : Int), by omega, rfl, rfl, by omega, by omega, by show ((total (ys.take 0) : Nat) : Int) ≤ k0 - (k0 - (n : Int)); simp [total]; omega⟩
    case round =>
      obtain ⟨k, r, hk, rfl, rfl, hr0, hr1, HT⟩ := hrel
      by_cases hlt2 : k < n
      · obtain ⟨b, off, ra, rn, rc, y, rfl, hb, hy, hrn, hrc, hrm, hrd, hc⟩ := HC.out k hlt2
        have HT2 : RowKit.Hid (∀ r' : Int, (y.length : Int) ≤ r - r' → (total (ys.take (k + 1)) : Int) ≤ k0 - r') := by
          intro r' hr'
          have := total_take ys k y hy.out
          have := HT.out
          omega
        go_wp2_with (go_at_call 46; refine (szBoolS_s _ y r _ hrd (by omega) (by omega)).mono ?_; rintro e w1 ⟨r', rfl, hr2, hr3, hr4, rfl⟩)
        · go_ret
          exact ⟨-1, rfl, by omega, by omega, by omega, rfl⟩
        · have hr5 : 0 ≤ r' := by assumption
          go_round
          case rel => exact ⟨k + 1, r', by omega, by go_num, rfl, by omega, by omega, HT2.out r' (hr4 (by omega))⟩
          case measure => simp [intOf]; omega
      · have HT3 := FIN.out k (by omega)
        have HT4 : RowKit.Hid ((total ys : Int) ≤ k0 - r) := by have := HT.out; show (total ys : Int) ≤ k0 - r; omega
        clear HT HT3
        go_wp2
        go_ret
        exact ⟨r, rfl, by omega, by omega, fun _ => ⟨by omega, by have := HT4.out; omega⟩, rfl⟩
set_option maxHeartbeats 400000 in
theorem toBoolSS_s (v : Value) (ys : List (List Bool)) (w : World) (hv : DRds LSB DB w v ys) (hn : ys.length ≤ 1099511627776) (ht : total ys ≤ 1099511627776) :
    Calls Try.prog 20 #[v] w fun e w' => ∃ u, e = .returned u ∧ St w w' [DOwn LSB DB u ys] := by
  obtain ⟨a, n, cap, rfl, h1, hm, HN, HC⟩ := hv.rows
  have hn' : n ≤ 1099511627776 := by rw [HN.out]; exact hn
  clear hn
  go_enter Try.func20, Try.ntmps20
  go_wp2_with (at_make; refine wpList_mk LSB_info rfl _ _ rfl (St.refl w) _ n rfl rfl rfl hn' ?_; intro w1 S hg)
  have S0 := St.downRep (D := DB) (none, 0, 0) [] n (fun h => h.ownNil LB) S
  clear S hg
  go_loopw [4] (fun i wr => ∃ k : Nat, k ≤ n ∧ i = .int .i64 k ∧ St w wr [DOwn LSB DB (.slice (some ⟨w.heap.size, 0, none⟩) n n) (ys.take k ++ List.replicate (n - k) [])]) (fun i _ => n - (intOf i).toNat)
  case atStart => exact ⟨0, by omega, rfl, by simpa using S0⟩
  case round =>
    obtain ⟨k, hk, rfl, S'⟩ := hrel
    clear S0
    by_cases hlt : k < n
    · obtain ⟨b, off, ra, rn, rc, y, rfl, hb, hy, hrn, hrc, hrm, hrd, hc⟩ := HC.out k hlt
      have hc' := gb_cell S'.gb hc (by simp)
      have hl := total_mem ys k y hy.out
      go_wp2_with (go_at_call 47; refine (toBoolS_s _ y _ (hrd.kept S'.gb) (by omega)).mono ?_; rintro e w1 ⟨u, rfl, S1⟩; obtain ⟨ua, un, uc, rfl, -⟩ := (St.own S1).slice; have S2 := (S'.call S1).swap; obtain ⟨ca, cn, cc, hcc, hcf, S3⟩ := St.drowSet S2 (g := w.heap.size) rfl k (by rw [fill_len ys [] k n HN.out hk]; exact hlt); rw [fill_step ys [] k n HN.out hlt y hy.out] at S3; clear S1 S2 S' hrd hc hc' hy hrn)
      go_roundw
      case rel => exact ⟨k + 1, by omega, by go_num, S3⟩
      case measure => simp [intOf]; omega
    · obtain rfl : k = n := by omega
      rw [fill_end ys [] k HN.out] at S'
      go_wp2
      go_ret
      exact ⟨_, rfl, S'⟩
set_option maxHeartbeats 400000 in
theorem eqBoolSS_s (v u : Value) (ys : List (List Bool)) (w : World) (hv : DRds LSB DB w v ys) (hu : DRds LSB DB w u ys) :
    Calls Try.prog 22 #[v, u] w fun e w' => e = .returned (.bool true) ∧ w.grownBy w' none := by
  obtain ⟨a, n, cap, rfl, h1, hm, HN, HC⟩ := hv.rows
  obtain ⟨a', n', cap', rfl, h1', hm', HN', HC'⟩ := hu.rows
  obtain rfl : n = n' := by rw [HN.out, HN'.out]
  go_enter Try.func22, Try.ntmps22
  go_wp2
  go_loopw [5] (fun i wr => ∃ k : Nat, k ≤ n ∧ i = .int .i64 k ∧ w.grownBy wr none) (fun i _ => n - (intOf i).toNat)
  case atStart => exact ⟨0, by omega, rfl, World.grownBy.refl _ _⟩
  case round =>
    obtain ⟨k, hk, rfl, hg⟩ := hrel
    by_cases hlt : k < n
    · obtain ⟨b, off, ra, rn, rc, y, rfl, hb, hy, hrn, hrc, hrm, hrd, c1⟩ := HC.out k hlt
      obtain ⟨b', off', ra', rn', rc', y', rfl, hb', hy', hrn', hrc', hrm', hrd', c2⟩ := HC'.out k hlt
      obtain rfl : y = y' := by have h1 := hy.out; have h2 := hy'.out; rw [h1] at h2; exact Option.some.inj h2
      have c1' := gb_cell hg c1 (by simp)
      have c2' := gb_cell hg c2 (by simp)
      have R1 := hrd.kept hg
      have R2 := hrd'.kept hg
      have HG := Lib.hid hg
      have i0 : (0 : Int) ≤ (k : Int) := by omega
      have i1 : (k : Int) < (n : Int) := by omega
      clear c1 c2 hrd hrd' hg hrn hrn'
      go_wp2
      go_quiet ((go_at_call 48; exact Calls.quiet_of (eqBoolS_s _ _ y _ (R1.kept (gb_drewN (World.grownBy.refl _ _) _)) (R2.kept (gb_drewN (World.grownBy.refl _ _) _)))))
      go_wp2
      go_roundw
      case rel => exact ⟨k + 1, by omega, by go_num, gb_drewN HG.out _⟩
      case measure => simp [intOf]; omega
    · go_wp2
      go_ret
      exact ⟨rfl, hg⟩
set_option maxHeartbeats 400000 in
theorem markBoolSS_s (w0 : World) (v : Value) (ys : List (List Bool)) (k0 : Int) (Ls : List Asr) (w : World) (S : St w0 w (DOwn LSB DB v ys :: Ls)) (hk0 : 0 ≤ k0) (hk1 : k0 ≤ 1048576) (ht : total ys ≤ 1048576) :
    Calls Try.prog 28 #[v, .int .i64 k0] w fun e w' => e = .returned (.int .i64 (k0 + (total ys : Int))) ∧ St w0 w' (DOwn LSB DB v (markRows mkBool k0 ys) :: Ls) := by
  obtain ⟨a, n, cap, rfl, h1, hm, HN, HC⟩ := (St.drds S).rows
  have FIN : RowKit.Hid (∀ k, k = n → ys.take k = ys ∧ ys.drop k = []) := by
    rintro k rfl
    rw [HN.out, List.take_length, List.drop_length]
    exact ⟨rfl, rfl⟩
  have TL : RowKit.Hid (∀ k, (total (ys.take k) : Int) ≤ 1048576) := fun k => by have := total_le ys k; omega
  clear HC
  go_enter Try.func28, Try.ntmps28
  go_wp2
  go_loopw [1, 5] (fun u i wr => ∃ (k : Nat) (K : Int), k ≤ n ∧ RowKit.Hid (K = (total (ys.take k) : Int)) ∧ 0 ≤ K ∧ u = .int .i64 (k0 + K) ∧ i = .int .i64 k ∧ St w0 wr (DOwn LSB DB (.slice a n cap) (markRows mkBool k0 (ys.take k) ++ ys.drop k) :: Ls)) (fun _ i _ => n - (intOf i).toNat)
  case atStart => exact ⟨0, 0, by omega, by show (0 : Int) = _; simp [total], by omega, by simp, rfl, by simpa [markRows] using S⟩
  case round =>
    obtain ⟨k, K, hk, HK, hK0, rfl, rfl, S'⟩ := hrel
    clear S
    have hK1 : K ≤ 1048576 := by rw [HK.out]; exact TL.out k
    by_cases hlt : k < n
    · obtain ⟨y, hy⟩ : ∃ y, ys[k]? = some y := ⟨_, List.getElem?_eq_getElem (by rw [← HN.out]; exact hlt)⟩
      obtain ⟨ra, rn, rc, Ns, hc, hrn, S1, hre⟩ := S'.drowAt k y (markRows_at _ _ _ _ _ hy)
      obtain ⟨b, rfl⟩ : ∃ b, a = some ⟨b, 0, none⟩ := by
        obtain ⟨xs, _, S2⟩ := S'.unpack
        obtain ⟨F, ⟨h1, _⟩, _⟩ := S2.head
        rcases h1.form with ⟨hv, _⟩ | ⟨g, cap, cur, hv, _⟩
        · simp only [Value.slice.injEq] at hv; omega
        · simp only [Value.slice.injEq] at hv; exact ⟨g, hv.1⟩
      simp only [Value.ownBlock, Option.getD_some] at hc
      have HRE : RowKit.Hid (∀ w', St w0 w' (Own LB (.slice ra rn rc) ((List.range y.length).map (mkBool (k0 + K))) :: Ns) → St w0 w' (DOwn LSB DB (.slice (some ⟨b, 0, none⟩) n cap) (markRows mkBool k0 (ys.take (k + 1)) ++ ys.drop (k + 1)) :: Ls)) := by
        intro w' S2
        have := hre w' _ S2
        rw [HK.out] at this
        rwa [markRows_step _ _ _ _ _ hy] at this
      have hly := total_mem ys k y hy
      have HK2 : RowKit.Hid (K + (y.length : Int) = (total (ys.take (k + 1)) : Int)) := by show _ = _; rw [total_take ys k y hy, HK.out]; omega
      have HY := Lib.hid hy
      clear hre hy hrn S'
      go_wp2_with (go_at_call 56; refine (markBoolS_s w0 _ y (k0 + K) Ns _ S1 (by omega) (by omega) (by omega)).mono ?_; rintro e w1 ⟨rfl, S2⟩)
      have S3 := HRE.out _ S2
      clear S1 S2 hc
      go_roundw
      case rel => exact ⟨k + 1, K + (y.length : Int), by omega, HK2, by omega, by go_num, by go_num, S3⟩
      case measure => simp [intOf]; omega
    · obtain ⟨f1, f2⟩ := FIN.out k (by omega)
      rw [f1, f2, List.append_nil] at S'
      have HK2 : RowKit.Hid (K = (total ys : Int)) := by have := HK.out; rw [f1] at this; exact this
      clear f1 f2
      go_wp2
      go_ret
      exact ⟨by rw [← HK2.out]; rfl, S'⟩
set_option maxHeartbeats 400000 in
theorem heldBoolSS_s (v : Value) (ys : List (List Bool)) (k0 : Int) (w : World) (hv : DRds LSB DB w v (markRows mkBool k0 ys)) (hk0 : 0 ≤ k0) (hk1 : k0 ≤ 1048576) (ht : total ys ≤ 1048576) :
    Calls Try.prog 29 #[v, .int .i64 k0] w fun e w' => e = .returned (.int .i64 (k0 + (total ys : Int))) ∧ w.grownBy w' none := by
  obtain ⟨a, n, cap, rfl, h1, hm, HN, HC⟩ := hv.rows
  have FIN : RowKit.Hid (∀ k, k = n → ys.take k = ys) := by
    rintro k rfl
    have := HN.out
    rw [markRows_len] at this
    rw [this, List.take_length]
  have TL : RowKit.Hid (∀ k, (total (ys.take k) : Int) ≤ 1048576) := fun k => by have := total_le ys k; omega
  go_enter Try.func29, Try.ntmps29
  go_wp2
  go_loopw [1, 5] (fun u i wr => ∃ (k : Nat) (K : Int), k ≤ n ∧ RowKit.Hid (K = (total (ys.take k) : Int)) ∧ 0 ≤ K ∧ u = .int .i64 (k0 + K) ∧ i = .int .i64 k ∧ w.grownBy wr none) (fun _ i _ => n - (intOf i).toNat)
  case atStart => exact ⟨0, 0, by omega, by show (0 : Int) = _; simp [total], by omega, by simp, rfl, World.grownBy.refl _ _⟩
  case round =>
    obtain ⟨k, K, hk, HK, hK0, rfl, rfl, hg⟩ := hrel
    have hK1 : K ≤ 1048576 := by rw [HK.out]; exact TL.out k
    by_cases hlt : k < n
    · obtain ⟨b, off, ra, rn, rc, z, rfl, hb, hz, hrn, hrc, hrm, hrd, c1⟩ := HC.out k hlt
      obtain ⟨y, hy, rfl⟩ := markRows_get _ _ _ _ _ hz.out
      have hly := total_mem ys k y hy
      have HK2 : RowKit.Hid (K + (y.length : Int) = (total (ys.take (k + 1)) : Int)) := by show _ = _; rw [total_take ys k y hy, HK.out]; omega
      rw [← HK.out] at hrd
      have c1' := gb_cell hg c1 (by simp)
      have R1 := hrd.kept hg
      have HG := Lib.hid hg
      have hK2 := TL.out (k + 1)
      rw [← HK2.out] at hK2
      clear hz hy hrn hrd c1 hg
      go_wp2_with (go_at_call 57; refine (heldBoolS_s _ y.length (k0 + K) _ R1 (by omega) (by omega) (by omega)).mono ?_; rintro e w1 ⟨rfl, g1⟩)
      have G2 := gb_trans HG.out g1
      clear g1 c1' R1
      go_roundw
      case rel => exact ⟨k + 1, K + (y.length : Int), by omega, HK2, by omega, by go_num, by go_num, G2⟩
      case measure => simp [intOf]; omega
    · have f1 := FIN.out k (by omega)
      have HK2 : RowKit.Hid (K = (total ys : Int)) := by have := HK.out; rw [f1] at this; exact this
      clear f1
      go_wp2
      go_ret
      exact ⟨by rw [← HK2.out]; rfl, hg⟩
end Go.Proofs.Ytpkcpkhanodnmaa
