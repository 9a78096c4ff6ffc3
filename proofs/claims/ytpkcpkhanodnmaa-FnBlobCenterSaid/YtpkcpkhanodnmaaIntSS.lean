/-
  Slices of slices of Int: the contracts of the laws' helpers on [][]int.
-/
import Derived.Test.YtpkcpkhanodnmaaDeep
import Derived.Test.YtpkcpkhanodnmaaIntS
namespace Go.Proofs.Ytpkcpkhanodnmaa
open Go Go.RowKit
abbrev LSI : Lay Sl := LSl 47
abbrev DI : Deep Sl (List Int) := DRow LI
theorem LSI_info : Nonempty (ElemInfo Try.prog LSI 44 (none, 0, 0)) := ElemInfo.mk' (z := .slice none 0 0) (bytes := 24) Try.underlying44 (by kernel_rfl) rfl (by decide)
set_option maxHeartbeats 400000 in
theorem eqIntSS_s (v u : Value) (ys : List (List Int)) (w : World) (hv : DRds LSI DI w v ys) (hu : DRds LSI DI w u ys) :
    Calls Try.prog 38 #[v, u] w fun e w' => e = .returned (.bool true) ∧ w.grownBy w' none := by
  obtain ⟨a, n, cap, rfl, h1, hm, HN, HC⟩ := hv.rows
  obtain ⟨a', n', cap', rfl, h1', hm', HN', HC'⟩ := hu.rows
  obtain rfl : n = n' := by rw [HN.out, HN'.out]
  go_enter Try.func38, Try.ntmps38
  go_wp2
  go_loopw [5] (fun i wr => ∃ k : Nat, k ≤ n ∧ i = .int .i64 k ∧ w.grownBy wr none) (fun i _ => n - (intOf i).toNat)
  case atStart => exact ⟨0, by omega, rfl, World.grownBy.refl _ _⟩
  case round =>
    obtain ⟨k, hk, rfl, hg⟩ := hrel
    by_cases hlt : k < n
    · obtain ⟨b, off, ra, rn, rc, y, rfl, hb, hy, hrn, hrc, hrm, hrd, c1⟩ := HC.out k hlt
      obtain ⟨b', off', ra', rn', rc', y', rfl, hb', hy', hrn', hrc', hrm', hrd', c2⟩ := HC'.out k hlt
      obtain rfl : y = y' := by have h1 := hy.out; have h2 := hy'.out; rw [h1] at h2; exact Option.some.inj h2
      have c1' := gb_cell hg c1 (by simp)
      have c2' := gb_cell hg c2 (by simp)
      have R1 := hrd.kept hg
      have R2 := hrd'.kept hg
      have HG := Lib.hid hg
      have i0 : (0 : Int) ≤ (k : Int) := by omega
      have i1 : (k : Int) < (n : Int) := by omega
      clear c1 c2 hrd hrd' hg hrn hrn'
      go_wp2
      go_quiet ((go_at_call 61; exact Calls.quiet_of (eqIntS_s _ _ y _ (R1.kept (gb_drewN (World.grownBy.refl _ _) _)) (R2.kept (gb_drewN (World.grownBy.refl _ _) _)))))
      go_wp2
      go_roundw
      case rel => exact ⟨k + 1, by omega, by go_num, gb_drewN HG.out _⟩
      case measure => simp [intOf]; omega
    · go_wp2
      go_ret
      exact ⟨rfl, hg⟩
set_option maxHeartbeats 400000 in
theorem markIntSS_s (w0 : World) (v : Value) (ys : List (List Int)) (k0 : Int) (Ls : List Asr) (w : World) (S : St w0 w (DOwn LSI DI v ys :: Ls)) (hk0 : 0 ≤ k0) (hk1 : k0 ≤ 1048576) (ht : total ys ≤ 1048576) :
    Calls Try.prog 39 #[v, .int .i64 k0] w fun e w' => e = .returned (.int .i64 (k0 + (total ys : Int))) ∧ St w0 w' (DOwn LSI DI v (markRows mkInt k0 ys) :: Ls) := by
  obtain ⟨a, n, cap, rfl, h1, hm, HN, HC⟩ := (St.drds S).rows
  have FIN : RowKit.Hid (∀ k, k = n → ys.take k = ys ∧ ys.drop k = []) := by
    rintro k rfl
    rw [HN.out, List.take_length, List.drop_length]
    exact ⟨rfl, rfl⟩
  have TL : RowKit.Hid (∀ k, (total (ys.take k) : Int) ≤ 1048576) := fun k => by have := total_le ys k; omega
  clear HC
  go_enter Try.func39, Try.ntmps39
  go_wp2
  go_loopw [1, 5] (fun u i wr => ∃ (k : Nat) (K : Int), k ≤ n ∧ RowKit.Hid (K = (total (ys.take k) : Int)) ∧ 0 ≤ K ∧ u = .int .i64 (k0 + K) ∧ i = .int .i64 k ∧ St w0 wr (DOwn LSI DI (.slice a n cap) (markRows mkInt k0 (ys.take k) ++ ys.drop k) :: Ls)) (fun _ i _ => n - (intOf i).toNat)
  case atStart => exact ⟨0, 0, by omega, by show (0 : Int) = _; simp [total], by omega, by simp, rfl, by simpa [markRows] using S⟩
  case round =>
    obtain ⟨k, K, hk, HK, hK0, rfl, rfl, S'⟩ := hrel
    clear S
    have hK1 : K ≤ 1048576 := by rw [HK.out]; exact TL.out k
    by_cases hlt : k < n
    · obtain ⟨y, hy⟩ : ∃ y, ys[k]? = some y := ⟨_, List.getElem?_eq_getElem (by rw [← HN.out]; exact hlt)⟩
      obtain ⟨ra, rn, rc, Ns, hc, hrn, S1, hre⟩ := S'.drowAt k y (markRows_at _ _ _ _ _ hy)
      obtain ⟨b, rfl⟩ : ∃ b, a = some ⟨b, 0, none⟩ := by
        obtain ⟨xs, _, S2⟩ := S'.unpack
        obtain ⟨F, ⟨h1, _⟩, _⟩ := S2.head
        rcases h1.form with ⟨hv, _⟩ | ⟨g, cap, cur, hv, _⟩
        · simp only [Value.slice.injEq] at hv; omega
        · simp only [Value.slice.injEq] at hv; exact ⟨g, hv.1⟩
      simp only [Value.ownBlock, Option.getD_some] at hc
      have HRE : RowKit.Hid (∀ w', St w0 w' (Own LI (.slice ra rn rc) ((List.range y.length).map (mkInt (k0 + K))) :: Ns) → St w0 w' (DOwn LSI DI (.slice (some ⟨b, 0, none⟩) n cap) (markRows mkInt k0 (ys.take (k + 1)) ++ ys.drop (k + 1)) :: Ls)) := by
        intro w' S2
        have := hre w' _ S2
        rw [HK.out] at this
        rwa [markRows_step _ _ _ _ _ hy] at this
      have hly := total_mem ys k y hy
      have HK2 : RowKit.Hid (K + (y.length : Int) = (total (ys.take (k + 1)) : Int)) := by show _ = _; rw [total_take ys k y hy, HK.out]; omega
      have HY := Lib.hid hy
      clear hre hy hrn S'
      go_wp2_with (go_at_call 62; refine (markIntS_s w0 _ y (k0 + K) Ns _ S1 (by omega) (by omega) (by omega)).mono ?_; rintro e w1 ⟨rfl, S2⟩)
      have S3 := HRE.out _ S2
      clear S1 S2 hc
      go_roundw
      case rel => exact ⟨k + 1, K + (y.length : Int), by omega, HK2, by omega, by go_num, by go_num, S3⟩
      case measure => simp [intOf]; omega
    · obtain ⟨f1, f2⟩ := FIN.out k (by omega)
      rw [f1, f2, List.append_nil] at S'
      have HK2 : RowKit.Hid (K = (total ys : Int)) := by have := HK.out; rw [f1] at this; exact this
      clear f1 f2
      go_wp2
      go_ret
      exact ⟨by rw [← HK2.out]; rfl, S'⟩
set_option maxHeartbeats 400000 in
theorem heldIntSS_s (v : Value) (ys : List (List Int)) (k0 : Int) (w : World) (hv : DRds LSI DI w v (markRows mkInt k0 ys)) (hk0 : 0 ≤ k0) (hk1 : k0 ≤ 1048576) (ht : total ys ≤ 1048576) :
    Calls Try.prog 40 #[v, .int .i64 k0] w fun e w' => e = .returned (.int .i64 (k0 + (total ys : Int))) ∧ w.grownBy w' none := by
  obtain ⟨a, n, cap, rfl, h1, hm, HN, HC⟩ := hv.rows
  have FIN : RowKit.Hid (∀ k, k = n → ys.take k = ys) := by
    rintro k rfl
    have := HN.out
    rw [markRows_len] at this
    rw [this, List.take_length]
  have TL : RowKit.Hid (∀ k, (total (ys.take k) : Int) ≤ 1048576) := fun k => by have := total_le ys k; omega
  go_enter Try.func40, Try.ntmps40
  go_wp2
  go_loopw [1, 5] (fun u i wr => ∃ (k : Nat) (K : Int), k ≤ n ∧ RowKit.Hid (K = (total (ys.take k) : Int)) ∧ 0 ≤ K ∧ u = .int .i64 (k0 + K) ∧ i = .int .i64 k ∧ w.grownBy wr none) (fun _ i _ => n - (intOf i).toNat)
  case atStart => exact ⟨0, 0, by omega, by show (0 : Int) = _; simp [total], by omega, by simp, rfl, World.grownBy.refl _ _⟩
  case round =>
    obtain ⟨k, K, hk, HK, hK0, rfl, rfl, hg⟩ := hrel
    have hK1 : K ≤ 1048576 := by rw [HK.out]; exact TL.out k
    by_cases hlt : k < n
    · obtain ⟨b, off, ra, rn, rc, z, rfl, hb, hz, hrn, hrc, hrm, hrd, c1⟩ := HC.out k hlt
      obtain ⟨y, hy, rfl⟩ := markRows_get _ _ _ _ _ hz.out
      have hly := total_mem ys k y hy
      have HK2 : RowKit.Hid (K + (y.length : Int) = (total (ys.take (k + 1)) : Int)) := by show _ = _; rw [total_take ys k y hy, HK.out]; omega
      rw [← HK.out] at hrd
      have c1' := gb_cell hg c1 (by simp)
      have R1 := hrd.kept hg
      have HG := Lib.hid hg
      have hK2 := TL.out (k + 1)
      rw [← HK2.out] at hK2
      clear hz hy hrn hrd c1 hg
      go_wp2_with (go_at_call 63; refine (heldIntS_s _ y.length (k0 + K) _ R1 (by omega) (by omega) (by omega)).mono ?_; rintro e w1 ⟨rfl, g1⟩)
      have G2 := gb_trans HG.out g1
      clear g1 c1' R1
      go_roundw
      case rel => exact ⟨k + 1, K + (y.length : Int), by omega, HK2, by omega, by go_num, by go_num, G2⟩
      case measure => simp [intOf]; omega
    · have f1 := FIN.out k (by omega)
      have HK2 : RowKit.Hid (K = (total ys : Int)) := by have := HK.out; rw [f1] at this; exact this
      clear f1
      go_wp2
      go_ret
      exact ⟨by rw [← HK2.out]; rfl, hg⟩
end Go.Proofs.Ytpkcpkhanodnmaa
