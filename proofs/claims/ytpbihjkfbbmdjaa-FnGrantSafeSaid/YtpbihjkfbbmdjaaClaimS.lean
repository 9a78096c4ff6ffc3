/-
  Claims: two slices of numbers each: the layout, the contracts of the laws' helpers on []Claim.
-/
import Derived.Test.YtpbihjkfbbmdjaaDeep
import Derived.Test.YtpbihjkfbbmdjaaIntS
namespace Go.Proofs.Ytpbihjkfbbmdjaa
open Go Go.RowKit
structure Clm where
  Holds : List Int
  Needs : List Int
def LClm : Lay (Sl × Sl) := ⟨2, 43, fun x => [.slice x.1.1 x.1.2.1 x.1.2.2, .slice x.2.1 x.2.2.1 x.2.2.2], fun _ => rfl, by decide, by intro x u hu; simp at hu; rcases hu with h | h <;> subst h <;> rfl⟩
def DClm : Deep (Sl × Sl) Clm where
  rd w x y := Rds LI w x.1.val y.Holds ∧ Rds LI w x.2.val y.Needs
  own x y := [Own LI x.1.val y.Holds, Own LI x.2.val y.Needs]
  kept h hg := ⟨h.1.kept hg, h.2.kept hg⟩
  rdOwn h := ⟨St.own h, St.own (St.tail h)⟩
theorem LClm_info : Nonempty (ElemInfo Try.prog LClm 26 ((none, 0, 0), (none, 0, 0))) := ElemInfo.mk' (z := .agg #[.slice none 0 0, .slice none 0 0]) (bytes := 48) Try.underlying26 (by kernel_rfl) rfl (by decide)
theorem Rds.parts {w : World} {ra : Option Addr} {rn rc : Nat} {y : List Int} (h : Rds LI w (.slice ra rn rc) y) : rn = y.length ∧ rn ≤ rc ∧ rc ≤ 9223372036854775807 := by
  obtain ⟨a', cap', hv', k1, k2, _⟩ := h
  simp only [Value.slice.injEq] at hv'
  obtain ⟨rfl, hn, rfl⟩ := hv'
  exact ⟨hn, by omega, by unfold maxLen at k2; omega⟩
/-- Opened: each claim's own cells, its slices read. -/
theorem DRds.clms {w : World} {v : Value} {ys : List Clm} (h : DRds LClm DClm w v ys) : ∃ (a : Option Addr) (n cap : Nat), v = .slice a n cap ∧ n ≤ cap ∧ cap ≤ 9223372036854775807 ∧ RowKit.Hid (n = ys.length) ∧
    RowKit.Hid (∀ k, k < n → ∃ (b off : Nat) (ra : Option Addr) (rn rc : Nat) (sa : Option Addr) (sn sc : Nat) (y z : List Int), a = some ⟨b, off, none⟩ ∧ b < w.heap.size ∧ RowKit.Hid (ys[k]? = some ⟨y, z⟩) ∧ RowKit.Hid (rn = y.length) ∧ (rn ≤ rc ∧ rc ≤ 9223372036854775807) ∧ RowKit.Hid (sn = z.length) ∧ (sn ≤ sc ∧ sc ≤ 9223372036854775807) ∧
      Rds LI w (.slice ra rn rc) y ∧ Rds LI w (.slice sa sn sc) z ∧ w.cell? ⟨b, off + k * 2, none⟩ = some (.slice ra rn rc) ∧ w.cell? ⟨b, off + k * 2 + 1, none⟩ = some (.slice sa sn sc)) := by
  obtain ⟨a, n, cap, hv, h1, h2, HN, HC⟩ := h.get
  refine ⟨a, n, cap, hv, h1, h2, HN, fun k hk => ?_⟩
  obtain ⟨b, off, ⟨⟨ra, rn, rc⟩, sa, sn, sc⟩, ⟨y, z⟩, ha, hb, hy, ⟨hr, hs⟩, hc⟩ := HC.out k hk
  have hr' : Rds LI w (.slice ra rn rc) y := hr
  have hs' : Rds LI w (.slice sa sn sc) z := hs
  exact ⟨b, off, ra, rn, rc, sa, sn, sc, y, z, ha, hb, hy, hr'.parts.1, hr'.parts.2, hs'.parts.1, hs'.parts.2, hr', hs', hc 0 _ rfl, hc 1 _ rfl⟩
/-- Claim k in front, its slices owned; written through, and put back. -/
theorem St.dclmAt {w0 w : World} {v : Value} {ys : List Clm} {Ms : List Asr} (S : St w0 w (DOwn LClm DClm v ys :: Ms)) (k : Nat) (y z : List Int) (hy : ys[k]? = some ⟨y, z⟩) {g : Nat} (hv : v.ownBlock = some g) :
    ∃ ra rn rc sa sn sc Ns, w.cell? ⟨g, k * 2, none⟩ = some (.slice ra rn rc) ∧ w.cell? ⟨g, k * 2 + 1, none⟩ = some (.slice sa sn sc) ∧ (∀ j, w.frozen? ⟨g, j, none⟩ = false) ∧ rn = y.length ∧ sn = z.length ∧ St w0 w (Own LI (.slice ra rn rc) y :: Own LI (.slice sa sn sc) z :: Ns) ∧
      (∀ (w' : World) (y' z' : List Int), St w0 w' (Own LI (.slice ra rn rc) y' :: Own LI (.slice sa sn sc) z' :: Ns) → St w0 w' (DOwn LClm DClm v (ys.set k ⟨y', z'⟩) :: Ms)) ∧
      (∀ (w' : World) (y' z' : List Int), St w0 w' (Own LI (.slice ra rn rc) y' :: Own LI (.slice sa sn sc) z' :: Ns) → w'.cell? ⟨g, k * 2, none⟩ = some (.slice ra rn rc) ∧ w'.cell? ⟨g, k * 2 + 1, none⟩ = some (.slice sa sn sc) ∧ (∀ j, w'.frozen? ⟨g, j, none⟩ = false)) := by
  obtain ⟨xs, ⟨⟨ra, rn, rc⟩, sa, sn, sc⟩, R, hx, hl, S1, hre⟩ := S.focus k _ hy
  have S3 : St w0 w (Own LI (.slice ra rn rc) y :: Own LI (.slice sa sn sc) z :: Own LClm v xs :: (R ++ Ms)) := S1
  have hr : Rds LI w (.slice ra rn rc) y := St.own S3
  have hs : Rds LI w (.slice sa sn sc) z := St.own S3.tail
  have CL : ∀ (w' : World) (y' z' : List Int), St w0 w' (Own LI (.slice ra rn rc) y' :: Own LI (.slice sa sn sc) z' :: Own LClm v xs :: (R ++ Ms)) → w'.cell? ⟨g, k * 2, none⟩ = some (.slice ra rn rc) ∧ w'.cell? ⟨g, k * 2 + 1, none⟩ = some (.slice sa sn sc) ∧ (∀ j, w'.frozen? ⟨g, j, none⟩ = false) := by
    intro w' y' z' S'
    have S2 := S'.tail.tail
    have hc := S2.ownCell hv k _ hx
    exact ⟨hc 0 _ rfl, hc 1 _ rfl, fun j => S2.ownFrozen hv j⟩
  obtain ⟨h0, h1, hf⟩ := CL _ _ _ S3
  exact ⟨ra, rn, rc, sa, sn, sc, _, h0, h1, hf, hr.parts.1, hs.parts.1, S3, fun w' y' z' S' => St.unfocus hre hx (y' := ⟨y', z'⟩) S', CL⟩
/-- Claim k replaced. -/
theorem St.dclmSet {w0 w : World} {v : Value} {ys : List Clm} {Ms : List Asr} {ua va : Option Addr} {un uc vn vc : Nat} {y z : List Int} (S : St w0 w (DOwn LClm DClm v ys :: Own LI (.slice ua un uc) y :: Own LI (.slice va vn vc) z :: Ms)) (k : Nat) (hk : k < ys.length) {g : Nat} (hv : v.ownBlock = some g) :
    ∃ ra rn rc sa sn sc, w.cell? ⟨g, k * 2, none⟩ = some (.slice ra rn rc) ∧ w.cell? ⟨g, k * 2 + 1, none⟩ = some (.slice sa sn sc) ∧ (∀ j, w.frozen? ⟨g, j, none⟩ = false) ∧
      St w0 ((w.setCell ⟨g, k * 2, none⟩ (.slice ua un uc)).setCell ⟨g, k * 2 + 1, none⟩ (.slice va vn vc)) (DOwn LClm DClm v (ys.set k ⟨y, z⟩) :: Ms) := by
  obtain ⟨xs, ⟨⟨ra, rn, rc⟩, sa, sn, sc⟩, R, hx, hl, S1, hre⟩ := S.focus k ys[k] (List.getElem?_eq_getElem hk)
  have S2 : St w0 w (Own LClm v xs :: (R ++ (Own LI (.slice ua un uc) y :: Own LI (.slice va vn vc) z :: Ms))) := St.tail (St.tail S1)
  have hc := S2.ownCell hv k _ hx
  obtain ⟨hkx, hxe⟩ := List.getElem?_eq_some_iff.1 hx
  refine ⟨ra, rn, rc, sa, sn, sc, hc 0 _ rfl, hc 1 _ rfl, fun j => S2.ownFrozen hv j, ?_⟩
  have S3 := S2.setAt hv k 0 ((ua, un, uc), (sa, sn, sc)) (.slice ua un uc) hkx (by decide) (by rw [hxe]; rfl)
  have S4 := S3.setAt hv k 1 ((ua, un, uc), (va, vn, vc)) (.slice va vn vc) (by simpa using hkx) (by decide) (by rw [List.getElem_set_self]; rfl)
  rw [List.set_set] at S4
  refine hre _ _ ((ua, un, uc), (va, vn, vc)) ⟨y, z⟩ Ms rfl (S4.perm ?_)
  have p : ∀ (A B C : Asr), (A :: (R ++ B :: C :: Ms)).Perm (B :: C :: A :: (R ++ Ms)) := fun A B C =>
    (List.Perm.cons _ (List.perm_middle.trans (List.Perm.cons _ List.perm_middle))).trans ((List.Perm.swap _ _ _).trans (List.Perm.cons _ (List.Perm.swap _ _ _)))
  exact p _ _ _

/-- How many numbers. -/
def clmN (y : Clm) : Nat := y.Holds.length + y.Needs.length
def hlds (ys : List Clm) : Nat := (ys.map clmN).sum
theorem hlds_take (ys : List Clm) (k : Nat) (y : Clm) (hy : ys[k]? = some y) : hlds (ys.take (k + 1)) = hlds (ys.take k) + clmN y := by
  obtain ⟨hk, rfl⟩ := List.getElem?_eq_some_iff.1 hy
  unfold hlds
  rw [List.take_succ_eq_append_getElem hk, List.map_append, List.sum_append]
  simp only [List.map_cons, List.map_nil, List.sum_cons, List.sum_nil, Nat.add_zero]
theorem hlds_le (ys : List Clm) (k : Nat) : hlds (ys.take k) ≤ hlds ys := by
  have : hlds ys = hlds (ys.take k) + hlds (ys.drop k) := by
    unfold hlds
    rw [← List.sum_append, ← List.map_append, List.take_append_drop]
  omega
theorem hlds_mem (ys : List Clm) (k : Nat) (y : Clm) (hy : ys[k]? = some y) : y.Holds.length ≤ hlds ys ∧ y.Needs.length ≤ hlds ys := by
  have h1 := hlds_take ys k y hy
  have h2 := hlds_le ys (k + 1)
  unfold clmN at h1
  omega
/-- The marks of claims, one after the other. -/
def markClm (k0 : Int) (y : Clm) : Clm := ⟨(List.range y.Holds.length).map (mkInt k0), (List.range y.Needs.length).map (mkInt (k0 + (y.Holds.length : Int)))⟩
def markClms (k0 : Int) : List Clm → List Clm
  | [] => []
  | y :: ys => markClm k0 y :: markClms (k0 + (clmN y : Int)) ys
theorem markClms_snoc (y : Clm) : ∀ (k0 : Int) (ys : List Clm), markClms k0 (ys ++ [y]) = markClms k0 ys ++ [markClm (k0 + (hlds ys : Int)) y]
  | k0, [] => by simp [markClms, hlds]
  | k0, x :: ys => by
    rw [List.cons_append, markClms, markClms_snoc y _ ys, markClms, List.cons_append]
    have e : k0 + (clmN x : Int) + (hlds ys : Int) = k0 + (hlds (x :: ys) : Int) := by
      simp [hlds]; omega
    rw [e]
theorem markClms_len : ∀ (k0 : Int) (ys : List Clm), (markClms k0 ys).length = ys.length
  | _, [] => rfl
  | k0, x :: ys => by simp [markClms, markClms_len]
theorem markClms_at (k0 : Int) (ys : List Clm) (k : Nat) (y : Clm) (hy : ys[k]? = some y) : (markClms k0 (ys.take k) ++ ys.drop k)[k]? = some y := by
  obtain ⟨hk, rfl⟩ := List.getElem?_eq_some_iff.1 hy
  have h0 : (markClms k0 (ys.take k)).length = k := by rw [markClms_len, List.length_take]; omega
  rw [List.getElem?_append_right (by omega), h0, Nat.sub_self, List.getElem?_drop]
  simp [hk]
theorem markClms_step (k0 : Int) (ys : List Clm) (k : Nat) (y : Clm) (hy : ys[k]? = some y) :
    (markClms k0 (ys.take k) ++ ys.drop k).set k (markClm (k0 + (hlds (ys.take k) : Int)) y) = markClms k0 (ys.take (k + 1)) ++ ys.drop (k + 1) := by
  obtain ⟨hk, rfl⟩ := List.getElem?_eq_some_iff.1 hy
  have h0 : (markClms k0 (ys.take k)).length = k := by rw [markClms_len, List.length_take]; omega
  rw [List.set_append_right _ _ (by omega), h0, Nat.sub_self, List.drop_eq_getElem_cons hk, List.set_cons_zero, List.take_succ_eq_append_getElem hk, markClms_snoc, List.append_assoc]
  rfl
set_option maxHeartbeats 1000000 in
theorem szClaim_s (v u : Value) (xs ys : List Int) (k : Int) (w : World) (hv : Rds LI w v xs) (hu : Rds LI w u ys) (h0 : -1 ≤ k) (h1 : k ≤ 1048576) :
    Calls Try.prog 26 #[.agg #[v, u], .int .i64 k] w fun e w' => ∃ r : Int, e = .returned (.int .i64 r) ∧ -1 ≤ r ∧ r ≤ k ∧ (0 ≤ r → (xs.length : Int) + (ys.length : Int) ≤ k - r) ∧ w.grownBy w' none := by
  obtain ⟨a, n, cap, rfl, -⟩ := hv.slice
  obtain ⟨a', n', cap', rfl, -⟩ := hu.slice
  have hv' := hv.kept (World.grownBy_alloc w (.cells #[.slice a n cap, .slice a' n' cap'] 46) none)
  have hu' := hu.kept (World.grownBy_alloc w (.cells #[.slice a n cap, .slice a' n' cap'] 46) none)
  clear hv hu
  go_enter Try.func26, Try.ntmps26
  go_wp2_with fail
  refine (szIntS_s _ xs k _ hv' h0 h1).mono ?_
  rintro e w1 ⟨r, rfl, hr2, hr3, hr4, rfl⟩
  by_cases hr5 : r < 0
  · go_wp2_with fail
    go_ret
    exact ⟨-1, rfl, by omega, by omega, by omega, World.grownBy_alloc _ _ _⟩
  go_wp2_with fail
  refine (szIntS_s _ ys r _ hu' (by omega) (by omega)).mono ?_
  rintro e w1 ⟨r', rfl, hq2, hq3, hq4, rfl⟩
  by_cases hr6 : r' < 0
  · go_wp2_with fail
    go_ret
    exact ⟨-1, rfl, by omega, by omega, by omega, World.grownBy_alloc _ _ _⟩
  go_wp2_with fail
  go_ret
  exact ⟨r', rfl, by omega, by omega, by omega, World.grownBy_alloc _ _ _⟩
set_option maxHeartbeats 400000 in
theorem szClaimS_s (v : Value) (ys : List Clm) (k0 : Int) (w : World) (hv : DRds LClm DClm w v ys) (h0 : 0 ≤ k0) (h1 : k0 ≤ 1048576) :
    Calls Try.prog 7 #[v, .int .i64 k0] w fun e w' => ∃ r : Int, e = .returned (.int .i64 r) ∧ -1 ≤ r ∧ r ≤ k0 ∧ (0 ≤ r → (ys.length : Int) ≤ k0 ∧ (hlds ys : Int) ≤ k0) ∧ w.grownBy w' none := by
  obtain ⟨a, n, cap, rfl, h2, hm, HN, HC⟩ := hv.clms
  have e : (ys.length : Int) = (n : Int) := by have := HN.out; omega
  rw [e]
  by_cases hlt : k0 - (n : Int) < 0
  · go_enter Try.func7, Try.ntmps7
    go_wp2
    go_ret
    exact ⟨-1, rfl, by omega, by omega, by omega, World.grownBy.refl _ _⟩
  · have FIN : RowKit.Hid (∀ k, k = n → hlds (ys.take k) = hlds ys) := by
      rintro k rfl
      rw [HN.out, List.take_length]
    go_enter Try.func7, Try.ntmps7
    go_wp2
    go_loopw [1, 5] (fun u i wr => ∃ (k : Nat) (r : Int), k ≤ n ∧ i = .int .i64 k ∧ u = .int .i64 r ∧ 0 ≤ r ∧ r ≤ k0 ∧ RowKit.Hid ((hlds (ys.take k) : Int) ≤ k0 - r) ∧ w.grownBy wr none) (fun _ i _ => n - (intOf i).toNat)
    case atStart => exact ⟨0, k0 - (n : Int), by omega, rfl, rfl, by omega, by omega, (by show ((hlds (ys.take 0) : Nat) : Int) ≤ k0 - (k0 - (n : Int)); simp [hlds]; omega), World.grownBy.refl _ _⟩
    case round =>
      obtain ⟨k, r, hk, rfl, rfl, hr0, hr1, HT, hg⟩ := hrel
      by_cases hlt2 : k < n
      · obtain ⟨b, off, ra, rn, rc, sa, sn, sc, y, z, rfl, hb, hy, hrn, hrc, hsn, hsc, hrd, hsd, hc0, hc1⟩ := HC.out k hlt2
        have HT2 : RowKit.Hid (∀ r' : Int, (y.length : Int) + (z.length : Int) ≤ r - r' → (hlds (ys.take (k + 1)) : Int) ≤ k0 - r') := by
          intro r' hr'
          have := hlds_take ys k _ hy.out
          have := HT.out
          unfold clmN at *
          simp only at *
          omega
        have hc0' := gb_cell hg hc0 (by simp)
        have hc1' := gb_cell hg hc1 (by simp)
        clear hc0 hc1
        go_wp2_with (go_at_call 26; refine (szClaim_s _ _ y z r _ (hrd.kept hg) (hsd.kept hg) (by omega) (by omega)).mono ?_; rintro e w1 ⟨r', rfl, hr2, hr3, hr4, g1⟩)
        · go_ret
          exact ⟨-1, rfl, by omega, by omega, by omega, gb_trans hg g1⟩
        · have hr5 : 0 ≤ r' := by assumption
          go_roundw
          case rel => exact ⟨k + 1, r', by omega, by go_num, rfl, by omega, by omega, HT2.out r' (hr4 (by omega)), gb_trans hg g1⟩
          case measure => simp [intOf]; omega
      · have HT3 := FIN.out k (by omega)
        have HT4 : RowKit.Hid ((hlds ys : Int) ≤ k0 - r) := by have := HT.out; show (hlds ys : Int) ≤ k0 - r; omega
        clear HT HT3
        go_wp2
        go_ret
        exact ⟨r, rfl, by omega, by omega, fun _ => ⟨by omega, by have := HT4.out; omega⟩, hg⟩
theorem StL.call {w0 w w' : World} {H : Nat} {Ls Ms : List Asr} (S : StL w0 H w Ls) (hH : H ≤ w.heap.size) (k : St w w' Ms) : StL w0 H w' (Ms ++ Ls) := by
  obtain ⟨h1, h0, F, h2, h3⟩ := S
  obtain ⟨k1, G, k2, k3⟩ := k
  refine ⟨gb_trans h1 k1, h0, G ++ F, k2.append (h2.keep (fun b hb => k1.block b (h2.lt b hb) (by simp))) (fun b hb hb' => ?_), fun b hb => ?_⟩
  · have := k3 b hb
    have := h2.lt b hb'
    omega
  · rcases List.mem_append.1 hb with hb | hb
    · have := k3 b hb
      omega
    · exact h3 b hb
set_option maxHeartbeats 1000000 in
theorem toClaim_s (v u : Value) (y z : List Int) (w : World) (hv : Rds LI w v y) (hu : Rds LI w u z) (hn : y.length ≤ 1099511627776) (hm : z.length ≤ 1099511627776) :
    Calls Try.prog 27 #[.agg #[v, u]] w fun e w' => ∃ ua un uc va vn vc, e = .returned (.agg #[.slice ua un uc, .slice va vn vc]) ∧ St w w' [Own LI (.slice ua un uc) y, Own LI (.slice va vn vc) z] := by
  obtain ⟨a, n, cap, rfl, -⟩ := hv.slice
  obtain ⟨a', n', cap', rfl, -⟩ := hu.slice
  have g0 := gb_alloc (gb_alloc (World.grownBy.refl w none) (.cells #[.slice a n cap, .slice a' n' cap'] 46)) (.cells #[.slice none 0 0, .slice none 0 0] 43)
  have g0 := gb_alloc g0 (.cells #[.slice none 0 0, .slice none 0 0] 43)
  go_enter Try.func27, Try.ntmps27
  go_wp2_with fail
  refine (toIntS_s _ y _ (hv.kept g0) hn).mono ?_
  rintro e w1 ⟨u, rfl, S1⟩
  obtain ⟨ua, un, uc, rfl, -⟩ := (St.own S1).slice
  obtain ⟨hc, hf⟩ := bcell S1.gb
  have hz := S1.size
  simp at hz
  have c0 : (w1.cell? ⟨w.heap.size + 1 + 1, 0, none⟩) = some (.slice none 0 0) := (hc _ _ (by simp)).trans (by simp [go_sem])
  have c1 : w1.cell? ⟨w.heap.size + 1 + 1, 1, none⟩ = some (.slice none 0 0) := (hc _ _ (by simp)).trans (by simp [go_sem])
  have c2 : w1.cell? ⟨w.heap.size + 1, 0, none⟩ = some (.slice none 0 0) := (hc _ _ (by simp)).trans (by simp [go_sem])
  have c3 : w1.cell? ⟨w.heap.size + 1, 1, none⟩ = some (.slice none 0 0) := (hc _ _ (by simp)).trans (by simp [go_sem])
  have c4 : w1.cell? ⟨w.heap.size, 1, none⟩ = some (.slice a' n' cap') := (hc _ _ (by simp; omega)).trans (by simp [go_sem])
  have f0 : ∀ o, w1.frozen? ⟨w.heap.size + 1 + 1, o, none⟩ = false := fun o => (hf _ _ (by simp)).trans (by simp [go_sem])
  have f1 : ∀ o, w1.frozen? ⟨w.heap.size + 1, o, none⟩ = false := fun o => (hf _ _ (by simp)).trans (by simp [go_sem])
  have S2 := (St.toL g0 S1).set (b := w.heap.size + 1 + 1) (by omega) (by simp) 0 (.slice ua un uc)
  clear S1 hc hf hv
  go_wp2_with fail
  have hu2 := hu.kept S2.st.gb
  refine (toIntS_s _ z _ hu2 hm).mono ?_
  rintro e w3 ⟨u, rfl, S3⟩
  obtain ⟨va, vn, vc, rfl, -⟩ := (St.own S3).slice
  obtain ⟨hc, hf⟩ := bcell S3.gb
  have d0 : w3.cell? ⟨w.heap.size + 1 + 1, 0, none⟩ = some (.slice ua un uc) := (hc _ _ (by simp; omega)).trans (by simp [go_sem, c0])
  have d1 : w3.cell? ⟨w.heap.size + 1 + 1, 1, none⟩ = some (.slice none 0 0) := (hc _ _ (by simp; omega)).trans (by simp [go_sem, c1])
  have d2 : w3.cell? ⟨w.heap.size + 1, 0, none⟩ = some (.slice none 0 0) := (hc _ _ (by simp; omega)).trans (by simp [go_sem, c2])
  have d3 : w3.cell? ⟨w.heap.size + 1, 1, none⟩ = some (.slice none 0 0) := (hc _ _ (by simp; omega)).trans (by simp [go_sem, c3])
  have e0 : ∀ o, w3.frozen? ⟨w.heap.size + 1 + 1, o, none⟩ = false := fun o => (hf _ _ (by simp; omega)).trans (by simp [go_sem, f0])
  have e1 : ∀ o, w3.frozen? ⟨w.heap.size + 1, o, none⟩ = false := fun o => (hf _ _ (by simp; omega)).trans (by simp [go_sem, f1])
  have S4 := S2.call (by simp; omega) S3
  have S5 := (((S4.set (b := w.heap.size + 1 + 1) (by omega) (by simp) 1 (.slice va vn vc)).set (b := w.heap.size + 1) (by omega) (by simp) 0 (.slice ua un uc)).set (b := w.heap.size + 1) (by omega) (by simp) 1 (.slice va vn vc)).st
  clear S2 S3 S4 hc hf c0 c1 c2 c3 c4 f0 f1 hu2
  go_wp2_with fail
  refine bodyPost_ret (v := .agg #[.slice ua un uc, .slice va vn vc]) (by simp [results, Try.results27, go_sem, d0, d1, d2, d3]) rfl ⟨ua, un, uc, va, vn, vc, rfl, ?_⟩
  exact St.swap S5
set_option maxHeartbeats 1000000 in
theorem toClaimS_s (v : Value) (ys : List Clm) (w : World) (hv : DRds LClm DClm w v ys) (hn : ys.length ≤ 1099511627776) (ht : hlds ys ≤ 1099511627776) :
    Calls Try.prog 9 #[v] w fun e w' => ∃ u, e = .returned u ∧ St w w' [DOwn LClm DClm u ys] := by
  obtain ⟨a, n, cap, rfl, h1, hm, HN, HC⟩ := hv.clms
  have hn' : n ≤ 1099511627776 := by rw [HN.out]; exact hn
  clear hn
  go_enter Try.func9, Try.ntmps9
  go_wp2_with (at_make; refine wpList_mk LClm_info rfl _ _ rfl (St.refl w) _ n rfl rfl rfl hn' ?_; intro w1 S hg)
  have S0 := St.downRep (D := DClm) ((none, 0, 0), (none, 0, 0)) ⟨[], []⟩ n (fun h => (h.ownNil LI).ownNil LI) S
  clear S hg
  go_loopw [4] (fun i wr => ∃ k : Nat, k ≤ n ∧ i = .int .i64 k ∧ St w wr [DOwn LClm DClm (.slice (some ⟨w.heap.size, 0, none⟩) n n) (ys.take k ++ List.replicate (n - k) ⟨[], []⟩)]) (fun i _ => n - (intOf i).toNat)
  case atStart => exact ⟨0, by omega, rfl, by simpa using S0⟩
  case round =>
    obtain ⟨k, hk, rfl, S'⟩ := hrel
    clear S0
    by_cases hlt : k < n
    · obtain ⟨b, off, ra, rn, rc, sa, sn, sc, y, z, rfl, hb, hy, hrn, hrc, hsn, hsc, hrd, hsd, hc0, hc1⟩ := HC.out k hlt
      have hc0' := gb_cell S'.gb hc0 (by simp)
      have hc1' := gb_cell S'.gb hc1 (by simp)
      have hl := hlds_mem ys k _ hy.out
      simp only at hl
      obtain ⟨hl1, hl2⟩ := hl
      go_wp2_with (go_at_call 27; refine (toClaim_s _ _ y z _ (hrd.kept S'.gb) (hsd.kept S'.gb) (by omega) (by omega)).mono ?_; rintro e w1 ⟨ua, un, uc, va, vn, vc, rfl, S1⟩; have S2 := (S'.call S1).rot.rot.rot.rot; obtain ⟨ca, cn, cc, da, dn, dc, hcc0, hcc1, hcf, S3⟩ := St.dclmSet ((S'.call S1).rot) k (by rw [fill_len ys ⟨[], []⟩ k n HN.out hk]; exact hlt) (g := w.heap.size) rfl; rw [fill_step ys ⟨[], []⟩ k n HN.out hlt _ hy.out] at S3; clear S1 S2 S' hrd hsd hc0 hc1 hc0' hc1' hy hrn hsn)
      go_roundw
      case rel => exact ⟨k + 1, by omega, by go_num, S3⟩
      case measure => simp [intOf]; omega
    · obtain rfl : k = n := by omega
      rw [fill_end ys ⟨[], []⟩ k HN.out] at S'
      go_wp2
      go_ret
      exact ⟨_, rfl, S'⟩
set_option maxHeartbeats 1000000 in
theorem eqClaim_s (v u v2 u2 : Value) (y z : List Int) (w : World) (hv : Rds LI w v y) (hu : Rds LI w u y) (hv2 : Rds LI w v2 z) (hu2 : Rds LI w u2 z) :
    Calls Try.prog 29 #[.agg #[v, v2], .agg #[u, u2]] w fun e w' => e = .returned (.bool true) ∧ w.grownBy w' none := by
  obtain ⟨a, n, cap, rfl, -⟩ := hv.slice
  obtain ⟨a', n', cap', rfl, -⟩ := hu.slice
  obtain ⟨b, m, dap, rfl, -⟩ := hv2.slice
  obtain ⟨b', m', dap', rfl, -⟩ := hu2.slice
  have g0 := gb_alloc (gb_alloc (World.grownBy.refl w none) (.cells #[.slice a n cap, .slice b m dap] 43)) (.cells #[.slice a' n' cap', .slice b' m' dap'] 43)
  go_enter Try.func29, Try.ntmps29
  go_wp2_with fail
  refine (eqIntS_s _ _ y _ (hv.kept g0) (hu.kept g0)).mono ?_
  rintro e w1 ⟨rfl, m1, rfl⟩
  have g1 := gb_drewN g0 m1
  go_wp2_with fail
  refine (eqIntS_s _ _ z _ (hv2.kept g1) (hu2.kept g1)).mono ?_
  rintro e w1 ⟨rfl, m2, rfl⟩
  go_wp2_with fail
  go_ret
  exact ⟨rfl, gb_drewN g0 (m1 + m2)⟩
set_option maxHeartbeats 1000000 in
theorem eqClaimS_s (v u : Value) (ys : List Clm) (w : World) (hv : DRds LClm DClm w v ys) (hu : DRds LClm DClm w u ys) :
    Calls Try.prog 12 #[v, u] w fun e w' => e = .returned (.bool true) ∧ w.grownBy w' none := by
  obtain ⟨a, n, cap, rfl, h1, hm, HN, HC⟩ := hv.clms
  obtain ⟨a', n', cap', rfl, h1', hm', HN', HC'⟩ := hu.clms
  obtain rfl : n = n' := by rw [HN.out, HN'.out]
  go_enter Try.func12, Try.ntmps12
  go_wp2
  go_loopw [5] (fun i wr => ∃ k : Nat, k ≤ n ∧ i = .int .i64 k ∧ w.grownBy wr none) (fun i _ => n - (intOf i).toNat)
  case atStart => exact ⟨0, by omega, rfl, World.grownBy.refl _ _⟩
  case round =>
    obtain ⟨k, hk, rfl, hg⟩ := hrel
    by_cases hlt : k < n
    · obtain ⟨b, off, ra, rn, rc, sa, sn, sc, y, z, rfl, hb, hy, hrn, hrc, hsn, hsc, hrd, hsd, c0, c1⟩ := HC.out k hlt
      obtain ⟨b', off', ra', rn', rc', sa', sn', sc', y', z', rfl, hb', hy', hrn', hrc', hsn', hsc', hrd', hsd', d0, d1⟩ := HC'.out k hlt
      obtain ⟨rfl, rfl⟩ : y = y' ∧ z = z' := by have h1 := hy.out; have h2 := hy'.out; rw [h1] at h2; simpa using h2
      have c0' := gb_cell hg c0 (by simp)
      have c1' := gb_cell hg c1 (by simp)
      have d0' := gb_cell hg d0 (by simp)
      have d1' := gb_cell hg d1 (by simp)
      have R1 := hrd.kept hg
      have R2 := hrd'.kept hg
      have R3 := hsd.kept hg
      have R4 := hsd'.kept hg
      have HG := Lib.hid hg
      have i0 : (0 : Int) ≤ (k : Int) := by omega
      have i1 : (k : Int) < (n : Int) := by omega
      clear c0 c1 d0 d1 hrd hrd' hsd hsd' hg hrn hrn' hsn hsn' hy hy'
      go_wp2
      go_region_held3 (fun w' => w'.cell? ⟨b, off + k * 2, none⟩ = some (.slice ra rn rc) ∧ w'.cell? ⟨b, off + k * 2 + 1, none⟩ = some (.slice sa sn sc) ∧ w'.cell? ⟨b', off' + k * 2, none⟩ = some (.slice ra' rn' rc') ∧ w'.cell? ⟨b', off' + k * 2 + 1, none⟩ = some (.slice sa' sn' sc'))
        (first | go_keep | (go_split_ands; refine ⟨?_, ?_, ?_, ?_⟩ <;> exact gb_cell g2 (by assumption) (by simp)))
        ((go_at_call 29; refine (eqClaim_s _ _ _ _ y z _ (R1.kept (gb_drew (World.grownBy.refl _ _))) (R2.kept (gb_drew (World.grownBy.refl _ _))) (R3.kept (gb_drew (World.grownBy.refl _ _))) (R4.kept (gb_drew (World.grownBy.refl _ _)))).mono ?_; rintro e w2 ⟨rfl, g2⟩))
      have G2 := gb_trans (gb_drew HG.out) g2
      clear g2 c0' c1' d0' d1' R1 R2 R3 R4
      go_wp2
      go_roundw
      case rel => exact ⟨k + 1, by omega, by go_num, G2⟩
      case measure => simp [intOf]; omega
    · go_wp2
      go_ret
      exact ⟨rfl, hg⟩
set_option maxHeartbeats 1000000 in
theorem markClaimS_s (w0 : World) (v : Value) (ys : List Clm) (k0 : Int) (Ls : List Asr) (w : World) (S : St w0 w (DOwn LClm DClm v ys :: Ls)) (hk0 : 0 ≤ k0) (hk1 : k0 ≤ 1048576) (ht : hlds ys ≤ 4194304) :
    Calls Try.prog 16 #[v, .int .i64 k0] w fun e w' => e = .returned (.int .i64 (k0 + (hlds ys : Int))) ∧ St w0 w' (DOwn LClm DClm v (markClms k0 ys) :: Ls) := by
  obtain ⟨a, n, cap, rfl, h1, hm, HN, HC⟩ := (St.drds S).clms
  have FIN : RowKit.Hid (∀ k, k = n → ys.take k = ys ∧ ys.drop k = []) := by
    rintro k rfl
    rw [HN.out, List.take_length, List.drop_length]
    exact ⟨rfl, rfl⟩
  have TL : RowKit.Hid (∀ k, (hlds (ys.take k) : Int) ≤ 4194304) := fun k => by have := hlds_le ys k; omega
  clear HC
  go_enter Try.func16, Try.ntmps16
  go_wp2
  go_loopw [1, 5] (fun u i wr => ∃ (k : Nat) (K : Int), k ≤ n ∧ RowKit.Hid (K = (hlds (ys.take k) : Int)) ∧ 0 ≤ K ∧ u = .int .i64 (k0 + K) ∧ i = .int .i64 k ∧ St w0 wr (DOwn LClm DClm (.slice a n cap) (markClms k0 (ys.take k) ++ ys.drop k) :: Ls)) (fun _ i _ => n - (intOf i).toNat)
  case atStart => exact ⟨0, 0, by omega, by show (0 : Int) = _; simp [hlds], by omega, by simp, rfl, by simpa [markClms] using S⟩
  case round =>
    obtain ⟨k, K, hk, HK, hK0, rfl, rfl, S'⟩ := hrel
    clear S
    have hK1 : K ≤ 4194304 := by rw [HK.out]; exact TL.out k
    by_cases hlt : k < n
    · obtain ⟨⟨y, z⟩, hy⟩ : ∃ y, ys[k]? = some y := ⟨_, List.getElem?_eq_getElem (by rw [← HN.out]; exact hlt)⟩
      obtain ⟨g, rfl⟩ : ∃ g, a = some ⟨g, 0, none⟩ := by
        obtain ⟨xs, _, S2⟩ := S'.unpack
        obtain ⟨F, ⟨h1, _⟩, _⟩ := S2.head
        rcases h1.form with ⟨hv, _⟩ | ⟨g, cap, cur, hv, _⟩
        · simp only [Value.slice.injEq] at hv; omega
        · simp only [Value.slice.injEq] at hv; exact ⟨g, hv.1⟩
      have hat := markClms_at k0 ys k _ hy
      obtain ⟨ra, rn, rc, sa, sn, sc, Ns, hc0, hc1, hf, hrn, hsn, S3, hre, CL⟩ := St.dclmAt S' k y z hat (g := g) rfl
      have HCL := Lib.hid CL
      have HRE : RowKit.Hid (∀ w', St w0 w' (Own LI (.slice ra rn rc) ((List.range y.length).map (mkInt (k0 + K))) :: Own LI (.slice sa sn sc) ((List.range z.length).map (mkInt (k0 + K + (y.length : Int)))) :: Ns) → St w0 w' (DOwn LClm DClm (.slice (some ⟨g, 0, none⟩) n cap) (markClms k0 (ys.take (k + 1)) ++ ys.drop (k + 1)) :: Ls)) := by
        intro w' S4
        have := hre w' _ _ S4
        rw [HK.out] at this
        rwa [← markClms_step _ _ _ _ hy]
      have hly := hlds_mem ys k _ hy
      simp only at hly
      obtain ⟨hl1, hl2⟩ := hly
      have HK2 : RowKit.Hid (K + (y.length : Int) + (z.length : Int) = (hlds (ys.take (k + 1)) : Int)) := by
        show _ = _
        rw [hlds_take ys k _ hy, HK.out]
        simp only [clmN]
        omega
      have hK2 := TL.out (k + 1)
      rw [← HK2.out] at hK2
      have hi0 : (0 : Int) ≤ (k : Int) := by omega
      have hi1 : (k : Int) < (n : Int) := by omega
      clear hre hy hrn hsn S' hat CL
      go_wp2_with fail
      refine (markIntS_s w0 _ y (k0 + K) _ _ S3 (by omega) (by omega) (by omega)).mono ?_
      rintro e w1 ⟨rfl, S4⟩
      obtain ⟨hc0', hc1', hf'⟩ := HCL.out _ _ _ S4
      clear S3 hc0 hc1 hf
      go_wp2_with fail
      refine (markIntS_s w0 _ z _ _ _ (St.swap S4) (by omega) (by omega) (by omega)).mono ?_
      rintro e w2 ⟨rfl, S5⟩
      have S6 := HRE.out _ (St.swap S5)
      clear S4 S5 hc0' hc1' hf'
      go_wp2
      go_roundw
      case rel => exact ⟨k + 1, K + (y.length : Int) + (z.length : Int), by omega, HK2, by omega, by go_num, by go_num, S6⟩
      case measure => simp [intOf]; omega
    · obtain ⟨f1, f2⟩ := FIN.out k (by omega)
      rw [f1, f2, List.append_nil] at S'
      have HK2 : RowKit.Hid (K = (hlds ys : Int)) := by have := HK.out; rw [f1] at this; exact this
      clear f1 f2
      go_wp2
      go_ret
      exact ⟨by rw [← HK2.out]; rfl, S'⟩
theorem markClms_get (k0 : Int) (ys : List Clm) (k : Nat) (z : Clm) (hz : (markClms k0 ys)[k]? = some z) : ∃ y, ys[k]? = some y ∧ z = markClm (k0 + (hlds (ys.take k) : Int)) y := by
  have hk : k < ys.length := by have := (List.getElem?_eq_some_iff.1 hz).1; rwa [markClms_len] at this
  obtain ⟨y, hy⟩ : ∃ y, ys[k]? = some y := ⟨_, List.getElem?_eq_getElem hk⟩
  refine ⟨y, hy, ?_⟩
  have e : markClms k0 ys = markClms k0 (ys.take (k + 1)) ++ (markClms (k0 + (hlds (ys.take (k + 1)) : Int)) (ys.drop (k + 1))) := by
    have app : ∀ (ps bs : List Clm) (q : Int), markClms q (ps ++ bs) = markClms q ps ++ markClms (q + (hlds ps : Int)) bs := by
      intro ps
      induction ps with
      | nil => intro bs q; simp [markClms, hlds]
      | cons a ps ih =>
        intro bs q
        rw [List.cons_append, markClms, ih, markClms, List.cons_append]
        have : q + (clmN a : Int) + (hlds ps : Int) = q + (hlds (a :: ps) : Int) := by simp [hlds]; omega
        rw [this]
    rw [← app, List.take_append_drop]
  rw [e, List.take_succ_eq_append_getElem hk, markClms_snoc, List.getElem?_append_left (by simp [markClms_len]; omega), List.getElem?_append_right (by simp [markClms_len]; omega)] at hz
  have h0 : k - (markClms k0 (ys.take k)).length = 0 := by rw [markClms_len, List.length_take]; omega
  rw [h0] at hz
  have := List.getElem?_eq_some_iff.1 hy
  simp at hz
  rw [← hz, this.2]
set_option maxHeartbeats 1000000 in
theorem heldClaimS_s (v : Value) (ys : List Clm) (k0 : Int) (w : World) (hv : DRds LClm DClm w v (markClms k0 ys)) (hk0 : 0 ≤ k0) (hk1 : k0 ≤ 1048576) (ht : hlds ys ≤ 1048576) :
    Calls Try.prog 21 #[v, .int .i64 k0] w fun e w' => e = .returned (.int .i64 (k0 + (hlds ys : Int))) ∧ w.grownBy w' none := by
  obtain ⟨a, n, cap, rfl, h1, hm, HN, HC⟩ := hv.clms
  have FIN : RowKit.Hid (∀ k, k = n → ys.take k = ys) := by
    rintro k rfl
    have := HN.out
    rw [markClms_len] at this
    rw [this, List.take_length]
  have TL : RowKit.Hid (∀ k, (hlds (ys.take k) : Int) ≤ 1048576) := fun k => by have := hlds_le ys k; omega
  go_enter Try.func21, Try.ntmps21
  go_wp2
  go_loopw [1, 5] (fun u i wr => ∃ (k : Nat) (K : Int), k ≤ n ∧ RowKit.Hid (K = (hlds (ys.take k) : Int)) ∧ 0 ≤ K ∧ u = .int .i64 (k0 + K) ∧ i = .int .i64 k ∧ w.grownBy wr none) (fun _ i _ => n - (intOf i).toNat)
  case atStart => exact ⟨0, 0, by omega, by show (0 : Int) = _; simp [hlds], by omega, by simp, rfl, World.grownBy.refl _ _⟩
  case round =>
    obtain ⟨k, K, hk, HK, hK0, rfl, rfl, hg⟩ := hrel
    have hK1 : K ≤ 1048576 := by rw [HK.out]; exact TL.out k
    by_cases hlt : k < n
    · obtain ⟨b, off, ra, rn, rc, sa, sn, sc, y', z', rfl, hb, hz, hrn, hrc, hsn, hsc, hrd, hsd, c0, c1⟩ := HC.out k hlt
      obtain ⟨⟨y, z⟩, hy, he⟩ := markClms_get _ _ _ _ hz.out
      obtain ⟨rfl, rfl⟩ : y' = (List.range y.length).map (mkInt (k0 + (hlds (ys.take k) : Int))) ∧ z' = (List.range z.length).map (mkInt (k0 + (hlds (ys.take k) : Int) + (y.length : Int))) := by simpa [markClm] using he
      have hly := hlds_mem ys k _ hy
      simp only at hly
      obtain ⟨hl1, hl2⟩ := hly
      have HK2 : RowKit.Hid (K + (y.length : Int) + (z.length : Int) = (hlds (ys.take (k + 1)) : Int)) := by show _ = _; rw [hlds_take ys k _ hy, HK.out]; simp only [clmN]; omega
      rw [← HK.out] at hrd hsd
      have c0' := gb_cell hg c0 (by simp)
      have c1' := gb_cell hg c1 (by simp)
      have R1 := hrd.kept hg
      have R2 := hsd.kept hg
      have HG := Lib.hid hg
      have hK2 := TL.out (k + 1)
      rw [← HK2.out] at hK2
      have hi0 : (0 : Int) ≤ (k : Int) := by omega
      have hi1 : (k : Int) < (n : Int) := by omega
      clear hz hy hrn hrd hsn hsd c0 c1 hg he
      go_wp2_with fail
      refine (heldIntS_s _ y.length (k0 + K) _ R1 (by omega) (by omega) (by omega)).mono ?_
      rintro e w1 ⟨rfl, g1⟩
      have c1'' := gb_cell g1 c1' (by simp)
      have R2' := R2.kept g1
      have HG2 := Lib.hid (gb_trans HG.out g1)
      have c0'' := gb_cell g1 c0' (by simp)
      clear c0' c1' R1 R2 HG g1
      go_wp2_with fail
      refine (heldIntS_s _ z.length (k0 + K + (y.length : Int)) _ R2' (by omega) (by omega) (by omega)).mono ?_
      rintro e w2 ⟨rfl, g2⟩
      have G2 := gb_trans HG2.out g2
      clear g2 c0'' c1'' R2'
      go_wp2
      go_roundw
      case rel => exact ⟨k + 1, K + (y.length : Int) + (z.length : Int), by omega, HK2, by omega, by go_num, by go_num, G2⟩
      case measure => simp [intOf]; omega
    · have f1 := FIN.out k (by omega)
      have HK2 : RowKit.Hid (K = (hlds ys : Int)) := by have := HK.out; rw [f1] at this; exact this
      clear f1
      go_wp2
      go_ret
      exact ⟨by rw [← HK2.out]; rfl, hg⟩
end Go.Proofs.Ytpbihjkfbbmdjaa
