/-
  Steps of a work cycle: a number and a slice of numbers: the layout, the contracts of the laws' helpers on []Work.
-/
import Derived.Test.YthcacepkfdfbnaaDeep
import Derived.Test.YthcacepkfdfbnaaIntS
namespace Go.Proofs.Ythcacepkfdfbnaa
open Go Go.RowKit
structure Wk where
  Time : Int
  After : List Int
def LWk : Lay (Int × Sl) := ⟨2, 33, fun x => [.int .i64 x.1, .slice x.2.1 x.2.2.1 x.2.2.2], fun _ => rfl, by decide, by intro x u hu; simp at hu; rcases hu with h | h <;> subst h <;> rfl⟩
def DWk : Deep (Int × Sl) Wk where
  rd w x y := x.1 = y.Time ∧ Rds LI w x.2.val y.After
  own x y := [Asr.pure (x.1 = y.Time) (Own LI x.2.val y.After)]
  kept h hg := ⟨h.1, h.2.kept hg⟩
  rdOwn h := by
    obtain ⟨h1, h2⟩ := St.unpure h
    exact ⟨h1, St.own h2⟩
theorem LWk_info : Nonempty (ElemInfo Try.prog LWk 25 (0, (none, 0, 0))) := ElemInfo.mk' (z := .agg #[.int .i64 0, .slice none 0 0]) (bytes := 32) Try.underlying25 (by kernel_rfl) rfl (by decide)
/-- Opened: each step's own cells, its After read. -/
theorem DRds.wks {w : World} {v : Value} {ys : List Wk} (h : DRds LWk DWk w v ys) : ∃ (a : Option Addr) (n cap : Nat), v = .slice a n cap ∧ n ≤ cap ∧ cap ≤ 9223372036854775807 ∧ RowKit.Hid (n = ys.length) ∧
    RowKit.Hid (∀ k, k < n → ∃ (b off : Nat) (t : Int) (ra : Option Addr) (rn rc : Nat) (y : List Int), a = some ⟨b, off, none⟩ ∧ b < w.heap.size ∧ RowKit.Hid (ys[k]? = some ⟨t, y⟩) ∧ RowKit.Hid (rn = y.length) ∧ rn ≤ rc ∧ rc ≤ 9223372036854775807 ∧ Rds LI w (.slice ra rn rc) y ∧
      w.cell? ⟨b, off + k * 2, none⟩ = some (.int .i64 t) ∧ w.cell? ⟨b, off + k * 2 + 1, none⟩ = some (.slice ra rn rc)) := by
  obtain ⟨a, n, cap, hv, h1, h2, HN, HC⟩ := h.get
  refine ⟨a, n, cap, hv, h1, h2, HN, fun k hk => ?_⟩
  obtain ⟨b, off, ⟨t, ra, rn, rc⟩, ⟨t', y⟩, ha, hb, hy, ⟨e, hr⟩, hc⟩ := HC.out k hk
  dsimp only at e
  subst e
  have hr' : Rds LI w (.slice ra rn rc) y := hr
  obtain ⟨a', cap', hv', k1, k2, _⟩ := hr'
  simp only [Value.slice.injEq] at hv'
  obtain ⟨rfl, hn, rfl⟩ := hv'
  exact ⟨b, off, t, ra, rn, rc, y, ha, hb, hy, hn, by omega, by unfold maxLen at k2; omega, hr, hc 0 _ rfl, hc 1 _ rfl⟩
/-- Step k in front, its After owned; written through, and put back. -/
theorem St.dwkAt {w0 w : World} {v : Value} {ys : List Wk} {Ms : List Asr} (S : St w0 w (DOwn LWk DWk v ys :: Ms)) (k : Nat) (t : Int) (y : List Int) (hy : ys[k]? = some ⟨t, y⟩) {g : Nat} (hv : v.ownBlock = some g) :
    ∃ ra rn rc Ns, w.cell? ⟨g, k * 2, none⟩ = some (.int .i64 t) ∧ w.cell? ⟨g, k * 2 + 1, none⟩ = some (.slice ra rn rc) ∧ (∀ j, w.frozen? ⟨g, j, none⟩ = false) ∧ rn = y.length ∧ St w0 w (Own LI (.slice ra rn rc) y :: Ns) ∧
      (∀ (w' : World) (y' : List Int), St w0 w' (Own LI (.slice ra rn rc) y' :: Ns) → St w0 w' (DOwn LWk DWk v (ys.set k ⟨t, y'⟩) :: Ms)) := by
  obtain ⟨xs, ⟨t', ra, rn, rc⟩, R, hx, hl, S1, hre⟩ := S.focus k _ hy
  have S2 : St w0 w (Own LWk v xs :: (R ++ Ms)) := St.tail S1
  obtain ⟨e, S3⟩ := St.unpure S1
  dsimp only at e
  subst e
  have hr : Rds LI w (.slice ra rn rc) y := St.own S3
  obtain ⟨_, _, hv', _⟩ := hr
  simp only [Value.slice.injEq] at hv'
  have hc := S2.ownCell hv k _ hx
  have h0 := hc 0 _ rfl
  have h1 := hc 1 _ rfl
  exact ⟨ra, rn, rc, _, h0, h1, fun j => S2.ownFrozen hv j, hv'.2.1, S3, fun w' y' S' => St.unfocus hre hx (y' := ⟨t', y'⟩) (St.pure rfl S')⟩
/-- The time of step k set. -/
theorem St.dwkTime {w0 w : World} {v : Value} {ys : List Wk} {Ms : List Asr} (S : St w0 w (DOwn LWk DWk v ys :: Ms)) (k : Nat) (t t' : Int) (y : List Int) (hy : ys[k]? = some ⟨t, y⟩) {g : Nat} (hv : v.ownBlock = some g) :
    St w0 (w.setCell ⟨g, k * 2, none⟩ (.int .i64 t')) (DOwn LWk DWk v (ys.set k ⟨t', y⟩) :: Ms) := by
  obtain ⟨xs, ⟨t0, ra, rn, rc⟩, R, hx, hl, S1, hre⟩ := S.focus k _ hy
  obtain ⟨e, S3⟩ := St.unpure S1
  obtain ⟨hk, hxe⟩ := List.getElem?_eq_some_iff.1 hx
  have S4 := (St.swap S3).setAt hv k 0 (t', (ra, rn, rc)) (.int .i64 t') hk (by decide) (by rw [hxe]; rfl)
  exact hre _ _ (t', (ra, rn, rc)) ⟨t', y⟩ Ms rfl (St.pure rfl (St.swap S4))
/-- Step k replaced. -/
theorem St.dwkSet {w0 w : World} {v : Value} {ys : List Wk} {Ms : List Asr} {ua : Option Addr} {un uc : Nat} {y : List Int} (S : St w0 w (DOwn LWk DWk v ys :: Own LI (.slice ua un uc) y :: Ms)) (t : Int) (k : Nat) (hk : k < ys.length) {g : Nat} (hv : v.ownBlock = some g) :
    ∃ t0 ra rn rc, w.cell? ⟨g, k * 2, none⟩ = some (.int .i64 t0) ∧ w.cell? ⟨g, k * 2 + 1, none⟩ = some (.slice ra rn rc) ∧ (∀ j, w.frozen? ⟨g, j, none⟩ = false) ∧
      St w0 ((w.setCell ⟨g, k * 2, none⟩ (.int .i64 t)).setCell ⟨g, k * 2 + 1, none⟩ (.slice ua un uc)) (DOwn LWk DWk v (ys.set k ⟨t, y⟩) :: Ms) := by
  obtain ⟨xs, ⟨t0, ra, rn, rc⟩, R, hx, hl, S1, hre⟩ := S.focus k ys[k] (List.getElem?_eq_getElem hk)
  have S2 : St w0 w (Own LWk v xs :: (R ++ (Own LI (.slice ua un uc) y :: Ms))) := St.tail S1
  have hc := S2.ownCell hv k _ hx
  obtain ⟨hkx, hxe⟩ := List.getElem?_eq_some_iff.1 hx
  refine ⟨t0, ra, rn, rc, hc 0 _ rfl, hc 1 _ rfl, fun j => S2.ownFrozen hv j, ?_⟩
  have S3 := S2.setAt hv k 0 (t, (ra, rn, rc)) (.int .i64 t) hkx (by decide) (by rw [hxe]; rfl)
  have S4 := S3.setAt hv k 1 (t, (ua, un, uc)) (.slice ua un uc) (by simpa using hkx) (by decide) (by rw [List.getElem_set_self]; rfl)
  rw [List.set_set] at S4
  exact hre _ _ (t, (ua, un, uc)) ⟨t, y⟩ Ms rfl (St.pure rfl (S4.perm ((List.Perm.cons _ List.perm_middle).trans (.swap _ _ _))))

/-- How many numbers of After. -/
def aft (ys : List Wk) : Nat := (ys.map (fun y => y.After.length)).sum
theorem aft_take (ys : List Wk) (k : Nat) (y : Wk) (hy : ys[k]? = some y) : aft (ys.take (k + 1)) = aft (ys.take k) + y.After.length := by
  obtain ⟨hk, rfl⟩ := List.getElem?_eq_some_iff.1 hy
  unfold aft
  rw [List.take_succ_eq_append_getElem hk, List.map_append, List.sum_append]
  simp only [List.map_cons, List.map_nil, List.sum_cons, List.sum_nil, Nat.add_zero]
theorem aft_le (ys : List Wk) (k : Nat) : aft (ys.take k) ≤ aft ys := by
  have : aft ys = aft (ys.take k) + aft (ys.drop k) := by
    unfold aft
    rw [← List.sum_append, ← List.map_append, List.take_append_drop]
  omega
theorem aft_mem (ys : List Wk) (k : Nat) (y : Wk) (hy : ys[k]? = some y) : y.After.length ≤ aft ys := by
  have h1 := aft_take ys k y hy
  have h2 := aft_le ys (k + 1)
  omega
/-- The marks of steps, one after the other. -/
def markWks (k0 : Int) : List Wk → List Wk
  | [] => []
  | y :: ys => ⟨k0, (List.range y.After.length).map (mkInt (k0 + 1))⟩ :: markWks (k0 + 1 + (y.After.length : Int)) ys
def cntWks (ys : List Wk) : Nat := ys.length + aft ys
theorem cntWks_take (ys : List Wk) (k : Nat) (y : Wk) (hy : ys[k]? = some y) : cntWks (ys.take (k + 1)) = cntWks (ys.take k) + 1 + y.After.length := by
  obtain ⟨hk, rfl⟩ := List.getElem?_eq_some_iff.1 hy
  unfold cntWks
  rw [aft_take ys k _ hy, List.length_take, List.length_take]
  omega
theorem cntWks_le (ys : List Wk) (k : Nat) : cntWks (ys.take k) ≤ cntWks ys := by
  have := aft_le ys k
  unfold cntWks
  rw [List.length_take]
  omega
theorem markWks_snoc (y : Wk) : ∀ (k0 : Int) (ys : List Wk), markWks k0 (ys ++ [y]) = markWks k0 ys ++ [⟨k0 + (cntWks ys : Int), (List.range y.After.length).map (mkInt (k0 + (cntWks ys : Int) + 1))⟩]
  | k0, [] => by simp [markWks, cntWks, aft]
  | k0, x :: ys => by
    rw [List.cons_append, markWks, markWks_snoc y (k0 + 1 + (x.After.length : Int)) ys, markWks, List.cons_append]
    have e : k0 + 1 + (x.After.length : Int) + (cntWks ys : Int) = k0 + (cntWks (x :: ys) : Int) := by
      simp [cntWks, aft]; omega
    rw [e]
theorem markWks_len : ∀ (k0 : Int) (ys : List Wk), (markWks k0 ys).length = ys.length
  | _, [] => rfl
  | k0, x :: ys => by simp [markWks, markWks_len]
theorem markWks_at (k0 : Int) (ys : List Wk) (k : Nat) (y : Wk) (hy : ys[k]? = some y) : (markWks k0 (ys.take k) ++ ys.drop k)[k]? = some y := by
  obtain ⟨hk, rfl⟩ := List.getElem?_eq_some_iff.1 hy
  have h0 : (markWks k0 (ys.take k)).length = k := by rw [markWks_len, List.length_take]; omega
  rw [List.getElem?_append_right (by omega), h0, Nat.sub_self, List.getElem?_drop]
  simp [hk]
theorem markWks_step (k0 : Int) (ys : List Wk) (k : Nat) (y : Wk) (hy : ys[k]? = some y) :
    (markWks k0 (ys.take k) ++ ys.drop k).set k ⟨k0 + (cntWks (ys.take k) : Int), (List.range y.After.length).map (mkInt (k0 + (cntWks (ys.take k) : Int) + 1))⟩ = markWks k0 (ys.take (k + 1)) ++ ys.drop (k + 1) := by
  obtain ⟨hk, rfl⟩ := List.getElem?_eq_some_iff.1 hy
  have h0 : (markWks k0 (ys.take k)).length = k := by rw [markWks_len, List.length_take]; omega
  rw [List.set_append_right _ _ (by omega), h0, Nat.sub_self, List.drop_eq_getElem_cons hk, List.set_cons_zero, List.take_succ_eq_append_getElem hk, markWks_snoc, List.append_assoc]
  rfl
theorem szWork_s (t : Int) (v : Value) (xs : List Int) (k : Int) (w : World) (hv : Rds LI w v xs) (h0 : -1 ≤ k) (h1 : k ≤ 1048576) :
    Calls Try.prog 37 #[.agg #[.int .i64 t, v], .int .i64 k] w fun e w' => ∃ r : Int, e = .returned (.int .i64 r) ∧ -1 ≤ r ∧ r ≤ k ∧ (0 ≤ r → (xs.length : Int) ≤ k - r) ∧ w.grownBy w' none := by
  obtain ⟨a, n, cap, rfl, -⟩ := hv.slice
  have hv' := hv.kept (World.grownBy_alloc w (.cells #[.int .i64 t, .slice a n cap] 42) none)
  go_enter Try.func37, Try.ntmps37
  go_wp2_with (go_at_call 45; refine (szIntS_s _ xs k _ hv' h0 h1).mono ?_; rintro e w1 ⟨r, rfl, hr2, hr3, hr4, rfl⟩)
  · go_ret
    exact ⟨-1, rfl, by omega, by omega, by omega, World.grownBy_alloc _ _ _⟩
  · go_ret
    exact ⟨r, rfl, by omega, by omega, hr4, World.grownBy_alloc _ _ _⟩
set_option maxHeartbeats 400000 in
theorem szWorkS_s (v : Value) (ys : List Wk) (k0 : Int) (w : World) (hv : DRds LWk DWk w v ys) (h0 : 0 ≤ k0) (h1 : k0 ≤ 1048576) :
    Calls Try.prog 13 #[v, .int .i64 k0] w fun e w' => ∃ r : Int, e = .returned (.int .i64 r) ∧ -1 ≤ r ∧ r ≤ k0 ∧ (0 ≤ r → (ys.length : Int) ≤ k0 ∧ (aft ys : Int) ≤ k0) ∧ w.grownBy w' none := by
  obtain ⟨a, n, cap, rfl, h2, hm, HN, HC⟩ := hv.wks
  have e : (ys.length : Int) = (n : Int) := by have := HN.out; omega
  rw [e]
  by_cases hlt : k0 - (n : Int) < 0
  · go_enter Try.func13, Try.ntmps13
    go_wp2
    go_ret
    exact ⟨-1, rfl, by omega, by omega, by omega, World.grownBy.refl _ _⟩
  · have FIN : RowKit.Hid (∀ k, k = n → aft (ys.take k) = aft ys) := by
      rintro k rfl
      rw [HN.out, List.take_length]
    go_enter Try.func13, Try.ntmps13
    go_wp2
    go_loopw [1, 5] (fun u i wr => ∃ (k : Nat) (r : Int), k ≤ n ∧ i = .int .i64 k ∧ u = .int .i64 r ∧ 0 ≤ r ∧ r ≤ k0 ∧ RowKit.Hid ((aft (ys.take k) : Int) ≤ k0 - r) ∧ w.grownBy wr none) (fun _ i _ => n - (intOf i).toNat)
    case atStart => exact ⟨0, k0 - (n : Int), by omega, rfl, rfl, by omega, by omega, (by show ((aft (ys.take 0) : Nat) : Int) ≤ k0 - (k0 - (n : Int)); simp [aft]; omega), World.grownBy.refl _ _⟩
    case round =>
      obtain ⟨k, r, hk, rfl, rfl, hr0, hr1, HT, hg⟩ := hrel
      by_cases hlt2 : k < n
      · obtain ⟨b, off, t, ra, rn, rc, y, rfl, hb, hy, hrn, hrc, hrm, hrd, hc0, hc1⟩ := HC.out k hlt2
        have HT2 : RowKit.Hid (∀ r' : Int, (y.length : Int) ≤ r - r' → (aft (ys.take (k + 1)) : Int) ≤ k0 - r') := by
          intro r' hr'
          have := aft_take ys k _ hy.out
          have := HT.out
          simp only at *
          omega
        have hc0' := gb_cell hg hc0 (by simp)
        have hc1' := gb_cell hg hc1 (by simp)
        clear hc0 hc1
        go_wp2_with (go_at_call 37; refine (szWork_s t _ y r _ (hrd.kept hg) (by omega) (by omega)).mono ?_; rintro e w1 ⟨r', rfl, hr2, hr3, hr4, g1⟩)
        · go_ret
          exact ⟨-1, rfl, by omega, by omega, by omega, gb_trans hg g1⟩
        · have hr5 : 0 ≤ r' := by assumption
          go_roundw
          case rel => exact ⟨k + 1, r', by omega, by go_num, rfl, by omega, by omega, HT2.out r' (hr4 (by omega)), gb_trans hg g1⟩
          case measure => simp [intOf]; omega
      · have HT3 := FIN.out k (by omega)
        have HT4 : RowKit.Hid ((aft ys : Int) ≤ k0 - r) := by have := HT.out; show (aft ys : Int) ≤ k0 - r; omega
        clear HT HT3
        go_wp2
        go_ret
        exact ⟨r, rfl, by omega, by omega, fun _ => ⟨by omega, by have := HT4.out; omega⟩, hg⟩
set_option maxHeartbeats 1000000 in
theorem toWork_s (t : Int) (v : Value) (y : List Int) (w : World) (hv : Rds LI w v y) (hn : y.length ≤ 1099511627776) :
    Calls Try.prog 39 #[.agg #[.int .i64 t, v]] w fun e w' => ∃ ua un uc, e = .returned (.agg #[.int .i64 t, .slice ua un uc]) ∧ St w w' [Own LI (.slice ua un uc) y] := by
  obtain ⟨a, n, cap, rfl, -⟩ := hv.slice
  have g0 := gb_alloc (gb_alloc (gb_alloc (World.grownBy.refl w none) (.cells #[.int .i64 t, .slice a n cap] 42)) (.cells #[.int .i64 0, .slice none 0 0] 33)) (.cells #[.int .i64 t, .slice none 0 0] 33)
  go_enter Try.func39, Try.ntmps39
  go_wp2_with (go_at_call 46; refine (toIntS_s _ y _ (hv.kept g0) hn).mono ?_; rintro e w1 ⟨u, rfl, S1⟩; obtain ⟨ua, un, uc, rfl, -⟩ := (St.own S1).slice; obtain ⟨hc, hf⟩ := bcell S1.gb; have hz := S1.size; simp at hz)
  refine bodyPost_ret (v := .agg #[.int .i64 t, .slice ua un uc]) (by simp [results, Try.results39, go_sem, hc, hf, hz]) rfl ⟨ua, un, uc, rfl, ?_⟩
  have S2 := St.toL g0 S1
  exact (((S2.set (b := w.heap.size + 2) (by simp) (by simp) _ _).set (b := w.heap.size + 1) (by simp) (by simp) _ _).set (b := w.heap.size + 1) (by simp) (by simp) _ _).st
set_option maxHeartbeats 1000000 in
theorem toWorkS_s (v : Value) (ys : List Wk) (w : World) (hv : DRds LWk DWk w v ys) (hn : ys.length ≤ 1099511627776) (ht : aft ys ≤ 1099511627776) :
    Calls Try.prog 15 #[v] w fun e w' => ∃ u, e = .returned u ∧ St w w' [DOwn LWk DWk u ys] := by
  obtain ⟨a, n, cap, rfl, h1, hm, HN, HC⟩ := hv.wks
  have hn' : n ≤ 1099511627776 := by rw [HN.out]; exact hn
  clear hn
  go_enter Try.func15, Try.ntmps15
  go_wp2_with (at_make; refine wpList_mk LWk_info rfl _ _ rfl (St.refl w) _ n rfl rfl rfl hn' ?_; intro w1 S hg)
  have S0 := St.downRep (D := DWk) (0, (none, 0, 0)) ⟨0, []⟩ n (fun h => St.pure rfl (h.ownNil LI)) S
  clear S hg
  go_loopw [4] (fun i wr => ∃ k : Nat, k ≤ n ∧ i = .int .i64 k ∧ St w wr [DOwn LWk DWk (.slice (some ⟨w.heap.size, 0, none⟩) n n) (ys.take k ++ List.replicate (n - k) ⟨0, []⟩)]) (fun i _ => n - (intOf i).toNat)
  case atStart => exact ⟨0, by omega, rfl, by simpa using S0⟩
  case round =>
    obtain ⟨k, hk, rfl, S'⟩ := hrel
    clear S0
    by_cases hlt : k < n
    · obtain ⟨b, off, t, ra, rn, rc, y, rfl, hb, hy, hrn, hrc, hrm, hrd, hc0, hc1⟩ := HC.out k hlt
      have hc0' := gb_cell S'.gb hc0 (by simp)
      have hc1' := gb_cell S'.gb hc1 (by simp)
      have hl := aft_mem ys k _ hy.out
      simp only at hl
      go_wp2_with (go_at_call 39; refine (toWork_s t _ y _ (hrd.kept S'.gb) (by omega)).mono ?_; rintro e w1 ⟨ua, un, uc, rfl, S1⟩; have S2 := (S'.call S1).swap; obtain ⟨t0, ca, cn, cc, hcc0, hcc1, hcf, S3⟩ := St.dwkSet S2 t k (by rw [fill_len ys ⟨0, []⟩ k n HN.out hk]; exact hlt) (g := w.heap.size) rfl; rw [fill_step ys ⟨0, []⟩ k n HN.out hlt _ hy.out] at S3; clear S1 S2 S' hrd hc0 hc1 hc0' hc1' hy hrn)
      go_roundw
      case rel => exact ⟨k + 1, by omega, by go_num, S3⟩
      case measure => simp [intOf]; omega
    · obtain rfl : k = n := by omega
      rw [fill_end ys ⟨0, []⟩ k HN.out] at S'
      go_wp2
      go_ret
      exact ⟨_, rfl, S'⟩
set_option maxHeartbeats 1000000 in
theorem eqWork_s (t : Int) (v u : Value) (y : List Int) (w : World) (hv : Rds LI w v y) (hu : Rds LI w u y) :
    Calls Try.prog 41 #[.agg #[.int .i64 t, v], .agg #[.int .i64 t, u]] w fun e w' => e = .returned (.bool true) ∧ w.grownBy w' none := by
  obtain ⟨a, n, cap, rfl, -⟩ := hv.slice
  obtain ⟨a', n', cap', rfl, -⟩ := hu.slice
  have g0 := gb_alloc (gb_alloc (World.grownBy.refl w none) (.cells #[.int .i64 t, .slice a n cap] 33)) (.cells #[.int .i64 t, .slice a' n' cap'] 33)
  go_enter Try.func41, Try.ntmps41
  go_wp2_with (go_at_call 24; refine (eqIntS_s _ _ y _ (hv.kept g0) (hu.kept g0)).mono ?_; rintro e w1 ⟨rfl, m, rfl⟩)
  go_ret
  exact ⟨rfl, gb_drewN g0 m⟩
set_option maxHeartbeats 1000000 in
theorem eqWorkS_s (v u : Value) (ys : List Wk) (w : World) (hv : DRds LWk DWk w v ys) (hu : DRds LWk DWk w u ys) :
    Calls Try.prog 17 #[v, u] w fun e w' => e = .returned (.bool true) ∧ w.grownBy w' none := by
  obtain ⟨a, n, cap, rfl, h1, hm, HN, HC⟩ := hv.wks
  obtain ⟨a', n', cap', rfl, h1', hm', HN', HC'⟩ := hu.wks
  obtain rfl : n = n' := by rw [HN.out, HN'.out]
  go_enter Try.func17, Try.ntmps17
  go_wp2
  go_loopw [5] (fun i wr => ∃ k : Nat, k ≤ n ∧ i = .int .i64 k ∧ w.grownBy wr none) (fun i _ => n - (intOf i).toNat)
  case atStart => exact ⟨0, by omega, rfl, World.grownBy.refl _ _⟩
  case round =>
    obtain ⟨k, hk, rfl, hg⟩ := hrel
    by_cases hlt : k < n
    · obtain ⟨b, off, t, ra, rn, rc, y, rfl, hb, hy, hrn, hrc, hrm, hrd, c0, c1⟩ := HC.out k hlt
      obtain ⟨b', off', t', ra', rn', rc', y', rfl, hb', hy', hrn', hrc', hrm', hrd', d0, d1⟩ := HC'.out k hlt
      obtain ⟨rfl, rfl⟩ : t = t' ∧ y = y' := by have h1 := hy.out; have h2 := hy'.out; rw [h1] at h2; simpa using h2
      have c0' := gb_cell hg c0 (by simp)
      have c1' := gb_cell hg c1 (by simp)
      have d0' := gb_cell hg d0 (by simp)
      have d1' := gb_cell hg d1 (by simp)
      have R1 := hrd.kept hg
      have R2 := hrd'.kept hg
      have HG := Lib.hid hg
      have i0 : (0 : Int) ≤ (k : Int) := by omega
      have i1 : (k : Int) < (n : Int) := by omega
      clear c0 c1 d0 d1 hrd hrd' hg hrn hrn' hy hy'
      go_wp2
      go_region_held3 (fun w' => w'.cell? ⟨b, off + k * 2, none⟩ = some (.int .i64 t) ∧ w'.cell? ⟨b, off + k * 2 + 1, none⟩ = some (.slice ra rn rc) ∧ w'.cell? ⟨b', off' + k * 2, none⟩ = some (.int .i64 t) ∧ w'.cell? ⟨b', off' + k * 2 + 1, none⟩ = some (.slice ra' rn' rc'))
        (first | go_keep | (go_split_ands; refine ⟨?_, ?_, ?_, ?_⟩ <;> exact gb_cell g2 (by assumption) (by simp)))
        ((go_at_call 41; refine (eqWork_s t _ _ y _ (R1.kept (gb_drew (World.grownBy.refl _ _))) (R2.kept (gb_drew (World.grownBy.refl _ _)))).mono ?_; rintro e w2 ⟨rfl, g2⟩))
      have G2 := gb_trans (gb_drew HG.out) g2
      clear g2 c0' c1' d0' d1' R1 R2
      go_wp2
      go_roundw
      case rel => exact ⟨k + 1, by omega, by go_num, G2⟩
      case measure => simp [intOf]; omega
    · go_wp2
      go_ret
      exact ⟨rfl, hg⟩
set_option maxHeartbeats 1000000 in
theorem markWorkS_s (w0 : World) (v : Value) (ys : List Wk) (k0 : Int) (Ls : List Asr) (w : World) (S : St w0 w (DOwn LWk DWk v ys :: Ls)) (hk0 : 0 ≤ k0) (hk1 : k0 ≤ 1048576) (ht : cntWks ys ≤ 4194304) :
    Calls Try.prog 25 #[v, .int .i64 k0] w fun e w' => e = .returned (.int .i64 (k0 + (cntWks ys : Int))) ∧ St w0 w' (DOwn LWk DWk v (markWks k0 ys) :: Ls) := by
  obtain ⟨a, n, cap, rfl, h1, hm, HN, HC⟩ := (St.drds S).wks
  have FIN : RowKit.Hid (∀ k, k = n → ys.take k = ys ∧ ys.drop k = []) := by
    rintro k rfl
    rw [HN.out, List.take_length, List.drop_length]
    exact ⟨rfl, rfl⟩
  have TL : RowKit.Hid (∀ k, (cntWks (ys.take k) : Int) ≤ 4194304) := fun k => by have := cntWks_le ys k; omega
  clear HC
  go_enter Try.func25, Try.ntmps25
  go_wp2
  go_loopw [1, 5] (fun u i wr => ∃ (k : Nat) (K : Int), k ≤ n ∧ RowKit.Hid (K = (cntWks (ys.take k) : Int)) ∧ 0 ≤ K ∧ u = .int .i64 (k0 + K) ∧ i = .int .i64 k ∧ St w0 wr (DOwn LWk DWk (.slice a n cap) (markWks k0 (ys.take k) ++ ys.drop k) :: Ls)) (fun _ i _ => n - (intOf i).toNat)
  case atStart => exact ⟨0, 0, by omega, by show (0 : Int) = _; simp [cntWks, aft], by omega, by simp, rfl, by simpa [markWks] using S⟩
  case round =>
    obtain ⟨k, K, hk, HK, hK0, rfl, rfl, S'⟩ := hrel
    clear S
    have hK1 : K ≤ 4194304 := by rw [HK.out]; exact TL.out k
    by_cases hlt : k < n
    · obtain ⟨⟨t, y⟩, hy⟩ : ∃ y, ys[k]? = some y := ⟨_, List.getElem?_eq_getElem (by rw [← HN.out]; exact hlt)⟩
      obtain ⟨g, rfl⟩ : ∃ g, a = some ⟨g, 0, none⟩ := by
        obtain ⟨xs, _, S2⟩ := S'.unpack
        obtain ⟨F, ⟨h1, _⟩, _⟩ := S2.head
        rcases h1.form with ⟨hv, _⟩ | ⟨g, cap, cur, hv, _⟩
        · simp only [Value.slice.injEq] at hv; omega
        · simp only [Value.slice.injEq] at hv; exact ⟨g, hv.1⟩
      have hat := markWks_at k0 ys k _ hy
      obtain ⟨ra, rn, rc, Ns, hc0, hc1, hf, hrn, -, -⟩ := St.dwkAt S' k t y hat (g := g) rfl
      have S2 := St.dwkTime S' k t (k0 + K) y hat (g := g) rfl
      obtain ⟨ra', rn', rc', Ns', -, hc1', -, -, S3, hre⟩ := St.dwkAt S2 k (k0 + K) y (List.getElem?_set_self (List.getElem?_eq_some_iff.1 hat).1) (g := g) rfl
      obtain ⟨rfl, rfl, rfl⟩ : ra = ra' ∧ rn = rn' ∧ rc = rc' := by
        have h2 : (wr.setCell ⟨g, k * 2, none⟩ (.int .i64 (k0 + K))).cell? ⟨g, k * 2 + 1, none⟩ = wr.cell? ⟨g, k * 2 + 1, none⟩ := World.cell?_setCell_other _ _ _ _ (by simp)
        rw [h2, hc1] at hc1'
        simpa using hc1'
      have HRE : RowKit.Hid (∀ w', St w0 w' (Own LI (.slice ra rn rc) ((List.range y.length).map (mkInt (k0 + K + 1))) :: Ns') → St w0 w' (DOwn LWk DWk (.slice (some ⟨g, 0, none⟩) n cap) (markWks k0 (ys.take (k + 1)) ++ ys.drop (k + 1)) :: Ls)) := by
        intro w' S4
        have := hre w' _ S4
        rw [List.set_set, HK.out] at this
        rwa [markWks_step _ _ _ _ hy] at this
      have hly := aft_mem ys k _ hy
      have HK2 : RowKit.Hid (K + 1 + (y.length : Int) = (cntWks (ys.take (k + 1)) : Int)) := by
        show _ = _
        rw [cntWks_take ys k _ hy, HK.out]
        simp only
        omega
      have hK2 := TL.out (k + 1)
      rw [← HK2.out] at hK2
      clear hre hy hrn S' S2 hat hc1' hly
      go_wp2_with (go_at_call 26; refine (markIntS_s w0 _ y (k0 + K + 1) Ns' _ S3 (by omega) (by omega) (by omega)).mono ?_; rintro e w1 ⟨rfl, S4⟩)
      have S5 := HRE.out _ S4
      clear S3 S4 hc0 hc1 hf
      go_roundw
      case rel => exact ⟨k + 1, K + 1 + (y.length : Int), by omega, HK2, by omega, by go_num, by go_num, S5⟩
      case measure => simp [intOf]; omega
    · obtain ⟨f1, f2⟩ := FIN.out k (by omega)
      rw [f1, f2, List.append_nil] at S'
      have HK2 : RowKit.Hid (K = (cntWks ys : Int)) := by have := HK.out; rw [f1] at this; exact this
      clear f1 f2
      go_wp2
      go_ret
      exact ⟨by rw [← HK2.out]; rfl, S'⟩
end Go.Proofs.Ythcacepkfdfbnaa
