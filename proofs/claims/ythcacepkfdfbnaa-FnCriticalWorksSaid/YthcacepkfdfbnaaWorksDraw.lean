/-
  The draw of steps: at most 8, each with at most 9 numbers.
-/
import Derived.Test.YthcacepkfdfbnaaWorkS
import Derived.Test.YthcacepkfdfbnaaOpen
import Derived.Test.YthcacepkfdfbnaaLoc
import Derived.Deep.RegionLaw
namespace Go.Proofs.Ythcacepkfdfbnaa
open Go Go.RowKit
def WksQ (w0 : World) (B m : Nat) (Ls : List Asr) (e : Ending) (w' : World) : Prop :=
  ∃ (v : Value) (ys : List Wk) (m' : Nat), e = .returned v ∧ ys.length ≤ 8 ∧ (∀ y ∈ ys, y.After.length ≤ 9) ∧ m' ≤ m + 200 ∧ St w0 w' (DOwn LWk DWk v ys :: Rdr w0 B m' :: Ls)
/-- append(out, w). -/
theorem wpList_dwk1 {t : TypeId} {x0 : Int × Sl} {w0 w : World} {v : Value} {ys : List Wk} {Ls : List Asr} (D : Nonempty (ElemInfo Try.prog LWk t x0)) {ops : Array Oper} {rest : List Oper} {o : Oper} {a : Act} {Q : Exit → Act → World → Prop}
    (hgd : o.guard = none) (s x : Operand) (ho : o.op = .call { callee := .builtin .append, args := #[s, x], argTypes := #[t, t] })
    {tt : Int} {ua : Option Addr} {un uc : Nat} {y : List Int} (S : St w0 w (DOwn LWk DWk v ys :: Own LI (.slice ua un uc) y :: Ls)) (hs : a.eval s = v) (hx : a.eval x = .slice (some ⟨w.heap.size, 0, none⟩) 1 1) (hn : ys.length ≤ 1000000000)
    (h : ∀ v' w', St w0 w' (DOwn LWk DWk v' (ys ++ [⟨tt, y⟩]) :: Ls) → wpList Try.prog ops Q rest (a.put o.dst v') w') : wpList Try.prog ops Q (o :: rest) a (w.alloc (.cells #[.int .i64 tt, .slice ua un uc] 33)) := by
  obtain ⟨xs, hl, S1⟩ := S.unpack
  refine wpList_app1 D hgd s x ho S1 (tt, ua, un, uc) #[.int .i64 tt, .slice ua un uc] rfl hs hx (by omega) (fun v' w' S2 => h v' w' (St.dsnoc (x := (tt, ua, un, uc)) hl ?_))
  exact S2.perm ((List.Perm.cons _ (List.Perm.append_left _ (List.Perm.refl _))).trans (List.Perm.refl _)) |> fun S3 => by
    have S4 := St.moveOut (Ms := Own LWk v' (xs ++ [(tt, ua, un, uc)]) :: inner DWk xs ys) S3
    exact St.moveIn (Ms := Own LWk v' (xs ++ [(tt, ua, un, uc)]) :: inner DWk xs ys) (St.pure rfl S4)
attribute [local go_sem ↓] lit2
set_option maxHeartbeats 8000000 in
theorem works_s (w0 : World) (B m : Nat) (Ls : List Asr) (n : Int) (w : World) (S : St w0 w (Rdr w0 B m :: Ls)) (hm : m ≤ 900000) (hn : n ≤ 1000000) :
    Calls Try.prog 42 #[.pointer (some ⟨B, 0, none⟩), .int .i64 n] w (WksQ w0 B m Ls) := by
  have S1 : St w0 (w.alloc (.cells #[] 33)) (Rdr w0 B m :: DOwn LWk DWk (.slice (some ⟨w.heap.size, 0, none⟩) 0 0) [] :: Ls) := (S.downEmpty (L := LWk) (D := DWk)).swap
  clear S
  go_enter Try.func42, Try.ntmps42
  go_wp2_with fail
  refine (pick_s w0 B _ _ 9 _ S1 (by omega)).mono ?_
  rintro e w1 ⟨p, rfl, ⟨p0, p1, -⟩, S2⟩
  replace p1 := p1 (by omega)
  clear S1
  obtain ⟨K0, hK0⟩ : ∃ K0 : Nat, p = (K0 : Int) := ⟨p.toNat, by omega⟩
  subst hK0
  have hK2 : K0 ≤ 8 := by omega
  have S3 := S2.swap
  clear S2 p0 p1
  go_wp2_with fail
  go_loopw [5, 6, 7, 8] (fun o i _ _ wr => ∃ (k m' : Nat) (ys : List Wk), k ≤ K0 ∧ i = .int .i64 (k : Int) ∧ RowKit.Hid (ys.length + k = K0) ∧ RowKit.Hid (∀ y ∈ ys, y.After.length ≤ 8) ∧ m' + 20 * k ≤ m + 1 + 20 * K0 ∧ St w0 wr (DOwn LWk DWk o ys :: Rdr w0 B m' :: Ls)) (fun _ i _ _ _ => (intOf i).toNat)
  case atStart => exact ⟨K0, m + 1, [], by omega, rfl, by show ([] : List Wk).length + K0 = K0; simp, (by intro y hy; cases hy), by omega, S3⟩
  case round =>
    obtain ⟨k, m', ys, hk, rfl, HX, HA, hm', S4⟩ := hrel
    clear S3
    by_cases hlt : 0 < k
    · have hlt' : (0 : Int) < k := by omega
      have hyl : ys.length ≤ 8 := by have := HX.out; omega
      have S5 := S4.swap
      clear S4
      go_wp2_with fail
      refine (pick_s w0 B _ _ 20 _ S5 (by omega)).mono ?_
      rintro e w2 ⟨t, rfl, ⟨t0, t1, -⟩, S6⟩
      replace t1 := t1 (by omega)
      clear S5
      obtain ⟨H, hH⟩ : ∃ H, H = w2.heap.size := ⟨_, rfl⟩
      have S7 := S6.ownNil LI |>.loc #[.int .i64 (1 + t), .slice none 0 0] 33
      rw [← hH] at S7
      have HH := Lib.hid hH
      clear S6 hH
      go_wp2_with fail
      rw [← HH.out]
      clear HH
      obtain ⟨o, rfl⟩ : ∃ o, o = u5 := ⟨_, rfl⟩
      obtain ⟨oa, on, oc, rfl, -, -, HON, -⟩ := (St.drds (St.tail (St.tail (St.tail S7)))).get
      have hon : on ≤ 8 := by have := HON.out; omega
      go_loopw [8] (fun i wr => ∃ (j m'' : Nat) (row : List Int) (ra : Option Addr) (rn rc : Nat), j ≤ on ∧ i = .int .i64 (j : Int) ∧ RowKit.Hid (row.length ≤ j) ∧ m'' ≤ m' + 1 + j ∧ St w0 wr (Loc H 33 #[.int .i64 (1 + t), .slice ra rn rc] :: Own LI (.slice ra rn rc) row :: Rdr w0 B m'' :: DOwn LWk DWk (.slice oa on oc) ys :: Ls)) (fun i _ => on - (intOf i).toNat)
      case atStart => exact ⟨0, m' + 1, [], none, 0, 0, by omega, rfl, (by show ([] : List Int).length ≤ 0; simp), by omega, S7⟩
      case round =>
        obtain ⟨j, m'', row, ra, rn, rc, hj, rfl, HR, hm'', S8⟩ := hrel
        clear S7
        by_cases hlt2 : j < on
        · have S9 := St.rot S8
          clear S8
          go_wp2_with fail
          refine (pick_s w0 B _ _ 3 _ S9 (by omega)).mono ?_
          rintro e w4 ⟨q, rfl, ⟨q0, q1, -⟩, S10⟩
          replace q1 := q1 (by omega)
          clear S9
          by_cases hq : q = 0
          · subst hq
            have S11 := St.swap S10
            have hc0 := St.locCell S11 0 _ rfl
            have hc1 := St.locCell S11 1 _ rfl
            have S12 := St.rot S10
            clear S10 S11
            go_wp2_with (at_builtin; refine wpList_app1 LI_info rfl _ _ rfl S12 (j : Int) #[.int .i64 j] rfl rfl rfl (by have := HR.out; omega) ?_; intro v' w5 S13; obtain ⟨a', n', c', rfl, -⟩ := (St.own S13).slice; have S14 := St.rot S13; have hd0 := St.locCell S14 0 _ rfl; have hd1 := St.locCell S14 1 _ rfl; have hdf := fun j => St.locFrozen S14 j; obtain ⟨hl1, hl2⟩ := St.locLt S14; have S15 := Lib.hid (St.locSet S14 1 (.slice a' n' c')); clear S12 S13 S14 hc0 hc1)
            have HR2 : RowKit.Hid ((row ++ [(j : Int)]).length ≤ j + 1) := by show _ ≤ _; have := HR.out; simp; omega
            go_roundw
            case rel => exact ⟨j + 1, _, _, _, _, _, by omega, by go_num, HR2, by omega, S15.out⟩
            case measure => simp [intOf]; omega
          · have S11 := St.rot (St.rot S10)
            clear S10
            have HR2 : RowKit.Hid (row.length ≤ j + 1) := by show _ ≤ _; have := HR.out; omega
            go_wp2
            go_roundw
            case rel => exact ⟨j + 1, _, _, _, _, _, by omega, by go_num, HR2, by omega, S11⟩
            case measure => simp [intOf]; omega
        · obtain rfl : j = on := by omega
          have hc0 := St.locCell S8 0 _ rfl
          have hc1 := St.locCell S8 1 _ rfl
          have S9 := St.rot (St.tail S8)
          have HA2 : RowKit.Hid (∀ y ∈ ys ++ [(⟨1 + t, row⟩ : Wk)], y.After.length ≤ 8) := by
            intro y hy
            rcases List.mem_append.1 hy with hy | hy
            · exact HA.out y hy
            · rw [List.mem_singleton] at hy
              subst hy
              have := HR.out
              show row.length ≤ 8
              omega
          have HX2 : RowKit.Hid ((ys ++ [(⟨1 + t, row⟩ : Wk)]).length + (k - 1) = K0) := by show _ = _; have := HX.out; simp; omega
          go_wp2_with (at_builtin; refine wpList_dwk1 (tt := 1 + t) LWk_info rfl _ _ rfl S9 rfl rfl (by omega) ?_; intro v' w5 S10; clear hc0 hc1)
          clear S8 S9
          go_roundw
          case rel => exact ⟨k - 1, m'', _, by omega, by rw [show (((k - 1 : Nat)) : Int) = (k : Int) - 1 by omega], HX2, HA2, by omega, S10⟩
          case measure => simp [intOf]; omega
    obtain rfl : k = 0 := by omega
    have hyl : ys.length = K0 := by have := HX.out; omega
    obtain ⟨o, rfl⟩ : ∃ o, o = u5 := ⟨_, rfl⟩
    obtain ⟨oa, on, oc, rfl, -, -, HON, -⟩ := (St.drds S4).get
    have hon : on ≤ 8 := by have := HON.out; omega
    have HYL := Lib.hid hyl
    have HL8 : RowKit.Hid (ys.length ≤ 8) := by show _ ≤ _; omega
    have HA9 : RowKit.Hid (∀ y ∈ ys, y.After.length ≤ 9) := fun y hy => Nat.le_trans (HA.out y hy) (by decide)
    clear hyl
    by_cases hz : on = 0
    · subst hz
      go_wp2
      go_ret
      exact ⟨_, ys, m', rfl, HL8.out, HA9.out, by omega, S4⟩
    have hon1 : 0 < on := by omega
    have hon2 : (0 : Int) < on := by omega
    have S5 := S4.swap
    clear S4
    go_wp2_with fail
    refine (odd_s w0 B _ _ n _ S5 (by omega) hn).mono ?_
    rintro e w2 ⟨od, rfl, S6⟩
    clear S5
    cases od with
    | false =>
      have S7 := S6.swap
      clear S6
      go_wp2
      go_ret
      exact ⟨_, ys, _, rfl, HL8.out, HA9.out, by omega, S7⟩
    | true =>
      go_wp2_with fail
      refine (pick_s w0 B _ _ (on : Int) _ S6 (by omega)).mono ?_
      rintro e w3 ⟨c, rfl, ⟨c0, c1, -⟩, S7⟩
      replace c1 := c1 (by omega)
      clear S6
      obtain ⟨K, rfl⟩ : ∃ K : Nat, c = (K : Int) := ⟨c.toNat, by omega⟩
      have hK : K < on := by omega
      clear c0 c1
      go_wp2_with fail
      refine (pick_s w0 B _ _ 2 _ S7 (by omega)).mono ?_
      rintro e w4 ⟨q, rfl, ⟨q0, q1, -⟩, S8⟩
      replace q1 := q1 (by omega)
      clear S7
      by_cases hq : q = 0
      · subst hq
        obtain ⟨⟨t, y⟩, hy⟩ : ∃ y, ys[K]? = some y := ⟨_, List.getElem?_eq_getElem (by rw [← HON.out]; exact hK)⟩
        have HY9 : RowKit.Hid (y.length ≤ 8) := HA.out _ (List.mem_of_getElem? hy)
        obtain ⟨HL, hHL⟩ : ∃ HL, HL = w4.heap.size := ⟨_, rfl⟩
        have S9 := (S8.loc #[.int .i64 0, .int .i64 101] 3).swap
        rw [← hHL] at S9
        have HHL := Lib.hid hHL
        clear S8 hHL
        go_wp2_with fail
        rw [← HHL.out]
        refine (pick_s w0 B _ _ 2 _ S9 (by omega)).mono ?_
        rintro e w5 ⟨r, rfl, ⟨r0, r1, -⟩, S10⟩
        replace r1 := r1 (by omega)
        clear S9
        have S11 := St.swap S10
        have hr2 : r.toNat < 2 := by omega
        have hlit := St.locCell S11 r.toNat _ (lit2 .i64 0 101 r.toNat hr2)
        obtain ⟨Z, hZ⟩ : ∃ Z, Z = sel [0, 101] r.toNat := ⟨_, rfl⟩
        rw [← hZ] at hlit
        have S12 := St.swap (St.tail S11)
        obtain ⟨g, rfl⟩ : ∃ g, oa = some ⟨g, 0, none⟩ := by
          obtain ⟨xs, _, S2⟩ := S12.unpack
          obtain ⟨F, ⟨h1, _⟩, _⟩ := S2.head
          rcases h1.form with ⟨hv, _⟩ | ⟨g, cap, cur, hv, _⟩
          · simp only [Value.slice.injEq] at hv; omega
          · simp only [Value.slice.injEq] at hv; exact ⟨g, hv.1⟩
        obtain ⟨ra, rn, rc, Ns, hc0, hc1, hf, -, -, -⟩ := St.dwkAt S12 K t y hy (g := g) rfl
        have S13 := Lib.hid (St.dwkTime S12 K t Z y hy (g := g) rfl)
        have HAF : RowKit.Hid (∀ z ∈ ys.set K ⟨Z, y⟩, z.After.length ≤ 9) := by
          intro z hzm
          rcases List.mem_or_eq_of_mem_set hzm with h | rfl
          · exact HA9.out z h
          · exact Nat.le_trans HY9.out (by decide)
        clear S10 S11 S12 hy hZ
        go_wp2
        go_ret
        exact ⟨_, _, _, rfl, by rw [List.length_set]; exact HL8.out, HAF.out, by omega, S13.out⟩
      · obtain rfl : q = 1 := by omega
        obtain ⟨⟨t, y⟩, hy⟩ : ∃ y, ys[K]? = some y := ⟨_, List.getElem?_eq_getElem (by rw [← HON.out]; exact hK)⟩
        have HY9 : RowKit.Hid (y.length ≤ 8) := HA.out _ (List.mem_of_getElem? hy)
        have S12 := St.swap S8
        obtain ⟨g, rfl⟩ : ∃ g, oa = some ⟨g, 0, none⟩ := by
          obtain ⟨xs, _, S2⟩ := S12.unpack
          obtain ⟨F, ⟨h1, _⟩, _⟩ := S2.head
          rcases h1.form with ⟨hv, _⟩ | ⟨g, cap, cur, hv, _⟩
          · simp only [Value.slice.injEq] at hv; omega
          · simp only [Value.slice.injEq] at hv; exact ⟨g, hv.1⟩
        obtain ⟨xs, ⟨t', ra, rn, rc⟩, R, hx, hl, S1, hre⟩ := St.focus S12 K _ hy
        obtain ⟨e0, S3⟩ := St.unpure S1
        dsimp only at e0
        subst e0
        obtain ⟨hkx, hxe⟩ := List.getElem?_eq_some_iff.1 hx
        have S14 : St w0 w4 (Rdr w0 B (m' + 1 + 1 + 1) :: Own LI (.slice ra rn rc) y :: Own LWk (.slice (some ⟨g, 0, none⟩) on oc) xs :: (R ++ Ls)) :=
          (St.moveOut (Ms := Own LI (.slice ra rn rc) y :: Own LWk (.slice (some ⟨g, 0, none⟩) on oc) xs :: R) (by simpa [Sl.val] using S3))
        have CELLS : RowKit.Hid (∀ w' P Ms, St w0 w' (P :: Own LI (.slice ra rn rc) y :: Own LWk (.slice (some ⟨g, 0, none⟩) on oc) xs :: Ms) → w'.cell? ⟨g, K * 2 + 1, none⟩ = some (.slice ra rn rc) ∧ ∀ j, w'.frozen? ⟨g, j, none⟩ = false) := fun w' P Ms Q =>
          ⟨St.ownCell (St.tail (St.tail Q)) (g := g) rfl K _ hx 1 _ rfl, fun j => St.ownFrozen (St.tail (St.tail Q)) (g := g) rfl j⟩
        have CELL2 : RowKit.Hid (∀ w' P Ms, St w0 w' (P :: Own LWk (.slice (some ⟨g, 0, none⟩) on oc) xs :: Ms) → w'.cell? ⟨g, K * 2 + 1, none⟩ = some (.slice ra rn rc) ∧ ∀ j, w'.frozen? ⟨g, j, none⟩ = false) := fun w' P Ms Q =>
          ⟨St.ownCell (St.tail Q) (g := g) rfl K _ hx 1 _ rfl, fun j => St.ownFrozen (St.tail Q) (g := g) rfl j⟩
        have FINI : RowKit.Hid (∀ (w' : World) (z : Int) (m2 : Nat) a' n' c', St w0 w' (Own LI (.slice a' n' c') (y ++ [z]) :: Own LWk (.slice (some ⟨g, 0, none⟩) on oc) xs :: (R ++ Rdr w0 B m2 :: Ls)) →
            St w0 (w'.setCell ⟨g, K * 2 + 1, none⟩ (.slice a' n' c')) (DOwn LWk DWk (.slice (some ⟨g, 0, none⟩) on oc) (ys.set K ⟨t', y ++ [z]⟩) :: Rdr w0 B m2 :: Ls)) := by
          intro w' z m2 a' n' c' Q
          have Q4 := (St.swap Q).setAt (g := g) rfl K 1 (t', (a', n', c')) (.slice a' n' c') hkx (by decide) (by rw [hxe]; rfl)
          exact hre _ _ (t', (a', n', c')) ⟨t', y ++ [z]⟩ _ rfl (St.pure rfl (St.swap Q4))
        obtain ⟨hcc, hff⟩ := CELLS.out _ _ _ S14
        have HXS := Lib.hid hx
        have SS := Lib.hid S14
        have hgl : g < w4.heap.size := cell_lt hcc
        obtain ⟨H, hH⟩ : ∃ H, H = w4.heap.size := ⟨_, rfl⟩
        have hrn8 : y.length ≤ 1000000000 := Nat.le_trans HY9.out (by decide)
        have SA : RowKit.Hid (St w0 ((w4.alloc (.cells #[.int .i64 (K : Int), .int .i64 (-1)] 3)).drew) (Rdr w0 B (m' + 1 + 1 + 1) :: Own LI (.slice ra rn rc) y :: Own LWk (.slice (some ⟨g, 0, none⟩) on oc) xs :: Loc w4.heap.size 3 #[.int .i64 (K : Int), .int .i64 (-1)] :: (R ++ Ls))) :=
          St.drew (St.perm (S14.loc #[.int .i64 (K : Int), .int .i64 (-1)] 3) (List.perm_middle (l₁ := [_, _, _])).symm)
        have HHH := Lib.hid hH
        have HAF : RowKit.Hid (∀ (z : Int), ∀ x ∈ ys.set K ⟨t', y ++ [z]⟩, x.After.length ≤ 9) := by
          intro z x hzm
          rcases List.mem_or_eq_of_mem_set hzm with h | rfl
          · exact HA9.out x h
          · have := HY9.out
            simp
            omega
        have RD : RowKit.Hid (∀ w' m2, St w0 w' (Rdr w0 B m2 :: Own LI (.slice ra rn rc) y :: Own LWk (.slice (some ⟨g, 0, none⟩) on oc) xs :: (R ++ Ls)) → St w0 w' (Own LI (.slice ra rn rc) y :: Own LWk (.slice (some ⟨g, 0, none⟩) on oc) xs :: (R ++ Rdr w0 B m2 :: Ls))) := fun w' m2 Q =>
          by simpa using (St.moveIn (Ms := Own LI (.slice ra rn rc) y :: Own LWk (.slice (some ⟨g, 0, none⟩) on oc) xs :: R) (by simpa using Q))
        clear S8 S12 S1 S3 S14 hre hx hl hxe hkx hy hH
        go_wp2_with fail
        go_region_law
          (first
            | (go_simp; go_at_call 47; (refine (pick_s w0 B _ _ 2 _ SA.out (by omega)).mono ?_); rintro e w5 ⟨r, rfl, ⟨r0, r1, -⟩, S20⟩; replace r1 := r1 (by omega); have r2 : r.toNat < 2 := (by omega); have hlit := St.locCell (St.rot (St.tail S20)) r.toNat _ (lit2 .i64 (K : Int) (-1) r.toNat r2); obtain ⟨hc5, hf5⟩ := CELLS.out _ _ _ S20; have hg5 := cell_lt hc5; have hd5 := gb_cell (row := none) (World.grownBy_alloc w5 (.cells #[.int .i64 (sel [(K : Int), -1] r.toNat)] 3) none) hc5 (by simp); have S22 := RD.out _ _ (St.tail (St.perm S20 (List.perm_middle (l₁ := [_, _, _])))); clear S20)
            | (go_simp; go_at_call 47; (refine (pick_s w0 B _ _ 2 _ SS.out.drew (by omega)).mono ?_); rintro e w5 ⟨r, rfl, ⟨r0, r1, -⟩, S21⟩; replace r1 := r1 (by omega); have r2 : r.toNat < 2 := (by omega); obtain ⟨hc5, hf5⟩ := CELLS.out _ _ _ S21; have hg5 := cell_lt hc5; have hd5 := gb_cell (row := none) (gb_alloc (World.grownBy_alloc w5 (.cells #[.int .i64 (K : Int), .int .i64 (-1)] 3) none) (.cells #[.int .i64 (sel [(K : Int), -1] r.toNat)] 3)) hc5 (by simp); have S22 := RD.out _ _ S21; clear S21)
            | (refine step_app1 LI_info rfl _ _ rfl (S22.alloc _) (sel [(K : Int), -1] r.toNat) ⟨w5.heap.size, 0, none⟩ #[.int .i64 (sel [(K : Int), -1] r.toNat)] rfl rfl rfl ⟨rfl, rfl, heap_alloc_at _ _ _ (by simp)⟩ hrn8 ?_; intro v6 w6 S23; obtain ⟨a', n', c', rfl, -⟩ := (St.own S23).slice; obtain ⟨hc6, hf6⟩ := CELL2.out _ _ _ S23; have S24 := Lib.hid (FINI.out _ _ _ _ _ _ S23); clear S23)
            | (refine step_app1 LI_info rfl _ _ rfl ((S22.alloc _).alloc _) (sel [(K : Int), -1] r.toNat) ⟨w5.heap.size + 1, 0, none⟩ #[.int .i64 (sel [(K : Int), -1] r.toNat)] rfl rfl rfl ⟨rfl, rfl, heap_alloc_at _ _ _ (by simp)⟩ hrn8 ?_; intro v6 w6 S23; obtain ⟨a', n', c', rfl, -⟩ := (St.own S23).slice; obtain ⟨hc6, hf6⟩ := CELL2.out _ _ _ S23; have S24 := Lib.hid (FINI.out _ _ _ _ _ _ S23); clear S23))
        all_goals
          go_wp2
          go_ret
          exact ⟨_, _, _, rfl, by rw [List.length_set]; exact HL8.out, HAF.out _, by omega, S24.out⟩
end Go.Proofs.Ythcacepkfdfbnaa
