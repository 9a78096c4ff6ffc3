/-
  The draw of an order: some list of as many numbers as there are stops.
-/
import Derived.Test.YthkleabdnjhniaaIntS
import Derived.Test.YthkleabdnjhniaaLoc
import Derived.Test.YthkleabdnjhniaaDeep
import Derived.Deep.RegionLaw
import Derived.BigRegion
namespace Go.Proofs.Ythkleabdnjhniaa
open Go Go.RowKit
section
variable {α : Type} {L : Lay α} {w0 w : World} {xs : List α} {Ls : List Asr}
/-- What is not empty lies in a block. -/
theorem St.ownBlk {v : Value} (h : St w0 w (Own L v xs :: Ls)) (hne : 0 < xs.length) : ∃ g cap, v = .slice (some ⟨g, 0, none⟩) xs.length cap ∧ xs.length ≤ cap ∧ cap ≤ 9223372036854775807 := by
  obtain ⟨F, ⟨h1, _⟩, _⟩ := h.head
  rcases h1.form with ⟨_, rfl⟩ | ⟨g, cap, cur, hv, hn, hm, _⟩
  · simp at hne
  · exact ⟨g, cap, hv, hn, by unfold maxLen at hm; omega⟩
/-- A shorter part of a row of the call's own, in the same block. -/
theorem St.ownTake {g n cap : Nat} (h : St w0 w (Own L (.slice (some ⟨g, 0, none⟩) n cap) xs :: Ls)) (k : Nat) (hk : k ≤ n) : St w0 w (Own L (.slice (some ⟨g, 0, none⟩) k cap) (xs.take k) :: Ls) := by
  refine h.mono (fun F hF => ?_)
  obtain ⟨h1, h2⟩ := hF
  refine ⟨?_, by rw [← h2]; rfl⟩
  rcases h1.form with ⟨hv, _⟩ | ⟨g', cap', cur, hv, hn, hm, hg, hs, ht⟩
  · simp at hv
  · simp only [Value.slice.injEq, Option.some.injEq, Addr.mk.injEq, and_true] at hv
    obtain ⟨rfl, rfl, rfl⟩ := hv
    unfold OwnAt
    have hl : (xs.take k).length = k := by rw [List.length_take]; omega
    refine ⟨by rw [L.flat_len], .inr ⟨g, cap, cur, by rw [hl], Nat.zero_le _, hg, by omega, hm, hs, ?_⟩⟩
    have e : L.flat xs = L.flat (xs.take k) ++ L.flat (xs.drop k) := by rw [← L.flat_append, List.take_append_drop]
    have e2 : (L.flat (xs.take k)).length = k * L.s := by rw [L.flat_len, hl]
    have e3 : cur.toList.take (k * L.s) = (cur.toList.take (xs.length * L.s)).take (k * L.s) := by
      rw [List.take_take, Nat.min_eq_left (Nat.mul_le_mul_right _ hk)]
    rw [hl, e3, ht, e, ← e2, List.take_left]
end
theorem list_sel3 (a b c : Int) (n : Nat) (h : n < 3) : ([.int .i64 a, .int .i64 b, .int .i64 c] : List Value)[n]'(by simpa using h) = .int .i64 (sel [a, b, c] n) := by
  match n, h with
  | 0, _ => rfl
  | 1, _ => rfl
  | 2, _ => rfl
def OrdQ (w0 : World) (B m many : Nat) (Ls : List Asr) (e : Ending) (w' : World) : Prop :=
  ∃ (v : Value) (os : List Int) (m' : Nat), e = .returned v ∧ os.length = many ∧ m' ≤ m + 100 ∧ St w0 w' (Own LI v os :: Rdr w0 B m' :: Ls)
set_option maxRecDepth 100000 in
set_option maxHeartbeats 8000000 in
theorem orderD_s (w0 : World) (B m : Nat) (Ls : List Asr) (many : Nat) (n : Int) (w : World) (S : St w0 w (Rdr w0 B m :: Ls)) (hm : m ≤ 900000) (hn : n ≤ 1000000) (h1 : many ≤ 20) :
    Calls Try.prog 52 #[.pointer (some ⟨B, 0, none⟩), .int .i64 (many : Int), .int .i64 n] w (OrdQ w0 B m many Ls) := by
  have S1 : St w0 (w.alloc (.cells #[] 3)) (Own LI (.slice (some ⟨w.heap.size, 0, none⟩) 0 0) [] :: Rdr w0 B m :: Ls) := S.ownEmpty LI
  clear S
  go_enter Try.func52, Try.ntmps52
  go_wp2
  go_loopw [7, 8, 9, 10] (fun o i _ _ wr => ∃ (k m' g cap : Nat) (os : List Int), k ≤ many ∧ i = .int .i64 k ∧ o = .slice (some ⟨g, 0, none⟩) k cap ∧ k ≤ cap ∧ cap ≤ 9223372036854775807 ∧ RowKit.Hid (os.length = k) ∧ m' ≤ m + k ∧ St w0 wr (Own LI (.slice (some ⟨g, 0, none⟩) k cap) os :: Rdr w0 B m' :: Ls)) (fun _ i _ _ _ => many - (intOf i).toNat)
  case atStart => exact ⟨0, m, _, 0, [], by omega, rfl, rfl, by omega, by omega, rfl, by omega, S1⟩
  case round =>
    obtain ⟨k, m', g, cap, os, hk, rfl, rfl, hkc, hcm, HL, hm', S⟩ := hrel
    clear S1
    by_cases hlt : k < many
    · have S2 := S.swap
      clear S
      go_wp2_with fail
      refine (pick_s w0 B _ _ ((k : Int) + 1) _ S2 (by omega)).mono ?_
      rintro e w4 ⟨at_, rfl, ⟨a0, a1, -⟩, S3⟩
      replace a1 := a1 (by omega)
      obtain ⟨A, rfl⟩ := Int.eq_ofNat_of_zero_le a0
      have hA : A ≤ k := by omega
      have hAi : (A : Int) ≤ (k : Int) := by omega
      have hAc : A ≤ cap := by omega
      have S4 := S3.swap
      clear S2 S3
      have S5 : St w0 (w4.alloc (.cells #[] 3)) (Own LI (.slice (some ⟨w4.heap.size, 0, none⟩) 0 0) [] :: Own LI (.slice (some ⟨g, 0, none⟩) k cap) os :: Rdr w0 B (m' + 1) :: Ls) := S4.ownEmpty LI
      have R5 : Rds LI (w4.alloc (.cells #[] 3)) (.slice (if cap = A then some ⟨g, 0, none⟩ else some ⟨g, A, none⟩) (k - A) (cap - A)) (os.drop A) := by
        split
        · have e : os.drop A = [] := List.drop_eq_nil_of_le (by have := HL.out; omega)
          have e2 : k - A = 0 := by omega
          rw [e, e2]
          exact ⟨_, _, rfl, by simp, by unfold maxLen; omega, .inl rfl⟩
        · have := (St.own (St.tail S5)).drop A hA
          rw [show LI.s = 1 from rfl, Nat.mul_one, Nat.zero_add] at this
          exact this
      have hdl : ([] : List Int).length + (os.drop A).length ≤ 1099511627776 := by have := HL.out; simp; omega
      have hkl : (os.take A).length ≤ 1000000000 := by have := HL.out; simp; omega
      have hal : (os.take A ++ [(k : Int)]).length + (os.drop A).length ≤ 1099511627776 := by have := HL.out; simp; omega
      have NL : RowKit.Hid ((os.take A ++ [(k : Int)] ++ os.drop A).length = k + 1) := by show _ = _; have := HL.out; simp; omega
      clear S4
      go_wp2_with (first
        | (at_builtin; refine wpList_appR LI_info rfl _ _ rfl S5 (os.drop A) _ R5 rfl rfl hdl ?_; intro v6 w6 S6; have S7 := St.ownTake (St.swap S6) A hA; rw [List.nil_append] at S7; clear S5 R5 S6)
        | (at_builtin; refine wpList_app1 LI_info rfl _ _ rfl S7 (k : Int) #[.int .i64 k] rfl rfl rfl hkl ?_; intro v8 w8 S8; clear S7)
        | (at_builtin; refine wpList_appR LI_info rfl _ _ rfl S8 (os.drop A) _ (St.own (St.tail S8)) rfl rfl hal ?_; intro v9 w9 S9; clear S8))
      obtain ⟨g2, cap2, rfl, hc1, hc2⟩ := S9.ownBlk (by rw [NL.out]; omega)
      have S10 := St.tail (St.swap S9)
      rw [NL.out] at S10 hc1
      clear S9
      go_roundw
      case rel => exact ⟨k + 1, m' + 1, g2, cap2, _, by omega, by go_num, by rw [NL.out], hc1, hc2, NL, by omega, S10⟩
      case measure => (simp [intOf]; try omega)
    obtain rfl : k = many := by omega
    by_cases hk0 : k = 0
    · subst hk0
      go_wp2
      go_ret
      exact ⟨_, os, m', rfl, HL.out, by omega, S⟩
    have hk1 : (0 : Int) < (k : Int) := by omega
    go_wp2_with fail
    refine (odd_s w0 B _ _ n _ S.swap (by omega) hn).mono ?_
    rintro e w4 ⟨od, rfl, S7⟩
    clear S
    cases od with
    | false =>
      have S8 := S7.swap
      clear S7
      go_wp2
      go_ret
      exact ⟨_, os, m' + 1, rfl, HL.out, by omega, S8⟩
    | true =>
      have hkn : 0 < k := by omega
      obtain ⟨x0, hx0⟩ : ∃ x, os[0]? = some x := ⟨_, List.getElem?_eq_getElem (by rw [HL.out]; exact hkn)⟩
      have CELL : RowKit.Hid (∀ (w' : World) (Ms : List Asr) (V : Nat), V < k → St w0 w' (Own LI (.slice (some ⟨g, 0, none⟩) k cap) os :: Ms) → w'.cell? ⟨g, V, none⟩ = some (.int .i64 (os.getD V 0)) ∧ w'.frozen? ⟨g, V, none⟩ = false ∧ g < w'.heap.size) := by
        intro w' Ms V hV Q
        have hc := St.ownCell Q (g := g) rfl V (os.getD V 0) (by rw [List.getD_eq_getElem?_getD, List.getElem?_eq_getElem (by rw [HL.out]; exact hV)]; rfl) 0 _ rfl
        rw [show LI.s = 1 from rfl, Nat.mul_one, Nat.add_zero] at hc
        exact ⟨hc, St.ownFrozen Q rfl V, cell_lt hc⟩
      have hx0' : os.getD 0 0 = x0 := by rw [List.getD_eq_getElem?_getD, hx0]; rfl
      have CELL0 : RowKit.Hid (∀ (w' : World) (Ms : List Asr), St w0 w' (Own LI (.slice (some ⟨g, 0, none⟩) k cap) os :: Ms) → w'.cell? ⟨g, 0, none⟩ = some (.int .i64 x0)) := fun w' Ms Q => by rw [← hx0']; exact (CELL.out w' Ms 0 hkn Q).1
      have c0 := CELL0.out _ _ (St.tail S7)
      have hg4 := (CELL.out _ _ 0 hkn (St.tail S7)).2.2
      have SS := Lib.hid S7.drew
      have SA : RowKit.Hid (St w0 ((w4.alloc (.cells #[.int .i64 (-1), .int .i64 (k : Int), .int .i64 x0] 3)).drew) (Rdr w0 B (m' + 1) :: Own LI (.slice (some ⟨g, 0, none⟩) k cap) os :: Loc w4.heap.size 3 #[.int .i64 (-1), .int .i64 (k : Int), .int .i64 x0] :: Ls)) :=
        St.drew (St.perm (S7.loc #[.int .i64 (-1), .int .i64 (k : Int), .int .i64 x0] 3) (List.perm_middle (l₁ := [_, _])).symm)
      have FIN : RowKit.Hid (∀ (w' : World) (V m2 : Nat) (z : Int), V < k → St w0 w' (Rdr w0 B m2 :: Own LI (.slice (some ⟨g, 0, none⟩) k cap) os :: Ls) → St w0 (w'.setCell ⟨g, V, none⟩ (.int .i64 z)) (Own LI (.slice (some ⟨g, 0, none⟩) k cap) (os.set V z) :: Rdr w0 B m2 :: Ls)) := fun w' V m2 z hV Q =>
        LI_set (St.swap Q) (g := g) rfl V z (by rw [HL.out]; exact hV)
      clear S7 hx0 hx0'
      go_wp2_with fail
      go_region_law
        (go_simp; go_at_call 62; first
          | ((with_reducible refine (pick_s w0 B _ _ 3 _ SX.out (by omega)).mono ?_); rintro e w6 ⟨r2, rfl, ⟨q0, q1, -⟩, S9⟩; replace q1 := q1 (by omega); obtain ⟨V2, rfl⟩ := Int.eq_ofNat_of_zero_le q0; have hV2 : V2 < 3 := (by omega); have hl3 := lit3 .i64 (-1) (k : Int) x0 V2 hV2; have S10 := LL.out _ _ S9; obtain ⟨d1, d2, d3⟩ := CELL.out _ _ V1 hV1 (St.tail S10); have d0 := CELL0.out _ _ (St.tail S10); have hlit := LC.out _ _ V2 _ hl3 S9; have S11 := Lib.hid (FIN.out _ V1 _ (sel [-1, (k : Int), x0] V2) hV1 S10); clear S9 S10)
          | ((with_reducible refine (pick_s w0 B _ _ (k : Int) _ SA.out (by omega)).mono ?_); rintro e w5 ⟨r1, rfl, ⟨p0, p1, -⟩, S8⟩; replace p1 := p1 (by omega); obtain ⟨V1, rfl⟩ := Int.eq_ofNat_of_zero_le p0; have hV1 : V1 < k := (by omega); obtain ⟨b1, b2, b3⟩ := CELL.out _ _ V1 hV1 (St.tail S8); have b0 := CELL0.out _ _ (St.tail S8); have SX := Lib.hid S8; have LL : RowKit.Hid (∀ w' m2, St w0 w' (Rdr w0 B m2 :: Own LI (.slice (some ⟨g, 0, none⟩) k cap) os :: Loc w4.heap.size 3 #[.int .i64 (-1), .int .i64 (k : Int), .int .i64 x0] :: Ls) → St w0 w' (Rdr w0 B m2 :: Own LI (.slice (some ⟨g, 0, none⟩) k cap) os :: Ls)) := (fun w' m2 Q => St.tail (St.rot Q)); have LC : RowKit.Hid (∀ w' m2 j u, (#[.int .i64 (-1), .int .i64 (k : Int), .int .i64 x0] : Array Value)[j]? = some u → St w0 w' (Rdr w0 B m2 :: Own LI (.slice (some ⟨g, 0, none⟩) k cap) os :: Loc w4.heap.size 3 #[.int .i64 (-1), .int .i64 (k : Int), .int .i64 x0] :: Ls) → w'.cell? ⟨w4.heap.size, j, none⟩ = some u) := (fun w' m2 j u hu Q => St.locCell (St.rot Q) j u hu); clear S8)
          | ((with_reducible refine (pick_s w0 B _ _ (k : Int) _ SS.out (by omega)).mono ?_); rintro e w5 ⟨r1, rfl, ⟨p0, p1, -⟩, S8⟩; replace p1 := p1 (by omega); obtain ⟨V1, rfl⟩ := Int.eq_ofNat_of_zero_le p0; have hV1 : V1 < k := (by omega); obtain ⟨b1, b2, b3⟩ := CELL.out _ _ V1 hV1 (St.tail S8); have b0 := CELL0.out _ _ (St.tail S8); have SY := Lib.hid S8; have SZ := Lib.hid (St.perm (S8.loc #[.int .i64 (-1), .int .i64 (k : Int), .int .i64 x0] 3) (List.perm_middle (l₁ := [_, _])).symm); clear S8)
          | ((with_reducible refine (pick_s w0 B _ _ 3 _ SY.out (by omega)).mono ?_); rintro e w6 ⟨r2, rfl, ⟨q0, q1, -⟩, S10⟩; replace q1 := q1 (by omega); obtain ⟨V2, rfl⟩ := Int.eq_ofNat_of_zero_le q0; have hV2 : V2 < 3 := (by omega); have hl3 := list_sel3 (-1) (k : Int) x0 V2 hV2; obtain ⟨d1, d2, d3⟩ := CELL.out _ _ V1 hV1 (St.tail S10); have d0 := CELL0.out _ _ (St.tail S10); have d4 := gb_cell (World.grownBy_alloc w6 (.cells #[.int .i64 (-1), .int .i64 (k : Int), .int .i64 x0] 3) none) d1 (by simp); have d5 := gb_frozen (World.grownBy_alloc w6 (.cells #[.int .i64 (-1), .int .i64 (k : Int), .int .i64 x0] 3) none) d3 d2 (by simp); have S11 := Lib.hid (FIN.out _ V1 _ (sel [-1, (k : Int), x0] V2) hV1 S10); clear S10)
          | ((with_reducible refine (pick_s w0 B _ _ 3 _ SZ.out (by omega)).mono ?_); rintro e w6 ⟨r2, rfl, ⟨q0, q1, -⟩, S9⟩; replace q1 := q1 (by omega); obtain ⟨V2, rfl⟩ := Int.eq_ofNat_of_zero_le q0; have hV2 : V2 < 3 := (by omega); have hl3 := lit3 .i64 (-1) (k : Int) x0 V2 hV2; have hlit := St.locCell (St.rot S9) V2 _ hl3; have S10 := St.tail (St.rot S9); obtain ⟨d1, d2, d3⟩ := CELL.out _ _ V1 hV1 (St.tail S10); have d0 := CELL0.out _ _ (St.tail S10); have d4 := gb_cell (World.grownBy_alloc w6 (.cells #[.int .i64 (-1), .int .i64 (k : Int), .int .i64 x0] 3) none) d1 (by simp); have d5 := gb_frozen (World.grownBy_alloc w6 (.cells #[.int .i64 (-1), .int .i64 (k : Int), .int .i64 x0] 3) none) d3 d2 (by simp); have S11 := Lib.hid (FIN.out _ V1 _ (sel [-1, (k : Int), x0] V2) hV1 S10); clear S9 S10))
      all_goals
        go_wp2
        go_ret
        exact ⟨_, os.set V1 (sel [-1, (k : Int), x0] V2), m' + 1 + 1 + 1, rfl, by rw [List.length_set]; exact HL.out, by omega, by first | exact S11.out | exact S11.out.alloc _⟩
end Go.Proofs.Ythkleabdnjhniaa
