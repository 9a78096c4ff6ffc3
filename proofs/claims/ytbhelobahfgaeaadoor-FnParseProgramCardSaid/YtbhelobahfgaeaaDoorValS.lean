/-
  spec.l20Value.
-/
import Derived.Test.YtbhelobahfgaeaaDoorReadLaw
namespace Go.Proofs.YtbhelobahfgaeaaDoor
open Go Go.RowKit
set_option linter.unusedVariables false
def dig10 : Nat → List UInt8 → Option Nat
  | acc, [] => some acc
  | acc, c :: r => if 48 ≤ c.toNat ∧ c.toNat ≤ 57 then dig10 (10 * acc + (c.toNat - 48)) r else none
def numS (l : List UInt8) : Option Nat := if l = [] ∨ 5 < l.length then none else dig10 0 l
/-- What spec.l20Value reads; none: not a number of at most five digits. -/
def valS (l : List UInt8) : Option Int :=
  if 1 < l.length ∧ l[0]? = some 45 then (numS (l.drop 1)).map (fun n : Nat => -(n : Int)) else (numS l).map (fun n : Nat => (n : Int))
theorem dig10_app : ∀ (l m : List UInt8) (acc : Nat), dig10 acc (l ++ m) = (dig10 acc l).bind (fun v => dig10 v m)
  | [], m, acc => rfl
  | c :: r, m, acc => by
    rw [List.cons_append, dig10, dig10]
    split
    · exact dig10_app r m _
    · rfl
theorem dig10_dec : ∀ u : Nat, dig10 0 (Lib.decDigits u) = some u := by
  intro u
  induction u using Nat.strongRecOn with
  | ind u ih =>
    have one : ∀ acc d, d < 10 → dig10 acc [dgt d] = some (10 * acc + d) := by
      intro acc d h
      have e := dgt_toNat h
      rw [dig10, if_pos (by omega), dig10, e]
      congr 1
      omega
    by_cases h : u < 10
    · rw [dec_small h, one 0 u h]
      congr 1
      omega
    · rw [dec_big h, dig10_app, ih (u / 10) (by omega), Option.bind_some, one _ _ (by omega)]
      congr 1
      omega
theorem dec_len5 {u : Nat} (h : u < 100000) : (Lib.decDigits u).length ≤ 5 := by
  have s1 : ∀ v : Nat, v < 10 → (Lib.decDigits v).length ≤ 1 := fun v hv => by rw [dec_small hv]; simp
  have st : ∀ (m k : Nat), (∀ v : Nat, v < m → (Lib.decDigits v).length ≤ k) → 1 ≤ k → ∀ v : Nat, v < m * 10 → (Lib.decDigits v).length ≤ k + 1 := by
    intro m k ih hk v hv
    by_cases h : v < 10
    · have := s1 v h; omega
    · rw [dec_big h, List.length_append]
      have := ih (v / 10) (by omega)
      simp only [List.length_cons, List.length_nil]
      omega
  exact st 10000 4 (st 1000 3 (st 100 2 (st 10 1 s1 (by omega)) (by omega)) (by omega)) (by omega) u h
theorem numS_dec {u : Nat} (h : u < 100000) : numS (Lib.decDigits u) = some u := by
  unfold numS
  rw [if_neg (by rintro (e | e); exact dec_ne u e; have := dec_len5 h; omega), dig10_dec]
theorem valS_itoa (n : Int) (hn : -10000 ≤ n ∧ n ≤ 10000) : valS (Lib.itoa n) = some n := by
  unfold valS Lib.itoa
  by_cases h : n < 0
  · rw [if_pos h]
    have hl : 1 ≤ (Lib.decDigits n.natAbs).length := by
      cases hd : Lib.decDigits n.natAbs with
      | nil => exact absurd hd (dec_ne _)
      | cons c r => simp
    rw [if_pos ⟨by simp; omega, by simp⟩, List.drop_one, List.tail_cons, numS_dec (by omega)]
    show some (-((n.natAbs : Nat) : Int)) = some n
    congr 1
    omega
  · rw [if_neg h]
    have h0 : ¬ (Lib.decDigits n.toNat)[0]? = some 45 := by
      intro e
      have := dec_digits n.toNat 45 (List.mem_of_getElem? e)
      have h45 : (45 : UInt8).toNat = 45 := rfl
      omega
    rw [if_neg (fun e => h0 e.2), numS_dec (by omega)]
    show some ((n.toNat : Nat) : Int) = some n
    congr 1
    omega
theorem dig10_le : ∀ (l : List UInt8) (acc v : Nat), dig10 acc l = some v → v + 1 ≤ (acc + 1) * 10 ^ l.length
  | [], acc, v, h => by
    rw [dig10] at h
    obtain rfl := Option.some.inj h
    simp
  | c :: r, acc, v, h => by
    rw [dig10] at h
    split at h
    · have := dig10_le r _ v h
      rw [List.length_cons, Nat.pow_succ, Nat.mul_comm (10 ^ r.length) 10, ← Nat.mul_assoc]
      refine Nat.le_trans this (Nat.mul_le_mul_right _ ?_)
      omega
    · cases h
theorem take_snocB (s : ByteArray) (k : Nat) (h : k < s.size) : s.data.toList.take (k + 1) = s.data.toList.take k ++ [s[k]] := by
  rw [List.take_succ_eq_append_getElem (by simpa using h)]
  rfl
def ValQ (w : World) (o : Option Int) (e : Ending) (w' : World) : Prop := (e = .returned (match o with | some n => .tuple #[.int .i64 n, .bool true] | none => .tuple #[.int .i64 0, .bool false])) ∧ w' = w
theorem valS_cases (s : ByteArray) : (valS s.data.toList = none ∧ ((1 < s.size ∧ s.data.toList[0]? = some 45 ∧ 6 < s.size) ∨ (s.size = 0) ∨ (¬ s.data.toList[0]? = some 45 ∧ 5 < s.size))) ∨
    (∃ T : ByteArray, T = s.extract 1 s.size ∧ T.size = s.size - 1 ∧ (1 < s.size ∧ s.size ≤ 6 ∧ s.data.toList[0]? = some 45) ∧ valS s.data.toList = (dig10 0 T.data.toList).map (fun n : Nat => (-1) * (n : Int))) ∨
    (1 ≤ s.size ∧ s.size ≤ 5 ∧ ¬ (1 < s.size ∧ s.data.toList[0]? = some 45) ∧ valS s.data.toList = (dig10 0 s.data.toList).map (fun n : Nat => 1 * (n : Int))) := by
  have hl : s.data.toList.length = s.size := rfl
  unfold valS
  by_cases hm : 1 < s.data.toList.length ∧ s.data.toList[0]? = some 45
  · rw [if_pos hm]
    by_cases h6 : 6 < s.size
    · refine Or.inl ⟨?_, Or.inl ⟨by omega, hm.2, h6⟩⟩
      unfold numS
      rw [if_pos (Or.inr (by rw [List.length_drop]; omega))]
      rfl
    · refine Or.inr (Or.inl ⟨_, rfl, by rw [ByteArray.size_extract]; omega, ⟨by omega, by omega, hm.2⟩, ?_⟩)
      have e : (s.extract 1 s.size).data.toList = s.data.toList.drop 1 := by
        simp only [ByteArray.data_extract, Array.toList_extract, List.extract]
        rw [List.take_of_length_le (by rw [List.length_drop, hl]; omega)]
      unfold numS
      rw [if_neg (by rintro (h | h); have := congrArg List.length h; simp at this; omega; rw [List.length_drop] at h; omega), e]
      congr 1
      funext n
      omega
  · rw [if_neg hm]
    by_cases h0 : s.size = 0
    · refine Or.inl ⟨?_, Or.inr (Or.inl h0)⟩
      have : s.data.toList = [] := List.length_eq_zero_iff.1 (by omega)
      rw [this]
      rfl
    · by_cases h5 : 5 < s.size
      · refine Or.inl ⟨?_, Or.inr (Or.inr ⟨fun h => hm ⟨by omega, h⟩, h5⟩)⟩
        unfold numS
        rw [if_pos (Or.inr (by omega))]
        rfl
      · refine Or.inr (Or.inr ⟨by omega, by omega, fun h => hm h, ?_⟩)
        unfold numS
        rw [if_neg (by rintro (h | h); have := congrArg List.length h; simp only [List.length_nil] at this; omega; omega)]
        congr 1
        funext n
        omega
theorem byte0 {s : ByteArray} {b : UInt8} (h : s.data.toList[0]? = some b) (h0 : 0 < s.size) : s[0] = b := by
  rw [List.getElem?_eq_getElem (by simpa using h0)] at h
  exact Option.some.inj h
theorem byte0n {s : ByteArray} {b : UInt8} (h : ¬ s.data.toList[0]? = some b) (h0 : 0 < s.size) : ¬ s[0] = b := by
  intro e
  rw [List.getElem?_eq_getElem (by simpa using h0)] at h
  exact h (congrArg some e)
theorem byteI {b : UInt8} (h : ¬ b = 45) : ((b.toNat : Int) == 45) = false := by
  refine beq_eq_false_iff_ne.2 (fun e => h ?_)
  exact UInt8.toNat_inj.1 (by show b.toNat = 45; omega)
theorem byteY {b : UInt8} (h : b = 45) : ((b.toNat : Int) == 45) = true := by
  subst h; rfl
def RETV (s : ByteArray) (w : World) : Prop := ValQ w (valS s.data.toList) (.returned (.tuple #[.int .i64 0, .bool false])) w
theorem dig_split (T : ByteArray) (k acc : Nat) (h : k < T.size) (ha : dig10 0 (T.data.toList.take k) = some acc) : dig10 0 (T.data.toList.take (k + 1)) = dig10 acc [T[k]] := by
  rw [take_snocB T k h, dig10_app, ha]
  rfl
theorem dig_step (T : ByteArray) (k acc : Nat) (h : k < T.size) (ha : dig10 0 (T.data.toList.take k) = some acc) (hd : 48 ≤ (T[k].toNat : Int) ∧ (T[k].toNat : Int) ≤ 57) : dig10 0 (T.data.toList.take (k + 1)) = some (10 * acc + (T[k].toNat - 48)) := by
  rw [dig_split T k acc h ha, dig10, if_pos (by omega)]
  rfl
theorem dig_stop (T : ByteArray) (k acc : Nat) (h : k < T.size) (ha : dig10 0 (T.data.toList.take k) = some acc) (hd : ¬ (48 ≤ (T[k].toNat : Int) ∧ (T[k].toNat : Int) ≤ 57)) : dig10 0 T.data.toList = none := by
  rw [← List.take_append_drop (k + 1) T.data.toList, dig10_app, dig_split T k acc h ha, dig10, if_neg (by omega)]
  rfl
set_option maxRecDepth 20000 in
set_option maxHeartbeats 400000 in
theorem value_s (s : ByteArray) (w : World) (hs : s.size ≤ 4294967200) : Calls Tryd.prog 50 #[.string s] w (ValQ w (valS s.data.toList)) := by
  rcases valS_cases s with ⟨hv, hc⟩ | ⟨T, hT, hTs, hm, hv⟩ | ⟨h1, h2, hm, hv⟩
  · have FN : RowKit.Hid (ValQ w (valS s.data.toList) (.returned (.tuple #[.int .i64 0, .bool false])) w) := by rw [hv]; exact ⟨rfl, rfl⟩
    clear hv
    rcases hc with ⟨h1, h2, h3⟩ | h | ⟨h2, h3⟩
    · have h0 := byteY (byte0 h2 (by omega))
      go_enter Tryd.func50, Tryd.ntmps50
      go_wp2
      all_goals first | (exact bodyPost_ret (v := .tuple #[.int .i64 0, .bool false]) (by simp [results, Tryd.results50, go_sem]) rfl FN.out) | (exfalso; rename_i hx; rcases hx with ⟨hx, hy⟩; simp at hx; omega) | (exfalso; simp_all; done) | (exfalso; simp_all; omega)
    · go_enter Tryd.func50, Tryd.ntmps50
      go_wp2
      all_goals first | (exact bodyPost_ret (v := .tuple #[.int .i64 0, .bool false]) (by simp [results, Tryd.results50, go_sem]) rfl FN.out) | (exfalso; rename_i hx; rcases hx with ⟨hx, hy⟩; simp at hx; omega) | (exfalso; simp_all; done) | (exfalso; simp_all; omega)
    · have h0 := byteI (byte0n h2 (by omega))
      go_enter Tryd.func50, Tryd.ntmps50
      go_wp2
      all_goals first | (exact bodyPost_ret (v := .tuple #[.int .i64 0, .bool false]) (by simp [results, Tryd.results50, go_sem]) rfl FN.out) | (exfalso; rename_i hx; rcases hx with ⟨hx, hy⟩; simp at hx; omega) | (exfalso; simp_all; done) | (exfalso; simp_all; omega)
  · obtain ⟨hsz1, hsz, hm0⟩ := hm
    have h0 := byteY (byte0 hm0 (by omega))
    have VAL : RowKit.Hid (valS s.data.toList = (dig10 0 T.data.toList).map (fun n : Nat => (-1) * (n : Int))) := hv
    have HT1 := Lib.hid (show 1 ≤ T.size by omega)
    have HT5 := Lib.hid (show T.size ≤ 5 by omega)
    replace hT := Lib.hid hT.symm
    clear hv hTs
    go_enter Tryd.func50, Tryd.ntmps50
    go_wp2
    any_goals (exfalso; rename_i hx; rcases hx with hx | hx; (have := eq_of_beq hx; omega); omega)
    rw [hT.out]
    obtain ⟨sg, hsg⟩ : ∃ sg : Int, sg = -1 := ⟨_, rfl⟩
    have SG : RowKit.Hid (sg = -1 ∨ sg = 1) := Or.inl hsg
    rw [← hsg] at VAL ⊢
    clear hT hsg h0 hm0
    go_loop [2, 3, 5, 6] (fun _ _ n i => ∃ k acc : Nat, k ≤ T.size ∧ i = .int .i64 (k : Int) ∧ n = .int .i64 (acc : Int) ∧ RowKit.Hid (dig10 0 (T.data.toList.take k) = some acc)) (fun _ _ _ i => T.size - (intOf i).toNat)
    case atStart => exact ⟨0, 0, by omega, rfl, rfl, rfl⟩
    case round =>
      obtain ⟨k, acc, hk, rfl, rfl, HA⟩ := hrel
      have ht5 := HT5.out
      have hacc : acc ≤ 100000 := by
        have h1 := dig10_le _ _ _ HA.out
        have h2 : (List.take k T.data.toList).length ≤ 5 := Nat.le_trans (List.length_take_le _ _) (by omega)
        have h3 : 10 ^ (List.take k T.data.toList).length ≤ 10 ^ 5 := Nat.pow_le_pow_right (by omega) h2
        omega
      by_cases hlt : k < T.size
      · have hc256 : T[k].toNat < 256 := UInt8.toNat_lt _
        have HS := Lib.hid (dig_step T k acc hlt HA.out)
        have HN := Lib.hid (dig_stop T k acc hlt HA.out)
        have VN : RowKit.Hid (dig10 0 T.data.toList = none → ValQ w (valS s.data.toList) (.returned (.tuple #[.int .i64 0, .bool false])) w) := by
          intro h
          rw [VAL.out, h]
          exact ⟨rfl, rfl⟩
        clear HA
        go_wp2
        all_goals first
          | exact bodyPost_ret (v := .tuple #[.int .i64 0, .bool false]) (by simp [results, Tryd.results50, go_sem]) rfl (VN.out (HN.out (by omega)))
          | (refine ⟨⟨_, _, _, _, ⟨k + 1, by omega, by go_num, 10 * acc + (T[k].toNat - 48), by congr 1; omega, HS.out (by omega)⟩, rfl, rfl, rfl, rfl⟩, ?_⟩
             simp [intOf]; omega)
      · obtain rfl : k = T.size := by omega
        have VY : RowKit.Hid (ValQ w (valS s.data.toList) (.returned (.tuple #[.int .i64 (sg * (acc : Int)), .bool true])) w) := by
          have h := HA.out
          rw [List.take_of_length_le (Nat.le_refl T.size)] at h
          show ValQ _ _ _ _
          rw [VAL.out, h]
          exact ⟨rfl, rfl⟩
        have sg2 := SG.out
        clear VAL HA SG
        rcases sg2 with rfl | rfl
        · go_wp2
          exact bodyPost_ret (v := .tuple #[.int .i64 (-1 * (acc : Int)), .bool true]) (by simp [results, Tryd.results50, go_sem]) rfl VY.out
        · go_wp2
          exact bodyPost_ret (v := .tuple #[.int .i64 (1 * (acc : Int)), .bool true]) (by simp [results, Tryd.results50, go_sem]) rfl VY.out
  · have VAL : RowKit.Hid (valS s.data.toList = (dig10 0 s.data.toList).map (fun n : Nat => 1 * (n : Int))) := hv
    have HT5 := Lib.hid h2
    have HQ : RowKit.Hid (1 < s.size → ¬ s.data.toList[0]? = some 45) := fun h e => hm ⟨h, e⟩
    clear hv hm
    by_cases hs1 : 1 < s.size
    · have h0 := byteI (byte0n (HQ.out hs1) (by omega))
      go_enter Tryd.func50, Tryd.ntmps50
      go_wp2
      any_goals (exfalso; rename_i hx; rcases hx with hx | hx; (have := eq_of_beq hx; omega); omega)
      any_goals (exfalso; rename_i hx; rw [hx] at hs1; exact absurd hs1 (by decide))
      go_loop [2, 3, 5, 6] (fun _ _ n i => ∃ k acc : Nat, k ≤ s.size ∧ i = .int .i64 (k : Int) ∧ n = .int .i64 (acc : Int) ∧ RowKit.Hid (dig10 0 (s.data.toList.take k) = some acc)) (fun _ _ _ i => s.size - (intOf i).toNat)
      case atStart => exact ⟨0, 0, by omega, rfl, rfl, rfl⟩
      case round =>
        obtain ⟨k, acc, hk, rfl, rfl, HA⟩ := hrel
        have ht5 := HT5.out
        have hacc : acc ≤ 100000 := by
          have h1 := dig10_le _ _ _ HA.out
          have h2 : (List.take k s.data.toList).length ≤ 5 := Nat.le_trans (List.length_take_le _ _) (by omega)
          have h3 : 10 ^ (List.take k s.data.toList).length ≤ 10 ^ 5 := Nat.pow_le_pow_right (by omega) h2
          omega
        by_cases hlt : k < s.size
        · have hc256 : s[k].toNat < 256 := UInt8.toNat_lt _
          have HS := Lib.hid (dig_step s k acc hlt HA.out)
          have HN := Lib.hid (dig_stop s k acc hlt HA.out)
          have VN : RowKit.Hid (dig10 0 s.data.toList = none → ValQ w (valS s.data.toList) (.returned (.tuple #[.int .i64 0, .bool false])) w) := by
            intro h
            rw [VAL.out, h]
            exact ⟨rfl, rfl⟩
          clear HA
          go_wp2
          all_goals first
            | exact bodyPost_ret (v := .tuple #[.int .i64 0, .bool false]) (by simp [results, Tryd.results50, go_sem]) rfl (VN.out (HN.out (by omega)))
            | (refine ⟨⟨_, _, _, _, ⟨k + 1, by omega, by go_num, 10 * acc + (s[k].toNat - 48), by congr 1; omega, HS.out (by omega)⟩, rfl, rfl, rfl, rfl⟩, ?_⟩
               simp [intOf]; omega)
        · obtain rfl : k = s.size := by omega
          have VY : RowKit.Hid (ValQ w (valS s.data.toList) (.returned (.tuple #[.int .i64 (1 * (acc : Int)), .bool true])) w) := by
            have h := HA.out
            rw [List.take_of_length_le (Nat.le_refl s.size)] at h
            show ValQ _ _ _ _
            rw [VAL.out, h]
            exact ⟨rfl, rfl⟩
          clear VAL HA
          go_wp2
          exact bodyPost_ret (v := .tuple #[.int .i64 (1 * (acc : Int)), .bool true]) (by simp [results, Tryd.results50, go_sem]) rfl VY.out
    · have hs2 : s.size = 1 := by omega
      go_enter Tryd.func50, Tryd.ntmps50
      go_wp2
      try (any_goals (exfalso; rename_i hx; rw [hx] at hs2; exact absurd hs2 (by decide)))
      go_loop [2, 3, 5, 6] (fun _ _ n i => ∃ k acc : Nat, k ≤ s.size ∧ i = .int .i64 (k : Int) ∧ n = .int .i64 (acc : Int) ∧ RowKit.Hid (dig10 0 (s.data.toList.take k) = some acc)) (fun _ _ _ i => s.size - (intOf i).toNat)
      case atStart => exact ⟨0, 0, by omega, rfl, rfl, rfl⟩
      case round =>
        obtain ⟨k, acc, hk, rfl, rfl, HA⟩ := hrel
        have ht5 := HT5.out
        have hacc : acc ≤ 100000 := by
          have h1 := dig10_le _ _ _ HA.out
          have h2 : (List.take k s.data.toList).length ≤ 5 := Nat.le_trans (List.length_take_le _ _) (by omega)
          have h3 : 10 ^ (List.take k s.data.toList).length ≤ 10 ^ 5 := Nat.pow_le_pow_right (by omega) h2
          omega
        by_cases hlt : k < s.size
        · have hc256 : s[k].toNat < 256 := UInt8.toNat_lt _
          have HS := Lib.hid (dig_step s k acc hlt HA.out)
          have HN := Lib.hid (dig_stop s k acc hlt HA.out)
          have VN : RowKit.Hid (dig10 0 s.data.toList = none → ValQ w (valS s.data.toList) (.returned (.tuple #[.int .i64 0, .bool false])) w) := by
            intro h
            rw [VAL.out, h]
            exact ⟨rfl, rfl⟩
          clear HA
          go_wp2
          all_goals first
            | exact bodyPost_ret (v := .tuple #[.int .i64 0, .bool false]) (by simp [results, Tryd.results50, go_sem]) rfl (VN.out (HN.out (by omega)))
            | (go_round
               case rel => exact ⟨k + 1, 10 * acc + (s[k].toNat - 48), by omega, by go_num, by congr 1; omega, HS.out (by omega)⟩
               case measure => simp [intOf]; omega)
        · obtain rfl : k = s.size := by omega
          have VY : RowKit.Hid (ValQ w (valS s.data.toList) (.returned (.tuple #[.int .i64 (1 * (acc : Int)), .bool true])) w) := by
            have h := HA.out
            rw [List.take_of_length_le (Nat.le_refl s.size)] at h
            show ValQ _ _ _ _
            rw [VAL.out, h]
            exact ⟨rfl, rfl⟩
          clear VAL HA
          go_wp2
          exact bodyPost_ret (v := .tuple #[.int .i64 (1 * (acc : Int)), .bool true]) (by simp [results, Tryd.results50, go_sem]) rfl VY.out
end Go.Proofs.YtbhelobahfgaeaaDoor
