/-
  Numbers as texts: markText of the laws, l20Number of the reference.
-/
import Derived.Test.YtbhelobahfgaeaaDoorRdr
import Derived.Lib.ItoaNum
import Derived.Laws.IdiomStrings
import Derived.Shelf.Strconv.Itoa3
namespace Go.Proofs.YtbhelobahfgaeaaDoor
open Go Go.RowKit
set_option linter.unusedVariables false
/-- A text of its bytes. -/
def bt (l : List UInt8) : ByteArray := ⟨l.toArray⟩
theorem bt_app (a b : List UInt8) : bt a ++ bt b = bt (a ++ b) := by
  apply ByteArray.ext
  simp [bt]
/-- A decimal digit's byte. -/
def dgt (d : Nat) : UInt8 := UInt8.ofNat (48 + d)
def mdig (k : Nat) : List UInt8 := if h : k = 0 then [] else mdig (k / 10) ++ [dgt (k % 10)]
termination_by k
decreasing_by omega
theorem mdig_zero : mdig 0 = [] := by rw [mdig]; simp
theorem mdig_pos {k : Nat} (h : 0 < k) : mdig k = mdig (k / 10) ++ [dgt (k % 10)] := by rw [mdig, dif_neg (by omega)]
theorem bt_size (l : List UInt8) : (bt l).size = l.length := by simp [bt, ByteArray.size]
theorem mdig_len : ∀ k : Nat, (mdig k).length ≤ k := by
  intro k
  induction k using Nat.strongRecOn with
  | ind k ih =>
    by_cases h : k = 0
    · subst h; rw [mdig_zero]; exact Nat.le_refl _
    · rw [mdig_pos (by omega), List.length_append]
      have := ih (k / 10) (by omega)
      simp only [List.length_cons, List.length_nil]
      omega
def markB (k : Int) : ByteArray := if k ≤ 0 then bt [109, 48] else bt (109 :: mdig k.toNat)
theorem conv1 (w : World) (d : Nat) (hd : d < 10) : (convert 22 9 (.slice (some ⟨w.heap.size, 0, none⟩) 1 1)).run Tryd.prog (w.alloc (.cells #[.int .u8 (48 + (d : Int))] 5)) = .ok (.string (bt [dgt d])) (w.alloc (.cells #[.int .u8 (48 + (d : Int))] 5)) := by
  refine run_convert_bytes_back _ _ _ _ ⟨w.heap.size, 0, none⟩ 1 [dgt d] Tryd.underlying22 Tryd.underlying5 Tryd.underlying9 (fun j hj => ?_)
  obtain rfl : j = 0 := by simpa using hj
  have e : ((dgt d).toNat : Int) = 48 + (d : Int) := by
    unfold dgt
    rw [UInt8.toNat_ofNat_of_lt' (by show 48 + d < 256; omega)]
    omega
  show World.cell? _ ⟨w.heap.size, 0, none⟩ = some (.int .u8 ((dgt d).toNat : Int))
  rw [e]
  exact World.cell?_alloc_mark w _ _ _ 0
set_option maxRecDepth 20000 in
set_option maxHeartbeats 400000 in
theorem markText_s (k : Int) (w : World) (hk : k ≤ 4611686018427387904) : Calls Tryd.prog 37 #[.int .i64 k] w fun e w' => e = .returned (.string (markB k)) ∧ w.grownBy w' none := by
  unfold markB
  by_cases h : k ≤ 0
  · rw [if_pos h]
    go_enter Tryd.func37, Tryd.ntmps37
    go_wp2
    go_ret
    exact ⟨rfl, World.grownBy.refl _ _⟩
  rw [if_neg h]
  obtain ⟨K, rfl⟩ : ∃ K : Nat, k = (K : Int) := ⟨k.toNat, by omega⟩
  rw [Int.toNat_natCast]
  go_enter Tryd.func37, Tryd.ntmps37
  go_wp2
  go_loopw [0, 3] (fun n o wr => ∃ (j : Nat) (t : List UInt8), j ≤ K ∧ n = .int .i64 (j : Int) ∧ o = .string (bt t) ∧ RowKit.Hid (mdig j ++ t = mdig K) ∧ w.grownBy wr none) (fun n _ _ => (intOf n).toNat)
  case atStart => exact ⟨K, [], by omega, rfl, rfl, (show _ = _ by simp), World.grownBy.refl _ _⟩
  case round =>
    obtain ⟨j, t, hj, rfl, rfl, HT, G⟩ := hrel
    by_cases hlt : 0 < j
    · have hlt' : (0 : Int) < (j : Int) := by omega
      have cv := conv1 wr (j % 10) (by omega)
      rw [show ((j % 10 : Nat) : Int) = (j : Int) % 10 by omega] at cv
      have HT2 : RowKit.Hid (mdig (j / 10) ++ (dgt (j % 10) :: t) = mdig K) := by
        show _ = _
        rw [← HT.out, mdig_pos hlt, List.append_assoc]
        rfl
      have z1 : (bt [dgt (j % 10)]).size = 1 := bt_size _
      have z2 : (bt t).size ≤ 4611686018427387904 := by
        have h1 := congrArg List.length HT.out
        have h2 := mdig_len K
        rw [List.length_append] at h1
        rw [bt_size]
        omega
      have G2 := gb_trans G (gb_alloc (World.grownBy.refl wr none) (.cells #[.int .u8 (48 + (j : Int) % 10)] 5))
      clear HT G
      go_wp2
      go_roundw
      case rel => exact ⟨j / 10, dgt (j % 10) :: t, by omega, by congr 1, by rw [bt_app]; rfl, HT2, G2⟩
      case measure => simp [intOf]; omega
    · obtain rfl : j = 0 := by omega
      have e : t = mdig K := by have := HT.out; rwa [mdig_zero, List.nil_append] at this
      subst e
      have z2 : (bt (mdig K)).size ≤ 4611686018427387904 := by
        have h2 := mdig_len K
        rw [bt_size]
        omega
      clear HT
      go_wp2
      go_ret
      exact ⟨by rw [show (109 :: mdig K) = [109] ++ mdig K from rfl, ← bt_app]; rfl, G⟩
/-! ### l20Number -/
theorem dec_small {u : Nat} (h : u < 10) : Lib.decDigits u = [dgt u] := Lib.decDigits_one h
theorem dec_big {u : Nat} (h : ¬ u < 10) : Lib.decDigits u = Lib.decDigits (u / 10) ++ [dgt (u % 10)] := by rw [Lib.decDigits, dif_neg h]; rfl
theorem dec_len (u : Nat) : (Lib.decDigits u).length ≤ u + 1 := by
  induction u using Nat.strongRecOn with
  | ind u ih =>
    by_cases h : u < 10
    · rw [dec_small h]; simp
    · rw [dec_big h, List.length_append]
      have := ih (u / 10) (by omega)
      simp only [List.length_cons, List.length_nil]
      omega
/-- The decimal text of a number. -/
def numB (n : Int) : ByteArray := bt (Lib.itoa n)
theorem numB_nat (u : Nat) : numB (u : Int) = bt (Lib.decDigits u) := by
  unfold numB Lib.itoa
  rw [if_neg (by omega)]
  simp
theorem numB_neg (u : Nat) (h : 0 < u) : numB (-(u : Int)) = bt [45] ++ bt (Lib.decDigits u) := by
  unfold numB Lib.itoa
  rw [if_pos (by omega), bt_app]
  simp
set_option maxRecDepth 20000 in
set_option maxHeartbeats 400000 in
theorem number_nat (K : Nat) (w : World) (hK : K ≤ 1000000) : Calls Tryd.prog 45 #[.int .i64 (K : Int)] w fun e w' => e = .returned (.string (numB (K : Int))) ∧ w.grownBy w' none := by
  rw [numB_nat]
  have cv := conv1 w (K % 10) (by omega)
  rw [show ((K % 10 : Nat) : Int) = (K : Int) % 10 by omega] at cv
  have G0 := gb_alloc (World.grownBy.refl w none) (.cells #[.int .u8 (48 + (K : Int) % 10)] 5)
  have T0 : RowKit.Hid ((∀ t, [dgt (K % 10)] = t → if K < 10 then t = Lib.decDigits K else Lib.decDigits (K / 10) ++ t = Lib.decDigits K)) := by
    intro t ht
    subst ht
    split
    · rename_i h
      rw [dec_small h, Nat.mod_eq_of_lt h]
    · rename_i h
      rw [← dec_big h]
  go_enter Tryd.func45, Tryd.ntmps45
  go_wp2
  go_loopw [0, 3] (fun n o wr => ∃ (j : Nat) (t : List UInt8), j ≤ K ∧ n = .int .i64 (j : Int) ∧ o = .string (bt t) ∧ RowKit.Hid (if j < 10 then t = Lib.decDigits K else Lib.decDigits (j / 10) ++ t = Lib.decDigits K) ∧ w.grownBy wr none) (fun n _ _ => (intOf n).toNat)
  case atStart => exact ⟨K, [dgt (K % 10)], by omega, rfl, rfl, T0.out _ rfl, G0⟩
  case round =>
    obtain ⟨j, t, hj, rfl, rfl, HT, G⟩ := hrel
    by_cases hlt : 9 < j
    · have hlt' : (9 : Int) < (j : Int) := by omega
      have cv := conv1 wr (j / 10 % 10) (by omega)
      rw [show ((j / 10 % 10 : Nat) : Int) = (j : Int) / 10 % 10 by omega] at cv
      have hT := HT.out
      rw [if_neg (by omega)] at hT
      have HT2 : RowKit.Hid (if j / 10 < 10 then dgt (j / 10 % 10) :: t = Lib.decDigits K else Lib.decDigits (j / 10 / 10) ++ (dgt (j / 10 % 10) :: t) = Lib.decDigits K) := by
        show if _ then _ else _
        split
        · rename_i h
          rw [← hT, dec_small h, Nat.mod_eq_of_lt h]
          rfl
        · rename_i h
          rw [← hT, dec_big h, List.append_assoc]
          rfl
      have z1 : (bt [dgt (j / 10 % 10)]).size = 1 := bt_size _
      have z2 : (bt t).size ≤ 1000001 := by
        have h1 := congrArg List.length hT
        have h2 := dec_len K
        rw [List.length_append] at h1
        rw [bt_size]
        omega
      have G2 := gb_trans G (gb_alloc (World.grownBy.refl wr none) (.cells #[.int .u8 (48 + (j : Int) / 10 % 10)] 5))
      clear HT G hT T0 G0
      go_wp2
      go_roundw
      case rel => exact ⟨j / 10, dgt (j / 10 % 10) :: t, by omega, by congr 1, by rw [bt_app]; rfl, HT2, G2⟩
      case measure => simp [intOf]; omega
    · have e : t = Lib.decDigits K := by have := HT.out; rwa [if_pos (by omega)] at this
      subst e
      clear HT T0 G0
      go_wp2
      go_ret
      exact ⟨rfl, G⟩
set_option maxRecDepth 20000 in
set_option maxHeartbeats 400000 in
theorem number_s (n : Int) (w : World) (hn : -1000000 ≤ n ∧ n ≤ 1000000) : Calls Tryd.prog 45 #[.int .i64 n] w fun e w' => e = .returned (.string (numB n)) ∧ w.grownBy w' none := by
  by_cases h : n < 0
  · obtain ⟨u, rfl⟩ : ∃ u : Nat, n = -(u : Int) := ⟨(-n).toNat, by omega⟩
    rw [numB_neg u (by omega)]
    have hu : u ≤ 1000000 := by omega
    have NC := number_nat u w hu
    rw [numB_nat] at NC
    have NC := Lib.hid NC
    have z2 : (bt (Lib.decDigits u)).size ≤ 1000001 := by
      have := dec_len u
      rw [bt_size]
      omega
    go_enter Tryd.func45, Tryd.ntmps45
    go_wp2_with fail
    refine NC.out.mono ?_
    rintro e w1 ⟨rfl, g1⟩
    go_wp2
    go_ret
    exact ⟨rfl, g1⟩
  · obtain ⟨u, rfl⟩ : ∃ u : Nat, n = (u : Int) := ⟨n.toNat, by omega⟩
    exact number_nat u w (by omega)
end Go.Proofs.YtbhelobahfgaeaaDoor
