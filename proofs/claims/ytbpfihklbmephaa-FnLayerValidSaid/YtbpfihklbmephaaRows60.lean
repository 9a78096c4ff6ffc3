/-
  Rows of equal boxes, as plain lists; addRows and l22Grid.
-/
import Derived.Test.YtbpfihklbmephaaBoxS
import Derived.Test.YtbpfihklbmephaaDeep
namespace Go.Proofs.Ytbpfihklbmephaa
open Go Go.RowKit
def bxAt (y ww d : Int) (r c : Nat) : Bx := ⟨(c : Int) * ww, y + (r : Int) * d, ww, d⟩
def rowTo (y ww d : Int) (r c : Nat) : List Bx := (List.range c).map (bxAt y ww d r)
def gridTo (y ww d : Int) (cols r : Nat) : List Bx := (List.range r).flatMap (fun r => rowTo y ww d r cols)
theorem rowTo_succ (y ww d : Int) (r c : Nat) : rowTo y ww d r (c + 1) = rowTo y ww d r c ++ [bxAt y ww d r c] := by simp [rowTo, List.range_succ]
theorem gridTo_succ (y ww d : Int) (cols r : Nat) : gridTo y ww d cols (r + 1) = gridTo y ww d cols r ++ rowTo y ww d r cols := by simp [gridTo, List.range_succ]
theorem take60_more {X : List Bx} {x : Bx} (h : (X.take 60).length < 60) : (X ++ [x]).take 60 = X.take 60 ++ [x] := by
  have hx : X.length < 60 := by rw [List.length_take] at h; omega
  rw [List.take_of_length_le (by simp; omega), List.take_of_length_le (by omega)]
theorem take60_full {X : List Bx} (Y : List Bx) (h : ¬ (X.take 60).length < 60) : (X ++ Y).take 60 = X.take 60 := by
  have hx : 60 ≤ X.length := by rw [List.length_take] at h; omega
  rw [List.take_append_of_le_length hx]
theorem take60_len (X : List Bx) : (X.take 60).length ≤ 60 := by rw [List.length_take]; omega
theorem mul_bd {a b : Int} (h1 : 0 ≤ a) (h2 : a ≤ 201) (h3 : 0 ≤ b) (h4 : b ≤ 201) : 0 ≤ a * b ∧ a * b ≤ 40401 := by
  refine ⟨Int.mul_nonneg h1 h3, ?_⟩
  have := Int.mul_le_mul h2 h4 h3 (by omega)
  omega
set_option maxHeartbeats 4000000 in
theorem i_rows (w0 : World) (v : Value) (L0 : List Bx) (Ls : List Asr) (y ww d : Int) (rows cols : Nat) (w : World) (S : St w0 w (Own LBx v L0 :: Ls)) (hL : L0.length ≤ 60) (hy : 0 ≤ y ∧ y ≤ 50000) (hr : rows ≤ 201) (hc : cols ≤ 200) (hw : 0 ≤ ww ∧ ww ≤ 200) (hd : 0 ≤ d ∧ d ≤ 200) :
    Calls Try.prog 39 #[v, .int .i64 y, .int .i64 (rows : Int), .int .i64 (cols : Int), .int .i64 ww, .int .i64 d] w fun e w' => ∃ v', e = .returned v' ∧ St w0 w' (Own LBx v' ((L0 ++ gridTo y ww d cols rows).take 60) :: Ls) := by
  obtain ⟨y0, y1⟩ := hy
  obtain ⟨ww0, ww1⟩ := hw
  obtain ⟨d0, d1⟩ := hd
  have S0 : St w0 w (Own LBx v ((L0 ++ gridTo y ww d cols 0).take 60) :: Ls) := by
    have : (L0 ++ gridTo y ww d cols 0).take 60 = L0 := by rw [show gridTo y ww d cols 0 = [] from rfl, List.append_nil, List.take_of_length_le hL]
    rw [this]
    exact S
  have FUL : RowKit.Hid (∀ r c, r < rows → c < cols → ¬ ((L0 ++ gridTo y ww d cols r ++ rowTo y ww d r c).take 60).length < 60 → (L0 ++ gridTo y ww d cols rows).take 60 = (L0 ++ gridTo y ww d cols r ++ rowTo y ww d r c).take 60) := by
    intro r c hr hc h
    have h1 : ∀ m, (L0 ++ gridTo y ww d cols (r + 1 + m)).take 60 = (L0 ++ gridTo y ww d cols r ++ rowTo y ww d r c).take 60 := by
      intro m
      induction m with
      | zero =>
        obtain ⟨q, hq⟩ : ∃ q, rowTo y ww d r cols = rowTo y ww d r c ++ q := by
          refine ⟨(rowTo y ww d r cols).drop c, ?_⟩
          have : rowTo y ww d r c = (rowTo y ww d r cols).take c := by
            unfold rowTo
            rw [← List.map_take, List.take_range, Nat.min_eq_left (by omega)]
          rw [this, List.take_append_drop]
        rw [Nat.add_zero, gridTo_succ, hq, ← List.append_assoc, ← List.append_assoc, take60_full _ h]
      | succ m ih =>
        rw [show r + 1 + (m + 1) = (r + 1 + m) + 1 by omega, gridTo_succ, ← List.append_assoc, take60_full _ (by rw [ih]; exact h), ih]
    obtain ⟨m, rfl⟩ : ∃ m, rows = r + 1 + m := ⟨rows - (r + 1), by omega⟩
    exact h1 m
  clear S hL
  go_enter Try.func39, Try.ntmps39
  go_wp2
  go_loopw [0, 13, 14, 16, 20] (fun o _ _ i _ wr => ∃ r : Nat, r ≤ rows ∧ i = .int .i64 r ∧ St w0 wr (Own LBx o ((L0 ++ gridTo y ww d cols r).take 60) :: Ls)) (fun _ _ _ i _ _ => rows - (intOf i).toNat)
  case atStart => exact ⟨0, by omega, rfl, S0⟩
  case round =>
    obtain ⟨r, hr', rfl, S1⟩ := hrel
    clear S0
    by_cases hlt2r : r < rows
    rotate_left
    · obtain rfl : r = rows := by omega
      go_wp2
      go_ret
      exact ⟨_, rfl, S1⟩
    have S2 : St w0 wr (Own LBx u0 ((L0 ++ gridTo y ww d cols r ++ rowTo y ww d r 0).take 60) :: Ls) := by
      have : L0 ++ gridTo y ww d cols r ++ rowTo y ww d r 0 = L0 ++ gridTo y ww d cols r := by simp [rowTo]
      rw [this]
      exact S1
    clear S1
    have rb := mul_bd (a := (r : Int)) (b := d) (by omega) (by omega) d0 (by omega)
    obtain ⟨rb0, rb1⟩ := rb
    go_wp2
    go_loopw [0, 14, 20] (fun o _ i wr => ∃ c : Nat, c ≤ cols ∧ i = .int .i64 c ∧ St w0 wr (Own LBx o ((L0 ++ gridTo y ww d cols r ++ rowTo y ww d r c).take 60) :: Ls)) (fun _ _ i _ => cols - (intOf i).toNat)
    case atStart => exact ⟨0, by omega, rfl, S2⟩
    case round =>
      obtain ⟨c, hc', rfl, S'⟩ := hrel
      clear S2
      by_cases hlt3 : c < cols
      rotate_left
      · obtain rfl : c = cols := by omega
        have e : RowKit.Hid (L0 ++ gridTo y ww d c r ++ rowTo y ww d r c = L0 ++ gridTo y ww d c (r + 1)) := by show _ = _; rw [gridTo_succ, List.append_assoc]
        rw [e.out] at S'
        go_wp2
        go_roundw
        case rel => exact ⟨r + 1, by omega, by go_num, S'⟩
        case measure => simp [intOf]; omega
      have cb := mul_bd (a := (c : Int)) (b := ww) (by omega) (by omega) ww0 (by omega)
      obtain ⟨cb0, cb1⟩ := cb
      by_cases hlen : ((L0 ++ gridTo y ww d cols r ++ rowTo y ww d r c).take 60).length < 60
      rotate_left
      ·
        have hf : RowKit.Hid ((L0 ++ gridTo y ww d cols rows).take 60 = (L0 ++ gridTo y ww d cols r ++ rowTo y ww d r c).take 60) := FUL.out r c hlt2r hlt3 hlen
        rw [← hf.out] at S'
        obtain ⟨oa, on, oc, rfl, hon⟩ := (St.own S').slice
        have hon60 : on = 60 := by
          rw [hf.out] at hon
          have := take60_len (L0 ++ gridTo y ww d cols r ++ rowTo y ww d r c)
          omega
        have heq : ((on : Int) == 60) = true := by simp; omega
        clear hon hon60 hlen hf
        go_wp2
        go_ret
        exact ⟨_, rfl, S'⟩
      obtain ⟨oa, on, oc, rfl, hon⟩ := (St.own S').slice
      have hon60 : on < 60 := by rw [hon]; exact hlen
      have hne : ((on : Int) == 60) = false := by simp; omega
      have HL := Lib.hid hlen
      clear hon hlen
      go_wp2_with (at_builtin; refine wpList_app1 LBx_info rfl _ _ rfl S' (bxAt y ww d r c) #[.int .i64 ((c : Int) * ww), .int .i64 (y + (r : Int) * d), .int .i64 ww, .int .i64 d] rfl rfl rfl (by have := HL.out; omega) ?_; intro v' w4 S3)
      have e : RowKit.Hid ((L0 ++ gridTo y ww d cols r ++ rowTo y ww d r (c + 1)).take 60 = (L0 ++ gridTo y ww d cols r ++ rowTo y ww d r c).take 60 ++ [bxAt y ww d r c]) := by
        show _ = _
        rw [rowTo_succ, ← List.append_assoc, take60_more HL.out]
      rw [← e.out] at S3
      clear S'
      go_roundw
      case rel => exact ⟨c + 1, by omega, by go_num, S3⟩
      case measure => simp [intOf]; omega
set_option maxHeartbeats 4000000 in
theorem s_rows (w0 : World) (v : Value) (L0 : List Bx) (Ls : List Asr) (y ww d : Int) (rows cols : Nat) (w : World) (S : St w0 w (Own LBx v L0 :: Ls)) (hL : L0.length ≤ 60) (hy : 0 ≤ y ∧ y ≤ 50000) (hr : rows ≤ 201) (hc : cols ≤ 200) (hw : 0 ≤ ww ∧ ww ≤ 200) (hd : 0 ≤ d ∧ d ≤ 200) :
    Calls Try.prog 43 #[v, .int .i64 0, .int .i64 y, .int .i64 (cols : Int), .int .i64 (rows : Int), .int .i64 ww, .int .i64 d] w fun e w' => ∃ v', e = .returned v' ∧ St w0 w' (Own LBx v' ((L0 ++ gridTo y ww d cols rows).take 60) :: Ls) := by
  obtain ⟨y0, y1⟩ := hy
  obtain ⟨ww0, ww1⟩ := hw
  obtain ⟨d0, d1⟩ := hd
  have S0 : St w0 w (Own LBx v ((L0 ++ gridTo y ww d cols 0).take 60) :: Ls) := by
    have : (L0 ++ gridTo y ww d cols 0).take 60 = L0 := by rw [show gridTo y ww d cols 0 = [] from rfl, List.append_nil, List.take_of_length_le hL]
    rw [this]
    exact S
  have FUL : RowKit.Hid (∀ r c, r < rows → c < cols → ¬ ((L0 ++ gridTo y ww d cols r ++ rowTo y ww d r c).take 60).length < 60 → (L0 ++ gridTo y ww d cols rows).take 60 = (L0 ++ gridTo y ww d cols r ++ rowTo y ww d r c).take 60) := by
    intro r c hr hc h
    have h1 : ∀ m, (L0 ++ gridTo y ww d cols (r + 1 + m)).take 60 = (L0 ++ gridTo y ww d cols r ++ rowTo y ww d r c).take 60 := by
      intro m
      induction m with
      | zero =>
        obtain ⟨q, hq⟩ : ∃ q, rowTo y ww d r cols = rowTo y ww d r c ++ q := by
          refine ⟨(rowTo y ww d r cols).drop c, ?_⟩
          have : rowTo y ww d r c = (rowTo y ww d r cols).take c := by
            unfold rowTo
            rw [← List.map_take, List.take_range, Nat.min_eq_left (by omega)]
          rw [this, List.take_append_drop]
        rw [Nat.add_zero, gridTo_succ, hq, ← List.append_assoc, ← List.append_assoc, take60_full _ h]
      | succ m ih =>
        rw [show r + 1 + (m + 1) = (r + 1 + m) + 1 by omega, gridTo_succ, ← List.append_assoc, take60_full _ (by rw [ih]; exact h), ih]
    obtain ⟨m, rfl⟩ : ∃ m, rows = r + 1 + m := ⟨rows - (r + 1), by omega⟩
    exact h1 m
  clear S hL
  go_enter Try.func43, Try.ntmps43
  go_wp2
  go_loopw [0, 15, 16] (fun o i _ wr => ∃ r : Nat, r ≤ rows ∧ i = .int .i64 r ∧ St w0 wr (Own LBx o ((L0 ++ gridTo y ww d cols r).take 60) :: Ls)) (fun _ i _ _ => rows - (intOf i).toNat)
  case atStart => exact ⟨0, by omega, rfl, S0⟩
  case round =>
    obtain ⟨r, hr', rfl, S1⟩ := hrel
    clear S0
    by_cases hlt2r : r < rows
    rotate_left
    · obtain rfl : r = rows := by omega
      go_wp2
      go_ret
      exact ⟨_, rfl, S1⟩
    have S2 : St w0 wr (Own LBx u0 ((L0 ++ gridTo y ww d cols r ++ rowTo y ww d r 0).take 60) :: Ls) := by
      have : L0 ++ gridTo y ww d cols r ++ rowTo y ww d r 0 = L0 ++ gridTo y ww d cols r := by simp [rowTo]
      rw [this]
      exact S1
    clear S1
    have rb := mul_bd (a := (r : Int)) (b := d) (by omega) (by omega) d0 (by omega)
    obtain ⟨rb0, rb1⟩ := rb
    go_wp2
    go_loopw [0, 16] (fun o i wr => ∃ c : Nat, c ≤ cols ∧ i = .int .i64 c ∧ St w0 wr (Own LBx o ((L0 ++ gridTo y ww d cols r ++ rowTo y ww d r c).take 60) :: Ls)) (fun _ i _ => cols - (intOf i).toNat)
    case atStart => exact ⟨0, by omega, rfl, S2⟩
    case round =>
      obtain ⟨c, hc', rfl, S'⟩ := hrel
      clear S2
      by_cases hlt3 : c < cols
      rotate_left
      · obtain rfl : c = cols := by omega
        have e : RowKit.Hid (L0 ++ gridTo y ww d c r ++ rowTo y ww d r c = L0 ++ gridTo y ww d c (r + 1)) := by show _ = _; rw [gridTo_succ, List.append_assoc]
        rw [e.out] at S'
        go_wp2
        go_roundw
        case rel => exact ⟨r + 1, by omega, by go_num, S'⟩
        case measure => simp [intOf]; omega
      have cb := mul_bd (a := (c : Int)) (b := ww) (by omega) (by omega) ww0 (by omega)
      obtain ⟨cb0, cb1⟩ := cb
      by_cases hlen : ((L0 ++ gridTo y ww d cols r ++ rowTo y ww d r c).take 60).length < 60
      rotate_left
      ·
        have hf : RowKit.Hid ((L0 ++ gridTo y ww d cols r ++ rowTo y ww d r (c + 1)).take 60 = (L0 ++ gridTo y ww d cols r ++ rowTo y ww d r c).take 60) := by
          show _ = _
          rw [rowTo_succ, ← List.append_assoc, take60_full _ hlen]
        rw [← hf.out] at S'
        obtain ⟨oa, on, oc, rfl, hon⟩ := (St.own S').slice
        have hon60 : on = 60 := by
          rw [hf.out] at hon
          have := take60_len (L0 ++ gridTo y ww d cols r ++ rowTo y ww d r c)
          omega
        have hge : ¬ on < 60 := by omega
        clear hon hon60 hlen hf
        go_wp2
        go_roundw
        case rel => exact ⟨c + 1, by omega, by go_num, S'⟩
        case measure => simp [intOf]; omega
      obtain ⟨oa, on, oc, rfl, hon⟩ := (St.own S').slice
      have hon60 : on < 60 := by rw [hon]; exact hlen
      have hne : ((on : Int) == 60) = false := by simp; omega
      have HL := Lib.hid hlen
      clear hon hlen
      go_wp2_with (at_builtin; refine wpList_app1 LBx_info rfl _ _ rfl S' (bxAt y ww d r c) #[.int .i64 ((c : Int) * ww), .int .i64 (y + (r : Int) * d), .int .i64 ww, .int .i64 d] rfl rfl rfl (by have := HL.out; omega) ?_; intro v' w4 S3)
      have e : RowKit.Hid ((L0 ++ gridTo y ww d cols r ++ rowTo y ww d r (c + 1)).take 60 = (L0 ++ gridTo y ww d cols r ++ rowTo y ww d r c).take 60 ++ [bxAt y ww d r c]) := by
        show _ = _
        rw [rowTo_succ, ← List.append_assoc, take60_more HL.out]
      rw [← e.out] at S3
      clear S'
      go_roundw
      case rel => exact ⟨c + 1, by omega, by go_num, S3⟩
      case measure => simp [intOf]; omega
end Go.Proofs.Ytbpfihklbmephaa
