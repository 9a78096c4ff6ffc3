/-
  The draw of a program: at most 16 commands.
-/
import Derived.Test.YtbhelobahfgaeaaDoorPointDraw
import Derived.Test.YtbhelobahfgaeaaDoorCommandS
namespace Go.Proofs.YtbhelobahfgaeaaDoor
open Go Go.RowKit
def ProgQ (w0 : World) (B m : Nat) (Ls : List Asr) (e : Ending) (w' : World) : Prop :=
  ∃ (v : Value) (xs : List Cmd) (m' : Nat), e = .returned v ∧ xs.length ≤ 16 ∧ m' ≤ m + 400 ∧ St w0 w' (Own LCmd v xs :: Rdr w0 B m' :: Ls)
set_option maxRecDepth 100000 in
set_option maxHeartbeats 16000000 in
theorem prog_s (w0 : World) (B m : Nat) (Ls : List Asr) (n : Int) (w : World) (S : St w0 w (Rdr w0 B m :: Ls)) (hm : m ≤ 900000) (hn : n ≤ 1000000) :
    Calls Tryd.prog 28 #[.pointer (some ⟨B, 0, none⟩), .int .i64 n] w (ProgQ w0 B m Ls) := by
  have S1 := (S.ownEmpty LCmd).swap
  clear S
  go_enter Tryd.func28, Tryd.ntmps28
  go_wp2_with fail
  refine (pick_s w0 B _ _ 12 _ S1 (by omega)).mono ?_
  rintro e w1 ⟨p, rfl, ⟨p0, p1, -⟩, S2⟩
  replace p1 := p1 (by omega)
  clear S1
  obtain ⟨K0, rfl⟩ := Int.eq_ofNat_of_zero_le p0
  have hK0 : K0 ≤ 11 := by omega
  have S3 := S2.swap
  clear S2 p0 p1
  go_wp2_with fail
  go_loopw [5, 6, 7] (fun o dv i wr => ∃ (k m' d : Nat) (xs : List Cmd), k ≤ K0 ∧ i = .int .i64 (k : Int) ∧ dv = .int .i64 (d : Int) ∧ d ≤ 3 ∧ RowKit.Hid (xs.length + k ≤ K0) ∧ m' + 20 * k ≤ m + 1 + 20 * K0 ∧ St w0 wr (Own LCmd o xs :: Rdr w0 B m' :: Ls)) (fun _ _ i _ => (intOf i).toNat)
  case atStart => exact ⟨K0, m + 1, 0, [], by omega, rfl, rfl, by omega, by show ([] : List Cmd).length + K0 ≤ K0; simp, by omega, S3⟩
  case round =>
    obtain ⟨k, m', d, xs, hk, rfl, rfl, hd, HX, hm', S4⟩ := hrel
    clear S3
    have hxl : xs.length ≤ 11 := by have := HX.out; omega
    by_cases hlt : 0 < k
    · have hlt' : (0 : Int) < k := by omega
      have S5 := S4.swap
      clear S4
      go_wp2_with fail
      refine (pick_s w0 B _ _ 8 _ S5 (by omega)).mono ?_
      rintro e w2 ⟨c, rfl, ⟨c0, c1, -⟩, S6⟩
      replace c1 := c1 (by omega)
      clear S5
      by_cases h2 : c ≤ 2
      · have hpt : ∀ cc : Int, cc = c → True := fun _ _ => trivial
        clear hpt
        rcases (by omega : c = 0 ∨ c = 1 ∨ c = 2) with rfl | rfl | rfl
        all_goals
          go_wp2_with fail
          refine (point_s w0 B _ _ 0 _ S6 (by omega) (by omega)).mono ?_
          rintro e w3 ⟨x, y, m2, rfl, -, -, hm2, S7⟩
          have S8 := (S7.swap).grow (gb_alloc (World.grownBy.refl w3 none) (.cells #[.int .i64 x, .int .i64 y] 58))
          clear S6 S7
          go_wp2_with (at_builtin; refine wpList_app1 LCmd_info rfl _ _ rfl S8 (⟨1, x, y⟩ : Cmd) #[.int .i64 (1), .int .i64 (x), .int .i64 (y)] rfl rfl (by simp [Act.eval]) (by omega) ?_; intro v' wN S9)
          clear S8
          have HX2 : RowKit.Hid ((xs ++ [(⟨1, x, y⟩ : Cmd)]).length + (k - 1) ≤ K0) := by show _ ≤ _; have := HX.out; simp; omega
          clear HX
          go_roundw
          case rel => exact ⟨k - 1, m2, d, _, by omega, by rw [show (((k - 1 : Nat)) : Int) = (k : Int) - 1 by omega], rfl, by omega, HX2, by omega, S9⟩
          case measure => simp [intOf]; omega
      have S7 := S6.swap
      clear S6
      by_cases h3 : c = 3
      · subst h3
        go_wp2_with (at_builtin; refine wpList_app1 LCmd_info rfl _ _ rfl S7 (⟨2, 0, 0⟩ : Cmd) #[.int .i64 (2), .int .i64 (0), .int .i64 (0)] rfl rfl (by simp [Act.eval]) (by omega) ?_; intro v' wN S9)
        clear S7
        have HX2 : RowKit.Hid ((xs ++ [(⟨2, 0, 0⟩ : Cmd)]).length + (k - 1) ≤ K0) := by show _ ≤ _; have := HX.out; simp; omega
        clear HX
        go_roundw
        case rel => exact ⟨k - 1, _, d, _, by omega, by rw [show (((k - 1 : Nat)) : Int) = (k : Int) - 1 by omega], rfl, by omega, HX2, by omega, S9⟩
        case measure => simp [intOf]; omega
      by_cases h4 : c = 4
      · subst h4
        go_wp2_with (at_builtin; refine wpList_app1 LCmd_info rfl _ _ rfl S7 (⟨3, 0, 0⟩ : Cmd) #[.int .i64 (3), .int .i64 (0), .int .i64 (0)] rfl rfl (by simp [Act.eval]) (by omega) ?_; intro v' wN S9)
        clear S7
        have HX2 : RowKit.Hid ((xs ++ [(⟨3, 0, 0⟩ : Cmd)]).length + (k - 1) ≤ K0) := by show _ ≤ _; have := HX.out; simp; omega
        clear HX
        go_roundw
        case rel => exact ⟨k - 1, _, d, _, by omega, by rw [show (((k - 1 : Nat)) : Int) = (k : Int) - 1 by omega], rfl, by omega, HX2, by omega, S9⟩
        case measure => simp [intOf]; omega
      by_cases h5 : c = 5
      · subst h5
        go_wp2_with fail
        refine (pick_s w0 B _ _ 99 _ S7.swap (by omega)).mono ?_
        rintro e w3 ⟨q, rfl, ⟨q0, q1, -⟩, S8⟩
        replace q1 := q1 (by omega)
        have S9 := S8.swap
        clear S7 S8
        go_wp2_with (at_builtin; refine wpList_app1 LCmd_info rfl _ _ rfl S9 (⟨4, 1 + q, 0⟩ : Cmd) #[.int .i64 (4), .int .i64 (1 + q), .int .i64 (0)] rfl rfl (by simp [Act.eval]) (by omega) ?_; intro v' wN S10)
        clear S9
        have HX2 : RowKit.Hid ((xs ++ [(⟨4, 1 + q, 0⟩ : Cmd)]).length + (k - 1) ≤ K0) := by show _ ≤ _; have := HX.out; simp; omega
        clear HX
        go_roundw
        case rel => exact ⟨k - 1, _, d, _, by omega, by rw [show (((k - 1 : Nat)) : Int) = (k : Int) - 1 by omega], rfl, by omega, HX2, by omega, S10⟩
        case measure => simp [intOf]; omega
      by_cases h6 : c = 6
      · subst h6
        by_cases hd3 : d < 3
        · have hd3' : (d : Int) < 3 := by omega
          obtain ⟨HLa, hHLa⟩ : ∃ HL, HL = w2.heap.size := ⟨_, rfl⟩
          have SLa := (((S7.loc #[.int .i64 1, .int .i64 2, .int .i64 3, .int .i64 9, .int .i64 99] 3).swap).swap.rot)
          rw [← hHLa] at SLa
          have HHLa := Lib.hid hHLa
          clear hHLa
          go_wp2_with fail
          rw [← HHLa.out]
          refine (pick_s w0 B _ _ 5 _ SLa (by omega)).mono ?_
          rintro e wLa ⟨qa, rfl, ⟨q0a, q1a, -⟩, SMa⟩
          replace q1a := q1a (by omega)
          have SNa := St.swap SMa
          have hqa : qa.toNat < 5 := by omega
          have hlita := St.locCell SNa qa.toNat _ (lit5 .i64 1 2 3 9 99 qa.toNat hqa)
          obtain ⟨Za, hZa⟩ : ∃ Z, Z = sel [1, 2, 3, 9, 99] qa.toNat := ⟨_, rfl⟩
          rw [← hZa] at hlita
          obtain ⟨hln1a, hln2a⟩ := St.locLt SNa
          have SPa := (St.tail SNa).swap
          clear hZa SLa SMa SNa
          clear S7
          go_wp2_with (at_builtin; refine wpList_app1 LCmd_info rfl _ _ rfl SPa (⟨5, Za, 0⟩ : Cmd) #[.int .i64 (5), .int .i64 (Za), .int .i64 (0)] rfl rfl (by simp [Act.eval]) (by omega) ?_; intro v' wN S10)
          clear SPa hlita
          have HX2 : RowKit.Hid ((xs ++ [(⟨5, Za, 0⟩ : Cmd)]).length + (k - 1) ≤ K0) := by show _ ≤ _; have := HX.out; simp; omega
          clear HX
          go_roundw
          case rel => exact ⟨k - 1, _, d + 1, _, by omega, by rw [show (((k - 1 : Nat)) : Int) = (k : Int) - 1 by omega], by go_num, by omega, HX2, by omega, S10⟩
          case measure => simp [intOf]; omega
        · have hd3' : ¬ (d : Int) < 3 := by omega
          go_wp2_with fail
          have HX2 : RowKit.Hid ((xs).length + (k - 1) ≤ K0) := by show _ ≤ _; have := HX.out; simp; omega
          clear HX
          go_roundw
          case rel => exact ⟨k - 1, _, d, xs, by omega, by rw [show (((k - 1 : Nat)) : Int) = (k : Int) - 1 by omega], rfl, by omega, HX2, by omega, S7⟩
          case measure => simp [intOf]; omega
      obtain rfl : c = 7 := by omega
      by_cases hd0 : 0 < d
      · have hd0' : (0 : Int) < (d : Int) := by omega
        go_wp2_with (at_builtin; refine wpList_app1 LCmd_info rfl _ _ rfl S7 (⟨6, 0, 0⟩ : Cmd) #[.int .i64 (6), .int .i64 (0), .int .i64 (0)] rfl rfl (by simp [Act.eval]) (by omega) ?_; intro v' wN S9)
        clear S7
        have HX2 : RowKit.Hid ((xs ++ [(⟨6, 0, 0⟩ : Cmd)]).length + (k - 1) ≤ K0) := by show _ ≤ _; have := HX.out; simp; omega
        clear HX
        go_roundw
        case rel => exact ⟨k - 1, _, d - 1, _, by omega, by rw [show (((k - 1 : Nat)) : Int) = (k : Int) - 1 by omega], by rw [show (((d - 1 : Nat)) : Int) = (d : Int) - 1 by omega], by omega, HX2, by omega, S9⟩
        case measure => simp [intOf]; omega
      · have hd0' : ¬ (0 : Int) < (d : Int) := by omega
        go_wp2_with fail
        have HX2 : RowKit.Hid ((xs).length + (k - 1) ≤ K0) := by show _ ≤ _; have := HX.out; simp; omega
        clear HX
        go_roundw
        case rel => exact ⟨k - 1, _, d, xs, by omega, by rw [show (((k - 1 : Nat)) : Int) = (k : Int) - 1 by omega], rfl, by omega, HX2, by omega, S7⟩
        case measure => simp [intOf]; omega
    have hm2 : m' ≤ m + 1 + 20 * K0 := by omega
    have hxd : xs.length + d ≤ 14 := by omega
    have hltk : ¬ (0 : Int) < (k : Int) := by omega
    clear HX hlt
    go_wp2_with fail
    go_loopw [5, 6] (fun o dv wr => ∃ (d : Nat) (xs : List Cmd), dv = .int .i64 (d : Int) ∧ RowKit.Hid (xs.length + d ≤ 14) ∧ St w0 wr (Own LCmd o xs :: Rdr w0 B m' :: Ls)) (fun _ dv _ => (intOf dv).toNat)
    case atStart => exact ⟨d, xs, rfl, hxd, S4⟩
    case round =>
      clear S4 hxl hd hxd
      obtain ⟨d, xs, rfl, HX, S4⟩ := hrel
      have hxl : xs.length ≤ 14 := by have := HX.out; omega
      have hdl : d ≤ 14 := by have := HX.out; omega
      by_cases hlt : 0 < d
      · have hlt' : (0 : Int) < (d : Int) := by omega
        go_wp2_with (at_builtin; refine wpList_app1 LCmd_info rfl _ _ rfl S4 (⟨6, 0, 0⟩ : Cmd) #[.int .i64 (6), .int .i64 (0), .int .i64 (0)] rfl rfl (by simp [Act.eval]) (by omega) ?_; intro v' wN S9)
        have HX2 : RowKit.Hid ((xs ++ [(⟨6, 0, 0⟩ : Cmd)]).length + (d - 1) ≤ 14) := by show _ ≤ _; have := HX.out; simp; omega
        clear S4 HX
        go_roundw
        case rel => exact ⟨d - 1, _, by rw [show (((d - 1 : Nat)) : Int) = (d : Int) - 1 by omega], HX2, S9⟩
        case measure => simp [intOf]; omega
      have hlt' : ¬ (0 : Int) < (d : Int) := by omega
      clear HX
      go_wp2_with fail
      refine (odd_s w0 B _ _ n _ S4.swap (by omega) hn).mono ?_
      rintro e w2 ⟨od, rfl, S6⟩
      clear S4
      cases od with
      | false =>
        have S7 := S6.swap
        clear S6
        go_wp2_with fail
        go_ret
        exact ⟨_, xs, _, rfl, by omega, by omega, S7⟩
      | true =>
        go_wp2_with fail
        refine (pick_s w0 B _ _ 4 _ S6 (by omega)).mono ?_
        rintro e w3 ⟨c, rfl, ⟨c0, c1, -⟩, S7⟩
        replace c1 := c1 (by omega)
        have S8 := S7.swap
        clear S6 S7
        by_cases h0 : c = 0
        · subst h0
          go_wp2_with (at_builtin; refine wpList_app1 LCmd_info rfl _ _ rfl S8 (⟨6, 0, 0⟩ : Cmd) #[.int .i64 (6), .int .i64 (0), .int .i64 (0)] rfl rfl (by simp [Act.eval]) (by omega) ?_; intro v' wN S9)
          go_ret
          exact ⟨_, _, _, rfl, by simp; omega, by omega, S9⟩
        by_cases h1 : c = 1
        · subst h1
          obtain ⟨HLa, hHLa⟩ : ∃ HL, HL = w3.heap.size := ⟨_, rfl⟩
          have SLa := (((S8.loc #[.int .i64 0, .int .i64 7] 3).swap).swap.rot)
          rw [← hHLa] at SLa
          have HHLa := Lib.hid hHLa
          clear hHLa
          go_wp2_with fail
          rw [← HHLa.out]
          refine (pick_s w0 B _ _ 2 _ SLa (by omega)).mono ?_
          rintro e wLa ⟨qa, rfl, ⟨q0a, q1a, -⟩, SMa⟩
          replace q1a := q1a (by omega)
          have SNa := St.swap SMa
          have hqa : qa.toNat < 2 := by omega
          have hlita := St.locCell SNa qa.toNat _ (lit2 .i64 0 7 qa.toNat hqa)
          obtain ⟨Za, hZa⟩ : ∃ Z, Z = sel [0, 7] qa.toNat := ⟨_, rfl⟩
          rw [← hZa] at hlita
          obtain ⟨hln1a, hln2a⟩ := St.locLt SNa
          have SPa := (St.tail SNa).swap
          clear hZa SLa SMa SNa
          go_wp2_with (at_builtin; refine wpList_app1 LCmd_info rfl _ _ rfl SPa (⟨Za, 0, 0⟩ : Cmd) #[.int .i64 (Za), .int .i64 (0), .int .i64 (0)] rfl rfl (by simp [Act.eval]) (by omega) ?_; intro v' wN S9)
          go_ret
          exact ⟨_, _, _, rfl, by simp; omega, by omega, S9⟩
        by_cases h2 : c = 2
        · subst h2
          obtain ⟨HLa, hHLa⟩ : ∃ HL, HL = w3.heap.size := ⟨_, rfl⟩
          have SLa := (((S8.loc #[.int .i64 0, .int .i64 100] 3).swap).swap.rot)
          rw [← hHLa] at SLa
          have HHLa := Lib.hid hHLa
          clear hHLa
          go_wp2_with fail
          rw [← HHLa.out]
          refine (pick_s w0 B _ _ 2 _ SLa (by omega)).mono ?_
          rintro e wLa ⟨qa, rfl, ⟨q0a, q1a, -⟩, SMa⟩
          replace q1a := q1a (by omega)
          have SNa := St.swap SMa
          have hqa : qa.toNat < 2 := by omega
          have hlita := St.locCell SNa qa.toNat _ (lit2 .i64 0 100 qa.toNat hqa)
          obtain ⟨Za, hZa⟩ : ∃ Z, Z = sel [0, 100] qa.toNat := ⟨_, rfl⟩
          rw [← hZa] at hlita
          obtain ⟨hln1a, hln2a⟩ := St.locLt SNa
          have SPa := (St.tail SNa).swap
          clear hZa SLa SMa SNa
          go_wp2_with (at_builtin; refine wpList_app1 LCmd_info rfl _ _ rfl SPa (⟨4, Za, 0⟩ : Cmd) #[.int .i64 (4), .int .i64 (Za), .int .i64 (0)] rfl rfl (by simp [Act.eval]) (by omega) ?_; intro v' wN S9)
          go_ret
          exact ⟨_, _, _, rfl, by simp; omega, by omega, S9⟩
        obtain rfl : c = 3 := by omega
        go_wp2_with (at_builtin; refine wpList_app1 LCmd_info rfl _ _ rfl S8 (⟨5, 2, 0⟩ : Cmd) #[.int .i64 (5), .int .i64 (2), .int .i64 (0)] rfl rfl (by simp [Act.eval]) (by omega) ?_; intro v' wN S9)
        go_ret
        exact ⟨_, _, _, rfl, by simp; omega, by omega, S9⟩
theorem DrawFormatProgram_any (a : Option Addr) (len cap : Nat) (w : World) (h : Byts w a len cap) :
    Calls Tryd.prog 7 #[.slice a len cap] w fun e w' => ∃ v xs, e = .returned v ∧ xs.length ≤ 16 ∧ St w w' [Own LCmd v xs] := by
  go_enter Tryd.func7, Tryd.ntmps7
  go_wp2_with fail
  refine (open_s a len cap w h).mono ?_
  rintro e w1 ⟨B, rfl, S1⟩
  go_wp2_with fail
  refine (prog_s w B 0 [] 9 _ S1 (by omega) (by omega)).mono ?_
  rintro e w2 ⟨v, xs, m', rfl, hl, -, S2⟩
  go_wp2_with fail
  go_ret
  exact ⟨v, xs, rfl, hl, St.drop1 (Ms := [_]) S2⟩
end Go.Proofs.YtbhelobahfgaeaaDoor
