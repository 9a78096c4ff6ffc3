/-
  impl.ParseProgram.
-/
import Derived.Test.YtbhelobahfgaeaaDoorParse0
import Derived.Test.YtbhelobahfgaeaaDoorReadI
import Derived.Test.YtbhelobahfgaeaaDoorCommandS
namespace Go.Proofs.YtbhelobahfgaeaaDoor
open Go Go.RowKit
set_option linter.unusedVariables false
set_option maxRecDepth 20000 in
set_option maxHeartbeats 1000000 in
theorem i_ParseProgram (v : Value) (ls : List ByteArray) (w : World) (E : Env w) (hz : ∀ (j : Nat) x, ls[j]? = some x → x.size ≤ 4294967200) (hl : ls.length ≤ 2000000) (hv : Rds LS w v ls) :
    Calls Tryd.prog 13 #[v] w fun e w' => ∃ r, e = .returned (.tuple #[r, .int .i64 (parseN ls)]) ∧ St w w' [Own LCmd r (parseL ls)] := by
  obtain ⟨a, n, cap, rfl, h1, hm, HN, HC⟩ := LS_get hv
  have hn1 : n ≤ 2000000 := by rw [HN.out]; exact hl
  have HZ := Lib.hid hz
  have S0 : St w w [Own LCmd (.slice none 0 0) (cmdsL (ls.take 0))] := (St.refl w).ownNil LCmd
  clear hl hz
  go_enter Tryd.func13, Tryd.ntmps13
  go_wp2_with fail
  go_loopw [4, 5, 6, 7, 8, 11] (fun o _ _ _ _ i wr => ∃ k : Nat, k ≤ n ∧ i = .int .i64 k ∧ RowKit.Hid (∀ (j : Nat) t, j < k → ls[j]? = some t → (readI t).isSome = true) ∧ St w wr [Own LCmd o (cmdsL (ls.take k))]) (fun _ _ _ _ _ i _ => n - (intOf i).toNat)
  case atStart => exact ⟨0, by omega, rfl, (fun j t hj => by omega), S0⟩
  case round =>
    obtain ⟨k, hk, rfl, HE, S⟩ := hrel
    clear S0
    by_cases hlt : k < n
    · have hki : (k : Int) < (n : Int) := by omega
      obtain ⟨b, off, s, rfl, hb, hs, hc⟩ := HC.out k hlt
      have hc' := gb_cell S.gb hc (by simp)
      have RD := Lib.hid (i_read s wr (E.grow S.gb) (HZ.out k s hs.out))
      cases hr : readI s with
      | none =>
        rw [hr] at RD
        obtain ⟨e1, e2⟩ := parse_bad (badL_at HE.out hs.out hr)
        have FN : RowKit.Hid (∀ W, w.grownBy W none → ∃ r, Ending.returned (Value.tuple #[.slice none 0 0, .int .i64 ((k : Int) + 1)]) = .returned (.tuple #[r, .int .i64 (parseN ls)]) ∧ St w W [Own LCmd r (parseL ls)]) := by
          intro W g
          rw [e1, e2]
          exact ⟨_, rfl, ((St.refl w).grow g).ownNil LCmd⟩
        have G := Lib.hid S.gb
        clear hr e1 e2 S HE HC hs
        go_wp2_with fail
        refine RD.out.mono ?_
        rintro e w2 ⟨rfl, g2⟩
        dsimp only [cmdV, Option.isSome]
        have G2 := Lib.hid (gb_trans G.out g2)
        have G3 := Lib.hid (gb_alloc G2.out (.cells #[.int .i64 0, .int .i64 0, .int .i64 0] 47))
        go_wp2_with fail
        exact bodyPost_ret (v := .tuple #[.slice none 0 0, .int .i64 ((k : Int) + 1)]) (by simp [results, Tryd.results13, go_sem]) rfl (FN.out _ G3.out)
      | some c =>
        rw [hr] at RD
        have HE2 := Lib.hid (some_step HE.out hs.out hr)
        have CS := Lib.hid (cmds_step hs.out hr)
        have hkl : (cmdsL (ls.take k)).length ≤ 1000000000 := by
          have := cmds_len (ls.take k)
          rw [List.length_take] at this
          omega
        obtain ⟨K, A, B⟩ := c
        clear hr HE hs
        go_wp2_with fail
        refine RD.out.mono ?_
        rintro e w2 ⟨rfl, g2⟩
        dsimp only [cmdV, Option.isSome]
        have S2 := (S.grow g2).grow (gb_alloc (World.grownBy.refl w2 none) (.cells #[.int .i64 K, .int .i64 A, .int .i64 B] 47))
        clear S
        go_wp2_with (at_builtin; refine wpList_app1 LCmd_info rfl _ _ rfl S2 ⟨K, A, B⟩ #[.int .i64 K, .int .i64 A, .int .i64 B] rfl rfl (by simp [Act.eval]) hkl ?_; intro v' w5 S3; rw [CS.out] at S3; clear S2)
        go_roundw
        case rel => exact ⟨k + 1, by omega, by go_num, HE2, S3⟩
        case measure => simp [intOf]; omega
    · obtain rfl : k = n := by omega
      have hbn := Lib.hid (badL_none (ls := ls) (fun j t hj ht => HE.out j t (by rw [HN.out]; exact hj) ht))
      have S1 : St w wr [Own LCmd u4 (cmdsL ls)] := by
        have := S
        rwa [HN.out, List.take_length] at this
      have PV := Lib.hid (i_ProgramValid _ _ wr (St.own S1))
      clear S HE HC
      cases hp : progB (cmdsL ls) with
      | false =>
        rw [hp] at PV
        obtain ⟨e1, e2⟩ := parse_not hbn.out hp
        have FN : RowKit.Hid (∀ W, w.grownBy W none → ∃ r, Ending.returned (Value.tuple #[.slice none 0 0, .int .i64 ((k : Int) + 1)]) = .returned (.tuple #[r, .int .i64 (parseN ls)]) ∧ St w W [Own LCmd r (parseL ls)]) := by
          intro W g
          rw [e1, e2, HN.out]
          exact ⟨_, rfl, ((St.refl w).grow g).ownNil LCmd⟩
        have G := Lib.hid S1.gb
        clear e1 e2 S1
        go_wp2_with fail
        refine PV.out.mono ?_
        rintro e w2 ⟨rfl, g2⟩
        have G2 := Lib.hid (gb_trans G.out g2)
        go_wp2_with fail
        exact bodyPost_ret (v := .tuple #[.slice none 0 0, .int .i64 ((k : Int) + 1)]) (by simp [results, Tryd.results13, go_sem]) rfl (FN.out _ G2.out)
      | true =>
        rw [hp] at PV
        obtain ⟨e1, e2⟩ := parse_yes hbn.out hp
        have FN : RowKit.Hid (∀ W, St w W [Own LCmd u4 (cmdsL ls)] → ∃ r, Ending.returned (Value.tuple #[u4, .int .i64 0]) = .returned (.tuple #[r, .int .i64 (parseN ls)]) ∧ St w W [Own LCmd r (parseL ls)]) := by
          intro W g
          rw [e1, e2]
          exact ⟨_, rfl, g⟩
        have SH := Lib.hid S1
        clear e1 e2 S1
        go_wp2_with fail
        refine PV.out.mono ?_
        rintro e w2 ⟨rfl, g2⟩
        go_wp2_with fail
        exact bodyPost_ret (v := .tuple #[u4, .int .i64 0]) (by simp [results, Tryd.results13, go_sem]) rfl (FN.out _ (SH.out.grow g2))
end Go.Proofs.YtbhelobahfgaeaaDoor
