/-
  The draw of a point.
-/
import Derived.Test.YtbhelobahfgaeaaDoorRdr
import Derived.Test.YtbhelobahfgaeaaDoorLoc
namespace Go.Proofs.YtbhelobahfgaeaaDoor
open Go Go.RowKit
def PtQ (w0 : World) (B m : Nat) (Ls : List Asr) (e : Ending) (w' : World) : Prop :=
  ∃ (x y : Int) (m' : Nat), e = .returned (.agg #[.int .i64 x, .int .i64 y]) ∧ (-10001 ≤ x ∧ x ≤ 10001) ∧ (-10001 ≤ y ∧ y ≤ 10001) ∧ m' ≤ m + 10 ∧ St w0 w' (Rdr w0 B m' :: Ls)
set_option maxHeartbeats 8000000 in
theorem point_s (w0 : World) (B m : Nat) (Ls : List Asr) (n : Int) (w : World) (S : St w0 w (Rdr w0 B m :: Ls)) (hm : m ≤ 950000) (hn : n ≤ 1000000) :
    Calls Tryd.prog 41 #[.pointer (some ⟨B, 0, none⟩), .int .i64 n] w (PtQ w0 B m Ls) := by
  obtain ⟨H0, hH0⟩ : ∃ H0, H0 = w.heap.size := ⟨_, rfl⟩
  have S1 : St w0 (w.alloc (.cells #[.int .i64 0, .int .i64 0] 58)) (Rdr w0 B m :: Loc H0 58 #[.int .i64 0, .int .i64 0] :: Ls) := by
    have := (S.loc #[.int .i64 0, .int .i64 0] 58).swap
    rw [← hH0] at this
    exact this
  have HH0 := Lib.hid hH0
  clear S hH0
  go_enter Tryd.func41, Tryd.ntmps41
  go_wp2_with fail
  rw [← HH0.out]
  refine (pick_s w0 B _ _ 41 _ S1 (by omega)).mono ?_
  rintro e w1 ⟨x, rfl, ⟨x0, x1, -⟩, S2⟩
  replace x1 := x1 (by omega)
  clear S1
  go_wp2_with fail
  refine (pick_s w0 B _ _ 41 _ S2 (by omega)).mono ?_
  rintro e w2 ⟨y, rfl, ⟨y0, y1, -⟩, S3⟩
  replace y1 := y1 (by omega)
  clear S2
  obtain ⟨HP, hHP⟩ : ∃ HP, HP = w2.heap.size := ⟨_, rfl⟩
  have S4 : St w0 (w2.alloc (.cells #[.int .i64 (x - 20), .int .i64 (y - 20)] 58)) (Rdr w0 B (m + 1 + 1) :: Loc HP 58 #[.int .i64 (x - 20), .int .i64 (y - 20)] :: Loc H0 58 #[.int .i64 0, .int .i64 0] :: Ls) := by
    have := (S3.loc #[.int .i64 (x - 20), .int .i64 (y - 20)] 58).swap
    rw [← hHP] at this
    exact this
  have HHP := Lib.hid hHP
  have HNE : RowKit.Hid (H0 < HP) := by show H0 < HP; rw [hHP]; exact (St.locLt (St.swap S3)).2
  clear S3 hHP
  go_wp2_with fail
  rw [← HHP.out]
  refine (pick_s w0 B _ _ 3 _ S4 (by omega)).mono ?_
  rintro e w3 ⟨c, rfl, ⟨c0, c1, -⟩, S5⟩
  clear S4
  by_cases hc0 : c = 0
  · subst hc0
    go_wp2_with fail
    refine (pick_s w0 B _ _ 256 _ S5 (by omega)).mono ?_
    rintro e w4 ⟨x', rfl, ⟨x0', x1', -⟩, S6⟩
    replace x1' := x1' (by omega)
    clear S5
    go_wp2_with fail
    refine (pick_s w0 B _ _ 256 _ S6 (by omega)).mono ?_
    rintro e w5 ⟨y', rfl, ⟨y0', y1', -⟩, S7⟩
    replace y1' := y1' (by omega)
    clear S6
    have SA := St.swap S7
    have hp0 := St.locCell SA 0 (.int .i64 (x - 20)) rfl
    have hp1 := St.locCell SA 1 (.int .i64 (y - 20)) rfl
    have hpf := fun j => St.locFrozen SA j
    obtain ⟨hpl1, hpl2⟩ := St.locLt SA
    have SB := St.swap ((SA.locSet 0 (.int .i64 (x' * 4 - 500))).locSet 1 (.int .i64 (y' * 4 - 500)))
    have SBB : St w0 ((w5.setCell ⟨HP, 0, none⟩ (.int .i64 (x' * 4 - 500))).setCell ⟨HP, 1, none⟩ (.int .i64 (y' * 4 - 500))) (Rdr w0 B (m + 1 + 1 + 1 + 1 + 1) :: Loc HP 58 #[.int .i64 (x' * 4 - 500), .int .i64 (y' * 4 - 500)] :: Loc H0 58 #[.int .i64 0, .int .i64 0] :: Ls) := SB
    clear SA SB S7
    go_wp2_with fail
    refine (odd_s w0 B _ _ n _ SBB (by omega) hn).mono ?_
    rintro e w8 ⟨od, rfl, S8⟩
    clear SBB
    cases od with
    | false =>
      have SA := St.swap S8
      clear S8
      have hp0 := St.locCell SA 0 (.int .i64 (x' * 4 - 500)) rfl
      have hp1 := St.locCell SA 1 (.int .i64 (y' * 4 - 500)) rfl
      have SB := St.rot SA
      have hr0 := St.locCell SB 0 (.int .i64 0) rfl
      have hr1 := St.locCell SB 1 (.int .i64 0) rfl
      have hrf := fun j => St.locFrozen SB j
      have SC := (SB.locSet 0 (.int .i64 (x' * 4 - 500))).locSet 1 (.int .i64 (y' * 4 - 500))
      have SD := Lib.hid (St.tail (St.tail SC))
      obtain ⟨hl1, hl2⟩ := St.locLt SA
      obtain ⟨hl3, hl4⟩ := St.locLt SB
      clear SA SB SC
      go_wp2
      refine bodyPost_ret (v := .agg #[.int .i64 (x' * 4 - 500), .int .i64 (y' * 4 - 500)]) (by simp [results, Tryd.results41, go_sem, hr0, hr1, hrf, hl4]) rfl ⟨(x' * 4 - 500), (y' * 4 - 500), _, rfl, ⟨by omega, by omega⟩, ⟨by omega, by omega⟩, by omega, SD.out⟩
    | true =>
      obtain ⟨HL, hHL⟩ : ∃ HL, HL = w8.heap.size := ⟨_, rfl⟩
      have S9 := (S8.loc #[.int .i64 10001, .int .i64 (-10001), .int .i64 10000] 3).swap
      rw [← hHL] at S9
      have HHL := Lib.hid hHL
      clear S8 hHL
      go_wp2_with fail
      rw [← HHL.out]
      refine (pick_s w0 B _ _ 3 _ S9 (by omega)).mono ?_
      rintro e w9 ⟨q, rfl, ⟨q0, q1, -⟩, S10⟩
      replace q1 := q1 (by omega)
      clear S9
      have S11 := St.swap S10
      have hq3 : q.toNat < 3 := by omega
      have hlit := St.locCell S11 q.toNat _ (lit3 .i64 10001 (-10001) 10000 q.toNat hq3)
      obtain ⟨sb0, sb1⟩ := sel_bd (l := [10001, -10001, 10000]) (lo := -10001) (hi := 10001) (by decide) hq3
      obtain ⟨Z, hZ⟩ : ∃ Z, Z = sel [10001, -10001, 10000] q.toNat := ⟨_, rfl⟩
      rw [← hZ] at hlit sb0 sb1
      have S12 := St.swap (St.tail S11)
      have hx0 := St.locCell S12 0 (.int .i64 (x' * 4 - 500)) rfl
      have hx1 := St.locCell S12 1 (.int .i64 (y' * 4 - 500)) rfl
      have hxf := fun j => St.locFrozen S12 j
      obtain ⟨hl1, hl2⟩ := St.locLt S12
      have S13 := S12.locSet 0 (.int .i64 Z)
      have SB := St.rot S13
      have SBo := St.rot S12
      have hr0 := St.locCell SBo 0 (.int .i64 0) rfl
      have hr1 := St.locCell SBo 1 (.int .i64 0) rfl
      have hrf := fun j => St.locFrozen SBo j
      obtain ⟨hl3, hl4⟩ := St.locLt SBo
      have hne : HP ≠ H0 := by
        intro e
        have := HNE.out
        omega
      have SC := (SB.locSet 0 (.int .i64 Z)).locSet 1 (.int .i64 (y' * 4 - 500))
      have SD := Lib.hid (St.tail (St.tail SC))
      clear S10 S11 S12 S13 SB SBo SC hZ
      go_wp2
      refine bodyPost_ret (v := .agg #[.int .i64 Z, .int .i64 (y' * 4 - 500)]) (by simp [results, Tryd.results41, go_sem, hr0, hr1, hrf, hl4, hne, hne.symm]) rfl ⟨Z, (y' * 4 - 500), _, rfl, ⟨by omega, by omega⟩, ⟨by omega, by omega⟩, by omega, SD.out⟩
  · have hcc : (c == 0) = false := by simpa using hc0
    go_wp2_with fail
    refine (odd_s w0 B _ _ n _ S5 (by omega) hn).mono ?_
    rintro e w8 ⟨od, rfl, S8⟩
    clear S5
    cases od with
    | false =>
      have SA := St.swap S8
      clear S8
      have hp0 := St.locCell SA 0 (.int .i64 (x - 20)) rfl
      have hp1 := St.locCell SA 1 (.int .i64 (y - 20)) rfl
      have SB := St.rot SA
      have hr0 := St.locCell SB 0 (.int .i64 0) rfl
      have hr1 := St.locCell SB 1 (.int .i64 0) rfl
      have hrf := fun j => St.locFrozen SB j
      have SC := (SB.locSet 0 (.int .i64 (x - 20))).locSet 1 (.int .i64 (y - 20))
      have SD := Lib.hid (St.tail (St.tail SC))
      obtain ⟨hl1, hl2⟩ := St.locLt SA
      obtain ⟨hl3, hl4⟩ := St.locLt SB
      clear SA SB SC
      go_wp2
      refine bodyPost_ret (v := .agg #[.int .i64 (x - 20), .int .i64 (y - 20)]) (by simp [results, Tryd.results41, go_sem, hr0, hr1, hrf, hl4]) rfl ⟨(x - 20), (y - 20), _, rfl, ⟨by omega, by omega⟩, ⟨by omega, by omega⟩, by omega, SD.out⟩
    | true =>
      obtain ⟨HL, hHL⟩ : ∃ HL, HL = w8.heap.size := ⟨_, rfl⟩
      have S9 := (S8.loc #[.int .i64 10001, .int .i64 (-10001), .int .i64 10000] 3).swap
      rw [← hHL] at S9
      have HHL := Lib.hid hHL
      clear S8 hHL
      go_wp2_with fail
      rw [← HHL.out]
      refine (pick_s w0 B _ _ 3 _ S9 (by omega)).mono ?_
      rintro e w9 ⟨q, rfl, ⟨q0, q1, -⟩, S10⟩
      replace q1 := q1 (by omega)
      clear S9
      have S11 := St.swap S10
      have hq3 : q.toNat < 3 := by omega
      have hlit := St.locCell S11 q.toNat _ (lit3 .i64 10001 (-10001) 10000 q.toNat hq3)
      obtain ⟨sb0, sb1⟩ := sel_bd (l := [10001, -10001, 10000]) (lo := -10001) (hi := 10001) (by decide) hq3
      obtain ⟨Z, hZ⟩ : ∃ Z, Z = sel [10001, -10001, 10000] q.toNat := ⟨_, rfl⟩
      rw [← hZ] at hlit sb0 sb1
      have S12 := St.swap (St.tail S11)
      have hx0 := St.locCell S12 0 (.int .i64 (x - 20)) rfl
      have hx1 := St.locCell S12 1 (.int .i64 (y - 20)) rfl
      have hxf := fun j => St.locFrozen S12 j
      obtain ⟨hl1, hl2⟩ := St.locLt S12
      have S13 := S12.locSet 0 (.int .i64 Z)
      have SB := St.rot S13
      have SBo := St.rot S12
      have hr0 := St.locCell SBo 0 (.int .i64 0) rfl
      have hr1 := St.locCell SBo 1 (.int .i64 0) rfl
      have hrf := fun j => St.locFrozen SBo j
      obtain ⟨hl3, hl4⟩ := St.locLt SBo
      have hne : HP ≠ H0 := by
        intro e
        have := HNE.out
        omega
      have SC := (SB.locSet 0 (.int .i64 Z)).locSet 1 (.int .i64 (y - 20))
      have SD := Lib.hid (St.tail (St.tail SC))
      clear S10 S11 S12 S13 SB SBo SC hZ
      go_wp2
      refine bodyPost_ret (v := .agg #[.int .i64 Z, .int .i64 (y - 20)]) (by simp [results, Tryd.results41, go_sem, hr0, hr1, hrf, hl4, hne, hne.symm]) rfl ⟨Z, (y - 20), _, rfl, ⟨by omega, by omega⟩, ⟨by omega, by omega⟩, by omega, SD.out⟩
end Go.Proofs.YtbhelobahfgaeaaDoor
