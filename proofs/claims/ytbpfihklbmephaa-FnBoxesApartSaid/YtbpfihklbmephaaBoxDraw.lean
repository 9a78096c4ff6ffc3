/-
  The draw of two boxes.
-/
import Derived.Test.YtbpfihklbmephaaBox
namespace Go.Proofs.Ytbpfihklbmephaa
open Go Go.RowKit
attribute [local go_sem ↓] lit2
def l20BoxPost (w : World) (B m : Nat) (e : Ending) (w' : World) : Prop :=
  ∃ b : Bx, e = .returned b.v ∧ ((-1 ≤ b.x ∧ b.x ≤ 201) ∧ (0 ≤ b.y ∧ b.y ≤ 39) ∧ (0 ≤ b.w ∧ b.w ≤ 19) ∧ (0 ≤ b.d ∧ b.d ≤ 19)) ∧ Rd 60 w' B (m + 6) ∧ w.grownBy w' (some B)
set_option maxHeartbeats 4000000 in
theorem l20Box_any (B m : Nat) (n : Int) (w : World) (hr : Rd 60 w B m) (hm : m ≤ 100000) (hn : n ≤ 1000000) :
    Calls Try.prog 33 #[.pointer (some ⟨B, 0, none⟩), .int .i64 n] w (l20BoxPost w B m) := by
  have HL := Lib.hid hr.lt
  go_enter Try.func33, Try.ntmps33
  go_wp2_with fail
  refine (pick_any B _ 40 _ (hr.alloc _) (by omega)).mono ?_
  rintro e w1 ⟨x1, rfl, ⟨l1, u1, _⟩, r1, g1⟩
  replace u1 := u1 (by omega)
  clear hr
  go_wp2_with fail
  refine (pick_any B _ 40 _ r1 (by omega)).mono ?_
  rintro e w2 ⟨x2, rfl, ⟨l2, u2, _⟩, r2, g2⟩
  replace u2 := u2 (by omega)
  clear r1
  go_wp2_with fail
  refine (pick_any B _ 20 _ r2 (by omega)).mono ?_
  rintro e w3 ⟨x3, rfl, ⟨l3, u3, _⟩, r3, g3⟩
  replace u3 := u3 (by omega)
  clear r2
  go_wp2_with fail
  refine (pick_any B _ 20 _ r3 (by omega)).mono ?_
  rintro e w4 ⟨x4, rfl, ⟨l4, u4, _⟩, r4, g4⟩
  replace u4 := u4 (by omega)
  clear r3
  have GA := gb_trans (gb_trans (gb_trans g1 g2) g3) g4
  have hB := HL.out
  have hne : some B ≠ some w.heap.size := by simp; omega
  have hs4 : w.heap.size < w4.heap.size := by have := GA.size; simp at this; omega
  have hne4 : some B ≠ some w4.heap.size := by simp; omega
  have G4 := Lib.hid (gb_trans (World.grownBy_alloc w (.cells #[.int .i64 0, .int .i64 0, .int .i64 0, .int .i64 0] 25) (some B)) GA)
  have CA : ∀ o, o < 4 → w4.cell? ⟨w.heap.size, o, none⟩ = some (.int .i64 0) ∧ w4.frozen? ⟨w.heap.size, o, none⟩ = false := by
    intro o ho
    refine ⟨gb_cell GA ?_ hne, gb_frozen GA (by simp) (by simp [go_sem]) hne⟩
    rcases (show o = 0 ∨ o = 1 ∨ o = 2 ∨ o = 3 from by omega) with rfl | rfl | rfl | rfl <;> simp [go_sem]
  have HCA := Lib.hid CA
  clear CA g1 g2 g3 g4 GA
  go_wp2_with fail
  refine (odd_any B _ n _ (r4.alloc _) (by omega) hn).mono ?_
  rintro e w5 ⟨o, rfl, r5, g5⟩
  have HS : w4.heap.size + 1 ≤ w5.heap.size := by have := g5.size; simpa using this
  have G5 := Lib.hid (gb_trans (gb_alloc G4.out (.cells #[.int .i64 x1, .int .i64 x2, .int .i64 x3, .int .i64 x4] 25)) g5)
  have a0 := gb_cell g5 (b := w.heap.size) (o := 0) (v := .int .i64 0) (gb_cell (World.grownBy_alloc w4 _ none) (HCA.out 0 (by omega)).1 (by simp)) hne
  have a1 := gb_cell g5 (b := w.heap.size) (o := 1) (v := .int .i64 0) (gb_cell (World.grownBy_alloc w4 _ none) (HCA.out 1 (by omega)).1 (by simp)) hne
  have a2 := gb_cell g5 (b := w.heap.size) (o := 2) (v := .int .i64 0) (gb_cell (World.grownBy_alloc w4 _ none) (HCA.out 2 (by omega)).1 (by simp)) hne
  have a3 := gb_cell g5 (b := w.heap.size) (o := 3) (v := .int .i64 0) (gb_cell (World.grownBy_alloc w4 _ none) (HCA.out 3 (by omega)).1 (by simp)) hne
  have b0 := gb_frozen g5 (b := w.heap.size) (o := 0) (by simp; omega) (gb_frozen (World.grownBy_alloc w4 _ none) (by omega) (HCA.out 0 (by omega)).2 (by simp)) hne
  have b1 := gb_frozen g5 (b := w.heap.size) (o := 1) (by simp; omega) (gb_frozen (World.grownBy_alloc w4 _ none) (by omega) (HCA.out 1 (by omega)).2 (by simp)) hne
  have b2 := gb_frozen g5 (b := w.heap.size) (o := 2) (by simp; omega) (gb_frozen (World.grownBy_alloc w4 _ none) (by omega) (HCA.out 2 (by omega)).2 (by simp)) hne
  have b3 := gb_frozen g5 (b := w.heap.size) (o := 3) (by simp; omega) (gb_frozen (World.grownBy_alloc w4 _ none) (by omega) (HCA.out 3 (by omega)).2 (by simp)) hne
  have c0 := gb_cell g5 (b := w4.heap.size) (o := 0) (v := .int .i64 x1) (by simp [go_sem]) hne4
  have c1 := gb_cell g5 (b := w4.heap.size) (o := 1) (v := .int .i64 x2) (by simp [go_sem]) hne4
  have c2 := gb_cell g5 (b := w4.heap.size) (o := 2) (v := .int .i64 x3) (by simp [go_sem]) hne4
  have c3 := gb_cell g5 (b := w4.heap.size) (o := 3) (v := .int .i64 x4) (by simp [go_sem]) hne4
  have f0 := gb_frozen g5 (b := w4.heap.size) (o := 0) (by simp) (by simp [go_sem]) hne4
  clear g5 r4
  cases o with
  | false =>
    go_wp2_with fail
    refine bodyPost_ret (v := .agg #[.int .i64 x1, .int .i64 x2, .int .i64 x3, .int .i64 x4]) (by simp [results, Try.results33, go_sem, a0, a1, a2, a3]) rfl ⟨⟨x1, x2, x3, x4⟩, rfl, by simp only; omega, ?_, ?_⟩
    · exact ((((r5.mono (by omega)).setCell (by omega) 0 _).setCell (by omega) 1 _).setCell (by omega) 2 _).setCell (by omega) 3 _
    · exact gb_setNew (gb_setNew (gb_setNew (gb_setNew G5.out (Nat.le_refl _) 0 _) (Nat.le_refl _) 1 _) (Nat.le_refl _) 2 _) (Nat.le_refl _) 3 _
  | true =>
    go_wp2_with fail
    refine (pick_any B _ 2 _ (r5.alloc _) (by omega)).mono ?_
    rintro e w6 ⟨z, rfl, ⟨l6, u6, _⟩, r6, g6⟩
    replace u6 := u6 (by omega)
    have k1 : z.toNat < 2 := by omega
    have k2 := gb_cell g6 (b := w5.heap.size) (o := z.toNat) (v := .int .i64 (sel [-1, 201] z.toNat)) (by simp [go_sem, lit2, k1]) (by simp; omega)
    have k3 := sel_bd (l := [-1, 201]) (lo := -1) (hi := 201) (by decide) k1
    have G6 := Lib.hid (gb_trans (gb_alloc G5.out (.cells #[.int .i64 (-1), .int .i64 201] 3)) g6)
    have hd4 : ¬ w4.heap.size = w.heap.size := by omega
    have p0 := gb_cell g6 (b := w.heap.size) (o := 0) (v := .int .i64 0) (gb_cell (World.grownBy_alloc w5 _ none) a0 (by simp)) hne
    have q0 := gb_frozen g6 (b := w.heap.size) (o := 0) (by simp; omega) (gb_frozen (World.grownBy_alloc w5 _ none) (by omega) b0 (by simp)) hne
    have r0 := gb_cell g6 (b := w4.heap.size) (o := 0) (v := .int .i64 x1) (gb_cell (World.grownBy_alloc w5 _ none) c0 (by simp)) hne4
    have p1 := gb_cell g6 (b := w.heap.size) (o := 1) (v := .int .i64 0) (gb_cell (World.grownBy_alloc w5 _ none) a1 (by simp)) hne
    have q1 := gb_frozen g6 (b := w.heap.size) (o := 1) (by simp; omega) (gb_frozen (World.grownBy_alloc w5 _ none) (by omega) b1 (by simp)) hne
    have r1 := gb_cell g6 (b := w4.heap.size) (o := 1) (v := .int .i64 x2) (gb_cell (World.grownBy_alloc w5 _ none) c1 (by simp)) hne4
    have p2 := gb_cell g6 (b := w.heap.size) (o := 2) (v := .int .i64 0) (gb_cell (World.grownBy_alloc w5 _ none) a2 (by simp)) hne
    have q2 := gb_frozen g6 (b := w.heap.size) (o := 2) (by simp; omega) (gb_frozen (World.grownBy_alloc w5 _ none) (by omega) b2 (by simp)) hne
    have r2 := gb_cell g6 (b := w4.heap.size) (o := 2) (v := .int .i64 x3) (gb_cell (World.grownBy_alloc w5 _ none) c2 (by simp)) hne4
    have p3 := gb_cell g6 (b := w.heap.size) (o := 3) (v := .int .i64 0) (gb_cell (World.grownBy_alloc w5 _ none) a3 (by simp)) hne
    have q3 := gb_frozen g6 (b := w.heap.size) (o := 3) (by simp; omega) (gb_frozen (World.grownBy_alloc w5 _ none) (by omega) b3 (by simp)) hne
    have r3 := gb_cell g6 (b := w4.heap.size) (o := 3) (v := .int .i64 x4) (gb_cell (World.grownBy_alloc w5 _ none) c3 (by simp)) hne4
    have t0 := gb_frozen g6 (b := w4.heap.size) (o := 0) (by simp; omega) (gb_frozen (World.grownBy_alloc w5 _ none) (by omega) f0 (by simp)) hne4
    clear a0 a1 a2 a3 b0 b1 b2 b3 c0 c1 c2 c3 f0 g6 r5
    go_wp2_with fail
    refine bodyPost_ret (v := .agg #[.int .i64 (sel [-1, 201] z.toNat), .int .i64 x2, .int .i64 x3, .int .i64 x4]) (by simp [results, Try.results33, go_sem, p0, p1, p2, p3]) rfl ⟨⟨sel [-1, 201] z.toNat, x2, x3, x4⟩, rfl, by simp only; omega, ?_, ?_⟩
    · exact (((((r6.mono (by omega)).setCell (by omega) 0 _).setCell (by omega) 0 _).setCell (by omega) 1 _).setCell (by omega) 2 _).setCell (by omega) 3 _
    · exact gb_setNew (gb_setNew (gb_setNew (gb_setNew (gb_setNew G6.out (by omega) 0 _) (Nat.le_refl _) 0 _) (Nat.le_refl _) 1 _) (Nat.le_refl _) 2 _) (Nat.le_refl _) 3 _
/-- Two boxes drawn. -/
def DrawBB (w : World) (e : Ending) (w' : World) : Prop :=
  ∃ a b : Bx, e = .returned (.tuple #[a.v, b.v]) ∧ ((-1 ≤ a.x ∧ a.x ≤ 201) ∧ (0 ≤ a.y ∧ a.y ≤ 39) ∧ (0 ≤ a.w ∧ a.w ≤ 19) ∧ (0 ≤ a.d ∧ a.d ≤ 19)) ∧ w.grownBy w' none
set_option maxHeartbeats 4000000 in
theorem DrawBoxesApart_any (a : Option Addr) (len cap : Nat) (w : World) (h : Byts w a len cap) :
    Calls Try.prog 14 #[.slice a len cap] w (DrawBB w) := by
  have HB : RowKit.Hid (Byts ((w.alloc (.cells #[.int .i64 0, .int .i64 0, .int .i64 0, .int .i64 0] 25)).alloc (.cells #[.int .i64 0, .int .i64 0, .int .i64 0, .int .i64 0] 25)) a len cap) := by
    obtain ⟨h1, h2, h3⟩ := h
    refine ⟨h1, h2, ?_⟩
    rcases h3 with h3 | ⟨b, off, ha, h3⟩
    · exact .inl h3
    · exact .inr ⟨b, off, ha, fun j hj => by obtain ⟨c, hc, hr⟩ := h3 j hj; exact ⟨c, gb_cell (gb_alloc (World.grownBy_alloc w _ none) _) hc (by simp), hr⟩⟩
  clear h
  go_enter Try.func14, Try.ntmps14
  go_wp2_with fail
  refine (open_any _ _ _ _ HB.out).mono ?_
  rintro e w1 ⟨B, rfl, hB, r1, g1⟩
  simp only [World.size_alloc] at hB
  go_wp2_with fail
  refine (l20Box_any B _ 9 _ r1 (by omega) (by omega)).mono ?_
  rintro e w2 ⟨⟨px, py, pw, pd⟩, rfl, hp, r2, g2⟩
  simp only at hp
  have s2 := r2.lt
  simp only [Bx.v]
  go_wp2_with fail
  refine (l20Box_any B _ 9 _ (r2.alloc _) (by omega) (by omega)).mono ?_
  rintro e w3 ⟨⟨qx, qy, qw, qd⟩, rfl, hq, r3, g3⟩
  simp only at hq
  have s3 : w2.heap.size + 1 ≤ w3.heap.size := by have := g3.size; simpa using this
  simp only [Bx.v]
  go_wp2_with fail
  refine (odd_any B _ 5 _ (r3.alloc _) (by omega) (by omega)).mono ?_
  rintro e w4 ⟨o, rfl, r4, g4⟩
  have s4 : w3.heap.size + 1 ≤ w4.heap.size := by have := g4.size; simpa using this
  have GB := gb_trans (gb_alloc g3 (.cells #[.int .i64 qx, .int .i64 qy, .int .i64 qw, .int .i64 qd] 25)) g4
  have GA := gb_trans (gb_alloc (gb_trans (gb_any g1 (some B)) g2) (.cells #[.int .i64 px, .int .i64 py, .int .i64 pw, .int .i64 pd] 25)) GB
  have hs2 : w.heap.size + 2 < w2.heap.size := by omega
  have G4 := Lib.hid (gb_new (gb_trans (gb_alloc (World.grownBy_alloc w (.cells #[.int .i64 0, .int .i64 0, .int .i64 0, .int .i64 0] 25) (some B)) (.cells #[.int .i64 0, .int .i64 0, .int .i64 0, .int .i64 0] 25)) GA) (fun k hk => by rw [← Option.some.inj hk]; omega))
  have a0 := gb_cell GA (b := w.heap.size) (o := 0) (v := .int .i64 0) (by simp [go_sem]) (by simp; omega)
  have fa0 := gb_frozen GA (b := w.heap.size) (o := 0) (by simp; try omega) (by simp [go_sem]) (by simp; omega)
  have a1 := gb_cell GA (b := w.heap.size) (o := 1) (v := .int .i64 0) (by simp [go_sem]) (by simp; omega)
  have fa1 := gb_frozen GA (b := w.heap.size) (o := 1) (by simp; try omega) (by simp [go_sem]) (by simp; omega)
  have a2 := gb_cell GA (b := w.heap.size) (o := 2) (v := .int .i64 0) (by simp [go_sem]) (by simp; omega)
  have fa2 := gb_frozen GA (b := w.heap.size) (o := 2) (by simp; try omega) (by simp [go_sem]) (by simp; omega)
  have a3 := gb_cell GA (b := w.heap.size) (o := 3) (v := .int .i64 0) (by simp [go_sem]) (by simp; omega)
  have fa3 := gb_frozen GA (b := w.heap.size) (o := 3) (by simp; try omega) (by simp [go_sem]) (by simp; omega)
  have b0 := gb_cell GA (b := w.heap.size + 1) (o := 0) (v := .int .i64 0) (by simp [go_sem]) (by simp; omega)
  have fb0 := gb_frozen GA (b := w.heap.size + 1) (o := 0) (by simp; try omega) (by simp [go_sem]) (by simp; omega)
  have b1 := gb_cell GA (b := w.heap.size + 1) (o := 1) (v := .int .i64 0) (by simp [go_sem]) (by simp; omega)
  have fb1 := gb_frozen GA (b := w.heap.size + 1) (o := 1) (by simp; try omega) (by simp [go_sem]) (by simp; omega)
  have b2 := gb_cell GA (b := w.heap.size + 1) (o := 2) (v := .int .i64 0) (by simp [go_sem]) (by simp; omega)
  have fb2 := gb_frozen GA (b := w.heap.size + 1) (o := 2) (by simp; try omega) (by simp [go_sem]) (by simp; omega)
  have b3 := gb_cell GA (b := w.heap.size + 1) (o := 3) (v := .int .i64 0) (by simp [go_sem]) (by simp; omega)
  have fb3 := gb_frozen GA (b := w.heap.size + 1) (o := 3) (by simp; try omega) (by simp [go_sem]) (by simp; omega)
  have c0 := gb_cell GB (b := w2.heap.size) (o := 0) (v := .int .i64 px) (by simp [go_sem]) (by simp; omega)
  have d0 := gb_cell g4 (b := w3.heap.size) (o := 0) (v := .int .i64 qx) (by simp [go_sem]) (by simp; omega)
  have c1 := gb_cell GB (b := w2.heap.size) (o := 1) (v := .int .i64 py) (by simp [go_sem]) (by simp; omega)
  have d1 := gb_cell g4 (b := w3.heap.size) (o := 1) (v := .int .i64 qy) (by simp [go_sem]) (by simp; omega)
  have c2 := gb_cell GB (b := w2.heap.size) (o := 2) (v := .int .i64 pw) (by simp [go_sem]) (by simp; omega)
  have d2 := gb_cell g4 (b := w3.heap.size) (o := 2) (v := .int .i64 qw) (by simp [go_sem]) (by simp; omega)
  have c3 := gb_cell GB (b := w2.heap.size) (o := 3) (v := .int .i64 pd) (by simp [go_sem]) (by simp; omega)
  have d3 := gb_cell g4 (b := w3.heap.size) (o := 3) (v := .int .i64 qd) (by simp [go_sem]) (by simp; omega)
  have e0 := gb_frozen g4 (b := w3.heap.size) (o := 0) (by simp; try omega) (by simp [go_sem]) (by simp; omega)
  have n1 : ¬ w.heap.size = w.heap.size + 1 := by omega
  have n2 : ¬ w.heap.size = w2.heap.size := by omega
  have n3 : ¬ w.heap.size = w3.heap.size := by omega
  have n4 : ¬ w.heap.size + 1 = w2.heap.size := by omega
  have n5 : ¬ w.heap.size + 1 = w3.heap.size := by omega
  have n6 : ¬ w2.heap.size = w3.heap.size := by omega
  have n7 : ¬ w3.heap.size = w2.heap.size := by omega
  have n8 : ¬ w2.heap.size = w.heap.size := by omega
  have n9 : ¬ w3.heap.size = w.heap.size := by omega
  have n10 : ¬ w2.heap.size = w.heap.size + 1 := by omega
  have n11 : ¬ w3.heap.size = w.heap.size + 1 := by omega
  have HP := Lib.hid hp
  clear g1 g2 g3 g4 GA GB r1 r2 r3 hq
  cases o with
  | false =>
    go_wp2_with fail
    go_region
    all_goals
      go_wp2_with fail
      refine bodyPost_ret (v := .tuple #[.agg #[.int .i64 px, .int .i64 py, .int .i64 pw, .int .i64 pd], .agg #[.int .i64 qx, .int .i64 qy, .int .i64 qw, .int .i64 qd]]) (by simp [results, Try.results14, go_sem, a0, a1, a2, a3, b0, b1, b2, b3]) rfl ⟨⟨px, py, pw, pd⟩, ⟨qx, qy, qw, qd⟩, rfl, HP.out, ?_⟩
      repeat (first | with_reducible exact G4.out | with_reducible apply gb_drew | (with_reducible refine gb_setNew ?_ ?_ _ _; rotate_left; omega))
  | true =>
    go_wp2_with fail
    go_region
    all_goals
      go_wp2_with fail
      refine bodyPost_ret (v := .tuple #[.agg #[.int .i64 px, .int .i64 py, .int .i64 pw, .int .i64 pd], .agg #[.int .i64 (px + pw), .int .i64 qy, .int .i64 qw, .int .i64 qd]]) (by simp [results, Try.results14, go_sem, a0, a1, a2, a3, b0, b1, b2, b3]) rfl ⟨⟨px, py, pw, pd⟩, ⟨(px + pw), qy, qw, qd⟩, rfl, HP.out, ?_⟩
      repeat (first | with_reducible exact G4.out | with_reducible apply gb_drew | (with_reducible refine gb_setNew ?_ ?_ _ _; rotate_left; omega))
end Go.Proofs.Ytbpfihklbmephaa
