/-
  The draw of a set for the law on centers: a set of a picture, or numbers at will with no box. Nothing that was there is written.
-/
import Derived.Test.YtpkcpkhanodnmaaImageDraw
import Derived.Test.YtpkcpkhanodnmaaBlobsR
import Derived.Test.YtpkcpkhanodnmaaBlobLaw2
import Derived.Test.YtpkcpkhanodnmaaLoc
import Derived.Test.YtpkcpkhanodnmaaDrawn2
namespace Go.Proofs.Ytpkcpkhanodnmaa
open Go Go.RowKit
theorem St.loc7 {w0 w : World} {b : Nat} {T : TypeId} {a0 a1 a2 a3 a4 a5 a6 : Value} {Ls : List Asr} (S : St w0 w (Loc b T #[a0, a1, a2, a3, a4, a5, a6] :: Ls)) (u0 u1 u2 u3 u4 u5 u6 : Value) :
    St w0 (((((((w.setCell ⟨b, 0, none⟩ u0).setCell ⟨b, 1, none⟩ u1).setCell ⟨b, 2, none⟩ u2).setCell ⟨b, 3, none⟩ u3).setCell ⟨b, 4, none⟩ u4).setCell ⟨b, 5, none⟩ u5).setCell ⟨b, 6, none⟩ u6) (Loc b T #[u0, u1, u2, u3, u4, u5, u6] :: Ls) := by
  have := ((((((S.locSet 0 u0).locSet 1 u1).locSet 2 u2).locSet 3 u3).locSet 4 u4).locSet 5 u5).locSet 6 u6
  simp only [List.setIfInBounds_toArray, List.set_cons_zero, List.set_cons_succ] at this
  exact this
theorem loc7_cells {w0 w : World} {b : Nat} {T : TypeId} {a0 a1 a2 a3 a4 a5 a6 : Value} {Ls : List Asr} (S : St w0 w (Loc b T #[a0, a1, a2, a3, a4, a5, a6] :: Ls)) :
    (w.cell? ⟨b, 0, none⟩ = some a0 ∧ w.cell? ⟨b, 1, none⟩ = some a1 ∧ w.cell? ⟨b, 2, none⟩ = some a2 ∧ w.cell? ⟨b, 3, none⟩ = some a3 ∧ w.cell? ⟨b, 4, none⟩ = some a4 ∧ w.cell? ⟨b, 5, none⟩ = some a5 ∧ w.cell? ⟨b, 6, none⟩ = some a6) ∧
    (w.frozen? ⟨b, 0, none⟩ = false ∧ w.frozen? ⟨b, 1, none⟩ = false ∧ w.frozen? ⟨b, 2, none⟩ = false ∧ w.frozen? ⟨b, 3, none⟩ = false ∧ w.frozen? ⟨b, 4, none⟩ = false ∧ w.frozen? ⟨b, 5, none⟩ = false ∧ w.frozen? ⟨b, 6, none⟩ = false) :=
  ⟨⟨S.locCell 0 _ rfl, S.locCell 1 _ rfl, S.locCell 2 _ rfl, S.locCell 3 _ rfl, S.locCell 4 _ rfl, S.locCell 5 _ rfl, S.locCell 6 _ rfl⟩, S.locFrozen 0, S.locFrozen 1, S.locFrozen 2, S.locFrozen 3, S.locFrozen 4, S.locFrozen 5, S.locFrozen 6⟩
theorem lowB.set7 (H : Nat) (w : World) {b : Nat} (hb : b < H) (u0 u1 u2 u3 u4 u5 u6 : Value) :
    lowB H w (((((((w.setCell ⟨b, 0, none⟩ u0).setCell ⟨b, 1, none⟩ u1).setCell ⟨b, 2, none⟩ u2).setCell ⟨b, 3, none⟩ u3).setCell ⟨b, 4, none⟩ u4).setCell ⟨b, 5, none⟩ u5).setCell ⟨b, 6, none⟩ u6) :=
  ((((((lowB.set H w hb 0 u0).trans (lowB.set H _ hb 1 u1)).trans (lowB.set H _ hb 2 u2)).trans (lowB.set H _ hb 3 u3)).trans (lowB.set H _ hb 4 u4)).trans (lowB.set H _ hb 5 u5)).trans (lowB.set H _ hb 6 u6)
def DBlobQ (w : World) (e : Ending) (w' : World) : Prop := ∃ b : Blb, e = .returned b.val ∧ (BFin b ∨ b.Right = 0) ∧ w.grownBy w' none
set_option maxRecDepth 100000 in
set_option maxHeartbeats 4000000 in
theorem DrawBlobCenter_any (a : Option Addr) (len cap : Nat) (w : World) (h : Byts w a len cap) :
    Calls Try.prog 25 #[.slice a len cap] w (DBlobQ w) := by
  have HB := Lib.hid h
  clear h
  go_enter Try.func25, Try.ntmps25
  have S0 : St w (w.alloc (.cells #[.int .i64 0, .int .i64 0, .int .i64 0, .int .i64 0, .int .i64 0, .int .i64 0, .int .i64 0] 27)) [Loc w.heap.size 27 #[.int .i64 0, .int .i64 0, .int .i64 0, .int .i64 0, .int .i64 0, .int .i64 0, .int .i64 0]] := (St.refl w).loc _ _
  go_wp2_with fail
  refine (open_g w _ a len cap _ S0 HB.out).mono ?_
  rintro e w1 ⟨B, rfl, S1⟩
  clear S0
  go_wp2_with fail
  refine (image_s w B 0 _ 0 _ S1 (by omega) (by omega)).mono ?_
  rintro e w2 ⟨v, ys, m', rfl, hl, ht, hm', S2⟩
  clear S1
  go_wp2_with fail
  refine (s_FindBlobs _ ys _ (St.drds S2)).mono ?_
  rintro e w3 ⟨o2, rfl, T⟩
  have S3 := S2.call T
  clear T S2
  simp only [List.cons_append, List.nil_append] at S3
  obtain ⟨wa, wn, wc, rfl, hwc, hwm, HWN, -⟩ := LBlb_get (St.own S3)
  have hwn : wn ≤ 1000 := by rw [HWN.out]; exact blobs_len ys
  have FIN : RowKit.Hid (∀ b ∈ blobs ys, BFin b) := blobs_fin
  have S4 : St w w3 (Rdr w B m' :: Loc w.heap.size 27 #[.int .i64 0, .int .i64 0, .int .i64 0, .int .i64 0, .int .i64 0, .int .i64 0, .int .i64 0] :: [Own LBlb (.slice wa wn wc) (blobs ys)]) := ((St.tail (St.swap S3)).perm ((List.Perm.swap _ _ _).trans (List.Perm.cons _ (List.Perm.swap _ _ _))))
  clear S3
  have hL4 := (St.locLt (St.swap S4)).2
  by_cases hn0 : wn = 0
  · subst hn0
    have S5 := S4.drop1 (Ms := [_, _])
    obtain ⟨H, hH⟩ : ∃ H, H = w3.heap.size := ⟨_, rfl⟩
    have hBH := (St.rdrLt S4).2
    rw [← hH] at hBH
    have hLH := hL4
    rw [← hH] at hLH
    go_wp2_with fail
    refine wp_drawn_put2 (shs2 (H) [sh2Row _ 3 (0) (257), sh2Val _ (.pointer (some ⟨B, 0, none⟩)), sh2In _ (0) (2), sh2Ptr _ (0) (257), sh2In _ (0) (257), sh2Row _ 3 (-1) (4097), sh2Val _ (.pointer (some ⟨B, 0, none⟩)), sh2In _ (0) (2), sh2Ptr _ (-1) (4097), sh2In _ (-1) (4097), ⟨fun v _ => ∃ s x : Int, v = .agg #[.int .i64 s, .int .i64 x, .int .i64 0, .int .i64 0, .int .i64 0, .int .i64 0, .int .i64 0], fun _ _ _ h _ => h⟩, sh2Top _])
      (fun k w' => (H) ≤ w'.heap.size ∧ ∃ s x : Int, St w w' (Rdr w B (m' + k) :: [Loc w.heap.size 27 #[.int .i64 s, .int .i64 x, .int .i64 0, .int .i64 0, .int .i64 0, .int .i64 0, .int .i64 0]])) (H) (by kernel_rfl) (by kernel_rfl) (shs2_st _ _) ⟨by rw [hH]; exact Nat.le_refl _, 0, 0, S5.drew⟩ ?_ ?_
    · refine step_plain2 rfl (fun k a w' hk hJ hd hs K hK => ?_) ?_
      · clear hd hs
        have hkk : k < 12 := hk
        clear hk
        obtain ⟨hH, s, x, hS⟩ := hJ
        have HH := Lib.hid hH; have HS := Lib.hid hS; clear hH hS
        go_simp
        refine hK.out _ _ ⟨w'.heap.size, rfl, HH.out, fun j hj => ?_⟩ ⟨Nat.le_trans HH.out (by simp), s, x, (HS.out.alloc _).rdrMono (by omega)⟩ (lowB.new _ _ _)
        rcases (show j = 0 ∨ j = 1 ∨ j = 2 from by omega) with rfl | rfl | rfl
        · exact ⟨(0), by simp [go_sem], by omega, by omega⟩
        · exact ⟨(257), by simp [go_sem], by omega, by omega⟩
        · exact ⟨(1), by simp [go_sem], by omega, by omega⟩
      refine step_plain2 rfl (fun k a w' hk hJ hd hs K hK => ?_) ?_
      · have e3 : a.tmps[3]?.getD undef = .pointer (some ⟨B, 0, none⟩) := hs.at 3 (by kernel_rfl)
        clear hd hs
        have hkk : k < 12 := hk
        clear hk
        obtain ⟨hH, s, x, hS⟩ := hJ
        have HH := Lib.hid hH; have HS := Lib.hid hS; clear hH hS
        go_simp
        try simp (disch := omega) only [IntWalk.i64_in]
        exact hK.out _ _ rfl ⟨HH.out, s, x, HS.out.rdrMono (by omega)⟩ (lowB.refl _ _)
      refine step_plain2 rfl (fun k a w' hk hJ hd hs K hK => ?_) ?_
      · have e18 : a.tmps[18]?.getD undef = .pointer (some ⟨B, 0, none⟩) := hs.get 1 18 (by kernel_rfl) (by kernel_rfl)
        clear hd hs
        have hkk : k < 12 := hk
        clear hk
        obtain ⟨hH, s, x, hS⟩ := hJ
        have HH := Lib.hid hH; have HS := Lib.hid hS; clear hH hS
        go_simp
        refine (pick_g _ _ _ _ _ _ HS.out (by omega)).mono ?_
        rintro e w2 ⟨v, rfl, ⟨p1, p2, _⟩, hr, hg⟩
        exact hK.out _ _ ⟨v, rfl, by omega, by have := p2 (by omega); omega⟩ ⟨Nat.le_trans HH.out hg.size, s, x, hr⟩ (lowB.of hg (fun c hc => by rw [← Option.some.inj hc]; exact hBH))
      refine step_plain2 rfl (fun k a w' hk hJ hd hs K hK => ?_) ?_
      · obtain ⟨g17, e17, n17, c17⟩ : ∃ g : Nat, a.tmps[17]?.getD undef = .slice (some ⟨g, 0, none⟩) 3 3 ∧ ((H) ≤ g) ∧ ∀ j, j < 3 → ∃ x : Int, w'.cell? ⟨g, j, none⟩ = some (.int .i64 x) ∧ (0) ≤ x ∧ x ≤ (257) := hs.get 0 17 (by kernel_rfl) (by kernel_rfl)
        obtain ⟨x19, e19, l19, u19⟩ : ∃ x : Int, a.tmps[19]?.getD undef = .int .i64 x ∧ (0) ≤ x ∧ x ≤ (2) := hs.get 2 19 (by kernel_rfl) (by kernel_rfl)
        clear hd hs
        have hkk : k < 12 := hk
        clear hk
        obtain ⟨m, rfl⟩ := Int.eq_ofNat_of_zero_le (show 0 ≤ x19 by omega)
        obtain ⟨y, hy, hy1, hy2⟩ := c17 m (by omega)
        clear c17
        have hbd : (m : Int) < 3 := by omega
        obtain ⟨hH, s, x, hS⟩ := hJ
        have HH := Lib.hid hH; have HS := Lib.hid hS; clear hH hS
        go_simp
        exact hK.out _ _ ⟨g17, m, y, rfl, n17, hy, hy1, hy2⟩ ⟨HH.out, s, x, HS.out.rdrMono (by omega)⟩ (lowB.refl _ _)
      refine step_plain2 rfl (fun k a w' hk hJ hd hs K hK => ?_) ?_
      · obtain ⟨g20, o20, x20, e20, n20, c20, l20, u20⟩ : ∃ (g o : Nat) (x : Int), a.tmps[20]?.getD undef = .pointer (some ⟨g, o, none⟩) ∧ ((H) ≤ g) ∧ w'.cell? ⟨g, o, none⟩ = some (.int .i64 x) ∧ (0) ≤ x ∧ x ≤ (257) := hs.get 3 20 (by kernel_rfl) (by kernel_rfl)
        clear hd hs
        have hkk : k < 12 := hk
        clear hk
        obtain ⟨hH, s, x, hS⟩ := hJ
        have HH := Lib.hid hH; have HS := Lib.hid hS; clear hH hS
        go_simp
        try simp (disch := omega) only [IntWalk.i64_in]
        exact hK.out _ _ ⟨_, rfl, by omega, by omega⟩ ⟨HH.out, s, x, HS.out.rdrMono (by omega)⟩ (lowB.refl _ _)
      refine step_plain2 rfl (fun k a w' hk hJ hd hs K hK => ?_) ?_
      · clear hd hs
        have hkk : k < 12 := hk
        clear hk
        obtain ⟨hH, s, x, hS⟩ := hJ
        have HH := Lib.hid hH; have HS := Lib.hid hS; clear hH hS
        go_simp
        refine hK.out _ _ ⟨w'.heap.size, rfl, HH.out, fun j hj => ?_⟩ ⟨Nat.le_trans HH.out (by simp), s, x, (HS.out.alloc _).rdrMono (by omega)⟩ (lowB.new _ _ _)
        rcases (show j = 0 ∨ j = 1 ∨ j = 2 from by omega) with rfl | rfl | rfl
        · exact ⟨(-1), by simp [go_sem], by omega, by omega⟩
        · exact ⟨(4097), by simp [go_sem], by omega, by omega⟩
        · exact ⟨(5), by simp [go_sem], by omega, by omega⟩
      refine step_plain2 rfl (fun k a w' hk hJ hd hs K hK => ?_) ?_
      · have e3 : a.tmps[3]?.getD undef = .pointer (some ⟨B, 0, none⟩) := hs.at 3 (by kernel_rfl)
        clear hd hs
        have hkk : k < 12 := hk
        clear hk
        obtain ⟨hH, s, x, hS⟩ := hJ
        have HH := Lib.hid hH; have HS := Lib.hid hS; clear hH hS
        go_simp
        try simp (disch := omega) only [IntWalk.i64_in]
        exact hK.out _ _ rfl ⟨HH.out, s, x, HS.out.rdrMono (by omega)⟩ (lowB.refl _ _)
      refine step_plain2 rfl (fun k a w' hk hJ hd hs K hK => ?_) ?_
      · have e23 : a.tmps[23]?.getD undef = .pointer (some ⟨B, 0, none⟩) := hs.get 6 23 (by kernel_rfl) (by kernel_rfl)
        clear hd hs
        have hkk : k < 12 := hk
        clear hk
        obtain ⟨hH, s, x, hS⟩ := hJ
        have HH := Lib.hid hH; have HS := Lib.hid hS; clear hH hS
        go_simp
        refine (pick_g _ _ _ _ _ _ HS.out (by omega)).mono ?_
        rintro e w2 ⟨v, rfl, ⟨p1, p2, _⟩, hr, hg⟩
        exact hK.out _ _ ⟨v, rfl, by omega, by have := p2 (by omega); omega⟩ ⟨Nat.le_trans HH.out hg.size, s, x, hr⟩ (lowB.of hg (fun c hc => by rw [← Option.some.inj hc]; exact hBH))
      refine step_plain2 rfl (fun k a w' hk hJ hd hs K hK => ?_) ?_
      · obtain ⟨g22, e22, n22, c22⟩ : ∃ g : Nat, a.tmps[22]?.getD undef = .slice (some ⟨g, 0, none⟩) 3 3 ∧ ((H) ≤ g) ∧ ∀ j, j < 3 → ∃ x : Int, w'.cell? ⟨g, j, none⟩ = some (.int .i64 x) ∧ (-1) ≤ x ∧ x ≤ (4097) := hs.get 5 22 (by kernel_rfl) (by kernel_rfl)
        obtain ⟨x24, e24, l24, u24⟩ : ∃ x : Int, a.tmps[24]?.getD undef = .int .i64 x ∧ (0) ≤ x ∧ x ≤ (2) := hs.get 7 24 (by kernel_rfl) (by kernel_rfl)
        clear hd hs
        have hkk : k < 12 := hk
        clear hk
        obtain ⟨m, rfl⟩ := Int.eq_ofNat_of_zero_le (show 0 ≤ x24 by omega)
        obtain ⟨y, hy, hy1, hy2⟩ := c22 m (by omega)
        clear c22
        have hbd : (m : Int) < 3 := by omega
        obtain ⟨hH, s, x, hS⟩ := hJ
        have HH := Lib.hid hH; have HS := Lib.hid hS; clear hH hS
        go_simp
        exact hK.out _ _ ⟨g22, m, y, rfl, n22, hy, hy1, hy2⟩ ⟨HH.out, s, x, HS.out.rdrMono (by omega)⟩ (lowB.refl _ _)
      refine step_plain2 rfl (fun k a w' hk hJ hd hs K hK => ?_) ?_
      · obtain ⟨g25, o25, x25, e25, n25, c25, l25, u25⟩ : ∃ (g o : Nat) (x : Int), a.tmps[25]?.getD undef = .pointer (some ⟨g, o, none⟩) ∧ ((H) ≤ g) ∧ w'.cell? ⟨g, o, none⟩ = some (.int .i64 x) ∧ (-1) ≤ x ∧ x ≤ (4097) := hs.get 8 25 (by kernel_rfl) (by kernel_rfl)
        clear hd hs
        have hkk : k < 12 := hk
        clear hk
        obtain ⟨hH, s, x, hS⟩ := hJ
        have HH := Lib.hid hH; have HS := Lib.hid hS; clear hH hS
        go_simp
        try simp (disch := omega) only [IntWalk.i64_in]
        exact hK.out _ _ ⟨_, rfl, by omega, by omega⟩ ⟨HH.out, s, x, HS.out.rdrMono (by omega)⟩ (lowB.refl _ _)
      refine step_plain2 rfl (fun k a w' hk hJ hd hs K hK => ?_) ?_
      · obtain ⟨x21, e21, l21, u21⟩ : ∃ x : Int, a.tmps[21]?.getD undef = .int .i64 x ∧ (0) ≤ x ∧ x ≤ (257) := hs.get 4 21 (by kernel_rfl) (by kernel_rfl)
        obtain ⟨x26, e26, l26, u26⟩ : ∃ x : Int, a.tmps[26]?.getD undef = .int .i64 x ∧ (-1) ≤ x ∧ x ≤ (4097) := hs.get 9 26 (by kernel_rfl) (by kernel_rfl)
        clear hd hs
        have hkk : k < 12 := hk
        clear hk
        obtain ⟨hH', s, x, hS⟩ := hJ
        have HH := Lib.hid hH'; have HS := Lib.hid hS; clear hH' hS
        go_simp
        exact hK.out _ _ ⟨_, _, rfl⟩ ⟨HH.out, s, x, HS.out.rdrMono (by omega)⟩ (lowB.refl _ _)
      refine step_plain2 rfl (fun k a w' hk hJ hd hs K hK => ?_) ?_
      · have e2 : a.tmps[2]?.getD undef = .pointer (some ⟨w.heap.size, 0, none⟩) := hs.at 2 (by kernel_rfl)
        have e27 := hs.get 10 27 (by kernel_rfl) (by kernel_rfl)
        clear hd hs
        have hkk : k < 12 := hk
        clear hk
        obtain ⟨s1, x1, e27⟩ := e27
        obtain ⟨hH', s, x, hS⟩ := hJ
        have HH := Lib.hid hH'; have HS := Lib.hid hS; clear hH' hS
        obtain ⟨⟨c0, c1, c2, c3, c4, c5, c6⟩, f0, f1, f2, f3, f4, f5, f6⟩ := loc7_cells (St.swap HS.out)
        have S7 := Lib.hid (St.loc7 (St.swap HS.out) (.int .i64 s1) (.int .i64 x1) (.int .i64 0) (.int .i64 0) (.int .i64 0) (.int .i64 0) (.int .i64 0))
        go_simp
        refine hK.out undef _ trivial ⟨?_, s1, x1, ?_⟩ ?_
        · simpa using HH.out
        · exact (St.swap S7.out).rdrMono (by omega)
        · exact lowB.set7 _ _ hLH _ _ _ _ _ _ _
      exact step_nil2
    · intro vs w' hJ hA
      clear hA
      simp only [putAll, Act.put, List.setIfInBounds_toArray, List.set_cons_zero, List.set_cons_succ]
      obtain ⟨hH', s, x, S⟩ := hJ
      obtain ⟨⟨c0, c1, c2, c3, c4, c5, c6⟩, -⟩ := loc7_cells (St.swap S)
      have G := Lib.hid S.gb
      clear S
      go_wp2
      exact bodyPost_ret (v := Blb.val ⟨s, x, 0, 0, 0, 0, 0⟩) (by simp [results, Try.results25, go_sem, c0, c1, c2, c3, c4, c5, c6, Blb.val]) rfl ⟨⟨s, x, 0, 0, 0, 0, 0⟩, rfl, .inr rfl, G.out⟩
  · have hn0' : ((wn : Int) == 0) = false := by simpa using (show ¬ (wn : Int) = 0 by omega)
    go_wp2_with fail
    refine (odd_s w B m' _ 9 _ S4 (by omega) (by omega)).mono ?_
    rintro e w4 ⟨od, rfl, S6⟩
    cases od with
    | true =>
      have S5 := S6.drop1 (Ms := [_, _])
      have hL6 := (St.locLt (St.swap S6)).2
      obtain ⟨H, hH⟩ : ∃ H, H = w4.heap.size := ⟨_, rfl⟩
      have hBH := (St.rdrLt S6).2
      rw [← hH] at hBH
      have hLH := hL6
      rw [← hH] at hLH
      go_wp2_with fail
      refine wp_drawn_put2 (shs2 (H) [sh2Row _ 3 (0) (257), sh2Val _ (.pointer (some ⟨B, 0, none⟩)), sh2In _ (0) (2), sh2Ptr _ (0) (257), sh2In _ (0) (257), sh2Row _ 3 (-1) (4097), sh2Val _ (.pointer (some ⟨B, 0, none⟩)), sh2In _ (0) (2), sh2Ptr _ (-1) (4097), sh2In _ (-1) (4097), ⟨fun v _ => ∃ s x : Int, v = .agg #[.int .i64 s, .int .i64 x, .int .i64 0, .int .i64 0, .int .i64 0, .int .i64 0, .int .i64 0], fun _ _ _ h _ => h⟩, sh2Top _])
        (fun k w' => (H) ≤ w'.heap.size ∧ ∃ s x : Int, St w w' (Rdr w B ((m' + 1) + k) :: [Loc w.heap.size 27 #[.int .i64 s, .int .i64 x, .int .i64 0, .int .i64 0, .int .i64 0, .int .i64 0, .int .i64 0]])) (H) (by kernel_rfl) (by kernel_rfl) (shs2_st _ _) ⟨by rw [hH]; exact Nat.le_refl _, 0, 0, S5.drew⟩ ?_ ?_
      · refine step_plain2 rfl (fun k a w' hk hJ hd hs K hK => ?_) ?_
        · clear hd hs
          have hkk : k < 12 := hk
          clear hk
          obtain ⟨hH, s, x, hS⟩ := hJ
          have HH := Lib.hid hH; have HS := Lib.hid hS; clear hH hS
          go_simp
          refine hK.out _ _ ⟨w'.heap.size, rfl, HH.out, fun j hj => ?_⟩ ⟨Nat.le_trans HH.out (by simp), s, x, (HS.out.alloc _).rdrMono (by omega)⟩ (lowB.new _ _ _)
          rcases (show j = 0 ∨ j = 1 ∨ j = 2 from by omega) with rfl | rfl | rfl
          · exact ⟨(0), by simp [go_sem], by omega, by omega⟩
          · exact ⟨(257), by simp [go_sem], by omega, by omega⟩
          · exact ⟨(1), by simp [go_sem], by omega, by omega⟩
        refine step_plain2 rfl (fun k a w' hk hJ hd hs K hK => ?_) ?_
        · have e3 : a.tmps[3]?.getD undef = .pointer (some ⟨B, 0, none⟩) := hs.at 3 (by kernel_rfl)
          clear hd hs
          have hkk : k < 12 := hk
          clear hk
          obtain ⟨hH, s, x, hS⟩ := hJ
          have HH := Lib.hid hH; have HS := Lib.hid hS; clear hH hS
          go_simp
          try simp (disch := omega) only [IntWalk.i64_in]
          exact hK.out _ _ rfl ⟨HH.out, s, x, HS.out.rdrMono (by omega)⟩ (lowB.refl _ _)
        refine step_plain2 rfl (fun k a w' hk hJ hd hs K hK => ?_) ?_
        · have e18 : a.tmps[18]?.getD undef = .pointer (some ⟨B, 0, none⟩) := hs.get 1 18 (by kernel_rfl) (by kernel_rfl)
          clear hd hs
          have hkk : k < 12 := hk
          clear hk
          obtain ⟨hH, s, x, hS⟩ := hJ
          have HH := Lib.hid hH; have HS := Lib.hid hS; clear hH hS
          go_simp
          refine (pick_g _ _ _ _ _ _ HS.out (by omega)).mono ?_
          rintro e w2 ⟨v, rfl, ⟨p1, p2, _⟩, hr, hg⟩
          exact hK.out _ _ ⟨v, rfl, by omega, by have := p2 (by omega); omega⟩ ⟨Nat.le_trans HH.out hg.size, s, x, hr⟩ (lowB.of hg (fun c hc => by rw [← Option.some.inj hc]; exact hBH))
        refine step_plain2 rfl (fun k a w' hk hJ hd hs K hK => ?_) ?_
        · obtain ⟨g17, e17, n17, c17⟩ : ∃ g : Nat, a.tmps[17]?.getD undef = .slice (some ⟨g, 0, none⟩) 3 3 ∧ ((H) ≤ g) ∧ ∀ j, j < 3 → ∃ x : Int, w'.cell? ⟨g, j, none⟩ = some (.int .i64 x) ∧ (0) ≤ x ∧ x ≤ (257) := hs.get 0 17 (by kernel_rfl) (by kernel_rfl)
          obtain ⟨x19, e19, l19, u19⟩ : ∃ x : Int, a.tmps[19]?.getD undef = .int .i64 x ∧ (0) ≤ x ∧ x ≤ (2) := hs.get 2 19 (by kernel_rfl) (by kernel_rfl)
          clear hd hs
          have hkk : k < 12 := hk
          clear hk
          obtain ⟨m, rfl⟩ := Int.eq_ofNat_of_zero_le (show 0 ≤ x19 by omega)
          obtain ⟨y, hy, hy1, hy2⟩ := c17 m (by omega)
          clear c17
          have hbd : (m : Int) < 3 := by omega
          obtain ⟨hH, s, x, hS⟩ := hJ
          have HH := Lib.hid hH; have HS := Lib.hid hS; clear hH hS
          go_simp
          exact hK.out _ _ ⟨g17, m, y, rfl, n17, hy, hy1, hy2⟩ ⟨HH.out, s, x, HS.out.rdrMono (by omega)⟩ (lowB.refl _ _)
        refine step_plain2 rfl (fun k a w' hk hJ hd hs K hK => ?_) ?_
        · obtain ⟨g20, o20, x20, e20, n20, c20, l20, u20⟩ : ∃ (g o : Nat) (x : Int), a.tmps[20]?.getD undef = .pointer (some ⟨g, o, none⟩) ∧ ((H) ≤ g) ∧ w'.cell? ⟨g, o, none⟩ = some (.int .i64 x) ∧ (0) ≤ x ∧ x ≤ (257) := hs.get 3 20 (by kernel_rfl) (by kernel_rfl)
          clear hd hs
          have hkk : k < 12 := hk
          clear hk
          obtain ⟨hH, s, x, hS⟩ := hJ
          have HH := Lib.hid hH; have HS := Lib.hid hS; clear hH hS
          go_simp
          try simp (disch := omega) only [IntWalk.i64_in]
          exact hK.out _ _ ⟨_, rfl, by omega, by omega⟩ ⟨HH.out, s, x, HS.out.rdrMono (by omega)⟩ (lowB.refl _ _)
        refine step_plain2 rfl (fun k a w' hk hJ hd hs K hK => ?_) ?_
        · clear hd hs
          have hkk : k < 12 := hk
          clear hk
          obtain ⟨hH, s, x, hS⟩ := hJ
          have HH := Lib.hid hH; have HS := Lib.hid hS; clear hH hS
          go_simp
          refine hK.out _ _ ⟨w'.heap.size, rfl, HH.out, fun j hj => ?_⟩ ⟨Nat.le_trans HH.out (by simp), s, x, (HS.out.alloc _).rdrMono (by omega)⟩ (lowB.new _ _ _)
          rcases (show j = 0 ∨ j = 1 ∨ j = 2 from by omega) with rfl | rfl | rfl
          · exact ⟨(-1), by simp [go_sem], by omega, by omega⟩
          · exact ⟨(4097), by simp [go_sem], by omega, by omega⟩
          · exact ⟨(5), by simp [go_sem], by omega, by omega⟩
        refine step_plain2 rfl (fun k a w' hk hJ hd hs K hK => ?_) ?_
        · have e3 : a.tmps[3]?.getD undef = .pointer (some ⟨B, 0, none⟩) := hs.at 3 (by kernel_rfl)
          clear hd hs
          have hkk : k < 12 := hk
          clear hk
          obtain ⟨hH, s, x, hS⟩ := hJ
          have HH := Lib.hid hH; have HS := Lib.hid hS; clear hH hS
          go_simp
          try simp (disch := omega) only [IntWalk.i64_in]
          exact hK.out _ _ rfl ⟨HH.out, s, x, HS.out.rdrMono (by omega)⟩ (lowB.refl _ _)
        refine step_plain2 rfl (fun k a w' hk hJ hd hs K hK => ?_) ?_
        · have e23 : a.tmps[23]?.getD undef = .pointer (some ⟨B, 0, none⟩) := hs.get 6 23 (by kernel_rfl) (by kernel_rfl)
          clear hd hs
          have hkk : k < 12 := hk
          clear hk
          obtain ⟨hH, s, x, hS⟩ := hJ
          have HH := Lib.hid hH; have HS := Lib.hid hS; clear hH hS
          go_simp
          refine (pick_g _ _ _ _ _ _ HS.out (by omega)).mono ?_
          rintro e w2 ⟨v, rfl, ⟨p1, p2, _⟩, hr, hg⟩
          exact hK.out _ _ ⟨v, rfl, by omega, by have := p2 (by omega); omega⟩ ⟨Nat.le_trans HH.out hg.size, s, x, hr⟩ (lowB.of hg (fun c hc => by rw [← Option.some.inj hc]; exact hBH))
        refine step_plain2 rfl (fun k a w' hk hJ hd hs K hK => ?_) ?_
        · obtain ⟨g22, e22, n22, c22⟩ : ∃ g : Nat, a.tmps[22]?.getD undef = .slice (some ⟨g, 0, none⟩) 3 3 ∧ ((H) ≤ g) ∧ ∀ j, j < 3 → ∃ x : Int, w'.cell? ⟨g, j, none⟩ = some (.int .i64 x) ∧ (-1) ≤ x ∧ x ≤ (4097) := hs.get 5 22 (by kernel_rfl) (by kernel_rfl)
          obtain ⟨x24, e24, l24, u24⟩ : ∃ x : Int, a.tmps[24]?.getD undef = .int .i64 x ∧ (0) ≤ x ∧ x ≤ (2) := hs.get 7 24 (by kernel_rfl) (by kernel_rfl)
          clear hd hs
          have hkk : k < 12 := hk
          clear hk
          obtain ⟨m, rfl⟩ := Int.eq_ofNat_of_zero_le (show 0 ≤ x24 by omega)
          obtain ⟨y, hy, hy1, hy2⟩ := c22 m (by omega)
          clear c22
          have hbd : (m : Int) < 3 := by omega
          obtain ⟨hH, s, x, hS⟩ := hJ
          have HH := Lib.hid hH; have HS := Lib.hid hS; clear hH hS
          go_simp
          exact hK.out _ _ ⟨g22, m, y, rfl, n22, hy, hy1, hy2⟩ ⟨HH.out, s, x, HS.out.rdrMono (by omega)⟩ (lowB.refl _ _)
        refine step_plain2 rfl (fun k a w' hk hJ hd hs K hK => ?_) ?_
        · obtain ⟨g25, o25, x25, e25, n25, c25, l25, u25⟩ : ∃ (g o : Nat) (x : Int), a.tmps[25]?.getD undef = .pointer (some ⟨g, o, none⟩) ∧ ((H) ≤ g) ∧ w'.cell? ⟨g, o, none⟩ = some (.int .i64 x) ∧ (-1) ≤ x ∧ x ≤ (4097) := hs.get 8 25 (by kernel_rfl) (by kernel_rfl)
          clear hd hs
          have hkk : k < 12 := hk
          clear hk
          obtain ⟨hH, s, x, hS⟩ := hJ
          have HH := Lib.hid hH; have HS := Lib.hid hS; clear hH hS
          go_simp
          try simp (disch := omega) only [IntWalk.i64_in]
          exact hK.out _ _ ⟨_, rfl, by omega, by omega⟩ ⟨HH.out, s, x, HS.out.rdrMono (by omega)⟩ (lowB.refl _ _)
        refine step_plain2 rfl (fun k a w' hk hJ hd hs K hK => ?_) ?_
        · obtain ⟨x21, e21, l21, u21⟩ : ∃ x : Int, a.tmps[21]?.getD undef = .int .i64 x ∧ (0) ≤ x ∧ x ≤ (257) := hs.get 4 21 (by kernel_rfl) (by kernel_rfl)
          obtain ⟨x26, e26, l26, u26⟩ : ∃ x : Int, a.tmps[26]?.getD undef = .int .i64 x ∧ (-1) ≤ x ∧ x ≤ (4097) := hs.get 9 26 (by kernel_rfl) (by kernel_rfl)
          clear hd hs
          have hkk : k < 12 := hk
          clear hk
          obtain ⟨hH', s, x, hS⟩ := hJ
          have HH := Lib.hid hH'; have HS := Lib.hid hS; clear hH' hS
          go_simp
          exact hK.out _ _ ⟨_, _, rfl⟩ ⟨HH.out, s, x, HS.out.rdrMono (by omega)⟩ (lowB.refl _ _)
        refine step_plain2 rfl (fun k a w' hk hJ hd hs K hK => ?_) ?_
        · have e2 : a.tmps[2]?.getD undef = .pointer (some ⟨w.heap.size, 0, none⟩) := hs.at 2 (by kernel_rfl)
          have e27 := hs.get 10 27 (by kernel_rfl) (by kernel_rfl)
          clear hd hs
          have hkk : k < 12 := hk
          clear hk
          obtain ⟨s1, x1, e27⟩ := e27
          obtain ⟨hH', s, x, hS⟩ := hJ
          have HH := Lib.hid hH'; have HS := Lib.hid hS; clear hH' hS
          obtain ⟨⟨c0, c1, c2, c3, c4, c5, c6⟩, f0, f1, f2, f3, f4, f5, f6⟩ := loc7_cells (St.swap HS.out)
          have S7 := Lib.hid (St.loc7 (St.swap HS.out) (.int .i64 s1) (.int .i64 x1) (.int .i64 0) (.int .i64 0) (.int .i64 0) (.int .i64 0) (.int .i64 0))
          go_simp
          refine hK.out undef _ trivial ⟨?_, s1, x1, ?_⟩ ?_
          · simpa using HH.out
          · exact (St.swap S7.out).rdrMono (by omega)
          · exact lowB.set7 _ _ hLH _ _ _ _ _ _ _
        exact step_nil2
      · intro vs w' hJ hA
        clear hA
        simp only [putAll, Act.put, List.setIfInBounds_toArray, List.set_cons_zero, List.set_cons_succ]
        obtain ⟨hH', s, x, S⟩ := hJ
        obtain ⟨⟨c0, c1, c2, c3, c4, c5, c6⟩, -⟩ := loc7_cells (St.swap S)
        have G := Lib.hid S.gb
        clear S
        go_wp2
        exact bodyPost_ret (v := Blb.val ⟨s, x, 0, 0, 0, 0, 0⟩) (by simp [results, Try.results25, go_sem, c0, c1, c2, c3, c4, c5, c6, Blb.val]) rfl ⟨⟨s, x, 0, 0, 0, 0, 0⟩, rfl, .inr rfl, G.out⟩
    | false =>
      clear S4
      go_wp2_with fail
      refine (pick_s w B _ _ wn _ S6 (by omega)).mono ?_
      rintro e w5 ⟨p, rfl, ⟨p0, p1, -⟩, S7⟩
      replace p1 := p1 (by omega)
      obtain ⟨P, rfl⟩ := Int.eq_ofNat_of_zero_le p0
      have hP : P < wn := by omega
      clear S6
      obtain ⟨wa', wn', wc', hv', -, -, -, HC⟩ := LBlb_get (St.own (St.tail (St.tail S7)))
      simp only [Value.slice.injEq] at hv'
      obtain ⟨rfl, rfl, rfl⟩ := hv'
      obtain ⟨b1, off1, q, rfl, hb1, hq, d0, d1, d2, d3, d4, d5, d6⟩ := HC.out P hP
      have F := Lib.hid (FIN.out q (List.mem_of_getElem? hq.out))
      obtain ⟨Q0, Q1, Q2, Q3, Q4, Q5, Q6⟩ := q
      obtain ⟨⟨c0, c1, c2, c3, c4, c5, c6⟩, f0, f1, f2, f3, f4, f5, f6⟩ := loc7_cells (St.swap S7)
      have S8 := St.loc7 (St.swap S7) (.int .i64 Q0) (.int .i64 Q1) (.int .i64 Q2) (.int .i64 Q3) (.int .i64 Q4) (.int .i64 Q5) (.int .i64 Q6)
      have G := Lib.hid S8.gb
      obtain ⟨⟨k0, k1, k2, k3, k4, k5, k6⟩, -⟩ := loc7_cells S8
      clear S7 HC hq S8
      dsimp only at *
      go_wp2
      exact bodyPost_ret (v := Blb.val ⟨Q0, Q1, Q2, Q3, Q4, Q5, Q6⟩) (by simp [results, Try.results25, go_sem, k0, k1, k2, k3, k4, k5, k6, Blb.val]) rfl ⟨⟨Q0, Q1, Q2, Q3, Q4, Q5, Q6⟩, rfl, .inl F.out, G.out⟩
end Go.Proofs.Ytpkcpkhanodnmaa
