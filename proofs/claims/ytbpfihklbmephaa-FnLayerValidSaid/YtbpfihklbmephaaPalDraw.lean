/-
  The draws of sizes and of layers. Nothing that was there is written.
-/
import Derived.Test.YtbpfihklbmephaaPackS
import Derived.Test.YtbpfihklbmephaaDrawn2
import Derived.Test.YtbpfihklbmephaaLoc
import Derived.Test.YtbpfihklbmephaaBlk
namespace Go.Proofs.Ytbpfihklbmephaa
open Go Go.RowKit
def PalQ (w0 : World) (B m : Nat) (Ls : List Asr) (e : Ending) (w' : World) : Prop :=
  ∃ (p q r s : Int) (m' : Nat), e = .returned (.tuple #[.int .i64 p, .int .i64 q, .int .i64 r, .int .i64 s]) ∧ (0 ≤ p ∧ p ≤ 201) ∧ (0 ≤ q ∧ q ≤ 201) ∧ (0 ≤ r ∧ r ≤ 201) ∧ (0 ≤ s ∧ s ≤ 201) ∧ m' ≤ m + 20 ∧ St w0 w' (Rdr w0 B m' :: Ls)
set_option maxRecDepth 100000 in
set_option maxHeartbeats 4000000 in
theorem pallet_s (w0 : World) (B m : Nat) (Ls : List Asr) (n : Int) (w : World) (S : St w0 w (Rdr w0 B m :: Ls)) (hm : m ≤ 900000) (hn : n ≤ 1000000) :
    Calls Try.prog 40 #[.pointer (some ⟨B, 0, none⟩), .int .i64 n] w (PalQ w0 B m Ls) := by
  go_enter Try.func40, Try.ntmps40
  go_wp2_with fail
  refine (odd_s w0 B m _ n _ S (by omega) hn).mono ?_
  rintro e w1 ⟨od, rfl, S1⟩
  clear S
  cases od with
  | true =>
    obtain ⟨H, hH⟩ : ∃ H, H = w1.heap.size := ⟨_, rfl⟩
    have hBH := (St.rdrLt S1).2
    rw [← hH] at hBH
    go_wp2_with fail
    refine wp_drawn_put2 (shs2 (H) [sh2Row _ 3 (0) (201), sh2Val _ (.pointer (some ⟨B, 0, none⟩)), sh2In _ (0) (2), sh2Ptr _ (0) (201), sh2In _ (0) (201), sh2Row _ 3 (0) (201), sh2Val _ (.pointer (some ⟨B, 0, none⟩)), sh2In _ (0) (2), sh2Ptr _ (0) (201), sh2In _ (0) (201), sh2In _ (0) (201), sh2Val _ (.int .i64 9), sh2In _ (0) (201), sh2Val _ (.int .i64 4)])
      (fun k w' => (H) ≤ w'.heap.size ∧ St w0 w' (Rdr w0 B ((m + 1) + k) :: Ls)) (H) (by kernel_rfl) (by kernel_rfl) (shs2_st _ _) ⟨by rw [hH]; exact Nat.le_refl _, S1.drew⟩ ?_ ?_
    · refine step_plain2 rfl (fun k a w' hk hJ hd hs K hK => ?_) ?_
      · clear hd hs
        have hkk : k < 14 := hk
        clear hk
        obtain ⟨hH, hS⟩ := hJ
        have HH := Lib.hid hH; have HS := Lib.hid hS; clear hH hS
        go_simp
        refine hK.out _ _ ⟨w'.heap.size, rfl, HH.out, fun j hj => ?_⟩ ⟨Nat.le_trans HH.out (by simp), (HS.out.alloc _).rdrMono (by omega)⟩ (lowB.new _ _ _)
        rcases (show j = 0 ∨ j = 1 ∨ j = 2 from by omega) with rfl | rfl | rfl
        · exact ⟨(0), by simp [go_sem], by omega, by omega⟩
        · exact ⟨(201), by simp [go_sem], by omega, by omega⟩
        · exact ⟨(9), by simp [go_sem], by omega, by omega⟩
      refine step_plain2 rfl (fun k a w' hk hJ hd hs K hK => ?_) ?_
      · have e0 : a.tmps[0]?.getD undef = .pointer (some ⟨B, 0, none⟩) := hs.at 0 (by kernel_rfl)
        clear hd hs
        have hkk : k < 14 := hk
        clear hk
        obtain ⟨hH, hS⟩ := hJ
        have HH := Lib.hid hH; have HS := Lib.hid hS; clear hH hS
        go_simp
        try simp (disch := omega) only [IntWalk.i64_in]
        exact hK.out _ _ rfl ⟨HH.out, HS.out.rdrMono (by omega)⟩ (lowB.refl _ _)
      refine step_plain2 rfl (fun k a w' hk hJ hd hs K hK => ?_) ?_
      · have e12 : a.tmps[12]?.getD undef = .pointer (some ⟨B, 0, none⟩) := hs.get 1 12 (by kernel_rfl) (by kernel_rfl)
        clear hd hs
        have hkk : k < 14 := hk
        clear hk
        obtain ⟨hH, hS⟩ := hJ
        have HH := Lib.hid hH; have HS := Lib.hid hS; clear hH hS
        go_simp
        refine (pick_g _ _ _ _ _ _ HS.out (by omega)).mono ?_
        rintro e w2 ⟨v, rfl, ⟨p1, p2, _⟩, hr, hg⟩
        exact hK.out _ _ ⟨v, rfl, by omega, by have := p2 (by omega); omega⟩ ⟨Nat.le_trans HH.out hg.size, hr⟩ (lowB.of hg (fun c hc => by rw [← Option.some.inj hc]; exact hBH))
      refine step_plain2 rfl (fun k a w' hk hJ hd hs K hK => ?_) ?_
      · obtain ⟨g11, e11, n11, c11⟩ : ∃ g : Nat, a.tmps[11]?.getD undef = .slice (some ⟨g, 0, none⟩) 3 3 ∧ ((H) ≤ g) ∧ ∀ j, j < 3 → ∃ x : Int, w'.cell? ⟨g, j, none⟩ = some (.int .i64 x) ∧ (0) ≤ x ∧ x ≤ (201) := hs.get 0 11 (by kernel_rfl) (by kernel_rfl)
        obtain ⟨x13, e13, l13, u13⟩ : ∃ x : Int, a.tmps[13]?.getD undef = .int .i64 x ∧ (0) ≤ x ∧ x ≤ (2) := hs.get 2 13 (by kernel_rfl) (by kernel_rfl)
        clear hd hs
        have hkk : k < 14 := hk
        clear hk
        obtain ⟨m, rfl⟩ := Int.eq_ofNat_of_zero_le (show 0 ≤ x13 by omega)
        obtain ⟨y, hy, hy1, hy2⟩ := c11 m (by omega)
        clear c11
        have hbd : (m : Int) < 3 := by omega
        obtain ⟨hH, hS⟩ := hJ
        have HH := Lib.hid hH; have HS := Lib.hid hS; clear hH hS
        go_simp
        exact hK.out _ _ ⟨g11, m, y, rfl, n11, hy, hy1, hy2⟩ ⟨HH.out, HS.out.rdrMono (by omega)⟩ (lowB.refl _ _)
      refine step_plain2 rfl (fun k a w' hk hJ hd hs K hK => ?_) ?_
      · obtain ⟨g14, o14, x14, e14, n14, c14, l14, u14⟩ : ∃ (g o : Nat) (x : Int), a.tmps[14]?.getD undef = .pointer (some ⟨g, o, none⟩) ∧ ((H) ≤ g) ∧ w'.cell? ⟨g, o, none⟩ = some (.int .i64 x) ∧ (0) ≤ x ∧ x ≤ (201) := hs.get 3 14 (by kernel_rfl) (by kernel_rfl)
        clear hd hs
        have hkk : k < 14 := hk
        clear hk
        obtain ⟨hH, hS⟩ := hJ
        have HH := Lib.hid hH; have HS := Lib.hid hS; clear hH hS
        go_simp
        try simp (disch := omega) only [IntWalk.i64_in]
        exact hK.out _ _ ⟨_, rfl, by omega, by omega⟩ ⟨HH.out, HS.out.rdrMono (by omega)⟩ (lowB.refl _ _)
      refine step_plain2 rfl (fun k a w' hk hJ hd hs K hK => ?_) ?_
      · clear hd hs
        have hkk : k < 14 := hk
        clear hk
        obtain ⟨hH, hS⟩ := hJ
        have HH := Lib.hid hH; have HS := Lib.hid hS; clear hH hS
        go_simp
        refine hK.out _ _ ⟨w'.heap.size, rfl, HH.out, fun j hj => ?_⟩ ⟨Nat.le_trans HH.out (by simp), (HS.out.alloc _).rdrMono (by omega)⟩ (lowB.new _ _ _)
        rcases (show j = 0 ∨ j = 1 ∨ j = 2 from by omega) with rfl | rfl | rfl
        · exact ⟨(0), by simp [go_sem], by omega, by omega⟩
        · exact ⟨(201), by simp [go_sem], by omega, by omega⟩
        · exact ⟨(3), by simp [go_sem], by omega, by omega⟩
      refine step_plain2 rfl (fun k a w' hk hJ hd hs K hK => ?_) ?_
      · have e0 : a.tmps[0]?.getD undef = .pointer (some ⟨B, 0, none⟩) := hs.at 0 (by kernel_rfl)
        clear hd hs
        have hkk : k < 14 := hk
        clear hk
        obtain ⟨hH, hS⟩ := hJ
        have HH := Lib.hid hH; have HS := Lib.hid hS; clear hH hS
        go_simp
        try simp (disch := omega) only [IntWalk.i64_in]
        exact hK.out _ _ rfl ⟨HH.out, HS.out.rdrMono (by omega)⟩ (lowB.refl _ _)
      refine step_plain2 rfl (fun k a w' hk hJ hd hs K hK => ?_) ?_
      · have e17 : a.tmps[17]?.getD undef = .pointer (some ⟨B, 0, none⟩) := hs.get 6 17 (by kernel_rfl) (by kernel_rfl)
        clear hd hs
        have hkk : k < 14 := hk
        clear hk
        obtain ⟨hH, hS⟩ := hJ
        have HH := Lib.hid hH; have HS := Lib.hid hS; clear hH hS
        go_simp
        refine (pick_g _ _ _ _ _ _ HS.out (by omega)).mono ?_
        rintro e w2 ⟨v, rfl, ⟨p1, p2, _⟩, hr, hg⟩
        exact hK.out _ _ ⟨v, rfl, by omega, by have := p2 (by omega); omega⟩ ⟨Nat.le_trans HH.out hg.size, hr⟩ (lowB.of hg (fun c hc => by rw [← Option.some.inj hc]; exact hBH))
      refine step_plain2 rfl (fun k a w' hk hJ hd hs K hK => ?_) ?_
      · obtain ⟨g16, e16, n16, c16⟩ : ∃ g : Nat, a.tmps[16]?.getD undef = .slice (some ⟨g, 0, none⟩) 3 3 ∧ ((H) ≤ g) ∧ ∀ j, j < 3 → ∃ x : Int, w'.cell? ⟨g, j, none⟩ = some (.int .i64 x) ∧ (0) ≤ x ∧ x ≤ (201) := hs.get 5 16 (by kernel_rfl) (by kernel_rfl)
        obtain ⟨x18, e18, l18, u18⟩ : ∃ x : Int, a.tmps[18]?.getD undef = .int .i64 x ∧ (0) ≤ x ∧ x ≤ (2) := hs.get 7 18 (by kernel_rfl) (by kernel_rfl)
        clear hd hs
        have hkk : k < 14 := hk
        clear hk
        obtain ⟨m, rfl⟩ := Int.eq_ofNat_of_zero_le (show 0 ≤ x18 by omega)
        obtain ⟨y, hy, hy1, hy2⟩ := c16 m (by omega)
        clear c16
        have hbd : (m : Int) < 3 := by omega
        obtain ⟨hH, hS⟩ := hJ
        have HH := Lib.hid hH; have HS := Lib.hid hS; clear hH hS
        go_simp
        exact hK.out _ _ ⟨g16, m, y, rfl, n16, hy, hy1, hy2⟩ ⟨HH.out, HS.out.rdrMono (by omega)⟩ (lowB.refl _ _)
      refine step_plain2 rfl (fun k a w' hk hJ hd hs K hK => ?_) ?_
      · obtain ⟨g19, o19, x19, e19, n19, c19, l19, u19⟩ : ∃ (g o : Nat) (x : Int), a.tmps[19]?.getD undef = .pointer (some ⟨g, o, none⟩) ∧ ((H) ≤ g) ∧ w'.cell? ⟨g, o, none⟩ = some (.int .i64 x) ∧ (0) ≤ x ∧ x ≤ (201) := hs.get 8 19 (by kernel_rfl) (by kernel_rfl)
        clear hd hs
        have hkk : k < 14 := hk
        clear hk
        obtain ⟨hH, hS⟩ := hJ
        have HH := Lib.hid hH; have HS := Lib.hid hS; clear hH hS
        go_simp
        try simp (disch := omega) only [IntWalk.i64_in]
        exact hK.out _ _ ⟨_, rfl, by omega, by omega⟩ ⟨HH.out, HS.out.rdrMono (by omega)⟩ (lowB.refl _ _)
      refine step_plain2 rfl (fun k a w' hk hJ hd hs K hK => ?_) ?_
      · obtain ⟨x15, e15, l15, u15⟩ : ∃ x : Int, a.tmps[15]?.getD undef = .int .i64 x ∧ (0) ≤ x ∧ x ≤ (201) := hs.get 4 15 (by kernel_rfl) (by kernel_rfl)
        clear hd hs
        have hkk : k < 14 := hk
        clear hk
        obtain ⟨hH, hS⟩ := hJ
        have HH := Lib.hid hH; have HS := Lib.hid hS; clear hH hS
        go_simp
        try simp (disch := omega) only [IntWalk.i64_in]
        exact hK.out _ _ ⟨_, rfl, by omega, by omega⟩ ⟨HH.out, HS.out.rdrMono (by omega)⟩ (lowB.refl _ _)
      refine step_plain2 rfl (fun k a w' hk hJ hd hs K hK => ?_) ?_
      · clear hd hs
        have hkk : k < 14 := hk
        clear hk
        obtain ⟨hH', hS⟩ := hJ
        go_simp
        exact hK.out _ _ rfl ⟨hH', hS.rdrMono (by omega)⟩ (lowB.refl _ _)
      refine step_plain2 rfl (fun k a w' hk hJ hd hs K hK => ?_) ?_
      · obtain ⟨x20, e20, l20, u20⟩ : ∃ x : Int, a.tmps[20]?.getD undef = .int .i64 x ∧ (0) ≤ x ∧ x ≤ (201) := hs.get 9 20 (by kernel_rfl) (by kernel_rfl)
        clear hd hs
        have hkk : k < 14 := hk
        clear hk
        obtain ⟨hH, hS⟩ := hJ
        have HH := Lib.hid hH; have HS := Lib.hid hS; clear hH hS
        go_simp
        try simp (disch := omega) only [IntWalk.i64_in]
        exact hK.out _ _ ⟨_, rfl, by omega, by omega⟩ ⟨HH.out, HS.out.rdrMono (by omega)⟩ (lowB.refl _ _)
      refine step_plain2 rfl (fun k a w' hk hJ hd hs K hK => ?_) ?_
      · clear hd hs
        have hkk : k < 14 := hk
        clear hk
        obtain ⟨hH', hS⟩ := hJ
        go_simp
        exact hK.out _ _ rfl ⟨hH', hS.rdrMono (by omega)⟩ (lowB.refl _ _)
      exact step_nil2
    · intro vs w' hJ hA
      obtain ⟨y4, f4, fl4, fu4⟩ : ∃ x : Int, vs 10 = .int .i64 x ∧ (0) ≤ x ∧ x ≤ (201) := hA 10 (by decide)
      have f5 : vs 11 = .int .i64 9 := hA 11 (by decide)
      obtain ⟨y6, f6, fl6, fu6⟩ : ∃ x : Int, vs 12 = .int .i64 x ∧ (0) ≤ x ∧ x ≤ (201) := hA 12 (by decide)
      have f7 : vs 13 = .int .i64 4 := hA 13 (by decide)
      clear hA
      simp only [putAll, Act.put, List.setIfInBounds_toArray, List.set_cons_zero, List.set_cons_succ, f4, f5, f6, f7]
      clear f4 f5 f6 f7
      obtain ⟨hH', S2⟩ := hJ
      have SH := Lib.hid S2
      clear S2
      go_wp2
      exact bodyPost_ret (v := .tuple #[.int .i64 y4, .int .i64 9, .int .i64 y6, .int .i64 4]) (by simp [results, Try.results40, go_sem]) rfl ⟨y4, 9, y6, 4, _, rfl, ⟨fl4, fu4⟩, by omega, ⟨fl6, fu6⟩, by omega, (by simp; try omega), SH.out⟩
  | false =>
    go_wp2_with fail
    refine (pick_s w0 B _ _ 60 _ S1 (by omega)).mono ?_
    rintro e w2 ⟨p, rfl, ⟨p0, p1, -⟩, S2⟩
    replace p1 := p1 (by omega)
    go_wp2_with fail
    refine (pick_s w0 B _ _ 60 _ S2 (by omega)).mono ?_
    rintro e w3 ⟨q, rfl, ⟨q0, q1, -⟩, S3⟩
    replace q1 := q1 (by omega)
    go_wp2_with fail
    refine (pick_s w0 B _ _ 20 _ S3 (by omega)).mono ?_
    rintro e w4 ⟨r, rfl, ⟨r0, r1, -⟩, S4⟩
    replace r1 := r1 (by omega)
    go_wp2_with fail
    refine (pick_s w0 B _ _ 20 _ S4 (by omega)).mono ?_
    rintro e w5 ⟨s, rfl, ⟨s0, s1, -⟩, S5⟩
    replace s1 := s1 (by omega)
    have SH := Lib.hid S5
    clear S1 S2 S3 S4 S5
    go_wp2
    exact bodyPost_ret (v := .tuple #[.int .i64 (1 + p), .int .i64 (1 + q), .int .i64 (3 + r), .int .i64 (3 + s)]) (by simp [results, Try.results40, go_sem]) rfl ⟨_, _, _, _, _, rfl, by omega, by omega, by omega, by omega, by omega, SH.out⟩
theorem DrawPackLayer_any (a : Option Addr) (len cap : Nat) (w : World) (h : Byts w a len cap) :
    Calls Try.prog 25 #[.slice a len cap] w fun e w' => ∃ p q r s : Int, e = .returned (.tuple #[.int .i64 p, .int .i64 q, .int .i64 r, .int .i64 s]) ∧ (0 ≤ p ∧ p ≤ 201) ∧ (0 ≤ q ∧ q ≤ 201) ∧ (0 ≤ r ∧ r ≤ 201) ∧ (0 ≤ s ∧ s ≤ 201) ∧ w.grownBy w' none := by
  go_enter Try.func25, Try.ntmps25
  go_wp2_with fail
  refine (open_s a len cap w h).mono ?_
  rintro e w1 ⟨B, rfl, S1⟩
  go_wp2_with fail
  refine (pallet_s w B 0 [] 9 _ S1 (by omega) (by omega)).mono ?_
  rintro e w2 ⟨p, q, r, s, m', rfl, hp, hq, hr, hs, -, S2⟩
  go_wp2_with fail
  exact bodyPost_ret (v := .tuple #[.int .i64 p, .int .i64 q, .int .i64 r, .int .i64 s]) (by simp [results, Try.results25, go_sem]) rfl ⟨p, q, r, s, rfl, hp, hq, hr, hs, S2.gb⟩
def LayQ (w : World) (e : Ending) (w' : World) : Prop := ∃ (p q : Int) (v : Value) (xs : List Bx), e = .returned (.tuple #[.int .i64 p, .int .i64 q, v]) ∧ (0 ≤ p ∧ p ≤ 201) ∧ (0 ≤ q ∧ q ≤ 201) ∧ xs.length ≤ 61 ∧ St w w' [Own LBx v xs]
theorem LBx_cells {w0 w : World} {g n cap : Nat} {xs : List Bx} {Ls : List Asr} (S : St w0 w (Own LBx (.slice (some ⟨g, 0, none⟩) n cap) xs :: Ls)) (k : Nat) (hk : k < xs.length) :
    ∃ x : Bx, xs[k]? = some x ∧ (w.cell? ⟨g, k * 4, none⟩ = some (.int .i64 x.X) ∧ w.cell? ⟨g, k * 4 + 1, none⟩ = some (.int .i64 x.Y) ∧ w.cell? ⟨g, k * 4 + 2, none⟩ = some (.int .i64 x.W) ∧ w.cell? ⟨g, k * 4 + 3, none⟩ = some (.int .i64 x.D)) ∧ ∀ j, w.frozen? ⟨g, j, none⟩ = false := by
  have hx : xs[k]? = some xs[k] := List.getElem?_eq_getElem hk
  have hc := St.ownCell S (g := g) rfl k _ hx
  exact ⟨xs[k], hx, ⟨hc 0 _ rfl, hc 1 _ rfl, hc 2 _ rfl, hc 3 _ rfl⟩, fun j => St.ownFrozen S rfl j⟩
set_option maxRecDepth 100000 in
set_option maxHeartbeats 8000000 in
theorem DrawLayerValid_any (a : Option Addr) (len cap : Nat) (w : World) (h : Byts w a len cap) :
    Calls Try.prog 28 #[.slice a len cap] w (LayQ w) := by
  go_enter Try.func28, Try.ntmps28
  go_wp2_with fail
  refine (open_s a len cap w h).mono ?_
  rintro e w1 ⟨B, rfl, S1⟩
  go_wp2_with fail
  refine (pallet_s w B 0 [] 12 _ S1 (by omega) (by omega)).mono ?_
  rintro e w2 ⟨P, Q, r, s, m', rfl, hp, hq, hr, hs, hm', S2⟩
  clear S1
  go_wp2_with fail
  refine (s_PackLayer P Q r s _).mono ?_
  rintro e w3 ⟨o3, rfl, T⟩
  have S3 := S2.call T
  simp only [List.cons_append, List.nil_append] at S3
  clear S2 T
  have hpl := pack_len P Q r s
  generalize pack P Q r s = xs at *
  obtain ⟨oa, n, oc, rfl, hoc, hom, HN, HC⟩ := LBx_own S3
  have hn60 : n ≤ 60 := by rw [HN.out]; exact hpl
  by_cases hn0 : n = 0
  · subst hn0
    clear HC
    go_wp2
    exact bodyPost_ret (v := .tuple #[.int .i64 P, .int .i64 Q, .slice oa 0 oc]) (by simp [results, Try.results28, go_sem]) rfl ⟨P, Q, _, xs, rfl, hp, hq, by omega, S3.drop1 (Ms := [_])⟩
  have hn1 : 0 < n := by omega
  have hn1i : (0 : Int) < (n : Int) := by omega
  obtain ⟨g, cp, hv', -, -⟩ := S3.ownBlk (by have := HN.out; omega)
  simp only [Value.slice.injEq] at hv'
  obtain ⟨rfl, -, rfl⟩ := hv'
  clear HC
  go_wp2_with fail
  refine (pick_s w B m' _ 2 _ S3.swap (by omega)).mono ?_
  rintro e w4 ⟨z, rfl, ⟨z0, z1, -⟩, S4⟩
  clear S3
  by_cases hz : z = 0
  rotate_left
  · have hz' : (z == 0) = false := by simpa using hz
    have S5 := (St.swap S4).drop1 (Ms := [_])
    go_wp2
    exact bodyPost_ret (v := .tuple #[.int .i64 P, .int .i64 Q, .slice (some ⟨g, 0, none⟩) n oc]) (by simp [results, Try.results28, go_sem]) rfl ⟨P, Q, _, xs, rfl, hp, hq, by omega, S5⟩
  subst hz
  go_wp2_with fail
  refine (pick_s w B _ _ n _ S4 (by omega)).mono ?_
  rintro e w5 ⟨k, rfl, ⟨k0, k1, -⟩, S5⟩
  replace k1 := k1 (by omega)
  clear S4
  obtain ⟨K0, rfl⟩ := Int.eq_ofNat_of_zero_le k0
  have hK : K0 < n := by omega
  go_wp2_with fail
  refine (pick_s w B _ _ 3 _ S5 (by omega)).mono ?_
  rintro e w6 ⟨c, rfl, ⟨c0, c1, -⟩, S6⟩
  replace c1 := c1 (by omega)
  clear S5
  have hxl : K0 < xs.length := by have := HN.out; omega
  have SW := St.swap S6
  obtain ⟨x, hx, ⟨d0, d1, d2, d3⟩, hf⟩ := LBx_cells SW K0 hxl
  by_cases hc0 : c = 0
  · subst hc0
    have f0 := hf (K0 * 4)
    obtain ⟨Z, hZ⟩ : ∃ Z, IntKind.i64.wrap (x.X + 1) = Z := ⟨_, rfl⟩
    have S7 := Lib.hid ((LBx_setX SW (g := g) rfl K0 x Z hx).drop1 (Ms := [_]))
    have hl7 : RowKit.Hid ((xs.set K0 { x with X := Z }).length ≤ 61) := by show _ ≤ _; rw [List.length_set]; omega
    clear S6 SW hf hx hpl
    go_wp2
    exact bodyPost_ret (v := .tuple #[.int .i64 P, .int .i64 Q, .slice (some ⟨g, 0, none⟩) n oc]) (by simp [results, Try.results28, go_sem]) rfl ⟨P, Q, _, _, rfl, hp, hq, hl7.out, S7.out⟩
  by_cases hc1 : c = 1
  · subst hc1
    obtain ⟨H, hH⟩ : ∃ H, H = w6.heap.size := ⟨_, rfl⟩
    have hBH := (St.rdrLt S6).2
    rw [← hH] at hBH
    have hgH : g < H := by rw [hH]; exact cell_lt d0
    clear SW hf hx hpl d0 d1 d2 d3
    go_wp2
    refine wp_drawn_put2 (shs2 (H) [sh2Val _ (.slice (some ⟨g, 0, none⟩) n oc), sh2Val _ (.int .i64 (K0 : Int)), sh2Val _ (.slice (some ⟨g, 0, none⟩) n oc), sh2Val _ (.int .i64 (K0 : Int)), sh2Val _ (.pointer (some ⟨g, K0 * 4, none⟩)), sh2Val _ (.pointer (some ⟨g, K0 * 4 + 2, none⟩)), sh2Int _, sh2Int _, ⟨fun v w => ∃ g' : Nat, v = .slice (some ⟨g', 0, none⟩) 2 2 ∧ H ≤ g' ∧ ∀ j, j < 2 → ∃ x : Int, w.cell? ⟨g', j, none⟩ = some (.int .i64 x), fun _ _ _ ⟨g', h1, h2, h3⟩ hg => ⟨g', h1, h2, fun j hj => let ⟨x, hx⟩ := h3 j hj; ⟨x, lowB.cell hg h2 hx⟩⟩⟩, sh2Val _ (.pointer (some ⟨B, 0, none⟩)), sh2In _ (0) (1), ⟨fun v w => ∃ (g' o' : Nat) (x : Int), v = .pointer (some ⟨g', o', none⟩) ∧ H ≤ g' ∧ w.cell? ⟨g', o', none⟩ = some (.int .i64 x), fun _ _ _ ⟨g', o', x, h1, h2, h3⟩ hg => ⟨g', o', x, h1, h2, lowB.cell hg h2 h3⟩⟩, sh2Int _, sh2Val _ (.pointer (some ⟨g, K0 * 4, none⟩)), sh2Val _ (.pointer (some ⟨g, K0 * 4 + 2, none⟩)), sh2Top _])
      (fun k w' => (H) ≤ w'.heap.size ∧ ∃ ys : List Bx, ys.length = n ∧ St w w' (Rdr w B ((m' + 1 + 1 + 1) + k) :: [Own LBx (.slice (some ⟨g, 0, none⟩) n oc) ys])) (H) (by kernel_rfl) (by kernel_rfl) (shs2_st _ _) ⟨by rw [hH]; exact Nat.le_refl _, xs, HN.out.symm, S6.drew⟩ ?_ ?_
    · refine step_plain2 rfl (fun k a w' hk hJ hd hs K hK => ?_) ?_
      · have e10 : a.tmps[10]?.getD undef = .slice (some ⟨g, 0, none⟩) n oc := hs.at 10 (by kernel_rfl)
        clear hd hs
        have hkk : k < 16 := hk
        clear hk
        obtain ⟨hH, ys, hy, hS⟩ := hJ
        have HH := Lib.hid hH; have HS := Lib.hid hS; clear hH hS
        go_simp
        try simp (disch := omega) only [IntWalk.i64_in]
        exact hK.out _ _ rfl ⟨HH.out, ys, hy, HS.out.rdrMono (by omega)⟩ (lowB.refl _ _)
      refine step_plain2 rfl (fun k a w' hk hJ hd hs K hK => ?_) ?_
      · have e11 : a.tmps[11]?.getD undef = .int .i64 (K0 : Int) := hs.at 11 (by kernel_rfl)
        clear hd hs
        have hkk : k < 16 := hk
        clear hk
        obtain ⟨hH, ys, hy, hS⟩ := hJ
        have HH := Lib.hid hH; have HS := Lib.hid hS; clear hH hS
        go_simp
        try simp (disch := omega) only [IntWalk.i64_in]
        exact hK.out _ _ rfl ⟨HH.out, ys, hy, HS.out.rdrMono (by omega)⟩ (lowB.refl _ _)
      refine step_plain2 rfl (fun k a w' hk hJ hd hs K hK => ?_) ?_
      · have e10 : a.tmps[10]?.getD undef = .slice (some ⟨g, 0, none⟩) n oc := hs.at 10 (by kernel_rfl)
        clear hd hs
        have hkk : k < 16 := hk
        clear hk
        obtain ⟨hH, ys, hy, hS⟩ := hJ
        have HH := Lib.hid hH; have HS := Lib.hid hS; clear hH hS
        go_simp
        try simp (disch := omega) only [IntWalk.i64_in]
        exact hK.out _ _ rfl ⟨HH.out, ys, hy, HS.out.rdrMono (by omega)⟩ (lowB.refl _ _)
      refine step_plain2 rfl (fun k a w' hk hJ hd hs K hK => ?_) ?_
      · have e11 : a.tmps[11]?.getD undef = .int .i64 (K0 : Int) := hs.at 11 (by kernel_rfl)
        clear hd hs
        have hkk : k < 16 := hk
        clear hk
        obtain ⟨hH, ys, hy, hS⟩ := hJ
        have HH := Lib.hid hH; have HS := Lib.hid hS; clear hH hS
        go_simp
        try simp (disch := omega) only [IntWalk.i64_in]
        exact hK.out _ _ rfl ⟨HH.out, ys, hy, HS.out.rdrMono (by omega)⟩ (lowB.refl _ _)
      refine step_plain2 rfl (fun k a w' hk hJ hd hs K hK => ?_) ?_
      · have e63 : a.tmps[63]?.getD undef = .slice (some ⟨g, 0, none⟩) n oc := hs.get 2 63 (by kernel_rfl) (by kernel_rfl)
        have e64 : a.tmps[64]?.getD undef = .int .i64 (K0 : Int) := hs.get 3 64 (by kernel_rfl) (by kernel_rfl)
        clear hd hs
        have hkk : k < 16 := hk
        clear hk
        obtain ⟨hH', ys, hy, hS⟩ := hJ
        have HH := Lib.hid hH'; have HS := Lib.hid hS; clear hH' hS
        go_simp
        exact hK.out _ _ rfl ⟨HH.out, ys, hy, HS.out.rdrMono (by omega)⟩ (lowB.refl _ _)
      refine step_plain2 rfl (fun k a w' hk hJ hd hs K hK => ?_) ?_
      · have e65 : a.tmps[65]?.getD undef = .pointer (some ⟨g, K0 * 4, none⟩) := hs.get 4 65 (by kernel_rfl) (by kernel_rfl)
        clear hd hs
        have hkk : k < 16 := hk
        clear hk
        obtain ⟨hH', ys, hy, hS⟩ := hJ
        have HH := Lib.hid hH'; have HS := Lib.hid hS; clear hH' hS
        go_simp
        exact hK.out _ _ rfl ⟨HH.out, ys, hy, HS.out.rdrMono (by omega)⟩ (lowB.refl _ _)
      refine step_plain2 rfl (fun k a w' hk hJ hd hs K hK => ?_) ?_
      · have e66 : a.tmps[66]?.getD undef = .pointer (some ⟨g, K0 * 4 + 2, none⟩) := hs.get 5 66 (by kernel_rfl) (by kernel_rfl)
        clear hd hs
        have hkk : k < 16 := hk
        clear hk
        obtain ⟨hH', ys, hy, hS⟩ := hJ
        obtain ⟨x, hx, ⟨d0, d1, d2, d3⟩, hf⟩ := LBx_cells (St.swap hS) K0 (by omega)
        have HH := Lib.hid hH'; have HS := Lib.hid hS; clear hH' hS hx hf
        go_simp
        exact hK.out _ _ ⟨_, rfl⟩ ⟨HH.out, ys, hy, HS.out.rdrMono (by omega)⟩ (lowB.refl _ _)
      refine step_plain2 rfl (fun k a w' hk hJ hd hs K hK => ?_) ?_
      · obtain ⟨x67, e67⟩ : ∃ x : Int, a.tmps[67]?.getD undef = .int .i64 x := hs.get 6 67 (by kernel_rfl) (by kernel_rfl)
        clear hd hs
        have hkk : k < 16 := hk
        clear hk
        obtain ⟨hH, ys, hy, hS⟩ := hJ
        have HH := Lib.hid hH; have HS := Lib.hid hS; clear hH hS
        go_simp
        try simp (disch := omega) only [IntWalk.i64_in]
        exact hK.out _ _ ⟨_, rfl⟩ ⟨HH.out, ys, hy, HS.out.rdrMono (by omega)⟩ (lowB.refl _ _)
      refine step_plain2 rfl (fun k a w' hk hJ hd hs K hK => ?_) ?_
      · obtain ⟨x68, e68⟩ : ∃ x : Int, a.tmps[68]?.getD undef = .int .i64 x := hs.get 7 68 (by kernel_rfl) (by kernel_rfl)
        clear hd hs
        have hkk : k < 16 := hk
        clear hk
        obtain ⟨hH', ys, hy, hS⟩ := hJ
        have HH := Lib.hid hH'; have HS := Lib.hid hS; clear hH' hS
        go_simp
        refine hK.out _ _ ⟨w'.heap.size, rfl, HH.out, fun j hj => ?_⟩ ⟨Nat.le_trans HH.out (by simp), ys, hy, (HS.out.alloc _).rdrMono (by omega)⟩ (lowB.new _ _ _)
        rcases (show j = 0 ∨ j = 1 from by omega) with rfl | rfl
        · exact ⟨0, by simp [go_sem]⟩
        · exact ⟨x68, by simp [go_sem]⟩
      refine step_plain2 rfl (fun k a w' hk hJ hd hs K hK => ?_) ?_
      · have e5 : a.tmps[5]?.getD undef = .pointer (some ⟨B, 0, none⟩) := hs.at 5 (by kernel_rfl)
        clear hd hs
        have hkk : k < 16 := hk
        clear hk
        obtain ⟨hH, ys, hy, hS⟩ := hJ
        have HH := Lib.hid hH; have HS := Lib.hid hS; clear hH hS
        go_simp
        try simp (disch := omega) only [IntWalk.i64_in]
        exact hK.out _ _ rfl ⟨HH.out, ys, hy, HS.out.rdrMono (by omega)⟩ (lowB.refl _ _)
      refine step_plain2 rfl (fun k a w' hk hJ hd hs K hK => ?_) ?_
      · have e70 : a.tmps[70]?.getD undef = .pointer (some ⟨B, 0, none⟩) := hs.get 9 70 (by kernel_rfl) (by kernel_rfl)
        clear hd hs
        have hkk : k < 16 := hk
        clear hk
        obtain ⟨hH, ys, hy, hS⟩ := hJ
        have HH := Lib.hid hH; have HS := Lib.hid hS; clear hH hS
        go_simp
        refine (pick_g _ _ _ _ _ _ HS.out (by omega)).mono ?_
        rintro e w2 ⟨v, rfl, ⟨p1, p2, _⟩, hr, hg⟩
        exact hK.out _ _ ⟨v, rfl, by omega, by have := p2 (by omega); omega⟩ ⟨Nat.le_trans HH.out hg.size, ys, hy, hr⟩ (lowB.of hg (fun c hc => by rw [← Option.some.inj hc]; exact hBH))
      refine step_plain2 rfl (fun k a w' hk hJ hd hs K hK => ?_) ?_
      · have e69 := hs.get 8 69 (by kernel_rfl) (by kernel_rfl)
        obtain ⟨x71, e71, l71, u71⟩ : ∃ x : Int, a.tmps[71]?.getD undef = .int .i64 x ∧ (0) ≤ x ∧ x ≤ (1) := hs.get 10 71 (by kernel_rfl) (by kernel_rfl)
        clear hd hs
        have hkk : k < 16 := hk
        clear hk
        obtain ⟨g', e69', hg', hc'⟩ := e69
        obtain ⟨m1, rfl⟩ := Int.eq_ofNat_of_zero_le (show 0 ≤ x71 by omega)
        obtain ⟨y, hcy⟩ := hc' m1 (by omega)
        clear hc'
        have hbd : (m1 : Int) < 2 := by omega
        obtain ⟨hH', ys, hy, hS⟩ := hJ
        have HH := Lib.hid hH'; have HS := Lib.hid hS; clear hH' hS
        go_simp
        exact hK.out _ _ ⟨g', m1, y, rfl, hg', hcy⟩ ⟨HH.out, ys, hy, HS.out.rdrMono (by omega)⟩ (lowB.refl _ _)
      refine step_plain2 rfl (fun k a w' hk hJ hd hs K hK => ?_) ?_
      · have e72 := hs.get 11 72 (by kernel_rfl) (by kernel_rfl)
        clear hd hs
        have hkk : k < 16 := hk
        clear hk
        obtain ⟨g', o', y, e72', hg', hcy⟩ := e72
        obtain ⟨hH', ys, hy, hS⟩ := hJ
        have HH := Lib.hid hH'; have HS := Lib.hid hS; clear hH' hS
        go_simp
        exact hK.out _ _ ⟨_, rfl⟩ ⟨HH.out, ys, hy, HS.out.rdrMono (by omega)⟩ (lowB.refl _ _)
      refine step_plain2 rfl (fun k a w' hk hJ hd hs K hK => ?_) ?_
      · have e61 : a.tmps[61]?.getD undef = .slice (some ⟨g, 0, none⟩) n oc := hs.get 0 61 (by kernel_rfl) (by kernel_rfl)
        have e62 : a.tmps[62]?.getD undef = .int .i64 (K0 : Int) := hs.get 1 62 (by kernel_rfl) (by kernel_rfl)
        clear hd hs
        have hkk : k < 16 := hk
        clear hk
        obtain ⟨hH', ys, hy, hS⟩ := hJ
        have HH := Lib.hid hH'; have HS := Lib.hid hS; clear hH' hS
        go_simp
        exact hK.out _ _ rfl ⟨HH.out, ys, hy, HS.out.rdrMono (by omega)⟩ (lowB.refl _ _)
      refine step_plain2 rfl (fun k a w' hk hJ hd hs K hK => ?_) ?_
      · have e74 : a.tmps[74]?.getD undef = .pointer (some ⟨g, K0 * 4, none⟩) := hs.get 13 74 (by kernel_rfl) (by kernel_rfl)
        clear hd hs
        have hkk : k < 16 := hk
        clear hk
        obtain ⟨hH', ys, hy, hS⟩ := hJ
        have HH := Lib.hid hH'; have HS := Lib.hid hS; clear hH' hS
        go_simp
        exact hK.out _ _ rfl ⟨HH.out, ys, hy, HS.out.rdrMono (by omega)⟩ (lowB.refl _ _)
      refine step_plain2 rfl (fun k a w' hk hJ hd hs K hK => ?_) ?_
      · have e75 : a.tmps[75]?.getD undef = .pointer (some ⟨g, K0 * 4 + 2, none⟩) := hs.get 14 75 (by kernel_rfl) (by kernel_rfl)
        obtain ⟨x73, e73⟩ : ∃ x : Int, a.tmps[73]?.getD undef = .int .i64 x := hs.get 12 73 (by kernel_rfl) (by kernel_rfl)
        clear hd hs
        have hkk : k < 16 := hk
        clear hk
        obtain ⟨hH', ys, hy, hS⟩ := hJ
        obtain ⟨x, hx, ⟨d0, d1, d2, d3⟩, hf⟩ := LBx_cells (St.swap hS) K0 (by omega)
        have f0 := hf (K0 * 4 + 2)
        have S7 := Lib.hid (St.swap (LBx_setW (St.swap hS) (g := g) rfl K0 x x73 hx))
        have HH := Lib.hid hH'; clear hH' hS hx hf
        go_simp
        refine hK.out undef _ trivial ⟨?_, _, ?_, S7.out.rdrMono (by omega)⟩ (lowB.set _ _ hgH _ _)
        · simpa using HH.out
        · rw [List.length_set]; exact hy
      exact step_nil2
    · intro vs w' hJ hA
      clear hA
      simp only [putAll, Act.put, List.setIfInBounds_toArray, List.set_cons_zero, List.set_cons_succ]
      obtain ⟨hH', ys, hy, S7⟩ := hJ
      have SF := Lib.hid ((St.swap S7).drop1 (Ms := [_]))
      clear S7
      go_wp2
      exact bodyPost_ret (v := .tuple #[.int .i64 P, .int .i64 Q, .slice (some ⟨g, 0, none⟩) n oc]) (by simp [results, Try.results28, go_sem]) rfl ⟨P, Q, _, ys, rfl, hp, hq, by omega, SF.out⟩
  · have hc0' : (c == 0) = false := by simpa using hc0
    have hc1' : (c == 1) = false := by simpa using hc1
    have SW2 := SW
    have hlen9 : xs.length ≤ 1000000000 := by omega
    have hl7 : RowKit.Hid ((xs ++ [x]).length ≤ 61) := by show _ ≤ _; simp; omega
    obtain ⟨X0, X1, X2, X3⟩ := x
    clear S6 SW hf hx hpl
    dsimp only at *
    go_wp2_with (at_builtin; refine wpList_app1 LBx_info rfl _ _ rfl SW2 ⟨X0, X1, X2, X3⟩ #[.int .i64 X0, .int .i64 X1, .int .i64 X2, .int .i64 X3] rfl rfl rfl hlen9 ?_; intro v8 w8 S8; obtain ⟨va, vn, vc, rfl, -⟩ := (St.own S8).slice; have S9 := Lib.hid (S8.drop1 (Ms := [_])); clear S8 SW2)
    exact bodyPost_ret (v := .tuple #[.int .i64 P, .int .i64 Q, .slice va vn vc]) (by simp [results, Try.results28, go_sem]) rfl ⟨P, Q, _, _, rfl, hp, hq, hl7.out, S9.out⟩
theorem DrawLayerFill_any (a : Option Addr) (len cap : Nat) (w : World) (h : Byts w a len cap) :
    Calls Try.prog 29 #[.slice a len cap] w (LayQ w) := by
  go_enter Try.func29, Try.ntmps29
  go_wp2_with fail
  refine (DrawLayerValid_any a len cap w h).mono ?_
  rintro e w2 ⟨P, Q, v, xs, rfl, hp, hq, hl, S⟩
  go_wp2_with fail
  exact bodyPost_ret (v := .tuple #[.int .i64 P, .int .i64 Q, v]) (by simp [results, Try.results29, go_sem]) rfl ⟨P, Q, v, xs, rfl, hp, hq, hl, S⟩
end Go.Proofs.Ytbpfihklbmephaa
