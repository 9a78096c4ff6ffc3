/-
  spread: depth first, all that is connected gets the number.
-/
import Derived.Test.YtpkcpkhanodnmaaFillLaw
import Derived.Test.YtpkcpkhanodnmaaIntSS
namespace Go.Proofs.Ytpkcpkhanodnmaa
open Go Go.RowKit
def SpreadQ (w0 : World) (ov : Value) (g : List (List Int)) (Ls : List Asr) (e : Ending) (w' : World) : Prop := ∃ u, e = .returned u ∧ St w0 w' (DOwn LSI DI ov g :: Ls)
theorem imgOk_places {ys : List (List Bool)} (h : imgOk ys) {x y : Nat} (hp : pix ys x y = true) : (x, y) ∈ places ∧ x < 16 ∧ y < 16 := by
  obtain ⟨r, h1, h2⟩ := pix_in hp
  have h3 := h.2.2 y r h1
  have h4 := (List.getElem?_eq_some_iff.1 h1).1
  have h5 := h.2.1
  have hx : x < 16 := by have := h3.2.1; omega
  exact ⟨places_mem hx (by omega), hx, by omega⟩
/-- The cells of a grid that is owned. -/
theorem grid_at {w0 w : World} {ov : Value} {g : List (List Int)} {Ls : List Asr} (S : St w0 w (DOwn LSI DI ov g :: Ls)) {Y : Nat} {s : List Int} (hs : g[Y]? = some s) :
    ∃ (gb gn gc : Nat) (ra : Option Addr) (rn rc : Nat), ov = .slice (some ⟨gb, 0, none⟩) gn gc ∧ gn = g.length ∧ rn = s.length ∧ w.cell? ⟨gb, Y, none⟩ = some (.slice ra rn rc) ∧
      (∀ X v, s[X]? = some v → ∃ rb, ra = some ⟨rb, 0, none⟩ ∧ w.cell? ⟨rb, X, none⟩ = some (.int .i64 v) ∧ w.frozen? ⟨rb, X, none⟩ = false ∧
        ∀ n : Int, St w0 (w.setCell ⟨rb, X, none⟩ (.int .i64 n)) (DOwn LSI DI ov (g.set Y (s.set X n)) :: Ls)) := by
  obtain ⟨oa, on, oc, rfl, -, -, HON, -⟩ := (St.drds S).rows
  have hY := (List.getElem?_eq_some_iff.1 hs).1
  obtain ⟨gb, rfl⟩ : ∃ gb, oa = some ⟨gb, 0, none⟩ := by
    obtain ⟨xs, hl, S2⟩ := S.unpack
    obtain ⟨F, ⟨h1, _⟩, _⟩ := S2.head
    rcases h1.form with ⟨hv, hx⟩ | ⟨g', cap, cur, hv, _⟩
    · rw [hx] at hl; simp at hl; omega
    · simp only [Value.slice.injEq] at hv; exact ⟨g', hv.1⟩
  obtain ⟨ra, rn, rc, Ns, hc, hrn, S1, hre⟩ := St.drowAt S Y s hs
  refine ⟨gb, on, oc, ra, rn, rc, rfl, HON.out, hrn, hc, fun X v hv => ?_⟩
  obtain ⟨a', n', c', hv', -, -, HN2, HC2⟩ := LI_own S1
  simp only [Value.slice.injEq] at hv'
  obtain ⟨rfl, rfl, rfl⟩ := hv'
  have hX := (List.getElem?_eq_some_iff.1 hv).1
  obtain ⟨rb, v', rfl, -, -, hv2, hcc, hf⟩ := HC2.out X (by omega)
  have : v' = v := by have := hv2.out; rw [hv] at this; exact (Option.some.inj this).symm
  subst this
  exact ⟨rb, rfl, hcc, hf, fun n => hre _ _ (LI_set S1 (g := rb) rfl X n hX)⟩
set_option maxHeartbeats 4000000 in
theorem spread_s (w0 : World) (iv : Value) (ys : List (List Bool)) (ov : Value) (n : Int) (hn : 1 ≤ n ∧ n ≤ 1000) (hok : imgOk ys) (hiv : DRds LSB DB w0 iv ys) : ∀ (N : Nat) (g : List (List Int)) (x y : Int) (w : World) (Ls : List Asr),
    cnt ys g = N → dims ys g → (-1 ≤ x ∧ x ≤ 16) → (-1 ≤ y ∧ y ≤ 16) → St w0 w (DOwn LSI DI ov g :: Ls) →
    Calls Try.prog 58 #[iv, ov, .int .i64 x, .int .i64 y, .int .i64 n] w (SpreadQ w0 ov (fillI ys g x y n) Ls) := by
  intro N
  induction N using Nat.strongRecOn with
  | _ N ih =>
    intro g x y w Ls hN hd hx hy S
    obtain ⟨hn1, hn2⟩ := hn
    obtain ⟨hx1, hx2⟩ := hx
    obtain ⟨hy1, hy2⟩ := hy
    have HS : RowKit.Hid (Calls Try.prog 55 #[iv, .int .i64 x, .int .i64 y] w fun e w' => e = .returned (.bool (pix ys x y)) ∧ w = w') := sample_s iv ys x y w (hiv.kept S.gb)
    cases hp : pix ys x y with
    | false =>
      have e := fillI_no (ys := ys) (g := g) (x := x) (y := y) (n := n) (fun h => by
        have h2 := h.2.2.1
        simp only at h2
        rw [show ((x.toNat : Nat) : Int) = x by omega, show ((y.toNat : Nat) : Int) = y by omega, hp] at h2
        cases h2)
      rw [e]
      have SH := Lib.hid S
      rw [hp] at HS
      clear e S ih hN hp hiv
      go_enter Try.func58, Try.ntmps58
      go_wp2_with (go_at_call 55; refine (HS.out).mono ?_; rintro e w' ⟨rfl, rfl⟩)
      (first | go_ret | (refine bodyPost_ret (results_none rfl _ _ _) rfl ?_) | (refine bodyPost_end (results_none rfl _ _ _) rfl ?_))
      exact ⟨_, rfl, SH.out⟩
    | true =>
      rw [hp] at HS
      have hx0 : 0 ≤ x := by
        by_cases h : 0 ≤ x
        · exact h
        · rw [pix_out (fun h' => h h'.2)] at hp; cases hp
      have hy0 : 0 ≤ y := by
        by_cases h : 0 ≤ y
        · exact h
        · rw [pix_out (fun h' => h h'.1)] at hp; cases hp
      obtain ⟨X, rfl⟩ := Int.eq_ofNat_of_zero_le hx0
      obtain ⟨Y, rfl⟩ := Int.eq_ofNat_of_zero_le hy0
      obtain ⟨hpl, hX, hY⟩ := imgOk_places hok hp
      obtain ⟨s, hs, hXs⟩ := dims_in hd hp
      obtain ⟨gb, gn, gc, ra, rn, rc, rfl, hgn, hrn, hc0, hcc⟩ := grid_at S hs
      obtain ⟨v, hv⟩ : ∃ v, s[X]? = some v := ⟨_, List.getElem?_eq_getElem hXs⟩
      obtain ⟨rb, rfl, hc1, hf, hset⟩ := hcc X v hv
      have hgv := gr_at hs hv
      have hYn : Y < gn := by have := (List.getElem?_eq_some_iff.1 hs).1; omega
      have hXn : X < rn := by omega
      have i0 : (Y : Int) < (gn : Int) := by omega
      have i1 : (X : Int) < (rn : Int) := by omega
      by_cases hv0 : v = 0
      rotate_left
      · have e := fillI_no (ys := ys) (g := g) (x := X) (y := Y) (n := n) (fun h => hv0 (by have := h.2.2.2; simp only [Int.toNat_natCast] at this; rw [hgv] at this; exact this))
        rw [e]
        have hv1 : (v == 0) = false := by simpa using hv0
        have SH := Lib.hid S
        clear e S ih hN hp hiv hset hcc hgv hs hv hgn hrn
        go_enter Try.func58, Try.ntmps58
        go_wp2_with (go_at_call 55; refine (HS.out).mono ?_; rintro e w' ⟨rfl, rfl⟩)
        (first | go_ret | (refine bodyPost_ret (results_none rfl _ _ _) rfl ?_) | (refine bodyPost_end (results_none rfl _ _ _) rfl ?_))
        exact ⟨_, rfl, SH.out⟩
      subst hv0
      have hfr : fr ys g (X, Y) := ⟨hp, hgv⟩
      have hne : n ≠ 0 := by omega
      have S1 := hset n
      rw [mark_one hs] at S1
      have hd1 := hd.mark (fun p => p = (X, Y)) n
      have c1 := cnt_mark_lt hd hne (fun p => p = (X, Y)) (X, Y) hpl hfr rfl
      have S1' := Lib.hid S1
      have IH : RowKit.Hid (∀ (h : List (List Int)) (x y : Int) (w : World), cnt ys h < N → dims ys h → (-1 ≤ x ∧ x ≤ 16) → (-1 ≤ y ∧ y ≤ 16) → St w0 w (DOwn LSI DI (.slice (some ⟨gb, 0, none⟩) gn gc) h :: Ls) →
          Calls Try.prog 58 #[iv, .slice (some ⟨gb, 0, none⟩) gn gc, .int .i64 x, .int .i64 y, .int .i64 n] w (SpreadQ w0 (.slice (some ⟨gb, 0, none⟩) gn gc) (fillI ys h x y n) Ls)) := fun h x y w h1 h2 h3 h4 h5 => ih _ h1 h x y w Ls rfl h2 h3 h4 h5
      have F4 := Lib.hid (fill_four hd hne hfr)
      have C1 : RowKit.Hid (cnt ys (mark g (fun p => p = (X, Y)) n) < N) := by show _ < _; omega
      have D1 := Lib.hid hd1
      have CL : RowKit.Hid (∀ h (x y : Int), dims ys h → cnt ys h < N → cnt ys (fillI ys h x y n) < N) := fun h x y h1 h2 => Nat.lt_of_le_of_lt (cnt_mark_le h1 hne _) h2
      clear S ih hN hp hiv hset hcc hgv hs hv hgn hrn hfr S1 hd hd1 c1 hpl
      go_enter Try.func58, Try.ntmps58
      go_wp2_with (go_at_call 55; refine (HS.out).mono ?_; rintro e w' ⟨rfl, rfl⟩)
      refine (IH.out _ _ _ _ C1.out D1.out ⟨by omega, by omega⟩ ⟨by omega, by omega⟩ S1'.out).mono ?_
      rintro e w2 ⟨u2, rfl, S2⟩
      have D2 := Lib.hid (fillI_dims D1.out ((X : Int) - 1) Y n)
      have C2 := Lib.hid (CL.out _ ((X : Int) - 1) Y D1.out C1.out)
      go_wp2_with fail
      refine (IH.out _ _ _ _ C2.out D2.out ⟨by omega, by omega⟩ ⟨by omega, by omega⟩ S2).mono ?_
      rintro e w3 ⟨u3, rfl, S3⟩
      have D3 := Lib.hid (fillI_dims D2.out ((X : Int) + 1) Y n)
      have C3 := Lib.hid (CL.out _ ((X : Int) + 1) Y D2.out C2.out)
      go_wp2_with fail
      refine (IH.out _ _ _ _ C3.out D3.out ⟨by omega, by omega⟩ ⟨by omega, by omega⟩ S3).mono ?_
      rintro e w4 ⟨u4, rfl, S4⟩
      have D4 := Lib.hid (fillI_dims D3.out X ((Y : Int) - 1) n)
      have C4 := Lib.hid (CL.out _ X ((Y : Int) - 1) D3.out C3.out)
      go_wp2_with fail
      refine (IH.out _ _ _ _ C4.out D4.out ⟨by omega, by omega⟩ ⟨by omega, by omega⟩ S4).mono ?_
      rintro e w5 ⟨u5, rfl, S5⟩
      rw [F4.out] at S5
      have S6 := Lib.hid S5
      go_wp2_with fail
      (first | go_ret | (refine bodyPost_ret (results_none rfl _ _ _) rfl ?_) | (refine bodyPost_end (results_none rfl _ _ _) rfl ?_))
      exact ⟨_, rfl, S6.out⟩
end Go.Proofs.Ytpkcpkhanodnmaa
