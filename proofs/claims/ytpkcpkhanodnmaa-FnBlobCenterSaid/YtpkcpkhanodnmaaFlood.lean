/-
  l23Flood: breadth first, all that is connected gets the number.
-/
import Derived.Test.YtpkcpkhanodnmaaFloodLaw
import Derived.Test.YtpkcpkhanodnmaaSpread
import Derived.BigRegion
namespace Go.Proofs.Ytpkcpkhanodnmaa
open Go Go.RowKit
attribute [local go_sem ↓] lit4
def dx (d : Nat) : Int := sel [1, -1, 0, 0] d
def dy (d : Nat) : Int := sel [0, 0, 1, -1] d
theorem dxy_nb {q : Px} {d : Nat} (hd : d < 4) {r : Px} (hr : nb q d r) : (r.1 : Int) = (q.1 : Int) + dx d ∧ (r.2 : Int) = (q.2 : Int) + dy d := by
  obtain ⟨a, b⟩ := q
  obtain ⟨c, e⟩ := r
  unfold nb at hr
  rcases (show d = 0 ∨ d = 1 ∨ d = 2 ∨ d = 3 by omega) with rfl | rfl | rfl | rfl <;> simp [dx, dy, sel] at * <;> omega
theorem nb_dxy {q : Px} {d : Nat} (hd : d < 4) {r : Px} (h1 : (r.1 : Int) = (q.1 : Int) + dx d) (h2 : (r.2 : Int) = (q.2 : Int) + dy d) : nb q d r := by
  obtain ⟨a, b⟩ := q
  obtain ⟨c, e⟩ := r
  unfold nb
  rcases (show d = 0 ∨ d = 1 ∨ d = 2 ∨ d = 3 by omega) with rfl | rfl | rfl | rfl <;> simp [dx, dy, sel] at * <;> omega
theorem dxy_bd {d : Nat} (hd : d < 4) : (-1 ≤ dx d ∧ dx d ≤ 1) ∧ (-1 ≤ dy d ∧ dy d ≤ 1) := by
  rcases (show d = 0 ∨ d = 1 ∨ d = 2 ∨ d = 3 by omega) with rfl | rfl | rfl | rfl <;> simp [dx, dy, sel]
def qX (Q : List Px) : List Int := Q.map fun q => (q.1 : Int)
def qY (Q : List Px) : List Int := Q.map fun q => (q.2 : Int)
theorem qX_len (Q : List Px) : (qX Q).length = Q.length := by simp [qX]
theorem qY_len (Q : List Px) : (qY Q).length = Q.length := by simp [qY]
theorem qX_snoc (Q : List Px) (r : Px) : qX (Q ++ [r]) = qX Q ++ [(r.1 : Int)] := by simp [qX]
theorem qY_snoc (Q : List Px) (r : Px) : qY (Q ++ [r]) = qY Q ++ [(r.2 : Int)] := by simp [qY]
theorem own_cell {w0 w : World} {v : Value} {xs : List Int} {Ls : List Asr} (S : St w0 w (Own LI v xs :: Ls)) {k : Nat} {z : Int} (hz : xs[k]? = some z) :
    ∃ (b n c : Nat), v = .slice (some ⟨b, 0, none⟩) n c ∧ n = xs.length ∧ w.cell? ⟨b, k, none⟩ = some (.int .i64 z) := by
  obtain ⟨a, n, c, rfl, -, -, HN, HC⟩ := LI_own S
  obtain ⟨b, z', rfl, -, -, hz', hc, -⟩ := HC.out k (by rw [HN.out]; exact (List.getElem?_eq_some_iff.1 hz).1)
  rw [hz'.out] at hz
  rw [← Option.some.inj hz]
  exact ⟨b, n, c, rfl, HN.out, hc⟩
set_option maxRecDepth 100000 in
set_option maxHeartbeats 8000000 in
theorem flood_s (w0 : World) (iv : Value) (ys : List (List Bool)) (ov : Value) (n : Int) (hn : 1 ≤ n ∧ n ≤ 1000) (hok : imgOk ys) (hiv : DRds LSB DB w0 iv ys) (g : List (List Int)) (X Y : Nat) (w : World) (Ls : List Asr)
    (hd : dims ys g) (hf : fr ys g (X, Y)) (S : St w0 w (DOwn LSI DI ov g :: Ls)) :
    Calls Try.prog 60 #[iv, ov, .int .i64 X, .int .i64 Y, .int .i64 n] w (SpreadQ w0 ov (fillI ys g X Y n) Ls) := by
  obtain ⟨hn1, hn2⟩ := hn
  have hne : n ≠ 0 := by omega
  obtain ⟨hpl, hX, hY⟩ := imgOk_places hok hf.1
  have INV0 := Lib.hid (FInv.start hd hne hf hpl)
  obtain ⟨s0, hs0, hXs⟩ := dims_in hd hf.1
  obtain ⟨H, hH⟩ : ∃ H, H = w.heap.size := ⟨_, rfl⟩
  have S1 : St w0 ((w.alloc (.cells #[.int .i64 X] 3)).alloc (.cells #[.int .i64 Y] 3)) (Own LI (.slice (some ⟨H + 1, 0, none⟩) 1 1) [(Y : Int)] :: Own LI (.slice (some ⟨H, 0, none⟩) 1 1) [(X : Int)] :: DOwn LSI DI ov g :: Ls) := (S.ownLitAt LI [(X : Int)] #[.int .i64 X] rfl (by unfold maxLen; simp) H hH).ownLitAt LI [(Y : Int)] #[.int .i64 Y] rfl (by unfold maxLen; simp) (H + 1) (by simp [hH])
  have S2 := St.rot S1
  obtain ⟨gb, gn, gc, ra, rn, rc, rfl, hgn, hrn, hc0, hcc⟩ := grid_at S2 hs0
  obtain ⟨v, hv⟩ : ∃ v, s0[X]? = some v := ⟨_, List.getElem?_eq_getElem hXs⟩
  obtain ⟨rb, rfl, hc1, hfz, hset⟩ := hcc X v hv
  have S3 := hset n
  rw [mark_one hs0, show (fun p => p = (X, Y)) = (· ∈ [(X, Y)]) by funext p; simp] at S3
  have S4 : RowKit.Hid (St w0 ((((w.alloc (.cells #[.int .i64 X] 3)).alloc (.cells #[.int .i64 Y] 3))).setCell ⟨rb, X, none⟩ (.int .i64 n)) (DOwn LSI DI (.slice (some ⟨gb, 0, none⟩) gn gc) (mark g (· ∈ [(X, Y)]) n) :: Own LI (.slice (some ⟨H, 0, none⟩) 1 1) (qX [(X, Y)]) :: Own LI (.slice (some ⟨H + 1, 0, none⟩) 1 1) (qY [(X, Y)]) :: Ls)) :=
    S3.perm (.cons _ (.swap _ _ _))
  have hYn : Y < gn := by have := (List.getElem?_eq_some_iff.1 hs0).1; omega
  have hXn : X < rn := by omega
  have i0 : (Y : Int) < (gn : Int) := by omega
  have i1 : (X : Int) < (rn : Int) := by omega
  obtain ⟨va, vn, vc, rfl, hvc, hvm, HVN, HVC⟩ := hiv.rows
  have hvn0 : 0 < vn := by have := HVN.out; have := hok.1; omega
  have hvn16 : vn ≤ 16 := by have := HVN.out; have := hok.2.1; omega
  obtain ⟨b, off, ra0, rn0, rc0, r0, rfl, hb0, hy0, hrn0, hrc0, hrm0, hrd0, c0⟩ := HVC.out 0 hvn0
  rw [Nat.add_zero] at c0
  have hW : RowKit.Hid (∀ (k : Nat) (r : List Bool), ys[k]? = some r → r.length = rn0) := by
    intro k r hr
    rw [hrn0.out, imgOk_row hok hr, imgOk_row hok hy0.out]
  have hrn16 : rn0 ≤ 16 := by have := hrn0.out; have := (hok.2.2 0 r0 hy0.out).2.1; omega
  have HOK := Lib.hid hok
  have HD := Lib.hid hd
  have HH := Lib.hid hH
  have HGN := Lib.hid hgn
  clear S S1 S2 S3 hset hcc hs0 hv hd hok hf hpl hgn hrn hiv hrd0 hrn0 hy0 hH
  go_enter Try.func60, Try.ntmps60
  go_wp2
  rw [← HH.out]
  go_loopw [10, 11, 12, 13, 14, 15] (fun vx vy ik _ _ _ wr => ∃ (k : Nat) (Q : List Px), ik = .int .i64 k ∧ k ≤ Q.length ∧ Q.length ≤ 256 ∧ RowKit.Hid (FInv ys g n (X, Y) Q k 0) ∧ St w0 wr (DOwn LSI DI (.slice (some ⟨gb, 0, none⟩) gn gc) (mark g (· ∈ Q) n) :: Own LI vx (qX Q) :: Own LI vy (qY Q) :: Ls)) (fun _ _ ik _ _ _ _ => 257 - (intOf ik).toNat)
  case atStart => exact ⟨0, [(X, Y)], rfl, by simp, by simp, INV0, S4.out⟩
  case round =>
    obtain ⟨k, Q, rfl, hkQ, hQ, INV, S5⟩ := hrel
    clear S4 INV0
    obtain ⟨xa, xn, xc, rfl, -, hxm, HXN, -⟩ := LI_own (St.tail S5)
    obtain ⟨ya, yn, yc, rfl, -, hym, HYN, -⟩ := LI_own (St.tail (St.tail S5))
    have hxn : xn = Q.length := by rw [HXN.out, qX_len]
    have hxn2 : k ≤ xn := by omega
    have hxn3 : xn ≤ 256 := by omega
    have HXQ := Lib.hid hxn
    clear hxn HXN HYN
    by_cases hlt : k < xn
    rotate_left
    · have S6 : RowKit.Hid (St w0 wr (DOwn LSI DI (.slice (some ⟨gb, 0, none⟩) gn gc) (fillI ys g X Y n) :: Ls)) := by
        rw [← FInv.fin INV.out (by have := HXQ.out; omega)]
        exact St.tail (St.swap (St.tail (St.rot S5)))
      clear S5 INV
      go_wp2
      (first | go_ret | (refine bodyPost_ret (results_none rfl _ _ _) rfl ?_) | (refine bodyPost_end (results_none rfl _ _ _) rfl ?_))
      exact ⟨_, rfl, S6.out⟩
    go_wp2
    obtain ⟨wo, rfl⟩ : ∃ wo : World, wo = wr := ⟨_, rfl⟩
    obtain ⟨q, hq⟩ : ∃ q, Q[k]? = some q := ⟨_, List.getElem?_eq_getElem (by have := HXQ.out; omega)⟩
    have HQ := Lib.hid hq
    clear hq
    go_loopw [10, 11, 13, 14, 15] (fun vx vy id _ _ wr => ∃ (d : Nat) (Q : List Px), id = .int .i64 d ∧ d ≤ 4 ∧ Q.length ≤ 256 ∧ RowKit.Hid (Q[k]? = some q) ∧ RowKit.Hid (FInv ys g n (X, Y) Q k d) ∧ St w0 wr (DOwn LSI DI (.slice (some ⟨gb, 0, none⟩) gn gc) (mark g (· ∈ Q) n) :: Own LI vx (qX Q) :: Own LI vy (qY Q) :: Ls)) (fun _ _ id _ _ _ => 4 - (intOf id).toNat)
    case atStart => exact ⟨0, Q, rfl, by omega, hQ, HQ, INV, S5⟩
    case round =>
      clear INV HQ S5 HXQ hQ hkQ hlt hxn2 hxn3 hxm hym
      obtain ⟨d, Q, rfl, hd4, hQ, HQ, INV, S5⟩ := hrel
      by_cases hlt : d < 4
      rotate_left
      · obtain rfl : d = 4 := by omega
        have INV2 := Lib.hid (FInv.next INV.out)
        have hkl : k + 1 ≤ Q.length := (List.getElem?_eq_some_iff.1 HQ.out).1
        clear INV
        go_wp2
        go_roundw
        case rel => exact ⟨k + 1, Q, by go_num, hkl, hQ, INV2, S5⟩
        case measure => (simp [intOf]; try omega)
      obtain ⟨qx, qy⟩ := q
      have hqx : (qX Q)[k]? = some (qx : Int) := by simp [qX, HQ.out]
      have hqy : (qY Q)[k]? = some (qy : Int) := by simp [qY, HQ.out]
      obtain ⟨xb, xn, xc, rfl, hxn, hxc⟩ := own_cell (St.tail S5) hqx
      obtain ⟨yb, yn, yc, rfl, hyn, hyc⟩ := own_cell (St.tail (St.tail S5)) hqy
      rw [qX_len] at hxn
      rw [qY_len] at hyn
      have hkQ : k < Q.length := (List.getElem?_eq_some_iff.1 HQ.out).1
      have hqp := (INV.out.rch _ (List.mem_of_getElem? HQ.out)).in.1
      obtain ⟨-, hqx16, hqy16⟩ := imgOk_places HOK.out hqp
      have hkx : k < xn := by omega
      have hky : k < yn := by omega
      have hkxi : (k : Int) < xn := by omega
      have hkyi : (k : Int) < yn := by omega
      obtain ⟨⟨bx1, bx2⟩, by1, by2⟩ := dxy_bd hlt
      obtain ⟨DX, hDX⟩ : ∃ D, D = dx d := ⟨_, rfl⟩
      obtain ⟨DY, hDY⟩ : ∃ D, D = dy d := ⟨_, rfl⟩
      rw [← hDX] at bx1 bx2
      rw [← hDY] at by1 by2
      have eX : sel [1, -1, 0, 0] d = DX := hDX.symm
      have eY : sel [0, 0, 1, -1] d = DY := hDY.symm
      have HDX := Lib.hid hDX
      have HDY := Lib.hid hDY
      have I1 : RowKit.Hid (IntKind.i64.wrap ((qx : Int) + DX) = (qx : Int) + DX) := IntWalk.i64_in _ (by omega)
      have I2 : RowKit.Hid (IntKind.i64.wrap ((qy : Int) + DY) = (qy : Int) + DY) := IntWalk.i64_in _ (by omega)
      have hd4i : (d : Int) < 4 := by omega
      have d0 : (0 : Int) ≤ (d : Int) := by omega
      have HXN := Lib.hid hxn
      have HYN := Lib.hid hyn
      have hxc1 := gb_cell (row := none) (World.grownBy_alloc wr (.cells #[Value.int .i64 1, .int .i64 (-1), .int .i64 0, .int .i64 0] 3) none) hxc (by simp)
      have hyc1 := gb_cell (row := none) (World.grownBy_alloc wr (.cells #[Value.int .i64 1, .int .i64 (-1), .int .i64 0, .int .i64 0] 3) none) hyc (by simp)
      have hyc2 := gb_cell (row := none) (gb_alloc (World.grownBy_alloc wr (.cells #[Value.int .i64 1, .int .i64 (-1), .int .i64 0, .int .i64 0] 3) none) (.cells #[Value.int .i64 0, .int .i64 0, .int .i64 1, .int .i64 (-1)] 3)) hyc (by simp)
      clear hqx hqy hxn hyn hDX hDY hqp
      go_wp2_with fail
      have i1 := I1.out
      go_region
      clear i1
      go_wp2_with fail
      have i2 := I2.out
      go_region
      clear i2
      clear hxc1 hyc1 hyc2 hxc hyc eX eY
      have SKIP : RowKit.Hid ((∀ r : Px, (r.1 : Int) = (qx : Int) + DX → (r.2 : Int) = (qy : Int) + DY → fr ys g r → r ∈ Q) → FInv ys g n (X, Y) Q k (d + 1)) := by
        intro h
        refine FInv.skip INV.out (fun q' hq' r hr hf => ?_)
        rw [HQ.out] at hq'
        obtain rfl := Option.some.inj hq'
        obtain ⟨h1, h2⟩ := dxy_nb hlt hr
        rw [← HDX.out] at h1
        rw [← HDY.out] at h2
        exact h r h1 h2 hf
      have ADD : RowKit.Hid (∀ r : Px, (r.1 : Int) = (qx : Int) + DX → (r.2 : Int) = (qy : Int) + DY → fr ys (mark g (· ∈ Q) n) r → FInv ys g n (X, Y) (Q ++ [r]) k (d + 1)) := by
        intro r h1 h2 hf
        rw [HDX.out] at h1
        rw [HDY.out] at h2
        exact FInv.add HD.out hne INV.out HQ.out (nb_dxy hlt h1 h2) hf (imgOk_places HOK.out hf.1).1
      have S6 := ((S5.alloc (.cells #[Value.int .i64 1, .int .i64 (-1), .int .i64 0, .int .i64 0] 3)).alloc (.cells #[Value.int .i64 0, .int .i64 0, .int .i64 1, .int .i64 (-1)] 3)).drew.drew
      go_wp2_with fail
      obtain ⟨W2, hW2⟩ : ∃ W2, W2 = ((wr.alloc (.cells #[Value.int .i64 1, .int .i64 (-1), .int .i64 0, .int .i64 0] 3)).alloc (.cells #[Value.int .i64 0, .int .i64 0, .int .i64 1, .int .i64 (-1)] 3)).drew.drew := ⟨_, rfl⟩
      rw [← hW2] at S6 ⊢
      clear hW2 S5
      have c0' := gb_cell S6.gb c0 (by simp)
      refine (in_b _ _ _ _).mono ?_
      rintro e w' ⟨rfl, rfl⟩
      by_cases hj : 0 ≤ (qy : Int) + DY ∧ (qy : Int) + DY ≤ (vn : Int) - 1
      rotate_left
      · rw [inB_f.2 hj]
        have INV2 := Lib.hid (SKIP.out (fun r h1 h2 hf => absurd (by
          obtain ⟨rr, h3, -⟩ := pix_in hf.1
          have h4 := (List.getElem?_eq_some_iff.1 h3).1
          have := HVN.out
          omega) hj))
        clear hj SKIP ADD INV
        go_wp2
        go_roundw
        case rel => exact ⟨d + 1, Q, by go_num, by omega, hQ, HQ, INV2, S6⟩
        case measure => (simp [intOf]; try omega)
      rw [inB_t.2 hj]
      obtain ⟨hj1, hj2⟩ := hj
      obtain ⟨J, hJ⟩ := Int.eq_ofNat_of_zero_le hj1
      rw [hJ] at hj2 ⊢
      have HJ := Lib.hid hJ
      clear hJ hj1
      have hJn : J < vn := by omega
      have hJi : (J : Int) < vn := by omega
      obtain ⟨b1, off1, ra1, rn1, rc1, r1, hab, hb1, hy1, hrn1, hrc1, hrm1, hrd1, c1⟩ := HVC.out J hJn
      obtain ⟨rfl, rfl⟩ : b = b1 ∧ off = off1 := by simpa using hab
      have hr10 : rn1 = rn0 := by rw [hrn1.out]; exact hW.out J r1 hy1.out
      have c1' := gb_cell S6.gb c1 (by simp)
      obtain ⟨-, HR1⟩ := rds_bool_at hrd1
      clear hab c1 hrd1
      go_wp2_with fail
      refine (in_b _ _ _ _).mono ?_
      rintro e w' ⟨rfl, rfl⟩
      by_cases hi : 0 ≤ (qx : Int) + DX ∧ (qx : Int) + DX ≤ (rn0 : Int) - 1
      rotate_left
      · rw [inB_f.2 hi]
        have INV2 := Lib.hid (SKIP.out (fun r h1 h2 hf => absurd (by
          obtain ⟨rr, h3, h4⟩ := pix_in hf.1
          have := hW.out _ rr h3
          omega) hi))
        clear hi SKIP ADD INV
        go_wp2
        go_roundw
        case rel => exact ⟨d + 1, Q, by go_num, by omega, hQ, HQ, INV2, S6⟩
        case measure => (simp [intOf]; try omega)
      rw [inB_t.2 hi]
      obtain ⟨hi1, hi2⟩ := hi
      obtain ⟨I, hI⟩ := Int.eq_ofNat_of_zero_le hi1
      rw [hI] at hi2 ⊢
      have HI := Lib.hid hI
      clear hI hi1
      have hIn : I < rn1 := by omega
      have hIi : (I : Int) < rn1 := by omega
      obtain ⟨b2, off2, z, rfl, hb2, hz, c2⟩ := HR1.out I hIn
      have hpz := Lib.hid (pix_at hy1.out hz.out)
      have c2' := gb_cell S6.gb c2 (by simp)
      have UNI : RowKit.Hid (∀ r : Px, (r.1 : Int) = (qx : Int) + DX → (r.2 : Int) = (qy : Int) + DY → r = (I, J)) := by
        rintro ⟨a, b⟩ h1 h2
        rw [HI.out] at h1
        rw [HJ.out] at h2
        simp only at h1 h2
        have e1 : a = I := by omega
        have e2 : b = J := by omega
        rw [e1, e2]
      clear c2 hz HR1
      cases z with
      | false =>
        have INV2 := Lib.hid (SKIP.out (fun r h1 h2 hf => by
          rw [UNI.out r h1 h2] at hf
          have := hf.1
          simp only at this
          rw [hpz.out] at this
          cases this))
        clear SKIP ADD INV
        go_wp2
        go_roundw
        case rel => exact ⟨d + 1, Q, by go_num, by omega, hQ, HQ, INV2, S6⟩
        case measure => (simp [intOf]; try omega)
      | true =>
        obtain ⟨s1, hs1, hIs⟩ := dims_in (HD.out.mark (· ∈ Q) n) (x := I) (y := J) hpz.out
        obtain ⟨gb', gn', gc', ga1, gn1, gc1, hgv, hgn', hgl, hgc, hgg⟩ := grid_at S6 hs1
        simp only [Value.slice.injEq, Option.some.injEq, Addr.mk.injEq, and_true] at hgv
        obtain ⟨rfl, rfl, rfl⟩ := hgv
        obtain ⟨v1, hv1⟩ : ∃ v, s1[I]? = some v := ⟨_, List.getElem?_eq_getElem hIs⟩
        obtain ⟨rb1, rfl, hgc1, hgf, hgset⟩ := hgg I v1 hv1
        have hgr := gr_at hs1 hv1
        have hJg : J < gn := by have := (List.getElem?_eq_some_iff.1 hs1).1; omega
        have hIg : I < gn1 := by omega
        have hJgi : (J : Int) < gn := by omega
        have hIgi : (I : Int) < gn1 := by omega
        by_cases hv0 : v1 = 0
        rotate_left
        · have INV2 := Lib.hid (SKIP.out (fun r h1 h2 hf => by
            rw [UNI.out r h1 h2] at hf ⊢
            by_cases hQ' : (I, J) ∈ Q
            · exact hQ'
            · have h5 := (fr_mark HD.out hne (· ∈ Q) (I, J)).2 ⟨hf, hQ'⟩
              exact absurd (hgr.symm.trans h5.2) hv0))
          have hv0' : (v1 == 0) = false := by simpa using hv0
          clear SKIP ADD INV hgset hgg hgr hs1 hv1 hgn' hgl
          go_wp2
          go_roundw
          case rel => exact ⟨d + 1, Q, by go_num, by omega, hQ, HQ, INV2, S6⟩
          case measure => (simp [intOf]; try omega)
        subst hv0
        have INV2 := Lib.hid (ADD.out (I, J) HI.out.symm HJ.out.symm ⟨hpz.out, hgr⟩)
        have hQ2 : (Q ++ [(I, J)]).length ≤ 256 := by have := INV2.out.num; omega
        have HQ2 : RowKit.Hid ((Q ++ [(I, J)])[k]? = some (qx, qy)) := by show _ = _; rw [List.getElem?_append_left hkQ]; exact HQ.out
        have S7 := hgset n
        rw [mark_one hs1, mark_snoc] at S7
        have S8 := Lib.hid (St.rot (St.rot S7))
        have hxl : (qX Q).length ≤ 1000000000 := by rw [qX_len]; omega
        have hyl : (qY Q).length ≤ 1000000000 := by rw [qY_len]; omega
        clear SKIP ADD INV hgset hgg hgr hs1 hv1 hgn' hgl S6 S7
        go_wp2_with (first
          | (at_builtin; refine wpList_app1 LI_info rfl _ _ rfl S8.out (I : Int) #[.int .i64 I] rfl rfl (by simp [Act.eval]) hxl ?_; intro v9 w9 S9; have S10 := Lib.hid (St.rot (St.rot S9)); clear S9)
          | (at_builtin; refine wpList_app1 LI_info rfl _ _ rfl S10.out (J : Int) #[.int .i64 J] rfl rfl rfl hyl ?_; intro v11 w11 S11; have S12 := Lib.hid (St.rot (St.rot S11)); clear S11))
        have S13 : RowKit.Hid (St w0 w11 (DOwn LSI DI (.slice (some ⟨gb, 0, none⟩) gn gc) (mark g (· ∈ Q ++ [(I, J)]) n) :: Own LI v9 (qX (Q ++ [(I, J)])) :: Own LI v11 (qY (Q ++ [(I, J)])) :: Ls)) := by
          rw [qX_snoc, qY_snoc]
          exact S12.out
        clear S12 S10 S8
        go_roundw
        case rel => exact ⟨d + 1, Q ++ [(I, J)], by go_num, by omega, hQ2, HQ2, INV2, S13.out⟩
        case measure => (simp [intOf]; try omega)
end Go.Proofs.Ytpkcpkhanodnmaa
