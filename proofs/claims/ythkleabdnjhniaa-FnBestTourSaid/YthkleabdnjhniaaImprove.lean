/-
  ImproveTour: both programs give the same order.
-/
import Derived.Test.YthkleabdnjhniaaRev
import Derived.Test.YthkleabdnjhniaaOrder
import Derived.Test.YthkleabdnjhniaaOrderDraw
import Derived.Deep.LoopGhost
namespace Go.Proofs.Ythkleabdnjhniaa
open Go Go.RowKit
attribute [local go_sem] eqNil
def ShortQ (xs : List Pt) (os : List Int) (w : World) (e : Ending) (w' : World) : Prop :=
  (shorterP xs os = none ∧ e = .returned (.slice none 0 0) ∧ w.grownBy w' none) ∨
  (∃ i j g n cap : Nat, shorterP xs os = some (i, j) ∧ e = .returned (.slice (some ⟨g, 0, none⟩) n cap) ∧ St w w' [Own LI (.slice (some ⟨g, 0, none⟩) n cap) (revAt os i j)])
theorem inN_rev {n : Nat} {os : List Int} {i j : Nat} (hj : j < os.length) (h : ordOk n os) : inN n (revAt os i j) := (revAt_ok hj h).inN
set_option maxRecDepth 100000 in
set_option maxHeartbeats 4000000 in
theorem shorter_s (v u : Value) (xs : List Pt) (os : List Int) (w : World) (hv : Rds LPt w v xs) (hu : Rds LI w u os) (hp : ptsB xs = true) (ho : ordOk xs.length os) (h1 : 0 < os.length) (h16 : os.length ≤ 16) :
    Calls Try.prog 59 #[v, u] w (ShortQ xs os w) := by
  obtain ⟨a, n, cap, rfl, hn, hm, HN, -⟩ := LI_get hu
  have hn1 : 0 < n := by have := HN.out; omega
  have hn16 : n ≤ 16 := by have := HN.out; omega
  have ST : RowKit.Hid (shorterP xs os = findI (shP xs os) n (n - 1)) := by have := shorterP_start xs os; rw [← HN.out] at this; exact this
  have HP := Lib.hid hp
  have HO := Lib.hid ho
  have hinN := Lib.hid ho.inN
  clear hp ho h1 h16
  go_enter Try.func59, Try.ntmps59
  go_wp2
  go_loopw [5, 6, 7] (fun i _ _ wr => ∃ I : Nat, 1 ≤ I ∧ I ≤ n ∧ i = .int .i64 I ∧ RowKit.Hid (shorterP xs os = findI (shP xs os) n (n - I)) ∧ w.grownBy wr none) (fun i _ _ _ => n - (intOf i).toNat)
  case atStart => exact ⟨1, by omega, by omega, rfl, ST, World.grownBy.refl _ _⟩
  case round =>
    clear ST
    obtain ⟨I, hI1, hI, rfl, HF, hg⟩ := hrel
    by_cases hlt : I < n
    rotate_left
    · obtain rfl : I = n := by omega
      have e : RowKit.Hid (shorterP xs os = none) := by show _ = _; rw [HF.out, Nat.sub_self]; rfl
      clear HF
      go_wp2
      go_ret
      exact .inl ⟨e.out, rfl, hg⟩
    have HF2 : RowKit.Hid (shorterP xs os = findIJ (shP xs os) n I (I + 1)) := by show _ = _; rw [HF.out, findI_step hlt]; rfl
    obtain ⟨wo, hwo⟩ : ∃ wo, wo = wr := ⟨_, rfl⟩
    subst hwo
    clear HF
    go_wp2
    go_loopw [6, 7] (fun j _ wr => ∃ J : Nat, I + 1 ≤ J ∧ J ≤ n ∧ j = .int .i64 J ∧ RowKit.Hid (shorterP xs os = findIJ (shP xs os) n I J) ∧ w.grownBy wr none) (fun j _ _ => n - (intOf j).toNat)
    case atStart => exact ⟨I + 1, by omega, by omega, by go_num, HF2, hg⟩
    case round =>
      clear HF2 hg
      obtain ⟨J, hJ1, hJ, rfl, HF, hg⟩ := hrel
      by_cases hlt2 : J < n
      rotate_left
      · obtain rfl : J = n := by omega
        have HF3 : RowKit.Hid (shorterP xs os = findI (shP xs os) J (J - (I + 1))) := by show _ = _; rw [HF.out, findIJ_end]
        clear HF
        go_wp2
        go_roundw
        case rel => exact ⟨I + 1, by omega, by omega, by go_num, HF3, hg⟩
        case measure => (simp [intOf]; try omega)
      have R := hu.kept hg
      go_wp2_with fail
      refine (clone_s _ os _ R (by have := HN.out; omega) (by have := HN.out; omega)).mono ?_
      rintro e w2 ⟨r, rfl, S⟩
      clear R
      obtain ⟨g, cp, rfl, hc1, hc2⟩ := S.ownBlk (by have := HN.out; omega)
      rw [← HN.out] at S hc1
      rw [← HN.out]
      have hIi : (I : Int) ≤ (J : Int) + 1 := by omega
      have hJi : (J : Int) + 1 ≤ (cp : Int) := by omega
      have hci : ¬ cp = I := by omega
      have hIc : I ≤ cp := by omega
      have hJc : J + 1 ≤ cp := by omega
      have hIJ : I ≤ J + 1 := by omega
      have hI16 : os.length ≤ 1000 := by have := HN.out; omega
      have hIL : I + (J + 1 - I) ≤ os.length := by have := HN.out; omega
      go_wp2_with fail
      refine (reverse_s wr g n cp I (J + 1 - I) (cp - I) os [] _ S (by omega) hIL hI16 (by omega) (by omega)).mono ?_
      rintro e w3 ⟨u9, rfl, S3⟩
      rw [show I + (J + 1 - I) - 1 = J by omega] at S3
      clear S
      obtain ⟨T1, hT1⟩ : ∃ T, tourL xs (revAt os I J) = T := ⟨_, rfl⟩
      obtain ⟨T2, hT2⟩ : ∃ T, tourL xs os = T := ⟨_, rfl⟩
      have C1 : RowKit.Hid (∀ W, w3.grownBy W none → Calls Try.prog 51 #[v, .slice (some ⟨g, 0, none⟩) n cp] W fun e w' => e = .returned (.int .i64 T1) ∧ W.grownBy w' none) := by
        intro W h
        have := i_len v _ xs (revAt os I J) W (hv.kept (gb_trans (gb_trans hg S3.gb) h)) ((St.own S3).kept h) HP.out (inN_rev (by have := HN.out; omega) HO.out) (by rw [revAt_len]; exact hI16)
        rwa [hT1] at this
      have C2 : RowKit.Hid (∀ W, w3.grownBy W none → Calls Try.prog 51 #[v, .slice a n cap] W fun e w' => e = .returned (.int .i64 T2) ∧ W.grownBy w' none) := by
        intro W h
        have := i_len v _ xs os W (hv.kept (gb_trans (gb_trans hg S3.gb) h)) (hu.kept (gb_trans (gb_trans hg S3.gb) h)) HP.out hinN.out hI16
        rwa [hT2] at this
      have SH := Lib.hid S3
      clear S3
      by_cases hlt3 : T1 < T2
      · have HY : RowKit.Hid (shorterP xs os = some (I, J)) := by show _ = _; rw [HF.out, findIJ_yes hlt2 (shP_t (by rw [hT1, hT2]; exact hlt3))]
        clear HF hT1 hT2
        go_wp2_with fail
        refine (C1.out _ (World.grownBy.refl _ _)).mono ?_
        rintro e w4 ⟨rfl, g4⟩
        go_wp2_with fail
        refine (C2.out _ g4).mono ?_
        rintro e w5 ⟨rfl, g5⟩
        have S5 := Lib.hid ((SH.out.grow g4).grow g5)
        clear C1 C2 g4 g5 SH
        go_wp2
        go_ret
        exact .inr ⟨I, J, g, n, cp, HY.out, rfl, ⟨gb_trans hg S5.out.gb, by
          obtain ⟨_, F, h2, h3⟩ := S5.out
          exact ⟨F, h2, fun b hb => Nat.le_trans hg.size (h3 b hb)⟩⟩⟩
      · have HX : RowKit.Hid (shorterP xs os = findIJ (shP xs os) n I (J + 1)) := by show _ = _; rw [HF.out, findIJ_no hlt2 (shP_f (by rw [hT1, hT2]; exact hlt3))]
        clear HF hT1 hT2
        go_wp2_with fail
        refine (C1.out _ (World.grownBy.refl _ _)).mono ?_
        rintro e w4 ⟨rfl, g4⟩
        go_wp2_with fail
        refine (C2.out _ g4).mono ?_
        rintro e w5 ⟨rfl, g5⟩
        have G5 := Lib.hid (gb_trans hg (gb_trans (gb_trans SH.out.gb g4) g5))
        clear C1 C2 g4 g5 SH
        go_wp2
        go_roundw
        case rel => exact ⟨J + 1, by omega, by omega, by go_num, HX, G5.out⟩
        case measure => (simp [intOf]; try omega)
def ImprQ (xs : List Pt) (os : List Int) (w : World) (e : Ending) (w' : World) : Prop := ∃ r, e = .returned r ∧ St w w' [Own LI r (improve xs os)]
theorem St.lower {w0 w w' : World} {Ls : List Asr} (hg : w0.grownBy w none) (S : St w w' Ls) : St w0 w' Ls := by
  obtain ⟨h1, F, h2, h3⟩ := S
  exact ⟨gb_trans hg h1, F, h2, fun b hb => Nat.le_trans hg.size (h3 b hb)⟩
set_option maxRecDepth 100000 in
set_option maxHeartbeats 4000000 in
theorem i_ImproveTour (v : Value) (xs : List Pt) (u : Value) (os : List Int) (w : World) (hv : Rds LPt w v xs) (hu : Rds LI w u os) :
    Calls Try.prog 36 #[v, u] w fun e w' => ∃ r, e = .returned r ∧ St w w' [Own LI r (improve xs os)] := by
  show Calls _ _ _ _ (ImprQ xs os w)
  have HF : RowKit.Hid (Calls Try.prog 50 #[v, u] w fun e w' => e = .returned (.bool (fitsB xs os)) ∧ w.grownBy w' none) := orderFits_s v u xs os w hv hu
  cases hB : fitsB xs os with
  | false =>
    have e0 := Lib.hid (improve_no hB)
    rw [hB] at HF
    clear hB
    go_enter Try.func36, Try.ntmps36
    go_wp2_with (refine (HF.out).mono ?_; rintro e w1 ⟨rfl, g1⟩)
    go_ret
    exact ⟨_, rfl, by rw [e0.out]; exact ((St.refl w).grow g1).ownNil LI⟩
  | true =>
    have e0 := Lib.hid (improve_yes hB)
    obtain ⟨h1, h2⟩ := fits_of hB
    have hs := stopsB_len h1
    have HP := Lib.hid (stopsB_pts h1)
    have HOL : RowKit.Hid (1 ≤ xs.length ∧ xs.length ≤ 16) := hs
    have h3 := h2.1
    have ho1 : 0 < os.length ∧ os.length ≤ 1000 := by omega
    have HO := Lib.hid h2
    rw [hB] at HF
    clear hB h1 h2 h3 hs
    go_enter Try.func36, Try.ntmps36
    go_wp2_with fail
    refine (HF.out).mono ?_
    rintro e w1 ⟨rfl, g1⟩
    go_wp2_with fail
    refine (clone_s _ os _ (hu.kept g1) ho1.1 ho1.2).mono ?_
    rintro e w2 ⟨r, rfl, S0⟩
    have S := St.lower g1 S0
    clear S0 g1
    go_wp2
    go_loopg [5, 6] (tourL xs os).toNat (fun k now _ wr => ∃ us : List Int, k = (tourL xs us).toNat ∧ ordOk xs.length us ∧ RowKit.Hid (improveL xs us = improveL xs os) ∧ St w wr [Own LI now us])
    case atStart => exact ⟨os, rfl, HO.out, rfl, S⟩
    case round =>
      clear S
      obtain ⟨us, hk, hus, HI, S⟩ := hrel
      obtain ⟨N, HN⟩ : ∃ N, RowKit.Hid (us.length = N) := ⟨_, rfl⟩
      have hN1 : 1 ≤ N ∧ N ≤ 16 := by have := hus.1; have := HN.out; have := HOL.out; omega
      obtain ⟨g, cp, rfl, hc1, hc2⟩ := S.ownBlk (by have := HN.out; omega)
      rw [HN.out] at S hc1
      rw [HN.out]
      have HUS := Lib.hid hus
      have HK := Lib.hid hk
      have SH := Lib.hid S
      have C : RowKit.Hid (Calls Try.prog 59 #[v, .slice (some ⟨g, 0, none⟩) N cp] wr (ShortQ xs us wr)) := shorter_s v _ xs us wr (hv.kept S.gb) (St.own S) HP.out hus (by have := HN.out; omega) (by have := HN.out; omega)
      clear hk hus S
      go_wp2_with fail
      refine (C.out).mono ?_
      rintro e w3 (⟨hno, rfl, g3⟩ | ⟨i, j, g', n', cap', hso, rfl, S3⟩)
      · have HR : RowKit.Hid (improve xs os = us) := by show _ = _; rw [e0.out, ← HI.out, improveL_none hno]
        have S4 := Lib.hid (SH.out.grow g3)
        clear C hno g3
        go_wp2
        go_ret
        exact ⟨_, rfl, by rw [HR.out]; exact S4.out⟩
      · obtain ⟨q1, q2, q3, q4⟩ := shorterP_some hso
        have HR : RowKit.Hid (improveL xs (revAt us i j) = improveL xs os) := by show _ = _; rw [← improveL_some HP.out hso]; exact HI.out
        have HOK := Lib.hid (revAt_ok (i := i) q3 HUS.out)
        have QM : RowKit.Hid ((tourL xs (revAt us i j)).toNat < gk) := by
          show _ < _
          have := HK.out
          have := tourL_nonneg HP.out (revAt us i j)
          simp only at q4
          omega
        have S4 := Lib.hid (St.lower SH.out.gb S3)
        clear C hso S3 q1 q2 q3 q4 HI HK
        go_wp2
        go_roundg (tourL xs (revAt us i j)).toNat
        case measure => exact QM.out
        case rel => exact ⟨revAt us i j, rfl, HOK.out, HR, S4.out⟩
end Go.Proofs.Ythkleabdnjhniaa
