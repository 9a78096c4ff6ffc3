/-
  ImproveTour of the reference.
-/
import Derived.Test.YthkleabdnjhniaaImprove
namespace Go.Proofs.Ythkleabdnjhniaa
open Go Go.RowKit
set_option maxRecDepth 100000 in
set_option maxHeartbeats 4000000 in
theorem l24Reverse_s (u : Value) (os : List Int) (i j : Nat) (w : World) (hu : Rds LI w u os) (hij : i ≤ j) (hj : j < os.length) (hl : os.length ≤ 1000) :
    Calls Try.prog 60 #[u, .int .i64 (i : Int), .int .i64 (j : Int)] w fun e w' => ∃ (g cp : Nat), e = .returned (.slice (some ⟨g, 0, none⟩) os.length cp) ∧ os.length ≤ cp ∧ cp ≤ 9223372036854775807 ∧ St w w' [Own LI (.slice (some ⟨g, 0, none⟩) os.length cp) (revAt os i j)] := by
  obtain ⟨a, n, cap, rfl, hn, hm, HN, HC⟩ := LI_get hu
  have hL : RowKit.Hid (n = os.length) := HN
  rw [← HN.out]
  have hjn : j < n := by rw [HN.out]; exact hj
  have hn16 : n ≤ 1000 := by rw [HN.out]; exact hl
  have S : St w (w.alloc (.cells #[] 3)) [Own LI (.slice (some ⟨w.heap.size, 0, none⟩) 0 0) []] := (St.refl w).ownEmpty LI
  have R : Rds LI (w.alloc (.cells #[] 3)) (.slice a n cap) os := hu.kept (World.grownBy_alloc _ _ _)
  have hll : ([] : List Int).length + os.length ≤ 1099511627776 := by simp; omega
  have hLI : RowKit.Hid (∀ w' Ls, St w w' (Own LI (.slice a n cap) os :: Ls) → True) := fun _ _ _ => trivial
  clear hl hj
  go_enter Try.func60, Try.ntmps60
  go_wp2_with (at_builtin; refine wpList_appR LI_info rfl _ _ rfl S os _ R rfl rfl hll ?_; intro v6 w6 S6; rw [List.nil_append] at S6; clear S R)
  obtain ⟨g, cp, rfl, hc1, hc2⟩ := S6.ownBlk (by have := HN.out; omega)
  rw [← HN.out] at S6 hc1
  rw [← HN.out]
  have S7 : St w w6 [Own LI (.slice (some ⟨g, 0, none⟩) n cp) (revTo os i j i)] := by rw [revTo_start]; exact S6
  clear S6
  go_wp2
  go_loopw [8] (fun k wr => ∃ m : Nat, i ≤ m ∧ m ≤ j + 1 ∧ k = .int .i64 m ∧ St w wr [Own LI (.slice (some ⟨g, 0, none⟩) n cp) (revTo os i j m)]) (fun k _ => j + 1 - (intOf k).toNat)
  case atStart => exact ⟨i, by omega, by omega, rfl, S7⟩
  case round =>
    clear S7
    obtain ⟨m, h1, h2, rfl, S⟩ := hrel
    by_cases hlt : m < j + 1
    rotate_left
    · obtain rfl : m = j + 1 := by omega
      rw [revTo_end] at S
      have hnl : ¬ ((((j + 1 : Nat) : Int)) ≤ (j : Int)) := by omega
      go_wp2
      go_ret
      exact ⟨g, cp, rfl, hc1, hc2, S⟩
    obtain ⟨I, hI⟩ : ∃ I : Nat, RowKit.Hid (I = i + j - m) := ⟨_, rfl⟩
    have e1 : (i : Int) + (j : Int) - (m : Int) = (I : Int) := by have := hI.out; omega
    have hIn : I < n := by have := hI.out; omega
    have hIi : (I : Int) < (n : Int) := by omega
    have hmi : (m : Int) < (n : Int) := by omega
    have hmj : (m : Int) ≤ (j : Int) := by omega
    have hmn : m < n := by omega
    obtain ⟨b, off, x, rfl, hb, hx, hcx⟩ := HC.out I hIn
    have hcx' := gb_cell S.gb hcx (by simp)
    obtain ⟨c1, f1⟩ := LI_cell S m (by rw [revTo_len, ← HN.out]; exact hmn)
    obtain ⟨Z, hZ⟩ : ∃ Z, (revTo os i j m).getD m 0 = Z := ⟨_, rfl⟩
    rw [hZ] at c1
    have hset := revTo_set os i j m h1 (by rw [← HN.out]; exact hmn)
    have hxo : os.getD (i + j - m) 0 = x := by rw [← hI.out, List.getD_eq_getElem?_getD, hx.out]; rfl
    rw [hxo] at hset
    have S2 := LI_set S (g := g) rfl m x (by rw [revTo_len, ← HN.out]; exact hmn)
    rw [hset] at S2
    have SH := Lib.hid S2
    clear S2 S hset hxo hZ hx hcx
    go_wp2
    go_roundw
    case rel => exact ⟨m + 1, by omega, by omega, by go_num, SH.out⟩
    case measure => (simp [intOf]; try omega)
/-- What the inner loops know: nothing found yet, or the first pair's order at hand. -/
def Fnd (xs : List Pt) (us zs : List Int) (A : Bool) (r : Option (Nat × Nat)) : Prop := (A = false ∧ zs = us ∧ shorterP xs us = r) ∨ (A = true ∧ ∃ p, shorterP xs us = some p ∧ zs = revAt us p.1 p.2)
set_option maxRecDepth 100000 in
set_option maxHeartbeats 8000000 in
theorem s_ImproveTour (v : Value) (xs : List Pt) (u : Value) (os : List Int) (w : World) (hv : Rds LPt w v xs) (hu : Rds LI w u os) :
    Calls Try.prog 37 #[v, u] w fun e w' => ∃ r, e = .returned r ∧ St w w' [Own LI r (improve xs os)] := by
  show Calls _ _ _ _ (ImprQ xs os w)
  have HI : RowKit.Hid (Calls Try.prog 14 #[v] w fun e w' => e = .returned (.bool (stopsB xs)) ∧ w.grownBy w' none) := s_StopsValid v xs w hv
  have hv0 := hv
  cases hS : stopsB xs with
  | false =>
    rw [hS] at HI
    have e0 : RowKit.Hid (improve xs os = []) := improve_no (by unfold fitsB; rw [hS]; rfl)
    clear hS
    go_enter Try.func37, Try.ntmps37
    go_wp2_with (go_at_call 14; refine (HI.out).mono ?_; rintro e w1 ⟨rfl, g1⟩)
    go_ret
    exact ⟨_, rfl, by rw [e0.out]; exact ((St.refl w).grow g1).ownEmpty LI⟩
  | true =>
    rw [hS] at HI
    have hs := stopsB_len hS
    have HP := Lib.hid (stopsB_pts hS)
    obtain ⟨a, n, cap, rfl, h1, hm, HN, HC⟩ := LPt_get hv
    have hn16 : n ≤ 16 := by have := HN.out; omega
    have hn1 : 1 ≤ n := by have := HN.out; omega
    have HO : RowKit.Hid (∀ w1, Rds LI w1 u os → Calls Try.prog 48 #[u, .int .i64 (n : Int)] w1 fun e w' => e = .returned (.bool (ordB n os)) ∧ w1.grownBy w' none) := fun w1 h => order_s u os n w1 h (by omega)
    cases hB : ordB n os with
    | false =>
      rw [hB] at HO
      have e0 : RowKit.Hid (improve xs os = []) := improve_no (by unfold fitsB; rw [← HN.out, hB, Bool.and_false])
      clear hB hS HC hs
      go_enter Try.func37, Try.ntmps37
      go_wp2_with (first | (go_at_call 14; refine (HI.out).mono ?_; rintro e w1 ⟨rfl, g1⟩) | (go_at_call 48; refine (HO.out _ (hu.kept g1)).mono ?_; rintro e w2 ⟨rfl, g2⟩))
      go_ret
      exact ⟨_, rfl, by rw [e0.out]; exact ((St.refl w).grow (gb_trans g1 g2)).ownEmpty LI⟩
    | true =>
      rw [hB] at HO
      have hf : fitsB xs os = true := by unfold fitsB; rw [hS, ← HN.out, hB]; rfl
      have e0 := Lib.hid (improve_yes hf)
      have HOK := Lib.hid (fits_of hf).2
      clear hB hS HC hf hs
      go_enter Try.func37, Try.ntmps37
      go_wp2_with fail
      refine (HI.out).mono ?_
      rintro e w1 ⟨rfl, g1⟩
      go_wp2_with fail
      refine (HO.out _ (hu.kept g1)).mono ?_
      rintro e w2 ⟨rfl, g2⟩
      have S0 : St w (w2.alloc (.cells #[] 3)) [Own LI (.slice (some ⟨w2.heap.size, 0, none⟩) 0 0) []] := ((St.refl w).grow (gb_trans g1 g2)).ownEmpty LI
      have R0 := hu.kept S0.gb
      have hll : ([] : List Int).length + os.length ≤ 1099511627776 := by have := HOK.out.1; have := HN.out; simp; omega
      clear g1 g2
      go_wp2_with (at_builtin; refine wpList_appR LI_info rfl _ _ rfl S0 os _ R0 rfl rfl hll ?_; intro v6 w6 S6; rw [List.nil_append] at S6; clear S0 R0)
      obtain ⟨g, cp, rfl, hc1, hc2⟩ := S6.ownBlk (by have := HOK.out.1; have := HN.out; omega)
      have hon : os.length = n := by have := HOK.out.1; have := HN.out; omega
      rw [hon] at S6 hc1
      rw [hon]
      clear hon
      go_wp2
      go_loopg [5, 6, 7, 8, 9] ((tourL xs os).toNat + 1) (fun k now ag _ _ _ wr => ∃ (us : List Int) (A : Bool) (g cp : Nat), ag = .bool A ∧ now = .slice (some ⟨g, 0, none⟩) n cp ∧ n ≤ cp ∧ cp ≤ 9223372036854775807 ∧ k = (if A then (tourL xs us).toNat + 1 else 0) ∧ ordOk xs.length us ∧ RowKit.Hid (improveL xs us = improveL xs os) ∧ RowKit.Hid (A = false → shorterP xs us = none) ∧ St w wr [Own LI (.slice (some ⟨g, 0, none⟩) n cp) us])
      case atStart => exact ⟨os, true, g, cp, rfl, rfl, hc1, hc2, rfl, HOK.out, rfl, (by intro h; cases h), S6⟩
      case round =>
        clear S6 hc1 hc2
        obtain ⟨us, A, g, cp, rfl, rfl, hc1, hc2, hk, hus, HIM, HA, S⟩ := hrel
        cases A with
        | false =>
          have HR : RowKit.Hid (improve xs os = us) := by show _ = _; rw [e0.out, ← HIM.out, improveL_none (HA.out rfl)]
          clear hk HA
          go_wp2
          go_ret
          exact ⟨_, rfl, by rw [HR.out]; exact S⟩
        | true =>
          have HK : RowKit.Hid (gk = (tourL xs us).toNat + 1) := hk
          have HUS := Lib.hid hus
          have HUL : RowKit.Hid (us.length = n) := by show _ = _; rw [hus.1, HN.out]
          clear hk hus HA
          have ST : RowKit.Hid (Fnd xs us us false (findI (shP xs us) n (n - 1))) := .inl ⟨rfl, rfl, by rw [shorterP_start, HUL.out]⟩
          go_wp2
          go_loopw [5, 6, 7, 8, 9] (fun now ag i _ _ wr => ∃ (I g cp : Nat) (A : Bool) (zs : List Int), 1 ≤ I ∧ I ≤ n ∧ i = .int .i64 I ∧ ag = .bool A ∧ now = .slice (some ⟨g, 0, none⟩) n cp ∧ n ≤ cp ∧ cp ≤ 9223372036854775807 ∧ RowKit.Hid (Fnd xs us zs A (findI (shP xs us) n (n - I))) ∧ St w wr [Own LI (.slice (some ⟨g, 0, none⟩) n cp) zs]) (fun _ _ i _ _ _ => n - (intOf i).toNat)
          case atStart => exact ⟨1, g, cp, false, us, by omega, by omega, rfl, rfl, rfl, hc1, hc2, ST, S⟩
          case round =>
            clear ST S hc1 hc2
            obtain ⟨I, g, cp, A, zs, hI1, hI, rfl, rfl, rfl, hc1, hc2, HF, S⟩ := hrel
            cases A with
            | true =>
              obtain ⟨p, hp1, hp2⟩ : ∃ p, shorterP xs us = some p ∧ zs = revAt us p.1 p.2 := by
                rcases HF.out with ⟨h, _⟩ | ⟨_, h⟩
                · cases h
                · exact h
              subst hp2
              obtain ⟨q1, q2, q3, q4⟩ := shorterP_some hp1
              have HR : RowKit.Hid (improveL xs (revAt us p.1 p.2) = improveL xs os) := by show _ = _; rw [← improveL_some HP.out hp1]; exact HIM.out
              have HOK2 := Lib.hid (revAt_ok (i := p.1) q3 HUS.out)
              have QM : RowKit.Hid ((tourL xs (revAt us p.1 p.2)).toNat + 1 < gk) := by
                show _ < _
                have := HK.out
                have := tourL_nonneg HP.out (revAt us p.1 p.2)
                omega
              clear q1 q2 q3 q4 hp1 HF HIM
              by_cases hlt : I < n
              · go_wp2
                go_roundg ((tourL xs (revAt us p.1 p.2)).toNat + 1)
                case measure => exact QM.out
                case rel => exact ⟨revAt us p.1 p.2, true, g, cp, rfl, rfl, hc1, hc2, rfl, HOK2.out, HR, (by intro h; cases h), S⟩
              · go_wp2
                go_roundg ((tourL xs (revAt us p.1 p.2)).toNat + 1)
                case measure => exact QM.out
                case rel => exact ⟨revAt us p.1 p.2, true, g, cp, rfl, rfl, hc1, hc2, rfl, HOK2.out, HR, (by intro h; cases h), S⟩
            | false =>
              obtain ⟨rfl, hF⟩ : zs = us ∧ shorterP xs us = findI (shP xs us) n (n - I) := by
                rcases HF.out with ⟨_, h⟩ | ⟨h, _⟩
                · exact h
                · cases h
              by_cases hlt : I < n
              rotate_left
              · obtain rfl : I = n := by omega
                have HNO : RowKit.Hid (shorterP xs zs = none) := by show _ = _; rw [hF, Nat.sub_self]; rfl
                have QM : RowKit.Hid (0 < gk) := by show _ < _; rw [HK.out]; omega
                clear HF hF
                go_wp2
                go_roundg 0
                case measure => exact QM.out
                case rel => exact ⟨zs, false, g, cp, rfl, rfl, hc1, hc2, rfl, HUS.out, HIM, (fun _ => HNO.out), S⟩
              have HF2 : RowKit.Hid (Fnd xs zs zs false (findIJ (shP xs zs) n I (I + 1))) := .inl ⟨rfl, rfl, by rw [hF, findI_step hlt]; rfl⟩
              clear HF hF
              go_wp2
              go_loopw [5, 6, 8, 9] (fun now ag j _ wr => ∃ (J g cp : Nat) (A : Bool) (ys : List Int), I + 1 ≤ J ∧ J ≤ n ∧ j = .int .i64 J ∧ ag = .bool A ∧ now = .slice (some ⟨g, 0, none⟩) n cp ∧ n ≤ cp ∧ cp ≤ 9223372036854775807 ∧ RowKit.Hid (Fnd xs zs ys A (findIJ (shP xs zs) n I J)) ∧ St w wr [Own LI (.slice (some ⟨g, 0, none⟩) n cp) ys]) (fun _ _ j _ _ => n - (intOf j).toNat)
              case atStart => exact ⟨I + 1, g, cp, false, zs, by omega, by omega, by go_num, rfl, rfl, hc1, hc2, HF2, S⟩
              case round =>
                clear HF2 S hc1 hc2
                obtain ⟨J, g, cp, A, ys, hJ1, hJ, rfl, rfl, rfl, hc1, hc2, HF, S⟩ := hrel
                cases A with
                | true =>
                  have HF3 : RowKit.Hid (Fnd xs zs ys true (findI (shP xs zs) n (n - (I + 1)))) := by
                    rcases HF.out with ⟨h, _⟩ | h
                    · cases h
                    · exact .inr h
                  clear HF
                  by_cases hlt2 : J < n
                  · go_wp2
                    go_roundw
                    case rel => exact ⟨I + 1, g, cp, true, ys, by omega, by omega, by go_num, rfl, rfl, hc1, hc2, HF3, S⟩
                    case measure => (simp [intOf]; try omega)
                  · go_wp2
                    go_roundw
                    case rel => exact ⟨I + 1, g, cp, true, ys, by omega, by omega, by go_num, rfl, rfl, hc1, hc2, HF3, S⟩
                    case measure => (simp [intOf]; try omega)
                | false =>
                  obtain ⟨rfl, hF⟩ : ys = zs ∧ shorterP xs zs = findIJ (shP xs zs) n I J := by
                    rcases HF.out with ⟨_, h⟩ | ⟨h, _⟩
                    · exact h
                    · cases h
                  by_cases hlt2 : J < n
                  rotate_left
                  · obtain rfl : J = n := by omega
                    have HF3 : RowKit.Hid (Fnd xs ys ys false (findI (shP xs ys) J (J - (I + 1)))) := .inl ⟨rfl, rfl, by rw [hF, findIJ_end]⟩
                    clear HF hF
                    go_wp2
                    go_roundw
                    case rel => exact ⟨I + 1, g, cp, false, ys, by omega, by omega, by go_num, rfl, rfl, hc1, hc2, HF3, S⟩
                    case measure => (simp [intOf]; try omega)
                  have hl16 : ys.length ≤ 1000 := by have := HUL.out; omega
                  have RV := l24Reverse_s _ ys I J wr (St.own S) (by omega) (by have := HUL.out; omega) hl16
                  rw [HUL.out] at RV
                  have RVH := Lib.hid RV
                  have HFF := Lib.hid hF
                  clear RV HF hF
                  go_wp2_with fail
                  refine (RVH.out).mono ?_
                  rintro e w3 ⟨g', cp', rfl, hd1, hd2, S3⟩
                  obtain ⟨T1, hT1⟩ : ∃ T, tourL xs (revAt ys I J) = T := ⟨_, rfl⟩
                  obtain ⟨T2, hT2⟩ : ∃ T, tourL xs ys = T := ⟨_, rfl⟩
                  have C1 : RowKit.Hid (∀ W, w3.grownBy W none → Calls Try.prog 49 #[.slice a n cap, .slice (some ⟨g', 0, none⟩) n cp'] W fun e w' => e = .returned (.int .i64 T1) ∧ W.grownBy w' none) := by
                    intro W h
                    have := s_len (.slice a n cap) _ xs (revAt ys I J) W (hv0.kept (gb_trans (gb_trans S.gb S3.gb) h)) ((St.own S3).kept h) HP.out (inN_rev (by have := HUL.out; omega) HUS.out) (by rw [revAt_len]; exact hl16)
                    rwa [hT1] at this
                  have C2 : RowKit.Hid (∀ W, w3.grownBy W none → Calls Try.prog 49 #[.slice a n cap, .slice (some ⟨g, 0, none⟩) n cp] W fun e w' => e = .returned (.int .i64 T2) ∧ W.grownBy w' none) := by
                    intro W h
                    have := s_len (.slice a n cap) _ xs ys W (hv0.kept (gb_trans (gb_trans S.gb S3.gb) h)) ((St.own S).kept (gb_trans S3.gb h)) HP.out HUS.out.inN hl16
                    rwa [hT2] at this
                  have SA := Lib.hid (S.grow S3.gb)
                  have SB := Lib.hid (St.lower S.gb S3)
                  clear S3 S RVH
                  by_cases hlt3 : T1 < T2
                  · have HY : RowKit.Hid (Fnd xs ys (revAt ys I J) true (findIJ (shP xs ys) n I (J + 1))) := .inr ⟨rfl, (I, J), by rw [HFF.out, findIJ_yes hlt2 (shP_t (by rw [hT1, hT2]; exact hlt3))], rfl⟩
                    clear HFF hT1 hT2
                    go_wp2_with fail
                    refine (C1.out _ (World.grownBy.refl _ _)).mono ?_
                    rintro e w4 ⟨rfl, g4⟩
                    go_wp2_with fail
                    refine (C2.out _ g4).mono ?_
                    rintro e w5 ⟨rfl, g5⟩
                    have S5 := Lib.hid ((SB.out.grow g4).grow g5)
                    clear C1 C2 g4 g5 SA SB
                    go_wp2
                    go_roundw
                    case rel => exact ⟨J + 1, g', cp', true, revAt ys I J, by omega, by omega, by go_num, rfl, rfl, hd1, hd2, HY, S5.out⟩
                    case measure => (simp [intOf]; try omega)
                  · have HX : RowKit.Hid (Fnd xs ys ys false (findIJ (shP xs ys) n I (J + 1))) := .inl ⟨rfl, rfl, by rw [HFF.out, findIJ_no hlt2 (shP_f (by rw [hT1, hT2]; exact hlt3))]⟩
                    clear HFF hT1 hT2
                    go_wp2_with fail
                    refine (C1.out _ (World.grownBy.refl _ _)).mono ?_
                    rintro e w4 ⟨rfl, g4⟩
                    go_wp2_with fail
                    refine (C2.out _ g4).mono ?_
                    rintro e w5 ⟨rfl, g5⟩
                    have S5 := Lib.hid ((SA.out.grow g4).grow g5)
                    clear C1 C2 g4 g5 SA SB
                    go_wp2
                    go_roundw
                    case rel => exact ⟨J + 1, g, cp, false, ys, by omega, by omega, by go_num, rfl, rfl, hc1, hc2, HX, S5.out⟩
                    case measure => (simp [intOf]; try omega)
end Go.Proofs.Ythkleabdnjhniaa
