/-
  FnBestTour: for all codes the law on best tours returns true; nothing that was there is written. No condition.
-/
import Derived.Test.YthkleabdnjhniaaStopsDraw
import Derived.Test.YthkleabdnjhniaaBestS
import Derived.Test.YthkleabdnjhniaaImproveS
import Derived.Test.YthkleabdnjhniaaNearestS
import Derived.Test.YthkleabdnjhniaaNearest
import Derived.Test.YthkleabdnjhniaaSameS
import Derived.Test.YthkleabdnjhniaaRows
import Derived.Deep.RegionLaw
import Derived.ProofKit
import Derived.OpenShut
import Derived.ShutString
import Derived.ChangeOld
namespace Go.Proofs.Ythkleabdnjhniaa
open Go Go.RowKit
set_option linter.unusedVariables false
theorem DrawBestTour_any (a : Option Addr) (len cap : Nat) (w : World) (h : Byts w a len cap) :
    Calls Try.prog 35 #[.slice a len cap] w fun e w' => ∃ v xs, e = .returned v ∧ xs.length ≤ 20 ∧ St w w' [Own LPt v xs] := by
  go_enter Try.func35, Try.ntmps35
  go_wp2_with fail
  refine (open_s a len cap w h).mono ?_
  rintro e w1 ⟨B, rfl, S1⟩
  go_wp2_with fail
  refine (stops_s w B 0 [] 6 9 _ S1 (by omega) (by omega) (by omega) (by omega)).mono ?_
  rintro e w2 ⟨v, xs, m', rfl, hl, -, S2⟩
  go_wp2_with fail
  go_ret
  exact ⟨v, xs, rfl, hl, St.drop1 (Ms := [_]) S2⟩
/-- The numbers from 1 to k, in some order. -/
def AnyO (k : Nat) (us : List Int) : Prop := us.length = k ∧ ∀ i : Nat, 1 ≤ i → i ≤ k → (i : Int) ∈ us
theorem AnyO.zero : AnyO 0 [] := ⟨rfl, fun i h1 h2 => by omega⟩
theorem AnyO.step {k A : Nat} {us : List Int} (h : AnyO k us) : AnyO (k + 1) (us.take A ++ [((k + 1 : Nat) : Int)] ++ us.drop A) := by
  refine ⟨?_, fun i h1 h2 => ?_⟩
  · have : (us.take A).length + (us.drop A).length = us.length := by rw [← List.length_append, List.take_append_drop]
    have := h.1
    simp only [List.length_append, List.length_singleton]
    omega
  · by_cases e : i = k + 1
    · subst e
      simp
    · have := h.2 i h1 (by omega)
      rw [← List.take_append_drop A us] at this
      rcases List.mem_append.1 this with hm | hm
      · exact List.mem_append_left _ (List.mem_append_left _ hm)
      · exact List.mem_append_right _ hm
theorem AnyO.ok {n : Nat} {us : List Int} (hn : 1 ≤ n) (h : AnyO (n - 1) us) : ordOk n (0 :: us) := by
  refine ⟨by rw [List.length_cons, h.1]; omega, fun i hi => ?_⟩
  by_cases e : i = 0
  · subst e; simp
  · exact List.mem_cons_of_mem _ (h.2 i (by omega) (by omega))
theorem near_fst {xs : List Pt} (h : stopsB xs = true) : (nearest xs).getD 0 0 = 0 := by
  rw [nearest_yes h]
  have hl := stopsB_len h
  obtain ⟨j, hj⟩ : ∃ j, xs.length = j + 1 := ⟨xs.length - 1, by omega⟩
  have : ∀ j, (nearL xs (j + 1)).getD 0 0 = 0 := by
    intro j
    induction j with
    | zero => rfl
    | succ j ih =>
      rw [nearL, List.getD_eq_getElem?_getD, List.getElem?_append_left (by rw [nearL_len]; omega), ← List.getD_eq_getElem?_getD]
      exact ih
  rw [hj]
  exact this j
set_option maxRecDepth 100000 in
set_option maxHeartbeats 8000000 in
theorem law_FnBestTour (a : Option Addr) (len cap : Nat) (a2 : Option Addr) (len2 cap2 : Nat) (w : World) (hw : Byts w a len cap) (hw2 : Byts w a2 len2 cap2) :
    Calls Try.prog 10 #[.slice a len cap, .slice a2 len2 cap2] w fun e w' => e = .returned (.bool true) ∧ Below w.heap.size w w' := by
  have HB := Lib.hid hw
  have HB2 := Lib.hid hw2
  have hm : len ≤ 9223372036854775807 := (by have := hw.1; have := hw.2.1; unfold maxLen at this; omega)
  have hm2 : len2 ≤ 9223372036854775807 := (by have := hw2.1; have := hw2.2.1; unfold maxLen at this; omega)
  clear hw hw2
  by_cases hl : 1048576 < len
  · go_enter Try.func10, Try.ntmps10
    go_wp2_with fail
    go_ret
    exact ⟨rfl, Below.refl _ _⟩
  by_cases hl2 : 1048576 < len2
  · go_enter Try.func10, Try.ntmps10
    go_wp2_with fail
    go_ret
    exact ⟨rfl, Below.refl _ _⟩
  go_enter Try.func10, Try.ntmps10
  go_wp2_with fail
  refine (DrawBestTour_any _ _ _ _ HB.out).mono ?_
  rintro e w1 ⟨v, xs, rfl, hxl, S⟩
  go_wp2_with fail
  refine (i_BestTour _ xs _ (St.own S)).mono ?_
  rintro e w2 ⟨o1, rfl, T⟩
  replace S := S.call T
  clear T
  simp only [List.cons_append, List.nil_append] at S
  go_wp2_with fail
  refine (s_BestTour _ xs _ (St.own (St.tail S))).mono ?_
  rintro e w3 ⟨o2, rfl, T⟩
  replace S := S.call T
  clear T
  simp only [List.cons_append, List.nil_append] at S
  go_wp2_with fail
  refine (sameInts_s _ _ _ _ (St.own (St.tail S)) (St.own S)).mono ?_
  rintro e w4 ⟨rfl, q, rfl⟩
  replace S := St.tail (S.drewN q)
  obtain ⟨oa, on, oc, rfl, hoc, hom, HON, HOC⟩ := LI_own S
  by_cases hB : stopsB xs = true ∧ xs.length ≤ 7
  rotate_left
  · obtain rfl : on = 0 := by rw [HON.out, best_no hB]; rfl
    clear HON HOC hB
    go_wp2_with (go_at_call 19; refine (alive_any _).mono ?_; rintro e w' ⟨rfl, rfl⟩)
    go_ret
    exact ⟨rfl, S.below⟩
  obtain ⟨h1, h7⟩ := hB
  have BT := best_is h1 h7
  obtain ⟨va, n, vc, rfl, hvc, hvm, HVN, -⟩ := LPt_own (St.tail S)
  obtain rfl : on = n := by rw [HON.out, HVN.out]; exact BT.ok.1
  have hs := stopsB_len h1
  have hn1 : 0 < on := by have := HVN.out; omega
  have hn7 : on ≤ 7 := by have := HVN.out; omega
  have hn1i : (0 : Int) < (on : Int) := by omega
  have hz : ((on : Int) == 0) = false := by simpa using (show ¬ (on : Int) = 0 by omega)
  obtain ⟨g0, x0, rfl, -, -, hx0, hc0, -⟩ := HOC.out 0 hn1
  obtain rfl : x0 = 0 := by
    have h := BT.fst
    rw [List.getD_eq_getElem?_getD, hx0.out] at h
    simpa using h
  have hFB := fits_mk h1 BT.ok
  have hbd := tourL_bd hFB
  rw [← tourLen_yes hFB] at hbd
  obtain ⟨N, hN⟩ : ∃ N, tourLen xs (best xs) = N := ⟨_, rfl⟩
  rw [hN] at hbd
  have HNN := Lib.hid hN
  obtain ⟨hb0, hb1⟩ := hbd
  have LE : RowKit.Hid (∀ us, ordOk xs.length us → us.getD 0 0 = 0 → N ≤ tourLen xs us) := by
    intro us hu h0
    rw [tourLen_yes (fits_mk h1 hu), ← hN, tourLen_yes hFB]
    exact BT.le us hu h0
  have LEN : RowKit.Hid (N ≤ tourLen xs (nearest xs)) := LE.out _ (nearest_ok h1) (near_fst h1)
  have LEI : RowKit.Hid (N ≤ tourLen xs (improve xs (nearest xs))) := by
    obtain ⟨I, hf⟩ := improve_fit (fits_mk h1 (nearest_ok h1))
    exact LE.out _ (fits_of hf).2 (I.fst.trans (near_fst h1))
  have hfst := BT.fst
  have hbl := BT.ok.1
  have HBL : RowKit.Hid (0 < (best xs).length) := by show _ < _; rw [hbl, ← HVN.out]; exact hn1
  clear hN hFB BT h1 h7 hs HOC hx0 HON hxl hbl
  go_wp2_with fail
  refine (i_TourLength _ xs _ (best xs) _ (St.own (St.tail S)) (St.own S)).mono ?_
  rintro e w5 ⟨rfl, T⟩
  rw [HNN.out]
  have hc5 := gb_cell T hc0 (by simp)
  replace S := S.grow T
  clear T hc0
  go_wp2_with fail
  refine (i_NearestTour _ xs _ (St.own (St.tail S))).mono ?_
  rintro e w6 ⟨o6, rfl, T⟩
  have hc6 := gb_cell T.gb hc5 (by simp)
  replace S := S.call T
  clear T hc5
  simp only [List.cons_append, List.nil_append] at S
  obtain ⟨na, nn, nc, rfl, -⟩ := (St.own S).slice
  have S1 : St w (w6.alloc (.cells #[] 3)) (Own LI (.slice (some ⟨w6.heap.size, 0, none⟩) 0 0) [] :: [Own LI (.slice na nn nc) (nearest xs), Own LI (.slice (some ⟨g0, 0, none⟩) on oc) (best xs), Own LPt (.slice va on vc) xs]) := S.ownEmpty LI
  have HFST := Lib.hid (show (best xs).getD 0 0 = 0 from hfst)
  clear S hc6
  go_wp2
  go_loopw [9, 10, 11] (fun o i _ wr => ∃ (M g cp : Nat) (us : List Int), M + 1 ≤ on ∧ i = .int .i64 ((M : Int) + 1) ∧ o = .slice (some ⟨g, 0, none⟩) M cp ∧ M ≤ cp ∧ cp ≤ 9223372036854775807 ∧ RowKit.Hid (AnyO M us) ∧ St w wr (Own LI (.slice (some ⟨g, 0, none⟩) M cp) us :: [Own LI (.slice na nn nc) (nearest xs), Own LI (.slice (some ⟨g0, 0, none⟩) on oc) (best xs), Own LPt (.slice va on vc) xs])) (fun _ i _ _ => on - (intOf i).toNat)
  case atStart => exact ⟨0, _, 0, [], by omega, by go_num, rfl, by omega, by omega, AnyO.zero, S1⟩
  case round =>
    clear S1
    obtain ⟨M, g, cp, us, hM, rfl, rfl, hc1, hc2, HU, S⟩ := hrel
    by_cases hlt : M + 1 < on
    · have hMi : (M : Int) + 1 < (on : Int) := by omega
      by_cases hk : M + 1 < len2
      · have hki : (M : Int) + 1 < (len2 : Int) := by omega
        obtain ⟨b2, off2, rfl, hb2⟩ := (HB2.out.2.2).resolve_left (by omega)
        obtain ⟨c, hcc, c0, c1⟩ := hb2 (M + 1) hk
        have hcr := gb_cell S.gb hcc (by simp)
        have hcs := hcr
        rw [← Nat.add_assoc] at hcs
        obtain ⟨A, hA⟩ : ∃ A : Nat, Int.tmod c ((M : Int) + 1) = (A : Int) := Int.eq_ofNat_of_zero_le (Int.tmod_nonneg _ c0)
        have hA2 : A ≤ M := by
          have := Int.tmod_lt_of_pos c (show (0 : Int) < (M : Int) + 1 by omega)
          omega
        have hA3 : A ≤ cp := by omega
        have hA4 : (A : Int) ≤ (M : Int) := by omega
        have hA5 : (A : Int) ≤ (cp : Int) := by omega
        have hA6 : (0 : Int) ≤ (A : Int) := by omega
        have hM0 : ¬ (M : Int) + 1 = 0 := by omega
        have hM1 : ((M : Int) + 1 == 0) = false := by simpa using hM0
        have hiA : IntKind.i64.wrap (A : Int) = (A : Int) := IntWalk.i64_in _ (by omega)
        have hic : IntKind.i64.wrap c = c := IntWalk.i64_in _ (by omega)
        have HUL : RowKit.Hid (us.length = M) := HU.out.1
        have SH := Lib.hid S
        have RT : RowKit.Hid (∀ W Ls, St w W (Own LI (.slice (some ⟨g, 0, none⟩) M cp) us :: Ls) → Rds LI W (.slice (some ⟨g, 0, none⟩) A cp) (us.take A)) := fun W Ls Q => Rds.take (St.own Q) A (by omega)
        have RD : RowKit.Hid (∀ W Ls, St w W (Own LI (.slice (some ⟨g, 0, none⟩) M cp) us :: Ls) → Rds LI W (.slice (if cp = A then some ⟨g, 0, none⟩ else some ⟨g, A, none⟩) (M - A) (cp - A)) (us.drop A)) := by
          intro W Ls Q
          split
          · have e : us.drop A = [] := List.drop_eq_nil_of_le (by have := HUL.out; omega)
            have e2 : M - A = 0 := by omega
            rw [e, e2]
            exact ⟨_, _, rfl, by simp, by unfold maxLen; omega, .inl rfl⟩
          · have := (St.own Q).drop A hA2
            rw [show LI.s = 1 from rfl, Nat.mul_one, Nat.zero_add] at this
            exact this
        have hla : ([] : List Int).length + (us.take A).length ≤ 1099511627776 := by have := HUL.out; simp; try omega
        have hlb : (us.take A).length + [((M : Int) + 1)].length ≤ 1099511627776 := by have := HUL.out; simp; try omega
        have hlc : (us.take A ++ [((M : Int) + 1)]).length + (us.drop A).length ≤ 1099511627776 := by have := HUL.out; simp; try omega
        have hml : (1 : Nat) ≤ maxLen := by unfold maxLen; omega
        have HU2 : RowKit.Hid (AnyO (M + 1) (us.take A ++ [((M : Int) + 1)] ++ us.drop A)) := AnyO.step HU.out
        have HUL2 : RowKit.Hid ((us.take A ++ [((M : Int) + 1)] ++ us.drop A).length = M + 1) := HU2.out.1
        have hpos := Nat.lt_of_lt_of_eq (Nat.succ_pos M) HUL2.out.symm
        clear S
        go_wp2
        go_region_law (first
          | (refine step_appR LI_info rfl _ _ rfl (SH.out.ownEmpty LI).drew (us.take A) _ (RT.out _ _ (St.tail (SH.out.ownEmpty LI).drew)) rfl rfl hla ?_; intro v4 w4 S4; rw [List.nil_append] at S4)
          | (refine step_appR LI_info rfl _ _ rfl ((SH.out.ownEmpty LI).ownLitAt LI [((M : Int) + 1)] #[.int .i64 ((M : Int) + 1)] rfl hml (wr.heap.size + 1) (by simp)).swap.drew (us.take A) _ (RT.out _ _ (St.tail (St.tail ((SH.out.ownEmpty LI).ownLitAt LI [((M : Int) + 1)] #[.int .i64 ((M : Int) + 1)] rfl hml (wr.heap.size + 1) (by simp)).swap.drew))) rfl rfl hla ?_; intro v4 w4 S5; rw [List.nil_append] at S5)
          | (refine step_appR LI_info rfl _ _ rfl ((SH.out.ownLit LI [((M : Int) + 1)] #[.int .i64 ((M : Int) + 1)] rfl hml).ownEmptyAt LI (wr.heap.size + 1) (by simp)).drew (us.take A) _ (RT.out _ _ (St.tail (St.tail ((SH.out.ownLit LI [((M : Int) + 1)] #[.int .i64 ((M : Int) + 1)] rfl hml).ownEmptyAt LI (wr.heap.size + 1) (by simp)).drew))) rfl rfl hla ?_; intro v4 w4 S5; rw [List.nil_append] at S5)
          | (refine step_appR LI_info rfl _ _ rfl (S4.ownLit LI [((M : Int) + 1)] #[.int .i64 ((M : Int) + 1)] rfl hml).swap [((M : Int) + 1)] _ (St.own (S4.ownLit LI [((M : Int) + 1)] #[.int .i64 ((M : Int) + 1)] rfl hml)) rfl rfl hlb ?_; intro v6 w6' S7; clear S4)
          | (refine step_appR LI_info rfl _ _ rfl S5 [((M : Int) + 1)] _ (St.own (St.tail S5)) rfl rfl hlb ?_; intro v6 w6' S7; clear S5)
          | (refine step_appR LI_info rfl _ _ rfl S7 (us.drop A) _ (RD.out _ _ (St.tail (St.tail S7))) rfl rfl hlc ?_; intro v8 w8 S8; obtain ⟨g8, c8, rfl, hd1, hd2⟩ := St.ownBlk S8 hpos; rw [HUL2.out] at S8 hd1; rw [HUL2.out]; have SF := Lib.hid (St.tail (St.swap (St.tail (St.swap S8)))); clear S8 S7))
        all_goals
          go_wp2
          go_roundw
          case rel => exact ⟨M + 1, g8, c8, _, by omega, by go_num, rfl, hd1, hd2, HU2, SF.out⟩
          case measure => (simp [intOf]; try omega)
      · have hki : ¬ ((M : Int) + 1 < (len2 : Int)) := by omega
        have HUL : RowKit.Hid (us.length = M) := HU.out.1
        have SH := Lib.hid S
        have RT : RowKit.Hid (∀ W Ls, St w W (Own LI (.slice (some ⟨g, 0, none⟩) M cp) us :: Ls) → Rds LI W (.slice (some ⟨g, 0, none⟩) 0 cp) (us.take 0)) := fun W Ls Q => Rds.take (St.own Q) 0 (by omega)
        have RD : RowKit.Hid (∀ W Ls, St w W (Own LI (.slice (some ⟨g, 0, none⟩) M cp) us :: Ls) → Rds LI W (.slice (some ⟨g, 0, none⟩) M cp) (us.drop 0)) := by
          intro W Ls Q
          exact St.own Q
        have hla : ([] : List Int).length + (us.take 0).length ≤ 1099511627776 := by have := HUL.out; simp; try omega
        have hlb : (us.take 0).length + [((M : Int) + 1)].length ≤ 1099511627776 := by have := HUL.out; simp; try omega
        have hlc : (us.take 0 ++ [((M : Int) + 1)]).length + (us.drop 0).length ≤ 1099511627776 := by have := HUL.out; simp; try omega
        have hml : (1 : Nat) ≤ maxLen := by unfold maxLen; omega
        have HU2 : RowKit.Hid (AnyO (M + 1) (us.take 0 ++ [((M : Int) + 1)] ++ us.drop 0)) := AnyO.step HU.out
        have HUL2 : RowKit.Hid ((us.take 0 ++ [((M : Int) + 1)] ++ us.drop 0).length = M + 1) := HU2.out.1
        have hpos := Nat.lt_of_lt_of_eq (Nat.succ_pos M) HUL2.out.symm
        clear S
        go_wp2
        go_region_law (first
          | (refine step_appR LI_info rfl _ _ rfl (SH.out.ownEmpty LI).drew (us.take 0) _ (RT.out _ _ (St.tail (SH.out.ownEmpty LI).drew)) rfl rfl hla ?_; intro v4 w4 S4; rw [List.nil_append] at S4)
          | (refine step_appR LI_info rfl _ _ rfl ((SH.out.ownEmpty LI).ownLitAt LI [((M : Int) + 1)] #[.int .i64 ((M : Int) + 1)] rfl hml (wr.heap.size + 1) (by simp)).swap.drew (us.take 0) _ (RT.out _ _ (St.tail (St.tail ((SH.out.ownEmpty LI).ownLitAt LI [((M : Int) + 1)] #[.int .i64 ((M : Int) + 1)] rfl hml (wr.heap.size + 1) (by simp)).swap.drew))) rfl rfl hla ?_; intro v4 w4 S5; rw [List.nil_append] at S5)
          | (refine step_appR LI_info rfl _ _ rfl ((SH.out.ownLit LI [((M : Int) + 1)] #[.int .i64 ((M : Int) + 1)] rfl hml).ownEmptyAt LI (wr.heap.size + 1) (by simp)).drew (us.take 0) _ (RT.out _ _ (St.tail (St.tail ((SH.out.ownLit LI [((M : Int) + 1)] #[.int .i64 ((M : Int) + 1)] rfl hml).ownEmptyAt LI (wr.heap.size + 1) (by simp)).drew))) rfl rfl hla ?_; intro v4 w4 S5; rw [List.nil_append] at S5)
          | (refine step_appR LI_info rfl _ _ rfl (S4.ownLit LI [((M : Int) + 1)] #[.int .i64 ((M : Int) + 1)] rfl hml).swap [((M : Int) + 1)] _ (St.own (S4.ownLit LI [((M : Int) + 1)] #[.int .i64 ((M : Int) + 1)] rfl hml)) rfl rfl hlb ?_; intro v6 w6' S7; clear S4)
          | (refine step_appR LI_info rfl _ _ rfl S5 [((M : Int) + 1)] _ (St.own (St.tail S5)) rfl rfl hlb ?_; intro v6 w6' S7; clear S5)
          | (refine step_appR LI_info rfl _ _ rfl S7 (us.drop 0) _ (RD.out _ _ (St.tail (St.tail S7))) rfl rfl hlc ?_; intro v8 w8 S8; obtain ⟨g8, c8, rfl, hd1, hd2⟩ := St.ownBlk S8 hpos; rw [HUL2.out] at S8 hd1; rw [HUL2.out]; have SF := Lib.hid (St.tail (St.swap (St.tail (St.swap S8)))); clear S8 S7))
        all_goals
          go_wp2
          go_roundw
          case rel => exact ⟨M + 1, g8, c8, _, by omega, by go_num, rfl, hd1, hd2, HU2, SF.out⟩
          case measure => (simp [intOf]; try omega)
    · obtain rfl : on = M + 1 := by omega
      have HOKA : RowKit.Hid (ordOk xs.length (0 :: us)) := by show ordOk _ _; rw [← HVN.out]; exact AnyO.ok hn1 HU.out
      have HUL : RowKit.Hid (us.length = M) := HU.out.1
      have LEA : RowKit.Hid (N ≤ tourLen xs (0 :: us)) := LE.out _ HOKA.out rfl
      obtain ⟨N1, hN1⟩ : ∃ N1, tourLen xs (nearest xs) = N1 := ⟨_, rfl⟩
      obtain ⟨N2, hN2⟩ : ∃ N2, tourLen xs (improve xs (nearest xs)) = N2 := ⟨_, rfl⟩
      obtain ⟨N3, hN3⟩ : ∃ N3, tourLen xs (0 :: us) = N3 := ⟨_, rfl⟩
      have l1 := LEN.out
      have l2 := LEI.out
      have l3 := LEA.out
      rw [hN1] at l1
      rw [hN2] at l2
      rw [hN3] at l3
      have H1 := Lib.hid hN1
      have H2 := Lib.hid hN2
      have H3 := Lib.hid hN3
      have hll : [(0 : Int)].length + us.length ≤ 1099511627776 := by have := HUL.out; simp; omega
      have S2 := S.ownLit LI [0] #[.int .i64 0] rfl (by decide)
      have R2 := St.own (St.tail S2)
      clear S hN1 hN2 hN3 LEN LEI LEA LE HU
      go_wp2_with (at_builtin; refine wpList_appR LI_info rfl _ _ rfl S2 us _ R2 rfl rfl hll ?_; intro v8 w8 S8; clear S2 R2; obtain ⟨aa, an, ac, rfl, -⟩ := (St.own S8).slice; have c0 := (LI_cell (St.tail (St.tail (St.tail S8))) 0 HBL.out).1; rw [HFST.out] at c0)
      refine (i_TourLength _ xs _ (nearest xs) _ (St.own (St.tail (St.tail (St.tail (St.tail S8))))) (St.own (St.tail (St.tail S8)))).mono ?_
      rintro e w9 ⟨rfl, T⟩
      replace S8 := S8.grow T
      rw [H1.out]
      clear T c0
      go_wp2_with fail
      refine (i_ImproveTour _ xs _ (nearest xs) _ (St.own (St.tail (St.tail (St.tail (St.tail S8))))) (St.own (St.tail (St.tail S8)))).mono ?_
      rintro e w10 ⟨o10, rfl, T⟩
      replace S8 := S8.call T
      clear T
      simp only [List.cons_append, List.nil_append] at S8
      go_wp2_with fail
      refine (i_TourLength _ xs _ (improve xs (nearest xs)) _ (St.own (St.tail (St.tail (St.tail (St.tail (St.tail S8)))))) (St.own S8)).mono ?_
      rintro e w11 ⟨rfl, T⟩
      replace S8 := S8.grow T
      rw [H2.out]
      clear T
      go_wp2_with fail
      refine (i_TourLength _ xs _ (0 :: us) _ (St.own (St.tail (St.tail (St.tail (St.tail (St.tail S8)))))) (St.own (St.tail S8))).mono ?_
      rintro e w12 ⟨rfl, T⟩
      replace S8 := S8.grow T
      rw [H3.out]
      clear T
      go_wp2
      go_ret
      exact ⟨rfl, S8.below⟩
end Go.Proofs.Ythkleabdnjhniaa
namespace Go.Proofs.Ythkleabdnjhniaa.fnBestTourDone
open Go Go.ChangeShapes Go.WideShapes Go.ChangeAt Go.RowKit Go.Proofs.Ythkleabdnjhniaa
set_option linter.unusedVariables false
theorem own : ownKnob Try.prog.godebug = none := by kernel_rfl
theorem laidOut : laidOutB Try.prog = true := by kernel_rfl
set_option maxRecDepth 100000 in
theorem lifted (os : Os) (started : os.Started) (H : Type) (enc : TypeId × Value → H) :
    ReturnsInHanded {} Try.checked os 10 .any (Rows.fnBestTourSpec.pre6 enc Try.prog Try.f10 Rows.fnBestTourRow.domain false) (Rows.fnBestTourSpec.post enc Try.prog Try.f10 false true false false) := by
  refine returnsInHanded_of_change (C := Try.checked) own started (by kernel_rfl) Try.func10
    (ChangeSpec.witness6 (enc := enc) (C := Try.checked) false ⟨#[], #[.slice none 0 0, .slice none 0 0], []⟩ 8 (by kernel_rfl) (by kernel_rfl) (by kernel_rfl) (by kernel_rfl)) ?_
  intro W base args ds gs before hval0 hW hcnd _
  have hval : ∀ (j : Nat) t v, Try.f10.params[j]? = some t → args[j]? = some v → Value.okWide Try.prog W .any base t v := hval0
  have hW' := hW
  obtain ⟨p, q, hA0, hV, rfl, hfz, hnd⟩ := hW
  have hA : DataW.TrodAll enc Try.prog W 0 (fun _ => true) true Try.f10.params.toList args.toList ds p := hA0
  rw [Try.params10] at hA hval
  obtain ⟨v0, vs0, d0, ds0, p0, q0, hargs, rfl, rfl, h0, r0⟩ := trodAll_cons hA
  obtain ⟨v1, vs1, d1, ds1, p1, q1, rfl, rfl, rfl, h1, r1⟩ := trodAll_cons r0
  obtain ⟨rfl, rfl, rfl⟩ := trodAll_nil r1
  obtain rfl : args = #[v0, v1] := by cases args; simp_all
  obtain ⟨rfl, rfl⟩ := trodVars_none hV
  obtain ⟨a0, len0, cap0, rfl⟩ := okWide_slice Try.underlying29 (hval 0 29 v0 rfl rfl)
  have k0 := h0
  have lt0 : ∀ x ∈ p0, x.block < W.heap.size := by obtain ⟨m, hm⟩ := k0; exact DataW.trod_lt m _ _ _ hm
  have w0 : Byts W a0 len0 cap0 := by
    obtain ⟨fuel, hf⟩ := h0
    rcases open_ints Try.underlying29 Try.underlying5 (by kernel_rfl) hf with ⟨hcs, _⟩ | ⟨x, l, c, zs, hcs, _, hl, hm, hz, _, hcell, hwz⟩
    · simp [Value.cells] at hcs
      obtain ⟨rfl, rfl, rfl⟩ := hcs
      exact byts_nil W
    · simp [Value.cells] at hcs
      obtain ⟨rfl, rfl, rfl⟩ := hcs
      exact byts_of hl hm (by simpa using hz) hcell hwz
  obtain ⟨a1, len1, cap1, rfl⟩ := okWide_slice Try.underlying29 (hval 1 29 v1 rfl rfl)
  have k1 := h1
  have lt1 : ∀ x ∈ p1, x.block < W.heap.size := by obtain ⟨m, hm⟩ := k1; exact DataW.trod_lt m _ _ _ hm
  have w1 : Byts W a1 len1 cap1 := by
    obtain ⟨fuel, hf⟩ := h1
    rcases open_ints Try.underlying29 Try.underlying5 (by kernel_rfl) hf with ⟨hcs, _⟩ | ⟨x, l, c, zs, hcs, _, hl, hm, hz, _, hcell, hwz⟩
    · simp [Value.cells] at hcs
      obtain ⟨rfl, rfl, rfl⟩ := hcs
      exact byts_nil W
    · simp [Value.cells] at hcs
      obtain ⟨rfl, rfl, rfl⟩ := hcs
      exact byts_of hl hm (by simpa using hz) hcell hwz
  clear hA0 hval0
  refine (law_FnBestTour a0 len0 cap0 a1 len1 cap1 W w0 w1).mono fun e W' ⟨he, bel⟩ => ?_
  subst he
  exact ⟨_, rfl, _, _, _, [], _, [], hW', trodAll_mk1 (shut_bool Try.underlying4 _), (trodAll_cons_mk (Below.trod laidOut (by kernel_rfl) (of_decide_eq_true (by kernel_rfl)) k0 bel lt0) (trodAll_cons_mk (Below.trod laidOut (by kernel_rfl) (of_decide_eq_true (by kernel_rfl)) k1 bel lt1) trodAll_mk0)), rfl, bel.frame _, fun h => by cases h⟩
theorem over : Rows.fnBestTourRow.holds Try.pinned (OpenSpec.ofChange Rows.fnBestTourSpec) :=
  OpenClaim.holds_of_wide 10 Try.f10 rfl rfl rfl rfl rfl rfl rfl ⟨rfl, rfl, rfl, rfl, rfl⟩ rfl rfl rfl rfl rfl (by kernel_rfl) Try.func10 (by kernel_rfl)
    (of_decide_eq_true (by kernel_rfl)) (by unfold Func.isWrapper; first | (rw [if_pos (by decide +kernel)]; kernel_rfl) | (rw [if_neg (by decide +kernel)]; exact ⟨rfl, rfl⟩))
    (fun os started H enc _ => lifted os started H enc)
theorem proved : Rows.FnBestTourSaid := over
#print axioms proved
end Go.Proofs.Ythkleabdnjhniaa.fnBestTourDone
