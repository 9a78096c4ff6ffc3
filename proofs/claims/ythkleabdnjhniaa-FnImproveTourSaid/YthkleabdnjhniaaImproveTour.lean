/-
  FnImproveTour: for every code the law on improved tours returns true; nothing that was there is written. No condition.
-/
import Derived.Test.YthkleabdnjhniaaTwoDraw
import Derived.Test.YthkleabdnjhniaaImproveS
import Derived.Test.YthkleabdnjhniaaSameS
import Derived.Test.YthkleabdnjhniaaDrawn
import Derived.Test.YthkleabdnjhniaaRows
import Derived.ProofKit
import Derived.OpenShut
import Derived.ShutString
import Derived.ChangeOld
namespace Go.Proofs.Ythkleabdnjhniaa
open Go Go.RowKit
set_option linter.unusedVariables false
set_option maxRecDepth 100000 in
set_option maxHeartbeats 8000000 in
theorem law_FnImproveTour (a : Option Addr) (len cap : Nat) (w : World) (hw : Byts w a len cap) :
    Calls Try.prog 12 #[.slice a len cap] w fun e w' => e = .returned (.bool true) ∧ Below w.heap.size w w' := by
  have HB := Lib.hid hw; have hm : len ≤ 9223372036854775807 := (by have := hw.1; have := hw.2.1; unfold maxLen at this; omega); clear hw; by_cases hl : 1048576 < len; (go_enter Try.func12, Try.ntmps12; go_wp2_with fail; go_ret; exact ⟨rfl, Below.refl _ _⟩)
  go_enter Try.func12, Try.ntmps12
  go_wp2_with fail
  refine (DrawImproveTour_any _ _ _ _ HB.out).mono ?_
  rintro e w1 ⟨v, xs, u, os, rfl, hxl, hol, S⟩
  go_wp2_with fail
  refine (i_ImproveTour _ xs _ os _ (St.own (St.tail S)) (St.own S)).mono ?_
  rintro e w2 ⟨o1, rfl, T⟩
  replace S := S.call T
  clear T
  simp only [List.cons_append, List.nil_append] at S
  go_wp2_with fail
  refine (s_ImproveTour _ xs _ os _ (St.own (St.tail (St.tail S))) (St.own (St.tail S))).mono ?_
  rintro e w3 ⟨o2, rfl, T⟩
  replace S := S.call T
  clear T
  simp only [List.cons_append, List.nil_append] at S
  go_wp2_with fail
  refine (sameInts_s _ _ _ _ (St.own (St.tail S)) (St.own S)).mono ?_
  rintro e w4 ⟨rfl, q, rfl⟩
  replace S := St.tail (S.drewN q)
  obtain ⟨oa, on, oc, rfl, hoc, hom, HON, HOC⟩ := LI_own S
  cases hB : fitsB xs os with
  | false =>
    obtain rfl : on = 0 := by rw [HON.out, improve_no hB]; rfl
    clear HON HOC
    go_wp2_with (go_at_call 19; refine (alive_any _).mono ?_; rintro e w' ⟨rfl, rfl⟩)
    go_ret
    exact ⟨rfl, S.below⟩
  | true =>
    obtain ⟨I, hB2⟩ := improve_fit hB
    obtain ⟨h1, h2⟩ := fits_of hB
    have h3 := (fits_of hB2).2
    have hs := stopsB_len h1
    obtain ⟨va, n, vc, rfl, hvc, hvm, HVN, -⟩ := LPt_own (St.tail (St.tail S))
    obtain rfl : on = n := by rw [HON.out, HVN.out]; exact h3.1
    have hn1 : 0 < on := by have := HVN.out; omega
    have hn1i : (0 : Int) < (on : Int) := by omega
    have hz : ((on : Int) == 0) = false := by simpa using (show ¬ (on : Int) = 0 by omega)
    obtain ⟨ua, m, uc, rfl, huc, hum, HUN, HUC⟩ := rds_ints (St.own (St.tail S))
    obtain rfl : on = m := by rw [HUN.out, HVN.out]; exact h2.1.symm
    obtain ⟨b, off, rfl, hb, q0⟩ := HUC.out 0 hn1
    rw [Nat.add_zero] at q0
    obtain ⟨oa', on', oc', hv', -, -, -, HC⟩ := rds_ints (St.own S)
    simp only [Value.slice.injEq] at hv'
    obtain ⟨rfl, rfl, rfl⟩ := hv'
    obtain ⟨g, x0, rfl, -, -, -, -, -⟩ := HOC.out 0 hn1
    obtain ⟨g', off', hgo, -, o0⟩ := HC.out 0 hn1
    simp only [Option.some.injEq, Addr.mk.injEq, and_true] at hgo
    obtain ⟨rfl, rfl⟩ := hgo
    rw [Nat.add_zero] at o0
    rw [I.fst] at o0
    obtain ⟨F, hF⟩ : ∃ F, os.getD 0 0 = F := ⟨_, rfl⟩
    rw [hF] at o0 q0
    obtain ⟨us, hus⟩ : ∃ us, improve xs os = us := ⟨_, rfl⟩
    have HUS : RowKit.Hid (improve xs us = us) := by
      show _ = _
      rw [← hus, improve_yes hB2]
      exact improveL_none I.done
    have hle := I.le
    have hbd := tourL_bd hB2
    rw [← tourLen_yes hB2] at hle hbd
    rw [← tourLen_yes hB] at hle
    rw [hus] at S hle hbd
    obtain ⟨N, hN⟩ : ∃ N, tourLen xs us = N := ⟨_, rfl⟩
    obtain ⟨N0, hN0⟩ : ∃ N0, tourLen xs os = N0 := ⟨_, rfl⟩
    rw [hN, hN0] at hle
    rw [hN] at hbd
    obtain ⟨hb0, hb1⟩ := hbd
    have HNN := Lib.hid hN
    have HNM := Lib.hid hN0
    clear hN hN0 hF hus I h1 h2 h3 hs HC HOC HUC HON HVN HUN hB hB2 hol hxl
    go_wp2_with fail
    refine (i_TourLength _ xs _ us _ (St.own (St.tail (St.tail S))) (St.own S)).mono ?_
    rintro e w6 ⟨rfl, T⟩
    rw [HNN.out]
    replace o0 := gb_cell T o0 (by simp)
    replace q0 := gb_cell T q0 (by simp)
    replace S := S.grow T
    clear T
    have SH := Lib.hid S
    have RO : RowKit.Hid (Rds LI w6 (.slice (some ⟨g, 0, none⟩) on oc) us) := St.own S
    have C1 : RowKit.Hid (∀ W, w6.grownBy W none → Calls Try.prog 22 #[.slice va on vc, .slice (some ⟨b, off, none⟩) on uc] W fun e w' => e = .returned (.int .i64 N0) ∧ W.grownBy w' none) := by
      intro W h
      have := i_TourLength _ xs _ os W ((St.own (St.tail (St.tail SH.out))).kept h) ((St.own (St.tail SH.out)).kept h)
      rwa [HNM.out] at this
    have C2 : RowKit.Hid (∀ W, w6.grownBy W none → Calls Try.prog 36 #[.slice va on vc, .slice (some ⟨g, 0, none⟩) on oc] W fun e w' => ∃ r, e = .returned r ∧ St W w' [Own LI r us]) := by
      intro W h
      have := i_ImproveTour _ xs _ us W ((St.own (St.tail (St.tail SH.out))).kept h) ((St.own SH.out).kept h)
      rwa [HUS.out] at this
    have hd0 : decide (0 ≤ N) = true := decide_eq_true hb0
    have hd1 : decide (N ≤ N0) = true := decide_eq_true hle
    clear S hle hb0
    go_wp2
    refine wp_drawn_put (shs (none) [shVal _ (.int .i64 N), shVal _ (.bool true), shVal _ (.bool true), shVal _ (.int .i64 N), shVal _ (.slice va on vc), shVal _ (.slice (some ⟨b, off, none⟩) on uc), shVal _ (.int .i64 N0), shVal _ (.bool true), shVal _ (.bool true), shVal _ (.bool true), shVal _ (.slice (some ⟨g, 0, none⟩) on oc), shVal _ (.pointer (some ⟨g, 0, none⟩)), shVal _ (.int .i64 F), shVal _ (.slice (some ⟨b, off, none⟩) on uc), shVal _ (.pointer (some ⟨b, off, none⟩)), shVal _ (.int .i64 F), shVal _ (.bool true), shVal _ (.bool true), shVal _ (.bool true), shVal _ (.slice va on vc), shVal _ (.slice (some ⟨g, 0, none⟩) on oc), ⟨fun v w => Rds LI w v us, fun _ _ _ h hg => h.kept hg⟩, shVal _ (.slice (some ⟨g, 0, none⟩) on oc), shVal _ (.bool true), shVal _ (.bool true), shVal _ (.bool true)])
      (fun k w' => w6.grownBy w' none) (none) (by kernel_rfl) (by kernel_rfl) (shs_st _ _) (gb_drew (World.grownBy.refl _ _)) ?_ ?_
    · refine step_plain rfl (fun k a w' hk hJ hd hs K hK => ?_) ?_
      · have e6 : a.tmps[6]?.getD undef = .int .i64 N := hs.at 6 (by kernel_rfl)
        clear hd hs
        have hkk : k < 26 := hk
        clear hk
        have HJ := Lib.hid hJ; clear hJ
        go_simp
        try simp (disch := omega) only [IntWalk.i64_in]
        exact hK.out _ _ rfl HJ.out (World.grownBy.refl _ _)
      refine step_plain rfl (fun k a w' hk hJ hd hs K hK => ?_) ?_
      · have e31 : a.tmps[31]?.getD undef = .int .i64 N := hs.get 0 31 (by kernel_rfl) (by kernel_rfl)
        clear hd hs
        have hkk : k < 26 := hk
        clear hk
        have HJ := Lib.hid hJ; clear hJ
        go_simp
        try simp (disch := omega) only [IntWalk.i64_in]
        exact hK.out _ _ rfl HJ.out (World.grownBy.refl _ _)
      refine step_plain rfl (fun k a w' hk hJ hd hs K hK => ?_) ?_
      · have e32 : a.tmps[32]?.getD undef = .bool true := hs.get 1 32 (by kernel_rfl) (by kernel_rfl)
        clear hd hs
        have hkk : k < 26 := hk
        clear hk
        have HJ := Lib.hid hJ; clear hJ
        go_simp
        try simp (disch := omega) only [IntWalk.i64_in]
        exact hK.out _ _ rfl HJ.out (World.grownBy.refl _ _)
      refine step_guard 2 33 true rfl (by kernel_rfl) (fun a w hs => hs.get 2 33 (by kernel_rfl) (by kernel_rfl)) (fun k a w' hk hJ hd hs K hK => ?_) ?_
      · have e6 : a.tmps[6]?.getD undef = .int .i64 N := hs.at 6 (by kernel_rfl)
        clear hd hs
        have hkk : k < 26 := hk
        clear hk
        have HJ := Lib.hid hJ; clear hJ
        go_simp
        try simp (disch := omega) only [IntWalk.i64_in]
        exact hK.out _ _ rfl HJ.out (World.grownBy.refl _ _)
      refine step_guard 2 33 true rfl (by kernel_rfl) (fun a w hs => hs.get 2 33 (by kernel_rfl) (by kernel_rfl)) (fun k a w' hk hJ hd hs K hK => ?_) ?_
      · have e3 : a.tmps[3]?.getD undef = .slice va on vc := hs.at 3 (by kernel_rfl)
        clear hd hs
        have hkk : k < 26 := hk
        clear hk
        have HJ := Lib.hid hJ; clear hJ
        go_simp
        try simp (disch := omega) only [IntWalk.i64_in]
        exact hK.out _ _ rfl HJ.out (World.grownBy.refl _ _)
      refine step_guard 2 33 true rfl (by kernel_rfl) (fun a w hs => hs.get 2 33 (by kernel_rfl) (by kernel_rfl)) (fun k a w' hk hJ hd hs K hK => ?_) ?_
      · have e4 : a.tmps[4]?.getD undef = .slice (some ⟨b, off, none⟩) on uc := hs.at 4 (by kernel_rfl)
        clear hd hs
        have hkk : k < 26 := hk
        clear hk
        have HJ := Lib.hid hJ; clear hJ
        go_simp
        try simp (disch := omega) only [IntWalk.i64_in]
        exact hK.out _ _ rfl HJ.out (World.grownBy.refl _ _)
      refine step_guard 2 33 true rfl (by kernel_rfl) (fun a w hs => hs.get 2 33 (by kernel_rfl) (by kernel_rfl)) (fun k a w' hk hJ hd hs K hK => ?_) ?_
      · have e35 : a.tmps[35]?.getD undef = .slice va on vc := hs.get 4 35 (by kernel_rfl) (by kernel_rfl)
        have e36 : a.tmps[36]?.getD undef = .slice (some ⟨b, off, none⟩) on uc := hs.get 5 36 (by kernel_rfl) (by kernel_rfl)
        clear hd hs
        have hkk : k < 26 := hk
        clear hk
        have HJ := Lib.hid hJ; clear hJ
        go_simp
        refine (C1.out _ HJ.out).mono ?_
        rintro e w2 ⟨rfl, hg⟩
        exact hK.out _ _ rfl (gb_trans HJ.out hg) hg
      refine step_guard 2 33 true rfl (by kernel_rfl) (fun a w hs => hs.get 2 33 (by kernel_rfl) (by kernel_rfl)) (fun k a w' hk hJ hd hs K hK => ?_) ?_
      · have e34 : a.tmps[34]?.getD undef = .int .i64 N := hs.get 3 34 (by kernel_rfl) (by kernel_rfl)
        have e37 : a.tmps[37]?.getD undef = .int .i64 N0 := hs.get 6 37 (by kernel_rfl) (by kernel_rfl)
        clear hd hs
        have hkk : k < 26 := hk
        clear hk
        have HJ := Lib.hid hJ; clear hJ
        go_simp
        try simp (disch := omega) only [IntWalk.i64_in]
        exact hK.out _ _ rfl HJ.out (World.grownBy.refl _ _)
      refine step_plain rfl (fun k a w' hk hJ hd hs K hK => ?_) ?_
      · have e33 : a.tmps[33]?.getD undef = .bool true := hs.get 2 33 (by kernel_rfl) (by kernel_rfl)
        have e38 : a.tmps[38]?.getD undef = .bool true := hs.get 7 38 (by kernel_rfl) (by kernel_rfl)
        clear hd hs
        have hkk : k < 26 := hk
        clear hk
        have HJ := Lib.hid hJ; clear hJ
        go_simp
        try simp (disch := omega) only [IntWalk.i64_in]
        exact hK.out _ _ rfl HJ.out (World.grownBy.refl _ _)
      refine step_plain rfl (fun k a w' hk hJ hd hs K hK => ?_) ?_
      · have e39 : a.tmps[39]?.getD undef = .bool true := hs.get 8 39 (by kernel_rfl) (by kernel_rfl)
        clear hd hs
        have hkk : k < 26 := hk
        clear hk
        have HJ := Lib.hid hJ; clear hJ
        go_simp
        try simp (disch := omega) only [IntWalk.i64_in]
        exact hK.out _ _ rfl HJ.out (World.grownBy.refl _ _)
      refine step_guard 9 40 true rfl (by kernel_rfl) (fun a w hs => hs.get 9 40 (by kernel_rfl) (by kernel_rfl)) (fun k a w' hk hJ hd hs K hK => ?_) ?_
      · have e5 : a.tmps[5]?.getD undef = .slice (some ⟨g, 0, none⟩) on oc := hs.at 5 (by kernel_rfl)
        clear hd hs
        have hkk : k < 26 := hk
        clear hk
        have HJ := Lib.hid hJ; clear hJ
        go_simp
        try simp (disch := omega) only [IntWalk.i64_in]
        exact hK.out _ _ rfl HJ.out (World.grownBy.refl _ _)
      refine step_guard 9 40 true rfl (by kernel_rfl) (fun a w hs => hs.get 9 40 (by kernel_rfl) (by kernel_rfl)) (fun k a w' hk hJ hd hs K hK => ?_) ?_
      · have e41 : a.tmps[41]?.getD undef = .slice (some ⟨g, 0, none⟩) on oc := hs.get 10 41 (by kernel_rfl) (by kernel_rfl)
        clear hd hs
        have hkk : k < 26 := hk
        clear hk
        have HJ := Lib.hid hJ; clear hJ
        go_simp
        exact hK.out _ _ rfl HJ.out (World.grownBy.refl _ _)
      refine step_guard 9 40 true rfl (by kernel_rfl) (fun a w hs => hs.get 9 40 (by kernel_rfl) (by kernel_rfl)) (fun k a w' hk hJ hd hs K hK => ?_) ?_
      · have e42 : a.tmps[42]?.getD undef = .pointer (some ⟨g, 0, none⟩) := hs.get 11 42 (by kernel_rfl) (by kernel_rfl)
        clear hd hs
        have hkk : k < 26 := hk
        clear hk
        have z0 := gb_cell hJ o0 (by simp)
        have HJ := Lib.hid hJ; clear hJ
        go_simp
        exact hK.out _ _ rfl HJ.out (World.grownBy.refl _ _)
      refine step_guard 9 40 true rfl (by kernel_rfl) (fun a w hs => hs.get 9 40 (by kernel_rfl) (by kernel_rfl)) (fun k a w' hk hJ hd hs K hK => ?_) ?_
      · have e4 : a.tmps[4]?.getD undef = .slice (some ⟨b, off, none⟩) on uc := hs.at 4 (by kernel_rfl)
        clear hd hs
        have hkk : k < 26 := hk
        clear hk
        have HJ := Lib.hid hJ; clear hJ
        go_simp
        try simp (disch := omega) only [IntWalk.i64_in]
        exact hK.out _ _ rfl HJ.out (World.grownBy.refl _ _)
      refine step_guard 9 40 true rfl (by kernel_rfl) (fun a w hs => hs.get 9 40 (by kernel_rfl) (by kernel_rfl)) (fun k a w' hk hJ hd hs K hK => ?_) ?_
      · have e44 : a.tmps[44]?.getD undef = .slice (some ⟨b, off, none⟩) on uc := hs.get 13 44 (by kernel_rfl) (by kernel_rfl)
        clear hd hs
        have hkk : k < 26 := hk
        clear hk
        have HJ := Lib.hid hJ; clear hJ
        go_simp
        exact hK.out _ _ rfl HJ.out (World.grownBy.refl _ _)
      refine step_guard 9 40 true rfl (by kernel_rfl) (fun a w hs => hs.get 9 40 (by kernel_rfl) (by kernel_rfl)) (fun k a w' hk hJ hd hs K hK => ?_) ?_
      · have e45 : a.tmps[45]?.getD undef = .pointer (some ⟨b, off, none⟩) := hs.get 14 45 (by kernel_rfl) (by kernel_rfl)
        clear hd hs
        have hkk : k < 26 := hk
        clear hk
        have z0 := gb_cell hJ q0 (by simp)
        have HJ := Lib.hid hJ; clear hJ
        go_simp
        exact hK.out _ _ rfl HJ.out (World.grownBy.refl _ _)
      refine step_guard 9 40 true rfl (by kernel_rfl) (fun a w hs => hs.get 9 40 (by kernel_rfl) (by kernel_rfl)) (fun k a w' hk hJ hd hs K hK => ?_) ?_
      · have e43 : a.tmps[43]?.getD undef = .int .i64 F := hs.get 12 43 (by kernel_rfl) (by kernel_rfl)
        have e46 : a.tmps[46]?.getD undef = .int .i64 F := hs.get 15 46 (by kernel_rfl) (by kernel_rfl)
        clear hd hs
        have hkk : k < 26 := hk
        clear hk
        have HJ := Lib.hid hJ; clear hJ
        go_simp
        try simp (disch := omega) only [IntWalk.i64_in]
        exact hK.out _ _ rfl HJ.out (World.grownBy.refl _ _)
      refine step_plain rfl (fun k a w' hk hJ hd hs K hK => ?_) ?_
      · have e40 : a.tmps[40]?.getD undef = .bool true := hs.get 9 40 (by kernel_rfl) (by kernel_rfl)
        have e47 : a.tmps[47]?.getD undef = .bool true := hs.get 16 47 (by kernel_rfl) (by kernel_rfl)
        clear hd hs
        have hkk : k < 26 := hk
        clear hk
        have HJ := Lib.hid hJ; clear hJ
        go_simp
        try simp (disch := omega) only [IntWalk.i64_in]
        exact hK.out _ _ rfl HJ.out (World.grownBy.refl _ _)
      refine step_plain rfl (fun k a w' hk hJ hd hs K hK => ?_) ?_
      · have e48 : a.tmps[48]?.getD undef = .bool true := hs.get 17 48 (by kernel_rfl) (by kernel_rfl)
        clear hd hs
        have hkk : k < 26 := hk
        clear hk
        have HJ := Lib.hid hJ; clear hJ
        go_simp
        try simp (disch := omega) only [IntWalk.i64_in]
        exact hK.out _ _ rfl HJ.out (World.grownBy.refl _ _)
      refine step_guard 18 49 true rfl (by kernel_rfl) (fun a w hs => hs.get 18 49 (by kernel_rfl) (by kernel_rfl)) (fun k a w' hk hJ hd hs K hK => ?_) ?_
      · have e3 : a.tmps[3]?.getD undef = .slice va on vc := hs.at 3 (by kernel_rfl)
        clear hd hs
        have hkk : k < 26 := hk
        clear hk
        have HJ := Lib.hid hJ; clear hJ
        go_simp
        try simp (disch := omega) only [IntWalk.i64_in]
        exact hK.out _ _ rfl HJ.out (World.grownBy.refl _ _)
      refine step_guard 18 49 true rfl (by kernel_rfl) (fun a w hs => hs.get 18 49 (by kernel_rfl) (by kernel_rfl)) (fun k a w' hk hJ hd hs K hK => ?_) ?_
      · have e5 : a.tmps[5]?.getD undef = .slice (some ⟨g, 0, none⟩) on oc := hs.at 5 (by kernel_rfl)
        clear hd hs
        have hkk : k < 26 := hk
        clear hk
        have HJ := Lib.hid hJ; clear hJ
        go_simp
        try simp (disch := omega) only [IntWalk.i64_in]
        exact hK.out _ _ rfl HJ.out (World.grownBy.refl _ _)
      refine step_guard 18 49 true rfl (by kernel_rfl) (fun a w hs => hs.get 18 49 (by kernel_rfl) (by kernel_rfl)) (fun k a w' hk hJ hd hs K hK => ?_) ?_
      · have e50 : a.tmps[50]?.getD undef = .slice va on vc := hs.get 19 50 (by kernel_rfl) (by kernel_rfl)
        have e51 : a.tmps[51]?.getD undef = .slice (some ⟨g, 0, none⟩) on oc := hs.get 20 51 (by kernel_rfl) (by kernel_rfl)
        clear hd hs
        have hkk : k < 26 := hk
        clear hk
        have HJ := Lib.hid hJ; clear hJ
        go_simp
        refine (C2.out _ HJ.out).mono ?_
        rintro e w2 ⟨r, rfl, T⟩
        exact hK.out _ _ (St.own T) (gb_trans HJ.out T.gb) T.gb
      refine step_guard 18 49 true rfl (by kernel_rfl) (fun a w hs => hs.get 18 49 (by kernel_rfl) (by kernel_rfl)) (fun k a w' hk hJ hd hs K hK => ?_) ?_
      · have e5 : a.tmps[5]?.getD undef = .slice (some ⟨g, 0, none⟩) on oc := hs.at 5 (by kernel_rfl)
        clear hd hs
        have hkk : k < 26 := hk
        clear hk
        have HJ := Lib.hid hJ; clear hJ
        go_simp
        try simp (disch := omega) only [IntWalk.i64_in]
        exact hK.out _ _ rfl HJ.out (World.grownBy.refl _ _)
      refine step_guard 18 49 true rfl (by kernel_rfl) (fun a w hs => hs.get 18 49 (by kernel_rfl) (by kernel_rfl)) (fun k a w' hk hJ hd hs K hK => ?_) ?_
      · have e52 := hs.get 21 52 (by kernel_rfl) (by kernel_rfl)
        have e53 : a.tmps[53]?.getD undef = .slice (some ⟨g, 0, none⟩) on oc := hs.get 22 53 (by kernel_rfl) (by kernel_rfl)
        clear hd hs
        have hkk : k < 26 := hk
        clear hk
        have HJ := Lib.hid hJ; clear hJ
        go_simp
        refine (sameInts_s _ _ us _ e52 (RO.out.kept HJ.out)).mono ?_
        rintro e w2 ⟨rfl, q, rfl⟩
        exact hK.out _ _ rfl (gb_drewN HJ.out q) (gb_drewN (World.grownBy.refl _ _) q)
      refine step_plain rfl (fun k a w' hk hJ hd hs K hK => ?_) ?_
      · have e49 : a.tmps[49]?.getD undef = .bool true := hs.get 18 49 (by kernel_rfl) (by kernel_rfl)
        have e54 : a.tmps[54]?.getD undef = .bool true := hs.get 23 54 (by kernel_rfl) (by kernel_rfl)
        clear hd hs
        have hkk : k < 26 := hk
        clear hk
        have HJ := Lib.hid hJ; clear hJ
        go_simp
        try simp (disch := omega) only [IntWalk.i64_in]
        exact hK.out _ _ rfl HJ.out (World.grownBy.refl _ _)
      refine step_plain rfl (fun k a w' hk hJ hd hs K hK => ?_) ?_
      · have e55 : a.tmps[55]?.getD undef = .bool true := hs.get 24 55 (by kernel_rfl) (by kernel_rfl)
        clear hd hs
        have hkk : k < 26 := hk
        clear hk
        have HJ := Lib.hid hJ; clear hJ
        go_simp
        try simp (disch := omega) only [IntWalk.i64_in]
        exact hK.out _ _ rfl HJ.out (World.grownBy.refl _ _)
      exact step_nil
    · intro vs w' hJ hA
      have f2 : vs 25 = .bool true := hA 25 (by decide)
      clear hA
      simp only [putAll, Act.put, List.setIfInBounds_toArray, List.set_cons_zero, List.set_cons_succ, f2]
      clear f2
      go_wp2
      go_ret
      exact ⟨rfl, gb_below (gb_trans SH.out.gb hJ)⟩
end Go.Proofs.Ythkleabdnjhniaa
namespace Go.Proofs.Ythkleabdnjhniaa.fnImproveTourDone
open Go Go.ChangeShapes Go.WideShapes Go.ChangeAt Go.RowKit Go.Proofs.Ythkleabdnjhniaa
set_option linter.unusedVariables false
theorem own : ownKnob Try.prog.godebug = none := by kernel_rfl
theorem laidOut : laidOutB Try.prog = true := by kernel_rfl
set_option maxRecDepth 100000 in
theorem lifted (os : Os) (started : os.Started) (H : Type) (enc : TypeId × Value → H) :
    ReturnsInHanded {} Try.checked os 12 .any (Rows.fnImproveTourSpec.pre6 enc Try.prog Try.f12 Rows.fnImproveTourRow.domain false) (Rows.fnImproveTourSpec.post enc Try.prog Try.f12 false true false false) := by
  refine returnsInHanded_of_change (C := Try.checked) own started (by kernel_rfl) Try.func12
    (ChangeSpec.witness6 (enc := enc) (C := Try.checked) false ⟨#[], #[.slice none 0 0], []⟩ 8 (by kernel_rfl) (by kernel_rfl) (by kernel_rfl) (by kernel_rfl)) ?_
  intro W base args ds gs before hval0 hW hcnd _
  have hval : ∀ (j : Nat) t v, Try.f12.params[j]? = some t → args[j]? = some v → Value.okWide Try.prog W .any base t v := hval0
  have hW' := hW
  obtain ⟨p, q, hA0, hV, rfl, hfz, hnd⟩ := hW
  have hA : DataW.TrodAll enc Try.prog W 0 (fun _ => true) true Try.f12.params.toList args.toList ds p := hA0
  rw [Try.params12] at hA hval
  obtain ⟨v0, vs0, d0, ds0, p0, q0, hargs, rfl, rfl, h0, r0⟩ := trodAll_cons hA
  obtain ⟨rfl, rfl, rfl⟩ := trodAll_nil r0
  obtain rfl : args = #[v0] := by cases args; simp_all
  obtain ⟨rfl, rfl⟩ := trodVars_none hV
  obtain ⟨a0, len0, cap0, rfl⟩ := okWide_slice Try.underlying29 (hval 0 29 v0 rfl rfl)
  have k0 := h0
  have lt0 : ∀ x ∈ p0, x.block < W.heap.size := by obtain ⟨m, hm⟩ := k0; exact DataW.trod_lt m _ _ _ hm
  have w0 : Byts W a0 len0 cap0 := by
    obtain ⟨fuel, hf⟩ := h0
    rcases open_ints Try.underlying29 Try.underlying5 (by kernel_rfl) hf with ⟨hcs, _⟩ | ⟨x, l, c, zs, hcs, _, hl, hm, hz, _, hcell, hwz⟩
    · simp [Value.cells] at hcs
      obtain ⟨rfl, rfl, rfl⟩ := hcs
      exact byts_nil W
    · simp [Value.cells] at hcs
      obtain ⟨rfl, rfl, rfl⟩ := hcs
      exact byts_of hl hm (by simpa using hz) hcell hwz
  clear hA0 hval0
  refine (law_FnImproveTour a0 len0 cap0 W w0).mono fun e W' ⟨he, bel⟩ => ?_
  subst he
  exact ⟨_, rfl, _, _, _, [], _, [], hW', trodAll_mk1 (shut_bool Try.underlying4 _), (trodAll_cons_mk (Below.trod laidOut (by kernel_rfl) (of_decide_eq_true (by kernel_rfl)) k0 bel lt0) trodAll_mk0), rfl, bel.frame _, fun h => by cases h⟩
theorem over : Rows.fnImproveTourRow.holds Try.pinned (OpenSpec.ofChange Rows.fnImproveTourSpec) :=
  OpenClaim.holds_of_wide 12 Try.f12 rfl rfl rfl rfl rfl rfl rfl ⟨rfl, rfl, rfl, rfl, rfl⟩ rfl rfl rfl rfl rfl (by kernel_rfl) Try.func12 (by kernel_rfl)
    (of_decide_eq_true (by kernel_rfl)) (by unfold Func.isWrapper; first | (rw [if_pos (by decide +kernel)]; kernel_rfl) | (rw [if_neg (by decide +kernel)]; exact ⟨rfl, rfl⟩))
    (fun os started H enc _ => lifted os started H enc)
theorem proved : Rows.FnImproveTourSaid := over
#print axioms proved
end Go.Proofs.Ythkleabdnjhniaa.fnImproveTourDone
