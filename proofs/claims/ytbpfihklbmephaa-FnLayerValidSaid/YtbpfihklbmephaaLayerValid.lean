/-
  FnLayerValid: for every code the law on layers returns true; nothing that was there is written. No condition.
-/
import Derived.Test.YtbpfihklbmephaaPalDraw
import Derived.Test.YtbpfihklbmephaaPalLaw
import Derived.Test.YtbpfihklbmephaaBlk
import Derived.Test.YtbpfihklbmephaaDrawn3
import Derived.Test.YtbpfihklbmephaaAppJ
import Derived.Test.YtbpfihklbmephaaRows
import Derived.Deep.RegionLaw
import Derived.ProofKit
import Derived.OpenShut
import Derived.ShutString
import Derived.ChangeOld
namespace Go.Proofs.Ytbpfihklbmephaa
open Go Go.RowKit
set_option linter.unusedVariables false
set_option maxRecDepth 100000 in
set_option maxHeartbeats 1000000 in
theorem law_FnLayerValid (a : Option Addr) (len cap : Nat) (w : World) (hw : Byts w a len cap) :
    Calls Try.prog 9 #[.slice a len cap] w fun e w' => e = .returned (.bool true) ∧ Below w.heap.size w w' := by
  have HB := Lib.hid hw; have hm : len ≤ 9223372036854775807 := (by have := hw.1; have := hw.2.1; unfold maxLen at this; omega); clear hw; by_cases hl : 1048576 < len; (go_enter Try.func9, Try.ntmps9; go_wp2_with fail; go_ret; exact ⟨rfl, Below.refl _ _⟩)
  go_enter Try.func9, Try.ntmps9
  go_wp2_with fail
  refine (DrawLayerValid_any _ _ _ _ HB.out).mono ?_
  rintro e w1 ⟨P, Q, v, xs, rfl, hp, hq, hxl, S⟩
  go_wp2_with fail
  refine (i_LayerValid P Q _ xs _ (St.own S)).mono ?_
  rintro e w2 ⟨rfl, T⟩
  replace S := S.grow T
  clear T
  go_wp2_with fail
  refine (s_LayerValid P Q _ xs _ (St.own S)).mono ?_
  rintro e w3 ⟨rfl, T⟩
  replace S := S.grow T
  clear T
  obtain ⟨va, n, vc, rfl, hvc, hvm, HVN, -⟩ := LBx_own S
  cases hB : layerB P Q xs with
  | false =>
    clear HVN hB
    go_wp2_with (go_at_call 15; refine (alive_any _).mono ?_; rintro e w' ⟨rfl, rfl⟩)
    go_ret
    exact ⟨rfl, S.below⟩
  | true =>
    have hok := layerB_t.1 hB
    clear hB
    by_cases hn0 : n = 0
    · subst hn0
      clear HVN hok
      go_wp2_with (go_at_call 15; refine (alive_any _).mono ?_; rintro e w' ⟨rfl, rfl⟩)
      go_ret
      exact ⟨rfl, S.below⟩
    have hn1 : 1 ≤ n := by omega
    have hz : ((n : Int) == 0) = false := by simpa using (show ¬ (n : Int) = 0 by omega)
    have hn61 : n ≤ 61 := by have := HVN.out; omega
    obtain ⟨g, cp, hv', -, -⟩ := S.ownBlk (by have := HVN.out; omega)
    simp only [Value.slice.injEq] at hv'
    obtain ⟨rfl, -, rfl⟩ := hv'
    obtain ⟨x, hx, ⟨d0, d1, d2, d3⟩, -⟩ := LBx_cells S 0 (by have := HVN.out; omega)
    rw [Nat.zero_mul] at d0 d1 d2 d3
    simp only [Nat.zero_add] at d1 d2 d3
    have h1c : (1 : Int) ≤ (n : Int) := by omega
    have h0c : 0 < n := by omega
    have h1v : (1 : Int) ≤ (vc : Int) := by omega
    have h1vn : 1 ≤ vc := by omega
    have C1 : RowKit.Hid (∀ W, w3.grownBy W none → Calls Try.prog 19 #[.int .i64 P, .int .i64 Q, .slice (if vc = 1 then some ⟨g, 0, none⟩ else some ⟨g, 4, none⟩) (n - 1) (vc - 1)] W fun e w' => e = .returned (.bool true) ∧ W.grownBy w' none) := by
      intro W hg
      have R : Rds LBx W (.slice (if vc = 1 then some ⟨g, 0, none⟩ else some ⟨g, 4, none⟩) (n - 1) (vc - 1)) (xs.drop 1) := by
        split
        · have e : xs.drop 1 = [] := List.drop_eq_nil_of_le (by have := HVN.out; omega)
          have e2 : n - 1 = 0 := by omega
          rw [e, e2]
          exact ⟨_, _, rfl, by simp, by unfold maxLen; omega, .inl rfl⟩
        · have := ((St.own S).kept hg).drop 1 hn1
          rw [show LBx.s = 4 from rfl] at this
          exact this
      have := i_LayerValid P Q _ _ W R
      rwa [layerB_of (layer_drop hok 1)] at this
    have C2 : RowKit.Hid (∀ v W, Rds LBx W v (([] ++ xs) ++ [x]) → Calls Try.prog 19 #[.int .i64 P, .int .i64 Q, v] W fun e w' => e = .returned (.bool false) ∧ W.grownBy w' none) := by
      intro v W R
      rw [List.nil_append] at R
      have := i_LayerValid P Q v _ W R
      rwa [layerB_f.2 (layer_twice hx)] at this
    have C3' : RowKit.Hid (P < 200 → ∀ W, w3.grownBy W none → Calls Try.prog 19 #[.int .i64 (P + 1), .int .i64 Q, .slice (some ⟨g, 0, none⟩) n vc] W fun e w' => e = .returned (.bool true) ∧ W.grownBy w' none) := by
      intro hp W hg
      have := i_LayerValid (P + 1) Q _ xs W ((St.own S).kept hg)
      rwa [layerB_of (layer_more hok hp)] at this
    have hP1 : 1 ≤ P := hok.1.1.1
    have hP200 : P ≤ 200 := hok.1.1.2
    have RX := Lib.hid (St.own S)
    have GB := Lib.hid S.gb
    obtain ⟨X0, X1, X2, X3⟩ := x
    have hl0 : ([] : List Bx).length + xs.length ≤ 1099511627776 := by have := HVN.out; simp; omega
    have hl1 : (([] : List Bx) ++ xs).length + [(⟨X0, X1, X2, X3⟩ : Bx)].length ≤ 1099511627776 := by have := HVN.out; simp; omega
    dsimp only at d0 d1 d2 d3
    clear S hok hx HVN
    by_cases hP : P = 200
    · have hP' : (P == 200) = true := by simpa using hP
      clear hP C3'
      go_wp2_with fail
      refine wp_drawn_put3 (shp [some (.int .i64 P), some (.int .i64 Q), some (.slice (some ⟨g, 0, none⟩) n vc), some (.slice (if vc = 1 then some ⟨g, 0, none⟩ else some ⟨g, 4, none⟩) (n - 1) (vc - 1)), some (.bool true), some (.bool true), some (.int .i64 P), some (.int .i64 Q), none, some (.slice (some ⟨g, 0, none⟩) n vc), none, some (.slice (some ⟨g, 0, none⟩) n vc), some (.pointer (some ⟨g, 0, none⟩)), some ((.agg #[.int .i64 X0, .int .i64 X1, .int .i64 X2, .int .i64 X3])), none, none, some (.bool false), some (.bool true), some (.bool true), some (.bool true), some (.int .i64 P), some (.bool true), some (.bool true), none, none, none, none, none, some (.bool true), some (.bool true), some (.bool true)]) (fun D S w' => JR LBx ⟨X0, X1, X2, X3⟩ w3 [] xs (D 8) (D 10) (D 14) (D 15) (S 42) (S 44) (S 48) (S 49) w') (by kernel_rfl) (by kernel_rfl) (JR.start LBx _ w3 _ xs _ _ _ _ _ (St.refl w3).drew) ?_ ?_
      · refine step_plain3 rfl (fun D a w hD hB hL hJ hd hs K hK => ?_) ?_
        · have e3 : a.tmps[3]?.getD undef = .int .i64 P := hs.at 3 (by kernel_rfl)
          clear hB hL hD hd hs
          have HJ := Lib.hid hJ
          clear hJ
          go_simp
          exact hK.out _ _ rfl HJ.out (fun _ _ h => h)
        refine step_plain3 rfl (fun D a w hD hB hL hJ hd hs K hK => ?_) ?_
        · have e4 : a.tmps[4]?.getD undef = .int .i64 Q := hs.at 4 (by kernel_rfl)
          clear hB hL hD hd hs
          have HJ := Lib.hid hJ
          clear hJ
          go_simp
          exact hK.out _ _ rfl HJ.out (fun _ _ h => h)
        refine step_plain3 rfl (fun D a w hD hB hL hJ hd hs K hK => ?_) ?_
        · have e5 : a.tmps[5]?.getD undef = .slice (some ⟨g, 0, none⟩) n vc := hs.at 5 (by kernel_rfl)
          clear hB hL hD hd hs
          have HJ := Lib.hid hJ
          clear hJ
          go_simp
          exact hK.out _ _ rfl HJ.out (fun _ _ h => h)
        refine step_plain3 rfl (fun D a w hD hB hL hJ hd hs K hK => ?_) ?_
        · have e36 : a.tmps[36]?.getD undef = .slice (some ⟨g, 0, none⟩) n vc := hs.get 2 36 (by kernel_rfl) (by kernel_rfl)
          clear hB hL hD hd hs
          have HJ := Lib.hid hJ
          clear hJ
          go_simp
          exact hK.out _ _ rfl HJ.out (fun _ _ h => h)
        refine step_plain3 rfl (fun D a w hD hB hL hJ hd hs K hK => ?_) ?_
        · have e34 : a.tmps[34]?.getD undef = .int .i64 P := hs.get 0 34 (by kernel_rfl) (by kernel_rfl)
          have e35 : a.tmps[35]?.getD undef = .int .i64 Q := hs.get 1 35 (by kernel_rfl) (by kernel_rfl)
          have e37 : a.tmps[37]?.getD undef = .slice (if vc = 1 then some ⟨g, 0, none⟩ else some ⟨g, 4, none⟩) (n - 1) (vc - 1) := hs.get 3 37 (by kernel_rfl) (by kernel_rfl)
          have HJ := Lib.hid hJ
          clear hJ hB hL hD hd hs
          go_simp
          refine (C1.out _ HJ.out.gb).mono ?_
          rintro e w2 ⟨rfl, g2⟩
          exact hK.out _ _ rfl (HJ.out.grow g2) (fun _ _ h => h)
        refine step_plain3 rfl (fun D a w hD hB hL hJ hd hs K hK => ?_) ?_
        · have e38 : a.tmps[38]?.getD undef = .bool true := hs.get 4 38 (by kernel_rfl) (by kernel_rfl)
          clear hB hL hD hd hs
          have HJ := Lib.hid hJ
          clear hJ
          go_simp
          exact hK.out _ _ rfl HJ.out (fun _ _ h => h)
        refine step_guard3 5 39 true rfl (by kernel_rfl) (fun a w hs => hs.get 5 39 (by kernel_rfl) (by kernel_rfl)) (fun D a w hD hB hL hJ hd hs K hK => ?_) ?_
        · have e3 : a.tmps[3]?.getD undef = .int .i64 P := hs.at 3 (by kernel_rfl)
          clear hB hL hD hd hs
          have HJ := Lib.hid hJ
          clear hJ
          go_simp
          exact hK.out _ _ rfl HJ.out (fun _ _ h => h)
        refine step_guard3 5 39 true rfl (by kernel_rfl) (fun a w hs => hs.get 5 39 (by kernel_rfl) (by kernel_rfl)) (fun D a w hD hB hL hJ hd hs K hK => ?_) ?_
        · have e4 : a.tmps[4]?.getD undef = .int .i64 Q := hs.at 4 (by kernel_rfl)
          clear hB hL hD hd hs
          have HJ := Lib.hid hJ
          clear hJ
          go_simp
          exact hK.out _ _ rfl HJ.out (fun _ _ h => h)
        refine step_guard3 5 39 true rfl (by kernel_rfl) (fun a w hs => hs.get 5 39 (by kernel_rfl) (by kernel_rfl)) (fun D a w hD hB hL hJ hd hs K hK => ?_) ?_
        · have h9 := hL 10 (by kernel_rfl)
          have HJ := Lib.hid hJ
          clear hJ hs hd
          go_simp
          exact hK.out _ _ trivial (JR.lit0 HJ.out hD h9 #[] rfl (show 0 ≤ maxLen by decide)) (fun _ _ h => h)
        refine step_guard3 5 39 true rfl (by kernel_rfl) (fun a w hs => hs.get 5 39 (by kernel_rfl) (by kernel_rfl)) (fun D a w hD hB hL hJ hd hs K hK => ?_) ?_
        · have e5 : a.tmps[5]?.getD undef = .slice (some ⟨g, 0, none⟩) n vc := hs.at 5 (by kernel_rfl)
          clear hB hL hD hd hs
          have HJ := Lib.hid hJ
          clear hJ
          go_simp
          exact hK.out _ _ rfl HJ.out (fun _ _ h => h)
        refine step_guard3 5 39 true rfl (by kernel_rfl) (fun a w hs => hs.get 5 39 (by kernel_rfl) (by kernel_rfl)) (fun D a w hD hB hL hJ hd hs K hK => ?_) ?_
        · obtain ⟨x42, e42⟩ : ∃ x : Value, a.tmps[42]?.getD undef = x := ⟨_, rfl⟩
          have e43 : a.tmps[43]?.getD undef = .slice (some ⟨g, 0, none⟩) n vc := hs.get 9 43 (by kernel_rfl) (by kernel_rfl)
          have HJ := Lib.hid hJ
          clear hJ hs hd
          have SS := JR.s1 HJ.out (hB 8 (by kernel_rfl)) hD (hL 15 (by kernel_rfl))
          refine wp_appR LBx_info (.tmp 42) (.tmp 43) rfl SS (by simp [Act.eval, sl]) xs _ (by simp [Act.eval, e43]) (RX.out.kept SS.gb) (hl0) ?_
          intro v' w' S'
          exact hK.out _ _ trivial (JR.t1 S' (hB 8 (by kernel_rfl)) (hL 15 (by kernel_rfl))) (fun _ _ h => h)
        refine step_guard3 5 39 true rfl (by kernel_rfl) (fun a w hs => hs.get 5 39 (by kernel_rfl) (by kernel_rfl)) (fun D a w hD hB hL hJ hd hs K hK => ?_) ?_
        · have e5 : a.tmps[5]?.getD undef = .slice (some ⟨g, 0, none⟩) n vc := hs.at 5 (by kernel_rfl)
          clear hB hL hD hd hs
          have HJ := Lib.hid hJ
          clear hJ
          go_simp
          exact hK.out _ _ rfl HJ.out (fun _ _ h => h)
        refine step_guard3 5 39 true rfl (by kernel_rfl) (fun a w hs => hs.get 5 39 (by kernel_rfl) (by kernel_rfl)) (fun D a w hD hB hL hJ hd hs K hK => ?_) ?_
        · have e45 : a.tmps[45]?.getD undef = .slice (some ⟨g, 0, none⟩) n vc := hs.get 11 45 (by kernel_rfl) (by kernel_rfl)
          clear hB hL hD hd hs
          have HJ := Lib.hid hJ
          clear hJ
          go_simp
          exact hK.out _ _ rfl HJ.out (fun _ _ h => h)
        refine step_guard3 5 39 true rfl (by kernel_rfl) (fun a w hs => hs.get 5 39 (by kernel_rfl) (by kernel_rfl)) (fun D a w hD hB hL hJ hd hs K hK => ?_) ?_
        · have e46 : a.tmps[46]?.getD undef = .pointer (some ⟨g, 0, none⟩) := hs.get 12 46 (by kernel_rfl) (by kernel_rfl)
          have z0 := gb_cell hJ.gb d0 (by simp)
          have z1 := gb_cell hJ.gb d1 (by simp)
          have z2 := gb_cell hJ.gb d2 (by simp)
          have z3 := gb_cell hJ.gb d3 (by simp)
          have HJ := Lib.hid hJ
          clear hJ hB hL hD hd hs
          go_simp
          exact hK.out _ _ rfl HJ.out (fun _ _ h => h)
        refine step_guard3 5 39 true rfl (by kernel_rfl) (fun a w hs => hs.get 5 39 (by kernel_rfl) (by kernel_rfl)) (fun D a w hD hB hL hJ hd hs K hK => ?_) ?_
        · have e47 : a.tmps[47]?.getD undef = (.agg #[.int .i64 X0, .int .i64 X1, .int .i64 X2, .int .i64 X3]) := hs.get 13 47 (by kernel_rfl) (by kernel_rfl)
          have h15 := hL 15 (by kernel_rfl)
          have HJ := Lib.hid hJ
          clear hJ hs hd
          go_simp
          exact hK.out _ _ trivial (JR.lit1 HJ.out hD h15 #[.int .i64 X0, .int .i64 X1, .int .i64 X2, .int .i64 X3] rfl) (fun _ _ h => h)
        refine step_guard3 5 39 true rfl (by kernel_rfl) (fun a w hs => hs.get 5 39 (by kernel_rfl) (by kernel_rfl)) (fun D a w hD hB hL hJ hd hs K hK => ?_) ?_
        · obtain ⟨x44, e44⟩ : ∃ x : Value, a.tmps[44]?.getD undef = x := ⟨_, rfl⟩
          obtain ⟨x48, e48⟩ : ∃ x : Value, a.tmps[48]?.getD undef = x := ⟨_, rfl⟩
          have HJ := Lib.hid hJ
          clear hJ hs hd
          have SS := JR.s2 HJ.out (hB 8 (by kernel_rfl)) (hB 10 (by kernel_rfl)) (hB 14 (by kernel_rfl)) hD
          refine wp_appR LBx_info (.tmp 44) (.tmp 48) rfl SS (by simp [Act.eval, sl]) [⟨X0, X1, X2, X3⟩] _ (by simp [Act.eval, sl]) (St.own SS.tail) (hl1) ?_
          intro v' w' S'
          exact hK.out _ _ trivial (JR.t2 S' (hB 8 (by kernel_rfl)) (hB 10 (by kernel_rfl))) (fun _ _ h => h)
        refine step_guard3 5 39 true rfl (by kernel_rfl) (fun a w hs => hs.get 5 39 (by kernel_rfl) (by kernel_rfl)) (fun D a w hD hB hL hJ hd hs K hK => ?_) ?_
        · have e40 : a.tmps[40]?.getD undef = .int .i64 P := hs.get 6 40 (by kernel_rfl) (by kernel_rfl)
          have e41 : a.tmps[41]?.getD undef = .int .i64 Q := hs.get 7 41 (by kernel_rfl) (by kernel_rfl)
          obtain ⟨x49, e49⟩ : ∃ x : Value, a.tmps[49]?.getD undef = x := ⟨_, rfl⟩
          have h15 := hB 15 (by kernel_rfl)
          have RR := JR.rds hJ h15 (hB 10 (by kernel_rfl)) (hB 8 (by kernel_rfl))
          rw [show sl a 49 = x49 from e49] at RR
          have HJ := Lib.hid hJ
          clear hJ hB hL hD hd hs
          go_simp
          refine (C2.out _ _ RR).mono ?_
          rintro e w2 ⟨rfl, g2⟩
          exact hK.out _ _ rfl (HJ.out.grow g2) (fun _ _ h => h)
        refine step_guard3 5 39 true rfl (by kernel_rfl) (fun a w hs => hs.get 5 39 (by kernel_rfl) (by kernel_rfl)) (fun D a w hD hB hL hJ hd hs K hK => ?_) ?_
        · have e50 : a.tmps[50]?.getD undef = .bool false := hs.get 16 50 (by kernel_rfl) (by kernel_rfl)
          clear hB hL hD hd hs
          have HJ := Lib.hid hJ
          clear hJ
          go_simp
          exact hK.out _ _ rfl HJ.out (fun _ _ h => h)
        refine step_plain3 rfl (fun D a w hD hB hL hJ hd hs K hK => ?_) ?_
        · have e39 : a.tmps[39]?.getD undef = .bool true := hs.get 5 39 (by kernel_rfl) (by kernel_rfl)
          have e51 : a.tmps[51]?.getD undef = .bool true := hs.get 17 51 (by kernel_rfl) (by kernel_rfl)
          clear hB hL hD hd hs
          have HJ := Lib.hid hJ
          clear hJ
          go_simp
          exact hK.out _ _ rfl HJ.out (fun _ _ h => h)
        refine step_plain3 rfl (fun D a w hD hB hL hJ hd hs K hK => ?_) ?_
        · have e52 : a.tmps[52]?.getD undef = .bool true := hs.get 18 52 (by kernel_rfl) (by kernel_rfl)
          clear hB hL hD hd hs
          have HJ := Lib.hid hJ
          clear hJ
          go_simp
          exact hK.out _ _ rfl HJ.out (fun _ _ h => h)
        refine step_guard3 19 53 true rfl (by kernel_rfl) (fun a w hs => hs.get 19 53 (by kernel_rfl) (by kernel_rfl)) (fun D a w hD hB hL hJ hd hs K hK => ?_) ?_
        · have e3 : a.tmps[3]?.getD undef = .int .i64 P := hs.at 3 (by kernel_rfl)
          clear hB hL hD hd hs
          have HJ := Lib.hid hJ
          clear hJ
          go_simp
          exact hK.out _ _ rfl HJ.out (fun _ _ h => h)
        refine step_guard3 19 53 true rfl (by kernel_rfl) (fun a w hs => hs.get 19 53 (by kernel_rfl) (by kernel_rfl)) (fun D a w hD hB hL hJ hd hs K hK => ?_) ?_
        · have e54 : a.tmps[54]?.getD undef = .int .i64 P := hs.get 20 54 (by kernel_rfl) (by kernel_rfl)
          clear hB hL hD hd hs
          have HJ := Lib.hid hJ
          clear hJ
          go_simp
          exact hK.out _ _ rfl HJ.out (fun _ _ h => h)
        refine step_guard3 19 53 true rfl (by kernel_rfl) (fun a w hs => hs.get 19 53 (by kernel_rfl) (by kernel_rfl)) (fun D a w hD hB hL hJ hd hs K hK => ?_) ?_
        · have e55 : a.tmps[55]?.getD undef = .bool true := hs.get 21 55 (by kernel_rfl) (by kernel_rfl)
          clear hB hL hD hd hs
          have HJ := Lib.hid hJ
          clear hJ
          go_simp
          exact hK.out _ _ rfl HJ.out (fun _ _ h => h)
        refine step_skip3 22 56 false rfl (by kernel_rfl) (fun a w hs => hs.get 22 56 (by kernel_rfl) (by kernel_rfl)) (fun D a w hJ => ⟨trivial, hJ⟩) ?_
        refine step_skip3 22 56 false rfl (by kernel_rfl) (fun a w hs => hs.get 22 56 (by kernel_rfl) (by kernel_rfl)) (fun D a w hJ => ⟨trivial, hJ⟩) ?_
        refine step_skip3 22 56 false rfl (by kernel_rfl) (fun a w hs => hs.get 22 56 (by kernel_rfl) (by kernel_rfl)) (fun D a w hJ => ⟨trivial, hJ⟩) ?_
        refine step_skip3 22 56 false rfl (by kernel_rfl) (fun a w hs => hs.get 22 56 (by kernel_rfl) (by kernel_rfl)) (fun D a w hJ => ⟨trivial, hJ⟩) ?_
        refine step_skip3 22 56 false rfl (by kernel_rfl) (fun a w hs => hs.get 22 56 (by kernel_rfl) (by kernel_rfl)) (fun D a w hJ => ⟨trivial, hJ⟩) ?_
        refine step_guard3 19 53 true rfl (by kernel_rfl) (fun a w hs => hs.get 19 53 (by kernel_rfl) (by kernel_rfl)) (fun D a w hD hB hL hJ hd hs K hK => ?_) ?_
        · have e56 : a.tmps[56]?.getD undef = .bool true := hs.get 22 56 (by kernel_rfl) (by kernel_rfl)
          obtain ⟨x61, e61⟩ : ∃ x : Value, a.tmps[61]?.getD undef = x := ⟨_, rfl⟩
          clear hB hL hD hd hs
          have HJ := Lib.hid hJ
          clear hJ
          go_simp
          exact hK.out _ _ rfl HJ.out (fun _ _ h => h)
        refine step_plain3 rfl (fun D a w hD hB hL hJ hd hs K hK => ?_) ?_
        · have e53 : a.tmps[53]?.getD undef = .bool true := hs.get 19 53 (by kernel_rfl) (by kernel_rfl)
          have e62 : a.tmps[62]?.getD undef = .bool true := hs.get 28 62 (by kernel_rfl) (by kernel_rfl)
          clear hB hL hD hd hs
          have HJ := Lib.hid hJ
          clear hJ
          go_simp
          exact hK.out _ _ rfl HJ.out (fun _ _ h => h)
        refine step_plain3 rfl (fun D a w hD hB hL hJ hd hs K hK => ?_) ?_
        · have e63 : a.tmps[63]?.getD undef = .bool true := hs.get 29 63 (by kernel_rfl) (by kernel_rfl)
          clear hB hL hD hd hs
          have HJ := Lib.hid hJ
          clear hJ
          go_simp
          exact hK.out _ _ rfl HJ.out (fun _ _ h => h)
        exact step_nil3
      · intro vs D w' hD hJ hA
        have f2 : vs 30 = .bool true := hA 30 (by decide)
        have G := gb_trans GB.out (JR.gb hJ)
        clear hJ hA hD
        simp only [putAll, Act.put, List.setIfInBounds_toArray, List.set_cons_zero, List.set_cons_succ, f2]
        go_wp2
        go_ret
        exact ⟨rfl, gb_below G⟩
    · have hP' : (P == 200) = false := beq_eq_false_iff_ne.2 hP
      have C3 := Lib.hid (C3'.out (by omega))
      have hP2 : P < 200 := by omega
      have iP : IntKind.i64.wrap (P + 1) = P + 1 := IntWalk.i64_in _ (by omega)
      clear hP C3'
      go_wp2_with fail
      refine wp_drawn_put3 (shp [some (.int .i64 P), some (.int .i64 Q), some (.slice (some ⟨g, 0, none⟩) n vc), some (.slice (if vc = 1 then some ⟨g, 0, none⟩ else some ⟨g, 4, none⟩) (n - 1) (vc - 1)), some (.bool true), some (.bool true), some (.int .i64 P), some (.int .i64 Q), none, some (.slice (some ⟨g, 0, none⟩) n vc), none, some (.slice (some ⟨g, 0, none⟩) n vc), some (.pointer (some ⟨g, 0, none⟩)), some ((.agg #[.int .i64 X0, .int .i64 X1, .int .i64 X2, .int .i64 X3])), none, none, some (.bool false), some (.bool true), some (.bool true), some (.bool true), some (.int .i64 P), some (.bool false), some (.bool false), some (.int .i64 P), some (.int .i64 (P + 1)), some (.int .i64 Q), some (.slice (some ⟨g, 0, none⟩) n vc), some (.bool true), some (.bool true), some (.bool true), some (.bool true)]) (fun D S w' => JR LBx ⟨X0, X1, X2, X3⟩ w3 [] xs (D 8) (D 10) (D 14) (D 15) (S 42) (S 44) (S 48) (S 49) w') (by kernel_rfl) (by kernel_rfl) (JR.start LBx _ w3 _ xs _ _ _ _ _ (St.refl w3).drew) ?_ ?_
      · refine step_plain3 rfl (fun D a w hD hB hL hJ hd hs K hK => ?_) ?_
        · have e3 : a.tmps[3]?.getD undef = .int .i64 P := hs.at 3 (by kernel_rfl)
          clear hB hL hD hd hs
          have HJ := Lib.hid hJ
          clear hJ
          go_simp
          exact hK.out _ _ rfl HJ.out (fun _ _ h => h)
        refine step_plain3 rfl (fun D a w hD hB hL hJ hd hs K hK => ?_) ?_
        · have e4 : a.tmps[4]?.getD undef = .int .i64 Q := hs.at 4 (by kernel_rfl)
          clear hB hL hD hd hs
          have HJ := Lib.hid hJ
          clear hJ
          go_simp
          exact hK.out _ _ rfl HJ.out (fun _ _ h => h)
        refine step_plain3 rfl (fun D a w hD hB hL hJ hd hs K hK => ?_) ?_
        · have e5 : a.tmps[5]?.getD undef = .slice (some ⟨g, 0, none⟩) n vc := hs.at 5 (by kernel_rfl)
          clear hB hL hD hd hs
          have HJ := Lib.hid hJ
          clear hJ
          go_simp
          exact hK.out _ _ rfl HJ.out (fun _ _ h => h)
        refine step_plain3 rfl (fun D a w hD hB hL hJ hd hs K hK => ?_) ?_
        · have e36 : a.tmps[36]?.getD undef = .slice (some ⟨g, 0, none⟩) n vc := hs.get 2 36 (by kernel_rfl) (by kernel_rfl)
          clear hB hL hD hd hs
          have HJ := Lib.hid hJ
          clear hJ
          go_simp
          exact hK.out _ _ rfl HJ.out (fun _ _ h => h)
        refine step_plain3 rfl (fun D a w hD hB hL hJ hd hs K hK => ?_) ?_
        · have e34 : a.tmps[34]?.getD undef = .int .i64 P := hs.get 0 34 (by kernel_rfl) (by kernel_rfl)
          have e35 : a.tmps[35]?.getD undef = .int .i64 Q := hs.get 1 35 (by kernel_rfl) (by kernel_rfl)
          have e37 : a.tmps[37]?.getD undef = .slice (if vc = 1 then some ⟨g, 0, none⟩ else some ⟨g, 4, none⟩) (n - 1) (vc - 1) := hs.get 3 37 (by kernel_rfl) (by kernel_rfl)
          have HJ := Lib.hid hJ
          clear hJ hB hL hD hd hs
          go_simp
          refine (C1.out _ HJ.out.gb).mono ?_
          rintro e w2 ⟨rfl, g2⟩
          exact hK.out _ _ rfl (HJ.out.grow g2) (fun _ _ h => h)
        refine step_plain3 rfl (fun D a w hD hB hL hJ hd hs K hK => ?_) ?_
        · have e38 : a.tmps[38]?.getD undef = .bool true := hs.get 4 38 (by kernel_rfl) (by kernel_rfl)
          clear hB hL hD hd hs
          have HJ := Lib.hid hJ
          clear hJ
          go_simp
          exact hK.out _ _ rfl HJ.out (fun _ _ h => h)
        refine step_guard3 5 39 true rfl (by kernel_rfl) (fun a w hs => hs.get 5 39 (by kernel_rfl) (by kernel_rfl)) (fun D a w hD hB hL hJ hd hs K hK => ?_) ?_
        · have e3 : a.tmps[3]?.getD undef = .int .i64 P := hs.at 3 (by kernel_rfl)
          clear hB hL hD hd hs
          have HJ := Lib.hid hJ
          clear hJ
          go_simp
          exact hK.out _ _ rfl HJ.out (fun _ _ h => h)
        refine step_guard3 5 39 true rfl (by kernel_rfl) (fun a w hs => hs.get 5 39 (by kernel_rfl) (by kernel_rfl)) (fun D a w hD hB hL hJ hd hs K hK => ?_) ?_
        · have e4 : a.tmps[4]?.getD undef = .int .i64 Q := hs.at 4 (by kernel_rfl)
          clear hB hL hD hd hs
          have HJ := Lib.hid hJ
          clear hJ
          go_simp
          exact hK.out _ _ rfl HJ.out (fun _ _ h => h)
        refine step_guard3 5 39 true rfl (by kernel_rfl) (fun a w hs => hs.get 5 39 (by kernel_rfl) (by kernel_rfl)) (fun D a w hD hB hL hJ hd hs K hK => ?_) ?_
        · have h9 := hL 10 (by kernel_rfl)
          have HJ := Lib.hid hJ
          clear hJ hs hd
          go_simp
          exact hK.out _ _ trivial (JR.lit0 HJ.out hD h9 #[] rfl (show 0 ≤ maxLen by decide)) (fun _ _ h => h)
        refine step_guard3 5 39 true rfl (by kernel_rfl) (fun a w hs => hs.get 5 39 (by kernel_rfl) (by kernel_rfl)) (fun D a w hD hB hL hJ hd hs K hK => ?_) ?_
        · have e5 : a.tmps[5]?.getD undef = .slice (some ⟨g, 0, none⟩) n vc := hs.at 5 (by kernel_rfl)
          clear hB hL hD hd hs
          have HJ := Lib.hid hJ
          clear hJ
          go_simp
          exact hK.out _ _ rfl HJ.out (fun _ _ h => h)
        refine step_guard3 5 39 true rfl (by kernel_rfl) (fun a w hs => hs.get 5 39 (by kernel_rfl) (by kernel_rfl)) (fun D a w hD hB hL hJ hd hs K hK => ?_) ?_
        · obtain ⟨x42, e42⟩ : ∃ x : Value, a.tmps[42]?.getD undef = x := ⟨_, rfl⟩
          have e43 : a.tmps[43]?.getD undef = .slice (some ⟨g, 0, none⟩) n vc := hs.get 9 43 (by kernel_rfl) (by kernel_rfl)
          have HJ := Lib.hid hJ
          clear hJ hs hd
          have SS := JR.s1 HJ.out (hB 8 (by kernel_rfl)) hD (hL 15 (by kernel_rfl))
          refine wp_appR LBx_info (.tmp 42) (.tmp 43) rfl SS (by simp [Act.eval, sl]) xs _ (by simp [Act.eval, e43]) (RX.out.kept SS.gb) (hl0) ?_
          intro v' w' S'
          exact hK.out _ _ trivial (JR.t1 S' (hB 8 (by kernel_rfl)) (hL 15 (by kernel_rfl))) (fun _ _ h => h)
        refine step_guard3 5 39 true rfl (by kernel_rfl) (fun a w hs => hs.get 5 39 (by kernel_rfl) (by kernel_rfl)) (fun D a w hD hB hL hJ hd hs K hK => ?_) ?_
        · have e5 : a.tmps[5]?.getD undef = .slice (some ⟨g, 0, none⟩) n vc := hs.at 5 (by kernel_rfl)
          clear hB hL hD hd hs
          have HJ := Lib.hid hJ
          clear hJ
          go_simp
          exact hK.out _ _ rfl HJ.out (fun _ _ h => h)
        refine step_guard3 5 39 true rfl (by kernel_rfl) (fun a w hs => hs.get 5 39 (by kernel_rfl) (by kernel_rfl)) (fun D a w hD hB hL hJ hd hs K hK => ?_) ?_
        · have e45 : a.tmps[45]?.getD undef = .slice (some ⟨g, 0, none⟩) n vc := hs.get 11 45 (by kernel_rfl) (by kernel_rfl)
          clear hB hL hD hd hs
          have HJ := Lib.hid hJ
          clear hJ
          go_simp
          exact hK.out _ _ rfl HJ.out (fun _ _ h => h)
        refine step_guard3 5 39 true rfl (by kernel_rfl) (fun a w hs => hs.get 5 39 (by kernel_rfl) (by kernel_rfl)) (fun D a w hD hB hL hJ hd hs K hK => ?_) ?_
        · have e46 : a.tmps[46]?.getD undef = .pointer (some ⟨g, 0, none⟩) := hs.get 12 46 (by kernel_rfl) (by kernel_rfl)
          have z0 := gb_cell hJ.gb d0 (by simp)
          have z1 := gb_cell hJ.gb d1 (by simp)
          have z2 := gb_cell hJ.gb d2 (by simp)
          have z3 := gb_cell hJ.gb d3 (by simp)
          have HJ := Lib.hid hJ
          clear hJ hB hL hD hd hs
          go_simp
          exact hK.out _ _ rfl HJ.out (fun _ _ h => h)
        refine step_guard3 5 39 true rfl (by kernel_rfl) (fun a w hs => hs.get 5 39 (by kernel_rfl) (by kernel_rfl)) (fun D a w hD hB hL hJ hd hs K hK => ?_) ?_
        · have e47 : a.tmps[47]?.getD undef = (.agg #[.int .i64 X0, .int .i64 X1, .int .i64 X2, .int .i64 X3]) := hs.get 13 47 (by kernel_rfl) (by kernel_rfl)
          have h15 := hL 15 (by kernel_rfl)
          have HJ := Lib.hid hJ
          clear hJ hs hd
          go_simp
          exact hK.out _ _ trivial (JR.lit1 HJ.out hD h15 #[.int .i64 X0, .int .i64 X1, .int .i64 X2, .int .i64 X3] rfl) (fun _ _ h => h)
        refine step_guard3 5 39 true rfl (by kernel_rfl) (fun a w hs => hs.get 5 39 (by kernel_rfl) (by kernel_rfl)) (fun D a w hD hB hL hJ hd hs K hK => ?_) ?_
        · obtain ⟨x44, e44⟩ : ∃ x : Value, a.tmps[44]?.getD undef = x := ⟨_, rfl⟩
          obtain ⟨x48, e48⟩ : ∃ x : Value, a.tmps[48]?.getD undef = x := ⟨_, rfl⟩
          have HJ := Lib.hid hJ
          clear hJ hs hd
          have SS := JR.s2 HJ.out (hB 8 (by kernel_rfl)) (hB 10 (by kernel_rfl)) (hB 14 (by kernel_rfl)) hD
          refine wp_appR LBx_info (.tmp 44) (.tmp 48) rfl SS (by simp [Act.eval, sl]) [⟨X0, X1, X2, X3⟩] _ (by simp [Act.eval, sl]) (St.own SS.tail) (hl1) ?_
          intro v' w' S'
          exact hK.out _ _ trivial (JR.t2 S' (hB 8 (by kernel_rfl)) (hB 10 (by kernel_rfl))) (fun _ _ h => h)
        refine step_guard3 5 39 true rfl (by kernel_rfl) (fun a w hs => hs.get 5 39 (by kernel_rfl) (by kernel_rfl)) (fun D a w hD hB hL hJ hd hs K hK => ?_) ?_
        · have e40 : a.tmps[40]?.getD undef = .int .i64 P := hs.get 6 40 (by kernel_rfl) (by kernel_rfl)
          have e41 : a.tmps[41]?.getD undef = .int .i64 Q := hs.get 7 41 (by kernel_rfl) (by kernel_rfl)
          obtain ⟨x49, e49⟩ : ∃ x : Value, a.tmps[49]?.getD undef = x := ⟨_, rfl⟩
          have h15 := hB 15 (by kernel_rfl)
          have RR := JR.rds hJ h15 (hB 10 (by kernel_rfl)) (hB 8 (by kernel_rfl))
          rw [show sl a 49 = x49 from e49] at RR
          have HJ := Lib.hid hJ
          clear hJ hB hL hD hd hs
          go_simp
          refine (C2.out _ _ RR).mono ?_
          rintro e w2 ⟨rfl, g2⟩
          exact hK.out _ _ rfl (HJ.out.grow g2) (fun _ _ h => h)
        refine step_guard3 5 39 true rfl (by kernel_rfl) (fun a w hs => hs.get 5 39 (by kernel_rfl) (by kernel_rfl)) (fun D a w hD hB hL hJ hd hs K hK => ?_) ?_
        · have e50 : a.tmps[50]?.getD undef = .bool false := hs.get 16 50 (by kernel_rfl) (by kernel_rfl)
          clear hB hL hD hd hs
          have HJ := Lib.hid hJ
          clear hJ
          go_simp
          exact hK.out _ _ rfl HJ.out (fun _ _ h => h)
        refine step_plain3 rfl (fun D a w hD hB hL hJ hd hs K hK => ?_) ?_
        · have e39 : a.tmps[39]?.getD undef = .bool true := hs.get 5 39 (by kernel_rfl) (by kernel_rfl)
          have e51 : a.tmps[51]?.getD undef = .bool true := hs.get 17 51 (by kernel_rfl) (by kernel_rfl)
          clear hB hL hD hd hs
          have HJ := Lib.hid hJ
          clear hJ
          go_simp
          exact hK.out _ _ rfl HJ.out (fun _ _ h => h)
        refine step_plain3 rfl (fun D a w hD hB hL hJ hd hs K hK => ?_) ?_
        · have e52 : a.tmps[52]?.getD undef = .bool true := hs.get 18 52 (by kernel_rfl) (by kernel_rfl)
          clear hB hL hD hd hs
          have HJ := Lib.hid hJ
          clear hJ
          go_simp
          exact hK.out _ _ rfl HJ.out (fun _ _ h => h)
        refine step_guard3 19 53 true rfl (by kernel_rfl) (fun a w hs => hs.get 19 53 (by kernel_rfl) (by kernel_rfl)) (fun D a w hD hB hL hJ hd hs K hK => ?_) ?_
        · have e3 : a.tmps[3]?.getD undef = .int .i64 P := hs.at 3 (by kernel_rfl)
          clear hB hL hD hd hs
          have HJ := Lib.hid hJ
          clear hJ
          go_simp
          exact hK.out _ _ rfl HJ.out (fun _ _ h => h)
        refine step_guard3 19 53 true rfl (by kernel_rfl) (fun a w hs => hs.get 19 53 (by kernel_rfl) (by kernel_rfl)) (fun D a w hD hB hL hJ hd hs K hK => ?_) ?_
        · have e54 : a.tmps[54]?.getD undef = .int .i64 P := hs.get 20 54 (by kernel_rfl) (by kernel_rfl)
          clear hB hL hD hd hs
          have HJ := Lib.hid hJ
          clear hJ
          go_simp
          exact hK.out _ _ rfl HJ.out (fun _ _ h => h)
        refine step_guard3 19 53 true rfl (by kernel_rfl) (fun a w hs => hs.get 19 53 (by kernel_rfl) (by kernel_rfl)) (fun D a w hD hB hL hJ hd hs K hK => ?_) ?_
        · have e55 : a.tmps[55]?.getD undef = .bool false := hs.get 21 55 (by kernel_rfl) (by kernel_rfl)
          clear hB hL hD hd hs
          have HJ := Lib.hid hJ
          clear hJ
          go_simp
          exact hK.out _ _ rfl HJ.out (fun _ _ h => h)
        refine step_guard3 22 56 false rfl (by kernel_rfl) (fun a w hs => hs.get 22 56 (by kernel_rfl) (by kernel_rfl)) (fun D a w hD hB hL hJ hd hs K hK => ?_) ?_
        · have e3 : a.tmps[3]?.getD undef = .int .i64 P := hs.at 3 (by kernel_rfl)
          clear hB hL hD hd hs
          have HJ := Lib.hid hJ
          clear hJ
          go_simp
          exact hK.out _ _ rfl HJ.out (fun _ _ h => h)
        refine step_guard3 22 56 false rfl (by kernel_rfl) (fun a w hs => hs.get 22 56 (by kernel_rfl) (by kernel_rfl)) (fun D a w hD hB hL hJ hd hs K hK => ?_) ?_
        · have e57 : a.tmps[57]?.getD undef = .int .i64 P := hs.get 23 57 (by kernel_rfl) (by kernel_rfl)
          clear hB hL hD hd hs
          have HJ := Lib.hid hJ
          clear hJ
          go_simp
          exact hK.out _ _ rfl HJ.out (fun _ _ h => h)
        refine step_guard3 22 56 false rfl (by kernel_rfl) (fun a w hs => hs.get 22 56 (by kernel_rfl) (by kernel_rfl)) (fun D a w hD hB hL hJ hd hs K hK => ?_) ?_
        · have e4 : a.tmps[4]?.getD undef = .int .i64 Q := hs.at 4 (by kernel_rfl)
          clear hB hL hD hd hs
          have HJ := Lib.hid hJ
          clear hJ
          go_simp
          exact hK.out _ _ rfl HJ.out (fun _ _ h => h)
        refine step_guard3 22 56 false rfl (by kernel_rfl) (fun a w hs => hs.get 22 56 (by kernel_rfl) (by kernel_rfl)) (fun D a w hD hB hL hJ hd hs K hK => ?_) ?_
        · have e5 : a.tmps[5]?.getD undef = .slice (some ⟨g, 0, none⟩) n vc := hs.at 5 (by kernel_rfl)
          clear hB hL hD hd hs
          have HJ := Lib.hid hJ
          clear hJ
          go_simp
          exact hK.out _ _ rfl HJ.out (fun _ _ h => h)
        refine step_guard3 22 56 false rfl (by kernel_rfl) (fun a w hs => hs.get 22 56 (by kernel_rfl) (by kernel_rfl)) (fun D a w hD hB hL hJ hd hs K hK => ?_) ?_
        · have e58 : a.tmps[58]?.getD undef = .int .i64 (P + 1) := hs.get 24 58 (by kernel_rfl) (by kernel_rfl)
          have e59 : a.tmps[59]?.getD undef = .int .i64 Q := hs.get 25 59 (by kernel_rfl) (by kernel_rfl)
          have e60 : a.tmps[60]?.getD undef = .slice (some ⟨g, 0, none⟩) n vc := hs.get 26 60 (by kernel_rfl) (by kernel_rfl)
          have HJ := Lib.hid hJ
          clear hJ hB hL hD hd hs
          go_simp
          refine (C3.out _ HJ.out.gb).mono ?_
          rintro e w2 ⟨rfl, g2⟩
          exact hK.out _ _ rfl (HJ.out.grow g2) (fun _ _ h => h)
        refine step_guard3 19 53 true rfl (by kernel_rfl) (fun a w hs => hs.get 19 53 (by kernel_rfl) (by kernel_rfl)) (fun D a w hD hB hL hJ hd hs K hK => ?_) ?_
        · have e56 : a.tmps[56]?.getD undef = .bool false := hs.get 22 56 (by kernel_rfl) (by kernel_rfl)
          have e61 : a.tmps[61]?.getD undef = .bool true := hs.get 27 61 (by kernel_rfl) (by kernel_rfl)
          clear hB hL hD hd hs
          have HJ := Lib.hid hJ
          clear hJ
          go_simp
          exact hK.out _ _ rfl HJ.out (fun _ _ h => h)
        refine step_plain3 rfl (fun D a w hD hB hL hJ hd hs K hK => ?_) ?_
        · have e53 : a.tmps[53]?.getD undef = .bool true := hs.get 19 53 (by kernel_rfl) (by kernel_rfl)
          have e62 : a.tmps[62]?.getD undef = .bool true := hs.get 28 62 (by kernel_rfl) (by kernel_rfl)
          clear hB hL hD hd hs
          have HJ := Lib.hid hJ
          clear hJ
          go_simp
          exact hK.out _ _ rfl HJ.out (fun _ _ h => h)
        refine step_plain3 rfl (fun D a w hD hB hL hJ hd hs K hK => ?_) ?_
        · have e63 : a.tmps[63]?.getD undef = .bool true := hs.get 29 63 (by kernel_rfl) (by kernel_rfl)
          clear hB hL hD hd hs
          have HJ := Lib.hid hJ
          clear hJ
          go_simp
          exact hK.out _ _ rfl HJ.out (fun _ _ h => h)
        exact step_nil3
      · intro vs D w' hD hJ hA
        have f2 : vs 30 = .bool true := hA 30 (by decide)
        have G := gb_trans GB.out (JR.gb hJ)
        clear hJ hA hD
        simp only [putAll, Act.put, List.setIfInBounds_toArray, List.set_cons_zero, List.set_cons_succ, f2]
        go_wp2
        go_ret
        exact ⟨rfl, gb_below G⟩
end Go.Proofs.Ytbpfihklbmephaa
namespace Go.Proofs.Ytbpfihklbmephaa.fnLayerValidDone
open Go Go.ChangeShapes Go.WideShapes Go.ChangeAt Go.RowKit Go.Proofs.Ytbpfihklbmephaa
set_option linter.unusedVariables false
theorem own : ownKnob Try.prog.godebug = none := by kernel_rfl
theorem laidOut : laidOutB Try.prog = true := by kernel_rfl
set_option maxRecDepth 100000 in
theorem lifted (os : Os) (started : os.Started) (H : Type) (enc : TypeId × Value → H) :
    ReturnsInHanded {} Try.checked os 9 .any (Rows.fnLayerValidSpec.pre6 enc Try.prog Try.f9 Rows.fnLayerValidRow.domain false) (Rows.fnLayerValidSpec.post enc Try.prog Try.f9 false true false false) := by
  refine returnsInHanded_of_change (C := Try.checked) own started (by kernel_rfl) Try.func9
    (ChangeSpec.witness6 (enc := enc) (C := Try.checked) false ⟨#[], #[.slice none 0 0], []⟩ 8 (by kernel_rfl) (by kernel_rfl) (by kernel_rfl) (by kernel_rfl)) ?_
  intro W base args ds gs before hval0 hW hcnd _
  have hval : ∀ (j : Nat) t v, Try.f9.params[j]? = some t → args[j]? = some v → Value.okWide Try.prog W .any base t v := hval0
  have hW' := hW
  obtain ⟨p, q, hA0, hV, rfl, hfz, hnd⟩ := hW
  have hA : DataW.TrodAll enc Try.prog W 0 (fun _ => true) true Try.f9.params.toList args.toList ds p := hA0
  rw [Try.params9] at hA hval
  obtain ⟨v0, vs0, d0, ds0, p0, q0, hargs, rfl, rfl, h0, r0⟩ := trodAll_cons hA
  obtain ⟨rfl, rfl, rfl⟩ := trodAll_nil r0
  obtain rfl : args = #[v0] := by cases args; simp_all
  obtain ⟨rfl, rfl⟩ := trodVars_none hV
  obtain ⟨a0, len0, cap0, rfl⟩ := okWide_slice Try.underlying28 (hval 0 28 v0 rfl rfl)
  have k0 := h0
  have lt0 : ∀ x ∈ p0, x.block < W.heap.size := by obtain ⟨m, hm⟩ := k0; exact DataW.trod_lt m _ _ _ hm
  have w0 : Byts W a0 len0 cap0 := by
    obtain ⟨fuel, hf⟩ := h0
    rcases open_ints Try.underlying28 Try.underlying5 (by kernel_rfl) hf with ⟨hcs, _⟩ | ⟨x, l, c, zs, hcs, _, hl, hm, hz, _, hcell, hwz⟩
    · simp [Value.cells] at hcs
      obtain ⟨rfl, rfl, rfl⟩ := hcs
      exact byts_nil W
    · simp [Value.cells] at hcs
      obtain ⟨rfl, rfl, rfl⟩ := hcs
      exact byts_of hl hm (by simpa using hz) hcell hwz
  clear hA0 hval0
  refine (law_FnLayerValid a0 len0 cap0 W w0).mono fun e W' ⟨he, bel⟩ => ?_
  subst he
  exact ⟨_, rfl, _, _, _, [], _, [], hW', trodAll_mk1 (shut_bool Try.underlying4 _), (trodAll_cons_mk (Below.trod laidOut (by kernel_rfl) (of_decide_eq_true (by kernel_rfl)) k0 bel lt0) trodAll_mk0), rfl, bel.frame _, fun h => by cases h⟩
theorem over : Rows.fnLayerValidRow.holds Try.pinned (OpenSpec.ofChange Rows.fnLayerValidSpec) :=
  OpenClaim.holds_of_wide 9 Try.f9 rfl rfl rfl rfl rfl rfl rfl ⟨rfl, rfl, rfl, rfl, rfl⟩ rfl rfl rfl rfl rfl (by kernel_rfl) Try.func9 (by kernel_rfl)
    (of_decide_eq_true (by kernel_rfl)) (by unfold Func.isWrapper; first | (rw [if_pos (by decide +kernel)]; kernel_rfl) | (rw [if_neg (by decide +kernel)]; exact ⟨rfl, rfl⟩))
    (fun os started H enc _ => lifted os started H enc)
theorem proved : Rows.FnLayerValidSaid := over
#print axioms proved
end Go.Proofs.Ytbpfihklbmephaa.fnLayerValidDone
