/-
  FnProgramValid: for every code the law on valid programs returns true; nothing that was there is written. No condition.
-/
import Derived.Test.YtbhelobahfgaeaaCmdDraw
import Derived.Test.YtbhelobahfgaeaaCmdLaw
import Derived.Test.YtbhelobahfgaeaaDrawn3
import Derived.Test.YtbhelobahfgaeaaRows
import Derived.ProofKit
import Derived.OpenShut
import Derived.ShutString
import Derived.ChangeOld
namespace Go.Proofs.Ytbhelobahfgaeaa
open Go Go.RowKit
set_option linter.unusedVariables false
def asr (b : Bool) (A : Asr) : List Asr := if b then [A] else []
theorem asr_t (A : Asr) : asr true A = [A] := rfl
theorem asr_f (A : Asr) : asr false A = [] := rfl
/-- A literal, a list appended to it, a literal of one, that appended too: which of these are done. -/
def JR (wS : World) (l0 xs : List Cmd) (d0 d1 d2 d3 : Bool) (v0 v1 v2 v3 : Value) (w : World) : Prop :=
  St wS w (asr (d0 && !d1) (Own LCmd v0 l0) ++ (asr (d1 && !d3) (Own LCmd v1 (l0 ++ xs)) ++ (asr (d2 && !d3) (Own LCmd v2 [⟨6, 0, 0⟩]) ++ asr d3 (Own LCmd v3 ((l0 ++ xs) ++ [⟨6, 0, 0⟩])))))
section
variable {wS w w' : World} {l0 xs : List Cmd} {d0 d1 d2 d3 : Bool} {v0 v1 v2 v3 : Value}
theorem JR.gb (h : JR wS l0 xs d0 d1 d2 d3 v0 v1 v2 v3 w) : wS.grownBy w none := St.gb h
theorem JR.grow (h : JR wS l0 xs d0 d1 d2 d3 v0 v1 v2 v3 w) (g : w.grownBy w' none) : JR wS l0 xs d0 d1 d2 d3 v0 v1 v2 v3 w' := St.grow h g
theorem JR.start (wS : World) (l0 xs : List Cmd) (v0 v1 v2 v3 : Value) (w : World) (h : St wS w []) : JR wS l0 xs false false false false v0 v1 v2 v3 w := h
theorem JR.lit0 (h : JR wS l0 xs d0 d1 d2 d3 v0 v1 v2 v3 w) (h0 : d0 = false) (h1 : d1 = false) (cells : Array Value) (hc : cells.toList = LCmd.flat l0) (hn : l0.length ≤ maxLen) :
    JR wS l0 xs true d1 d2 d3 (.slice (some ⟨w.heap.size, 0, none⟩) l0.length l0.length) v1 v2 v3 (w.alloc (.cells cells LCmd.T)) := by
  subst h0
  subst h1
  exact St.ownLit LCmd h l0 cells hc hn
theorem JR.lit1 (h : JR wS l0 xs d0 d1 d2 d3 v0 v1 v2 v3 w) (h2 : d2 = false) (h3 : d3 = false) :
    JR wS l0 xs d0 d1 true d3 v0 v1 (.slice (some ⟨w.heap.size, 0, none⟩) 1 1) v3 (w.alloc (.cells #[.int .i64 6, .int .i64 0, .int .i64 0] LCmd.T)) := by
  subst h2
  subst h3
  have S := St.ownLit LCmd h [(⟨6, 0, 0⟩ : Cmd)] #[.int .i64 6, .int .i64 0, .int .i64 0] rfl (show 1 ≤ maxLen by decide)
  refine St.perm S ?_
  simp only [asr_f, List.append_nil, Bool.and_false, Bool.false_and, Bool.not_false, Bool.and_true, Bool.true_and, asr_t, List.nil_append]
  rw [← List.append_assoc]
  exact List.perm_append_comm (l₁ := [_])
theorem JR.s1 (h : JR wS l0 xs d0 d1 d2 d3 v0 v1 v2 v3 w) (h0 : d0 = true) (h1 : d1 = false) (h3 : d3 = false) : St wS w (Own LCmd v0 l0 :: asr d2 (Own LCmd v2 [⟨6, 0, 0⟩])) := by
  subst h0
  subst h1
  subst h3
  unfold JR at h
  simpa [asr_f, asr_t] using h
theorem JR.t1 (h : St wS w (Own LCmd v1 (l0 ++ xs) :: asr d2 (Own LCmd v2 [⟨6, 0, 0⟩]))) (h0 : d0 = true) (h3 : d3 = false) : JR wS l0 xs d0 true d2 d3 v0 v1 v2 v3 w := by
  subst h0
  subst h3
  unfold JR
  simpa [asr_f, asr_t] using h
theorem JR.s2 (h : JR wS l0 xs d0 d1 d2 d3 v0 v1 v2 v3 w) (h0 : d0 = true) (h1 : d1 = true) (h2 : d2 = true) (h3 : d3 = false) : St wS w [Own LCmd v1 (l0 ++ xs), Own LCmd v2 [⟨6, 0, 0⟩]] := by
  subst h0
  subst h1
  subst h2
  subst h3
  exact h
theorem JR.t2 (h : St wS w [Own LCmd v3 ((l0 ++ xs) ++ [⟨6, 0, 0⟩]), Own LCmd v2 [⟨6, 0, 0⟩]]) (h0 : d0 = true) (h1 : d1 = true) : JR wS l0 xs d0 d1 d2 true v0 v1 v2 v3 w := by
  subst h0
  subst h1
  unfold JR
  have := St.drop1 (Ms := [_]) h
  simpa [asr_f, asr_t] using this
theorem JR.fin (h : JR wS l0 xs d0 d1 d2 d3 v0 v1 v2 v3 w) (h3 : d3 = true) (h1 : d1 = true) (h0 : d0 = true) : St wS w [Own LCmd v3 ((l0 ++ xs) ++ [⟨6, 0, 0⟩])] := by
  subst h0
  subst h1
  subst h3
  unfold JR at h
  simpa [asr_f, asr_t] using h
theorem JR.rds (h : JR wS l0 xs d0 d1 d2 d3 v0 v1 v2 v3 w) (h3 : d3 = true) (h1 : d1 = true) (h0 : d0 = true) : Rds LCmd w v3 ((l0 ++ xs) ++ [⟨6, 0, 0⟩]) := St.own (JR.fin h h3 h1 h0)
end
set_option maxRecDepth 100000 in
set_option maxHeartbeats 400000 in
theorem law_FnProgramValid (a : Option Addr) (len cap : Nat) (w : World) (hw : Byts w a len cap) :
    Calls Try.prog 4 #[.slice a len cap] w fun e w' => e = .returned (.bool true) ∧ Below w.heap.size w w' := by
  have HB := Lib.hid hw; have hm : len ≤ 9223372036854775807 := (by have := hw.1; have := hw.2.1; unfold maxLen at this; omega); clear hw; by_cases hl : 1048576 < len; (go_enter Try.func4, Try.ntmps4; go_wp2_with fail; go_ret; exact ⟨rfl, Below.refl _ _⟩)
  go_enter Try.func4, Try.ntmps4
  go_wp2_with fail
  refine (DrawProgramValid_any _ _ _ _ HB.out).mono ?_
  rintro e w1 ⟨v, xs, rfl, hxl, S⟩
  obtain ⟨va, n, vc, rfl, hvc, hvm, HN, -⟩ := LCmd_own S
  cases hB : progB xs with
  | false =>
    go_wp2_with fail
    have IH := i_ProgramValid _ xs _ (St.own S)
    rw [hB] at IH
    refine IH.mono ?_
    rintro e w2 ⟨rfl, T⟩
    replace S := S.grow T
    clear T IH
    go_wp2_with fail
    have IH := s_ProgramValid _ xs _ (St.own S)
    rw [hB] at IH
    refine IH.mono ?_
    rintro e w3 ⟨rfl, T⟩
    replace S := S.grow T
    clear T IH hB
    go_wp2_with (go_at_call 14; refine (alive_any _).mono ?_; rintro e w' ⟨rfl, rfl⟩)
    go_ret
    exact ⟨rfl, S.below⟩
  | true =>
    go_wp2_with fail
    have IH := i_ProgramValid _ xs _ (St.own S)
    rw [hB] at IH
    refine IH.mono ?_
    rintro e w2 ⟨rfl, T⟩
    replace S := S.grow T
    clear T IH
    go_wp2_with fail
    have IH := s_ProgramValid _ xs _ (St.own S)
    rw [hB] at IH
    refine IH.mono ?_
    rintro e w3 ⟨rfl, T⟩
    replace S := S.grow T
    clear T IH
    have PLOOP := Lib.hid (loop_prog hB)
    have PEND := Lib.hid (end_prog hB)
    have PTW := Lib.hid (twice_prog hB)
    have HXL := Lib.hid hxl
    have n16 : n ≤ 16 := by rw [HN.out]; exact hxl
    obtain ⟨E, hE⟩ : ∃ E, E = w3.heap.size := ⟨_, rfl⟩
    obtain ⟨wS, hwS⟩ : ∃ wS, wS = w3.alloc (.cells #[.int .i64 6, .int .i64 0, .int .i64 0] 33) := ⟨_, rfl⟩
    have c0 : wS.cell? ⟨E, 0, none⟩ = some (.int .i64 6) := by rw [hwS, hE]; simp [go_sem]
    have c1 : wS.cell? ⟨E, 1, none⟩ = some (.int .i64 0) := by rw [hwS, hE]; simp [go_sem]
    have c2 : wS.cell? ⟨E, 2, none⟩ = some (.int .i64 0) := by rw [hwS, hE]; simp [go_sem]
    have SW : St w wS [Own LCmd (.slice va n vc) xs] := by rw [hwS]; exact S.grow (gb_alloc (World.grownBy.refl w3 none) (.cells #[.int .i64 6, .int .i64 0, .int .i64 0] 33))
    have GW := Lib.hid SW.gb
    have RX := Lib.hid (St.own SW)
    clear S SW hB hxl
    go_wp2_with fail
    rw [← hwS, ← hE]
    clear hwS hE
    have hll : ([(⟨5, 2, 0⟩ : Cmd)]).length + xs.length ≤ 1099511627776 := by have := HXL.out; simp; omega
    have hnl : ([(⟨5, 2, 0⟩ : Cmd)] ++ xs).length + ([(⟨6, 0, 0⟩ : Cmd)]).length ≤ 1099511627776 := by have := HXL.out; simp; omega
    refine wp_drawn_put3 (shp [some ((.agg #[.int .i64 5, .int .i64 2, .int .i64 0])), none, some (.slice va n vc), none, some ((.agg #[.int .i64 6, .int .i64 0, .int .i64 0])), none, none, none]) (fun D S w' => JR wS [⟨5, 2, 0⟩] xs (D 1) (D 3) (D 5) (D 6) (S 24) (S 26) (S 28) (S 29) w' ∧ (D 7 = true → S 6 = S 29)) (by kernel_rfl) (by kernel_rfl) (⟨JR.start wS _ xs _ _ _ _ _ (St.refl wS).drew, fun h => by cases h⟩) ?_ ?_
    · refine step_plain3 rfl (fun D a w hD hB hL hJ hd hs K hK => ?_) ?_
      · clear hB hL hD hd hs
        have HJ := Lib.hid hJ
        clear hJ
        go_simp
        exact hK.out _ _ rfl HJ.out (fun _ _ h => h)
      refine step_plain3 rfl (fun D a w hD hB hL hJ hd hs K hK => ?_) ?_
      · have e23 : a.tmps[23]?.getD undef = (.agg #[.int .i64 5, .int .i64 2, .int .i64 0]) := hs.get 0 23 (by kernel_rfl) (by kernel_rfl)
        have h7 := hL 7 (by kernel_rfl)
        have h3 := hL 3 (by kernel_rfl)
        have HJ := Lib.hid hJ
        clear hJ hs hd
        go_simp
        exact hK.out _ _ trivial ⟨JR.lit0 HJ.out.1 hD h3 #[.int .i64 5, .int .i64 2, .int .i64 0] rfl (show 1 ≤ maxLen by decide), fun h => absurd h (by show ¬ D 7 = true; rw [hL 7 (by kernel_rfl)]; simp)⟩ (fun _ _ h => h)
      refine step_plain3 rfl (fun D a w hD hB hL hJ hd hs K hK => ?_) ?_
      · have e3 : a.tmps[3]?.getD undef = .slice va n vc := hs.at 3 (by kernel_rfl)
        clear hB hL hD hd hs
        have HJ := Lib.hid hJ
        clear hJ
        go_simp
        exact hK.out _ _ rfl HJ.out (fun _ _ h => h)
      refine step_plain3 rfl (fun D a w hD hB hL hJ hd hs K hK => ?_) ?_
      · obtain ⟨x24, e24⟩ : ∃ x : Value, a.tmps[24]?.getD undef = x := ⟨_, rfl⟩
        have e25 : a.tmps[25]?.getD undef = .slice va n vc := hs.get 2 25 (by kernel_rfl) (by kernel_rfl)
        have HJ := Lib.hid hJ
        clear hJ hs hd
        have SS := JR.s1 HJ.out.1 (hB 1 (by kernel_rfl)) hD (hL 6 (by kernel_rfl))
        refine wp_appR LCmd_info (.tmp 24) (.tmp 25) rfl SS (by simp [Act.eval, sl]) xs _ (by simp [Act.eval, e25]) (RX.out.kept SS.gb) (hll) ?_
        intro v' w' S'
        exact hK.out _ _ trivial (⟨JR.t1 S' (hB 1 (by kernel_rfl)) (hL 6 (by kernel_rfl)), fun h => absurd h (by show ¬ D 7 = true; rw [hL 7 (by kernel_rfl)]; simp)⟩) (fun _ _ h => h)
      refine step_plain3 rfl (fun D a w hD hB hL hJ hd hs K hK => ?_) ?_
      · have e5 : a.tmps[5]?.getD undef = .pointer (some ⟨E, 0, none⟩) := hs.at 5 (by kernel_rfl)
        have z0 := gb_cell hJ.1.gb c0 (by simp)
        have z1 := gb_cell hJ.1.gb c1 (by simp)
        have z2 := gb_cell hJ.1.gb c2 (by simp)
        have HJ := Lib.hid hJ
        clear hJ hB hL hD hd hs
        go_simp
        exact hK.out _ _ rfl HJ.out (fun _ _ h => h)
      refine step_plain3 rfl (fun D a w hD hB hL hJ hd hs K hK => ?_) ?_
      · have e27 : a.tmps[27]?.getD undef = (.agg #[.int .i64 6, .int .i64 0, .int .i64 0]) := hs.get 4 27 (by kernel_rfl) (by kernel_rfl)
        have h7 := hL 7 (by kernel_rfl)
        have h6 := hL 6 (by kernel_rfl)
        have HJ := Lib.hid hJ
        clear hJ hs hd
        go_simp
        exact hK.out _ _ trivial ⟨JR.lit1 HJ.out.1 hD h6, fun h => absurd h (by show ¬ D 7 = true; rw [hL 7 (by kernel_rfl)]; simp)⟩ (fun _ _ h => h)
      refine step_plain3 rfl (fun D a w hD hB hL hJ hd hs K hK => ?_) ?_
      · obtain ⟨x26, e26⟩ : ∃ x : Value, a.tmps[26]?.getD undef = x := ⟨_, rfl⟩
        obtain ⟨x28, e28⟩ : ∃ x : Value, a.tmps[28]?.getD undef = x := ⟨_, rfl⟩
        have HJ := Lib.hid hJ
        clear hJ hs hd
        have SS := JR.s2 HJ.out.1 (hB 1 (by kernel_rfl)) (hB 3 (by kernel_rfl)) (hB 5 (by kernel_rfl)) hD
        refine wp_appR LCmd_info (.tmp 26) (.tmp 28) rfl SS (by simp [Act.eval, sl]) [⟨6, 0, 0⟩] _ (by simp [Act.eval, sl]) (St.own SS.tail) (hnl) ?_
        intro v' w' S'
        exact hK.out _ _ trivial (⟨JR.t2 S' (hB 1 (by kernel_rfl)) (hB 3 (by kernel_rfl)), fun h => absurd h (by show ¬ D 7 = true; rw [hL 7 (by kernel_rfl)]; simp)⟩) (fun _ _ h => h)
      refine step_plain3 rfl (fun D a w hD hB hL hJ hd hs K hK => ?_) ?_
      · obtain ⟨x29, e29⟩ : ∃ x : Value, a.tmps[29]?.getD undef = x := ⟨_, rfl⟩
        have h6 := hB 6 (by kernel_rfl)
        have HJ := Lib.hid hJ
        clear hJ hs hd
        go_simp
        exact hK.out _ _ trivial ⟨HJ.out.1, fun _ => e29.symm⟩ (fun _ _ h => h)
      exact step_nil3
    · intro vs D w' hD hJ hA
      obtain ⟨hJ1, hJ2⟩ := hJ
      have S6 := JR.fin hJ1 (hD 6 (by decide)) (hD 3 (by decide)) (hD 1 (by decide))
      have e76 := hJ2 (hD 7 (by decide))
      rw [sl_put vs (by kernel_rfl) 7 6 (by kernel_rfl), sl_put vs (by kernel_rfl) 6 29 (by kernel_rfl)] at e76
      rw [sl_put vs (by kernel_rfl) 6 29 (by kernel_rfl)] at S6
      clear hJ1 hJ2 hA hD
      change St wS w' [Own LCmd (vs 6) (loopC xs)] at S6
      simp only [putAll, Act.put, List.setIfInBounds_toArray, List.set_cons_zero, List.set_cons_succ]
      rw [e76]
      generalize vs 6 = V6 at S6 ⊢
      clear e76
      obtain ⟨la, ln, lc, rfl, -, -, HLN, -⟩ := LCmd_own S6
      have S7 := S6.ownEmpty LCmd
      have R7 := RX.out.kept S7.gb
      have hl0 : ([] : List Cmd).length + xs.length ≤ 1099511627776 := by have := HXL.out; simp; omega
      have hl2 : xs.length + xs.length ≤ 1099511627776 := by have := HXL.out; omega
      have hn0 : ([] ++ xs).length + ([(⟨6, 0, 0⟩ : Cmd)]).length ≤ 1099511627776 := by have := HXL.out; simp; omega
      go_wp2_with (first
        | (at_builtin; refine wpList_appR LCmd_info rfl _ _ rfl S7 xs _ R7 rfl rfl hl0 ?_; intro v8 w8 S8; rw [List.nil_append] at S8; clear S7 R7; have R8 := RX.out.kept S8.gb)
        | (at_builtin; refine wpList_appR LCmd_info rfl _ _ rfl S8 xs _ R8 rfl rfl hl2 ?_; intro v9 wT S9; clear S8 R8))
      obtain ⟨ta, tn, tc, rfl, -, -, HTN, -⟩ := LCmd_own S9
      have PV1 : RowKit.Hid (∀ W, wT.grownBy W none → Calls Try.prog 11 #[.slice la ln lc] W fun e w' => e = .returned (.bool true) ∧ W.grownBy w' none) := by
        intro W hg
        have := i_ProgramValid _ _ W ((St.own S9.tail).kept hg)
        rwa [PLOOP.out, decide_eq_true (by have := HXL.out; simp [loopC]; omega)] at this
      have PVE : RowKit.Hid (∀ v W, Rds LCmd W v (([] ++ xs) ++ [⟨6, 0, 0⟩]) → Calls Try.prog 11 #[v] W fun e w' => e = .returned (.bool false) ∧ W.grownBy w' none) := by
        intro v W hr
        rw [List.nil_append] at hr
        have := i_ProgramValid _ _ W hr
        rwa [PEND.out] at this
      obtain ⟨B2, hB2⟩ : ∃ B2, B2 = decide ((tn : Int) ≤ 30) := ⟨_, rfl⟩
      have PV2 : RowKit.Hid (∀ W, wT.grownBy W none → Calls Try.prog 11 #[.slice ta tn tc] W fun e w' => e = .returned (.bool B2) ∧ W.grownBy w' none) := by
        intro W hg
        have := i_ProgramValid _ _ W ((St.own S9).kept hg)
        rwa [PTW.out, ← HTN.out, show decide (tn ≤ 30) = B2 by rw [hB2]; exact decide_eq_decide.2 (by omega)] at this
      have hB2' := hB2.symm
      have hln30 : (ln : Int) ≤ 30 := by have := HLN.out; have := HXL.out; simp [loopC] at *; omega
      have GT := Lib.hid (gb_trans GW.out S9.gb)
      have c0 := gb_cell S9.gb c0 (by simp)
      have c1 := gb_cell S9.gb c1 (by simp)
      have c2 := gb_cell S9.gb c2 (by simp)
      have RX := Lib.hid (RX.out.kept S9.gb)
      clear S9 hB2 PLOOP PEND PTW HLN HTN S6 hvc hvm
      refine wp_drawn_put3 (shp [some (.slice la ln lc), some (.bool true), some (.slice la ln lc), some (.int .i64 (ln : Int)), some (.bool true), some (.bool true), some (.bool true), none, some (.slice va n vc), none, some ((.agg #[.int .i64 6, .int .i64 0, .int .i64 0])), none, none, some (.bool false), some (.bool true), some (.bool true), some (.bool true), some (.slice ta tn tc), some (.bool B2), some (.slice ta tn tc), some (.int .i64 (tn : Int)), some (.bool B2), some (.bool true), some (.bool true), some (.bool true)]) (fun D S w' => JR wT [] xs (D 7) (D 9) (D 11) (D 12) (S 42) (S 44) (S 46) (S 47) w') (by kernel_rfl) (by kernel_rfl) (JR.start wT _ xs _ _ _ _ _ (St.refl wT).drew) ?_ ?_
      · refine step_plain3 rfl (fun D a w hD hB hL hJ hd hs K hK => ?_) ?_
        · have e6 : a.tmps[6]?.getD undef = .slice la ln lc := hs.at 6 (by kernel_rfl)
          clear hB hL hD hd hs
          have HJ := Lib.hid hJ
          clear hJ
          go_simp
          exact hK.out _ _ rfl HJ.out (fun _ _ h => h)
        refine step_plain3 rfl (fun D a w hD hB hL hJ hd hs K hK => ?_) ?_
        · have e35 : a.tmps[35]?.getD undef = .slice la ln lc := hs.get 0 35 (by kernel_rfl) (by kernel_rfl)
          have HJ := Lib.hid hJ
          clear hJ hB hL hD hd hs
          go_simp
          refine (PV1.out _ HJ.out.gb).mono ?_
          rintro e w2 ⟨rfl, g2⟩
          exact hK.out _ _ rfl (HJ.out.grow g2) (fun _ _ h => h)
        refine step_plain3 rfl (fun D a w hD hB hL hJ hd hs K hK => ?_) ?_
        · have e6 : a.tmps[6]?.getD undef = .slice la ln lc := hs.at 6 (by kernel_rfl)
          clear hB hL hD hd hs
          have HJ := Lib.hid hJ
          clear hJ
          go_simp
          exact hK.out _ _ rfl HJ.out (fun _ _ h => h)
        refine step_plain3 rfl (fun D a w hD hB hL hJ hd hs K hK => ?_) ?_
        · have e37 : a.tmps[37]?.getD undef = .slice la ln lc := hs.get 2 37 (by kernel_rfl) (by kernel_rfl)
          clear hB hL hD hd hs
          have HJ := Lib.hid hJ
          clear hJ
          go_simp
          exact hK.out _ _ rfl HJ.out (fun _ _ h => h)
        refine step_plain3 rfl (fun D a w hD hB hL hJ hd hs K hK => ?_) ?_
        · have e38 : a.tmps[38]?.getD undef = .int .i64 (ln : Int) := hs.get 3 38 (by kernel_rfl) (by kernel_rfl)
          clear hB hL hD hd hs
          have HJ := Lib.hid hJ
          clear hJ
          go_simp
          exact hK.out _ _ rfl HJ.out (fun _ _ h => h)
        refine step_plain3 rfl (fun D a w hD hB hL hJ hd hs K hK => ?_) ?_
        · have e36 : a.tmps[36]?.getD undef = .bool true := hs.get 1 36 (by kernel_rfl) (by kernel_rfl)
          have e39 : a.tmps[39]?.getD undef = .bool true := hs.get 4 39 (by kernel_rfl) (by kernel_rfl)
          clear hB hL hD hd hs
          have HJ := Lib.hid hJ
          clear hJ
          go_simp
          exact hK.out _ _ rfl HJ.out (fun _ _ h => h)
        refine step_plain3 rfl (fun D a w hD hB hL hJ hd hs K hK => ?_) ?_
        · have e40 : a.tmps[40]?.getD undef = .bool true := hs.get 5 40 (by kernel_rfl) (by kernel_rfl)
          clear hB hL hD hd hs
          have HJ := Lib.hid hJ
          clear hJ
          go_simp
          exact hK.out _ _ rfl HJ.out (fun _ _ h => h)
        refine step_guard3 6 41 true rfl (by kernel_rfl) (fun a w hs => hs.get 6 41 (by kernel_rfl) (by kernel_rfl)) (fun D a w hD hB hL hJ hd hs K hK => ?_) ?_
        · have h9 := hL 9 (by kernel_rfl)
          have HJ := Lib.hid hJ
          clear hJ hs hd
          go_simp
          exact hK.out _ _ trivial (JR.lit0 HJ.out hD h9 #[] rfl (show 0 ≤ maxLen by decide)) (fun _ _ h => h)
        refine step_guard3 6 41 true rfl (by kernel_rfl) (fun a w hs => hs.get 6 41 (by kernel_rfl) (by kernel_rfl)) (fun D a w hD hB hL hJ hd hs K hK => ?_) ?_
        · have e3 : a.tmps[3]?.getD undef = .slice va n vc := hs.at 3 (by kernel_rfl)
          clear hB hL hD hd hs
          have HJ := Lib.hid hJ
          clear hJ
          go_simp
          exact hK.out _ _ rfl HJ.out (fun _ _ h => h)
        refine step_guard3 6 41 true rfl (by kernel_rfl) (fun a w hs => hs.get 6 41 (by kernel_rfl) (by kernel_rfl)) (fun D a w hD hB hL hJ hd hs K hK => ?_) ?_
        · obtain ⟨x42, e42⟩ : ∃ x : Value, a.tmps[42]?.getD undef = x := ⟨_, rfl⟩
          have e43 : a.tmps[43]?.getD undef = .slice va n vc := hs.get 8 43 (by kernel_rfl) (by kernel_rfl)
          have HJ := Lib.hid hJ
          clear hJ hs hd
          have SS := JR.s1 HJ.out (hB 7 (by kernel_rfl)) hD (hL 12 (by kernel_rfl))
          refine wp_appR LCmd_info (.tmp 42) (.tmp 43) rfl SS (by simp [Act.eval, sl]) xs _ (by simp [Act.eval, e43]) (RX.out.kept SS.gb) (hl0) ?_
          intro v' w' S'
          exact hK.out _ _ trivial (JR.t1 S' (hB 7 (by kernel_rfl)) (hL 12 (by kernel_rfl))) (fun _ _ h => h)
        refine step_guard3 6 41 true rfl (by kernel_rfl) (fun a w hs => hs.get 6 41 (by kernel_rfl) (by kernel_rfl)) (fun D a w hD hB hL hJ hd hs K hK => ?_) ?_
        · have e5 : a.tmps[5]?.getD undef = .pointer (some ⟨E, 0, none⟩) := hs.at 5 (by kernel_rfl)
          have z0 := gb_cell hJ.gb c0 (by simp)
          have z1 := gb_cell hJ.gb c1 (by simp)
          have z2 := gb_cell hJ.gb c2 (by simp)
          have HJ := Lib.hid hJ
          clear hJ hB hL hD hd hs
          go_simp
          exact hK.out _ _ rfl HJ.out (fun _ _ h => h)
        refine step_guard3 6 41 true rfl (by kernel_rfl) (fun a w hs => hs.get 6 41 (by kernel_rfl) (by kernel_rfl)) (fun D a w hD hB hL hJ hd hs K hK => ?_) ?_
        · have e45 : a.tmps[45]?.getD undef = (.agg #[.int .i64 6, .int .i64 0, .int .i64 0]) := hs.get 10 45 (by kernel_rfl) (by kernel_rfl)
          have h12 := hL 12 (by kernel_rfl)
          have HJ := Lib.hid hJ
          clear hJ hs hd
          go_simp
          exact hK.out _ _ trivial (JR.lit1 HJ.out hD h12) (fun _ _ h => h)
        refine step_guard3 6 41 true rfl (by kernel_rfl) (fun a w hs => hs.get 6 41 (by kernel_rfl) (by kernel_rfl)) (fun D a w hD hB hL hJ hd hs K hK => ?_) ?_
        · obtain ⟨x44, e44⟩ : ∃ x : Value, a.tmps[44]?.getD undef = x := ⟨_, rfl⟩
          obtain ⟨x46, e46⟩ : ∃ x : Value, a.tmps[46]?.getD undef = x := ⟨_, rfl⟩
          have HJ := Lib.hid hJ
          clear hJ hs hd
          have SS := JR.s2 HJ.out (hB 7 (by kernel_rfl)) (hB 9 (by kernel_rfl)) (hB 11 (by kernel_rfl)) hD
          refine wp_appR LCmd_info (.tmp 44) (.tmp 46) rfl SS (by simp [Act.eval, sl]) [⟨6, 0, 0⟩] _ (by simp [Act.eval, sl]) (St.own SS.tail) (hn0) ?_
          intro v' w' S'
          exact hK.out _ _ trivial (JR.t2 S' (hB 7 (by kernel_rfl)) (hB 9 (by kernel_rfl))) (fun _ _ h => h)
        refine step_guard3 6 41 true rfl (by kernel_rfl) (fun a w hs => hs.get 6 41 (by kernel_rfl) (by kernel_rfl)) (fun D a w hD hB hL hJ hd hs K hK => ?_) ?_
        · obtain ⟨x47, e47⟩ : ∃ x : Value, a.tmps[47]?.getD undef = x := ⟨_, rfl⟩
          have h12 := hB 12 (by kernel_rfl)
          have RR := JR.rds hJ h12 (hB 9 (by kernel_rfl)) (hB 7 (by kernel_rfl))
          rw [show sl a 47 = x47 from e47] at RR
          have HJ := Lib.hid hJ
          clear hJ hB hL hD hd hs
          go_simp
          refine (PVE.out _ _ RR).mono ?_
          rintro e w2 ⟨rfl, g2⟩
          exact hK.out _ _ rfl (HJ.out.grow g2) (fun _ _ h => h)
        refine step_guard3 6 41 true rfl (by kernel_rfl) (fun a w hs => hs.get 6 41 (by kernel_rfl) (by kernel_rfl)) (fun D a w hD hB hL hJ hd hs K hK => ?_) ?_
        · have e48 : a.tmps[48]?.getD undef = .bool false := hs.get 13 48 (by kernel_rfl) (by kernel_rfl)
          clear hB hL hD hd hs
          have HJ := Lib.hid hJ
          clear hJ
          go_simp
          exact hK.out _ _ rfl HJ.out (fun _ _ h => h)
        refine step_plain3 rfl (fun D a w hD hB hL hJ hd hs K hK => ?_) ?_
        · have e41 : a.tmps[41]?.getD undef = .bool true := hs.get 6 41 (by kernel_rfl) (by kernel_rfl)
          have e49 : a.tmps[49]?.getD undef = .bool true := hs.get 14 49 (by kernel_rfl) (by kernel_rfl)
          clear hB hL hD hd hs
          have HJ := Lib.hid hJ
          clear hJ
          go_simp
          exact hK.out _ _ rfl HJ.out (fun _ _ h => h)
        refine step_plain3 rfl (fun D a w hD hB hL hJ hd hs K hK => ?_) ?_
        · have e50 : a.tmps[50]?.getD undef = .bool true := hs.get 15 50 (by kernel_rfl) (by kernel_rfl)
          clear hB hL hD hd hs
          have HJ := Lib.hid hJ
          clear hJ
          go_simp
          exact hK.out _ _ rfl HJ.out (fun _ _ h => h)
        refine step_guard3 16 51 true rfl (by kernel_rfl) (fun a w hs => hs.get 16 51 (by kernel_rfl) (by kernel_rfl)) (fun D a w hD hB hL hJ hd hs K hK => ?_) ?_
        · have e7 : a.tmps[7]?.getD undef = .slice ta tn tc := hs.at 7 (by kernel_rfl)
          clear hB hL hD hd hs
          have HJ := Lib.hid hJ
          clear hJ
          go_simp
          exact hK.out _ _ rfl HJ.out (fun _ _ h => h)
        refine step_guard3 16 51 true rfl (by kernel_rfl) (fun a w hs => hs.get 16 51 (by kernel_rfl) (by kernel_rfl)) (fun D a w hD hB hL hJ hd hs K hK => ?_) ?_
        · have e52 : a.tmps[52]?.getD undef = .slice ta tn tc := hs.get 17 52 (by kernel_rfl) (by kernel_rfl)
          have HJ := Lib.hid hJ
          clear hJ hB hL hD hd hs
          go_simp
          refine (PV2.out _ HJ.out.gb).mono ?_
          rintro e w2 ⟨rfl, g2⟩
          exact hK.out _ _ rfl (HJ.out.grow g2) (fun _ _ h => h)
        refine step_guard3 16 51 true rfl (by kernel_rfl) (fun a w hs => hs.get 16 51 (by kernel_rfl) (by kernel_rfl)) (fun D a w hD hB hL hJ hd hs K hK => ?_) ?_
        · have e7 : a.tmps[7]?.getD undef = .slice ta tn tc := hs.at 7 (by kernel_rfl)
          clear hB hL hD hd hs
          have HJ := Lib.hid hJ
          clear hJ
          go_simp
          exact hK.out _ _ rfl HJ.out (fun _ _ h => h)
        refine step_guard3 16 51 true rfl (by kernel_rfl) (fun a w hs => hs.get 16 51 (by kernel_rfl) (by kernel_rfl)) (fun D a w hD hB hL hJ hd hs K hK => ?_) ?_
        · have e54 : a.tmps[54]?.getD undef = .slice ta tn tc := hs.get 19 54 (by kernel_rfl) (by kernel_rfl)
          clear hB hL hD hd hs
          have HJ := Lib.hid hJ
          clear hJ
          go_simp
          exact hK.out _ _ rfl HJ.out (fun _ _ h => h)
        refine step_guard3 16 51 true rfl (by kernel_rfl) (fun a w hs => hs.get 16 51 (by kernel_rfl) (by kernel_rfl)) (fun D a w hD hB hL hJ hd hs K hK => ?_) ?_
        · have e55 : a.tmps[55]?.getD undef = .int .i64 (tn : Int) := hs.get 20 55 (by kernel_rfl) (by kernel_rfl)
          clear hB hL hD hd hs
          have HJ := Lib.hid hJ
          clear hJ
          go_simp
          exact hK.out _ _ rfl HJ.out (fun _ _ h => h)
        refine step_guard3 16 51 true rfl (by kernel_rfl) (fun a w hs => hs.get 16 51 (by kernel_rfl) (by kernel_rfl)) (fun D a w hD hB hL hJ hd hs K hK => ?_) ?_
        · have e53 : a.tmps[53]?.getD undef = .bool B2 := hs.get 18 53 (by kernel_rfl) (by kernel_rfl)
          have e56 : a.tmps[56]?.getD undef = .bool B2 := hs.get 21 56 (by kernel_rfl) (by kernel_rfl)
          clear hB hL hD hd hs
          have HJ := Lib.hid hJ
          clear hJ
          go_simp
          exact hK.out _ _ rfl HJ.out (fun _ _ h => h)
        refine step_plain3 rfl (fun D a w hD hB hL hJ hd hs K hK => ?_) ?_
        · have e51 : a.tmps[51]?.getD undef = .bool true := hs.get 16 51 (by kernel_rfl) (by kernel_rfl)
          have e57 : a.tmps[57]?.getD undef = .bool true := hs.get 22 57 (by kernel_rfl) (by kernel_rfl)
          clear hB hL hD hd hs
          have HJ := Lib.hid hJ
          clear hJ
          go_simp
          exact hK.out _ _ rfl HJ.out (fun _ _ h => h)
        refine step_plain3 rfl (fun D a w hD hB hL hJ hd hs K hK => ?_) ?_
        · have e58 : a.tmps[58]?.getD undef = .bool true := hs.get 23 58 (by kernel_rfl) (by kernel_rfl)
          clear hB hL hD hd hs
          have HJ := Lib.hid hJ
          clear hJ
          go_simp
          exact hK.out _ _ rfl HJ.out (fun _ _ h => h)
        exact step_nil3
      · intro vs D w' hD hJ hA
        have f2 : vs 24 = .bool true := hA 24 (by decide)
        have G := gb_trans GT.out (JR.gb hJ)
        clear hJ hA hD
        simp only [putAll, Act.put, List.setIfInBounds_toArray, List.set_cons_zero, List.set_cons_succ, f2]
        go_wp2
        go_ret
        exact ⟨rfl, gb_below G⟩
end Go.Proofs.Ytbhelobahfgaeaa
namespace Go.Proofs.Ytbhelobahfgaeaa.fnProgramValidDone
open Go Go.ChangeShapes Go.WideShapes Go.ChangeAt Go.RowKit Go.Proofs.Ytbhelobahfgaeaa
set_option linter.unusedVariables false
theorem own : ownKnob Try.prog.godebug = none := by kernel_rfl
theorem laidOut : laidOutB Try.prog = true := by kernel_rfl
set_option maxRecDepth 100000 in
theorem lifted (os : Os) (started : os.Started) (H : Type) (enc : TypeId × Value → H) :
    ReturnsInHanded {} Try.checked os 4 .any (Rows.fnProgramValidSpec.pre6 enc Try.prog Try.f4 Rows.fnProgramValidRow.domain false) (Rows.fnProgramValidSpec.post enc Try.prog Try.f4 false true false false) := by
  refine returnsInHanded_of_change (C := Try.checked) own started (by kernel_rfl) Try.func4
    (ChangeSpec.witness6 (enc := enc) (C := Try.checked) false ⟨#[], #[.slice none 0 0], []⟩ 8 (by kernel_rfl) (by kernel_rfl) (by kernel_rfl) (by kernel_rfl)) ?_
  intro W base args ds gs before hval0 hW hcnd _
  have hval : ∀ (j : Nat) t v, Try.f4.params[j]? = some t → args[j]? = some v → Value.okWide Try.prog W .any base t v := hval0
  have hW' := hW
  obtain ⟨p, q, hA0, hV, rfl, hfz, hnd⟩ := hW
  have hA : DataW.TrodAll enc Try.prog W 0 (fun _ => true) true Try.f4.params.toList args.toList ds p := hA0
  rw [Try.params4] at hA hval
  obtain ⟨v0, vs0, d0, ds0, p0, q0, hargs, rfl, rfl, h0, r0⟩ := trodAll_cons hA
  obtain ⟨rfl, rfl, rfl⟩ := trodAll_nil r0
  obtain rfl : args = #[v0] := by cases args; simp_all
  obtain ⟨rfl, rfl⟩ := trodVars_none hV
  obtain ⟨a0, len0, cap0, rfl⟩ := okWide_slice Try.underlying29 (hval 0 29 v0 rfl rfl)
  have k0 := h0
  have lt0 : ∀ x ∈ p0, x.block < W.heap.size := by obtain ⟨m, hm⟩ := k0; exact DataW.trod_lt m _ _ _ hm
  have w0 : Byts W a0 len0 cap0 := by
    obtain ⟨fuel, hf⟩ := h0
    rcases open_ints Try.underlying29 Try.underlying5 (by kernel_rfl) hf with ⟨hcs, _⟩ | ⟨x, l, c, zs, hcs, _, hl, hm, hz, _, hcell, hwz⟩
    · simp [Value.cells] at hcs
      obtain ⟨rfl, rfl, rfl⟩ := hcs
      exact byts_nil W
    · simp [Value.cells] at hcs
      obtain ⟨rfl, rfl, rfl⟩ := hcs
      exact byts_of hl hm (by simpa using hz) hcell hwz
  clear hA0 hval0
  refine (law_FnProgramValid a0 len0 cap0 W w0).mono fun e W' ⟨he, bel⟩ => ?_
  subst he
  exact ⟨_, rfl, _, _, _, [], _, [], hW', trodAll_mk1 (shut_bool Try.underlying4 _), (trodAll_cons_mk (Below.trod laidOut (by kernel_rfl) (of_decide_eq_true (by kernel_rfl)) k0 bel lt0) trodAll_mk0), rfl, bel.frame _, fun h => by cases h⟩
theorem over : Rows.fnProgramValidRow.holds Try.pinned (OpenSpec.ofChange Rows.fnProgramValidSpec) :=
  OpenClaim.holds_of_wide 4 Try.f4 rfl rfl rfl rfl rfl rfl rfl ⟨rfl, rfl, rfl, rfl, rfl⟩ rfl rfl rfl rfl rfl (by kernel_rfl) Try.func4 (by kernel_rfl)
    (of_decide_eq_true (by kernel_rfl)) (by unfold Func.isWrapper; first | (rw [if_pos (by decide +kernel)]; kernel_rfl) | (rw [if_neg (by decide +kernel)]; exact ⟨rfl, rfl⟩))
    (fun os started H enc _ => lifted os started H enc)
theorem proved : Rows.FnProgramValidSaid := over
#print axioms proved
end Go.Proofs.Ytbhelobahfgaeaa.fnProgramValidDone
