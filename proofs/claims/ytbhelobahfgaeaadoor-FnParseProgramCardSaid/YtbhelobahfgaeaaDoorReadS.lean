/-
  spec.l20Read. Printed by wip/gen/mkreads.py.
-/
import Derived.Test.YtbhelobahfgaeaaDoorReadS0
import Derived.Test.YtbhelobahfgaeaaDoorReadI
namespace Go.Proofs.YtbhelobahfgaeaaDoor
open Go Go.RowKit
set_option linter.unusedVariables false
/-- A region that makes a Command and fills it, in any order. -/
def JR (w0 : World) (Ms : List Asr) (cs : Array Value) (da ds : Bool) (v : Value) (w : World) : Prop :=
  (da = false → St w0 w Ms) ∧ (da = true → ∃ H, v = .pointer (some ⟨H, 0, none⟩) ∧ St w0 w (Loc H 47 (if ds then cs else #[.int .i64 0, .int .i64 0, .int .i64 0]) :: Ms))
section
variable {w0 w w' : World} {Ms : List Asr} {cs : Array Value} {da ds : Bool} {v : Value}
theorem JR.start (h : St w0 w Ms) : JR w0 Ms cs false false v w := ⟨fun _ => h, nofun⟩
theorem JR.ms (h : JR w0 Ms cs da ds v w) : St w0 w Ms := by
  cases da
  · exact h.1 rfl
  · obtain ⟨H, -, S⟩ := h.2 rfl
    exact S.tail
theorem JR.alloc (h : JR w0 Ms cs da ds v w) (ha : da = false) (hs : ds = false) : JR w0 Ms cs true ds (.pointer (some ⟨w.heap.size, 0, none⟩)) (w.alloc (.cells #[.int .i64 0, .int .i64 0, .int .i64 0] 47)) := by
  subst hs
  exact ⟨nofun, fun _ => ⟨_, rfl, (h.1 ha).loc _ _⟩⟩
theorem JR.at (h : JR w0 Ms cs da ds v w) (ha : da = true) (hs : ds = false) : ∃ H, v = .pointer (some ⟨H, 0, none⟩) ∧ St w0 w (Loc H 47 #[.int .i64 0, .int .i64 0, .int .i64 0] :: Ms) := by
  subst hs
  exact h.2 ha
theorem JR.put {H : Nat} (ha : da = true) (hv : v = .pointer (some ⟨H, 0, none⟩)) (S : St w0 w' (Loc H 47 cs :: Ms)) : JR w0 Ms cs da true v w' := by
  subst ha
  exact ⟨nofun, fun _ => ⟨H, hv, S⟩⟩
theorem JR.fin (h : JR w0 Ms cs da ds v w) (ha : da = true) (hs : ds = true) : ∃ H, v = .pointer (some ⟨H, 0, none⟩) ∧ St w0 w (Loc H 47 cs :: Ms) := by
  subst hs
  exact h.2 ha
end
set_option maxRecDepth 100000 in
set_option maxHeartbeats 1000000 in
theorem s_read (s : ByteArray) (w : World) (hs : s.size ≤ 4294967200) : Calls Tryd.prog 38 #[.string s] w (ReadQ w (readI s)) := by
  have S0 : St w ((w.alloc (.cells #[.int .i64 0, .int .i64 0, .int .i64 0] 47)).alloc (.cells #[] 9)) [Own LS (.slice (some ⟨w.heap.size + 1, 0, none⟩) 0 0) [], Loc w.heap.size 47 #[.int .i64 0, .int .i64 0, .int .i64 0]] :=
    ((St.refl w).loc #[.int .i64 0, .int .i64 0, .int .i64 0] 47).ownEmptyAt LS (w.heap.size + 1) (by show _ = (w.heap.push _).size; rw [Array.size_push])
  obtain ⟨H0, hH0⟩ : ∃ H0, H0 = w.heap.size := ⟨_, rfl⟩
  rw [← hH0] at S0
  have RET : RowKit.Hid (∀ (W : World), w.grownBy W none → readI s = none → ReadQ w (readI s) (.returned (.tuple #[.agg #[.int .i64 0, .int .i64 0, .int .i64 0], .bool false])) W) := by
    intro W g h
    rw [h]
    exact ⟨rfl, g⟩
  have SP0 := Lib.hid (splAt_zero s)
  go_enter Tryd.func38, Tryd.ntmps38
  go_wp2_with fail
  rw [← hH0]
  clear hH0
  by_cases h40 : s.size ≤ 40
  · go_loopw [4, 5, 6] (fun o v i wr => ∃ (k : Nat) (ws : List ByteArray) (wl : List UInt8), k ≤ s.size ∧ i = .int .i64 (k : Int) ∧ v = .string (bt wl) ∧ RowKit.Hid (SplAt s k ws wl) ∧ St w wr [Own LS o ws, Loc H0 47 #[.int .i64 0, .int .i64 0, .int .i64 0]]) (fun _ _ i _ => s.size - (intOf i).toNat)
    case atStart => exact ⟨0, [], [], by omega, rfl, rfl, SP0, S0⟩
    case round =>
      obtain ⟨k, ws, wl, hk, rfl, rfl, SP, S⟩ := hrel
      clear S0 SP0
      have hkl : ws.length ≤ 1000000000 := by have := SP.out.2.2.1; omega
      have hwl : wl.length ≤ 4294967200 := by have := SP.out.2.1; omega
      by_cases hlt : k < s.size
      · have hlti : (k : Int) < (s.size : Int) := by omega
        by_cases hb : s[k] = 32
        · have SP2 := Lib.hid (splAt_space SP.out hlt hb)
          have hb2 := byte32Y hb
          clear SP hb
          go_wp2_with (at_builtin; refine wpList_app1 LS_info rfl _ _ rfl S (bt wl) #[.string (bt wl)] rfl rfl rfl hkl ?_; intro v' w5 S3; clear S)
          go_roundw
          case rel => exact ⟨k + 1, _, [], by omega, by go_num, rfl, SP2, S3⟩
          case measure => simp [intOf]; omega
        · have SP2 := Lib.hid (splAt_plain SP.out hlt hb)
          have hb2 := byte32 hb
          have EX := Lib.hid (ext_one hlt wl)
          have zz : (bt wl).size ≤ 4294967200 := by rw [bt_size]; omega
          clear SP hb
          go_wp2
          go_roundw
          case rel => exact ⟨k + 1, ws, wl ++ [s[k]], by omega, by go_num, by rw [EX.out], SP2, S⟩
          case measure => simp [intOf]; omega
      · obtain rfl : k = s.size := by omega
        have GW : RowKit.Hid (Good s (ws ++ [bt wl])) := by
          show Good _ _
          rw [splAt_end SP.out]
          exact good_words s
        have WZ : RowKit.Hid (∀ x ∈ ws ++ [bt wl], x.size ≤ 4294967200) := by
          intro x hx
          rcases List.mem_append.1 hx with hx | hx
          · have := SP.out.2.2.2 x hx; omega
          · rw [List.mem_singleton] at hx
            subst hx
            rw [bt_size]; omega
        clear SP
        obtain ⟨W, hW⟩ : ∃ W, W = ws ++ [bt wl] := ⟨_, rfl⟩
        rw [← hW] at GW WZ
        have HW := Lib.hid hW
        have hwn : 0 < W.length := by rw [hW]; simp
        have hwn2 : W.length ≤ 4294967200 := by rw [hW, List.length_append, List.length_singleton]; omega
        clear hW
        go_wp2_with (at_builtin; refine wpList_app1 LS_info rfl _ _ rfl S (bt wl) #[.string (bt wl)] rfl rfl rfl hkl ?_; intro v' w5 S3; rw [← HW.out] at S3; clear S; obtain ⟨gw, cap, rfl, hc1, hc2⟩ := S3.ownBlk hwn; obtain ⟨n, hn⟩ : ∃ n, n = W.length := ⟨_, rfl⟩; rw [← hn] at S3 hc1 hwn hwn2 ⊢; replace hn := Lib.hid hn; have S4 := S3.loc #[.int .i64 0, .int .i64 0] 3; clear S3)
        obtain ⟨w0, wt, rfl⟩ : ∃ w0 wt, W = w0 :: wt := by
          cases W with
          | nil => have := hn.out; simp at this; omega
          | cons a t => exact ⟨a, t, rfl⟩
        have HN : RowKit.Hid (wt.length = n - 1) := by show _ = _; rw [hn.out]; simp
        clear hn HW
        obtain ⟨H3, hH3⟩ : ∃ H3, H3 = w5.heap.size := ⟨_, rfl⟩
        rw [← hH3] at S4 ⊢
        clear hH3
        have S5 : St w (w5.alloc (.cells #[.int .i64 0, .int .i64 0] 3)) [Loc H3 3 #[.int .i64 0, .int .i64 0], Own LS (.slice (some ⟨gw, 0, none⟩) n cap) (w0 :: wt), Loc H0 47 #[.int .i64 0, .int .i64 0, .int .i64 0]] := S4
        clear S4
        go_loopw [8, 9, 10] (fun i _ _ wr => ∃ (j : Nat) (A B : Int), j ≤ n - 1 ∧ j ≤ 2 ∧ i = .int .i64 ((j : Int) + 1) ∧ RowKit.Hid (numsP valS wt j = some (A, B)) ∧ St w wr [Loc H3 3 #[.int .i64 A, .int .i64 B], Own LS (.slice (some ⟨gw, 0, none⟩) n cap) (w0 :: wt), Loc H0 47 #[.int .i64 0, .int .i64 0, .int .i64 0]]) (fun i _ _ _ => n - (intOf i).toNat)
        case atStart => exact ⟨0, 0, 0, by omega, by omega, rfl, rfl, S5⟩
        case round =>
          obtain ⟨j, A, B, hj, hj2, rfl, HP, S⟩ := hrel
          clear S5
          by_cases hlt2 : j < n - 1 ∧ j < 2
          · obtain ⟨hlt3, hlt4⟩ := hlt2
            have hji : (j : Int) + 1 < (n : Int) := by omega
            have hji2 : (j : Int) + 1 < 3 := by omega
            obtain ⟨wd, hwd⟩ : ∃ wd, wt[j]? = some wd := ⟨_, List.getElem?_eq_getElem (by rw [HN.out]; exact hlt3)⟩
            have cw0 := St.ownCell S.tail (g := gw) rfl (j + 1) wd (by simpa using hwd) 0 _ rfl
            have cw : wr.cell? ⟨gw, j + 1, none⟩ = some (.string wd) := by
              have e : (j + 1) * LS.s + 0 = j + 1 := by show (j + 1) * 1 + 0 = _; omega
              rw [e] at cw0
              exact cw0
            have hws : wd.size ≤ 4294967200 := WZ.out wd (List.mem_cons_of_mem _ (List.mem_of_getElem? hwd))
            have VS := Lib.hid (value_s wd wr hws)
            have HS := Lib.hid (numsP_step HP.out hwd)
            have hcj : j + 1 ≤ cap := by omega
            clear cw0 hwd
            go_wp2_with fail
            refine VS.out.mono ?_
            rintro e w6 ⟨rfl, rfl⟩
            cases hv : valS wd.data.toList with
            | none =>
              have hno := Lib.hid (good_num GW.out (j := j + 1) (by rw [HN.out]; omega) (by rw [HS.out, hv]))
              have S7 := St.moveOut (Ms := [_, _]) S
              have r0 := St.locCell S7 0 _ rfl
              have r1 := St.locCell S7 1 _ rfl
              have r2 := St.locCell S7 2 _ rfl
              have rf := fun j => St.locFrozen S7 j
              have S8 := ((S7.locSet 0 (.int .i64 0)).locSet 1 (.int .i64 0)).locSet 2 (.int .i64 0)
              have q0 := St.locCell S8 0 _ rfl
              have q1 := St.locCell S8 1 _ rfl
              have q2 := St.locCell S8 2 _ rfl
              have RG := Lib.hid S8.gb
              clear S7 S8 S VS HS cw
              go_wp2_with fail
              exact bodyPost_ret (v := .tuple #[.agg #[.int .i64 0, .int .i64 0, .int .i64 0], .bool false]) (by simp [results, Tryd.results38, go_sem, q0, q1, q2]) rfl (RET.out _ RG.out hno.out)
            | some v =>
              have e0 := St.locCell S 0 _ rfl
              have e1 := St.locCell S 1 _ rfl
              have ef := fun j => St.locFrozen S j
              rcases (show j = 0 ∨ j = 1 by omega) with rfl | rfl
              · have HP2 : RowKit.Hid (numsP valS wt (0 + 1) = some (v, B)) := by show _ = _; rw [HS.out, hv]; rfl
                have S7 := Lib.hid (S.locSet 0 (.int .i64 v))
                clear S HS HP cw VS hv
                go_wp2_with fail
                go_roundw
                case rel => exact ⟨0 + 1, v, B, by omega, by omega, by go_num, HP2, S7.out⟩
                case measure => simp [intOf]; omega
              · have HP2 : RowKit.Hid (numsP valS wt (1 + 1) = some (A, v)) := by show _ = _; rw [HS.out, hv]; rfl
                have S7 := Lib.hid (S.locSet 1 (.int .i64 v))
                clear S HS HP cw VS hv
                go_wp2_with fail
                go_roundw
                case rel => exact ⟨1 + 1, A, v, by omega, by omega, by go_num, HP2, S7.out⟩
                case measure => simp [intOf]; omega
          · have FN := Lib.hid (good_fin GW.out HP.out (by rw [HN.out]; omega))
            clear HP GW
            have hcase : j = n - 1 ∨ (j = 2 ∧ 2 < n - 1) := by omega
            have hcap2 : n ≤ cap := hc1
            rcases hcase with hq | ⟨hq, hq2⟩
            · have hqi : ¬ ((j : Int) + 1 < (n : Int)) := by omega
              go_wp2
              go_loopw [11, 12] (fun i _ wr => ∃ k : Nat, k ≤ 6 ∧ i = .int .i64 ((k : Int) + 1) ∧ RowKit.Hid (∀ m : Nat, 1 ≤ m → m ≤ k → ¬ (cmdB ⟨(m : Int), A, B⟩ = true ∧ lineB ⟨(m : Int), A, B⟩ = s)) ∧ St w wr [Loc H3 3 #[.int .i64 A, .int .i64 B], Own LS (.slice (some ⟨gw, 0, none⟩) n cap) (w0 :: wt), Loc H0 47 #[.int .i64 0, .int .i64 0, .int .i64 0]]) (fun i _ _ => 8 - (intOf i).toNat)
              case atStart => exact ⟨0, by omega, rfl, (fun m h1 h2 => by omega), S⟩
              case round =>
                obtain ⟨k, hk, rfl, HK, SK⟩ := hrel
                clear S
                have S := SK
                clear SK
                by_cases hlt5 : k < 6
                · have hki : (k : Int) + 1 ≤ 6 := by omega
                  go_wp2_with fail
                  refine wp_drawn_put3 (shp [some (.int .i64 ((k : Int) + 1)), some (.slice (some ⟨H3, 0, none⟩) 2 2), some (.pointer (some ⟨H3, 0, none⟩)), some (.int .i64 A), some (.slice (some ⟨H3, 0, none⟩) 2 2), some (.pointer (some ⟨H3, 1, none⟩)), some (.int .i64 B), some (.agg #[.int .i64 ((k : Int) + 1), .int .i64 A, .int .i64 B]), none, none]) (fun D S w' => JR w [Loc H3 3 #[.int .i64 A, .int .i64 B], Own LS (.slice (some ⟨gw, 0, none⟩) n cap) (w0 :: wt), Loc H0 47 #[.int .i64 0, .int .i64 0, .int .i64 0]] #[.int .i64 ((k : Int) + 1), .int .i64 A, .int .i64 B] (D 8) (D 9) (S 12) w') (by kernel_rfl) (by kernel_rfl) (JR.start S.drew) ?_ ?_
                  · refine step_plain3 rfl (fun D a w hD hB hL hJ hd hs K hK => ?_) ?_
                    · have e11 : a.tmps[11]?.getD undef = .int .i64 ((k : Int) + 1) := hs.at 11 (by kernel_rfl)
                      clear hB hL hD hd hs
                      have HJ := Lib.hid hJ
                      clear hJ
                      go_simp
                      exact hK.out _ _ rfl HJ.out (fun _ _ h => h)
                    refine step_plain3 rfl (fun D a w hD hB hL hJ hd hs K hK => ?_) ?_
                    · have e7 : a.tmps[7]?.getD undef = .slice (some ⟨H3, 0, none⟩) 2 2 := hs.at 7 (by kernel_rfl)
                      clear hB hL hD hd hs
                      have HJ := Lib.hid hJ
                      clear hJ
                      go_simp
                      exact hK.out _ _ rfl HJ.out (fun _ _ h => h)
                    refine step_plain3 rfl (fun D a w hD hB hL hJ hd hs K hK => ?_) ?_
                    · have e76 : a.tmps[76]?.getD undef = .slice (some ⟨H3, 0, none⟩) 2 2 := hs.get 1 76 (by kernel_rfl) (by kernel_rfl)
                      clear hB hL hD hd hs
                      have HJ := Lib.hid hJ
                      clear hJ
                      go_simp
                      exact hK.out _ _ rfl HJ.out (fun _ _ h => h)
                    refine step_plain3 rfl (fun D a w hD hB hL hJ hd hs K hK => ?_) ?_
                    · have e77 : a.tmps[77]?.getD undef = .pointer (some ⟨H3, 0, none⟩) := hs.get 2 77 (by kernel_rfl) (by kernel_rfl)
                      have z0 := St.locCell (JR.ms hJ) 0 _ rfl
                      have HJ := Lib.hid hJ
                      clear hJ hB hL hD hd hs
                      go_simp
                      exact hK.out _ _ rfl HJ.out (fun _ _ h => h)
                    refine step_plain3 rfl (fun D a w hD hB hL hJ hd hs K hK => ?_) ?_
                    · have e7 : a.tmps[7]?.getD undef = .slice (some ⟨H3, 0, none⟩) 2 2 := hs.at 7 (by kernel_rfl)
                      clear hB hL hD hd hs
                      have HJ := Lib.hid hJ
                      clear hJ
                      go_simp
                      exact hK.out _ _ rfl HJ.out (fun _ _ h => h)
                    refine step_plain3 rfl (fun D a w hD hB hL hJ hd hs K hK => ?_) ?_
                    · have e79 : a.tmps[79]?.getD undef = .slice (some ⟨H3, 0, none⟩) 2 2 := hs.get 4 79 (by kernel_rfl) (by kernel_rfl)
                      clear hB hL hD hd hs
                      have HJ := Lib.hid hJ
                      clear hJ
                      go_simp
                      exact hK.out _ _ rfl HJ.out (fun _ _ h => h)
                    refine step_plain3 rfl (fun D a w hD hB hL hJ hd hs K hK => ?_) ?_
                    · have e80 : a.tmps[80]?.getD undef = .pointer (some ⟨H3, 1, none⟩) := hs.get 5 80 (by kernel_rfl) (by kernel_rfl)
                      have z0 := St.locCell (JR.ms hJ) 1 _ rfl
                      have HJ := Lib.hid hJ
                      clear hJ hB hL hD hd hs
                      go_simp
                      exact hK.out _ _ rfl HJ.out (fun _ _ h => h)
                    refine step_plain3 rfl (fun D a w hD hB hL hJ hd hs K hK => ?_) ?_
                    · have e75 : a.tmps[75]?.getD undef = .int .i64 ((k : Int) + 1) := hs.get 0 75 (by kernel_rfl) (by kernel_rfl)
                      have e78 : a.tmps[78]?.getD undef = .int .i64 A := hs.get 3 78 (by kernel_rfl) (by kernel_rfl)
                      have e81 : a.tmps[81]?.getD undef = .int .i64 B := hs.get 6 81 (by kernel_rfl) (by kernel_rfl)
                      clear hB hL hD hd hs
                      have HJ := Lib.hid hJ
                      clear hJ
                      go_simp
                      exact hK.out _ _ rfl HJ.out (fun _ _ h => h)
                    refine step_plain3 rfl (fun D a w hD hB hL hJ hd hs K hK => ?_) ?_
                    · have h9 := hL 9 (by kernel_rfl)
                      have HJ := Lib.hid (JR.alloc hJ hD h9)
                      clear hJ hB hL hD hd hs
                      go_simp
                      exact hK.out _ _ trivial HJ.out (fun _ _ h => h)
                    refine step_plain3 rfl (fun D a w hD hB hL hJ hd hs K hK => ?_) ?_
                    · obtain ⟨x12, e12⟩ : ∃ x : Value, a.tmps[12]?.getD undef = x := ⟨_, rfl⟩
                      have e82 : a.tmps[82]?.getD undef = .agg #[.int .i64 ((k : Int) + 1), .int .i64 A, .int .i64 B] := hs.get 7 82 (by kernel_rfl) (by kernel_rfl)
                      have h8 := hB 8 (by kernel_rfl)
                      obtain ⟨H, hv, S1⟩ := JR.at hJ h8 hD
                      have hv : sl a 12 = .pointer (some ⟨H, 0, none⟩) := hv
                      obtain rfl : x12 = .pointer (some ⟨H, 0, none⟩) := e12.symm.trans hv
                      have z0 := St.locCell S1 0 _ rfl
                      have z1 := St.locCell S1 1 _ rfl
                      have z2 := St.locCell S1 2 _ rfl
                      have zf := fun j => St.locFrozen S1 j
                      have S2 := ((S1.locSet 0 (.int .i64 ((k : Int) + 1))).locSet 1 (.int .i64 A)).locSet 2 (.int .i64 B)
                      have HJ := Lib.hid (JR.put h8 hv S2)
                      clear hJ hB hL hD hd hs S1 S2 h8 hv
                      go_simp
                      exact hK.out (.bool false) _ trivial HJ.out (fun _ _ h => h)
                    exact step_nil3
                  · intro vs D w' hD hJ hA
                    obtain ⟨H, hv, S1⟩ := JR.fin hJ (hD 8 (by decide)) (hD 9 (by decide))
                    rw [sl_put vs (by kernel_rfl) 8 12 (by kernel_rfl)] at hv
                    clear hJ hA hD
                    simp only [putAll, Act.put, List.setIfInBounds_toArray, List.set_cons_zero, List.set_cons_succ]
                    rw [hv]
                    clear hv
                    have r0 := St.locCell S1 0 _ rfl
                    have r1 := St.locCell S1 1 _ rfl
                    have r2 := St.locCell S1 2 _ rfl
                    obtain ⟨kk, hkk⟩ : ∃ kk : Int, kk = (k : Int) + 1 := ⟨_, rfl⟩
                    have hk1 : (((k + 1 : Nat)) : Int) = kk := by omega
                    have CF := Lib.hid (s_cmd ⟨kk, A, B⟩ w')
                    have HKS : RowKit.Hid (¬ (cmdB ⟨kk, A, B⟩ = true ∧ lineB ⟨kk, A, B⟩ = s) → ∀ m : Nat, 1 ≤ m → m ≤ k + 1 → ¬ (cmdB ⟨(m : Int), A, B⟩ = true ∧ lineB ⟨(m : Int), A, B⟩ = s)) := by
                      intro hn m h1 h2
                      by_cases hm : m ≤ k
                      · exact HK.out m h1 hm
                      · obtain rfl : m = k + 1 := by omega
                        rw [hk1]
                        exact hn
                    rw [← hkk] at r0 S1 ⊢
                    have hkA : 1 ≤ kk := by omega
                    have hkB : kk ≤ 6 := by omega
                    clear HK
                    replace hkk := Lib.hid hkk
                    clear hk1
                    cases hcb : cmdB ⟨kk, A, B⟩ with
                    | false =>
                      rw [hcb] at CF
                      have HK2 := Lib.hid (HKS.out (by rw [hcb]; rintro ⟨h, -⟩; cases h))
                      clear hcb HKS
                      go_wp2_with fail
                      refine CF.out.mono ?_
                      rintro e w8 ⟨rfl, g8⟩
                      have S9 := S1.tail.grow g8
                      clear S1 r0 r1 r2 CF
                      go_wp2_with fail
                      go_roundw
                      case rel => exact ⟨k + 1, by omega, by rw [hkk.out]; go_num, HK2, S9⟩
                      case measure => rw [hkk.out]; simp [intOf]; omega
                    | true =>
                      have LN := Lib.hid (fun W => s_line ⟨kk, A, B⟩ W hcb)
                      rw [hcb] at CF
                      go_wp2_with fail
                      refine CF.out.mono ?_
                      rintro e w8 ⟨rfl, g8⟩
                      have S9 := S1.grow g8
                      have r0 := St.locCell S9 0 _ rfl
                      have r1 := St.locCell S9 1 _ rfl
                      have r2 := St.locCell S9 2 _ rfl
                      clear CF S1
                      go_wp2_with fail
                      refine (LN.out _).mono ?_
                      rintro e w9 ⟨rfl, g9⟩
                      have S10 := S9.grow g9
                      clear S9 r0 r1 r2 LN
                      by_cases he : lineB ⟨kk, A, B⟩ = s
                      · have hyes := Lib.hid (kind_hit hcb he)
                        rw [he]
                        have u0 := St.locCell S10 0 _ rfl
                        have u1 := St.locCell S10 1 _ rfl
                        have u2 := St.locCell S10 2 _ rfl
                        have S7 := St.moveOut (Ms := [_, _, _]) S10
                        have v0 := St.locCell S7 0 _ rfl
                        have v1 := St.locCell S7 1 _ rfl
                        have v2 := St.locCell S7 2 _ rfl
                        have vf := fun j => St.locFrozen S7 j
                        have S8 := ((S7.locSet 0 (.int .i64 kk)).locSet 1 (.int .i64 A)).locSet 2 (.int .i64 B)
                        have q0 := St.locCell S8 0 _ rfl
                        have q1 := St.locCell S8 1 _ rfl
                        have q2 := St.locCell S8 2 _ rfl
                        have RG := Lib.hid S8.gb
                        clear S7 S8 S10 he hcb FN HKS
                        go_wp2_with fail
                        exact bodyPost_ret (v := .tuple #[.agg #[.int .i64 kk, .int .i64 A, .int .i64 B], .bool true]) (by simp [results, Tryd.results38, go_sem, q0, q1, q2]) rfl (by rw [hyes.out]; exact ⟨rfl, RG.out⟩)
                      · have HK2 := Lib.hid (HKS.out (by rintro ⟨-, h⟩; exact he h))
                        have hne := str_ne he
                        have S9 := S10.tail
                        generalize lineB ⟨kk, A, B⟩ = LB at hne
                        clear hcb HKS S10 he
                        go_wp2_with fail
                        go_roundw
                        case rel => exact ⟨k + 1, by omega, by rw [hkk.out]; go_num, HK2, S9⟩
                        case measure => rw [hkk.out]; simp [intOf]; omega
                · obtain rfl : k = 6 := by omega
                  have hno := Lib.hid (kind_miss FN.out HK.out)
                  clear FN HK
                  have S7 := St.moveOut (Ms := [_, _]) S
                  have r0 := St.locCell S7 0 _ rfl
                  have r1 := St.locCell S7 1 _ rfl
                  have r2 := St.locCell S7 2 _ rfl
                  have rf := fun j => St.locFrozen S7 j
                  have S8 := ((S7.locSet 0 (.int .i64 0)).locSet 1 (.int .i64 0)).locSet 2 (.int .i64 0)
                  have q0 := St.locCell S8 0 _ rfl
                  have q1 := St.locCell S8 1 _ rfl
                  have q2 := St.locCell S8 2 _ rfl
                  have RG := Lib.hid S8.gb
                  clear S7 S8 S
                  go_wp2_with fail
                  exact bodyPost_ret (v := .tuple #[.agg #[.int .i64 0, .int .i64 0, .int .i64 0], .bool false]) (by simp [results, Tryd.results38, go_sem, q0, q1, q2]) rfl (RET.out _ RG.out hno.out)
            · subst hq
              have hqi : (2 : Int) + 1 < (n : Int) := by omega
              go_wp2
              go_loopw [11, 12] (fun i _ wr => ∃ k : Nat, k ≤ 6 ∧ i = .int .i64 ((k : Int) + 1) ∧ RowKit.Hid (∀ m : Nat, 1 ≤ m → m ≤ k → ¬ (cmdB ⟨(m : Int), A, B⟩ = true ∧ lineB ⟨(m : Int), A, B⟩ = s)) ∧ St w wr [Loc H3 3 #[.int .i64 A, .int .i64 B], Own LS (.slice (some ⟨gw, 0, none⟩) n cap) (w0 :: wt), Loc H0 47 #[.int .i64 0, .int .i64 0, .int .i64 0]]) (fun i _ _ => 8 - (intOf i).toNat)
              case atStart => exact ⟨0, by omega, rfl, (fun m h1 h2 => by omega), S⟩
              case round =>
                obtain ⟨k, hk, rfl, HK, SK⟩ := hrel
                clear S
                have S := SK
                clear SK
                by_cases hlt5 : k < 6
                · have hki : (k : Int) + 1 ≤ 6 := by omega
                  go_wp2_with fail
                  refine wp_drawn_put3 (shp [some (.int .i64 ((k : Int) + 1)), some (.slice (some ⟨H3, 0, none⟩) 2 2), some (.pointer (some ⟨H3, 0, none⟩)), some (.int .i64 A), some (.slice (some ⟨H3, 0, none⟩) 2 2), some (.pointer (some ⟨H3, 1, none⟩)), some (.int .i64 B), some (.agg #[.int .i64 ((k : Int) + 1), .int .i64 A, .int .i64 B]), none, none]) (fun D S w' => JR w [Loc H3 3 #[.int .i64 A, .int .i64 B], Own LS (.slice (some ⟨gw, 0, none⟩) n cap) (w0 :: wt), Loc H0 47 #[.int .i64 0, .int .i64 0, .int .i64 0]] #[.int .i64 ((k : Int) + 1), .int .i64 A, .int .i64 B] (D 8) (D 9) (S 12) w') (by kernel_rfl) (by kernel_rfl) (JR.start S.drew) ?_ ?_
                  · refine step_plain3 rfl (fun D a w hD hB hL hJ hd hs K hK => ?_) ?_
                    · have e11 : a.tmps[11]?.getD undef = .int .i64 ((k : Int) + 1) := hs.at 11 (by kernel_rfl)
                      clear hB hL hD hd hs
                      have HJ := Lib.hid hJ
                      clear hJ
                      go_simp
                      exact hK.out _ _ rfl HJ.out (fun _ _ h => h)
                    refine step_plain3 rfl (fun D a w hD hB hL hJ hd hs K hK => ?_) ?_
                    · have e7 : a.tmps[7]?.getD undef = .slice (some ⟨H3, 0, none⟩) 2 2 := hs.at 7 (by kernel_rfl)
                      clear hB hL hD hd hs
                      have HJ := Lib.hid hJ
                      clear hJ
                      go_simp
                      exact hK.out _ _ rfl HJ.out (fun _ _ h => h)
                    refine step_plain3 rfl (fun D a w hD hB hL hJ hd hs K hK => ?_) ?_
                    · have e76 : a.tmps[76]?.getD undef = .slice (some ⟨H3, 0, none⟩) 2 2 := hs.get 1 76 (by kernel_rfl) (by kernel_rfl)
                      clear hB hL hD hd hs
                      have HJ := Lib.hid hJ
                      clear hJ
                      go_simp
                      exact hK.out _ _ rfl HJ.out (fun _ _ h => h)
                    refine step_plain3 rfl (fun D a w hD hB hL hJ hd hs K hK => ?_) ?_
                    · have e77 : a.tmps[77]?.getD undef = .pointer (some ⟨H3, 0, none⟩) := hs.get 2 77 (by kernel_rfl) (by kernel_rfl)
                      have z0 := St.locCell (JR.ms hJ) 0 _ rfl
                      have HJ := Lib.hid hJ
                      clear hJ hB hL hD hd hs
                      go_simp
                      exact hK.out _ _ rfl HJ.out (fun _ _ h => h)
                    refine step_plain3 rfl (fun D a w hD hB hL hJ hd hs K hK => ?_) ?_
                    · have e7 : a.tmps[7]?.getD undef = .slice (some ⟨H3, 0, none⟩) 2 2 := hs.at 7 (by kernel_rfl)
                      clear hB hL hD hd hs
                      have HJ := Lib.hid hJ
                      clear hJ
                      go_simp
                      exact hK.out _ _ rfl HJ.out (fun _ _ h => h)
                    refine step_plain3 rfl (fun D a w hD hB hL hJ hd hs K hK => ?_) ?_
                    · have e79 : a.tmps[79]?.getD undef = .slice (some ⟨H3, 0, none⟩) 2 2 := hs.get 4 79 (by kernel_rfl) (by kernel_rfl)
                      clear hB hL hD hd hs
                      have HJ := Lib.hid hJ
                      clear hJ
                      go_simp
                      exact hK.out _ _ rfl HJ.out (fun _ _ h => h)
                    refine step_plain3 rfl (fun D a w hD hB hL hJ hd hs K hK => ?_) ?_
                    · have e80 : a.tmps[80]?.getD undef = .pointer (some ⟨H3, 1, none⟩) := hs.get 5 80 (by kernel_rfl) (by kernel_rfl)
                      have z0 := St.locCell (JR.ms hJ) 1 _ rfl
                      have HJ := Lib.hid hJ
                      clear hJ hB hL hD hd hs
                      go_simp
                      exact hK.out _ _ rfl HJ.out (fun _ _ h => h)
                    refine step_plain3 rfl (fun D a w hD hB hL hJ hd hs K hK => ?_) ?_
                    · have e75 : a.tmps[75]?.getD undef = .int .i64 ((k : Int) + 1) := hs.get 0 75 (by kernel_rfl) (by kernel_rfl)
                      have e78 : a.tmps[78]?.getD undef = .int .i64 A := hs.get 3 78 (by kernel_rfl) (by kernel_rfl)
                      have e81 : a.tmps[81]?.getD undef = .int .i64 B := hs.get 6 81 (by kernel_rfl) (by kernel_rfl)
                      clear hB hL hD hd hs
                      have HJ := Lib.hid hJ
                      clear hJ
                      go_simp
                      exact hK.out _ _ rfl HJ.out (fun _ _ h => h)
                    refine step_plain3 rfl (fun D a w hD hB hL hJ hd hs K hK => ?_) ?_
                    · have h9 := hL 9 (by kernel_rfl)
                      have HJ := Lib.hid (JR.alloc hJ hD h9)
                      clear hJ hB hL hD hd hs
                      go_simp
                      exact hK.out _ _ trivial HJ.out (fun _ _ h => h)
                    refine step_plain3 rfl (fun D a w hD hB hL hJ hd hs K hK => ?_) ?_
                    · obtain ⟨x12, e12⟩ : ∃ x : Value, a.tmps[12]?.getD undef = x := ⟨_, rfl⟩
                      have e82 : a.tmps[82]?.getD undef = .agg #[.int .i64 ((k : Int) + 1), .int .i64 A, .int .i64 B] := hs.get 7 82 (by kernel_rfl) (by kernel_rfl)
                      have h8 := hB 8 (by kernel_rfl)
                      obtain ⟨H, hv, S1⟩ := JR.at hJ h8 hD
                      have hv : sl a 12 = .pointer (some ⟨H, 0, none⟩) := hv
                      obtain rfl : x12 = .pointer (some ⟨H, 0, none⟩) := e12.symm.trans hv
                      have z0 := St.locCell S1 0 _ rfl
                      have z1 := St.locCell S1 1 _ rfl
                      have z2 := St.locCell S1 2 _ rfl
                      have zf := fun j => St.locFrozen S1 j
                      have S2 := ((S1.locSet 0 (.int .i64 ((k : Int) + 1))).locSet 1 (.int .i64 A)).locSet 2 (.int .i64 B)
                      have HJ := Lib.hid (JR.put h8 hv S2)
                      clear hJ hB hL hD hd hs S1 S2 h8 hv
                      go_simp
                      exact hK.out (.bool false) _ trivial HJ.out (fun _ _ h => h)
                    exact step_nil3
                  · intro vs D w' hD hJ hA
                    obtain ⟨H, hv, S1⟩ := JR.fin hJ (hD 8 (by decide)) (hD 9 (by decide))
                    rw [sl_put vs (by kernel_rfl) 8 12 (by kernel_rfl)] at hv
                    clear hJ hA hD
                    simp only [putAll, Act.put, List.setIfInBounds_toArray, List.set_cons_zero, List.set_cons_succ]
                    rw [hv]
                    clear hv
                    have r0 := St.locCell S1 0 _ rfl
                    have r1 := St.locCell S1 1 _ rfl
                    have r2 := St.locCell S1 2 _ rfl
                    obtain ⟨kk, hkk⟩ : ∃ kk : Int, kk = (k : Int) + 1 := ⟨_, rfl⟩
                    have hk1 : (((k + 1 : Nat)) : Int) = kk := by omega
                    have CF := Lib.hid (s_cmd ⟨kk, A, B⟩ w')
                    have HKS : RowKit.Hid (¬ (cmdB ⟨kk, A, B⟩ = true ∧ lineB ⟨kk, A, B⟩ = s) → ∀ m : Nat, 1 ≤ m → m ≤ k + 1 → ¬ (cmdB ⟨(m : Int), A, B⟩ = true ∧ lineB ⟨(m : Int), A, B⟩ = s)) := by
                      intro hn m h1 h2
                      by_cases hm : m ≤ k
                      · exact HK.out m h1 hm
                      · obtain rfl : m = k + 1 := by omega
                        rw [hk1]
                        exact hn
                    rw [← hkk] at r0 S1 ⊢
                    have hkA : 1 ≤ kk := by omega
                    have hkB : kk ≤ 6 := by omega
                    clear HK
                    replace hkk := Lib.hid hkk
                    clear hk1
                    cases hcb : cmdB ⟨kk, A, B⟩ with
                    | false =>
                      rw [hcb] at CF
                      have HK2 := Lib.hid (HKS.out (by rw [hcb]; rintro ⟨h, -⟩; cases h))
                      clear hcb HKS
                      go_wp2_with fail
                      refine CF.out.mono ?_
                      rintro e w8 ⟨rfl, g8⟩
                      have S9 := S1.tail.grow g8
                      clear S1 r0 r1 r2 CF
                      go_wp2_with fail
                      go_roundw
                      case rel => exact ⟨k + 1, by omega, by rw [hkk.out]; go_num, HK2, S9⟩
                      case measure => rw [hkk.out]; simp [intOf]; omega
                    | true =>
                      have LN := Lib.hid (fun W => s_line ⟨kk, A, B⟩ W hcb)
                      rw [hcb] at CF
                      go_wp2_with fail
                      refine CF.out.mono ?_
                      rintro e w8 ⟨rfl, g8⟩
                      have S9 := S1.grow g8
                      have r0 := St.locCell S9 0 _ rfl
                      have r1 := St.locCell S9 1 _ rfl
                      have r2 := St.locCell S9 2 _ rfl
                      clear CF S1
                      go_wp2_with fail
                      refine (LN.out _).mono ?_
                      rintro e w9 ⟨rfl, g9⟩
                      have S10 := S9.grow g9
                      clear S9 r0 r1 r2 LN
                      by_cases he : lineB ⟨kk, A, B⟩ = s
                      · have hyes := Lib.hid (kind_hit hcb he)
                        rw [he]
                        have u0 := St.locCell S10 0 _ rfl
                        have u1 := St.locCell S10 1 _ rfl
                        have u2 := St.locCell S10 2 _ rfl
                        have S7 := St.moveOut (Ms := [_, _, _]) S10
                        have v0 := St.locCell S7 0 _ rfl
                        have v1 := St.locCell S7 1 _ rfl
                        have v2 := St.locCell S7 2 _ rfl
                        have vf := fun j => St.locFrozen S7 j
                        have S8 := ((S7.locSet 0 (.int .i64 kk)).locSet 1 (.int .i64 A)).locSet 2 (.int .i64 B)
                        have q0 := St.locCell S8 0 _ rfl
                        have q1 := St.locCell S8 1 _ rfl
                        have q2 := St.locCell S8 2 _ rfl
                        have RG := Lib.hid S8.gb
                        clear S7 S8 S10 he hcb FN HKS
                        go_wp2_with fail
                        exact bodyPost_ret (v := .tuple #[.agg #[.int .i64 kk, .int .i64 A, .int .i64 B], .bool true]) (by simp [results, Tryd.results38, go_sem, q0, q1, q2]) rfl (by rw [hyes.out]; exact ⟨rfl, RG.out⟩)
                      · have HK2 := Lib.hid (HKS.out (by rintro ⟨-, h⟩; exact he h))
                        have hne := str_ne he
                        have S9 := S10.tail
                        generalize lineB ⟨kk, A, B⟩ = LB at hne
                        clear hcb HKS S10 he
                        go_wp2_with fail
                        go_roundw
                        case rel => exact ⟨k + 1, by omega, by rw [hkk.out]; go_num, HK2, S9⟩
                        case measure => rw [hkk.out]; simp [intOf]; omega
                · obtain rfl : k = 6 := by omega
                  have hno := Lib.hid (kind_miss FN.out HK.out)
                  clear FN HK
                  have S7 := St.moveOut (Ms := [_, _]) S
                  have r0 := St.locCell S7 0 _ rfl
                  have r1 := St.locCell S7 1 _ rfl
                  have r2 := St.locCell S7 2 _ rfl
                  have rf := fun j => St.locFrozen S7 j
                  have S8 := ((S7.locSet 0 (.int .i64 0)).locSet 1 (.int .i64 0)).locSet 2 (.int .i64 0)
                  have q0 := St.locCell S8 0 _ rfl
                  have q1 := St.locCell S8 1 _ rfl
                  have q2 := St.locCell S8 2 _ rfl
                  have RG := Lib.hid S8.gb
                  clear S7 S8 S
                  go_wp2_with fail
                  exact bodyPost_ret (v := .tuple #[.agg #[.int .i64 0, .int .i64 0, .int .i64 0], .bool false]) (by simp [results, Tryd.results38, go_sem, q0, q1, q2]) rfl (RET.out _ RG.out hno.out)
  · have h41 : ¬ ((s.size : Int) ≤ 40) := by omega
    have h1 : (0 : Int) < (s.size : Int) := by omega
    have h1n : 0 < s.size := by omega
    obtain ⟨ws, hws⟩ : ∃ ws : List ByteArray, ws = [] := ⟨_, rfl⟩
    obtain ⟨wl, hwl⟩ : ∃ wl : List UInt8, wl = [] := ⟨_, rfl⟩
    have hkl : ws.length ≤ 1000000000 := by rw [hws]; simp
    have GW : RowKit.Hid (Good s (ws ++ [bt wl])) := good_long (by omega) _
    have WZ : RowKit.Hid (∀ x ∈ ws ++ [bt wl], x.size ≤ 4294967200) := by
      intro x hx
      rw [hws, hwl, List.nil_append, List.mem_singleton] at hx
      subst hx
      rw [bt_size]; simp
    have eb : (⟨#[]⟩ : ByteArray) = bt wl := by rw [hwl]; rfl
    have S := S0
    rw [← hws] at S
    have EB := Lib.hid eb
    clear S0 SP0 h40 eb hws hwl
    generalize ((w.alloc (.cells #[.int .i64 0, .int .i64 0, .int .i64 0] 47)).alloc (.cells #[] 9)) = wA at S ⊢
    refine wp_loop_rounds 2 ?_
    rw [rounds_succ]
    rw [EB.out]
    obtain ⟨W, hW⟩ : ∃ W, W = ws ++ [bt wl] := ⟨_, rfl⟩
    rw [← hW] at GW WZ
    have HW := Lib.hid hW
    have hwn : 0 < W.length := by rw [hW]; simp
    have hwn2 : W.length ≤ 4294967200 := by rw [hW, List.length_append, List.length_singleton]; omega
    clear hW
    go_wp2_with (at_builtin; refine wpList_app1 LS_info rfl _ _ rfl S (bt wl) #[.string (bt wl)] rfl rfl rfl hkl ?_; intro v' w5 S3; rw [← HW.out] at S3; clear S; obtain ⟨gw, cap, rfl, hc1, hc2⟩ := S3.ownBlk hwn; obtain ⟨n, hn⟩ : ∃ n, n = W.length := ⟨_, rfl⟩; rw [← hn] at S3 hc1 hwn hwn2 ⊢; replace hn := Lib.hid hn; have S4 := S3.loc #[.int .i64 0, .int .i64 0] 3; clear S3)
    obtain ⟨w0, wt, rfl⟩ : ∃ w0 wt, W = w0 :: wt := by
      cases W with
      | nil => have := hn.out; simp at this; omega
      | cons a t => exact ⟨a, t, rfl⟩
    have HN : RowKit.Hid (wt.length = n - 1) := by show _ = _; rw [hn.out]; simp
    clear hn HW
    obtain ⟨H3, hH3⟩ : ∃ H3, H3 = w5.heap.size := ⟨_, rfl⟩
    rw [← hH3] at S4 ⊢
    clear hH3
    have S5 : St w (w5.alloc (.cells #[.int .i64 0, .int .i64 0] 3)) [Loc H3 3 #[.int .i64 0, .int .i64 0], Own LS (.slice (some ⟨gw, 0, none⟩) n cap) (w0 :: wt), Loc H0 47 #[.int .i64 0, .int .i64 0, .int .i64 0]] := S4
    clear S4
    go_loopw [8, 9, 10] (fun i _ _ wr => ∃ (j : Nat) (A B : Int), j ≤ n - 1 ∧ j ≤ 2 ∧ i = .int .i64 ((j : Int) + 1) ∧ RowKit.Hid (numsP valS wt j = some (A, B)) ∧ St w wr [Loc H3 3 #[.int .i64 A, .int .i64 B], Own LS (.slice (some ⟨gw, 0, none⟩) n cap) (w0 :: wt), Loc H0 47 #[.int .i64 0, .int .i64 0, .int .i64 0]]) (fun i _ _ _ => n - (intOf i).toNat)
    case atStart => exact ⟨0, 0, 0, by omega, by omega, rfl, rfl, S5⟩
    case round =>
      obtain ⟨j, A, B, hj, hj2, rfl, HP, S⟩ := hrel
      clear S5
      by_cases hlt2 : j < n - 1 ∧ j < 2
      · obtain ⟨hlt3, hlt4⟩ := hlt2
        have hji : (j : Int) + 1 < (n : Int) := by omega
        have hji2 : (j : Int) + 1 < 3 := by omega
        obtain ⟨wd, hwd⟩ : ∃ wd, wt[j]? = some wd := ⟨_, List.getElem?_eq_getElem (by rw [HN.out]; exact hlt3)⟩
        have cw0 := St.ownCell S.tail (g := gw) rfl (j + 1) wd (by simpa using hwd) 0 _ rfl
        have cw : wr.cell? ⟨gw, j + 1, none⟩ = some (.string wd) := by
          have e : (j + 1) * LS.s + 0 = j + 1 := by show (j + 1) * 1 + 0 = _; omega
          rw [e] at cw0
          exact cw0
        have hws : wd.size ≤ 4294967200 := WZ.out wd (List.mem_cons_of_mem _ (List.mem_of_getElem? hwd))
        have VS := Lib.hid (value_s wd wr hws)
        have HS := Lib.hid (numsP_step HP.out hwd)
        have hcj : j + 1 ≤ cap := by omega
        clear cw0 hwd
        go_wp2_with fail
        refine VS.out.mono ?_
        rintro e w6 ⟨rfl, rfl⟩
        cases hv : valS wd.data.toList with
        | none =>
          have hno := Lib.hid (good_num GW.out (j := j + 1) (by rw [HN.out]; omega) (by rw [HS.out, hv]))
          have S7 := St.moveOut (Ms := [_, _]) S
          have r0 := St.locCell S7 0 _ rfl
          have r1 := St.locCell S7 1 _ rfl
          have r2 := St.locCell S7 2 _ rfl
          have rf := fun j => St.locFrozen S7 j
          have S8 := ((S7.locSet 0 (.int .i64 0)).locSet 1 (.int .i64 0)).locSet 2 (.int .i64 0)
          have q0 := St.locCell S8 0 _ rfl
          have q1 := St.locCell S8 1 _ rfl
          have q2 := St.locCell S8 2 _ rfl
          have RG := Lib.hid S8.gb
          clear S7 S8 S VS HS cw
          go_wp2_with fail
          exact bodyPost_ret (v := .tuple #[.agg #[.int .i64 0, .int .i64 0, .int .i64 0], .bool false]) (by simp [results, Tryd.results38, go_sem, q0, q1, q2]) rfl (RET.out _ RG.out hno.out)
        | some v =>
          have e0 := St.locCell S 0 _ rfl
          have e1 := St.locCell S 1 _ rfl
          have ef := fun j => St.locFrozen S j
          rcases (show j = 0 ∨ j = 1 by omega) with rfl | rfl
          · have HP2 : RowKit.Hid (numsP valS wt (0 + 1) = some (v, B)) := by show _ = _; rw [HS.out, hv]; rfl
            have S7 := Lib.hid (S.locSet 0 (.int .i64 v))
            clear S HS HP cw VS hv
            go_wp2_with fail
            go_roundw
            case rel => exact ⟨0 + 1, v, B, by omega, by omega, by go_num, HP2, S7.out⟩
            case measure => simp [intOf]; omega
          · have HP2 : RowKit.Hid (numsP valS wt (1 + 1) = some (A, v)) := by show _ = _; rw [HS.out, hv]; rfl
            have S7 := Lib.hid (S.locSet 1 (.int .i64 v))
            clear S HS HP cw VS hv
            go_wp2_with fail
            go_roundw
            case rel => exact ⟨1 + 1, A, v, by omega, by omega, by go_num, HP2, S7.out⟩
            case measure => simp [intOf]; omega
      · have FN := Lib.hid (good_fin GW.out HP.out (by rw [HN.out]; omega))
        clear HP GW
        have hcase : j = n - 1 ∨ (j = 2 ∧ 2 < n - 1) := by omega
        have hcap2 : n ≤ cap := hc1
        rcases hcase with hq | ⟨hq, hq2⟩
        · have hqi : ¬ ((j : Int) + 1 < (n : Int)) := by omega
          go_wp2
          go_loopw [11, 12] (fun i _ wr => ∃ k : Nat, k ≤ 6 ∧ i = .int .i64 ((k : Int) + 1) ∧ RowKit.Hid (∀ m : Nat, 1 ≤ m → m ≤ k → ¬ (cmdB ⟨(m : Int), A, B⟩ = true ∧ lineB ⟨(m : Int), A, B⟩ = s)) ∧ St w wr [Loc H3 3 #[.int .i64 A, .int .i64 B], Own LS (.slice (some ⟨gw, 0, none⟩) n cap) (w0 :: wt), Loc H0 47 #[.int .i64 0, .int .i64 0, .int .i64 0]]) (fun i _ _ => 8 - (intOf i).toNat)
          case atStart => exact ⟨0, by omega, rfl, (fun m h1 h2 => by omega), S⟩
          case round =>
            obtain ⟨k, hk, rfl, HK, SK⟩ := hrel
            clear S
            have S := SK
            clear SK
            by_cases hlt5 : k < 6
            · have hki : (k : Int) + 1 ≤ 6 := by omega
              go_wp2_with fail
              refine wp_drawn_put3 (shp [some (.int .i64 ((k : Int) + 1)), some (.slice (some ⟨H3, 0, none⟩) 2 2), some (.pointer (some ⟨H3, 0, none⟩)), some (.int .i64 A), some (.slice (some ⟨H3, 0, none⟩) 2 2), some (.pointer (some ⟨H3, 1, none⟩)), some (.int .i64 B), some (.agg #[.int .i64 ((k : Int) + 1), .int .i64 A, .int .i64 B]), none, none]) (fun D S w' => JR w [Loc H3 3 #[.int .i64 A, .int .i64 B], Own LS (.slice (some ⟨gw, 0, none⟩) n cap) (w0 :: wt), Loc H0 47 #[.int .i64 0, .int .i64 0, .int .i64 0]] #[.int .i64 ((k : Int) + 1), .int .i64 A, .int .i64 B] (D 8) (D 9) (S 12) w') (by kernel_rfl) (by kernel_rfl) (JR.start S.drew) ?_ ?_
              · refine step_plain3 rfl (fun D a w hD hB hL hJ hd hs K hK => ?_) ?_
                · have e11 : a.tmps[11]?.getD undef = .int .i64 ((k : Int) + 1) := hs.at 11 (by kernel_rfl)
                  clear hB hL hD hd hs
                  have HJ := Lib.hid hJ
                  clear hJ
                  go_simp
                  exact hK.out _ _ rfl HJ.out (fun _ _ h => h)
                refine step_plain3 rfl (fun D a w hD hB hL hJ hd hs K hK => ?_) ?_
                · have e7 : a.tmps[7]?.getD undef = .slice (some ⟨H3, 0, none⟩) 2 2 := hs.at 7 (by kernel_rfl)
                  clear hB hL hD hd hs
                  have HJ := Lib.hid hJ
                  clear hJ
                  go_simp
                  exact hK.out _ _ rfl HJ.out (fun _ _ h => h)
                refine step_plain3 rfl (fun D a w hD hB hL hJ hd hs K hK => ?_) ?_
                · have e76 : a.tmps[76]?.getD undef = .slice (some ⟨H3, 0, none⟩) 2 2 := hs.get 1 76 (by kernel_rfl) (by kernel_rfl)
                  clear hB hL hD hd hs
                  have HJ := Lib.hid hJ
                  clear hJ
                  go_simp
                  exact hK.out _ _ rfl HJ.out (fun _ _ h => h)
                refine step_plain3 rfl (fun D a w hD hB hL hJ hd hs K hK => ?_) ?_
                · have e77 : a.tmps[77]?.getD undef = .pointer (some ⟨H3, 0, none⟩) := hs.get 2 77 (by kernel_rfl) (by kernel_rfl)
                  have z0 := St.locCell (JR.ms hJ) 0 _ rfl
                  have HJ := Lib.hid hJ
                  clear hJ hB hL hD hd hs
                  go_simp
                  exact hK.out _ _ rfl HJ.out (fun _ _ h => h)
                refine step_plain3 rfl (fun D a w hD hB hL hJ hd hs K hK => ?_) ?_
                · have e7 : a.tmps[7]?.getD undef = .slice (some ⟨H3, 0, none⟩) 2 2 := hs.at 7 (by kernel_rfl)
                  clear hB hL hD hd hs
                  have HJ := Lib.hid hJ
                  clear hJ
                  go_simp
                  exact hK.out _ _ rfl HJ.out (fun _ _ h => h)
                refine step_plain3 rfl (fun D a w hD hB hL hJ hd hs K hK => ?_) ?_
                · have e79 : a.tmps[79]?.getD undef = .slice (some ⟨H3, 0, none⟩) 2 2 := hs.get 4 79 (by kernel_rfl) (by kernel_rfl)
                  clear hB hL hD hd hs
                  have HJ := Lib.hid hJ
                  clear hJ
                  go_simp
                  exact hK.out _ _ rfl HJ.out (fun _ _ h => h)
                refine step_plain3 rfl (fun D a w hD hB hL hJ hd hs K hK => ?_) ?_
                · have e80 : a.tmps[80]?.getD undef = .pointer (some ⟨H3, 1, none⟩) := hs.get 5 80 (by kernel_rfl) (by kernel_rfl)
                  have z0 := St.locCell (JR.ms hJ) 1 _ rfl
                  have HJ := Lib.hid hJ
                  clear hJ hB hL hD hd hs
                  go_simp
                  exact hK.out _ _ rfl HJ.out (fun _ _ h => h)
                refine step_plain3 rfl (fun D a w hD hB hL hJ hd hs K hK => ?_) ?_
                · have e75 : a.tmps[75]?.getD undef = .int .i64 ((k : Int) + 1) := hs.get 0 75 (by kernel_rfl) (by kernel_rfl)
                  have e78 : a.tmps[78]?.getD undef = .int .i64 A := hs.get 3 78 (by kernel_rfl) (by kernel_rfl)
                  have e81 : a.tmps[81]?.getD undef = .int .i64 B := hs.get 6 81 (by kernel_rfl) (by kernel_rfl)
                  clear hB hL hD hd hs
                  have HJ := Lib.hid hJ
                  clear hJ
                  go_simp
                  exact hK.out _ _ rfl HJ.out (fun _ _ h => h)
                refine step_plain3 rfl (fun D a w hD hB hL hJ hd hs K hK => ?_) ?_
                · have h9 := hL 9 (by kernel_rfl)
                  have HJ := Lib.hid (JR.alloc hJ hD h9)
                  clear hJ hB hL hD hd hs
                  go_simp
                  exact hK.out _ _ trivial HJ.out (fun _ _ h => h)
                refine step_plain3 rfl (fun D a w hD hB hL hJ hd hs K hK => ?_) ?_
                · obtain ⟨x12, e12⟩ : ∃ x : Value, a.tmps[12]?.getD undef = x := ⟨_, rfl⟩
                  have e82 : a.tmps[82]?.getD undef = .agg #[.int .i64 ((k : Int) + 1), .int .i64 A, .int .i64 B] := hs.get 7 82 (by kernel_rfl) (by kernel_rfl)
                  have h8 := hB 8 (by kernel_rfl)
                  obtain ⟨H, hv, S1⟩ := JR.at hJ h8 hD
                  have hv : sl a 12 = .pointer (some ⟨H, 0, none⟩) := hv
                  obtain rfl : x12 = .pointer (some ⟨H, 0, none⟩) := e12.symm.trans hv
                  have z0 := St.locCell S1 0 _ rfl
                  have z1 := St.locCell S1 1 _ rfl
                  have z2 := St.locCell S1 2 _ rfl
                  have zf := fun j => St.locFrozen S1 j
                  have S2 := ((S1.locSet 0 (.int .i64 ((k : Int) + 1))).locSet 1 (.int .i64 A)).locSet 2 (.int .i64 B)
                  have HJ := Lib.hid (JR.put h8 hv S2)
                  clear hJ hB hL hD hd hs S1 S2 h8 hv
                  go_simp
                  exact hK.out (.bool false) _ trivial HJ.out (fun _ _ h => h)
                exact step_nil3
              · intro vs D w' hD hJ hA
                obtain ⟨H, hv, S1⟩ := JR.fin hJ (hD 8 (by decide)) (hD 9 (by decide))
                rw [sl_put vs (by kernel_rfl) 8 12 (by kernel_rfl)] at hv
                clear hJ hA hD
                simp only [putAll, Act.put, List.setIfInBounds_toArray, List.set_cons_zero, List.set_cons_succ]
                rw [hv]
                clear hv
                have r0 := St.locCell S1 0 _ rfl
                have r1 := St.locCell S1 1 _ rfl
                have r2 := St.locCell S1 2 _ rfl
                obtain ⟨kk, hkk⟩ : ∃ kk : Int, kk = (k : Int) + 1 := ⟨_, rfl⟩
                have hk1 : (((k + 1 : Nat)) : Int) = kk := by omega
                have CF := Lib.hid (s_cmd ⟨kk, A, B⟩ w')
                have HKS : RowKit.Hid (¬ (cmdB ⟨kk, A, B⟩ = true ∧ lineB ⟨kk, A, B⟩ = s) → ∀ m : Nat, 1 ≤ m → m ≤ k + 1 → ¬ (cmdB ⟨(m : Int), A, B⟩ = true ∧ lineB ⟨(m : Int), A, B⟩ = s)) := by
                  intro hn m h1 h2
                  by_cases hm : m ≤ k
                  · exact HK.out m h1 hm
                  · obtain rfl : m = k + 1 := by omega
                    rw [hk1]
                    exact hn
                rw [← hkk] at r0 S1 ⊢
                have hkA : 1 ≤ kk := by omega
                have hkB : kk ≤ 6 := by omega
                clear HK
                replace hkk := Lib.hid hkk
                clear hk1
                cases hcb : cmdB ⟨kk, A, B⟩ with
                | false =>
                  rw [hcb] at CF
                  have HK2 := Lib.hid (HKS.out (by rw [hcb]; rintro ⟨h, -⟩; cases h))
                  clear hcb HKS
                  go_wp2_with fail
                  refine CF.out.mono ?_
                  rintro e w8 ⟨rfl, g8⟩
                  have S9 := S1.tail.grow g8
                  clear S1 r0 r1 r2 CF
                  go_wp2_with fail
                  go_roundw
                  case rel => exact ⟨k + 1, by omega, by rw [hkk.out]; go_num, HK2, S9⟩
                  case measure => rw [hkk.out]; simp [intOf]; omega
                | true =>
                  have LN := Lib.hid (fun W => s_line ⟨kk, A, B⟩ W hcb)
                  rw [hcb] at CF
                  go_wp2_with fail
                  refine CF.out.mono ?_
                  rintro e w8 ⟨rfl, g8⟩
                  have S9 := S1.grow g8
                  have r0 := St.locCell S9 0 _ rfl
                  have r1 := St.locCell S9 1 _ rfl
                  have r2 := St.locCell S9 2 _ rfl
                  clear CF S1
                  go_wp2_with fail
                  refine (LN.out _).mono ?_
                  rintro e w9 ⟨rfl, g9⟩
                  have S10 := S9.grow g9
                  clear S9 r0 r1 r2 LN
                  by_cases he : lineB ⟨kk, A, B⟩ = s
                  · have hyes := Lib.hid (kind_hit hcb he)
                    rw [he]
                    have u0 := St.locCell S10 0 _ rfl
                    have u1 := St.locCell S10 1 _ rfl
                    have u2 := St.locCell S10 2 _ rfl
                    have S7 := St.moveOut (Ms := [_, _, _]) S10
                    have v0 := St.locCell S7 0 _ rfl
                    have v1 := St.locCell S7 1 _ rfl
                    have v2 := St.locCell S7 2 _ rfl
                    have vf := fun j => St.locFrozen S7 j
                    have S8 := ((S7.locSet 0 (.int .i64 kk)).locSet 1 (.int .i64 A)).locSet 2 (.int .i64 B)
                    have q0 := St.locCell S8 0 _ rfl
                    have q1 := St.locCell S8 1 _ rfl
                    have q2 := St.locCell S8 2 _ rfl
                    have RG := Lib.hid S8.gb
                    clear S7 S8 S10 he hcb FN HKS
                    go_wp2_with fail
                    exact bodyPost_ret (v := .tuple #[.agg #[.int .i64 kk, .int .i64 A, .int .i64 B], .bool true]) (by simp [results, Tryd.results38, go_sem, q0, q1, q2]) rfl (by rw [hyes.out]; exact ⟨rfl, RG.out⟩)
                  · have HK2 := Lib.hid (HKS.out (by rintro ⟨-, h⟩; exact he h))
                    have hne := str_ne he
                    have S9 := S10.tail
                    generalize lineB ⟨kk, A, B⟩ = LB at hne
                    clear hcb HKS S10 he
                    go_wp2_with fail
                    go_roundw
                    case rel => exact ⟨k + 1, by omega, by rw [hkk.out]; go_num, HK2, S9⟩
                    case measure => rw [hkk.out]; simp [intOf]; omega
            · obtain rfl : k = 6 := by omega
              have hno := Lib.hid (kind_miss FN.out HK.out)
              clear FN HK
              have S7 := St.moveOut (Ms := [_, _]) S
              have r0 := St.locCell S7 0 _ rfl
              have r1 := St.locCell S7 1 _ rfl
              have r2 := St.locCell S7 2 _ rfl
              have rf := fun j => St.locFrozen S7 j
              have S8 := ((S7.locSet 0 (.int .i64 0)).locSet 1 (.int .i64 0)).locSet 2 (.int .i64 0)
              have q0 := St.locCell S8 0 _ rfl
              have q1 := St.locCell S8 1 _ rfl
              have q2 := St.locCell S8 2 _ rfl
              have RG := Lib.hid S8.gb
              clear S7 S8 S
              go_wp2_with fail
              exact bodyPost_ret (v := .tuple #[.agg #[.int .i64 0, .int .i64 0, .int .i64 0], .bool false]) (by simp [results, Tryd.results38, go_sem, q0, q1, q2]) rfl (RET.out _ RG.out hno.out)
        · subst hq
          have hqi : (2 : Int) + 1 < (n : Int) := by omega
          go_wp2
          go_loopw [11, 12] (fun i _ wr => ∃ k : Nat, k ≤ 6 ∧ i = .int .i64 ((k : Int) + 1) ∧ RowKit.Hid (∀ m : Nat, 1 ≤ m → m ≤ k → ¬ (cmdB ⟨(m : Int), A, B⟩ = true ∧ lineB ⟨(m : Int), A, B⟩ = s)) ∧ St w wr [Loc H3 3 #[.int .i64 A, .int .i64 B], Own LS (.slice (some ⟨gw, 0, none⟩) n cap) (w0 :: wt), Loc H0 47 #[.int .i64 0, .int .i64 0, .int .i64 0]]) (fun i _ _ => 8 - (intOf i).toNat)
          case atStart => exact ⟨0, by omega, rfl, (fun m h1 h2 => by omega), S⟩
          case round =>
            obtain ⟨k, hk, rfl, HK, SK⟩ := hrel
            clear S
            have S := SK
            clear SK
            by_cases hlt5 : k < 6
            · have hki : (k : Int) + 1 ≤ 6 := by omega
              go_wp2_with fail
              refine wp_drawn_put3 (shp [some (.int .i64 ((k : Int) + 1)), some (.slice (some ⟨H3, 0, none⟩) 2 2), some (.pointer (some ⟨H3, 0, none⟩)), some (.int .i64 A), some (.slice (some ⟨H3, 0, none⟩) 2 2), some (.pointer (some ⟨H3, 1, none⟩)), some (.int .i64 B), some (.agg #[.int .i64 ((k : Int) + 1), .int .i64 A, .int .i64 B]), none, none]) (fun D S w' => JR w [Loc H3 3 #[.int .i64 A, .int .i64 B], Own LS (.slice (some ⟨gw, 0, none⟩) n cap) (w0 :: wt), Loc H0 47 #[.int .i64 0, .int .i64 0, .int .i64 0]] #[.int .i64 ((k : Int) + 1), .int .i64 A, .int .i64 B] (D 8) (D 9) (S 12) w') (by kernel_rfl) (by kernel_rfl) (JR.start S.drew) ?_ ?_
              · refine step_plain3 rfl (fun D a w hD hB hL hJ hd hs K hK => ?_) ?_
                · have e11 : a.tmps[11]?.getD undef = .int .i64 ((k : Int) + 1) := hs.at 11 (by kernel_rfl)
                  clear hB hL hD hd hs
                  have HJ := Lib.hid hJ
                  clear hJ
                  go_simp
                  exact hK.out _ _ rfl HJ.out (fun _ _ h => h)
                refine step_plain3 rfl (fun D a w hD hB hL hJ hd hs K hK => ?_) ?_
                · have e7 : a.tmps[7]?.getD undef = .slice (some ⟨H3, 0, none⟩) 2 2 := hs.at 7 (by kernel_rfl)
                  clear hB hL hD hd hs
                  have HJ := Lib.hid hJ
                  clear hJ
                  go_simp
                  exact hK.out _ _ rfl HJ.out (fun _ _ h => h)
                refine step_plain3 rfl (fun D a w hD hB hL hJ hd hs K hK => ?_) ?_
                · have e76 : a.tmps[76]?.getD undef = .slice (some ⟨H3, 0, none⟩) 2 2 := hs.get 1 76 (by kernel_rfl) (by kernel_rfl)
                  clear hB hL hD hd hs
                  have HJ := Lib.hid hJ
                  clear hJ
                  go_simp
                  exact hK.out _ _ rfl HJ.out (fun _ _ h => h)
                refine step_plain3 rfl (fun D a w hD hB hL hJ hd hs K hK => ?_) ?_
                · have e77 : a.tmps[77]?.getD undef = .pointer (some ⟨H3, 0, none⟩) := hs.get 2 77 (by kernel_rfl) (by kernel_rfl)
                  have z0 := St.locCell (JR.ms hJ) 0 _ rfl
                  have HJ := Lib.hid hJ
                  clear hJ hB hL hD hd hs
                  go_simp
                  exact hK.out _ _ rfl HJ.out (fun _ _ h => h)
                refine step_plain3 rfl (fun D a w hD hB hL hJ hd hs K hK => ?_) ?_
                · have e7 : a.tmps[7]?.getD undef = .slice (some ⟨H3, 0, none⟩) 2 2 := hs.at 7 (by kernel_rfl)
                  clear hB hL hD hd hs
                  have HJ := Lib.hid hJ
                  clear hJ
                  go_simp
                  exact hK.out _ _ rfl HJ.out (fun _ _ h => h)
                refine step_plain3 rfl (fun D a w hD hB hL hJ hd hs K hK => ?_) ?_
                · have e79 : a.tmps[79]?.getD undef = .slice (some ⟨H3, 0, none⟩) 2 2 := hs.get 4 79 (by kernel_rfl) (by kernel_rfl)
                  clear hB hL hD hd hs
                  have HJ := Lib.hid hJ
                  clear hJ
                  go_simp
                  exact hK.out _ _ rfl HJ.out (fun _ _ h => h)
                refine step_plain3 rfl (fun D a w hD hB hL hJ hd hs K hK => ?_) ?_
                · have e80 : a.tmps[80]?.getD undef = .pointer (some ⟨H3, 1, none⟩) := hs.get 5 80 (by kernel_rfl) (by kernel_rfl)
                  have z0 := St.locCell (JR.ms hJ) 1 _ rfl
                  have HJ := Lib.hid hJ
                  clear hJ hB hL hD hd hs
                  go_simp
                  exact hK.out _ _ rfl HJ.out (fun _ _ h => h)
                refine step_plain3 rfl (fun D a w hD hB hL hJ hd hs K hK => ?_) ?_
                · have e75 : a.tmps[75]?.getD undef = .int .i64 ((k : Int) + 1) := hs.get 0 75 (by kernel_rfl) (by kernel_rfl)
                  have e78 : a.tmps[78]?.getD undef = .int .i64 A := hs.get 3 78 (by kernel_rfl) (by kernel_rfl)
                  have e81 : a.tmps[81]?.getD undef = .int .i64 B := hs.get 6 81 (by kernel_rfl) (by kernel_rfl)
                  clear hB hL hD hd hs
                  have HJ := Lib.hid hJ
                  clear hJ
                  go_simp
                  exact hK.out _ _ rfl HJ.out (fun _ _ h => h)
                refine step_plain3 rfl (fun D a w hD hB hL hJ hd hs K hK => ?_) ?_
                · have h9 := hL 9 (by kernel_rfl)
                  have HJ := Lib.hid (JR.alloc hJ hD h9)
                  clear hJ hB hL hD hd hs
                  go_simp
                  exact hK.out _ _ trivial HJ.out (fun _ _ h => h)
                refine step_plain3 rfl (fun D a w hD hB hL hJ hd hs K hK => ?_) ?_
                · obtain ⟨x12, e12⟩ : ∃ x : Value, a.tmps[12]?.getD undef = x := ⟨_, rfl⟩
                  have e82 : a.tmps[82]?.getD undef = .agg #[.int .i64 ((k : Int) + 1), .int .i64 A, .int .i64 B] := hs.get 7 82 (by kernel_rfl) (by kernel_rfl)
                  have h8 := hB 8 (by kernel_rfl)
                  obtain ⟨H, hv, S1⟩ := JR.at hJ h8 hD
                  have hv : sl a 12 = .pointer (some ⟨H, 0, none⟩) := hv
                  obtain rfl : x12 = .pointer (some ⟨H, 0, none⟩) := e12.symm.trans hv
                  have z0 := St.locCell S1 0 _ rfl
                  have z1 := St.locCell S1 1 _ rfl
                  have z2 := St.locCell S1 2 _ rfl
                  have zf := fun j => St.locFrozen S1 j
                  have S2 := ((S1.locSet 0 (.int .i64 ((k : Int) + 1))).locSet 1 (.int .i64 A)).locSet 2 (.int .i64 B)
                  have HJ := Lib.hid (JR.put h8 hv S2)
                  clear hJ hB hL hD hd hs S1 S2 h8 hv
                  go_simp
                  exact hK.out (.bool false) _ trivial HJ.out (fun _ _ h => h)
                exact step_nil3
              · intro vs D w' hD hJ hA
                obtain ⟨H, hv, S1⟩ := JR.fin hJ (hD 8 (by decide)) (hD 9 (by decide))
                rw [sl_put vs (by kernel_rfl) 8 12 (by kernel_rfl)] at hv
                clear hJ hA hD
                simp only [putAll, Act.put, List.setIfInBounds_toArray, List.set_cons_zero, List.set_cons_succ]
                rw [hv]
                clear hv
                have r0 := St.locCell S1 0 _ rfl
                have r1 := St.locCell S1 1 _ rfl
                have r2 := St.locCell S1 2 _ rfl
                obtain ⟨kk, hkk⟩ : ∃ kk : Int, kk = (k : Int) + 1 := ⟨_, rfl⟩
                have hk1 : (((k + 1 : Nat)) : Int) = kk := by omega
                have CF := Lib.hid (s_cmd ⟨kk, A, B⟩ w')
                have HKS : RowKit.Hid (¬ (cmdB ⟨kk, A, B⟩ = true ∧ lineB ⟨kk, A, B⟩ = s) → ∀ m : Nat, 1 ≤ m → m ≤ k + 1 → ¬ (cmdB ⟨(m : Int), A, B⟩ = true ∧ lineB ⟨(m : Int), A, B⟩ = s)) := by
                  intro hn m h1 h2
                  by_cases hm : m ≤ k
                  · exact HK.out m h1 hm
                  · obtain rfl : m = k + 1 := by omega
                    rw [hk1]
                    exact hn
                rw [← hkk] at r0 S1 ⊢
                have hkA : 1 ≤ kk := by omega
                have hkB : kk ≤ 6 := by omega
                clear HK
                replace hkk := Lib.hid hkk
                clear hk1
                cases hcb : cmdB ⟨kk, A, B⟩ with
                | false =>
                  rw [hcb] at CF
                  have HK2 := Lib.hid (HKS.out (by rw [hcb]; rintro ⟨h, -⟩; cases h))
                  clear hcb HKS
                  go_wp2_with fail
                  refine CF.out.mono ?_
                  rintro e w8 ⟨rfl, g8⟩
                  have S9 := S1.tail.grow g8
                  clear S1 r0 r1 r2 CF
                  go_wp2_with fail
                  go_roundw
                  case rel => exact ⟨k + 1, by omega, by rw [hkk.out]; go_num, HK2, S9⟩
                  case measure => rw [hkk.out]; simp [intOf]; omega
                | true =>
                  have LN := Lib.hid (fun W => s_line ⟨kk, A, B⟩ W hcb)
                  rw [hcb] at CF
                  go_wp2_with fail
                  refine CF.out.mono ?_
                  rintro e w8 ⟨rfl, g8⟩
                  have S9 := S1.grow g8
                  have r0 := St.locCell S9 0 _ rfl
                  have r1 := St.locCell S9 1 _ rfl
                  have r2 := St.locCell S9 2 _ rfl
                  clear CF S1
                  go_wp2_with fail
                  refine (LN.out _).mono ?_
                  rintro e w9 ⟨rfl, g9⟩
                  have S10 := S9.grow g9
                  clear S9 r0 r1 r2 LN
                  by_cases he : lineB ⟨kk, A, B⟩ = s
                  · have hyes := Lib.hid (kind_hit hcb he)
                    rw [he]
                    have u0 := St.locCell S10 0 _ rfl
                    have u1 := St.locCell S10 1 _ rfl
                    have u2 := St.locCell S10 2 _ rfl
                    have S7 := St.moveOut (Ms := [_, _, _]) S10
                    have v0 := St.locCell S7 0 _ rfl
                    have v1 := St.locCell S7 1 _ rfl
                    have v2 := St.locCell S7 2 _ rfl
                    have vf := fun j => St.locFrozen S7 j
                    have S8 := ((S7.locSet 0 (.int .i64 kk)).locSet 1 (.int .i64 A)).locSet 2 (.int .i64 B)
                    have q0 := St.locCell S8 0 _ rfl
                    have q1 := St.locCell S8 1 _ rfl
                    have q2 := St.locCell S8 2 _ rfl
                    have RG := Lib.hid S8.gb
                    clear S7 S8 S10 he hcb FN HKS
                    go_wp2_with fail
                    exact bodyPost_ret (v := .tuple #[.agg #[.int .i64 kk, .int .i64 A, .int .i64 B], .bool true]) (by simp [results, Tryd.results38, go_sem, q0, q1, q2]) rfl (by rw [hyes.out]; exact ⟨rfl, RG.out⟩)
                  · have HK2 := Lib.hid (HKS.out (by rintro ⟨-, h⟩; exact he h))
                    have hne := str_ne he
                    have S9 := S10.tail
                    generalize lineB ⟨kk, A, B⟩ = LB at hne
                    clear hcb HKS S10 he
                    go_wp2_with fail
                    go_roundw
                    case rel => exact ⟨k + 1, by omega, by rw [hkk.out]; go_num, HK2, S9⟩
                    case measure => rw [hkk.out]; simp [intOf]; omega
            · obtain rfl : k = 6 := by omega
              have hno := Lib.hid (kind_miss FN.out HK.out)
              clear FN HK
              have S7 := St.moveOut (Ms := [_, _]) S
              have r0 := St.locCell S7 0 _ rfl
              have r1 := St.locCell S7 1 _ rfl
              have r2 := St.locCell S7 2 _ rfl
              have rf := fun j => St.locFrozen S7 j
              have S8 := ((S7.locSet 0 (.int .i64 0)).locSet 1 (.int .i64 0)).locSet 2 (.int .i64 0)
              have q0 := St.locCell S8 0 _ rfl
              have q1 := St.locCell S8 1 _ rfl
              have q2 := St.locCell S8 2 _ rfl
              have RG := Lib.hid S8.gb
              clear S7 S8 S
              go_wp2_with fail
              exact bodyPost_ret (v := .tuple #[.agg #[.int .i64 0, .int .i64 0, .int .i64 0], .bool false]) (by simp [results, Tryd.results38, go_sem, q0, q1, q2]) rfl (RET.out _ RG.out hno.out)
end Go.Proofs.YtbhelobahfgaeaaDoor
