/-
  FormatProgram: both programs give the same lines.
-/
import Derived.Test.YtbhelobahfgaeaaDoorLine
import Derived.Test.YtbhelobahfgaeaaDoorStringS
import Derived.Test.YtbhelobahfgaeaaDoorCmdWalk
namespace Go.Proofs.YtbhelobahfgaeaaDoor
open Go Go.RowKit
set_option linter.unusedVariables false
theorem progGo_cmd : ∀ (xs : List Cmd) (d : Int), progGo xs d = true → ∀ (k : Nat) (c : Cmd), xs[k]? = some c → cmdB c = true
  | [], _, _, k, c, hc => by simp at hc
  | x :: xs, d, h, k, c, hc => by
    rw [progGo, Bool.and_eq_true, Bool.and_eq_true] at h
    cases k with
    | zero => simp at hc; subst hc; exact h.1
    | succ k => exact progGo_cmd xs _ h.2.2 k c (by simpa using hc)
theorem progB_cmd {xs : List Cmd} (h : progB xs = true) (k : Nat) (c : Cmd) (hc : xs[k]? = some c) : cmdB c = true := by
  unfold progB at h
  rw [Bool.and_eq_true] at h
  exact progGo_cmd xs 0 h.2 k c hc
theorem progB_len {xs : List Cmd} (h : progB xs = true) : xs.length ≤ 30 := by
  unfold progB at h
  rw [Bool.and_eq_true, decide_eq_true_eq] at h
  exact h.1
def formatL (xs : List Cmd) : List ByteArray := if progB xs then xs.map lineB else []
theorem formatL_len (xs : List Cmd) : (formatL xs).length ≤ 30 := by
  unfold formatL
  split
  · rename_i h
    rw [List.length_map]
    exact progB_len h
  · simp
theorem map_step {xs : List Cmd} {k : Nat} {c : Cmd} (h : xs[k]? = some c) : (xs.take k).map lineB ++ [lineB c] = (xs.take (k + 1)).map lineB := by
  obtain ⟨hk, rfl⟩ := List.getElem?_eq_some_iff.1 h
  rw [List.take_succ_eq_append_getElem hk, List.map_append]
  rfl
set_option maxRecDepth 20000 in
set_option maxHeartbeats 1000000 in
theorem i_FormatProgram (v : Value) (xs : List Cmd) (w : World) (ht : Tab w) (hv : Rds LCmd w v xs) :
    Calls Tryd.prog 8 #[v] w fun e w' => ∃ r, e = .returned r ∧ St w w' [Own LS r (formatL xs)] := by
  have HV := i_ProgramValid v xs w hv
  unfold formatL
  cases hB : progB xs with
  | false =>
    rw [hB] at HV
    clear hB
    go_enter Tryd.func8, Tryd.ntmps8
    go_wp2_with fail
    refine HV.mono ?_
    rintro e w1 ⟨rfl, g1⟩
    go_wp2_with fail
    go_ret
    exact ⟨_, rfl, ((St.refl w).grow g1).ownNil LS⟩
  | true =>
    rw [hB] at HV
    have HB := Lib.hid (fun k c hc => progB_cmd hB k c hc)
    have hl := progB_len hB
    clear hB
    rw [if_pos rfl]
    obtain ⟨a, n, cap, rfl, h1, hm, HN, HC⟩ := LCmd_get hv
    have HT := Lib.hid ht
    have hn30 : n ≤ 30 := by rw [HN.out]; exact hl
    clear hl ht
    go_enter Tryd.func8, Tryd.ntmps8
    go_wp2_with fail
    refine HV.mono ?_
    rintro e w1 ⟨rfl, g1⟩
    have S0 : St w w1 [Own LS (.slice none 0 0) ((xs.take 0).map lineB)] := ((St.refl w).grow g1).ownNil LS
    clear HV g1
    go_wp2_with fail
    go_loopw [3, 5, 11] (fun o _ i wr => ∃ k : Nat, k ≤ n ∧ i = .int .i64 k ∧ St w wr [Own LS o ((xs.take k).map lineB)]) (fun _ _ i _ => n - (intOf i).toNat)
    case atStart => exact ⟨0, by omega, rfl, S0⟩
    case round =>
      obtain ⟨k, hk, rfl, S⟩ := hrel
      clear S0
      by_cases hlt : k < n
      · obtain ⟨b, off, c, rfl, hb, hc, c0, c1, c2⟩ := HC.out k hlt
        have d0 := gb_cell S.gb c0 (by simp)
        have d1 := gb_cell S.gb c1 (by simp)
        have d2 := gb_cell S.gb c2 (by simp)
        have hck := HB.out k c hc.out
        have S1 := S.grow (gb_alloc (World.grownBy.refl wr none) (.cells #[.int .i64 c.Kind, .int .i64 c.A, .int .i64 c.B] 47))
        have LN := Lib.hid (i_line c (wr.alloc (.cells #[.int .i64 c.Kind, .int .i64 c.A, .int .i64 c.B] 47)) (HT.out.grow S1.gb) hck)
        have MS := Lib.hid (map_step hc.out)
        have hkl : ((xs.take k).map lineB).length ≤ 1000000000 := by rw [List.length_map, List.length_take]; omega
        obtain ⟨K, A, B⟩ := c
        dsimp only at d0 d1 d2 LN S1
        generalize lineB ⟨K, A, B⟩ = LB at LN MS
        clear c0 c1 c2 hck hc S
        go_wp2_with fail
        refine LN.out.mono ?_
        rintro e w2 ⟨rfl, g2⟩
        have S2 := S1.grow g2
        clear S1 g2
        go_wp2_with (at_builtin; refine wpList_app1 LS_info rfl _ _ rfl S2 LB #[.string LB] rfl rfl rfl hkl ?_; intro v' w5 S3; rw [MS.out] at S3; clear S2)
        go_roundw
        case rel => exact ⟨k + 1, by omega, by go_num, S3⟩
        case measure => simp [intOf]; omega
      · obtain rfl : k = n := by omega
        have e : (xs.take k).map lineB = xs.map lineB := by rw [HN.out, List.take_length]
        rw [e] at S
        go_wp2
        go_ret
        exact ⟨_, rfl, S⟩
set_option maxRecDepth 20000 in
set_option maxHeartbeats 1000000 in
theorem s_FormatProgram (v : Value) (xs : List Cmd) (w : World) (hv : Rds LCmd w v xs) :
    Calls Tryd.prog 10 #[v] w fun e w' => ∃ r, e = .returned r ∧ St w w' [Own LS r (formatL xs)] := by
  have HV : RowKit.Hid (∀ W, w.grownBy W none → Calls Tryd.prog 11 #[v] W fun e w' => e = .returned (.bool (progB xs)) ∧ W.grownBy w' none) := fun W g => s_ProgramValid v xs W (hv.kept g)
  have SE := (St.refl w).ownEmpty LS
  unfold formatL
  obtain ⟨a, n, cap, rfl, h1, hm, HN, HC⟩ := LCmd_get hv
  cases hB : progB xs with
  | false =>
    have HV2 := HV.out
    rw [hB] at HV2
    have HV := Lib.hid HV2
    clear hB HV2
    rw [if_neg (by decide)]
    go_enter Tryd.func10, Tryd.ntmps10
    go_wp2
    refine wp_loop_rounds 2 ?_
    rw [rounds_succ]
    by_cases hn : n = 0
    · subst hn
      go_wp2
      go_ret
      exact ⟨_, rfl, SE⟩
    · have hn2 : 0 < n := by omega
      go_wp2_with fail
      refine (HV.out _ SE.gb).mono ?_
      rintro e w1 ⟨rfl, g1⟩
      go_wp2
      go_ret
      exact ⟨_, rfl, SE.grow g1⟩
  | true =>
    have HV2 := HV.out
    rw [hB] at HV2
    have HV := Lib.hid HV2
    have HB := Lib.hid (fun k c hc => progB_cmd hB k c hc)
    have hl := progB_len hB
    clear hB HV2
    rw [if_pos rfl]
    have hn30 : n ≤ 30 := by rw [HN.out]; exact hl
    have S0 : St w (w.alloc (.cells #[] 9)) [Own LS (.slice (some ⟨w.heap.size, 0, none⟩) 0 0) ((xs.take 0).map lineB)] := SE
    clear hl SE
    go_enter Tryd.func10, Tryd.ntmps10
    go_wp2_with fail
    go_loopw [3, 4] (fun o i wr => ∃ k : Nat, k ≤ n ∧ i = .int .i64 k ∧ St w wr [Own LS o ((xs.take k).map lineB)]) (fun _ i _ => n - (intOf i).toNat)
    case atStart => exact ⟨0, by omega, rfl, S0⟩
    case round =>
      obtain ⟨k, hk, rfl, S⟩ := hrel
      clear S0
      by_cases hlt : k < n
      · obtain ⟨b, off, c, rfl, hb, hc, c0, c1, c2⟩ := HC.out k hlt
        have hck := HB.out k c hc.out
        have LN := Lib.hid (fun W => s_line c W hck)
        have MS := Lib.hid (map_step hc.out)
        have hkl : ((xs.take k).map lineB).length ≤ 1000000000 := by rw [List.length_map, List.length_take]; omega
        obtain ⟨K, A, B⟩ := c
        dsimp only at c0 c1 c2 LN
        generalize lineB ⟨K, A, B⟩ = LB at LN MS
        clear hck hc
        go_wp2_with fail
        refine (HV.out _ S.gb).mono ?_
        rintro e w1 ⟨rfl, g1⟩
        have S1 := S.grow g1
        have d0 := gb_cell S1.gb c0 (by simp)
        have d1 := gb_cell S1.gb c1 (by simp)
        have d2 := gb_cell S1.gb c2 (by simp)
        clear S g1
        go_wp2_with fail
        refine (LN.out _).mono ?_
        rintro e w2 ⟨rfl, g2⟩
        have S2 := S1.grow g2
        clear S1 g2 d0 d1 d2
        go_wp2_with (at_builtin; refine wpList_app1 LS_info rfl _ _ rfl S2 LB #[.string LB] rfl rfl rfl hkl ?_; intro v' w5 S3; rw [MS.out] at S3; clear S2)
        go_roundw
        case rel => exact ⟨k + 1, by omega, by go_num, S3⟩
        case measure => simp [intOf]; omega
      · obtain rfl : k = n := by omega
        have e : (xs.take k).map lineB = xs.map lineB := by rw [HN.out, List.take_length]
        rw [e] at S
        go_wp2
        go_ret
        exact ⟨_, rfl, S⟩
end Go.Proofs.YtbhelobahfgaeaaDoor
