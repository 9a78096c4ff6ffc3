/-
  CriticalWorks: both programs give the same list.
-/
import Derived.Test.YthcacepkfdfbnaaLate
namespace Go.Proofs.Ythcacepkfdfbnaa
open Go Go.RowKit
noncomputable def isCrit (ys : List Wk) (i : Nat) : Bool := (early ys).getD i 0 == (late ys).getD i 0
noncomputable def critTo (ys : List Wk) (k : Nat) : List Int := ((List.range k).filter (isCrit ys)).map (fun (i : Nat) => (i : Int))
noncomputable def critical (ys : List Wk) : List Int := critTo ys (early ys).length
theorem critTo_yes {ys : List Wk} {k : Nat} (h : isCrit ys k = true) : critTo ys (k + 1) = critTo ys k ++ [(k : Int)] := by
  unfold critTo
  rw [List.range_succ, List.filter_append, List.map_append]
  simp [List.filter, h]
theorem critTo_no {ys : List Wk} {k : Nat} (h : isCrit ys k = false) : critTo ys (k + 1) = critTo ys k := by
  unfold critTo
  rw [List.range_succ, List.filter_append, List.map_append]
  simp [List.filter, h]
theorem critTo_len (ys : List Wk) (k : Nat) : (critTo ys k).length ≤ k := by
  unfold critTo
  rw [List.length_map]
  have := List.length_filter_le (isCrit ys) (List.range k)
  simpa using this
theorem critical_len (ys : List Wk) : (critical ys).length ≤ 12 := Nat.le_trans (critTo_len ys _) (early_len ys)
theorem late_early_len (ys : List Wk) : (late ys).length = (early ys).length := by
  cases h : worksB ys with
  | true => rw [late_yes h, early_yes h, lateRun_len, lateInit_len, earlyTo_len]
  | false => rw [late_no h, early_no h]
set_option maxHeartbeats 4000000 in
theorem i_CriticalWorks (v : Value) (ys : List Wk) (w : World) (hv : DRds LWk DWk w v ys) :
    Calls Try.prog 35 #[v] w fun e w' => ∃ r, e = .returned r ∧ St w w' [Own LI r (critical ys)] := by
  go_enter Try.func35, Try.ntmps35
  go_wp2_with fail
  refine (i_LatestStarts v ys _ hv).mono ?_
  rintro e w1 ⟨rl, rfl, S1⟩
  go_wp2_with fail
  refine (i_EarliestStarts v ys _ (S1.drdsOld hv)).mono ?_
  rintro e w2 ⟨re, rfl, S2⟩
  replace S2 := S1.call S2
  simp only [List.cons_append, List.nil_append] at S2
  have R2 := St.own S2
  have R3 := St.own (St.moveOut (Ms := [_]) S2)
  obtain ⟨ea, n, ec, rfl, hen⟩ := R2.slice
  obtain ⟨la, ln, lc, rfl, hln⟩ := R3.slice
  obtain rfl : ln = n := by rw [hln, hen, late_early_len]
  have hn12 : ln ≤ 12 := by rw [hen]; exact early_len ys
  have HN := Lib.hid hen
  clear hen hln S1 R2 R3
  have S0 : St w w2 (Own LI (.slice none 0 0) (critTo ys 0) :: [Own LI (.slice ea ln ec) (early ys), Own LI (.slice la ln lc) (late ys)]) := S2.ownNil LI
  clear S2
  go_wp2_with fail
  go_loopw [4, 5, 6, 12] (fun o _ _ i wr => ∃ k : Nat, k ≤ ln ∧ i = .int .i64 k ∧ St w wr (Own LI o (critTo ys k) :: [Own LI (.slice ea ln ec) (early ys), Own LI (.slice la ln lc) (late ys)])) (fun _ _ _ i _ => ln - (intOf i).toNat)
  case atStart => exact ⟨0, by omega, rfl, S0⟩
  case round =>
    obtain ⟨k, hk, rfl, S⟩ := hrel
    clear S0
    by_cases hlt : k < ln
    rotate_left
    · obtain rfl : k = ln := by omega
      have S' : St w wr (Own LI u4 (critical ys) :: [Own LI (.slice ea k ec) (early ys), Own LI (.slice la k lc) (late ys)]) := by unfold critical; rw [← HN.out]; exact S
      clear S
      go_wp2
      go_ret
      exact ⟨_, rfl, St.drop1 (Ms := [_]) S'⟩
    obtain ⟨ea', en', ec', hev, -, -, HNe, HCe⟩ := LI_own (St.moveOut (Ms := [_]) S)
    simp only [Value.slice.injEq] at hev
    obtain ⟨rfl, rfl, rfl⟩ := hev
    obtain ⟨la', ln', lc', hlv, -, -, HNl, HCl⟩ := LI_own (St.moveOut (Ms := [_, _]) S)
    simp only [Value.slice.injEq] at hlv
    obtain ⟨rfl, -, rfl⟩ := hlv
    obtain ⟨ge, z, rfl, -, -, hz, hcz, -⟩ := HCe.out k hlt
    obtain ⟨gl, q, rfl, -, -, hq, hcq, -⟩ := HCl.out k (by rw [HNl.out, late_early_len, ← HNe.out]; exact hlt)
    have i0 : (0 : Int) ≤ (k : Int) := by omega
    have i1 : (k : Int) < (ln : Int) := by omega
    have hcr : isCrit ys k = (z == q) := by unfold isCrit; rw [List.getD_eq_getElem?_getD, List.getD_eq_getElem?_getD, hz.out, hq.out]; rfl
    obtain ⟨o, rfl⟩ : ∃ o, o = u4 := ⟨_, rfl⟩
    by_cases heq : z = q
    · subst heq
      have hc := Lib.hid (critTo_yes (hcr.trans (by simp)))
      have hl := critTo_len ys k
      clear hcr hz hq HNe HNl HCe HCl
      go_wp2_with (at_builtin; refine wpList_app1 LI_info rfl _ _ rfl S (k : Int) #[.int .i64 k] rfl rfl rfl (by omega) ?_; intro v' w4 S3)
      rw [← hc.out] at S3
      go_roundw
      case rel => exact ⟨k + 1, by omega, by go_num, S3⟩
      case measure => simp [intOf]; omega
    · have hc := Lib.hid (critTo_no (hcr.trans (by simpa using heq)))
      have hne : (z == q) = false := by simpa using heq
      clear hcr hz hq HNe HNl HCe HCl
      go_wp2
      rw [← hc.out] at S
      go_roundw
      case rel => exact ⟨k + 1, by omega, by go_num, S⟩
      case measure => simp [intOf]; omega
set_option maxHeartbeats 4000000 in
theorem s_CriticalWorks (v : Value) (ys : List Wk) (w : World) (hv : DRds LWk DWk w v ys) :
    Calls Try.prog 36 #[v] w fun e w' => ∃ r, e = .returned r ∧ St w w' [Own LI r (critical ys)] := by
  have SE := (St.refl w).ownEmpty LI
  go_enter Try.func36, Try.ntmps36
  go_wp2_with fail
  refine (s_EarliestStarts v ys _ (SE.drdsOld hv)).mono ?_
  rintro e w1 ⟨re, rfl, S1⟩
  replace S1 := SE.call S1
  simp only [List.cons_append, List.nil_append] at S1
  go_wp2_with fail
  refine (s_LatestStarts v ys _ (S1.drdsOld hv)).mono ?_
  rintro e w2 ⟨rl, rfl, S2⟩
  replace S2 := S1.call S2
  simp only [List.cons_append, List.nil_append] at S2
  have R2 := St.own (St.moveOut (Ms := [_]) S2)
  have R3 := St.own S2
  obtain ⟨ea, n, ec, rfl, hen⟩ := R2.slice
  obtain ⟨la, ln, lc, rfl, hln⟩ := R3.slice
  obtain rfl : ln = n := by rw [hln, hen, late_early_len]
  have hn12 : ln ≤ 12 := by rw [hen]; exact early_len ys
  have HN := Lib.hid hen
  clear hen hln S1 R2 R3
  have S0 : St w w2 (Own LI (.slice (some ⟨w.heap.size, 0, none⟩) 0 0) (critTo ys 0) :: [Own LI (.slice ea ln ec) (early ys), Own LI (.slice la ln lc) (late ys)]) := S2.perm ((List.Perm.swap _ _ _).trans ((((List.Perm.swap _ _ _).cons _)).trans (.swap _ _ _)))
  clear S2 SE
  go_wp2_with fail
  go_loopw [3, 6] (fun o i wr => ∃ k : Nat, k ≤ ln ∧ i = .int .i64 k ∧ St w wr (Own LI o (critTo ys k) :: [Own LI (.slice ea ln ec) (early ys), Own LI (.slice la ln lc) (late ys)])) (fun _ i _ => ln - (intOf i).toNat)
  case atStart => exact ⟨0, by omega, rfl, S0⟩
  case round =>
    obtain ⟨k, hk, rfl, S⟩ := hrel
    clear S0
    by_cases hlt : k < ln
    rotate_left
    · obtain rfl : k = ln := by omega
      have S' : St w wr (Own LI u3 (critical ys) :: [Own LI (.slice ea k ec) (early ys), Own LI (.slice la k lc) (late ys)]) := by unfold critical; rw [← HN.out]; exact S
      clear S
      go_wp2
      go_ret
      exact ⟨_, rfl, St.drop1 (Ms := [_]) S'⟩
    obtain ⟨ea', en', ec', hev, -, -, HNe, HCe⟩ := LI_own (St.moveOut (Ms := [_]) S)
    simp only [Value.slice.injEq] at hev
    obtain ⟨rfl, rfl, rfl⟩ := hev
    obtain ⟨la', ln', lc', hlv, -, -, HNl, HCl⟩ := LI_own (St.moveOut (Ms := [_, _]) S)
    simp only [Value.slice.injEq] at hlv
    obtain ⟨rfl, -, rfl⟩ := hlv
    obtain ⟨ge, z, rfl, -, -, hz, hcz, -⟩ := HCe.out k hlt
    obtain ⟨gl, q, rfl, -, -, hq, hcq, -⟩ := HCl.out k (by rw [HNl.out, late_early_len, ← HNe.out]; exact hlt)
    have i0 : (0 : Int) ≤ (k : Int) := by omega
    have i1 : (k : Int) < (ln : Int) := by omega
    have hcr : isCrit ys k = (z == q) := by unfold isCrit; rw [List.getD_eq_getElem?_getD, List.getD_eq_getElem?_getD, hz.out, hq.out]; rfl
    obtain ⟨o, rfl⟩ : ∃ o, o = u3 := ⟨_, rfl⟩
    by_cases heq : z = q
    · subst heq
      have hc := Lib.hid (critTo_yes (hcr.trans (by simp)))
      have hl := critTo_len ys k
      clear hcr hz hq HNe HNl HCe HCl
      go_wp2_with (at_builtin; refine wpList_app1 LI_info rfl _ _ rfl S (k : Int) #[.int .i64 k] rfl rfl rfl (by omega) ?_; intro v' w4 S3)
      go_quiet (fail)
      go_wp2_with (at_builtin; refine wpList_app1 LI_info rfl _ _ rfl (S.drewN _) (k : Int) #[.int .i64 k] rfl rfl rfl (by omega) ?_; intro v' w4 S3)
      rw [← hc.out] at S3
      go_roundw
      case rel => exact ⟨k + 1, by omega, by go_num, S3⟩
      case measure => simp [intOf]; omega
    · have hc := Lib.hid (critTo_no (hcr.trans (by simpa using heq)))
      have hne : (z == q) = false := by simpa using heq
      clear hcr hz hq HNe HNl HCe HCl
      go_wp2
      go_quiet (fail)
      go_wp2
      rw [← hc.out] at S
      go_roundw
      case rel => exact ⟨k + 1, by omega, by go_num, S.drewN _⟩
      case measure => simp [intOf]; omega
end Go.Proofs.Ythcacepkfdfbnaa
