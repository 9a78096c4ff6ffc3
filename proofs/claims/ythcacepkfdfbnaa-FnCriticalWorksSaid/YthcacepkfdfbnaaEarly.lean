/-
  EarliestStarts: both programs give the same list.
-/
import Derived.Test.YthcacepkfdfbnaaEarlyLaw
namespace Go.Proofs.Ythcacepkfdfbnaa
open Go Go.RowKit
set_option maxHeartbeats 4000000 in
theorem i_EarliestStarts (v : Value) (ys : List Wk) (w : World) (hv : DRds LWk DWk w v ys) :
    Calls Try.prog 21 #[v] w fun e w' => ∃ r, e = .returned r ∧ St w w' [Own LI r (early ys)] := by
  have hI := i_WorksValid v ys w hv
  cases hB : worksB ys with
  | false =>
    rw [hB] at hI
    rw [early_no hB]
    have hI' := Lib.hid hI
    clear hI hB
    go_enter Try.func21, Try.ntmps21
    go_wp2_with (go_at_call 16; refine (hI'.out).mono ?_; rintro e w1 ⟨rfl, g1⟩)
    go_ret
    exact ⟨_, rfl, ((St.refl w).grow g1).ownNil LI⟩
  | true =>
    rw [hB] at hI
    have hI' := Lib.hid hI
    have hok := Lib.hid (worksB_t.1 hB)
    rw [early_yes hB]
    clear hI hB
    obtain ⟨a, n, cap, rfl, h1, hm, HN, HC⟩ := hv.wks
    have hn12 : n ≤ 12 := by have := HN.out; have := hok.out.1; omega
    go_enter Try.func21, Try.ntmps21
    go_wp2_with (go_at_call 16; refine (hI'.out).mono ?_; rintro e w1 ⟨rfl, g1⟩)
    have S0 : St w w1 [Own LI (.slice none 0 0) (earlyTo ys 0)] := ((St.refl w).grow g1).ownNil LI
    clear g1
    go_loopw [3, 5, 6, 8, 14, 21] (fun o _ _ _ i _ wr => ∃ k : Nat, k ≤ n ∧ i = .int .i64 k ∧ St w wr [Own LI o (earlyTo ys k)]) (fun _ _ _ _ i _ _ => n - (intOf i).toNat)
    case atStart => exact ⟨0, by omega, rfl, S0⟩
    case round =>
      obtain ⟨k, hk, rfl, S⟩ := hrel
      clear S0
      by_cases hlt : k < n
      rotate_left
      · obtain rfl : k = n := by omega
        have e : RowKit.Hid (earlyTo ys k = earlyTo ys ys.length) := by show _ = _; rw [← HN.out]
        rw [e.out] at S
        clear e
        go_wp2
        go_ret
        exact ⟨_, rfl, S⟩
      obtain ⟨b, off, t, ra, rn, rc, y, rfl, hb, hy, hrn, hrc, hrm, hrd, hc0, hc1⟩ := HC.out k hlt
      have hc0' := gb_cell S.gb hc0 (by simp)
      have hc1' := gb_cell S.gb hc1 (by simp)
      obtain ⟨-, HC2⟩ := rds_int_at hrd
      have hwk := Lib.hid (wk_at hok.out hy.out)
      have hr12 : rn ≤ 12 := by have := hwk.out.2.1; have := hrn.out; omega
      obtain ⟨oa, on, oc, rfl, hon⟩ := (St.own S).slice
      have HO := Lib.hid hon
      clear hon hc0 hc1 hrd
      go_wp2_with fail
      have S1 := S.alloc (.cells #[.int .i64 t, .slice ra rn rc] 33)
      clear S hc0' hc1'
      go_loopw [6, 8, 21] (fun s _ i wr => ∃ (j : Nat) (M : Int), j ≤ rn ∧ i = .int .i64 j ∧ s = .int .i64 M ∧ 0 ≤ M ∧ M ≤ 1200 ∧ RowKit.Hid (M = startOf ys (earlyTo ys k) (y.take j)) ∧ St w wr [Own LI (.slice oa on oc) (earlyTo ys k)]) (fun _ _ i _ => rn - (intOf i).toNat)
      case atStart => exact ⟨0, 0, by omega, rfl, rfl, by omega, by omega, rfl, S1⟩
      case round =>
        obtain ⟨j, M, hj, rfl, rfl, hM0, hM1, HM, S'⟩ := hrel
        clear S1
        by_cases hlt2 : j < rn
        rotate_left
        · obtain rfl : j = rn := by omega
          have e : RowKit.Hid (M = startOf ys (earlyTo ys k) y) := by have := HM.out; rw [hrn.out, List.take_length] at this; exact this
          go_wp2_with (at_builtin; refine wpList_app1 LI_info rfl _ _ rfl S' M #[.int .i64 M] rfl rfl rfl (by rw [earlyTo_len]; omega) ?_; intro v' w2 S3)
          rw [e.out, ← earlyTo_succ hy.out] at S3
          go_roundw
          case rel => exact ⟨k + 1, by omega, by go_num, S3⟩
          case measure => simp [intOf]; omega
        obtain ⟨b2, off2, x, rfl, hb2, hx, hd⟩ := HC2.out j hlt2
        have hd' := gb_cell S'.gb hd (by simp)
        obtain ⟨x0, x1⟩ := hwk.out.2.2 x (List.mem_of_getElem? hx.out)
        obtain ⟨A, rfl⟩ := Int.eq_ofNat_of_zero_le x0
        obtain ⟨b3, off3, tA, qa, qn, qc, yA, hab, hb3, hyA, -, -, -, -, hcA, -⟩ := HC.out A (by omega)
        obtain ⟨rfl, rfl⟩ : b = b3 ∧ off = off3 := by simpa using hab
        have hcA' := gb_cell S'.gb hcA (by simp)
        obtain ⟨oa', on', oc', hov, -, hom, HN3, HC3⟩ := LI_own S'
        simp only [Value.slice.injEq] at hov
        obtain ⟨rfl, rfl, rfl⟩ := hov
        have hon : on = k := by rw [HN3.out, earlyTo_len]
        obtain ⟨g, z, rfl, -, -, hz, hcz, -⟩ := HC3.out A (by omega)
        have hzz : (earlyTo ys k).getD A 0 = z := by rw [List.getD_eq_getElem?_getD, hz.out]; rfl
        have zb := earlyTo_bd hok.out k A (by omega)
        rw [hzz] at zb
        obtain ⟨z0, z1⟩ := zb
        have tb := (wk_at hok.out hyA.out).1
        obtain ⟨t0, t1⟩ := tb
        have HM2 : RowKit.Hid (max M (z + tA) = startOf ys (earlyTo ys k) (y.take (j + 1))) := by
          show _ = _
          rw [startOf_take _ _ _ _ _ hx.out, ← HM.out, Int.toNat_natCast, hzz, tm_at hyA.out]
        have i0 : (0 : Int) ≤ (A : Int) := by omega
        have i1 : (A : Int) < (on : Int) := by omega
        have i2 : (A : Int) < (n : Int) := by omega
        clear hab hcA hd hzz hon HN3 HC3 hz hyA hx HM
        go_wp2
        go_quiet (fail)
        go_wp2
        go_roundw
        case rel => exact ⟨j + 1, max M (z + tA), by omega, by go_num, by (congr 1; split <;> omega), by omega, by omega, HM2, S'.drewN _⟩
        case measure => simp [intOf]; omega
set_option maxHeartbeats 4000000 in
theorem s_EarliestStarts (v : Value) (ys : List Wk) (w : World) (hv : DRds LWk DWk w v ys) :
    Calls Try.prog 23 #[v] w fun e w' => ∃ r, e = .returned r ∧ St w w' [Own LI r (early ys)] := by
  have hI := s_WorksValid v ys (w.alloc (.cells #[] 3)) (hv.kept (World.grownBy_alloc _ _ _))
  have SE := (St.refl w).ownEmpty LI
  cases hB : worksB ys with
  | false =>
    rw [hB] at hI
    rw [early_no hB]
    have hI' := Lib.hid hI
    clear hI hB
    go_enter Try.func23, Try.ntmps23
    go_wp2_with (go_at_call 14; refine (hI'.out).mono ?_; rintro e w1 ⟨rfl, g1⟩)
    go_ret
    exact ⟨_, rfl, SE.grow g1⟩
  | true =>
    rw [hB] at hI
    have hI' := Lib.hid hI
    have hok := Lib.hid (worksB_t.1 hB)
    rw [early_yes hB]
    clear hI hB
    obtain ⟨a, n, cap, rfl, h1, hm, HN, HC⟩ := hv.wks
    have hn12 : n ≤ 12 := by have := HN.out; have := hok.out.1; omega
    go_enter Try.func23, Try.ntmps23
    go_wp2_with (go_at_call 14; refine (hI'.out).mono ?_; rintro e w1 ⟨rfl, g1⟩)
    have S0 : St w w1 [Own LI (.slice (some ⟨w.heap.size, 0, none⟩) 0 0) (earlyTo ys 0)] := SE.grow g1
    clear g1 SE
    go_loopw [3, 4, 5, 6, 7] (fun o i _ _ _ wr => ∃ k : Nat, k ≤ n ∧ i = .int .i64 k ∧ St w wr [Own LI o (earlyTo ys k)]) (fun _ i _ _ _ _ => n - (intOf i).toNat)
    case atStart => exact ⟨0, by omega, rfl, S0⟩
    case round =>
      obtain ⟨k, hk, rfl, S⟩ := hrel
      clear S0
      by_cases hlt : k < n
      rotate_left
      · obtain rfl : k = n := by omega
        have e : RowKit.Hid (earlyTo ys k = earlyTo ys ys.length) := by show _ = _; rw [← HN.out]
        rw [e.out] at S
        clear e
        go_wp2
        go_ret
        exact ⟨_, rfl, S⟩
      obtain ⟨b, off, t, ra, rn, rc, y, rfl, hb, hy, hrn, hrc, hrm, hrd, hc0, hc1⟩ := HC.out k hlt
      obtain ⟨-, HC2⟩ := rds_int_at hrd
      have hwk := Lib.hid (wk_at hok.out hy.out)
      have hr12 : rn ≤ 12 := by have := hwk.out.2.1; have := hrn.out; omega
      obtain ⟨oa, on, oc, rfl, hon⟩ := (St.own S).slice
      have HO := Lib.hid hon
      clear hon hc0 hrd
      go_wp2_with fail
      go_loopw [5, 6, 7] (fun s i _ wr => ∃ (j : Nat) (M : Int), j ≤ rn ∧ i = .int .i64 j ∧ s = .int .i64 M ∧ 0 ≤ M ∧ M ≤ 1200 ∧ RowKit.Hid (M = startOf ys (earlyTo ys k) (y.take j)) ∧ St w wr [Own LI (.slice oa on oc) (earlyTo ys k)]) (fun _ i _ _ => rn - (intOf i).toNat)
      case atStart => exact ⟨0, 0, by omega, rfl, rfl, by omega, by omega, rfl, S⟩
      case round =>
        obtain ⟨j, M, hj, rfl, rfl, hM0, hM1, HM, S'⟩ := hrel
        have hc1' := gb_cell S'.gb hc1 (by simp)
        clear S
        by_cases hlt2 : j < rn
        rotate_left
        · obtain rfl : j = rn := by omega
          have e : RowKit.Hid (M = startOf ys (earlyTo ys k) y) := by have := HM.out; rw [hrn.out, List.take_length] at this; exact this
          go_wp2_with (at_builtin; refine wpList_app1 LI_info rfl _ _ rfl S' M #[.int .i64 M] rfl rfl rfl (by rw [earlyTo_len]; omega) ?_; intro v' w2 S3)
          rw [e.out, ← earlyTo_succ hy.out] at S3
          go_roundw
          case rel => exact ⟨k + 1, by omega, by go_num, S3⟩
          case measure => simp [intOf]; omega
        obtain ⟨b2, off2, x, rfl, hb2, hx, hd⟩ := HC2.out j hlt2
        have hd' := gb_cell S'.gb hd (by simp)
        obtain ⟨x0, x1⟩ := hwk.out.2.2 x (List.mem_of_getElem? hx.out)
        obtain ⟨A, rfl⟩ := Int.eq_ofNat_of_zero_le x0
        obtain ⟨b3, off3, tA, qa, qn, qc, yA, hab, hb3, hyA, -, -, -, -, hcA, -⟩ := HC.out A (by omega)
        obtain ⟨rfl, rfl⟩ : b = b3 ∧ off = off3 := by simpa using hab
        have hcA' := gb_cell S'.gb hcA (by simp)
        obtain ⟨oa', on', oc', hov, -, hom, HN3, HC3⟩ := LI_own S'
        simp only [Value.slice.injEq] at hov
        obtain ⟨rfl, rfl, rfl⟩ := hov
        have hon : on = k := by rw [HN3.out, earlyTo_len]
        obtain ⟨g, z, rfl, -, -, hz, hcz, -⟩ := HC3.out A (by omega)
        have hzz : (earlyTo ys k).getD A 0 = z := by rw [List.getD_eq_getElem?_getD, hz.out]; rfl
        have zb := earlyTo_bd hok.out k A (by omega)
        rw [hzz] at zb
        obtain ⟨z0, z1⟩ := zb
        have tb := (wk_at hok.out hyA.out).1
        obtain ⟨t0, t1⟩ := tb
        have HM2 : RowKit.Hid (max M (z + tA) = startOf ys (earlyTo ys k) (y.take (j + 1))) := by
          show _ = _
          rw [startOf_take _ _ _ _ _ hx.out, ← HM.out, Int.toNat_natCast, hzz, tm_at hyA.out]
        have i0 : (0 : Int) ≤ (A : Int) := by omega
        have i1 : (A : Int) < (on : Int) := by omega
        have i2 : (A : Int) < (n : Int) := by omega
        clear hab hcA hd hzz hon HN3 HC3 hz hyA hx HM hc1
        go_wp2
        go_quiet (fail)
        go_wp2
        go_roundw
        case rel => exact ⟨j + 1, max M (z + tA), by omega, by go_num, by (congr 1; split <;> omega), by omega, by omega, HM2, S'.drewN _⟩
        case measure => simp [intOf]; omega
end Go.Proofs.Ythcacepkfdfbnaa
