/-
  CycleTime: both programs give the same number.
-/
import Derived.Test.YthcacepkfdfbnaaEarly
namespace Go.Proofs.Ythcacepkfdfbnaa
open Go Go.RowKit
def endOf (ys : List Wk) (i : Nat) : Int := (earlyTo ys ys.length).getD i 0 + tm ys i
def cycTo (ys : List Wk) : Nat → Int
  | 0 => 0
  | k + 1 => max (cycTo ys k) (endOf ys k)
noncomputable def cycle (ys : List Wk) : Int := if worksB ys then cycTo ys ys.length else -1
theorem cycle_no {ys : List Wk} (h : worksB ys = false) : cycle ys = -1 := by unfold cycle; rw [h]; rfl
theorem cycle_yes {ys : List Wk} (h : worksB ys = true) : cycle ys = cycTo ys ys.length := by unfold cycle; rw [h]; rfl
theorem endOf_bd {ys : List Wk} (h : worksOk ys) (i : Nat) (hi : i < ys.length) : 0 ≤ endOf ys i ∧ endOf ys i ≤ 1200 := by
  unfold endOf
  have h1 := earlyTo_bd h ys.length i hi
  have h2 := tm_bd h i
  have h3 := h.1
  omega
theorem cycTo_bd {ys : List Wk} (h : worksOk ys) : ∀ k, k ≤ ys.length → 0 ≤ cycTo ys k ∧ cycTo ys k ≤ 1200
  | 0, _ => by simp [cycTo]
  | k + 1, hk => by
    have h1 := cycTo_bd h k (by omega)
    have h2 := endOf_bd h k (by omega)
    unfold cycTo
    omega
set_option maxHeartbeats 4000000 in
theorem i_CycleTime (v : Value) (ys : List Wk) (w : World) (hv : DRds LWk DWk w v ys) :
    Calls Try.prog 29 #[v] w fun e w' => e = .returned (.int .i64 (cycle ys)) ∧ w.grownBy w' none := by
  have hI := i_WorksValid v ys w hv
  cases hB : worksB ys with
  | false =>
    rw [hB] at hI
    rw [cycle_no hB]
    have hI' := Lib.hid hI
    clear hI hB
    go_enter Try.func29, Try.ntmps29
    go_wp2_with (go_at_call 16; refine (hI'.out).mono ?_; rintro e w1 ⟨rfl, g1⟩)
    go_ret
    exact ⟨rfl, g1⟩
  | true =>
    rw [hB] at hI
    have hI' := Lib.hid hI
    have hok := Lib.hid (worksB_t.1 hB)
    have he := Lib.hid (early_yes hB)
    rw [cycle_yes hB]
    clear hI hB
    have hv0 := hv
    obtain ⟨a, n, cap, rfl, h1, hm, HN, HC⟩ := hv.wks
    have hn12 : n ≤ 12 := by have := HN.out; have := hok.out.1; omega
    go_enter Try.func29, Try.ntmps29
    go_wp2_with (go_at_call 16; refine (hI'.out).mono ?_; rintro e w1 ⟨rfl, g1⟩)
    go_wp2_with fail
    refine (i_EarliestStarts _ ys _ (hv0.kept g1)).mono ?_
    rintro e w2 ⟨r, rfl, S0⟩
    replace S0 := ((St.refl w).grow g1).call S0
    clear g1
    rw [he.out] at S0
    simp only [List.cons_append, List.nil_append] at S0
    obtain ⟨oa, on, oc, rfl, hon⟩ := (St.own S0).slice
    obtain rfl : on = n := by rw [hon, earlyTo_len, HN.out]
    have HO := Lib.hid hon
    clear hon
    go_wp2_with fail
    go_loopw [3, 4, 5, 12] (fun c _ _ i wr => ∃ (k : Nat) (M : Int), k ≤ on ∧ i = .int .i64 k ∧ c = .int .i64 M ∧ 0 ≤ M ∧ M ≤ 1200 ∧ RowKit.Hid (M = cycTo ys k) ∧ St w wr [Own LI (.slice oa on oc) (earlyTo ys ys.length)]) (fun _ _ _ i _ => on - (intOf i).toNat)
    case atStart => exact ⟨0, 0, by omega, rfl, rfl, by omega, by omega, rfl, S0⟩
    case round =>
      obtain ⟨k, M, hk, rfl, rfl, hM0, hM1, HM, S'⟩ := hrel
      clear S0
      by_cases hlt : k < on
      rotate_left
      · obtain rfl : k = on := by omega
        have e : RowKit.Hid (M = cycTo ys ys.length) := by have := HM.out; rw [HN.out] at this; exact this
        go_wp2
        go_ret
        exact ⟨by rw [← e.out]; rfl, S'.gb⟩
      obtain ⟨b, off, t, ra, rn, rc, y, rfl, hb, hy, -, -, -, -, hc0, -⟩ := HC.out k hlt
      have hc0' := gb_cell S'.gb hc0 (by simp)
      obtain ⟨oa', on', oc', hov, -, hom, HN3, HC3⟩ := LI_own S'
      simp only [Value.slice.injEq] at hov
      obtain ⟨rfl, rfl, rfl⟩ := hov
      obtain ⟨g, z, rfl, -, -, hz, hcz, -⟩ := HC3.out k hlt
      have hzz : (earlyTo ys ys.length).getD k 0 = z := by rw [List.getD_eq_getElem?_getD, hz.out]; rfl
      have eb := endOf_bd hok.out k (by rw [← HN.out]; exact hlt)
      have hend : endOf ys k = z + t := by unfold endOf; rw [hzz, tm_at hy.out]
      have HM2 : RowKit.Hid (max M (z + t) = cycTo ys (k + 1)) := by show _ = _; rw [cycTo, ← HM.out, hend]
      rw [hend] at eb
      obtain ⟨z0, z1⟩ := eb
      have zb := earlyTo_bd hok.out ys.length k (by rw [← HN.out]; exact hlt)
      rw [hzz] at zb
      obtain ⟨z2, z3⟩ := zb
      have tb := (wk_at hok.out hy.out).1
      obtain ⟨t0, t1⟩ := tb
      have i0 : (0 : Int) ≤ (k : Int) := by omega
      have i1 : (k : Int) < (on : Int) := by omega
      clear hzz HN3 HC3 hz hy HM hc0 hend
      go_wp2
      go_roundw
      case rel => exact ⟨k + 1, max M (z + t), by omega, by go_num, by (congr 1; split <;> omega), by omega, by omega, HM2, S'⟩
      case measure => simp [intOf]; omega
set_option maxHeartbeats 4000000 in
theorem s_CycleTime (v : Value) (ys : List Wk) (w : World) (hv : DRds LWk DWk w v ys) :
    Calls Try.prog 30 #[v] w fun e w' => e = .returned (.int .i64 (cycle ys)) ∧ w.grownBy w' none := by
  have hI := s_WorksValid v ys w hv
  cases hB : worksB ys with
  | false =>
    rw [hB] at hI
    rw [cycle_no hB]
    have hI' := Lib.hid hI
    clear hI hB
    go_enter Try.func30, Try.ntmps30
    go_wp2_with (go_at_call 14; refine (hI'.out).mono ?_; rintro e w1 ⟨rfl, g1⟩)
    go_ret
    exact ⟨rfl, g1⟩
  | true =>
    rw [hB] at hI
    have hI' := Lib.hid hI
    have hok := Lib.hid (worksB_t.1 hB)
    have he := Lib.hid (early_yes hB)
    rw [cycle_yes hB]
    clear hI hB
    have hv0 := hv
    obtain ⟨a, n, cap, rfl, h1, hm, HN, HC⟩ := hv.wks
    have hn12 : n ≤ 12 := by have := HN.out; have := hok.out.1; omega
    go_enter Try.func30, Try.ntmps30
    go_wp2_with (go_at_call 14; refine (hI'.out).mono ?_; rintro e w1 ⟨rfl, g1⟩)
    go_wp2_with fail
    refine (s_EarliestStarts _ ys _ (hv0.kept g1)).mono ?_
    rintro e w2 ⟨r, rfl, S0⟩
    replace S0 := ((St.refl w).grow g1).call S0
    clear g1
    rw [he.out] at S0
    simp only [List.cons_append, List.nil_append] at S0
    obtain ⟨oa, on, oc, rfl, hon⟩ := (St.own S0).slice
    obtain rfl : on = n := by rw [hon, earlyTo_len, HN.out]
    have HO := Lib.hid hon
    clear hon
    go_wp2_with fail
    go_loopw [3, 5] (fun c i wr => ∃ (k : Nat) (M : Int), k ≤ on ∧ i = .int .i64 k ∧ c = .int .i64 M ∧ 0 ≤ M ∧ M ≤ 1200 ∧ RowKit.Hid (M = cycTo ys k) ∧ St w wr [Own LI (.slice oa on oc) (earlyTo ys ys.length)]) (fun _ i _ => on - (intOf i).toNat)
    case atStart => exact ⟨0, 0, by omega, rfl, rfl, by omega, by omega, rfl, S0⟩
    case round =>
      obtain ⟨k, M, hk, rfl, rfl, hM0, hM1, HM, S'⟩ := hrel
      clear S0
      by_cases hlt : k < on
      rotate_left
      · obtain rfl : k = on := by omega
        have e : RowKit.Hid (M = cycTo ys ys.length) := by have := HM.out; rw [HN.out] at this; exact this
        go_wp2
        go_ret
        exact ⟨by rw [← e.out]; rfl, S'.gb⟩
      obtain ⟨b, off, t, ra, rn, rc, y, rfl, hb, hy, -, -, -, -, hc0, -⟩ := HC.out k hlt
      have hc0' := gb_cell S'.gb hc0 (by simp)
      obtain ⟨oa', on', oc', hov, -, hom, HN3, HC3⟩ := LI_own S'
      simp only [Value.slice.injEq] at hov
      obtain ⟨rfl, rfl, rfl⟩ := hov
      obtain ⟨g, z, rfl, -, -, hz, hcz, -⟩ := HC3.out k hlt
      have hzz : (earlyTo ys ys.length).getD k 0 = z := by rw [List.getD_eq_getElem?_getD, hz.out]; rfl
      have eb := endOf_bd hok.out k (by rw [← HN.out]; exact hlt)
      have hend : endOf ys k = z + t := by unfold endOf; rw [hzz, tm_at hy.out]
      have HM2 : RowKit.Hid (max M (z + t) = cycTo ys (k + 1)) := by show _ = _; rw [cycTo, ← HM.out, hend]
      rw [hend] at eb
      obtain ⟨z0, z1⟩ := eb
      have zb := earlyTo_bd hok.out ys.length k (by rw [← HN.out]; exact hlt)
      rw [hzz] at zb
      obtain ⟨z2, z3⟩ := zb
      have tb := (wk_at hok.out hy.out).1
      obtain ⟨t0, t1⟩ := tb
      have i0 : (0 : Int) ≤ (k : Int) := by omega
      have i1 : (k : Int) < (on : Int) := by omega
      clear hzz HN3 HC3 hz hy HM hc0 hend
      go_wp2
      go_quiet (fail)
      go_wp2
      go_roundw
      case rel => exact ⟨k + 1, max M (z + t), by omega, by go_num, by (congr 1; split <;> omega), by omega, by omega, HM2, S'.drewN _⟩
      case measure => simp [intOf]; omega
end Go.Proofs.Ythcacepkfdfbnaa
