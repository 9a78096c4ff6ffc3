/-
  LatestStarts: both programs give the same list.
-/
import Derived.Test.YthcacepkfdfbnaaCycle
namespace Go.Proofs.Ythcacepkfdfbnaa
open Go Go.RowKit
def lateInit (ys : List Wk) (E : Int) : List Int := ys.map (fun y => E - y.Time)
theorem lateInit_at {ys : List Wk} {E : Int} {k : Nat} {t : Int} {y : List Int} (h : ys[k]? = some ⟨t, y⟩) : (lateInit ys E)[k]? = some (E - t) := by simp [lateInit, h]
theorem lateInit_len (ys : List Wk) (E : Int) : (lateInit ys E).length = ys.length := by simp [lateInit]
/-- One number of After taken in: k may begin so late that i is not delayed. -/
def put1 (ys : List Wk) (i : Nat) (o : List Int) (a : Int) : List Int := o.set a.toNat (min (o.getD a.toNat 0) (o.getD i 0 - tm ys a.toNat))
theorem put1_len (ys : List Wk) (i : Nat) (o : List Int) (a : Int) : (put1 ys i o a).length = o.length := by simp [put1]
def lateRun (ys : List Wk) : Nat → List Int → List Int
  | 0, o => o
  | m + 1, o => lateRun ys m ((afterOf ys m).foldl (put1 ys m) o)
theorem foldl_put1_len (ys : List Wk) (i : Nat) : ∀ (As o : List Int), (As.foldl (put1 ys i) o).length = o.length
  | [], _ => rfl
  | a :: As, o => by rw [List.foldl_cons, foldl_put1_len ys i As, put1_len]
theorem lateRun_len (ys : List Wk) : ∀ (m : Nat) (o : List Int), (lateRun ys m o).length = o.length
  | 0, _ => rfl
  | m + 1, o => by rw [lateRun, lateRun_len ys m, foldl_put1_len]
noncomputable def late (ys : List Wk) : List Int := if worksB ys then lateRun ys ys.length (lateInit ys (cycTo ys ys.length)) else []
theorem late_no {ys : List Wk} (h : worksB ys = false) : late ys = [] := by unfold late; rw [h]; rfl
theorem late_yes {ys : List Wk} (h : worksB ys = true) : late ys = lateRun ys ys.length (lateInit ys (cycTo ys ys.length)) := by unfold late; rw [h]; rfl
theorem late_len (ys : List Wk) : (late ys).length ≤ 12 := by
  by_cases h : worksB ys = true
  · rw [late_yes h, lateRun_len, lateInit_len]
    exact (worksB_t.1 h).1
  · rw [late_no (by simpa using h)]
    simp
/-- What the numbers lie between on the way. -/
def LBd (n : Nat) (o : List Int) : Prop := o.length = n ∧ ∀ j, j < n → -100 * ((n : Int) - j) ≤ o.getD j 0 ∧ o.getD j 0 ≤ 1200
theorem LBd.init {ys : List Wk} (h : worksOk ys) {E : Int} (h0 : 0 ≤ E) (h1 : E ≤ 1200) : LBd ys.length (lateInit ys E) := by
  refine ⟨lateInit_len ys E, fun j hj => ?_⟩
  have hy : ys[j]? = some ys[j] := List.getElem?_eq_getElem hj
  have := (h.2 j _ hy).1
  have e : (lateInit ys E).getD j 0 = E - ys[j].Time := by simp [lateInit, hj]
  rw [e]
  omega
theorem LBd.put1 {ys : List Wk} (h : worksOk ys) {o : List Int} (hb : LBd ys.length o) (i : Nat) (a : Int) (hi : i < ys.length) (ha : 0 ≤ a) (ha2 : a ≤ (i : Int) - 1) : LBd ys.length (put1 ys i o a) := by
  obtain ⟨hl, hb⟩ := hb
  refine ⟨by rw [put1_len, hl], fun j hj => ?_⟩
  have h1 := hb j hj
  have h2 := hb i hi
  have h3 := tm_bd h a.toNat
  have h4 := hb a.toNat (by omega)
  by_cases e : a.toNat = j
  · subst e
    have : (Go.Proofs.Ythcacepkfdfbnaa.put1 ys i o a).getD a.toNat 0 = min (o.getD a.toNat 0) (o.getD i 0 - tm ys a.toNat) := by
      unfold Go.Proofs.Ythcacepkfdfbnaa.put1
      rw [List.getD_eq_getElem?_getD, List.getElem?_set_self (by omega)]
      rfl
    rw [this]
    omega
  · have : (Go.Proofs.Ythcacepkfdfbnaa.put1 ys i o a).getD j 0 = o.getD j 0 := by
      unfold Go.Proofs.Ythcacepkfdfbnaa.put1
      rw [List.getD_eq_getElem?_getD, List.getElem?_set_ne e, ← List.getD_eq_getElem?_getD]
    rw [this]
    exact h1
theorem drop_at {α : Type} {l : List α} {j : Nat} {x : α} (h : l[j]? = some x) : l.drop j = x :: l.drop (j + 1) := by
  obtain ⟨hj, rfl⟩ := List.getElem?_eq_some_iff.1 h
  exact List.drop_eq_getElem_cons hj
set_option maxHeartbeats 8000000 in
theorem i_LatestStarts (v : Value) (ys : List Wk) (w : World) (hv : DRds LWk DWk w v ys) :
    Calls Try.prog 32 #[v] w fun e w' => ∃ r, e = .returned r ∧ St w w' [Own LI r (late ys)] := by
  have hI := i_WorksValid v ys w hv
  cases hB : worksB ys with
  | false =>
    rw [hB] at hI
    rw [late_no hB]
    have hI' := Lib.hid hI
    clear hI hB
    go_enter Try.func32, Try.ntmps32
    go_wp2_with (go_at_call 16; refine (hI'.out).mono ?_; rintro e w1 ⟨rfl, g1⟩)
    go_ret
    exact ⟨_, rfl, ((St.refl w).grow g1).ownNil LI⟩
  | true =>
    rw [hB] at hI
    have hI' := Lib.hid hI
    have hok := Lib.hid (worksB_t.1 hB)
    have he := Lib.hid (cycle_yes hB)
    rw [late_yes hB]
    obtain ⟨E, hE⟩ : ∃ E, E = cycTo ys ys.length := ⟨_, rfl⟩
    have HE := Lib.hid hE
    have eb := cycTo_bd hok.out ys.length (Nat.le_refl _)
    rw [← hE] at eb ⊢
    obtain ⟨E0, E1⟩ := eb
    clear hI hB hE
    have hv0 := hv
    obtain ⟨a, n, cap, rfl, h1, hm, HN, HC⟩ := hv.wks
    have hn12 : n ≤ 12 := by have := HN.out; have := hok.out.1; omega
    go_enter Try.func32, Try.ntmps32
    go_wp2_with (go_at_call 16; refine (hI'.out).mono ?_; rintro e w1 ⟨rfl, g1⟩)
    go_wp2_with fail
    refine (i_CycleTime _ ys _ (hv0.kept g1)).mono ?_
    rintro e w2 ⟨rfl, g2⟩
    have S0 := ((St.refl w).grow g1).grow g2
    rw [he.out, ← HE.out]
    clear g1 g2
    go_wp2_with (at_make; refine wpList_mk LI_info rfl _ _ rfl S0 _ n rfl rfl rfl (by omega) ?_; intro w3 S1 g3)
    obtain ⟨B, rfl⟩ : ∃ B, B = w2.heap.size := ⟨_, rfl⟩
    clear S0 g3
    go_loopw [5, 6, 20] (fun _ _ i wr => ∃ k : Nat, k ≤ n ∧ i = .int .i64 k ∧ St w wr [Own LI (.slice (some ⟨w2.heap.size, 0, none⟩) n n) ((lateInit ys E).take k ++ List.replicate (n - k) 0)]) (fun _ _ i _ => n - (intOf i).toNat)
    case atStart => exact ⟨0, by omega, rfl, by simpa using S1⟩
    case round =>
      obtain ⟨k, hk, rfl, S2⟩ := hrel
      clear S1
      by_cases hlt : k < n
      · obtain ⟨b, off, t, ra, rn, rc, y, rfl, hb, hy, -, -, -, -, hc0, hc1⟩ := HC.out k hlt
        have hc0' := gb_cell S2.gb hc0 (by simp)
        have hc1' := gb_cell S2.gb hc1 (by simp)
        obtain ⟨oa', on', oc', hov, -, hom, HN3, HC3⟩ := LI_own S2
        simp only [Value.slice.injEq] at hov
        obtain ⟨rfl, rfl, rfl⟩ := hov
        obtain ⟨g, z, hga, -, hgs, -, hcz, hfz⟩ := HC3.out k hlt
        simp only [Option.some.injEq, Addr.mk.injEq, and_true] at hga
        subst hga
        have HL : RowKit.Hid (n = (lateInit ys E).length) := by show _ = _; rw [lateInit_len, ← HN.out]
        have S3 := LI_set S2 (g := w2.heap.size) rfl k (E - t) (by rw [fill_len _ _ _ _ HL.out hk]; exact hlt)
        rw [fill_step _ _ k n HL.out hlt (E - t) (lateInit_at hy.out)] at S3
        obtain ⟨t0, t1⟩ := (wk_at hok.out hy.out).1
        clear HN3 HC3 hy hc0 hc1 S2
        go_wp2
        go_roundw
        case rel => exact ⟨k + 1, by omega, by go_num, S3.alloc _⟩
        case measure => simp [intOf]; omega
      obtain rfl : k = n := by omega
      have HL : RowKit.Hid (k = (lateInit ys E).length) := by show _ = _; rw [lateInit_len, ← HN.out]
      rw [fill_end _ _ _ HL.out] at S2
      have S1 := S2
      clear S2 hlt hk
      go_wp2_with fail
      obtain ⟨F, hF⟩ : ∃ F, F = lateRun ys ys.length (lateInit ys E) := ⟨_, rfl⟩
      have HF0 : RowKit.Hid (lateRun ys k (lateInit ys E) = F) := by show _ = _; rw [hF, HN.out]
      have HFF := Lib.hid hF
      have HB0 : RowKit.Hid (LBd k (lateInit ys E)) := by show LBd _ _; rw [HN.out]; exact LBd.init hok.out E0 E1
      clear hF
      go_loopw [7, 9, 46] (fun i _ _ wr => ∃ (m : Nat) (o : List Int), m ≤ k ∧ i = .int .i64 ((m : Int) - 1) ∧ RowKit.Hid (lateRun ys m o = F) ∧ RowKit.Hid (LBd k o) ∧ St w wr [Own LI (.slice (some ⟨w2.heap.size, 0, none⟩) k k) o]) (fun i _ _ _ => (intOf i + 1).toNat)
      case atStart => exact ⟨k, _, Nat.le_refl _, by first | rfl | (congr 1), HF0, HB0, S1⟩
      case round =>
        obtain ⟨m, o, hmn, rfl, HF, HB, S⟩ := hrel
        clear S1 HF0 HB0
        by_cases hm0 : m = 0
        · subst hm0
          have e : RowKit.Hid (o = lateRun ys ys.length (lateInit ys E)) := by have := HF.out; rw [lateRun, HFF.out] at this; exact this
          rw [e.out] at S
          clear e
          go_wp2
          go_ret
          exact ⟨_, rfl, S⟩
        obtain ⟨m, rfl⟩ : ∃ m', m = m' + 1 := ⟨m - 1, by omega⟩
        obtain ⟨b, off, t, ra, rn, rc, y, rfl, hb, hy, hrn, hrc, hrm, hrd, hc0, hc1⟩ := HC.out m (by omega)
        have hc1' := gb_cell S.gb hc1 (by simp)
        obtain ⟨-, HC2⟩ := rds_int_at hrd
        have hwk := Lib.hid (wk_at hok.out hy.out)
        have hr12 : rn ≤ 12 := by have := hwk.out.2.1; have := hrn.out; omega
        have HF1 : RowKit.Hid (lateRun ys m ((y.drop 0).foldl (put1 ys m) o) = F) := by have := HF.out; rw [lateRun, afterOf_at hy.out] at this; exact this
        have em : ((m + 1 : Nat) : Int) - 1 = (m : Int) := by omega
        rw [em]
        have em' := Lib.hid em
        clear em HF hrd hc0
        go_wp2_with fail
        go_loopw [9, 46] (fun _ i wr => ∃ (j : Nat) (o : List Int), j ≤ rn ∧ i = .int .i64 j ∧ RowKit.Hid (lateRun ys m ((y.drop j).foldl (put1 ys m) o) = F) ∧ RowKit.Hid (LBd k o) ∧ St w wr [Own LI (.slice (some ⟨w2.heap.size, 0, none⟩) k k) o]) (fun _ i _ => rn - (intOf i).toNat)
        case atStart => exact ⟨0, o, by omega, rfl, HF1, HB, S⟩
        case round =>
          obtain ⟨j, o, hj, rfl, HF, HB, S'⟩ := hrel
          have hc1'' := gb_cell S'.gb hc1 (by simp)
          clear S HF1 hc1'
          by_cases hlt2 : j < rn
          rotate_left
          · obtain rfl : j = rn := by omega
            have HF2 : RowKit.Hid (lateRun ys m o = F) := by have := HF.out; rw [hrn.out, List.drop_length] at this; exact this
            clear HF
            go_wp2
            go_roundw
            case rel => exact ⟨m, o, by omega, rfl, HF2, HB, S'⟩
            case measure => first | (simp [intOf]; done) | (simp [intOf]; omega)
          obtain ⟨b2, off2, x, rfl, hb2, hx, hd⟩ := HC2.out j hlt2
          have hd' := gb_cell S'.gb hd (by simp)
          obtain ⟨x0, x1⟩ := hwk.out.2.2 x (List.mem_of_getElem? hx.out)
          obtain ⟨A, rfl⟩ := Int.eq_ofNat_of_zero_le x0
          obtain ⟨b3, off3, tA, qa, qn, qc, yA, hab, hb3, hyA, -, -, -, -, hcA, -⟩ := HC.out A (by omega)
          obtain ⟨rfl, rfl⟩ : b = b3 ∧ off = off3 := by simpa using hab
          have hcA' := gb_cell S'.gb hcA (by simp)
          obtain ⟨oa', on', oc', hov, -, hom, HN3, HC3⟩ := LI_own S'
          simp only [Value.slice.injEq] at hov
          obtain ⟨rfl, rfl, rfl⟩ := hov
          obtain ⟨g, z, hga, -, hgs, hz, hcz, hfz⟩ := HC3.out A (by omega)
          obtain ⟨g', zm, hga', -, -, hzm, hczm, -⟩ := HC3.out m (by omega)
          simp only [Option.some.injEq, Addr.mk.injEq, and_true] at hga hga'
          subst hga
          subst hga'
          have hzz : o.getD A 0 = z := by rw [List.getD_eq_getElem?_getD, hz.out]; rfl
          have hzzm : o.getD m 0 = zm := by rw [List.getD_eq_getElem?_getD, hzm.out]; rfl
          have zb := HB.out.2 A (by omega)
          have zbm := HB.out.2 m (by omega)
          rw [hzz] at zb
          rw [hzzm] at zbm
          obtain ⟨z0, z1⟩ := zb
          obtain ⟨z2, z3⟩ := zbm
          obtain ⟨t0, t1⟩ := (wk_at hok.out hyA.out).1
          have HF2 : RowKit.Hid (lateRun ys m ((y.drop (j + 1)).foldl (put1 ys m) (o.set A (min z (zm - tA)))) = F) := by
            have := HF.out
            rw [drop_at hx.out, List.foldl_cons] at this
            unfold put1 at this ⊢
            rw [Int.toNat_natCast, hzz, hzzm, tm_at hyA.out] at this
            exact this
          have HB2 : RowKit.Hid (LBd k (o.set A (min z (zm - tA)))) := by
            have hb := HB.out
            rw [HN.out] at hb
            have := LBd.put1 hok.out hb m (A : Int) (by rw [← HN.out]; omega) (by omega) x1
            unfold put1 at this
            rw [Int.toNat_natCast, hzz, hzzm, tm_at hyA.out, ← HN.out] at this
            exact this
          have S3 := (LI_set S' (g := w2.heap.size) rfl A (min z (zm - tA)) (by have := HN3.out; omega)).drew
          have emn : min z (zm - tA) = if zm - tA < z then zm - tA else z := by split <;> omega
          rw [emn] at S3 HF2 HB2
          have SH := Lib.hid S3
          clear emn S3
          clear hab hcA hd hzz hzzm HN3 HC3 hz hzm hyA hx HF HB
          have i0 : (0 : Int) ≤ (A : Int) := by omega
          have i1 : (A : Int) < (k : Int) := by omega
          have i2 : (0 : Int) ≤ (m : Int) := by omega
          have i3 : (m : Int) < (k : Int) := by omega
          go_wp2
          go_region
          all_goals
            go_wp2
            go_roundw
            case rel => exact ⟨j + 1, _, by omega, by go_num, HF2, HB2, SH.out⟩
            case measure => simp [intOf]; omega
set_option maxHeartbeats 8000000 in
theorem s_LatestStarts (v : Value) (ys : List Wk) (w : World) (hv : DRds LWk DWk w v ys) :
    Calls Try.prog 33 #[v] w fun e w' => ∃ r, e = .returned r ∧ St w w' [Own LI r (late ys)] := by
  have hI := s_WorksValid v ys (w.alloc (.cells #[] 3)) (hv.kept (World.grownBy_alloc _ _ _))
  have SE := (St.refl w).ownEmpty LI
  cases hB : worksB ys with
  | false =>
    rw [hB] at hI
    rw [late_no hB]
    have hI' := Lib.hid hI
    clear hI hB
    go_enter Try.func33, Try.ntmps33
    go_wp2_with (go_at_call 14; refine (hI'.out).mono ?_; rintro e w1 ⟨rfl, g1⟩)
    go_ret
    exact ⟨_, rfl, SE.grow g1⟩
  | true =>
    rw [hB] at hI
    have hI' := Lib.hid hI
    have hok := Lib.hid (worksB_t.1 hB)
    have he := Lib.hid (cycle_yes hB)
    rw [late_yes hB]
    obtain ⟨E, hE⟩ : ∃ E, E = cycTo ys ys.length := ⟨_, rfl⟩
    have HE := Lib.hid hE
    have eb := cycTo_bd hok.out ys.length (Nat.le_refl _)
    rw [← hE] at eb ⊢
    obtain ⟨E0, E1⟩ := eb
    clear hI hB hE
    have hv0 := hv
    obtain ⟨a, n, cap, rfl, h1, hm, HN, HC⟩ := hv.wks
    have hn12 : n ≤ 12 := by have := HN.out; have := hok.out.1; omega
    go_enter Try.func33, Try.ntmps33
    go_wp2_with (go_at_call 14; refine (hI'.out).mono ?_; rintro e w1 ⟨rfl, g1⟩)
    go_wp2_with fail
    refine (s_CycleTime _ ys _ ((SE.grow g1).drdsOld hv0)).mono ?_
    rintro e w2 ⟨rfl, g2⟩
    have S0 := (SE.grow g1).grow g2
    rw [he.out, ← HE.out]
    clear g1 g2
    clear SE
    replace S0 : St w w2 [Own LI (.slice (some ⟨w.heap.size, 0, none⟩) 0 0) ((lateInit ys E).take 0)] := by simpa using S0
    go_wp2_with fail
    go_loopw [3, 5] (fun o i wr => ∃ k : Nat, k ≤ n ∧ i = .int .i64 k ∧ St w wr [Own LI o ((lateInit ys E).take k)]) (fun _ i _ => n - (intOf i).toNat)
    case atStart => exact ⟨0, by omega, rfl, S0⟩
    case round =>
      obtain ⟨k, hk, rfl, S2⟩ := hrel
      clear S0
      by_cases hlt : k < n
      · obtain ⟨b, off, t, ra, rn, rc, y, rfl, hb, hy, -, -, -, -, hc0, -⟩ := HC.out k hlt
        have hc0' := gb_cell S2.gb hc0 (by simp)
        obtain ⟨t0, t1⟩ := (wk_at hok.out hy.out).1
        clear hc0
        go_wp2_with (at_builtin; refine wpList_app1 LI_info rfl _ _ rfl S2 (E - t) #[.int .i64 (E - t)] rfl rfl rfl (by rw [List.length_take]; omega) ?_; intro v' w4 S3)
        have e : RowKit.Hid ((lateInit ys E).take (k + 1) = (lateInit ys E).take k ++ [E - t]) := by
          show _ = _
          obtain ⟨hj, hje⟩ := List.getElem?_eq_some_iff.1 (lateInit_at (E := E) hy.out)
          rw [List.take_succ_eq_append_getElem hj, hje]
        rw [← e.out] at S3
        clear hy S2
        go_roundw
        case rel => exact ⟨k + 1, by omega, by go_num, S3⟩
        case measure => simp [intOf]; omega
      obtain rfl : k = n := by omega
      have e : RowKit.Hid ((lateInit ys E).take k = lateInit ys E) := by show _ = _; rw [List.take_of_length_le (by rw [lateInit_len, HN.out]; exact Nat.le_refl _)]
      rw [e.out] at S2
      obtain ⟨oa, on, oc, rfl, hon⟩ := (St.own S2).slice
      obtain rfl : on = k := by rw [hon, lateInit_len, HN.out]
      have HO := Lib.hid hon
      have S1 := S2
      clear S2 hlt hk hon e
      go_wp2_with fail
      obtain ⟨F, hF⟩ : ∃ F, F = lateRun ys ys.length (lateInit ys E) := ⟨_, rfl⟩
      have HF0 : RowKit.Hid (lateRun ys on (lateInit ys E) = F) := by show _ = _; rw [hF, HN.out]
      have HFF := Lib.hid hF
      have HB0 : RowKit.Hid (LBd on (lateInit ys E)) := by show LBd _ _; rw [HN.out]; exact LBd.init hok.out E0 E1
      clear hF
      go_loopw [6, 7, 8] (fun i _ _ wr => ∃ (m : Nat) (o : List Int), m ≤ on ∧ i = .int .i64 ((m : Int) - 1) ∧ RowKit.Hid (lateRun ys m o = F) ∧ RowKit.Hid (LBd on o) ∧ St w wr [Own LI (.slice oa on oc) o]) (fun i _ _ _ => (intOf i + 1).toNat)
      case atStart => exact ⟨on, _, Nat.le_refl _, by first | rfl | (congr 1), HF0, HB0, S1⟩
      case round =>
        obtain ⟨m, o, hmn, rfl, HF, HB, S⟩ := hrel
        clear S1 HF0 HB0
        by_cases hm0 : m = 0
        · subst hm0
          have e : RowKit.Hid (o = lateRun ys ys.length (lateInit ys E)) := by have := HF.out; rw [lateRun, HFF.out] at this; exact this
          rw [e.out] at S
          clear e
          go_wp2
          go_ret
          exact ⟨_, rfl, S⟩
        obtain ⟨m, rfl⟩ : ∃ m', m = m' + 1 := ⟨m - 1, by omega⟩
        obtain ⟨b, off, t, ra, rn, rc, y, rfl, hb, hy, hrn, hrc, hrm, hrd, hc0, hc1⟩ := HC.out m (by omega)
        have hc1' := gb_cell S.gb hc1 (by simp)
        obtain ⟨-, HC2⟩ := rds_int_at hrd
        have hwk := Lib.hid (wk_at hok.out hy.out)
        have hr12 : rn ≤ 12 := by have := hwk.out.2.1; have := hrn.out; omega
        have HF1 : RowKit.Hid (lateRun ys m ((y.drop 0).foldl (put1 ys m) o) = F) := by have := HF.out; rw [lateRun, afterOf_at hy.out] at this; exact this
        have em : ((m + 1 : Nat) : Int) - 1 = (m : Int) := by omega
        rw [em]
        have em' := Lib.hid em
        clear em HF hrd hc0
        go_wp2_with fail
        go_loopw [7, 8] (fun i _ wr => ∃ (j : Nat) (o : List Int), j ≤ rn ∧ i = .int .i64 j ∧ RowKit.Hid (lateRun ys m ((y.drop j).foldl (put1 ys m) o) = F) ∧ RowKit.Hid (LBd on o) ∧ St w wr [Own LI (.slice oa on oc) o]) (fun i _ _ => rn - (intOf i).toNat)
        case atStart => exact ⟨0, o, by omega, rfl, HF1, HB, S⟩
        case round =>
          obtain ⟨j, o, hj, rfl, HF, HB, S'⟩ := hrel
          have hc1'' := gb_cell S'.gb hc1 (by simp)
          clear S HF1 hc1'
          by_cases hlt2 : j < rn
          rotate_left
          · obtain rfl : j = rn := by omega
            have HF2 : RowKit.Hid (lateRun ys m o = F) := by have := HF.out; rw [hrn.out, List.drop_length] at this; exact this
            clear HF
            go_wp2
            go_roundw
            case rel => exact ⟨m, o, by omega, rfl, HF2, HB, S'⟩
            case measure => first | (simp [intOf]; done) | (simp [intOf]; omega)
          obtain ⟨b2, off2, x, rfl, hb2, hx, hd⟩ := HC2.out j hlt2
          have hd' := gb_cell S'.gb hd (by simp)
          obtain ⟨x0, x1⟩ := hwk.out.2.2 x (List.mem_of_getElem? hx.out)
          obtain ⟨A, rfl⟩ := Int.eq_ofNat_of_zero_le x0
          obtain ⟨b3, off3, tA, qa, qn, qc, yA, hab, hb3, hyA, -, -, -, -, hcA, -⟩ := HC.out A (by omega)
          obtain ⟨rfl, rfl⟩ : b = b3 ∧ off = off3 := by simpa using hab
          have hcA' := gb_cell S'.gb hcA (by simp)
          obtain ⟨oa', on', oc', hov, -, hom, HN3, HC3⟩ := LI_own S'
          simp only [Value.slice.injEq] at hov
          obtain ⟨rfl, rfl, rfl⟩ := hov
          obtain ⟨g, z, hga, -, hgs, hz, hcz, hfz⟩ := HC3.out A (by omega)
          obtain ⟨g', zm, hga', -, -, hzm, hczm, -⟩ := HC3.out m (by omega)
          obtain rfl : oa = some ⟨g, 0, none⟩ := hga
          obtain rfl : g = g' := by simpa using hga'
          have hzz : o.getD A 0 = z := by rw [List.getD_eq_getElem?_getD, hz.out]; rfl
          have hzzm : o.getD m 0 = zm := by rw [List.getD_eq_getElem?_getD, hzm.out]; rfl
          have zb := HB.out.2 A (by omega)
          have zbm := HB.out.2 m (by omega)
          rw [hzz] at zb
          rw [hzzm] at zbm
          obtain ⟨z0, z1⟩ := zb
          obtain ⟨z2, z3⟩ := zbm
          obtain ⟨t0, t1⟩ := (wk_at hok.out hyA.out).1
          have HF2 : RowKit.Hid (lateRun ys m ((y.drop (j + 1)).foldl (put1 ys m) (o.set A (min z (zm - tA)))) = F) := by
            have := HF.out
            rw [drop_at hx.out, List.foldl_cons] at this
            unfold put1 at this ⊢
            rw [Int.toNat_natCast, hzz, hzzm, tm_at hyA.out] at this
            exact this
          have HB2 : RowKit.Hid (LBd on (o.set A (min z (zm - tA)))) := by
            have hb := HB.out
            rw [HN.out] at hb
            have := LBd.put1 hok.out hb m (A : Int) (by rw [← HN.out]; omega) (by omega) x1
            unfold put1 at this
            rw [Int.toNat_natCast, hzz, hzzm, tm_at hyA.out, ← HN.out] at this
            exact this
          have S3 := (LI_set S' (g := g) rfl A (min z (zm - tA)) (by have := HN3.out; omega)).drew
          have emn : min z (zm - tA) = if zm - tA < z then zm - tA else z := by split <;> omega
          rw [emn] at S3 HF2 HB2
          have SH := Lib.hid S3
          clear emn S3
          clear hab hcA hd hzz hzzm HN3 HC3 hz hzm hyA hx HF HB
          have i0 : (0 : Int) ≤ (A : Int) := by omega
          have i1 : (A : Int) < (on : Int) := by omega
          have i2 : (0 : Int) ≤ (m : Int) := by omega
          have i3 : (m : Int) < (on : Int) := by omega
          go_wp2
          go_region
          all_goals
            go_wp2
            go_roundw
            case rel => exact ⟨j + 1, _, by omega, by go_num, HF2, HB2, SH.out⟩
            case measure => simp [intOf]; omega
end Go.Proofs.Ythcacepkfdfbnaa
