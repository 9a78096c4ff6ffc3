/-
  spec.FinishOrder.
-/
import Derived.Test.YtpbihjkfbbmdjaaFin
import Derived.Test.YtpbihjkfbbmdjaaBoolS
namespace Go.Proofs.Ytpbihjkfbbmdjaa
open Go Go.RowKit
/-- Which robots have finished. -/
def doneB (n : Nat) (out : List Int) : List Bool := (List.range n).map (fun j : Nat => hasB out (j : Int))
theorem doneB_len (n : Nat) (out : List Int) : (doneB n out).length = n := by simp [doneB]
theorem doneB_nil (n : Nat) : doneB n [] = List.replicate n false := by
  refine List.ext_getElem (by simp [doneB]) (fun j h1 h2 => ?_)
  simp [doneB, hasB]
theorem doneB_at {n : Nat} (out : List Int) {k : Nat} (hk : k < n) : (doneB n out)[k]? = some (hasB out (k : Int)) := by
  rw [List.getElem?_eq_getElem (by rw [doneB_len]; exact hk)]
  simp [doneB]
theorem hasB_snoc (out : List Int) (k j : Nat) : hasB (out ++ [(k : Int)]) (j : Int) = (hasB out (j : Int) || decide (j = k)) := by
  simp only [hasB, List.mem_append, List.mem_singleton, Bool.decide_or]
  congr 1
  exact decide_eq_decide.2 (by omega)
theorem doneB_set (n : Nat) (out : List Int) (k : Nat) : (doneB n out).set k true = doneB n (out ++ [(k : Int)]) := by
  refine List.ext_getElem (by simp [doneB]) (fun j h1 h2 => ?_)
  rw [List.getElem_set]
  by_cases h : k = j
  · subst h
    simp [doneB, hasB_snoc]
  · simp [doneB, hasB_snoc, h, Ne.symm h]
/-- How many have not. -/
def freeN (out : List Int) : Nat → Nat
  | 0 => 0
  | n + 1 => freeN out n + (if hasB out (n : Int) then 0 else 1)
theorem freeN_nil : ∀ n, freeN [] n = n
  | 0 => rfl
  | n + 1 => by rw [freeN, freeN_nil n]; simp [hasB]
theorem freeN_snoc (out : List Int) (k : Nat) (hk : hasB out (k : Int) = false) : ∀ n, freeN (out ++ [(k : Int)]) n + (if k < n then 1 else 0) = freeN out n
  | 0 => by simp [freeN]
  | n + 1 => by
    have ih := freeN_snoc out k hk n
    rw [freeN, freeN, hasB_snoc]
    by_cases h : n = k
    · subst h
      simp [hk] at ih ⊢
      omega
    · simp only [h, decide_false, Bool.or_false]
      by_cases h2 : k < n
      · have e1 : (if k < n then 1 else 0) = 1 := if_pos h2
        have e2 : (if k < n + 1 then 1 else 0) = 1 := if_pos (by omega)
        rw [e1] at ih
        rw [e2]
        omega
      · have e1 : (if k < n then 1 else 0) = 0 := if_neg h2
        have e2 : (if k < n + 1 then 1 else 0) = 0 := if_neg (by omega)
        rw [e1] at ih
        rw [e2]
        omega
set_option maxHeartbeats 8000000 in
theorem s_FinishOrder (v : Value) (cs : List Clm) (u : Value) (fr : List Int) (w : World) (hv : DRds LClm DClm w v cs) (hu : Rds LI w u fr) :
    Calls Try.prog 14 #[v, u] w fun e w' => ∃ r, e = .returned r ∧ St w w' [Own LI r (finish cs fr)] := by
  have SE : St w (w.alloc (.cells #[] 3)) [Own LI (.slice (some ⟨w.heap.size, 0, none⟩) 0 0) []] := (St.refl w).ownEmpty LI
  have HV := s_ClaimsValid v u cs fr _ (SE.drdsOld hv) (hu.kept SE.gb)
  unfold finish
  cases hB : claimsB cs fr with
  | false =>
    rw [hB] at HV
    clear hB
    go_enter Try.func14, Try.ntmps14
    go_wp2_with fail
    refine HV.mono ?_
    rintro e w1 ⟨rfl, rfl⟩
    go_wp2_with fail
    go_ret
    exact ⟨_, rfl, SE⟩
  | true =>
    rw [hB] at HV
    obtain ⟨hl1, hl2, -⟩ := claimsB_len hB
    have CA : RowKit.Hid (∀ (k : Nat) (c : Clm), cs[k]? = some c → c.Holds.length = fr.length ∧ c.Needs.length = fr.length) := fun k c hc => ⟨(claimsB_at hB k c hc).1, (claimsB_at hB k c hc).2.1⟩
    clear hB
    simp only [if_true]
    obtain ⟨RES, hR⟩ : ∃ R, R = finGo cs cs.length fr [] := ⟨_, rfl⟩
    rw [← hR]
    have HR := Lib.hid hR
    have hv0 := hv
    obtain ⟨a, n, cap, rfl, h1, hm, HN, HC⟩ := hv.clms
    obtain ⟨M, hM⟩ : ∃ M, M = fr.length := ⟨_, rfl⟩
    have HM := Lib.hid hM
    rw [← hM] at CA hl2
    have hn6 : n ≤ 6 := by rw [HN.out]; exact hl1
    have hll : ([] : List Int).length + fr.length ≤ 1099511627776 := by simp; omega
    clear hR hM hl1
    go_enter Try.func14, Try.ntmps14
    go_wp2_with fail
    refine HV.mono ?_
    rintro e w1 ⟨rfl, rfl⟩
    clear HV
    have SF : St w ((w.alloc (.cells #[] 3)).alloc (.cells #[] 3)) _ := SE.ownEmptyAt LI (w.heap.size + 1) (by simp)
    have R0 := hu.kept SF.gb
    clear SE
    go_wp2_with (first | (at_builtin; refine wpList_appR LI_info rfl _ _ rfl SF fr _ R0 rfl rfl hll ?_; intro v6 w6 S6; rw [List.nil_append] at S6; clear SF R0) | (at_make; refine wpList_mk LB_info rfl _ _ rfl S6 _ n rfl rfl rfl (by omega) ?_; intro w2 S2 hg))
    rw [← doneB_nil n] at S2
    clear S6 hg hll hu
    obtain ⟨D, hD⟩ : ∃ D, D = w6.heap.size := ⟨_, rfl⟩
    rw [← hD] at S2 ⊢
    clear hD
    obtain ⟨la, m', lc, rfl, hm'⟩ := (St.own S2.tail).slice
    obtain rfl : m' = M := by rw [HM.out, hm']
    clear hm'
    go_loopg [5, 8] (n + 1) (fun k ov mv wr => ∃ (left out : List Int) (A : Bool), mv = .bool A ∧ k = (if A then freeN out n + 1 else 0) ∧ RowKit.Hid (A = true → finGo cs (freeN out n) left out = RES) ∧ RowKit.Hid (A = false → out = RES) ∧ RowKit.Hid (left.length = m') ∧ out.length + freeN out n = n ∧ St w wr [Own LB (.slice (some ⟨D, 0, none⟩) n n) (doneB n out), Own LI (.slice la m' lc) left, Own LI ov out])
    case atStart => exact ⟨fr, [], true, rfl, (by rw [freeN_nil]; rfl), (show _ → _ by intro _; rw [HR.out, HN.out, freeN_nil]), (show _ → _ by intro h; cases h), (show _ = _ by rw [HM.out]), by rw [freeN_nil]; simp, S2⟩
    case round =>
      clear S2
      obtain ⟨left, out, A, rfl, hk, HA, HO, HL, hol, S⟩ := hrel
      cases A with
      | false =>
        have e := Lib.hid (HO.out rfl)
        rw [e.out] at S
        have S5 := S.drop2 (Ms := [_, _])
        clear S HA HO CA HC hk
        go_wp2_with fail
        go_ret
        exact ⟨_, rfl, S5⟩
      | true =>
        have HK : RowKit.Hid (gk = freeN out n + 1) := hk
        have HA2 := Lib.hid (HA.out rfl)
        have SH := Lib.hid S
        obtain ⟨oa, on, oc, rfl, hoc, hom, -⟩ := LI_own S.tail.tail
        clear hk HA HO S
        go_wp2_with fail
        obtain ⟨wo, hwo⟩ : ∃ wo : World, wo = wr := ⟨_, rfl⟩
        rw [← hwo] at SH
        have hg0 : wo.grownBy wr none := by rw [hwo]; exact World.grownBy.refl _ _
        clear hwo
        have QA : RowKit.Hid (∀ k, k = n → (∀ j, j < k → canB cs left out j = false) → out = RES) := by
          rintro k rfl h
          rw [← HA2.out, finGo_stop (nextR_miss (fun j hj => h j (by rw [HN.out]; exact hj)))]
        go_loopw [5, 8, 9] (fun ov mv i wr => ∃ (k : Nat) (A : Bool) (left' out' : List Int), k ≤ n ∧ i = .int .i64 k ∧ mv = .bool A ∧ RowKit.Hid (A = false → left' = left ∧ out' = out ∧ ov = .slice oa on oc ∧ wo.grownBy wr none ∧ ∀ j, j < k → canB cs left out j = false) ∧ RowKit.Hid (A = true → finGo cs (freeN out' n) left' out' = RES ∧ freeN out' n + 1 < gk ∧ left'.length = m' ∧ out'.length + freeN out' n = n) ∧ St w wr [Own LB (.slice (some ⟨D, 0, none⟩) n n) (doneB n out'), Own LI (.slice la m' lc) left', Own LI ov out']) (fun _ _ i _ => n - (intOf i).toNat)
        case atStart => exact ⟨0, false, left, out, by omega, rfl, rfl, (show _ → _ from fun _ => ⟨rfl, rfl, rfl, hg0, fun j hj => by omega⟩), (show _ → _ by intro h; cases h), SH.out.grow hg0⟩
        case round =>
          clear hg0
          obtain ⟨k, A, left', out', hkn, rfl, rfl, HF, HT, S⟩ := hrel
          cases A with
          | true =>
            obtain ⟨t1, t2, t3, t4⟩ := HT.out rfl
            have T1 : RowKit.Hid (finGo cs (freeN out' n) left' out' = RES) := t1
            have T2 : RowKit.Hid (freeN out' n + 1 < gk) := t2
            have T3 := Lib.hid t3
            clear t1 t2 t3 HF HT QA HA2
            by_cases hlt : k < n
            · go_wp2_with fail
              go_roundg (freeN out' n + 1)
              case measure => exact T2.out
              case rel => exact ⟨left', out', true, rfl, rfl, (show _ → _ from fun _ => T1.out), (show _ → _ by intro h; cases h), T3, t4, S⟩
            · go_wp2_with fail
              go_roundg (freeN out' n + 1)
              case measure => exact T2.out
              case rel => exact ⟨left', out', true, rfl, rfl, (show _ → _ from fun _ => T1.out), (show _ → _ by intro h; cases h), T3, t4, S⟩
          | false =>
            obtain ⟨rfl, rfl, rfl, hg, hb⟩ := HF.out rfl
            have HBB := Lib.hid hb
            clear HF HT hb
            by_cases hlt : k < n
            rotate_left
            · have e := Lib.hid (QA.out k (by omega) HBB.out)
              have QM : RowKit.Hid (0 < gk) := by show _ < _; rw [HK.out]; omega
              clear QA HA2 HBB
              go_wp2_with fail
              go_roundg 0
              case measure => exact QM.out
              case rel => exact ⟨left', out', false, rfl, rfl, (show _ → _ by intro h; cases h), (fun _ => e.out), HL, hol, S⟩
            obtain ⟨b, off, ra, rn, rc, sa, sn, sc, y, z, rfl, hb, hy, hrn, hrc, hsn, hsc, hrd, hsd, c0, c1⟩ := HC.out k hlt
            have c0' := gb_cell S.gb c0 (by simp)
            have c1' := gb_cell S.gb c1 (by simp)
            have hki : (k : Int) < (n : Int) := by omega
            have hk0 : (0 : Int) ≤ (k : Int) := by omega
            obtain ⟨da, dn, dc, hdv, -, -, HDN, HDC⟩ := LB_own S
            simp only [Value.slice.injEq] at hdv
            obtain ⟨rfl, rfl, rfl⟩ := hdv
            obtain ⟨g, zz, hga, hg1, hg2, hz, hcz, hfz⟩ := HDC.out k hlt
            simp only [Option.some.injEq, Addr.mk.injEq, and_true] at hga
            subst hga
            have hzz : zz = hasB out' (k : Int) := by
              have := hz.out
              rw [doneB_at _ hlt] at this
              exact (Option.some.inj this).symm
            obtain ⟨hyl, hzl⟩ := CA.out k _ hy.out
            simp only at hyl hzl
            clear HDC HDN hz hg1 hg2
            cases zz with
            | true =>
              have HB3 : RowKit.Hid (∀ j, j < k + 1 → canB cs left' out' j = false) := by
                intro j hj
                by_cases hjk : j < k
                · exact HBB.out j hjk
                · obtain rfl : j = k := by omega
                  simp [canB, ← hzz]
              clear HBB hzz hy hrd hsd c0 c1 hrn hsn
              go_wp2_with fail
              go_roundw
              case rel => exact ⟨k + 1, false, left', out', by omega, by go_num, rfl, (show _ → _ from fun _ => ⟨rfl, rfl, rfl, hg, HB3.out⟩), (show _ → _ by intro h; cases h), S⟩
              case measure => simp [intOf]; omega
            | false =>
              have EN := s_enough ra rn rc sa sn sc _ z left' wr (hsd.kept S.gb) (St.own S.tail) (by rw [hzl, HL.out])
              cases hq : leB z left' with
              | false =>
                rw [hq] at EN
                have HB3 : RowKit.Hid (∀ j, j < k + 1 → canB cs left' out' j = false) := by
                  intro j hj
                  by_cases hjk : j < k
                  · exact HBB.out j hjk
                  · obtain rfl : j = k := by omega
                    refine canB_of_not ?_
                    rw [canE_at hy.out]
                    exact hq
                clear HBB hzz hy hrd hsd c0 c1 hrn hsn hq
                go_wp2_with fail
                refine EN.mono ?_
                rintro e w5 ⟨rfl, g5⟩
                have S5 := S.grow g5
                have G5 := gb_trans hg g5
                clear S g5 EN
                go_wp2_with fail
                go_roundw
                case rel => exact ⟨k + 1, false, left', out', by omega, by go_num, rfl, (show _ → _ from fun _ => ⟨rfl, rfl, rfl, G5, HB3.out⟩), (show _ → _ by intro h; cases h), S5⟩
                case measure => simp [intOf]; omega
              | true =>
                rw [hq] at EN
                have hcan : canB cs left' out' k = true := by
                  unfold canB
                  rw [canE_at hy.out, ← hzz]
                  show (leB z left' && true) = true
                  rw [hq]; rfl
                have hnx := nextR_hit (by rw [← HN.out]; exact hlt) hcan HBB.out
                have hfs := freeN_snoc out' k hzz.symm n
                rw [if_pos hlt] at hfs
                have T1 : RowKit.Hid (finGo cs (freeN (out' ++ [(k : Int)]) n) (addL left' y) (out' ++ [(k : Int)]) = RES ∧ freeN (out' ++ [(k : Int)]) n + 1 < gk ∧ (addL left' y).length = m' ∧ (out' ++ [(k : Int)]).length + freeN (out' ++ [(k : Int)]) n = n) := by
                  refine ⟨?_, ?_, by rw [addL_len, HL.out], by simp; omega⟩
                  · have := HA2.out
                    rw [← hfs, finGo_step hnx, holdsAt_at hy.out] at this
                    exact this
                  · rw [HK.out]; omega
                have hnl : out'.length ≤ 1000000000 := by omega
                obtain rfl : rn = m' := by rw [hrn.out]; exact hyl
                have HRD := Lib.hid hrd
                clear HBB hzz hy hrd hsd hrn hsn hq hcan hnx hfs QA HA2 HC
                go_wp2_with fail
                refine EN.mono ?_
                rintro e w5 ⟨rfl, g5⟩
                have S5 := S.grow g5
                have hfz' : w5.frozen? ⟨D, k, none⟩ = false := S5.ownFrozen (g := D) rfl k
                have S6 := LB_set S5 (g := D) rfl k true (by rw [doneB_len]; exact hlt)
                rw [doneB_set] at S6
                have hcz' := gb_cell g5 hcz (by simp)
                have S7 := S6.rot
                clear S g5 EN S5 S6 hcz hfz
                go_wp2_with (at_builtin; refine wpList_app1 LI_info rfl _ _ rfl S7 (k : Int) #[.int .i64 k] rfl rfl (by simp [Act.eval]) hnl ?_; intro v' w8 S8; clear S7)
                have c0'' := gb_cell S8.gb c0 (by simp)
                have S9 := S8.rot
                clear S8 c0' c1 c1' hcz'
                rw [← partL_zero left' (fun j => addW (left'.getD j 0) (y.getD j 0)), HL.out] at S9
                go_loopw [10] (fun i wr => ∃ j : Nat, j ≤ rn ∧ i = .int .i64 j ∧ St w wr [Own LI (.slice la rn lc) (partL (fun j => left'.getD j 0) (fun j => addW (left'.getD j 0) (y.getD j 0)) rn j), Own LI v' (out' ++ [(k : Int)]), Own LB (.slice (some ⟨D, 0, none⟩) n n) (doneB n (out' ++ [(k : Int)]))]) (fun i _ => rn - (intOf i).toNat)
                case atStart => exact ⟨0, by omega, rfl, S9⟩
                case round =>
                  obtain ⟨j, hjn, rfl, S10⟩ := hrel
                  clear S9 c0''
                  by_cases hlt3 : j < rn
                  rotate_left
                  · obtain rfl : j = rn := by omega
                    have e : partL (fun j => left'.getD j 0) (fun j => addW (left'.getD j 0) (y.getD j 0)) j j = addL left' y := by rw [partL_full, addL, HL.out]
                    rw [e] at S10
                    have S11 := S10.rot
                    clear S10 e
                    go_wp2_with fail
                    go_roundw
                    case rel => exact ⟨k + 1, true, addL left' y, out' ++ [(k : Int)], by omega, by go_num, rfl, (show _ → _ by intro h; cases h), (show _ → _ from fun _ => T1.out), S11⟩
                    case measure => simp [intOf]; omega
                  obtain ⟨lg, rfl⟩ := ownAd S10 (by omega)
                  have c0'' := gb_cell S10.gb c0 (by simp)
                  obtain ⟨d0, f0⟩ := LI_cell S10 (g := lg) rfl j _ (partL_at _ _ rn j hlt3)
                  have S11 := LI_set S10 (g := lg) rfl j (addW (left'.getD j 0) (y.getD j 0)) (by rw [partL_len]; exact hlt3)
                  rw [partL_set _ _ _ _ hlt3] at S11
                  obtain ⟨ya, yn, yc, hyv, -, -, HYN, HYC⟩ := LI_get (HRD.out.kept S10.gb)
                  simp only [Value.slice.injEq] at hyv
                  obtain ⟨rfl, rfl, rfl⟩ := hyv
                  obtain ⟨b2, off2, yj, rfl, hb2, hyj, hyc⟩ := HYC.out j hlt3
                  have e2 : y.getD j 0 = yj := by rw [List.getD_eq_getElem?_getD, hyj.out]; rfl
                  rw [show addW (left'.getD j 0) (y.getD j 0) = wrap64 (left'.getD j 0 + y.getD j 0) from rfl] at S11
                  generalize hgg : partL (fun j => left'.getD j 0) (fun j => addW (left'.getD j 0) (y.getD j 0)) rn (j + 1) = PL at S11
                  rw [e2] at S11
                  generalize left'.getD j 0 = lj at d0 S11
                  rw [← hgg] at S11
                  clear hgg
                  have hji : (j : Int) < (rn : Int) := by omega
                  have hj0 : (0 : Int) ≤ (j : Int) := by omega
                  have SH11 := Lib.hid S11.drew
                  clear HYC HYN e2 S10 S11 hyj
                  go_wp2_with fail
                  go_region
                  all_goals
                    go_wp2
                    go_roundw
                    case rel => exact ⟨j + 1, by omega, by go_num, SH11.out⟩
                    case measure => simp [intOf]; omega
end Go.Proofs.Ytpbihjkfbbmdjaa
