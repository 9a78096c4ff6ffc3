/-
  BestTour: both programs give the same order.
-/
import Derived.Test.YthkleabdnjhniaaBest
namespace Go.Proofs.Ythkleabdnjhniaa
open Go Go.RowKit Go.Sort
attribute [local go_sem] eqNil
def BestQ (xs : List Pt) (w : World) (e : Ending) (w' : World) : Prop := ∃ r, e = .returned r ∧ St w w' [Own LI r (best xs)]
set_option maxRecDepth 100000 in
set_option maxHeartbeats 4000000 in
theorem i_BestTour (v : Value) (xs : List Pt) (w : World) (hv : Rds LPt w v xs) :
    Calls Try.prog 34 #[v] w fun e w' => ∃ r, e = .returned r ∧ St w w' [Own LI r (best xs)] := by
  show Calls _ _ _ _ (BestQ xs w)
  have HI : RowKit.Hid (Calls Try.prog 16 #[v] w fun e w' => e = .returned (.bool (stopsB xs)) ∧ w.grownBy w' none) := i_StopsValid v xs w hv
  have hv0 := hv
  obtain ⟨la, n, lc, rfl, hlc, hlm, HLN, -⟩ := LPt_get hv
  cases hS : stopsB xs with
  | false =>
    rw [hS] at HI
    have e0 : RowKit.Hid (best xs = []) := best_no (by rw [hS]; simp)
    clear hS
    go_enter Try.func34, Try.ntmps34
    go_wp2_with (go_at_call 16; refine (HI.out).mono ?_; rintro e w1 ⟨rfl, g1⟩)
    go_ret
    exact ⟨_, rfl, by rw [e0.out]; exact ((St.refl w).grow g1).ownNil LI⟩
  | true =>
    rw [hS] at HI
    by_cases h7 : n ≤ 7
    rotate_left
    · have e0 : RowKit.Hid (best xs = []) := best_no (fun h => h7 (by have := HLN.out; omega))
      have h7i : (7 : Int) < (n : Int) := by omega
      clear hS
      go_enter Try.func34, Try.ntmps34
      go_wp2_with (go_at_call 16; refine (HI.out).mono ?_; rintro e w1 ⟨rfl, g1⟩)
      go_ret
      exact ⟨_, rfl, by rw [e0.out]; exact ((St.refl w).grow g1).ownNil LI⟩
    · have hs := stopsB_len hS
      have HP := Lib.hid (stopsB_pts hS)
      have e0 := Lib.hid (best_yes hS (by have := HLN.out; omega))
      have hn1 : 1 ≤ n := by have := HLN.out; omega
      have EX : RowKit.Hid (∀ (B : Nat) (ov : Value) (w' : World), St w w' (Loc B 66 #[.slice la n lc, .slice none 0 0] :: Own LI (.slice none 0 0) [] :: Own LI ov [0] :: []) →
          Calls Try.prog 57 #[.pointer (some ⟨B, 0, none⟩), ov] w' (ExtQ w B (.slice la n lc) ov [0] (best xs) [])) := by
        intro B ov w' S
        have := extend_s w B (.slice la n lc) xs hv0 HP.out hs (xs.length - 1) [0] [] ov (.slice none 0 0) w' [] (by simp; omega) (by simp) (by intro a ha; rw [List.mem_singleton] at ha; omega) (by simp) (.inl rfl) (fun _ => rfl) S
        rwa [← e0.out] at this
      clear hS hs
      go_enter Try.func34, Try.ntmps34
      go_wp2_with fail
      refine (HI.out).mono ?_
      rintro e w1 ⟨rfl, g1⟩
      have S1 : St w (w1.alloc (.cells #[.slice la n lc, .slice none 0 0] 66)) [Loc w1.heap.size 66 #[.slice la n lc, .slice none 0 0]] := ((St.refl w).grow g1).loc _ _
      have S2 := S1.ownNil LI
      have S3 := S2.ownLitAt LI [0] #[.int .i64 0] rfl (by decide) (w1.heap.size + 1) (by simp)
      have S5 : St w ((w1.alloc (.cells #[.slice la n lc, .slice none 0 0] 66)).alloc (.cells #[.int .i64 0] 3)) (Loc w1.heap.size 66 #[.slice la n lc, .slice none 0 0] :: Own LI (.slice none 0 0) [] :: Own LI (.slice (some ⟨w1.heap.size + 1, 0, none⟩) 1 1) [0] :: []) := (St.rot2 S3).swap
      clear S1 S2 S3 g1
      go_wp2_with fail
      refine (EX.out w1.heap.size _ _ S5).mono ?_
      rintro e w5 ⟨u5, bv5, rfl, -, S7⟩
      obtain ⟨ra, rn, rc, rfl, -⟩ := (St.own (St.tail S7)).slice
      have c1 := S7.locCell 1 _ rfl
      have FS := Lib.hid (St.drop1 (Ms := [_]) (St.tail S7))
      clear S5 S7 EX
      go_wp2
      go_ret
      exact ⟨_, rfl, FS.out⟩
def SrchQ (w0 : World) (B : Nat) (ov : Value) (os r : List Int) (Ls : List Asr) (e : Ending) (w' : World) : Prop :=
  ∃ u bv, e = .returned u ∧ St w0 w' (Loc B 33 #[bv] :: Own LI bv r :: Own LI ov os :: Ls)
theorem St.locOne {w0 w : World} {b : Nat} {T : TypeId} {a0 : Value} {Ls : List Asr} (S : St w0 w (Loc b T #[a0] :: Ls)) (u0 : Value) : St w0 (w.setCell ⟨b, 0, none⟩ u0) (Loc b T #[u0] :: Ls) := by
  have := S.locSet 0 u0
  simp only [List.setIfInBounds_toArray, List.set_cons_zero] at this
  exact this
theorem hasB_take {os : List Int} {j : Nat} {Z k : Int} (h : os[j]? = some Z) : hasB (os.take (j + 1)) k = (hasB (os.take j) k || (Z == k)) := by
  unfold hasB
  rw [take_succ_at h]
  by_cases h1 : k ∈ os.take j
  · simp [h1]
  · by_cases h2 : Z = k
    · simp [h2]
    · simp [h1, h2, show ¬ k = Z from fun e => h2 e.symm]
set_option maxRecDepth 100000 in
set_option maxHeartbeats 8000000 in
theorem search_s (w0 : World) (B : Nat) (lv : Value) (xs : List Pt) (hlv : Rds LPt w0 lv xs) (hp : ptsB xs = true) (hn : 1 ≤ xs.length ∧ xs.length ≤ 16) : ∀ (m : Nat) (os b : List Int) (ov bv : Value) (w : World) (Ls : List Asr),
    os.length + m = xs.length → (0 : Int) ∈ os → inN xs.length os → os.Nodup → (b = [] ∨ ordOk xs.length b) → St w0 w (Loc B 33 #[bv] :: Own LI bv b :: Own LI ov os :: Ls) →
    Calls Try.prog 56 #[lv, ov, .pointer (some ⟨B, 0, none⟩)] w (SrchQ w0 B ov os (dfs xs m os b) Ls) := by
  intro m
  induction m with
  | zero =>
    intro os b ov bv w Ls hl h0 hin hd hb S
    have hne : os ≠ [] := by rintro rfl; cases h0
    obtain ⟨la, n, lc, rfl, hlc, hlm, HLN, -⟩ := LPt_get hlv
    have hol : RowKit.Hid (os.length = n) := by show _ = _; rw [HLN.out]; omega
    have hn16 : 1 ≤ n ∧ n ≤ 16 := by have := HLN.out; omega
    obtain ⟨g, cp, rfl, hc1, hc2⟩ := (S.tail.tail).ownBlk (by have := hol.out; omega)
    rw [hol.out] at S hc1
    rw [hol.out]
    have HP := Lib.hid hp
    have HIN := Lib.hid hin
    obtain ⟨ba, bn, bc, rfl, hbc1, hbc2, HBN, -⟩ := LI_own S.tail
    have hcell0 := St.locCell S 0 _ rfl
    have d0 := qcell hcell0
    have SH := Lib.hid S
    have hll : ([] : List Int).length + os.length ≤ 1099511627776 := by have := hol.out; simp; omega
    have hol1 : 0 < os.length := by have := hol.out; omega
    by_cases hb0 : b = []
    · obtain rfl : bn = 0 := by rw [HBN.out, hb0]; rfl
      have e0 : RowKit.Hid (dfs xs 0 os b = os) := by show _ = _; rw [hb0, dfs_first]
      clear S hb hl hin hd hb0 h0 hne
      go_enter Try.func56, Try.ntmps56
      go_wp2
      (refine wp_region_quiet_below (by kernel_rfl) (by kernel_rfl) ?_; (repeat (go_big_quiet_step (fail))); refine wpQuiet_nil ?_; intro _ hw'; obtain ⟨⟨dq, osq⟩, hw''⟩ := hw'; subst hw'')
      have S1 := (SH.out.grow (qg w dq osq)).ownEmpty LI
      clear SH d0 hcell0
      generalize grow (redrawn w dq) osq = W1 at *
      have R1 := St.own (S1.tail.tail.tail)
      go_wp2_with (at_builtin; refine wpList_appR LI_info rfl _ _ rfl S1 os _ R1 rfl rfl hll ?_; intro v6 w6 S6; rw [List.nil_append] at S6; obtain ⟨rg, rcp, rfl, -, -⟩ := St.ownBlk S6 hol1; rw [hol.out] at S6; rw [hol.out]; have c1 := St.locCell (St.swap S6) 0 _ rfl; have f1 := St.locFrozen (St.swap S6) 0; have FS := Lib.hid (St.swap (St.tail (St.swap (St.rot2 (St.locOne (St.swap S6) (.slice (some ⟨rg, 0, none⟩) n rcp)))))); clear S6 S1 R1)
      go_wp2
      (first | go_ret | (refine bodyPost_ret (results_none rfl _ _ _) rfl ?_) | (refine bodyPost_end (results_none rfl _ _ _) rfl ?_))
      exact ⟨_, _, rfl, by rw [e0.out]; exact FS.out⟩
    · have hbo := hb.resolve_left hb0
      have hbl : RowKit.Hid (b.length = n) := by show _ = _; rw [HLN.out]; exact hbo.1
      obtain rfl : bn = n := by rw [HBN.out, hbl.out]
      have hnz : ((bn : Int) == 0) = false := by simpa using (show ¬ (bn : Int) = 0 by omega)
      obtain ⟨T1, hT1⟩ : ∃ T, tourL xs os = T := ⟨_, rfl⟩
      obtain ⟨T2, hT2⟩ : ∃ T, tourL xs b = T := ⟨_, rfl⟩
      have C1 : RowKit.Hid (∀ W, w.grownBy W none → Calls Try.prog 49 #[.slice la bn lc, .slice (some ⟨g, 0, none⟩) bn cp] W fun e w' => e = .returned (.int .i64 T1) ∧ W.grownBy w' none) := by
        intro W h
        have := s_len _ _ xs os W (hlv.kept (gb_trans SH.out.gb h)) ((St.own SH.out.tail.tail).kept h) HP.out HIN.out (by have := hol.out; omega)
        rwa [hT1] at this
      have C2 : RowKit.Hid (∀ W, w.grownBy W none → Calls Try.prog 49 #[.slice la bn lc, .slice ba bn bc] W fun e w' => e = .returned (.int .i64 T2) ∧ W.grownBy w' none) := by
        intro W h
        have := s_len _ _ xs b W (hlv.kept (gb_trans SH.out.gb h)) ((St.own SH.out.tail).kept h) HP.out hbo.inN (by have := hbl.out; omega)
        rwa [hT2] at this
      by_cases hlt : T1 < T2
      · have e0 : RowKit.Hid (dfs xs 0 os b = os) := dfs_less (by rw [hT1, hT2]; exact hlt)
        clear S hb hl hin hd hb0 h0 hbo hT1 hT2 hne
        go_enter Try.func56, Try.ntmps56
        go_wp2
        (refine wp_region_quiet_below (by kernel_rfl) (by kernel_rfl) ?_; (repeat (go_big_quiet_step ((first | (with_reducible exact qc (C1.out _ (qg _ _ _))) | (with_reducible exact qc (C2.out _ (qg _ _ _))))))); refine wpQuiet_nil ?_; intro _ hw'; obtain ⟨⟨dq, osq⟩, hw''⟩ := hw'; subst hw'')
        have S1 := (SH.out.grow (qg w dq osq)).ownEmpty LI
        clear SH d0 hcell0 C1 C2
        generalize grow (redrawn w dq) osq = W1 at *
        have R1 := St.own (S1.tail.tail.tail)
        go_wp2_with (at_builtin; refine wpList_appR LI_info rfl _ _ rfl S1 os _ R1 rfl rfl hll ?_; intro v6 w6 S6; rw [List.nil_append] at S6; obtain ⟨rg, rcp, rfl, -, -⟩ := St.ownBlk S6 hol1; rw [hol.out] at S6; rw [hol.out]; have c1 := St.locCell (St.swap S6) 0 _ rfl; have f1 := St.locFrozen (St.swap S6) 0; have FS := Lib.hid (St.swap (St.tail (St.swap (St.rot2 (St.locOne (St.swap S6) (.slice (some ⟨rg, 0, none⟩) bn rcp)))))); clear S6 S1 R1)
        go_wp2
        (first | go_ret | (refine bodyPost_ret (results_none rfl _ _ _) rfl ?_) | (refine bodyPost_end (results_none rfl _ _ _) rfl ?_))
        exact ⟨_, _, rfl, by rw [e0.out]; exact FS.out⟩
      · have hds : decide (T1 < T2) = false := decide_eq_false hlt
        have e0 : RowKit.Hid (dfs xs 0 os b = b) := dfs_more hb0 (by rw [hT1, hT2]; exact hlt)
        clear S hb hl hin hd hb0 h0 hbo hT1 hT2 hne
        go_enter Try.func56, Try.ntmps56
        go_wp2
        (refine wp_region_quiet_below (by kernel_rfl) (by kernel_rfl) ?_; (repeat (go_big_quiet_step ((first | (with_reducible exact qc (C1.out _ (qg _ _ _))) | (with_reducible exact qc (C2.out _ (qg _ _ _))))))); refine wpQuiet_nil ?_; intro _ hw'; obtain ⟨⟨dq, osq⟩, hw''⟩ := hw'; subst hw'')
        have S1 := Lib.hid (SH.out.grow (qg w dq osq))
        generalize grow (redrawn w dq) osq = W1 at *
        go_wp2
        (first | go_ret | (refine bodyPost_ret (results_none rfl _ _ _) rfl ?_) | (refine bodyPost_end (results_none rfl _ _ _) rfl ?_))
        exact ⟨_, _, rfl, by rw [e0.out]; exact S1.out⟩
  | succ m ih =>
    intro os b ov bv w Ls hl h0 hin hd hb S
    obtain ⟨la, n, lc, rfl, hlc, hlm, HLN, -⟩ := LPt_get hlv
    obtain ⟨N0, HN0⟩ : ∃ N0, RowKit.Hid (os.length = N0) := ⟨_, rfl⟩
    have hN0n : N0 < n := by have := HLN.out; have := HN0.out; omega
    have hN01 : 0 < N0 := by have := HN0.out; have := List.length_pos_of_mem h0; omega
    have hn16 : n ≤ 16 := by have := HLN.out; omega
    obtain ⟨g, cp, rfl, hc1, hc2⟩ := (S.tail.tail).ownBlk (by have := HN0.out; omega)
    rw [HN0.out] at S hc1
    rw [HN0.out]
    have hne2 : ((N0 : Int) == (n : Int)) = false := by simpa using (show ¬ (N0 : Int) = (n : Int) by omega)
    have hlen9 : os.length ≤ 1000000000 := by have := HN0.out; omega
    have hll : ([] : List Int).length + os.length ≤ 1099511627776 := by simp; omega
    have H0 := Lib.hid h0
    have IH : RowKit.Hid (∀ (k : Nat) (b' : List Int) (ov' bv' : Value) (w' : World), k < n → (k : Int) ∉ os → (b' = [] ∨ ordOk xs.length b') → St w0 w' (Loc B 33 #[bv'] :: Own LI bv' b' :: Own LI ov' (os ++ [(k : Int)]) :: Own LI (.slice (some ⟨g, 0, none⟩) N0 cp) os :: Ls) →
        Calls Try.prog 56 #[.slice la n lc, ov', .pointer (some ⟨B, 0, none⟩)] w' (SrchQ w0 B ov' (os ++ [(k : Int)]) (dfs xs m (os ++ [(k : Int)]) b') (Own LI (.slice (some ⟨g, 0, none⟩) N0 cp) os :: Ls)) ∧ (dfs xs m (os ++ [(k : Int)]) b' = [] ∨ ordOk xs.length (dfs xs m (os ++ [(k : Int)]) b'))) := by
      intro k b' ov' bv' w' hk hko hb' S'
      have a1 : (os ++ [(k : Int)]).length + m = xs.length := by simp; omega
      have a2 : inN xs.length (os ++ [(k : Int)]) := by
        intro a ha
        rcases List.mem_append.1 ha with ha | ha
        · exact hin a ha
        · rw [List.mem_singleton] at ha
          have := HLN.out
          omega
      have a3 : (os ++ [(k : Int)]).Nodup := by
        rw [List.nodup_append]
        refine ⟨hd, by simp, fun a ha c hc => ?_⟩
        rw [List.mem_singleton] at hc
        rintro rfl
        exact hko (hc ▸ ha)
      refine ⟨ih _ b' ov' bv' w' _ a1 (List.mem_append_left _ h0) a2 a3 hb' S', ?_⟩
      rcases (dfs_inv xs m _ b' a1 (by simp) a2 a3).mem with h | h
      · rw [h]; exact hb'
      · exact .inr h.1
    have E0 : RowKit.Hid (dfs xs (m + 1) os b = dfsTo xs m os n b) := by show _ = _; rw [dfs_succ, HLN.out]
    clear ih hl h0 hin hd
    go_enter Try.func56, Try.ntmps56
    go_wp2
    go_loopw [6, 7, 8] (fun i _ _ wr => ∃ (k : Nat) (b' : List Int) (bv' : Value), k ≤ n ∧ i = .int .i64 k ∧ RowKit.Hid (b' = dfsTo xs m os k b) ∧ RowKit.Hid (b' = [] ∨ ordOk xs.length b') ∧ St w0 wr (Loc B 33 #[bv'] :: Own LI bv' b' :: Own LI (.slice (some ⟨g, 0, none⟩) N0 cp) os :: Ls)) (fun i _ _ _ => n - (intOf i).toNat)
    case atStart => exact ⟨1, b, bv, by omega, rfl, (by show _ = _; rw [dfsTo_seen (k := 0) H0.out]; rfl), hb, S⟩
    case round =>
      clear S hb
      obtain ⟨k, b', bv', hk, rfl, HE, HO, S⟩ := hrel
      by_cases hlt : k < n
      rotate_left
      · obtain rfl : k = n := by omega
        have SH := Lib.hid S
        clear S
        go_wp2
        (first | go_ret | (refine bodyPost_ret (results_none rfl _ _ _) rfl ?_) | (refine bodyPost_end (results_none rfl _ _ _) rfl ?_))
        exact ⟨_, bv', rfl, by rw [E0.out, ← HE.out]; exact SH.out⟩
      have hki : (k : Int) < (n : Int) := by omega
      have R := St.own S.tail.tail
      obtain ⟨ra, rn, rc, hrv, -, -, -, HRC⟩ := LI_get R
      simp only [Value.slice.injEq] at hrv
      obtain ⟨rfl, rfl, rfl⟩ := hrv
      have SH := Lib.hid S
      obtain ⟨wo, hwo⟩ : ∃ wo, wo = wr := ⟨_, rfl⟩
      subst hwo
      clear S R
      go_wp2
      go_loop [7, 8] (fun u j => ∃ (J : Nat), J ≤ N0 ∧ j = .int .i64 J ∧ u = .bool (hasB (os.take J) (k : Int))) (fun _ j => N0 - (intOf j).toNat)
      case atStart => exact ⟨0, by omega, rfl, by simp [hasB]⟩
      case round =>
        obtain ⟨J, hJ, rfl, hu⟩ := hrel
        by_cases hlt2 : J < N0
        · obtain ⟨b1, off1, Z, hab, -, hZ, hcz⟩ := HRC.out J hlt2
          simp only [Option.some.injEq, Addr.mk.injEq, and_true] at hab
          obtain ⟨rfl, rfl⟩ := hab
          rw [Nat.zero_add] at hcz
          have hJi : (J : Int) < (N0 : Int) := by omega
          have HT := Lib.hid (hasB_take (k := (k : Int)) hZ.out)
          obtain ⟨q, hq⟩ : ∃ q, hasB (os.take J) (k : Int) = q := ⟨_, rfl⟩
          rw [hq] at hu HT
          obtain ⟨p, hp2⟩ : ∃ p, (Z == (k : Int)) = p := ⟨_, rfl⟩
          rw [hp2] at HT
          subst hu
          clear hq hZ
          cases q with
          | true =>
            have HT2 : RowKit.Hid (Value.bool true = .bool (hasB (os.take (J + 1)) (k : Int))) := by show _ = _; rw [HT.out]; rfl
            clear HT hp2
            go_wp2
            go_round
            case rel => exact ⟨J + 1, by omega, by go_num, HT2.out⟩
            case measure => (simp [intOf]; try omega)
          | false =>
            have HT2 : RowKit.Hid (Value.bool p = .bool (hasB (os.take (J + 1)) (k : Int))) := by show _ = _; rw [HT.out]; rfl
            clear HT
            go_wp2
            go_round
            case rel => exact ⟨J + 1, by omega, by go_num, HT2.out⟩
            case measure => (simp [intOf]; try omega)
        obtain rfl : J = N0 := by omega
        rw [List.take_of_length_le (by rw [HN0.out]; exact Nat.le_refl _)] at hu
        cases hh : hasB os (k : Int) with
        | true =>
          rw [hh] at hu
          subst hu
          have HE2 : RowKit.Hid (b' = dfsTo xs m os (k + 1) b) := by show _ = _; rw [dfsTo_seen (hasB_t.1 hh)]; exact HE.out
          clear HE hh
          go_wp2
          go_roundw
          case rel => exact ⟨k + 1, b', bv', by omega, by go_num, HE2, HO, SH.out⟩
          case measure => (simp [intOf]; try omega)
        | false =>
          rw [hh] at hu
          subst hu
          have hno := Lib.hid (hasB_f.1 hh)
          have HE2 : RowKit.Hid (dfs xs m (os ++ [(k : Int)]) b' = dfsTo xs m os (k + 1) b) := by show _ = _; rw [dfsTo_new (hasB_f.1 hh), ← HE.out]
          have S1 := SH.out.ownEmpty LI
          have R1 := St.own (S1.tail.tail.tail)
          clear HE hh SH HRC
          go_wp2_with (first
            | (at_builtin; refine wpList_appR LI_info rfl _ _ rfl S1 os _ R1 rfl rfl hll ?_; intro v6 w6 S6; rw [List.nil_append] at S6; clear S1 R1)
            | (at_builtin; refine wpList_app1 LI_info rfl _ _ rfl S6 (k : Int) #[.int .i64 k] rfl rfl rfl hlen9 ?_; intro v5 w5 S5; obtain ⟨C5, D5⟩ := IH.out k b' v5 bv' w5 hlt hno.out HO.out (St.rot2 S5); clear S5 S6))
          refine C5.mono ?_
          rintro e w6 ⟨u6, bv6, rfl, S6⟩
          have HO3 := Lib.hid D5
          have SH := Lib.hid (St.tail (St.rot S6))
          clear S6 C5 D5
          go_wp2
          go_roundw
          case rel => exact ⟨k + 1, _, bv6, by omega, by go_num, HE2, HO3, SH.out⟩
          case measure => (simp [intOf]; try omega)
set_option maxRecDepth 100000 in
set_option maxHeartbeats 4000000 in
theorem s_BestTour (v : Value) (xs : List Pt) (w : World) (hv : Rds LPt w v xs) :
    Calls Try.prog 33 #[v] w fun e w' => ∃ r, e = .returned r ∧ St w w' [Own LI r (best xs)] := by
  show Calls _ _ _ _ (BestQ xs w)
  have HI : RowKit.Hid (Calls Try.prog 14 #[v] w fun e w' => e = .returned (.bool (stopsB xs)) ∧ w.grownBy w' none) := s_StopsValid v xs w hv
  have hv0 := hv
  obtain ⟨la, n, lc, rfl, hlc, hlm, HLN, -⟩ := LPt_get hv
  cases hS : stopsB xs with
  | false =>
    rw [hS] at HI
    have e0 : RowKit.Hid (best xs = []) := best_no (by rw [hS]; simp)
    clear hS
    go_enter Try.func33, Try.ntmps33
    go_wp2_with (go_at_call 14; refine (HI.out).mono ?_; rintro e w1 ⟨rfl, g1⟩)
    go_ret
    exact ⟨_, rfl, by rw [e0.out]; exact ((St.refl w).grow g1).ownEmpty LI⟩
  | true =>
    rw [hS] at HI
    by_cases h7 : n ≤ 7
    rotate_left
    · have e0 : RowKit.Hid (best xs = []) := best_no (fun h => h7 (by have := HLN.out; omega))
      have h7i : (7 : Int) < (n : Int) := by omega
      clear hS
      go_enter Try.func33, Try.ntmps33
      go_wp2_with (go_at_call 14; refine (HI.out).mono ?_; rintro e w1 ⟨rfl, g1⟩)
      go_ret
      exact ⟨_, rfl, by rw [e0.out]; exact ((St.refl w).grow g1).ownEmpty LI⟩
    · have hs := stopsB_len hS
      have HP := Lib.hid (stopsB_pts hS)
      have e0 := Lib.hid (best_yes hS (by have := HLN.out; omega))
      have hn1 : 1 ≤ n := by have := HLN.out; omega
      have EX : RowKit.Hid (∀ (B : Nat) (ov bv : Value) (w' : World), St w w' (Loc B 33 #[bv] :: Own LI bv [] :: Own LI ov [0] :: []) →
          Calls Try.prog 56 #[.slice la n lc, ov, .pointer (some ⟨B, 0, none⟩)] w' (SrchQ w B ov [0] (best xs) [])) := by
        intro B ov bv w' S
        have := search_s w B (.slice la n lc) xs hv0 HP.out hs (xs.length - 1) [0] [] ov bv w' [] (by simp; omega) (by simp) (by intro a ha; rw [List.mem_singleton] at ha; omega) (by simp) (.inl rfl) S
        rwa [← e0.out] at this
      clear hS hs
      go_enter Try.func33, Try.ntmps33
      go_wp2_with fail
      refine (HI.out).mono ?_
      rintro e w1 ⟨rfl, g1⟩
      have S1 := ((St.refl w).grow g1).ownEmpty LI
      have S2 := S1.loc #[.slice (some ⟨w1.heap.size, 0, none⟩) 0 0] 33
      have hsz : (w1.alloc (.cells #[] 3)).heap.size = w1.heap.size + 1 := by simp
      rw [show LI.T = 3 from rfl, hsz] at S2
      have S3 := S2.ownLitAt LI [0] #[.int .i64 0] rfl (by decide) (w1.heap.size + 2) (by simp)
      have S5 : St w (((w1.alloc (.cells #[] 3)).alloc (.cells #[.slice (some ⟨w1.heap.size, 0, none⟩) 0 0] 33)).alloc (.cells #[.int .i64 0] 3)) (Loc (w1.heap.size + 1) 33 #[.slice (some ⟨w1.heap.size, 0, none⟩) 0 0] :: Own LI (.slice (some ⟨w1.heap.size, 0, none⟩) 0 0) [] :: Own LI (.slice (some ⟨w1.heap.size + 2, 0, none⟩) 1 1) [0] :: []) := St.rot2 S3
      clear S1 S2 S3 g1 hsz
      go_wp2_with fail
      refine (EX.out (w1.heap.size + 1) _ _ _ S5).mono ?_
      rintro e w5 ⟨u5, bv5, rfl, S7⟩
      obtain ⟨ra, rn, rc, rfl, -⟩ := (St.own (St.tail S7)).slice
      have c1 := S7.locCell 0 _ rfl
      have FS := Lib.hid (St.drop1 (Ms := [_]) (St.tail S7))
      clear S5 S7 EX
      go_wp2
      go_ret
      exact ⟨_, rfl, FS.out⟩
end Go.Proofs.Ythkleabdnjhniaa
