/-
  BestTour of the program: all orders tried through a struct that holds the best one.
-/
import Derived.Test.YthkleabdnjhniaaBestLaw
import Derived.Test.YthkleabdnjhniaaImprove
import Derived.Test.YthkleabdnjhniaaQuiet
import Derived.Test.YthkleabdnjhniaaLoc
namespace Go.Proofs.Ythkleabdnjhniaa
open Go Go.RowKit Go.Sort
attribute [local go_sem] eqNil
def ExtQ (w0 : World) (B : Nat) (lv ov : Value) (os r : List Int) (Ls : List Asr) (e : Ending) (w' : World) : Prop :=
  ∃ u bv, e = .returned u ∧ (r = [] → bv = .slice none 0 0) ∧ St w0 w' (Loc B 66 #[lv, bv] :: Own LI bv r :: Own LI ov os :: Ls)
theorem St.locPair {w0 w : World} {b : Nat} {T : TypeId} {a0 a1 : Value} {Ls : List Asr} (S : St w0 w (Loc b T #[a0, a1] :: Ls)) (u1 : Value) : St w0 (w.setCell ⟨b, 1, none⟩ u1) (Loc b T #[a0, u1] :: Ls) := by
  have := S.locSet 1 u1
  simp only [List.setIfInBounds_toArray, List.set_cons_zero, List.set_cons_succ] at this
  exact this
theorem St.rot2 {w0 w : World} {A B C : Asr} {Ls : List Asr} (h : St w0 w (A :: B :: C :: Ls)) : St w0 w (B :: C :: A :: Ls) := h.rot.rot
/-- What is read at the last place. -/
theorem ok_len {n : Nat} {b : List Int} (h : b = [] ∨ ordOk n b) : b.length ≤ n := by
  rcases h with rfl | h
  · simp
  · rw [h.1]; exact Nat.le_refl _
set_option maxRecDepth 100000 in
set_option maxHeartbeats 8000000 in
theorem extend_s (w0 : World) (B : Nat) (lv : Value) (xs : List Pt) (hlv : Rds LPt w0 lv xs) (hp : ptsB xs = true) (hn : 1 ≤ xs.length ∧ xs.length ≤ 16) : ∀ (m : Nat) (os b : List Int) (ov bv : Value) (w : World) (Ls : List Asr),
    os.length + m = xs.length → os ≠ [] → inN xs.length os → os.Nodup → (b = [] ∨ ordOk xs.length b) → (b = [] → bv = .slice none 0 0) → St w0 w (Loc B 66 #[lv, bv] :: Own LI bv b :: Own LI ov os :: Ls) →
    Calls Try.prog 57 #[.pointer (some ⟨B, 0, none⟩), ov] w (ExtQ w0 B lv ov os (dfs xs m os b) Ls) := by
  intro m
  induction m with
  | zero =>
    intro os b ov bv w Ls hl hne hin hd hb hbn S
    obtain ⟨la, n, lc, rfl, hlc, hlm, HLN, -⟩ := LPt_get hlv
    have hol : RowKit.Hid (os.length = n) := by show _ = _; rw [HLN.out]; omega
    have hn16 : 1 ≤ n ∧ n ≤ 16 := by have := HLN.out; omega
    obtain ⟨g, cp, rfl, hc1, hc2⟩ := (S.tail.tail).ownBlk (by have := hol.out; omega)
    rw [hol.out] at S hc1
    rw [hol.out]
    have HP := Lib.hid hp
    have HIN := Lib.hid hin
    have hcell0 := St.locCell S 0 _ rfl
    have hcell1 := St.locCell S 1 _ rfl
    have hfr1 := St.locFrozen S 1
    have d0 := qcell hcell0
    have d1 := qcell hcell1
    have SH := Lib.hid S
    have CL : RowKit.Hid (∀ W, w.grownBy W none → Calls Try.prog 58 #[.slice (some ⟨g, 0, none⟩) n cp] W fun e w' => ∃ r, e = .returned r ∧ St W w' [Own LI r os]) := fun W h => clone_s _ os W ((St.own SH.out.tail.tail).kept h) (by have := hol.out; omega) (by have := hol.out; omega)
    have FIN : RowKit.Hid (∀ W W2 r, St w0 W (Loc B 66 #[.slice la n lc, bv] :: Own LI bv b :: Own LI (.slice (some ⟨g, 0, none⟩) n cp) os :: Ls) → St W W2 [Own LI r os] → St w0 (W2.setCell ⟨B, 1, none⟩ r) (Loc B 66 #[.slice la n lc, r] :: Own LI r os :: Own LI (.slice (some ⟨g, 0, none⟩) n cp) os :: Ls)) := by
      intro W W2 r S1 S2
      have S3 := (S1.call S2)
      simp only [List.cons_append, List.nil_append] at S3
      have S4 := (St.swap S3).locPair r
      exact St.swap (St.tail (St.swap (St.rot2 S4)))
    by_cases hb0 : b = []
    · obtain rfl := hbn hb0
      have e0 : RowKit.Hid (dfs xs 0 os b = os) := by show _ = _; rw [hb0, dfs_first]
      have HNE := Lib.hid hne
      clear S hfr1 hb hbn hl hne hin hd hb0
      go_enter Try.func57, Try.ntmps57
      go_wp2
      (refine wp_region_quiet_below (by kernel_rfl) (by kernel_rfl) ?_; (repeat (go_big_quiet_step (fail))); refine wpQuiet_nil ?_; intro _ hw'; obtain ⟨⟨dq, osq⟩, hw''⟩ := hw'; subst hw'')
      have S1 := SH.out.grow (qg w dq osq)
      have G1 := qg w dq osq
      generalize grow (redrawn w dq) osq = W1 at *
      go_wp2_with fail
      refine (CL.out _ G1).mono ?_
      rintro e w2 ⟨r, rfl, T⟩
      obtain ⟨rg, rcp, rfl, -, -⟩ := St.ownBlk T (by have := hol.out; omega)
      rw [hol.out] at T ⊢
      have S3 := S1.call T
      simp only [List.cons_append, List.nil_append] at S3
      have c1 := St.locCell (St.swap S3) 1 _ rfl
      have f1 := St.locFrozen (St.swap S3) 1
      have FS := Lib.hid (FIN.out _ _ _ S1 T)
      clear S3 S1 T d0 d1 SH CL FIN
      go_wp2
      (first | go_ret | (refine bodyPost_ret (results_none rfl _ _ _) rfl ?_) | (refine bodyPost_end (results_none rfl _ _ _) rfl ?_))
      exact ⟨_, _, rfl, fun h => absurd (e0.out.symm.trans h) HNE.out, by rw [e0.out]; exact FS.out⟩
    · have hbo := hb.resolve_left hb0
      have hbl : RowKit.Hid (b.length = n) := by show _ = _; rw [HLN.out]; exact hbo.1
      obtain ⟨bg, bc, rfl, hbc1, hbc2⟩ := (S.tail).ownBlk (by have := hbl.out; omega)
      rw [hbl.out] at SH S hbc1 FIN hcell1 d1
      obtain ⟨T1, hT1⟩ : ∃ T, tourL xs os = T := ⟨_, rfl⟩
      obtain ⟨T2, hT2⟩ : ∃ T, tourL xs b = T := ⟨_, rfl⟩
      have C1 : RowKit.Hid (∀ W, w.grownBy W none → Calls Try.prog 51 #[.slice la n lc, .slice (some ⟨g, 0, none⟩) n cp] W fun e w' => e = .returned (.int .i64 T1) ∧ W.grownBy w' none) := by
        intro W h
        have := i_len _ _ xs os W (hlv.kept (gb_trans SH.out.gb h)) ((St.own SH.out.tail.tail).kept h) HP.out HIN.out (by have := hol.out; omega)
        rwa [hT1] at this
      have C2 : RowKit.Hid (∀ W, w.grownBy W none → Calls Try.prog 51 #[.slice la n lc, .slice (some ⟨bg, 0, none⟩) n bc] W fun e w' => e = .returned (.int .i64 T2) ∧ W.grownBy w' none) := by
        intro W h
        have := i_len _ _ xs b W (hlv.kept (gb_trans SH.out.gb h)) ((St.own SH.out.tail).kept h) HP.out hbo.inN (by have := hbl.out; omega)
        rwa [hT2] at this
      have HNE := Lib.hid hne
      have HB0 := Lib.hid hb0
      by_cases hlt : T1 < T2
      · have e0 : RowKit.Hid (dfs xs 0 os b = os) := dfs_less (by rw [hT1, hT2]; exact hlt)
        clear S hfr1 hb hbn hl hne hin hd hb0 hbo hT1 hT2
        go_enter Try.func57, Try.ntmps57
        go_wp2
        (refine wp_region_quiet_below (by kernel_rfl) (by kernel_rfl) ?_; (repeat (go_big_quiet_step ((first | (with_reducible exact qc (C1.out _ (qg _ _ _))) | (with_reducible exact qc (C2.out _ (qg _ _ _))))))); refine wpQuiet_nil ?_; intro _ hw'; obtain ⟨⟨dq, osq⟩, hw''⟩ := hw'; subst hw'')
        have S1 := SH.out.grow (qg w dq osq)
        have G1 := qg w dq osq
        generalize grow (redrawn w dq) osq = W1 at *
        go_wp2_with fail
        refine (CL.out _ G1).mono ?_
        rintro e w2 ⟨r, rfl, T⟩
        obtain ⟨rg, rcp, rfl, -, -⟩ := St.ownBlk T (by have := hol.out; omega)
        rw [hol.out] at T ⊢
        have S3 := S1.call T
        simp only [List.cons_append, List.nil_append] at S3
        have c1 := St.locCell (St.swap S3) 1 _ rfl
        have f1 := St.locFrozen (St.swap S3) 1
        have FS := Lib.hid (FIN.out _ _ _ S1 T)
        clear S3 S1 T d0 d1 SH CL FIN
        go_wp2
        (first | go_ret | (refine bodyPost_ret (results_none rfl _ _ _) rfl ?_) | (refine bodyPost_end (results_none rfl _ _ _) rfl ?_))
        exact ⟨_, _, rfl, fun h => absurd (e0.out.symm.trans h) HNE.out, by rw [e0.out]; exact FS.out⟩
      · have hds : decide (T1 < T2) = false := decide_eq_false hlt
        have e0 : RowKit.Hid (dfs xs 0 os b = b) := dfs_more hb0 (by rw [hT1, hT2]; exact hlt)
        clear S hfr1 hb hbn hl hne hin hd hb0 hbo hT1 hT2
        go_enter Try.func57, Try.ntmps57
        go_wp2
        (refine wp_region_quiet_below (by kernel_rfl) (by kernel_rfl) ?_; (repeat (go_big_quiet_step ((first | (with_reducible exact qc (C1.out _ (qg _ _ _))) | (with_reducible exact qc (C2.out _ (qg _ _ _))))))); refine wpQuiet_nil ?_; intro _ hw'; obtain ⟨⟨dq, osq⟩, hw''⟩ := hw'; subst hw'')
        have S1 := Lib.hid (SH.out.grow (qg w dq osq))
        generalize grow (redrawn w dq) osq = W1 at *
        go_wp2
        (first | go_ret | (refine bodyPost_ret (results_none rfl _ _ _) rfl ?_) | (refine bodyPost_end (results_none rfl _ _ _) rfl ?_))
        exact ⟨_, _, rfl, fun h => absurd (e0.out.symm.trans h) HB0.out, by rw [e0.out]; exact S1.out⟩
  | succ m ih =>
    intro os b ov bv w Ls hl hne hin hd hb hbn S
    obtain ⟨la, n, lc, rfl, hlc, hlm, HLN, -⟩ := LPt_get hlv
    obtain ⟨N0, HN0⟩ : ∃ N0, RowKit.Hid (os.length = N0) := ⟨_, rfl⟩
    have hN0n : N0 < n := by have := HLN.out; have := HN0.out; omega
    have hN01 : 0 < N0 := by have := HN0.out; have := List.length_pos_iff.2 hne; omega
    have hn16 : n ≤ 16 := by have := HLN.out; omega
    obtain ⟨g, cp, rfl, hc1, hc2⟩ := (S.tail.tail).ownBlk (by have := HN0.out; omega)
    rw [HN0.out] at S hc1
    rw [HN0.out]
    have hne2 : ((N0 : Int) == (n : Int)) = false := by simpa using (show ¬ (N0 : Int) = (n : Int) by omega)
    have hcell0 := St.locCell S 0 _ rfl
    have hlen9 : os.length ≤ 1000000000 := by have := HN0.out; omega
    have IH : RowKit.Hid (∀ (k : Nat) (b' : List Int) (ov' bv' : Value) (w' : World), k < n → (k : Int) ∉ os → (b' = [] ∨ ordOk xs.length b') → (b' = [] → bv' = .slice none 0 0) → St w0 w' (Loc B 66 #[.slice la n lc, bv'] :: Own LI bv' b' :: Own LI ov' (os ++ [(k : Int)]) :: Own LI (.slice (some ⟨g, 0, none⟩) N0 cp) os :: Ls) →
        Calls Try.prog 57 #[.pointer (some ⟨B, 0, none⟩), ov'] w' (ExtQ w0 B (.slice la n lc) ov' (os ++ [(k : Int)]) (dfs xs m (os ++ [(k : Int)]) b') (Own LI (.slice (some ⟨g, 0, none⟩) N0 cp) os :: Ls)) ∧ (dfs xs m (os ++ [(k : Int)]) b' = [] ∨ ordOk xs.length (dfs xs m (os ++ [(k : Int)]) b'))) := by
      intro k b' ov' bv' w' hk hko hb' hbn' S'
      have a1 : (os ++ [(k : Int)]).length + m = xs.length := by simp; omega
      have a2 : inN xs.length (os ++ [(k : Int)]) := by
        intro a ha
        rcases List.mem_append.1 ha with ha | ha
        · exact hin a ha
        · rw [List.mem_singleton] at ha
          have := HLN.out
          omega
      have a3 : (os ++ [(k : Int)]).Nodup := by
        rw [List.nodup_append]
        refine ⟨hd, by simp, fun a ha c hc => ?_⟩
        rw [List.mem_singleton] at hc
        rintro rfl
        exact hko (hc ▸ ha)
      refine ⟨ih _ b' ov' bv' w' _ a1 (by simp) a2 a3 hb' hbn' S', ?_⟩
      rcases (dfs_inv xs m _ b' a1 (by simp) a2 a3).mem with h | h
      · rw [h]; exact hb'
      · exact .inr h.1
    have E0 : RowKit.Hid (dfs xs (m + 1) os b = dfsTo xs m os n b) := by show _ = _; rw [dfs_succ, HLN.out]
    clear ih hl hne hin hd
    go_enter Try.func57, Try.ntmps57
    go_wp2
    go_loopw [4, 46] (fun _ i wr => ∃ (k : Nat) (b' : List Int) (bv' : Value), k ≤ n ∧ i = .int .i64 k ∧ RowKit.Hid (b' = dfsTo xs m os k b) ∧ RowKit.Hid (b' = [] ∨ ordOk xs.length b') ∧ RowKit.Hid (b' = [] → bv' = .slice none 0 0) ∧ St w0 wr (Loc B 66 #[.slice la n lc, bv'] :: Own LI bv' b' :: Own LI (.slice (some ⟨g, 0, none⟩) N0 cp) os :: Ls)) (fun _ i _ => n - (intOf i).toNat)
    case atStart => exact ⟨0, b, bv, by omega, rfl, rfl, hb, hbn, S⟩
    case round =>
      clear S hcell0 hb hbn
      obtain ⟨k, b', bv', hk, rfl, HE, HO, HN, S⟩ := hrel
      by_cases hlt : k < n
      rotate_left
      · obtain rfl : k = n := by omega
        have SH := Lib.hid S
        clear S
        go_wp2
        (first | go_ret | (refine bodyPost_ret (results_none rfl _ _ _) rfl ?_) | (refine bodyPost_end (results_none rfl _ _ _) rfl ?_))
        exact ⟨_, bv', rfl, fun h => HN.out (by rw [HE.out, ← E0.out]; exact h), by rw [E0.out, ← HE.out]; exact SH.out⟩
      have hki : (k : Int) < (n : Int) := by omega
      have R := St.own S.tail.tail
      cases hh : hasB os (k : Int) with
      | true =>
        have HE2 : RowKit.Hid (b' = dfsTo xs m os (k + 1) b) := by show _ = _; rw [dfsTo_seen (hasB_t.1 hh)]; exact HE.out
        have CT : RowKit.Hid (Calls Try.prog 54 #[.slice (some ⟨g, 0, none⟩) N0 cp, .int .i64 (k : Int)] wr fun e w' => e = .returned (.bool true) ∧ wr = w') := by have := contains_s _ os (k : Int) wr R; rwa [hh] at this
        have SH := Lib.hid S
        clear HE hh S R
        go_wp2_with (refine (CT.out).mono ?_; rintro e w' ⟨rfl, rfl⟩)
        go_roundw
        case rel => exact ⟨k + 1, b', bv', by omega, by go_num, HE2, HO, HN, SH.out⟩
        case measure => (simp [intOf]; try omega)
      | false =>
        have hno := Lib.hid (hasB_f.1 hh)
        have HE2 : RowKit.Hid (dfs xs m (os ++ [(k : Int)]) b' = dfsTo xs m os (k + 1) b) := by show _ = _; rw [dfsTo_new (hasB_f.1 hh), ← HE.out]
        have CT : RowKit.Hid (Calls Try.prog 54 #[.slice (some ⟨g, 0, none⟩) N0 cp, .int .i64 (k : Int)] wr fun e w' => e = .returned (.bool false) ∧ wr = w') := by have := contains_s _ os (k : Int) wr R; rwa [hh] at this
        have CL : RowKit.Hid (Calls Try.prog 58 #[.slice (some ⟨g, 0, none⟩) N0 cp] wr fun e w' => ∃ r, e = .returned r ∧ St wr w' [Own LI r os]) := clone_s _ os wr R (by have := HN0.out; omega) (by have := HN0.out; omega)
        have SH := Lib.hid S
        clear HE hh S R
        go_wp2_with fail
        refine (CT.out).mono ?_
        rintro e w' ⟨rfl, rfl⟩
        go_wp2_with fail
        refine (CL.out).mono ?_
        rintro e w2 ⟨r, rfl, T⟩
        have S' := SH.out.call T
        simp only [List.cons_append, List.nil_append] at S'
        clear T SH CT CL
        go_wp2_with (at_builtin; refine wpList_app1 LI_info rfl _ _ rfl S' (k : Int) #[.int .i64 k] rfl rfl rfl hlen9 ?_; intro v5 w5 S5; obtain ⟨C5, D5⟩ := IH.out k b' v5 bv' w5 hlt hno.out HO.out HN.out (St.rot2 S5); clear S5 S')
        refine C5.mono ?_
        rintro e w6 ⟨u6, bv6, rfl, hn6, S6⟩
        have HE3 : RowKit.Hid (dfs xs m (os ++ [(k : Int)]) b' = dfsTo xs m os (k + 1) b) := HE2
        have HO3 := Lib.hid D5
        have HN3 := Lib.hid hn6
        have SH := Lib.hid (St.tail (St.rot S6))
        clear S6 C5 D5 hn6 HE2
        go_wp2
        go_roundw
        case rel => exact ⟨k + 1, _, bv6, by omega, by go_num, HE3, HO3, HN3, SH.out⟩
        case measure => (simp [intOf]; try omega)
end Go.Proofs.Ythkleabdnjhniaa
