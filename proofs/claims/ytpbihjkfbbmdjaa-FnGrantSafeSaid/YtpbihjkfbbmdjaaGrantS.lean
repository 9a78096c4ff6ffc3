/-
  GrantSafe of the reference.
-/
import Derived.Test.YtpbihjkfbbmdjaaGrant
import Derived.BigRegion
namespace Go.Proofs.Ytpbihjkfbbmdjaa
open Go Go.RowKit
set_option linter.unusedVariables false
theorem grantQ_no2 {w w' : World} {cs : List Clm} {fr : List Int} {n : Int} {want : List Int} {H2 : Nat} (g : w.grownBy w' none) (h2 : H2 = w'.heap.size + 1) (h : grantB cs fr n want = false) :
    GrantQ w cs fr n want (.returned (.tuple #[.slice (some ⟨w'.heap.size, 0, none⟩) 0 0, .slice (some ⟨H2, 0, none⟩) 0 0, .bool false])) ((w'.alloc (.cells #[] LClm.T)).alloc (.cells #[] LI.T)) := by
  obtain ⟨h1, h3⟩ := grant_no h
  refine ⟨_, _, by rw [h], ?_⟩
  rw [h1, h3]
  have S := (((St.refl w).grow g).downEmpty (L := LClm) (D := DClm)).ownEmpty LI
  subst h2
  have e : (w'.alloc (.cells #[] LClm.T)).heap.size = w'.heap.size + 1 := by simp
  rw [e] at S
  exact S.swap
def asr2 (d1 d2 : Bool) (A B : Asr) : List Asr := if d2 then [B] else if d1 then [A] else []
theorem asr2_n (A B : Asr) : asr2 false false A B = [] := rfl
theorem asr2_f (A B : Asr) : asr2 true false A B = [A] := rfl
theorem asr2_t (d : Bool) (A B : Asr) : asr2 d true A B = [B] := rfl
set_option maxRecDepth 100000 in
set_option maxHeartbeats 2000000 in
theorem s_GrantSafe (v : Value) (cs : List Clm) (u : Value) (fr : List Int) (n : Int) (t : Value) (want : List Int) (w : World) (hv : DRds LClm DClm w v cs) (hu : Rds LI w u fr) (ht : Rds LI w t want) :
    Calls Try.prog 19 #[v, u, .int .i64 n, t] w (GrantQ w cs fr n want) := by
  have HV := s_ClaimsValid v u cs fr w hv hu
  have AM := s_small t want w ht
  obtain ⟨a, len, cap, rfl, h1, hm, HN, HC⟩ := hv.clms
  obtain ⟨ua, M, uc, rfl, huc, hum, HM, -⟩ := LI_get hu
  obtain ⟨ta, W, tc, rfl, htc, htm, HW, HT⟩ := LI_get ht
  have IN := in_b n 0 ((len : Int) - 1) w
  cases hB : claimsB cs fr with
  | false =>
    have hno := Lib.hid (not_ok (show grantOk cs fr n want = false by simp [grantOk, hB]))
    rw [hB] at HV
    clear hB HC HT IN AM
    go_enter Try.func19, Try.ntmps19
    go_wp2_with fail
    refine HV.mono ?_
    rintro e w1 ⟨rfl, rfl⟩
    go_wp2_with fail
    exact bodyPost_ret (v := .tuple #[.slice (some ⟨w.heap.size, 0, none⟩) 0 0, .slice (some ⟨w.heap.size + 1, 0, none⟩) 0 0, .bool false]) (by simp [results, Try.results19, go_sem]) rfl (grantQ_no2 (World.grownBy.refl _ _) rfl hno.out)
  | true =>
  rw [hB] at HV
  have CB := Lib.hid hB
  clear hB
  cases hI : inB n 0 ((len : Int) - 1) with
  | false =>
    have hno := Lib.hid (not_ok (show grantOk cs fr n want = false by
      have h := inB_f.1 hI
      by_cases h0 : 0 ≤ n
      · have : decide (n < (cs.length : Int)) = false := decide_eq_false (by have := HN.out; omega)
        simp only [grantOk, this, Bool.false_and, Bool.and_false]
      · have : decide (0 ≤ n) = false := decide_eq_false h0
        simp only [grantOk, this, Bool.false_and, Bool.and_false]))
    rw [hI] at IN
    clear hI HC HT AM
    go_enter Try.func19, Try.ntmps19
    go_wp2_with fail
    refine HV.mono ?_
    rintro e w1 ⟨rfl, rfl⟩
    go_wp2_with fail
    refine IN.mono ?_
    rintro e w2 ⟨rfl, rfl⟩
    go_wp2_with fail
    exact bodyPost_ret (v := .tuple #[.slice (some ⟨w.heap.size, 0, none⟩) 0 0, .slice (some ⟨w.heap.size + 1, 0, none⟩) 0 0, .bool false]) (by simp [results, Try.results19, go_sem]) rfl (grantQ_no2 (World.grownBy.refl _ _) rfl hno.out)
  | true =>
  rw [hI] at IN
  have hI2 := inB_t.1 hI
  clear hI
  obtain ⟨N, rfl⟩ : ∃ N : Nat, n = (N : Int) := ⟨n.toNat, by omega⟩
  have hNl : N < len := by omega
  have hNi : (N : Int) < (len : Int) := by omega
  have hN0 : (0 : Int) ≤ (N : Int) := by omega
  clear hI2
  by_cases hWM : W = M
  rotate_left
  · have hno := Lib.hid (not_ok (show grantOk cs fr (N : Int) want = false by
      have : decide (want.length = fr.length) = false := decide_eq_false (by have := HW.out; have := HM.out; omega)
      simp only [grantOk, this, Bool.false_and, Bool.and_false]))
    have e1 : ((W : Int) == (M : Int)) = false := beq_eq_false_iff_ne.2 (by omega)
    clear HC HT AM
    go_enter Try.func19, Try.ntmps19
    go_wp2_with fail
    refine HV.mono ?_
    rintro e w1 ⟨rfl, rfl⟩
    go_wp2_with fail
    refine IN.mono ?_
    rintro e w2 ⟨rfl, rfl⟩
    go_wp2_with fail
    exact bodyPost_ret (v := .tuple #[.slice (some ⟨w.heap.size, 0, none⟩) 0 0, .slice (some ⟨w.heap.size + 1, 0, none⟩) 0 0, .bool false]) (by simp [results, Try.results19, go_sem]) rfl (grantQ_no2 (World.grownBy.refl _ _) rfl hno.out)
  obtain rfl : M = W := hWM.symm
  have hWL : want.length = fr.length := by rw [← HW.out, HM.out]
  cases hA : amtB want with
  | false =>
    have hno := Lib.hid (not_ok (show grantOk cs fr (N : Int) want = false by simp only [grantOk, hA, Bool.false_and, Bool.and_false]))
    rw [hA] at AM
    clear hA HC HT
    go_enter Try.func19, Try.ntmps19
    go_wp2_with fail
    refine HV.mono ?_
    rintro e w1 ⟨rfl, rfl⟩
    go_wp2_with fail
    refine IN.mono ?_
    rintro e w2 ⟨rfl, rfl⟩
    go_wp2_with fail
    refine AM.mono ?_
    rintro e w3 ⟨rfl, rfl⟩
    go_wp2_with fail
    exact bodyPost_ret (v := .tuple #[.slice (some ⟨w.heap.size, 0, none⟩) 0 0, .slice (some ⟨w.heap.size + 1, 0, none⟩) 0 0, .bool false]) (by simp [results, Try.results19, go_sem]) rfl (grantQ_no2 (World.grownBy.refl _ _) rfl hno.out)
  | true =>
  have hA2 := Lib.hid hA
  rw [hA] at AM
  clear hA
  obtain ⟨bc, boff, ra, rn, rc, sa, sn, sc, cy, cz, rfl, hbc, hcy, hrn, hrc, hsn, hsc, hrd, hsd, k0, k1⟩ := HC.out N hNl
  obtain ⟨l1, l2, -, -⟩ := claimsB_at CB.out N _ hcy.out
  dsimp only at l1 l2
  have hnd := Lib.hid (needB_at hcy.out want)
  have NO : RowKit.Hid (leB want cz = false ∨ leB want fr = false → grantB cs fr (N : Int) want = false) := by
    intro h
    refine not_ok ?_
    rcases h with h | h
    · simp only [grantOk, hnd.out, h, Bool.false_and, Bool.and_false]
    · simp only [grantOk, h, Bool.false_and, Bool.and_false]
  have OKF : RowKit.Hid (leB want cz = true → leB want fr = true → grantOk cs fr (N : Int) want = true) := by
    intro e3 e4
    have e1 : decide ((0 : Int) ≤ (N : Int)) = true := decide_eq_true hN0
    have e2 : decide ((N : Int) < (cs.length : Int)) = true := decide_eq_true (by have := HN.out; omega)
    have e5 : decide (want.length = fr.length) = true := decide_eq_true hWL
    simp only [grantOk, CB.out, e1, e2, e5, hA2.out, hnd.out, e3, e4, Bool.and_true, Bool.true_and]
  have S00 := (St.refl w).downEmpty (L := LClm) (D := DClm)
  go_enter Try.func19, Try.ntmps19
  go_wp2_with fail
  refine HV.mono ?_
  rintro e w1 ⟨rfl, rfl⟩
  go_wp2_with fail
  refine IN.mono ?_
  rintro e w2 ⟨rfl, rfl⟩
  go_wp2_with fail
  refine AM.mono ?_
  rintro e w3 ⟨rfl, rfl⟩
  clear HV AM IN
  go_wp2_with fail
  have S0 : St w (w.alloc (.cells #[] 43)) [DOwn LClm DClm (.slice (some ⟨w.heap.size, 0, none⟩) 0 0) (cs.take 0)] := S00
  clear S00
  go_loopw [11, 12] (fun ov i wr => ∃ k : Nat, k ≤ len ∧ i = .int .i64 k ∧ St w wr [DOwn LClm DClm ov (cs.take k)]) (fun _ i _ => len - (intOf i).toNat)
  case atStart => exact ⟨0, by omega, rfl, S0⟩
  case round =>
    obtain ⟨k, hk, rfl, S⟩ := hrel
    clear S0
    by_cases hlt : k < len
    · obtain ⟨b2, off2, pa, pn, pc, qa, qn, qc, y, z, hab, hb2, hy, hpn, hpc, hqn, hqc, hpd, hqd, c0, c1⟩ := HC.out k hlt
      simp only [Option.some.injEq, Addr.mk.injEq, and_true] at hab
      obtain ⟨rfl, rfl⟩ := hab
      have hki : (k : Int) < (len : Int) := by omega
      have hk0 : (0 : Int) ≤ (k : Int) := by omega
      obtain ⟨l3, l4, -, -⟩ := claimsB_at CB.out k _ hy.out
      dsimp only at l3 l4
      have yl : y.length ≤ 1000 := by have := (claimsB_len CB.out).2.1; omega
      have zl : z.length ≤ 1000 := by have := (claimsB_len CB.out).2.1; omega
      have hck : (cs.take k).length = k := by rw [List.length_take]; have := HN.out; omega
      have hk6 : k ≤ 6 := by have := (claimsB_len CB.out).1; have := HN.out; omega
      have HPD := Lib.hid hpd
      have HQD := Lib.hid hqd
      clear HC HT hrd hsd hv ht hu
      go_wp2_with fail
      refine wp_drawn_put3 (shp [some (u11), none, some (.slice (some ⟨bc, boff, none⟩) len cap), some (.int .i64 (k : Int)), some (.pointer (some ⟨bc, boff + k * 2, none⟩)), some (.pointer (some ⟨bc, boff + k * 2, none⟩)), some (.slice pa pn pc), none, none, some (.slice (some ⟨bc, boff, none⟩) len cap), some (.int .i64 (k : Int)), some (.pointer (some ⟨bc, boff + k * 2, none⟩)), some (.pointer (some ⟨bc, boff + k * 2 + 1, none⟩)), some (.slice qa qn qc), none, none, none, none, none]) (fun D S w' => JG w u11 (cs.take k) y z [] (asr2 (D 1) (D 7) (Own LI (S 49) []) (Own LI (S 55) y)) (asr2 (D 8) (D 14) (Own LI (S 56) []) (Own LI (S 62) z)) (D 15) (D 16) (D 17) (D 18) (S 55) (S 62) (S 63) (S 64) (S 65) (S 11) w') (by kernel_rfl) (by kernel_rfl) (JG.start S.drew) ?_ ?_
      · refine step_plain3 rfl (fun D a w hD hB hL hJ hd hs K hK => ?_) ?_
        · have e11 : a.tmps[11]?.getD undef = u11 := hs.yet 18 11 (by kernel_rfl) (by kernel_rfl)
          clear hB hL hD hd hs
          have HJ := Lib.hid hJ
          clear hJ
          go_simp
          exact hK.out _ _ rfl HJ.out (fun _ _ h => h)
        refine step_plain3 rfl (fun D a w hD hB hL hJ hd hs K hK => ?_) ?_
        · have h7 := hL 7 (by kernel_rfl)
          have h15 := hL 15 (by kernel_rfl)
          have h16 := hL 16 (by kernel_rfl)
          have h17 := hL 17 (by kernel_rfl)
          have h18 := hL 18 (by kernel_rfl)
          have SS := JG.rows hJ h16 h17
          simp only [hD, h7, asr2_n, List.nil_append] at SS
          have SW := SS.ownEmpty LI
          have hR : ∀ v : Value, asr2 true (D 7) (Own LI v []) (Own LI (sl a 55) y) = [Own LI v []] := fun v => by rw [h7]; rfl
          clear hJ hs hd hB hL hD
          go_simp
          exact hK.out _ _ trivial (JG.setA (Ra' := asr2 true (D 7) (Own LI _ []) (Own LI (sl a 55) y)) (by rw [hR]; exact SW) h15 h16 h17 h18) (fun _ _ h => h)
        refine step_plain3 rfl (fun D a w hD hB hL hJ hd hs K hK => ?_) ?_
        · have e0 : a.tmps[0]?.getD undef = .slice (some ⟨bc, boff, none⟩) len cap := hs.at 0 (by kernel_rfl)
          clear hB hL hD hd hs
          have HJ := Lib.hid hJ
          clear hJ
          go_simp
          exact hK.out _ _ rfl HJ.out (fun _ _ h => h)
        refine step_plain3 rfl (fun D a w hD hB hL hJ hd hs K hK => ?_) ?_
        · have e12 : a.tmps[12]?.getD undef = .int .i64 (k : Int) := hs.at 12 (by kernel_rfl)
          clear hB hL hD hd hs
          have HJ := Lib.hid hJ
          clear hJ
          go_simp
          exact hK.out _ _ rfl HJ.out (fun _ _ h => h)
        refine step_plain3 rfl (fun D a w hD hB hL hJ hd hs K hK => ?_) ?_
        · have e50 : a.tmps[50]?.getD undef = .slice (some ⟨bc, boff, none⟩) len cap := hs.get 2 50 (by kernel_rfl) (by kernel_rfl)
          have e51 : a.tmps[51]?.getD undef = .int .i64 (k : Int) := hs.get 3 51 (by kernel_rfl) (by kernel_rfl)
          clear hB hL hD hd hs
          have HJ := Lib.hid hJ
          clear hJ
          go_simp
          exact hK.out _ _ rfl HJ.out (fun _ _ h => h)
        refine step_plain3 rfl (fun D a w hD hB hL hJ hd hs K hK => ?_) ?_
        · have e52 : a.tmps[52]?.getD undef = .pointer (some ⟨bc, boff + k * 2, none⟩) := hs.get 4 52 (by kernel_rfl) (by kernel_rfl)
          clear hB hL hD hd hs
          have HJ := Lib.hid hJ
          clear hJ
          go_simp
          exact hK.out _ _ rfl HJ.out (fun _ _ h => h)
        refine step_plain3 rfl (fun D a w hD hB hL hJ hd hs K hK => ?_) ?_
        · have e53 : a.tmps[53]?.getD undef = .pointer (some ⟨bc, boff + k * 2, none⟩) := hs.get 5 53 (by kernel_rfl) (by kernel_rfl)
          have z0 := gb_cell (JG.gb hJ) c0 (by simp)
          have HJ := Lib.hid hJ
          clear hJ hB hL hD hd hs
          go_simp
          exact hK.out _ _ rfl HJ.out (fun _ _ h => h)
        refine step_plain3 rfl (fun D a w hD hB hL hJ hd hs K hK => ?_) ?_
        · obtain ⟨x49, e49⟩ : ∃ x : Value, a.tmps[49]?.getD undef = x := ⟨_, rfl⟩
          have e54 : a.tmps[54]?.getD undef = .slice pa pn pc := hs.get 6 54 (by kernel_rfl) (by kernel_rfl)
          have h1 := hB 1 (by kernel_rfl)
          have h15 := hL 15 (by kernel_rfl)
          have h16 := hL 16 (by kernel_rfl)
          have h17 := hL 17 (by kernel_rfl)
          have h18 := hL 18 (by kernel_rfl)
          have SS := JG.rows hJ h16 h17
          simp only [h1, hD, asr2_f, List.cons_append, List.nil_append] at SS
          have SS := SS.swap
          have RR := HPD.out.kept (JG.gb hJ)
          clear hJ hs hd hB hL hD
          refine wp_appR LI_info (.tmp 49) (.tmp 54) rfl SS (by simp [Act.eval, sl]) y _ (by simp [Act.eval, e54]) RR (by simp; omega) ?_
          intro v' w' S'
          exact hK.out _ _ trivial (JG.setA (Ra' := [Own LI v' y]) S' h15 h16 h17 h18) (fun _ _ h => h)
        refine step_plain3 rfl (fun D a w hD hB hL hJ hd hs K hK => ?_) ?_
        · have h7 := hL 14 (by kernel_rfl)
          have h15 := hL 15 (by kernel_rfl)
          have h16 := hL 16 (by kernel_rfl)
          have h17 := hL 17 (by kernel_rfl)
          have h18 := hL 18 (by kernel_rfl)
          have SS := JG.rows hJ h16 h17
          simp only [hD, h7, asr2_n, List.nil_append] at SS
          have SW := SS.ownEmpty LI
          have hR : ∀ v : Value, asr2 true (D 14) (Own LI v []) (Own LI (sl a 62) z) = [Own LI v []] := fun v => by rw [h7]; rfl
          clear hJ hs hd hB hL hD
          go_simp
          exact hK.out _ _ trivial (JG.setB (Rb' := asr2 true (D 14) (Own LI _ []) (Own LI (sl a 62) z)) (by rw [hR]; exact SW) h15 h16 h17 h18) (fun _ _ h => h)
        refine step_plain3 rfl (fun D a w hD hB hL hJ hd hs K hK => ?_) ?_
        · have e0 : a.tmps[0]?.getD undef = .slice (some ⟨bc, boff, none⟩) len cap := hs.at 0 (by kernel_rfl)
          clear hB hL hD hd hs
          have HJ := Lib.hid hJ
          clear hJ
          go_simp
          exact hK.out _ _ rfl HJ.out (fun _ _ h => h)
        refine step_plain3 rfl (fun D a w hD hB hL hJ hd hs K hK => ?_) ?_
        · have e12 : a.tmps[12]?.getD undef = .int .i64 (k : Int) := hs.at 12 (by kernel_rfl)
          clear hB hL hD hd hs
          have HJ := Lib.hid hJ
          clear hJ
          go_simp
          exact hK.out _ _ rfl HJ.out (fun _ _ h => h)
        refine step_plain3 rfl (fun D a w hD hB hL hJ hd hs K hK => ?_) ?_
        · have e57 : a.tmps[57]?.getD undef = .slice (some ⟨bc, boff, none⟩) len cap := hs.get 9 57 (by kernel_rfl) (by kernel_rfl)
          have e58 : a.tmps[58]?.getD undef = .int .i64 (k : Int) := hs.get 10 58 (by kernel_rfl) (by kernel_rfl)
          clear hB hL hD hd hs
          have HJ := Lib.hid hJ
          clear hJ
          go_simp
          exact hK.out _ _ rfl HJ.out (fun _ _ h => h)
        refine step_plain3 rfl (fun D a w hD hB hL hJ hd hs K hK => ?_) ?_
        · have e59 : a.tmps[59]?.getD undef = .pointer (some ⟨bc, boff + k * 2, none⟩) := hs.get 11 59 (by kernel_rfl) (by kernel_rfl)
          clear hB hL hD hd hs
          have HJ := Lib.hid hJ
          clear hJ
          go_simp
          exact hK.out _ _ rfl HJ.out (fun _ _ h => h)
        refine step_plain3 rfl (fun D a w hD hB hL hJ hd hs K hK => ?_) ?_
        · have e60 : a.tmps[60]?.getD undef = .pointer (some ⟨bc, boff + k * 2 + 1, none⟩) := hs.get 12 60 (by kernel_rfl) (by kernel_rfl)
          have z0 := gb_cell (JG.gb hJ) c1 (by simp)
          have HJ := Lib.hid hJ
          clear hJ hB hL hD hd hs
          go_simp
          exact hK.out _ _ rfl HJ.out (fun _ _ h => h)
        refine step_plain3 rfl (fun D a w hD hB hL hJ hd hs K hK => ?_) ?_
        · obtain ⟨x56, e56⟩ : ∃ x : Value, a.tmps[56]?.getD undef = x := ⟨_, rfl⟩
          have e61 : a.tmps[61]?.getD undef = .slice qa qn qc := hs.get 13 61 (by kernel_rfl) (by kernel_rfl)
          have h1 := hB 8 (by kernel_rfl)
          have h15 := hL 15 (by kernel_rfl)
          have h16 := hL 16 (by kernel_rfl)
          have h17 := hL 17 (by kernel_rfl)
          have h18 := hL 18 (by kernel_rfl)
          have SS := JG.rows hJ h16 h17
          simp only [h1, hD, asr2_f, List.cons_append, List.nil_append] at SS
          have SS := SS.perm ((List.Perm.cons _ List.perm_middle).trans (List.Perm.swap _ _ _))
          have RR := HQD.out.kept (JG.gb hJ)
          clear hJ hs hd hB hL hD
          refine wp_appR LI_info (.tmp 56) (.tmp 61) rfl SS (by simp [Act.eval, sl]) z _ (by simp [Act.eval, e61]) RR (by simp; omega) ?_
          intro v' w' S'
          exact hK.out _ _ trivial (JG.setB (Rb' := [Own LI v' z]) S' h15 h16 h17 h18) (fun _ _ h => h)
        refine step_plain3 rfl (fun D a w hD hB hL hJ hd hs K hK => ?_) ?_
        · obtain ⟨x55, e55⟩ : ∃ x : Value, a.tmps[55]?.getD undef = x := ⟨_, rfl⟩
          obtain ⟨x62, e62⟩ : ∃ x : Value, a.tmps[62]?.getD undef = x := ⟨_, rfl⟩
          have h3 := hB 7 (by kernel_rfl)
          have h6 := hB 14 (by kernel_rfl)
          have h8 := hL 16 (by kernel_rfl)
          have h9 := hL 17 (by kernel_rfl)
          have h10 := hL 18 (by kernel_rfl)
          have SS := JG.rows hJ h8 h9
          simp only [h3, h6, asr2_t, asr_t, List.cons_append, List.nil_append, if_true] at SS
          obtain ⟨⟨p1, p2, p3⟩, hp⟩ := (St.own SS.tail).sl
          obtain ⟨⟨q1, q2, q3⟩, hq⟩ := (St.own SS.tail.tail).sl
          have hp : sl a 55 = .slice p1 p2 p3 := hp
          have hq : sl a 62 = .slice q1 q2 q3 := hq
          obtain rfl : x55 = .slice p1 p2 p3 := e55.symm.trans hp
          obtain rfl : x62 = .slice q1 q2 q3 := e62.symm.trans hq
          have HJ := Lib.hid (JG.build (c' := .agg #[.slice p1 p2 p3, .slice q1 q2 q3]) hJ h8 h9 h10 (by rw [hp, hq]))
          clear hJ hs hd hp hq SS
          go_simp
          exact hK.out _ _ trivial HJ.out (fun _ _ h => h)
        refine step_plain3 rfl (fun D a w hD hB hL hJ hd hs K hK => ?_) ?_
        · obtain ⟨x63, e63⟩ : ∃ x : Value, a.tmps[63]?.getD undef = x := ⟨_, rfl⟩
          have h3 := hB 7 (by kernel_rfl)
          have h6 := hB 14 (by kernel_rfl)
          have h9 := hL 17 (by kernel_rfl)
          have h10 := hL 18 (by kernel_rfl)
          have b67 : sl a 63 = .agg #[sl a 55, sl a 62] := JG.built hJ (hB 15 (by kernel_rfl))
          obtain ⟨y63, r63⟩ : ∃ x : Value, sl a 55 = x := ⟨_, rfl⟩
          obtain ⟨y66, r66⟩ : ∃ x : Value, sl a 62 = x := ⟨_, rfl⟩
          rw [r63, r66] at b67
          obtain rfl : x63 = .agg #[y63, y66] := e63.symm.trans b67
          have HJ := Lib.hid (JG.lit hJ (by rw [h3]; rfl) (by rw [h6]; rfl) hD h9 h10)
          clear hJ hs hd b67
          go_simp
          subst r63 r66
          exact hK.out _ _ trivial HJ.out (fun _ _ h => h)
        refine step_plain3 rfl (fun D a w hD hB hL hJ hd hs K hK => ?_) ?_
        · have e48 : a.tmps[48]?.getD undef = u11 := hs.get 0 48 (by kernel_rfl) (by kernel_rfl)
          obtain ⟨x64, e64⟩ : ∃ x : Value, a.tmps[64]?.getD undef = x := ⟨_, rfl⟩
          have h10 := hL 18 (by kernel_rfl)
          have HB2 := JG.hb hJ
          obtain ⟨xs', s', t', hx', SS, RR⟩ := JG.out hJ (hB 16 (by kernel_rfl)) hD
          clear hJ hs hd
          refine wp_appR LClm_info (.tmp 48) (.tmp 64) rfl SS (by simp [Act.eval, e48]) [(s', t')] _ (by simp [Act.eval, sl]) RR (by rw [hx', hck]; show k + 1 ≤ _; omega) ?_
          intro v' w' S'
          exact hK.out _ _ trivial (JG.app hx' S' HB2 h10) (fun _ _ h => h)
        refine step_plain3 rfl (fun D a w hD hB hL hJ hd hs K hK => ?_) ?_
        · obtain ⟨x65, e65⟩ : ∃ x : Value, a.tmps[65]?.getD undef = x := ⟨_, rfl⟩
          have HJ := Lib.hid (JG.asg hJ)
          clear hJ hs hd
          go_simp
          subst e65
          exact hK.out _ _ trivial HJ.out (fun _ _ h => h)
        exact step_nil3
      · intro vs D w' hD hJ hA
        obtain ⟨h1', S2⟩ := JG.fin hJ (hD 17 (by decide)) (hD 18 (by decide))
        rw [sl_put vs (by kernel_rfl) 18 11 (by kernel_rfl), sl_put vs (by kernel_rfl) 17 65 (by kernel_rfl)] at h1'
        rw [sl_put vs (by kernel_rfl) 17 65 (by kernel_rfl)] at S2
        clear hJ hA hD
        simp only [putAll, Act.put, List.setIfInBounds_toArray, List.set_cons_zero, List.set_cons_succ]
        rw [h1']
        generalize vs 17 = V9 at S2 ⊢
        clear h1'
        have S3 : St w w' [DOwn LClm DClm V9 (cs.take (k + 1))] := by
          have e : cs.take (k + 1) = cs.take k ++ [⟨y, z⟩] := by
            obtain ⟨hk', he⟩ := List.getElem?_eq_some_iff.1 hy.out
            rw [List.take_succ_eq_append_getElem hk', he]
          rw [e]
          exact S2
        clear S2
        go_wp2
        go_roundw
        case rel => exact ⟨k + 1, by omega, by go_num, S3⟩
        case measure => simp [intOf]; omega
    · obtain rfl : k = len := by omega
      have S1 : St w wr [DOwn LClm DClm u11 cs] := by
        have := S
        rwa [List.take_of_length_le (by have := HN.out; omega)] at this
      clear S
      obtain ⟨g, cp, hgv, hcp1, hcp2⟩ := S1.dBlk (by have := HN.out; omega)
      rw [← HN.out] at hgv hcp1
      subst hgv
      have hfr4 : fr.length ≤ 4 := (claimsB_len CB.out).2.1
      have hcl : N < cs.length := by have := HN.out; omega
      have hcyM : cy.length = M := by rw [l1, HM.out]
      have hczM : cz.length = M := by rw [l2, HM.out]
      have SE := S1.ownEmpty LI
      have RU := hu.kept SE.gb
      have hfl : ([] : List Int).length + fr.length ≤ 1099511627776 := by simp; omega
      clear HC hrd hsd hv hlt hk S1
      go_wp2_with (at_builtin; refine wpList_appR LI_info rfl _ _ rfl SE fr _ RU rfl rfl hfl ?_; intro lv w5 S2; rw [List.nil_append] at S2; clear SE RU)
      obtain ⟨la, m', lc, rfl, hm'⟩ := (St.own S2).slice
      obtain rfl : M = m' := by rw [hm', HM.out]
      have S3 : St w w5 [Own LI (.slice la M lc) (partL (fun j => fr.getD j 0) (fun j => subW (fr.getD j 0) (want.getD j 0)) M 0), DOwn LClm DClm (.slice (some ⟨g, 0, none⟩) k cp) (cs.set N (partC cy cz want M 0))] := by
        have e : partL (fun j => fr.getD j 0) (fun j => subW (fr.getD j 0) (want.getD j 0)) M 0 = fr := by rw [HM.out, partL_zero]
        rw [partC_zero hcyM hczM, set_same hcy.out, e]
        exact S2
      clear S2 hm' hu ht
      go_wp2_with fail
      go_loopw [14] (fun i wr => ∃ j : Nat, j ≤ M ∧ i = .int .i64 j ∧ RowKit.Hid (∀ (i : Nat) (x : Int), i < j → want[i]? = some x → x ≤ cz.getD i 0 ∧ x ≤ fr.getD i 0) ∧ St w wr [Own LI (.slice la M lc) (partL (fun j => fr.getD j 0) (fun j => subW (fr.getD j 0) (want.getD j 0)) M j), DOwn LClm DClm (.slice (some ⟨g, 0, none⟩) k cp) (cs.set N (partC cy cz want M j))]) (fun i _ => M - (intOf i).toNat)
      case atStart => exact ⟨0, by omega, rfl, (fun i x hi => by omega), S3⟩
      case round =>
        obtain ⟨j, hjM, rfl, HE, S⟩ := hrel
        clear S3
        by_cases hlt : j < M
        · obtain ⟨tb, toff, x, rfl, htb, hx, hxc⟩ := HT.out j hlt
          have hxc' := gb_cell S.gb hxc (by simp)
          have ex : want.getD j 0 = x := by rw [List.getD_eq_getElem?_getD, hx.out]; rfl
          have hji : (j : Int) < (M : Int) := by omega
          have hj0 : (0 : Int) ≤ (j : Int) := by omega
          obtain ⟨frj, hfrj⟩ : ∃ x, fr.getD j 0 = x := ⟨_, rfl⟩
          obtain ⟨czj, hczj⟩ : ∃ x, cz.getD j 0 = x := ⟨_, rfl⟩
          obtain ⟨cyj, hcyj⟩ : ∃ x, cy.getD j 0 = x := ⟨_, rfl⟩
          have v1 : addW (cy.getD j 0) (want.getD j 0) = IntKind.i64.wrap (cyj + x) := by rw [ex, hcyj, IntWalk.i64_left]; rfl
          have v2 : subW (cz.getD j 0) (want.getD j 0) = IntKind.i64.wrap (czj - x) := by rw [ex, hczj, IntWalk.i64_left]; rfl
          have v3 : subW (fr.getD j 0) (want.getD j 0) = IntKind.i64.wrap (frj - x) := by rw [ex, hfrj, IntWalk.i64_left]; rfl
          have hy2 : (cs.set N (partC cy cz want M j))[N]? = some ⟨partL (fun j => cy.getD j 0) (fun j => addW (cy.getD j 0) (want.getD j 0)) M j, partL (fun j => cz.getD j 0) (fun j => subW (cz.getD j 0) (want.getD j 0)) M j⟩ := List.getElem?_set_self hcl
          have hfx : fr[j]? = some frj := by
            rw [← hfrj, List.getD_eq_getElem?_getD, List.getElem?_eq_getElem (show j < fr.length by have := HM.out; omega)]; rfl
          have hzx : cz[j]? = some czj := by
            rw [← hczj, List.getD_eq_getElem?_getD, List.getElem?_eq_getElem (show j < cz.length by omega)]; rfl
          obtain ⟨gl, rfl⟩ := ownAd S (by omega)
          have d2 : wr.cell? ⟨gl, j, none⟩ = some (.int .i64 frj) := by rw [← hfrj]; exact (LI_cell S (g := gl) rfl j _ (partL_at _ _ M j hlt)).1
          by_cases hq1 : frj < x
          · have hno := Lib.hid (NO.out (.inr (leB_bad want fr j x frj hx.out hfx hq1)))
            have G := Lib.hid (gb_drewN S.gb)
            clear S HE HT hx hfx hzx hy2 v1 v2 v3 ex hfrj hczj hcyj NO OKF
            go_wp2_with fail
            go_quiet (fail)
            go_wp2_with fail
            exact bodyPost_ret (v := .tuple #[.slice (some ⟨(wr.drewN nq).heap.size, 0, none⟩) 0 0, .slice (some ⟨(wr.drewN nq).heap.size + 1, 0, none⟩) 0 0, .bool false]) (by simp [results, Try.results19, go_sem]) rfl (grantQ_no2 (G.out _) rfl hno.out)
          obtain ⟨ra', rn', rc', sa', sn', sc', Ns, h0, h1b, hfz, q1, q2, S4, RE, CL⟩ := S.swap.dclmAt N _ _ hy2 (g := g) rfl
          rw [partL_len] at q1 q2
          obtain rfl : M = rn' := q1.symm
          obtain rfl : M = sn' := q2.symm
          obtain ⟨gs, rfl⟩ := ownAd S4.tail (by omega)
          have d1 : wr.cell? ⟨gs, j, none⟩ = some (.int .i64 czj) := by rw [← hczj]; exact (LI_cell S4.tail (g := gs) rfl j _ (partL_at _ _ M j hlt)).1
          by_cases hq2 : czj < x
          · have hno := Lib.hid (NO.out (.inl (leB_bad want cz j x czj hx.out hzx hq2)))
            have G := Lib.hid (gb_drewN S.gb)
            clear S S4 RE CL HE HT hx hfx hzx hy2 v1 v2 v3 ex hfrj hczj hcyj NO OKF hfz
            go_wp2_with fail
            go_quiet (fail)
            go_wp2_with fail
            exact bodyPost_ret (v := .tuple #[.slice (some ⟨(wr.drewN nq).heap.size, 0, none⟩) 0 0, .slice (some ⟨(wr.drewN nq).heap.size + 1, 0, none⟩) 0 0, .bool false]) (by simp [results, Try.results19, go_sem]) rfl (grantQ_no2 (G.out _) rfl hno.out)
          have HE2 : RowKit.Hid (∀ (i : Nat) (x : Int), i < j + 1 → want[i]? = some x → x ≤ cz.getD i 0 ∧ x ≤ fr.getD i 0) := by
            intro i x' hi hx'
            by_cases hij : i < j
            · exact HE.out i x' hij hx'
            · obtain rfl : i = j := by omega
              rw [hx.out] at hx'
              obtain rfl := Option.some.inj hx'
              rw [hczj, hfrj]
              omega
          have SH := Lib.hid S
          clear S S4 RE CL HE HT hx hfx hzx ex NO OKF hfz
          go_wp2_with fail
          go_quiet (fail)
          have SQ := SH.out.drewN nq
          clear SH h0 h1b d1 d2 hxc'
          go_wp2_with fail
          refine wp_drawn_put3 (shp [some (.slice (some ⟨gl, 0, none⟩) M lc), some (.int .i64 (j : Int)), some (.slice (some ⟨gl, 0, none⟩) M lc), some (.int .i64 (j : Int)), some (.pointer (some ⟨gl, j, none⟩)), some (.int .i64 frj), some (.slice (some ⟨tb, toff, none⟩) M tc), some (.int .i64 (j : Int)), some (.pointer (some ⟨tb, toff + j, none⟩)), some (.int .i64 x), some (.int .i64 (IntKind.i64.wrap (frj - x))), some (.pointer (some ⟨gl, j, none⟩)), none]) (fun D S w' => (D 12 = false → St w w' (Own LI (.slice (some ⟨gl, 0, none⟩) M lc) (partL (fun j => fr.getD j 0) (fun j => subW (fr.getD j 0) (want.getD j 0)) M j) :: DOwn LClm DClm (.slice (some ⟨g, 0, none⟩) k cp) (cs.set N (partC cy cz want M j)) :: [])) ∧ (D 12 = true → St w w' (Own LI (.slice (some ⟨gl, 0, none⟩) M lc) (partL (fun j => fr.getD j 0) (fun j => subW (fr.getD j 0) (want.getD j 0)) M (j + 1)) :: DOwn LClm DClm (.slice (some ⟨g, 0, none⟩) k cp) (cs.set N (partC cy cz want M j)) :: []))) (by kernel_rfl) (by kernel_rfl) (⟨fun _ => SQ.drew, nofun⟩) ?_ ?_
          · refine step_plain3 rfl (fun D a w hD hB hL hJ hd hs K hK => ?_) ?_
            · have e13 : a.tmps[13]?.getD undef = .slice (some ⟨gl, 0, none⟩) M lc := hs.at 13 (by kernel_rfl)
              clear hB hL hD hd hs
              have HJ := Lib.hid hJ
              clear hJ
              go_simp
              exact hK.out _ _ rfl HJ.out (fun _ _ h => h)
            refine step_plain3 rfl (fun D a w hD hB hL hJ hd hs K hK => ?_) ?_
            · have e14 : a.tmps[14]?.getD undef = .int .i64 (j : Int) := hs.at 14 (by kernel_rfl)
              clear hB hL hD hd hs
              have HJ := Lib.hid hJ
              clear hJ
              go_simp
              exact hK.out _ _ rfl HJ.out (fun _ _ h => h)
            refine step_plain3 rfl (fun D a w hD hB hL hJ hd hs K hK => ?_) ?_
            · have e13 : a.tmps[13]?.getD undef = .slice (some ⟨gl, 0, none⟩) M lc := hs.at 13 (by kernel_rfl)
              clear hB hL hD hd hs
              have HJ := Lib.hid hJ
              clear hJ
              go_simp
              exact hK.out _ _ rfl HJ.out (fun _ _ h => h)
            refine step_plain3 rfl (fun D a w hD hB hL hJ hd hs K hK => ?_) ?_
            · have e14 : a.tmps[14]?.getD undef = .int .i64 (j : Int) := hs.at 14 (by kernel_rfl)
              clear hB hL hD hd hs
              have HJ := Lib.hid hJ
              clear hJ
              go_simp
              exact hK.out _ _ rfl HJ.out (fun _ _ h => h)
            refine step_plain3 rfl (fun D a w hD hB hL hJ hd hs K hK => ?_) ?_
            · have e103 : a.tmps[103]?.getD undef = .slice (some ⟨gl, 0, none⟩) M lc := hs.get 2 103 (by kernel_rfl) (by kernel_rfl)
              have e104 : a.tmps[104]?.getD undef = .int .i64 (j : Int) := hs.get 3 104 (by kernel_rfl) (by kernel_rfl)
              clear hB hL hD hd hs
              have HJ := Lib.hid hJ
              clear hJ
              go_simp
              exact hK.out _ _ rfl HJ.out (fun _ _ h => h)
            refine step_plain3 rfl (fun D a w hD hB hL hJ hd hs K hK => ?_) ?_
            · have e105 : a.tmps[105]?.getD undef = .pointer (some ⟨gl, j, none⟩) := hs.get 4 105 (by kernel_rfl) (by kernel_rfl)
              have z0 : w.cell? ⟨gl, j, none⟩ = some (.int .i64 frj) := by rw [← hfrj]; exact (LI_cell (hJ.1 (hL 12 (by kernel_rfl))) (g := gl) rfl j _ (partL_at _ _ M j hlt)).1
              have HJ := Lib.hid hJ
              clear hJ hB hL hD hd hs
              go_simp
              exact hK.out _ _ rfl HJ.out (fun _ _ h => h)
            refine step_plain3 rfl (fun D a w hD hB hL hJ hd hs K hK => ?_) ?_
            · have e3 : a.tmps[3]?.getD undef = .slice (some ⟨tb, toff, none⟩) M tc := hs.at 3 (by kernel_rfl)
              clear hB hL hD hd hs
              have HJ := Lib.hid hJ
              clear hJ
              go_simp
              exact hK.out _ _ rfl HJ.out (fun _ _ h => h)
            refine step_plain3 rfl (fun D a w hD hB hL hJ hd hs K hK => ?_) ?_
            · have e14 : a.tmps[14]?.getD undef = .int .i64 (j : Int) := hs.at 14 (by kernel_rfl)
              clear hB hL hD hd hs
              have HJ := Lib.hid hJ
              clear hJ
              go_simp
              exact hK.out _ _ rfl HJ.out (fun _ _ h => h)
            refine step_plain3 rfl (fun D a w hD hB hL hJ hd hs K hK => ?_) ?_
            · have e107 : a.tmps[107]?.getD undef = .slice (some ⟨tb, toff, none⟩) M tc := hs.get 6 107 (by kernel_rfl) (by kernel_rfl)
              have e108 : a.tmps[108]?.getD undef = .int .i64 (j : Int) := hs.get 7 108 (by kernel_rfl) (by kernel_rfl)
              clear hB hL hD hd hs
              have HJ := Lib.hid hJ
              clear hJ
              go_simp
              exact hK.out _ _ rfl HJ.out (fun _ _ h => h)
            refine step_plain3 rfl (fun D a w hD hB hL hJ hd hs K hK => ?_) ?_
            · have e109 : a.tmps[109]?.getD undef = .pointer (some ⟨tb, toff + j, none⟩) := hs.get 8 109 (by kernel_rfl) (by kernel_rfl)
              have z0 := gb_cell (hJ.1 (hL 12 (by kernel_rfl))).gb hxc (by simp)
              have HJ := Lib.hid hJ
              clear hJ hB hL hD hd hs
              go_simp
              exact hK.out _ _ rfl HJ.out (fun _ _ h => h)
            refine step_plain3 rfl (fun D a w hD hB hL hJ hd hs K hK => ?_) ?_
            · have e106 : a.tmps[106]?.getD undef = .int .i64 frj := hs.get 5 106 (by kernel_rfl) (by kernel_rfl)
              have e110 : a.tmps[110]?.getD undef = .int .i64 x := hs.get 9 110 (by kernel_rfl) (by kernel_rfl)
              clear hB hL hD hd hs
              have HJ := Lib.hid hJ
              clear hJ
              go_simp
              exact hK.out _ _ rfl HJ.out (fun _ _ h => h)
            refine step_plain3 rfl (fun D a w hD hB hL hJ hd hs K hK => ?_) ?_
            · have e101 : a.tmps[101]?.getD undef = .slice (some ⟨gl, 0, none⟩) M lc := hs.get 0 101 (by kernel_rfl) (by kernel_rfl)
              have e102 : a.tmps[102]?.getD undef = .int .i64 (j : Int) := hs.get 1 102 (by kernel_rfl) (by kernel_rfl)
              clear hB hL hD hd hs
              have HJ := Lib.hid hJ
              clear hJ
              go_simp
              exact hK.out _ _ rfl HJ.out (fun _ _ h => h)
            refine step_plain3 rfl (fun D a w hD hB hL hJ hd hs K hK => ?_) ?_
            · have e112 : a.tmps[112]?.getD undef = .pointer (some ⟨gl, j, none⟩) := hs.get 11 112 (by kernel_rfl) (by kernel_rfl)
              have e111 : a.tmps[111]?.getD undef = .int .i64 (IntKind.i64.wrap (frj - x)) := hs.get 10 111 (by kernel_rfl) (by kernel_rfl)
              have S' := hJ.1 hD
              obtain ⟨z0, z1⟩ := LI_cell S' (g := gl) rfl j _ (partL_at _ _ M j hlt)
              have S2 := LI_set S' (g := gl) rfl j (subW (fr.getD j 0) (want.getD j 0)) (by rw [partL_len]; exact hlt)
              rw [partL_set (fun j => fr.getD j 0) (fun j => subW (fr.getD j 0) (want.getD j 0)) _ _ hlt, v3] at S2
              have SH2 := Lib.hid S2
              clear S' S2 hJ hB hL hD hd hs
              go_simp
              exact hK.out (.bool false) _ trivial ⟨(fun h => by cases (show true = false from h)), fun _ => SH2.out⟩ (fun _ _ h => h)
            exact step_nil3
          · intro vs D w' hD hJ hA
            have S2 := (hJ.2 (hD 12 (by decide))).swap
            clear hJ hA hD SQ
            simp only [putAll, Act.put, List.setIfInBounds_toArray, List.set_cons_zero, List.set_cons_succ]
            obtain ⟨ra', rn', rc', sa', sn', sc', Ns, h0, h1b, hfz, q1, q2, S4, RE, CL⟩ := S2.dclmAt N _ _ hy2 (g := g) rfl
            rw [partL_len] at q1 q2
            obtain rfl : M = rn' := q1.symm
            obtain rfl : M = sn' := q2.symm
            obtain ⟨gr, rfl⟩ := ownAd S4 (by omega)
            obtain ⟨gs, rfl⟩ := ownAd S4.tail (by omega)
            have RE := Lib.hid RE
            have CL := Lib.hid CL
            have SQ := S4.swap
            clear S2 S4 hfz h0 h1b
            go_wp2_with fail
            refine wp_drawn_put3 (shp [some (.slice (some ⟨g, 0, none⟩) k cp), some (.int .i64 (N : Int)), some (.pointer (some ⟨g, N * 2, none⟩)), some (.pointer (some ⟨g, N * 2 + 1, none⟩)), some (.slice (some ⟨gs, 0, none⟩) M sc'), some (.int .i64 (j : Int)), some (.slice (some ⟨g, 0, none⟩) k cp), some (.int .i64 (N : Int)), some (.pointer (some ⟨g, N * 2, none⟩)), some (.pointer (some ⟨g, N * 2 + 1, none⟩)), some (.slice (some ⟨gs, 0, none⟩) M sc'), some (.int .i64 (j : Int)), some (.pointer (some ⟨gs, j, none⟩)), some (.int .i64 czj), some (.slice (some ⟨tb, toff, none⟩) M tc), some (.int .i64 (j : Int)), some (.pointer (some ⟨tb, toff + j, none⟩)), some (.int .i64 x), some (.int .i64 (IntKind.i64.wrap (czj - x))), some (.pointer (some ⟨gs, j, none⟩)), none]) (fun D S w' => (D 20 = false → St w w' (Own LI (.slice (some ⟨gs, 0, none⟩) M sc') (partL (fun j => cz.getD j 0) (fun j => subW (cz.getD j 0) (want.getD j 0)) M j) :: Own LI (.slice (some ⟨gr, 0, none⟩) M rc') (partL (fun j => cy.getD j 0) (fun j => addW (cy.getD j 0) (want.getD j 0)) M j) :: Ns)) ∧ (D 20 = true → St w w' (Own LI (.slice (some ⟨gs, 0, none⟩) M sc') (partL (fun j => cz.getD j 0) (fun j => subW (cz.getD j 0) (want.getD j 0)) M (j + 1)) :: Own LI (.slice (some ⟨gr, 0, none⟩) M rc') (partL (fun j => cy.getD j 0) (fun j => addW (cy.getD j 0) (want.getD j 0)) M j) :: Ns))) (by kernel_rfl) (by kernel_rfl) (⟨fun _ => SQ.drew, nofun⟩) ?_ ?_
            · refine step_plain3 rfl (fun D a w hD hB hL hJ hd hs K hK => ?_) ?_
              · have e11 : a.tmps[11]?.getD undef = .slice (some ⟨g, 0, none⟩) k cp := hs.at 11 (by kernel_rfl)
                clear hB hL hD hd hs
                have HJ := Lib.hid hJ
                clear hJ
                go_simp
                exact hK.out _ _ rfl HJ.out (fun _ _ h => h)
              refine step_plain3 rfl (fun D a w hD hB hL hJ hd hs K hK => ?_) ?_
              · have e2 : a.tmps[2]?.getD undef = .int .i64 (N : Int) := hs.at 2 (by kernel_rfl)
                clear hB hL hD hd hs
                have HJ := Lib.hid hJ
                clear hJ
                go_simp
                exact hK.out _ _ rfl HJ.out (fun _ _ h => h)
              refine step_plain3 rfl (fun D a w hD hB hL hJ hd hs K hK => ?_) ?_
              · have e113 : a.tmps[113]?.getD undef = .slice (some ⟨g, 0, none⟩) k cp := hs.get 0 113 (by kernel_rfl) (by kernel_rfl)
                have e114 : a.tmps[114]?.getD undef = .int .i64 (N : Int) := hs.get 1 114 (by kernel_rfl) (by kernel_rfl)
                clear hB hL hD hd hs
                have HJ := Lib.hid hJ
                clear hJ
                go_simp
                exact hK.out _ _ rfl HJ.out (fun _ _ h => h)
              refine step_plain3 rfl (fun D a w hD hB hL hJ hd hs K hK => ?_) ?_
              · have e115 : a.tmps[115]?.getD undef = .pointer (some ⟨g, N * 2, none⟩) := hs.get 2 115 (by kernel_rfl) (by kernel_rfl)
                clear hB hL hD hd hs
                have HJ := Lib.hid hJ
                clear hJ
                go_simp
                exact hK.out _ _ rfl HJ.out (fun _ _ h => h)
              refine step_plain3 rfl (fun D a w hD hB hL hJ hd hs K hK => ?_) ?_
              · have e116 : a.tmps[116]?.getD undef = .pointer (some ⟨g, N * 2 + 1, none⟩) := hs.get 3 116 (by kernel_rfl) (by kernel_rfl)
                have z0 := (CL.out _ _ _ (hJ.1 (hL 20 (by kernel_rfl))).swap).2.1
                have HJ := Lib.hid hJ
                clear hJ hB hL hD hd hs
                go_simp
                exact hK.out _ _ rfl HJ.out (fun _ _ h => h)
              refine step_plain3 rfl (fun D a w hD hB hL hJ hd hs K hK => ?_) ?_
              · have e14 : a.tmps[14]?.getD undef = .int .i64 (j : Int) := hs.at 14 (by kernel_rfl)
                clear hB hL hD hd hs
                have HJ := Lib.hid hJ
                clear hJ
                go_simp
                exact hK.out _ _ rfl HJ.out (fun _ _ h => h)
              refine step_plain3 rfl (fun D a w hD hB hL hJ hd hs K hK => ?_) ?_
              · have e11 : a.tmps[11]?.getD undef = .slice (some ⟨g, 0, none⟩) k cp := hs.at 11 (by kernel_rfl)
                clear hB hL hD hd hs
                have HJ := Lib.hid hJ
                clear hJ
                go_simp
                exact hK.out _ _ rfl HJ.out (fun _ _ h => h)
              refine step_plain3 rfl (fun D a w hD hB hL hJ hd hs K hK => ?_) ?_
              · have e2 : a.tmps[2]?.getD undef = .int .i64 (N : Int) := hs.at 2 (by kernel_rfl)
                clear hB hL hD hd hs
                have HJ := Lib.hid hJ
                clear hJ
                go_simp
                exact hK.out _ _ rfl HJ.out (fun _ _ h => h)
              refine step_plain3 rfl (fun D a w hD hB hL hJ hd hs K hK => ?_) ?_
              · have e119 : a.tmps[119]?.getD undef = .slice (some ⟨g, 0, none⟩) k cp := hs.get 6 119 (by kernel_rfl) (by kernel_rfl)
                have e120 : a.tmps[120]?.getD undef = .int .i64 (N : Int) := hs.get 7 120 (by kernel_rfl) (by kernel_rfl)
                clear hB hL hD hd hs
                have HJ := Lib.hid hJ
                clear hJ
                go_simp
                exact hK.out _ _ rfl HJ.out (fun _ _ h => h)
              refine step_plain3 rfl (fun D a w hD hB hL hJ hd hs K hK => ?_) ?_
              · have e121 : a.tmps[121]?.getD undef = .pointer (some ⟨g, N * 2, none⟩) := hs.get 8 121 (by kernel_rfl) (by kernel_rfl)
                clear hB hL hD hd hs
                have HJ := Lib.hid hJ
                clear hJ
                go_simp
                exact hK.out _ _ rfl HJ.out (fun _ _ h => h)
              refine step_plain3 rfl (fun D a w hD hB hL hJ hd hs K hK => ?_) ?_
              · have e122 : a.tmps[122]?.getD undef = .pointer (some ⟨g, N * 2 + 1, none⟩) := hs.get 9 122 (by kernel_rfl) (by kernel_rfl)
                have z0 := (CL.out _ _ _ (hJ.1 (hL 20 (by kernel_rfl))).swap).2.1
                have HJ := Lib.hid hJ
                clear hJ hB hL hD hd hs
                go_simp
                exact hK.out _ _ rfl HJ.out (fun _ _ h => h)
              refine step_plain3 rfl (fun D a w hD hB hL hJ hd hs K hK => ?_) ?_
              · have e14 : a.tmps[14]?.getD undef = .int .i64 (j : Int) := hs.at 14 (by kernel_rfl)
                clear hB hL hD hd hs
                have HJ := Lib.hid hJ
                clear hJ
                go_simp
                exact hK.out _ _ rfl HJ.out (fun _ _ h => h)
              refine step_plain3 rfl (fun D a w hD hB hL hJ hd hs K hK => ?_) ?_
              · have e123 : a.tmps[123]?.getD undef = .slice (some ⟨gs, 0, none⟩) M sc' := hs.get 10 123 (by kernel_rfl) (by kernel_rfl)
                have e124 : a.tmps[124]?.getD undef = .int .i64 (j : Int) := hs.get 11 124 (by kernel_rfl) (by kernel_rfl)
                clear hB hL hD hd hs
                have HJ := Lib.hid hJ
                clear hJ
                go_simp
                exact hK.out _ _ rfl HJ.out (fun _ _ h => h)
              refine step_plain3 rfl (fun D a w hD hB hL hJ hd hs K hK => ?_) ?_
              · have e125 : a.tmps[125]?.getD undef = .pointer (some ⟨gs, j, none⟩) := hs.get 12 125 (by kernel_rfl) (by kernel_rfl)
                have z0 : w.cell? ⟨gs, j, none⟩ = some (.int .i64 czj) := by rw [← hczj]; exact (LI_cell (hJ.1 (hL 20 (by kernel_rfl))) (g := gs) rfl j _ (partL_at _ _ M j hlt)).1
                have HJ := Lib.hid hJ
                clear hJ hB hL hD hd hs
                go_simp
                exact hK.out _ _ rfl HJ.out (fun _ _ h => h)
              refine step_plain3 rfl (fun D a w hD hB hL hJ hd hs K hK => ?_) ?_
              · have e3 : a.tmps[3]?.getD undef = .slice (some ⟨tb, toff, none⟩) M tc := hs.at 3 (by kernel_rfl)
                clear hB hL hD hd hs
                have HJ := Lib.hid hJ
                clear hJ
                go_simp
                exact hK.out _ _ rfl HJ.out (fun _ _ h => h)
              refine step_plain3 rfl (fun D a w hD hB hL hJ hd hs K hK => ?_) ?_
              · have e14 : a.tmps[14]?.getD undef = .int .i64 (j : Int) := hs.at 14 (by kernel_rfl)
                clear hB hL hD hd hs
                have HJ := Lib.hid hJ
                clear hJ
                go_simp
                exact hK.out _ _ rfl HJ.out (fun _ _ h => h)
              refine step_plain3 rfl (fun D a w hD hB hL hJ hd hs K hK => ?_) ?_
              · have e127 : a.tmps[127]?.getD undef = .slice (some ⟨tb, toff, none⟩) M tc := hs.get 14 127 (by kernel_rfl) (by kernel_rfl)
                have e128 : a.tmps[128]?.getD undef = .int .i64 (j : Int) := hs.get 15 128 (by kernel_rfl) (by kernel_rfl)
                clear hB hL hD hd hs
                have HJ := Lib.hid hJ
                clear hJ
                go_simp
                exact hK.out _ _ rfl HJ.out (fun _ _ h => h)
              refine step_plain3 rfl (fun D a w hD hB hL hJ hd hs K hK => ?_) ?_
              · have e129 : a.tmps[129]?.getD undef = .pointer (some ⟨tb, toff + j, none⟩) := hs.get 16 129 (by kernel_rfl) (by kernel_rfl)
                have z0 := gb_cell (hJ.1 (hL 20 (by kernel_rfl))).gb hxc (by simp)
                have HJ := Lib.hid hJ
                clear hJ hB hL hD hd hs
                go_simp
                exact hK.out _ _ rfl HJ.out (fun _ _ h => h)
              refine step_plain3 rfl (fun D a w hD hB hL hJ hd hs K hK => ?_) ?_
              · have e126 : a.tmps[126]?.getD undef = .int .i64 czj := hs.get 13 126 (by kernel_rfl) (by kernel_rfl)
                have e130 : a.tmps[130]?.getD undef = .int .i64 x := hs.get 17 130 (by kernel_rfl) (by kernel_rfl)
                clear hB hL hD hd hs
                have HJ := Lib.hid hJ
                clear hJ
                go_simp
                exact hK.out _ _ rfl HJ.out (fun _ _ h => h)
              refine step_plain3 rfl (fun D a w hD hB hL hJ hd hs K hK => ?_) ?_
              · have e117 : a.tmps[117]?.getD undef = .slice (some ⟨gs, 0, none⟩) M sc' := hs.get 4 117 (by kernel_rfl) (by kernel_rfl)
                have e118 : a.tmps[118]?.getD undef = .int .i64 (j : Int) := hs.get 5 118 (by kernel_rfl) (by kernel_rfl)
                clear hB hL hD hd hs
                have HJ := Lib.hid hJ
                clear hJ
                go_simp
                exact hK.out _ _ rfl HJ.out (fun _ _ h => h)
              refine step_plain3 rfl (fun D a w hD hB hL hJ hd hs K hK => ?_) ?_
              · have e132 : a.tmps[132]?.getD undef = .pointer (some ⟨gs, j, none⟩) := hs.get 19 132 (by kernel_rfl) (by kernel_rfl)
                have e131 : a.tmps[131]?.getD undef = .int .i64 (IntKind.i64.wrap (czj - x)) := hs.get 18 131 (by kernel_rfl) (by kernel_rfl)
                have S' := hJ.1 hD
                obtain ⟨z0, z1⟩ := LI_cell S' (g := gs) rfl j _ (partL_at _ _ M j hlt)
                have S2 := LI_set S' (g := gs) rfl j (subW (cz.getD j 0) (want.getD j 0)) (by rw [partL_len]; exact hlt)
                rw [partL_set (fun j => cz.getD j 0) (fun j => subW (cz.getD j 0) (want.getD j 0)) _ _ hlt, v2] at S2
                have SH2 := Lib.hid S2
                clear S' S2 hJ hB hL hD hd hs
                go_simp
                exact hK.out (.bool false) _ trivial ⟨(fun h => by cases (show true = false from h)), fun _ => SH2.out⟩ (fun _ _ h => h)
              exact step_nil3
            · intro vs D w' hD hJ hA
              have SQ := (hJ.2 (hD 20 (by decide))).swap
              clear hJ hA hD
              simp only [putAll, Act.put, List.setIfInBounds_toArray, List.set_cons_zero, List.set_cons_succ]
              go_wp2_with fail
              refine wp_drawn_put3 (shp [some (.slice (some ⟨g, 0, none⟩) k cp), some (.int .i64 (N : Int)), some (.pointer (some ⟨g, N * 2, none⟩)), some (.pointer (some ⟨g, N * 2, none⟩)), some (.slice (some ⟨gr, 0, none⟩) M rc'), some (.int .i64 (j : Int)), some (.slice (some ⟨g, 0, none⟩) k cp), some (.int .i64 (N : Int)), some (.pointer (some ⟨g, N * 2, none⟩)), some (.pointer (some ⟨g, N * 2, none⟩)), some (.slice (some ⟨gr, 0, none⟩) M rc'), some (.int .i64 (j : Int)), some (.pointer (some ⟨gr, j, none⟩)), some (.int .i64 cyj), some (.slice (some ⟨tb, toff, none⟩) M tc), some (.int .i64 (j : Int)), some (.pointer (some ⟨tb, toff + j, none⟩)), some (.int .i64 x), some (.int .i64 (IntKind.i64.wrap (cyj + x))), some (.pointer (some ⟨gr, j, none⟩)), none]) (fun D S w' => (D 20 = false → St w w' (Own LI (.slice (some ⟨gr, 0, none⟩) M rc') (partL (fun j => cy.getD j 0) (fun j => addW (cy.getD j 0) (want.getD j 0)) M j) :: Own LI (.slice (some ⟨gs, 0, none⟩) M sc') (partL (fun j => cz.getD j 0) (fun j => subW (cz.getD j 0) (want.getD j 0)) M (j + 1)) :: Ns)) ∧ (D 20 = true → St w w' (Own LI (.slice (some ⟨gr, 0, none⟩) M rc') (partL (fun j => cy.getD j 0) (fun j => addW (cy.getD j 0) (want.getD j 0)) M (j + 1)) :: Own LI (.slice (some ⟨gs, 0, none⟩) M sc') (partL (fun j => cz.getD j 0) (fun j => subW (cz.getD j 0) (want.getD j 0)) M (j + 1)) :: Ns))) (by kernel_rfl) (by kernel_rfl) (⟨fun _ => SQ.drew, nofun⟩) ?_ ?_
              · refine step_plain3 rfl (fun D a w hD hB hL hJ hd hs K hK => ?_) ?_
                · have e11 : a.tmps[11]?.getD undef = .slice (some ⟨g, 0, none⟩) k cp := hs.at 11 (by kernel_rfl)
                  clear hB hL hD hd hs
                  have HJ := Lib.hid hJ
                  clear hJ
                  go_simp
                  exact hK.out _ _ rfl HJ.out (fun _ _ h => h)
                refine step_plain3 rfl (fun D a w hD hB hL hJ hd hs K hK => ?_) ?_
                · have e2 : a.tmps[2]?.getD undef = .int .i64 (N : Int) := hs.at 2 (by kernel_rfl)
                  clear hB hL hD hd hs
                  have HJ := Lib.hid hJ
                  clear hJ
                  go_simp
                  exact hK.out _ _ rfl HJ.out (fun _ _ h => h)
                refine step_plain3 rfl (fun D a w hD hB hL hJ hd hs K hK => ?_) ?_
                · have e133 : a.tmps[133]?.getD undef = .slice (some ⟨g, 0, none⟩) k cp := hs.get 0 133 (by kernel_rfl) (by kernel_rfl)
                  have e134 : a.tmps[134]?.getD undef = .int .i64 (N : Int) := hs.get 1 134 (by kernel_rfl) (by kernel_rfl)
                  clear hB hL hD hd hs
                  have HJ := Lib.hid hJ
                  clear hJ
                  go_simp
                  exact hK.out _ _ rfl HJ.out (fun _ _ h => h)
                refine step_plain3 rfl (fun D a w hD hB hL hJ hd hs K hK => ?_) ?_
                · have e135 : a.tmps[135]?.getD undef = .pointer (some ⟨g, N * 2, none⟩) := hs.get 2 135 (by kernel_rfl) (by kernel_rfl)
                  clear hB hL hD hd hs
                  have HJ := Lib.hid hJ
                  clear hJ
                  go_simp
                  exact hK.out _ _ rfl HJ.out (fun _ _ h => h)
                refine step_plain3 rfl (fun D a w hD hB hL hJ hd hs K hK => ?_) ?_
                · have e136 : a.tmps[136]?.getD undef = .pointer (some ⟨g, N * 2, none⟩) := hs.get 3 136 (by kernel_rfl) (by kernel_rfl)
                  have z0 := (CL.out _ _ _ (hJ.1 (hL 20 (by kernel_rfl)))).1
                  have HJ := Lib.hid hJ
                  clear hJ hB hL hD hd hs
                  go_simp
                  exact hK.out _ _ rfl HJ.out (fun _ _ h => h)
                refine step_plain3 rfl (fun D a w hD hB hL hJ hd hs K hK => ?_) ?_
                · have e14 : a.tmps[14]?.getD undef = .int .i64 (j : Int) := hs.at 14 (by kernel_rfl)
                  clear hB hL hD hd hs
                  have HJ := Lib.hid hJ
                  clear hJ
                  go_simp
                  exact hK.out _ _ rfl HJ.out (fun _ _ h => h)
                refine step_plain3 rfl (fun D a w hD hB hL hJ hd hs K hK => ?_) ?_
                · have e11 : a.tmps[11]?.getD undef = .slice (some ⟨g, 0, none⟩) k cp := hs.at 11 (by kernel_rfl)
                  clear hB hL hD hd hs
                  have HJ := Lib.hid hJ
                  clear hJ
                  go_simp
                  exact hK.out _ _ rfl HJ.out (fun _ _ h => h)
                refine step_plain3 rfl (fun D a w hD hB hL hJ hd hs K hK => ?_) ?_
                · have e2 : a.tmps[2]?.getD undef = .int .i64 (N : Int) := hs.at 2 (by kernel_rfl)
                  clear hB hL hD hd hs
                  have HJ := Lib.hid hJ
                  clear hJ
                  go_simp
                  exact hK.out _ _ rfl HJ.out (fun _ _ h => h)
                refine step_plain3 rfl (fun D a w hD hB hL hJ hd hs K hK => ?_) ?_
                · have e139 : a.tmps[139]?.getD undef = .slice (some ⟨g, 0, none⟩) k cp := hs.get 6 139 (by kernel_rfl) (by kernel_rfl)
                  have e140 : a.tmps[140]?.getD undef = .int .i64 (N : Int) := hs.get 7 140 (by kernel_rfl) (by kernel_rfl)
                  clear hB hL hD hd hs
                  have HJ := Lib.hid hJ
                  clear hJ
                  go_simp
                  exact hK.out _ _ rfl HJ.out (fun _ _ h => h)
                refine step_plain3 rfl (fun D a w hD hB hL hJ hd hs K hK => ?_) ?_
                · have e141 : a.tmps[141]?.getD undef = .pointer (some ⟨g, N * 2, none⟩) := hs.get 8 141 (by kernel_rfl) (by kernel_rfl)
                  clear hB hL hD hd hs
                  have HJ := Lib.hid hJ
                  clear hJ
                  go_simp
                  exact hK.out _ _ rfl HJ.out (fun _ _ h => h)
                refine step_plain3 rfl (fun D a w hD hB hL hJ hd hs K hK => ?_) ?_
                · have e142 : a.tmps[142]?.getD undef = .pointer (some ⟨g, N * 2, none⟩) := hs.get 9 142 (by kernel_rfl) (by kernel_rfl)
                  have z0 := (CL.out _ _ _ (hJ.1 (hL 20 (by kernel_rfl)))).1
                  have HJ := Lib.hid hJ
                  clear hJ hB hL hD hd hs
                  go_simp
                  exact hK.out _ _ rfl HJ.out (fun _ _ h => h)
                refine step_plain3 rfl (fun D a w hD hB hL hJ hd hs K hK => ?_) ?_
                · have e14 : a.tmps[14]?.getD undef = .int .i64 (j : Int) := hs.at 14 (by kernel_rfl)
                  clear hB hL hD hd hs
                  have HJ := Lib.hid hJ
                  clear hJ
                  go_simp
                  exact hK.out _ _ rfl HJ.out (fun _ _ h => h)
                refine step_plain3 rfl (fun D a w hD hB hL hJ hd hs K hK => ?_) ?_
                · have e143 : a.tmps[143]?.getD undef = .slice (some ⟨gr, 0, none⟩) M rc' := hs.get 10 143 (by kernel_rfl) (by kernel_rfl)
                  have e144 : a.tmps[144]?.getD undef = .int .i64 (j : Int) := hs.get 11 144 (by kernel_rfl) (by kernel_rfl)
                  clear hB hL hD hd hs
                  have HJ := Lib.hid hJ
                  clear hJ
                  go_simp
                  exact hK.out _ _ rfl HJ.out (fun _ _ h => h)
                refine step_plain3 rfl (fun D a w hD hB hL hJ hd hs K hK => ?_) ?_
                · have e145 : a.tmps[145]?.getD undef = .pointer (some ⟨gr, j, none⟩) := hs.get 12 145 (by kernel_rfl) (by kernel_rfl)
                  have z0 : w.cell? ⟨gr, j, none⟩ = some (.int .i64 cyj) := by rw [← hcyj]; exact (LI_cell (hJ.1 (hL 20 (by kernel_rfl))) (g := gr) rfl j _ (partL_at _ _ M j hlt)).1
                  have HJ := Lib.hid hJ
                  clear hJ hB hL hD hd hs
                  go_simp
                  exact hK.out _ _ rfl HJ.out (fun _ _ h => h)
                refine step_plain3 rfl (fun D a w hD hB hL hJ hd hs K hK => ?_) ?_
                · have e3 : a.tmps[3]?.getD undef = .slice (some ⟨tb, toff, none⟩) M tc := hs.at 3 (by kernel_rfl)
                  clear hB hL hD hd hs
                  have HJ := Lib.hid hJ
                  clear hJ
                  go_simp
                  exact hK.out _ _ rfl HJ.out (fun _ _ h => h)
                refine step_plain3 rfl (fun D a w hD hB hL hJ hd hs K hK => ?_) ?_
                · have e14 : a.tmps[14]?.getD undef = .int .i64 (j : Int) := hs.at 14 (by kernel_rfl)
                  clear hB hL hD hd hs
                  have HJ := Lib.hid hJ
                  clear hJ
                  go_simp
                  exact hK.out _ _ rfl HJ.out (fun _ _ h => h)
                refine step_plain3 rfl (fun D a w hD hB hL hJ hd hs K hK => ?_) ?_
                · have e147 : a.tmps[147]?.getD undef = .slice (some ⟨tb, toff, none⟩) M tc := hs.get 14 147 (by kernel_rfl) (by kernel_rfl)
                  have e148 : a.tmps[148]?.getD undef = .int .i64 (j : Int) := hs.get 15 148 (by kernel_rfl) (by kernel_rfl)
                  clear hB hL hD hd hs
                  have HJ := Lib.hid hJ
                  clear hJ
                  go_simp
                  exact hK.out _ _ rfl HJ.out (fun _ _ h => h)
                refine step_plain3 rfl (fun D a w hD hB hL hJ hd hs K hK => ?_) ?_
                · have e149 : a.tmps[149]?.getD undef = .pointer (some ⟨tb, toff + j, none⟩) := hs.get 16 149 (by kernel_rfl) (by kernel_rfl)
                  have z0 := gb_cell (hJ.1 (hL 20 (by kernel_rfl))).gb hxc (by simp)
                  have HJ := Lib.hid hJ
                  clear hJ hB hL hD hd hs
                  go_simp
                  exact hK.out _ _ rfl HJ.out (fun _ _ h => h)
                refine step_plain3 rfl (fun D a w hD hB hL hJ hd hs K hK => ?_) ?_
                · have e146 : a.tmps[146]?.getD undef = .int .i64 cyj := hs.get 13 146 (by kernel_rfl) (by kernel_rfl)
                  have e150 : a.tmps[150]?.getD undef = .int .i64 x := hs.get 17 150 (by kernel_rfl) (by kernel_rfl)
                  clear hB hL hD hd hs
                  have HJ := Lib.hid hJ
                  clear hJ
                  go_simp
                  exact hK.out _ _ rfl HJ.out (fun _ _ h => h)
                refine step_plain3 rfl (fun D a w hD hB hL hJ hd hs K hK => ?_) ?_
                · have e137 : a.tmps[137]?.getD undef = .slice (some ⟨gr, 0, none⟩) M rc' := hs.get 4 137 (by kernel_rfl) (by kernel_rfl)
                  have e138 : a.tmps[138]?.getD undef = .int .i64 (j : Int) := hs.get 5 138 (by kernel_rfl) (by kernel_rfl)
                  clear hB hL hD hd hs
                  have HJ := Lib.hid hJ
                  clear hJ
                  go_simp
                  exact hK.out _ _ rfl HJ.out (fun _ _ h => h)
                refine step_plain3 rfl (fun D a w hD hB hL hJ hd hs K hK => ?_) ?_
                · have e152 : a.tmps[152]?.getD undef = .pointer (some ⟨gr, j, none⟩) := hs.get 19 152 (by kernel_rfl) (by kernel_rfl)
                  have e151 : a.tmps[151]?.getD undef = .int .i64 (IntKind.i64.wrap (cyj + x)) := hs.get 18 151 (by kernel_rfl) (by kernel_rfl)
                  have S' := hJ.1 hD
                  obtain ⟨z0, z1⟩ := LI_cell S' (g := gr) rfl j _ (partL_at _ _ M j hlt)
                  have S2 := LI_set S' (g := gr) rfl j (addW (cy.getD j 0) (want.getD j 0)) (by rw [partL_len]; exact hlt)
                  rw [partL_set (fun j => cy.getD j 0) (fun j => addW (cy.getD j 0) (want.getD j 0)) _ _ hlt, v1] at S2
                  have SH2 := Lib.hid S2
                  clear S' S2 hJ hB hL hD hd hs
                  go_simp
                  exact hK.out (.bool false) _ trivial ⟨(fun h => by cases (show true = false from h)), fun _ => SH2.out⟩ (fun _ _ h => h)
                exact step_nil3
              · intro vs D w' hD hJ hA
                have S5 := RE.out _ _ _ (hJ.2 (hD 20 (by decide)))
                rw [List.set_set] at S5
                have S6 := S5.swap
                clear hJ hA hD S5 CL RE
                simp only [putAll, Act.put, List.setIfInBounds_toArray, List.set_cons_zero, List.set_cons_succ]
                go_wp2_with fail
                go_roundw
                case rel => exact ⟨j + 1, by omega, by go_num, HE2, S6⟩
                case measure => simp [intOf]; omega
        · obtain rfl : j = M := by omega
          have S4 : St w wr [DOwn LClm DClm (.slice (some ⟨g, 0, none⟩) k cp) (afterC cs N want), Own LI (.slice la j lc) (subL fr want)] := by
            have e : subL fr want = partL (fun j => fr.getD j 0) (fun j => subW (fr.getD j 0) (want.getD j 0)) j j := by rw [partL_full, subL, HM.out]
            rw [afterC_at hcy.out, ← partC_full hcyM hczM, e]
            exact S.swap
          have LE : leB want cz = true ∧ leB want fr = true := by
            constructor
            · refine leB_good _ _ (fun i x y hx hy => ?_)
              have := (HE.out i x (by rw [HW.out]; exact (List.getElem?_eq_some_iff.1 hx).1) hx).1
              rwa [List.getD_eq_getElem?_getD, hy] at this
            · refine leB_good _ _ (fun i x y hx hy => ?_)
              have := (HE.out i x (by rw [HW.out]; exact (List.getElem?_eq_some_iff.1 hx).1) hx).2
              rwa [List.getD_eq_getElem?_getD, hy] at this
          have OK := Lib.hid (OKF.out LE.1 LE.2)
          have SF := Lib.hid (s_StateSafe _ _ _ _ _ (St.drds S4) (St.own S4.tail))
          clear S hjM hlt HT HE LE NO OKF
          go_wp2_with fail
          refine SF.out.mono ?_
          rintro e w6 ⟨rfl, g6⟩
          cases hs : safeB (afterC cs N want) (subL fr want) with
          | false =>
            have hno : grantB cs fr (N : Int) want = false := by rw [grantB_of OK.out, hs]
            have G := Lib.hid (gb_trans S4.gb g6)
            go_wp2_with fail
            exact bodyPost_ret (v := .tuple #[.slice (some ⟨w6.heap.size, 0, none⟩) 0 0, .slice (some ⟨w6.heap.size + 1, 0, none⟩) 0 0, .bool false]) (by simp [results, Try.results19, go_sem]) rfl (grantQ_no2 G.out rfl hno)
          | true =>
            have SZ := Lib.hid (grantQ_yes OK.out hs (S4.grow g6))
            go_wp2_with fail
            exact bodyPost_ret (v := .tuple #[.slice (some ⟨g, 0, none⟩) k cp, .slice la j lc, .bool true]) (by simp [results, Try.results19, go_sem]) rfl SZ.out
end Go.Proofs.Ytpbihjkfbbmdjaa
