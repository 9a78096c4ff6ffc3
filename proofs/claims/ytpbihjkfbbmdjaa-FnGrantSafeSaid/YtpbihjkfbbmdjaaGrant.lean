/-
  GrantSafe of the program.
-/
import Derived.Test.YtpbihjkfbbmdjaaGrantLaw
import Derived.Test.YtpbihjkfbbmdjaaGrantJ
import Derived.Test.YtpbihjkfbbmdjaaDrawn3
import Derived.Test.YtpbihjkfbbmdjaaBlk
namespace Go.Proofs.Ytpbihjkfbbmdjaa
open Go Go.RowKit
set_option linter.unusedVariables false
def GrantQ (w : World) (cs : List Clm) (fr : List Int) (n : Int) (want : List Int) (e : Ending) (w' : World) : Prop :=
  ∃ r s, e = .returned (.tuple #[r, s, .bool (grantB cs fr n want)]) ∧ St w w' [DOwn LClm DClm r (grantL cs fr n want), Own LI s (grantF cs fr n want)]
theorem grantQ_no {w w' : World} {cs : List Clm} {fr : List Int} {n : Int} {want : List Int} (g : w.grownBy w' none) (h : grantB cs fr n want = false) :
    GrantQ w cs fr n want (.returned (.tuple #[.slice none 0 0, .slice none 0 0, .bool false])) w' := by
  obtain ⟨h1, h2⟩ := grant_no h
  refine ⟨_, _, by rw [h], ?_⟩
  rw [h1, h2]
  exact (((St.refl w).grow g).ownNil LI).downNil
theorem grantQ_yes {w w' : World} {cs : List Clm} {fr : List Int} {N : Nat} {want : List Int} {r s : Value} (hok : grantOk cs fr (N : Int) want = true) (h : safeB (afterC cs N want) (subL fr want) = true)
    (S : St w w' [DOwn LClm DClm r (afterC cs N want), Own LI s (subL fr want)]) : GrantQ w cs fr (N : Int) want (.returned (.tuple #[r, s, .bool true])) w' := by
  have hb : grantB cs fr (N : Int) want = true := by rw [grantB_of hok, h]
  obtain ⟨h1, h2⟩ := grant_yes hb
  refine ⟨_, _, by rw [hb], ?_⟩
  rw [h1, h2, Int.toNat_natCast]
  exact S
/-- The granted robot's claim, when the first j kinds are done. -/
def partC (y z want : List Int) (M j : Nat) : Clm := ⟨partL (fun j => y.getD j 0) (fun j => addW (y.getD j 0) (want.getD j 0)) M j, partL (fun j => z.getD j 0) (fun j => subW (z.getD j 0) (want.getD j 0)) M j⟩
theorem partC_zero {y z want : List Int} {M : Nat} (h1 : y.length = M) (h2 : z.length = M) : partC y z want M 0 = ⟨y, z⟩ := by
  unfold partC
  rw [show partL (fun j => y.getD j 0) (fun j => addW (y.getD j 0) (want.getD j 0)) M 0 = y by rw [← h1, partL_zero], show partL (fun j => z.getD j 0) (fun j => subW (z.getD j 0) (want.getD j 0)) M 0 = z by rw [← h2, partL_zero]]
theorem partC_full {y z want : List Int} {M : Nat} (h1 : y.length = M) (h2 : z.length = M) : partC y z want M M = grantC ⟨y, z⟩ want := by
  unfold partC grantC
  rw [partL_full, partL_full, addL, subL, h1, h2]
theorem set_same {α : Type} {xs : List α} {k : Nat} {x : α} (h : xs[k]? = some x) : xs.set k x = xs := by
  obtain ⟨hk, rfl⟩ := List.getElem?_eq_some_iff.1 h
  exact List.set_getElem_self hk
/-- The block of claims that are the call's own. -/
theorem St.dBlk {w0 w : World} {v : Value} {ys : List Clm} {Ls : List Asr} (S : St w0 w (DOwn LClm DClm v ys :: Ls)) (h : 0 < ys.length) : ∃ g cp, v = .slice (some ⟨g, 0, none⟩) ys.length cp ∧ ys.length ≤ cp ∧ cp ≤ 9223372036854775807 := by
  obtain ⟨xs, hx, S2⟩ := S.unpack
  obtain ⟨g, cp, hv, h1, h2⟩ := S2.ownBlk (by omega)
  rw [hx] at hv h1
  exact ⟨g, cp, hv, h1, h2⟩
set_option maxRecDepth 100000 in
set_option maxHeartbeats 1000000 in
theorem i_GrantSafe (v : Value) (cs : List Clm) (u : Value) (fr : List Int) (n : Int) (t : Value) (want : List Int) (w : World) (hv : DRds LClm DClm w v cs) (hu : Rds LI w u fr) (ht : Rds LI w t want) :
    Calls Try.prog 20 #[v, u, .int .i64 n, t] w (GrantQ w cs fr n want) := by
  have HV := i_ClaimsValid v u cs fr w hv hu
  have hv0 := hv
  obtain ⟨a, len, cap, rfl, h1, hm, HN, HC⟩ := hv.clms
  obtain ⟨ua, M, uc, rfl, -, -, HM, -⟩ := LI_get hu
  obtain ⟨ta, W, tc, rfl, htc, htm, HW, HT⟩ := LI_get ht
  cases hB : claimsB cs fr with
  | false =>
    have hno := Lib.hid (not_ok (show grantOk cs fr n want = false by simp [grantOk, hB]))
    rw [hB] at HV
    clear hB HC HT
    go_enter Try.func20, Try.ntmps20
    go_wp2_with fail
    refine HV.mono ?_
    rintro e w1 ⟨rfl, g1⟩
    go_wp2_with fail
    exact bodyPost_ret (v := .tuple #[.slice none 0 0, .slice none 0 0, .bool false]) (by simp [results, Try.results20, go_sem]) rfl (grantQ_no g1 hno.out)
  | true =>
  rw [hB] at HV
  have CB := Lib.hid hB
  clear hB
  by_cases hn0 : n < 0
  · have hno := Lib.hid (not_ok (show grantOk cs fr n want = false by
      have : decide (0 ≤ n) = false := decide_eq_false (by omega)
      simp only [grantOk, this, Bool.false_and, Bool.and_false]))
    clear HC HT
    go_enter Try.func20, Try.ntmps20
    go_wp2_with fail
    refine HV.mono ?_
    rintro e w1 ⟨rfl, g1⟩
    go_wp2_with fail
    exact bodyPost_ret (v := .tuple #[.slice none 0 0, .slice none 0 0, .bool false]) (by simp [results, Try.results20, go_sem]) rfl (grantQ_no g1 hno.out)
  obtain ⟨N, rfl⟩ : ∃ N : Nat, n = (N : Int) := ⟨n.toNat, by omega⟩
  by_cases hnl : (len : Int) ≤ (N : Int)
  · have hno := Lib.hid (not_ok (show grantOk cs fr (N : Int) want = false by
      have : decide ((N : Int) < (cs.length : Int)) = false := decide_eq_false (by have := HN.out; omega)
      simp only [grantOk, this, Bool.false_and, Bool.and_false]))
    clear HC HT
    go_enter Try.func20, Try.ntmps20
    go_wp2_with fail
    refine HV.mono ?_
    rintro e w1 ⟨rfl, g1⟩
    go_wp2_with fail
    exact bodyPost_ret (v := .tuple #[.slice none 0 0, .slice none 0 0, .bool false]) (by simp [results, Try.results20, go_sem]) rfl (grantQ_no g1 hno.out)
  have hNl : N < len := by omega
  have hNi : (N : Int) < (len : Int) := by omega
  have hN0 : (0 : Int) ≤ (N : Int) := by omega
  obtain ⟨bc, boff, ra, rn, rc, sa, sn, sc, cy, cz, rfl, hbc, hcy, hrn, hrc, hsn, hsc, hrd, hsd, k0, k1⟩ := HC.out N hNl
  obtain ⟨l1, l2, -, -⟩ := claimsB_at CB.out N _ hcy.out
  dsimp only at l1 l2
  cases hA : (decide (want.length = M) && amtB want) with
  | false =>
    have hno := Lib.hid (not_ok (show grantOk cs fr (N : Int) want = false by rw [HM.out] at hA; simp only [grantOk, hA, Bool.false_and, Bool.and_false]))
    clear HC HT
    go_enter Try.func20, Try.ntmps20
    go_wp2_with fail
    refine HV.mono ?_
    rintro e w1 ⟨rfl, g1⟩
    have HA := i_amounts _ want M w1 (ht.kept g1)
    rw [hA] at HA
    clear hA
    go_wp2_with fail
    refine HA.mono ?_
    rintro e w2 ⟨rfl, g2⟩
    go_wp2_with fail
    exact bodyPost_ret (v := .tuple #[.slice none 0 0, .slice none 0 0, .bool false]) (by simp [results, Try.results20, go_sem]) rfl (grantQ_no (gb_trans g1 g2) hno.out)
  | true =>
  have hWM : want.length = M := by rw [Bool.and_eq_true, decide_eq_true_eq] at hA; exact hA.1
  have AM : RowKit.Hid (∀ w1, w.grownBy w1 none → Calls Try.prog 39 #[.slice ta W tc, .int .i64 M] w1 fun e w' => e = .returned (.bool true) ∧ w1.grownBy w' none) := by
    intro w1 g1
    have := i_amounts _ want M w1 (ht.kept g1)
    rwa [hA] at this
  have hA2 := hA
  have L1 : RowKit.Hid (∀ w1, w.grownBy w1 none → Calls Try.prog 34 #[.slice ta W tc, .slice sa sn sc] w1 fun e w' => e = .returned (.bool (leB want cz)) ∧ w1.grownBy w' none) := fun w1 g1 => i_atMost _ _ want cz w1 (ht.kept g1) (hsd.kept g1) (by rw [hWM, l2]; exact HM.out)
  have L2 : RowKit.Hid (∀ w1, w.grownBy w1 none → Calls Try.prog 34 #[.slice ta W tc, .slice ua M uc] w1 fun e w' => e = .returned (.bool (leB want fr)) ∧ w1.grownBy w' none) := fun w1 g1 => i_atMost _ _ want fr w1 (ht.kept g1) (hu.kept g1) (by rw [hWM]; exact HM.out)
  have hnd := needB_at hcy.out want
  dsimp only at hnd
  clear hA
  cases hq1 : leB want cz with
  | false =>
    have hno := Lib.hid (not_ok (show grantOk cs fr (N : Int) want = false by simp only [grantOk, hnd, hq1, Bool.false_and, Bool.and_false]))
    have L1' := L1.out
    rw [hq1] at L1'
    have L1' := Lib.hid L1'
    clear HC HT hnd hq1 hA2 L1 L2 hrd hsd
    go_enter Try.func20, Try.ntmps20
    go_wp2_with fail
    refine HV.mono ?_
    rintro e w1 ⟨rfl, g1⟩
    go_wp2_with fail
    refine (AM.out _ g1).mono ?_
    rintro e w2 ⟨rfl, g2⟩
    have G := gb_trans g1 g2
    clear g1 g2
    have k1' := gb_cell G k1 (by simp)
    go_wp2_with fail
    refine (L1'.out _ G).mono ?_
    rintro e w3 ⟨rfl, g3⟩
    go_wp2_with fail
    exact bodyPost_ret (v := .tuple #[.slice none 0 0, .slice none 0 0, .bool false]) (by simp [results, Try.results20, go_sem]) rfl (grantQ_no (gb_trans G g3) hno.out)
  | true =>
  have L1' := L1.out
  rw [hq1] at L1'
  have L1' := Lib.hid L1'
  cases hq2 : leB want fr with
  | false =>
    have hno := Lib.hid (not_ok (show grantOk cs fr (N : Int) want = false by simp only [grantOk, hq2, Bool.false_and, Bool.and_false]))
    have L2' := L2.out
    rw [hq2] at L2'
    have L2' := Lib.hid L2'
    clear HC HT hnd hq1 hq2 hA2 L1 L2 hrd hsd
    go_enter Try.func20, Try.ntmps20
    go_wp2_with fail
    refine HV.mono ?_
    rintro e w1 ⟨rfl, g1⟩
    go_wp2_with fail
    refine (AM.out _ g1).mono ?_
    rintro e w2 ⟨rfl, g2⟩
    have G := gb_trans g1 g2
    clear g1 g2
    have k1' := gb_cell G k1 (by simp)
    go_wp2_with fail
    refine (L1'.out _ G).mono ?_
    rintro e w3 ⟨rfl, g3⟩
    have G3 := gb_trans G g3
    clear g3 G
    go_wp2_with fail
    refine (L2'.out _ G3).mono ?_
    rintro e w4 ⟨rfl, g4⟩
    go_wp2_with fail
    exact bodyPost_ret (v := .tuple #[.slice none 0 0, .slice none 0 0, .bool false]) (by simp [results, Try.results20, go_sem]) rfl (grantQ_no (gb_trans G3 g4) hno.out)
  | true =>
  have L2' := L2.out
  rw [hq2] at L2'
  have L2' := Lib.hid L2'
  have OK : RowKit.Hid (grantOk cs fr (N : Int) want = true) := by
    have e1 : decide ((0 : Int) ≤ (N : Int)) = true := decide_eq_true hN0
    have e2 : decide ((N : Int) < (cs.length : Int)) = true := decide_eq_true (by have := HN.out; omega)
    rw [HM.out] at hA2
    show _ = _
    simp only [grantOk, CB.out, e1, e2, hA2, hnd, hq1, hq2, Bool.and_true, Bool.true_and]
  clear hnd hq1 hq2 hA2 L1 L2
  go_enter Try.func20, Try.ntmps20
  go_wp2_with fail
  refine HV.mono ?_
  rintro e w1 ⟨rfl, g1⟩
  go_wp2_with fail
  refine (AM.out _ g1).mono ?_
  rintro e w2 ⟨rfl, g2⟩
  have G := gb_trans g1 g2
  clear g1 g2
  have k1' := gb_cell G k1 (by simp)
  go_wp2_with fail
  refine (L1'.out _ G).mono ?_
  rintro e w3 ⟨rfl, g3⟩
  have G3 := gb_trans G g3
  clear g3 G
  go_wp2_with fail
  refine (L2'.out _ G3).mono ?_
  rintro e w4 ⟨rfl, g4⟩
  have S0 := ((St.refl w).grow (gb_trans G3 g4)).downNil (L := LClm) (D := DClm)
  clear g4 G3 k1' HV AM L1' L2'
  go_wp2_with fail
  go_loopw [11, 13, 56] (fun ov _ i wr => ∃ k : Nat, k ≤ len ∧ i = .int .i64 k ∧ St w wr [DOwn LClm DClm ov (cs.take k)]) (fun _ _ i _ => len - (intOf i).toNat)
  case atStart => exact ⟨0, by omega, rfl, S0⟩
  case round =>
    obtain ⟨k, hk, rfl, S⟩ := hrel
    clear S0
    by_cases hlt : k < len
    · obtain ⟨b2, off2, pa, pn, pc, qa, qn, qc, y, z, hab, hb2, hy, hpn, hpc, hqn, hqc, hpd, hqd, c0, c1⟩ := HC.out k hlt
      simp only [Option.some.injEq, Addr.mk.injEq, and_true] at hab
      obtain ⟨rfl, rfl⟩ := hab
      have c0' := gb_cell S.gb c0 (by simp)
      have c1' := gb_cell S.gb c1 (by simp)
      have hki : (k : Int) < (len : Int) := by omega
      have hk0 : (0 : Int) ≤ (k : Int) := by omega
      obtain ⟨l3, l4, -, -⟩ := claimsB_at CB.out k _ hy.out
      dsimp only at l3 l4
      have yl : y.length ≤ 1000 := by have := (claimsB_len CB.out).2.1; omega
      have zl : z.length ≤ 1000 := by have := (claimsB_len CB.out).2.1; omega
      have hck : (cs.take k).length = k := by rw [List.length_take]; have := HN.out; omega
      have hk6 : k ≤ 6 := by have := (claimsB_len CB.out).1; have := HN.out; omega
      have HPD := Lib.hid hpd
      have HQD := Lib.hid hqd
      clear HC HT hrd hsd hv hv0 ht hu
      go_wp2_with fail
      refine wp_drawn_put3 (shp [some (u11), some (.pointer (some ⟨wr.heap.size, 0, none⟩)), some (.slice pa pn pc), none, some (.pointer (some ⟨wr.heap.size, 1, none⟩)), some (.slice qa qn qc), none, none, none, none, none]) (fun D S w' => JG w u11 (cs.take k) y z [Loc wr.heap.size 43 #[.slice pa pn pc, .slice qa qn qc]] (asr (D 3) (Own LI (S 63) y)) (asr (D 6) (Own LI (S 66) z)) (D 7) (D 8) (D 9) (D 10) (S 63) (S 66) (S 67) (S 68) (S 69) (S 11) w') (by kernel_rfl) (by kernel_rfl) (JG.start ((S.loc _ _).swap).drew) ?_ ?_
      · refine step_plain3 rfl (fun D a w hD hB hL hJ hd hs K hK => ?_) ?_
        · have e11 : a.tmps[11]?.getD undef = u11 := hs.yet 10 11 (by kernel_rfl) (by kernel_rfl)
          clear hB hL hD hd hs
          have HJ := Lib.hid hJ
          clear hJ
          go_simp
          exact hK.out _ _ rfl HJ.out (fun _ _ h => h)
        refine step_plain3 rfl (fun D a w hD hB hL hJ hd hs K hK => ?_) ?_
        · have e13 : a.tmps[13]?.getD undef = .pointer (some ⟨wr.heap.size, 0, none⟩) := hs.at 13 (by kernel_rfl)
          clear hB hL hD hd hs
          have HJ := Lib.hid hJ
          clear hJ
          go_simp
          exact hK.out _ _ rfl HJ.out (fun _ _ h => h)
        refine step_plain3 rfl (fun D a w hD hB hL hJ hd hs K hK => ?_) ?_
        · have e61 : a.tmps[61]?.getD undef = .pointer (some ⟨wr.heap.size, 0, none⟩) := hs.get 1 61 (by kernel_rfl) (by kernel_rfl)
          have z0 := St.locCell (JG.ms hJ) 0 _ rfl
          have HJ := Lib.hid hJ
          clear hJ hB hL hD hd hs
          go_simp
          exact hK.out _ _ rfl HJ.out (fun _ _ h => h)
        refine step_plain3 rfl (fun D a w hD hB hL hJ hd hs K hK => ?_) ?_
        · have e62 : a.tmps[62]?.getD undef = .slice pa pn pc := hs.get 2 62 (by kernel_rfl) (by kernel_rfl)
          have h7 := hL 7 (by kernel_rfl)
          have h8 := hL 8 (by kernel_rfl)
          have h9 := hL 9 (by kernel_rfl)
          have h10 := hL 10 (by kernel_rfl)
          have SS := JG.rows hJ h8 h9
          simp only [hD, asr_f, List.nil_append] at SS
          have HC1 := Lib.hid (clone_s _ y _ (HPD.out.kept (JG.gb hJ)) yl)
          clear hJ hs hd hB hL hD
          go_simp
          refine HC1.out.mono ?_
          rintro e w2 ⟨r, rfl, T⟩
          exact hK.out _ _ trivial (JG.setA (Ra' := [Own LI r y]) (SS.call T) h7 h8 h9 h10) (fun _ _ h => h)
        refine step_plain3 rfl (fun D a w hD hB hL hJ hd hs K hK => ?_) ?_
        · have e13 : a.tmps[13]?.getD undef = .pointer (some ⟨wr.heap.size, 0, none⟩) := hs.at 13 (by kernel_rfl)
          clear hB hL hD hd hs
          have HJ := Lib.hid hJ
          clear hJ
          go_simp
          exact hK.out _ _ rfl HJ.out (fun _ _ h => h)
        refine step_plain3 rfl (fun D a w hD hB hL hJ hd hs K hK => ?_) ?_
        · have e64 : a.tmps[64]?.getD undef = .pointer (some ⟨wr.heap.size, 1, none⟩) := hs.get 4 64 (by kernel_rfl) (by kernel_rfl)
          have z0 := St.locCell (JG.ms hJ) 1 _ rfl
          have HJ := Lib.hid hJ
          clear hJ hB hL hD hd hs
          go_simp
          exact hK.out _ _ rfl HJ.out (fun _ _ h => h)
        refine step_plain3 rfl (fun D a w hD hB hL hJ hd hs K hK => ?_) ?_
        · have e65 : a.tmps[65]?.getD undef = .slice qa qn qc := hs.get 5 65 (by kernel_rfl) (by kernel_rfl)
          have h7 := hL 7 (by kernel_rfl)
          have h8 := hL 8 (by kernel_rfl)
          have h9 := hL 9 (by kernel_rfl)
          have h10 := hL 10 (by kernel_rfl)
          have SS := JG.rows hJ h8 h9
          simp only [hD, asr_f, List.nil_append] at SS
          have HC1 := Lib.hid (clone_s _ z _ (HQD.out.kept (JG.gb hJ)) zl)
          clear hJ hs hd hB hL hD
          go_simp
          refine HC1.out.mono ?_
          rintro e w2 ⟨r, rfl, T⟩
          exact hK.out _ _ trivial (JG.setB (Rb' := [Own LI r z]) (SS.call T) h7 h8 h9 h10) (fun _ _ h => h)
        refine step_plain3 rfl (fun D a w hD hB hL hJ hd hs K hK => ?_) ?_
        · obtain ⟨x63, e63⟩ : ∃ x : Value, a.tmps[63]?.getD undef = x := ⟨_, rfl⟩
          obtain ⟨x66, e66⟩ : ∃ x : Value, a.tmps[66]?.getD undef = x := ⟨_, rfl⟩
          have h3 := hB 3 (by kernel_rfl)
          have h6 := hB 6 (by kernel_rfl)
          have h8 := hL 8 (by kernel_rfl)
          have h9 := hL 9 (by kernel_rfl)
          have h10 := hL 10 (by kernel_rfl)
          have SS := JG.rows hJ h8 h9
          simp only [h3, h6, asr_t, List.cons_append, List.nil_append, if_true] at SS
          obtain ⟨⟨p1, p2, p3⟩, hp⟩ := (St.own SS.tail).sl
          obtain ⟨⟨q1, q2, q3⟩, hq⟩ := (St.own SS.tail.tail).sl
          have hp : sl a 63 = .slice p1 p2 p3 := hp
          have hq : sl a 66 = .slice q1 q2 q3 := hq
          obtain rfl : x63 = .slice p1 p2 p3 := e63.symm.trans hp
          obtain rfl : x66 = .slice q1 q2 q3 := e66.symm.trans hq
          have HJ := Lib.hid (JG.build (c' := .agg #[.slice p1 p2 p3, .slice q1 q2 q3]) hJ h8 h9 h10 (by rw [hp, hq]))
          clear hJ hs hd hp hq SS
          go_simp
          exact hK.out _ _ trivial HJ.out (fun _ _ h => h)
        refine step_plain3 rfl (fun D a w hD hB hL hJ hd hs K hK => ?_) ?_
        · obtain ⟨x67, e67⟩ : ∃ x : Value, a.tmps[67]?.getD undef = x := ⟨_, rfl⟩
          have h3 := hB 3 (by kernel_rfl)
          have h6 := hB 6 (by kernel_rfl)
          have h9 := hL 9 (by kernel_rfl)
          have h10 := hL 10 (by kernel_rfl)
          have b67 : sl a 67 = .agg #[sl a 63, sl a 66] := JG.built hJ (hB 7 (by kernel_rfl))
          obtain ⟨y63, r63⟩ : ∃ x : Value, sl a 63 = x := ⟨_, rfl⟩
          obtain ⟨y66, r66⟩ : ∃ x : Value, sl a 66 = x := ⟨_, rfl⟩
          rw [r63, r66] at b67
          obtain rfl : x67 = .agg #[y63, y66] := e67.symm.trans b67
          have HJ := Lib.hid (JG.lit hJ (by rw [h3]; rfl) (by rw [h6]; rfl) hD h9 h10)
          clear hJ hs hd b67
          go_simp
          subst r63 r66
          exact hK.out _ _ trivial HJ.out (fun _ _ h => h)
        refine step_plain3 rfl (fun D a w hD hB hL hJ hd hs K hK => ?_) ?_
        · have e60 : a.tmps[60]?.getD undef = u11 := hs.get 0 60 (by kernel_rfl) (by kernel_rfl)
          obtain ⟨x68, e68⟩ : ∃ x : Value, a.tmps[68]?.getD undef = x := ⟨_, rfl⟩
          have h10 := hL 10 (by kernel_rfl)
          have HB2 := JG.hb hJ
          obtain ⟨xs', s', t', hx', SS, RR⟩ := JG.out hJ (hB 8 (by kernel_rfl)) hD
          clear hJ hs hd
          refine wp_appR LClm_info (.tmp 60) (.tmp 68) rfl SS (by simp [Act.eval, e60]) [(s', t')] _ (by simp [Act.eval, sl]) RR (by rw [hx', hck]; show k + 1 ≤ _; omega) ?_
          intro v' w' S'
          exact hK.out _ _ trivial (JG.app hx' S' HB2 h10) (fun _ _ h => h)
        refine step_plain3 rfl (fun D a w hD hB hL hJ hd hs K hK => ?_) ?_
        · obtain ⟨x69, e69⟩ : ∃ x : Value, a.tmps[69]?.getD undef = x := ⟨_, rfl⟩
          have HJ := Lib.hid (JG.asg hJ)
          clear hJ hs hd
          go_simp
          subst e69
          exact hK.out _ _ trivial HJ.out (fun _ _ h => h)
        exact step_nil3
      · intro vs D w' hD hJ hA
        obtain ⟨h1', S2⟩ := JG.fin hJ (hD 9 (by decide)) (hD 10 (by decide))
        rw [sl_put vs (by kernel_rfl) 10 11 (by kernel_rfl), sl_put vs (by kernel_rfl) 9 69 (by kernel_rfl)] at h1'
        rw [sl_put vs (by kernel_rfl) 9 69 (by kernel_rfl)] at S2
        clear hJ hA hD
        simp only [putAll, Act.put, List.setIfInBounds_toArray, List.set_cons_zero, List.set_cons_succ]
        rw [h1']
        generalize vs 9 = V9 at S2 ⊢
        clear h1'
        have S3 : St w w' [DOwn LClm DClm V9 (cs.take (k + 1))] := by
          have e : cs.take (k + 1) = cs.take k ++ [⟨y, z⟩] := by
            obtain ⟨hk', he⟩ := List.getElem?_eq_some_iff.1 hy.out
            rw [List.take_succ_eq_append_getElem hk', he]
          rw [e]
          exact St.drop1 (Ms := [_]) S2
        clear S2
        go_wp2
        go_roundw
        case rel => exact ⟨k + 1, by omega, by go_num, S3⟩
        case measure => simp [intOf]; omega
    · obtain rfl : k = len := by omega
      have S1 : St w wr [DOwn LClm DClm u11 cs] := by
        have := S
        rwa [List.take_of_length_le (by have := HN.out; omega)] at this
      clear S
      obtain ⟨g, cp, hgv, hcp1, hcp2⟩ := S1.dBlk (by have := HN.out; omega)
      rw [← HN.out] at hgv hcp1
      subst hgv
      have hfr4 : fr.length ≤ 4 := (claimsB_len CB.out).2.1
      obtain rfl : M = W := by rw [HW.out, hWM]
      have hcl : N < cs.length := by have := HN.out; omega
      have hcyM : cy.length = M := by rw [l1, HM.out]
      have hczM : cz.length = M := by rw [l2, HM.out]
      clear HC hrd hsd hv hv0 hnl hlt hk
      go_wp2_with fail
      refine (clone_s _ fr wr (hu.kept S1.gb) (by omega)).mono ?_
      rintro e w5 ⟨lv, rfl, T⟩
      have S2 := S1.call T
      clear S1 T
      simp only [List.cons_append, List.nil_append] at S2
      obtain ⟨la, m', lc, rfl, hm'⟩ := (St.own S2).slice
      obtain rfl : M = m' := by rw [hm', HM.out]
      have S3 : St w w5 [DOwn LClm DClm (.slice (some ⟨g, 0, none⟩) k cp) (cs.set N (partC cy cz want M 0)), Own LI (.slice la M lc) (partL (fun j => fr.getD j 0) (fun j => subW (fr.getD j 0) (want.getD j 0)) M 0)] := by
        have e : partL (fun j => fr.getD j 0) (fun j => subW (fr.getD j 0) (want.getD j 0)) M 0 = fr := by rw [HM.out, partL_zero]
        rw [partC_zero hcyM hczM, set_same hcy.out, e]
        exact S2.swap
      clear S2 hm' hu ht
      go_wp2_with fail
      go_loopw [15, 16, 75] (fun _ _ i wr => ∃ j : Nat, j ≤ M ∧ i = .int .i64 j ∧ St w wr [DOwn LClm DClm (.slice (some ⟨g, 0, none⟩) k cp) (cs.set N (partC cy cz want M j)), Own LI (.slice la M lc) (partL (fun j => fr.getD j 0) (fun j => subW (fr.getD j 0) (want.getD j 0)) M j)]) (fun _ _ i _ => M - (intOf i).toNat)
      case atStart => exact ⟨0, by omega, rfl, S3⟩
      case round =>
        obtain ⟨j, hjM, rfl, S⟩ := hrel
        clear S3
        by_cases hlt : j < M
        · obtain ⟨tb, toff, x, rfl, htb, hx, hxc⟩ := HT.out j hlt
          have hxc' := gb_cell S.gb hxc (by simp)
          have ex : want.getD j 0 = x := by rw [List.getD_eq_getElem?_getD, hx.out]; rfl
          have hji : (j : Int) < (M : Int) := by omega
          have hj0 : (0 : Int) ≤ (j : Int) := by omega
          have hy2 : (cs.set N (partC cy cz want M j))[N]? = some ⟨partL (fun j => cy.getD j 0) (fun j => addW (cy.getD j 0) (want.getD j 0)) M j, partL (fun j => cz.getD j 0) (fun j => subW (cz.getD j 0) (want.getD j 0)) M j⟩ := List.getElem?_set_self hcl
          obtain ⟨ra', rn', rc', sa', sn', sc', Ns, h0, h1b, hfz, q1, q2, S4, RE, CL⟩ := S.dclmAt N _ _ hy2 (g := g) rfl
          rw [partL_len] at q1 q2
          obtain rfl : M = rn' := q1.symm
          obtain rfl : M = sn' := q2.symm
          obtain ⟨gr, rfl⟩ := ownAd S4 (by omega)
          obtain ⟨gs, rfl⟩ := ownAd S4.tail (by omega)
          obtain ⟨d0, f0⟩ := LI_cell S4 (g := gr) rfl j _ (partL_at _ _ M j hlt)
          have S5 := LI_set S4 (g := gr) rfl j (addW (cy.getD j 0) (want.getD j 0)) (by rw [partL_len]; exact hlt)
          rw [partL_set (fun j => cy.getD j 0) (fun j => addW (cy.getD j 0) (want.getD j 0)) _ _ hlt] at S5
          obtain ⟨-, h1c, -⟩ := CL _ _ _ S5
          obtain ⟨d1, f1⟩ := LI_cell S5.swap (g := gs) rfl j _ (partL_at _ _ M j hlt)
          have S6 := LI_set S5.swap (g := gs) rfl j (subW (cz.getD j 0) (want.getD j 0)) (by rw [partL_len]; exact hlt)
          rw [partL_set (fun j => cz.getD j 0) (fun j => subW (cz.getD j 0) (want.getD j 0)) _ _ hlt] at S6
          have S7 := RE _ _ _ S6.swap
          rw [List.set_set] at S7
          have S8 := S7.swap
          obtain ⟨gl, rfl⟩ := ownAd S8 (by omega)
          obtain ⟨d2, f2⟩ := LI_cell S8 (g := gl) rfl j _ (partL_at _ _ M j hlt)
          have S9 := LI_set S8 (g := gl) rfl j (subW (fr.getD j 0) (want.getD j 0)) (by rw [partL_len]; exact hlt)
          rw [partL_set (fun j => fr.getD j 0) (fun j => subW (fr.getD j 0) (want.getD j 0)) _ _ hlt] at S9
          have S10 := S9.swap
          have v1 : addW (cy.getD j 0) (want.getD j 0) = wrap64 (cy.getD j 0 + x) := by rw [ex]; rfl
          have v2 : subW (cz.getD j 0) (want.getD j 0) = wrap64 (cz.getD j 0 - x) := by rw [ex]; rfl
          have v3 : subW (fr.getD j 0) (want.getD j 0) = wrap64 (fr.getD j 0 - x) := by rw [ex]; rfl
          clear S4 S5 S6 S7 S8 S9 RE CL
          rw [v1] at h1c d1 f1
          rw [v1, v2] at d2 f2
          rw [v1, v2, v3] at S10
          generalize cy.getD j 0 = cyj at d0 h1c d1 f1 d2 f2 S10
          generalize cz.getD j 0 = czj at d1 d2 f2 S10
          generalize fr.getD j 0 = frj at d2 S10
          have SH := Lib.hid S10
          clear v1 v2 v3 ex hy2 S S10 hfz HT hx
          go_wp2_with fail
          go_roundw
          case rel => exact ⟨j + 1, by omega, by go_num, SH.out⟩
          case measure => simp [intOf]; omega
        · obtain rfl : j = M := by omega
          have S4 : St w wr [DOwn LClm DClm (.slice (some ⟨g, 0, none⟩) k cp) (afterC cs N want), Own LI (.slice la j lc) (subL fr want)] := by
            have e : subL fr want = partL (fun j => fr.getD j 0) (fun j => subW (fr.getD j 0) (want.getD j 0)) j j := by rw [partL_full, subL, HM.out]
            rw [afterC_at hcy.out, ← partC_full hcyM hczM, e]
            exact S
          have SF := Lib.hid (i_StateSafe _ _ _ _ _ (St.drds S4) (St.own S4.tail))
          clear S hjM hlt HT
          go_wp2_with fail
          refine SF.out.mono ?_
          rintro e w6 ⟨rfl, g6⟩
          cases hs : safeB (afterC cs N want) (subL fr want) with
          | false =>
            have hno : grantB cs fr (N : Int) want = false := by rw [grantB_of OK.out, hs]
            go_wp2_with fail
            exact bodyPost_ret (v := .tuple #[.slice none 0 0, .slice none 0 0, .bool false]) (by simp [results, Try.results20, go_sem]) rfl (grantQ_no (gb_trans S4.gb g6) hno)
          | true =>
            have SZ := Lib.hid (grantQ_yes OK.out hs (S4.grow g6))
            go_wp2_with fail
            exact bodyPost_ret (v := .tuple #[.slice (some ⟨g, 0, none⟩) k cp, .slice la j lc, .bool true]) (by simp [results, Try.results20, go_sem]) rfl SZ.out
end Go.Proofs.Ytpbihjkfbbmdjaa
