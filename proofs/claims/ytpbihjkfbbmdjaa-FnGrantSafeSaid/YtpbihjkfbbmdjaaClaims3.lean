/-
  spec.ClaimsValid, atMost, l19Enough, the closures of FinishOrder.
-/
import Derived.Test.YtpbihjkfbbmdjaaClaims2
import Derived.BigQuiet
namespace Go.Proofs.Ytpbihjkfbbmdjaa
open Go Go.RowKit
set_option maxHeartbeats 2000000 in
theorem s_ClaimsValid (v u : Value) (cs : List Clm) (fr : List Int) (w : World) (hv : DRds LClm DClm w v cs) (hu : Rds LI w u fr) :
    Calls Try.prog 24 #[v, u] w fun e w' => e = .returned (.bool (claimsB cs fr)) ∧ w = w' := by
  obtain ⟨a, n, cap, rfl, h1, hm, HN, HC⟩ := hv.clms
  have H1 := s_small _ fr w hu
  obtain ⟨a', m, cap', rfl, h1', hm', HM, -⟩ := LI_get hu
  have HQ : RowKit.Hid (claimsB cs fr = (decide (n ≤ 6) && (decide (m ≤ 4) && (amtB fr && cs.all (clmB m))))) := by
    show _ = _
    unfold claimsB; rw [← HN.out, ← HM.out]
  have GOOD : RowKit.Hid ((∀ (j : Nat) (x : Clm), j < n → cs[j]? = some x → clmB m x = true) → cs.all (clmB m) = true) := by
    intro h
    refine List.all_eq_true.2 (fun x hx => ?_)
    obtain ⟨j, hj, rfl⟩ := List.getElem_of_mem hx
    exact h j _ (by rw [HN.out]; exact hj) (List.getElem?_eq_getElem hj)
  have BAD : RowKit.Hid (∀ (j : Nat) (x : Clm), cs[j]? = some x → clmB m x = false → cs.all (clmB m) = false) := by
    intro j x hx hb
    refine List.all_eq_false.2 ⟨x, List.mem_of_getElem? hx, ?_⟩
    simp [hb]
  rw [HQ.out]
  generalize cs.all (clmB m) = q2 at GOOD BAD ⊢
  generalize amtB fr = q1 at H1 ⊢
  clear hv hu HQ HM
  by_cases h4 : m ≤ 4
  rotate_left
  · have h4' : 4 < (m : Int) := by omega
    clear H1
    go_enter Try.func24, Try.ntmps24
    go_wp2_with fail
    go_ret
    exact ⟨by simp [h4], rfl⟩
  have h4' : ¬ 4 < (m : Int) := by omega
  by_cases h6 : n ≤ 6
  rotate_left
  · have h6' : 6 < (n : Int) := by omega
    clear H1
    go_enter Try.func24, Try.ntmps24
    go_wp2_with fail
    go_ret
    exact ⟨by simp [h6], rfl⟩
  have h6' : ¬ 6 < (n : Int) := by omega
  simp only [h4, h6, decide_true, Bool.true_and]
  go_enter Try.func24, Try.ntmps24
  go_wp2_with fail
  refine H1.mono ?_
  rintro e w1 ⟨rfl, rfl⟩
  cases q1 with
  | false =>
    go_wp2_with fail
    go_ret
    exact ⟨by simp, rfl⟩
  | true =>
  go_wp2_with fail
  clear H1
  go_loop [5] (fun i => ∃ k : Nat, k ≤ n ∧ i = .int .i64 k ∧ RowKit.Hid (∀ (j : Nat) (x : Clm), j < k → cs[j]? = some x → clmB m x = true)) (fun i => n - (intOf i).toNat)
  case atStart => exact ⟨0, by omega, rfl, fun j x hj => by omega⟩
  case round =>
    obtain ⟨k, hk, rfl, HE⟩ := hrel
    by_cases hlt : k < n
    rotate_left
    · have he := Lib.hid (GOOD.out (fun j x hj hx => HE.out j x (by omega) hx))
      clear HE
      go_wp2
      go_ret
      exact ⟨by rw [he.out]; rfl, rfl⟩
    obtain ⟨b, off, ra, rn, rc, sa, sn, sc, y, z, rfl, hb, hx, hrn, hrc, hsn, hsc, hrd, hsd, c0, c1⟩ := HC.out k hlt
    have hlt' : (k : Int) < (n : Int) := by omega
    have H1 := s_small _ y w hrd
    have H2 := s_small _ z w hsd
    have HB : RowKit.Hid (clmB m ⟨y, z⟩ = ((decide (rn = m) && amtB y) && (decide (sn = m) && amtB z))) := by
      show _ = _
      rw [hrn.out, hsn.out]; rfl
    have HE2 : RowKit.Hid (clmB m ⟨y, z⟩ = true → ∀ (j : Nat) (x : Clm), j < k + 1 → cs[j]? = some x → clmB m x = true) := by
      intro hq j y hj hy
      by_cases hjk : j < k
      · exact HE.out j y hjk hy
      · obtain rfl : j = k := by omega
        rw [hx.out] at hy
        rw [← Option.some.inj hy]
        exact hq
    have BD := Lib.hid (BAD.out k _ hx.out)
    rw [HB.out] at HE2 BD
    generalize amtB y = qy at H1 HE2 BD
    generalize amtB z = qz at H2 HE2 BD
    clear HB HE hrd hsd hrn hsn hx
    by_cases h1 : rn = m
    rotate_left
    · have e1 : ((rn : Int) == (m : Int)) = false := beq_eq_false_iff_ne.2 (by omega)
      have he := Lib.hid (BD.out (by simp [h1]))
      clear BD HE2 H1 H2
      go_wp2_with fail
      go_ret
      exact ⟨by rw [he.out]; rfl, rfl⟩
    subst h1
    have e1 : ((rn : Int) == (rn : Int)) = true := by simp
    by_cases h2 : sn = rn
    rotate_left
    · have e2 : ((sn : Int) == (rn : Int)) = false := beq_eq_false_iff_ne.2 (by omega)
      have he := Lib.hid (BD.out (by simp [h2]))
      clear BD HE2 H1 H2
      go_wp2_with fail
      go_ret
      exact ⟨by rw [he.out]; rfl, rfl⟩
    subst h2
    go_wp2_with fail
    refine H1.mono ?_
    rintro e w1 ⟨rfl, rfl⟩
    cases qy with
    | false =>
      have he := Lib.hid (BD.out (by simp))
      clear BD HE2 H1 H2
      go_wp2_with fail
      go_ret
      exact ⟨by rw [he.out]; rfl, rfl⟩
    | true =>
      go_wp2_with fail
      refine H2.mono ?_
      rintro e w1 ⟨rfl, rfl⟩
      cases qz with
      | false =>
        have he := Lib.hid (BD.out (by simp))
        clear BD HE2 H1 H2
        go_wp2_with fail
        go_ret
        exact ⟨by rw [he.out]; rfl, rfl⟩
      | true =>
        have HE3 := Lib.hid (HE2.out (by simp))
        clear BD HE2 H1 H2
        go_wp2_with fail
        go_round
        case rel => exact ⟨k + 1, by omega, by go_num, HE3.out⟩
        case measure => simp [intOf]; omega
/-- Number by number at most. -/
def leB (xs ys : List Int) : Bool := (xs.zip ys).all (fun p => decide (p.1 ≤ p.2))
theorem leB_good (xs ys : List Int) (h : ∀ (j : Nat) (x y : Int), xs[j]? = some x → ys[j]? = some y → x ≤ y) : leB xs ys = true := by
  refine List.all_eq_true.2 (fun p hp => ?_)
  obtain ⟨j, hj, rfl⟩ := List.getElem_of_mem hp
  simp only [List.getElem_zip, decide_eq_true_eq]
  rw [List.length_zip] at hj
  exact h j _ _ (List.getElem?_eq_getElem (by omega)) (List.getElem?_eq_getElem (by omega))
theorem leB_bad (xs ys : List Int) (j : Nat) (x y : Int) (hx : xs[j]? = some x) (hy : ys[j]? = some y) (h : y < x) : leB xs ys = false := by
  refine List.all_eq_false.2 ⟨(x, y), ?_, by simpa using h⟩
  refine List.mem_iff_getElem?.2 ⟨j, ?_⟩
  rw [List.getElem?_zip_eq_some]
  exact ⟨hx, hy⟩
theorem leB_at (xs ys : List Int) (h : leB xs ys = true) (j : Nat) (x y : Int) (hx : xs[j]? = some x) (hy : ys[j]? = some y) : x ≤ y := by
  cases Classical.em (y < x) with
  | inl h2 => rw [leB_bad xs ys j x y hx hy h2] at h; simp at h
  | inr h2 => omega
set_option maxHeartbeats 1000000 in
theorem i_atMost (v u : Value) (xs ys : List Int) (w : World) (hv : Rds LI w v xs) (hu : Rds LI w u ys) (hl : xs.length = ys.length) :
    Calls Try.prog 34 #[v, u] w fun e w' => e = .returned (.bool (leB xs ys)) ∧ w.grownBy w' none := by
  obtain ⟨a, n, cap, rfl, h1, hm, HN, HC⟩ := LI_get hv
  obtain ⟨a', m, cap', rfl, h1', hm', HM, HC'⟩ := LI_get hu
  obtain rfl : n = m := by rw [HN.out, HM.out, hl]
  have GOOD : RowKit.Hid ((∀ (j : Nat) (x y : Int), j < n → xs[j]? = some x → ys[j]? = some y → x ≤ y) → leB xs ys = true) := fun h => leB_good xs ys (fun j x y hx hy => h j x y (by rw [HN.out]; exact (List.getElem?_eq_some_iff.1 hx).1) hx hy)
  have BAD : RowKit.Hid (∀ (j : Nat) (x y : Int), xs[j]? = some x → ys[j]? = some y → y < x → leB xs ys = false) := leB_bad xs ys
  generalize leB xs ys = q at GOOD BAD ⊢
  clear hv hu hl
  go_enter Try.func34, Try.ntmps34
  go_wp2
  go_loopw [5, 8] (fun _ i wr => ∃ k : Nat, k ≤ n ∧ i = .int .i64 k ∧ RowKit.Hid (∀ (j : Nat) (x y : Int), j < k → xs[j]? = some x → ys[j]? = some y → x ≤ y) ∧ w.grownBy wr none) (fun _ i _ => n - (intOf i).toNat)
  case atStart => exact ⟨0, by omega, rfl, fun j x y hj => by omega, World.grownBy.refl _ _⟩
  case round =>
    obtain ⟨k, hk, rfl, HE, hg⟩ := hrel
    by_cases hlt : k < n
    rotate_left
    · have he := Lib.hid (GOOD.out (fun j x y hj hx => HE.out j x y (by omega) hx))
      clear HE
      go_wp2
      go_ret
      exact ⟨by rw [he.out]; rfl, hg⟩
    obtain ⟨b, off, x, rfl, hb, hx, hc⟩ := HC.out k hlt
    have hc := gb_cell hg hc (by simp)
    obtain ⟨b', off', y, rfl, hb', hy, hc'⟩ := HC'.out k hlt
    have hc' := gb_cell hg hc' (by simp)
    have hlt' : (k : Int) < (n : Int) := by omega
    have hk0 : (0 : Int) ≤ (k : Int) := by omega
    by_cases hq : y < x
    · have he := Lib.hid (BAD.out k x y hx.out hy.out hq)
      clear HE
      go_wp2
      go_quiet (fail)
      go_wp2
      go_ret
      exact ⟨by rw [he.out]; rfl, gb_drewN hg _⟩
    · have HE2 : RowKit.Hid (∀ (j : Nat) (x y : Int), j < k + 1 → xs[j]? = some x → ys[j]? = some y → x ≤ y) := by
        intro j x' y' hj hx' hy'
        by_cases hjk : j < k
        · exact HE.out j x' y' hjk hx' hy'
        · obtain rfl : j = k := by omega
          rw [hx.out] at hx'
          rw [hy.out] at hy'
          rw [← Option.some.inj hx', ← Option.some.inj hy']
          omega
      clear HE
      go_wp2
      go_quiet (fail)
      go_wp2
      go_roundw
      case rel => exact ⟨k + 1, by omega, by go_num, HE2, gb_drewN hg _⟩
      case measure => simp [intOf]; omega
set_option maxHeartbeats 1000000 in
theorem s_enough (ra : Option Addr) (rn rc : Nat) (sa : Option Addr) (sn sc : Nat) (u : Value) (xs ys : List Int) (w : World) (hv : Rds LI w (.slice sa sn sc) xs) (hu : Rds LI w u ys) (hl : xs.length = ys.length) :
    Calls Try.prog 30 #[.agg #[.slice ra rn rc, .slice sa sn sc], u] w fun e w' => e = .returned (.bool (leB xs ys)) ∧ w.grownBy w' none := by
  have g0 := gb_alloc (World.grownBy.refl w none) (.cells #[.slice ra rn rc, .slice sa sn sc] 43)
  obtain ⟨a, n, cap, hvv, h1, hm, HN, HC⟩ := LI_get (hv.kept g0)
  simp only [Value.slice.injEq] at hvv
  obtain ⟨rfl, rfl, rfl⟩ := hvv
  obtain ⟨a', m, cap', rfl, h1', hm', HM, HC'⟩ := LI_get (hu.kept g0)
  obtain rfl : sn = m := by rw [HN.out, HM.out, hl]
  have GOOD : RowKit.Hid ((∀ (j : Nat) (x y : Int), j < sn → xs[j]? = some x → ys[j]? = some y → x ≤ y) → leB xs ys = true) := fun h => leB_good xs ys (fun j x y hx hy => h j x y (by rw [HN.out]; exact (List.getElem?_eq_some_iff.1 hx).1) hx hy)
  have BAD : RowKit.Hid (∀ (j : Nat) (x y : Int), xs[j]? = some x → ys[j]? = some y → y < x → leB xs ys = false) := leB_bad xs ys
  have c1 : (w.alloc (.cells #[.slice ra rn rc, .slice sa sn sc] 43)).cell? ⟨w.heap.size, 1, none⟩ = some (.slice sa sn sc) := by simp [go_sem]
  generalize leB xs ys = q at GOOD BAD ⊢
  clear hv hu hl
  go_enter Try.func30, Try.ntmps30
  go_wp2
  generalize w.alloc (.cells #[.slice ra rn rc, .slice sa sn sc] 43) = w1 at g0 HC HC' c1 ⊢
  go_loopw [5] (fun i wr => ∃ k : Nat, k ≤ sn ∧ i = .int .i64 k ∧ RowKit.Hid (∀ (j : Nat) (x y : Int), j < k → xs[j]? = some x → ys[j]? = some y → x ≤ y) ∧ w1.grownBy wr none) (fun i _ => sn - (intOf i).toNat)
  case atStart => exact ⟨0, by omega, rfl, fun j x y hj => by omega, World.grownBy.refl _ _⟩
  case round =>
    obtain ⟨k, hk, rfl, HE, hg⟩ := hrel
    by_cases hlt : k < sn
    rotate_left
    · have he := Lib.hid (GOOD.out (fun j x y hj hx => HE.out j x y (by omega) hx))
      clear HE
      go_wp2
      go_ret
      exact ⟨by rw [he.out]; rfl, gb_trans g0 hg⟩
    obtain ⟨b, off, x, rfl, hb, hx, hc⟩ := HC.out k hlt
    have hc := gb_cell hg hc (by simp)
    obtain ⟨b', off', y, rfl, hb', hy, hc'⟩ := HC'.out k hlt
    have hc' := gb_cell hg hc' (by simp)
    have c1' := gb_cell hg c1 (by simp)
    have hlt' : (k : Int) < (sn : Int) := by omega
    have hk0 : (0 : Int) ≤ (k : Int) := by omega
    by_cases hq : y < x
    · have he := Lib.hid (BAD.out k x y hx.out hy.out hq)
      clear HE
      go_wp2
      go_quiet (fail)
      go_wp2
      go_ret
      exact ⟨by rw [he.out]; rfl, gb_trans g0 (gb_drewN hg _)⟩
    · have HE2 : RowKit.Hid (∀ (j : Nat) (x y : Int), j < k + 1 → xs[j]? = some x → ys[j]? = some y → x ≤ y) := by
        intro j x' y' hj hx' hy'
        by_cases hjk : j < k
        · exact HE.out j x' y' hjk hx' hy'
        · obtain rfl : j = k := by omega
          rw [hx.out] at hx'
          rw [hy.out] at hy'
          rw [← Option.some.inj hx', ← Option.some.inj hy']
          omega
      clear HE
      go_wp2
      go_quiet (fail)
      go_wp2
      go_roundw
      case rel => exact ⟨k + 1, by omega, by go_num, HE2, gb_drewN hg _⟩
      case measure => simp [intOf]; omega
set_option maxHeartbeats 1000000 in
theorem fin1_s (q : Nat) (la : Option Addr) (m c : Nat) (left : List Int) (W : World) (hq : q < W.heap.size) (hcell : W.cell? ⟨q, 0, none⟩ = some (.slice la m c)) (hl : Rds LI W (.slice la m c) left) (ra : Option Addr) (rn rc : Nat) (sa : Option Addr) (sn sc : Nat) (z : List Int) (hz : Rds LI W (.slice sa sn sc) z) (he : z.length = left.length) :
    Calls Try.prog 33 #[.agg #[.slice ra rn rc, .slice sa sn sc], .pointer (some ⟨q, 0, none⟩)] W fun e w' => e = .returned (.bool (leB z left)) ∧ W.grownBy w' none := by
  have g0 := gb_alloc (World.grownBy.refl W none) (.cells #[.slice ra rn rc, .slice sa sn sc] 43)
  have hne : q ≠ W.heap.size := by omega
  have H := i_atMost _ _ z left _ (hz.kept g0) (hl.kept g0) he
  have c0 := gb_cell g0 hcell (by simp)
  go_enter Try.func33, Try.ntmps33
  go_wp2_with fail
  refine H.mono ?_
  rintro e w1 ⟨rfl, g1⟩
  go_wp2_with fail
  go_ret
  exact ⟨rfl, gb_trans g0 g1⟩
set_option maxHeartbeats 1000000 in
theorem fin2_s (q : Nat) (la : Option Addr) (m c : Nat) (left : List Int) (W : World) (hq : q < W.heap.size) (hcell : W.cell? ⟨q, 0, none⟩ = some (.slice la m c)) (hl : Rds LI W (.slice la m c) left) (ra : Option Addr) (rn rc : Nat) (sa : Option Addr) (sn sc : Nat) (z : List Int) (hz : Rds LI W (.slice sa sn sc) z) (he : z.length = left.length) :
    Calls Try.prog 36 #[.agg #[.slice ra rn rc, .slice sa sn sc], .pointer (some ⟨q, 0, none⟩)] W fun e w' => e = .returned (.bool (leB z left)) ∧ W.grownBy w' none := by
  have g0 := gb_alloc (World.grownBy.refl W none) (.cells #[.slice ra rn rc, .slice sa sn sc] 43)
  have hne : q ≠ W.heap.size := by omega
  have H := i_atMost _ _ z left _ (hz.kept g0) (hl.kept g0) he
  have c0 := gb_cell g0 hcell (by simp)
  go_enter Try.func36, Try.ntmps36
  go_wp2_with fail
  refine H.mono ?_
  rintro e w1 ⟨rfl, g1⟩
  go_wp2_with fail
  go_ret
  exact ⟨rfl, gb_trans g0 g1⟩
end Go.Proofs.Ytpbihjkfbbmdjaa
