/-
  impl.FinishOrder.
-/
import Derived.Test.YtpbihjkfbbmdjaaFinLaw
import Derived.Test.YtpbihjkfbbmdjaaLoc
import Derived.Deep.RegionLaw
import Derived.Lib.SliceRun
namespace Go.Proofs.Ytpbihjkfbbmdjaa
open Go Go.RowKit
set_option maxHeartbeats 1000000 in
theorem index_s (v : Value) (os : List Int) (a : Int) (w : World) (hv : Rds LI w v os) :
    Calls Try.prog 48 #[v, .int .i64 a] w fun e w' => ∃ r : Int, e = .returned (.int .i64 r) ∧ (a ∈ os → 0 ≤ r) ∧ (a ∉ os → r = -1) ∧ w = w' := by
  obtain ⟨ad, n, cap, rfl, h1, hm, HN, HC⟩ := LI_get hv
  have OUT : RowKit.Hid ((∀ (j : Nat) (x : Int), j < n → os[j]? = some x → x ≠ a) → a ∉ os) := by
    intro h ha
    obtain ⟨j, hj, rfl⟩ := List.getElem_of_mem ha
    exact h j _ (by rw [HN.out]; exact hj) (List.getElem?_eq_getElem hj) rfl
  go_enter Try.func48, Try.ntmps48
  go_wp2
  go_loop [5, 8] (fun _ i => ∃ k : Nat, k ≤ n ∧ i = .int .i64 k ∧ RowKit.Hid (∀ (j : Nat) (x : Int), j < k → os[j]? = some x → x ≠ a)) (fun _ i => n - (intOf i).toNat)
  case atStart => exact ⟨0, by omega, rfl, fun j x hj => by omega⟩
  case round =>
    obtain ⟨k, hk, rfl, HE⟩ := hrel
    by_cases hlt : k < n
    rotate_left
    · have he := Lib.hid (OUT.out (fun j x hj hx => HE.out j x (by omega) hx))
      clear HE
      go_wp2
      go_ret
      exact ⟨-1, rfl, fun h => absurd h he.out, fun _ => rfl, rfl⟩
    obtain ⟨b, off, x, rfl, hb, hx, hc⟩ := HC.out k hlt
    by_cases he : a = x
    · subst he
      have hin := Lib.hid (List.mem_of_getElem? hx.out)
      clear HE
      go_wp2
      go_ret
      exact ⟨k, rfl, fun _ => by omega, fun h => absurd hin.out h, rfl⟩
    · have hne : (a == x) = false := by simpa using he
      have HE2 : RowKit.Hid (∀ (j : Nat) (x : Int), j < k + 1 → os[j]? = some x → x ≠ a) := by
        intro j z hj hz
        by_cases hjk : j < k
        · exact HE.out j z hjk hz
        · obtain rfl : j = k := by omega
          rw [hx.out] at hz
          obtain rfl := Option.some.inj hz
          exact fun e => he e.symm
      clear HE
      go_wp2
      go_round
      case rel => exact ⟨k + 1, by omega, by go_num, HE2⟩
      case measure => simp [intOf]; omega
theorem contains_s (v : Value) (os : List Int) (a : Int) (w : World) (hv : Rds LI w v os) :
    Calls Try.prog 35 #[v, .int .i64 a] w fun e w' => e = .returned (.bool (hasB os a)) ∧ w = w' := by
  cases h : hasB os a with
  | true =>
    have hin := Lib.hid (hasB_t.1 h)
    clear h
    go_enter Try.func35, Try.ntmps35
    go_wp2_with (go_at_call 48; refine (index_s _ os a _ hv).mono ?_; rintro e w' ⟨r, rfl, h1, -, rfl⟩; replace h1 := h1 hin.out)
    go_ret
    exact ⟨rfl, rfl⟩
  | false =>
    have hin := Lib.hid (hasB_f.1 h)
    clear h
    go_enter Try.func35, Try.ntmps35
    go_wp2_with (go_at_call 48; refine (index_s _ os a _ hv).mono ?_; rintro e w' ⟨r, rfl, -, h1, rfl⟩; obtain rfl := h1 hin.out)
    go_ret
    exact ⟨rfl, rfl⟩
theorem eqNil (w : World) (a : Option Addr) (n c n' c' : Nat) : (binOp .eql 23 (.slice a n c) (.slice none n' c')).run Try.prog w = .ok (.bool a.isNone) w := Lib.run_eql_slice_nil w _ _ a n c n' c' Try.underlying23
attribute [local go_sem] eqNil
set_option maxHeartbeats 1000000 in
theorem clone_s (v : Value) (os : List Int) (w : World) (hv : Rds LI w v os) (h2 : os.length ≤ 1000) :
    Calls Try.prog 31 #[v] w fun e w' => ∃ r, e = .returned r ∧ St w w' [Own LI r os] := by
  obtain ⟨a, n, cap, rfl, hn, hm, HN, HC⟩ := LI_get hv
  cases a with
  | none =>
    have h0 : n = 0 := by
      by_cases h : 0 < n
      · obtain ⟨b, off, x, h3, -⟩ := HC.out 0 h
        cases h3
      · omega
    have hos : os = [] := List.length_eq_zero_iff.1 (by rw [← HN.out]; exact h0)
    clear HC hv HN
    go_enter Try.func31, Try.ntmps31
    go_wp2
    go_ret
    subst hos
    exact ⟨_, rfl, (St.refl w).ownNil LI⟩
  | some ad =>
    have S : St w (w.alloc (.cells #[] 3)) [Own LI (.slice (some ⟨w.heap.size, 0, none⟩) 0 0) []] := (St.refl w).ownEmpty LI
    have R : Rds LI (w.alloc (.cells #[] 3)) (.slice (some ad) n cap) os := hv.kept (World.grownBy_alloc _ _ _)
    have hl : ([] : List Int).length + os.length ≤ 1099511627776 := by simp; omega
    clear HC hv HN
    go_enter Try.func31, Try.ntmps31
    go_wp2_with (at_builtin; refine wpList_appR LI_info rfl _ _ rfl S os _ R rfl rfl hl ?_; intro v6 w6 S6; rw [List.nil_append] at S6; have SH := Lib.hid S6; clear S6 S R)
    go_ret
    exact ⟨_, rfl, SH.out⟩
theorem DRds.drop {α β : Type} {L : Lay α} {D : Deep α β} {w : World} {ys : List β} {b off n cap : Nat} (h : DRds L D w (.slice (some ⟨b, off, none⟩) n cap) ys) (k : Nat) (hk : k ≤ n) : DRds L D w (.slice (some ⟨b, off + k * L.s, none⟩) (n - k) (cap - k)) (ys.drop k) := by
  obtain ⟨xs, h1, h2, h3⟩ := h
  refine ⟨xs.drop k, h1.drop k hk, by simp [h2], fun j x y hx hy => ?_⟩
  rw [List.getElem?_drop] at hx hy
  exact h3 _ x y hx hy
theorem DRds.empty {α β : Type} {L : Lay α} {D : Deep α β} (w : World) (a : Option Addr) (c : Nat) (hc : c ≤ maxLen) : DRds L D w (.slice a 0 c) ([] : List β) := ⟨[], ⟨a, c, rfl, Nat.zero_le _, hc, Or.inl rfl⟩, rfl, by simp⟩
/-- A cell of a row of numbers of the call's own. -/
theorem LI_cell {w0 w : World} {v : Value} {g : Nat} {os : List Int} {Ls : List Asr} (S : St w0 w (Own LI v os :: Ls)) (hv : v.ownBlock = some g) (k : Nat) (x : Int) (hk : os[k]? = some x) :
    w.cell? ⟨g, k, none⟩ = some (.int .i64 x) ∧ w.frozen? ⟨g, k, none⟩ = false := by
  have hc := St.ownCell S hv k x hk 0 _ rfl
  rw [show LI.s = 1 from rfl, Nat.mul_one, Nat.add_zero] at hc
  exact ⟨hc, St.ownFrozen S hv k⟩
/-- The other assertions behind. -/
theorem ownAd {w0 w : World} {la : Option Addr} {m lc : Nat} {os : List Int} {Ls : List Asr} (S : St w0 w (Own LI (.slice la m lc) os :: Ls)) (h : 0 < m) : ∃ g, la = some ⟨g, 0, none⟩ := by
  obtain ⟨F, ⟨h1, _⟩, _⟩ := S.head
  rcases h1.form with ⟨hv, hx⟩ | ⟨g, cap, cur, hv, _⟩
  · simp only [Value.slice.injEq] at hv; omega
  · simp only [Value.slice.injEq] at hv; exact ⟨g, hv.1⟩
def seekM (n : Nat) (N : Int) : Nat := if N < 0 then 0 else n - N.toNat
theorem seekM_neg {n : Nat} {N : Int} (h : N < 0) : seekM n N = 0 := by rw [seekM, if_pos h]
theorem seekM_pos {n : Nat} {N : Int} (h : 0 ≤ N) : seekM n N = n - N.toNat := by rw [seekM, if_neg (by omega)]
set_option maxHeartbeats 4000000 in
theorem i_FinishOrder (v : Value) (cs : List Clm) (u : Value) (fr : List Int) (w : World) (hv : DRds LClm DClm w v cs) (hu : Rds LI w u fr) :
    Calls Try.prog 15 #[v, u] w fun e w' => ∃ r, e = .returned r ∧ St w w' [Own LI r (finish cs fr)] := by
  have HV := i_ClaimsValid v u cs fr w hv hu
  unfold finish
  cases hB : claimsB cs fr with
  | false =>
    rw [hB] at HV
    clear hB
    go_enter Try.func15, Try.ntmps15
    go_wp2_with fail
    refine HV.mono ?_
    rintro e w1 ⟨rfl, g1⟩
    go_wp2_with fail
    go_ret
    exact ⟨_, rfl, ((St.refl w).grow g1).ownNil LI⟩
  | true =>
    rw [hB] at HV
    obtain ⟨hl1, hl2, -⟩ := claimsB_len hB
    have CA : RowKit.Hid (∀ (k : Nat) (c : Clm), cs[k]? = some c → c.Holds.length = fr.length ∧ c.Needs.length = fr.length) := fun k c hc => ⟨(claimsB_at hB k c hc).1, (claimsB_at hB k c hc).2.1⟩
    clear hB
    simp only [if_true]
    obtain ⟨RES, hR⟩ : ∃ R, R = finGo cs cs.length fr [] := ⟨_, rfl⟩
    rw [← hR]
    have HR := Lib.hid hR
    have hv0 := hv
    obtain ⟨a, n, cap, rfl, h1, hm, HN, HC⟩ := hv.clms
    obtain ⟨M, hM⟩ : ∃ M, M = fr.length := ⟨_, rfl⟩
    have HM := Lib.hid hM
    rw [← hM] at CA hl2
    have hn6 : n ≤ 6 := by rw [HN.out]; exact hl1
    clear hR hM hl1
    go_enter Try.func15, Try.ntmps15
    go_wp2_with fail
    refine HV.mono ?_
    rintro e w1 ⟨rfl, g1⟩
    clear HV
    go_wp2_with fail
    refine (clone_s _ fr w1 (hu.kept g1) (by rw [← HM.out]; omega)).mono ?_
    rintro e w2 ⟨lv, rfl, S2⟩
    have S3 := ((St.refl w).grow g1).call S2
    obtain ⟨la, m', lc, rfl, hm'⟩ := (St.own S2).slice
    obtain rfl : m' = M := by rw [HM.out, hm']
    clear g1 S2 hm' hu
    have S4 := (S3.loc #[.slice la m' lc] 23).ownNil LI
    rw [List.append_nil] at S4
    obtain ⟨H, hH⟩ : ∃ H, H = w2.heap.size := ⟨_, rfl⟩
    have hHw : w.heap.size ≤ H := by rw [hH]; exact S3.gb.size
    go_wp2_with fail
    rw [← hH] at S4 ⊢
    clear hH S3
    have eg1 : ∀ args w, (callFunc 33 args).run Try.prog w = .ok (.enter 33 args) w := enters_of Try.func33 (by kernel_rfl) rfl
    have eg2 : ∀ args w, (callFunc 36 args).run Try.prog w = .ok (.enter 36 args) w := enters_of Try.func36 (by kernel_rfl) rfl
    go_loopw [6, 19] (fun ov i wr => ∃ (k : Nat) (left out : List Int), k ≤ n ∧ i = .int .i64 k ∧ RowKit.Hid (finGo cs (n - k) left out = RES) ∧ RowKit.Hid (left.length = m') ∧ out.length ≤ k ∧ St w wr [Own LI ov out, Loc H 23 #[.slice la m' lc], Own LI (.slice la m' lc) left]) (fun _ i _ => n - (intOf i).toNat)
    case atStart => exact ⟨0, fr, [], by omega, rfl, (show _ = _ by rw [HR.out, HN.out]; rfl), (show _ = _ by rw [HM.out]), by simp, S4⟩
    case round =>
      obtain ⟨k, left, out, hkn, rfl, HF, HL, hol, S⟩ := hrel
      clear S4
      obtain ⟨oa, on, oc, rfl, hoc, hom, HON, -⟩ := LI_own S
      by_cases hlt : k < n
      rotate_left
      · have e : RowKit.Hid (out = RES) := by have := HF.out; rw [show n - k = 0 by omega] at this; exact this
        rw [e.out] at S
        have S5 := S.drop1 (Ms := [_])
        clear S CA HC HF HL
        go_wp2_with fail
        go_ret
        exact ⟨_, rfl, S5⟩
      have hki : (k : Int) < (n : Int) := by omega
      have hgw : w.heap.size ≤ wr.heap.size := S.gb.size
      have P1 : ∀ (cs' : List Clm) (hs : ∀ c, c ∈ cs' → c.Needs.length = m') (W : World) (ra : Option Addr) (rn rc : Nat) (sa : Option Addr) (sn sc : Nat) (y z : List Int), wr.grownBy W none → Rds LI W (.slice ra rn rc) y → Rds LI W (.slice sa sn sc) z → ⟨y, z⟩ ∈ cs' → H < W.heap.size ∧ W.cell? ⟨H, 0, none⟩ = some (.slice la m' lc) ∧ Rds LI W (.slice la m' lc) left ∧ z.length = left.length := by
        intro cs' hs W ra rn rc sa sn sc y z hg hy hz hmem
        have S6 := S.grow hg
        refine ⟨(St.locLt S6.tail).2, St.locCell S6.tail 0 _ rfl, St.own S6.tail.tail, ?_⟩
        have := hs _ hmem
        simp only at this
        rw [this, HL.out]
      have hmem : ∀ c, c ∈ cs → c.Needs.length = m' := by
        intro c hc
        obtain ⟨j, hj, rfl⟩ := List.getElem_of_mem hc
        exact (CA.out j _ (List.getElem?_eq_getElem hj)).2
      have I1 := idxClm_s 33 #[.pointer (some ⟨H, 0, none⟩)] eg1 (fun c => leB c.Needs left) _ cs wr (S.drdsOld hv0) (fun W ra rn rc sa sn sc y z hg hy hz hmm => by
        obtain ⟨q1, q2, q3, q4⟩ := P1 cs hmem W ra rn rc sa sn sc y z hg hy hz hmm
        exact fin1_s H la m' lc left W q1 q2 q3 ra rn rc sa sn sc z hz q4)
      have SK0 := Lib.hid (seek_start cs left out)
      generalize firstI (fun c => leB c.Needs left) cs = N0 at I1 SK0
      have I2 : RowKit.Hid (∀ (vs : Value) (j : Nat) (W : World), DRds LClm DClm W vs (cs.drop j) → wr.grownBy W none → Calls Try.prog 32 #[vs, .func (.func 36) #[] #[.pointer (some ⟨H, 0, none⟩)]] W fun e w' => e = .returned (.int .i64 (firstI (fun c => leB c.Needs left) (cs.drop j))) ∧ W.grownBy w' none) := by
        intro vs j W hvs hg
        refine idxClm_s 36 #[.pointer (some ⟨H, 0, none⟩)] eg2 (fun c => leB c.Needs left) _ (cs.drop j) W hvs (fun W' ra rn rc sa sn sc y z hg' hy hz hmm => ?_)
        obtain ⟨q1, q2, q3, q4⟩ := P1 (cs.drop j) (fun c hc => hmem c (List.mem_of_mem_drop hc)) W' ra rn rc sa sn sc y z (gb_trans hg hg') hy hz hmm
        exact fin2_s H la m' lc left W' q1 q2 q3 ra rn rc sa sn sc z hz q4
      have SH := Lib.hid S
      clear P1 hmem S
      go_wp2_with fail
      refine I1.mono ?_
      rintro e w3 ⟨rfl, g3⟩
      clear I1
      go_wp2_with fail
      obtain ⟨wo, hwo⟩ : ∃ wo : World, wo = wr := ⟨_, rfl⟩
      rw [← hwo] at SH g3 I2 hgw
      clear hwo
      go_loopw [7] (fun nv wr => ∃ N : Int, nv = .int .i64 N ∧ RowKit.Hid (Seek cs left out N) ∧ wo.grownBy wr none) (fun nv _ => seekM n (intOf nv))
      case atStart => exact ⟨N0, rfl, SK0, g3⟩
      case round =>
        obtain ⟨N, rfl, SK, hg⟩ := hrel
        clear g3
        have FM := seek_form SK.out
        rw [← HN.out] at FM
        have S := SH.out.grow hg
        rcases FM with rfl | ⟨K, rfl, hKn⟩
        · have e : RowKit.Hid (out = RES) := by
            show _ = _
            rw [← HF.out, finGo_stop (seek_miss SK.out (by omega))]
          rw [e.out] at S
          have S5 := S.drop1 (Ms := [_])
          clear S CA HC HF HL SH I2 SK SK0
          go_wp2_with fail
          go_ret
          exact ⟨_, rfl, S5⟩
        have hK0 : (0 : Int) ≤ (K : Int) := by omega
        have hKi : (K : Int) < (n : Int) := by omega
        have CT := contains_s _ out (K : Int) wr (St.own S)
        obtain ⟨b, off, ra, rn, rc, sa, sn, sc, y, z, rfl, hb, hy, hrn, hrc, hsn, hsc, hrd, hsd, c0, c1⟩ := HC.out K hKn
        cases hq : hasB out (K : Int) with
        | true =>
          rw [hq] at CT
          have NX := seek_next SK.out hq
          have DR : (cap = K + 1 → DRds LClm DClm wr (.slice (some ⟨b, off, none⟩) 0 0) (cs.drop (K + 1))) ∧ DRds LClm DClm wr (.slice (some ⟨b, off + (K + 1) * 2, none⟩) (n - (K + 1)) (cap - (K + 1))) (cs.drop (K + 1)) := by
            refine ⟨fun h => ?_, DRds.drop (S.drdsOld hv0) (K + 1) (by omega)⟩
            have h2 : cs.drop (K + 1) = [] := List.drop_eq_nil_iff.2 (by rw [← HN.out]; omega)
            rw [h2]
            exact DRds.empty wr _ 0 (by decide)
          obtain ⟨DR1, DR2⟩ := DR
          have I3 := I2.out _ (K + 1) wr DR2 hg
          have I4 := fun h => I2.out _ (K + 1) wr (DR1 h) hg
          generalize firstI (fun c => leB c.Needs left) (cs.drop (K + 1)) = r at NX I3 I4
          clear DR1 DR2
          obtain ⟨NX1, NX2⟩ := NX
          have NX1 := Lib.hid NX1
          have NX2 := Lib.hid NX2
          have hKm : (K : Int) + 1 ≤ (n : Int) := by omega
          have hK2 : (0 : Int) ≤ (K : Int) + 1 := by omega
          clear SK0 SK HC HF hrd hsd c0 c1 hy hrn hsn
          by_cases hcp : cap = K + 1
          · have I5 := I4 hcp
            have hcq : K + 1 = cap := hcp.symm
            clear I3 I4 hcp
            go_wp2_with fail
            refine CT.mono ?_
            rintro e w4 ⟨rfl, rfl⟩
            go_wp2_with fail
            refine I5.mono ?_
            rintro e w5 ⟨rfl, g5⟩
            have G5 := gb_trans hg g5
            clear g5 CT I5
            by_cases hr : r < 0
            · have SK1 := Lib.hid (NX1.out hr)
              go_wp2_with fail
              go_roundw
              case rel => exact ⟨-1, rfl, SK1, G5⟩
              case measure => (show seekM n (-1) < seekM n (K : Int)); rw [seekM_neg (by omega), seekM_pos (by omega)]; omega
            · have SK1 := Lib.hid (NX2.out (by omega))
              have FM1 := seek_form SK1.out
              rw [← HN.out] at FM1
              have hr2 : 0 ≤ (K : Int) + 1 + r ∧ (K : Int) + 1 + r < (n : Int) := by rcases FM1 with h | ⟨k2, h, hk2⟩ <;> omega
              obtain ⟨hr3, hr2⟩ := hr2
              exfalso; omega
          clear I4
          go_wp2_with fail
          refine CT.mono ?_
          rintro e w4 ⟨rfl, rfl⟩
          go_wp2_with fail
          refine I3.mono ?_
          rintro e w5 ⟨rfl, g5⟩
          have G5 := gb_trans hg g5
          clear g5 CT I3
          by_cases hr : r < 0
          · have SK1 := Lib.hid (NX1.out hr)
            go_wp2_with fail
            go_roundw
            case rel => exact ⟨-1, rfl, SK1, G5⟩
            case measure => (show seekM n (-1) < seekM n (K : Int)); rw [seekM_neg (by omega), seekM_pos (by omega)]; omega
          · have SK1 := Lib.hid (NX2.out (by omega))
            have FM1 := seek_form SK1.out
            rw [← HN.out] at FM1
            have hr2 : 0 ≤ (K : Int) + 1 + r ∧ (K : Int) + 1 + r < (n : Int) := by rcases FM1 with h | ⟨k2, h, hk2⟩ <;> omega
            obtain ⟨hr3, hr2⟩ := hr2
            clear FM1
            go_wp2_with fail
            go_roundw
            case rel => exact ⟨(K : Int) + 1 + r, by go_num, SK1, G5⟩
            case measure => (show seekM n ((K : Int) + 1 + r) < seekM n (K : Int)); rw [seekM_pos (by omega), seekM_pos (by omega)]; omega
        | false =>
          rw [hq] at CT
          have hnx := seek_hit SK.out hq
          have HF2 : RowKit.Hid (finGo cs (n - (k + 1)) (addL left y) (out ++ [(K : Int)]) = RES) := by
            have := HF.out
            rw [show n - k = (n - (k + 1)) + 1 by omega, finGo_step hnx, holdsAt_at hy.out] at this
            exact this
          have hym := (CA.out K _ hy.out).1
          simp only at hym
          obtain rfl : rn = m' := by rw [hrn.out]; exact hym
          have hnl : out.length ≤ 1000000000 := by omega
          have HRD := Lib.hid hrd
          clear SK0 SK HF hrd hsd c1 hy hsn HC I2 SH
          go_wp2_with fail
          refine CT.mono ?_
          rintro e w4 ⟨rfl, rfl⟩
          clear CT hq
          have c0' := gb_cell S.gb c0 (by simp)
          go_wp2_with (at_builtin; refine wpList_app1 LI_info rfl _ _ rfl S (K : Int) #[.int .i64 K] rfl rfl (by simp [Act.eval]) hnl ?_; intro v' w5 S5; clear S; have c0'' := gb_cell S5.gb c0 (by simp); clear c0')
          have S6 := S5.rot
          clear S5
          rw [← partL_zero left (fun j => addW (left.getD j 0) (y.getD j 0)), HL.out] at S6
          go_loopw [55] (fun i wr => ∃ j : Nat, j ≤ rn ∧ i = .int .i64 j ∧ St w wr [Own LI (.slice la rn lc) (partL (fun j => left.getD j 0) (fun j => addW (left.getD j 0) (y.getD j 0)) rn j), Own LI v' (out ++ [(K : Int)]), Loc H 23 #[.slice la rn lc]]) (fun i _ => rn - (intOf i).toNat)
          case atStart => exact ⟨0, by omega, rfl, S6⟩
          case round =>
            obtain ⟨j, hjn, rfl, S7⟩ := hrel
            clear S6
            by_cases hlt3 : j < rn
            rotate_left
            · obtain rfl : j = rn := by omega
              have e : partL (fun j => left.getD j 0) (fun j => addW (left.getD j 0) (y.getD j 0)) j j = addL left y := by rw [partL_full, addL, HL.out]
              rw [e] at S7
              have S8 := S7.rot.rot
              have HL2 : RowKit.Hid ((addL left y).length = j) := by show _ = _; rw [addL_len, HL.out]
              clear S7 e
              go_wp2_with fail
              go_roundw
              case rel => exact ⟨k + 1, addL left y, out ++ [(K : Int)], by omega, by go_num, HF2, HL2, by simp; omega, S8⟩
              case measure => simp [intOf]; omega
            obtain ⟨lg, rfl⟩ := ownAd S7 (by omega)
            obtain ⟨d0, f0⟩ := LI_cell S7 (g := lg) rfl j _ (partL_at _ _ rn j hlt3)
            have S8 := LI_set S7 (g := lg) rfl j (addW (left.getD j 0) (y.getD j 0)) (by rw [partL_len]; exact hlt3)
            rw [partL_set _ _ _ _ hlt3] at S8
            rw [show addW (left.getD j 0) (y.getD j 0) = wrap64 (left.getD j 0 + y.getD j 0) from rfl] at S8
            obtain ⟨ya, yn, yc, hyv, -, -, HYN, HYC⟩ := LI_get (HRD.out.kept S7.gb)
            simp only [Value.slice.injEq] at hyv
            obtain ⟨rfl, rfl, rfl⟩ := hyv
            obtain ⟨b2, off2, yj, rfl, hb2, hyj, hyc⟩ := HYC.out j hlt3
            have e2 : y.getD j 0 = yj := by rw [List.getD_eq_getElem?_getD, hyj.out]; rfl
            generalize hgg : partL (fun j => left.getD j 0) (fun j => addW (left.getD j 0) (y.getD j 0)) rn (j + 1) = PL at S8
            rw [e2] at S8
            have l0 := St.locCell S7.rot 0 _ rfl
            generalize left.getD j 0 = lj at d0 S8
            rw [← hgg] at S8
            clear hgg
            have hji : (j : Int) < (rn : Int) := by omega
            have hj0 : (0 : Int) ≤ (j : Int) := by omega
            have SH8 := Lib.hid S8
            clear HYC HYN e2 S7 S8 hyj HF2
            go_wp2_with fail
            go_roundw
            case rel => exact ⟨j + 1, by omega, by go_num, SH8.out⟩
            case measure => simp [intOf]; omega
end Go.Proofs.Ytpbihjkfbbmdjaa
