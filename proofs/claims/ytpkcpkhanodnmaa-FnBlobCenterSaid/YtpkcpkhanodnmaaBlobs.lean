/-
  FindBlobs: both programs give the same sets.
-/
import Derived.Test.YtpkcpkhanodnmaaBlobLaw
import Derived.Test.YtpkcpkhanodnmaaLabel
import Derived.BigRegion
namespace Go.Proofs.Ytpkcpkhanodnmaa
open Go Go.RowKit
theorem rds_int_at {w : World} {ra : Option Addr} {rn rc : Nat} {y : List Int} (h : Rds LI w (.slice ra rn rc) y) : RowKit.Hid (rn = y.length) ∧
    RowKit.Hid (∀ k, k < rn → ∃ (b off : Nat) (x : Int), ra = some ⟨b, off, none⟩ ∧ b < w.heap.size ∧ RowKit.Hid (y[k]? = some x) ∧ w.cell? ⟨b, off + k, none⟩ = some (.int .i64 x)) := by
  obtain ⟨a', n', c', hv, _, _, HN, HC⟩ := LI_get h
  simp only [Value.slice.injEq] at hv
  obtain ⟨rfl, rfl, rfl⟩ := hv
  exact ⟨HN, HC⟩
theorem bstep_new {st : List Blb} {K x y : Nat} (h : K = st.length) : bstep st ((K : Int) + 1) x y = (st ++ [newB x y]).set K (addB ((st ++ [newB x y]).getD K default) x y) := by
  unfold bstep grow
  rw [if_neg (by omega), if_pos (by omega), show ((K : Int) + 1).toNat - 1 = K by omega]
theorem bstep_old {st : List Blb} {K x y : Nat} (h : K < st.length) : bstep st ((K : Int) + 1) x y = st.set K (addB (st.getD K default) x y) := by
  unfold bstep grow
  rw [if_neg (by omega), if_neg (by omega), show ((K : Int) + 1).toNat - 1 = K by omega]
theorem mn_if (a b : Int) : (if b < a then b else a) = min a b := by split <;> omega
theorem mx_if (a b : Int) : (if a < b then b else a) = max a b := by split <;> omega
theorem run_min_int2 {P : Program} (w : World) (ts : Array TypeId) (t : TypeId) (x y : Int) : (Builtin.min_ ts t #[.int .i64 x, .int .i64 y]).run P w = .ok (.int .i64 (min x y)) w := by
  simp [Builtin.min_, Builtin.min2, mn_if]
theorem run_max_int2 {P : Program} (w : World) (ts : Array TypeId) (t : TypeId) (x y : Int) : (Builtin.max_ ts t #[.int .i64 x, .int .i64 y]).run P w = .ok (.int .i64 (max x y)) w := by
  simp [Builtin.max_, Builtin.max2, mx_if]
attribute [local go_sem ↓] run_min_int2 run_max_int2
/-- Row y of the numbers. -/
theorem lab_row {ys : List (List Bool)} (h : imgB ys = true) {k : Nat} {r : List Int} (hr : (labels ys)[k]? = some r) : k < ys.length ∧ r.length = (ys.headD []).length := by
  rw [labels_yes h] at hr
  have hd := labY_dims ys ys.length
  have hk := (List.getElem?_eq_some_iff.1 hr).1
  rw [hd.1] at hk
  refine ⟨hk, ?_⟩
  rw [hd.2 k _ r (List.getElem?_eq_getElem hk) hr]
  exact imgOk_row (imgB_t.1 h) (List.getElem?_eq_getElem hk)
set_option maxRecDepth 100000 in
set_option maxHeartbeats 8000000 in
theorem i_FindBlobs (v : Value) (ys : List (List Bool)) (w : World) (hv : DRds LSB DB w v ys) :
    Calls Try.prog 31 #[v] w fun e w' => ∃ r, e = .returned r ∧ St w w' [Own LBlb r (blobs ys)] := by
  obtain ⟨R, hR⟩ : ∃ R, blobs ys = R := ⟨_, rfl⟩
  rw [hR]
  have HRR := Lib.hid hR
  clear hR
  go_enter Try.func31, Try.ntmps31
  go_wp2_with fail
  refine (i_LabelImage v ys w hv).mono ?_
  rintro e w1 ⟨lv, rfl, S⟩
  obtain ⟨la, n, lc, rfl, hlc, hlm, HN, HC⟩ := (St.drds S).rows
  have SJ : RowKit.Hid (∀ w' r X, St w1 w' [Own LBlb r X] → St w w' [Own LBlb r X]) := fun w' r X T => St.drop1 (Ms := [_]) (S.call T)
  cases hB : imgB ys with
  | false =>
    obtain rfl : n = 0 := by rw [HN.out, labels_no hB]; rfl
    have hR0 : R = [] := by rw [← HRR.out, blobs_no hB]
    subst hR0
    have S0 := Lib.hid (SJ.out _ _ _ ((St.refl w1).ownNil LBlb))
    clear HN HC hB
    go_wp2
    go_loop [3, 12] (fun o i => i = .int .i64 0 ∧ o = .slice none 0 0) (fun _ _ => 0)
    case atStart => exact ⟨rfl, rfl⟩
    case round =>
      obtain ⟨rfl, rfl⟩ := hrel
      go_wp2
      go_ret
      exact ⟨_, rfl, S0.out⟩
  | true =>
    have hok := Lib.hid (imgB_t.1 hB)
    have HRY : RowKit.Hid (blobY ys (labels ys) ys.length = R) := by show _ = _; rw [← HRR.out, blobs_yes hB]
    have HB := Lib.hid hB
    have hn : RowKit.Hid (n = ys.length) := by show _ = _; rw [HN.out, labels_yes hB]; exact (labY_dims ys ys.length).1
    have hn16 : n ≤ 16 := by have := hn.out; have := (imgOk_dims hok.out).1; omega
    obtain ⟨W, hW⟩ : ∃ W, W = (ys.headD []).length := ⟨_, rfl⟩
    have HW := Lib.hid hW
    have hW16 : W ≤ 16 := by have := (imgOk_dims hok.out).2; omega
    have S0 := (St.refl w1).ownNil LBlb
    clear hW hB S
    go_wp2
    go_loopw [3, 4, 5, 6, 7, 8, 12] (fun o _ _ _ _ _ i wr => ∃ y : Nat, y ≤ n ∧ i = .int .i64 y ∧ St w1 wr [Own LBlb o (blobY ys (labels ys) y)]) (fun _ _ _ _ _ _ i _ => n - (intOf i).toNat)
    case atStart => exact ⟨0, by omega, rfl, S0⟩
    case round =>
      obtain ⟨y, hy, rfl, S⟩ := hrel
      clear S0
      by_cases hlt : y < n
      rotate_left
      · obtain rfl : y = n := by omega
        have S2 := SJ.out _ _ _ S
        have e : RowKit.Hid (blobY ys (labels ys) y = R) := by show _ = _; rw [hn.out, HRY.out]
        rw [e.out] at S2
        clear e S
        go_wp2
        go_ret
        exact ⟨_, rfl, S2⟩
      obtain ⟨b, off, ra, rn, rc, r, rfl, hb, hyr, hrn, hrc, hrm, hrd, hc⟩ := HC.out y hlt
      have hrW : RowKit.Hid (rn = W) := by show rn = W; rw [hrn.out, HW.out]; exact (lab_row HB.out hyr.out).2
      have hr16 : rn ≤ 16 := by have := hrW.out; omega
      have hc' := gb_cell S.gb hc (by simp)
      obtain ⟨-, HR⟩ := rds_int_at hrd
      clear hc hrd
      go_wp2
      obtain ⟨wo, rfl⟩ : ∃ wo : World, wo = wr := ⟨_, rfl⟩
      go_loopw [3, 6, 7, 8, 19] (fun o _ _ _ i wr => ∃ x : Nat, x ≤ rn ∧ i = .int .i64 x ∧ St w1 wr [Own LBlb o (blobX (labels ys) y (blobY ys (labels ys) y) x)]) (fun _ _ _ _ i _ => rn - (intOf i).toNat)
      case atStart => exact ⟨0, by omega, rfl, S⟩
      case round =>
        clear S hc'
        obtain ⟨x, hx, rfl, S⟩ := hrel
        by_cases hlt2 : x < rn
        rotate_left
        · obtain rfl : x = rn := by omega
          have e : RowKit.Hid (blobX (labels ys) y (blobY ys (labels ys) y) x = blobY ys (labels ys) (y + 1)) := by show _ = _; rw [hrW.out, HW.out]; rfl
          rw [e.out] at S
          clear e
          go_wp2
          go_roundw
          case rel => exact ⟨y + 1, by omega, by go_num, S⟩
          case measure => (simp [intOf]; try omega)
        obtain ⟨b2, off2, N, rfl, hb2, hz, c2⟩ := HR.out x hlt2
        have hN := gr_at hyr.out hz.out
        have hxW : x < (ys.headD []).length := by rw [← HW.out, ← hrW.out]; exact hlt2
        have hyn : y < ys.length := by rw [← hn.out]; exact hlt
        obtain ⟨nb1, nb2⟩ := blob_num HB.out hyn hxW
        rw [hN] at nb1 nb2
        have c2' := gb_cell S.gb c2 (by simp)
        have HNN := Lib.hid hN
        obtain ⟨st, hst⟩ : ∃ st, st = blobX (labels ys) y (blobY ys (labels ys) y) x := ⟨_, rfl⟩
        rw [← hst] at S nb2
        have NXT : RowKit.Hid (blobX (labels ys) y (blobY ys (labels ys) y) (x + 1) = bstep st N x y) := by show bstep (blobX _ _ _ x) (gr _ x y) x y = _; rw [← hst, hN]
        have BD : RowKit.Hid (∀ b ∈ st, BBd (y * 16 + x) b) := by
          show ∀ b ∈ st, _
          rw [hst]
          exact blobX_bd (by omega) (blobY_bd hok.out y (by omega)) x (by omega)
        have hstl : st.length ≤ 1000 := by
          rw [hst, blobX_num HB.out hyn (blobY_num HB.out y (by omega)) x (by omega)]
          have h1 := labX_num ys y (labY ys y) x
          have h2 := labY_num hok.out y
          omega
        clear c2 hz hN hxW hyn hst
        by_cases hN0 : N = 0
        · subst hN0
          have S2 : RowKit.Hid (St w1 wr [Own LBlb u3 (blobX (labels ys) y (blobY ys (labels ys) y) (x + 1))]) := by rw [NXT.out, bstep_zero]; exact S
          clear S NXT
          go_wp2
          go_roundw
          case rel => exact ⟨x + 1, by omega, by go_num, S2.out⟩
          case measure => (simp [intOf]; try omega)
        obtain ⟨K, rfl⟩ : ∃ K : Nat, N = (K : Int) + 1 := ⟨(N - 1).toNat, by omega⟩
        have hKD : K ≤ st.length := by omega
        by_cases hKl : K = st.length
        · have hgt : (st.length : Int) < (K : Int) + 1 := by omega
          obtain ⟨pa, pn, pc, rfl, hpc, hpm, HPN, -⟩ := LBlb_own S
          have hpn : (pn : Int) < (K : Int) + 1 := by have := HPN.out; omega
          obtain ⟨ST, hST⟩ : ∃ ST, ST = st ++ [newB x y] := ⟨_, rfl⟩
          have HK : RowKit.Hid (K < ST.length) := by show K < ST.length; rw [hST]; simp; omega
          have ELT : RowKit.Hid (blobX (labels ys) y (blobY ys (labels ys) y) (x + 1) = ST.set K (addB (ST.getD K default) x y)) := by show _ = _; rw [NXT.out, hST, bstep_new hKl]
          have BD5 : RowKit.Hid (∀ b ∈ ST, BBd (y * 16 + x) b) := by
            show ∀ b ∈ ST, _
            rw [hST]
            intro b hb
            rcases List.mem_append.1 hb with hb | hb
            · exact BD.out b hb
            · rw [List.mem_singleton.1 hb]
              unfold BBd newB
              simp
              omega
          have hsl : st.length ≤ 1000000000 := by omega
          have HST := Lib.hid hST
          clear hST NXT BD hgt HPN nb2 hKD hKl
          go_wp2_with (at_builtin; refine wpList_app1 LBlb_info rfl _ _ rfl S (newB x y) #[.int .i64 0, .int .i64 0, .int .i64 0, .int .i64 x, .int .i64 x, .int .i64 y, .int .i64 y] rfl rfl rfl hsl ?_; intro v5 w5 S5; rw [← HST.out] at S5; clear S; obtain ⟨oa, on, oc, rfl, hoc, hom, HON, HOC⟩ := LBlb_own S5; have hKon : K < on := (by rw [HON.out]; exact HK.out); obtain ⟨g, q, rfl, hg1, hg2, hq, hds, hf⟩ := HOC.out K hKon; have hbq := BD5.out q (List.mem_of_getElem? hq.out); have hgd : ST.getD K default = q := (by rw [List.getD_eq_getElem?_getD, hq.out]; rfl); rw [hgd] at ELT; obtain ⟨q0, q1, q2, q3, q4, q5, q6⟩ := q; obtain ⟨⟨bs0, bs1⟩, ⟨bx0, bx1⟩, by0, by1⟩ := hbq; dsimp only at hds bs0 bs1 bx0 bx1 by0 by1; obtain ⟨d0, d1, d2, d3, d4, d5, d6⟩ := hds; have hKi : (K : Int) < on := (by omega); have SE := LBlb_setAll S5 (g := g) rfl K ⟨q0 + 1, q1 + x, q2 + y, min q3 x, max q4 x, min q5 y, max q6 y⟩ HK.out; dsimp only at SE; rw [show ST.set K (⟨q0 + 1, q1 + x, q2 + y, min q3 x, max q4 x, min q5 y, max q6 y⟩ : Blb) = blobX (labels ys) y (blobY ys (labels ys) y) (x + 1) from ELT.out.symm] at SE; have SE2 := Lib.hid SE; clear hgd hq HOC SE S5 HON)
          go_region
          go_wp2
          go_region
          go_wp2
          go_roundw
          case rel => exact ⟨x + 1, by omega, by go_num, SE2.out.drew.drew⟩
          case measure => (simp [intOf]; try omega)
        · obtain ⟨ST, hST⟩ : ∃ ST, ST = st := ⟨_, rfl⟩
          have HK : RowKit.Hid (K < ST.length) := by show K < ST.length; rw [hST]; omega
          have ELT : RowKit.Hid (blobX (labels ys) y (blobY ys (labels ys) y) (x + 1) = ST.set K (addB (ST.getD K default) x y)) := by show _ = _; rw [NXT.out, hST, bstep_old (by omega)]
          have BD5 : RowKit.Hid (∀ b ∈ ST, BBd (y * 16 + x) b) := by show ∀ b ∈ ST, _; rw [hST]; exact BD.out
          have S5 : St w1 wr [Own LBlb u3 ST] := by rw [hST]; exact S
          clear hST NXT BD S nb2 hKD hKl
          obtain ⟨oa, on, oc, rfl, hoc, hom, HON, HOC⟩ := LBlb_own S5
          have hKon : K < on := by rw [HON.out]; exact HK.out
          obtain ⟨g, q, rfl, hg1, hg2, hq, hds, hf⟩ := HOC.out K hKon
          have hbq := BD5.out q (List.mem_of_getElem? hq.out)
          have hgd : ST.getD K default = q := by rw [List.getD_eq_getElem?_getD, hq.out]; rfl
          rw [hgd] at ELT
          obtain ⟨q0, q1, q2, q3, q4, q5, q6⟩ := q
          obtain ⟨⟨bs0, bs1⟩, ⟨bx0, bx1⟩, by0, by1⟩ := hbq
          dsimp only at hds bs0 bs1 bx0 bx1 by0 by1
          obtain ⟨d0, d1, d2, d3, d4, d5, d6⟩ := hds
          have hKi : (K : Int) < on := by omega
          have SE := LBlb_setAll S5 (g := g) rfl K ⟨q0 + 1, q1 + x, q2 + y, min q3 x, max q4 x, min q5 y, max q6 y⟩ HK.out
          dsimp only at SE
          rw [show ST.set K (⟨q0 + 1, q1 + x, q2 + y, min q3 x, max q4 x, min q5 y, max q6 y⟩ : Blb) = blobX (labels ys) y (blobY ys (labels ys) y) (x + 1) from ELT.out.symm] at SE
          have SE2 := Lib.hid SE
          clear hgd hq HOC SE S5 HON
          go_wp2
          go_region
          go_wp2
          go_region
          go_wp2
          go_roundw
          case rel => exact ⟨x + 1, by omega, by go_num, SE2.out.drew.drew⟩
          case measure => (simp [intOf]; try omega)
end Go.Proofs.Ytpkcpkhanodnmaa
