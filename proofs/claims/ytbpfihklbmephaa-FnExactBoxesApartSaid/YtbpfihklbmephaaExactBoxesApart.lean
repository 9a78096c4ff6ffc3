/-
  FnExactBoxesApart: for every two boxes the program's BoxesApart and the reference's return the same; nothing that was there is written. No condition.
-/
import Derived.Test.YtbpfihklbmephaaBox
import Derived.Test.YtbpfihklbmephaaDrawn
import Derived.Test.YtbpfihklbmephaaRows
import Derived.ProofKit
import Derived.OpenShut
import Derived.ShutString
import Derived.ChangeOld
import Derived.Lib.SmallJoins
namespace Go.Proofs.Ytbpfihklbmephaa
open Go Go.RowKit
set_option linter.unusedVariables false
set_option maxHeartbeats 4000000 in
theorem law_FnExactBoxesApart (a b : Bx) (w : World) :
    Calls Try.prog 3 #[a.v, b.v] w fun e w' => e = .returned (.bool true) ∧ Below w.heap.size w w' := by
  have H1 := Lib.hid (s_BoxesApart a b)
  have H2 := Lib.hid (i_BoxesApart a b)
  have H3 := Lib.hid (toBox_any a)
  have H4 := Lib.hid (toBox_any b)
  obtain ⟨x, y, bw, d⟩ := a
  obtain ⟨x', y', bw', d'⟩ := b
  simp only [Bx.v] at *
  generalize apartB ⟨x, y, bw, d⟩ ⟨x', y', bw', d'⟩ = v at H1 H2
  go_enter Try.func3, Try.ntmps3
  go_wp2_with fail
  refine wp_drawn_put (shs (none) [shVal _ ((.agg #[.int .i64 x, .int .i64 y, .int .i64 bw, .int .i64 d])), shVal _ ((.agg #[.int .i64 x, .int .i64 y, .int .i64 bw, .int .i64 d])), shVal _ ((.agg #[.int .i64 x', .int .i64 y', .int .i64 bw', .int .i64 d'])), shVal _ ((.agg #[.int .i64 x', .int .i64 y', .int .i64 bw', .int .i64 d'])), shVal _ (.bool v), shVal _ (.bool v)])
    (fun k w' => ((w.alloc (.cells #[.int .i64 x, .int .i64 y, .int .i64 bw, .int .i64 d] 23)).alloc (.cells #[.int .i64 x', .int .i64 y', .int .i64 bw', .int .i64 d'] 23)).grownBy w' none) (none) (by kernel_rfl) (by kernel_rfl) (shs_st _ _) (gb_drew (World.grownBy.refl _ _)) ?_ ?_
  · refine step_plain rfl (fun k a w' hk hJ hd hs K hK => ?_) ?_
    · have e2 : a.tmps[2]?.getD undef = .pointer (some ⟨w.heap.size, 0, none⟩) := hs.at 2 (by kernel_rfl)
      clear hd hs
      have hkk : k < 6 := hk
      clear hk
      have d0 := gb_cell hJ (b := w.heap.size) (o := 0) (v := .int .i64 x) (by simp [go_sem]) (by simp)
      have d1 := gb_cell hJ (b := w.heap.size) (o := 1) (v := .int .i64 y) (by simp [go_sem]) (by simp)
      have d2 := gb_cell hJ (b := w.heap.size) (o := 2) (v := .int .i64 bw) (by simp [go_sem]) (by simp)
      have d3 := gb_cell hJ (b := w.heap.size) (o := 3) (v := .int .i64 d) (by simp [go_sem]) (by simp)
      have HJ := Lib.hid hJ; clear hJ
      go_simp
      exact hK.out _ _ rfl HJ.out (World.grownBy.refl _ _)
    refine step_plain rfl (fun k a w' hk hJ hd hs K hK => ?_) ?_
    · have e7 : a.tmps[7]?.getD undef = (.agg #[.int .i64 x, .int .i64 y, .int .i64 bw, .int .i64 d]) := hs.get 0 7 (by kernel_rfl) (by kernel_rfl)
      clear hd hs
      have hkk : k < 6 := hk
      clear hk
      have HJ := Lib.hid hJ; clear hJ
      go_simp
      refine (H3.out _).mono ?_
      rintro e w2 ⟨rfl, g⟩
      exact hK.out _ _ rfl (gb_trans HJ.out g) g
    refine step_plain rfl (fun k a w' hk hJ hd hs K hK => ?_) ?_
    · have e3 : a.tmps[3]?.getD undef = .pointer (some ⟨w.heap.size + 1, 0, none⟩) := hs.at 3 (by kernel_rfl)
      clear hd hs
      have hkk : k < 6 := hk
      clear hk
      have d0 := gb_cell hJ (b := w.heap.size + 1) (o := 0) (v := .int .i64 x') (by simp [go_sem]) (by simp)
      have d1 := gb_cell hJ (b := w.heap.size + 1) (o := 1) (v := .int .i64 y') (by simp [go_sem]) (by simp)
      have d2 := gb_cell hJ (b := w.heap.size + 1) (o := 2) (v := .int .i64 bw') (by simp [go_sem]) (by simp)
      have d3 := gb_cell hJ (b := w.heap.size + 1) (o := 3) (v := .int .i64 d') (by simp [go_sem]) (by simp)
      have HJ := Lib.hid hJ; clear hJ
      go_simp
      exact hK.out _ _ rfl HJ.out (World.grownBy.refl _ _)
    refine step_plain rfl (fun k a w' hk hJ hd hs K hK => ?_) ?_
    · have e9 : a.tmps[9]?.getD undef = (.agg #[.int .i64 x', .int .i64 y', .int .i64 bw', .int .i64 d']) := hs.get 2 9 (by kernel_rfl) (by kernel_rfl)
      clear hd hs
      have hkk : k < 6 := hk
      clear hk
      have HJ := Lib.hid hJ; clear hJ
      go_simp
      refine (H4.out _).mono ?_
      rintro e w2 ⟨rfl, g⟩
      exact hK.out _ _ rfl (gb_trans HJ.out g) g
    refine step_plain rfl (fun k a w' hk hJ hd hs K hK => ?_) ?_
    · have e8 : a.tmps[8]?.getD undef = (.agg #[.int .i64 x, .int .i64 y, .int .i64 bw, .int .i64 d]) := hs.get 1 8 (by kernel_rfl) (by kernel_rfl)
      have e10 : a.tmps[10]?.getD undef = (.agg #[.int .i64 x', .int .i64 y', .int .i64 bw', .int .i64 d']) := hs.get 3 10 (by kernel_rfl) (by kernel_rfl)
      clear hd hs
      have hkk : k < 6 := hk
      clear hk
      have HJ := Lib.hid hJ; clear hJ
      go_simp
      refine (H1.out _).mono ?_
      rintro e w2 ⟨rfl, g⟩
      exact hK.out _ _ rfl (gb_trans HJ.out g) g
    refine step_plain rfl (fun k a w' hk hJ hd hs K hK => ?_) ?_
    · have e11 : a.tmps[11]?.getD undef = .bool v := hs.get 4 11 (by kernel_rfl) (by kernel_rfl)
      clear hd hs
      have hkk : k < 6 := hk
      clear hk
      have HJ := Lib.hid hJ; clear hJ
      go_simp
      try simp (disch := omega) only [IntWalk.i64_in]
      exact hK.out _ _ rfl HJ.out (World.grownBy.refl _ _)
    exact step_nil
  · intro vs w1 hJ1 hA
    have f5 : vs 5 = .bool v := hA 5 (by decide)
    clear hA
    simp only [putAll, Act.put, List.setIfInBounds_toArray, List.set_cons_zero, List.set_cons_succ, f5]
    clear f5
    go_wp2_with fail
    refine wp_drawn_put (shs (none) [shVal _ ((.agg #[.int .i64 x, .int .i64 y, .int .i64 bw, .int .i64 d])), shVal _ ((.agg #[.int .i64 x, .int .i64 y, .int .i64 bw, .int .i64 d])), shVal _ ((.agg #[.int .i64 x', .int .i64 y', .int .i64 bw', .int .i64 d'])), shVal _ ((.agg #[.int .i64 x', .int .i64 y', .int .i64 bw', .int .i64 d'])), shVal _ (.bool v), shVal _ (.bool v)])
      (fun k w' => w1.grownBy w' none) (none) (by kernel_rfl) (by kernel_rfl) (shs_st _ _) (gb_drew (World.grownBy.refl _ _)) ?_ ?_
    · refine step_plain rfl (fun k a w' hk hJ hd hs K hK => ?_) ?_
      · have e2 : a.tmps[2]?.getD undef = .pointer (some ⟨w.heap.size, 0, none⟩) := hs.at 2 (by kernel_rfl)
        clear hd hs
        have hkk : k < 6 := hk
        clear hk
        have d0 := gb_cell (gb_trans hJ1 hJ) (b := w.heap.size) (o := 0) (v := .int .i64 x) (by simp [go_sem]) (by simp)
        have d1 := gb_cell (gb_trans hJ1 hJ) (b := w.heap.size) (o := 1) (v := .int .i64 y) (by simp [go_sem]) (by simp)
        have d2 := gb_cell (gb_trans hJ1 hJ) (b := w.heap.size) (o := 2) (v := .int .i64 bw) (by simp [go_sem]) (by simp)
        have d3 := gb_cell (gb_trans hJ1 hJ) (b := w.heap.size) (o := 3) (v := .int .i64 d) (by simp [go_sem]) (by simp)
        have HJ := Lib.hid hJ; clear hJ
        go_simp
        exact hK.out _ _ rfl HJ.out (World.grownBy.refl _ _)
      refine step_plain rfl (fun k a w' hk hJ hd hs K hK => ?_) ?_
      · have e12 : a.tmps[12]?.getD undef = (.agg #[.int .i64 x, .int .i64 y, .int .i64 bw, .int .i64 d]) := hs.get 0 12 (by kernel_rfl) (by kernel_rfl)
        clear hd hs
        have hkk : k < 6 := hk
        clear hk
        have HJ := Lib.hid hJ; clear hJ
        go_simp
        refine (H3.out _).mono ?_
        rintro e w2 ⟨rfl, g⟩
        exact hK.out _ _ rfl (gb_trans HJ.out g) g
      refine step_plain rfl (fun k a w' hk hJ hd hs K hK => ?_) ?_
      · have e3 : a.tmps[3]?.getD undef = .pointer (some ⟨w.heap.size + 1, 0, none⟩) := hs.at 3 (by kernel_rfl)
        clear hd hs
        have hkk : k < 6 := hk
        clear hk
        have d0 := gb_cell (gb_trans hJ1 hJ) (b := w.heap.size + 1) (o := 0) (v := .int .i64 x') (by simp [go_sem]) (by simp)
        have d1 := gb_cell (gb_trans hJ1 hJ) (b := w.heap.size + 1) (o := 1) (v := .int .i64 y') (by simp [go_sem]) (by simp)
        have d2 := gb_cell (gb_trans hJ1 hJ) (b := w.heap.size + 1) (o := 2) (v := .int .i64 bw') (by simp [go_sem]) (by simp)
        have d3 := gb_cell (gb_trans hJ1 hJ) (b := w.heap.size + 1) (o := 3) (v := .int .i64 d') (by simp [go_sem]) (by simp)
        have HJ := Lib.hid hJ; clear hJ
        go_simp
        exact hK.out _ _ rfl HJ.out (World.grownBy.refl _ _)
      refine step_plain rfl (fun k a w' hk hJ hd hs K hK => ?_) ?_
      · have e14 : a.tmps[14]?.getD undef = (.agg #[.int .i64 x', .int .i64 y', .int .i64 bw', .int .i64 d']) := hs.get 2 14 (by kernel_rfl) (by kernel_rfl)
        clear hd hs
        have hkk : k < 6 := hk
        clear hk
        have HJ := Lib.hid hJ; clear hJ
        go_simp
        refine (H4.out _).mono ?_
        rintro e w2 ⟨rfl, g⟩
        exact hK.out _ _ rfl (gb_trans HJ.out g) g
      refine step_plain rfl (fun k a w' hk hJ hd hs K hK => ?_) ?_
      · have e13 : a.tmps[13]?.getD undef = (.agg #[.int .i64 x, .int .i64 y, .int .i64 bw, .int .i64 d]) := hs.get 1 13 (by kernel_rfl) (by kernel_rfl)
        have e15 : a.tmps[15]?.getD undef = (.agg #[.int .i64 x', .int .i64 y', .int .i64 bw', .int .i64 d']) := hs.get 3 15 (by kernel_rfl) (by kernel_rfl)
        clear hd hs
        have hkk : k < 6 := hk
        clear hk
        have HJ := Lib.hid hJ; clear hJ
        go_simp
        refine (H2.out _).mono ?_
        rintro e w2 ⟨rfl, g⟩
        exact hK.out _ _ rfl (gb_trans HJ.out g) g
      refine step_plain rfl (fun k a w' hk hJ hd hs K hK => ?_) ?_
      · have e16 : a.tmps[16]?.getD undef = .bool v := hs.get 4 16 (by kernel_rfl) (by kernel_rfl)
        clear hd hs
        have hkk : k < 6 := hk
        clear hk
        have HJ := Lib.hid hJ; clear hJ
        go_simp
        try simp (disch := omega) only [IntWalk.i64_in]
        exact hK.out _ _ rfl HJ.out (World.grownBy.refl _ _)
      exact step_nil
    · intro vt w3 hJ2 hA
      have f6 : vt 5 = .bool v := hA 5 (by decide)
      clear hA
      simp only [putAll, Act.put, List.setIfInBounds_toArray, List.set_cons_zero, List.set_cons_succ, f6]
      clear f6
      go_wp2_with fail
      go_ret
      exact ⟨rfl, gb_below (gb_trans (gb_trans (gb_alloc (gb_alloc (World.grownBy.refl _ _) _) _) hJ1) hJ2)⟩
end Go.Proofs.Ytbpfihklbmephaa
namespace Go.Proofs.Ytbpfihklbmephaa.fnExactBoxesApartDone
open Go Go.ChangeShapes Go.WideShapes Go.ChangeAt Go.RowKit Go.Proofs.Ytbpfihklbmephaa
set_option linter.unusedVariables false
theorem own : ownKnob Try.prog.godebug = none := by kernel_rfl
theorem laidOut : laidOutB Try.prog = true := by kernel_rfl
set_option maxRecDepth 100000 in
theorem lifted (os : Os) (started : os.Started) (H : Type) (enc : TypeId × Value → H) :
    ReturnsInHanded {} Try.checked os 3 .any (Rows.fnExactBoxesApartSpec.pre6 enc Try.prog Try.f3 Rows.fnExactBoxesApartRow.domain false) (Rows.fnExactBoxesApartSpec.post enc Try.prog Try.f3 false true false false) := by
  refine returnsInHanded_of_change (C := Try.checked) own started (by kernel_rfl) Try.func3
    (ChangeSpec.witness6 (enc := enc) (C := Try.checked) false ⟨#[], #[.agg #[.int .i64 0, .int .i64 0, .int .i64 0, .int .i64 0], .agg #[.int .i64 0, .int .i64 0, .int .i64 0, .int .i64 0]], []⟩ 8 (by kernel_rfl) (by kernel_rfl) (by kernel_rfl) (by kernel_rfl)) ?_
  intro W base args ds gs before hval0 hW hcnd _
  have hval : ∀ (j : Nat) t v, Try.f3.params[j]? = some t → args[j]? = some v → Value.okWide Try.prog W .any base t v := hval0
  have hW' := hW
  obtain ⟨p, q, hA0, hV, rfl, hfz, hnd⟩ := hW
  have hA : DataW.TrodAll enc Try.prog W 0 (fun _ => true) true Try.f3.params.toList args.toList ds p := hA0
  rw [Try.params3] at hA hval
  obtain ⟨v0, vs0, d0, ds0, p0, q0, hargs, rfl, rfl, h0, r0⟩ := trodAll_cons hA
  obtain ⟨v1, vs1, d1, ds1, p1, q1, rfl, rfl, rfl, h1, r1⟩ := trodAll_cons r0
  obtain ⟨rfl, rfl, rfl⟩ := trodAll_nil r1
  obtain rfl : args = #[v0, v1] := by cases args; simp_all
  obtain ⟨rfl, rfl⟩ := trodVars_none hV
  have k0 := h0
  have lt0 : ∀ x ∈ p0, x.block < W.heap.size := by obtain ⟨m, hm⟩ := k0; exact DataW.trod_lt m _ _ _ hm
  obtain ⟨c0_0, c0_1, c0_2, c0_3, y0_0, y0_1, y0_2, y0_3, m0, rfl, hd0, hp0, z0_0, z0_1, z0_2, z0_3⟩ := Joins.open_agg4 Try.underlying23 (by kernel_rfl) (by kernel_rfl) (hval 0 23 v0 rfl rfl) h0
  obtain ⟨a0_0, e0_0, _, _⟩ := DataW.trod_int Try.underlying3 z0_0
  simp only [List.cons.injEq, and_true] at e0_0
  subst e0_0
  obtain ⟨a0_1, e0_1, _, _⟩ := DataW.trod_int Try.underlying3 z0_1
  simp only [List.cons.injEq, and_true] at e0_1
  subst e0_1
  obtain ⟨a0_2, e0_2, _, _⟩ := DataW.trod_int Try.underlying3 z0_2
  simp only [List.cons.injEq, and_true] at e0_2
  subst e0_2
  obtain ⟨a0_3, e0_3, _, _⟩ := DataW.trod_int Try.underlying3 z0_3
  simp only [List.cons.injEq, and_true] at e0_3
  subst e0_3
  have k1 := h1
  have lt1 : ∀ x ∈ p1, x.block < W.heap.size := by obtain ⟨m, hm⟩ := k1; exact DataW.trod_lt m _ _ _ hm
  obtain ⟨c1_0, c1_1, c1_2, c1_3, y1_0, y1_1, y1_2, y1_3, m1, rfl, hd1, hp1, z1_0, z1_1, z1_2, z1_3⟩ := Joins.open_agg4 Try.underlying23 (by kernel_rfl) (by kernel_rfl) (hval 1 23 v1 rfl rfl) h1
  obtain ⟨a1_0, e1_0, _, _⟩ := DataW.trod_int Try.underlying3 z1_0
  simp only [List.cons.injEq, and_true] at e1_0
  subst e1_0
  obtain ⟨a1_1, e1_1, _, _⟩ := DataW.trod_int Try.underlying3 z1_1
  simp only [List.cons.injEq, and_true] at e1_1
  subst e1_1
  obtain ⟨a1_2, e1_2, _, _⟩ := DataW.trod_int Try.underlying3 z1_2
  simp only [List.cons.injEq, and_true] at e1_2
  subst e1_2
  obtain ⟨a1_3, e1_3, _, _⟩ := DataW.trod_int Try.underlying3 z1_3
  simp only [List.cons.injEq, and_true] at e1_3
  subst e1_3
  clear hA0 hval0
  refine (law_FnExactBoxesApart ⟨a0_0, a0_1, a0_2, a0_3⟩ ⟨a1_0, a1_1, a1_2, a1_3⟩ W ).mono fun e W' ⟨he, bel⟩ => ?_
  subst he
  exact ⟨_, rfl, _, _, _, [], _, [], hW', trodAll_mk1 (shut_bool Try.underlying4 _), (trodAll_cons_mk (Below.trod laidOut (by kernel_rfl) (of_decide_eq_true (by kernel_rfl)) k0 bel lt0) (trodAll_cons_mk (Below.trod laidOut (by kernel_rfl) (of_decide_eq_true (by kernel_rfl)) k1 bel lt1) trodAll_mk0)), rfl, bel.frame _, fun h => by cases h⟩
theorem over : Rows.fnExactBoxesApartRow.holds Try.pinned (OpenSpec.ofChange Rows.fnExactBoxesApartSpec) :=
  OpenClaim.holds_of_wide 3 Try.f3 rfl rfl rfl rfl rfl rfl rfl ⟨rfl, rfl, rfl, rfl, rfl⟩ rfl rfl rfl rfl rfl (by kernel_rfl) Try.func3 (by kernel_rfl)
    (of_decide_eq_true (by kernel_rfl)) (by unfold Func.isWrapper; first | (rw [if_pos (by decide +kernel)]; kernel_rfl) | (rw [if_neg (by decide +kernel)]; exact ⟨rfl, rfl⟩))
    (fun os started H enc _ => lifted os started H enc)
theorem proved : Rows.FnExactBoxesApartSaid := over
#print axioms proved
end Go.Proofs.Ytbpfihklbmephaa.fnExactBoxesApartDone
