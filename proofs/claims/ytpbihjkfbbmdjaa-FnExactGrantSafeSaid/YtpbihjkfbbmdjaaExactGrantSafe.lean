/-
  FnExactGrantSafe: for all arguments both programs return the same; the arguments are left as they were, the result is new memory. No condition.
-/
import Derived.Test.YtpbihjkfbbmdjaaGrantS
import Derived.Test.YtpbihjkfbbmdjaaClaimS
import Derived.Test.YtpbihjkfbbmdjaaIntS
import Derived.Test.YtpbihjkfbbmdjaaOpen
import Derived.Test.YtpbihjkfbbmdjaaRows
import Derived.ProofKit
import Derived.OpenShut
import Derived.ShutString
import Derived.ChangeOld
namespace Go.Proofs.Ytpbihjkfbbmdjaa
open Go Go.RowKit
set_option linter.unusedVariables false
set_option maxRecDepth 100000 in
set_option maxHeartbeats 4000000 in
theorem law_FnExactGrantSafe (v0 : Value) (x0 : List Clm) (v1 : Value) (x1 : List Int) (a2 : Int) (v3 : Value) (x3 : List Int) (w : World) (h0 : DRds LClm DClm w v0 x0) (h1 : Rds LI w v1 x1) (h2 : (Lit.int .i64 a2).wf = true) (h3 : Rds LI w v3 x3) :
    Calls Try.prog 5 #[v0, v1, .int .i64 a2, v3] w fun e w' => e = .returned (.bool true) ∧ Below w.heap.size w w' := by
  clear h2
  obtain ⟨ad1, n1, c1, rfl, HN1⟩ := h1.slice
  obtain ⟨ad3, n3, c3, rfl, HN3⟩ := h3.slice
  by_cases hl1 : 1048576 < n1
  · clear HN1 HN3
    go_enter Try.func5, Try.ntmps5
    go_wp2_with fail
    go_ret
    exact ⟨rfl, Below.refl _ _⟩
  by_cases hl3 : 1048576 < n3
  · clear HN1 HN3
    go_enter Try.func5, Try.ntmps5
    go_wp2_with fail
    go_ret
    exact ⟨rfl, Below.refl _ _⟩
  have lx1 : x1.length ≤ 1048576 := by omega
  have HN1' := Lib.hid HN1
  clear HN1
  have lx3 : x3.length ≤ 1048576 := by omega
  have HN3' := Lib.hid HN3
  clear HN3
  have lr0 := grantL_len x0 x1 a2 x3
  have lr1 := grantF_len x0 x1 a2 x3
  have S := St.refl w
  go_enter Try.func5, Try.ntmps5
  go_wp2_with fail
  refine (szClaimS_s _ x0 1048576 _ h0 (by omega) (by omega)).mono ?_
  rintro e wz1 ⟨z1, rfl, p1z1, p2z1, p3z1, T⟩
  replace S := S.grow T
  clear T
  by_cases qz1 : z1 < 0
  · go_wp2_with fail
    go_ret
    exact ⟨rfl, S.below⟩
  replace p3z1 := p3z1 (by omega)
  obtain ⟨p4z1, p5z1⟩ := p3z1
  have lc0 : hlds x0 ≤ 1048576 := by omega
  go_wp2_with fail
  refine (toClaimS_s _ x0 _ (S.drdsOld h0) (by omega) (by omega)).mono ?_
  rintro e w3 ⟨u2, rfl, T⟩
  replace S := S.call T
  clear T
  simp only [List.cons_append, List.nil_append] at S
  go_wp2_with fail
  refine (toIntS_s _ x1 _ (S.rds h1) (by omega)).mono ?_
  rintro e w5 ⟨u4, rfl, T⟩
  replace S := S.call T
  clear T
  simp only [List.cons_append, List.nil_append] at S
  go_wp2_with fail
  refine (toIntS_s _ x3 _ (S.rds h3) (by omega)).mono ?_
  rintro e w7 ⟨u6, rfl, T⟩
  replace S := S.call T
  clear T
  simp only [List.cons_append, List.nil_append] at S
  go_wp2_with fail
  have R0 := St.drds (St.moveOut (Ms := [_, _]) S)
  have R1 := St.own (St.moveOut (Ms := [_]) S)
  have R2 := St.own S
  refine (s_GrantSafe _ x0 _ x1 _ _ x3 _ R0 R1 R2).mono ?_
  rintro e w10 ⟨r8, r9, rfl, T⟩
  replace S := S.call T
  clear T R0 R1 R2
  simp only [List.cons_append, List.nil_append] at S
  go_wp2_with fail
  refine (toClaimS_s _ x0 _ (S.drdsOld h0) (by omega) (by omega)).mono ?_
  rintro e w12 ⟨u11, rfl, T⟩
  replace S := S.call T
  clear T
  simp only [List.cons_append, List.nil_append] at S
  go_wp2_with fail
  refine (toIntS_s _ x1 _ (S.rds h1) (by omega)).mono ?_
  rintro e w14 ⟨u13, rfl, T⟩
  replace S := S.call T
  clear T
  simp only [List.cons_append, List.nil_append] at S
  go_wp2_with fail
  refine (toIntS_s _ x3 _ (S.rds h3) (by omega)).mono ?_
  rintro e w16 ⟨u15, rfl, T⟩
  replace S := S.call T
  clear T
  simp only [List.cons_append, List.nil_append] at S
  go_wp2_with fail
  have R0 := St.drds (St.moveOut (Ms := [_, _]) S)
  have R1 := St.own (St.moveOut (Ms := [_]) S)
  have R2 := St.own S
  refine (i_GrantSafe _ x0 _ x1 _ _ x3 _ R0 R1 R2).mono ?_
  rintro e w19 ⟨r17, r18, rfl, T⟩
  replace S := S.call T
  clear T R0 R1 R2
  simp only [List.cons_append, List.nil_append] at S
  go_wp2_with fail
  have R0 := St.drds S
  have R1 := St.drds (St.moveOut (Ms := [_, _, _, _, _]) S)
  refine (eqClaimS_s _ _ (grantL x0 x1 a2 x3) _ R0 R1).mono ?_
  rintro e w20 ⟨rfl, T⟩
  clear R0 R1
  replace S := S.grow T
  clear T
  go_wp2_with fail
  have R0 := St.own (St.moveOut (Ms := [_]) S)
  have R1 := St.own (St.moveOut (Ms := [_, _, _, _, _, _]) S)
  refine (eqIntS_s _ _ (grantF x0 x1 a2 x3) _ R0 R1).mono ?_
  rintro e w21 ⟨rfl, T⟩
  clear R0 R1
  obtain ⟨m, rfl⟩ := T
  replace S := S.drewN m
  go_wp2_with fail
  refine (toClaimS_s _ x0 _ (S.drdsOld h0) (by omega) (by omega)).mono ?_
  rintro e w23 ⟨u22, rfl, T⟩
  replace S := S.call T
  clear T
  simp only [List.cons_append, List.nil_append] at S
  go_wp2_with fail
  have R0 := St.drds (St.moveOut (Ms := [_, _, _, _, _]) S)
  have R1 := St.drds S
  refine (eqClaimS_s _ _ x0 _ R0 R1).mono ?_
  rintro e w24 ⟨rfl, T⟩
  clear R0 R1
  replace S := S.grow T
  clear T
  go_wp2_with fail
  refine (toIntS_s _ x1 _ (S.rds h1) (by omega)).mono ?_
  rintro e w26 ⟨u25, rfl, T⟩
  replace S := S.call T
  clear T
  simp only [List.cons_append, List.nil_append] at S
  go_wp2_with fail
  have R0 := St.own (St.moveOut (Ms := [_, _, _, _, _]) S)
  have R1 := St.own S
  refine (eqIntS_s _ _ x1 _ R0 R1).mono ?_
  rintro e w27 ⟨rfl, T⟩
  clear R0 R1
  obtain ⟨m, rfl⟩ := T
  replace S := S.drewN m
  go_wp2_with fail
  refine (toIntS_s _ x3 _ (S.rds h3) (by omega)).mono ?_
  rintro e w29 ⟨u28, rfl, T⟩
  replace S := S.call T
  clear T
  simp only [List.cons_append, List.nil_append] at S
  go_wp2_with fail
  have R0 := St.own (St.moveOut (Ms := [_, _, _, _, _]) S)
  have R1 := St.own S
  refine (eqIntS_s _ _ x3 _ R0 R1).mono ?_
  rintro e w30 ⟨rfl, T⟩
  clear R0 R1
  obtain ⟨m, rfl⟩ := T
  replace S := S.drewN m
  replace S := St.moveOut (Ms := [_, _, _, _, _, _, _]) S
  simp only [List.cons_append, List.nil_append] at S
  go_wp2_with fail
  refine (markClaimS_s w _ x0 (1) _ _ S (by omega) (by omega) (by omega)).mono ?_
  rintro e w31 ⟨rfl, T⟩
  replace S := T
  clear T
  replace S := St.moveOut (Ms := [_, _, _, _, _, _, _]) S
  simp only [List.cons_append, List.nil_append] at S
  go_wp2_with fail
  refine (markIntS_s w _ x1 (1 + (hlds x0 : Int)) _ _ S (by omega) (by omega) (by omega)).mono ?_
  rintro e w32 ⟨rfl, T⟩
  replace S := T
  clear T
  replace S := St.moveOut (Ms := [_, _, _, _, _, _, _]) S
  simp only [List.cons_append, List.nil_append] at S
  go_wp2_with fail
  refine (markIntS_s w _ x3 (1 + (hlds x0 : Int) + (x1.length : Int)) _ _ S (by omega) (by omega) (by omega)).mono ?_
  rintro e w33 ⟨rfl, T⟩
  replace S := T
  clear T
  go_wp2_with fail
  have R0 := St.drds (St.moveOut (Ms := [_, _, _, _, _, _]) S)
  have R1 := St.drds (St.moveOut (Ms := [_, _, _, _, _, _, _, _]) S)
  refine (eqClaimS_s _ _ (grantL x0 x1 a2 x3) _ R0 R1).mono ?_
  rintro e w34 ⟨rfl, T⟩
  clear R0 R1
  replace S := S.grow T
  clear T
  go_wp2_with fail
  have R0 := St.own (St.moveOut (Ms := [_, _, _, _, _, _, _]) S)
  have R1 := St.own (St.moveOut (Ms := [_, _, _, _, _, _, _, _, _]) S)
  refine (eqIntS_s _ _ (grantF x0 x1 a2 x3) _ R0 R1).mono ?_
  rintro e w35 ⟨rfl, T⟩
  clear R0 R1
  obtain ⟨m, rfl⟩ := T
  replace S := S.drewN m
  replace S := St.moveOut (Ms := [_, _, _, _, _, _]) S
  simp only [List.cons_append, List.nil_append] at S
  go_wp2_with fail
  refine (markClaimS_s w _ (grantL x0 x1 a2 x3) (1) _ _ S (by omega) (by omega) (by omega)).mono ?_
  rintro e w36 ⟨rfl, T⟩
  replace S := T
  clear T
  replace S := St.moveOut (Ms := [_, _, _, _, _, _, _]) S
  simp only [List.cons_append, List.nil_append] at S
  go_wp2_with fail
  refine (markIntS_s w _ (grantF x0 x1 a2 x3) (1 + (hlds (grantL x0 x1 a2 x3) : Int)) _ _ S (by omega) (by omega) (by omega)).mono ?_
  rintro e w37 ⟨rfl, T⟩
  replace S := T
  clear T
  go_wp2_with fail
  have R0 := St.drds (St.moveOut (Ms := [_]) S)
  refine (heldClaimS_s _ (grantL x0 x1 a2 x3) (1) _ R0 (by omega) (by omega) (by omega)).mono ?_
  rintro e w38 ⟨rfl, T⟩
  replace S := S.grow T
  clear T R0
  go_wp2_with fail
  have R0 := St.own S
  refine (heldIntS_s _ (grantF x0 x1 a2 x3).length (1 + (hlds (grantL x0 x1 a2 x3) : Int)) _ R0 (by omega) (by omega) (by omega)).mono ?_
  rintro e w39 ⟨rfl, T⟩
  replace S := S.grow T
  clear T R0
  go_wp2_with fail
  refine (toClaimS_s _ x0 _ (S.drdsOld h0) (by omega) (by omega)).mono ?_
  rintro e w41 ⟨u40, rfl, T⟩
  replace S := S.call T
  clear T
  simp only [List.cons_append, List.nil_append] at S
  go_wp2_with fail
  refine (toIntS_s _ x1 _ (S.rds h1) (by omega)).mono ?_
  rintro e w43 ⟨u42, rfl, T⟩
  replace S := S.call T
  clear T
  simp only [List.cons_append, List.nil_append] at S
  go_wp2_with fail
  refine (toIntS_s _ x3 _ (S.rds h3) (by omega)).mono ?_
  rintro e w45 ⟨u44, rfl, T⟩
  replace S := S.call T
  clear T
  simp only [List.cons_append, List.nil_append] at S
  go_wp2_with fail
  have R0 := St.drds (St.moveOut (Ms := [_, _]) S)
  have R1 := St.own (St.moveOut (Ms := [_]) S)
  have R2 := St.own S
  refine (i_GrantSafe _ x0 _ x1 _ _ x3 _ R0 R1 R2).mono ?_
  rintro e w48 ⟨r46, r47, rfl, T⟩
  replace S := S.call T
  clear T R0 R1 R2
  simp only [List.cons_append, List.nil_append] at S
  go_wp2_with fail
  have R0 := St.drds S
  have R1 := St.drds (St.moveOut (Ms := [_, _, _, _, _, _, _, _, _, _, _, _, _]) S)
  refine (eqClaimS_s _ _ (grantL x0 x1 a2 x3) _ R0 R1).mono ?_
  rintro e w49 ⟨rfl, T⟩
  clear R0 R1
  replace S := S.grow T
  clear T
  go_wp2_with fail
  have R0 := St.own (St.moveOut (Ms := [_]) S)
  have R1 := St.own (St.moveOut (Ms := [_, _, _, _, _, _, _, _, _, _, _, _, _, _]) S)
  refine (eqIntS_s _ _ (grantF x0 x1 a2 x3) _ R0 R1).mono ?_
  rintro e w50 ⟨rfl, T⟩
  clear R0 R1
  obtain ⟨m, rfl⟩ := T
  replace S := S.drewN m
  go_wp2_with fail
  have R0 := St.drds (St.moveOut (Ms := [_, _, _, _, _, _]) S)
  refine (heldClaimS_s _ (grantL x0 x1 a2 x3) (1) _ R0 (by omega) (by omega) (by omega)).mono ?_
  rintro e w51 ⟨rfl, T⟩
  replace S := S.grow T
  clear T R0
  go_wp2_with fail
  have R0 := St.own (St.moveOut (Ms := [_, _, _, _, _]) S)
  refine (heldIntS_s _ (grantF x0 x1 a2 x3).length (1 + (hlds (grantL x0 x1 a2 x3) : Int)) _ R0 (by omega) (by omega) (by omega)).mono ?_
  rintro e w52 ⟨rfl, T⟩
  replace S := S.grow T
  clear T R0
  go_wp2_with fail
  go_ret
  exact ⟨rfl, S.below⟩
end Go.Proofs.Ytpbihjkfbbmdjaa
namespace Go.Proofs.Ytpbihjkfbbmdjaa.fnExactGrantSafeDone
open Go Go.ChangeShapes Go.WideShapes Go.ChangeAt Go.RowKit Go.Proofs.Ytpbihjkfbbmdjaa
set_option linter.unusedVariables false
theorem own : ownKnob Try.prog.godebug = none := by kernel_rfl
theorem laidOut : laidOutB Try.prog = true := by kernel_rfl
set_option maxRecDepth 100000 in
theorem lifted (os : Os) (started : os.Started) (H : Type) (enc : TypeId × Value → H) :
    ReturnsInHanded {} Try.checked os 5 .any (Rows.fnExactGrantSafeSpec.pre6 enc Try.prog Try.f5 Rows.fnExactGrantSafeRow.domain false) (Rows.fnExactGrantSafeSpec.post enc Try.prog Try.f5 false true false false) := by
  refine returnsInHanded_of_change (C := Try.checked) own started (by kernel_rfl) Try.func5
    (ChangeSpec.witness6 (enc := enc) (C := Try.checked) false ⟨#[], #[.slice none 0 0, .slice none 0 0, .int .i64 0, .slice none 0 0], []⟩ 8 (by kernel_rfl) (by kernel_rfl) (by kernel_rfl) (by kernel_rfl)) ?_
  intro W base args ds gs before hval0 hW hcnd _
  have hval : ∀ (j : Nat) t v, Try.f5.params[j]? = some t → args[j]? = some v → Value.okWide Try.prog W .any base t v := hval0
  have hW' := hW
  obtain ⟨p, q, hA0, hV, rfl, hfz, hnd⟩ := hW
  have hA : DataW.TrodAll enc Try.prog W 0 (fun _ => true) true Try.f5.params.toList args.toList ds p := hA0
  rw [Try.params5] at hA hval
  obtain ⟨v0, vs0, d0, ds0, p0, q0, hargs, rfl, rfl, h0, r0⟩ := trodAll_cons hA
  obtain ⟨v1, vs1, d1, ds1, p1, q1, rfl, rfl, rfl, h1, r1⟩ := trodAll_cons r0
  obtain ⟨v2, vs2, d2, ds2, p2, q2, rfl, rfl, rfl, h2, r2⟩ := trodAll_cons r1
  obtain ⟨v3, vs3, d3, ds3, p3, q3, rfl, rfl, rfl, h3, r3⟩ := trodAll_cons r2
  obtain ⟨rfl, rfl, rfl⟩ := trodAll_nil r3
  obtain rfl : args = #[v0, v1, v2, v3] := by cases args; simp_all
  obtain ⟨rfl, rfl⟩ := trodVars_none hV
  obtain ⟨a0, len0, cap0, rfl⟩ := okWide_slice Try.underlying22 (hval 0 22 v0 rfl rfl)
  have k0 := h0
  have lt0 : ∀ x ∈ p0, x.block < W.heap.size := by obtain ⟨m, hm⟩ := k0; exact DataW.trod_lt m _ _ _ hm
  obtain ⟨x0, w0⟩ : ∃ ys, DRds LClm DClm W (.slice a0 len0 cap0) ys := by
    obtain ⟨fuel, hf⟩ := h0
    exact open_drds LClm DClm (v := (.slice a0 len0 cap0)) Try.underlying22 (by kernel_rfl) hf (fun cs n y hl ht => by obtain ⟨m, hf⟩ := open_fields Try.underlying46 (by kernel_rfl) hl ht; obtain ⟨b0, y0, e0, t0⟩ := hf 0 _ rfl; obtain ⟨zs, hz, _⟩ := open_rds LI (fun _ => True) (v := b0) Try.underlying23 (by kernel_rfl) t0 (fun cs n y hl ht => by obtain ⟨v, rfl⟩ := open_lone hl; obtain ⟨a, rfl⟩ := open_intv Try.underlying3 ht; exact ⟨a, rfl, trivial⟩); obtain ⟨qa, qn, qc, rfl, _⟩ := hz.slice; obtain ⟨b1, y1, e1, t1⟩ := hf 1 _ rfl; obtain ⟨ys, hr, _⟩ := open_rds LI (fun _ => True) (v := b1) Try.underlying23 (by kernel_rfl) t1 (fun cs n y hl ht => by obtain ⟨v, rfl⟩ := open_lone hl; obtain ⟨a, rfl⟩ := open_intv Try.underlying3 ht; exact ⟨a, rfl, trivial⟩); obtain ⟨ra, rn, rc, rfl, _⟩ := hr.slice; (obtain rfl := list_eq2 hl e0 e1; exact ⟨((qa, qn, qc), (ra, rn, rc)), rfl, ⟨zs, ys⟩, hz, hr⟩))
  obtain ⟨a1, len1, cap1, rfl⟩ := okWide_slice Try.underlying23 (hval 1 23 v1 rfl rfl)
  have k1 := h1
  have lt1 : ∀ x ∈ p1, x.block < W.heap.size := by obtain ⟨m, hm⟩ := k1; exact DataW.trod_lt m _ _ _ hm
  obtain ⟨x1, w1⟩ : ∃ xs, Rds LI W (.slice a1 len1 cap1) xs := by
    obtain ⟨fuel, hf⟩ := h1
    haveI : Inhabited Int := ⟨0⟩
    obtain ⟨xs, hx, _⟩ := open_rds LI (fun _ => True) (v := (.slice a1 len1 cap1)) Try.underlying23 (by kernel_rfl) hf (fun cs n y hl ht => by obtain ⟨v, rfl⟩ := open_lone hl; obtain ⟨a, rfl⟩ := open_intv Try.underlying3 ht; exact ⟨a, rfl, trivial⟩)
    exact ⟨xs, hx⟩
  obtain ⟨a2, rfl, rfl, rfl, w2⟩ := open_int Try.underlying3 (hval 2 3 v2 rfl rfl) h2
  obtain ⟨a3, len3, cap3, rfl⟩ := okWide_slice Try.underlying23 (hval 3 23 v3 rfl rfl)
  have k3 := h3
  have lt3 : ∀ x ∈ p3, x.block < W.heap.size := by obtain ⟨m, hm⟩ := k3; exact DataW.trod_lt m _ _ _ hm
  obtain ⟨x3, w3⟩ : ∃ xs, Rds LI W (.slice a3 len3 cap3) xs := by
    obtain ⟨fuel, hf⟩ := h3
    haveI : Inhabited Int := ⟨0⟩
    obtain ⟨xs, hx, _⟩ := open_rds LI (fun _ => True) (v := (.slice a3 len3 cap3)) Try.underlying23 (by kernel_rfl) hf (fun cs n y hl ht => by obtain ⟨v, rfl⟩ := open_lone hl; obtain ⟨a, rfl⟩ := open_intv Try.underlying3 ht; exact ⟨a, rfl, trivial⟩)
    exact ⟨xs, hx⟩
  clear hA0 hval0
  refine (law_FnExactGrantSafe _ x0 _ x1 a2 _ x3 W w0 w1 w2 w3).mono fun e W' ⟨he, bel⟩ => ?_
  subst he
  exact ⟨_, rfl, _, _, _, [], _, [], hW', trodAll_mk1 (shut_bool Try.underlying4 _), (trodAll_cons_mk (Below.trod laidOut (by kernel_rfl) (of_decide_eq_true (by kernel_rfl)) k0 bel lt0) (trodAll_cons_mk (Below.trod laidOut (by kernel_rfl) (of_decide_eq_true (by kernel_rfl)) k1 bel lt1) (trodAll_cons_mk (shut_int Try.underlying3 w2) (trodAll_cons_mk (Below.trod laidOut (by kernel_rfl) (of_decide_eq_true (by kernel_rfl)) k3 bel lt3) trodAll_mk0)))), rfl, bel.frame _, fun h => by cases h⟩
theorem over : Rows.fnExactGrantSafeRow.holds Try.pinned (OpenSpec.ofChange Rows.fnExactGrantSafeSpec) :=
  OpenClaim.holds_of_wide 5 Try.f5 rfl rfl rfl rfl rfl rfl rfl ⟨rfl, rfl, rfl, rfl, rfl⟩ rfl rfl rfl rfl rfl (by kernel_rfl) Try.func5 (by kernel_rfl)
    (of_decide_eq_true (by kernel_rfl)) (by unfold Func.isWrapper; first | (rw [if_pos (by decide +kernel)]; kernel_rfl) | (rw [if_neg (by decide +kernel)]; exact ⟨rfl, rfl⟩))
    (fun os started H enc _ => lifted os started H enc)
theorem proved : Rows.FnExactGrantSafeSaid := over
#print axioms proved
end Go.Proofs.Ytpbihjkfbbmdjaa.fnExactGrantSafeDone
