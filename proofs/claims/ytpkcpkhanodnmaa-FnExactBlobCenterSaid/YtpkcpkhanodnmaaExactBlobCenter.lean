/-
  FnExactBlobCenter: for every set both programs return the same point. No condition.
-/
import Derived.Test.YtpkcpkhanodnmaaCenter
import Derived.Test.YtpkcpkhanodnmaaOpen
import Derived.Test.YtpkcpkhanodnmaaRows
import Derived.ProofKit
import Derived.OpenShut
import Derived.ShutString
import Derived.ChangeOld
namespace Go.Proofs.Ytpkcpkhanodnmaa
open Go Go.RowKit
set_option linter.unusedVariables false
set_option maxHeartbeats 2000000 in
theorem law_FnExactBlobCenter (z : Blb) (w : World) :
    Calls Try.prog 3 #[z.val] w fun e w' => e = .returned (.bool true) ∧ Below w.heap.size w w' := by
  obtain ⟨z0, z1, z2, z3, z4, z5, z6⟩ := z
  show Calls Try.prog 3 #[.agg #[.int .i64 z0, .int .i64 z1, .int .i64 z2, .int .i64 z3, .int .i64 z4, .int .i64 z5, .int .i64 z6]] w _
  obtain ⟨X, hX⟩ : ∃ X, X = cenX ⟨z0, z1, z2, z3, z4, z5, z6⟩ := ⟨_, rfl⟩
  obtain ⟨Y, hY⟩ : ∃ Y, Y = cenY ⟨z0, z1, z2, z3, z4, z5, z6⟩ := ⟨_, rfl⟩
  have CT : ∀ W, Calls Try.prog 15 #[.agg #[.int .i64 z0, .int .i64 z1, .int .i64 z2, .int .i64 z3, .int .i64 z4, .int .i64 z5, .int .i64 z6]] W fun e w' => e = .returned (.agg #[.int .i64 z0, .int .i64 z1, .int .i64 z2, .int .i64 z3, .int .i64 z4, .int .i64 z5, .int .i64 z6]) ∧ W.grownBy w' none := fun W => toBlob_s ⟨z0, z1, z2, z3, z4, z5, z6⟩ W
  have CS : ∀ W, Calls Try.prog 14 #[.agg #[.int .i64 z0, .int .i64 z1, .int .i64 z2, .int .i64 z3, .int .i64 z4, .int .i64 z5, .int .i64 z6]] W fun e w' => e = .returned (.agg #[.int .i64 X, .int .i64 Y]) ∧ W.grownBy w' none := fun W => by rw [hX, hY]; exact s_BlobCenter ⟨z0, z1, z2, z3, z4, z5, z6⟩ W
  have CI : ∀ W, Calls Try.prog 16 #[.agg #[.int .i64 z0, .int .i64 z1, .int .i64 z2, .int .i64 z3, .int .i64 z4, .int .i64 z5, .int .i64 z6]] W fun e w' => e = .returned (.agg #[.int .i64 X, .int .i64 Y]) ∧ W.grownBy w' none := fun W => by rw [hX, hY]; exact i_BlobCenter ⟨z0, z1, z2, z3, z4, z5, z6⟩ W
  have HT := Lib.hid CT
  have HS := Lib.hid CS
  have HI := Lib.hid CI
  clear hX hY CT CS CI
  have G0 := World.grownBy_alloc w (.cells #[.int .i64 z0, .int .i64 z1, .int .i64 z2, .int .i64 z3, .int .i64 z4, .int .i64 z5, .int .i64 z6] 23) none
  go_enter Try.func3, Try.ntmps3
  have hB0 := heap_alloc_new w (.cells #[.int .i64 z0, .int .i64 z1, .int .i64 z2, .int .i64 z3, .int .i64 z4, .int .i64 z5, .int .i64 z6] 23)
  have HB0 := Lib.hid hB0
  clear hB0
  go_wp2_with fail
  refine (HT.out _).mono ?_
  rintro e w1 ⟨rfl, g1⟩
  go_wp2_with fail
  refine (HS.out _).mono ?_
  rintro e w2 ⟨rfl, g2⟩
  have g12 := gb_trans g1 g2
  have G2 := Lib.hid (gb_trans G0 g12)
  have hB2 := gb_heap g12 HB0.out (by simp)
  have c0 : w2.cell? ⟨w.heap.size, 0, none⟩ = some (.int .i64 z0) := by simp [World.cell?, hB2]
  have c1 : w2.cell? ⟨w.heap.size, 1, none⟩ = some (.int .i64 z1) := by simp [World.cell?, hB2]
  have c2 : w2.cell? ⟨w.heap.size, 2, none⟩ = some (.int .i64 z2) := by simp [World.cell?, hB2]
  have c3 : w2.cell? ⟨w.heap.size, 3, none⟩ = some (.int .i64 z3) := by simp [World.cell?, hB2]
  have c4 : w2.cell? ⟨w.heap.size, 4, none⟩ = some (.int .i64 z4) := by simp [World.cell?, hB2]
  have c5 : w2.cell? ⟨w.heap.size, 5, none⟩ = some (.int .i64 z5) := by simp [World.cell?, hB2]
  have c6 : w2.cell? ⟨w.heap.size, 6, none⟩ = some (.int .i64 z6) := by simp [World.cell?, hB2]
  have hlt : w.heap.size < w2.heap.size := lt_of_block hB2
  clear g1 g2 g12 hB2 G0
  go_wp2_with fail
  refine (HT.out _).mono ?_
  rintro e w3 ⟨rfl, g3⟩
  go_wp2_with fail
  refine (HI.out _).mono ?_
  rintro e w4 ⟨rfl, g4⟩
  have g34 := gb_trans g3 g4
  have hB4 := gb_heap g34 (heap_alloc_new w2 _) (by simp)
  have G4 := Lib.hid (gb_trans (gb_alloc G2.out _) g34)
  have d0 : w4.cell? ⟨w2.heap.size, 0, none⟩ = some (.int .i64 X) := by simp [World.cell?, hB4]
  have d1 : w4.cell? ⟨w2.heap.size, 1, none⟩ = some (.int .i64 Y) := by simp [World.cell?, hB4]
  have hlt2 : w2.heap.size < w4.heap.size := lt_of_block hB4
  clear g3 g4 g34 hB4 c0 c1 c2 c3 c4 c5 c6
  go_wp2_with fail
  refine (eqPoint_s X Y _).mono ?_
  rintro e w5 ⟨rfl, g5⟩
  have G5 := gb_trans (gb_alloc G4.out _) g5
  go_wp2_with fail
  go_ret
  exact ⟨rfl, gb_below G5⟩
end Go.Proofs.Ytpkcpkhanodnmaa
namespace Go.Proofs.Ytpkcpkhanodnmaa.fnExactBlobCenterDone
open Go Go.ChangeShapes Go.WideShapes Go.ChangeAt Go.RowKit Go.Proofs.Ytpkcpkhanodnmaa
set_option linter.unusedVariables false
theorem own : ownKnob Try.prog.godebug = none := by kernel_rfl
theorem laidOut : laidOutB Try.prog = true := by kernel_rfl
set_option maxRecDepth 100000 in
theorem lifted (os : Os) (started : os.Started) (H : Type) (enc : TypeId × Value → H) :
    ReturnsInHanded {} Try.checked os 3 .any (Rows.fnExactBlobCenterSpec.pre6 enc Try.prog Try.f3 Rows.fnExactBlobCenterRow.domain false) (Rows.fnExactBlobCenterSpec.post enc Try.prog Try.f3 false true false false) := by
  refine returnsInHanded_of_change (C := Try.checked) own started (by kernel_rfl) Try.func3
    (ChangeSpec.witness6 (enc := enc) (C := Try.checked) false ⟨#[], #[.agg #[.int .i64 0, .int .i64 0, .int .i64 0, .int .i64 0, .int .i64 0, .int .i64 0, .int .i64 0]], []⟩ 8 (by kernel_rfl) (by kernel_rfl) (by kernel_rfl) (by kernel_rfl)) ?_
  intro W base args ds gs before hval0 hW hcnd _
  have hval : ∀ (j : Nat) t v, Try.f3.params[j]? = some t → args[j]? = some v → Value.okWide Try.prog W .any base t v := hval0
  have hW' := hW
  obtain ⟨p, q, hA0, hV, rfl, hfz, hnd⟩ := hW
  have hA : DataW.TrodAll enc Try.prog W 0 (fun _ => true) true Try.f3.params.toList args.toList ds p := hA0
  rw [Try.params3] at hA hval
  obtain ⟨v0, vs0, d0, ds0, p0, q0, hargs, rfl, rfl, h0, r0⟩ := trodAll_cons hA
  obtain ⟨rfl, rfl, rfl⟩ := trodAll_nil r0
  obtain rfl : args = #[v0] := by cases args; simp_all
  obtain ⟨rfl, rfl⟩ := trodVars_none hV
  have k0 := h0
  have lt0 : ∀ x ∈ p0, x.block < W.heap.size := by obtain ⟨m, hm⟩ := k0; exact DataW.trod_lt m _ _ _ hm
  obtain ⟨z0, rfl⟩ : ∃ z : Blb, v0 = z.val := by
    obtain ⟨cs, rfl, hsz⟩ := okWide_struct Try.underlying23 (hval 0 23 v0 rfl rfl)
    obtain ⟨fuel, ht⟩ := h0
    have hl : cs.toList.length = 7 := by rw [Array.length_toList, hsz]; kernel_rfl
    obtain ⟨cs⟩ := cs
    obtain ⟨m, hf⟩ := open_fields Try.underlying23 (by kernel_rfl) hl ht; obtain ⟨b0, y0, e0, t0⟩ := hf 0 _ rfl; obtain ⟨a0, rfl⟩ := open_intv Try.underlying3 t0; obtain ⟨b1, y1, e1, t1⟩ := hf 1 _ rfl; obtain ⟨a1, rfl⟩ := open_intv Try.underlying3 t1; obtain ⟨b2, y2, e2, t2⟩ := hf 2 _ rfl; obtain ⟨a2, rfl⟩ := open_intv Try.underlying3 t2; obtain ⟨b3, y3, e3, t3⟩ := hf 3 _ rfl; obtain ⟨a3, rfl⟩ := open_intv Try.underlying3 t3; obtain ⟨b4, y4, e4, t4⟩ := hf 4 _ rfl; obtain ⟨a4, rfl⟩ := open_intv Try.underlying3 t4; obtain ⟨b5, y5, e5, t5⟩ := hf 5 _ rfl; obtain ⟨a5, rfl⟩ := open_intv Try.underlying3 t5; obtain ⟨b6, y6, e6, t6⟩ := hf 6 _ rfl; obtain ⟨a6, rfl⟩ := open_intv Try.underlying3 t6; obtain rfl := list_eq7 hl e0 e1 e2 e3 e4 e5 e6; exact ⟨⟨a0, a1, a2, a3, a4, a5, a6⟩, rfl⟩
  clear hA0 hval0
  refine (law_FnExactBlobCenter z0 W ).mono fun e W' ⟨he, bel⟩ => ?_
  subst he
  exact ⟨_, rfl, _, _, _, [], _, [], hW', trodAll_mk1 (shut_bool Try.underlying4 _), (trodAll_cons_mk (Below.trod laidOut (by kernel_rfl) (of_decide_eq_true (by kernel_rfl)) k0 bel lt0) trodAll_mk0), rfl, bel.frame _, fun h => by cases h⟩
theorem over : Rows.fnExactBlobCenterRow.holds Try.pinned (OpenSpec.ofChange Rows.fnExactBlobCenterSpec) :=
  OpenClaim.holds_of_wide 3 Try.f3 rfl rfl rfl rfl rfl rfl rfl ⟨rfl, rfl, rfl, rfl, rfl⟩ rfl rfl rfl rfl rfl (by kernel_rfl) Try.func3 (by kernel_rfl)
    (of_decide_eq_true (by kernel_rfl)) (by unfold Func.isWrapper; first | (rw [if_pos (by decide +kernel)]; kernel_rfl) | (rw [if_neg (by decide +kernel)]; exact ⟨rfl, rfl⟩))
    (fun os started H enc _ => lifted os started H enc)
theorem proved : Rows.FnExactBlobCenterSaid := over
#print axioms proved
end Go.Proofs.Ytpkcpkhanodnmaa.fnExactBlobCenterDone
