/-
  FnBlobCenter: for every code the law on centers returns true; nothing that was there is written. No condition.
-/
import Derived.Test.YtpkcpkhanodnmaaBlobDraw
import Derived.Test.YtpkcpkhanodnmaaCenter
import Derived.Test.YtpkcpkhanodnmaaQuiet
import Derived.Test.YtpkcpkhanodnmaaOpen
import Derived.Test.YtpkcpkhanodnmaaRows
import Derived.ProofKit
import Derived.OpenShut
import Derived.ShutString
import Derived.ChangeOld
namespace Go.Proofs.Ytpkcpkhanodnmaa
open Go Go.RowKit Go.Sort
set_option linter.unusedVariables false
theorem cen_zero {b : Blb} (h : ¬ ((1 ≤ b.Size ∧ b.Size ≤ 256) ∧ (0 ≤ b.SumX ∧ b.SumX ≤ 4096))) : cenX b = 0 ∧ cenY b = 0 := by
  have : cenB b = false := by
    unfold cenB
    by_cases h1 : 1 ≤ b.Size ∧ b.Size ≤ 256
    · rw [inB_f.2 (fun h2 => h ⟨h1, h2⟩)]; simp
    · rw [inB_f.2 h1]; simp
  unfold cenX cenY
  rw [this]
  exact ⟨rfl, rfl⟩
theorem cen_box {b : Blb} (F : BFin b) : 100 * b.Left ≤ cenX b ∧ cenX b ≤ 100 * b.Right ∧ 100 * b.Top ≤ cenY b ∧ cenY b ≤ 100 * b.Bottom ∧ (b.Size = 1 → cenX b = 100 * b.Left ∧ cenY b = 100 * b.Top) := by
  obtain ⟨⟨s1, s2⟩, ⟨l1, l2, l3⟩, ⟨t1, t2, t3⟩, ⟨x1, x2⟩, ⟨y1, y2⟩, ⟨u1, u2, u3, u4⟩, one, -⟩ := F
  have hb : cenB b = true := by
    unfold cenB
    rw [inB_t.2 ⟨s1, s2⟩, inB_t.2 ⟨u1, u2⟩, inB_t.2 ⟨u3, u4⟩]
    rfl
  have e1 : cenX b = 100 * b.SumX / b.Size := by unfold cenX; rw [hb]; rfl
  have e2 : cenY b = 100 * b.SumY / b.Size := by unfold cenY; rw [hb]; rfl
  have hp : 0 < b.Size := by omega
  have a1 : 100 * b.Left * b.Size = 100 * (b.Left * b.Size) := Int.mul_assoc _ _ _
  have a2 : 100 * b.Right * b.Size = 100 * (b.Right * b.Size) := Int.mul_assoc _ _ _
  have a3 : 100 * b.Top * b.Size = 100 * (b.Top * b.Size) := Int.mul_assoc _ _ _
  have a4 : 100 * b.Bottom * b.Size = 100 * (b.Bottom * b.Size) := Int.mul_assoc _ _ _
  have c1 : 100 * b.Left ≤ cenX b := by rw [e1]; exact Int.le_ediv_of_mul_le hp (by omega)
  have c2 : cenX b ≤ 100 * b.Right := by rw [e1]; exact Int.ediv_le_of_le_mul hp (by omega)
  have c3 : 100 * b.Top ≤ cenY b := by rw [e2]; exact Int.le_ediv_of_mul_le hp (by omega)
  have c4 : cenY b ≤ 100 * b.Bottom := by rw [e2]; exact Int.ediv_le_of_le_mul hp (by omega)
  refine ⟨c1, c2, c3, c4, fun h => ?_⟩
  have := one h
  omega
set_option maxRecDepth 100000 in
set_option maxHeartbeats 8000000 in
theorem law_FnBlobCenter (a : Option Addr) (len cap : Nat) (w : World) (hw : Byts w a len cap) :
    Calls Try.prog 6 #[.slice a len cap] w fun e w' => e = .returned (.bool true) ∧ Below w.heap.size w w' := by
  have HB := Lib.hid hw; have hm : len ≤ 9223372036854775807 := (by have := hw.1; have := hw.2.1; unfold maxLen at this; omega); clear hw; by_cases hl : 1048576 < len; (go_enter Try.func6, Try.ntmps6; go_wp2_with fail; go_ret; exact ⟨rfl, Below.refl _ _⟩)
  go_enter Try.func6, Try.ntmps6
  go_wp2_with fail
  refine (DrawBlobCenter_any _ _ _ _ HB.out).mono ?_
  rintro e w1 ⟨b, rfl, hb, g1⟩
  have HBX := Lib.hid hb
  have SC : RowKit.Hid (∀ W, Calls Try.prog 14 #[b.val] W fun e w' => e = .returned (.agg #[.int .i64 (cenX b), .int .i64 (cenY b)]) ∧ W.grownBy w' none) := fun W => s_BlobCenter b W
  have Z := Lib.hid (cen_zero (b := b))
  have IC : RowKit.Hid (∀ W, Calls Try.prog 16 #[b.val] W fun e w' => e = .returned (.agg #[.int .i64 (cenX b), .int .i64 (cenY b)]) ∧ W.grownBy w' none) := fun W => i_BlobCenter b W
  have BX : RowKit.Hid (b.Right = 0 ∨ (100 * b.Left ≤ cenX b ∧ cenX b ≤ 100 * b.Right ∧ 100 * b.Top ≤ cenY b ∧ cenY b ≤ 100 * b.Bottom ∧ (b.Size = 1 → cenX b = 100 * b.Left ∧ cenY b = 100 * b.Top) ∧ (0 ≤ b.Left ∧ b.Left ≤ 15) ∧ (0 ≤ b.Right ∧ b.Right ≤ 15) ∧ (0 ≤ b.Top ∧ b.Top ≤ 15) ∧ (0 ≤ b.Bottom ∧ b.Bottom ≤ 15))) := by
    rcases hb with F | h
    · right
      obtain ⟨c1, c2, c3, c4, c5⟩ := cen_box F
      obtain ⟨-, ⟨l1, l2, l3⟩, ⟨t1, t2, t3⟩, -, -, -, -, -⟩ := F
      exact ⟨c1, c2, c3, c4, c5, by omega, by omega, by omega, by omega⟩
    · exact .inl h
  clear HBX hb
  obtain ⟨Q0, Q1, Q2, Q3, Q4, Q5, Q6⟩ := b
  obtain ⟨CX, hCX⟩ : ∃ CX, cenX ⟨Q0, Q1, Q2, Q3, Q4, Q5, Q6⟩ = CX := ⟨_, rfl⟩
  obtain ⟨CY, hCY⟩ : ∃ CY, cenY ⟨Q0, Q1, Q2, Q3, Q4, Q5, Q6⟩ = CY := ⟨_, rfl⟩
  rw [hCX, hCY] at SC IC Z BX
  simp only [Blb.val] at *
  clear hCX hCY
  go_wp2_with fail
  refine (IC.out _).mono ?_
  rintro e w2 ⟨rfl, g2⟩
  have b0 : (w1.alloc (.cells #[.int .i64 Q0, .int .i64 Q1, .int .i64 Q2, .int .i64 Q3, .int .i64 Q4, .int .i64 Q5, .int .i64 Q6] 27)).cell? ⟨w1.heap.size, 0, none⟩ = some (.int .i64 Q0) := by rw [cell_of_row _ _ _ _ _ _ (heap_alloc_new w1 _)]; rfl
  have b1 : (w1.alloc (.cells #[.int .i64 Q0, .int .i64 Q1, .int .i64 Q2, .int .i64 Q3, .int .i64 Q4, .int .i64 Q5, .int .i64 Q6] 27)).cell? ⟨w1.heap.size, 1, none⟩ = some (.int .i64 Q1) := by rw [cell_of_row _ _ _ _ _ _ (heap_alloc_new w1 _)]; rfl
  have b2 : (w1.alloc (.cells #[.int .i64 Q0, .int .i64 Q1, .int .i64 Q2, .int .i64 Q3, .int .i64 Q4, .int .i64 Q5, .int .i64 Q6] 27)).cell? ⟨w1.heap.size, 2, none⟩ = some (.int .i64 Q2) := by rw [cell_of_row _ _ _ _ _ _ (heap_alloc_new w1 _)]; rfl
  have b3 : (w1.alloc (.cells #[.int .i64 Q0, .int .i64 Q1, .int .i64 Q2, .int .i64 Q3, .int .i64 Q4, .int .i64 Q5, .int .i64 Q6] 27)).cell? ⟨w1.heap.size, 3, none⟩ = some (.int .i64 Q3) := by rw [cell_of_row _ _ _ _ _ _ (heap_alloc_new w1 _)]; rfl
  have b4 : (w1.alloc (.cells #[.int .i64 Q0, .int .i64 Q1, .int .i64 Q2, .int .i64 Q3, .int .i64 Q4, .int .i64 Q5, .int .i64 Q6] 27)).cell? ⟨w1.heap.size, 4, none⟩ = some (.int .i64 Q4) := by rw [cell_of_row _ _ _ _ _ _ (heap_alloc_new w1 _)]; rfl
  have b5 : (w1.alloc (.cells #[.int .i64 Q0, .int .i64 Q1, .int .i64 Q2, .int .i64 Q3, .int .i64 Q4, .int .i64 Q5, .int .i64 Q6] 27)).cell? ⟨w1.heap.size, 5, none⟩ = some (.int .i64 Q5) := by rw [cell_of_row _ _ _ _ _ _ (heap_alloc_new w1 _)]; rfl
  have b6 : (w1.alloc (.cells #[.int .i64 Q0, .int .i64 Q1, .int .i64 Q2, .int .i64 Q3, .int .i64 Q4, .int .i64 Q5, .int .i64 Q6] 27)).cell? ⟨w1.heap.size, 6, none⟩ = some (.int .i64 Q6) := by rw [cell_of_row _ _ _ _ _ _ (heap_alloc_new w1 _)]; rfl
  have d0 := qcell (gb_cell (World.grownBy_alloc w2 (.cells #[.int .i64 CX, .int .i64 CY] 25) none) (gb_cell g2 b0 (by simp)) (by simp))
  have d1 := qcell (gb_cell (World.grownBy_alloc w2 (.cells #[.int .i64 CX, .int .i64 CY] 25) none) (gb_cell g2 b1 (by simp)) (by simp))
  have d2 := qcell (gb_cell (World.grownBy_alloc w2 (.cells #[.int .i64 CX, .int .i64 CY] 25) none) (gb_cell g2 b2 (by simp)) (by simp))
  have d3 := qcell (gb_cell (World.grownBy_alloc w2 (.cells #[.int .i64 CX, .int .i64 CY] 25) none) (gb_cell g2 b3 (by simp)) (by simp))
  have d4 := qcell (gb_cell (World.grownBy_alloc w2 (.cells #[.int .i64 CX, .int .i64 CY] 25) none) (gb_cell g2 b4 (by simp)) (by simp))
  have d5 := qcell (gb_cell (World.grownBy_alloc w2 (.cells #[.int .i64 CX, .int .i64 CY] 25) none) (gb_cell g2 b5 (by simp)) (by simp))
  have d6 := qcell (gb_cell (World.grownBy_alloc w2 (.cells #[.int .i64 CX, .int .i64 CY] 25) none) (gb_cell g2 b6 (by simp)) (by simp))
  have e0 : ((w2.alloc (.cells #[.int .i64 CX, .int .i64 CY] 25))).cell? ⟨w2.heap.size, 0, none⟩ = some (.int .i64 CX) := by rw [cell_of_row _ _ _ _ _ _ (heap_alloc_new w2 _)]; rfl
  have e1 : ((w2.alloc (.cells #[.int .i64 CX, .int .i64 CY] 25))).cell? ⟨w2.heap.size, 1, none⟩ = some (.int .i64 CY) := by rw [cell_of_row _ _ _ _ _ _ (heap_alloc_new w2 _)]; rfl
  have d7 := qcell e0
  have d8 := qcell e1
  have G := Lib.hid (gb_alloc (gb_trans (gb_alloc g1 (.cells #[.int .i64 Q0, .int .i64 Q1, .int .i64 Q2, .int .i64 Q3, .int .i64 Q4, .int .i64 Q5, .int .i64 Q6] 27)) g2) (.cells #[.int .i64 CX, .int .i64 CY] 25))
  clear b0 b1 b2 b3 b4 b5 b6 e0 e1 g1 g2
  go_wp2
  (refine wp_region_quiet_below (by kernel_rfl) (by kernel_rfl) ?_; (repeat (go_big_quiet_step ((with_reducible exact qc (SC.out _))))); refine wpQuiet_nil ?_; intro _ hw'; obtain ⟨⟨dq, osq⟩, hw''⟩ := hw'; subst hw'')
  have k0 := d0 dq osq
  have k1 := d1 dq osq
  have k2 := d2 dq osq
  have k3 := d3 dq osq
  have k4 := d4 dq osq
  have k5 := d5 dq osq
  have k6 := d6 dq osq
  have k7 := d7 dq osq
  have k8 := d8 dq osq
  have G6 := Lib.hid (gb_trans G.out (qg _ dq osq))
  clear d0 d1 d2 d3 d4 d5 d6 d7 d8 G
  generalize Go.Sort.grow (redrawn (w2.alloc (.cells #[.int .i64 CX, .int .i64 CY] 25)) dq) osq = W6 at *
  by_cases z0 : Q0 < 1
  · obtain ⟨rfl, rfl⟩ := Z.out (by rintro ⟨⟨_, _⟩, _, _⟩; omega)
    clear BX IC SC
    go_wp2_with (go_at_call 24; refine (alive_any _).mono ?_; rintro e w' ⟨rfl, rfl⟩)
    go_ret
    exact ⟨rfl, gb_below G6.out⟩
  by_cases z1 : 256 < Q0
  · obtain ⟨rfl, rfl⟩ := Z.out (by rintro ⟨⟨_, _⟩, _, _⟩; omega)
    clear BX IC SC
    go_wp2_with (go_at_call 24; refine (alive_any _).mono ?_; rintro e w' ⟨rfl, rfl⟩)
    go_ret
    exact ⟨rfl, gb_below G6.out⟩
  by_cases z2 : Q1 < 0
  · obtain ⟨rfl, rfl⟩ := Z.out (by rintro ⟨⟨_, _⟩, _, _⟩; omega)
    clear BX IC SC
    go_wp2_with (go_at_call 24; refine (alive_any _).mono ?_; rintro e w' ⟨rfl, rfl⟩)
    go_ret
    exact ⟨rfl, gb_below G6.out⟩
  by_cases z3 : 4096 < Q1
  · obtain ⟨rfl, rfl⟩ := Z.out (by rintro ⟨⟨_, _⟩, _, _⟩; omega)
    clear BX IC SC
    go_wp2_with (go_at_call 24; refine (alive_any _).mono ?_; rintro e w' ⟨rfl, rfl⟩)
    go_ret
    exact ⟨rfl, gb_below G6.out⟩
  clear Z IC SC
  by_cases r0 : Q4 < 1
  · clear BX
    go_wp2
    go_ret
    exact ⟨rfl, gb_below G6.out⟩
  obtain ⟨c1, c2, c3, c4, c5, ⟨l1, l2⟩, ⟨r1, r2⟩, ⟨t1, t2⟩, b1, b2⟩ := BX.out.resolve_left (by omega)
  clear BX
  by_cases s1 : 1 < Q0
  · clear c5
    go_wp2
    go_ret
    exact ⟨rfl, gb_below G6.out⟩
  · obtain ⟨rfl, rfl⟩ := c5 (by omega)
    go_wp2
    go_ret
    exact ⟨rfl, gb_below G6.out⟩
end Go.Proofs.Ytpkcpkhanodnmaa
namespace Go.Proofs.Ytpkcpkhanodnmaa.fnBlobCenterDone
open Go Go.ChangeShapes Go.WideShapes Go.ChangeAt Go.RowKit Go.Proofs.Ytpkcpkhanodnmaa
set_option linter.unusedVariables false
theorem own : ownKnob Try.prog.godebug = none := by kernel_rfl
theorem laidOut : laidOutB Try.prog = true := by kernel_rfl
set_option maxRecDepth 100000 in
theorem lifted (os : Os) (started : os.Started) (H : Type) (enc : TypeId × Value → H) :
    ReturnsInHanded {} Try.checked os 6 .any (Rows.fnBlobCenterSpec.pre6 enc Try.prog Try.f6 Rows.fnBlobCenterRow.domain false) (Rows.fnBlobCenterSpec.post enc Try.prog Try.f6 false true false false) := by
  refine returnsInHanded_of_change (C := Try.checked) own started (by kernel_rfl) Try.func6
    (ChangeSpec.witness6 (enc := enc) (C := Try.checked) false ⟨#[], #[.slice none 0 0], []⟩ 8 (by kernel_rfl) (by kernel_rfl) (by kernel_rfl) (by kernel_rfl)) ?_
  intro W base args ds gs before hval0 hW hcnd _
  have hval : ∀ (j : Nat) t v, Try.f6.params[j]? = some t → args[j]? = some v → Value.okWide Try.prog W .any base t v := hval0
  have hW' := hW
  obtain ⟨p, q, hA0, hV, rfl, hfz, hnd⟩ := hW
  have hA : DataW.TrodAll enc Try.prog W 0 (fun _ => true) true Try.f6.params.toList args.toList ds p := hA0
  rw [Try.params6] at hA hval
  obtain ⟨v0, vs0, d0, ds0, p0, q0, hargs, rfl, rfl, h0, r0⟩ := trodAll_cons hA
  obtain ⟨rfl, rfl, rfl⟩ := trodAll_nil r0
  obtain rfl : args = #[v0] := by cases args; simp_all
  obtain ⟨rfl, rfl⟩ := trodVars_none hV
  obtain ⟨a0, len0, cap0, rfl⟩ := okWide_slice Try.underlying36 (hval 0 36 v0 rfl rfl)
  have k0 := h0
  have lt0 : ∀ x ∈ p0, x.block < W.heap.size := by obtain ⟨m, hm⟩ := k0; exact DataW.trod_lt m _ _ _ hm
  have w0 : Byts W a0 len0 cap0 := by
    obtain ⟨fuel, hf⟩ := h0
    rcases open_ints Try.underlying36 Try.underlying5 (by kernel_rfl) hf with ⟨hcs, _⟩ | ⟨x, l, c, zs, hcs, _, hl, hm, hz, _, hcell, hwz⟩
    · simp [Value.cells] at hcs
      obtain ⟨rfl, rfl, rfl⟩ := hcs
      exact byts_nil W
    · simp [Value.cells] at hcs
      obtain ⟨rfl, rfl, rfl⟩ := hcs
      exact byts_of hl hm (by simpa using hz) hcell hwz
  clear hA0 hval0
  refine (law_FnBlobCenter a0 len0 cap0 W w0).mono fun e W' ⟨he, bel⟩ => ?_
  subst he
  exact ⟨_, rfl, _, _, _, [], _, [], hW', trodAll_mk1 (shut_bool Try.underlying4 _), (trodAll_cons_mk (Below.trod laidOut (by kernel_rfl) (of_decide_eq_true (by kernel_rfl)) k0 bel lt0) trodAll_mk0), rfl, bel.frame _, fun h => by cases h⟩
theorem over : Rows.fnBlobCenterRow.holds Try.pinned (OpenSpec.ofChange Rows.fnBlobCenterSpec) :=
  OpenClaim.holds_of_wide 6 Try.f6 rfl rfl rfl rfl rfl rfl rfl ⟨rfl, rfl, rfl, rfl, rfl⟩ rfl rfl rfl rfl rfl (by kernel_rfl) Try.func6 (by kernel_rfl)
    (of_decide_eq_true (by kernel_rfl)) (by unfold Func.isWrapper; first | (rw [if_pos (by decide +kernel)]; kernel_rfl) | (rw [if_neg (by decide +kernel)]; exact ⟨rfl, rfl⟩))
    (fun os started H enc _ => lifted os started H enc)
theorem proved : Rows.FnBlobCenterSaid := over
#print axioms proved
end Go.Proofs.Ytpkcpkhanodnmaa.fnBlobCenterDone
