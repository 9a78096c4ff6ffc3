/-
  FnBoxesApart: for every code the law on boxes being apart returns true; nothing that was there is written. No condition.
-/
import Derived.Test.YtbpfihklbmephaaBoxDraw
import Derived.Test.YtbpfihklbmephaaRows
import Derived.ProofKit
import Derived.OpenShut
import Derived.ShutString
import Derived.ChangeOld
namespace Go.Proofs.Ytbpfihklbmephaa
open Go Go.RowKit
set_option linter.unusedVariables false
theorem apart_sym (a b : Bx) : apartB a b = apartB b a := by
  unfold apartB
  rw [decide_eq_decide]
  unfold Bx.off
  constructor
  · rintro ⟨h1, h2, h3⟩; exact ⟨h2, h1, by omega⟩
  · rintro ⟨h1, h2, h3⟩; exact ⟨h2, h1, by omega⟩
theorem apart_self (a : Bx) (hw : 0 < a.w) (hd : 0 < a.d) : apartB a a = false := by
  apply apart_eq
  simp [Bx.off]
  omega
theorem apart_side (a : Bx) (ha : a.ok) (hs : a.x + a.w ≤ 200) : apartB a ⟨a.x + a.w, a.y, 1, 1⟩ = true := by
  apply apart_eq
  obtain ⟨h1, h2, h3, h4⟩ := ha
  refine ⟨fun _ => rfl, fun _ => ⟨⟨h1, h2, h3, h4⟩, ?_, ?_⟩⟩
  · unfold Bx.ok; simp only; omega
  · unfold Bx.off; simp only; omega
set_option maxHeartbeats 8000000 in
theorem law_FnBoxesApart (a : Option Addr) (len cap : Nat) (w : World) (hw : Byts w a len cap) :
    Calls Try.prog 4 #[.slice a len cap] w fun e w' => e = .returned (.bool true) ∧ Below w.heap.size w w' := by
  have HB := Lib.hid hw; have hm : len ≤ 9223372036854775807 := (by have := hw.1; have := hw.2.1; unfold maxLen at this; omega); clear hw; by_cases hl : 1048576 < len; (go_enter Try.func4, Try.ntmps4; go_wp2_with fail; go_ret; exact ⟨rfl, Below.refl _ _⟩)
  go_enter Try.func4, Try.ntmps4
  go_wp2_with fail
  refine (DrawBoxesApart_any _ _ _ _ HB.out).mono ?_
  rintro e w1 ⟨⟨px, py, pw, pd⟩, ⟨qx, qy, qw, qd⟩, rfl, hp, g1⟩
  simp only at hp
  have C1 := Lib.hid (i_BoxesApart ⟨px, py, pw, pd⟩ ⟨qx, qy, qw, qd⟩)
  have C2 := Lib.hid (s_BoxesApart ⟨px, py, pw, pd⟩ ⟨qx, qy, qw, qd⟩)
  have C3 := Lib.hid (i_BoxesApart ⟨qx, qy, qw, qd⟩ ⟨px, py, pw, pd⟩)
  have C4 := Lib.hid (i_BoxesApart ⟨px, py, pw, pd⟩ ⟨px, py, pw, pd⟩)
  have C5 := Lib.hid (i_BoxesApart ⟨px, py, pw, pd⟩ ⟨px + pw, py, 1, 1⟩)
  have hv : RowKit.Hid (¬ (0 ≤ px ∧ px ≤ 200) → apartB ⟨px, py, pw, pd⟩ ⟨qx, qy, qw, qd⟩ = false) := fun h => apart_eq (by simp [Bx.ok]; omega)
  rw [apart_sym ⟨qx, qy, qw, qd⟩ ⟨px, py, pw, pd⟩] at C3
  generalize hV : apartB ⟨px, py, pw, pd⟩ ⟨qx, qy, qw, qd⟩ = v at C1 C2 C3 hv
  clear hV
  simp only [Bx.v] at C1 C2 C3 C4 C5 ⊢
  have G1 := Lib.hid g1
  clear g1
  go_wp2_with fail
  refine (C1.out _).mono ?_
  rintro e w2 ⟨rfl, g2⟩
  have ka0 := gb_cell g2 (b := w1.heap.size) (o := 0) (v := .int .i64 px) (by simp [go_sem]) (by simp)
  have ka1 := gb_cell g2 (b := w1.heap.size) (o := 1) (v := .int .i64 py) (by simp [go_sem]) (by simp)
  have ka2 := gb_cell g2 (b := w1.heap.size) (o := 2) (v := .int .i64 pw) (by simp [go_sem]) (by simp)
  have ka3 := gb_cell g2 (b := w1.heap.size) (o := 3) (v := .int .i64 pd) (by simp [go_sem]) (by simp)
  have kb0 := gb_cell g2 (b := w1.heap.size + 1) (o := 0) (v := .int .i64 qx) (by simp [go_sem]) (by simp)
  have kb1 := gb_cell g2 (b := w1.heap.size + 1) (o := 1) (v := .int .i64 qy) (by simp [go_sem]) (by simp)
  have kb2 := gb_cell g2 (b := w1.heap.size + 1) (o := 2) (v := .int .i64 qw) (by simp [go_sem]) (by simp)
  have kb3 := gb_cell g2 (b := w1.heap.size + 1) (o := 3) (v := .int .i64 qd) (by simp [go_sem]) (by simp)
  have G2 := Lib.hid (gb_trans (gb_alloc (gb_alloc G1.out (.cells #[.int .i64 px, .int .i64 py, .int .i64 pw, .int .i64 pd] 25)) (.cells #[.int .i64 qx, .int .i64 qy, .int .i64 qw, .int .i64 qd] 25)) g2)
  clear g2
  go_wp2_with fail
  refine (C2.out _).mono ?_
  rintro e w3 ⟨rfl, g3⟩
  have la0 := gb_cell g3 (b := w1.heap.size) (o := 0) (v := .int .i64 px) ka0 (by simp)
  have la1 := gb_cell g3 (b := w1.heap.size) (o := 1) (v := .int .i64 py) ka1 (by simp)
  have la2 := gb_cell g3 (b := w1.heap.size) (o := 2) (v := .int .i64 pw) ka2 (by simp)
  have la3 := gb_cell g3 (b := w1.heap.size) (o := 3) (v := .int .i64 pd) ka3 (by simp)
  have lb0 := gb_cell g3 (b := w1.heap.size + 1) (o := 0) (v := .int .i64 qx) kb0 (by simp)
  have lb1 := gb_cell g3 (b := w1.heap.size + 1) (o := 1) (v := .int .i64 qy) kb1 (by simp)
  have lb2 := gb_cell g3 (b := w1.heap.size + 1) (o := 2) (v := .int .i64 qw) kb2 (by simp)
  have lb3 := gb_cell g3 (b := w1.heap.size + 1) (o := 3) (v := .int .i64 qd) kb3 (by simp)
  clear ka0 ka1 ka2 ka3 kb0 kb1 kb2 kb3
  have G3 := Lib.hid (gb_trans G2.out g3)
  clear g3
  go_wp2_with fail
  refine (C3.out _).mono ?_
  rintro e w4 ⟨rfl, g4⟩
  have ma0 := gb_cell g4 (b := w1.heap.size) (o := 0) (v := .int .i64 px) la0 (by simp)
  have ma1 := gb_cell g4 (b := w1.heap.size) (o := 1) (v := .int .i64 py) la1 (by simp)
  have ma2 := gb_cell g4 (b := w1.heap.size) (o := 2) (v := .int .i64 pw) la2 (by simp)
  have ma3 := gb_cell g4 (b := w1.heap.size) (o := 3) (v := .int .i64 pd) la3 (by simp)
  have mb0 := gb_cell g4 (b := w1.heap.size + 1) (o := 0) (v := .int .i64 qx) lb0 (by simp)
  have mb1 := gb_cell g4 (b := w1.heap.size + 1) (o := 1) (v := .int .i64 qy) lb1 (by simp)
  have mb2 := gb_cell g4 (b := w1.heap.size + 1) (o := 2) (v := .int .i64 qw) lb2 (by simp)
  have mb3 := gb_cell g4 (b := w1.heap.size + 1) (o := 3) (v := .int .i64 qd) lb3 (by simp)
  clear la0 la1 la2 la3 lb0 lb1 lb2 lb3
  have G4 := Lib.hid (gb_trans G3.out g4)
  clear g4
  by_cases hx : 0 ≤ px ∧ px ≤ 200
  rotate_left
  · have hvf := hv.out hx
    subst hvf
    by_cases hx1 : px < 0
    · go_wp2_with (go_at_call 15; refine (alive_any _).mono ?_; rintro e w' ⟨rfl, rfl⟩)
      go_ret
      exact ⟨rfl, gb_below G4.out⟩
    · have hx2 : 200 < px := by omega
      go_wp2_with (go_at_call 15; refine (alive_any _).mono ?_; rintro e w' ⟨rfl, rfl⟩)
      go_ret
      exact ⟨rfl, gb_below G4.out⟩
  obtain ⟨x1, x2⟩ := hx
  obtain ⟨⟨p1, p2⟩, ⟨p3, p4⟩, ⟨p5, p6⟩, ⟨p7, p8⟩⟩ := hp
  have hs4 : 0 < pw → 0 < pd → apartB ⟨px, py, pw, pd⟩ ⟨px, py, pw, pd⟩ = false := fun h1 h2 => apart_self ⟨px, py, pw, pd⟩ h1 h2
  have hs5 : px + pw ≤ 200 → apartB ⟨px, py, pw, pd⟩ ⟨px + pw, py, 1, 1⟩ = true := fun h => apart_side ⟨px, py, pw, pd⟩ (by unfold Bx.ok; simp only; omega) h
  have HS4 := Lib.hid hs4
  have HS5 := Lib.hid hs5
  clear hs4 hs5 C1 C2 C3
  have hsz : w1.heap.size < w4.heap.size := cell_lt ma0
  have hsz1 : w1.heap.size < w4.heap.size + 1 := by omega
  by_cases hs : 200 < px + pw
  · have h0 : 0 < pw := by omega
    have h0' : (pw == 0) = false := by simp; omega
    by_cases h1 : pd = 0
    · have h1' : (pd == 0) = true := by simp; omega
      clear h1
      go_wp2_with fail
      go_ret
      exact ⟨rfl, gb_below (gb_alloc G4.out _)⟩
    · have h1' : (pd == 0) = false := by simp; omega
      have hs4 := HS4.out h0 (by omega)
      rw [hs4] at C4
      clear h1 hs4
      go_wp2_with fail
      refine (C4.out _).mono ?_
      rintro e w5 ⟨rfl, g5⟩
      have s0 := gb_cell g5 (b := w4.heap.size) (o := 0) (v := .int .i64 (px + pw)) (by simp [go_sem]) (by simp)
      have s1 := gb_cell g5 (b := w4.heap.size) (o := 1) (v := .int .i64 py) (by simp [go_sem]) (by simp)
      have s2 := gb_cell g5 (b := w4.heap.size) (o := 2) (v := .int .i64 1) (by simp [go_sem]) (by simp)
      have s3 := gb_cell g5 (b := w4.heap.size) (o := 3) (v := .int .i64 1) (by simp [go_sem]) (by simp)
      have G5 := Lib.hid (gb_trans (gb_alloc G4.out (.cells #[.int .i64 (px + pw), .int .i64 py, .int .i64 1, .int .i64 1] 25)) g5)
      clear g5
      go_wp2_with fail
      go_ret
      exact ⟨rfl, gb_below G5.out⟩
  · have hle : px + pw ≤ 200 := by omega
    have hs5 := HS5.out hle
    rw [hs5] at C5
    clear hs5
    by_cases h0 : pw = 0
    · have h0' : (pw == 0) = true := by simp; omega
      clear h0
      go_wp2_with fail
      refine (C5.out _).mono ?_
      rintro e w6 ⟨rfl, g6⟩
      go_wp2_with fail
      go_ret
      exact ⟨rfl, gb_below (gb_trans (gb_alloc G4.out (.cells #[.int .i64 (px + pw), .int .i64 py, .int .i64 1, .int .i64 1] 25)) g6)⟩
    · have h0' : (pw == 0) = false := by simp; omega
      by_cases h1 : pd = 0
      · have h1' : (pd == 0) = true := by simp; omega
        clear h1
        go_wp2_with fail
        refine (C5.out _).mono ?_
        rintro e w6 ⟨rfl, g6⟩
        go_wp2_with fail
        go_ret
        exact ⟨rfl, gb_below (gb_trans (gb_alloc G4.out (.cells #[.int .i64 (px + pw), .int .i64 py, .int .i64 1, .int .i64 1] 25)) g6)⟩
      · have h1' : (pd == 0) = false := by simp; omega
        have hs4 := HS4.out (by omega) (by omega)
        rw [hs4] at C4
        clear h1 hs4 h0
        go_wp2_with fail
        refine (C4.out _).mono ?_
        rintro e w5 ⟨rfl, g5⟩
        have s0 := gb_cell g5 (b := w4.heap.size) (o := 0) (v := .int .i64 (px + pw)) (by simp [go_sem]) (by simp)
        have s1 := gb_cell g5 (b := w4.heap.size) (o := 1) (v := .int .i64 py) (by simp [go_sem]) (by simp)
        have s2 := gb_cell g5 (b := w4.heap.size) (o := 2) (v := .int .i64 1) (by simp [go_sem]) (by simp)
        have s3 := gb_cell g5 (b := w4.heap.size) (o := 3) (v := .int .i64 1) (by simp [go_sem]) (by simp)
        have na0 := gb_cell g5 (b := w1.heap.size) (o := 0) (v := .int .i64 px) (gb_cell (World.grownBy_alloc w4 _ none) ma0 (by simp)) (by simp)
        have na1 := gb_cell g5 (b := w1.heap.size) (o := 1) (v := .int .i64 py) (gb_cell (World.grownBy_alloc w4 _ none) ma1 (by simp)) (by simp)
        have na2 := gb_cell g5 (b := w1.heap.size) (o := 2) (v := .int .i64 pw) (gb_cell (World.grownBy_alloc w4 _ none) ma2 (by simp)) (by simp)
        have na3 := gb_cell g5 (b := w1.heap.size) (o := 3) (v := .int .i64 pd) (gb_cell (World.grownBy_alloc w4 _ none) ma3 (by simp)) (by simp)
        clear ma0 ma1 ma2 ma3 mb0 mb1 mb2 mb3
        have G5 := Lib.hid (gb_trans (gb_alloc G4.out (.cells #[.int .i64 (px + pw), .int .i64 py, .int .i64 1, .int .i64 1] 25)) g5)
        clear g5
        go_wp2_with fail
        refine (C5.out _).mono ?_
        rintro e w6 ⟨rfl, g6⟩
        go_wp2_with fail
        go_ret
        exact ⟨rfl, gb_below (gb_trans G5.out g6)⟩
end Go.Proofs.Ytbpfihklbmephaa
namespace Go.Proofs.Ytbpfihklbmephaa.fnBoxesApartDone
open Go Go.ChangeShapes Go.WideShapes Go.ChangeAt Go.RowKit Go.Proofs.Ytbpfihklbmephaa
set_option linter.unusedVariables false
theorem own : ownKnob Try.prog.godebug = none := by kernel_rfl
theorem laidOut : laidOutB Try.prog = true := by kernel_rfl
set_option maxRecDepth 100000 in
theorem lifted (os : Os) (started : os.Started) (H : Type) (enc : TypeId × Value → H) :
    ReturnsInHanded {} Try.checked os 4 .any (Rows.fnBoxesApartSpec.pre6 enc Try.prog Try.f4 Rows.fnBoxesApartRow.domain false) (Rows.fnBoxesApartSpec.post enc Try.prog Try.f4 false true false false) := by
  refine returnsInHanded_of_change (C := Try.checked) own started (by kernel_rfl) Try.func4
    (ChangeSpec.witness6 (enc := enc) (C := Try.checked) false ⟨#[], #[.slice none 0 0], []⟩ 8 (by kernel_rfl) (by kernel_rfl) (by kernel_rfl) (by kernel_rfl)) ?_
  intro W base args ds gs before hval0 hW hcnd _
  have hval : ∀ (j : Nat) t v, Try.f4.params[j]? = some t → args[j]? = some v → Value.okWide Try.prog W .any base t v := hval0
  have hW' := hW
  obtain ⟨p, q, hA0, hV, rfl, hfz, hnd⟩ := hW
  have hA : DataW.TrodAll enc Try.prog W 0 (fun _ => true) true Try.f4.params.toList args.toList ds p := hA0
  rw [Try.params4] at hA hval
  obtain ⟨v0, vs0, d0, ds0, p0, q0, hargs, rfl, rfl, h0, r0⟩ := trodAll_cons hA
  obtain ⟨rfl, rfl, rfl⟩ := trodAll_nil r0
  obtain rfl : args = #[v0] := by cases args; simp_all
  obtain ⟨rfl, rfl⟩ := trodVars_none hV
  obtain ⟨a0, len0, cap0, rfl⟩ := okWide_slice Try.underlying28 (hval 0 28 v0 rfl rfl)
  have k0 := h0
  have lt0 : ∀ x ∈ p0, x.block < W.heap.size := by obtain ⟨m, hm⟩ := k0; exact DataW.trod_lt m _ _ _ hm
  have w0 : Byts W a0 len0 cap0 := by
    obtain ⟨fuel, hf⟩ := h0
    rcases open_ints Try.underlying28 Try.underlying5 (by kernel_rfl) hf with ⟨hcs, _⟩ | ⟨x, l, c, zs, hcs, _, hl, hm, hz, _, hcell, hwz⟩
    · simp [Value.cells] at hcs
      obtain ⟨rfl, rfl, rfl⟩ := hcs
      exact byts_nil W
    · simp [Value.cells] at hcs
      obtain ⟨rfl, rfl, rfl⟩ := hcs
      exact byts_of hl hm (by simpa using hz) hcell hwz
  clear hA0 hval0
  refine (law_FnBoxesApart a0 len0 cap0 W w0).mono fun e W' ⟨he, bel⟩ => ?_
  subst he
  exact ⟨_, rfl, _, _, _, [], _, [], hW', trodAll_mk1 (shut_bool Try.underlying4 _), (trodAll_cons_mk (Below.trod laidOut (by kernel_rfl) (of_decide_eq_true (by kernel_rfl)) k0 bel lt0) trodAll_mk0), rfl, bel.frame _, fun h => by cases h⟩
theorem over : Rows.fnBoxesApartRow.holds Try.pinned (OpenSpec.ofChange Rows.fnBoxesApartSpec) :=
  OpenClaim.holds_of_wide 4 Try.f4 rfl rfl rfl rfl rfl rfl rfl ⟨rfl, rfl, rfl, rfl, rfl⟩ rfl rfl rfl rfl rfl (by kernel_rfl) Try.func4 (by kernel_rfl)
    (of_decide_eq_true (by kernel_rfl)) (by unfold Func.isWrapper; first | (rw [if_pos (by decide +kernel)]; kernel_rfl) | (rw [if_neg (by decide +kernel)]; exact ⟨rfl, rfl⟩))
    (fun os started H enc _ => lifted os started H enc)
theorem proved : Rows.FnBoxesApartSaid := over
#print axioms proved
end Go.Proofs.Ytbpfihklbmephaa.fnBoxesApartDone
