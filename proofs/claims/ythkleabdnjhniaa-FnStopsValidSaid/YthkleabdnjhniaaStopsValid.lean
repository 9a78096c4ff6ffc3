/-
  FnStopsValid: for every code the law on valid stops returns true; nothing that was there is written. No condition.
-/
import Derived.Test.YthkleabdnjhniaaStopsDraw
import Derived.Test.YthkleabdnjhniaaStops
import Derived.Test.YthkleabdnjhniaaRows
import Derived.ProofKit
import Derived.OpenShut
import Derived.ShutString
import Derived.ChangeOld
namespace Go.Proofs.Ythkleabdnjhniaa
open Go Go.RowKit
set_option linter.unusedVariables false
theorem stopsB_one {xs : List Pt} (h : stopsB xs = true) : stopsB (xs.take 1) = true := by
  have hl := stopsB_len h
  have hp := stopsB_pts h
  unfold stopsB
  rw [Bool.and_eq_true]
  refine ⟨inB_t.2 (by simp; omega), ?_⟩
  unfold ptsB at hp ⊢
  rw [List.all_eq_true] at hp ⊢
  exact fun p h => hp p (List.mem_of_mem_take h)
set_option maxHeartbeats 8000000 in
theorem law_FnStopsValid (a : Option Addr) (len cap : Nat) (w : World) (hw : Byts w a len cap) :
    Calls Try.prog 4 #[.slice a len cap] w fun e w' => e = .returned (.bool true) ∧ Below w.heap.size w w' := by
  have HB := Lib.hid hw; have hm : len ≤ 9223372036854775807 := (by have := hw.1; have := hw.2.1; unfold maxLen at this; omega); clear hw; by_cases hl : 1048576 < len; (go_enter Try.func4, Try.ntmps4; go_wp2_with fail; go_ret; exact ⟨rfl, Below.refl _ _⟩)
  go_enter Try.func4, Try.ntmps4
  go_wp2_with fail
  refine (DrawStopsValid_any _ _ _ _ HB.out).mono ?_
  rintro e w1 ⟨v, xs, rfl, hxl, S⟩
  obtain ⟨va, vn, vc, rfl, hvc, hvm, HVN, -⟩ := LPt_own S
  go_wp2_with fail
  refine (i_StopsValid _ xs _ (St.own S)).mono ?_
  rintro e w2 ⟨rfl, T⟩
  replace S := S.grow T
  clear T
  go_wp2_with fail
  refine (s_StopsValid _ xs _ (St.own S)).mono ?_
  rintro e w3 ⟨rfl, T⟩
  replace S := S.grow T
  clear T
  have N1 := Lib.hid (show stopsB ([] : List Pt) = false by rfl)
  cases hs : stopsB xs with
  | false =>
    go_wp2_with fail
    refine (i_StopsValid (.slice none 0 0) [] _ (Rds.nil LPt _)).mono ?_
    rintro e w4 ⟨rfl, T⟩
    replace S := S.grow T
    clear T
    rw [N1.out]
    go_wp2_with (go_at_call 19; refine (alive_any _).mono ?_; rintro e w' ⟨rfl, rfl⟩)
    go_ret
    exact ⟨rfl, S.below⟩
  | true =>
    have h1 := stopsB_len hs
    rw [← HVN.out] at h1
    have hv1 : 1 ≤ vn := h1.1
    have hv2 : 1 ≤ vc := by omega
    clear h1
    have N2 := Lib.hid (stopsB_one hs)
    clear hs
    go_wp2_with fail
    refine (i_StopsValid (.slice none 0 0) [] _ (Rds.nil LPt _)).mono ?_
    rintro e w4 ⟨rfl, T⟩
    replace S := S.grow T
    clear T
    rw [N1.out]
    go_wp2_with fail
    refine (i_StopsValid _ _ _ (Rds.take (St.own S) 1 (by omega))).mono ?_
    rintro e w5 ⟨rfl, T⟩
    replace S := S.grow T
    clear T
    rw [N2.out]
    go_wp2_with (go_at_call 19; refine (alive_any _).mono ?_; rintro e w' ⟨rfl, rfl⟩)
    go_ret
    exact ⟨rfl, S.below⟩
end Go.Proofs.Ythkleabdnjhniaa
namespace Go.Proofs.Ythkleabdnjhniaa.fnStopsValidDone
open Go Go.ChangeShapes Go.WideShapes Go.ChangeAt Go.RowKit Go.Proofs.Ythkleabdnjhniaa
set_option linter.unusedVariables false
theorem own : ownKnob Try.prog.godebug = none := by kernel_rfl
theorem laidOut : laidOutB Try.prog = true := by kernel_rfl
set_option maxRecDepth 100000 in
theorem lifted (os : Os) (started : os.Started) (H : Type) (enc : TypeId × Value → H) :
    ReturnsInHanded {} Try.checked os 4 .any (Rows.fnStopsValidSpec.pre6 enc Try.prog Try.f4 Rows.fnStopsValidRow.domain false) (Rows.fnStopsValidSpec.post enc Try.prog Try.f4 false true false false) := by
  refine returnsInHanded_of_change (C := Try.checked) own started (by kernel_rfl) Try.func4
    (ChangeSpec.witness6 (enc := enc) (C := Try.checked) false ⟨#[], #[.slice none 0 0], []⟩ 8 (by kernel_rfl) (by kernel_rfl) (by kernel_rfl) (by kernel_rfl)) ?_
  intro W base args ds gs before hval0 hW hcnd _
  have hval : ∀ (j : Nat) t v, Try.f4.params[j]? = some t → args[j]? = some v → Value.okWide Try.prog W .any base t v := hval0
  have hW' := hW
  obtain ⟨p, q, hA0, hV, rfl, hfz, hnd⟩ := hW
  have hA : DataW.TrodAll enc Try.prog W 0 (fun _ => true) true Try.f4.params.toList args.toList ds p := hA0
  rw [Try.params4] at hA hval
  obtain ⟨v0, vs0, d0, ds0, p0, q0, hargs, rfl, rfl, h0, r0⟩ := trodAll_cons hA
  obtain ⟨rfl, rfl, rfl⟩ := trodAll_nil r0
  obtain rfl : args = #[v0] := by cases args; simp_all
  obtain ⟨rfl, rfl⟩ := trodVars_none hV
  obtain ⟨a0, len0, cap0, rfl⟩ := okWide_slice Try.underlying29 (hval 0 29 v0 rfl rfl)
  have k0 := h0
  have lt0 : ∀ x ∈ p0, x.block < W.heap.size := by obtain ⟨m, hm⟩ := k0; exact DataW.trod_lt m _ _ _ hm
  have w0 : Byts W a0 len0 cap0 := by
    obtain ⟨fuel, hf⟩ := h0
    rcases open_ints Try.underlying29 Try.underlying5 (by kernel_rfl) hf with ⟨hcs, _⟩ | ⟨x, l, c, zs, hcs, _, hl, hm, hz, _, hcell, hwz⟩
    · simp [Value.cells] at hcs
      obtain ⟨rfl, rfl, rfl⟩ := hcs
      exact byts_nil W
    · simp [Value.cells] at hcs
      obtain ⟨rfl, rfl, rfl⟩ := hcs
      exact byts_of hl hm (by simpa using hz) hcell hwz
  clear hA0 hval0
  refine (law_FnStopsValid a0 len0 cap0 W w0).mono fun e W' ⟨he, bel⟩ => ?_
  subst he
  exact ⟨_, rfl, _, _, _, [], _, [], hW', trodAll_mk1 (shut_bool Try.underlying4 _), (trodAll_cons_mk (Below.trod laidOut (by kernel_rfl) (of_decide_eq_true (by kernel_rfl)) k0 bel lt0) trodAll_mk0), rfl, bel.frame _, fun h => by cases h⟩
theorem over : Rows.fnStopsValidRow.holds Try.pinned (OpenSpec.ofChange Rows.fnStopsValidSpec) :=
  OpenClaim.holds_of_wide 4 Try.f4 rfl rfl rfl rfl rfl rfl rfl ⟨rfl, rfl, rfl, rfl, rfl⟩ rfl rfl rfl rfl rfl (by kernel_rfl) Try.func4 (by kernel_rfl)
    (of_decide_eq_true (by kernel_rfl)) (by unfold Func.isWrapper; first | (rw [if_pos (by decide +kernel)]; kernel_rfl) | (rw [if_neg (by decide +kernel)]; exact ⟨rfl, rfl⟩))
    (fun os started H enc _ => lifted os started H enc)
theorem proved : Rows.FnStopsValidSaid := over
#print axioms proved
end Go.Proofs.Ythkleabdnjhniaa.fnStopsValidDone
