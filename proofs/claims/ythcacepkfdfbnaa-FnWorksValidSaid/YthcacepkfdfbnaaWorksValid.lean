/-
  FnWorksValid: for every code the law on valid steps returns true; nothing that was there is written. No condition.
-/
import Derived.Test.YthcacepkfdfbnaaWksDraws
import Derived.Test.YthcacepkfdfbnaaCycPlain
import Derived.Test.YthcacepkfdfbnaaMem2
import Derived.Test.YthcacepkfdfbnaaRows
import Derived.ProofKit
import Derived.OpenShut
import Derived.ShutString
import Derived.ChangeOld
namespace Go.Proofs.Ythcacepkfdfbnaa
open Go Go.RowKit
set_option linter.unusedVariables false
set_option maxHeartbeats 8000000 in
theorem law_FnWorksValid (a : Option Addr) (len cap : Nat) (w : World) (hw : Byts w a len cap) :
    Calls Try.prog 4 #[.slice a len cap] w fun e w' => e = .returned (.bool true) ∧ Below w.heap.size w w' := by
  have HB := Lib.hid hw; have hm : len ≤ 9223372036854775807 := (by have := hw.1; have := hw.2.1; unfold maxLen at this; omega); clear hw; by_cases hl : 1048576 < len; (go_enter Try.func4, Try.ntmps4; go_wp2_with fail; go_ret; exact ⟨rfl, Below.refl _ _⟩)
  go_enter Try.func4, Try.ntmps4
  go_wp2_with fail
  refine (DrawWorksValid_any _ _ _ _ HB.out).mono ?_
  rintro e w1 ⟨v, ys, rfl, hyl, -, S⟩
  obtain ⟨va, vn, vc, rfl, hvc, hvm, HVN, -⟩ := (St.drds S).get
  go_wp2_with fail
  refine (i_WorksValid _ ys _ (St.drds S)).mono ?_
  rintro e w2 ⟨rfl, T⟩
  replace S := S.grow T
  clear T
  go_wp2_with fail
  refine (s_WorksValid _ ys _ (St.drds S)).mono ?_
  rintro e w3 ⟨rfl, T⟩
  replace S := S.grow T
  clear T
  have hvn8 : vn ≤ 8 := by have := HVN.out; omega
  have NO := Lib.hid (worksB_self (ys := ys) vn HVN.out)
  obtain ⟨xs, hR, hxl, hrd⟩ := St.drds S
  have hxs8 : ([] : List (Int × Sl)).length + xs.length ≤ 1099511627776 := by simp; omega
  have hxs9 : ([] ++ xs).length ≤ 1000000000 := by simp; omega
  have HXL := Lib.hid hxl
  have HRD := Lib.hid hrd
  have HR := Lib.hid hR
  clear hxl hrd hR
  have S0 := Lib.hid (St.refl w3)
  have hone : 1 ≤ maxLen := by unfold maxLen; omega
  have hi2 : IntKind.i64.wrap (Int.tdiv (vn : Int) 2) = ((vn / 2 : Nat) : Int) := by rw [Int.tdiv_eq_ediv_of_nonneg (by omega), IntWalk.i64_in _ (by omega)]; omega
  have hle : vn / 2 ≤ vc := by omega
  have FIN : RowKit.Hid (∀ (H : Nat) (w6 : World) v6 Ms, St w3 w6 (Own LWk v6 (([] ++ xs) ++ [((1 : Int), ((some ⟨H, 0, none⟩ : Option Addr), 1, 1))]) :: Own LI (.slice (some ⟨H, 0, none⟩) 1 1) [(vn : Int)] :: Ms) → DRds LWk DWk w6 v6 (ys ++ [⟨1, [(vn : Int)]⟩])) := by
    intro H w6 v6 Ms Q
    exact drds_app1 (xs := xs) HXL.out HRD.out (St.gb Q) (St.own Q) ⟨rfl, St.own (St.tail Q)⟩
  cases hs : worksB ys with
  | false =>
    go_wp2_with (first
      | (at_builtin; refine wpList_appRG LWk_info rfl _ _ rfl (S0.out.ownEmpty LWk) xs _ (HR.out.kept (St.gb (S0.out.ownEmpty LWk))) rfl rfl hxs8 ?_; intro v4 w4 S4)
      | (at_builtin; refine wpList_app1G LWk_info rfl _ _ rfl (S4.ownLitAt LI [(vn : Int)] #[.int .i64 vn] rfl hone _ rfl).swap ((1 : Int), ((some ⟨w4.heap.size, 0, none⟩ : Option Addr), 1, 1)) #[.int .i64 1, .slice (some ⟨w4.heap.size, 0, none⟩) 1 1] rfl rfl (by simp [Act.eval]) hxs9 ?_; intro v6 w6 S6))
    refine (i_WorksValid _ _ _ (FIN.out _ _ _ _ S6)).mono ?_
    rintro e w7 ⟨rfl, T⟩
    replace S := (S.grow (St.gb S6)).grow T
    clear T S6 S4
    rw [NO.out]
    go_wp2_with (go_at_call 19; refine (alive_any _).mono ?_; rintro e w' ⟨rfl, rfl⟩)
    go_ret
    exact ⟨rfl, S.below⟩
  | true =>
    have PART := Lib.hid (worksB_part hs (vn / 2))
    clear hs
    have R2 := Lib.hid (DRds.take (St.drds S) (vn / 2) (by omega))
    go_wp2_with fail
    refine (i_WorksValid _ _ _ R2.out).mono ?_
    rintro e w8 ⟨rfl, T⟩
    replace S := S.grow T
    have HRD2 : RowKit.Hid (∀ (k : Nat) (x : Int × Sl) (y : Wk), xs[k]? = some x → ys[k]? = some y → DWk.rd w8 x y) := fun k x y hx hy => DWk.kept (HRD.out k x y hx hy) T
    have HR2 := Lib.hid (HR.out.kept T)
    have S1 := Lib.hid (St.refl w8)
    clear T FIN
    have FIN : RowKit.Hid (∀ (H : Nat) (w6 : World) v6 Ms, St w8 w6 (Own LWk v6 (([] ++ xs) ++ [((1 : Int), ((some ⟨H, 0, none⟩ : Option Addr), 1, 1))]) :: Own LI (.slice (some ⟨H, 0, none⟩) 1 1) [(vn : Int)] :: Ms) → DRds LWk DWk w6 v6 (ys ++ [⟨1, [(vn : Int)]⟩])) := by
      intro H w6 v6 Ms Q
      exact drds_app1 (xs := xs) HXL.out HRD2.out (St.gb Q) (St.own Q) ⟨rfl, St.own (St.tail Q)⟩
    rw [PART.out]
    go_wp2_with (first
      | (at_builtin; refine wpList_appRG LWk_info rfl _ _ rfl (S1.out.ownEmpty LWk) xs _ (HR2.out.kept (St.gb (S1.out.ownEmpty LWk))) rfl rfl hxs8 ?_; intro v4 w4 S4)
      | (at_builtin; refine wpList_app1G LWk_info rfl _ _ rfl (S4.ownLitAt LI [(vn : Int)] #[.int .i64 vn] rfl hone _ rfl).swap ((1 : Int), ((some ⟨w4.heap.size, 0, none⟩ : Option Addr), 1, 1)) #[.int .i64 1, .slice (some ⟨w4.heap.size, 0, none⟩) 1 1] rfl rfl (by simp [Act.eval]) hxs9 ?_; intro v6 w6 S6))
    refine (i_WorksValid _ _ _ (FIN.out _ _ _ _ S6)).mono ?_
    rintro e w7 ⟨rfl, T⟩
    replace S := (S.grow (St.gb S6)).grow T
    clear T S6 S4
    rw [NO.out]
    go_wp2_with (go_at_call 19; refine (alive_any _).mono ?_; rintro e w' ⟨rfl, rfl⟩)
    go_ret
    exact ⟨rfl, S.below⟩
end Go.Proofs.Ythcacepkfdfbnaa
namespace Go.Proofs.Ythcacepkfdfbnaa.fnWorksValidDone
open Go Go.ChangeShapes Go.WideShapes Go.ChangeAt Go.RowKit Go.Proofs.Ythcacepkfdfbnaa
set_option linter.unusedVariables false
theorem own : ownKnob Try.prog.godebug = none := by kernel_rfl
theorem laidOut : laidOutB Try.prog = true := by kernel_rfl
set_option maxRecDepth 100000 in
theorem lifted (os : Os) (started : os.Started) (H : Type) (enc : TypeId × Value → H) :
    ReturnsInHanded {} Try.checked os 4 .any (Rows.fnWorksValidSpec.pre6 enc Try.prog Try.f4 Rows.fnWorksValidRow.domain false) (Rows.fnWorksValidSpec.post enc Try.prog Try.f4 false true false false) := by
  refine returnsInHanded_of_change (C := Try.checked) own started (by kernel_rfl) Try.func4
    (ChangeSpec.witness6 (enc := enc) (C := Try.checked) false ⟨#[], #[.slice none 0 0], []⟩ 8 (by kernel_rfl) (by kernel_rfl) (by kernel_rfl) (by kernel_rfl)) ?_
  intro W base args ds gs before hval0 hW hcnd _
  have hval : ∀ (j : Nat) t v, Try.f4.params[j]? = some t → args[j]? = some v → Value.okWide Try.prog W .any base t v := hval0
  have hW' := hW
  obtain ⟨p, q, hA0, hV, rfl, hfz, hnd⟩ := hW
  have hA : DataW.TrodAll enc Try.prog W 0 (fun _ => true) true Try.f4.params.toList args.toList ds p := hA0
  rw [Try.params4] at hA hval
  obtain ⟨v0, vs0, d0, ds0, p0, q0, hargs, rfl, rfl, h0, r0⟩ := trodAll_cons hA
  obtain ⟨rfl, rfl, rfl⟩ := trodAll_nil r0
  obtain rfl : args = #[v0] := by cases args; simp_all
  obtain ⟨rfl, rfl⟩ := trodVars_none hV
  obtain ⟨a0, len0, cap0, rfl⟩ := okWide_slice Try.underlying29 (hval 0 29 v0 rfl rfl)
  have k0 := h0
  have lt0 : ∀ x ∈ p0, x.block < W.heap.size := by obtain ⟨m, hm⟩ := k0; exact DataW.trod_lt m _ _ _ hm
  have w0 : Byts W a0 len0 cap0 := by
    obtain ⟨fuel, hf⟩ := h0
    rcases open_ints Try.underlying29 Try.underlying5 (by kernel_rfl) hf with ⟨hcs, _⟩ | ⟨x, l, c, zs, hcs, _, hl, hm, hz, _, hcell, hwz⟩
    · simp [Value.cells] at hcs
      obtain ⟨rfl, rfl, rfl⟩ := hcs
      exact byts_nil W
    · simp [Value.cells] at hcs
      obtain ⟨rfl, rfl, rfl⟩ := hcs
      exact byts_of hl hm (by simpa using hz) hcell hwz
  clear hA0 hval0
  refine (law_FnWorksValid a0 len0 cap0 W w0).mono fun e W' ⟨he, bel⟩ => ?_
  subst he
  exact ⟨_, rfl, _, _, _, [], _, [], hW', trodAll_mk1 (shut_bool Try.underlying4 _), (trodAll_cons_mk (Below.trod laidOut (by kernel_rfl) (of_decide_eq_true (by kernel_rfl)) k0 bel lt0) trodAll_mk0), rfl, bel.frame _, fun h => by cases h⟩
theorem over : Rows.fnWorksValidRow.holds Try.pinned (OpenSpec.ofChange Rows.fnWorksValidSpec) :=
  OpenClaim.holds_of_wide 4 Try.f4 rfl rfl rfl rfl rfl rfl rfl ⟨rfl, rfl, rfl, rfl, rfl⟩ rfl rfl rfl rfl rfl (by kernel_rfl) Try.func4 (by kernel_rfl)
    (of_decide_eq_true (by kernel_rfl)) (by unfold Func.isWrapper; first | (rw [if_pos (by decide +kernel)]; kernel_rfl) | (rw [if_neg (by decide +kernel)]; exact ⟨rfl, rfl⟩))
    (fun os started H enc _ => lifted os started H enc)
theorem proved : Rows.FnWorksValidSaid := over
#print axioms proved
end Go.Proofs.Ythcacepkfdfbnaa.fnWorksValidDone
