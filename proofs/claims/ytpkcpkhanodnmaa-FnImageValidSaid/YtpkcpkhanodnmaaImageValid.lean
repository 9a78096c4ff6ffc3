/-
  FnImageValid: for every code the law on valid pictures returns true; nothing that was there is written. No condition.
-/
import Derived.Test.YtpkcpkhanodnmaaImgDraws
import Derived.Test.YtpkcpkhanodnmaaImage
import Derived.Test.YtpkcpkhanodnmaaOpen
import Derived.Test.YtpkcpkhanodnmaaRows
import Derived.Deep.OwnRows
import Derived.ProofKit
import Derived.OpenShut
import Derived.ShutString
import Derived.ChangeOld
namespace Go.Proofs.Ytpkcpkhanodnmaa
open Go Go.RowKit
set_option linter.unusedVariables false
theorem headD_append {α : Type} (ys zs : List α) (d : α) (h : 1 ≤ ys.length) : (ys ++ zs).headD d = ys.headD d := by
  cases ys with
  | nil => simp at h
  | cons a ys => rfl
theorem headD_take {α : Type} (ys : List α) (k : Nat) (d : α) (h : 1 ≤ k) : (ys.take k).headD d = ys.headD d := by
  cases ys with
  | nil => simp
  | cons a ys =>
    cases k with
    | zero => omega
    | succ k => rfl
theorem imgB_odd {ys : List (List Bool)} (h : imgB ys = true) : imgB (ys ++ [List.replicate ((ys.headD []).length + 1) false]) = false := by
  rw [imgB_t] at h
  rw [imgB_f]
  intro h2
  have h3 := h2.2.2 ys.length (List.replicate ((ys.headD []).length + 1) false) (by rw [List.getElem?_append_right (by omega)]; simp)
  rw [headD_append _ _ _ h.1] at h3
  have := h3.2.2
  rw [List.length_replicate] at this
  omega
theorem imgB_part {ys : List (List Bool)} (h : imgB ys = true) (k : Nat) (hk : 1 ≤ k) : imgB (ys.take k) = true := by
  rw [imgB_t] at h ⊢
  refine ⟨by have := h.1; simp; omega, by have := h.2.1; simp; omega, fun j y hy => ?_⟩
  rw [headD_take _ _ _ hk]
  rw [List.getElem?_take] at hy
  split at hy
  · exact h.2.2 j y hy
  · simp at hy
/-- A copy of the rows' places with one more row, as data. -/
theorem drds_more {γ : Type} {L : Lay γ} {T : TypeId} {w w2 : World} {v : Value} {xs : List Sl} {ys : List (List γ)} {x : Sl} {y : List γ} (hl : xs.length = ys.length) (hr : ∀ (k : Nat) x y, xs[k]? = some x → ys[k]? = some y → Rds L w x.val y) (hg : w.grownBy w2 none)
    (hv : Rds (LSl T) w2 v (xs ++ [x])) (hx : Rds L w2 x.val y) : DRds (LSl T) (DRow L) w2 v (ys ++ [y]) := by
  refine ⟨xs ++ [x], hv, by simp [hl], fun k a b ha hb => ?_⟩
  by_cases hk : k < xs.length
  · rw [List.getElem?_append_left hk] at ha
    rw [List.getElem?_append_left (by omega)] at hb
    exact (hr k a b ha hb).kept hg
  · have hka : k < (xs ++ [x]).length := (List.getElem?_eq_some_iff.1 ha).1
    obtain rfl : k = xs.length := by simp at hka; omega
    rw [List.getElem?_append_right (Nat.le_refl _)] at ha
    rw [List.getElem?_append_right (by omega)] at hb
    simp at ha
    rw [← hl] at hb
    simp at hb
    subst ha hb
    exact hx
theorem heap_alloc_at (w : World) (o : Obj) (n : Nat) (h : n = w.heap.size) : (w.alloc o).heap[n]? = some o := by
  rw [h]
  exact heap_alloc_new w o
set_option maxHeartbeats 8000000 in
theorem law_FnImageValid (a : Option Addr) (len cap : Nat) (w : World) (hw : Byts w a len cap) :
    Calls Try.prog 5 #[.slice a len cap] w fun e w' => e = .returned (.bool true) ∧ Below w.heap.size w w' := by
  have HB := Lib.hid hw; have hm : len ≤ 9223372036854775807 := (by have := hw.1; have := hw.2.1; unfold maxLen at this; omega); clear hw; by_cases hl : 1048576 < len; (go_enter Try.func5, Try.ntmps5; go_wp2_with fail; go_ret; exact ⟨rfl, Below.refl _ _⟩)
  go_enter Try.func5, Try.ntmps5
  go_wp2_with fail
  refine (DrawImageValid_any _ _ _ _ HB.out).mono ?_
  rintro e w1 ⟨v, ys, rfl, hyl, hyt, S⟩
  obtain ⟨va, vn, vc, rfl, hvc, hvm, HVN, -⟩ := (St.drds S).rows
  go_wp2_with fail
  refine (i_ImageValid _ ys _ (St.drds S)).mono ?_
  rintro e w2 ⟨rfl, T⟩
  replace S := S.grow T
  clear T
  go_wp2_with fail
  refine (s_ImageValid _ ys _ (St.drds S)).mono ?_
  rintro e w3 ⟨rfl, T⟩
  replace S := S.grow T
  clear T
  cases hs : imgB ys with
  | false =>
    go_wp2_with (go_at_call 24; refine (alive_any _).mono ?_; rintro e w' ⟨rfl, rfl⟩)
    go_ret
    exact ⟨rfl, S.below⟩
  | true =>
    have hok := imgB_t.1 hs
    have hv1 : 1 ≤ vn := by have := hok.1; have := HVN.out; omega
    have NO := Lib.hid (imgB_odd hs)
    have PART := Lib.hid (imgB_part hs)
    have HOK := Lib.hid hok
    clear hs hok
    obtain ⟨xs, hR, hxl, hrd⟩ := St.drds S
    have hR0 := hR
    obtain ⟨va', vn', vc', hv', -, -, HN2, HC2⟩ := hR.get1 (c := fun x => Value.slice x.1 x.2.1 x.2.2) rfl (fun _ => rfl)
    simp only [Value.slice.injEq] at hv'
    obtain ⟨rfl, rfl, rfl⟩ := hv'
    obtain ⟨b, off, ⟨ra, rn, rc⟩, rfl, hb, hx0, hc0⟩ := HC2.out 0 hv1
    rw [Nat.add_zero] at hc0
    have hx0' := hx0.out
    have hxn := HN2.out
    have hy0 : ys[0]? = some (ys.headD []) := by
      cases ys with
      | nil => rw [hxl] at hxn; simp at hxn; omega
      | cons y ys => rfl
    have hrow := hrd 0 _ _ hx0' hy0
    have hrn : rn = (ys.headD []).length := by
      obtain ⟨_, _, hh, _⟩ := hrow
      simp only [Sl.val, Value.slice.injEq] at hh
      exact hh.2.1
    have hrn16 : rn ≤ 16 := by
      have := (HOK.out.2.2 0 _ hy0).2.1
      omega
    have hmk : ∀ w : World, (Instr.makeSlice 39 (.int .i64 ((rn : Int) + 1)) (.int .i64 ((rn : Int) + 1))).run Try.prog w = .ok (.slice (some ⟨w.heap.size, 0, none⟩) (rn + 1) (rn + 1)) (w.alloc (.cells (madeCells #[.bool false] (rn + 1)) 4)) := fun w =>
      run_make_row' (P := Try.prog) 39 4 (.bool false) 1 (by kernel_rfl) (by kernel_rfl) rfl .i64 .i64 (rn + 1) (by omega) (by omega) w
    have hvn17 : vn ≤ 17 := by omega
    have hxs17 : xs.length ≤ 17 := by omega
    have hxsa : ([] : List Sl).length + xs.length ≤ 1099511627776 := by simp; omega
    have hxsb : ([] ++ xs).length ≤ 1000000000 := by simp; omega
    have i1 : IntKind.i64.wrap ((rn : Int) + 1) = (rn : Int) + 1 := by rw [IntWalk.i64_in _ (by omega)]
    have HRD := Lib.hid hrd
    have HRN := Lib.hid hrn
    have HXN := Lib.hid hxn
    have HXL := Lib.hid hxl
    have HR := Lib.hid hR0
    clear HC2 HN2 hx0 hx0' hxn hy0 hrow hrn hrd hxl hR0
    have MK : RowKit.Hid (∀ w' Ls H, H = w'.heap.size → St w3 w' Ls → St w3 (w'.alloc (.cells (madeCells #[.bool false] (rn + 1)) 4)) (Own LB (.slice (some ⟨H, 0, none⟩) (rn + 1) (rn + 1)) (List.replicate (rn + 1) false) :: Ls)) := by
      intro w' Ls H hH Q
      have e := madeCells_flat (L := LB) (x0 := false) #[.bool false] rfl (rn + 1)
      rw [show (rn + 1) * LB.s = rn + 1 from Nat.mul_one _] at e
      have := Q.ownLitAt LB (List.replicate (rn + 1) false) (madeCells #[.bool false] (rn + 1)) e (by simp; unfold maxLen; omega) H hH
      rw [List.length_replicate] at this
      exact this
    have z1 : ∀ o, w3.heap.size + 1 = (w3.alloc o).heap.size := fun o => by simp
    have z2 : ∀ o o', w3.heap.size + 2 = ((w3.alloc o).alloc o').heap.size := fun o o' => by simp
    have Z1 := Lib.hid z1
    have Z2 := Lib.hid z2
    clear z1 z2
    have NO2 : RowKit.Hid (imgB (ys ++ [List.replicate (rn + 1) false]) = false) := by have := NO.out; rw [← HRN.out] at this; exact this
    have S0 := Lib.hid (St.refl w3)
    have hv1i : (0 : Int) < (vn : Int) := by omega
    have hv1n : 0 < vn := by omega
    go_wp2_with fail
    have hxsc : ([] ++ xs).length + 1 ≤ 1099511627776 := by simp; omega
    have hone : 1 ≤ maxLen := by unfold maxLen; omega
    go_region_held3 (fun w' => w'.cell? ⟨b, off, none⟩ = some (.slice ra rn rc)) (first | (exact gb_cell (row := none) (gb_drew (World.grownBy.refl _ _)) hc0 (by simp)) | (exact gb_cell (row := none) (gb_drew (gb_alloc (World.grownBy.refl _ _) _)) hc0 (by simp)) | (exact gb_cell (row := none) (gb_drew (gb_alloc (gb_alloc (World.grownBy.refl _ _) _) _)) hc0 (by simp)) | (exact gb_cell (row := none) (gb_drew (gb_alloc (gb_alloc (gb_alloc (World.grownBy.refl _ _) _) _) _)) hc0 (by simp)) | (exact gb_cell (row := none) (St.gb (by with_reducible assumption)) hc0 (by simp)) | (exact gb_cell (row := none) (gb_alloc (St.gb (by with_reducible assumption)) _) hc0 (by simp)) | (exact gb_cell (row := none) (gb_alloc (gb_alloc (St.gb (by with_reducible assumption)) _) _) hc0 (by simp)) | (exact gb_cell (row := none) GB.out hc0 (by simp)) | go_keep)
      (first
        | (refine step_appR LSB_info rfl _ _ rfl (S0.out.ownEmpty LSB).drew xs _ (HR.out.kept (St.gb (S0.out.ownEmpty LSB).drew)) rfl rfl hxsa ?_; intro v4 w4 S4)
        | (refine step_appR LSB_info rfl _ _ rfl (MK.out _ _ (w3.heap.size + 1) (Z1.out _) (S0.out.ownEmpty LSB)).swap.drew xs _ (HR.out.kept (St.gb (MK.out _ _ (w3.heap.size + 1) (Z1.out _) (S0.out.ownEmpty LSB)).swap.drew)) rfl rfl hxsa ?_; intro v4 w4 S5)
        | (refine step_appR LSB_info rfl _ _ rfl ((MK.out _ _ (w3.heap.size) rfl (S0.out)).ownEmptyAt LSB (w3.heap.size + 1) (Z1.out _)).drew xs _ (HR.out.kept (St.gb ((MK.out _ _ (w3.heap.size) rfl (S0.out)).ownEmptyAt LSB (w3.heap.size + 1) (Z1.out _)).drew)) rfl rfl hxsa ?_; intro v4 w4 S5)
        | (refine step_appR LSB_info rfl _ _ rfl ((MK.out _ _ (w3.heap.size + 1) (Z1.out _) (S0.out.ownEmpty LSB)).ownLitAt LSB [(some ⟨w3.heap.size + 1, 0, none⟩, rn + 1, rn + 1)] #[.slice (some ⟨w3.heap.size + 1, 0, none⟩) (rn + 1) (rn + 1)] rfl hone (w3.heap.size + 2) (Z2.out _ _)).rot.drew xs _ (HR.out.kept (St.gb ((MK.out _ _ (w3.heap.size + 1) (Z1.out _) (S0.out.ownEmpty LSB)).ownLitAt LSB [(some ⟨w3.heap.size + 1, 0, none⟩, rn + 1, rn + 1)] #[.slice (some ⟨w3.heap.size + 1, 0, none⟩) (rn + 1) (rn + 1)] rfl hone (w3.heap.size + 2) (Z2.out _ _)).rot.drew)) rfl rfl hxsa ?_; intro v4 w4 S7)
        | (refine step_appR LSB_info rfl _ _ rfl (((MK.out _ _ (w3.heap.size) rfl (S0.out)).ownEmptyAt LSB (w3.heap.size + 1) (Z1.out _)).ownLitAt LSB [(some ⟨w3.heap.size, 0, none⟩, rn + 1, rn + 1)] #[.slice (some ⟨w3.heap.size, 0, none⟩) (rn + 1) (rn + 1)] rfl hone (w3.heap.size + 2) (Z2.out _ _)).swap.drew xs _ (HR.out.kept (St.gb (((MK.out _ _ (w3.heap.size) rfl (S0.out)).ownEmptyAt LSB (w3.heap.size + 1) (Z1.out _)).ownLitAt LSB [(some ⟨w3.heap.size, 0, none⟩, rn + 1, rn + 1)] #[.slice (some ⟨w3.heap.size, 0, none⟩) (rn + 1) (rn + 1)] rfl hone (w3.heap.size + 2) (Z2.out _ _)).swap.drew)) rfl rfl hxsa ?_; intro v4 w4 S8)
        | (refine step_appR LSB_info rfl _ _ rfl (((MK.out _ _ (w3.heap.size) rfl (S0.out)).ownLitAt LSB [(some ⟨w3.heap.size, 0, none⟩, rn + 1, rn + 1)] #[.slice (some ⟨w3.heap.size, 0, none⟩) (rn + 1) (rn + 1)] rfl hone (w3.heap.size + 1) (Z1.out _)).ownEmptyAt LSB (w3.heap.size + 2) (Z2.out _ _)).drew xs _ (HR.out.kept (St.gb (((MK.out _ _ (w3.heap.size) rfl (S0.out)).ownLitAt LSB [(some ⟨w3.heap.size, 0, none⟩, rn + 1, rn + 1)] #[.slice (some ⟨w3.heap.size, 0, none⟩) (rn + 1) (rn + 1)] rfl hone (w3.heap.size + 1) (Z1.out _)).ownEmptyAt LSB (w3.heap.size + 2) (Z2.out _ _)).drew)) rfl rfl hxsa ?_; intro v4 w4 S8)
        | (refine step_app1 LSB_info rfl _ _ rfl ((MK.out _ _ (w4.heap.size) rfl (S4)).swap.alloc _) (some ⟨w4.heap.size, 0, none⟩, rn + 1, rn + 1) ⟨w4.heap.size + 1, 0, none⟩ #[.slice (some ⟨w4.heap.size, 0, none⟩) (rn + 1) (rn + 1)] rfl rfl rfl ⟨rfl, rfl, heap_alloc_at _ _ _ (by simp)⟩ hxsb ?_; intro v6 w6 S6; have FIN : RowKit.Hid (DRds LSB DB w6 v6 (ys ++ [List.replicate (rn + 1) false])) := (drds_more (xs := xs) HXL.out HRD.out (St.gb S6) (St.own S6) (St.own (St.tail S6))); have GB := Lib.hid (St.gb S6); clear S6)
        | (refine step_app1 LSB_info rfl _ _ rfl (S5.alloc _) (some ⟨w3.heap.size + 1, 0, none⟩, rn + 1, rn + 1) ⟨w4.heap.size, 0, none⟩ #[.slice (some ⟨w3.heap.size + 1, 0, none⟩) (rn + 1) (rn + 1)] rfl rfl rfl ⟨rfl, rfl, heap_alloc_at _ _ _ (by simp)⟩ hxsb ?_; intro v6 w6 S6; have FIN : RowKit.Hid (DRds LSB DB w6 v6 (ys ++ [List.replicate (rn + 1) false])) := (drds_more (xs := xs) HXL.out HRD.out (St.gb S6) (St.own S6) (St.own (St.tail S6))); have GB := Lib.hid (St.gb S6); clear S6)
        | (refine step_app1 LSB_info rfl _ _ rfl (S5.alloc _) (some ⟨w3.heap.size, 0, none⟩, rn + 1, rn + 1) ⟨w4.heap.size, 0, none⟩ #[.slice (some ⟨w3.heap.size, 0, none⟩) (rn + 1) (rn + 1)] rfl rfl rfl ⟨rfl, rfl, heap_alloc_at _ _ _ (by simp)⟩ hxsb ?_; intro v6 w6 S6; have FIN : RowKit.Hid (DRds LSB DB w6 v6 (ys ++ [List.replicate (rn + 1) false])) := (drds_more (xs := xs) HXL.out HRD.out (St.gb S6) (St.own S6) (St.own (St.tail S6))); have GB := Lib.hid (St.gb S6); clear S6)
        | (refine step_appR LSB_info rfl _ _ rfl S7 _ _ (St.own (St.tail S7)) rfl rfl hxsc ?_; intro v6 w6 S6; have FIN : RowKit.Hid (DRds LSB DB w6 v6 (ys ++ [List.replicate (rn + 1) false])) := (drds_more (xs := xs) HXL.out HRD.out (St.gb S6) (St.own S6) (St.own (St.tail (St.tail S6)))); have GB := Lib.hid (St.gb S6); clear S6)
        | (refine step_appR LSB_info rfl _ _ rfl S8 _ _ (St.own (St.tail S8)) rfl rfl hxsc ?_; intro v6 w6 S6; have FIN : RowKit.Hid (DRds LSB DB w6 v6 (ys ++ [List.replicate (rn + 1) false])) := (drds_more (xs := xs) HXL.out HRD.out (St.gb S6) (St.own S6) (St.own (St.tail (St.tail S6)))); have GB := Lib.hid (St.gb S6); clear S6))
    all_goals
      replace S := S.grow GB.out
      clear hmk hc0 i1
      by_cases h1 : vn = 1
      · obtain rfl := h1
        go_wp2_with fail
        refine (i_ImageValid _ _ _ FIN.out).mono ?_
        rintro e w7 ⟨rfl, T⟩
        replace S := S.grow T
        clear T
        rw [NO2.out]
        go_wp2_with fail
        go_ret
        exact ⟨rfl, S.below⟩
      · have h1' : ((vn : Int) == 1) = false := by simpa using (show ¬ (vn : Int) = 1 by omega)
        have k1 : IntKind.i64.wrap ((vn : Int) - 1) = (vn : Int) - 1 := IntWalk.i64_in _ (by omega)
        have k2 : ((vn : Int) - 1).toNat = vn - 1 := by omega
        have HP := Lib.hid (PART.out (vn - 1) (by omega))
        have RT := Lib.hid (DRds.take (St.drds S) (vn - 1) (by omega))
        go_wp2_with fail
        refine (i_ImageValid _ _ _ RT.out).mono ?_
        rintro e w7 ⟨rfl, T⟩
        have FIN2 := Lib.hid (FIN.out.kept T)
        replace S := S.grow T
        clear T
        rw [HP.out]
        go_wp2_with fail
        refine (i_ImageValid _ _ _ FIN2.out).mono ?_
        rintro e w8 ⟨rfl, T⟩
        replace S := S.grow T
        clear T
        rw [NO2.out]
        go_wp2_with fail
        go_ret
        exact ⟨rfl, S.below⟩
end Go.Proofs.Ytpkcpkhanodnmaa
namespace Go.Proofs.Ytpkcpkhanodnmaa.fnImageValidDone
open Go Go.ChangeShapes Go.WideShapes Go.ChangeAt Go.RowKit Go.Proofs.Ytpkcpkhanodnmaa
set_option linter.unusedVariables false
theorem own : ownKnob Try.prog.godebug = none := by kernel_rfl
theorem laidOut : laidOutB Try.prog = true := by kernel_rfl
set_option maxRecDepth 100000 in
theorem lifted (os : Os) (started : os.Started) (H : Type) (enc : TypeId × Value → H) :
    ReturnsInHanded {} Try.checked os 5 .any (Rows.fnImageValidSpec.pre6 enc Try.prog Try.f5 Rows.fnImageValidRow.domain false) (Rows.fnImageValidSpec.post enc Try.prog Try.f5 false true false false) := by
  refine returnsInHanded_of_change (C := Try.checked) own started (by kernel_rfl) Try.func5
    (ChangeSpec.witness6 (enc := enc) (C := Try.checked) false ⟨#[], #[.slice none 0 0], []⟩ 8 (by kernel_rfl) (by kernel_rfl) (by kernel_rfl) (by kernel_rfl)) ?_
  intro W base args ds gs before hval0 hW hcnd _
  have hval : ∀ (j : Nat) t v, Try.f5.params[j]? = some t → args[j]? = some v → Value.okWide Try.prog W .any base t v := hval0
  have hW' := hW
  obtain ⟨p, q, hA0, hV, rfl, hfz, hnd⟩ := hW
  have hA : DataW.TrodAll enc Try.prog W 0 (fun _ => true) true Try.f5.params.toList args.toList ds p := hA0
  rw [Try.params5] at hA hval
  obtain ⟨v0, vs0, d0, ds0, p0, q0, hargs, rfl, rfl, h0, r0⟩ := trodAll_cons hA
  obtain ⟨rfl, rfl, rfl⟩ := trodAll_nil r0
  obtain rfl : args = #[v0] := by cases args; simp_all
  obtain ⟨rfl, rfl⟩ := trodVars_none hV
  obtain ⟨a0, len0, cap0, rfl⟩ := okWide_slice Try.underlying36 (hval 0 36 v0 rfl rfl)
  have k0 := h0
  have lt0 : ∀ x ∈ p0, x.block < W.heap.size := by obtain ⟨m, hm⟩ := k0; exact DataW.trod_lt m _ _ _ hm
  have w0 : Byts W a0 len0 cap0 := by
    obtain ⟨fuel, hf⟩ := h0
    rcases open_ints Try.underlying36 Try.underlying5 (by kernel_rfl) hf with ⟨hcs, _⟩ | ⟨x, l, c, zs, hcs, _, hl, hm, hz, _, hcell, hwz⟩
    · simp [Value.cells] at hcs
      obtain ⟨rfl, rfl, rfl⟩ := hcs
      exact byts_nil W
    · simp [Value.cells] at hcs
      obtain ⟨rfl, rfl, rfl⟩ := hcs
      exact byts_of hl hm (by simpa using hz) hcell hwz
  clear hA0 hval0
  refine (law_FnImageValid a0 len0 cap0 W w0).mono fun e W' ⟨he, bel⟩ => ?_
  subst he
  exact ⟨_, rfl, _, _, _, [], _, [], hW', trodAll_mk1 (shut_bool Try.underlying4 _), (trodAll_cons_mk (Below.trod laidOut (by kernel_rfl) (of_decide_eq_true (by kernel_rfl)) k0 bel lt0) trodAll_mk0), rfl, bel.frame _, fun h => by cases h⟩
theorem over : Rows.fnImageValidRow.holds Try.pinned (OpenSpec.ofChange Rows.fnImageValidSpec) :=
  OpenClaim.holds_of_wide 5 Try.f5 rfl rfl rfl rfl rfl rfl rfl ⟨rfl, rfl, rfl, rfl, rfl⟩ rfl rfl rfl rfl rfl (by kernel_rfl) Try.func5 (by kernel_rfl)
    (of_decide_eq_true (by kernel_rfl)) (by unfold Func.isWrapper; first | (rw [if_pos (by decide +kernel)]; kernel_rfl) | (rw [if_neg (by decide +kernel)]; exact ⟨rfl, rfl⟩))
    (fun os started H enc _ => lifted os started H enc)
theorem proved : Rows.FnImageValidSaid := over
#print axioms proved
end Go.Proofs.Ytpkcpkhanodnmaa.fnImageValidDone
