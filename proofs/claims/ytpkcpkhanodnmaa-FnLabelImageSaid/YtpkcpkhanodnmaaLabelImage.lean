/-
  FnLabelImage: for every code the law on numbered pictures returns true; nothing that was there is written. No condition.
-/
import Derived.Test.YtpkcpkhanodnmaaImgDraws
import Derived.Test.YtpkcpkhanodnmaaLabel
import Derived.Test.YtpkcpkhanodnmaaLabLaw2
import Derived.Test.YtpkcpkhanodnmaaSameRows
import Derived.Test.YtpkcpkhanodnmaaBlobsR
import Derived.Test.YtpkcpkhanodnmaaOpen
import Derived.Test.YtpkcpkhanodnmaaRows
import Derived.ProofKit
import Derived.OpenShut
import Derived.ShutString
import Derived.ChangeOld
namespace Go.Proofs.Ytpkcpkhanodnmaa
open Go Go.RowKit
set_option linter.unusedVariables false
attribute [local go_sem ↓] run_max_int2
theorem rows_bool_own {w : World} {a : Option Addr} {n cap : Nat} {ys : List (List Bool)} (S : DRds LSB DB w (.slice a n cap) ys) (hok : imgOk ys) :
    ∀ k, k < n → ∃ (b off c coff rc : Nat), a = some ⟨b, off, none⟩ ∧ w.cell? ⟨b, off + k, none⟩ = some (.slice (some ⟨c, coff, none⟩) (ys.headD []).length rc) ∧ (ys.headD []).length ≤ rc ∧ rc ≤ 9223372036854775807 ∧ RowKit.Hid (∀ x, x < (ys.headD []).length → w.cell? ⟨c, coff + x, none⟩ = some (.bool (pix ys x k))) := by
  intro k hk
  obtain ⟨a', n', cap', hv, h1, h2, HN, HC⟩ := S.rows
  simp only [Value.slice.injEq] at hv
  obtain ⟨rfl, rfl, rfl⟩ := hv
  obtain ⟨b, off, ra, rn, rc, r, hab, hb, hyr, hrn, hrc, hrm, hrd, hc⟩ := HC.out k hk
  have hrW : rn = (ys.headD []).length := by rw [hrn.out]; exact imgOk_row hok hyr.out
  subst hrW
  obtain ⟨-, HR⟩ := rds_bool_at hrd
  have h0 : 0 < (ys.headD []).length := by have := (hok.2.2 k r hyr.out).1; have := hrn.out; omega
  obtain ⟨c, coff, z, hra, _, _, _⟩ := HR.out 0 h0
  subst hra
  refine ⟨b, off, c, coff, rc, hab, hc, hrc, hrm, fun x hx => ?_⟩
  obtain ⟨c', coff', z, hra, _, hz, hcz⟩ := HR.out x hx
  simp only [Option.some.injEq, Addr.mk.injEq, and_true] at hra
  obtain ⟨rfl, rfl⟩ := hra
  rw [pix_at hyr.out hz.out]
  exact hcz
theorem rows_lab_own {w : World} {a : Option Addr} {n cap : Nat} {ys : List (List Bool)} (S : DRds LSI DI w (.slice a n cap) (labels ys)) (hB : imgB ys = true) :
    ∀ k, k < n → ∃ (b off c coff rc : Nat), a = some ⟨b, off, none⟩ ∧ w.cell? ⟨b, off + k, none⟩ = some (.slice (some ⟨c, coff, none⟩) (ys.headD []).length rc) ∧ (ys.headD []).length ≤ rc ∧ rc ≤ 9223372036854775807 ∧ RowKit.Hid (∀ x, x < (ys.headD []).length → w.cell? ⟨c, coff + x, none⟩ = some (.int .i64 (gr (labels ys) x k))) := by
  intro k hk
  obtain ⟨a', n', cap', hv, h1, h2, HN, HC⟩ := S.rows
  simp only [Value.slice.injEq] at hv
  obtain ⟨rfl, rfl, rfl⟩ := hv
  obtain ⟨b, off, ra, rn, rc, r, hab, hb, hyr, hrn, hrc, hrm, hrd, hc⟩ := HC.out k hk
  have hlr := lab_row hB hyr.out
  have hrW : rn = (ys.headD []).length := by rw [hrn.out]; exact hlr.2
  subst hrW
  obtain ⟨-, HR⟩ := rds_int_at hrd
  have hok := imgB_t.1 hB
  have h0 : 0 < (ys.headD []).length := by
    have h2 := hok.2.2 k _ (List.getElem?_eq_getElem hlr.1)
    unfold rowOk at h2
    omega
  obtain ⟨c, coff, z, hra, _, _, _⟩ := HR.out 0 h0
  subst hra
  refine ⟨b, off, c, coff, rc, hab, hc, hrc, hrm, fun x hx => ?_⟩
  obtain ⟨c', coff', z, hra, _, hz, hcz⟩ := HR.out x hx
  simp only [Option.some.injEq, Addr.mk.injEq, and_true] at hra
  obtain ⟨rfl, rfl⟩ := hra
  rw [gr_at hyr.out hz.out]
  exact hcz
set_option maxRecDepth 100000 in
set_option maxHeartbeats 8000000 in
theorem law_FnLabelImage (a : Option Addr) (len cap : Nat) (w : World) (hw : Byts w a len cap) :
    Calls Try.prog 9 #[.slice a len cap] w fun e w' => e = .returned (.bool true) ∧ Below w.heap.size w w' := by
  have HB := Lib.hid hw; have hm : len ≤ 9223372036854775807 := (by have := hw.1; have := hw.2.1; unfold maxLen at this; omega); clear hw; by_cases hl : 1048576 < len; (go_enter Try.func9, Try.ntmps9; go_wp2_with fail; go_ret; exact ⟨rfl, Below.refl _ _⟩)
  go_enter Try.func9, Try.ntmps9
  go_wp2_with fail
  refine (DrawLabelImage_any _ _ _ _ HB.out).mono ?_
  rintro e w1 ⟨v, ys, rfl, hyl, hyt, S⟩
  go_wp2_with fail
  refine (i_LabelImage _ ys _ (St.drds S)).mono ?_
  rintro e w2 ⟨o1, rfl, T⟩
  replace S := S.call T
  clear T
  simp only [List.cons_append, List.nil_append] at S
  go_wp2_with fail
  refine (s_LabelImage _ ys _ (St.drds (St.tail S))).mono ?_
  rintro e w3 ⟨o2, rfl, T⟩
  replace S := S.call T
  clear T
  simp only [List.cons_append, List.nil_append] at S
  go_wp2_with fail
  refine (sameRows_s _ _ _ _ (St.drds (St.tail S)) (St.drds S)).mono ?_
  rintro e w4 ⟨rfl, T⟩
  replace S := St.tail (S.grow T)
  clear T
  obtain ⟨va, vn, vc, rfl, hvc, hvm, HVN, -⟩ := (St.drds (St.tail S)).rows
  obtain ⟨oa, on, oc, rfl, hoc, hom, HON, -⟩ := (St.drds S).rows
  go_wp2_with fail
  refine (s_ImageValid _ ys _ (St.drds (St.tail S))).mono ?_
  rintro e w5 ⟨rfl, T⟩
  replace S := S.grow T
  clear T
  cases hB : imgB ys with
  | false =>
    obtain rfl : on = 0 := by rw [HON.out, labels_no hB]; rfl
    clear HON
    go_wp2_with (go_at_call 24; refine (alive_any _).mono ?_; rintro e w' ⟨rfl, rfl⟩)
    go_ret
    exact ⟨rfl, S.below⟩
  | true =>
    obtain rfl : on = vn := by rw [HON.out, HVN.out, labels_yes hB]; exact (labY_dims ys ys.length).1
    have hok := imgB_t.1 hB
    have hn16 : on ≤ 16 := by have := HVN.out; have := (imgOk_dims hok).1; omega
    have hn1 : 0 < on := by have := HVN.out; have := hok.1; omega
    have RI := Lib.hid (rows_bool_own (St.drds (St.tail S)) hok)
    have RL := Lib.hid (rows_lab_own (St.drds S) hB)
    have hW16 := (imgOk_dims hok).2
    obtain ⟨W, hW⟩ : ∃ W, (ys.headD []).length = W := ⟨_, rfl⟩
    rw [hW] at RI RL hW16
    have PX : RowKit.Hid (∀ y x, y < on → x < W → (0 < gr (labels ys) x y ↔ pix ys x y = true) ∧ 0 ≤ gr (labels ys) x y ∧ gr (labels ys) x y ≤ ((labX ys y (labY ys y) x).2 : Int) + 1 ∧ ((labX ys y (labY ys y) (x + 1)).2 : Int) = max ((labX ys y (labY ys y) x).2 : Int) (gr (labels ys) x y)) := fun y x hy hx => lab_pos hB (by have := HVN.out; omega) (by omega)
    have BD : RowKit.Hid (∀ y x, y < on → x ≤ W → (labX ys y (labY ys y) x).2 ≤ 300) := by
      intro y x hy hx
      have h1 := labX_num ys y (labY ys y) x
      have h2 := labY_num hok y
      omega
    have SX : RowKit.Hid (∀ x y : Nat, pix ys x y = true → pix ys (x + 1 : Nat) y = true → gr (labels ys) x y = gr (labels ys) (x + 1) y) := fun x y h1 h2 => lab_same hB (x, y) (x + 1, y) (.inl ⟨rfl, .inr rfl⟩) h1 h2
    have SY : RowKit.Hid (∀ x y : Nat, pix ys x y = true → pix ys x (y + 1 : Nat) = true → gr (labels ys) x y = gr (labels ys) x (y + 1)) := fun x y h1 h2 => lab_same hB (x, y) (x, y + 1) (.inr ⟨rfl, .inr rfl⟩) h1 h2
    have SB := Lib.hid S.below
    have ROW : RowKit.Hid (∀ y, labY ys (y + 1) = labX ys y (labY ys y) W) := fun y => by rw [← hW]; rfl
    have BD0 : RowKit.Hid (∀ y, y ≤ on → (labY ys y).2 ≤ 300) := by
      intro y hy
      have h2 := labY_num hok y
      omega
    obtain ⟨b0, off0, c0, coff0, rc0, rfl, hc0, hrc0, hrm0, -⟩ := RI.out 0 hn1
    rw [Nat.add_zero] at hc0
    have hn1i : (0 : Int) < (on : Int) := by omega
    clear hW hok hB S HON
    go_wp2
    go_loop [5, 6, 7, 8] (fun m i _ _ => ∃ y M : Nat, y ≤ on ∧ i = .int .i64 y ∧ m = .int .i64 M ∧ RowKit.Hid (M = (labY ys y).2)) (fun _ i _ _ => on - (intOf i).toNat)
    case atStart => exact ⟨0, 0, by omega, rfl, rfl, rfl⟩
    case round =>
      obtain ⟨y, M, hy, rfl, rfl, HM⟩ := hrel
      by_cases hlt : y < on
      rotate_left
      · obtain rfl : y = on := by omega
        go_wp2
        go_ret
        exact ⟨rfl, SB.out⟩
      have hyi : (y : Int) < (on : Int) := by omega
      have hM3 : M ≤ 300 := by have := BD0.out y hy; have := HM.out; omega
      obtain ⟨b1, off1, c1, coff1, rc1, hb1, hc1, hrc1, hrm1, H1⟩ := RI.out y hlt
      simp only [Option.some.injEq, Addr.mk.injEq, and_true] at hb1
      obtain ⟨rfl, rfl⟩ := hb1
      obtain ⟨b2, off2, c2, coff2, rc2, rfl, hc2, hrc2, hrm2, H2⟩ := RL.out y hlt
      go_wp2
      go_loop [5, 7, 8] (fun m i _ => ∃ x M : Nat, x ≤ W ∧ i = .int .i64 x ∧ m = .int .i64 M ∧ RowKit.Hid (M = (labX ys y (labY ys y) x).2)) (fun _ i _ => W - (intOf i).toNat)
      case atStart => exact ⟨0, M, by omega, rfl, rfl, HM⟩
      case round =>
        clear HM hM3
        obtain ⟨x, M, hx, rfl, rfl, HM⟩ := hrel
        by_cases hlt2 : x < W
        rotate_left
        · obtain rfl : x = W := by omega
          have HM2 : RowKit.Hid (M = (labY ys (y + 1)).2) := by show _ = _; rw [ROW.out]; exact HM.out
          go_wp2
          go_round
          case rel => exact ⟨y + 1, M, by omega, by go_num, rfl, HM2⟩
          case measure => (simp [intOf]; try omega)
        have hM3 : M ≤ 300 := by have := BD.out y x hlt hx; have := HM.out; omega
        have v1 := H1.out x hlt2
        have v2 := H2.out x hlt2
        obtain ⟨q1, q2, q3, q4⟩ := PX.out y x hlt hlt2
        rw [← HM.out] at q3 q4
        obtain ⟨N, hN⟩ : ∃ N, N = gr (labels ys) x y := ⟨_, rfl⟩
        rw [← hN] at v2 q1 q2 q3 q4
        obtain ⟨n, rfl⟩ := Int.eq_ofNat_of_zero_le q2
        obtain ⟨M', hM'⟩ : ∃ M' : Nat, (M' : Int) = max (M : Int) (n : Int) := ⟨max M n, by omega⟩
        have HM' : RowKit.Hid (M' = (labX ys y (labY ys y) (x + 1)).2) := by show _ = _; omega
        have HN := Lib.hid hN
        have hmx := hM'.symm
        have hM'3 : M' ≤ 400 := by omega
        have hxi : (x : Int) < (W : Int) := by omega
        clear hM' q4 HM q2 hN
        cases hv : pix ys x y with
        | false =>
          rw [hv] at v1 q1
          obtain rfl : n = 0 := by
            have := mt q1.1 (by simp)
            omega
          clear q1
          by_cases hx0 : x = 0
          · have hxd : decide ((0 : Int) < (x : Int)) = false := by rw [hx0]; rfl
            have hxz : (x : Int) ≤ 0 := by omega
            clear hx0
            by_cases hy0 : y = 0
            · have hyd : decide ((0 : Int) < (y : Int)) = false := by rw [hy0]; rfl
              have hyz : (y : Int) ≤ 0 := by omega
              clear hy0
              go_wp2
              go_round
              case rel => exact ⟨x + 1, M', by omega, by go_num, by go_num, HM'⟩
              case measure => (simp [intOf]; try omega)
            · obtain ⟨Y, hY⟩ : ∃ Y, y = Y + 1 := ⟨y - 1, by omega⟩
              have hyp : (0 : Int) < (y : Int) := by omega
              have hYi : (y : Int) - 1 = (Y : Int) := by omega
              have hYn : (Y : Int) < (on : Int) := by omega
              have hYm : Y < on := by omega
              have HY := Lib.hid hY
              clear hY hy0
              go_wp2
              go_round
              case rel => exact ⟨x + 1, M', by omega, by go_num, by go_num, HM'⟩
              case measure => (simp [intOf]; try omega)
          · obtain ⟨X, hX⟩ : ∃ X, x = X + 1 := ⟨x - 1, by omega⟩
            have hxp : (0 : Int) < (x : Int) := by omega
            have hXi : (x : Int) - 1 = (X : Int) := by omega
            have hXn : (X : Int) < (W : Int) := by omega
            have hXm : X < W := by omega
            have HX := Lib.hid hX
            clear hX hx0
            by_cases hy0 : y = 0
            · have hyd : decide ((0 : Int) < (y : Int)) = false := by rw [hy0]; rfl
              have hyz : (y : Int) ≤ 0 := by omega
              clear hy0
              go_wp2
              go_round
              case rel => exact ⟨x + 1, M', by omega, by go_num, by go_num, HM'⟩
              case measure => (simp [intOf]; try omega)
            · obtain ⟨Y, hY⟩ : ∃ Y, y = Y + 1 := ⟨y - 1, by omega⟩
              have hyp : (0 : Int) < (y : Int) := by omega
              have hYi : (y : Int) - 1 = (Y : Int) := by omega
              have hYn : (Y : Int) < (on : Int) := by omega
              have hYm : Y < on := by omega
              have HY := Lib.hid hY
              clear hY hy0
              go_wp2
              go_round
              case rel => exact ⟨x + 1, M', by omega, by go_num, by go_num, HM'⟩
              case measure => (simp [intOf]; try omega)
        | true =>
          rw [hv] at v1 q1
          have hn0 : (0 : Int) < (n : Int) := q1.2 rfl
          clear q1
          by_cases hx0 : x = 0
          · have hxd : decide ((0 : Int) < (x : Int)) = false := by rw [hx0]; rfl
            have hxz : (x : Int) ≤ 0 := by omega
            clear hx0
            by_cases hy0 : y = 0
            · have hyd : decide ((0 : Int) < (y : Int)) = false := by rw [hy0]; rfl
              have hyz : (y : Int) ≤ 0 := by omega
              clear hy0
              go_wp2
              go_round
              case rel => exact ⟨x + 1, M', by omega, by go_num, by go_num, HM'⟩
              case measure => (simp [intOf]; try omega)
            · obtain ⟨Y, hY⟩ : ∃ Y, y = Y + 1 := ⟨y - 1, by omega⟩
              have hyp : (0 : Int) < (y : Int) := by omega
              have hYi : (y : Int) - 1 = (Y : Int) := by omega
              have hYn : (Y : Int) < (on : Int) := by omega
              have hYm : Y < on := by omega
              have HY := Lib.hid hY
              clear hY hy0
              obtain ⟨e1, f1, g1, h1, k1, hbu, hcu, hku, hkv, HU⟩ := RI.out Y hYm
              simp only [Option.some.injEq, Addr.mk.injEq, and_true] at hbu
              obtain ⟨rfl, rfl⟩ := hbu
              obtain ⟨e2, f2, g2, h2, k2, hbw, hcw, hkw, hkx, HV⟩ := RL.out Y hYm
              simp only [Option.some.injEq, Addr.mk.injEq, and_true] at hbw
              obtain ⟨rfl, rfl⟩ := hbw
              have u1 := HU.out _ hlt2
              have u2 := HV.out _ hlt2
              cases hu : pix ys x Y with
              | false =>
                rw [hu] at u1
                go_wp2
                go_round
                case rel => exact ⟨x + 1, M', by omega, by go_num, by go_num, HM'⟩
                case measure => (simp [intOf]; try omega)
              | true =>
                rw [hu] at u1
                have hsame : gr (labels ys) x Y = (n : Int) := by rw [HN.out, HY.out]; exact SY.out x Y hu (by rw [← HY.out]; exact hv)
                rw [hsame] at u2
                go_wp2
                go_round
                case rel => exact ⟨x + 1, M', by omega, by go_num, by go_num, HM'⟩
                case measure => (simp [intOf]; try omega)
          · obtain ⟨X, hX⟩ : ∃ X, x = X + 1 := ⟨x - 1, by omega⟩
            have hxp : (0 : Int) < (x : Int) := by omega
            have hXi : (x : Int) - 1 = (X : Int) := by omega
            have hXn : (X : Int) < (W : Int) := by omega
            have hXm : X < W := by omega
            have HX := Lib.hid hX
            clear hX hx0
            by_cases hy0 : y = 0
            · have hyd : decide ((0 : Int) < (y : Int)) = false := by rw [hy0]; rfl
              have hyz : (y : Int) ≤ 0 := by omega
              clear hy0
              have p1 := H1.out X hXm
              have p2 := H2.out X hXm
              cases hp : pix ys X y with
              | false =>
                rw [hp] at p1
                go_wp2
                go_round
                case rel => exact ⟨x + 1, M', by omega, by go_num, by go_num, HM'⟩
                case measure => (simp [intOf]; try omega)
              | true =>
                rw [hp] at p1
                have hsameX : gr (labels ys) X y = (n : Int) := by rw [HN.out, HX.out]; exact SX.out X y hp (by rw [← HX.out]; exact hv)
                rw [hsameX] at p2
                go_wp2
                go_round
                case rel => exact ⟨x + 1, M', by omega, by go_num, by go_num, HM'⟩
                case measure => (simp [intOf]; try omega)
            · obtain ⟨Y, hY⟩ : ∃ Y, y = Y + 1 := ⟨y - 1, by omega⟩
              have hyp : (0 : Int) < (y : Int) := by omega
              have hYi : (y : Int) - 1 = (Y : Int) := by omega
              have hYn : (Y : Int) < (on : Int) := by omega
              have hYm : Y < on := by omega
              have HY := Lib.hid hY
              clear hY hy0
              have p1 := H1.out X hXm
              have p2 := H2.out X hXm
              cases hp : pix ys X y with
              | false =>
                rw [hp] at p1
                obtain ⟨e1, f1, g1, h1, k1, hbu, hcu, hku, hkv, HU⟩ := RI.out Y hYm
                simp only [Option.some.injEq, Addr.mk.injEq, and_true] at hbu
                obtain ⟨rfl, rfl⟩ := hbu
                obtain ⟨e2, f2, g2, h2, k2, hbw, hcw, hkw, hkx, HV⟩ := RL.out Y hYm
                simp only [Option.some.injEq, Addr.mk.injEq, and_true] at hbw
                obtain ⟨rfl, rfl⟩ := hbw
                have u1 := HU.out _ hlt2
                have u2 := HV.out _ hlt2
                cases hu : pix ys x Y with
                | false =>
                  rw [hu] at u1
                  go_wp2
                  go_round
                  case rel => exact ⟨x + 1, M', by omega, by go_num, by go_num, HM'⟩
                  case measure => (simp [intOf]; try omega)
                | true =>
                  rw [hu] at u1
                  have hsame : gr (labels ys) x Y = (n : Int) := by rw [HN.out, HY.out]; exact SY.out x Y hu (by rw [← HY.out]; exact hv)
                  rw [hsame] at u2
                  go_wp2
                  go_round
                  case rel => exact ⟨x + 1, M', by omega, by go_num, by go_num, HM'⟩
                  case measure => (simp [intOf]; try omega)
              | true =>
                rw [hp] at p1
                have hsameX : gr (labels ys) X y = (n : Int) := by rw [HN.out, HX.out]; exact SX.out X y hp (by rw [← HX.out]; exact hv)
                rw [hsameX] at p2
                obtain ⟨e1, f1, g1, h1, k1, hbu, hcu, hku, hkv, HU⟩ := RI.out Y hYm
                simp only [Option.some.injEq, Addr.mk.injEq, and_true] at hbu
                obtain ⟨rfl, rfl⟩ := hbu
                obtain ⟨e2, f2, g2, h2, k2, hbw, hcw, hkw, hkx, HV⟩ := RL.out Y hYm
                simp only [Option.some.injEq, Addr.mk.injEq, and_true] at hbw
                obtain ⟨rfl, rfl⟩ := hbw
                have u1 := HU.out _ hlt2
                have u2 := HV.out _ hlt2
                cases hu : pix ys x Y with
                | false =>
                  rw [hu] at u1
                  go_wp2
                  go_round
                  case rel => exact ⟨x + 1, M', by omega, by go_num, by go_num, HM'⟩
                  case measure => (simp [intOf]; try omega)
                | true =>
                  rw [hu] at u1
                  have hsame : gr (labels ys) x Y = (n : Int) := by rw [HN.out, HY.out]; exact SY.out x Y hu (by rw [← HY.out]; exact hv)
                  rw [hsame] at u2
                  go_wp2
                  go_round
                  case rel => exact ⟨x + 1, M', by omega, by go_num, by go_num, HM'⟩
                  case measure => (simp [intOf]; try omega)
end Go.Proofs.Ytpkcpkhanodnmaa
namespace Go.Proofs.Ytpkcpkhanodnmaa.fnLabelImageDone
open Go Go.ChangeShapes Go.WideShapes Go.ChangeAt Go.RowKit Go.Proofs.Ytpkcpkhanodnmaa
set_option linter.unusedVariables false
theorem own : ownKnob Try.prog.godebug = none := by kernel_rfl
theorem laidOut : laidOutB Try.prog = true := by kernel_rfl
set_option maxRecDepth 100000 in
theorem lifted (os : Os) (started : os.Started) (H : Type) (enc : TypeId × Value → H) :
    ReturnsInHanded {} Try.checked os 9 .any (Rows.fnLabelImageSpec.pre6 enc Try.prog Try.f9 Rows.fnLabelImageRow.domain false) (Rows.fnLabelImageSpec.post enc Try.prog Try.f9 false true false false) := by
  refine returnsInHanded_of_change (C := Try.checked) own started (by kernel_rfl) Try.func9
    (ChangeSpec.witness6 (enc := enc) (C := Try.checked) false ⟨#[], #[.slice none 0 0], []⟩ 8 (by kernel_rfl) (by kernel_rfl) (by kernel_rfl) (by kernel_rfl)) ?_
  intro W base args ds gs before hval0 hW hcnd _
  have hval : ∀ (j : Nat) t v, Try.f9.params[j]? = some t → args[j]? = some v → Value.okWide Try.prog W .any base t v := hval0
  have hW' := hW
  obtain ⟨p, q, hA0, hV, rfl, hfz, hnd⟩ := hW
  have hA : DataW.TrodAll enc Try.prog W 0 (fun _ => true) true Try.f9.params.toList args.toList ds p := hA0
  rw [Try.params9] at hA hval
  obtain ⟨v0, vs0, d0, ds0, p0, q0, hargs, rfl, rfl, h0, r0⟩ := trodAll_cons hA
  obtain ⟨rfl, rfl, rfl⟩ := trodAll_nil r0
  obtain rfl : args = #[v0] := by cases args; simp_all
  obtain ⟨rfl, rfl⟩ := trodVars_none hV
  obtain ⟨a0, len0, cap0, rfl⟩ := okWide_slice Try.underlying36 (hval 0 36 v0 rfl rfl)
  have k0 := h0
  have lt0 : ∀ x ∈ p0, x.block < W.heap.size := by obtain ⟨m, hm⟩ := k0; exact DataW.trod_lt m _ _ _ hm
  have w0 : Byts W a0 len0 cap0 := by
    obtain ⟨fuel, hf⟩ := h0
    rcases open_ints Try.underlying36 Try.underlying5 (by kernel_rfl) hf with ⟨hcs, _⟩ | ⟨x, l, c, zs, hcs, _, hl, hm, hz, _, hcell, hwz⟩
    · simp [Value.cells] at hcs
      obtain ⟨rfl, rfl, rfl⟩ := hcs
      exact byts_nil W
    · simp [Value.cells] at hcs
      obtain ⟨rfl, rfl, rfl⟩ := hcs
      exact byts_of hl hm (by simpa using hz) hcell hwz
  clear hA0 hval0
  refine (law_FnLabelImage a0 len0 cap0 W w0).mono fun e W' ⟨he, bel⟩ => ?_
  subst he
  exact ⟨_, rfl, _, _, _, [], _, [], hW', trodAll_mk1 (shut_bool Try.underlying4 _), (trodAll_cons_mk (Below.trod laidOut (by kernel_rfl) (of_decide_eq_true (by kernel_rfl)) k0 bel lt0) trodAll_mk0), rfl, bel.frame _, fun h => by cases h⟩
theorem over : Rows.fnLabelImageRow.holds Try.pinned (OpenSpec.ofChange Rows.fnLabelImageSpec) :=
  OpenClaim.holds_of_wide 9 Try.f9 rfl rfl rfl rfl rfl rfl rfl ⟨rfl, rfl, rfl, rfl, rfl⟩ rfl rfl rfl rfl rfl (by kernel_rfl) Try.func9 (by kernel_rfl)
    (of_decide_eq_true (by kernel_rfl)) (by unfold Func.isWrapper; first | (rw [if_pos (by decide +kernel)]; kernel_rfl) | (rw [if_neg (by decide +kernel)]; exact ⟨rfl, rfl⟩))
    (fun os started H enc _ => lifted os started H enc)
theorem proved : Rows.FnLabelImageSaid := over
#print axioms proved
end Go.Proofs.Ytpkcpkhanodnmaa.fnLabelImageDone
