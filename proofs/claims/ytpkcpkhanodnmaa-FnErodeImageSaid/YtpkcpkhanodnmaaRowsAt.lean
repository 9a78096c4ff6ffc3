/-
  A picture's rows and its numbers' rows, cell by cell.
-/
import Derived.Test.YtpkcpkhanodnmaaLabel
import Derived.Test.YtpkcpkhanodnmaaLabLaw2
import Derived.Test.YtpkcpkhanodnmaaBlobs
namespace Go.Proofs.Ytpkcpkhanodnmaa
open Go Go.RowKit
theorem rows_bool_own {w : World} {a : Option Addr} {n cap : Nat} {ys : List (List Bool)} (S : DRds LSB DB w (.slice a n cap) ys) (hok : imgOk ys) :
    ∀ k, k < n → ∃ (b off c coff rc : Nat), a = some ⟨b, off, none⟩ ∧ w.cell? ⟨b, off + k, none⟩ = some (.slice (some ⟨c, coff, none⟩) (ys.headD []).length rc) ∧ (ys.headD []).length ≤ rc ∧ rc ≤ 9223372036854775807 ∧ RowKit.Hid (∀ x, x < (ys.headD []).length → w.cell? ⟨c, coff + x, none⟩ = some (.bool (pix ys x k))) := by
  intro k hk
  obtain ⟨a', n', cap', hv, h1, h2, HN, HC⟩ := S.rows
  simp only [Value.slice.injEq] at hv
  obtain ⟨rfl, rfl, rfl⟩ := hv
  obtain ⟨b, off, ra, rn, rc, r, hab, hb, hyr, hrn, hrc, hrm, hrd, hc⟩ := HC.out k hk
  have hrW : rn = (ys.headD []).length := by rw [hrn.out]; exact imgOk_row hok hyr.out
  subst hrW
  obtain ⟨-, HR⟩ := rds_bool_at hrd
  have h0 : 0 < (ys.headD []).length := by have := (hok.2.2 k r hyr.out).1; have := hrn.out; omega
  obtain ⟨c, coff, z, hra, _, _, _⟩ := HR.out 0 h0
  subst hra
  refine ⟨b, off, c, coff, rc, hab, hc, hrc, hrm, fun x hx => ?_⟩
  obtain ⟨c', coff', z, hra, _, hz, hcz⟩ := HR.out x hx
  simp only [Option.some.injEq, Addr.mk.injEq, and_true] at hra
  obtain ⟨rfl, rfl⟩ := hra
  rw [pix_at hyr.out hz.out]
  exact hcz
theorem rows_lab_own {w : World} {a : Option Addr} {n cap : Nat} {ys : List (List Bool)} (S : DRds LSI DI w (.slice a n cap) (labels ys)) (hB : imgB ys = true) :
    ∀ k, k < n → ∃ (b off c coff rc : Nat), a = some ⟨b, off, none⟩ ∧ w.cell? ⟨b, off + k, none⟩ = some (.slice (some ⟨c, coff, none⟩) (ys.headD []).length rc) ∧ (ys.headD []).length ≤ rc ∧ rc ≤ 9223372036854775807 ∧ RowKit.Hid (∀ x, x < (ys.headD []).length → w.cell? ⟨c, coff + x, none⟩ = some (.int .i64 (gr (labels ys) x k))) := by
  intro k hk
  obtain ⟨a', n', cap', hv, h1, h2, HN, HC⟩ := S.rows
  simp only [Value.slice.injEq] at hv
  obtain ⟨rfl, rfl, rfl⟩ := hv
  obtain ⟨b, off, ra, rn, rc, r, hab, hb, hyr, hrn, hrc, hrm, hrd, hc⟩ := HC.out k hk
  have hlr := lab_row hB hyr.out
  have hrW : rn = (ys.headD []).length := by rw [hrn.out]; exact hlr.2
  subst hrW
  obtain ⟨-, HR⟩ := rds_int_at hrd
  have hok := imgB_t.1 hB
  have h0 : 0 < (ys.headD []).length := by
    have h2 := hok.2.2 k _ (List.getElem?_eq_getElem hlr.1)
    unfold rowOk at h2
    omega
  obtain ⟨c, coff, z, hra, _, _, _⟩ := HR.out 0 h0
  subst hra
  refine ⟨b, off, c, coff, rc, hab, hc, hrc, hrm, fun x hx => ?_⟩
  obtain ⟨c', coff', z, hra, _, hz, hcz⟩ := HR.out x hx
  simp only [Option.some.injEq, Addr.mk.injEq, and_true] at hra
  obtain ⟨rfl, rfl⟩ := hra
  rw [gr_at hyr.out hz.out]
  exact hcz
end Go.Proofs.Ytpkcpkhanodnmaa
