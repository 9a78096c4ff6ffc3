/-
  Valid steps and their starts, opened once for the loops of the laws.
-/
import Derived.Test.YthcacepkfdfbnaaCycPlain
namespace Go.Proofs.Ythcacepkfdfbnaa
open Go Go.RowKit
theorem wks_open {w : World} {v : Value} {ys : List Wk} (h : DRds LWk DWk w v ys) (hok : worksOk ys) (hn : 0 < ys.length) : ∃ (b off n cap : Nat), v = .slice (some ⟨b, off, none⟩) n cap ∧ n ≤ cap ∧ cap ≤ 9223372036854775807 ∧ RowKit.Hid (n = ys.length) ∧ 0 < n ∧ n ≤ 12 ∧
    RowKit.Hid (∀ k, k < n → w.cell? ⟨b, off + k * 2, none⟩ = some (.int .i64 (tm ys k)) ∧ ∃ (ra : Option Addr) (rn rc : Nat), w.cell? ⟨b, off + k * 2 + 1, none⟩ = some (.slice ra rn rc) ∧ rn ≤ 12 ∧ RowKit.Hid (rn = (afterOf ys k).length) ∧
      RowKit.Hid (∀ j, j < rn → ∃ (rb roff A : Nat), ra = some ⟨rb, roff, none⟩ ∧ A < k ∧ RowKit.Hid ((A : Int) ∈ afterOf ys k ∧ (afterOf ys k)[j]? = some (A : Int)) ∧ w.cell? ⟨rb, roff + j, none⟩ = some (.int .i64 A))) := by
  obtain ⟨a, n, cap, rfl, h1, hm, HN, HC⟩ := h.wks
  have hnl := HN.out
  obtain ⟨b, off, _, _, _, _, _, rfl, _⟩ := HC.out 0 (by omega)
  refine ⟨b, off, n, cap, rfl, h1, hm, HN, by omega, by have := hok.1; omega, fun k hk => ?_⟩
  obtain ⟨b', off', t, ra, rn, rc, y, hab, hb, hy, hrn, hrc, hrm, hrd, hc0, hc1⟩ := HC.out k hk
  obtain ⟨rfl, rfl⟩ : b = b' ∧ off = off' := by simpa using hab
  rw [tm_at hy.out]
  refine ⟨hc0, ra, rn, rc, hc1, ?_, ?_, fun j hj => ?_⟩
  · have := (wk_at hok hy.out).2.1
    have := hrn.out
    omega
  · show rn = _
    rw [afterOf_at hy.out]
    exact hrn.out
  · obtain ⟨-, HC2⟩ := rds_int_at hrd
    obtain ⟨rb, roff, x, ha, -, hx, hd⟩ := HC2.out j hj
    obtain ⟨x0, x1⟩ := (wk_at hok hy.out).2.2 x (List.mem_of_getElem? hx.out)
    obtain ⟨A, rfl⟩ := Int.eq_ofNat_of_zero_le x0
    refine ⟨rb, roff, A, ha, by omega, ?_, hd⟩
    show _ ∧ _
    rw [afterOf_at hy.out]
    exact ⟨List.mem_of_getElem? hx.out, hx.out⟩
theorem ints_open {w : World} {v : Value} {os : List Int} (f : Nat → Int) (h : Rds LI w v os) (hf : ∀ k, k < os.length → os.getD k 0 = f k) (hn : 0 < os.length) : ∃ (b off n cap : Nat), v = .slice (some ⟨b, off, none⟩) n cap ∧ n ≤ cap ∧ cap ≤ 9223372036854775807 ∧ RowKit.Hid (n = os.length) ∧
    RowKit.Hid (∀ k, k < n → w.cell? ⟨b, off + k, none⟩ = some (.int .i64 (f k))) := by
  obtain ⟨a, n, cap, rfl, h1, hm, HN, HC⟩ := LI_get h
  have hnl := HN.out
  obtain ⟨b, off, _, rfl, _⟩ := HC.out 0 (by omega)
  refine ⟨b, off, n, cap, rfl, h1, hm, HN, fun k hk => ?_⟩
  obtain ⟨b', off', x, hab, hb, hx, hc⟩ := HC.out k hk
  obtain ⟨rfl, rfl⟩ : b = b' ∧ off = off' := by simpa using hab
  have := hf k (by omega)
  rw [List.getD_eq_getElem?_getD, hx.out] at this
  rw [← this]
  exact hc
end Go.Proofs.Ythcacepkfdfbnaa
