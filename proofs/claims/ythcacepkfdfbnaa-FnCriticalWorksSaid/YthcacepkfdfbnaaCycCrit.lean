/-
  The list of critical steps, place by place; a copied row of steps with one changed, as data.
-/
import Derived.Test.YthcacepkfdfbnaaCycLate
import Derived.Test.YthcacepkfdfbnaaMem2
namespace Go.Proofs.Ythcacepkfdfbnaa
open Go Go.RowKit
theorem isCrit_iff {ys : List Wk} (h : worksB ys = true) (k : Nat) : isCrit ys k = true ↔ st0 ys k = lt0 ys k := by
  unfold isCrit
  rw [early_yes h, late_yes h]
  simp [st0, lt0]
theorem critical_eq {ys : List Wk} (h : worksB ys = true) : critical ys = critTo ys ys.length := by
  unfold critical
  rw [early_yes h, earlyTo_len]
noncomputable def critR (ys : List Wk) (k d : Nat) : List Int := (((List.range d).map (k + ·)).filter (isCrit ys)).map (fun (i : Nat) => (i : Int))
theorem critTo_add (ys : List Wk) (k d : Nat) : critTo ys (k + d) = critTo ys k ++ critR ys k d := by
  unfold critTo critR
  rw [List.range_add, List.filter_append, List.map_append]
theorem crit_yes {ys : List Wk} {k n : Nat} (hk : k < n) (h : isCrit ys k = true) : (critTo ys k).length < (critTo ys n).length ∧ (critTo ys n)[(critTo ys k).length]? = some (k : Int) := by
  obtain ⟨d, rfl⟩ : ∃ d, n = k + (d + 1) := ⟨n - k - 1, by omega⟩
  have e : critR ys k (d + 1) = (k : Int) :: ((((List.range d).map Nat.succ).map (k + ·)).filter (isCrit ys)).map (fun (i : Nat) => (i : Int)) := by
    unfold critR
    rw [List.range_succ_eq_map, List.map_cons, Nat.add_zero, List.filter_cons, if_pos h, List.map_cons]
  rw [critTo_add, e]
  refine ⟨by simp, ?_⟩
  rw [List.getElem?_append_right (Nat.le_refl _), Nat.sub_self]
  rfl
theorem crit_no {ys : List Wk} {k n : Nat} (hk : k < n) (h : isCrit ys k = false) (z : Int) (hz : (critTo ys n)[(critTo ys k).length]? = some z) : z ≠ (k : Int) := by
  obtain ⟨d, rfl⟩ : ∃ d, n = k + d := ⟨n - k, by omega⟩
  rw [critTo_add, List.getElem?_append_right (Nat.le_refl _)] at hz
  have hm := List.mem_of_getElem? hz
  unfold critR at hm
  obtain ⟨x, hx, rfl⟩ := List.mem_map.1 hm
  have hc := (List.mem_filter.1 hx).2
  intro e
  have : x = k := by omega
  rw [this, h] at hc
  cases hc
theorem crit_some {ys : List Wk} (h : worksB ys = true) (hn : 0 < ys.length) : 0 < (critTo ys ys.length).length := by
  obtain ⟨k, hk, hc⟩ := some_crit (worksB_t.1 h) hn
  have := (crit_yes (ys := ys) hk ((isCrit_iff h k).2 hc)).1
  omega
theorem drds_set {α β : Type} {L : Lay α} {D : Deep α β} {w w2 : World} {v : Value} {xs : List α} {ys : List β} (hl : xs.length = ys.length) (hr : ∀ (k : Nat) x y, xs[k]? = some x → ys[k]? = some y → D.rd w x y) (hg : w.grownBy w2 none)
    (k : Nat) (x : α) (y : β) (hv : Rds L w2 v (xs.set k x)) (hx : D.rd w2 x y) : DRds L D w2 v (ys.set k y) := by
  refine ⟨xs.set k x, hv, by simp [hl], fun j a b ha hb => ?_⟩
  by_cases hjk : k = j
  · subst hjk
    have hk : k < xs.length := by
      have := (List.getElem?_eq_some_iff.1 ha).1
      simpa using this
    rw [List.getElem?_set_self hk] at ha
    rw [List.getElem?_set_self (by omega)] at hb
    rw [← Option.some.inj ha, ← Option.some.inj hb]
    exact hx
  · rw [List.getElem?_set_ne hjk] at ha hb
    exact D.kept (hr j a b ha hb) hg
end Go.Proofs.Ythcacepkfdfbnaa
