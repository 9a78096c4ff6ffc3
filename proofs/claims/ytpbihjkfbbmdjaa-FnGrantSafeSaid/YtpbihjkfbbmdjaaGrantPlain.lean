/-
  What the law on grants asks, as plain lists.
-/
import Derived.Test.YtpbihjkfbbmdjaaGrantLaw
namespace Go.Proofs.Ytpbihjkfbbmdjaa
open Go Go.RowKit
theorem amtB_at {xs : List Int} (h : amtB xs = true) {j : Nat} {x : Int} (hx : xs[j]? = some x) : 0 ≤ x ∧ x ≤ 100 := by
  have := List.all_eq_true.1 h x (List.mem_of_getElem? hx)
  exact inB_t.1 this
theorem getD_at {xs : List Int} {j : Nat} {x : Int} (h : xs[j]? = some x) : xs.getD j 0 = x := by rw [List.getD_eq_getElem?_getD, h]; rfl
theorem addL_at {xs ys : List Int} {j : Nat} {x y : Int} (hx : xs[j]? = some x) (hy : ys[j]? = some y) : (addL xs ys)[j]? = some (addW x y) := by
  have hj := (List.getElem?_eq_some_iff.1 hx).1
  unfold addL
  rw [List.getElem?_map, List.getElem?_range hj, Option.map_some, getD_at hx, getD_at hy]
theorem subL_at {xs ys : List Int} {j : Nat} {x y : Int} (hx : xs[j]? = some x) (hy : ys[j]? = some y) : (subL xs ys)[j]? = some (subW x y) := by
  have hj := (List.getElem?_eq_some_iff.1 hx).1
  unfold subL
  rw [List.getElem?_map, List.getElem?_range hj, Option.map_some, getD_at hx, getD_at hy]
theorem addW_in {x y : Int} (hx : 0 ≤ x ∧ x ≤ 100) (hy : 0 ≤ y ∧ y ≤ 100) : addW x y = x + y := IntWalk.wrap64_in _ (by omega)
theorem subW_in {x y : Int} (hx : 0 ≤ x ∧ x ≤ 100) (hy : 0 ≤ y ∧ y ≤ 100) : subW x y = x - y := IntWalk.wrap64_in _ (by omega)
theorem zero_at {n j : Nat} (h : j < n) : (List.replicate n (0 : Int))[j]? = some 0 := by rw [List.getElem?_replicate, if_pos h]
theorem addL_zero {xs : List Int} {n : Nat} (h : amtB xs = true) (hn : xs.length = n) : addL xs (List.replicate n 0) = xs := by
  refine List.ext_getElem? fun j => ?_
  by_cases hj : j < xs.length
  · have hx : xs[j]? = some xs[j] := List.getElem?_eq_getElem hj
    rw [addL_at hx (zero_at (by omega)), hx, addW_in (amtB_at h hx) (by omega), Int.add_zero]
  · rw [List.getElem?_eq_none (by rw [addL_len]; omega), List.getElem?_eq_none (by omega)]
theorem subL_zero {xs : List Int} {n : Nat} (h : amtB xs = true) (hn : xs.length = n) : subL xs (List.replicate n 0) = xs := by
  refine List.ext_getElem? fun j => ?_
  by_cases hj : j < xs.length
  · have hx : xs[j]? = some xs[j] := List.getElem?_eq_getElem hj
    rw [subL_at hx (zero_at (by omega)), hx, subW_in (amtB_at h hx) (by omega), Int.sub_zero]
  · rw [List.getElem?_eq_none (by rw [subL_len]; omega), List.getElem?_eq_none (by omega)]
theorem le_zero {xs : List Int} {n : Nat} (h : amtB xs = true) : leB (List.replicate n 0) xs = true := by
  refine leB_good _ _ (fun j x y hx hy => ?_)
  have := amtB_at h hy
  rw [List.getElem?_replicate] at hx
  split at hx
  · have := Option.some.inj hx; omega
  · cases hx
theorem amt_zero (n : Nat) : amtB (List.replicate n 0) = true := by
  unfold amtB
  rw [List.all_eq_true]
  intro x hx
  rw [(List.mem_replicate.1 hx).2]
  rfl
/-- A request for nothing is granted exactly in a safe state. -/
theorem grant_zero {cs : List Clm} {fr : List Int} (h : claimsB cs fr = true) {N : Nat} (hN : N < cs.length) : grantB cs fr (N : Int) (List.replicate fr.length 0) = safeB cs fr := by
  have hc : cs[N]? = some cs[N] := List.getElem?_eq_getElem hN
  obtain ⟨l1, l2, a1, a2⟩ := claimsB_at h N _ hc
  have hf := (claimsB_len h).2.2
  have e1 : decide ((0 : Int) ≤ (N : Int)) = true := decide_eq_true (by omega)
  have e2 : decide ((N : Int) < (cs.length : Int)) = true := decide_eq_true (by omega)
  have e3 : decide ((List.replicate fr.length (0 : Int)).length = fr.length) = true := by simp
  have ok : grantOk cs fr (N : Int) (List.replicate fr.length 0) = true := by
    simp only [grantOk, h, e1, e2, e3, amt_zero, needB_at hc, le_zero a2, le_zero hf, Bool.and_true]
  rw [grantB_of ok, afterC_at hc, subL_zero hf rfl]
  have e : grantC cs[N] (List.replicate fr.length 0) = cs[N] := by
    unfold grantC
    rw [addL_zero a1 l1, subL_zero a2 l2]
  rw [e, List.set_getElem_self]
theorem grant_facts {cs : List Clm} {fr : List Int} {n : Int} {want : List Int} (h : grantB cs fr n want = true) : claimsB cs fr = true ∧ (0 ≤ n ∧ n < (cs.length : Int)) ∧ want.length = fr.length ∧ amtB want = true := by
  have := grantB_ok h
  unfold grantOk at this
  simp only [Bool.and_eq_true, decide_eq_true_eq] at this
  exact ⟨this.1, ⟨this.2.1, this.2.2.1⟩, this.2.2.2.1.1, this.2.2.2.1.2⟩
/-- The claim that is granted. -/
theorem grant_this {cs : List Clm} {fr : List Int} (h : claimsB cs fr = true) {want : List Int} (ha : amtB want = true) {N j : Nat} {c c' : Clm} {x y z : Int} (hc : cs[N]? = some c) (hc' : (afterC cs N want)[N]? = some c') (hx : want[j]? = some x)
    (hy : c.Holds[j]? = some y) (hz : c.Needs[j]? = some z) : c'.Holds[j]? = some (y + x) ∧ c'.Needs[j]? = some (z - x) := by
  obtain ⟨-, -, a1, a2⟩ := claimsB_at h N _ hc
  rw [afterC_at hc, List.getElem?_set_self (List.getElem?_eq_some_iff.1 hc).1] at hc'
  obtain rfl := Option.some.inj hc'
  have hx' := amtB_at ha hx
  exact ⟨by rw [← addW_in (amtB_at a1 hy) hx']; exact addL_at hy hx, by rw [← subW_in (amtB_at a2 hz) hx']; exact subL_at hz hx⟩
/-- The others. -/
theorem grant_other {cs : List Clm} {want : List Int} {N k : Nat} {c c' : Clm} (hc : cs[k]? = some c) (hc' : (afterC cs N want)[k]? = some c') (hk : ¬ k = N) : c' = c := by
  unfold afterC at hc'
  split at hc'
  · rw [List.getElem?_set_ne (by omega)] at hc'
    rw [hc] at hc'
    exact (Option.some.inj hc').symm
  · rw [hc] at hc'
    exact (Option.some.inj hc').symm
end Go.Proofs.Ytpbihjkfbbmdjaa
