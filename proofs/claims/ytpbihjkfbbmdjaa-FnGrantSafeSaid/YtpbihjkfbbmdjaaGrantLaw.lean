/-
  What GrantSafe computes, as plain lists.
-/
import Derived.Test.YtpbihjkfbbmdjaaSafe
namespace Go.Proofs.Ytpbihjkfbbmdjaa
open Go Go.RowKit
def subW (x y : Int) : Int := wrap64 (x - y)
def subL (xs ys : List Int) : List Int := (List.range xs.length).map (fun j => subW (xs.getD j 0) (ys.getD j 0))
theorem subL_len (xs ys : List Int) : (subL xs ys).length = xs.length := by simp [subL]
def grantC (c : Clm) (want : List Int) : Clm := ⟨addL c.Holds want, subL c.Needs want⟩
def afterC (cs : List Clm) (n : Nat) (want : List Int) : List Clm := match cs[n]? with | some c => cs.set n (grantC c want) | none => cs
theorem afterC_at {cs : List Clm} {n : Nat} {c : Clm} (h : cs[n]? = some c) (want : List Int) : afterC cs n want = cs.set n (grantC c want) := by simp [afterC, h]
theorem afterC_len (cs : List Clm) (n : Nat) (want : List Int) : (afterC cs n want).length = cs.length := by
  unfold afterC
  split <;> simp
def needB (cs : List Clm) (n : Int) (want : List Int) : Bool := match cs[n.toNat]? with | some c => leB want c.Needs | none => false
theorem needB_at {cs : List Clm} {n : Nat} {c : Clm} (h : cs[n]? = some c) (want : List Int) : needB cs (n : Int) want = leB want c.Needs := by simp [needB, h]
def grantOk (cs : List Clm) (fr : List Int) (n : Int) (want : List Int) : Bool :=
  claimsB cs fr && (decide (0 ≤ n) && (decide (n < (cs.length : Int)) && ((decide (want.length = fr.length) && amtB want) && (needB cs n want && leB want fr))))
def grantB (cs : List Clm) (fr : List Int) (n : Int) (want : List Int) : Bool := grantOk cs fr n want && safeB (afterC cs n.toNat want) (subL fr want)
def grantL (cs : List Clm) (fr : List Int) (n : Int) (want : List Int) : List Clm := if grantB cs fr n want then afterC cs n.toNat want else []
def grantF (cs : List Clm) (fr : List Int) (n : Int) (want : List Int) : List Int := if grantB cs fr n want then subL fr want else []
theorem safeB_claims {cs : List Clm} {fr : List Int} (h : safeB cs fr = true) : claimsB cs fr = true := by
  unfold safeB at h
  rw [Bool.and_eq_true] at h
  exact h.1
theorem hlds_claims {cs : List Clm} {fr : List Int} (h : claimsB cs fr = true) : hlds cs ≤ 48 := by
  obtain ⟨h1, h2, -⟩ := claimsB_len h
  have : ∀ k, k ≤ cs.length → hlds (cs.take k) ≤ 8 * k := by
    intro k
    induction k with
    | zero => simp [hlds]
    | succ k ih =>
      intro hk
      have hc : cs[k]? = some cs[k] := List.getElem?_eq_getElem (by omega)
      rw [hlds_take cs k _ hc]
      have := claimsB_at h k _ hc
      have := ih (by omega)
      unfold clmN
      omega
  have := this cs.length (Nat.le_refl _)
  rw [List.take_length] at this
  omega
theorem grantB_safe {cs : List Clm} {fr : List Int} {n : Int} {want : List Int} (h : grantB cs fr n want = true) : safeB (afterC cs n.toNat want) (subL fr want) = true := by
  unfold grantB at h
  rw [Bool.and_eq_true] at h
  exact h.2
theorem grantB_ok {cs : List Clm} {fr : List Int} {n : Int} {want : List Int} (h : grantB cs fr n want = true) : grantOk cs fr n want = true := by
  unfold grantB at h
  rw [Bool.and_eq_true] at h
  exact h.1
theorem grantL_len (cs : List Clm) (fr : List Int) (n : Int) (want : List Int) : hlds (grantL cs fr n want) ≤ 48 := by
  unfold grantL
  split
  · rename_i h
    exact hlds_claims (safeB_claims (grantB_safe h))
  · simp [hlds]
theorem grantF_len (cs : List Clm) (fr : List Int) (n : Int) (want : List Int) : (grantF cs fr n want).length ≤ 4 := by
  unfold grantF
  split
  · rename_i h
    exact (claimsB_len (safeB_claims (grantB_safe h))).2.1
  · simp
theorem grant_no {cs : List Clm} {fr : List Int} {n : Int} {want : List Int} (h : grantB cs fr n want = false) : grantL cs fr n want = [] ∧ grantF cs fr n want = [] := by
  unfold grantL grantF
  rw [h]
  exact ⟨rfl, rfl⟩
theorem grant_yes {cs : List Clm} {fr : List Int} {n : Int} {want : List Int} (h : grantB cs fr n want = true) : grantL cs fr n want = afterC cs n.toNat want ∧ grantF cs fr n want = subL fr want := by
  unfold grantL grantF
  rw [h]
  exact ⟨rfl, rfl⟩
theorem not_ok {cs : List Clm} {fr : List Int} {n : Int} {want : List Int} (h : grantOk cs fr n want = false) : grantB cs fr n want = false := by
  unfold grantB
  rw [h]
  rfl
theorem grantB_of {cs : List Clm} {fr : List Int} {N : Nat} {want : List Int} (h : grantOk cs fr (N : Int) want = true) : grantB cs fr (N : Int) want = safeB (afterC cs N want) (subL fr want) := by
  unfold grantB
  rw [h, Bool.true_and, Int.toNat_natCast]
end Go.Proofs.Ytpbihjkfbbmdjaa
