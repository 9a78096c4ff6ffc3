/-
  Breadth first: what holds of the list of samples that have been reached.
-/
import Derived.Test.YtpkcpkhanodnmaaFillLaw
namespace Go.Proofs.Ytpkcpkhanodnmaa
open Go Go.RowKit
def nb (q : Px) (e : Nat) (r : Px) : Prop := (e = 0 ∧ r.1 = q.1 + 1 ∧ r.2 = q.2) ∨ (e = 1 ∧ q.1 = r.1 + 1 ∧ r.2 = q.2) ∨ (e = 2 ∧ r.2 = q.2 + 1 ∧ r.1 = q.1) ∨ (e = 3 ∧ q.2 = r.2 + 1 ∧ r.1 = q.1)
theorem nb_adj {q r : Px} {e : Nat} (h : nb q e r) : adj q r := by
  unfold nb at h
  unfold adj
  omega
theorem adj_nb {q r : Px} (h : adj q r) : ∃ e, e < 4 ∧ nb q e r := by
  rcases h with ⟨h1, h2 | h2⟩ | ⟨h1, h2 | h2⟩
  · exact ⟨1, by omega, by unfold nb; omega⟩
  · exact ⟨0, by omega, by unfold nb; omega⟩
  · exact ⟨3, by omega, by unfold nb; omega⟩
  · exact ⟨2, by omega, by unfold nb; omega⟩
structure FInv (ys : List (List Bool)) (g : List (List Int)) (n : Int) (p : Px) (Q : List Px) (k d : Nat) : Prop where
  mem : p ∈ Q
  rch : ∀ q ∈ Q, Rch (fr ys g) p q
  num : Q.length + cnt ys (mark g (· ∈ Q) n) ≤ 256
  done : ∀ i q, i < k → Q[i]? = some q → ∀ r, adj q r → fr ys g r → r ∈ Q
  now : ∀ q, Q[k]? = some q → ∀ e, e < d → ∀ r, nb q e r → fr ys g r → r ∈ Q
theorem places_len : places.length = 256 := by decide +kernel
theorem cnt_le (ys : List (List Bool)) (g : List (List Int)) : cnt ys g ≤ 256 := by
  unfold cnt
  rw [← places_len]
  exact List.length_filter_le _ _
section
variable {ys : List (List Bool)} {g : List (List Int)} (hd : dims ys g) {n : Int} (hn : n ≠ 0) {p : Px}
include hd hn
theorem FInv.start (hp : fr ys g p) (hpl : p ∈ places) : FInv ys g n p [p] 0 0 := by
  refine ⟨by simp, fun q hq => ?_, ?_, fun i q hi => by omega, fun q _ e he => by omega⟩
  · rw [List.mem_singleton.1 hq]
    exact .base hp
  · have := cnt_mark_lt hd hn (· ∈ [p]) p hpl hp (by simp)
    have := cnt_le ys g
    simp only [List.length_singleton]
    omega
omit hd hn in
theorem FInv.skip {Q : List Px} {k d : Nat} (I : FInv ys g n p Q k d) (h : ∀ q, Q[k]? = some q → ∀ r, nb q d r → fr ys g r → r ∈ Q) : FInv ys g n p Q k (d + 1) := by
  refine ⟨I.mem, I.rch, I.num, I.done, fun q hq e he r hr hf => ?_⟩
  by_cases hed : e = d
  · subst hed; exact h q hq r hr hf
  · exact I.now q hq e (by omega) r hr hf
omit hd hn in
theorem FInv.next {Q : List Px} {k : Nat} (I : FInv ys g n p Q k 4) : FInv ys g n p Q (k + 1) 0 := by
  refine ⟨I.mem, I.rch, I.num, fun i q hi hq r ha hf => ?_, fun q _ e he => by omega⟩
  by_cases hik : i = k
  · subst hik
    obtain ⟨e, he, hr⟩ := adj_nb ha
    exact I.now q hq e he r hr hf
  · exact I.done i q (by omega) hq r ha hf
theorem FInv.add {Q : List Px} {k d : Nat} (I : FInv ys g n p Q k d) {q r : Px} (hq : Q[k]? = some q) (hr : nb q d r) (hf : fr ys (mark g (· ∈ Q) n) r) (hpl : r ∈ places) : FInv ys g n p (Q ++ [r]) k (d + 1) := by
  obtain ⟨hf1, hf2⟩ := (fr_mark hd hn (· ∈ Q) r).1 hf
  have hk := (List.getElem?_eq_some_iff.1 hq).1
  refine ⟨List.mem_append_left _ I.mem, fun z hz => ?_, ?_, fun i z hi hz r' ha hf' => ?_, fun z hz e he r' hr' hf' => ?_⟩
  · rcases List.mem_append.1 hz with hz | hz
    · exact I.rch z hz
    · rw [List.mem_singleton.1 hz]
      exact .step (I.rch q (List.mem_of_getElem? hq)) (nb_adj hr) hf1
  · have h1 := cnt_mark_lt (hd.mark (· ∈ Q) n) hn (fun z => z = r) r hpl hf rfl
    rw [mark_mark] at h1
    have h2 : mark g (· ∈ Q ++ [r]) n = mark g (fun z => z ∈ Q ∨ z = r) n := mark_congr (fun x y s _ _ => by simp)
    rw [h2]
    have := I.num
    rw [List.length_append, List.length_singleton]
    omega
  · rw [List.getElem?_append_left (by omega)] at hz
    exact List.mem_append_left _ (I.done i z hi hz r' ha hf')
  · rw [List.getElem?_append_left hk] at hz
    by_cases hed : e = d
    · subst hed
      rw [hq] at hz
      have e1 := Option.some.inj hz
      subst e1
      have : r' = r := by
        obtain ⟨a, b⟩ := r
        obtain ⟨c, f⟩ := r'
        unfold nb at hr hr'
        simp only at hr hr'
        have h1 : c = a := by omega
        have h2 : f = b := by omega
        rw [h1, h2]
      rw [this]
      simp
    · exact List.mem_append_left _ (I.now z hz e (by omega) r' hr' hf')
omit hd hn in
theorem FInv.fin {X Y : Nat} {Q : List Px} {k : Nat} (I : FInv ys g n (X, Y) Q k 0) (hk : Q.length ≤ k) : mark g (· ∈ Q) n = fillI ys g X Y n := by
  refine fill_list Q I.mem I.rch (fun q hq r ha hf => ?_)
  obtain ⟨i, hi, rfl⟩ := List.getElem_of_mem hq
  exact I.done i _ (by omega) (List.getElem?_eq_getElem hi) r ha hf
end
theorem mark_snoc {g : List (List Int)} (Q : List Px) (n : Int) (r : Px) : mark (mark g (· ∈ Q) n) (fun z => z = r) n = mark g (· ∈ Q ++ [r]) n := by
  rw [mark_mark]
  exact mark_congr (fun x y s _ _ => by simp)
end Go.Proofs.Ytpkcpkhanodnmaa
