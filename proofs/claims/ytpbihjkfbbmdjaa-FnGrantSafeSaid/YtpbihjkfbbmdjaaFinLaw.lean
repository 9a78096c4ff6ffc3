/-
  FinishOrder, plain: the next robot that can finish; all of them.
-/
import Derived.Test.YtpbihjkfbbmdjaaClaims3
namespace Go.Proofs.Ytpbihjkfbbmdjaa
open Go Go.RowKit
/-- slices.Contains, as a Bool that no walk opens. -/
def hasB (os : List Int) (a : Int) : Bool := decide (a ∈ os)
theorem hasB_t {os : List Int} {a : Int} : hasB os a = true ↔ a ∈ os := by simp [hasB]
theorem hasB_f {os : List Int} {a : Int} : hasB os a = false ↔ a ∉ os := by simp [hasB]
/-- The first k of f's values are g's. -/
def partL (f g : Nat → Int) (n k : Nat) : List Int := (List.range n).map (fun j => if j < k then g j else f j)
theorem partL_len (f g : Nat → Int) (n k : Nat) : (partL f g n k).length = n := by simp [partL]
theorem partL_zero (xs : List Int) (g : Nat → Int) : partL (fun j => xs.getD j 0) g xs.length 0 = xs := by
  refine List.ext_getElem (by simp [partL]) (fun j h1 h2 => ?_)
  simp [partL, h2]
theorem partL_full (f g : Nat → Int) (n : Nat) : partL f g n n = (List.range n).map g := by
  refine List.ext_getElem (by simp [partL]) (fun j h1 h2 => ?_)
  simp [partL] at h1 ⊢
  intro h; omega
theorem partL_set (f g : Nat → Int) (n k : Nat) (hk : k < n) : (partL f g n k).set k (g k) = partL f g n (k + 1) := by
  refine List.ext_getElem (by simp [partL]) (fun j h1 h2 => ?_)
  rw [List.getElem_set]
  by_cases h : k = j
  · subst h
    simp [partL]
  · simp only [h, if_false, partL, List.getElem_map, List.getElem_range]
    by_cases h3 : j < k
    · rw [if_pos h3, if_pos (by omega)]
    · rw [if_neg h3, if_neg (by omega)]
theorem partL_at (f g : Nat → Int) (n k : Nat) (hk : k < n) : (partL f g n k)[k]? = some (f k) := by
  rw [List.getElem?_eq_getElem (by rw [partL_len]; exact hk)]
  simp [partL]
def addW (x y : Int) : Int := wrap64 (x + y)
def addL (left hs : List Int) : List Int := (List.range left.length).map (fun j => addW (left.getD j 0) (hs.getD j 0))
theorem addL_len (left hs : List Int) : (addL left hs).length = left.length := by simp [addL]
/-- Robot k could finish. -/
def canE (cs : List Clm) (left : List Int) (k : Nat) : Bool := match cs[k]? with | some c => leB c.Needs left | none => false
theorem canE_at {cs : List Clm} {k : Nat} {c : Clm} (h : cs[k]? = some c) (left : List Int) : canE cs left k = leB c.Needs left := by simp [canE, h]
def canB (cs : List Clm) (left out : List Int) (k : Nat) : Bool := canE cs left k && !hasB out (k : Int)
def nextR (cs : List Clm) (left out : List Int) : Int := firstI (canB cs left out) (List.range cs.length)
theorem nextR_hit {cs : List Clm} {left out : List Int} {k : Nat} (hk : k < cs.length) (h : canB cs left out k = true) (hb : ∀ j, j < k → canB cs left out j = false) : nextR cs left out = (k : Int) := by
  refine firstI_hit (x := k) (by simp [hk]) h (fun j y hj hy => ?_)
  have := List.getElem?_eq_some_iff.1 hy
  obtain ⟨h1, h2⟩ := this
  simp at h2
  subst h2
  exact hb j hj
theorem nextR_miss {cs : List Clm} {left out : List Int} (hb : ∀ j, j < cs.length → canB cs left out j = false) : nextR cs left out = -1 := by
  refine firstI_miss (fun j y hj hy => ?_)
  obtain ⟨h1, h2⟩ := List.getElem?_eq_some_iff.1 hy
  simp at h2 hj
  subst h2
  exact hb j hj
def holdsAt (cs : List Clm) (r : Nat) : List Int := match cs[r]? with | some c => c.Holds | none => []
theorem holdsAt_at {cs : List Clm} {k : Nat} {c : Clm} (h : cs[k]? = some c) : holdsAt cs k = c.Holds := by simp [holdsAt, h]
def finGo (cs : List Clm) : Nat → List Int → List Int → List Int
  | 0, _, out => out
  | f + 1, left, out => if nextR cs left out < 0 then out else finGo cs f (addL left (holdsAt cs (nextR cs left out).toNat)) (out ++ [nextR cs left out])
theorem finGo_stop {cs : List Clm} {left out : List Int} (h : nextR cs left out = -1) : ∀ f, finGo cs f left out = out
  | 0 => rfl
  | f + 1 => by rw [finGo, h, if_pos (by omega)]
theorem finGo_step {cs : List Clm} {left out : List Int} {k : Nat} (h : nextR cs left out = (k : Int)) (f : Nat) : finGo cs (f + 1) left out = finGo cs f (addL left (holdsAt cs k)) (out ++ [(k : Int)]) := by
  rw [finGo, h, if_neg (by omega)]; rfl
theorem finGo_len (cs : List Clm) : ∀ f left out, (finGo cs f left out).length ≤ out.length + f
  | 0, left, out => by simp [finGo]
  | f + 1, left, out => by
    rw [finGo]
    split
    · omega
    · have := finGo_len cs f (addL left (holdsAt cs (nextR cs left out).toNat)) (out ++ [nextR cs left out])
      rw [List.length_append] at this
      simp at this
      omega
def finish (cs : List Clm) (fr : List Int) : List Int := if claimsB cs fr then finGo cs cs.length fr [] else []
theorem finish_len (cs : List Clm) (fr : List Int) : (finish cs fr).length ≤ cs.length := by
  unfold finish
  split
  · have := finGo_len cs cs.length fr []
    simpa using this
  · simp
/-- Where the search stands. -/
def Seek (cs : List Clm) (left out : List Int) (N : Int) : Prop := (N = -1 ∧ ∀ j, j < cs.length → canB cs left out j = false) ∨ ∃ k : Nat, k < cs.length ∧ N = (k : Int) ∧ canE cs left k = true ∧ ∀ j, j < k → canB cs left out j = false
theorem firstI_cases {α : Type} (p : α → Bool) (xs : List α) : (firstI p xs = -1 ∧ ∀ (j : Nat) (x : α), xs[j]? = some x → p x = false) ∨ ∃ (k : Nat) (x : α), firstI p xs = (k : Int) ∧ xs[k]? = some x ∧ p x = true ∧ ∀ (j : Nat) (y : α), j < k → xs[j]? = some y → p y = false := by
  unfold firstI
  cases h : xs.findIdx? p with
  | none =>
    left
    refine ⟨rfl, fun j x hx => ?_⟩
    have := List.findIdx?_eq_none_iff.1 h x (List.mem_of_getElem? hx)
    simpa using this
  | some k =>
    right
    obtain ⟨hk, h2, h3⟩ := List.findIdx?_eq_some_iff_getElem.1 h
    refine ⟨k, xs[k], rfl, List.getElem?_eq_getElem hk, h2, fun j y hj hy => ?_⟩
    obtain ⟨hj2, rfl⟩ := List.getElem?_eq_some_iff.1 hy
    simpa using h3 j hj
theorem canB_of_not {cs : List Clm} {left out : List Int} {j : Nat} (h : canE cs left j = false) : canB cs left out j = false := by simp [canB, h]
theorem seek_start (cs : List Clm) (left out : List Int) : Seek cs left out (firstI (fun c => leB c.Needs left) cs) := by
  rcases firstI_cases (fun c : Clm => leB c.Needs left) cs with ⟨h, hb⟩ | ⟨k, x, h, hx, hp, hb⟩
  · left
    exact ⟨h, fun j hj => canB_of_not (by rw [canE_at (List.getElem?_eq_getElem hj)]; exact hb j _ (List.getElem?_eq_getElem hj))⟩
  · right
    refine ⟨k, (List.getElem?_eq_some_iff.1 hx).1, h, by rw [canE_at hx]; exact hp, fun j hj => canB_of_not ?_⟩
    have hj2 : j < cs.length := by have := (List.getElem?_eq_some_iff.1 hx).1; omega
    rw [canE_at (List.getElem?_eq_getElem hj2)]
    exact hb j _ hj (List.getElem?_eq_getElem hj2)
theorem seek_next {cs : List Clm} {left out : List Int} {k : Nat} (S : Seek cs left out (k : Int)) (hk : hasB out (k : Int) = true) :
    (firstI (fun c => leB c.Needs left) (cs.drop (k + 1)) < 0 → Seek cs left out (-1)) ∧ (0 ≤ firstI (fun c => leB c.Needs left) (cs.drop (k + 1)) → Seek cs left out ((k : Int) + 1 + firstI (fun c => leB c.Needs left) (cs.drop (k + 1)))) := by
  rcases S with ⟨h, _⟩ | ⟨k', hk', h, he, hb⟩
  · omega
  obtain rfl : k = k' := by omega
  have hb' : ∀ j, j < k + 1 → canB cs left out j = false := by
    intro j hj
    by_cases h2 : j = k
    · subst h2
      simp [canB, hk]
    · exact hb j (by omega)
  rcases firstI_cases (fun c : Clm => leB c.Needs left) (cs.drop (k + 1)) with ⟨h, hq⟩ | ⟨r, x, h, hx, hp, hq⟩
  · refine ⟨fun _ => Or.inl ⟨rfl, fun j hj => ?_⟩, fun h2 => by omega⟩
    by_cases h2 : j < k + 1
    · exact hb' j h2
    · refine canB_of_not ?_
      rw [canE_at (List.getElem?_eq_getElem hj)]
      refine hq (j - (k + 1)) _ ?_
      rw [List.getElem?_drop, show k + 1 + (j - (k + 1)) = j by omega, List.getElem?_eq_getElem hj]
  · refine ⟨fun h2 => by omega, fun _ => Or.inr ⟨k + 1 + r, ?_, by rw [h]; omega, ?_, fun j hj => ?_⟩⟩
    · rw [List.getElem?_drop] at hx
      exact (List.getElem?_eq_some_iff.1 hx).1
    · rw [List.getElem?_drop] at hx
      rw [canE_at hx]
      exact hp
    · by_cases h2 : j < k + 1
      · exact hb' j h2
      · rw [List.getElem?_drop] at hx
        have hj2 : j < cs.length := by have := (List.getElem?_eq_some_iff.1 hx).1; omega
        refine canB_of_not ?_
        rw [canE_at (List.getElem?_eq_getElem hj2)]
        refine hq (j - (k + 1)) _ (by omega) ?_
        rw [List.getElem?_drop, show k + 1 + (j - (k + 1)) = j by omega, List.getElem?_eq_getElem hj2]
theorem seek_miss {cs : List Clm} {left out : List Int} {N : Int} (S : Seek cs left out N) (h : N < 0) : nextR cs left out = -1 := by
  rcases S with ⟨_, hb⟩ | ⟨k, _, rfl, _⟩
  · exact nextR_miss hb
  · omega
theorem seek_hit {cs : List Clm} {left out : List Int} {k : Nat} (S : Seek cs left out (k : Int)) (h : hasB out (k : Int) = false) : nextR cs left out = (k : Int) := by
  rcases S with ⟨h, _⟩ | ⟨k', hk, h2, he, hb⟩
  · omega
  · obtain rfl : k = k' := by omega
    exact nextR_hit hk (by simp [canB, he, h]) hb
theorem seek_form {cs : List Clm} {left out : List Int} {N : Int} (S : Seek cs left out N) : N = -1 ∨ ∃ k : Nat, N = (k : Int) ∧ k < cs.length := by
  rcases S with ⟨h, _⟩ | ⟨k, hk, h, _⟩
  · exact Or.inl h
  · exact Or.inr ⟨k, h, hk⟩
theorem claimsB_at {cs : List Clm} {fr : List Int} (h : claimsB cs fr = true) (k : Nat) (c : Clm) (hc : cs[k]? = some c) : c.Holds.length = fr.length ∧ c.Needs.length = fr.length ∧ amtB c.Holds = true ∧ amtB c.Needs = true := by
  simp only [claimsB, Bool.and_eq_true, decide_eq_true_eq, List.all_eq_true] at h
  have := h.2.2.2 c (List.mem_of_getElem? hc)
  simp only [clmB, Bool.and_eq_true, decide_eq_true_eq] at this
  exact ⟨this.1.1, this.2.1, this.1.2, this.2.2⟩
theorem claimsB_len {cs : List Clm} {fr : List Int} (h : claimsB cs fr = true) : cs.length ≤ 6 ∧ fr.length ≤ 4 ∧ amtB fr = true := by
  simp only [claimsB, Bool.and_eq_true, decide_eq_true_eq] at h
  exact ⟨h.1, h.2.1, h.2.2.1⟩
end Go.Proofs.Ytpbihjkfbbmdjaa
