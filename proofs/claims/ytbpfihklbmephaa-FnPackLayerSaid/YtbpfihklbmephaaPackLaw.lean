/-
  Packed layers as plain lists: valid, of the given size, enough of them, not more than the area permits.
-/
import Derived.Test.YtbpfihklbmephaaPack
import Derived.Test.YtbpfihklbmephaaPalLaw
namespace Go.Proofs.Ytbpfihklbmephaa
open Go Go.RowKit
def bxG (X0 X1 Y0 Y1 : Int) (b : Bx) : Prop := X0 ≤ b.X ∧ b.X + b.W ≤ X1 ∧ Y0 ≤ b.Y ∧ b.Y + b.D ≤ Y1
theorem grid_mem {y ww d : Int} {C R : Nat} {b : Bx} (h : b ∈ gridTo y ww d C R) : ∃ r c, r < R ∧ c < C ∧ b = bxAt y ww d r c := by
  unfold gridTo rowTo at h
  rw [List.mem_flatMap] at h
  obtain ⟨r, hr, hb⟩ := h
  rw [List.mem_map] at hb
  obtain ⟨c, hc, rfl⟩ := hb
  exact ⟨r, c, List.mem_range.1 hr, List.mem_range.1 hc, rfl⟩
theorem mul_step {i n : Nat} {s : Int} (hs : 0 ≤ s) (h : i < n) : 0 ≤ (i : Int) * s ∧ (i : Int) * s + s ≤ (n : Int) * s := by
  refine ⟨Int.mul_nonneg (by omega) hs, ?_⟩
  have := Int.mul_le_mul_of_nonneg_right (show (i : Int) + 1 ≤ n by omega) hs
  rw [Int.add_mul, Int.one_mul] at this
  exact this
theorem grid_in {pw pd y ww d : Int} {C R : Nat} (hw : 1 ≤ ww) (hd : 1 ≤ d) (hy : 0 ≤ y) (hC : (C : Int) * ww ≤ pw) (hR : y + (R : Int) * d ≤ pd) {b : Bx} (h : b ∈ gridTo y ww d C R) :
    bxIn pw pd b ∧ b.W = ww ∧ b.D = d ∧ y ≤ b.Y ∧ b.Y + b.D ≤ y + (R : Int) * d := by
  obtain ⟨r, c, hr, hc, rfl⟩ := grid_mem h
  obtain ⟨h1, h2⟩ := mul_step (show 0 ≤ ww by omega) hc
  obtain ⟨h3, h4⟩ := mul_step (show 0 ≤ d by omega) hr
  unfold bxIn bxAt
  dsimp only
  omega
theorem apart_in {pw pd : Int} (h1 : 1 ≤ pw ∧ pw ≤ 200) (h2 : 1 ≤ pd ∧ pd ≤ 200) {a b : Bx} (ha : bxIn pw pd a) (hb : bxIn pw pd b) (h : a.off b) : apartB b a = true := by
  unfold apartB
  rw [decide_eq_true_eq]
  unfold bxIn at ha hb
  unfold Bx.off at h
  unfold Bx.ok Bx.off
  omega
theorem grid_pair {y ww d : Int} (C R : Nat) (hw : 0 ≤ ww) (hd : 0 ≤ d) : (gridTo y ww d C R).Pairwise Bx.off := by
  unfold gridTo rowTo
  rw [List.pairwise_flatMap]
  refine ⟨fun r _ => ?_, ?_⟩
  · rw [List.pairwise_map]
    refine List.Pairwise.imp ?_ List.pairwise_lt_range
    intro c c' hcc
    have := (mul_step hw hcc).2
    unfold Bx.off bxAt
    dsimp only
    omega
  · refine List.Pairwise.imp ?_ List.pairwise_lt_range
    intro r r' hrr a ha b hb
    rw [List.mem_map] at ha hb
    obtain ⟨c, _, rfl⟩ := ha
    obtain ⟨c', _, rfl⟩ := hb
    have := (mul_step hd hrr).2
    unfold Bx.off bxAt
    dsimp only
    omega
theorem grid_len (y ww d : Int) (C R : Nat) : (gridTo y ww d C R).length = R * C := by
  induction R with
  | zero => simp [gridTo]
  | succ n ih =>
    have e : gridTo y ww d C (n + 1) = gridTo y ww d C n ++ rowTo y ww d n C := by simp [gridTo, List.range_succ]
    rw [e, List.length_append, ih]
    simp [rowTo]
    rw [Nat.add_mul]; omega
theorem cand_sub (pw pd ww d : Int) (n : Nat) : List.Sublist (cand pw pd ww d n) (gridTo 0 ww d (pw / ww).toNat n ++ gridTo ((n : Int) * d) d ww (pw / d).toNat ((pd - (n : Int) * d) / ww).toNat) := by
  unfold cand
  refine (List.take_sublist _ _).trans ?_
  rw [List.nil_append]
  exact List.Sublist.append (List.take_sublist _ _) (List.Sublist.refl _)
def bxOf (ww d : Int) (b : Bx) : Prop := (b.W = ww ∧ b.D = d) ∨ (b.W = d ∧ b.D = ww)
theorem quo {a b : Int} (ha : 0 ≤ a) (hb : 1 ≤ b) : (((a / b).toNat : Nat) : Int) * b ≤ a := by
  have h0 := Int.ediv_nonneg ha (show 0 ≤ b by omega)
  rw [Int.toNat_of_nonneg h0]
  exact Int.ediv_mul_le a (by omega)
theorem cand_law {pw pd ww d : Int} (h1 : 1 ≤ pw ∧ pw ≤ 200) (h2 : 1 ≤ pd ∧ pd ≤ 200) (h3 : 1 ≤ ww ∧ ww ≤ 200) (h4 : 1 ≤ d ∧ d ≤ 200) {n : Nat} (hn : (n : Int) * d ≤ pd) :
    layerOk pw pd (cand pw pd ww d n) ∧ ∀ b ∈ cand pw pd ww d n, bxOf ww d b := by
  have hnd : 0 ≤ (n : Int) * d := Int.mul_nonneg (by omega) (by omega)
  have q1 := quo (show 0 ≤ pw by omega) h3.1
  have q2 := quo (show 0 ≤ pw by omega) h4.1
  have q3 := quo (show 0 ≤ pd - (n : Int) * d by omega) h3.1
  have S := cand_sub pw pd ww d n
  have i1 : ∀ b, b ∈ gridTo 0 ww d (pw / ww).toNat n → _ := fun b hb => grid_in (pw := pw) (pd := pd) h3.1 h4.1 (Int.le_refl 0) q1 (by omega) hb
  have i2 : ∀ b, b ∈ gridTo ((n : Int) * d) d ww (pw / d).toNat ((pd - (n : Int) * d) / ww).toNat → _ := fun b hb => grid_in (pw := pw) (pd := pd) h4.1 h3.1 hnd q2 (by omega) hb
  have hin : ∀ b ∈ cand pw pd ww d n, bxIn pw pd b ∧ bxOf ww d b := by
    intro b hb
    have := S.subset hb
    rw [List.mem_append] at this
    rcases this with h | h
    · exact ⟨(i1 b h).1, .inl ⟨(i1 b h).2.1, (i1 b h).2.2.1⟩⟩
    · exact ⟨(i2 b h).1, .inr ⟨(i2 b h).2.1, (i2 b h).2.2.1⟩⟩
  have hp : (cand pw pd ww d n).Pairwise Bx.off := by
    refine List.Pairwise.sublist S ?_
    rw [List.pairwise_append]
    refine ⟨grid_pair _ _ (by omega) (by omega), grid_pair _ _ (by omega) (by omega), fun a ha b hb => ?_⟩
    have ha' := (i1 a ha).2.2.2
    have hb' := (i2 b hb).2.2.2
    unfold Bx.off
    omega
  refine ⟨⟨⟨h1, h2, ?_⟩, fun k b hb => (hin b (List.mem_of_getElem? hb)).1, fun j k a b hjk ha hb => ?_⟩, fun b hb => (hin b hb).2⟩
  · unfold cand
    rw [List.length_take]
    omega
  · refine apart_in h1 h2 (hin a (List.mem_of_getElem? ha)).1 (hin b (List.mem_of_getElem? hb)).1 ?_
    rw [List.pairwise_iff_getElem] at hp
    obtain ⟨hj, rfl⟩ := List.getElem?_eq_some_iff.1 ha
    obtain ⟨hk, rfl⟩ := List.getElem?_eq_some_iff.1 hb
    exact hp j k hj hk hjk
theorem best_law {pw pd ww d : Int} (h1 : 1 ≤ pw ∧ pw ≤ 200) (h2 : 1 ≤ pd ∧ pd ≤ 200) (h3 : 1 ≤ ww ∧ ww ≤ 200) (h4 : 1 ≤ d ∧ d ≤ 200) : ∀ K : Nat, (K : Int) ≤ pd / d + 1 →
    (layerOk pw pd (bestOf pw pd ww d K) ∧ ∀ b ∈ bestOf pw pd ww d K, bxOf ww d b) ∧ ∀ n, n < K → (cand pw pd ww d n).length ≤ (bestOf pw pd ww d K).length
  | 0, _ => by
    refine ⟨⟨⟨⟨h1, h2, by simp [bestOf]⟩, fun k b hb => by simp [bestOf] at hb, fun j k a b _ ha => by simp [bestOf] at ha⟩, fun b hb => by simp [bestOf] at hb⟩, fun n hn => by omega⟩
  | K + 1, hK => by
    obtain ⟨ih1, ih2⟩ := best_law h1 h2 h3 h4 K (by omega)
    unfold bestOf
    by_cases hl : (bestOf pw pd ww d K).length < (cand pw pd ww d K).length
    · rw [if_pos hl]
      refine ⟨cand_law h1 h2 h3 h4 ((le_iff h4.1 K).2 (by omega)), fun n hn => ?_⟩
      by_cases hnK : n = K
      · subst hnK; exact Nat.le_refl _
      · have := ih2 n (by omega)
        omega
    · rw [if_neg hl]
      refine ⟨ih1, fun n hn => ?_⟩
      by_cases hnK : n = K
      · subst hnK; omega
      · exact ih2 n (by omega)
theorem area_of {ww d : Int} : ∀ {xs : List Bx}, (∀ b ∈ xs, bxOf ww d b) → areaL xs = (xs.length : Int) * (ww * d)
  | [], _ => by simp [areaL]
  | b :: xs, h => by
    have ih := area_of (xs := xs) (fun b hb => h b (List.mem_cons_of_mem _ hb))
    have hb := h b (List.mem_cons_self ..)
    have e : b.W * b.D = ww * d := by
      rcases hb with ⟨e1, e2⟩ | ⟨e1, e2⟩ <;> rw [e1, e2]
      exact Int.mul_comm _ _
    rw [areaL, ih, e, List.length_cons, Int.natCast_add, Int.add_mul]
    omega
theorem pack_law {pw pd ww d : Int} (h1 : 1 ≤ pw ∧ pw ≤ 200) (h2 : 1 ≤ pd ∧ pd ≤ 200) (h3 : 1 ≤ ww ∧ ww ≤ 200) (h4 : 1 ≤ d ∧ d ≤ 200) {xs : List Bx} (hx : xs = bestOf pw pd ww d (pd / d + 1).toNat) {A B P Q : Nat}
    (hA : pw / ww = (A : Int)) (hB : pd / d = (B : Int)) (hP : pw / d = (P : Int)) (hQ : pd / ww = (Q : Int)) :
    layerOk pw pd xs ∧ (∀ b ∈ xs, bxOf ww d b) ∧ (A * B ≤ xs.length ∨ 60 ≤ xs.length) ∧ (P * Q ≤ xs.length ∨ 60 ≤ xs.length) ∧ (xs.length : Int) * ww * d ≤ pw * pd := by
  have hq := Int.ediv_nonneg (show 0 ≤ pd by omega) (show 0 ≤ d by omega)
  obtain ⟨⟨l1, l2⟩, l3⟩ := best_law h1 h2 h3 h4 (pd / d + 1).toNat (by omega)
  rw [← hx] at l1 l2 l3
  have c1 := l3 B (by omega)
  have c2 := l3 0 (by omega)
  unfold cand at c1 c2
  rw [List.length_take, List.length_append, List.length_take, List.nil_append, grid_len, grid_len] at c1 c2
  rw [hA, Int.toNat_natCast, Nat.mul_comm] at c1
  rw [hP, show pd - ((0 : Nat) : Int) * d = pd by omega, hQ, Int.toNat_natCast, Int.toNat_natCast, Nat.mul_comm Q P] at c2
  refine ⟨l1, l2, by omega, by omega, ?_⟩
  have := area_le l1
  rw [area_of l2, ← Int.mul_assoc] at this
  exact this
end Go.Proofs.Ytbpfihklbmephaa
