/-
  The sets of a picture: sizes, sums and boxes; plain facts.
-/
import Derived.Test.YtpkcpkhanodnmaaBlobLaw
namespace Go.Proofs.Ytpkcpkhanodnmaa
open Go Go.RowKit
theorem bs_new {st : List Blb} {K x y : Nat} (h : K = st.length) : bstep st ((K : Int) + 1) x y = st ++ [addB (newB x y) x y] := by
  subst h
  unfold bstep grow
  rw [if_neg (by omega), if_pos (by omega), show ((st.length : Int) + 1).toNat - 1 = st.length by omega]
  rw [List.set_append_right _ _ (Nat.le_refl _), Nat.sub_self, List.set_cons_zero]
  congr 2
  rw [List.getD_eq_getElem?_getD, List.getElem?_append_right (Nat.le_refl _), Nat.sub_self]
  rfl
theorem bs_old {st : List Blb} {K x y : Nat} (h : K < st.length) : bstep st ((K : Int) + 1) x y = st.set K (addB st[K] x y) := by
  unfold bstep grow
  rw [if_neg (by omega), if_neg (by omega), show ((K : Int) + 1).toNat - 1 = K by omega, List.getD_eq_getElem?_getD, List.getElem?_eq_getElem h]
  rfl
/-- What a set is like when the rows before y and the columns before x of row y have been seen. -/
structure BInv (y x : Nat) (b : Blb) : Prop where
  size : 1 ≤ b.Size
  lr : 0 ≤ b.Left ∧ b.Left ≤ b.Right ∧ b.Right ≤ 15
  tb : 0 ≤ b.Top ∧ b.Top ≤ b.Bottom ∧ b.Bottom ≤ y
  sx : b.Left * b.Size ≤ b.SumX ∧ b.SumX ≤ b.Right * b.Size
  sy : b.Top * b.Size ≤ b.SumY ∧ b.SumY ≤ b.Bottom * b.Size
  one : b.Size = 1 → b.Left = b.Right ∧ b.Top = b.Bottom
  area : (b.Bottom < y ∧ b.Size ≤ (b.Right - b.Left + 1) * (b.Bottom - b.Top + 1)) ∨
    (b.Bottom = y ∧ b.Left < x ∧ b.Size ≤ (b.Right - b.Left + 1) * (y - b.Top) + (x - b.Left) ∧ b.Size ≤ (b.Right - b.Left + 1) * (y - b.Top + 1))
theorem BInv.next {y x : Nat} {b : Blb} (h : BInv y x b) : BInv y (x + 1) b := by
  refine ⟨h.size, h.lr, h.tb, h.sx, h.sy, h.one, ?_⟩
  rcases h.area with a | ⟨a1, a2, a3, a4⟩
  · exact .inl a
  · exact .inr ⟨a1, by omega, by omega, a4⟩
theorem BInv.row {y x : Nat} {b : Blb} (h : BInv y x b) : BInv (y + 1) 0 b := by
  have tb := h.tb
  refine ⟨h.size, h.lr, ⟨tb.1, tb.2.1, by omega⟩, h.sx, h.sy, h.one, .inl ?_⟩
  rcases h.area with a | ⟨a1, a2, a3, a4⟩
  · exact ⟨by omega, a.2⟩
  · exact ⟨by omega, by rw [a1]; exact a4⟩
theorem BInv.new {y x : Nat} (hx : x ≤ 15) : BInv y (x + 1) (addB (newB x y) x y) := by
  unfold addB newB
  simp only [Int.min_self, Int.max_self]
  refine ⟨by simp, ⟨by simp, by simp, by simp; omega⟩, ⟨by simp, by simp, by simp⟩, ⟨by simp, by simp⟩, ⟨by simp, by simp⟩, fun _ => ⟨rfl, rfl⟩, .inr ⟨rfl, by simp; omega, ?_, ?_⟩⟩
  · simp; omega
  · simp
theorem BInv.add {y x : Nat} {b : Blb} (h : BInv y x b) (hx : x ≤ 15) : BInv y (x + 1) (addB b x y) := by
  obtain ⟨s1, ⟨l0, l1, l2⟩, ⟨t0, t1, t2⟩, ⟨sx1, sx2⟩, ⟨sy1, sy2⟩, on, ar⟩ := h
  obtain ⟨S, X, Y, L, R, T, B⟩ := b
  simp only at *
  obtain ⟨L', hL⟩ : ∃ L', L' = min L (x : Int) := ⟨_, rfl⟩
  obtain ⟨R', hR⟩ : ∃ R', R' = max R (x : Int) := ⟨_, rfl⟩
  have hT : min T (y : Int) = T := by omega
  have hB : max B (y : Int) = y := by omega
  unfold addB
  simp only [← hL, ← hR, hT, hB]
  have m1 : L' * S ≤ L * S := Int.mul_le_mul_of_nonneg_right (by omega) (by omega)
  have m2 : R * S ≤ R' * S := Int.mul_le_mul_of_nonneg_right (by omega) (by omega)
  have m3 : B * S ≤ (y : Int) * S := Int.mul_le_mul_of_nonneg_right (by omega) (by omega)
  have e1 : L' * (S + 1) = L' * S + L' := by rw [Int.mul_add, Int.mul_one]
  have e2 : R' * (S + 1) = R' * S + R' := by rw [Int.mul_add, Int.mul_one]
  have e3 : T * (S + 1) = T * S + T := by rw [Int.mul_add, Int.mul_one]
  have e4 : (y : Int) * (S + 1) = (y : Int) * S + y := by rw [Int.mul_add, Int.mul_one]
  have ww : R - L + 1 ≤ R' - L' + 1 := by omega
  have hA : S ≤ (R' - L' + 1) * ((y : Int) - T) + (x - L') := by
    rcases ar with ⟨a1, a2⟩ | ⟨a1, a2, a3, a4⟩
    · have q1 : (R - L + 1) * (B - T + 1) ≤ (R' - L' + 1) * (B - T + 1) := Int.mul_le_mul_of_nonneg_right ww (by omega)
      have q2 : (R' - L' + 1) * (B - T + 1) ≤ (R' - L' + 1) * ((y : Int) - T) := Int.mul_le_mul_of_nonneg_left (by omega) (by omega)
      omega
    · have q1 : (R - L + 1) * ((y : Int) - T) ≤ (R' - L' + 1) * ((y : Int) - T) := Int.mul_le_mul_of_nonneg_right ww (by omega)
      omega
  have e5 : (R' - L' + 1) * ((y : Int) - T + 1) = (R' - L' + 1) * ((y : Int) - T) + (R' - L' + 1) := by rw [Int.mul_add, Int.mul_one]
  refine ⟨by simp only; omega, ⟨by simp only; omega, by simp only; omega, by simp only; omega⟩, ⟨by simp only; omega, by simp only; omega, by simp only; omega⟩, ⟨by simp only; omega, by simp only; omega⟩, ⟨by simp only; omega, by simp only; omega⟩, fun h => by simp only at h; omega, .inr ⟨rfl, by simp only; omega, by simp only; omega, by simp only; omega⟩⟩
theorem bstep_inv {st : List Blb} {y x : Nat} (hs : ∀ b ∈ st, BInv y x b) (n : Int) (h0 : 0 ≤ n) (h1 : n ≤ (st.length : Int) + 1) (hx : x ≤ 15) : ∀ b ∈ bstep st n x y, BInv y (x + 1) b := by
  by_cases hn : n = 0
  · subst hn
    rw [bstep_zero]
    exact fun b hb => (hs b hb).next
  obtain ⟨K, rfl⟩ : ∃ K : Nat, n = (K : Int) + 1 := ⟨(n - 1).toNat, by omega⟩
  by_cases hK : K < st.length
  · rw [bs_old hK]
    intro b hb
    rcases List.mem_or_eq_of_mem_set hb with hb | rfl
    · exact (hs b hb).next
    · exact (hs _ (List.getElem_mem hK)).add hx
  · rw [bs_new (by omega)]
    intro b hb
    rcases List.mem_append.1 hb with hb | hb
    · exact (hs b hb).next
    · rw [List.mem_singleton.1 hb]
      exact BInv.new hx
section
variable {ys : List (List Bool)} (h : imgB ys = true)
include h
theorem blobX_inv {y : Nat} (hy : y < ys.length) (hs : ∀ b ∈ blobY ys (labels ys) y, BInv y 0 b) : ∀ x, x ≤ (ys.headD []).length → ∀ b ∈ blobX (labels ys) y (blobY ys (labels ys) y) x, BInv y x b
  | 0, _ => hs
  | x + 1, hx => by
    have hd := (imgOk_dims (imgB_t.1 h)).2
    obtain ⟨h1, h2⟩ := blob_num h hy (show x < _ by omega)
    exact bstep_inv (blobX_inv hy hs x (by omega)) _ h1 h2 (by omega)
theorem blobY_inv : ∀ y, y ≤ ys.length → ∀ b ∈ blobY ys (labels ys) y, BInv y 0 b
  | 0, _ => by simp [blobY]
  | y + 1, hy => fun b hb => (blobX_inv h (by omega) (blobY_inv y (by omega)) _ (Nat.le_refl _) b hb).row
end
/-- What every set is like. -/
structure BFin (b : Blb) : Prop where
  size : 1 ≤ b.Size ∧ b.Size ≤ 256
  lr : 0 ≤ b.Left ∧ b.Left ≤ b.Right ∧ b.Right ≤ 15
  tb : 0 ≤ b.Top ∧ b.Top ≤ b.Bottom ∧ b.Bottom ≤ 15
  sx : b.Left * b.Size ≤ b.SumX ∧ b.SumX ≤ b.Right * b.Size
  sy : b.Top * b.Size ≤ b.SumY ∧ b.SumY ≤ b.Bottom * b.Size
  sums : 0 ≤ b.SumX ∧ b.SumX ≤ 4096 ∧ 0 ≤ b.SumY ∧ b.SumY ≤ 4096
  one : b.Size = 1 → b.Left = b.Right ∧ b.Top = b.Bottom
  area : b.Size ≤ (b.Right - b.Left + 1) * (b.Bottom - b.Top + 1)
theorem blobs_fin {ys : List (List Bool)} : ∀ b ∈ blobs ys, BFin b := by
  intro b hb
  cases h : imgB ys with
  | false => rw [blobs_no h] at hb; cases hb
  | true =>
    rw [blobs_yes h] at hb
    have hd := (imgOk_dims (imgB_t.1 h)).1
    have I := blobY_inv h _ (Nat.le_refl _) b hb
    have D := blobY_bd (imgB_t.1 h) (g := labels ys) _ (Nat.le_refl _) b hb
    obtain ⟨s1, ⟨l0, l1, l2⟩, ⟨t0, t1, t2⟩, sx, sy, on, ar⟩ := I
    unfold BBd at D
    have hB : b.Bottom < ys.length ∧ b.Size ≤ (b.Right - b.Left + 1) * (b.Bottom - b.Top + 1) := by
      rcases ar with a | ⟨a1, a2, _⟩
      · exact ⟨by omega, a.2⟩
      · omega
    exact ⟨⟨s1, by omega⟩, ⟨l0, l1, l2⟩, ⟨t0, t1, by omega⟩, sx, sy, ⟨by omega, by omega, by omega, by omega⟩, on, hB.2⟩
/-! ### Sizes together -/
def szs (st : List Blb) : Int := (st.map Blb.Size).sum
theorem szs_snoc (st : List Blb) (b : Blb) : szs (st ++ [b]) = szs st + b.Size := by simp [szs]
theorem szs_set : ∀ (st : List Blb) (k : Nat) (b : Blb) (hk : k < st.length), szs (st.set k b) = szs st - st[k].Size + b.Size
  | [], _, _, h => by simp at h
  | a :: st, 0, b, _ => by simp [szs]; omega
  | a :: st, k + 1, b, h => by
    have := szs_set st k b (by simpa using h)
    simp only [szs, List.set_cons_succ, List.map_cons, List.sum_cons, List.getElem_cons_succ] at *
    omega
theorem bstep_szs {st : List Blb} {x y : Nat} (n : Int) (h0 : 0 ≤ n) (h1 : n ≤ (st.length : Int) + 1) :
    ((bstep st n x y).length : Int) = max (st.length : Int) n ∧ szs (bstep st n x y) = szs st + (if 0 < n then 1 else 0) := by
  by_cases hn : n = 0
  · subst hn
    rw [bstep_zero]
    simp
  obtain ⟨K, rfl⟩ : ∃ K : Nat, n = (K : Int) + 1 := ⟨(n - 1).toNat, by omega⟩
  rw [if_pos (by omega)]
  by_cases hK : K < st.length
  · rw [bs_old hK, szs_set _ _ _ hK, List.length_set]
    refine ⟨by omega, ?_⟩
    show szs st - st[K].Size + (st[K].Size + 1) = _
    omega
  · rw [bs_new (by omega), szs_snoc]
    refine ⟨by simp; omega, ?_⟩
    show szs st + (0 + 1) = _
    omega
theorem blob_step {ys : List (List Bool)} (h : imgB ys = true) {y x : Nat} (hy : y < ys.length) (hx : x < (ys.headD []).length) :
    ((blobX (labels ys) y (blobY ys (labels ys) y) (x + 1)).length : Int) = max ((blobX (labels ys) y (blobY ys (labels ys) y) x).length : Int) (gr (labels ys) x y) ∧
      szs (blobX (labels ys) y (blobY ys (labels ys) y) (x + 1)) = szs (blobX (labels ys) y (blobY ys (labels ys) y) x) + (if 0 < gr (labels ys) x y then 1 else 0) := by
  obtain ⟨h1, h2⟩ := blob_num h hy hx
  exact bstep_szs _ h1 h2
theorem szs_take (st : List Blb) (k : Nat) (hk : k < st.length) : szs (st.take (k + 1)) = szs (st.take k) + st[k].Size := by
  rw [List.take_succ_eq_append_getElem hk, szs_snoc]
end Go.Proofs.Ytpkcpkhanodnmaa
