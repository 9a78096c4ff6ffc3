/-
  Plain laws on Gray codes: numbers alone, no program.
-/
namespace Go.Proofs.Ytbeihmhiofkjlaa

/-! ### Plain numbers -/
def gray (n : Nat) : Nat := n ^^^ n / 2
def gv (g : Nat) : Nat := if g = 0 then 0 else g ^^^ gv (g / 2)
termination_by g
decreasing_by omega
theorem gv_zero : gv 0 = 0 := by rw [gv]; rfl
theorem gv_pos {g : Nat} (h : 0 < g) : gv g = g ^^^ gv (g / 2) := by rw [gv, if_neg (by omega)]
theorem gray_lt {n : Nat} (h : n < 65536) : gray n < 65536 := Nat.xor_lt_two_pow (n := 16) h (by omega)
theorem gv_lt {g : Nat} (h : g < 65536) : gv g < 65536 := by
  induction g using Nat.strongRecOn with
  | _ g ih =>
    by_cases h0 : g = 0
    · subst h0; rw [gv_zero]; omega
    · rw [gv_pos (by omega)]
      exact Nat.xor_lt_two_pow (n := 16) h (ih _ (by omega) (by omega))
theorem xor_back (a b : Nat) : (a ^^^ b) ^^^ b = a := by rw [Nat.xor_assoc, Nat.xor_self, Nat.xor_zero]
theorem gray_half (n : Nat) : gray n / 2 = gray (n / 2) := by
  unfold gray
  rw [Nat.xor_div_two]
theorem gv_gray (n : Nat) : gv (gray n) = n := by
  induction n using Nat.strongRecOn with
  | _ n ih =>
    by_cases h0 : n = 0
    · subst h0
      have : gray 0 = 0 := by decide
      rw [this, gv_zero]
    · have hpos : 0 < gray n := by
        rcases Nat.eq_zero_or_pos (gray n) with h | h
        · have := xor_back n (n / 2)
          have hg : n ^^^ n / 2 = 0 := h
          rw [hg, Nat.zero_xor] at this
          omega
        · exact h
      rw [gv_pos hpos, gray_half, ih (n / 2) (by omega)]
      exact xor_back n (n / 2)
theorem gv_half (g : Nat) : gv g / 2 = gv (g / 2) := by
  induction g using Nat.strongRecOn with
  | _ g ih =>
    by_cases h0 : g = 0
    · subst h0; rw [gv_zero]
    · rw [gv_pos (by omega), Nat.xor_div_two, ih (g / 2) (by omega)]
      by_cases h1 : g / 2 = 0
      · rw [h1]; simp [gv_zero]
      · rw [gv_pos (g := g / 2) (by omega)]
theorem gray_gv (g : Nat) : gray (gv g) = g := by
  unfold gray
  rw [gv_half]
  by_cases h0 : g = 0
  · subst h0; simp [gv_zero]
  · rw [gv_pos (by omega)]
    exact xor_back g _
theorem mod_two_xor (a b : Nat) : (a ^^^ b) % 2 = (a % 2) ^^^ (b % 2) := Nat.xor_mod_two_pow (n := 1)
theorem gray_pow (n : Nat) : ∃ k, gray n ^^^ gray (n + 1) = 2 ^ k := by
  induction n using Nat.strongRecOn with
  | _ n ih =>
    have hd : (gray n ^^^ gray (n + 1)) / 2 = gray (n / 2) ^^^ gray ((n + 1) / 2) := by rw [Nat.xor_div_two, gray_half, gray_half]
    have hm : (gray n ^^^ gray (n + 1)) % 2 = ((n % 2) ^^^ (n / 2 % 2)) ^^^ (((n + 1) % 2) ^^^ ((n + 1) / 2 % 2)) := by
      unfold gray
      rw [mod_two_xor, mod_two_xor, mod_two_xor (n + 1)]
    rcases Nat.mod_two_eq_zero_or_one n with h | h
    · refine ⟨0, ?_⟩
      rw [show (n + 1) / 2 = n / 2 by omega] at hd hm
      rw [Nat.xor_self] at hd
      rw [show (n + 1) % 2 = 1 by omega, h] at hm
      have : (gray n ^^^ gray (n + 1)) % 2 = 1 := by
        rw [hm]
        rcases Nat.mod_two_eq_zero_or_one (n / 2) with h' | h' <;> rw [h'] <;> rfl
      omega
    · obtain ⟨k, hk⟩ := ih (n / 2) (by omega)
      refine ⟨k + 1, ?_⟩
      rw [show (n + 1) / 2 = n / 2 + 1 by omega] at hd hm
      rw [hk] at hd
      rw [show (n + 1) % 2 = 0 by omega, h] at hm
      have : (gray n ^^^ gray (n + 1)) % 2 = 0 := by
        rw [hm]
        rcases Nat.mod_two_eq_zero_or_one (n / 2) with h' | h'
        · rw [h', show (n / 2 + 1) % 2 = 1 by omega]; rfl
        · rw [h', show (n / 2 + 1) % 2 = 0 by omega]; rfl
      rw [Nat.pow_succ]
      omega
theorem gray_next (n : Nat) : 0 < gray n ^^^ gray (n + 1) ∧ (gray n ^^^ gray (n + 1)) &&& ((gray n ^^^ gray (n + 1)) - 1) = 0 := by
  obtain ⟨k, hk⟩ := gray_pow n
  rw [hk]
  exact ⟨Nat.two_pow_pos k, by rw [Nat.and_two_pow_sub_one_eq_mod, Nat.mod_self]⟩
theorem xor_step (a b c : Nat) (hb : 0 < b) (h : a ^^^ gv b = c) : (a ^^^ b) ^^^ gv (b / 2) = c := by
  rw [gv_pos hb] at h
  rw [Nat.xor_assoc]
  exact h
end Go.Proofs.Ytbeihmhiofkjlaa
