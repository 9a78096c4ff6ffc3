/-
  spec.l20Read: plain lists.
-/
import Derived.Test.YtbhelobahfgaeaaDoorValS
namespace Go.Proofs.YtbhelobahfgaeaaDoor
open Go Go.RowKit
set_option linter.unusedVariables false
/-- W are the words of s, if s is a command's line. -/
def Good (s : ByteArray) (W : List ByteArray) : Prop := ∀ c, readI s = some c → W = (wordsL c).map bt
theorem good_words (s : ByteArray) : Good s (wordsB s) := fun c h => by
  obtain ⟨h1, h2⟩ := readI_some h
  rw [← h2, words_of_line]
theorem good_long {s : ByteArray} (h : 40 < s.size) (W : List ByteArray) : Good s W := fun c hc => by
  obtain ⟨h1, h2⟩ := readI_some hc
  have := line_size h1
  rw [h2] at this
  omega
theorem good_num {s w0 : ByteArray} {ws : List ByteArray} (g : Good s (w0 :: ws)) {j : Nat} (hj : j ≤ ws.length) (h : numsP valS ws j = none) : readI s = none := by
  cases hr : readI s with
  | none => rfl
  | some c =>
    obtain ⟨h1, h2⟩ := readI_some hr
    obtain ⟨k, ws', hk, hk2, hw, hl, hn⟩ := nums_line valS_itoa h1
    have e := g c hr
    rw [hw] at e
    obtain ⟨rfl, rfl⟩ := List.cons.inj e
    have := numsP_none h _ hj
    rw [hn] at this
    cases this
theorem good_fin {s w0 : ByteArray} {ws : List ByteArray} (g : Good s (w0 :: ws)) {M : Nat} {A B : Int} (h : numsP valS ws M = some (A, B)) (hM : M = ws.length ∨ (M = 2 ∧ 2 ≤ ws.length)) : ∀ c, readI s = some c → c.A = A ∧ c.B = B := by
  intro c hr
  obtain ⟨h1, h2⟩ := readI_some hr
  obtain ⟨k, ws', hk, hk2, hw, hl, hn⟩ := nums_line valS_itoa h1
  have e := g c hr
  rw [hw] at e
  obtain ⟨rfl, rfl⟩ := List.cons.inj e
  obtain rfl : M = ws.length := by omega
  rw [hn] at h
  have e2 := Option.some.inj h
  exact ⟨congrArg Prod.fst e2, congrArg Prod.snd e2⟩
theorem kind_hit {s : ByteArray} {c : Cmd} (h1 : cmdB c = true) (h2 : lineB c = s) : readI s = some c := by
  rw [← h2]
  exact readI_line h1
theorem kind_miss {s : ByteArray} {A B : Int} (hF : ∀ c, readI s = some c → c.A = A ∧ c.B = B) (h : ∀ j : Nat, 1 ≤ j → j ≤ 6 → ¬ (cmdB ⟨(j : Int), A, B⟩ = true ∧ lineB ⟨(j : Int), A, B⟩ = s)) : readI s = none := by
  cases hr : readI s with
  | none => rfl
  | some c =>
    obtain ⟨h1, h2⟩ := readI_some hr
    obtain ⟨e1, e2⟩ := hF c hr
    obtain ⟨k, ws', hk, hk2, -⟩ := nums_line valS_itoa h1
    obtain ⟨K, A', B'⟩ := c
    dsimp only at e1 e2 hk
    subst e1 e2 hk
    exact absurd ⟨h1, h2⟩ (h k hk2.1 hk2.2)
/-! ### The words, one byte at a time -/
def SplAt (s : ByteArray) (k : Nat) (ws : List ByteArray) (wl : List UInt8) : Prop :=
  ws.map (·.data.toList) ++ spl wl (s.data.toList.drop k) = spl [] s.data.toList ∧ wl.length ≤ k ∧ ws.length ≤ k ∧ ∀ x ∈ ws, x.size ≤ k
theorem splAt_zero (s : ByteArray) : SplAt s 0 [] [] := ⟨by simp, by simp, by simp, by simp⟩
theorem splAt_space {s : ByteArray} {k : Nat} {ws : List ByteArray} {wl : List UInt8} (h : SplAt s k ws wl) (hk : k < s.size) (hb : s[k] = 32) : SplAt s (k + 1) (ws ++ [bt wl]) [] := by
  obtain ⟨h1, h2, h3, h4⟩ := h
  have hl : k < s.data.toList.length := hk
  have e : s.data.toList[k] = 32 := hb
  refine ⟨?_, by simp, by rw [List.length_append, List.length_singleton]; omega, ?_⟩
  · rw [List.drop_eq_getElem_cons hl, e, spl, if_pos rfl] at h1
    rw [← h1, List.map_append, List.append_assoc]
    simp [bt_data]
  · intro x hx
    rcases List.mem_append.1 hx with hx | hx
    · have := h4 x hx; omega
    · rw [List.mem_singleton] at hx
      subst hx
      rw [bt_size]; omega
theorem splAt_plain {s : ByteArray} {k : Nat} {ws : List ByteArray} {wl : List UInt8} (h : SplAt s k ws wl) (hk : k < s.size) (hb : ¬ s[k] = 32) : SplAt s (k + 1) ws (wl ++ [s[k]]) := by
  obtain ⟨h1, h2, h3, h4⟩ := h
  have hl : k < s.data.toList.length := hk
  have e : s.data.toList[k] = s[k] := rfl
  refine ⟨?_, by rw [List.length_append, List.length_singleton]; omega, by omega, fun x hx => by have := h4 x hx; omega⟩
  rw [List.drop_eq_getElem_cons hl, e, spl, if_neg hb] at h1
  exact h1
theorem splAt_end {s : ByteArray} {ws : List ByteArray} {wl : List UInt8} (h : SplAt s s.size ws wl) : ws ++ [bt wl] = wordsB s := by
  obtain ⟨h1, -, -, -⟩ := h
  rw [List.drop_eq_nil_of_le (by exact Nat.le_refl s.size), spl] at h1
  rw [wordsB_eq, ← h1, List.map_append, List.map_map]
  have : (bt ∘ fun x : ByteArray => x.data.toList) = id := funext data_bt
  rw [this, List.map_id]
  rfl
theorem ext_one {s : ByteArray} {k : Nat} (hk : k < s.size) (wl : List UInt8) : bt wl ++ s.extract k (k + 1) = bt (wl ++ [s[k]]) := by
  have hl : k < s.data.toList.length := hk
  have e : s.extract k (k + 1) = bt [s[k]] := by
    apply ByteArray.ext
    apply Array.ext'
    simp only [ByteArray.data_extract, Array.toList_extract, List.extract, Nat.add_sub_cancel_left]
    rw [List.drop_eq_getElem_cons hl]
    rfl
  rw [e, bt_app]
theorem byte32 {b : UInt8} (h : ¬ b = 32) : ((b.toNat : Int) == 32) = false := by
  refine beq_eq_false_iff_ne.2 (fun e => h ?_)
  exact UInt8.toNat_inj.1 (by show b.toNat = 32; omega)
theorem byte32Y {b : UInt8} (h : b = 32) : ((b.toNat : Int) == 32) = true := by
  subst h; rfl
end Go.Proofs.YtbhelobahfgaeaaDoor
