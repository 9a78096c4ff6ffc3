/-
  Memory by assertions: blocks of the call's own, each with its footprint, all apart. Plain Lean over the model: no function of the program.
-/
import Derived.Test.YtbhelobahfgaeaaDoorKit
import Derived.Laws.AppendOwnNone
import Derived.Deep.AppendLies
import Derived.Maps.AppendAt
namespace Go.Proofs.YtbhelobahfgaeaaDoor
open Go Go.RowKit

/-! ### Layouts of elements -/
structure Lay (α : Type) where
  s : Nat
  T : TypeId
  enc : α → List Value
  len : ∀ x, (enc x).length = s
  pos : 0 < s
  one : ∀ x, ∀ u ∈ enc x, u.oneCell' = true

section
variable {α : Type} (L : Lay α)
def Lay.flat (xs : List α) : List Value := xs.flatMap L.enc
@[simp] theorem Lay.flat_nil : L.flat [] = [] := rfl
theorem Lay.flat_append (xs ys : List α) : L.flat (xs ++ ys) = L.flat xs ++ L.flat ys := by simp [Lay.flat]
theorem Lay.flat_cons (x : α) (ys : List α) : L.flat (x :: ys) = L.enc x ++ L.flat ys := by simp [Lay.flat]
theorem Lay.flat_one (x : α) : L.flat [x] = L.enc x := by simp [Lay.flat]
theorem Lay.flat_len (xs : List α) : (L.flat xs).length = xs.length * L.s := by
  induction xs with
  | nil => simp
  | cons x xs ih => rw [L.flat_cons, List.length_append, L.len, ih, List.length_cons, Nat.add_mul]; omega
theorem Lay.flat_at (xs : List α) (k j : Nat) (hk : k < xs.length) (hj : j < L.s) : (L.flat xs)[k * L.s + j]? = (L.enc xs[k])[j]? := by
  induction xs generalizing k with
  | nil => simp at hk
  | cons x xs ih =>
    rw [L.flat_cons]
    cases k with
    | zero => rw [List.getElem?_append_left (by rw [L.len]; omega)]; simp
    | succ k =>
      rw [List.getElem?_append_right (by rw [L.len, Nat.add_mul]; omega), L.len]
      have := ih k (by simpa using hk)
      rw [show (k + 1) * L.s + j - L.s = k * L.s + j by rw [Nat.add_mul]; omega, this]
      simp
theorem Lay.flat_set (xs : List α) (k j : Nat) (x : α) (u : Value) (hk : k < xs.length) (he : L.enc x = (L.enc xs[k]).set j u) (hj : j < L.s) : (L.flat xs).set (k * L.s + j) u = L.flat (xs.set k x) := by
  induction xs generalizing k with
  | nil => simp at hk
  | cons y xs ih =>
    cases k with
    | zero =>
      simp only [Nat.zero_mul, Nat.zero_add, List.set_cons_zero, L.flat_cons]
      rw [List.set_append_left _ _ (by rw [L.len]; omega)]
      simp at he
      rw [he]
    | succ k =>
      simp only [List.set_cons_succ, L.flat_cons]
      rw [List.set_append_right _ _ (by rw [L.len, Nat.add_mul]; omega), L.len, show (k + 1) * L.s + j - L.s = k * L.s + j by rw [Nat.add_mul]; omega, ih k (by simpa using hk) (by simpa using he)]
theorem Lay.flat_one' (xs : List α) : ∀ u ∈ L.flat xs, u.oneCell' = true := by
  intro u hu
  obtain ⟨x, _, hx⟩ := List.mem_flatMap.1 hu
  exact L.one x u hx

/-! ### A slice that reads as a list -/
def Rds (w : World) (v : Value) (xs : List α) : Prop :=
  ∃ (a : Option Addr) (cap : Nat), v = .slice a xs.length cap ∧ xs.length ≤ cap ∧ cap ≤ maxLen ∧
    (xs = [] ∨ ∃ b off, a = some ⟨b, off, none⟩ ∧ ∀ j u, (L.flat xs)[j]? = some u → w.cell? ⟨b, off + j, none⟩ = some u)
theorem Rds.nil (w : World) : Rds L w (.slice none 0 0) [] := ⟨none, 0, rfl, Nat.le_refl _, Nat.zero_le _, .inl rfl⟩
variable {L}
theorem Rds.blk {w : World} {v : Value} {xs : List α} (h : Rds L w v xs) (hne : xs ≠ []) : ∃ b, v.ownBlock = some b ∧ b < w.heap.size := by
  obtain ⟨a, cap, rfl, h1, h2, h3⟩ := h
  rcases h3 with h3 | ⟨b, off, rfl, h3⟩
  · exact absurd h3 hne
  · have hl : 0 < (L.flat xs).length := by
      rw [L.flat_len]
      exact Nat.mul_pos (List.length_pos_iff.2 hne) L.pos
    exact ⟨b, rfl, cell_lt (h3 0 _ (List.getElem?_eq_getElem hl))⟩
theorem Rds.keptRow {w w' : World} {v : Value} {xs : List α} {row : Option Nat} (h : Rds L w v xs) (hg : w.grownBy w' row) (hr : ∀ b, row = some b → v.ownBlock ≠ some b) : Rds L w' v xs := by
  obtain ⟨a, cap, rfl, h1, h2, h3⟩ := h
  refine ⟨a, cap, rfl, h1, h2, ?_⟩
  rcases h3 with h3 | ⟨b, off, rfl, h3⟩
  · exact .inl h3
  · exact .inr ⟨b, off, rfl, fun j u hj => gb_cell hg (h3 j u hj) (fun e => hr b e rfl)⟩
theorem Rds.kept {w w' : World} {v : Value} {xs : List α} (h : Rds L w v xs) (hg : w.grownBy w' none) : Rds L w' v xs := h.keptRow hg (by simp)
theorem Rds.len_le {w : World} {v : Value} {xs : List α} (h : Rds L w v xs) : xs.length ≤ 9223372036854775807 := by
  obtain ⟨a, cap, rfl, h1, h2, h3⟩ := h
  unfold maxLen at h2
  omega
/-- Opened: the length under a name of its own, each element's cells on demand. -/
theorem Rds.get {w : World} {v : Value} {xs : List α} (h : Rds L w v xs) : ∃ (a : Option Addr) (n cap : Nat), v = .slice a n cap ∧ n ≤ cap ∧ cap ≤ 9223372036854775807 ∧ RowKit.Hid (n = xs.length) ∧
    RowKit.Hid (∀ k, k < n → ∃ (b off : Nat) (x : α), a = some ⟨b, off, none⟩ ∧ b < w.heap.size ∧ RowKit.Hid (xs[k]? = some x) ∧ (∀ j u, (L.enc x)[j]? = some u → w.cell? ⟨b, off + k * L.s + j, none⟩ = some u)) := by
  obtain ⟨a, cap, rfl, h1, h2, h3⟩ := h
  refine ⟨a, xs.length, cap, rfl, h1, by unfold maxLen at h2; omega, rfl, fun k hk => ?_⟩
  rcases h3 with h3 | ⟨b, off, ha, h3⟩
  · subst h3; simp at hk
  · have hl := L.len xs[k]
    have hp := L.pos
    have hc : ∀ j u, (L.enc xs[k])[j]? = some u → w.cell? ⟨b, off + k * L.s + j, none⟩ = some u := by
      intro j u hu
      have hj : j < L.s := by
        have := (List.getElem?_eq_some_iff.1 hu).1
        omega
      rw [Nat.add_assoc]
      exact h3 _ u (by rw [L.flat_at xs k j hk hj]; exact hu)
    exact ⟨b, off, xs[k], ha, cell_lt (hc 0 _ (List.getElem?_eq_getElem (by omega))), List.getElem?_eq_getElem hk, hc⟩
theorem Rds.take {w : World} {a : Option Addr} {n cap : Nat} {xs : List α} (h : Rds L w (.slice a n cap) xs) (k : Nat) (hk : k ≤ n) : Rds L w (.slice a k cap) (xs.take k) := by
  obtain ⟨a', cap', hv, h1, h2, h3⟩ := h
  simp only [Value.slice.injEq] at hv
  obtain ⟨rfl, rfl, rfl⟩ := hv
  refine ⟨a, cap, by rw [List.length_take, Nat.min_eq_left hk], by rw [List.length_take]; omega, h2, ?_⟩
  rcases h3 with h3 | ⟨b, off, ha, h3⟩
  · exact .inl (by rw [h3]; simp)
  · refine .inr ⟨b, off, ha, fun j u hu => h3 j u ?_⟩
    have e : L.flat xs = L.flat (xs.take k) ++ L.flat (xs.drop k) := by rw [← L.flat_append, List.take_append_drop]
    rw [e, List.getElem?_append_left (List.getElem?_eq_some_iff.1 hu).1]
    exact hu
theorem Rds.drop {w : World} {b off n cap : Nat} {xs : List α} (h : Rds L w (.slice (some ⟨b, off, none⟩) n cap) xs) (k : Nat) (hk : k ≤ n) : Rds L w (.slice (some ⟨b, off + k * L.s, none⟩) (n - k) (cap - k)) (xs.drop k) := by
  obtain ⟨a', cap', hv, h1, h2, h3⟩ := h
  simp only [Value.slice.injEq] at hv
  obtain ⟨rfl, rfl, rfl⟩ := hv
  refine ⟨_, _, by rw [List.length_drop], by rw [List.length_drop]; omega, by omega, ?_⟩
  rcases h3 with h3 | ⟨b', off', ha, h3⟩
  · exact .inl (by rw [h3]; simp)
  · simp only [Option.some.injEq, Addr.mk.injEq, and_true] at ha
    obtain ⟨rfl, rfl⟩ := ha
    refine .inr ⟨b, _, rfl, fun j u hu => ?_⟩
    have e : L.flat xs = L.flat (xs.take k) ++ L.flat (xs.drop k) := by rw [← L.flat_append, List.take_append_drop]
    have hl : (L.flat (xs.take k)).length = k * L.s := by rw [L.flat_len, List.length_take, Nat.min_eq_left hk]
    have := h3 (k * L.s + j) u (by rw [e, List.getElem?_append_right (by omega), hl, Nat.add_sub_cancel_left]; exact hu)
    rwa [← Nat.add_assoc] at this
end

/-! ### Assertions -/
structure Asr where
  at_ : World → List Nat → Prop
  lt : ∀ {w F}, at_ w F → ∀ b ∈ F, b < w.heap.size
  keep : ∀ {w w' F}, at_ w F → (∀ b ∈ F, w'.heap[b]? = w.heap[b]?) → at_ w' F

inductive Held (w : World) : List Asr → List Nat → Prop
  | nil : Held w [] []
  | cons {A : Asr} {Ls : List Asr} {F G : List Nat} : A.at_ w F → Held w Ls G → (∀ b ∈ F, b ∉ G) → Held w (A :: Ls) (F ++ G)

theorem Held.lt {w : World} {Ls : List Asr} {F : List Nat} (h : Held w Ls F) : ∀ b ∈ F, b < w.heap.size := by
  induction h with
  | nil => simp
  | cons ha _ _ ih =>
    intro b hb
    rcases List.mem_append.1 hb with hb | hb
    · exact Asr.lt _ ha b hb
    · exact ih b hb
theorem Held.keep {w w' : World} {Ls : List Asr} {F : List Nat} (h : Held w Ls F) (he : ∀ b ∈ F, w'.heap[b]? = w.heap[b]?) : Held w' Ls F := by
  induction h with
  | nil => exact .nil
  | cons ha _ hd ih =>
    exact .cons (Asr.keep _ ha (fun b hb => he b (List.mem_append.2 (.inl hb)))) (ih (fun b hb => he b (List.mem_append.2 (.inr hb)))) hd
theorem Held.append {w : World} {Ls Ms : List Asr} {F G : List Nat} (h : Held w Ls F) (k : Held w Ms G) (hd : ∀ b ∈ F, b ∉ G) : Held w (Ls ++ Ms) (F ++ G) := by
  induction h with
  | nil => exact k
  | cons ha _ hd' ih =>
    rw [List.append_assoc]
    refine .cons ha (ih (fun b hb => hd b (List.mem_append.2 (.inr hb)))) (fun b hb hb' => ?_)
    rcases List.mem_append.1 hb' with hb' | hb'
    · exact hd' b hb hb'
    · exact hd b (List.mem_append.2 (.inl hb)) hb'
theorem Held.split {w : World} (Ls Ms : List Asr) {F : List Nat} (h : Held w (Ls ++ Ms) F) : ∃ G K, F = G ++ K ∧ Held w Ls G ∧ Held w Ms K ∧ ∀ b ∈ G, b ∉ K := by
  induction Ls generalizing F with
  | nil => exact ⟨[], F, rfl, .nil, h, by simp⟩
  | cons A Ls ih =>
    cases h with
    | cons ha h hd =>
      obtain ⟨G, K, rfl, h1, h2, h3⟩ := ih h
      refine ⟨_ ++ G, K, by rw [List.append_assoc], .cons ha h1 (fun b hb hb' => hd b hb (List.mem_append.2 (.inl hb'))), h2, fun b hb hb' => ?_⟩
      rcases List.mem_append.1 hb with hb | hb
      · exact hd b hb (List.mem_append.2 (.inr hb'))
      · exact h3 b hb hb'
theorem Held.perm {w : World} {Ls Ms : List Asr} {F : List Nat} (h : Held w Ls F) (p : Ls.Perm Ms) : ∃ G, Held w Ms G ∧ ∀ b, b ∈ G ↔ b ∈ F := by
  induction p generalizing F with
  | nil => exact ⟨F, h, fun _ => Iff.rfl⟩
  | cons A p ih =>
    cases h with
    | cons ha h hd =>
      obtain ⟨G, h', hm⟩ := ih h
      exact ⟨_, .cons ha h' (fun b hb hb' => hd b hb ((hm b).1 hb')), fun b => by simp [hm b]⟩
  | swap A B l =>
    cases h with
    | cons ha h hd =>
      cases h with
      | cons hb h hd' =>
        rename_i F1 F2 G
        refine ⟨_, .cons hb (.cons ha h (fun b h1 h2 => hd b h1 (List.mem_append.2 (.inr h2)))) (fun b h1 h2 => ?_), fun b => by simp; grind⟩
        rcases List.mem_append.1 h2 with h2 | h2
        · exact hd b h2 (List.mem_append.2 (.inl h1))
        · exact hd' b h1 h2
  | trans p q ih1 ih2 =>
    obtain ⟨G, h1, m1⟩ := ih1 h
    obtain ⟨K, h2, m2⟩ := ih2 h1
    exact ⟨K, h2, fun b => (m2 b).trans (m1 b)⟩

/-- SINCE w0 nothing that was there is written; the assertions hold, in blocks that came since, all apart. -/
def St (w0 w : World) (Ls : List Asr) : Prop := w0.grownBy w none ∧ ∃ F, Held w Ls F ∧ ∀ b ∈ F, w0.heap.size ≤ b

section
variable {w0 w w' : World} {Ls Ms : List Asr} {A : Asr}
theorem St.refl (w : World) : St w w [] := ⟨World.grownBy.refl _ _, [], .nil, by simp⟩
theorem St.gb (h : St w0 w Ls) : w0.grownBy w none := h.1
theorem St.below (h : St w0 w Ls) : Below w0.heap.size w0 w := gb_below h.1
theorem St.size (h : St w0 w Ls) : w0.heap.size ≤ w.heap.size := h.1.size
theorem St.grow (h : St w0 w Ls) (hg : w.grownBy w' none) : St w0 w' Ls := by
  obtain ⟨h1, F, h2, h3⟩ := h
  exact ⟨gb_trans h1 hg, F, h2.keep (fun b hb => hg.block b (h2.lt b hb) (by simp)), h3⟩
theorem St.alloc (h : St w0 w Ls) (o : Obj) : St w0 (w.alloc o) Ls := h.grow (World.grownBy_alloc w o none)
theorem St.drew (h : St w0 w Ls) : St w0 w.drew Ls := h.grow (gb_drew (World.grownBy.refl _ _))
theorem St.drewN (h : St w0 w Ls) (n : Nat) : St w0 (w.drewN n) Ls := h.grow (gb_drewN (World.grownBy.refl _ _) n)
theorem St.perm (h : St w0 w Ls) (p : Ls.Perm Ms) : St w0 w Ms := by
  obtain ⟨h1, F, h2, h3⟩ := h
  obtain ⟨G, h4, hm⟩ := h2.perm p
  exact ⟨h1, G, h4, fun b hb => h3 b ((hm b).1 hb)⟩
theorem St.swap {B : Asr} (h : St w0 w (A :: B :: Ls)) : St w0 w (B :: A :: Ls) := h.perm (.swap _ _ _)
theorem St.rot {B C : Asr} (h : St w0 w (A :: B :: C :: Ls)) : St w0 w (C :: A :: B :: Ls) := h.perm (((List.Perm.swap _ _ _).cons _).trans (.swap _ _ _))
theorem St.tail (h : St w0 w (A :: Ls)) : St w0 w Ls := by
  obtain ⟨h1, F, h2, h3⟩ := h
  cases h2 with
  | cons _ h4 _ => exact ⟨h1, _, h4, fun b hb => h3 b (List.mem_append.2 (.inr hb))⟩
theorem St.drop2 (h : St w0 w (Ms ++ Ls)) : St w0 w Ls := by
  obtain ⟨h1, F, h2, h3⟩ := h
  obtain ⟨G, K, rfl, _, h4, _⟩ := h2.split
  exact ⟨h1, K, h4, fun b hb => h3 b (List.mem_append.2 (.inr hb))⟩
theorem St.drop1 (h : St w0 w (Ms ++ Ls)) : St w0 w Ms := by
  obtain ⟨h1, F, h2, h3⟩ := h
  obtain ⟨G, K, rfl, h4, _, _⟩ := h2.split
  exact ⟨h1, G, h4, fun b hb => h3 b (List.mem_append.2 (.inl hb))⟩
theorem St.head (h : St w0 w (A :: Ls)) : ∃ F, A.at_ w F ∧ ∀ b ∈ F, w0.heap.size ≤ b ∧ b < w.heap.size := by
  obtain ⟨_, F, h2, h3⟩ := h
  cases h2 with
  | cons ha _ _ => exact ⟨_, ha, fun b hb => ⟨h3 b (List.mem_append.2 (.inl hb)), Asr.lt _ ha b hb⟩⟩
/-- A call's own fresh memory joins. -/
theorem St.call (h : St w0 w Ls) (k : St w w' Ms) : St w0 w' (Ms ++ Ls) := by
  obtain ⟨h1, F, h2, h3⟩ := h
  obtain ⟨k1, G, k2, k3⟩ := k
  refine ⟨gb_trans h1 k1, G ++ F, k2.append (h2.keep (fun b hb => k1.block b (h2.lt b hb) (by simp))) (fun b hb hb' => ?_), fun b hb => ?_⟩
  · have := k3 b hb
    have := h2.lt b hb'
    omega
  · rcases List.mem_append.1 hb with hb | hb
    · have := k3 b hb
      have := h1.size
      omega
    · exact h3 b hb
/-- New memory under an assertion. -/
theorem St.push (h : St w0 w Ls) (hg : w.grownBy w' none) {F : List Nat} (ha : A.at_ w' F) (hF : ∀ b ∈ F, w.heap.size ≤ b) : St w0 w' (A :: Ls) := by
  have k : St w w' [A] := ⟨hg, F, by simpa using Held.cons ha .nil (by simp), hF⟩
  exact h.call k
/-- A write into the memory of the first assertion, and new memory. -/
theorem St.write (h : St w0 w (A :: Ls)) : ∃ F, A.at_ w F ∧ (∀ b ∈ F, w0.heap.size ≤ b ∧ b < w.heap.size) ∧ ∀ (w' : World) (B : Asr) (F' : List Nat), w'.os = w.os → w'.tape = w.tape → w'.output = w.output → w.heap.size ≤ w'.heap.size →
    (∀ b, b < w.heap.size → b ∉ F → w'.heap[b]? = w.heap[b]?) → B.at_ w' F' → (∀ b ∈ F', b ∈ F ∨ w.heap.size ≤ b) → St w0 w' (B :: Ls) := by
  obtain ⟨h1, F, h2, h3⟩ := h
  cases h2 with
  | @cons _ _ F G ha h2 hd =>
    refine ⟨F, ha, fun b hb => ⟨h3 b (List.mem_append.2 (.inl hb)), Asr.lt _ ha b hb⟩, ?_⟩
    intro w' B F' k1 k2 k3 k4 k5 hB hF'
    refine ⟨⟨k1.trans h1.os, k2.trans h1.tape, k3.trans h1.output, Nat.le_trans h1.size k4, fun i hi hr => (k5 i (Nat.lt_of_lt_of_le hi h1.size) (fun hm => ?_)).trans (h1.block i hi hr)⟩,
      F' ++ G, .cons hB (h2.keep (fun b hb => k5 b (h2.lt b hb) (fun hm => hd b hm hb))) (fun b hb hb' => ?_), fun b hb => ?_⟩
    · have := h3 i (List.mem_append.2 (.inl hm))
      omega
    · rcases hF' b hb with hm | hm
      · exact hd b hm hb'
      · have := h2.lt b hb'
        omega
    · rcases List.mem_append.1 hb with hb | hb
      · rcases hF' b hb with hm | hm
        · exact h3 b (List.mem_append.2 (.inl hm))
        · have := h1.size
          omega
      · exact h3 b (List.mem_append.2 (.inr hb))
theorem St.writeBy (h : St w0 w (A :: Ls)) : ∃ F, A.at_ w F ∧ (∀ b ∈ F, w0.heap.size ≤ b ∧ b < w.heap.size) ∧ ∀ (w' : World) (B : Asr) (F' : List Nat) (row : Option Nat), w.grownBy w' row → (∀ r, row = some r → r ∈ F ∨ w.heap.size ≤ r) →
    B.at_ w' F' → (∀ b ∈ F', b ∈ F ∨ w.heap.size ≤ b) → St w0 w' (B :: Ls) := by
  obtain ⟨F, ha, hF, hw⟩ := h.write
  refine ⟨F, ha, hF, fun w' B F' row hg hr hB hF' => hw w' B F' hg.os hg.tape hg.output hg.size (fun b hb hn => hg.block b hb (fun e => ?_)) hB hF'⟩
  rcases hr b e.symm with h1 | h1
  · exact hn h1
  · omega
/-- Nothing else holds: forget all. -/
theorem St.mono (h : St w0 w (A :: Ls)) {B : Asr} (hAB : ∀ F, A.at_ w F → B.at_ w F) : St w0 w (B :: Ls) := by
  obtain ⟨h1, F, h2, h3⟩ := h
  cases h2 with
  | cons ha h2 hd => exact ⟨h1, _, .cons (hAB _ ha) h2 hd, h3⟩
/-- What was old stays old. -/
theorem St.rds {α : Type} {L : Lay α} {v : Value} {xs : List α} (h : St w0 w Ls) (hr : Rds L w0 v xs) : Rds L w v xs := hr.kept h.1
end

/-! ### Blocks of the call's own between w0 and H that no assertion names: written at will -/
def StL (w0 : World) (H : Nat) (w : World) (Ls : List Asr) : Prop := w0.grownBy w none ∧ w0.heap.size ≤ H ∧ ∃ F, Held w Ls F ∧ ∀ b ∈ F, H ≤ b
theorem St.toL {w0 W w : World} {Ls : List Asr} (g : w0.grownBy W none) (S : St W w Ls) : StL w0 W.heap.size w Ls := by
  obtain ⟨h1, F, h2, h3⟩ := S
  exact ⟨gb_trans g h1, g.size, F, h2, h3⟩
theorem StL.set {w0 w : World} {H : Nat} {Ls : List Asr} (S : StL w0 H w Ls) {b : Nat} (hb : w0.heap.size ≤ b) (hb2 : b < H) (o : Nat) (v : Value) : StL w0 H (w.setCell ⟨b, o, none⟩ v) Ls := by
  obtain ⟨h1, h0, F, h2, h3⟩ := S
  refine ⟨gb_setNew h1 hb o v, h0, F, h2.keep (fun c hc => ?_), h3⟩
  exact Below.heap_setCell _ _ _ _ (fun e => by have := h3 c hc; simp at e; omega)
theorem StL.st {w0 w : World} {H : Nat} {Ls : List Asr} (S : StL w0 H w Ls) : St w0 w Ls := by
  obtain ⟨h1, h0, F, h2, h3⟩ := S
  exact ⟨h1, F, h2, fun b hb => Nat.le_trans h0 (h3 b hb)⟩

/-! ### Several under one name -/
def Asr.star (Ls : List Asr) : Asr where
  at_ w F := Held w Ls F
  lt h := h.lt
  keep h he := h.keep he
def Asr.ex {ι : Type} (P : ι → Asr) : Asr where
  at_ w F := ∃ i, (P i).at_ w F
  lt h := by obtain ⟨i, h⟩ := h; exact Asr.lt _ h
  keep h he := by obtain ⟨i, h⟩ := h; exact ⟨i, Asr.keep _ h he⟩
def Asr.pure (p : Prop) (A : Asr) : Asr where
  at_ w F := p ∧ A.at_ w F
  lt h := Asr.lt _ h.2
  keep h he := ⟨h.1, Asr.keep _ h.2 he⟩
section
variable {w0 w : World} {Ls Ms : List Asr} {A : Asr}
theorem St.unstar (h : St w0 w (Asr.star Ms :: Ls)) : St w0 w (Ms ++ Ls) := by
  obtain ⟨h1, F, h2, h3⟩ := h
  cases h2 with
  | cons ha h2 hd => exact ⟨h1, _, Held.append ha h2 hd, h3⟩
theorem St.star (h : St w0 w (Ms ++ Ls)) : St w0 w (Asr.star Ms :: Ls) := by
  obtain ⟨h1, F, h2, h3⟩ := h
  obtain ⟨G, K, rfl, h4, h5, h6⟩ := h2.split
  exact ⟨h1, _, .cons (A := Asr.star Ms) h4 h5 h6, h3⟩
theorem St.unex {ι : Type} {P : ι → Asr} (h : St w0 w (Asr.ex P :: Ls)) : ∃ i, St w0 w (P i :: Ls) := by
  obtain ⟨h1, F, h2, h3⟩ := h
  cases h2 with
  | cons ha h2 hd => obtain ⟨i, ha⟩ := ha; exact ⟨i, h1, _, .cons ha h2 hd, h3⟩
theorem St.ex {ι : Type} {P : ι → Asr} (i : ι) (h : St w0 w (P i :: Ls)) : St w0 w (Asr.ex P :: Ls) := h.mono (fun _ h => ⟨i, h⟩)
theorem St.unpure {p : Prop} (h : St w0 w (Asr.pure p A :: Ls)) : p ∧ St w0 w (A :: Ls) := by
  obtain ⟨F, ha, _⟩ := h.head
  exact ⟨ha.1, h.mono (fun _ h => h.2)⟩
theorem St.pure {p : Prop} (hp : p) (h : St w0 w (A :: Ls)) : St w0 w (Asr.pure p A :: Ls) := h.mono (fun _ h => ⟨hp, h⟩)
end

/-! ### A row of the call's own -/
def OwnAt {α : Type} (L : Lay α) (w : World) (v : Value) (xs : List α) : Prop := w.ownsRow 0 L.T L.s v xs.length (L.flat xs)
def Own {α : Type} (L : Lay α) (v : Value) (xs : List α) : Asr where
  at_ w F := OwnAt L w v xs ∧ v.ownBlock.toList = F
  lt h b hb := by
    obtain ⟨h1, rfl⟩ := h
    exact (World.ownsRow.lt h1 b (by simpa using hb)).2
  keep := by
    rintro w w' F ⟨h1, rfl⟩ he
    refine ⟨?_, rfl⟩
    obtain ⟨h1, h2⟩ := h1
    refine ⟨h1, ?_⟩
    rcases h2 with h2 | ⟨g, cap, cur, rfl, hg, hgg, rest⟩
    · exact .inl h2
    · exact .inr ⟨g, cap, cur, rfl, hg, (he g (by simp [Value.ownBlock])).trans hgg, rest⟩

section
variable {α : Type} {L : Lay α} {w0 w w' : World} {v : Value} {xs : List α} {Ls : List Asr}
theorem OwnAt.form (h : OwnAt L w v xs) : (v = .slice none 0 0 ∧ xs = []) ∨ ∃ g cap cur, v = .slice (some ⟨g, 0, none⟩) xs.length cap ∧ xs.length ≤ cap ∧ cap ≤ maxLen ∧ w.heap[g]? = some (.cells cur L.T (0, 0)) ∧ cur.size = cap * L.s ∧ cur.toList.take (xs.length * L.s) = L.flat xs := by
  rcases h.2 with ⟨hv, hn⟩ | ⟨g, cap, cur, hv, _, hg, hn, hm, hs, ht⟩
  · exact .inl ⟨hv, List.eq_nil_of_length_eq_zero hn⟩
  · exact .inr ⟨g, cap, cur, hv, hn, hm, hg, hs, ht⟩
theorem OwnAt.rds (h : OwnAt L w v xs) : Rds L w v xs := by
  rcases h.form with ⟨rfl, rfl⟩ | ⟨g, cap, cur, rfl, hn, hm, hg, hs, ht⟩
  · exact Rds.nil L w
  · refine ⟨_, cap, rfl, hn, hm, .inr ⟨g, 0, rfl, fun j u hu => ?_⟩⟩
    have := World.ownsRow.cells h (g := g) rfl j u hu
    rw [Nat.zero_add]
    rwa [Addr.add_lit, Nat.zero_add] at this
theorem St.own (h : St w0 w (Own L v xs :: Ls)) : Rds L w v xs := by
  obtain ⟨F, ⟨h1, _⟩, _⟩ := h.head
  exact h1.rds
/-- nil. -/
theorem St.ownNil (L : Lay α) (h : St w0 w Ls) : St w0 w (Own L (.slice none 0 0) [] :: Ls) :=
  h.push (World.grownBy.refl _ _) (F := []) ⟨by simpa [OwnAt] using World.ownsRow_nil w 0 L.T L.s, rfl⟩ (by simp)
/-- A literal. -/
theorem St.ownLit (L : Lay α) (h : St w0 w Ls) (xs : List α) (cells : Array Value) (hc : cells.toList = L.flat xs) (hn : xs.length ≤ maxLen) :
    St w0 (w.alloc (.cells cells L.T)) (Own L (.slice (some ⟨w.heap.size, 0, none⟩) xs.length xs.length) xs :: Ls) := by
  refine h.push (World.grownBy_alloc _ _ _) (F := [w.heap.size]) ⟨⟨by rw [L.flat_len], .inr ⟨w.heap.size, xs.length, cells, rfl, Nat.zero_le _, heap_alloc_new w _, Nat.le_refl _, hn, ?_, ?_⟩⟩, by simp [Value.ownBlock]⟩ (by simp)
  · rw [← Array.length_toList, hc, L.flat_len]
  · rw [List.take_of_length_le (by rw [hc, L.flat_len]; omega), hc]
theorem St.ownEmpty (L : Lay α) (h : St w0 w Ls) : St w0 (w.alloc (.cells #[] L.T)) (Own L (.slice (some ⟨w.heap.size, 0, none⟩) 0 0) [] :: Ls) := h.ownLit L [] #[] rfl (Nat.zero_le _)
theorem St.ownLitAt (L : Lay α) (h : St w0 w Ls) (xs : List α) (cells : Array Value) (hc : cells.toList = L.flat xs) (hn : xs.length ≤ maxLen) (H : Nat) (hH : H = w.heap.size) :
    St w0 (w.alloc (.cells cells L.T)) (Own L (.slice (some ⟨H, 0, none⟩) xs.length xs.length) xs :: Ls) := by
  subst hH
  exact h.ownLit L xs cells hc hn
theorem St.ownEmptyAt (L : Lay α) (h : St w0 w Ls) (H : Nat) (hH : H = w.heap.size) : St w0 (w.alloc (.cells #[] L.T)) (Own L (.slice (some ⟨H, 0, none⟩) 0 0) [] :: Ls) := by
  subst hH
  exact h.ownEmpty L
/-- What an append leaves. -/
theorem St.snoc (h : St w0 w (Own L v xs :: Ls)) {v' : Value} {ys : List α} (hown : w'.ownsRow 0 L.T L.s v' (xs.length + ys.length) (L.flat xs ++ L.flat ys)) (hg : w.grownBy w' v.ownBlock)
    (hb : v'.ownBlock = v.ownBlock ∨ ∀ b, v'.ownBlock = some b → w.heap.size ≤ b) : St w0 w' (Own L v' (xs ++ ys) :: Ls) := by
  obtain ⟨F, ⟨_, rfl⟩, hF, hw⟩ := h.writeBy
  refine hw w' _ v'.ownBlock.toList v.ownBlock hg (fun r hr => .inl (by simp [hr])) ⟨?_, rfl⟩ (fun b hb' => ?_)
  · unfold OwnAt
    rw [List.length_append, L.flat_append]
    exact hown
  · rcases hb with hb | hb
    · exact .inl (by rw [← hb]; exact hb')
    · exact .inr (hb b (by simpa using hb'))
/-- A store into a cell of the row. -/
theorem St.setAt (h : St w0 w (Own L v xs :: Ls)) {g : Nat} (hv : v.ownBlock = some g) (k j : Nat) (x : α) (u : Value) (hk : k < xs.length) (hj : j < L.s) (he : L.enc x = (L.enc xs[k]).set j u) :
    St w0 (w.setCell ⟨g, k * L.s + j, none⟩ u) (Own L v (xs.set k x) :: Ls) := by
  obtain ⟨F, ⟨h1, rfl⟩, hF, hw⟩ := h.writeBy
  rcases h1.form with ⟨rfl, rfl⟩ | ⟨g', cap, cur, rfl, hn, hm, hg, hs, ht⟩
  · simp [Value.ownBlock] at hv
  simp [Value.ownBlock] at hv
  subst hv
  refine hw _ _ [g'] (some g') (gb_set1 w g' _ u) (fun r hr => .inl (by simpa [Value.ownBlock] using hr.symm)) ⟨⟨by rw [L.flat_len], .inr ⟨g', cap, cur.setIfInBounds (k * L.s + j) u, by rw [List.length_set], Nat.zero_le _, ?_, by rw [List.length_set]; exact hn, hm, by simpa using hs, ?_⟩⟩, by simp [Value.ownBlock]⟩ (by simp [Value.ownBlock])
  · simp [World.setCell, Array.getElem?_modify, hg]
  · rw [List.length_set, Array.toList_setIfInBounds, List.take_set, ht, L.flat_set xs k j x u hk he hj]
theorem St.ownFrozen (h : St w0 w (Own L v xs :: Ls)) {g : Nat} (hv : v.ownBlock = some g) (j : Nat) : w.frozen? ⟨g, j, none⟩ = false := by
  obtain ⟨F, ⟨h1, _⟩, _⟩ := h.head
  rcases h1.form with ⟨rfl, rfl⟩ | ⟨g', cap, cur, rfl, hn, hm, hg, hs, ht⟩
  · simp [Value.ownBlock] at hv
  · simp [Value.ownBlock] at hv
    subst hv
    simp [World.frozen?, hg]
/-- The row opened for reading and writing: its length under a name of its own. -/
theorem St.ownGet (h : St w0 w (Own L v xs :: Ls)) : ∃ (a : Option Addr) (n cap : Nat), v = .slice a n cap ∧ n ≤ cap ∧ cap ≤ 9223372036854775807 ∧ RowKit.Hid (n = xs.length) ∧
    RowKit.Hid (∀ k, k < n → ∃ (g : Nat) (x : α), a = some ⟨g, 0, none⟩ ∧ w0.heap.size ≤ g ∧ g < w.heap.size ∧ RowKit.Hid (xs[k]? = some x) ∧ (∀ j u, (L.enc x)[j]? = some u → w.cell? ⟨g, k * L.s + j, none⟩ = some u) ∧ (∀ j, w.frozen? ⟨g, j, none⟩ = false)) := by
  obtain ⟨F, ⟨h1, rfl⟩, hF⟩ := h.head
  obtain ⟨a, n, cap, rfl, h2, h3, HN, HC⟩ := h1.rds.get
  refine ⟨a, n, cap, rfl, h2, h3, HN, fun k hk => ?_⟩
  obtain ⟨b, off, x, rfl, hb, hx, hc⟩ := HC.out k hk
  rcases h1.form with ⟨hv, _⟩ | ⟨g', cap', cur, hv, _⟩
  · simp at hv
  · simp only [Value.slice.injEq, Option.some.injEq, Addr.mk.injEq, and_true] at hv
    obtain ⟨⟨rfl, rfl⟩, _, _⟩ := hv
    exact ⟨b, x, rfl, (hF b (by simp [Value.ownBlock])).1, hb, hx, fun j u hu => by have := hc j u hu; rwa [Nat.zero_add] at this, fun j => h.ownFrozen rfl j⟩
end

theorem heap_alloc_at (w : World) (o : Obj) (n : Nat) (h : n = w.heap.size) : (w.alloc o).heap[n]? = some o := by
  rw [h]
  exact heap_alloc_new w o
/-! ### append of one element, in the plain region -/
/-- What the program says of an element's type. -/
structure ElemInfo {α : Type} (P : Program) (L : Lay α) (t : TypeId) (x0 : α) where
  i : TypeInfo
  z : Value
  bytes : Nat
  ht : P.underlying t = some (.slice L.T)
  hi : P.info? L.T = some i
  hz : i.zero = some z
  hsize : i.size = L.s
  hby : i.bytes = bytes
  hz0 : L.enc x0 = z.cells.toList
  small : bytes ≤ 64
theorem ElemInfo.hzs {α : Type} {P : Program} {L : Lay α} {t : TypeId} {x0 : α} (D : ElemInfo P L t x0) : D.z.cells.size = L.s := by
  rw [← Array.length_toList, ← D.hz0, L.len]
theorem ElemInfo.mk' {α : Type} {P : Program} {L : Lay α} {t : TypeId} {x0 : α} {z : Value} {bytes : Nat} (ht : P.underlying t = some (.slice L.T))
    (hinfo : (P.info? L.T).map (fun i => (i.zero, i.size, i.bytes)) = some (some z, L.s, bytes)) (hz0 : L.enc x0 = z.cells.toList) (hb : bytes ≤ 64) : Nonempty (ElemInfo P L t x0) := by
  obtain ⟨i, hi, h1, h2, h3⟩ := info_parts hinfo
  exact ⟨⟨i, z, bytes, ht, hi, h1, h2, h3, hz0, hb⟩⟩
section
variable {P : Program} {α : Type} {L : Lay α} {t : TypeId} {x0 : α} {w0 w : World} {v : Value} {xs : List α} {Ls : List Asr}
theorem run_app (D : Nonempty (ElemInfo P L t x0)) (ty : TypeId) (S : St w0 w (Own L v xs :: Ls)) (ys : List α) (ad : Addr) (c : Nat) (hnews : ∀ j u, (L.flat ys)[j]? = some u → w.cell? (ad.add j) = some u) (hn : xs.length + ys.length ≤ 1099511627776) :
    ∃ v' w', (Builtin.append_ #[t, t] ty #[v, .slice (some ad) ys.length c]).run P w = .ok v' w' ∧ St w0 w' (Own L v' (xs ++ ys) :: Ls) := by
  obtain ⟨D⟩ := D
  obtain ⟨F, ⟨h1, _⟩, _⟩ := S.head
  have hb : (xs.length + ys.length) * D.bytes ≤ 140737488355328 := by
    have := Nat.mul_le_mul hn D.small
    omega
  obtain ⟨v', w', hr, h2, h3, h4⟩ := run_append_own_at (P := P) w 0 t ty L.T D.i D.z L.s D.bytes D.ht D.hi D.hz D.hsize D.hby D.hzs L.pos v xs.length (L.flat xs) h1 ad ys.length c (L.flat ys) (L.flat_len ys) hnews (L.flat_one' ys) (by unfold maxLen; omega) hb (Nat.zero_le _)
  refine ⟨v', w', hr, S.snoc h2 h3 ?_⟩
  rcases h4 with ⟨_, h4⟩
  rcases h4 with h4 | h4
  · exact .inl h4
  · exact .inr (fun b hb => by rw [h4] at hb; have := Option.some.inj hb; omega)
theorem wp_app (D : Nonempty (ElemInfo P L t x0)) {o : Oper} {a : Act} {K : Act → World → Prop} {Q : Exit → Act → World → Prop} (s x : Operand) (ho : o.op = .call { callee := .builtin .append, args := #[s, x], argTypes := #[t, t] })
    (S : St w0 w (Own L v xs :: Ls)) (hs : a.eval s = v) (ys : List α) (ad : Addr) (m c : Nat) (hx : a.eval x = .slice (some ad) m c) (hm : m = ys.length) (hnews : ∀ j u, (L.flat ys)[j]? = some u → w.cell? (ad.add j) = some u) (hn : xs.length + ys.length ≤ 1099511627776)
    (h : ∀ v' w', St w0 w' (Own L v' (xs ++ ys) :: Ls) → K (a.put o.dst v') w') : o.wp P a w K Q := by
  subst hm
  obtain ⟨v', w', hr, S'⟩ := run_app D o.type S ys ad c hnews hn
  unfold Oper.wp execOp
  simp only [ho, resolve, invoke, builtin, Sem.run_bind, Sem.run_pure, Result.andThen_ok, List.map_toArray, List.map_cons, List.map_nil, hs, hx, hr]
  exact h v' w' S'
/-- append(out, x): x lies in a block of its own that was made just now. -/
theorem wpList_app1 (D : Nonempty (ElemInfo P L t x0)) {ops : Array Oper} {rest : List Oper} {o : Oper} {a : Act} {Q : Exit → Act → World → Prop} (hgd : o.guard = none) (s x : Operand) (ho : o.op = .call { callee := .builtin .append, args := #[s, x], argTypes := #[t, t] })
    (S : St w0 w (Own L v xs :: Ls)) (y : α) (cs : Array Value) (hc : cs.toList = L.enc y) (hs : a.eval s = v) (hx : a.eval x = .slice (some ⟨w.heap.size, 0, none⟩) 1 1) (hn : xs.length ≤ 1000000000)
    (h : ∀ v' w', St w0 w' (Own L v' (xs ++ [y]) :: Ls) → wpList P ops Q rest (a.put o.dst v') w') : wpList P ops Q (o :: rest) a (w.alloc (.cells cs L.T)) :=
  wpList_plain hgd fun _ hK => wp_app D s x ho (S.alloc _) hs [y] ⟨w.heap.size, 0, none⟩ 1 1 hx rfl (fun j u hu => by
    rw [L.flat_one, ← hc, Array.getElem?_toList] at hu
    rw [Addr.add_lit, Nat.zero_add, cell_of_row _ _ _ _ _ _ (heap_alloc_new w _)]
    exact hu) (by simp; omega) fun v' w' S' => hK _ _ (h v' w' S')
theorem step_app1 (D : Nonempty (ElemInfo P L t x0)) {ops : Array Oper} {o : Oper} {a : Act} {K : Act → World → Prop} {Q : Exit → Act → World → Prop} {E : Prop} (hgd : o.guard = none) (s x : Operand) (ho : o.op = .call { callee := .builtin .append, args := #[s, x], argTypes := #[t, t] })
    (S : St w0 w (Own L v xs :: Ls)) (y : α) (ad : Addr) (cs : Array Value) (hc : cs.toList = L.enc y) (hs : a.eval s = v) (hx : a.eval x = .slice (some ad) 1 1) (hb : ad.off = 0 ∧ ad.spot = none ∧ w.heap[ad.block]? = some (.cells cs L.T (0, 0))) (hn : xs.length ≤ 1000000000)
    (h : ∀ v' w', St w0 w' (Own L v' (xs ++ [y]) :: Ls) → K (a.put o.dst v') w') : if Region.wanted o (yielded ops a.tmps) = true then Oper.wp P o a w K Q else E := by
  have hw : Region.wanted o (yielded ops a.tmps) = true := by simp [Region.wanted, hgd]
  rw [if_pos hw]
  obtain ⟨b, off, spot⟩ := ad
  obtain ⟨h1, h2, h3⟩ := hb
  subst h1 h2
  exact wp_app D s x ho S hs [y] ⟨b, 0, none⟩ 1 1 hx rfl (fun j u hu => by
    rw [L.flat_one, ← hc, Array.getElem?_toList] at hu
    rw [Addr.add_lit, Nat.zero_add, cell_of_row _ _ _ _ _ _ h3]
    exact hu) (by simp; omega) h
theorem run_append_nilsrc (D : Nonempty (ElemInfo P L t x0)) (ty : TypeId) (S : St w0 w (Own L v xs :: Ls)) (c : Nat) : (Builtin.append_ #[t, t] ty #[v, .slice none 0 c]).run P w = .ok v w := by
  obtain ⟨D⟩ := D
  obtain ⟨F, ⟨h1, _⟩, _⟩ := S.head
  rcases h1.form with ⟨rfl, rfl⟩ | ⟨g, cap, cur, rfl, hnc, _⟩
  · simp [Builtin.append_, run_underlying D.ht, sizeOf, typeInfo, D.hi, Builtin.lenOf, Builtin.firstCells]
  · simp [Builtin.append_, run_underlying D.ht, sizeOf, typeInfo, D.hi, Builtin.lenOf, Builtin.firstCells, hnc, storeCells]
/-- append(out, ys...): ys a slice that reads as a list. -/
theorem wp_appR (D : Nonempty (ElemInfo P L t x0)) {o : Oper} {a : Act} {K : Act → World → Prop} {Q : Exit → Act → World → Prop} (s x : Operand) (ho : o.op = .call { callee := .builtin .append, args := #[s, x], argTypes := #[t, t] })
    (S : St w0 w (Own L v xs :: Ls)) (hs : a.eval s = v) (ys : List α) (u : Value) (hx : a.eval x = u) (hr : Rds L w u ys) (hn : xs.length + ys.length ≤ 1099511627776)
    (h : ∀ v' w', St w0 w' (Own L v' (xs ++ ys) :: Ls) → K (a.put o.dst v') w') : o.wp P a w K Q := by
  obtain ⟨A, cap, rfl, h1, h2, h3⟩ := hr
  by_cases h0 : ys = []
  · subst h0
    rcases A with _ | ad
    · have hr := run_append_nilsrc D o.type S cap
      unfold Oper.wp execOp
      simp only [ho, resolve, invoke, builtin, Sem.run_bind, Sem.run_pure, Result.andThen_ok, List.map_toArray, List.map_cons, List.map_nil, hs, hx, hr, List.length_nil]
      exact h v w (by simpa using S)
    · exact wp_app D s x ho S hs [] ad 0 cap hx rfl (by simp) hn h
  · rcases h3 with h3 | ⟨b, off, rfl, h3⟩
    · exact absurd h3 h0
    · exact wp_app D s x ho S hs ys _ _ cap hx rfl (fun j u hu => by rw [Addr.add_lit]; exact h3 j u hu) hn h
theorem wpList_appR (D : Nonempty (ElemInfo P L t x0)) {ops : Array Oper} {rest : List Oper} {o : Oper} {a : Act} {Q : Exit → Act → World → Prop} (hgd : o.guard = none) (s x : Operand) (ho : o.op = .call { callee := .builtin .append, args := #[s, x], argTypes := #[t, t] })
    (S : St w0 w (Own L v xs :: Ls)) (ys : List α) (u : Value) (hr : Rds L w u ys) (hs : a.eval s = v) (hx : a.eval x = u) (hn : xs.length + ys.length ≤ 1099511627776)
    (h : ∀ v' w', St w0 w' (Own L v' (xs ++ ys) :: Ls) → wpList P ops Q rest (a.put o.dst v') w') : wpList P ops Q (o :: rest) a w :=
  wpList_plain hgd fun _ hK => wp_appR D s x ho S hs ys u hx hr hn fun v' w' S' => hK _ _ (h v' w' S')
theorem step_appR (D : Nonempty (ElemInfo P L t x0)) {ops : Array Oper} {o : Oper} {a : Act} {K : Act → World → Prop} {Q : Exit → Act → World → Prop} {E : Prop} (hgd : o.guard = none) (s x : Operand) (ho : o.op = .call { callee := .builtin .append, args := #[s, x], argTypes := #[t, t] })
    (S : St w0 w (Own L v xs :: Ls)) (ys : List α) (u : Value) (hr : Rds L w u ys) (hs : a.eval s = v) (hx : a.eval x = u) (hn : xs.length + ys.length ≤ 1099511627776)
    (h : ∀ v' w', St w0 w' (Own L v' (xs ++ ys) :: Ls) → K (a.put o.dst v') w') : if Region.wanted o (yielded ops a.tmps) = true then Oper.wp P o a w K Q else E := by
  have hw : Region.wanted o (yielded ops a.tmps) = true := by simp [Region.wanted, hgd]
  rw [if_pos hw]
  exact wp_appR D s x ho S hs ys u hx hr hn h
end
theorem madeCells_flat {α : Type} {L : Lay α} {x0 : α} (z : Array Value) (h : L.enc x0 = z.toList) (n : Nat) : (madeCells z (n * L.s)).toList = L.flat (List.replicate n x0) := by
  have hz : z.size = L.s := by rw [← Array.length_toList, ← h, L.len]
  have hp := L.pos
  apply List.ext_getElem?
  intro j
  by_cases hj : j < n * L.s
  · have hk : j / L.s < n := Nat.div_lt_of_lt_mul (by rw [Nat.mul_comm]; exact hj)
    have hr : j % L.s < L.s := Nat.mod_lt _ hp
    have e : j / L.s * L.s + j % L.s = j := by rw [Nat.mul_comm]; exact Nat.div_add_mod j L.s
    have := L.flat_at (List.replicate n x0) (j / L.s) (j % L.s) (by simpa using hk) hr
    rw [e, List.getElem_replicate, h] at this
    rw [this]
    simp [madeCells, hz, hj, hr]
  · rw [List.getElem?_eq_none (by simp [madeCells]; omega), List.getElem?_eq_none (by rw [L.flat_len, List.length_replicate]; omega)]
/-- make([]T, n). -/
theorem wpList_mk {P : Program} {α : Type} {L : Lay α} {t : TypeId} {x0 : α} {w0 w : World} {Ls : List Asr} (D : Nonempty (ElemInfo P L t x0)) {ops : Array Oper} {rest : List Oper} {o : Oper} {a : Act} {Q : Exit → Act → World → Prop}
    (hg : o.guard = none) (l c : Operand) (hop : o.op = Op.makeSlice t l c) (S : St w0 w Ls) (N : Int) (n : Nat) (hN : N = (n : Int)) (hl : a.eval l = .int .i64 N) (hc : a.eval c = .int .i64 N) (hn : n ≤ 1099511627776)
    (hK : ∀ w', St w0 w' (Own L (.slice (some ⟨w.heap.size, 0, none⟩) n n) (List.replicate n x0) :: Ls) → w.grownBy w' none → wpList P ops Q rest (a.put o.dst (.slice (some ⟨w.heap.size, 0, none⟩) n n)) w') : wpList P ops Q (o :: rest) a w := by
  obtain ⟨D⟩ := D
  refine wpList_make_full w hg l c t hop 0 L.T D.i D.z L.s D.ht D.hi D.hz D.hsize .i64 .i64 N N n hl hc hN hN ?_ (by unfold maxLen; omega) (Nat.zero_le _) (fun w' hown hgrow => hK w' ?_ hgrow)
  · rw [D.hby]
    have h1 := Nat.mul_le_mul D.small hn
    have h2 := Nat.mul_le_mul_left 64 hn
    exact Nat.le_trans h1 (by omega)
  · rw [madeCells_flat D.z.cells D.hz0 n] at hown
    refine S.push hgrow (F := [w.heap.size]) ⟨?_, by simp [Value.ownBlock]⟩ (by simp)
    unfold OwnAt
    rw [List.length_replicate]
    exact hown

/-! ### One cell an element -/
section
variable {α : Type} {L : Lay α} {w0 w : World} {v : Value} {xs : List α} {Ls : List Asr} {c : α → Value}
theorem Rds.get1 (hs : L.s = 1) (hc : ∀ x, L.enc x = [c x]) (h : Rds L w v xs) : ∃ (a : Option Addr) (n cap : Nat), v = .slice a n cap ∧ n ≤ cap ∧ cap ≤ 9223372036854775807 ∧ RowKit.Hid (n = xs.length) ∧
    RowKit.Hid (∀ k, k < n → ∃ (b off : Nat) (x : α), a = some ⟨b, off, none⟩ ∧ b < w.heap.size ∧ RowKit.Hid (xs[k]? = some x) ∧ w.cell? ⟨b, off + k, none⟩ = some (c x)) := by
  obtain ⟨a, n, cap, hv, h1, h2, HN, HC⟩ := h.get
  refine ⟨a, n, cap, hv, h1, h2, HN, fun k hk => ?_⟩
  obtain ⟨b, off, x, ha, hb, hx, hcell⟩ := HC.out k hk
  have := hcell 0 (c x) (by rw [hc]; rfl)
  rw [hs, Nat.mul_one, Nat.add_zero] at this
  exact ⟨b, off, x, ha, hb, hx, this⟩
theorem St.ownGet1 (hs : L.s = 1) (hc : ∀ x, L.enc x = [c x]) (h : St w0 w (Own L v xs :: Ls)) : ∃ (a : Option Addr) (n cap : Nat), v = .slice a n cap ∧ n ≤ cap ∧ cap ≤ 9223372036854775807 ∧ RowKit.Hid (n = xs.length) ∧
    RowKit.Hid (∀ k, k < n → ∃ (g : Nat) (x : α), a = some ⟨g, 0, none⟩ ∧ w0.heap.size ≤ g ∧ g < w.heap.size ∧ RowKit.Hid (xs[k]? = some x) ∧ w.cell? ⟨g, k, none⟩ = some (c x) ∧ w.frozen? ⟨g, k, none⟩ = false) := by
  obtain ⟨a, n, cap, hv, h1, h2, HN, HC⟩ := h.ownGet
  refine ⟨a, n, cap, hv, h1, h2, HN, fun k hk => ?_⟩
  obtain ⟨g, x, ha, hg, hb, hx, hcell, hf⟩ := HC.out k hk
  have := hcell 0 (c x) (by rw [hc]; rfl)
  rw [hs, Nat.mul_one, Nat.add_zero] at this
  exact ⟨g, x, ha, hg, hb, hx, this, hf k⟩
theorem St.setAt1 (hs : L.s = 1) (hc : ∀ x, L.enc x = [c x]) (h : St w0 w (Own L v xs :: Ls)) {g : Nat} (hv : v.ownBlock = some g) (k : Nat) (x : α) (u : Value) (hu : u = c x) (hk : k < xs.length) :
    St w0 (w.setCell ⟨g, k, none⟩ u) (Own L v (xs.set k x) :: Ls) := by
  have := h.setAt hv k 0 x u hk (by omega) (by rw [hc, hc, hu]; rfl)
  rwa [hs, Nat.mul_one, Nat.add_zero] at this
/-- The fields of a row of several cells. -/
theorem St.ownCell (h : St w0 w (Own L v xs :: Ls)) {g : Nat} (hv : v.ownBlock = some g) (k : Nat) (x : α) (hx : xs[k]? = some x) : ∀ j u, (L.enc x)[j]? = some u → w.cell? ⟨g, k * L.s + j, none⟩ = some u := by
  obtain ⟨a, n, cap, rfl, h1, h2, HN, HC⟩ := h.ownGet
  obtain ⟨g', x', rfl, _, _, hx', hcell, _⟩ := HC.out k (by rw [HN.out]; exact (List.getElem?_eq_some_iff.1 hx).1)
  simp [Value.ownBlock] at hv
  subst hv
  have := hx'.out
  rw [hx] at this
  have := Option.some.inj this
  subst this
  exact hcell
end
/-- What copies element by element. -/
theorem fill_step {α : Type} (xs : List α) (z : α) (k n : Nat) (hn : n = xs.length) (hk : k < n) (x : α) (hx : xs[k]? = some x) :
    (xs.take k ++ List.replicate (n - k) z).set k x = xs.take (k + 1) ++ List.replicate (n - (k + 1)) z := by
  subst hn
  have h0 : k - (List.take k xs).length = 0 := by rw [List.length_take]; omega
  rw [List.set_append_right _ _ (by rw [List.length_take]; omega), h0, show xs.length - k = (xs.length - (k + 1)) + 1 by omega, List.replicate_succ, List.set_cons_zero, List.take_succ_eq_append_getElem hk]
  rw [List.getElem?_eq_getElem hk] at hx
  rw [← Option.some.inj hx, List.append_assoc]
  rfl
theorem fill_len {α : Type} (xs : List α) (z : α) (k n : Nat) (hn : n = xs.length) (hk : k ≤ n) : (xs.take k ++ List.replicate (n - k) z).length = n := by
  rw [List.length_append, List.length_take, List.length_replicate]
  omega
theorem fill_end {α : Type} (xs : List α) (z : α) (n : Nat) (hn : n = xs.length) : xs.take n ++ List.replicate (n - n) z = xs := by
  rw [Nat.sub_self, List.replicate_zero, List.append_nil, hn, List.take_length]
theorem fill_get {α : Type} (xs : List α) (z : α) (k n : Nat) (hn : n = xs.length) (hk : k < n) : (xs.take k ++ List.replicate (n - k) z)[k]? = some z := by
  rw [List.getElem?_append_right (by rw [List.length_take]; omega), List.getElem?_replicate, if_pos (by rw [List.length_take]; omega)]
/-- What marks element by element. -/
theorem mark_step {α : Type} (ms : Nat → α) (xs : List α) (k : Nat) (hk : k < xs.length) : ((List.range k).map ms ++ xs.drop k).set k (ms k) = (List.range (k + 1)).map ms ++ xs.drop (k + 1) := by
  rw [List.set_append_right _ _ (by simp), List.length_map, List.length_range, Nat.sub_self, List.drop_eq_getElem_cons hk, List.set_cons_zero, List.range_succ, List.map_append, List.append_assoc]
  rfl
theorem mark_len {α : Type} (ms : Nat → α) (xs : List α) (k : Nat) (hk : k ≤ xs.length) : ((List.range k).map ms ++ xs.drop k).length = xs.length := by
  rw [List.length_append, List.length_map, List.length_range, List.length_drop]
  omega
theorem mark_get {α : Type} (ms : Nat → α) (xs : List α) (k : Nat) (hk : k < xs.length) : ((List.range k).map ms ++ xs.drop k)[k]? = some xs[k] := by
  rw [List.getElem?_append_right (by simp), List.length_map, List.length_range, Nat.sub_self, List.getElem?_drop]
  simp [hk]
end Go.Proofs.YtbhelobahfgaeaaDoor
