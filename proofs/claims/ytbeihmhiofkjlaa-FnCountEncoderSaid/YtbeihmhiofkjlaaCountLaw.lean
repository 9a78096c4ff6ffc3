/-
  Plain laws on the counts of an encoder: numbers and lists alone.
-/
import Derived.Test.YtbeihmhiofkjlaaCount
namespace Go.Proofs.Ytbeihmhiofkjlaa
open Go Go.RowKit
/-- One step's count, one step's error. -/
def dc (a b : Int) : Int := if turn a b = 1 then 1 else if turn a b = 3 then -1 else 0
def db (a b : Int) : Int := if turn a b = 2 then 1 else 0
/-- Along a path. -/
def pc : List Int → Int
  | a :: b :: l => dc a b + pc (b :: l)
  | _ => 0
def pb : List Int → Int
  | a :: b :: l => db a b + pb (b :: l)
  | _ => 0
theorem fold_path : ∀ (xs : List Int) (p c b : Int), (xs.foldl encStep (p, c, b)).2 = (c + pc (p :: xs), b + pb (p :: xs))
  | [], p, c, b => by simp [pc, pb]
  | x :: xs, p, c, b => by
    rw [List.foldl_cons, encStep_1, fold_path xs]
    simp only [pc, pb, dc, db]
    rw [Int.add_assoc, Int.add_assoc]
theorem enc_path {f : Int} {xs : List Int} (h1 : xs.length ≤ 200) (h2 : 0 ≤ f ∧ f ≤ 3) (h3 : sigs xs) : encC f xs = (pc (f :: xs), pb (f :: xs)) := by
  rw [enc_yes h1 h2 h3, fold_path]; simp
theorem dc_neg {a b : Int} (ha : 0 ≤ a ∧ a ≤ 3) (hb : 0 ≤ b ∧ b ≤ 3) : dc b a = - dc a b ∧ db b a = db a b := by
  rcases (show a = 0 ∨ a = 1 ∨ a = 2 ∨ a = 3 from by omega) with rfl | rfl | rfl | rfl <;> rcases (show b = 0 ∨ b = 1 ∨ b = 2 ∨ b = 3 from by omega) with rfl | rfl | rfl | rfl <;> decide
theorem pc_snoc : ∀ (l : List Int) (a b : Int), pc (l ++ [a, b]) = pc (l ++ [a]) + dc a b ∧ pb (l ++ [a, b]) = pb (l ++ [a]) + db a b
  | [], a, b => by simp [pc, pb]
  | [x], a, b => by simp [pc, pb]
  | x :: y :: l, a, b => by
    have := pc_snoc (y :: l) a b
    simp only [List.cons_append, pc, pb] at this ⊢
    omega
theorem path_append : ∀ (l : List Int) (a : Int) (m : List Int), pc (l ++ a :: m) = pc (l ++ [a]) + pc (a :: m) ∧ pb (l ++ a :: m) = pb (l ++ [a]) + pb (a :: m)
  | [], a, m => by simp [pc, pb]
  | [x], a, m => by simp [pc, pb]
  | x :: y :: l, a, m => by
    have := path_append (y :: l) a m
    simp only [List.cons_append, pc, pb] at this ⊢
    omega
theorem path_rev : ∀ (l : List Int), sigs l → pc l.reverse = - pc l ∧ pb l.reverse = pb l
  | [], _ => by simp [pc, pb]
  | [a], _ => by simp [pc, pb]
  | a :: b :: l, h => by
    have ih := path_rev (b :: l) (fun x hx => h x (List.mem_cons_of_mem _ hx))
    have hd := dc_neg (h a (by simp)) (h b (by simp))
    have hs := pc_snoc l.reverse b a
    have e : (a :: b :: l).reverse = l.reverse ++ [b, a] := by simp
    have e2 : (b :: l).reverse = l.reverse ++ [b] := by simp
    rw [e2] at ih
    rw [e, hs.1, hs.2, ih.1, ih.2, hd.1, hd.2]
    simp only [pc, pb]
    omega
theorem path_bd : ∀ (l : List Int), sigs l → (-((l.length : Int) - 1) ≤ pc l + pb l ∧ pc l + pb l ≤ (l.length : Int) - 1 ∧ -((l.length : Int) - 1) ≤ pc l - pb l ∧ pc l - pb l ≤ (l.length : Int) - 1 ∧ 0 ≤ pb l) ∨ l = []
  | [], _ => .inr rfl
  | [a], _ => by left; simp [pc, pb]
  | a :: b :: l, h => by
    left
    have ih := (path_bd (b :: l) (fun x hx => h x (List.mem_cons_of_mem _ hx))).resolve_right (by simp)
    have hd : (-1 ≤ dc a b + db a b ∧ dc a b + db a b ≤ 1) ∧ (-1 ≤ dc a b - db a b ∧ dc a b - db a b ≤ 1) ∧ 0 ≤ db a b := by
      unfold dc db
      by_cases h1 : turn a b = 1
      · simp [h1]
      · by_cases h3 : turn a b = 3
        · simp [h3]
        · by_cases h2 : turn a b = 2
          · simp [h2]
          · simp [h1, h2, h3]
    simp only [pc, pb, List.length_cons] at ih ⊢
    omega
theorem sigs_cons {f : Int} {xs : List Int} (h2 : 0 ≤ f ∧ f ≤ 3) (h3 : sigs xs) : sigs (f :: xs) := by
  intro x hx
  rcases List.mem_cons.1 hx with rfl | hx
  · exact h2
  · exact h3 x hx
/-- The laws. -/
theorem enc_split {f : Int} {xs : List Int} (h1 : xs.length ≤ 200) (h2 : 0 ≤ f ∧ f ≤ 3) (h3 : sigs xs) (h : Nat) (hp : 0 < h) (hh : h < xs.length) :
    (encC f xs).1 = (encC f (xs.take h)).1 + (encC (xs.getD (h - 1) 0) (xs.drop h)).1 ∧ (encC f xs).2 = (encC f (xs.take h)).2 + (encC (xs.getD (h - 1) 0) (xs.drop h)).2 := by
  have s1 : sigs (xs.take h) := fun x hx => h3 x (List.mem_of_mem_take hx)
  have s2 : sigs (xs.drop h) := fun x hx => h3 x (List.mem_of_mem_drop hx)
  have hl : 0 ≤ xs.getD (h - 1) 0 ∧ xs.getD (h - 1) 0 ≤ 3 := sig_at h3 (h - 1) (by omega)
  rw [enc_path h1 h2 h3, enc_path (by rw [List.length_take]; omega) h2 s1, enc_path (by rw [List.length_drop]; omega) hl s2]
  have e : f :: xs = (f :: xs.take (h - 1)) ++ xs.getD (h - 1) 0 :: xs.drop h := by
    rw [show xs.getD (h - 1) 0 = xs[h - 1] by simp [show h - 1 < xs.length by omega]]
    have := List.take_append_drop (h - 1) xs
    rw [List.drop_eq_getElem_cons (show h - 1 < xs.length by omega), show h - 1 + 1 = h by omega] at this
    rw [List.cons_append, this]
  have e2 : f :: xs.take h = (f :: xs.take (h - 1)) ++ [xs.getD (h - 1) 0] := by
    rw [show xs.getD (h - 1) 0 = xs[h - 1] by simp [show h - 1 < xs.length by omega], List.cons_append, ← List.take_succ_eq_append_getElem (show h - 1 < xs.length by omega), show h - 1 + 1 = h by omega]
  have := path_append (f :: xs.take (h - 1)) (xs.getD (h - 1) 0) (xs.drop h)
  rw [← e, ← e2] at this
  exact this
theorem enc_turned {f : Int} {xs : List Int} (h1 : xs.length ≤ 199) (h2 : 0 ≤ f ∧ f ≤ 3) (h3 : sigs xs) (hp : 0 < xs.length) :
    (encC (xs.getD (xs.length - 1) 0) ((xs.take (xs.length - 1)).reverse ++ [f])).1 = -(encC f xs).1 ∧ (encC (xs.getD (xs.length - 1) 0) ((xs.take (xs.length - 1)).reverse ++ [f])).2 = (encC f xs).2 := by
  have hl : 0 ≤ xs.getD (xs.length - 1) 0 ∧ xs.getD (xs.length - 1) 0 ≤ 3 := sig_at h3 _ (by omega)
  have s1 : sigs ((xs.take (xs.length - 1)).reverse ++ [f]) := by
    intro x hx
    rcases List.mem_append.1 hx with hx | hx
    · exact h3 x (List.mem_of_mem_take (List.mem_reverse.1 hx))
    · rw [List.mem_singleton.1 hx]; exact h2
  rw [enc_path (by omega) h2 h3, enc_path (by simp [List.length_take]; omega) hl s1]
  have e : xs.getD (xs.length - 1) 0 :: ((xs.take (xs.length - 1)).reverse ++ [f]) = (f :: xs).reverse := by
    have h4 : xs = xs.take (xs.length - 1) ++ [xs.getD (xs.length - 1) 0] := by
      rw [show xs.getD (xs.length - 1) 0 = xs[xs.length - 1] by simp [show xs.length - 1 < xs.length by omega], ← List.take_succ_eq_append_getElem (show xs.length - 1 < xs.length by omega), show xs.length - 1 + 1 = xs.length by omega, List.take_length]
    rw [List.reverse_cons]
    conv => rhs; rw [h4]
    simp
  rw [e]
  exact path_rev _ (sigs_cons h2 h3)
theorem enc_abs {f : Int} {xs : List Int} : -(xs.length : Int) ≤ (encC f xs).1 + (encC f xs).2 ∧ (encC f xs).1 + (encC f xs).2 ≤ xs.length ∧ -(xs.length : Int) ≤ (encC f xs).1 - (encC f xs).2 ∧ (encC f xs).1 - (encC f xs).2 ≤ xs.length ∧ 0 ≤ (encC f xs).2 := by
  by_cases h : xs.length ≤ 200 ∧ (0 ≤ f ∧ f ≤ 3) ∧ sigs xs
  · rw [enc_path h.1 h.2.1 h.2.2]
    have := (path_bd (f :: xs) (sigs_cons h.2.1 h.2.2)).resolve_right (by simp)
    simp only [List.length_cons] at this
    omega
  · rw [enc_no h]; simp
end Go.Proofs.Ytbeihmhiofkjlaa
