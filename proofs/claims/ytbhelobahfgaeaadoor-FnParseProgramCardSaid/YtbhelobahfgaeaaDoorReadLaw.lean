/-
  A line read back: plain lists.
-/
import Derived.Test.YtbhelobahfgaeaaDoorLine
import Derived.Lib.SplitLaws
import Derived.Lib.AtoiAll
namespace Go.Proofs.YtbhelobahfgaeaaDoor
open Go Go.RowKit
set_option linter.unusedVariables false
/-! ### The words -/
def spl (w : List UInt8) : List UInt8 → List (List UInt8)
  | [] => [w]
  | b :: r => if b = 32 then w :: spl [] r else spl (w ++ [b]) r
theorem splitK_ne (sep : List UInt8) (sv k : Nat) (s : List UInt8) : ∃ a t, Lib.splitK sep sv k s = a :: t := by
  cases k with
  | zero => exact ⟨_, _, rfl⟩
  | succ k =>
    unfold Lib.splitK
    split
    · exact ⟨_, _, rfl⟩
    · exact ⟨_, _, rfl⟩
theorem spl_split : ∀ (l w a : List UInt8) (t : List (List UInt8)), Lib.splitK [32] 0 (Lib.count l [32]) l = a :: t → spl w l = (w ++ a) :: t
  | [], w, a, t, h => by
    rw [Lib.count_miss (by simp [Lib.index])] at h
    simp only [Lib.splitK, List.cons.injEq] at h
    obtain ⟨rfl, rfl⟩ := h
    simp [spl]
  | b :: l, w, a, t, h => by
    by_cases hb : b = 32
    · subst hb
      rw [Lib.count_cons_eq] at h
      have hix : Lib.index (32 :: l) [32] = ((0 : Nat) : Int) := by rw [Lib.index]; simp [List.isPrefixOf]
      rw [Nat.add_comm, Lib.splitK, if_neg (by rw [hix]; decide)] at h
      rw [hix] at h
      simp only [Int.toNat_natCast, Nat.add_zero, List.take_zero, Nat.zero_add, List.length_cons, List.length_nil, List.drop_succ_cons, List.drop_zero, List.cons.injEq] at h
      obtain ⟨rfl, rfl⟩ := h
      obtain ⟨a', t', h'⟩ := splitK_ne [32] 0 (Lib.count l [32]) l
      rw [spl, if_pos rfl, spl_split l [] a' t' h', h', List.append_nil, List.nil_append]
    · rw [Lib.count_cons_ne b 32 l hb] at h
      rw [spl, if_neg hb]
      have hp : ([32] : List UInt8).isPrefixOf (b :: l) = false := by simp [List.isPrefixOf, Ne.symm hb]
      have hix : Lib.index (b :: l) [32] = if Lib.index l [32] == -1 then -1 else Lib.index l [32] + 1 := by rw [Lib.index, hp]; simp
      by_cases hm : Lib.index l [32] = -1
      · have h0 : Lib.count l [32] = 0 := Lib.count_miss hm
        rw [h0] at h
        simp only [Lib.splitK, List.cons.injEq] at h
        obtain ⟨rfl, rfl⟩ := h
        rw [spl_split l (w ++ [b]) l [] (by rw [h0]; rfl), List.append_assoc]
        rfl
      · have hge := Lib.index_ge l [32]
        obtain ⟨j, hj⟩ : ∃ j : Nat, Lib.index l [32] = j := ⟨(Lib.index l [32]).toNat, by omega⟩
        have hix' : Lib.index (b :: l) [32] = ((j + 1 : Nat) : Int) := by rw [hix, if_neg (fun e => hm (beq_iff_eq.1 e)), hj]; omega
        obtain ⟨c, hc⟩ : ∃ c, Lib.count l [32] = c + 1 := ⟨_, by rw [Lib.count_hit (by simp) hj, Nat.add_comm]⟩
        rw [hc, Lib.splitK, if_neg (by rw [hix']; intro e; have := beq_iff_eq.1 e; omega), hix'] at h
        simp only [Int.toNat_natCast, Nat.add_zero, List.length_cons, List.length_nil, List.cons.injEq] at h
        obtain ⟨rfl, rfl⟩ := h
        have h2 : Lib.splitK [32] 0 (Lib.count l [32]) l = l.take j :: Lib.splitK [32] 0 c (l.drop (j + 1)) := by
          rw [hc, Lib.splitK, if_neg (by rw [hj]; intro e; have := beq_iff_eq.1 e; omega), hj]
          simp
        rw [spl_split l (w ++ [b]) _ _ h2, List.append_assoc]
        simp
theorem spl_eq (l : List UInt8) : Lib.splitK [32] 0 (Lib.count l [32]) l = spl [] l := by
  obtain ⟨a, t, h⟩ := splitK_ne [32] 0 (Lib.count l [32]) l
  rw [h, spl_split l [] a t h, List.nil_append]
theorem spl_plain : ∀ (a w r : List UInt8), (∀ b ∈ a, b ≠ 32) → spl w (a ++ r) = spl (w ++ a) r
  | [], w, r, _ => by simp
  | b :: a, w, r, h => by
    rw [List.cons_append, spl, if_neg (h b (List.mem_cons_self ..)), spl_plain a (w ++ [b]) r (fun x hx => h x (List.mem_cons_of_mem _ hx)), List.append_assoc]
    rfl
theorem spl_space (w r : List UInt8) : spl w ([32] ++ r) = w :: spl [] r := by
  rw [List.cons_append, List.nil_append, spl, if_pos rfl]
theorem spl_ne (w l : List UInt8) : spl w l ≠ [] := by
  induction l generalizing w with
  | nil => simp [spl]
  | cons b l ih =>
    rw [spl]
    split
    · simp
    · exact ih _
/-! ### Digits -/
theorem dgt_toNat {d : Nat} (h : d < 10) : (dgt d).toNat = 48 + d := by
  unfold dgt
  rw [UInt8.toNat_ofNat_of_lt' (by show 48 + d < 256; omega)]
theorem dec_digits : ∀ (u : Nat), ∀ b ∈ Lib.decDigits u, 48 ≤ b.toNat ∧ b.toNat ≤ 57 := by
  intro u
  induction u using Nat.strongRecOn with
  | ind u ih =>
    by_cases h : u < 10
    · rw [dec_small h]
      intro b hb
      rw [List.mem_singleton] at hb
      subst hb
      rw [dgt_toNat h]
      omega
    · rw [dec_big h]
      intro b hb
      rcases List.mem_append.1 hb with hb | hb
      · exact ih (u / 10) (by omega) b hb
      · rw [List.mem_singleton] at hb
        subst hb
        rw [dgt_toNat (by omega)]
        omega
theorem dec_ne (u : Nat) : Lib.decDigits u ≠ [] := by
  by_cases h : u < 10
  · rw [dec_small h]; simp
  · rw [dec_big h]; simp
theorem ne_space {b : UInt8} (h : b.toNat ≠ 32) : b ≠ 32 := fun e => h (by rw [e]; rfl)
theorem itoa_plain (n : Int) : ∀ b ∈ Lib.itoa n, b ≠ 32 := by
  unfold Lib.itoa
  split
  · intro b hb
    rcases List.mem_cons.1 hb with rfl | hb
    · decide
    · have := dec_digits _ b hb
      exact ne_space (by omega)
  · intro b hb
    have := dec_digits _ b hb
    exact ne_space (by omega)
theorem name_plain (k : Nat) : ∀ b ∈ nameL k, b ≠ 32 := by
  unfold nameL
  split <;> decide
/-- The words of a command. -/
def wordsL (c : Cmd) : List (List UInt8) :=
  if c.Kind = 1 then [nameL 1, Lib.itoa c.A, Lib.itoa c.B] else if c.Kind = 4 ∨ c.Kind = 5 then [nameL c.Kind.toNat, Lib.itoa c.A] else [nameL c.Kind.toNat]
theorem words_line (c : Cmd) : spl [] (lineL c) = wordsL c := by
  unfold lineL wordsL
  split
  · rw [spl_plain _ _ _ (name_plain 1), spl_space, spl_plain _ _ _ (itoa_plain _), spl_space, ← List.append_nil (Lib.itoa c.B), spl_plain _ _ _ (itoa_plain _), List.append_nil]
    simp [spl]
  · split
    · rw [spl_plain _ _ _ (name_plain _), spl_space, ← List.append_nil (Lib.itoa c.A), spl_plain _ _ _ (itoa_plain _), List.append_nil]
      simp [spl]
    · rw [← List.append_nil (nameL c.Kind.toNat), spl_plain _ _ _ (name_plain _), List.append_nil]
      simp [spl]
/-! ### Numbers read back -/
theorem parse_app : ∀ (l m : List UInt8) (acc v : Nat), Lib.parseUint10 acc l = .ok v → Lib.parseUint10 acc (l ++ m) = Lib.parseUint10 v m
  | [], m, acc, v, h => by
    simp only [Lib.parseUint10] at h
    injection h with h
    subst h
    rfl
  | c :: r, m, acc, v, h => by
    simp only [Lib.parseUint10] at h
    rw [List.cons_append, Lib.parseUint10]
    split at h
    · rename_i h1
      rw [if_pos h1]
      split at h
      · cases h
      · rename_i h2
        rw [if_neg h2]
        split at h
        · cases h
        · rename_i h3
          rw [if_neg h3]
          exact parse_app r m _ v h
    · cases h
theorem parse_one {acc d : Nat} (h : d < 10) (ha : acc ≤ 1000000000) : Lib.parseUint10 acc [dgt d] = .ok (acc * 10 + d) := by
  have e := dgt_toNat h
  rw [Lib.parseUint10, if_pos (by omega), if_neg (by omega), if_neg (by omega), Lib.parseUint10, e]
  congr 1
  omega
theorem parse_dec : ∀ u : Nat, u ≤ 1000000000 → Lib.parseUint10 0 (Lib.decDigits u) = .ok u := by
  intro u
  induction u using Nat.strongRecOn with
  | ind u ih =>
    intro hu
    by_cases h : u < 10
    · rw [dec_small h, parse_one h (by omega), Nat.zero_mul, Nat.zero_add]
    · rw [dec_big h, parse_app _ _ _ _ (ih (u / 10) (by omega) (by omega)), parse_one (by omega) (by omega)]
      congr 1
      omega
def okOf {α : Type} : Lib.NumEnd α → Option α
  | .ok v => some v
  | _ => none
/-- What strconv.Atoi reads; none: an error. -/
def vI (l : List UInt8) : Option Int := okOf (Lib.atoiAll l)
theorem vI_itoa (n : Int) (hn : -1000000 ≤ n ∧ n ≤ 1000000) : vI (Lib.itoa n) = some n := by
  unfold vI Lib.itoa
  split
  · rename_i h
    have hp := parse_dec n.natAbs (by omega)
    rw [Lib.atoiAll]
    have e : (45 : UInt8).toNat = 45 := rfl
    simp only [e, or_true, if_true, Lib.parseMag, dec_ne, if_false, hp, not_true_eq_false, false_and, true_and, if_neg (show ¬ (9223372036854775808 < n.natAbs) by omega)]
    show some _ = some _
    congr 1
    omega
  · rename_i h
    have hp := parse_dec n.toNat (by omega)
    obtain ⟨c, r, hcr⟩ : ∃ c r, Lib.decDigits n.toNat = c :: r := by
      cases hd : Lib.decDigits n.toNat with
      | nil => exact absurd hd (dec_ne _)
      | cons c r => exact ⟨c, r, rfl⟩
    have hc := dec_digits n.toNat c (by rw [hcr]; exact List.mem_cons_self ..)
    rw [hcr] at hp ⊢
    rw [Lib.atoiAll]
    have h43 : ¬ c.toNat = 43 := by omega
    have h45 : ¬ c.toNat = 45 := by omega
    simp only [h43, h45, or_self, if_false, Lib.parseMag, reduceCtorEq, hp, not_false_eq_true, true_and, false_and, if_neg (show ¬ (9223372036854775808 ≤ n.toNat) by omega)]
    show some _ = some _
    congr 1
    omega
/-! ### What impl.readCommand reads -/
theorem bt_data (l : List UInt8) : (bt l).data.toList = l := by simp [bt]
theorem data_bt (s : ByteArray) : bt s.data.toList = s := by
  apply ByteArray.ext
  simp [bt]
theorem bt_inj {a b : List UInt8} (h : bt a = bt b) : a = b := by rw [← bt_data a, h, bt_data]
def sp : ByteArray := ⟨#[32]⟩
def wordsB (s : ByteArray) : List ByteArray := Lib.splitB sp 0 (Lib.countB s sp) s
theorem wordsB_data (s : ByteArray) : (wordsB s).map (·.data.toList) = spl [] s.data.toList := by
  unfold wordsB
  rw [Lib.splitB_data]
  exact spl_eq _
theorem wordsB_eq (s : ByteArray) : wordsB s = (spl [] s.data.toList).map bt := by
  rw [← wordsB_data, List.map_map]
  have : (bt ∘ fun x : ByteArray => x.data.toList) = id := funext data_bt
  rw [this, List.map_id]
def kindTo : Nat → ByteArray → Int
  | 0, _ => 0
  | k + 1, w => if bt (nameL (k + 1)) = w then ((k + 1 : Nat) : Int) else kindTo k w
theorem kind_name (k : Nat) (h : 1 ≤ k ∧ k ≤ 6) : kindTo 6 (bt (nameL k)) = (k : Int) := by
  obtain rfl | rfl | rfl | rfl | rfl | rfl : k = 1 ∨ k = 2 ∨ k = 3 ∨ k = 4 ∨ k = 5 ∨ k = 6 := by omega
  all_goals decide
def numsP (f : List UInt8 → Option Int) (ws : List ByteArray) : Nat → Option (Int × Int)
  | 0 => some (0, 0)
  | j + 1 => match numsP f ws j with
    | none => none
    | some (A, B) => match ws[j]? with
      | none => none
      | some wd => match f wd.data.toList with
        | none => none
        | some n => if j = 0 then some (n, B) else if j = 1 then some (A, n) else none
theorem numsP_none {f : List UInt8 → Option Int} {ws : List ByteArray} {j : Nat} (h : numsP f ws j = none) : ∀ k, j ≤ k → numsP f ws k = none := by
  intro k hk
  obtain ⟨d, rfl⟩ : ∃ d, k = j + d := ⟨k - j, by omega⟩
  clear hk
  induction d with
  | zero => exact h
  | succ d ih => rw [← Nat.add_assoc, numsP, ih]
theorem numsP_step {f : List UInt8 → Option Int} {ws : List ByteArray} {j : Nat} {A B : Int} {wd : ByteArray} (h : numsP f ws j = some (A, B)) (hw : ws[j]? = some wd) :
    numsP f ws (j + 1) = match f wd.data.toList with | none => none | some n => if j = 0 then some (n, B) else if j = 1 then some (A, n) else none := by
  rw [numsP, h]
  simp only [hw]
def readI (s : ByteArray) : Option Cmd :=
  match wordsB s with
  | [] => none
  | w0 :: ws => match numsP vI ws ws.length with
    | none => none
    | some (A, B) => if cmdB ⟨kindTo 6 w0, A, B⟩ = true ∧ lineB ⟨kindTo 6 w0, A, B⟩ = s then some ⟨kindTo 6 w0, A, B⟩ else none
theorem readI_some {s : ByteArray} {c : Cmd} (h : readI s = some c) : cmdB c = true ∧ lineB c = s := by
  unfold readI at h
  split at h
  · cases h
  · split at h
    · cases h
    · split at h
      · rename_i h2
        obtain rfl := Option.some.inj h
        exact h2
      · cases h
theorem words_of_line (c : Cmd) : wordsB (lineB c) = (wordsL c).map bt := by
  rw [wordsB_eq, lineB, bt_data, words_line]
/-- The words of a command's line, with its numbers read back by f. -/
theorem nums_line {f : List UInt8 → Option Int} (hf : ∀ n : Int, -10000 ≤ n ∧ n ≤ 10000 → f (Lib.itoa n) = some n) {c : Cmd} (h : cmdB c = true) :
    ∃ (k : Nat) (ws : List ByteArray), c.Kind = (k : Int) ∧ (1 ≤ k ∧ k ≤ 6) ∧ (wordsL c).map bt = bt (nameL k) :: ws ∧ ws.length ≤ 2 ∧ numsP f ws ws.length = some (c.A, c.B) := by
  obtain ⟨K, A, B⟩ := c
  have hc := cmd_cases h
  dsimp only at hc ⊢
  rcases hc with ⟨rfl, hA, hB⟩ | ⟨k, rfl, hk, hA, rfl⟩ | ⟨k, rfl, hk, rfl, rfl⟩
  · refine ⟨1, [bt (Lib.itoa A), bt (Lib.itoa B)], rfl, by omega, by simp [wordsL], by simp, ?_⟩
    have e1 := hf A (by omega)
    have e2 := hf B (by omega)
    simp [numsP, bt_data, e1, e2]
  · refine ⟨k, [bt (Lib.itoa A)], rfl, by omega, ?_, by simp, ?_⟩
    · unfold wordsL
      rw [if_neg (show ¬ ((k : Int) = 1) by omega), if_pos (show (k : Int) = 4 ∨ (k : Int) = 5 by omega), Int.toNat_natCast]
      rfl
    · have e1 := hf A (by omega)
      simp [numsP, bt_data, e1]
  · refine ⟨k, [], rfl, by omega, ?_, by simp, rfl⟩
    unfold wordsL
    rw [if_neg (show ¬ ((k : Int) = 1) by omega), if_neg (show ¬ ((k : Int) = 4 ∨ (k : Int) = 5) by omega), Int.toNat_natCast]
    rfl
theorem readI_line {c : Cmd} (h : cmdB c = true) : readI (lineB c) = some c := by
  obtain ⟨k, ws, hk, hk2, hw, -, hn⟩ := nums_line (fun n hn => vI_itoa n (by omega)) h
  unfold readI
  rw [words_of_line, hw]
  simp only [hn, kind_name k hk2]
  obtain ⟨K, A, B⟩ := c
  dsimp only at hk ⊢
  subst hk
  rw [if_pos ⟨h, rfl⟩]
theorem line_size {c : Cmd} (h : cmdB c = true) : (lineB c).size ≤ 40 := by
  have nl : ∀ k, (nameL k).length ≤ 7 := fun k => by rw [← bt_size]; exact name_size k
  have d5 : ∀ u : Nat, u < 100000 → (Lib.decDigits u).length ≤ 5 := by
    intro u hu
    have s1 : ∀ v : Nat, v < 10 → (Lib.decDigits v).length ≤ 1 := fun v hv => by rw [dec_small hv]; simp
    have st : ∀ (m k : Nat), (∀ v : Nat, v < m → (Lib.decDigits v).length ≤ k) → 1 ≤ k → ∀ v : Nat, v < m * 10 → (Lib.decDigits v).length ≤ k + 1 := by
      intro m k ih hk v hv
      by_cases h : v < 10
      · have := s1 v h; omega
      · rw [dec_big h, List.length_append]
        have := ih (v / 10) (by omega)
        simp only [List.length_cons, List.length_nil]
        omega
    exact st 10000 4 (st 1000 3 (st 100 2 (st 10 1 s1 (by omega)) (by omega)) (by omega)) (by omega) u hu
  have il : ∀ n : Int, -10000 ≤ n ∧ n ≤ 10000 → (Lib.itoa n).length ≤ 6 := by
    intro n hn
    unfold Lib.itoa
    split
    · have := d5 n.natAbs (by omega)
      simp only [List.length_cons]
      omega
    · have := d5 n.toNat (by omega)
      omega
  unfold lineB
  rw [bt_size]
  obtain ⟨K, A, B⟩ := c
  have hc := cmd_cases h
  dsimp only at hc
  unfold lineL
  dsimp only
  rcases hc with ⟨rfl, hA, hB⟩ | ⟨k, rfl, hk, hA, rfl⟩ | ⟨k, rfl, hk, rfl, rfl⟩
  · rw [if_pos rfl]
    have := nl 1
    have := il A (by omega)
    have := il B (by omega)
    simp only [List.length_append, List.length_cons, List.length_nil]
    omega
  · rw [if_neg (show ¬ ((k : Int) = 1) by omega), if_pos (show (k : Int) = 4 ∨ (k : Int) = 5 by omega)]
    have := nl ((k : Int)).toNat
    have := il A (by omega)
    simp only [List.length_append, List.length_cons, List.length_nil]
    omega
  · rw [if_neg (show ¬ ((k : Int) = 1) by omega), if_neg (show ¬ ((k : Int) = 4 ∨ (k : Int) = 5) by omega)]
    have := nl ((k : Int)).toNat
    omega
/-! ### Texts compared -/
theorem ba_size (bs : ByteArray) : bs.data.toList.length = bs.size := rfl
theorem ba_loop (bs : ByteArray) : ∀ (d i : Nat) (r : List UInt8), bs.size - i = d → ByteArray.toList.loop bs i r = r.reverse ++ bs.data.toList.drop i := by
  intro d
  induction d with
  | zero =>
    intro i r h
    unfold ByteArray.toList.loop
    rw [if_neg (by omega), List.drop_eq_nil_of_le (by rw [ba_size]; omega), List.append_nil]
  | succ d ih =>
    intro i r h
    have hi : i < bs.size := by omega
    have hi2 : i < bs.data.toList.length := hi
    unfold ByteArray.toList.loop
    rw [if_pos hi, ih (i + 1) _ (by omega), List.drop_eq_getElem_cons hi2, List.reverse_cons, List.append_assoc]
    have e : bs.get! i = bs.data.toList[i] := by
      have h2 : i < bs.data.size := hi
      show bs.data[i]! = _
      rw [getElem!_pos bs.data i h2]
      rfl
    rw [e]
    rfl
theorem ba_toList (bs : ByteArray) : bs.toList = bs.data.toList := by
  unfold ByteArray.toList
  rw [ba_loop bs _ 0 [] rfl]
  rfl
theorem str_ne {a b : ByteArray} (h : ¬ a = b) : (a.toList == b.toList) = false := by
  rw [ba_toList, ba_toList]
  refine beq_eq_false_iff_ne.2 (fun e => h ?_)
  rw [← data_bt a, e, data_bt]
theorem spl_len : ∀ (l w : List UInt8), ∀ x ∈ spl w l, x.length ≤ w.length + l.length
  | [], w, x, hx => by
    simp only [spl, List.mem_singleton] at hx
    subst hx
    omega
  | b :: l, w, x, hx => by
    rw [spl] at hx
    split at hx
    · rcases List.mem_cons.1 hx with rfl | hx
      · simp
      · have := spl_len l [] x hx
        simp only [List.length_nil, List.length_cons] at *
        omega
    · have := spl_len l (w ++ [b]) x hx
      simp only [List.length_append, List.length_nil, List.length_cons] at *
      omega
theorem wordsB_size {s wd : ByteArray} (h : wd ∈ wordsB s) : wd.size ≤ s.size := by
  rw [wordsB_eq, List.mem_map] at h
  obtain ⟨x, hx, rfl⟩ := h
  have := spl_len _ _ x hx
  rw [bt_size]
  have e : s.data.toList.length = s.size := rfl
  simp only [List.length_nil] at this
  omega
end Go.Proofs.YtbhelobahfgaeaaDoor
