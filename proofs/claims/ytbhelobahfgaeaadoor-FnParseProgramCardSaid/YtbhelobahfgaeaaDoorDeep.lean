/-
  Slices whose elements hold slices: read and owned, through the assertions. Plain Lean over the model: no function of the program.
-/
import Derived.Test.YtbhelobahfgaeaaDoorMem
namespace Go.Proofs.YtbhelobahfgaeaaDoor
open Go Go.RowKit

/-- A slice value as data. -/
abbrev Sl := Option Addr × Nat × Nat
def Sl.val (s : Sl) : Value := .slice s.1 s.2.1 s.2.2
def LSl (T : TypeId) : Lay Sl := ⟨1, T, fun x => [.slice x.1 x.2.1 x.2.2], fun _ => rfl, Nat.one_pos, by intro x u hu; simp at hu; subst hu; rfl⟩
/-- Every slice value is the value of one. -/
theorem Rds.sl {α : Type} {L : Lay α} {w : World} {v : Value} {xs : List α} (h : Rds L w v xs) : ∃ s : Sl, v = s.val := by
  obtain ⟨a, cap, rfl, _⟩ := h
  exact ⟨(a, xs.length, cap), rfl⟩

structure Deep (α β : Type) where
  rd : World → α → β → Prop
  own : α → β → List Asr
  kept : ∀ {w w' : World} {x : α} {y : β}, rd w x y → w.grownBy w' none → rd w' x y
  rdOwn : ∀ {w0 w : World} {x : α} {y : β} {Ls : List Asr}, St w0 w (own x y ++ Ls) → rd w x y

section
variable {α β : Type} (L : Lay α) (D : Deep α β)
def DRds (w : World) (v : Value) (ys : List β) : Prop :=
  ∃ xs : List α, Rds L w v xs ∧ xs.length = ys.length ∧ ∀ (k : Nat) x y, xs[k]? = some x → ys[k]? = some y → D.rd w x y
def inner (xs : List α) (ys : List β) : List Asr := (List.zipWith D.own xs ys).flatten
def DOwn (v : Value) (ys : List β) : Asr := Asr.ex fun xs : List α => Asr.pure (xs.length = ys.length) (Asr.star (Own L v xs :: inner D xs ys))
variable {L D} {w0 w w' : World} {v : Value} {xs : List α} {ys : List β} {Ls : List Asr}
theorem DRds.nil (w : World) : DRds L D w (.slice none 0 0) [] := ⟨[], Rds.nil L w, rfl, by simp⟩
theorem DRds.kept (h : DRds L D w v ys) (hg : w.grownBy w' none) : DRds L D w' v ys := by
  obtain ⟨xs, h1, h2, h3⟩ := h
  exact ⟨xs, h1.kept hg, h2, fun k x y hx hy => D.kept (h3 k x y hx hy) hg⟩
theorem St.drdsOld (S : St w0 w Ls) (h : DRds L D w0 v ys) : DRds L D w v ys := h.kept S.gb
theorem DRds.get (h : DRds L D w v ys) : ∃ (a : Option Addr) (n cap : Nat), v = .slice a n cap ∧ n ≤ cap ∧ cap ≤ 9223372036854775807 ∧ RowKit.Hid (n = ys.length) ∧
    RowKit.Hid (∀ k, k < n → ∃ (b off : Nat) (x : α) (y : β), a = some ⟨b, off, none⟩ ∧ b < w.heap.size ∧ RowKit.Hid (ys[k]? = some y) ∧ D.rd w x y ∧ (∀ j u, (L.enc x)[j]? = some u → w.cell? ⟨b, off + k * L.s + j, none⟩ = some u)) := by
  obtain ⟨xs, h1, h2, h3⟩ := h
  obtain ⟨a, n, cap, hv, k1, k2, HN, HC⟩ := h1.get
  refine ⟨a, n, cap, hv, k1, k2, HN.out.trans h2, fun k hk => ?_⟩
  obtain ⟨b, off, x, ha, hb, hx, hc⟩ := HC.out k hk
  have hl : k < ys.length := by have := HN.out; omega
  exact ⟨b, off, x, ys[k], ha, hb, List.getElem?_eq_getElem hl, h3 k x _ hx.out (List.getElem?_eq_getElem hl), hc⟩
theorem DRds.take {a : Option Addr} {n cap : Nat} (h : DRds L D w (.slice a n cap) ys) (k : Nat) (hk : k ≤ n) : DRds L D w (.slice a k cap) (ys.take k) := by
  obtain ⟨xs, h1, h2, h3⟩ := h
  refine ⟨xs.take k, h1.take k hk, by simp [h2], fun j x y hx hy => ?_⟩
  rw [List.getElem?_take] at hx hy
  split at hx
  · rename_i hj
    rw [if_pos hj] at hy
    exact h3 j x y hx hy
  · cases hx
theorem inner_cons (x : α) (xs : List α) (y : β) (ys : List β) : inner D (x :: xs) (y :: ys) = D.own x y ++ inner D xs ys := by simp [inner]
theorem inner_nil : inner D ([] : List α) ([] : List β) = [] := rfl
theorem inner_snoc (x : α) (y : β) : ∀ (xs : List α) (ys : List β), xs.length = ys.length → inner D (xs ++ [x]) (ys ++ [y]) = inner D xs ys ++ D.own x y
  | [], [], _ => by simp [inner]
  | a :: xs, b :: ys, h => by
    rw [List.cons_append, List.cons_append, inner_cons, inner_cons, inner_snoc x y xs ys (by simpa using h), List.append_assoc]
/-- One of them, in front of the others. -/
theorem inner_at : ∀ (xs : List α) (ys : List β) (k : Nat) (x : α) (y : β), xs[k]? = some x → ys[k]? = some y →
    ∃ R, (inner D xs ys).Perm (D.own x y ++ R) ∧ ∀ x' y', (inner D (xs.set k x') (ys.set k y')).Perm (D.own x' y' ++ R)
  | [], _, _, _, _, h, _ => by simp at h
  | _ :: _, [], _, _, _, _, h => by simp at h
  | a :: xs, b :: ys, 0, x, y, hx, hy => by
    simp at hx hy
    subst hx hy
    exact ⟨inner D xs ys, by rw [inner_cons], fun x' y' => by rw [List.set_cons_zero, List.set_cons_zero, inner_cons]⟩
  | a :: xs, b :: ys, k + 1, x, y, hx, hy => by
    obtain ⟨R, h1, h2⟩ := inner_at xs ys k x y (by simpa using hx) (by simpa using hy)
    have sw : ∀ A B C : List Asr, (A ++ (B ++ C)).Perm (B ++ (A ++ C)) := fun A B C => by
      rw [← List.append_assoc, ← List.append_assoc]
      exact List.Perm.append_right C List.perm_append_comm
    refine ⟨D.own a b ++ R, ?_, fun x' y' => ?_⟩
    · rw [inner_cons]
      exact (List.Perm.append_left _ h1).trans (sw _ _ _)
    · rw [List.set_cons_succ, List.set_cons_succ, inner_cons]
      exact (List.Perm.append_left _ (h2 x' y')).trans (sw _ _ _)
theorem St.unpack (h : St w0 w (DOwn L D v ys :: Ls)) : ∃ xs : List α, xs.length = ys.length ∧ St w0 w (Own L v xs :: (inner D xs ys ++ Ls)) := by
  obtain ⟨xs, h⟩ := h.unex
  obtain ⟨hl, h⟩ := h.unpure
  exact ⟨xs, hl, h.unstar⟩
theorem St.pack (h : St w0 w (Own L v xs :: (inner D xs ys ++ Ls))) (hl : xs.length = ys.length) : St w0 w (DOwn L D v ys :: Ls) :=
  St.ex xs (St.pure hl (St.star h))
theorem St.moveIn {A : Asr} {Ms : List Asr} (h : St w0 w (A :: (Ms ++ Ls))) : St w0 w (Ms ++ A :: Ls) := h.perm List.perm_middle.symm
theorem St.moveOut {A : Asr} {Ms : List Asr} (h : St w0 w (Ms ++ A :: Ls)) : St w0 w (A :: (Ms ++ Ls)) := h.perm List.perm_middle
theorem St.drds (h : St w0 w (DOwn L D v ys :: Ls)) : DRds L D w v ys := by
  obtain ⟨xs, hl, S⟩ := h.unpack
  refine ⟨xs, S.own, hl, fun k x y hx hy => ?_⟩
  obtain ⟨R, h1, _⟩ := inner_at (D := D) xs ys k x y hx hy
  have S2 := S.tail.perm (List.Perm.append_right Ls h1)
  rw [List.append_assoc] at S2
  exact D.rdOwn S2
/-- Element k taken out; whatever comes in its place, in the same cells, makes the whole again. -/
theorem St.focus (h : St w0 w (DOwn L D v ys :: Ls)) (k : Nat) (y : β) (hy : ys[k]? = some y) :
    ∃ (xs : List α) (x : α) (R : List Asr), xs[k]? = some x ∧ xs.length = ys.length ∧ St w0 w (D.own x y ++ (Own L v xs :: (R ++ Ls))) ∧
      ∀ (w' : World) (xs' : List α) (x' : α) (y' : β) (Ms : List Asr), xs' = xs.set k x' → St w0 w' (D.own x' y' ++ (Own L v xs' :: (R ++ Ms))) → St w0 w' (DOwn L D v (ys.set k y') :: Ms) := by
  obtain ⟨xs, hl, S⟩ := h.unpack
  have hk : k < ys.length := (List.getElem?_eq_some_iff.1 hy).1
  have hx : xs[k]? = some xs[k] := List.getElem?_eq_getElem (by omega)
  obtain ⟨R, h1, h2⟩ := inner_at (D := D) xs ys k _ y hx hy
  refine ⟨xs, xs[k], R, hx, hl, ?_, ?_⟩
  · have S2 := S.perm (List.Perm.cons _ (List.Perm.append_right Ls h1))
    rw [List.append_assoc] at S2
    exact S2.moveIn
  · rintro w' xs' x' y' Ms rfl S'
    refine St.pack (xs := xs.set k x') ?_ (by simp [hl])
    have S2 := S'.moveOut
    rw [← List.append_assoc] at S2
    exact S2.perm (List.Perm.cons _ (List.Perm.append_right Ms (h2 x' y').symm))
/-- Element k taken out and not changed in its cells. -/
theorem St.unfocus {x : α} {y' : β} {R Ms : List Asr} {k : Nat} {w' : World}
    (hre : ∀ (w' : World) (xs' : List α) (x' : α) (y' : β) (Ms : List Asr), xs' = xs.set k x' → St w0 w' (D.own x' y' ++ (Own L v xs' :: (R ++ Ms))) → St w0 w' (DOwn L D v (ys.set k y') :: Ms))
    (hx : xs[k]? = some x) (S : St w0 w' (D.own x y' ++ (Own L v xs :: (R ++ Ms)))) : St w0 w' (DOwn L D v (ys.set k y') :: Ms) := by
  refine hre w' xs x y' Ms ?_ S
  obtain ⟨hk, rfl⟩ := List.getElem?_eq_some_iff.1 hx
  simp
theorem St.dsnoc {x : α} {y : β} (hl : xs.length = ys.length) (S : St w0 w (Own L v (xs ++ [x]) :: (inner D xs ys ++ (D.own x y ++ Ls)))) : St w0 w (DOwn L D v (ys ++ [y]) :: Ls) := by
  refine St.pack (xs := xs ++ [x]) ?_ (by simp [hl])
  rw [inner_snoc x y xs ys hl, List.append_assoc]
  exact S
theorem St.downNil (h : St w0 w Ls) : St w0 w (DOwn L D (.slice none 0 0) [] :: Ls) := St.pack (xs := []) (h.ownNil L) rfl
theorem St.downEmpty (h : St w0 w Ls) : St w0 (w.alloc (.cells #[] L.T)) (DOwn L D (.slice (some ⟨w.heap.size, 0, none⟩) 0 0) [] :: Ls) := St.pack (xs := []) (h.ownEmpty L) rfl
/-- Many that hold nothing. -/
theorem inner_rep (x0 : α) (y0 : β) (h : ∀ {w0 w : World} {Ms : List Asr}, St w0 w Ms → St w0 w (D.own x0 y0 ++ Ms)) : ∀ (n : Nat), St w0 w Ls → St w0 w (inner D (List.replicate n x0) (List.replicate n y0) ++ Ls)
  | 0, S => S
  | n + 1, S => by
    rw [List.replicate_succ, List.replicate_succ, inner_cons, List.append_assoc]
    exact h (inner_rep x0 y0 h n S)
theorem St.downRep (x0 : α) (y0 : β) (n : Nat) (h : ∀ {w0 w : World} {Ms : List Asr}, St w0 w Ms → St w0 w (D.own x0 y0 ++ Ms)) (S : St w0 w (Own L v (List.replicate n x0) :: Ls)) : St w0 w (DOwn L D v (List.replicate n y0) :: Ls) := by
  refine St.pack (xs := List.replicate n x0) ?_ (by simp)
  exact (inner_rep x0 y0 h n S).moveOut
end

/-- Rows: the element is one slice. -/
def DRow {γ : Type} (L : Lay γ) : Deep Sl (List γ) where
  rd w x y := Rds L w x.val y
  own x y := [Own L x.val y]
  kept h hg := h.kept hg
  rdOwn h := St.own h
theorem Rds.slice {α : Type} {L : Lay α} {w : World} {v : Value} {xs : List α} (h : Rds L w v xs) : ∃ a n c, v = .slice a n c ∧ n = xs.length := by
  obtain ⟨a, cap, rfl, _⟩ := h
  exact ⟨a, xs.length, cap, rfl, rfl⟩
section
variable {γ : Type} {L : Lay γ} {T : TypeId} {w0 w : World} {v : Value} {ys : List (List γ)} {Ms : List Asr}
/-- What an outer cell of rows reads as. -/
theorem DRds.rows (h : DRds (LSl T) (DRow L) w v ys) : ∃ (a : Option Addr) (n cap : Nat), v = .slice a n cap ∧ n ≤ cap ∧ cap ≤ 9223372036854775807 ∧ RowKit.Hid (n = ys.length) ∧
    RowKit.Hid (∀ k, k < n → ∃ (b off : Nat) (ra : Option Addr) (rn rc : Nat) (y : List γ), a = some ⟨b, off, none⟩ ∧ b < w.heap.size ∧ RowKit.Hid (ys[k]? = some y) ∧ RowKit.Hid (rn = y.length) ∧ rn ≤ rc ∧ rc ≤ 9223372036854775807 ∧ Rds L w (.slice ra rn rc) y ∧ w.cell? ⟨b, off + k, none⟩ = some (.slice ra rn rc)) := by
  obtain ⟨a, n, cap, hv, h1, h2, HN, HC⟩ := h.get
  refine ⟨a, n, cap, hv, h1, h2, HN, fun k hk => ?_⟩
  obtain ⟨b, off, ⟨ra, rn, rc⟩, y, ha, hb, hy, hr, hc⟩ := HC.out k hk
  have hc0 := hc 0 _ rfl
  have hs : (LSl T).s = 1 := rfl
  rw [hs, Nat.mul_one, Nat.add_zero] at hc0
  have hr' : Rds L w (.slice ra rn rc) y := hr
  obtain ⟨a', cap', hv', k1, k2, _⟩ := hr'
  simp only [Value.slice.injEq] at hv'
  obtain ⟨rfl, hn, rfl⟩ := hv'
  exact ⟨b, off, ra, rn, rc, y, ha, hb, hy, hn, by omega, by unfold maxLen at k2; omega, hr, hc0⟩
/-- Row k replaced by another one. -/
theorem St.drowSet {g : Nat} {ua : Option Addr} {un uc : Nat} {y : List γ} (S : St w0 w (DOwn (LSl T) (DRow L) v ys :: Own L (.slice ua un uc) y :: Ms)) (hv : v.ownBlock = some g) (k : Nat) (hk : k < ys.length) :
    ∃ ca cn cc, w.cell? ⟨g, k, none⟩ = some (.slice ca cn cc) ∧ w.frozen? ⟨g, k, none⟩ = false ∧ St w0 (w.setCell ⟨g, k, none⟩ (.slice ua un uc)) (DOwn (LSl T) (DRow L) v (ys.set k y) :: Ms) := by
  obtain ⟨xs, ⟨ca, cn, cc⟩, R, hx, hl, S1, hre⟩ := S.focus k ys[k] (List.getElem?_eq_getElem hk)
  have S2 : St w0 w (Own (LSl T) v xs :: (R ++ (Own L (.slice ua un uc) y :: Ms))) := St.tail S1
  have hc := S2.ownCell hv k _ hx 0 _ rfl
  have hs : (LSl T).s = 1 := rfl
  rw [hs, Nat.mul_one, Nat.add_zero] at hc
  refine ⟨ca, cn, cc, hc, S2.ownFrozen hv k, ?_⟩
  have S3 := S2.setAt1 (c := fun x => .slice x.1 x.2.1 x.2.2) rfl (fun _ => rfl) hv k (ua, un, uc) (.slice ua un uc) rfl (by omega)
  exact hre _ _ (ua, un, uc) y Ms rfl (S3.perm ((List.Perm.cons _ List.perm_middle).trans (.swap _ _ _)))
/-- Row k in front: written through, and put back. -/
theorem St.drowAt (S : St w0 w (DOwn (LSl T) (DRow L) v ys :: Ms)) (k : Nat) (y : List γ) (hy : ys[k]? = some y) :
    ∃ ra rn rc Ns, w.cell? ⟨(v.ownBlock).getD 0, k, none⟩ = some (.slice ra rn rc) ∧ rn = y.length ∧ St w0 w (Own L (.slice ra rn rc) y :: Ns) ∧ ∀ (w' : World) (y' : List γ), St w0 w' (Own L (.slice ra rn rc) y' :: Ns) → St w0 w' (DOwn (LSl T) (DRow L) v (ys.set k y') :: Ms) := by
  obtain ⟨xs, ⟨ra, rn, rc⟩, R, hx, hl, S1, hre⟩ := S.focus k y hy
  have S2 : St w0 w (Own (LSl T) v xs :: (R ++ Ms)) := St.tail S1
  have hs : (LSl T).s = 1 := rfl
  have hr : Rds L w (.slice ra rn rc) y := St.own S1
  obtain ⟨_, _, hv', _⟩ := hr
  simp only [Value.slice.injEq] at hv'
  refine ⟨ra, rn, rc, _, ?_, hv'.2.1, S1, fun w' y' S' => St.unfocus (fun w' xs' x' y' Ms' => hre w' xs' x' y' Ms') hx S'⟩
  obtain ⟨F, ⟨h1, _⟩, _⟩ := S2.head
  rcases h1.form with ⟨rfl, rfl⟩ | ⟨g, cap, cur, rfl, _⟩
  · simp at hx
  · have hc := S2.ownCell (g := g) rfl k _ hx 0 _ rfl
    rw [hs, Nat.mul_one, Nat.add_zero] at hc
    exact hc
end
/-- append(out, row). -/
theorem wpList_drow1 {P : Program} {γ : Type} {L : Lay γ} {T : TypeId} {t : TypeId} {x0 : Sl} {w0 w : World} {v : Value} {ys : List (List γ)} {Ls : List Asr} (D : Nonempty (ElemInfo P (LSl T) t x0)) {ops : Array Oper} {rest : List Oper} {o : Oper} {a : Act} {Q : Exit → Act → World → Prop}
    (hgd : o.guard = none) (s x : Operand) (ho : o.op = .call { callee := .builtin .append, args := #[s, x], argTypes := #[t, t] })
    {ua : Option Addr} {un uc : Nat} {y : List γ} (S : St w0 w (DOwn (LSl T) (DRow L) v ys :: Own L (.slice ua un uc) y :: Ls)) (hs : a.eval s = v) (hx : a.eval x = .slice (some ⟨w.heap.size, 0, none⟩) 1 1) (hn : ys.length ≤ 1000000000)
    (h : ∀ v' w', St w0 w' (DOwn (LSl T) (DRow L) v' (ys ++ [y]) :: Ls) → wpList P ops Q rest (a.put o.dst v') w') : wpList P ops Q (o :: rest) a (w.alloc (.cells #[.slice ua un uc] T)) := by
  obtain ⟨xs, hl, S1⟩ := S.unpack
  refine wpList_app1 D hgd s x ho S1 (ua, un, uc) #[.slice ua un uc] rfl hs hx (by omega) (fun v' w' S2 => h v' w' (St.dsnoc (x := (ua, un, uc)) hl ?_))
  exact S2
/-- All the rows' lengths together. -/
def total {γ : Type} (ys : List (List γ)) : Nat := (ys.map List.length).sum
theorem total_snoc {γ : Type} (ys : List (List γ)) (y : List γ) : total (ys ++ [y]) = total ys + y.length := by simp [total]
theorem total_take {γ : Type} (ys : List (List γ)) (k : Nat) (y : List γ) (hy : ys[k]? = some y) : total (ys.take (k + 1)) = total (ys.take k) + y.length := by
  obtain ⟨hk, rfl⟩ := List.getElem?_eq_some_iff.1 hy
  rw [List.take_succ_eq_append_getElem hk, total_snoc]
theorem total_le {γ : Type} (ys : List (List γ)) (k : Nat) : total (ys.take k) ≤ total ys := by
  have : total ys = total (ys.take k) + total (ys.drop k) := by
    unfold total
    rw [← List.sum_append, ← List.map_append, List.take_append_drop]
  omega
theorem total_mem {γ : Type} (ys : List (List γ)) (k : Nat) (y : List γ) (hy : ys[k]? = some y) : y.length ≤ total ys := by
  have h1 := total_take ys k y hy
  have h2 := total_le ys (k + 1)
  omega
/-- The marks of rows, one after the other. -/
def markRows {γ : Type} (mk : Int → Nat → γ) (k0 : Int) : List (List γ) → List (List γ)
  | [] => []
  | y :: ys => (List.range y.length).map (mk k0) :: markRows mk (k0 + (y.length : Int)) ys
theorem markRows_snoc {γ : Type} (mk : Int → Nat → γ) (k0 : Int) (y : List γ) : ∀ ys : List (List γ), markRows mk k0 (ys ++ [y]) = markRows mk k0 ys ++ [(List.range y.length).map (mk (k0 + (total ys : Int)))] := by
  intro ys
  induction ys generalizing k0 with
  | nil => simp [markRows, total]
  | cons x ys ih =>
    rw [List.cons_append, markRows, ih, markRows, List.cons_append]
    simp [total, Int.add_assoc]
theorem markRows_len {γ : Type} (mk : Int → Nat → γ) (k0 : Int) : ∀ ys : List (List γ), (markRows mk k0 ys).length = ys.length := by
  intro ys
  induction ys generalizing k0 with
  | nil => rfl
  | cons x ys ih => simp [markRows, ih]
theorem markRows_step {γ : Type} (mk : Int → Nat → γ) (k0 : Int) (ys : List (List γ)) (k : Nat) (y : List γ) (hy : ys[k]? = some y) :
    (markRows mk k0 (ys.take k) ++ ys.drop k).set k ((List.range y.length).map (mk (k0 + (total (ys.take k) : Int)))) = markRows mk k0 (ys.take (k + 1)) ++ ys.drop (k + 1) := by
  obtain ⟨hk, rfl⟩ := List.getElem?_eq_some_iff.1 hy
  have h0 : (markRows mk k0 (ys.take k)).length = k := by rw [markRows_len, List.length_take]; omega
  rw [List.set_append_right _ _ (by omega), h0, Nat.sub_self, List.drop_eq_getElem_cons hk, List.set_cons_zero, List.take_succ_eq_append_getElem hk, markRows_snoc, List.append_assoc]
  rfl
theorem markRows_at {γ : Type} (mk : Int → Nat → γ) (k0 : Int) (ys : List (List γ)) (k : Nat) (y : List γ) (hy : ys[k]? = some y) :
    (markRows mk k0 (ys.take k) ++ ys.drop k)[k]? = some y := by
  obtain ⟨hk, rfl⟩ := List.getElem?_eq_some_iff.1 hy
  have h0 : (markRows mk k0 (ys.take k)).length = k := by rw [markRows_len, List.length_take]; omega
  rw [List.getElem?_append_right (by omega), h0, Nat.sub_self, List.getElem?_drop]
  simp [hk]
theorem markRows_get {γ : Type} (mk : Int → Nat → γ) : ∀ (k0 : Int) (ys : List (List γ)) (k : Nat) (z : List γ), (markRows mk k0 ys)[k]? = some z → ∃ y, ys[k]? = some y ∧ z = (List.range y.length).map (mk (k0 + (total (ys.take k) : Int)))
  | _, [], _, _, h => by simp [markRows] at h
  | k0, x :: ys, 0, z, h => by
    simp [markRows] at h
    exact ⟨x, rfl, by simp [← h, total]⟩
  | k0, x :: ys, k + 1, z, h => by
    obtain ⟨y, h1, h2⟩ := markRows_get mk (k0 + (x.length : Int)) ys k z (by simpa [markRows] using h)
    exact ⟨y, by simpa using h1, by rw [h2]; simp [total, Int.add_assoc]⟩
end Go.Proofs.YtbhelobahfgaeaaDoor
