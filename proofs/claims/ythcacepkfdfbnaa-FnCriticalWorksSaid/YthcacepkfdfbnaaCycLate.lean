/-
  Latest starts and critical steps, as plain facts on lists.
-/
import Derived.Test.YthcacepkfdfbnaaCycPlain
namespace Go.Proofs.Ythcacepkfdfbnaa
open Go Go.RowKit
theorem getD_set_same {o : List Int} {k : Nat} {x : Int} (h : k < o.length) : (o.set k x).getD k 0 = x := by
  rw [List.getD_eq_getElem?_getD, List.getElem?_set_self h]; rfl
theorem getD_set_other {o : List Int} {k j : Nat} {x : Int} (h : k ≠ j) : (o.set k x).getD j 0 = o.getD j 0 := by
  rw [List.getD_eq_getElem?_getD, List.getElem?_set_ne h, ← List.getD_eq_getElem?_getD]
structure LInv (ys : List Wk) (E : Int) (m : Nat) (Ps : List Int) (o : List Int) : Prop where
  len : o.length = ys.length
  lo : ∀ j, j < ys.length → st0 ys j ≤ o.getD j 0
  hi : ∀ j, j < ys.length → o.getD j 0 + tm ys j ≤ E
  ord : ∀ i, m < i → i < ys.length → ∀ a ∈ afterOf ys i, o.getD a.toNat 0 + tm ys a.toNat ≤ o.getD i 0
  now : ∀ a ∈ Ps, o.getD a.toNat 0 + tm ys a.toNat ≤ o.getD m 0
  wit : ∀ j, j < ys.length → o.getD j 0 = E - tm ys j ∨ ∃ i, m ≤ i ∧ i < ys.length ∧ (j : Int) ∈ afterOf ys i ∧ o.getD j 0 = o.getD i 0 - tm ys j
theorem LInv.put {ys : List Wk} (h : worksOk ys) {E : Int} {m : Nat} {Ps o : List Int} (I : LInv ys E m Ps o) (hm : m < ys.length) (a : Int) (ha : a ∈ afterOf ys m) : LInv ys E m (a :: Ps) (put1 ys m o a) := by
  obtain ⟨a0, a1⟩ := afterOf_bd h m a ha
  obtain ⟨A, rfl⟩ := Int.eq_ofNat_of_zero_le a0
  have hA : A < m := by omega
  have e : put1 ys m o (A : Int) = o.set A (min (o.getD A 0) (o.getD m 0 - tm ys A)) := rfl
  have self : (put1 ys m o (A : Int)).getD A 0 = min (o.getD A 0) (o.getD m 0 - tm ys A) := by rw [e]; exact getD_set_same (by rw [I.len]; omega)
  have other : ∀ j, A ≠ j → (put1 ys m o (A : Int)).getD j 0 = o.getD j 0 := fun j hj => by rw [e]; exact getD_set_other hj
  have le : ∀ j, (put1 ys m o (A : Int)).getD j 0 ≤ o.getD j 0 := fun j => by
    by_cases hj : A = j
    · subst hj; rw [self]; omega
    · rw [other j hj]; exact Int.le_refl _
  refine ⟨by rw [put1_len, I.len], fun j hj => ?_, fun j hj => ?_, fun i h1 h2 b hb => ?_, fun b hb => ?_, fun j hj => ?_⟩
  · by_cases hjA : A = j
    · subst hjA
      have h1 := I.lo A hj
      have h2 := I.lo m hm
      have h3 := (st0_ge h hm).2 (A : Int) ha
      rw [Int.toNat_natCast, endOf_eq] at h3
      rw [self]
      omega
    · rw [other j hjA]; exact I.lo j hj
  · have := le j
    have := I.hi j hj
    omega
  · have h3 := I.ord i h1 h2 b hb
    have h4 := le b.toNat
    rw [other i (by omega)]
    omega
  · rw [other m (by omega)]
    rcases List.mem_cons.1 hb with rfl | hb
    · rw [Int.toNat_natCast, self]; omega
    · have h3 := I.now b hb
      have h4 := le b.toNat
      omega
  · by_cases hjA : A = j
    · subst hjA
      by_cases hmin : o.getD A 0 ≤ o.getD m 0 - tm ys A
      · have e2 : (put1 ys m o (A : Int)).getD A 0 = o.getD A 0 := by rw [self]; omega
        rw [e2]
        rcases I.wit A hj with h1 | ⟨i, h1, h2, h3, h4⟩
        · exact .inl h1
        · exact .inr ⟨i, h1, h2, h3, by rw [other i (by omega)]; exact h4⟩
      · right
        refine ⟨m, Nat.le_refl _, hm, ha, ?_⟩
        rw [other m (by omega), self]
        omega
    · rw [other j hjA]
      rcases I.wit j hj with h1 | ⟨i, h1, h2, h3, h4⟩
      · exact .inl h1
      · exact .inr ⟨i, h1, h2, h3, by rw [other i (by omega)]; exact h4⟩
theorem LInv.fold {ys : List Wk} (h : worksOk ys) {E : Int} {m : Nat} (hm : m < ys.length) : ∀ (As Ps o : List Int), LInv ys E m Ps o → (∀ a ∈ As, a ∈ afterOf ys m) → ∃ Qs, (∀ a ∈ As, a ∈ Qs) ∧ (∀ a ∈ Ps, a ∈ Qs) ∧ LInv ys E m Qs (As.foldl (put1 ys m) o)
  | [], Ps, o, I, _ => ⟨Ps, by simp, fun _ h => h, I⟩
  | a :: As, Ps, o, I, hA => by
    obtain ⟨Qs, h1, h2, h3⟩ := LInv.fold h hm As (a :: Ps) _ (I.put h hm a (hA a List.mem_cons_self)) (fun x hx => hA x (List.mem_cons_of_mem _ hx))
    refine ⟨Qs, fun x hx => ?_, fun x hx => h2 x (List.mem_cons_of_mem _ hx), h3⟩
    rcases List.mem_cons.1 hx with rfl | hx
    · exact h2 _ List.mem_cons_self
    · exact h1 x hx
/-- All from step m on are done. -/
structure LDone (ys : List Wk) (E : Int) (m : Nat) (o : List Int) : Prop where
  len : o.length = ys.length
  lo : ∀ j, j < ys.length → st0 ys j ≤ o.getD j 0
  hi : ∀ j, j < ys.length → o.getD j 0 + tm ys j ≤ E
  ord : ∀ i, m ≤ i → i < ys.length → ∀ a ∈ afterOf ys i, o.getD a.toNat 0 + tm ys a.toNat ≤ o.getD i 0
  wit : ∀ j, j < ys.length → o.getD j 0 = E - tm ys j ∨ ∃ i, m ≤ i ∧ i < ys.length ∧ (j : Int) ∈ afterOf ys i ∧ o.getD j 0 = o.getD i 0 - tm ys j
theorem LDone.run {ys : List Wk} (h : worksOk ys) {E : Int} : ∀ (m : Nat) (o : List Int), m ≤ ys.length → LDone ys E m o → LDone ys E 0 (lateRun ys m o)
  | 0, o, _, D => D
  | m + 1, o, hm, D => by
    have I : LInv ys E m [] o := ⟨D.len, D.lo, D.hi, fun i h1 h2 => D.ord i h1 h2, by simp, fun j hj => by
      rcases D.wit j hj with h1 | ⟨i, h1, h2⟩
      · exact .inl h1
      · exact .inr ⟨i, by omega, h2⟩⟩
    obtain ⟨Qs, h1, -, K⟩ := LInv.fold h (by omega) (afterOf ys m) [] o I (fun _ h => h)
    refine LDone.run h m _ (by omega) ⟨K.len, K.lo, K.hi, fun i hi1 hi2 a ha => ?_, K.wit⟩
    by_cases hi : i = m
    · subst hi; exact K.now a (h1 a ha)
    · exact K.ord i (by omega) hi2 a ha
theorem LDone.init {ys : List Wk} (h : worksOk ys) : LDone ys (cycTo ys ys.length) ys.length (lateInit ys (cycTo ys ys.length)) := by
  have at_ : ∀ j, j < ys.length → (lateInit ys (cycTo ys ys.length)).getD j 0 = cycTo ys ys.length - tm ys j := by
    intro j hj
    unfold lateInit tm
    rw [List.getD_eq_getElem?_getD, List.getElem?_map, List.getElem?_eq_getElem hj]
    rfl
  refine ⟨lateInit_len _ _, fun j hj => ?_, fun j hj => ?_, fun i h1 h2 => by omega, fun j hj => .inl (at_ j hj)⟩
  · have := (cyc_ge (ys := ys) ys.length).2 j hj
    rw [endOf_eq] at this
    rw [at_ j hj]
    omega
  · rw [at_ j hj]; omega
def lt0 (ys : List Wk) (k : Nat) : Int := (lateRun ys ys.length (lateInit ys (cycTo ys ys.length))).getD k 0
theorem late_done {ys : List Wk} (h : worksOk ys) : LDone ys (cycTo ys ys.length) 0 (lateRun ys ys.length (lateInit ys (cycTo ys ys.length))) := LDone.run h _ _ (Nat.le_refl _) (LDone.init h)
theorem lt0_lo {ys : List Wk} (h : worksOk ys) {k : Nat} (hk : k < ys.length) : st0 ys k ≤ lt0 ys k := (late_done h).lo k hk
theorem lt0_hi {ys : List Wk} (h : worksOk ys) {k : Nat} (hk : k < ys.length) : lt0 ys k + tm ys k ≤ cycTo ys ys.length := (late_done h).hi k hk
theorem lt0_ord {ys : List Wk} (h : worksOk ys) {k : Nat} (hk : k < ys.length) : ∀ a ∈ afterOf ys k, lt0 ys a.toNat + tm ys a.toNat ≤ lt0 ys k := (late_done h).ord k (Nat.zero_le _) hk
theorem lt0_wit {ys : List Wk} (h : worksOk ys) {k : Nat} (hk : k < ys.length) : lt0 ys k = cycTo ys ys.length - tm ys k ∨ ∃ i, i < ys.length ∧ (k : Int) ∈ afterOf ys i ∧ lt0 ys k = lt0 ys i - tm ys k := by
  rcases (late_done h).wit k hk with h1 | ⟨i, _, h1⟩
  · exact .inl h1
  · exact .inr ⟨i, h1⟩
theorem lt0_pos {ys : List Wk} (h : worksOk ys) {k : Nat} (hk : k < ys.length) : 0 ≤ lt0 ys k ∧ lt0 ys k ≤ 1200 := by
  have h1 := (st0_ge h hk).1
  have h2 := lt0_lo h hk
  have h3 := lt0_hi h hk
  have h4 := (cycTo_bd h _ (Nat.le_refl ys.length)).2
  have h5 := tm_bd h k
  omega
/-! ### A step longer by one -/
def longer (ys : List Wk) (k : Nat) : List Wk := ys.set k ⟨tm ys k + 1, afterOf ys k⟩
theorem longer_len (ys : List Wk) (k : Nat) : (longer ys k).length = ys.length := by simp [longer]
theorem longer_after {ys : List Wk} {k : Nat} (hk : k < ys.length) (j : Nat) : afterOf (longer ys k) j = afterOf ys j := by
  unfold longer
  by_cases h : k = j
  · subst h
    conv => lhs; unfold afterOf
    rw [List.getElem?_set_self hk]
    rfl
  · unfold afterOf
    rw [List.getElem?_set_ne h]
theorem longer_tm_self {ys : List Wk} {k : Nat} (hk : k < ys.length) : tm (longer ys k) k = tm ys k + 1 := by
  unfold longer
  conv => lhs; unfold tm
  rw [List.getElem?_set_self hk]
  rfl
theorem longer_tm {ys : List Wk} {k : Nat} (j : Nat) (h : k ≠ j) : tm (longer ys k) j = tm ys j := by
  unfold longer tm
  rw [List.getElem?_set_ne h]
section
variable {ys : List Wk} (h : worksOk ys) {k : Nat} (h2 : worksOk (longer ys k)) (hk : k < ys.length)
include h h2 hk
theorem longer_before : ∀ j, j < ys.length → j ≤ k → st0 (longer ys k) j = st0 ys j := by
  intro j
  induction j using Nat.strongRecOn with
  | _ j ih =>
    intro hj hjk
    have key : ∀ (As : List Int) (m : Int), (∀ a ∈ As, 0 ≤ a ∧ a ≤ (j : Int) - 1) → As.foldl (fun m a => max m (endOf (longer ys k) a.toNat)) m = As.foldl (fun m a => max m (endOf ys a.toNat)) m := by
      intro As
      induction As with
      | nil => intro m _; rfl
      | cons a As ih2 =>
        intro m hA
        have ha := hA a List.mem_cons_self
        simp only [List.foldl_cons]
        rw [ih2 _ (fun x hx => hA x (List.mem_cons_of_mem _ hx)), endOf_eq, endOf_eq, ih a.toNat (by omega) (by omega) (by omega), longer_tm _ (by omega)]
    rw [after_fold h2 (by rw [longer_len]; exact hj), after_fold h hj, longer_after hk]
    exact key _ _ (afterOf_bd h j)
/-- No end comes later by more than 1. -/
theorem longer_le : ∀ j, j < ys.length → endOf (longer ys k) j ≤ endOf ys j + 1 := by
  intro j
  induction j using Nat.strongRecOn with
  | _ j ih =>
    intro hj
    rw [endOf_eq, endOf_eq]
    by_cases hjk : k = j
    · subst hjk
      rw [longer_before h h2 hk k hk (Nat.le_refl _), longer_tm_self hk]
      omega
    · rw [longer_tm _ hjk]
      have h0 := (st0_ge h hj)
      rcases st0_in h2 (k := j) (by rw [longer_len]; exact hj) with h3 | ⟨a, ha, h3⟩
      · omega
      · rw [longer_after hk] at ha
        have hb := afterOf_bd h j a ha
        have h4 := ih a.toNat (by omega) (by omega)
        have h5 := h0.2 a ha
        omega
/-- Not critical: within the latest ends. -/
theorem longer_free (hc : st0 ys k < lt0 ys k) : ∀ j, j < ys.length → endOf (longer ys k) j ≤ lt0 ys j + tm ys j := by
  intro j
  induction j using Nat.strongRecOn with
  | _ j ih =>
    intro hj
    rw [endOf_eq]
    by_cases hjk : k = j
    · subst hjk
      rw [longer_before h h2 hk k hk (Nat.le_refl _), longer_tm_self hk]
      omega
    · rw [longer_tm _ hjk]
      have hp := (lt0_pos h hj).1
      rcases st0_in h2 (k := j) (by rw [longer_len]; exact hj) with h3 | ⟨a, ha, h3⟩
      · omega
      · rw [longer_after hk] at ha
        have hb := afterOf_bd h j a ha
        have h4 := ih a.toNat (by omega) (by omega)
        have h5 := lt0_ord h hj a ha
        omega
/-- A step whose end comes later than its latest end: so does the whole. -/
theorem longer_chain : ∀ (d j : Nat), ys.length - j = d → j < ys.length → lt0 ys j + tm ys j + 1 ≤ endOf (longer ys k) j → cycTo ys ys.length + 1 ≤ cycTo (longer ys k) (longer ys k).length := by
  intro d
  induction d using Nat.strongRecOn with
  | _ d ih =>
    intro j hd hj hl
    have hE := (cyc_ge (ys := longer ys k) (longer ys k).length).2 j (by rw [longer_len]; exact hj)
    rcases lt0_wit h hj with h3 | ⟨i, hi, ha, h3⟩
    · omega
    · have hb := afterOf_bd h i (j : Int) ha
      have h4 := (st0_ge h2 (k := i) (by rw [longer_len]; exact hi)).2 (j : Int) (by rw [longer_after hk]; exact ha)
      rw [Int.toNat_natCast] at h4
      refine ih (ys.length - i) (by omega) i rfl hi ?_
      rw [endOf_eq (longer ys k) i]
      have h5 : tm ys i ≤ tm (longer ys k) i := by
        by_cases hik : k = i
        · subst hik; rw [longer_tm_self hk]; omega
        · rw [longer_tm _ hik]; exact Int.le_refl _
      omega
theorem longer_cycle : (cycTo (longer ys k) (longer ys k).length = cycTo ys ys.length + 1 ↔ st0 ys k = lt0 ys k) := by
  constructor
  · intro hc
    have h0 := lt0_lo h hk
    by_cases hlt : st0 ys k < lt0 ys k
    · exfalso
      obtain ⟨i, hi, h3⟩ := cyc_in' h2 (by rw [longer_len]; omega)
      rw [longer_len] at hi
      have h4 := longer_free h h2 hk hlt i hi
      have h5 := lt0_hi h hi
      omega
    · omega
  · intro hc
    have h3 : cycTo ys ys.length + 1 ≤ cycTo (longer ys k) (longer ys k).length := by
      refine longer_chain h h2 hk _ k rfl hk ?_
      rw [endOf_eq, longer_before h h2 hk k hk (Nat.le_refl _), longer_tm_self hk]
      omega
    obtain ⟨i, hi, h4⟩ := cyc_in' h2 (by rw [longer_len]; omega)
    rw [longer_len] at hi
    have h5 := longer_le h h2 hk i hi
    have h6 := (cyc_ge (ys := ys) ys.length).2 i hi
    omega
end
/-- Some step is critical. -/
theorem some_crit {ys : List Wk} (h : worksOk ys) (hn : 0 < ys.length) : ∃ k, k < ys.length ∧ st0 ys k = lt0 ys k := by
  obtain ⟨i, hi, h3⟩ := cyc_in' h hn
  have h4 := lt0_lo h hi
  have h5 := lt0_hi h hi
  rw [endOf_eq] at h3
  exact ⟨i, hi, by omega⟩
end Go.Proofs.Ythcacepkfdfbnaa
