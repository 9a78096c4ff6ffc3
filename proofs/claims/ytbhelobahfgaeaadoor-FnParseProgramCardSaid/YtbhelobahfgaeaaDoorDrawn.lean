/-
  A region whose order is open, with calls and new memory in it: each operation is shown ONCE, in whatever world may stand there, out of what the operations ahead of it (by the region's own edges) have left; what an operation has left must stay true behind every other one. Plain Lean over the model.
-/
import Derived.Test.YtbhelobahfgaeaaDoorKit
import Derived.Orders
namespace Go.Proofs.YtbhelobahfgaeaaDoor
open Go
section
variable {P : Program} {ops : Array Oper} {Q : Exit → Act → World → Prop}

/-- The slot that operation j writes. -/
def dstOf (ops : Array Oper) (j : Nat) : Option Tmp := match ops[j]? with | some o => o.dst | none => none
theorem dstOf_some {ops : Array Oper} {j : Nat} {o : Oper} (h : ops[j]? = some o) : dstOf ops j = o.dst := by simp [dstOf, h]
theorem dstOf_lt {ops : Array Oper} {j : Nat} {d : Tmp} (h : dstOf ops j = some d) : j < ops.size := by
  rcases Nat.lt_or_ge j ops.size with h' | h'
  · exact h'
  · simp [dstOf, Array.getElem?_eq_none h'] at h
/-- What operation i's slot holds. -/
def slotOf (ops : Array Oper) (i : Nat) (a : Act) : Value := match dstOf ops i with | some d => a.tmps.getD d undef | none => undef
/-- Operation j comes behind operation i in every order. -/
def behind (ops : Array Oper) (i : Nat) : Nat → Nat → Bool
  | 0, _ => false
  | f + 1, j => match ops[j]? with
    | none => false
    | some o => o.after.toList.any fun e => Region.binds .any e && (e.on == i || behind ops i f e.on)
/-- The region's form: edges lead back, no slot is written twice, every slot lies in the frame. -/
def fine (ops : Array Oper) (size : Nat) : Bool :=
  (List.range ops.size).all fun j => match ops[j]? with
    | none => true
    | some o => o.after.toList.all (fun e => !Region.binds .any e || decide (e.on < j)) && (match o.dst with
      | none => true
      | some d => decide (d < size) && (List.range ops.size).all fun i => i == j || !(dstOf ops i == some d))

/-- What is known when operation i comes up, of frame and world. -/
structure Seen (ops : Array Oper) (A : Nat → Value → World → Prop) (a0 : Act) (i : Nat) (a : Act) (w : World) : Prop where
  old : ∀ t, ((List.range ops.size).all fun j => !(dstOf ops j == some t)) = true → a.eval (.tmp t) = a0.eval (.tmp t)
  ahead : ∀ j, behind ops j ops.size i = true → A j (slotOf ops j a) w
  later : ∀ j, behind ops i ops.size j = true → slotOf ops j a = slotOf ops j a0
  self : slotOf ops i a = slotOf ops i a0

/-- What stands while the region runs. -/
structure Mid (ops : Array Oper) (A : Nat → Value → World → Prop) (J : Nat → World → Prop) (a0 : Act) (listed : Array Bool) (k : Nat) (a : Act) (w : World) : Prop where
  size : listed.size = ops.size
  closed : ∀ j o, ops[j]? = some o → listed.getD j false = true → ∀ e ∈ o.after, Region.binds .any e = true → listed.getD e.on false = true
  inv : J k w
  yes : ∀ j, j < ops.size → listed.getD j false = true → A j (slotOf ops j a) w
  no : ∀ j, j < ops.size → listed.getD j false = false → slotOf ops j a = slotOf ops j a0
  old : ∀ t, (∀ j, dstOf ops j ≠ some t) → a.tmps.getD t undef = a0.tmps.getD t undef
  frame : a.tmps.size = a0.tmps.size
  defers : a.defers = a0.defers

theorem behind_listed {listed : Array Bool} (hc : ∀ j o, ops[j]? = some o → listed.getD j false = true → ∀ e ∈ o.after, Region.binds .any e = true → listed.getD e.on false = true) (i : Nat) :
    ∀ f j, behind ops i f j = true → listed.getD j false = true → listed.getD i false = true := by
  intro f
  induction f with
  | zero => intro j h; simp [behind] at h
  | succ f ih =>
    intro j h hl
    simp only [behind] at h
    split at h
    · simp at h
    · rename_i o ho
      obtain ⟨e, he, hb⟩ := List.any_eq_true.1 h
      have he := Array.mem_toList_iff.1 he
      rw [Bool.and_eq_true, Bool.or_eq_true] at hb
      have hon := hc j o ho hl e he hb.1
      rcases hb.2 with hi | hi
      · have : e.on = i := by simpa using hi
        rw [← this]; exact hon
      · exact ih _ hi hon

def unlisted (n : Nat) (listed : Array Bool) : Nat := ((List.range n).filter fun j => !listed.getD j false).length

theorem unlisted_set {n i : Nat} {listed : Array Bool} (hs : listed.size = n) (hi : i < n) (hl : listed.getD i false = false) : unlisted n (listed.setIfInBounds i true) + 1 = unlisted n listed := by
  unfold unlisted
  have key : ∀ l : List Nat, l.Nodup → (∀ x ∈ l, x < n) → ((l.filter fun j => !(listed.setIfInBounds i true).getD j false).length + if i ∈ l then 1 else 0) = (l.filter fun j => !listed.getD j false).length := by
    intro l
    induction l with
    | nil => intro _ _; simp
    | cons x l ih =>
      intro hn hx
      have ih' := ih (List.nodup_cons.1 hn).2 (fun y hy => hx y (List.mem_cons_of_mem _ hy))
      by_cases hxi : x = i
      · subst hxi
        have hnot : x ∉ l := (List.nodup_cons.1 hn).1
        have h1 : (listed.setIfInBounds x true).getD x false = true := by simp [hs, hi]
        simp only [List.filter_cons, h1, hl, hnot, List.mem_cons, true_or, if_true, if_false] at ih' ⊢
        simp at ih' ⊢
        exact ih'
      · have h1 : (listed.setIfInBounds i true).getD x false = listed.getD x false := getD_set_ne _ (fun e => hxi e.symm)
        have h2 : (i ∈ x :: l) ↔ (i ∈ l) := by
          rw [List.mem_cons]
          exact ⟨fun h => h.resolve_left (fun e => hxi e.symm), .inr⟩
        have ih'' : (List.filter (fun j => !(listed.setIfInBounds i true).getD j false) l).length + (if i ∈ x :: l then 1 else 0) = (List.filter (fun j => !listed.getD j false) l).length := by
          by_cases h : i ∈ l
          · rw [if_pos (h2.2 h)]; rw [if_pos h] at ih'; exact ih'
          · rw [if_neg (fun e => h (h2.1 e))]; rw [if_neg h] at ih'; exact ih'
        simp only [List.filter_cons, h1]
        split <;> (try simp only [List.length_cons]) <;> omega
  have := key (List.range n) List.nodup_range (fun x hx => List.mem_range.1 hx)
  rw [if_pos (List.mem_range.2 hi)] at this
  exact this

theorem slot_put {j d : Nat} {o : Oper} {a : Act} {v : Value} (hd : o.dst = some d) (hj : dstOf ops j ≠ some d) : slotOf ops j (a.put o.dst v) = slotOf ops j a := by
  unfold slotOf
  split
  · rename_i d' hd'
    have hne : d' ≠ d := fun e => hj (by rw [hd', e])
    simp [Act.put, hd, Array.getElem?_setIfInBounds_ne (Ne.symm hne)]
  · rfl
theorem slot_put_none {j : Nat} {o : Oper} {a : Act} {v : Value} (hd : o.dst = none) : slotOf ops j (a.put o.dst v) = slotOf ops j a := by
  simp [Act.put, hd]
theorem slot_put_self {i d : Nat} {o : Oper} {a : Act} {v : Value} (ho : ops[i]? = some o) (hd : o.dst = some d) (hs : d < a.tmps.size) : slotOf ops i (a.put o.dst v) = v := by
  simp [slotOf, dstOf_some ho, hd, Act.put, hs]

theorem getD_set_true_self {n i : Nat} {listed : Array Bool} (hs : listed.size = n) (hi : i < n) : (listed.setIfInBounds i true).getD i false = true := by
  simp [hs, hi]

theorem mid_step {A : Nat → Value → World → Prop} {J : Nat → World → Prop} {a0 : Act} (hf : fine ops a0.tmps.size = true)
    (step : ∀ i o, ops[i]? = some o → ∀ k a w, k < ops.size → J k w → a.defers = a0.defers → Seen ops A a0 i a w →
      wpOp P ops Q i (fun a' w' => ∃ v, a' = a.put o.dst v ∧ A i (if o.dst.isSome then v else undef) w' ∧ J (k + 1) w' ∧ ∀ j u, A j u w → A j u w') a w)
    {listed : Array Bool} {k : Nat} {a : Act} {w : World} (hm : Mid ops A J a0 listed k a w) (hkn : k < ops.size) {i : Nat} (hi : i ∈ Region.ready .any ops listed) :
    wpOp P ops Q i (fun a' w' => Mid ops A J a0 (listed.setIfInBounds i true) (k + 1) a' w') a w := by
  have back : ∀ (j : Nat) (o : Oper), ops[j]? = some o → ∀ e ∈ o.after, Region.binds .any e = true → e.on < j := by
    intro j o ho e he hbd
    have hlt : j < ops.size := (Array.getElem?_eq_some_iff.1 ho).1
    have := List.all_eq_true.1 hf j (List.mem_range.2 hlt)
    simp only [ho, Bool.and_eq_true] at this
    have h2 := List.all_eq_true.1 this.1 e (Array.mem_toList_iff.2 he)
    rw [hbd] at h2
    simpa using h2
  have slots : ∀ (j : Nat) (o : Oper) (d : Tmp), ops[j]? = some o → o.dst = some d → d < a0.tmps.size ∧ ∀ i, i ≠ j → dstOf ops i ≠ some d := by
    intro j o d ho hd
    have hlt : j < ops.size := (Array.getElem?_eq_some_iff.1 ho).1
    have := List.all_eq_true.1 hf j (List.mem_range.2 hlt)
    simp only [ho, hd, Bool.and_eq_true] at this
    refine ⟨by simpa using this.2.1, fun i hij he => ?_⟩
    have hi : i < ops.size := dstOf_lt he
    have h2 := List.all_eq_true.1 this.2.2 i (List.mem_range.2 hi)
    simp [he, hij] at h2
  obtain ⟨h0, o, ho, hdeps⟩ := mem_ready.1 hi
  have hlt : i < ops.size := (Array.getElem?_eq_some_iff.1 ho).1
  have hlf : listed.getD i false = false := by
    have hjs : i < listed.size := by rw [hm.size]; exact hlt
    simp [hjs] at h0 ⊢
    exact h0
  -- what lies behind i is not listed; what lies ahead is
  have hahead : ∀ f j, behind ops j f i = true → listed.getD j false = true := by
    intro f j hb
    cases f with
    | zero => simp [behind] at hb
    | succ f =>
      simp only [behind, ho] at hb
      obtain ⟨e, he, hb⟩ := List.any_eq_true.1 hb
      have he := Array.mem_toList_iff.1 he
      rw [Bool.and_eq_true, Bool.or_eq_true] at hb
      have hon := hdeps e he hb.1
      rcases hb.2 with h | h
      · have : e.on = j := by simpa using h
        rw [← this]; exact hon
      · exact behind_listed hm.closed j f _ h hon
  have hseen : Seen ops A a0 i a w := by
    refine ⟨fun t ht => ?_, fun j hj => ?_, fun j hj => ?_, hm.no i hlt hlf⟩
    · refine hm.old t (fun j hj => ?_)
      have hjl : j < ops.size := dstOf_lt hj
      have := List.all_eq_true.1 ht j (List.mem_range.2 hjl)
      simp [hj] at this
    · have hl := hahead _ j hj
      have hjl : j < ops.size := by
        rcases Nat.lt_or_ge j ops.size with h | h
        · exact h
        · have hnone : listed[j]? = none := Array.getElem?_eq_none (by rw [hm.size]; exact h)
          simp [hnone] at hl
      exact hm.yes j hjl hl
    · have hjl : j < ops.size := by
        rcases Nat.lt_or_ge j ops.size with h | h
        · exact h
        · have : ops.size ≠ 0 := by omega
          obtain ⟨m, hm'⟩ := Nat.exists_eq_succ_of_ne_zero this
          rw [hm'] at hj
          simp [behind, Array.getElem?_eq_none h] at hj
      refine hm.no j hjl ?_
      cases hl : listed.getD j false with
      | false => rfl
      | true =>
        have := behind_listed hm.closed i _ j hj hl
        rw [hlf] at this
        cases this
  refine wpOp_mono ?_ (step i o ho k a w hkn hm.inv hm.defers hseen)
  rintro a' w' ⟨v, rfl, hA, hJ, hst⟩
  · refine ⟨by simp [hm.size], ?_, hJ, ?_, ?_, ?_, ?_, ?_⟩
    · intro j oj hoj hl e he hb
      by_cases hij : i = j
      · subst hij
        obtain rfl := Option.some.inj (hoj.symm.trans ho)
        exact getD_set_true (hdeps e he hb)
      · rw [getD_set_ne _ hij] at hl
        exact getD_set_true (hm.closed j oj hoj hl e he hb)
    · intro j hj hl
      by_cases hij : i = j
      · subst hij
        cases hd : o.dst with
        | none => simp only [hd, Option.isSome_none, Bool.false_eq_true, if_false] at hA; simpa [slotOf, dstOf_some ho, hd] using hA
        | some d =>
          have hs := (slots i o d ho hd).1
          have e := slot_put_self (ops := ops) (v := v) (a := a) ho hd (by rw [hm.frame]; exact hs)
          rw [hd] at e hA
          rw [e]
          simpa using hA
      · rw [getD_set_ne _ hij] at hl
        have hy := hst _ _ (hm.yes j hj hl)
        cases hd : o.dst with
        | none => rw [← hd, slot_put_none hd]; exact hy
        | some d => rw [← hd, slot_put hd ((slots i o d ho hd).2 j (fun e => hij e.symm))]; exact hy
    · intro j hj hl
      have hij : i ≠ j := by
        rintro rfl
        rw [getD_set_true_self hm.size hlt] at hl
        cases hl
      rw [getD_set_ne _ hij] at hl
      cases hd : o.dst with
      | none => rw [← hd, slot_put_none hd]; exact hm.no j hj hl
      | some d => rw [← hd, slot_put hd ((slots i o d ho hd).2 j (fun e => hij e.symm))]; exact hm.no j hj hl
    · intro t ht
      rw [← hm.old t ht]
      cases hd : o.dst with
      | none => rfl
      | some d =>
        have hne : d ≠ t := fun e => ht i (by rw [dstOf_some ho, hd, e])
        simp [Act.put, Array.getElem?_setIfInBounds_ne hne]
    · rw [← hm.frame]
      cases hd : o.dst <;> simp [Act.put]
    · rw [← hm.defers]
      cases hd : o.dst <;> simp [Act.put]

theorem mid_any {A : Nat → Value → World → Prop} {J : Nat → World → Prop} {a0 : Act} (hf : fine ops a0.tmps.size = true)
    (step : ∀ i o, ops[i]? = some o → ∀ k a w, k < ops.size → J k w → a.defers = a0.defers → Seen ops A a0 i a w →
      wpOp P ops Q i (fun a' w' => ∃ v, a' = a.put o.dst v ∧ A i (if o.dst.isSome then v else undef) w' ∧ J (k + 1) w' ∧ ∀ j u, A j u w → A j u w') a w)
    (fin : ∀ a' w', J ops.size w' → (∀ i, i < ops.size → A i (slotOf ops i a') w') → (∀ t, (∀ j, dstOf ops j ≠ some t) → a'.tmps.getD t undef = a0.tmps.getD t undef) → a'.tmps.size = a0.tmps.size → a'.defers = a0.defers → Q .normal a' w') :
    ∀ fuel listed k a w, Mid ops A J a0 listed k a w → unlisted ops.size listed = fuel → k + fuel = ops.size → wpAny P .any ops Q fuel listed a w := by
  have back : ∀ (j : Nat) (o : Oper), ops[j]? = some o → ∀ e ∈ o.after, Region.binds .any e = true → e.on < j := by
    intro j o ho e he hbd
    have hlt : j < ops.size := (Array.getElem?_eq_some_iff.1 ho).1
    have := List.all_eq_true.1 hf j (List.mem_range.2 hlt)
    simp only [ho, Bool.and_eq_true] at this
    have h2 := List.all_eq_true.1 this.1 e (Array.mem_toList_iff.2 he)
    rw [hbd] at h2
    simpa using h2
  have slots : ∀ (j : Nat) (o : Oper) (d : Tmp), ops[j]? = some o → o.dst = some d → d < a0.tmps.size ∧ ∀ i, i ≠ j → dstOf ops i ≠ some d := by
    intro j o d ho hd
    have hlt : j < ops.size := (Array.getElem?_eq_some_iff.1 ho).1
    have := List.all_eq_true.1 hf j (List.mem_range.2 hlt)
    simp only [ho, hd, Bool.and_eq_true] at this
    refine ⟨by simpa using this.2.1, fun i hij he => ?_⟩
    have hi : i < ops.size := dstOf_lt he
    have h2 := List.all_eq_true.1 this.2.2 i (List.mem_range.2 hi)
    simp [he, hij] at h2
  -- all listed where none is ready
  have full : ∀ listed, listed.size = ops.size → Region.ready .any ops listed = [] → ∀ j, j < ops.size → listed.getD j false = true := by
    intro listed hs hr j
    induction j using Nat.strongRecOn with
    | _ j ih =>
      intro hj
      cases hl : listed.getD j false with
      | true => rfl
      | false =>
        have : j ∈ Region.ready .any ops listed := by
          refine mem_ready.2 ⟨?_, ops[j], Array.getElem?_eq_some_iff.2 ⟨hj, rfl⟩, fun e he hbd => ?_⟩
          · have hjs : j < listed.size := by omega
            simp [hjs] at hl ⊢
            exact hl
          · have hb := back j ops[j] (Array.getElem?_eq_some_iff.2 ⟨hj, rfl⟩) e he hbd
            exact ih e.on hb (by omega)
        rw [hr] at this
        simp at this
  have ended : ∀ listed k a w, Mid ops A J a0 listed k a w → Region.ready .any ops listed = [] → k + unlisted ops.size listed = ops.size → Q .normal a w := by
    intro listed k a w hm hr hk
    have hall := full listed hm.size hr
    have hu : unlisted ops.size listed = 0 := by
      unfold unlisted
      rw [List.length_eq_zero_iff, List.filter_eq_nil_iff]
      intro x hx
      have := hall x (List.mem_range.1 hx)
      simpa using this
    obtain rfl : k = ops.size := by omega
    exact fin a w hm.inv (fun i hi => hm.yes i hi (hall i hi)) hm.old hm.frame hm.defers
  intro fuel
  induction fuel with
  | zero =>
    intro listed k a w hm hu hk
    have hr : Region.ready .any ops listed = [] := by
      rw [List.eq_nil_iff_forall_not_mem]
      intro j hj
      obtain ⟨h0, o, ho, _⟩ := mem_ready.1 hj
      have hlt : j < ops.size := (Array.getElem?_eq_some_iff.1 ho).1
      have hlf : listed.getD j false = false := by
        have hjs : j < listed.size := by rw [hm.size]; exact hlt
        simp [hjs] at h0 ⊢
        exact h0
      unfold unlisted at hu
      rw [List.length_eq_zero_iff, List.filter_eq_nil_iff] at hu
      have := hu j (List.mem_range.2 hlt)
      rw [hlf] at this
      simp at this
    exact ⟨hr, ended listed k a w hm hr (by omega)⟩
  | succ fuel ih =>
    intro listed k a w hm hu hk
    refine ⟨fun hr => ended listed k a w hm hr (by omega), fun i hi => ?_⟩
    refine wpOp_mono ?_ (mid_step hf step hm (by omega) hi)
    intro a' w' hm'
    obtain ⟨h0, o, ho, _⟩ := mem_ready.1 hi
    have hlt : i < ops.size := (Array.getElem?_eq_some_iff.1 ho).1
    have hlf : listed.getD i false = false := by
      have hjs : i < listed.size := by rw [hm.size]; exact hlt
      simp [hjs] at h0 ⊢
      exact h0
    have := unlisted_set hm.size hlt hlf
    exact ih _ (k + 1) _ _ hm' (by omega) (by omega)

/-- The first j operations are listed. -/
def firsts (n j : Nat) : Array Bool := ((List.range n).map fun i => decide (i < j)).toArray
theorem firsts_get (n j i : Nat) (d : Bool) (h : i < n) : (firsts n j).getD i d = decide (i < j) := by simp [firsts, h]
theorem firsts_set (n j : Nat) (_h : j < n) : (firsts n j).setIfInBounds j true = firsts n (j + 1) := by
  apply Array.ext
  · simp [firsts]
  · intro i h1 h2
    simp only [firsts, Array.size_setIfInBounds, List.size_toArray, List.length_map, List.length_range] at h1
    by_cases hij : j = i
    · subst hij; simp [firsts]
    · have h3 : i < n := by simpa [firsts] using h2
      rw [Array.getElem_setIfInBounds_ne (by simpa [firsts] using h3) hij]
      simp only [firsts, List.getElem_toArray, List.getElem_map, List.getElem_range]
      rw [decide_eq_decide]
      omega
theorem mid_order {A : Nat → Value → World → Prop} {J : Nat → World → Prop} {a0 : Act} (hf : fine ops a0.tmps.size = true)
    (step : ∀ i o, ops[i]? = some o → ∀ k a w, k < ops.size → J k w → a.defers = a0.defers → Seen ops A a0 i a w →
      wpOp P ops Q i (fun a' w' => ∃ v, a' = a.put o.dst v ∧ A i (if o.dst.isSome then v else undef) w' ∧ J (k + 1) w' ∧ ∀ j u, A j u w → A j u w') a w)
    (fin : ∀ a' w', J ops.size w' → (∀ i, i < ops.size → A i (slotOf ops i a') w') → (∀ t, (∀ j, dstOf ops j ≠ some t) → a'.tmps.getD t undef = a0.tmps.getD t undef) → a'.tmps.size = a0.tmps.size → a'.defers = a0.defers → Q .normal a' w') :
    ∀ m j a w, j + m = ops.size → Mid ops A J a0 (firsts ops.size j) j a w → wpOps P ops Q (List.range' j m) a w := by
  have back : ∀ (j : Nat) (o : Oper), ops[j]? = some o → ∀ e ∈ o.after, Region.binds .any e = true → e.on < j := by
    intro j o ho e he hbd
    have hlt : j < ops.size := (Array.getElem?_eq_some_iff.1 ho).1
    have := List.all_eq_true.1 hf j (List.mem_range.2 hlt)
    simp only [ho, Bool.and_eq_true] at this
    have h2 := List.all_eq_true.1 this.1 e (Array.mem_toList_iff.2 he)
    rw [hbd] at h2
    simpa using h2
  intro m
  induction m with
  | zero =>
    intro j a w hj hm
    obtain rfl : j = ops.size := by omega
    exact fin a w hm.inv (fun i hi => hm.yes i hi (by rw [firsts_get _ _ _ _ hi]; simpa using hi)) hm.old hm.frame hm.defers
  | succ m ih =>
    intro j a w hj hm
    have hlt : j < ops.size := by omega
    rw [List.range'_succ, wpOps_cons]
    have hr : j ∈ Region.ready .any ops (firsts ops.size j) := by
      refine mem_ready.2 ⟨by rw [firsts_get _ _ _ _ hlt]; simp, ops[j], Array.getElem?_eq_some_iff.2 ⟨hlt, rfl⟩, fun e he hbd => ?_⟩
      have := back j ops[j] (Array.getElem?_eq_some_iff.2 ⟨hlt, rfl⟩) e he hbd
      rw [firsts_get _ _ _ _ (by omega)]
      simpa using this
    refine wpOp_mono ?_ (mid_step hf step hm hlt hr)
    intro a' w' hm'
    rw [firsts_set _ _ hlt] at hm'
    exact ih (j + 1) a' w' (by omega) hm'

/-- THE RULE. -/
theorem wp_drawn {id : Nat} {A : Nat → Value → World → Prop} {J : Nat → World → Prop} {a0 : Act} {w0 : World} (hm : P.follows .mixedOrders = true) (hf : fine ops a0.tmps.size = true)
    (h0 : J 0 { w0 with drawn := w0.drawn + 1 })
    (step : ∀ i o, ops[i]? = some o → ∀ k a w, k < ops.size → J k w → a.defers = a0.defers → Seen ops A a0 i a w →
      wpOp P ops Q i (fun a' w' => ∃ v, a' = a.put o.dst v ∧ A i (if o.dst.isSome then v else undef) w' ∧ J (k + 1) w' ∧ ∀ j u, A j u w → A j u w') a w)
    (fin : ∀ a' w', J ops.size w' → (∀ i, i < ops.size → A i (slotOf ops i a') w') → (∀ t, (∀ j, dstOf ops j ≠ some t) → a'.tmps.getD t undef = a0.tmps.getD t undef) → a'.tmps.size = a0.tmps.size → a'.defers = a0.defers → Q .normal a' w') :
    (Code.region id ops true).wp P Q a0 w0 := by
  refine wp_region_any hm (mid_any hf step fin _ _ 0 _ _ ?_ ?_ (by omega))
  · refine ⟨by simp, ?_, h0, ?_, fun _ _ _ => rfl, fun _ _ => rfl, rfl, rfl⟩
    · intro j o ho hl
      simp [Array.getElem?_replicate] at hl
      split at hl <;> simp at hl
    · intro j hj hl
      simp [hj] at hl
  · unfold unlisted
    rw [List.filter_eq_self.2]
    · simp
    · intro x hx
      simp [List.mem_range.1 hx]

theorem getD_some (t : Array Value) (d : Nat) : t.getD d undef = t[d]?.getD undef := by simp
theorem Seen.get {A : Nat → Value → World → Prop} {a0 a : Act} {w : World} {i : Nat} (h : Seen ops A a0 i a w) (j d : Nat) (hb : behind ops j ops.size i = true) (hd : dstOf ops j = some d) : A j (a.tmps[d]?.getD undef) w := by
  have := h.ahead j hb
  simp only [slotOf, hd, getD_some] at this
  exact this
theorem Seen.yet {A : Nat → Value → World → Prop} {a0 a : Act} {w : World} {i : Nat} (h : Seen ops A a0 i a w) (j d : Nat) (hb : behind ops i ops.size j = true) (hd : dstOf ops j = some d) : a.tmps[d]?.getD undef = a0.tmps.getD d undef := by
  have := h.later j hb
  simp only [slotOf, hd] at this
  rw [← getD_some]
  exact this
theorem Seen.at {A : Nat → Value → World → Prop} {a0 a : Act} {w : World} {i : Nat} (h : Seen ops A a0 i a w) (t : Nat) (ht : ((List.range ops.size).all fun j => !(dstOf ops j == some t)) = true) : a.tmps[t]?.getD undef = a0.tmps.getD t undef := by
  have := h.old t ht
  rw [← getD_some]
  exact this

/-- Each operation's own obligation. -/
def StepAll (P : Program) (ops : Array Oper) (Q : Exit → Act → World → Prop) (A : Nat → Value → World → Prop) (J : Nat → World → Prop) (row : Option Nat) (a0 : Act) : List Oper → Nat → Prop
  | [], _ => True
  | o :: rest, i => (∀ k a w, k < ops.size → J k w → a.defers = a0.defers → Seen ops A a0 i a w → ∀ K : Act → World → Prop,
      RowKit.Hid (∀ v w', A i (if o.dst.isSome then v else undef) w' → J (k + 1) w' → w.grownBy w' row → K (a.put o.dst v) w') →
      if Region.wanted o (yielded ops a.tmps) then o.wp P a w K Q else K (a.put o.dst undef) w) ∧ StepAll P ops Q A J row a0 rest (i + 1)

theorem StepAll.at {A : Nat → Value → World → Prop} {J : Nat → World → Prop} {row : Option Nat} {a0 : Act} : ∀ (l : List Oper) (n : Nat), StepAll P ops Q A J row a0 l n → ∀ (i : Nat) (o : Oper), l[i]? = some o → ∀ k a w, k < ops.size → J k w → a.defers = a0.defers → Seen ops A a0 (n + i) a w → ∀ K : Act → World → Prop,
      RowKit.Hid (∀ v w', A (n + i) (if o.dst.isSome then v else undef) w' → J (k + 1) w' → w.grownBy w' row → K (a.put o.dst v) w') →
      if Region.wanted o (yielded ops a.tmps) then o.wp P a w K Q else K (a.put o.dst undef) w
  | [], _, _, i, o, h => by simp at h
  | x :: l, n, hs, 0, o, h => by
    obtain rfl : x = o := by simpa using h
    exact hs.1
  | x :: l, n, hs, i + 1, o, h => by
    have := StepAll.at l (n + 1) hs.2 i o (by simpa using h)
    rw [Nat.add_assoc, Nat.add_comm 1 i] at this
    exact this

theorem step_plain {A : Nat → Value → World → Prop} {J : Nat → World → Prop} {row : Option Nat} {a0 : Act} {o : Oper} {rest : List Oper} {i : Nat} (hg : o.guard = none)
    (h : ∀ k a w, k < ops.size → J k w → a.defers = a0.defers → Seen ops A a0 i a w → ∀ K : Act → World → Prop,
      RowKit.Hid (∀ v w', A i (if o.dst.isSome then v else undef) w' → J (k + 1) w' → w.grownBy w' row → K (a.put o.dst v) w') → o.wp P a w K Q)
    (hr : StepAll P ops Q A J row a0 rest (i + 1)) : StepAll P ops Q A J row a0 (o :: rest) i :=
  ⟨fun k a w h1 h2 h3 h4 K hK => by rw [if_pos (by simp [Region.wanted, hg])]; exact h k a w h1 h2 h3 h4 K hK, hr⟩
theorem wanted_at {o : Oper} {tmps : Array Value} {j d : Nat} {b c : Bool} (hg : o.guard = some (j, b)) (hd : dstOf ops j = some d) (hv : tmps[d]?.getD undef = .bool c) : Region.wanted o (yielded ops tmps) = (c == b) := by
  have h1 : (ops[j]?).bind (·.dst) = some d := by
    unfold dstOf at hd
    cases h : ops[j]? with
    | none => rw [h] at hd; cases hd
    | some o' => rw [h] at hd; exact hd
  have h2 : tmps[d]? = some (.bool c) := by
    cases h : tmps[d]? with
    | none => rw [h] at hv; simp [undef] at hv
    | some u => rw [h] at hv; simpa using hv
  have h3 : yielded ops tmps j = some c := by
    unfold yielded
    rw [h1]
    simp only [Option.bind_some, h2]
  unfold Region.wanted
  rw [hg]
  simp [h3]
/-- A guarded operation whose guard is known to hold. -/
theorem step_guard {A : Nat → Value → World → Prop} {J : Nat → World → Prop} {row : Option Nat} {a0 : Act} {o : Oper} {rest : List Oper} {i : Nat} (j d : Nat) (b : Bool) (hg : o.guard = some (j, b)) (hd : dstOf ops j = some d)
    (hv : ∀ a w, Seen ops A a0 i a w → a.tmps[d]?.getD undef = .bool b)
    (h : ∀ k a w, k < ops.size → J k w → a.defers = a0.defers → Seen ops A a0 i a w → ∀ K : Act → World → Prop,
      RowKit.Hid (∀ v w', A i (if o.dst.isSome then v else undef) w' → J (k + 1) w' → w.grownBy w' row → K (a.put o.dst v) w') → o.wp P a w K Q)
    (hr : StepAll P ops Q A J row a0 rest (i + 1)) : StepAll P ops Q A J row a0 (o :: rest) i :=
  ⟨fun k a w h1 h2 h3 h4 K hK => by rw [if_pos (by rw [wanted_at hg hd (hv a w h4)]; simp)]; exact h k a w h1 h2 h3 h4 K hK, hr⟩
/-- A guarded operation whose guard is known not to hold. -/
theorem step_skip {A : Nat → Value → World → Prop} {J : Nat → World → Prop} {row : Option Nat} {a0 : Act} {o : Oper} {rest : List Oper} {i : Nat} (j d : Nat) (b : Bool) (hg : o.guard = some (j, b)) (hd : dstOf ops j = some d)
    (hv : ∀ a w, Seen ops A a0 i a w → a.tmps[d]?.getD undef = .bool (!b))
    (h : ∀ k w, k < ops.size → J k w → A i undef w ∧ J (k + 1) w)
    (hr : StepAll P ops Q A J row a0 rest (i + 1)) : StepAll P ops Q A J row a0 (o :: rest) i :=
  ⟨fun k a w h1 h2 h3 h4 K hK => by
    rw [if_neg (by rw [wanted_at hg hd (hv a w h4)]; cases b <;> simp)]
    exact hK.out undef w (by simpa using (h k w h1 h2).1) (h k w h1 h2).2 (World.grownBy.refl _ _), hr⟩
theorem step_nil {A : Nat → Value → World → Prop} {J : Nat → World → Prop} {row : Option Nat} {a0 : Act} {i : Nat} : StepAll P ops Q A J row a0 [] i := trivial

theorem steps_of {l : List Oper} {A : Nat → Value → World → Prop} {J : Nat → World → Prop} {row : Option Nat} {a0 : Act} (hst : ∀ j v w w', A j v w → w.grownBy w' row → A j v w') (step : StepAll P l.toArray Q A J row a0 l 0) :
    ∀ i o, l.toArray[i]? = some o → ∀ k a w, k < l.toArray.size → J k w → a.defers = a0.defers → Seen l.toArray A a0 i a w →
      wpOp P l.toArray Q i (fun a' w' => ∃ v, a' = a.put o.dst v ∧ A i (if o.dst.isSome then v else undef) w' ∧ J (k + 1) w' ∧ ∀ j u, A j u w → A j u w') a w := by
  intro i o ho k a w hk hJ hd hs
  have hl : l[i]? = some o := by simpa using ho
  have hat := StepAll.at l 0 step i o hl k a w hk hJ hd (by rw [Nat.zero_add]; exact hs)
    (fun a' w' => ∃ v, a' = a.put o.dst v ∧ A i (if o.dst.isSome then v else undef) w' ∧ J (k + 1) w' ∧ ∀ j u, A j u w → A j u w')
    (fun v w' hA hJ' hg => ⟨v, rfl, by rw [Nat.zero_add] at hA; exact hA, hJ', fun j u hu => hst j u w w' hu hg⟩)
  unfold wpOp
  simp only [ho]
  split
  · rename_i hw
    rw [if_pos hw] at hat
    exact .inl hat
  · rename_i hw
    rw [if_neg hw] at hat
    exact hat
theorem fin_of {l : List Oper} {A : Nat → Value → World → Prop} {J : Nat → World → Prop} {a0 : Act}
    (fin : ∀ a' w', J l.length w' → (∀ i, i < l.length → A i (slotOf l.toArray i a') w') → (∀ t, ((List.range l.toArray.size).all fun j => !(dstOf l.toArray j == some t)) = true → a'.tmps.getD t undef = a0.tmps.getD t undef) → a'.tmps.size = a0.tmps.size → a'.defers = a0.defers → Q .normal a' w') :
    ∀ a' w', J l.toArray.size w' → (∀ i, i < l.toArray.size → A i (slotOf l.toArray i a') w') → (∀ t, (∀ j, dstOf l.toArray j ≠ some t) → a'.tmps.getD t undef = a0.tmps.getD t undef) → a'.tmps.size = a0.tmps.size → a'.defers = a0.defers → Q .normal a' w' := by
  intro a' w' hJ hA hold hs hd
  refine fin a' w' (by simpa using hJ) (fun i hi => hA i (by simpa using hi)) (fun t ht => hold t (fun j hj => ?_)) hs hd
  have := List.all_eq_true.1 ht j (List.mem_range.2 (dstOf_lt hj))
  simp [hj] at this

/-- THE RULE, on the region as the program has it. -/
theorem wp_drawn_list {id : Nat} {l : List Oper} {a0 : Act} {w0 : World} (A : Nat → Value → World → Prop) (J : Nat → World → Prop) (row : Option Nat) (hm : P.follows .mixedOrders = true) (hf : fine l.toArray a0.tmps.size = true)
    (hst : ∀ j v w w', A j v w → w.grownBy w' row → A j v w') (h0 : J 0 w0.drew)
    (step : StepAll P l.toArray Q A J row a0 l 0)
    (fin : ∀ a' w', J l.length w' → (∀ i, i < l.length → A i (slotOf l.toArray i a') w') → (∀ t, ((List.range l.toArray.size).all fun j => !(dstOf l.toArray j == some t)) = true → a'.tmps.getD t undef = a0.tmps.getD t undef) → a'.tmps.size = a0.tmps.size → a'.defers = a0.defers → Q .normal a' w') :
    (Code.region id l.toArray true).wp P Q a0 w0 :=
  wp_drawn (A := A) (J := J) hm hf h0 (steps_of hst step) (fin_of fin)

/-- The same for a region in the text's order. -/
theorem wp_plain_list {id : Nat} {l : List Oper} {a0 : Act} {w0 : World} (A : Nat → Value → World → Prop) (J : Nat → World → Prop) (row : Option Nat) (_hm : P.follows .mixedOrders = true) (hf : fine l.toArray a0.tmps.size = true)
    (hst : ∀ j v w w', A j v w → w.grownBy w' row → A j v w') (h0 : J 0 w0)
    (step : StepAll P l.toArray Q A J row a0 l 0)
    (fin : ∀ a' w', J l.length w' → (∀ i, i < l.length → A i (slotOf l.toArray i a') w') → (∀ t, ((List.range l.toArray.size).all fun j => !(dstOf l.toArray j == some t)) = true → a'.tmps.getD t undef = a0.tmps.getD t undef) → a'.tmps.size = a0.tmps.size → a'.defers = a0.defers → Q .normal a' w') :
    (Code.region id l.toArray false).wp P Q a0 w0 := by
  refine wp_region ?_
  rw [List.range_eq_range']
  refine mid_order (A := A) (J := J) hf ?_ ?_ _ 0 a0 w0 (by omega) ⟨by simp [firsts], ?_, h0, ?_, fun _ _ _ => rfl, fun _ _ => rfl, rfl, rfl⟩
  · exact steps_of hst step
  · exact fin_of fin
  · intro j o ho hl
    have hlt : j < l.toArray.size := (Array.getElem?_eq_some_iff.1 ho).1
    rw [firsts_get _ _ _ _ hlt] at hl
    simp at hl
  · intro j hj hl
    rw [firsts_get _ _ _ _ hj] at hl
    simp at hl

/-- What a slot holds, said so that it stays true behind whatever leaves all blocks but 'row' alone. -/
structure Sh (row : Option Nat) where
  p : Value → World → Prop
  st : ∀ v w w', p v w → w.grownBy w' row → p v w'
def shTop (row : Option Nat) : Sh row := ⟨fun _ _ => True, fun _ _ _ _ _ => trivial⟩
def shVal (row : Option Nat) (x : Value) : Sh row := ⟨fun v _ => v = x, fun _ _ _ h _ => h⟩
def shInt (row : Option Nat) : Sh row := ⟨fun v _ => ∃ x : Int, v = .int .i64 x, fun _ _ _ h _ => h⟩
def shIn (row : Option Nat) (lo hi : Int) : Sh row := ⟨fun v _ => ∃ x : Int, v = .int .i64 x ∧ lo ≤ x ∧ x ≤ hi, fun _ _ _ h _ => h⟩
def shBool (row : Option Nat) : Sh row := ⟨fun v _ => ∃ x : Bool, v = .bool x, fun _ _ _ h _ => h⟩
/-- The address of an integer in lo..hi. -/
def shPtr (row : Option Nat) (lo hi : Int) : Sh row := ⟨fun v w => ∃ (g o : Nat) (x : Int), v = .pointer (some ⟨g, o, none⟩) ∧ row ≠ some g ∧ w.cell? ⟨g, o, none⟩ = some (.int .i64 x) ∧ lo ≤ x ∧ x ≤ hi,
  fun _ _ _ ⟨g, o, x, h1, h2, h3, h4⟩ hg => ⟨g, o, x, h1, h2, gb_cell hg h3 h2, h4⟩⟩
/-- A literal slice of n integers in lo..hi. -/
def shRow (row : Option Nat) (n : Nat) (lo hi : Int) : Sh row := ⟨fun v w => ∃ g : Nat, v = .slice (some ⟨g, 0, none⟩) n n ∧ row ≠ some g ∧ ∀ j, j < n → ∃ x : Int, w.cell? ⟨g, j, none⟩ = some (.int .i64 x) ∧ lo ≤ x ∧ x ≤ hi,
  fun _ _ _ ⟨g, h1, h2, h3⟩ hg => ⟨g, h1, h2, fun j hj => let ⟨x, hx, hr⟩ := h3 j hj; ⟨x, gb_cell hg hx h2, hr⟩⟩⟩
/-- The shapes of a region's slots, in the order of its operations. -/
def shs (row : Option Nat) (l : List (Sh row)) (i : Nat) : Value → World → Prop := (l.getD i (shTop row)).p
theorem shs_st (row : Option Nat) (l : List (Sh row)) : ∀ j v w w', shs row l j v w → w.grownBy w' row → shs row l j v w' := fun j v w w' h hg => (l.getD j (shTop row)).st v w w' h hg

/-- The frame behind a region: each slot written anew. -/
def putAll : List Oper → (Nat → Value) → Nat → Act → Act
  | [], _, _, a => a
  | o :: l, vs, i, a => putAll l vs (i + 1) (a.put o.dst (vs i))
theorem putAll_size (vs : Nat → Value) : ∀ (l : List Oper) (i : Nat) (a : Act), (putAll l vs i a).tmps.size = a.tmps.size
  | [], _, _ => rfl
  | o :: l, i, a => by
    rw [putAll, putAll_size vs l]
    cases h : o.dst <;> simp [Act.put]
theorem putAll_defers (vs : Nat → Value) : ∀ (l : List Oper) (i : Nat) (a : Act), (putAll l vs i a).defers = a.defers
  | [], _, _ => rfl
  | o :: l, i, a => by
    rw [putAll, putAll_defers vs l]
    cases h : o.dst <;> simp [Act.put]
theorem putAll_old (vs : Nat → Value) (t : Nat) : ∀ (l : List Oper) (i : Nat) (a : Act), (∀ (j : Nat) (o : Oper), l[j]? = some o → o.dst ≠ some t) → (putAll l vs i a).tmps.getD t undef = a.tmps.getD t undef
  | [], _, _, _ => rfl
  | o :: l, i, a, h => by
    rw [putAll, putAll_old vs t l _ _ (fun j o' ho' => h (j + 1) o' (by simpa using ho'))]
    have h0 := h 0 o rfl
    cases hd : o.dst with
    | none => rfl
    | some d =>
      have hne : d ≠ t := fun e => h0 (by rw [hd, e])
      simp [Act.put, Array.getElem?_setIfInBounds_ne hne]
theorem putAll_new (vs : Nat → Value) (d : Nat) : ∀ (l : List Oper) (i : Nat) (a : Act) (j : Nat) (o : Oper), l[j]? = some o → o.dst = some d → d < a.tmps.size → (∀ (j' : Nat) (o' : Oper), j < j' → l[j']? = some o' → o'.dst ≠ some d) → (putAll l vs i a).tmps.getD d undef = vs (i + j)
  | [], _, _, _, _, h, _, _, _ => by simp at h
  | x :: l, i, a, 0, o, h, hd, hs, hl => by
    obtain rfl : x = o := by simpa using h
    rw [putAll, putAll_old vs d l _ _ (fun j o' ho' => hl (j + 1) o' (by omega) (by simpa using ho'))]
    simp [Act.put, hd, hs]
  | x :: l, i, a, j + 1, o, h, hd, hs, hl => by
    rw [putAll, putAll_new vs d l (i + 1) _ j o (by simpa using h) hd (by cases hx : x.dst <;> simpa [Act.put] using hs) (fun j' o' hj' ho' => hl (j' + 1) o' (by omega) (by simpa using ho')), Nat.add_assoc, Nat.add_comm 1 j]
theorem fin_put {l : List Oper} {A : Nat → Value → World → Prop} {J : Nat → World → Prop} {a0 : Act} (hf : fine l.toArray a0.tmps.size = true)
    (fin : ∀ (vs : Nat → Value) w', J l.length w' → (∀ i, i < l.length → A i (vs i) w') → Q .normal (putAll l vs 0 a0) w') :
    ∀ a' w', J l.length w' → (∀ i, i < l.length → A i (slotOf l.toArray i a') w') → (∀ t, ((List.range l.toArray.size).all fun j => !(dstOf l.toArray j == some t)) = true → a'.tmps.getD t undef = a0.tmps.getD t undef) → a'.tmps.size = a0.tmps.size → a'.defers = a0.defers → Q .normal a' w' := by
  intro a' w' hJ hA hold hs hd
  have hfin := fin (fun i => slotOf l.toArray i a') w' hJ hA
  have e : putAll l (fun i => slotOf l.toArray i a') 0 a0 = a' := by
    have h1 := putAll_size (fun i => slotOf l.toArray i a') l 0 a0
    have h2 := putAll_defers (fun i => slotOf l.toArray i a') l 0 a0
    have h3 : ∀ t, (putAll l (fun i => slotOf l.toArray i a') 0 a0).tmps.getD t undef = a'.tmps.getD t undef := by
      intro t
      by_cases hw : ∃ j, j < l.length ∧ dstOf l.toArray j = some t
      · obtain ⟨j, hj, hjd⟩ := hw
        have ho : l[j]? = some l[j] := List.getElem?_eq_getElem hj
        have hd' : (l[j]).dst = some t := by rw [← dstOf_some (ops := l.toArray) (j := j) (o := l[j]) (by simp)]; exact hjd
        have hff := List.all_eq_true.1 hf j (List.mem_range.2 (by simp; exact hj))
        have hoa : l.toArray[j]? = some l[j] := by simp
        simp only [hoa, hd', Bool.and_eq_true] at hff
        have hsz : t < a0.tmps.size := by simpa using hff.2.1
        rw [putAll_new _ t l 0 a0 j l[j] ho hd' hsz, Nat.zero_add]
        · simp only [slotOf, hjd]
        · intro j' o' hj' ho' e'
          have hjl : j' < l.length := by
            rcases Nat.lt_or_ge j' l.length with h | h
            · exact h
            · simp [List.getElem?_eq_none h] at ho'
          have := List.all_eq_true.1 hff.2.2 j' (List.mem_range.2 (by simp; exact hjl))
          rw [dstOf_some (ops := l.toArray) (j := j') (o := o') (by simpa using ho'), e'] at this
          have hne : ¬ j' = j := by omega
          simp [hne] at this
      · rw [putAll_old _ t l 0 a0 (fun j o ho e' => hw ⟨j, by
            rcases Nat.lt_or_ge j l.length with h | h
            · exact h
            · simp [List.getElem?_eq_none h] at ho, by rw [dstOf_some (ops := l.toArray) (j := j) (o := o) (by simpa using ho)]; exact e'⟩)]
        refine (hold t (List.all_eq_true.2 (fun j hj => ?_))).symm
        have hjl : j < l.length := by simpa using List.mem_range.1 hj
        have hne : ¬ dstOf l.toArray j = some t := fun e' => hw ⟨j, hjl, e'⟩
        simp [hne]
    rw [← hs] at h1
    rw [← hd] at h2
    generalize putAll l (fun i => slotOf l.toArray i a') 0 a0 = pa at h1 h2 h3 ⊢
    clear hfin hold hA hJ hs hd
    obtain ⟨t1, d1⟩ := pa
    obtain ⟨t2, d2⟩ := a'
    simp only at h1 h2 h3
    subst h2
    congr 1
    apply Array.ext
    · omega
    · intro i hi1 hi2
      have := h3 i
      simpa [Array.getD, hi1, hi2] using this
  rw [← e]
  exact hfin
/-- THE RULES, as they are used: the frame behind the region is the old one with its slots written anew. -/
theorem wp_drawn_put {id : Nat} {l : List Oper} {a0 : Act} {w0 : World} (A : Nat → Value → World → Prop) (J : Nat → World → Prop) (row : Option Nat) (hm : P.follows .mixedOrders = true) (hf : fine l.toArray a0.tmps.size = true)
    (hst : ∀ j v w w', A j v w → w.grownBy w' row → A j v w') (h0 : J 0 w0.drew) (step : StepAll P l.toArray Q A J row a0 l 0)
    (fin : ∀ (vs : Nat → Value) w', J l.length w' → (∀ i, i < l.length → A i (vs i) w') → Q .normal (putAll l vs 0 a0) w') : (Code.region id l.toArray true).wp P Q a0 w0 :=
  wp_drawn_list A J row hm hf hst h0 step (fin_put hf fin)
theorem wp_plain_put {id : Nat} {l : List Oper} {a0 : Act} {w0 : World} (A : Nat → Value → World → Prop) (J : Nat → World → Prop) (row : Option Nat) (hm : P.follows .mixedOrders = true) (hf : fine l.toArray a0.tmps.size = true)
    (hst : ∀ j v w w', A j v w → w.grownBy w' row → A j v w') (h0 : J 0 w0) (step : StepAll P l.toArray Q A J row a0 l 0)
    (fin : ∀ (vs : Nat → Value) w', J l.length w' → (∀ i, i < l.length → A i (vs i) w') → Q .normal (putAll l vs 0 a0) w') : (Code.region id l.toArray false).wp P Q a0 w0 :=
  wp_plain_list A J row hm hf hst h0 step (fin_put hf fin)
end
end Go.Proofs.YtbhelobahfgaeaaDoor
