/-
  The rule for a region whose order is open, where what stands may tell of which operations are done and of what their slots hold (new rows of the call's own, grown in place). Plain Lean over the model.
-/
import Derived.Test.YtbhelobahfgaeaaDoorDrawn
namespace Go.Proofs.YtbhelobahfgaeaaDoor
open Go
section
variable {P : Program} {ops : Array Oper} {Q : Exit → Act → World → Prop}
def dn (l : Array Bool) : Nat → Bool := fun j => l.getD j false
def sl (a : Act) : Nat → Value := fun t => a.tmps[t]?.getD undef
def upD (D : Nat → Bool) (i : Nat) : Nat → Bool := fun j => if j = i then true else D j
def upS (S : Nat → Value) (d : Option Tmp) (v : Value) : Nat → Value := fun t => if d = some t then v else S t
structure Mid3 (ops : Array Oper) (A : Nat → Value → World → Prop) (J : (Nat → Bool) → (Nat → Value) → World → Prop) (a0 : Act) (listed : Array Bool) (a : Act) (w : World) : Prop where
  size : listed.size = ops.size
  closed : ∀ j o, ops[j]? = some o → listed.getD j false = true → ∀ e ∈ o.after, Region.binds .any e = true → listed.getD e.on false = true
  inv : J (dn listed) (sl a) w
  yes : ∀ j, j < ops.size → listed.getD j false = true → A j (slotOf ops j a) w
  no : ∀ j, j < ops.size → listed.getD j false = false → slotOf ops j a = slotOf ops j a0
  old : ∀ t, (∀ j, dstOf ops j ≠ some t) → a.tmps.getD t undef = a0.tmps.getD t undef
  frame : a.tmps.size = a0.tmps.size
  defers : a.defers = a0.defers
theorem mid_step3 {A : Nat → Value → World → Prop} {J : (Nat → Bool) → (Nat → Value) → World → Prop} {a0 : Act} (hf : fine ops a0.tmps.size = true)
    (step : ∀ i o, ops[i]? = some o → ∀ (D : Nat → Bool) a w, D i = false → (∀ j, behind ops j ops.size i = true → D j = true) → (∀ j, behind ops i ops.size j = true → D j = false) → J D (sl a) w → a.defers = a0.defers → Seen ops A a0 i a w →
      wpOp P ops Q i (fun a' w' => ∃ v, a' = a.put o.dst v ∧ A i (if o.dst.isSome then v else undef) w' ∧ J (upD D i) (upS (sl a) o.dst v) w' ∧ ∀ j u, A j u w → A j u w') a w)
    {listed : Array Bool} {a : Act} {w : World} (hm : Mid3 ops A J a0 listed a w) {i : Nat} (hi : i ∈ Region.ready .any ops listed) :
    wpOp P ops Q i (fun a' w' => Mid3 ops A J a0 (listed.setIfInBounds i true) a' w') a w := by
  have back : ∀ (j : Nat) (o : Oper), ops[j]? = some o → ∀ e ∈ o.after, Region.binds .any e = true → e.on < j := by
    intro j o ho e he hbd
    have hlt : j < ops.size := (Array.getElem?_eq_some_iff.1 ho).1
    have := List.all_eq_true.1 hf j (List.mem_range.2 hlt)
    simp only [ho, Bool.and_eq_true] at this
    have h2 := List.all_eq_true.1 this.1 e (Array.mem_toList_iff.2 he)
    rw [hbd] at h2
    simpa using h2
  have slots : ∀ (j : Nat) (o : Oper) (d : Tmp), ops[j]? = some o → o.dst = some d → d < a0.tmps.size ∧ ∀ i, i ≠ j → dstOf ops i ≠ some d := by
    intro j o d ho hd
    have hlt : j < ops.size := (Array.getElem?_eq_some_iff.1 ho).1
    have := List.all_eq_true.1 hf j (List.mem_range.2 hlt)
    simp only [ho, hd, Bool.and_eq_true] at this
    refine ⟨by simpa using this.2.1, fun i hij he => ?_⟩
    have hi : i < ops.size := dstOf_lt he
    have h2 := List.all_eq_true.1 this.2.2 i (List.mem_range.2 hi)
    simp [he, hij] at h2
  obtain ⟨h0, o, ho, hdeps⟩ := mem_ready.1 hi
  have hlt : i < ops.size := (Array.getElem?_eq_some_iff.1 ho).1
  have hlf : listed.getD i false = false := by
    have hjs : i < listed.size := by rw [hm.size]; exact hlt
    simp [hjs] at h0 ⊢
    exact h0
  -- what lies behind i is not listed; what lies ahead is
  have hahead : ∀ f j, behind ops j f i = true → listed.getD j false = true := by
    intro f j hb
    cases f with
    | zero => simp [behind] at hb
    | succ f =>
      simp only [behind, ho] at hb
      obtain ⟨e, he, hb⟩ := List.any_eq_true.1 hb
      have he := Array.mem_toList_iff.1 he
      rw [Bool.and_eq_true, Bool.or_eq_true] at hb
      have hon := hdeps e he hb.1
      rcases hb.2 with h | h
      · have : e.on = j := by simpa using h
        rw [← this]; exact hon
      · exact behind_listed hm.closed j f _ h hon
  have hseen : Seen ops A a0 i a w := by
    refine ⟨fun t ht => ?_, fun j hj => ?_, fun j hj => ?_, hm.no i hlt hlf⟩
    · refine hm.old t (fun j hj => ?_)
      have hjl : j < ops.size := dstOf_lt hj
      have := List.all_eq_true.1 ht j (List.mem_range.2 hjl)
      simp [hj] at this
    · have hl := hahead _ j hj
      have hjl : j < ops.size := by
        rcases Nat.lt_or_ge j ops.size with h | h
        · exact h
        · have hnone : listed[j]? = none := Array.getElem?_eq_none (by rw [hm.size]; exact h)
          simp [hnone] at hl
      exact hm.yes j hjl hl
    · have hjl : j < ops.size := by
        rcases Nat.lt_or_ge j ops.size with h | h
        · exact h
        · have : ops.size ≠ 0 := by omega
          obtain ⟨m, hm'⟩ := Nat.exists_eq_succ_of_ne_zero this
          rw [hm'] at hj
          simp [behind, Array.getElem?_eq_none h] at hj
      refine hm.no j hjl ?_
      cases hl : listed.getD j false with
      | false => rfl
      | true =>
        have := behind_listed hm.closed i _ j hj hl
        rw [hlf] at this
        cases this
  have hL : ∀ j, behind ops i ops.size j = true → dn listed j = false := by
    intro j hj
    cases hl : listed.getD j false with
    | false => exact hl
    | true =>
      have := behind_listed hm.closed i _ j hj hl
      rw [hlf] at this
      cases this
  refine wpOp_mono ?_ (step i o ho (dn listed) a w hlf (fun j hj => hahead _ j hj) hL hm.inv hm.defers hseen)
  rintro a' w' ⟨v, rfl, hA, hJ, hst⟩
  have e1 : dn (listed.setIfInBounds i true) = upD (dn listed) i := by
    funext j
    unfold dn upD
    by_cases hij : j = i
    · subst hij
      rw [if_pos rfl, getD_set_true_self hm.size hlt]
    · rw [if_neg hij, getD_set_ne _ (fun e => hij e.symm)]
  have e2 : sl (a.put o.dst v) = upS (sl a) o.dst v := by
    funext t
    unfold sl upS
    cases hd : o.dst with
    | none => simp [Act.put]
    | some d =>
      have hs := (slots i o d ho hd).1
      by_cases hdt : d = t
      · subst hdt
        simp [Act.put, hm.frame, hs]
      · rw [if_neg (by simpa using hdt)]
        simp [Act.put, Array.getElem?_setIfInBounds_ne hdt]
  rw [← e1, ← e2] at hJ
  · refine ⟨by simp [hm.size], ?_, hJ, ?_, ?_, ?_, ?_, ?_⟩
    · intro j oj hoj hl e he hb
      by_cases hij : i = j
      · subst hij
        obtain rfl := Option.some.inj (hoj.symm.trans ho)
        exact getD_set_true (hdeps e he hb)
      · rw [getD_set_ne _ hij] at hl
        exact getD_set_true (hm.closed j oj hoj hl e he hb)
    · intro j hj hl
      by_cases hij : i = j
      · subst hij
        cases hd : o.dst with
        | none => simp only [hd, Option.isSome_none, Bool.false_eq_true, if_false] at hA; simpa [slotOf, dstOf_some ho, hd] using hA
        | some d =>
          have hs := (slots i o d ho hd).1
          have e := slot_put_self (ops := ops) (v := v) (a := a) ho hd (by rw [hm.frame]; exact hs)
          rw [hd] at e hA
          rw [e]
          simpa using hA
      · rw [getD_set_ne _ hij] at hl
        have hy := hst _ _ (hm.yes j hj hl)
        cases hd : o.dst with
        | none => rw [← hd, slot_put_none hd]; exact hy
        | some d => rw [← hd, slot_put hd ((slots i o d ho hd).2 j (fun e => hij e.symm))]; exact hy
    · intro j hj hl
      have hij : i ≠ j := by
        rintro rfl
        rw [getD_set_true_self hm.size hlt] at hl
        cases hl
      rw [getD_set_ne _ hij] at hl
      cases hd : o.dst with
      | none => rw [← hd, slot_put_none hd]; exact hm.no j hj hl
      | some d => rw [← hd, slot_put hd ((slots i o d ho hd).2 j (fun e => hij e.symm))]; exact hm.no j hj hl
    · intro t ht
      rw [← hm.old t ht]
      cases hd : o.dst with
      | none => rfl
      | some d =>
        have hne : d ≠ t := fun e => ht i (by rw [dstOf_some ho, hd, e])
        simp [Act.put, Array.getElem?_setIfInBounds_ne hne]
    · rw [← hm.frame]
      cases hd : o.dst <;> simp [Act.put]
    · rw [← hm.defers]
      cases hd : o.dst <;> simp [Act.put]

theorem mid_any3 {A : Nat → Value → World → Prop} {J : (Nat → Bool) → (Nat → Value) → World → Prop} {a0 : Act} (hf : fine ops a0.tmps.size = true)
    (step : ∀ i o, ops[i]? = some o → ∀ (D : Nat → Bool) a w, D i = false → (∀ j, behind ops j ops.size i = true → D j = true) → (∀ j, behind ops i ops.size j = true → D j = false) → J D (sl a) w → a.defers = a0.defers → Seen ops A a0 i a w →
      wpOp P ops Q i (fun a' w' => ∃ v, a' = a.put o.dst v ∧ A i (if o.dst.isSome then v else undef) w' ∧ J (upD D i) (upS (sl a) o.dst v) w' ∧ ∀ j u, A j u w → A j u w') a w)
    (fin : ∀ (D : Nat → Bool) a' w', (∀ j, j < ops.size → D j = true) → J D (sl a') w' → (∀ i, i < ops.size → A i (slotOf ops i a') w') → (∀ t, (∀ j, dstOf ops j ≠ some t) → a'.tmps.getD t undef = a0.tmps.getD t undef) → a'.tmps.size = a0.tmps.size → a'.defers = a0.defers → Q .normal a' w') :
    ∀ fuel listed a w, Mid3 ops A J a0 listed a w → unlisted ops.size listed = fuel → wpAny P .any ops Q fuel listed a w := by
  have back : ∀ (j : Nat) (o : Oper), ops[j]? = some o → ∀ e ∈ o.after, Region.binds .any e = true → e.on < j := by
    intro j o ho e he hbd
    have hlt : j < ops.size := (Array.getElem?_eq_some_iff.1 ho).1
    have := List.all_eq_true.1 hf j (List.mem_range.2 hlt)
    simp only [ho, Bool.and_eq_true] at this
    have h2 := List.all_eq_true.1 this.1 e (Array.mem_toList_iff.2 he)
    rw [hbd] at h2
    simpa using h2
  have slots : ∀ (j : Nat) (o : Oper) (d : Tmp), ops[j]? = some o → o.dst = some d → d < a0.tmps.size ∧ ∀ i, i ≠ j → dstOf ops i ≠ some d := by
    intro j o d ho hd
    have hlt : j < ops.size := (Array.getElem?_eq_some_iff.1 ho).1
    have := List.all_eq_true.1 hf j (List.mem_range.2 hlt)
    simp only [ho, hd, Bool.and_eq_true] at this
    refine ⟨by simpa using this.2.1, fun i hij he => ?_⟩
    have hi : i < ops.size := dstOf_lt he
    have h2 := List.all_eq_true.1 this.2.2 i (List.mem_range.2 hi)
    simp [he, hij] at h2
  -- all listed where none is ready
  have full : ∀ listed, listed.size = ops.size → Region.ready .any ops listed = [] → ∀ j, j < ops.size → listed.getD j false = true := by
    intro listed hs hr j
    induction j using Nat.strongRecOn with
    | _ j ih =>
      intro hj
      cases hl : listed.getD j false with
      | true => rfl
      | false =>
        have : j ∈ Region.ready .any ops listed := by
          refine mem_ready.2 ⟨?_, ops[j], Array.getElem?_eq_some_iff.2 ⟨hj, rfl⟩, fun e he hbd => ?_⟩
          · have hjs : j < listed.size := by omega
            simp [hjs] at hl ⊢
            exact hl
          · have hb := back j ops[j] (Array.getElem?_eq_some_iff.2 ⟨hj, rfl⟩) e he hbd
            exact ih e.on hb (by omega)
        rw [hr] at this
        simp at this
  have ended : ∀ listed a w, Mid3 ops A J a0 listed a w → Region.ready .any ops listed = [] → Q .normal a w := by
    intro listed a w hm hr
    have hall := full listed hm.size hr
    exact fin (dn listed) a w (fun j hj => hall j hj) hm.inv (fun i hi => hm.yes i hi (hall i hi)) hm.old hm.frame hm.defers
  intro fuel
  induction fuel with
  | zero =>
    intro listed a w hm hu
    have hr : Region.ready .any ops listed = [] := by
      rw [List.eq_nil_iff_forall_not_mem]
      intro j hj
      obtain ⟨h0, o, ho, _⟩ := mem_ready.1 hj
      have hlt : j < ops.size := (Array.getElem?_eq_some_iff.1 ho).1
      have hlf : listed.getD j false = false := by
        have hjs : j < listed.size := by rw [hm.size]; exact hlt
        simp [hjs] at h0 ⊢
        exact h0
      unfold unlisted at hu
      rw [List.length_eq_zero_iff, List.filter_eq_nil_iff] at hu
      have := hu j (List.mem_range.2 hlt)
      rw [hlf] at this
      simp at this
    exact ⟨hr, ended listed a w hm hr⟩
  | succ fuel ih =>
    intro listed a w hm hu
    refine ⟨fun hr => ended listed a w hm hr, fun i hi => ?_⟩
    refine wpOp_mono ?_ (mid_step3 hf step hm hi)
    intro a' w' hm'
    obtain ⟨h0, o, ho, _⟩ := mem_ready.1 hi
    have hlt : i < ops.size := (Array.getElem?_eq_some_iff.1 ho).1
    have hlf : listed.getD i false = false := by
      have hjs : i < listed.size := by rw [hm.size]; exact hlt
      simp [hjs] at h0 ⊢
      exact h0
    have := unlisted_set hm.size hlt hlf
    exact ih _ _ _ hm' (by omega)


theorem wp_drawn3 {id : Nat} {A : Nat → Value → World → Prop} {J : (Nat → Bool) → (Nat → Value) → World → Prop} {a0 : Act} {w0 : World} (hm : P.follows .mixedOrders = true) (hf : fine ops a0.tmps.size = true)
    (h0 : J (fun _ => false) (sl a0) { w0 with drawn := w0.drawn + 1 })
    (step : ∀ i o, ops[i]? = some o → ∀ (D : Nat → Bool) a w, D i = false → (∀ j, behind ops j ops.size i = true → D j = true) → (∀ j, behind ops i ops.size j = true → D j = false) → J D (sl a) w → a.defers = a0.defers → Seen ops A a0 i a w →
      wpOp P ops Q i (fun a' w' => ∃ v, a' = a.put o.dst v ∧ A i (if o.dst.isSome then v else undef) w' ∧ J (upD D i) (upS (sl a) o.dst v) w' ∧ ∀ j u, A j u w → A j u w') a w)
    (fin : ∀ (D : Nat → Bool) a' w', (∀ j, j < ops.size → D j = true) → J D (sl a') w' → (∀ i, i < ops.size → A i (slotOf ops i a') w') → (∀ t, (∀ j, dstOf ops j ≠ some t) → a'.tmps.getD t undef = a0.tmps.getD t undef) → a'.tmps.size = a0.tmps.size → a'.defers = a0.defers → Q .normal a' w') :
    (Code.region id ops true).wp P Q a0 w0 := by
  refine wp_region_any hm (mid_any3 hf step fin _ _ _ _ ?_ ?_)
  · refine ⟨by simp, ?_, ?_, ?_, fun _ _ _ => rfl, fun _ _ => rfl, rfl, rfl⟩
    · intro j o ho hl
      simp [Array.getElem?_replicate] at hl
      split at hl <;> simp at hl
    · have e : dn (Array.replicate ops.size false) = fun _ => false := by
        funext j
        simp only [dn, Array.getD_eq_getD_getElem?, Array.getElem?_replicate]
        split <;> rfl
      rw [e]
      exact h0
    · intro j hj hl
      simp [hj] at hl
  · unfold unlisted
    rw [List.filter_eq_self.2]
    · simp
    · intro x hx
      simp [List.mem_range.1 hx]
/-- What an operation has to show. -/
def Ob3 (P : Program) (ops : Array Oper) (Q : Exit → Act → World → Prop) (A : Nat → Value → World → Prop) (J : (Nat → Bool) → (Nat → Value) → World → Prop) (a0 : Act) (o : Oper) (i : Nat) (body : Act → World → (Act → World → Prop) → Prop) : Prop :=
  ∀ (D : Nat → Bool) a w, D i = false → (∀ j, behind ops j ops.size i = true → D j = true) → (∀ j, behind ops i ops.size j = true → D j = false) → J D (sl a) w → a.defers = a0.defers → Seen ops A a0 i a w → ∀ K : Act → World → Prop,
      RowKit.Hid (∀ v w', A i (if o.dst.isSome then v else undef) w' → J (upD D i) (upS (sl a) o.dst v) w' → (∀ j u, A j u w → A j u w') → K (a.put o.dst v) w') → body a w K
def StepAll3 (P : Program) (ops : Array Oper) (Q : Exit → Act → World → Prop) (A : Nat → Value → World → Prop) (J : (Nat → Bool) → (Nat → Value) → World → Prop) (a0 : Act) : List Oper → Nat → Prop
  | [], _ => True
  | o :: rest, i => Ob3 P ops Q A J a0 o i (fun a w K => if Region.wanted o (yielded ops a.tmps) then o.wp P a w K Q else K (a.put o.dst undef) w) ∧ StepAll3 P ops Q A J a0 rest (i + 1)
theorem StepAll3.at {A : Nat → Value → World → Prop} {J : (Nat → Bool) → (Nat → Value) → World → Prop} {a0 : Act} : ∀ (l : List Oper) (n : Nat), StepAll3 P ops Q A J a0 l n → ∀ (i : Nat) (o : Oper), l[i]? = some o → Ob3 P ops Q A J a0 o (n + i) (fun a w K => if Region.wanted o (yielded ops a.tmps) then o.wp P a w K Q else K (a.put o.dst undef) w)
  | [], _, _, i, o, h => by simp at h
  | x :: l, n, hs, 0, o, h => by
    obtain rfl : x = o := by simpa using h
    exact hs.1
  | x :: l, n, hs, i + 1, o, h => by
    have := StepAll3.at l (n + 1) hs.2 i o (by simpa using h)
    rw [Nat.add_assoc, Nat.add_comm 1 i] at this
    exact this
theorem step_plain3 {A : Nat → Value → World → Prop} {J : (Nat → Bool) → (Nat → Value) → World → Prop} {a0 : Act} {o : Oper} {rest : List Oper} {i : Nat} (hg : o.guard = none)
    (h : Ob3 P ops Q A J a0 o i (fun a w K => o.wp P a w K Q)) (hr : StepAll3 P ops Q A J a0 rest (i + 1)) : StepAll3 P ops Q A J a0 (o :: rest) i :=
  ⟨fun D a w h1 h2 h3 h4 h5 h6 K hK => by dsimp only; rw [if_pos (by simp [Region.wanted, hg])]; exact h D a w h1 h2 h3 h4 h5 h6 K hK, hr⟩
theorem step_guard3 {A : Nat → Value → World → Prop} {J : (Nat → Bool) → (Nat → Value) → World → Prop} {a0 : Act} {o : Oper} {rest : List Oper} {i : Nat} (j d : Nat) (b : Bool) (hg : o.guard = some (j, b)) (hd : dstOf ops j = some d)
    (hv : ∀ a w, Seen ops A a0 i a w → a.tmps[d]?.getD undef = .bool b)
    (h : Ob3 P ops Q A J a0 o i (fun a w K => o.wp P a w K Q)) (hr : StepAll3 P ops Q A J a0 rest (i + 1)) : StepAll3 P ops Q A J a0 (o :: rest) i :=
  ⟨fun D a w h1 h2 h3 h4 h5 h6 K hK => by dsimp only; rw [if_pos (by rw [wanted_at hg hd (hv a w h6)]; simp)]; exact h D a w h1 h2 h3 h4 h5 h6 K hK, hr⟩
theorem step_skip3 {A : Nat → Value → World → Prop} {J : (Nat → Bool) → (Nat → Value) → World → Prop} {a0 : Act} {o : Oper} {rest : List Oper} {i : Nat} (j d : Nat) (b : Bool) (hg : o.guard = some (j, b)) (hd : dstOf ops j = some d)
    (hv : ∀ a w, Seen ops A a0 i a w → a.tmps[d]?.getD undef = .bool (!b))
    (h : ∀ D a w, J D (sl a) w → A i undef w ∧ J (upD D i) (upS (sl a) o.dst undef) w) (hr : StepAll3 P ops Q A J a0 rest (i + 1)) : StepAll3 P ops Q A J a0 (o :: rest) i :=
  ⟨fun D a w h1 h2 h3 h4 h5 h6 K hK => by
    dsimp only
    rw [if_neg (by rw [wanted_at hg hd (hv a w h6)]; cases b <;> simp)]
    exact hK.out undef w (by simpa using (h D a w h4).1) (h D a w h4).2 (fun _ _ h => h), hr⟩
theorem step_nil3 {A : Nat → Value → World → Prop} {J : (Nat → Bool) → (Nat → Value) → World → Prop} {a0 : Act} {i : Nat} : StepAll3 P ops Q A J a0 [] i := trivial
/-- The shapes of a region's slots: a value that is known, or nothing. -/
def shp (l : List (Option Value)) (i : Nat) (v : Value) (_ : World) : Prop := match l.getD i none with | some x => v = x | none => True
/-- THE RULE, on the region as the program has it. -/
theorem wp_drawn_put3 {id : Nat} {l : List Oper} {a0 : Act} {w0 : World} (A : Nat → Value → World → Prop) (J : (Nat → Bool) → (Nat → Value) → World → Prop) (hm : P.follows .mixedOrders = true) (hf : fine l.toArray a0.tmps.size = true)
    (h0 : J (fun _ => false) (sl a0) w0.drew) (step : StepAll3 P l.toArray Q A J a0 l 0)
    (fin : ∀ (vs : Nat → Value) (D : Nat → Bool) w', (∀ j, j < l.length → D j = true) → J D (sl (putAll l vs 0 a0)) w' → (∀ i, i < l.length → A i (vs i) w') → Q .normal (putAll l vs 0 a0) w') : (Code.region id l.toArray true).wp P Q a0 w0 := by
  refine wp_drawn3 (A := A) (J := J) hm hf h0 ?_ ?_
  · intro i o ho D a w q1 q2 q3 q4 q5 q6
    have hl : l[i]? = some o := by simpa using ho
    have hat := StepAll3.at l 0 step i o hl
    rw [Nat.zero_add] at hat
    have hat := hat D a w q1 q2 q3 q4 q5 q6 (fun a' w' => ∃ v, a' = a.put o.dst v ∧ A i (if o.dst.isSome then v else undef) w' ∧ J (upD D i) (upS (sl a) o.dst v) w' ∧ ∀ j u, A j u w → A j u w')
      (fun v w' hA hJ hst => ⟨v, rfl, hA, hJ, hst⟩)
    dsimp only at hat
    unfold wpOp
    simp only [ho]
    split
    · rename_i hw
      rw [if_pos hw] at hat
      exact .inl hat
    · rename_i hw
      rw [if_neg hw] at hat
      exact hat
  · intro D a' w' hD hJ hA hold hs hd
    obtain ⟨vs, e, hA'⟩ := fin_put (l := l) (A := A) (J := fun _ _ => True) (a0 := a0) (Q := fun _ x w'' => ∃ vs, x = putAll l vs 0 a0 ∧ ∀ i, i < l.length → A i (vs i) w'') hf (fun vs w'' _ h => ⟨vs, rfl, h⟩) a' w' trivial (fun i hi => hA i (by simpa using hi)) (fun t ht => hold t (fun j hj => by
      have := List.all_eq_true.1 ht j (List.mem_range.2 (dstOf_lt hj))
      simp [hj] at this)) hs hd
    subst e
    exact fin vs D w' (fun j hj => hD j (by simpa using hj)) hJ hA'
theorem sl_put {l : List Oper} {a0 : Act} (vs : Nat → Value) (hf : fine l.toArray a0.tmps.size = true) (j d : Nat) (hd : dstOf l.toArray j = some d) : sl (putAll l vs 0 a0) d = vs j := by
  have hlt := dstOf_lt hd
  obtain ⟨o, ho⟩ : ∃ o, l.toArray[j]? = some o := ⟨_, Array.getElem?_eq_getElem hlt⟩
  have hod : o.dst = some d := by rw [← dstOf_some ho]; exact hd
  have h1 := List.all_eq_true.1 hf j (List.mem_range.2 hlt)
  simp only [ho, hod, Bool.and_eq_true] at h1
  have h2 := putAll_new vs d l 0 a0 j o (by simpa using ho) hod (by simpa using h1.2.1) (fun j' o' hj ho' he => by
    have hl : j' < l.toArray.size := by
      rcases Nat.lt_or_ge j' l.length with h | h
      · simpa using h
      · simp [List.getElem?_eq_none h] at ho'
    have h3 := List.all_eq_true.1 h1.2.2 j' (List.mem_range.2 hl)
    rw [dstOf_some (ops := l.toArray) (j := j') (o := o') (by simpa using ho'), he] at h3
    have hne : ¬ j' = j := by omega
    simp [hne] at h3)
  rw [Nat.zero_add, getD_some] at h2
  exact h2
end
end Go.Proofs.YtbhelobahfgaeaaDoor
