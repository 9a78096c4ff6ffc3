/-
  Connected samples: what is reached from a sample; a grid marked where a set says so; both ways of marking, as plain facts.
-/
import Derived.Test.YtpkcpkhanodnmaaPix
namespace Go.Proofs.Ytpkcpkhanodnmaa
open Go Go.RowKit
abbrev Px := Nat × Nat
def adj (p q : Px) : Prop := (p.2 = q.2 ∧ (p.1 = q.1 + 1 ∨ q.1 = p.1 + 1)) ∨ (p.1 = q.1 ∧ (p.2 = q.2 + 1 ∨ q.2 = p.2 + 1))
theorem adj_symm {p q : Px} (h : adj p q) : adj q p := by
  rcases h with ⟨h1, h2 | h2⟩ | ⟨h1, h2 | h2⟩
  · exact .inl ⟨h1.symm, .inr h2⟩
  · exact .inl ⟨h1.symm, .inl h2⟩
  · exact .inr ⟨h1.symm, .inr h2⟩
  · exact .inr ⟨h1.symm, .inl h2⟩
inductive Rch (U : Px → Prop) (p : Px) : Px → Prop
  | base : U p → Rch U p p
  | step {q r : Px} : Rch U p q → adj q r → U r → Rch U p r
theorem Rch.in {U : Px → Prop} {p q : Px} (h : Rch U p q) : U q := by cases h <;> assumption
theorem Rch.start {U : Px → Prop} {p q : Px} (h : Rch U p q) : U p := by
  induction h with
  | base h => exact h
  | step _ _ _ ih => exact ih
theorem Rch.trans {U : Px → Prop} {p q r : Px} (h : Rch U p q) (k : Rch U q r) : Rch U p r := by
  induction k with
  | base _ => exact h
  | step _ h2 h3 ih => exact .step ih h2 h3
theorem Rch.symm {U : Px → Prop} {p q : Px} (h : Rch U p q) : Rch U q p := by
  induction h with
  | base h => exact .base h
  | step h1 h2 h3 ih => exact (Rch.step (.base h3) (adj_symm h2) h1.in).trans ih
theorem Rch.mono {U V : Px → Prop} (hUV : ∀ p, U p → V p) {p q : Px} (h : Rch U p q) : Rch V p q := by
  induction h with
  | base h => exact .base (hUV _ h)
  | step _ h2 h3 ih => exact .step ih h2 (hUV _ h3)
/-- From a place given by two numbers. -/
def RI (U : Px → Prop) (x y : Int) (r : Px) : Prop := 0 ≤ x ∧ 0 ≤ y ∧ Rch U (x.toNat, y.toNat) r
/-- What is closed within U. -/
def Clo (U D : Px → Prop) : Prop := (∀ a, D a → U a) ∧ ∀ a b, D a → adj a b → U b → D b
theorem Clo.rch {U D : Px → Prop} (hc : Clo U D) {a b : Px} (ha : D a) (h : Rch U a b) : D b := by
  induction h with
  | base _ => exact ha
  | step _ h2 h3 ih => exact hc.2 _ _ ih h2 h3
theorem rch_less {U D : Px → Prop} (hc : Clo U D) (p r : Px) : Rch (fun q => U q ∧ ¬ D q) p r ↔ ¬ D p ∧ Rch U p r := by
  constructor
  · intro h
    exact ⟨h.start.2, h.mono (fun _ h => h.1)⟩
  · rintro ⟨hp, h⟩
    have key : ∀ q, Rch U p q → ¬ D q := fun q hq hD => hp (hc.rch hD hq.symm)
    induction h with
    | base h => exact .base ⟨h, hp⟩
    | step h1 h2 h3 ih => exact .step ih h2 ⟨h3, key _ (.step h1 h2 h3)⟩
theorem Clo.union {U D : Px → Prop} (hc : Clo U D) (x y : Int) : Clo U (fun r => D r ∨ RI U x y r) := by
  refine ⟨fun a ha => ?_, fun a b ha hab hb => ?_⟩
  · rcases ha with ha | ha
    · exact hc.1 a ha
    · exact ha.2.2.in
  · rcases ha with ha | ha
    · exact .inl (hc.2 a b ha hab hb)
    · exact .inr ⟨ha.1, ha.2.1, .step ha.2.2 hab hb⟩
/-! ### Grids -/
def gr (g : List (List Int)) (x y : Nat) : Int := (g.getD y []).getD x 0
open Classical in
noncomputable def mark (g : List (List Int)) (D : Px → Prop) (n : Int) : List (List Int) := g.mapIdx fun y row => row.mapIdx fun x v => if D (x, y) then n else v
theorem markG_len (g : List (List Int)) (D : Px → Prop) (n : Int) : (mark g D n).length = g.length := by simp [mark]
theorem mark_row {g : List (List Int)} (D : Px → Prop) (n : Int) {y : Nat} {r : List Int} (h : (mark g D n)[y]? = some r) : ∃ s, g[y]? = some s ∧ r.length = s.length := by
  unfold mark at h
  rw [List.getElem?_mapIdx] at h
  cases hg : g[y]? with
  | none => rw [hg] at h; simp at h
  | some s => rw [hg] at h; simp at h; exact ⟨s, rfl, by rw [← h]; simp⟩
theorem mark_congr {g : List (List Int)} {D E : Px → Prop} {n : Int} (h : ∀ x y s, g[y]? = some s → x < s.length → (D (x, y) ↔ E (x, y))) : mark g D n = mark g E n := by
  unfold mark
  apply List.ext_getElem?
  intro y
  rw [List.getElem?_mapIdx, List.getElem?_mapIdx]
  cases hg : g[y]? with
  | none => rfl
  | some s =>
    simp only [Option.map_some]
    congr 1
    apply List.ext_getElem?
    intro x
    rw [List.getElem?_mapIdx, List.getElem?_mapIdx]
    by_cases hx : x < s.length
    · rw [List.getElem?_eq_getElem hx]
      simp only [Option.map_some]
      congr 1
      by_cases hD : D (x, y)
      · rw [if_pos hD, if_pos ((h x y s hg hx).1 hD)]
      · rw [if_neg hD, if_neg (fun he => hD ((h x y s hg hx).2 he))]
    · rw [List.getElem?_eq_none (by omega)]; rfl
theorem mark_mark (g : List (List Int)) (D E : Px → Prop) (n : Int) : mark (mark g D n) E n = mark g (fun p => D p ∨ E p) n := by
  unfold mark
  apply List.ext_getElem?
  intro y
  rw [List.getElem?_mapIdx, List.getElem?_mapIdx, List.getElem?_mapIdx]
  cases hg : g[y]? with
  | none => rfl
  | some s =>
    simp only [Option.map_some]
    congr 1
    apply List.ext_getElem?
    intro x
    rw [List.getElem?_mapIdx, List.getElem?_mapIdx, List.getElem?_mapIdx]
    cases hs : s[x]? with
    | none => rfl
    | some v =>
      simp only [Option.map_some]
      congr 1
      by_cases h1 : E (x, y)
      · rw [if_pos h1, if_pos (.inr h1)]
      · rw [if_neg h1]
        by_cases h2 : D (x, y)
        · rw [if_pos h2, if_pos (.inl h2)]
        · rw [if_neg h2, if_neg (fun h => h.elim h2 h1)]
theorem mark_none {g : List (List Int)} {D : Px → Prop} {n : Int} (h : ∀ p, ¬ D p) : mark g D n = g := by
  unfold mark
  apply List.ext_getElem?
  intro y
  rw [List.getElem?_mapIdx]
  cases hg : g[y]? with
  | none => rfl
  | some s =>
    simp only [Option.map_some]
    congr 1
    apply List.ext_getElem?
    intro x
    rw [List.getElem?_mapIdx]
    cases hs : s[x]? with
    | none => rfl
    | some v => simp [h (x, y)]
theorem gr_at {g : List (List Int)} {x y : Nat} {s : List Int} {v : Int} (h : g[y]? = some s) (hv : s[x]? = some v) : gr g x y = v := by
  unfold gr
  simp [List.getD, h, hv]
theorem gr_mark {g : List (List Int)} {D : Px → Prop} {n : Int} {x y : Nat} {s : List Int} (h : g[y]? = some s) (hx : x < s.length) : (D (x, y) → gr (mark g D n) x y = n) ∧ (¬ D (x, y) → gr (mark g D n) x y = gr g x y) := by
  have e : (mark g D n)[y]? = some (s.mapIdx fun x v => @ite Int (D (x, y)) (Classical.propDecidable _) n v) := by
    unfold mark
    rw [List.getElem?_mapIdx, h]
    rfl
  have e2 : (s.mapIdx fun x v => @ite Int (D (x, y)) (Classical.propDecidable _) n v)[x]? = some (@ite Int (D (x, y)) (Classical.propDecidable _) n s[x]) := by
    rw [List.getElem?_mapIdx, List.getElem?_eq_getElem hx]
    rfl
  refine ⟨fun hD => ?_, fun hD => ?_⟩
  · rw [gr_at e e2, if_pos hD]
  · rw [gr_at e e2, if_neg hD, gr_at h (List.getElem?_eq_getElem hx)]
/-- One sample set. -/
theorem mark_one {g : List (List Int)} {X Y : Nat} {r : List Int} {n : Int} (hr : g[Y]? = some r) : g.set Y (r.set X n) = mark g (fun p => p = (X, Y)) n := by
  obtain ⟨hY, rfl⟩ := List.getElem?_eq_some_iff.1 hr
  unfold mark
  apply List.ext_getElem?
  intro y
  rw [List.getElem?_mapIdx]
  by_cases hy : Y = y
  · subst hy
    rw [List.getElem?_set_self hY, List.getElem?_eq_getElem hY]
    simp only [Option.map_some]
    congr 1
    apply List.ext_getElem?
    intro x
    rw [List.getElem?_mapIdx]
    by_cases hx : X = x
    · subst hx
      rw [List.getElem?_set]
      by_cases hl : X < g[Y].length
      · simp [hl]
      · simp [hl, List.getElem?_eq_none (show g[Y].length ≤ X by omega)]
    · rw [List.getElem?_set_ne hx]
      cases hs : g[Y][x]? with
      | none => rfl
      | some v => simp; exact fun h => absurd h.symm hx
  · rw [List.getElem?_set_ne hy]
    cases hg : g[y]? with
    | none => rfl
    | some s =>
      simp only [Option.map_some]
      congr 1
      apply List.ext_getElem?
      intro x
      rw [List.getElem?_mapIdx]
      cases hs : s[x]? with
      | none => rfl
      | some v => simp; exact fun _ h => absurd h.symm hy
/-! ### A picture and its grid -/
def dims (ys : List (List Bool)) (g : List (List Int)) : Prop := g.length = ys.length ∧ ∀ (k : Nat) r s, ys[k]? = some r → g[k]? = some s → s.length = r.length
theorem dims.mark {ys : List (List Bool)} {g : List (List Int)} (h : dims ys g) (D : Px → Prop) (n : Int) : dims ys (mark g D n) := by
  refine ⟨by rw [markG_len, h.1], fun k r s hr hs => ?_⟩
  obtain ⟨s', h1, h2⟩ := mark_row D n hs
  rw [h2]
  exact h.2 k r s' hr h1
def fr (ys : List (List Bool)) (g : List (List Int)) (p : Px) : Prop := pix ys p.1 p.2 = true ∧ gr g p.1 p.2 = 0
theorem pix_in {ys : List (List Bool)} {x y : Nat} (h : pix ys x y = true) : ∃ r, ys[y]? = some r ∧ x < r.length := by
  unfold pix at h
  rw [if_pos ⟨by omega, by omega⟩] at h
  simp only [Int.toNat_natCast] at h
  rw [List.getD_eq_getElem?_getD, List.getD_eq_getElem?_getD] at h
  cases hy : ys[y]? with
  | none => rw [hy] at h; simp at h
  | some r =>
    rw [hy] at h
    refine ⟨r, rfl, ?_⟩
    simp only [Option.getD_some] at h
    by_cases hx : x < r.length
    · exact hx
    · rw [List.getElem?_eq_none (by omega)] at h; simp at h
theorem dims_in {ys : List (List Bool)} {g : List (List Int)} (hd : dims ys g) {x y : Nat} (h : pix ys x y = true) : ∃ s, g[y]? = some s ∧ x < s.length := by
  obtain ⟨r, h1, h2⟩ := pix_in h
  have hy : y < g.length := by
    have := (List.getElem?_eq_some_iff.1 h1).1
    rw [hd.1]
    exact this
  refine ⟨g[y], List.getElem?_eq_getElem hy, ?_⟩
  rw [hd.2 y r _ h1 (List.getElem?_eq_getElem hy)]
  exact h2
theorem fr_mark {ys : List (List Bool)} {g : List (List Int)} (hd : dims ys g) {n : Int} (hn : n ≠ 0) (D : Px → Prop) (r : Px) : fr ys (mark g D n) r ↔ fr ys g r ∧ ¬ D r := by
  obtain ⟨x, y⟩ := r
  constructor
  · rintro ⟨h1, h2⟩
    obtain ⟨s, h3, h4⟩ := dims_in hd h1
    obtain ⟨k1, k2⟩ := gr_mark (D := D) (n := n) h3 h4
    by_cases hD : D (x, y)
    · exact absurd ((k1 hD).symm.trans h2) hn
    · exact ⟨⟨h1, (k2 hD).symm.trans h2⟩, hD⟩
  · rintro ⟨⟨h1, h2⟩, hD⟩
    obtain ⟨s, h3, h4⟩ := dims_in hd h1
    exact ⟨h1, ((gr_mark (D := D) (n := n) h3 h4).2 hD).trans h2⟩
/-- THE FILL: all that is reached gets the number. -/
noncomputable def fillI (ys : List (List Bool)) (g : List (List Int)) (x y n : Int) : List (List Int) := mark g (RI (fr ys g) x y) n
theorem fillI_dims {ys : List (List Bool)} {g : List (List Int)} (h : dims ys g) (x y n : Int) : dims ys (fillI ys g x y n) := h.mark _ _
theorem RI_congr {U V : Px → Prop} (h : ∀ p, U p ↔ V p) (x y : Int) (r : Px) : RI U x y r ↔ RI V x y r :=
  ⟨fun k => ⟨k.1, k.2.1, k.2.2.mono (fun p => (h p).1)⟩, fun k => ⟨k.1, k.2.1, k.2.2.mono (fun p => (h p).2)⟩⟩
theorem fillI_no {ys : List (List Bool)} {g : List (List Int)} {x y n : Int} (h : ¬ (0 ≤ x ∧ 0 ≤ y ∧ fr ys g (x.toNat, y.toNat))) : fillI ys g x y n = g :=
  mark_none (fun p hp => h ⟨hp.1, hp.2.1, hp.2.2.start⟩)
/-- A fill of a grid that is marked on a closed set. -/
theorem fillI_mark {ys : List (List Bool)} {g : List (List Int)} (hd : dims ys g) {n : Int} (hn : n ≠ 0) {D : Px → Prop} (hc : Clo (fr ys g) D) (x y : Int) :
    fillI ys (mark g D n) x y n = mark g (fun r => D r ∨ RI (fr ys g) x y r) n := by
  unfold fillI
  rw [mark_mark]
  refine mark_congr (fun a b s _ _ => ?_)
  constructor
  · rintro (h | ⟨h1, h2, h3⟩)
    · exact .inl h
    · exact .inr ⟨h1, h2, ((rch_less hc _ _).1 (h3.mono (fun p hp => (fr_mark hd hn D p).1 hp))).2⟩
  · rintro (h | ⟨h1, h2, h3⟩)
    · exact .inl h
    · by_cases hD : D (x.toNat, y.toNat)
      · exact .inl (hc.rch hD h3)
      · exact .inr ⟨h1, h2, ((rch_less hc _ _).2 ⟨hD, h3⟩).mono (fun p hp => (fr_mark hd hn D p).2 hp)⟩
/-- Marking a sample and filling from its four neighbours fills from it. -/
theorem fill_four {ys : List (List Bool)} {g : List (List Int)} (hd : dims ys g) {n : Int} (hn : n ≠ 0) {X Y : Nat} (hp : fr ys g (X, Y)) :
    fillI ys (fillI ys (fillI ys (fillI ys (mark g (fun p => p = (X, Y)) n) ((X : Int) - 1) Y n) ((X : Int) + 1) Y n) X ((Y : Int) - 1) n) X ((Y : Int) + 1) n = fillI ys g X Y n := by
  have hd1 := hd.mark (fun p => p = (X, Y)) n
  have c0 : Clo (fr ys (mark g (fun p => p = (X, Y)) n)) (fun _ => False) := ⟨fun _ h => h.elim, fun _ _ h => h.elim⟩
  have e1 := fillI_mark hd1 hn c0 ((X : Int) - 1) Y
  rw [mark_none (fun _ h => h)] at e1
  have c1 := c0.union ((X : Int) - 1) Y
  have e2 := fillI_mark hd1 hn c1 ((X : Int) + 1) Y
  have c2 := c1.union ((X : Int) + 1) Y
  have e3 := fillI_mark hd1 hn c2 X ((Y : Int) - 1)
  have c3 := c2.union X ((Y : Int) - 1)
  have e4 := fillI_mark hd1 hn c3 X ((Y : Int) + 1)
  rw [e1, e2, e3, e4, mark_mark]
  unfold fillI
  have U1 : ∀ p, fr ys (mark g (fun p => p = (X, Y)) n) p ↔ fr ys g p ∧ ¬ p = (X, Y) := fun p => fr_mark hd hn _ p
  have into : ∀ (x y : Int) (r : Px), 0 ≤ x → 0 ≤ y → adj (X, Y) (x.toNat, y.toNat) → Rch (fr ys (mark g (fun p => p = (X, Y)) n)) (x.toNat, y.toNat) r → Rch (fr ys g) (X, Y) r := by
    intro x y r hx hy ha h
    exact (Rch.step (.base hp) ha ((U1 _).1 h.start).1).trans (h.mono (fun p hp => ((U1 p).1 hp).1))
  refine mark_congr (fun a b s _ _ => ?_)
  constructor
  · rintro (h | ((((h | h) | h) | h) | h))
    · rw [h]
      exact ⟨by omega, by omega, .base hp⟩
    · exact h.elim
    · obtain ⟨h1, h2, h3⟩ := h
      exact ⟨by omega, by omega, into _ _ _ h1 h2 (.inl ⟨by simp, by simp only; omega⟩) h3⟩
    · obtain ⟨h1, h2, h3⟩ := h
      exact ⟨by omega, by omega, into _ _ _ h1 h2 (.inl ⟨by simp, by simp only; omega⟩) h3⟩
    · obtain ⟨h1, h2, h3⟩ := h
      exact ⟨by omega, by omega, into _ _ _ h1 h2 (.inr ⟨by simp, by simp only; omega⟩) h3⟩
    · obtain ⟨h1, h2, h3⟩ := h
      exact ⟨by omega, by omega, into _ _ _ h1 h2 (.inr ⟨by simp, by simp only; omega⟩) h3⟩
  · rintro ⟨_, _, h⟩
    simp only [Int.toNat_natCast] at h
    generalize (a, b) = r at h
    induction h with
    | base _ => exact .inl rfl
    | step h1 h2 h3 ih =>
      rename_i q r
      by_cases hr : r = (X, Y)
      · exact .inl hr
      have hU : fr ys (mark g (fun p => p = (X, Y)) n) r := (U1 r).2 ⟨h3, hr⟩
      right
      rcases ih with h | ((((h | h) | h) | h) | h)
      · subst h
        have hb : Rch (fr ys (mark g (fun p => p = (X, Y)) n)) r r := .base hU
        obtain ⟨rx, ry⟩ := r
        rcases h2 with ⟨k1, k2 | k2⟩ | ⟨k1, k2 | k2⟩ <;> simp only at k1 k2
        · left; left; left; right
          refine ⟨by omega, by omega, ?_⟩
          rw [show (((X : Int) - 1).toNat, ((Y : Int)).toNat) = (rx, ry) by ext <;> simp <;> omega]
          exact hb
        · left; left; right
          refine ⟨by omega, by omega, ?_⟩
          rw [show (((X : Int) + 1).toNat, ((Y : Int)).toNat) = (rx, ry) by ext <;> simp <;> omega]
          exact hb
        · left; right
          refine ⟨by omega, by omega, ?_⟩
          rw [show (((X : Int)).toNat, ((Y : Int) - 1).toNat) = (rx, ry) by ext <;> simp <;> omega]
          exact hb
        · right
          refine ⟨by omega, by omega, ?_⟩
          rw [show (((X : Int)).toNat, ((Y : Int) + 1).toNat) = (rx, ry) by ext <;> simp <;> omega]
          exact hb
      · exact h.elim
      · left; left; left; right
        exact ⟨h.1, h.2.1, .step h.2.2 h2 hU⟩
      · left; left; right
        exact ⟨h.1, h.2.1, .step h.2.2 h2 hU⟩
      · left; right
        exact ⟨h.1, h.2.1, .step h.2.2 h2 hU⟩
      · right
        exact ⟨h.1, h.2.1, .step h.2.2 h2 hU⟩
/-- A list of samples that is closed is what is reached. -/
theorem fill_list {ys : List (List Bool)} {g : List (List Int)} {n : Int} {X Y : Nat} (Q : List Px) (h0 : (X, Y) ∈ Q) (h1 : ∀ q ∈ Q, Rch (fr ys g) (X, Y) q) (h2 : ∀ q ∈ Q, ∀ r, adj q r → fr ys g r → r ∈ Q) :
    mark g (· ∈ Q) n = fillI ys g X Y n := by
  unfold fillI
  refine mark_congr (fun a b s _ _ => ?_)
  constructor
  · intro h
    exact ⟨by omega, by omega, h1 _ h⟩
  · rintro ⟨_, _, h⟩
    simp only [Int.toNat_natCast] at h
    generalize (a, b) = r at h
    induction h with
    | base _ => exact h0
    | step h3 h4 h5 ih => exact h2 _ ih _ h4 h5
/-! ### How many are free -/
def places : List Px := (List.range 16).flatMap fun y => (List.range 16).map fun x => (x, y)
theorem places_mem {x y : Nat} (hx : x < 16) (hy : y < 16) : (x, y) ∈ places := by
  unfold places
  rw [List.mem_flatMap]
  exact ⟨y, List.mem_range.2 hy, List.mem_map.2 ⟨x, List.mem_range.2 hx, rfl⟩⟩
open Classical in
noncomputable def cnt (ys : List (List Bool)) (g : List (List Int)) : Nat := (places.filter fun p => decide (fr ys g p)).length
open Classical in
theorem cnt_mark_le {ys : List (List Bool)} {g : List (List Int)} (hd : dims ys g) {n : Int} (hn : n ≠ 0) (D : Px → Prop) : cnt ys (mark g D n) ≤ cnt ys g := by
  unfold cnt
  generalize places = l
  induction l with
  | nil => simp
  | cons p l ih =>
    rw [List.filter_cons, List.filter_cons]
    by_cases h : fr ys (mark g D n) p
    · rw [if_pos (by simpa using h), if_pos (by simpa using ((fr_mark hd hn D p).1 h).1), List.length_cons, List.length_cons]
      omega
    · rw [if_neg (by simpa using h)]
      split <;> (try rw [List.length_cons]) <;> omega
open Classical in
theorem cnt_mark_lt {ys : List (List Bool)} {g : List (List Int)} (hd : dims ys g) {n : Int} (hn : n ≠ 0) (D : Px → Prop) (p : Px) (hp : p ∈ places) (hf : fr ys g p) (hD : D p) : cnt ys (mark g D n) < cnt ys g := by
  unfold cnt
  have mono : ∀ l : List Px, (l.filter fun p => decide (fr ys (mark g D n) p)).length ≤ (l.filter fun p => decide (fr ys g p)).length := by
    intro l
    induction l with
    | nil => simp
    | cons p l ih =>
      rw [List.filter_cons, List.filter_cons]
      by_cases h : fr ys (mark g D n) p
      · rw [if_pos (by simpa using h), if_pos (by simpa using ((fr_mark hd hn D p).1 h).1), List.length_cons, List.length_cons]
        omega
      · rw [if_neg (by simpa using h)]
        split <;> (try rw [List.length_cons]) <;> omega
  revert hp
  generalize places = l
  intro hp
  induction l with
  | nil => cases hp
  | cons q l ih =>
    rw [List.filter_cons, List.filter_cons]
    rcases List.mem_cons.1 hp with rfl | hp
    · rw [if_neg (by simpa using fun h => ((fr_mark hd hn D _).1 h).2 hD), if_pos (by simpa using hf), List.length_cons]
      have := mono l
      omega
    · have := ih hp
      by_cases h : fr ys (mark g D n) q
      · rw [if_pos (by simpa using h), if_pos (by simpa using ((fr_mark hd hn D q).1 h).1), List.length_cons, List.length_cons]
        omega
      · rw [if_neg (by simpa using h)]
        split <;> (try rw [List.length_cons]) <;> omega
end Go.Proofs.Ytpkcpkhanodnmaa
