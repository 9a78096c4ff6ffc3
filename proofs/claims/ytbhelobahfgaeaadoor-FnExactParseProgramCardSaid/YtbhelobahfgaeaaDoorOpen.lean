/-
  Arguments that come in, opened to what the walks read: slices of whatever elements. Plain Lean over the model: no function of the program.
-/
import Derived.Test.YtbhelobahfgaeaaDoorDeep
import Derived.Deep.Slices
import Derived.Deep.Fields
import Derived.ChangeSame
namespace Go.Proofs.YtbhelobahfgaeaaDoor
open Go Go.RowKit Go.ChangeShapes Go.WideShapes Go.Deep

section
variable {H : Type} {enc : TypeId × Value → H} {P : Program} {w : World} {base : Nat} {spare : Nat → Bool} {held : Bool}
theorem flat_range {α : Type} (L : Lay α) (f : Nat → α) (n j : Nat) (u : Value) (h : (L.flat ((List.range n).map f))[j]? = some u) :
    ∃ k r, k < n ∧ r < L.s ∧ j = k * L.s + r ∧ (L.enc (f k))[r]? = some u := by
  have hj : j < n * L.s := by
    have := (List.getElem?_eq_some_iff.1 h).1
    rwa [L.flat_len, List.length_map, List.length_range] at this
  have hk : j / L.s < n := Nat.div_lt_of_lt_mul (by rw [Nat.mul_comm]; exact hj)
  have hr : j % L.s < L.s := Nat.mod_lt _ L.pos
  have e : j / L.s * L.s + j % L.s = j := by rw [Nat.mul_comm]; exact Nat.div_add_mod j L.s
  refine ⟨j / L.s, j % L.s, hk, hr, e.symm, ?_⟩
  have h2 := L.flat_at ((List.range n).map f) (j / L.s) (j % L.s) (by simpa using hk) hr
  rw [e, h] at h2
  rw [h2]
  simp
theorem open_rds {α : Type} [Inhabited α] (L : Lay α) (Q : α → Prop) {t e : TypeId} {fuel : Nat} {v : Value} {x : DataW H × List MemPlace} (ht : P.underlying t = some (.slice e)) (hC : P.cellsOf e = L.s)
    (h : DataW.trod enc P w base spare held fuel t [v] = some x)
    (hel : ∀ (cs : List Value) (n : Nat) (y : DataW H × List MemPlace), cs.length = L.s → DataW.trod enc P w base spare held n e cs = some y → ∃ z, L.enc z = cs ∧ Q z) :
    ∃ xs, Rds L w v xs ∧ ∀ z ∈ xs, Q z := by
  rcases open_slice ht h with ⟨h0, _⟩ | ⟨a, len, cap, m, n, D, Pl, hv, hb, hl, hm, hmm, hx, hi⟩
  · obtain rfl : v = .slice none 0 0 := by simpa using h0
    exact ⟨[], Rds.nil L w, by simp⟩
  obtain rfl : v = .slice (some a) len cap := by simpa using hv
  have hlm : len ≤ m := by rw [hmm]; split <;> omega
  obtain ⟨f, hf⟩ := choose_lt (n := len) (p := fun i z => (∃ cs, L.enc z = cs ∧ ∀ r, r < L.s → w.cell? (a.add (i * L.s + r)) = cs[r]?) ∧ Q z) (fun i hil => by
    obtain ⟨cs, hc, ht⟩ := hi i (by omega)
    obtain ⟨_, hlen, hat⟩ := World.cells?_some hc
    rw [hC] at hlen hat
    obtain ⟨z, hz, hq⟩ := hel cs n _ hlen ht
    refine ⟨z, ⟨cs, hz, fun r hr => ?_⟩, hq⟩
    rw [← Go.Deep.add_add]
    exact hat r hr)
  refine ⟨(List.range len).map f, ⟨some a, cap, by simp, by simpa using hl, hm, ?_⟩, fun z hz => ?_⟩
  · by_cases h0 : len = 0
    · left; simp [h0]
    right
    have hs := L.pos
    obtain ⟨⟨cs, h1, h2⟩, _⟩ := hf 0 (by omega)
    have hl2 := L.len (f 0)
    rw [h1] at hl2
    have hc0 := h2 0 hs
    rw [List.getElem?_eq_getElem (by omega), Nat.zero_mul] at hc0
    obtain ⟨b, off, rfl⟩ := addr_at hc0
    refine ⟨b, off, rfl, fun j u hu => ?_⟩
    obtain ⟨k, r, hk, hr, rfl, he⟩ := flat_range L f len j u hu
    obtain ⟨⟨cs, h1, h2⟩, _⟩ := hf k hk
    have := h2 r hr
    rw [← h1, he, Addr.add_lit] at this
    exact this
  · obtain ⟨i, hi, rfl⟩ := List.mem_map.1 hz
    exact (hf i (List.mem_range.1 hi)).2
theorem list_choose {α β : Type} (R : α → β → Prop) : ∀ xs : List α, (∀ z ∈ xs, ∃ y, R z y) → ∃ ys : List β, xs.length = ys.length ∧ ∀ (k : Nat) x y, xs[k]? = some x → ys[k]? = some y → R x y
  | [], _ => ⟨[], rfl, by simp⟩
  | x :: xs, h => by
    obtain ⟨ys, hl, hr⟩ := list_choose R xs (fun z hz => h z (List.mem_cons_of_mem _ hz))
    obtain ⟨y, hy⟩ := h x List.mem_cons_self
    refine ⟨y :: ys, by simp [hl], fun k a b ha hb => ?_⟩
    cases k with
    | zero => simp at ha hb; subst ha hb; exact hy
    | succ k => exact hr k a b (by simpa using ha) (by simpa using hb)
theorem open_drds {α β : Type} [Inhabited α] (L : Lay α) (D : Deep α β) {t e : TypeId} {fuel : Nat} {v : Value} {x : DataW H × List MemPlace} (ht : P.underlying t = some (.slice e)) (hC : P.cellsOf e = L.s)
    (h : DataW.trod enc P w base spare held fuel t [v] = some x)
    (hel : ∀ (cs : List Value) (n : Nat) (y : DataW H × List MemPlace), cs.length = L.s → DataW.trod enc P w base spare held n e cs = some y → ∃ z, L.enc z = cs ∧ ∃ y, D.rd w z y) :
    ∃ ys, DRds L D w v ys := by
  obtain ⟨xs, h1, h2⟩ := open_rds L (fun z => ∃ y, D.rd w z y) ht hC h hel
  obtain ⟨ys, h3, h4⟩ := list_choose (fun z y => D.rd w z y) xs h2
  exact ⟨ys, xs, h1, h3, h4⟩
/-- The fields of a struct of one-cell fields. -/
theorem open_fields {e : TypeId} {fs : Array Field} {n : Nat} {cs : List Value} {y : DataW H × List MemPlace} (he : P.underlying e = some (.struct fs)) (hone : oneCellFields P fs = true) (hl : cs.length = fs.size)
    (h : DataW.trod enc P w base spare held n e cs = some y) : ∃ m, ∀ (j : Nat) (f : Field), fs[j]? = some f → ∃ (v : Value) (z : DataW H × List MemPlace), cs[j]? = some v ∧ DataW.trod enc P w base spare held m f.type [v] = some z := by
  obtain ⟨ys, n', _, _, hlen, hyl, hf⟩ := DataW.trod_struct he h
  refine ⟨n', fun j f hj => ?_⟩
  obtain ⟨ho, hk⟩ := hone_of hone j f hj
  have hjl : j < fs.size := (Array.getElem?_eq_some_iff.1 hj).1
  have hv : cs[j]? = some (cs[j]'(by omega)) := List.getElem?_eq_getElem (by omega)
  have h1 := hf j f hj
  rw [ho, hk] at h1
  have hone' : (cs.drop j).take 1 = [cs[j]'(by omega)] := by
    rw [List.drop_eq_getElem_cons (by omega)]
    rfl
  rw [hone'] at h1
  have hys : ys[j]? = some (ys[j]'(by omega)) := List.getElem?_eq_getElem (by omega)
  exact ⟨_, _, hv, h1.trans hys⟩
theorem open_intv {e : TypeId} {n : Nat} {v : Value} {y : DataW H × List MemPlace} (he : P.underlying e = some (.int .i64)) (h : DataW.trod enc P w base spare held n e [v] = some y) : ∃ a : Int, v = .int .i64 a := by
  obtain ⟨a, hc, _, _⟩ := DataW.trod_int he h
  exact ⟨a, by simpa using hc⟩
theorem open_lone {cs : List Value} (h : cs.length = 1) : ∃ v, cs = [v] := by
  match cs, h with
  | [v], _ => exact ⟨v, rfl⟩
end
theorem list_eq2 {α : Type} {cs : List α} {b0 b1 : α} (hl : cs.length = 2) (e0 : cs[0]? = some b0) (e1 : cs[1]? = some b1) : cs = [b0, b1] := by
  match cs, hl, e0, e1 with
  | [f0, f1], _, g0, g1 =>
    rw [Option.some.inj (show some f0 = some b0 from g0), Option.some.inj (show some f1 = some b1 from g1)]
theorem list_eq3 {α : Type} {cs : List α} {b0 b1 b2 : α} (hl : cs.length = 3) (e0 : cs[0]? = some b0) (e1 : cs[1]? = some b1) (e2 : cs[2]? = some b2) : cs = [b0, b1, b2] := by
  match cs, hl, e0, e1, e2 with
  | [f0, f1, f2], _, g0, g1, g2 =>
    rw [Option.some.inj (show some f0 = some b0 from g0), Option.some.inj (show some f1 = some b1 from g1), Option.some.inj (show some f2 = some b2 from g2)]
theorem list_eq4 {α : Type} {cs : List α} {b0 b1 b2 b3 : α} (hl : cs.length = 4) (e0 : cs[0]? = some b0) (e1 : cs[1]? = some b1) (e2 : cs[2]? = some b2) (e3 : cs[3]? = some b3) : cs = [b0, b1, b2, b3] := by
  match cs, hl, e0, e1, e2, e3 with
  | [f0, f1, f2, f3], _, g0, g1, g2, g3 =>
    rw [Option.some.inj (show some f0 = some b0 from g0), Option.some.inj (show some f1 = some b1 from g1), Option.some.inj (show some f2 = some b2 from g2), Option.some.inj (show some f3 = some b3 from g3)]
theorem list_eq7 {α : Type} {cs : List α} {b0 b1 b2 b3 b4 b5 b6 : α} (hl : cs.length = 7) (e0 : cs[0]? = some b0) (e1 : cs[1]? = some b1) (e2 : cs[2]? = some b2) (e3 : cs[3]? = some b3) (e4 : cs[4]? = some b4) (e5 : cs[5]? = some b5) (e6 : cs[6]? = some b6) : cs = [b0, b1, b2, b3, b4, b5, b6] := by
  match cs, hl, e0, e1, e2, e3, e4, e5, e6 with
  | [f0, f1, f2, f3, f4, f5, f6], _, g0, g1, g2, g3, g4, g5, g6 =>
    rw [Option.some.inj (show some f0 = some b0 from g0), Option.some.inj (show some f1 = some b1 from g1), Option.some.inj (show some f2 = some b2 from g2), Option.some.inj (show some f3 = some b3 from g3), Option.some.inj (show some f4 = some b4 from g4), Option.some.inj (show some f5 = some b5 from g5), Option.some.inj (show some f6 = some b6 from g6)]
end Go.Proofs.YtbhelobahfgaeaaDoor
