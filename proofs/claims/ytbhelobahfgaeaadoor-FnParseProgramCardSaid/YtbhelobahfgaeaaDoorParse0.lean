/-
  ParseProgram: what it gives, as plain lists.
-/
import Derived.Test.YtbhelobahfgaeaaDoorReadLaw
import Derived.Test.YtbhelobahfgaeaaDoorFormat
namespace Go.Proofs.YtbhelobahfgaeaaDoor
open Go Go.RowKit
set_option linter.unusedVariables false
def badL (ls : List ByteArray) : Option Nat := ls.findIdx? (fun s => (readI s).isNone)
def cmdsL (ls : List ByteArray) : List Cmd := ls.filterMap readI
def parseN (ls : List ByteArray) : Int := match badL ls with
  | some k => (k : Int) + 1
  | none => if progB (cmdsL ls) then 0 else (ls.length : Int) + 1
def parseL (ls : List ByteArray) : List Cmd := match badL ls with
  | some _ => []
  | none => if progB (cmdsL ls) then cmdsL ls else []
theorem parseL_len (ls : List ByteArray) : (parseL ls).length ≤ 30 := by
  unfold parseL
  split
  · simp
  · split
    · rename_i h
      exact progB_len h
    · simp
theorem badL_at {ls : List ByteArray} {k : Nat} {s : ByteArray} (hb : ∀ (j : Nat) t, j < k → ls[j]? = some t → (readI t).isSome = true) (hs : ls[k]? = some s) (h : readI s = none) : badL ls = some k := by
  unfold badL
  obtain ⟨hk, rfl⟩ := List.getElem?_eq_some_iff.1 hs
  rw [List.findIdx?_eq_some_iff_getElem]
  refine ⟨hk, by rw [h]; rfl, fun j hj => ?_⟩
  have := hb j _ hj (List.getElem?_eq_getElem (by omega))
  intro hn
  rw [Option.isNone_iff_eq_none] at hn
  rw [hn] at this
  cases this
theorem badL_none {ls : List ByteArray} (hb : ∀ (j : Nat) t, j < ls.length → ls[j]? = some t → (readI t).isSome = true) : badL ls = none := by
  unfold badL
  rw [List.findIdx?_eq_none_iff]
  intro x hx
  obtain ⟨j, hj, rfl⟩ := List.getElem_of_mem hx
  have := hb j _ hj (List.getElem?_eq_getElem hj)
  cases hr : readI ls[j] with
  | none => rw [hr] at this; cases this
  | some c => rfl
theorem parse_bad {ls : List ByteArray} {k : Nat} (h : badL ls = some k) : parseN ls = (k : Int) + 1 ∧ parseL ls = [] := by
  unfold parseN parseL
  rw [h]
  exact ⟨rfl, rfl⟩
theorem parse_not {ls : List ByteArray} (h : badL ls = none) (hp : progB (cmdsL ls) = false) : parseN ls = (ls.length : Int) + 1 ∧ parseL ls = [] := by
  unfold parseN parseL
  rw [h]
  simp [hp]
theorem parse_yes {ls : List ByteArray} (h : badL ls = none) (hp : progB (cmdsL ls) = true) : parseN ls = 0 ∧ parseL ls = cmdsL ls := by
  unfold parseN parseL
  rw [h]
  simp [hp]
theorem cmds_step {ls : List ByteArray} {k : Nat} {s : ByteArray} {c : Cmd} (hs : ls[k]? = some s) (h : readI s = some c) : cmdsL (ls.take k) ++ [c] = cmdsL (ls.take (k + 1)) := by
  obtain ⟨hk, rfl⟩ := List.getElem?_eq_some_iff.1 hs
  unfold cmdsL
  rw [List.take_succ_eq_append_getElem hk, List.filterMap_append]
  simp [h]
theorem cmds_len (ls : List ByteArray) : (cmdsL ls).length ≤ ls.length := List.length_filterMap_le _ _
theorem some_step {ls : List ByteArray} {k : Nat} {s : ByteArray} {c : Cmd} (hb : ∀ (j : Nat) t, j < k → ls[j]? = some t → (readI t).isSome = true) (hs : ls[k]? = some s) (h : readI s = some c) : ∀ (j : Nat) t, j < k + 1 → ls[j]? = some t → (readI t).isSome = true := by
  intro j t hj ht
  by_cases hjk : j < k
  · exact hb j t hjk ht
  · obtain rfl : j = k := by omega
    rw [hs] at ht
    obtain rfl := Option.some.inj ht
    rw [h]
    rfl
/-- A program's lines read back. -/
theorem parse_format {xs : List Cmd} (h : progB xs = true) : parseN (formatL xs) = 0 ∧ parseL (formatL xs) = xs := by
  have hr : ∀ (k : Nat) c, xs[k]? = some c → readI (lineB c) = some c := fun k c hc => readI_line (progB_cmd h k c hc)
  have hf : formatL xs = xs.map lineB := by unfold formatL; rw [if_pos h]
  have hc : cmdsL (xs.map lineB) = xs := by
    unfold cmdsL
    rw [List.filterMap_map]
    have : ∀ c ∈ xs, (readI ∘ lineB) c = some c := by
      intro c hc
      obtain ⟨j, hj, rfl⟩ := List.getElem_of_mem hc
      exact hr j _ (List.getElem?_eq_getElem hj)
    clear hr hf h
    induction xs with
    | nil => rfl
    | cons a t ih =>
      rw [List.filterMap_cons, this a (List.mem_cons_self ..), ih (fun c hc => this c (List.mem_cons_of_mem _ hc))]
  have hb : badL (xs.map lineB) = none := by
    refine badL_none (fun j t hj ht => ?_)
    rw [List.getElem?_map] at ht
    cases hx : xs[j]? with
    | none => rw [hx] at ht; cases ht
    | some c =>
      rw [hx] at ht
      obtain rfl := Option.some.inj ht
      rw [hr j c hx]
      rfl
  rw [hf]
  have := parse_yes hb (by rw [hc]; exact h)
  rw [hc] at this
  exact this
end Go.Proofs.YtbhelobahfgaeaaDoor
