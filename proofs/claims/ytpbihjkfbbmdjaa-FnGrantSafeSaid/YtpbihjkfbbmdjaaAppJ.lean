/-
  What stands while a region whose order is open makes a literal, appends a list to it, makes a literal of one and appends that too. Plain Lean over the model.
-/
import Derived.Test.YtpbihjkfbbmdjaaMem
namespace Go.Proofs.Ytpbihjkfbbmdjaa
open Go Go.RowKit
def asr (b : Bool) (A : Asr) : List Asr := if b then [A] else []
theorem asr_t (A : Asr) : asr true A = [A] := rfl
theorem asr_f (A : Asr) : asr false A = [] := rfl
/-- A literal, a list appended to it, a literal of one, that appended too: which of these are done. -/
def JR {α : Type} (L : Lay α) (z : α) (wS : World) (l0 xs : List α) (d0 d1 d2 d3 : Bool) (v0 v1 v2 v3 : Value) (w : World) : Prop :=
  St wS w (asr (d0 && !d1) (Own L v0 l0) ++ (asr (d1 && !d3) (Own L v1 (l0 ++ xs)) ++ (asr (d2 && !d3) (Own L v2 [z]) ++ asr d3 (Own L v3 ((l0 ++ xs) ++ [z])))))
section
variable {α : Type} {L : Lay α} {z : α} {wS w w' : World} {l0 xs : List α} {d0 d1 d2 d3 : Bool} {v0 v1 v2 v3 : Value}
theorem JR.gb (h : JR L z wS l0 xs d0 d1 d2 d3 v0 v1 v2 v3 w) : wS.grownBy w none := St.gb h
theorem JR.grow (h : JR L z wS l0 xs d0 d1 d2 d3 v0 v1 v2 v3 w) (g : w.grownBy w' none) : JR L z wS l0 xs d0 d1 d2 d3 v0 v1 v2 v3 w' := St.grow h g
theorem JR.start (L : Lay α) (z : α) (wS : World) (l0 xs : List α) (v0 v1 v2 v3 : Value) (w : World) (h : St wS w []) : JR L z wS l0 xs false false false false v0 v1 v2 v3 w := h
theorem JR.lit0 (h : JR L z wS l0 xs d0 d1 d2 d3 v0 v1 v2 v3 w) (h0 : d0 = false) (h1 : d1 = false) (cells : Array Value) (hc : cells.toList = L.flat l0) (hn : l0.length ≤ maxLen) :
    JR L z wS l0 xs true d1 d2 d3 (.slice (some ⟨w.heap.size, 0, none⟩) l0.length l0.length) v1 v2 v3 (w.alloc (.cells cells L.T)) := by
  subst h0
  subst h1
  exact St.ownLit L h l0 cells hc hn
theorem JR.lit1 (h : JR L z wS l0 xs d0 d1 d2 d3 v0 v1 v2 v3 w) (h2 : d2 = false) (h3 : d3 = false) (cells : Array Value) (hc : cells.toList = L.flat [z]) :
    JR L z wS l0 xs d0 d1 true d3 v0 v1 (.slice (some ⟨w.heap.size, 0, none⟩) 1 1) v3 (w.alloc (.cells cells L.T)) := by
  subst h2
  subst h3
  have S := St.ownLit L h [z] cells hc (show 1 ≤ maxLen by decide)
  refine St.perm S ?_
  simp only [asr_f, List.append_nil, Bool.and_false, Bool.false_and, Bool.not_false, Bool.and_true, Bool.true_and, asr_t, List.nil_append]
  rw [← List.append_assoc]
  exact List.perm_append_comm (l₁ := [_])
theorem JR.s1 (h : JR L z wS l0 xs d0 d1 d2 d3 v0 v1 v2 v3 w) (h0 : d0 = true) (h1 : d1 = false) (h3 : d3 = false) : St wS w (Own L v0 l0 :: asr d2 (Own L v2 [z])) := by
  subst h0
  subst h1
  subst h3
  unfold JR at h
  simpa [asr_f, asr_t] using h
theorem JR.t1 (h : St wS w (Own L v1 (l0 ++ xs) :: asr d2 (Own L v2 [z]))) (h0 : d0 = true) (h3 : d3 = false) : JR L z wS l0 xs d0 true d2 d3 v0 v1 v2 v3 w := by
  subst h0
  subst h3
  unfold JR
  simpa [asr_f, asr_t] using h
theorem JR.s2 (h : JR L z wS l0 xs d0 d1 d2 d3 v0 v1 v2 v3 w) (h0 : d0 = true) (h1 : d1 = true) (h2 : d2 = true) (h3 : d3 = false) : St wS w [Own L v1 (l0 ++ xs), Own L v2 [z]] := by
  subst h0
  subst h1
  subst h2
  subst h3
  exact h
theorem JR.t2 (h : St wS w [Own L v3 ((l0 ++ xs) ++ [z]), Own L v2 [z]]) (h0 : d0 = true) (h1 : d1 = true) : JR L z wS l0 xs d0 d1 d2 true v0 v1 v2 v3 w := by
  subst h0
  subst h1
  unfold JR
  have := St.drop1 (Ms := [_]) h
  simpa [asr_f, asr_t] using this
theorem JR.fin (h : JR L z wS l0 xs d0 d1 d2 d3 v0 v1 v2 v3 w) (h3 : d3 = true) (h1 : d1 = true) (h0 : d0 = true) : St wS w [Own L v3 ((l0 ++ xs) ++ [z])] := by
  subst h0
  subst h1
  subst h3
  unfold JR at h
  simpa [asr_f, asr_t] using h
theorem JR.rds (h : JR L z wS l0 xs d0 d1 d2 d3 v0 v1 v2 v3 w) (h3 : d3 = true) (h1 : d1 = true) (h0 : d0 = true) : Rds L w v3 ((l0 ++ xs) ++ [z]) := St.own (JR.fin h h3 h1 h0)
end
end Go.Proofs.Ytpbihjkfbbmdjaa
