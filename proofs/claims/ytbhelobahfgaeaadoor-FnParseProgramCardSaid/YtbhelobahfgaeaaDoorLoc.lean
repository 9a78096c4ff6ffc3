/-
  A local variable's block, known whole: an assertion. Plain Lean over the model.
-/
import Derived.Test.YtbhelobahfgaeaaDoorMem
namespace Go.Proofs.YtbhelobahfgaeaaDoor
open Go Go.RowKit
def Loc (b : Nat) (T : TypeId) (cs : Array Value) : Asr where
  at_ w F := w.heap[b]? = some (.cells cs T (0, 0)) ∧ F = [b]
  lt := by
    rintro w F ⟨h, rfl⟩ c hc
    simp at hc
    subst hc
    exact lt_of_block h
  keep := by
    rintro w w' F ⟨h, rfl⟩ he
    exact ⟨(he b (by simp)).trans h, rfl⟩
section
variable {w0 w : World} {Ls : List Asr} {b : Nat} {T : TypeId} {cs : Array Value}
theorem St.loc (S : St w0 w Ls) (cs : Array Value) (T : TypeId) : St w0 (w.alloc (.cells cs T)) (Loc w.heap.size T cs :: Ls) :=
  S.push (World.grownBy_alloc _ _ _) (F := [w.heap.size]) ⟨heap_alloc_new w _, rfl⟩ (by simp)
theorem St.locCell (S : St w0 w (Loc b T cs :: Ls)) (j : Nat) (u : Value) (h : cs[j]? = some u) : w.cell? ⟨b, j, none⟩ = some u := by
  obtain ⟨F, ⟨hb, _⟩, _⟩ := S.head
  rw [cell_of_row w b j cs T (0, 0) hb, h]
theorem St.locFrozen (S : St w0 w (Loc b T cs :: Ls)) (j : Nat) : w.frozen? ⟨b, j, none⟩ = false := by
  obtain ⟨F, ⟨hb, _⟩, _⟩ := S.head
  simp [World.frozen?, hb]
theorem St.locLt (S : St w0 w (Loc b T cs :: Ls)) : w0.heap.size ≤ b ∧ b < w.heap.size := by
  obtain ⟨F, ⟨hb, rfl⟩, h⟩ := S.head
  exact h b (by simp)
theorem St.locSet (S : St w0 w (Loc b T cs :: Ls)) (i : Nat) (u : Value) : St w0 (w.setCell ⟨b, i, none⟩ u) (Loc b T (cs.setIfInBounds i u) :: Ls) := by
  obtain ⟨F, ⟨hb, rfl⟩, h, hw⟩ := S.writeBy
  refine hw _ _ [b] (some b) (gb_set1 w b i u) (by simp) ⟨?_, rfl⟩ (by simp)
  simp [World.setCell, Array.getElem?_modify, hb]
end
end Go.Proofs.YtbhelobahfgaeaaDoor
