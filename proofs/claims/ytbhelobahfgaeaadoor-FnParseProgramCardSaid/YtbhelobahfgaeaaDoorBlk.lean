/-
  What a row of the call's own lies in. Plain Lean over the model.
-/
import Derived.Test.YtbhelobahfgaeaaDoorMem
namespace Go.Proofs.YtbhelobahfgaeaaDoor
open Go Go.RowKit
section
variable {α : Type} {L : Lay α} {w0 w w' : World} {xs : List α} {Ls : List Asr}
/-- What is not empty lies in a block. -/
theorem St.ownBlk {v : Value} (h : St w0 w (Own L v xs :: Ls)) (hne : 0 < xs.length) : ∃ g cap, v = .slice (some ⟨g, 0, none⟩) xs.length cap ∧ xs.length ≤ cap ∧ cap ≤ 9223372036854775807 := by
  obtain ⟨F, ⟨h1, _⟩, _⟩ := h.head
  rcases h1.form with ⟨_, rfl⟩ | ⟨g, cap, cur, hv, hn, hm, _⟩
  · simp at hne
  · exact ⟨g, cap, hv, hn, by unfold maxLen at hm; omega⟩
theorem St.lower (hg : w0.grownBy w none) (S : St w w' Ls) : St w0 w' Ls := by
  obtain ⟨h1, F, h2, h3⟩ := S
  exact ⟨gb_trans hg h1, F, h2, fun b hb => Nat.le_trans hg.size (h3 b hb)⟩
theorem St.rot2 {A B C : Asr} (h : St w0 w (A :: B :: C :: Ls)) : St w0 w (B :: C :: A :: Ls) := h.rot.rot
theorem rds_lit {α : Type} (L : Lay α) (w : World) (xs : List α) (cells : Array Value) (hc : cells.toList = L.flat xs) (hn : xs.length ≤ maxLen) :
    Rds L (w.alloc (.cells cells L.T)) (.slice (some ⟨w.heap.size, 0, none⟩) xs.length xs.length) xs := St.own ((St.refl w).ownLit L xs cells hc hn)
variable {P : Program} {t : TypeId} {x0 : α} {v : Value}
/-- append in a guarded operation of a region whose order is open. -/
theorem step_appRG (D : Nonempty (ElemInfo P L t x0)) {ops : Array Oper} {o : Oper} {a : Act} {K : Act → World → Prop} {Q : Exit → Act → World → Prop} {E : Prop} (hwt : Region.wanted o (yielded ops a.tmps) = true) (s x : Operand) (ho : o.op = .call { callee := .builtin .append, args := #[s, x], argTypes := #[t, t] })
    (S : St w0 w (Own L v xs :: Ls)) (ys : List α) (u : Value) (hr : Rds L w u ys) (hs : a.eval s = v) (hx : a.eval x = u) (hn : xs.length + ys.length ≤ 1099511627776)
    (h : ∀ v' w', St w0 w' (Own L v' (xs ++ ys) :: Ls) → K (a.put o.dst v') w') : if Region.wanted o (yielded ops a.tmps) = true then Oper.wp P o a w K Q else E := by
  rw [if_pos hwt]
  exact wp_appR D s x ho S hs ys u hx hr hn h
end
end Go.Proofs.YtbhelobahfgaeaaDoor
