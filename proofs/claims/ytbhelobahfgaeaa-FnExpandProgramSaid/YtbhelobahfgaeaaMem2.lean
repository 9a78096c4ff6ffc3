/-
  append in a guarded operation; a copy of rows with more behind it, as data. Plain Lean over the model: no function of the program.
-/
import Derived.Test.YtbhelobahfgaeaaDeep
namespace Go.Proofs.Ytbhelobahfgaeaa
open Go Go.RowKit
section
variable {P : Program} {α : Type} {L : Lay α} {t : TypeId} {x0 : α} {w0 w : World} {v : Value} {xs : List α} {Ls : List Asr}
theorem wpList_app1G (D : Nonempty (ElemInfo P L t x0)) {ops : Array Oper} {rest : List Oper} {o : Oper} {a : Act} {Q : Exit → Act → World → Prop} (hwt : Region.wanted o (yielded ops a.tmps) = true) (s x : Operand) (ho : o.op = .call { callee := .builtin .append, args := #[s, x], argTypes := #[t, t] })
    (S : St w0 w (Own L v xs :: Ls)) (y : α) (cs : Array Value) (hc : cs.toList = L.enc y) (hs : a.eval s = v) (hx : a.eval x = .slice (some ⟨w.heap.size, 0, none⟩) 1 1) (hn : xs.length ≤ 1000000000)
    (h : ∀ v' w', St w0 w' (Own L v' (xs ++ [y]) :: Ls) → wpList P ops Q rest (a.put o.dst v') w') : wpList P ops Q (o :: rest) a (w.alloc (.cells cs L.T)) :=
  wpList_step fun K hK => by
    rw [if_pos hwt]
    exact wp_app D s x ho (S.alloc _) hs [y] ⟨w.heap.size, 0, none⟩ 1 1 hx rfl (fun j u hu => by
      rw [L.flat_one, ← hc, Array.getElem?_toList] at hu
      rw [Addr.add_lit, Nat.zero_add, cell_of_row _ _ _ _ _ _ (heap_alloc_new w _)]
      exact hu) (by simp; omega) fun v' w' S' => hK _ _ (h v' w' S')
theorem wpList_appRG (D : Nonempty (ElemInfo P L t x0)) {ops : Array Oper} {rest : List Oper} {o : Oper} {a : Act} {Q : Exit → Act → World → Prop} (hwt : Region.wanted o (yielded ops a.tmps) = true) (s x : Operand) (ho : o.op = .call { callee := .builtin .append, args := #[s, x], argTypes := #[t, t] })
    (S : St w0 w (Own L v xs :: Ls)) (ys : List α) (u : Value) (hr : Rds L w u ys) (hs : a.eval s = v) (hx : a.eval x = u) (hn : xs.length + ys.length ≤ 1099511627776)
    (h : ∀ v' w', St w0 w' (Own L v' (xs ++ ys) :: Ls) → wpList P ops Q rest (a.put o.dst v') w') : wpList P ops Q (o :: rest) a w :=
  wpList_step fun K hK => by
    rw [if_pos hwt]
    exact wp_appR D s x ho S hs ys u hx hr hn fun v' w' S' => hK _ _ (h v' w' S')
end
/-- A copy of the elements' places with more behind it, as data. -/
theorem drds_app {α β : Type} {L : Lay α} {D : Deep α β} {w w2 : World} {v : Value} {xs zs : List α} {ys us : List β} (hl : xs.length = ys.length) (hr : ∀ (k : Nat) x y, xs[k]? = some x → ys[k]? = some y → D.rd w x y) (hg : w.grownBy w2 none)
    (hv : Rds L w2 v (xs ++ zs)) (hl2 : zs.length = us.length) (hx : ∀ (k : Nat) x y, zs[k]? = some x → us[k]? = some y → D.rd w2 x y) : DRds L D w2 v (ys ++ us) := by
  refine ⟨xs ++ zs, hv, by simp [hl, hl2], fun k a b ha hb => ?_⟩
  by_cases hk : k < xs.length
  · rw [List.getElem?_append_left hk] at ha
    rw [List.getElem?_append_left (by omega)] at hb
    exact D.kept (hr k a b ha hb) hg
  · rw [List.getElem?_append_right (by omega)] at ha
    rw [List.getElem?_append_right (by omega), ← hl] at hb
    exact hx _ a b ha hb
theorem drds_app1 {α β : Type} {L : Lay α} {D : Deep α β} {w w2 : World} {v : Value} {xs : List α} {ys : List β} {z : α} {u : β} (hl : xs.length = ys.length) (hr : ∀ (k : Nat) x y, xs[k]? = some x → ys[k]? = some y → D.rd w x y) (hg : w.grownBy w2 none)
    (hv : Rds L w2 v (xs ++ [z])) (hx : D.rd w2 z u) : DRds L D w2 v (ys ++ [u]) := by
  refine drds_app hl hr hg hv rfl (fun k a b ha hb => ?_)
  have hk : k < [z].length := (List.getElem?_eq_some_iff.1 ha).1
  obtain rfl : k = 0 := by simpa using hk
  simp at ha hb
  subst ha hb
  exact hx
end Go.Proofs.Ytbhelobahfgaeaa
