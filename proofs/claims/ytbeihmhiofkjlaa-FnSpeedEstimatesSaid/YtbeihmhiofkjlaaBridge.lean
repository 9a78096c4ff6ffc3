/-
  The elder contracts of this seat (Ints, OwnI) read as assertions: Own, Rds. Plain Lean over the model, but for one row of the types' table.
-/
import Derived.Test.YtbeihmhiofkjlaaMem
import Derived.Test.YtbeihmhiofkjlaaInts
namespace Go.Proofs.Ytbeihmhiofkjlaa
open Go Go.RowKit
def LI : Lay Int := ⟨1, 3, fun x => [(.int .i64 x)], fun _ => rfl, Nat.one_pos, by intro x u hu; simp at hu; subst hu; rfl⟩
theorem LI_info : Nonempty (ElemInfo Try.prog LI 32 0) := ElemInfo.mk' (z := .int .i64 0) (bytes := 8) Try.underlying32 (by kernel_rfl) rfl (by decide)
theorem LI_flat (xs : List Int) : LI.flat xs = xs.map (Value.int .i64) := by
  unfold Lay.flat LI
  induction xs with
  | nil => rfl
  | cons x xs ih => simp at ih ⊢; exact ih
theorem Rds.ints {w : World} {v : Value} {xs : List Int} (h : Rds LI w v xs) : Ints w v xs := by
  obtain ⟨a, cap, hv, h1, h2, h3⟩ := h
  refine ⟨a, cap, hv, h1, h2, ?_⟩
  rcases h3 with h3 | ⟨b, off, ha, h3⟩
  · exact .inl h3
  · refine .inr ⟨b, off, ha, fun j hj => h3 j _ ?_⟩
    rw [LI_flat, List.getElem?_map, List.getElem?_eq_getElem hj]
    rfl
theorem St.ofI {w0 w w' : World} {Ls : List Asr} {u : Value} {l : List Int} (S : St w0 w Ls) (o : OwnI w.heap.size w' u l) (g : w.grownBy w' none) : St w0 w' (Own LI u l :: Ls) := by
  refine S.push g (F := u.ownBlock.toList) ⟨?_, rfl⟩ (fun b hb => (o.lt b (by simpa using hb)).1)
  have := o.mono (Nat.zero_le _)
  unfold OwnAt
  rw [LI_flat]
  exact this
theorem LI_get {w : World} {v : Value} {xs : List Int} (h : Rds LI w v xs) : ∃ (a : Option Addr) (n cap : Nat), v = .slice a n cap ∧ n ≤ cap ∧ cap ≤ 9223372036854775807 ∧ RowKit.Hid (n = xs.length) ∧
    RowKit.Hid (∀ k, k < n → ∃ (b off : Nat) (x : Int), a = some ⟨b, off, none⟩ ∧ b < w.heap.size ∧ RowKit.Hid (xs[k]? = some x) ∧ w.cell? ⟨b, off + k, none⟩ = some (.int .i64 x)) := h.get1 (c := fun x => Value.int .i64 x) rfl (fun _ => rfl)
/-- Opened: the block once, the cells by place. -/
theorem ints_at {w : World} {v : Value} {os : List Int} (h : Rds LI w v os) : ∃ (a : Option Addr) (n cap : Nat), v = .slice a n cap ∧ n ≤ cap ∧ cap ≤ 9223372036854775807 ∧ RowKit.Hid (n = os.length) ∧
    (n = 0 ∨ ∃ b off : Nat, a = some ⟨b, off, none⟩ ∧ RowKit.Hid (∀ k, k < n → w.cell? ⟨b, off + k, none⟩ = some (.int .i64 (os.getD k 0)))) := by
  obtain ⟨a, n, cap, rfl, h1, hm, HN, HC⟩ := LI_get h
  refine ⟨a, n, cap, rfl, h1, hm, HN, ?_⟩
  by_cases hn : n = 0
  · exact .inl hn
  obtain ⟨b, off, _, rfl, _⟩ := HC.out 0 (by omega)
  refine .inr ⟨b, off, rfl, fun k hk => ?_⟩
  obtain ⟨b', off', x, hab, hb, hx, hc⟩ := HC.out k hk
  obtain ⟨rfl, rfl⟩ : b = b' ∧ off = off' := by simpa using hab
  rw [List.getD_eq_getElem?_getD, hx.out]
  exact hc
end Go.Proofs.Ytbeihmhiofkjlaa
