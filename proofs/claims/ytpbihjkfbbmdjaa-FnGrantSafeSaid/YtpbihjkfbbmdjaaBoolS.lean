/-
  Slices of Bool: the layout; the contracts of the laws' helpers on []bool.
-/
import Derived.Test.YtpbihjkfbbmdjaaRdr
namespace Go.Proofs.Ytpbihjkfbbmdjaa
open Go Go.RowKit
def LB : Lay Bool := ⟨1, 4, fun x => [(.bool x)], fun _ => rfl, Nat.one_pos, by intro x u hu; simp at hu; subst hu; rfl⟩
theorem LB_info : Nonempty (ElemInfo Try.prog LB 49 false) := ElemInfo.mk' (z := .bool false) (bytes := 1) Try.underlying49 (by kernel_rfl) rfl (by decide)
theorem LB_get {w : World} {v : Value} {xs : List Bool} (h : Rds LB w v xs) : ∃ (a : Option Addr) (n cap : Nat), v = .slice a n cap ∧ n ≤ cap ∧ cap ≤ 9223372036854775807 ∧ RowKit.Hid (n = xs.length) ∧
    RowKit.Hid (∀ k, k < n → ∃ (b off : Nat) (x : Bool), a = some ⟨b, off, none⟩ ∧ b < w.heap.size ∧ RowKit.Hid (xs[k]? = some x) ∧ w.cell? ⟨b, off + k, none⟩ = some (.bool x)) := h.get1 (c := fun x => Value.bool x) rfl (fun _ => rfl)
theorem LB_own {w0 w : World} {v : Value} {xs : List Bool} {Ls : List Asr} (h : St w0 w (Own LB v xs :: Ls)) : ∃ (a : Option Addr) (n cap : Nat), v = .slice a n cap ∧ n ≤ cap ∧ cap ≤ 9223372036854775807 ∧ RowKit.Hid (n = xs.length) ∧
    RowKit.Hid (∀ k, k < n → ∃ (g : Nat) (x : Bool), a = some ⟨g, 0, none⟩ ∧ w0.heap.size ≤ g ∧ g < w.heap.size ∧ RowKit.Hid (xs[k]? = some x) ∧ w.cell? ⟨g, k, none⟩ = some (.bool x) ∧ w.frozen? ⟨g, k, none⟩ = false) := h.ownGet1 (c := fun x => Value.bool x) rfl (fun _ => rfl)
theorem LB_set {w0 w : World} {v : Value} {xs : List Bool} {Ls : List Asr} (h : St w0 w (Own LB v xs :: Ls)) {g : Nat} (hv : v.ownBlock = some g) (k : Nat) (x : Bool) (hk : k < xs.length) : St w0 (w.setCell ⟨g, k, none⟩ (.bool x)) (Own LB v (xs.set k x) :: Ls) := h.setAt1 (c := fun x => Value.bool x) rfl (fun _ => rfl) hv k x _ rfl hk
/-- The j-th mark. -/
def mkBool (k0 : Int) (j : Nat) : Bool := ((k0 + (j : Int)) % 3 == 0)
end Go.Proofs.Ytpbihjkfbbmdjaa
