/-
  A region that draws its order, whose operations read and whose calls leave what was there as it was: what the one walk asks. Plain Lean over the model: no function of the program.
-/
import Derived.Test.YtbhelobahfgaeaaDoorMem
import Derived.Lib.QuietBelow
import Derived.BigQuiet
namespace Go.Proofs.YtbhelobahfgaeaaDoor
open Go Go.RowKit Go.Sort
theorem qg (w : World) (d : Nat) (os : Array Obj) : w.grownBy (grow (redrawn w d) os) none := below_gb (below_regrown w d os)
theorem qc {P : Program} {f : FuncId} {args : Array Value} {w : World} {d : Nat} {os : Array Obj} {v : Value}
    (h : Calls P f args (grow (redrawn w d) os) fun e w' => e = .returned v ∧ (grow (redrawn w d) os).grownBy w' none) : Calls P f args (grow (redrawn w d) os) fun e w'' => e = .returned v ∧ ∃ p : Regrown, w'' = grow (redrawn w p.d) p.os :=
  Calls.regrown_of (h.mono fun _ _ ⟨he, hg⟩ => ⟨he, gb_below hg⟩)
theorem qc0 {P : Program} {f : FuncId} {args : Array Value} {w : World} {d : Nat} {os : Array Obj} {v : Value}
    (h : Calls P f args (grow (redrawn w d) os) fun e w' => e = .returned v ∧ grow (redrawn w d) os = w') : Calls P f args (grow (redrawn w d) os) fun e w'' => e = .returned v ∧ ∃ p : Regrown, w'' = grow (redrawn w p.d) p.os :=
  qc (h.mono fun _ _ ⟨he, hw⟩ => ⟨he, by rw [hw]; exact World.grownBy.refl _ _⟩)
theorem qcell {w : World} {a : Addr} {v : Value} (h : w.cell? a = some v) : ∀ d os, (grow (redrawn w d) os).cell? a = some v := fun d os => cell_regrown h d os
theorem qrds {α : Type} {L : Lay α} {w : World} {v : Value} {xs : List α} (h : Rds L w v xs) : ∀ d os, Rds L (grow (redrawn w d) os) v xs := fun d os => h.kept (qg w d os)
end Go.Proofs.YtbhelobahfgaeaaDoor
