/-
  No cell of these rows narrows 'for every input' (looked for: loops, veiled, ifaces, maps, wideKeys, modest, calm, conditions, laid).
  DERIVED. THE GIVEN ROWS OF THIS SEAT. 5 by the template 'for every input the law returns true; each argument reads behind the call as it read before'; 0 by the template 'total and deterministic' (their statements: YtbhelobahfgaeaaTotals.lean).
  GIVEN WITH THE SEED: the statements are not yours to turn. If you find one false, say at which input.
  Laid BY PROGRAM, IN A SANDBOX (cutbox-rows.mjs): the forced cells as the released guide's own fill.sh prints them over the translation 3cdcc6598d65fe1d… (all of the seat's roots in one cut). By AI agents, Wed Nov 11 2026. No macro, syntax, notation, axiom, sorry.
-/
import Derived.Test.YtbhelobahfgaeaaChecked
import GoSem.Claim
import GoSem.ClaimJoined
import GoSem.ClaimMapViews
import Derived.JoinedTies
import Derived.KernelRfl
namespace Go.Proofs.Ytbhelobahfgaeaa
/- THE CELL 'sum', in the pinned program and in every row, IS THE sha256 OF THE DUMP (.gsa) THAT YtbhelobahfgaeaaProg.lean LOADS. Nothing in Lean hashes anything: it is a label: what it is worth is what the hold of that sum in a sandbox is worth. -/
noncomputable def Try.pinned : Pinned := { name := "ytbhelobahfgaeaa", sum := "3cdcc6598d65fe1d73d7b0b44493e6a5ac71d2863d0dfe0184d6414eddbe6ec6", checked := Try.checked }
namespace Rows
def none {H : Type} : Left H := { results := [], args := [] }

/-- 'laws.FnExactProgramValid': WHATEVER THE INPUT: true; the input reads as it did. -/
def fnExactProgramValidSpec : ChangeSpec := { name := "fnExactProgramValid", fn := fun _ => fun
  | [d] => { results := [.lit (.bool true)], args := [d] }
  | _ => none }
def fnExactProgramValidRow : OpenClaim := { program := "ytbhelobahfgaeaa", sum := "3cdcc6598d65fe1d73d7b0b44493e6a5ac71d2863d0dfe0184d6414eddbe6ec6", func := "loop.example/robotcell/laws.FnExactProgramValid", spec := "fnExactProgramValid", apart := false }
def FnExactProgramValidSaid : Prop := fnExactProgramValidRow.holds Try.pinned (OpenSpec.ofChange fnExactProgramValidSpec)

/-- ITS FALSE NEIGHBOUR: 'it returns false'. Refute it at one input. -/
def fnExactProgramValidWrong : ChangeSpec := { name := "fnExactProgramValid", fn := fun _ => fun
  | [d] => { results := [.lit (.bool false)], args := [d] }
  | _ => none }
def FnExactProgramValidWrongFalsely : Prop := fnExactProgramValidRow.holds Try.pinned (OpenSpec.ofChange fnExactProgramValidWrong)

/-- 'laws.FnProgramValid': WHATEVER THE INPUT: true; the input reads as it did. -/
def fnProgramValidSpec : ChangeSpec := { name := "fnProgramValid", fn := fun _ => fun
  | [d] => { results := [.lit (.bool true)], args := [d] }
  | _ => none }
def fnProgramValidRow : OpenClaim := { program := "ytbhelobahfgaeaa", sum := "3cdcc6598d65fe1d73d7b0b44493e6a5ac71d2863d0dfe0184d6414eddbe6ec6", func := "loop.example/robotcell/laws.FnProgramValid", spec := "fnProgramValid", apart := false }
def FnProgramValidSaid : Prop := fnProgramValidRow.holds Try.pinned (OpenSpec.ofChange fnProgramValidSpec)

/-- ITS FALSE NEIGHBOUR: 'it returns false'. Refute it at one input. -/
def fnProgramValidWrong : ChangeSpec := { name := "fnProgramValid", fn := fun _ => fun
  | [d] => { results := [.lit (.bool false)], args := [d] }
  | _ => none }
def FnProgramValidWrongFalsely : Prop := fnProgramValidRow.holds Try.pinned (OpenSpec.ofChange fnProgramValidWrong)

/-- 'laws.FnExactExpandProgram': WHATEVER THE INPUT: true; the input reads as it did. -/
def fnExactExpandProgramSpec : ChangeSpec := { name := "fnExactExpandProgram", fn := fun _ => fun
  | [d] => { results := [.lit (.bool true)], args := [d] }
  | _ => none }
def fnExactExpandProgramRow : OpenClaim := { program := "ytbhelobahfgaeaa", sum := "3cdcc6598d65fe1d73d7b0b44493e6a5ac71d2863d0dfe0184d6414eddbe6ec6", func := "loop.example/robotcell/laws.FnExactExpandProgram", spec := "fnExactExpandProgram", recurses := true, apart := false }
def FnExactExpandProgramSaid : Prop := fnExactExpandProgramRow.holds Try.pinned (OpenSpec.ofChange fnExactExpandProgramSpec)

/-- ITS FALSE NEIGHBOUR: 'it returns false'. Refute it at one input. -/
def fnExactExpandProgramWrong : ChangeSpec := { name := "fnExactExpandProgram", fn := fun _ => fun
  | [d] => { results := [.lit (.bool false)], args := [d] }
  | _ => none }
def FnExactExpandProgramWrongFalsely : Prop := fnExactExpandProgramRow.holds Try.pinned (OpenSpec.ofChange fnExactExpandProgramWrong)

/-- 'laws.FnExpandProgram': WHATEVER THE INPUT: true; the input reads as it did. -/
def fnExpandProgramSpec : ChangeSpec := { name := "fnExpandProgram", fn := fun _ => fun
  | [d] => { results := [.lit (.bool true)], args := [d] }
  | _ => none }
def fnExpandProgramRow : OpenClaim := { program := "ytbhelobahfgaeaa", sum := "3cdcc6598d65fe1d73d7b0b44493e6a5ac71d2863d0dfe0184d6414eddbe6ec6", func := "loop.example/robotcell/laws.FnExpandProgram", spec := "fnExpandProgram", recurses := true, apart := false }
def FnExpandProgramSaid : Prop := fnExpandProgramRow.holds Try.pinned (OpenSpec.ofChange fnExpandProgramSpec)

/-- ITS FALSE NEIGHBOUR: 'it returns false'. Refute it at one input. -/
def fnExpandProgramWrong : ChangeSpec := { name := "fnExpandProgram", fn := fun _ => fun
  | [d] => { results := [.lit (.bool false)], args := [d] }
  | _ => none }
def FnExpandProgramWrongFalsely : Prop := fnExpandProgramRow.holds Try.pinned (OpenSpec.ofChange fnExpandProgramWrong)

/-- 'laws.FnProgramRepeat': WHATEVER THE INPUT: true; the input reads as it did. -/
def fnProgramRepeatSpec : ChangeSpec := { name := "fnProgramRepeat", fn := fun _ => fun
  | [d1, d2] => { results := [.lit (.bool true)], args := [d1, d2] }
  | _ => none }
def fnProgramRepeatRow : OpenClaim := { program := "ytbhelobahfgaeaa", sum := "3cdcc6598d65fe1d73d7b0b44493e6a5ac71d2863d0dfe0184d6414eddbe6ec6", func := "loop.example/robotcell/laws.FnProgramRepeat", spec := "fnProgramRepeat", recurses := true, apart := false }
def FnProgramRepeatSaid : Prop := fnProgramRepeatRow.holds Try.pinned (OpenSpec.ofChange fnProgramRepeatSpec)

/-- ITS FALSE NEIGHBOUR: 'it returns false'. Refute it at one input. -/
def fnProgramRepeatWrong : ChangeSpec := { name := "fnProgramRepeat", fn := fun _ => fun
  | [d1, d2] => { results := [.lit (.bool false)], args := [d1, d2] }
  | _ => none }
def FnProgramRepeatWrongFalsely : Prop := fnProgramRepeatRow.holds Try.pinned (OpenSpec.ofChange fnProgramRepeatWrong)

/- THE SECOND FORM. 'bulk': how many values and letters a reading holds, each counted each time it is reached (what is shared counts as often as it is met; a slice's spare places count too). A statement '..UptoSaid' is the law's where the arguments, and the package variables that the reading takes, are together of bulk at most 1048576: NARROWER than '..Said'. Prove '..Said' where nothing that the law and all that it calls make is longer than what came in: it says more and counts as full. Else prove '..UptoSaid'. A law counts once. -/
mutual
def uptoBulk {H : Type} : DataW H → Nat
  | .lit (.string bytes) => bytes.length + 1
  | .lit _ => 1
  | .nil => 1
  | .ptr d => uptoBulk d + 1
  | .slice elems spare => uptoBulkAll elems + uptoBulkAll spare + 1
  | .agg parts => uptoBulkAll parts + 1
  | .iface _ d => uptoBulk d + 1
  | .map entries => uptoBulkEntries entries + 1
  | .held _ => 1
def uptoBulkAll {H : Type} : List (DataW H) → Nat
  | [] => 0
  | d :: r => uptoBulk d + uptoBulkAll r
def uptoBulkEntries {H : Type} : List (Lit × DataW H) → Nat
  | [] => 0
  | x :: r => uptoBulkEntry x + uptoBulkEntries r
def uptoBulkEntry {H : Type} : Lit × DataW H → Nat
  | (.string bytes, d) => bytes.length + uptoBulk d + 1
  | (_, d) => uptoBulk d + 1
 end
def uptoSmall : (H : Type) → List (DataW H) → Bool := fun _ ds => decide (uptoBulkAll ds ≤ 1048576)
def OpenSpec.upto (s : _root_.Go.ChangeSpec) : _root_.Go.OpenSpec := { _root_.Go.OpenSpec.ofChange s with cond := some uptoSmall }

/-- 'laws.FnExactProgramValid', WHERE WHAT IT READS IS OF BULK AT MOST 1048576: true; the input reads as it did. -/
def fnExactProgramValidUptoRow : OpenClaim := { program := "ytbhelobahfgaeaa", sum := "3cdcc6598d65fe1d73d7b0b44493e6a5ac71d2863d0dfe0184d6414eddbe6ec6", func := "loop.example/robotcell/laws.FnExactProgramValid", spec := "fnExactProgramValid", apart := false, narrowed := true }
def FnExactProgramValidUptoSaid : Prop := fnExactProgramValidUptoRow.holds Try.pinned (OpenSpec.upto fnExactProgramValidSpec)

/-- 'laws.FnProgramValid', WHERE WHAT IT READS IS OF BULK AT MOST 1048576: true; the input reads as it did. -/
def fnProgramValidUptoRow : OpenClaim := { program := "ytbhelobahfgaeaa", sum := "3cdcc6598d65fe1d73d7b0b44493e6a5ac71d2863d0dfe0184d6414eddbe6ec6", func := "loop.example/robotcell/laws.FnProgramValid", spec := "fnProgramValid", apart := false, narrowed := true }
def FnProgramValidUptoSaid : Prop := fnProgramValidUptoRow.holds Try.pinned (OpenSpec.upto fnProgramValidSpec)

/-- 'laws.FnExactExpandProgram', WHERE WHAT IT READS IS OF BULK AT MOST 1048576: true; the input reads as it did. -/
def fnExactExpandProgramUptoRow : OpenClaim := { program := "ytbhelobahfgaeaa", sum := "3cdcc6598d65fe1d73d7b0b44493e6a5ac71d2863d0dfe0184d6414eddbe6ec6", func := "loop.example/robotcell/laws.FnExactExpandProgram", spec := "fnExactExpandProgram", recurses := true, apart := false, narrowed := true }
def FnExactExpandProgramUptoSaid : Prop := fnExactExpandProgramUptoRow.holds Try.pinned (OpenSpec.upto fnExactExpandProgramSpec)

/-- 'laws.FnExpandProgram', WHERE WHAT IT READS IS OF BULK AT MOST 1048576: true; the input reads as it did. -/
def fnExpandProgramUptoRow : OpenClaim := { program := "ytbhelobahfgaeaa", sum := "3cdcc6598d65fe1d73d7b0b44493e6a5ac71d2863d0dfe0184d6414eddbe6ec6", func := "loop.example/robotcell/laws.FnExpandProgram", spec := "fnExpandProgram", recurses := true, apart := false, narrowed := true }
def FnExpandProgramUptoSaid : Prop := fnExpandProgramUptoRow.holds Try.pinned (OpenSpec.upto fnExpandProgramSpec)

/-- 'laws.FnProgramRepeat', WHERE WHAT IT READS IS OF BULK AT MOST 1048576: true; the input reads as it did. -/
def fnProgramRepeatUptoRow : OpenClaim := { program := "ytbhelobahfgaeaa", sum := "3cdcc6598d65fe1d73d7b0b44493e6a5ac71d2863d0dfe0184d6414eddbe6ec6", func := "loop.example/robotcell/laws.FnProgramRepeat", spec := "fnProgramRepeat", recurses := true, apart := false, narrowed := true }
def FnProgramRepeatUptoSaid : Prop := fnProgramRepeatUptoRow.holds Try.pinned (OpenSpec.upto fnProgramRepeatSpec)

end Rows
end Go.Proofs.Ytbhelobahfgaeaa
