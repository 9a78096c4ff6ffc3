/-
  No cell of these rows narrows 'for every input' (looked for: loops, veiled, ifaces, maps, wideKeys, modest, calm, conditions, laid).
  DERIVED. THE GIVEN ROWS OF THIS SEAT. 8 by the template 'for every input the law returns true; each argument reads behind the call as it read before'; 0 by the template 'total and deterministic' (their statements: YtbpfihklbmephaaTotals.lean).
  GIVEN WITH THE SEED: the statements are not yours to turn. If you find one false, say at which input.
  Laid BY PROGRAM, IN A SANDBOX (cutbox-rows.mjs): the forced cells as the released guide's own fill.sh prints them over the translation 3141a7a5841f9882… (all of the seat's roots in one cut). By AI agents, Wed Nov 11 2026. No macro, syntax, notation, axiom, sorry.
-/
import Derived.Test.YtbpfihklbmephaaChecked
import GoSem.Claim
import GoSem.ClaimJoined
import GoSem.ClaimMapViews
import Derived.JoinedTies
import Derived.KernelRfl
namespace Go.Proofs.Ytbpfihklbmephaa
/- THE CELL 'sum', in the pinned program and in every row, IS THE sha256 OF THE DUMP (.gsa) THAT YtbpfihklbmephaaProg.lean LOADS. Nothing in Lean hashes anything: it is a label: what it is worth is what the hold of that sum in a sandbox is worth. -/
noncomputable def Try.pinned : Pinned := { name := "ytbpfihklbmephaa", sum := "3141a7a5841f9882544963665a7f72b40f4228dff1b8c2108d923c7fc31bc3da", checked := Try.checked }
namespace Rows
def none {H : Type} : Left H := { results := [], args := [] }

/-- 'laws.FnExactBoxesApart': WHATEVER THE INPUT: true; the input reads as it did. -/
def fnExactBoxesApartSpec : ChangeSpec := { name := "fnExactBoxesApart", fn := fun _ => fun
  | [d1, d2] => { results := [.lit (.bool true)], args := [d1, d2] }
  | _ => none }
def fnExactBoxesApartRow : OpenClaim := { program := "ytbpfihklbmephaa", sum := "3141a7a5841f9882544963665a7f72b40f4228dff1b8c2108d923c7fc31bc3da", func := "loop.example/robotcell/laws.FnExactBoxesApart", spec := "fnExactBoxesApart", apart := false }
def FnExactBoxesApartSaid : Prop := fnExactBoxesApartRow.holds Try.pinned (OpenSpec.ofChange fnExactBoxesApartSpec)

/-- ITS FALSE NEIGHBOUR: 'it returns false'. Refute it at one input. -/
def fnExactBoxesApartWrong : ChangeSpec := { name := "fnExactBoxesApart", fn := fun _ => fun
  | [d1, d2] => { results := [.lit (.bool false)], args := [d1, d2] }
  | _ => none }
def FnExactBoxesApartWrongFalsely : Prop := fnExactBoxesApartRow.holds Try.pinned (OpenSpec.ofChange fnExactBoxesApartWrong)

/-- 'laws.FnBoxesApart': WHATEVER THE INPUT: true; the input reads as it did. -/
def fnBoxesApartSpec : ChangeSpec := { name := "fnBoxesApart", fn := fun _ => fun
  | [d] => { results := [.lit (.bool true)], args := [d] }
  | _ => none }
def fnBoxesApartRow : OpenClaim := { program := "ytbpfihklbmephaa", sum := "3141a7a5841f9882544963665a7f72b40f4228dff1b8c2108d923c7fc31bc3da", func := "loop.example/robotcell/laws.FnBoxesApart", spec := "fnBoxesApart", apart := false }
def FnBoxesApartSaid : Prop := fnBoxesApartRow.holds Try.pinned (OpenSpec.ofChange fnBoxesApartSpec)

/-- ITS FALSE NEIGHBOUR: 'it returns false'. Refute it at one input. -/
def fnBoxesApartWrong : ChangeSpec := { name := "fnBoxesApart", fn := fun _ => fun
  | [d] => { results := [.lit (.bool false)], args := [d] }
  | _ => none }
def FnBoxesApartWrongFalsely : Prop := fnBoxesApartRow.holds Try.pinned (OpenSpec.ofChange fnBoxesApartWrong)

/-- 'laws.FnExactLayerValid': WHATEVER THE INPUT: true; the input reads as it did. -/
def fnExactLayerValidSpec : ChangeSpec := { name := "fnExactLayerValid", fn := fun _ => fun
  | [d1, d2, d3] => { results := [.lit (.bool true)], args := [d1, d2, d3] }
  | _ => none }
def fnExactLayerValidRow : OpenClaim := { program := "ytbpfihklbmephaa", sum := "3141a7a5841f9882544963665a7f72b40f4228dff1b8c2108d923c7fc31bc3da", func := "loop.example/robotcell/laws.FnExactLayerValid", spec := "fnExactLayerValid", apart := false }
def FnExactLayerValidSaid : Prop := fnExactLayerValidRow.holds Try.pinned (OpenSpec.ofChange fnExactLayerValidSpec)

/-- ITS FALSE NEIGHBOUR: 'it returns false'. Refute it at one input. -/
def fnExactLayerValidWrong : ChangeSpec := { name := "fnExactLayerValid", fn := fun _ => fun
  | [d1, d2, d3] => { results := [.lit (.bool false)], args := [d1, d2, d3] }
  | _ => none }
def FnExactLayerValidWrongFalsely : Prop := fnExactLayerValidRow.holds Try.pinned (OpenSpec.ofChange fnExactLayerValidWrong)

/-- 'laws.FnExactPackLayer': WHATEVER THE INPUT: true; the input reads as it did. -/
def fnExactPackLayerSpec : ChangeSpec := { name := "fnExactPackLayer", fn := fun _ => fun
  | [d1, d2, d3, d4] => { results := [.lit (.bool true)], args := [d1, d2, d3, d4] }
  | _ => none }
def fnExactPackLayerRow : OpenClaim := { program := "ytbpfihklbmephaa", sum := "3141a7a5841f9882544963665a7f72b40f4228dff1b8c2108d923c7fc31bc3da", func := "loop.example/robotcell/laws.FnExactPackLayer", spec := "fnExactPackLayer", apart := false }
def FnExactPackLayerSaid : Prop := fnExactPackLayerRow.holds Try.pinned (OpenSpec.ofChange fnExactPackLayerSpec)

/-- ITS FALSE NEIGHBOUR: 'it returns false'. Refute it at one input. -/
def fnExactPackLayerWrong : ChangeSpec := { name := "fnExactPackLayer", fn := fun _ => fun
  | [d1, d2, d3, d4] => { results := [.lit (.bool false)], args := [d1, d2, d3, d4] }
  | _ => none }
def FnExactPackLayerWrongFalsely : Prop := fnExactPackLayerRow.holds Try.pinned (OpenSpec.ofChange fnExactPackLayerWrong)

/-- 'laws.FnPackLayer': WHATEVER THE INPUT: true; the input reads as it did. -/
def fnPackLayerSpec : ChangeSpec := { name := "fnPackLayer", fn := fun _ => fun
  | [d] => { results := [.lit (.bool true)], args := [d] }
  | _ => none }
def fnPackLayerRow : OpenClaim := { program := "ytbpfihklbmephaa", sum := "3141a7a5841f9882544963665a7f72b40f4228dff1b8c2108d923c7fc31bc3da", func := "loop.example/robotcell/laws.FnPackLayer", spec := "fnPackLayer", apart := false }
def FnPackLayerSaid : Prop := fnPackLayerRow.holds Try.pinned (OpenSpec.ofChange fnPackLayerSpec)

/-- ITS FALSE NEIGHBOUR: 'it returns false'. Refute it at one input. -/
def fnPackLayerWrong : ChangeSpec := { name := "fnPackLayer", fn := fun _ => fun
  | [d] => { results := [.lit (.bool false)], args := [d] }
  | _ => none }
def FnPackLayerWrongFalsely : Prop := fnPackLayerRow.holds Try.pinned (OpenSpec.ofChange fnPackLayerWrong)

/-- 'laws.FnExactLayerFill': WHATEVER THE INPUT: true; the input reads as it did. -/
def fnExactLayerFillSpec : ChangeSpec := { name := "fnExactLayerFill", fn := fun _ => fun
  | [d1, d2, d3] => { results := [.lit (.bool true)], args := [d1, d2, d3] }
  | _ => none }
def fnExactLayerFillRow : OpenClaim := { program := "ytbpfihklbmephaa", sum := "3141a7a5841f9882544963665a7f72b40f4228dff1b8c2108d923c7fc31bc3da", func := "loop.example/robotcell/laws.FnExactLayerFill", spec := "fnExactLayerFill", apart := false }
def FnExactLayerFillSaid : Prop := fnExactLayerFillRow.holds Try.pinned (OpenSpec.ofChange fnExactLayerFillSpec)

/-- ITS FALSE NEIGHBOUR: 'it returns false'. Refute it at one input. -/
def fnExactLayerFillWrong : ChangeSpec := { name := "fnExactLayerFill", fn := fun _ => fun
  | [d1, d2, d3] => { results := [.lit (.bool false)], args := [d1, d2, d3] }
  | _ => none }
def FnExactLayerFillWrongFalsely : Prop := fnExactLayerFillRow.holds Try.pinned (OpenSpec.ofChange fnExactLayerFillWrong)

/-- 'laws.FnLayerValid': WHATEVER THE INPUT: true; the input reads as it did. -/
def fnLayerValidSpec : ChangeSpec := { name := "fnLayerValid", fn := fun _ => fun
  | [d] => { results := [.lit (.bool true)], args := [d] }
  | _ => none }
def fnLayerValidRow : OpenClaim := { program := "ytbpfihklbmephaa", sum := "3141a7a5841f9882544963665a7f72b40f4228dff1b8c2108d923c7fc31bc3da", func := "loop.example/robotcell/laws.FnLayerValid", spec := "fnLayerValid", apart := false }
def FnLayerValidSaid : Prop := fnLayerValidRow.holds Try.pinned (OpenSpec.ofChange fnLayerValidSpec)

/-- ITS FALSE NEIGHBOUR: 'it returns false'. Refute it at one input. -/
def fnLayerValidWrong : ChangeSpec := { name := "fnLayerValid", fn := fun _ => fun
  | [d] => { results := [.lit (.bool false)], args := [d] }
  | _ => none }
def FnLayerValidWrongFalsely : Prop := fnLayerValidRow.holds Try.pinned (OpenSpec.ofChange fnLayerValidWrong)

/-- 'laws.FnLayerFill': WHATEVER THE INPUT: true; the input reads as it did. -/
def fnLayerFillSpec : ChangeSpec := { name := "fnLayerFill", fn := fun _ => fun
  | [d] => { results := [.lit (.bool true)], args := [d] }
  | _ => none }
def fnLayerFillRow : OpenClaim := { program := "ytbpfihklbmephaa", sum := "3141a7a5841f9882544963665a7f72b40f4228dff1b8c2108d923c7fc31bc3da", func := "loop.example/robotcell/laws.FnLayerFill", spec := "fnLayerFill", apart := false }
def FnLayerFillSaid : Prop := fnLayerFillRow.holds Try.pinned (OpenSpec.ofChange fnLayerFillSpec)

/-- ITS FALSE NEIGHBOUR: 'it returns false'. Refute it at one input. -/
def fnLayerFillWrong : ChangeSpec := { name := "fnLayerFill", fn := fun _ => fun
  | [d] => { results := [.lit (.bool false)], args := [d] }
  | _ => none }
def FnLayerFillWrongFalsely : Prop := fnLayerFillRow.holds Try.pinned (OpenSpec.ofChange fnLayerFillWrong)

/- THE SECOND FORM. 'bulk': how many values and letters a reading holds, each counted each time it is reached (what is shared counts as often as it is met; a slice's spare places count too). A statement '..UptoSaid' is the law's where the arguments, and the package variables that the reading takes, are together of bulk at most 1048576: NARROWER than '..Said'. Prove '..Said' where nothing that the law and all that it calls make is longer than what came in: it says more and counts as full. Else prove '..UptoSaid'. A law counts once. -/
mutual
def uptoBulk {H : Type} : DataW H → Nat
  | .lit (.string bytes) => bytes.length + 1
  | .lit _ => 1
  | .nil => 1
  | .ptr d => uptoBulk d + 1
  | .slice elems spare => uptoBulkAll elems + uptoBulkAll spare + 1
  | .agg parts => uptoBulkAll parts + 1
  | .iface _ d => uptoBulk d + 1
  | .map entries => uptoBulkEntries entries + 1
  | .held _ => 1
def uptoBulkAll {H : Type} : List (DataW H) → Nat
  | [] => 0
  | d :: r => uptoBulk d + uptoBulkAll r
def uptoBulkEntries {H : Type} : List (Lit × DataW H) → Nat
  | [] => 0
  | x :: r => uptoBulkEntry x + uptoBulkEntries r
def uptoBulkEntry {H : Type} : Lit × DataW H → Nat
  | (.string bytes, d) => bytes.length + uptoBulk d + 1
  | (_, d) => uptoBulk d + 1
 end
def uptoSmall : (H : Type) → List (DataW H) → Bool := fun _ ds => decide (uptoBulkAll ds ≤ 1048576)
def OpenSpec.upto (s : _root_.Go.ChangeSpec) : _root_.Go.OpenSpec := { _root_.Go.OpenSpec.ofChange s with cond := some uptoSmall }

/-- 'laws.FnExactBoxesApart', WHERE WHAT IT READS IS OF BULK AT MOST 1048576: true; the input reads as it did. -/
def fnExactBoxesApartUptoRow : OpenClaim := { program := "ytbpfihklbmephaa", sum := "3141a7a5841f9882544963665a7f72b40f4228dff1b8c2108d923c7fc31bc3da", func := "loop.example/robotcell/laws.FnExactBoxesApart", spec := "fnExactBoxesApart", apart := false, narrowed := true }
def FnExactBoxesApartUptoSaid : Prop := fnExactBoxesApartUptoRow.holds Try.pinned (OpenSpec.upto fnExactBoxesApartSpec)

/-- 'laws.FnBoxesApart', WHERE WHAT IT READS IS OF BULK AT MOST 1048576: true; the input reads as it did. -/
def fnBoxesApartUptoRow : OpenClaim := { program := "ytbpfihklbmephaa", sum := "3141a7a5841f9882544963665a7f72b40f4228dff1b8c2108d923c7fc31bc3da", func := "loop.example/robotcell/laws.FnBoxesApart", spec := "fnBoxesApart", apart := false, narrowed := true }
def FnBoxesApartUptoSaid : Prop := fnBoxesApartUptoRow.holds Try.pinned (OpenSpec.upto fnBoxesApartSpec)

/-- 'laws.FnExactLayerValid', WHERE WHAT IT READS IS OF BULK AT MOST 1048576: true; the input reads as it did. -/
def fnExactLayerValidUptoRow : OpenClaim := { program := "ytbpfihklbmephaa", sum := "3141a7a5841f9882544963665a7f72b40f4228dff1b8c2108d923c7fc31bc3da", func := "loop.example/robotcell/laws.FnExactLayerValid", spec := "fnExactLayerValid", apart := false, narrowed := true }
def FnExactLayerValidUptoSaid : Prop := fnExactLayerValidUptoRow.holds Try.pinned (OpenSpec.upto fnExactLayerValidSpec)

/-- 'laws.FnExactPackLayer', WHERE WHAT IT READS IS OF BULK AT MOST 1048576: true; the input reads as it did. -/
def fnExactPackLayerUptoRow : OpenClaim := { program := "ytbpfihklbmephaa", sum := "3141a7a5841f9882544963665a7f72b40f4228dff1b8c2108d923c7fc31bc3da", func := "loop.example/robotcell/laws.FnExactPackLayer", spec := "fnExactPackLayer", apart := false, narrowed := true }
def FnExactPackLayerUptoSaid : Prop := fnExactPackLayerUptoRow.holds Try.pinned (OpenSpec.upto fnExactPackLayerSpec)

/-- 'laws.FnPackLayer', WHERE WHAT IT READS IS OF BULK AT MOST 1048576: true; the input reads as it did. -/
def fnPackLayerUptoRow : OpenClaim := { program := "ytbpfihklbmephaa", sum := "3141a7a5841f9882544963665a7f72b40f4228dff1b8c2108d923c7fc31bc3da", func := "loop.example/robotcell/laws.FnPackLayer", spec := "fnPackLayer", apart := false, narrowed := true }
def FnPackLayerUptoSaid : Prop := fnPackLayerUptoRow.holds Try.pinned (OpenSpec.upto fnPackLayerSpec)

/-- 'laws.FnExactLayerFill', WHERE WHAT IT READS IS OF BULK AT MOST 1048576: true; the input reads as it did. -/
def fnExactLayerFillUptoRow : OpenClaim := { program := "ytbpfihklbmephaa", sum := "3141a7a5841f9882544963665a7f72b40f4228dff1b8c2108d923c7fc31bc3da", func := "loop.example/robotcell/laws.FnExactLayerFill", spec := "fnExactLayerFill", apart := false, narrowed := true }
def FnExactLayerFillUptoSaid : Prop := fnExactLayerFillUptoRow.holds Try.pinned (OpenSpec.upto fnExactLayerFillSpec)

/-- 'laws.FnLayerValid', WHERE WHAT IT READS IS OF BULK AT MOST 1048576: true; the input reads as it did. -/
def fnLayerValidUptoRow : OpenClaim := { program := "ytbpfihklbmephaa", sum := "3141a7a5841f9882544963665a7f72b40f4228dff1b8c2108d923c7fc31bc3da", func := "loop.example/robotcell/laws.FnLayerValid", spec := "fnLayerValid", apart := false, narrowed := true }
def FnLayerValidUptoSaid : Prop := fnLayerValidUptoRow.holds Try.pinned (OpenSpec.upto fnLayerValidSpec)

/-- 'laws.FnLayerFill', WHERE WHAT IT READS IS OF BULK AT MOST 1048576: true; the input reads as it did. -/
def fnLayerFillUptoRow : OpenClaim := { program := "ytbpfihklbmephaa", sum := "3141a7a5841f9882544963665a7f72b40f4228dff1b8c2108d923c7fc31bc3da", func := "loop.example/robotcell/laws.FnLayerFill", spec := "fnLayerFill", apart := false, narrowed := true }
def FnLayerFillUptoSaid : Prop := fnLayerFillUptoRow.holds Try.pinned (OpenSpec.upto fnLayerFillSpec)

end Rows
end Go.Proofs.Ytbpfihklbmephaa
