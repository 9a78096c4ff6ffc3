/-
  No cell of these rows narrows 'for every input' (looked for: loops, veiled, ifaces, maps, wideKeys, modest, calm, conditions, laid).
  DERIVED. THE GIVEN ROWS OF THIS SEAT. 11 by the template 'for every input the law returns true; each argument reads behind the call as it read before'; 0 by the template 'total and deterministic' (their statements: YtbeihmhiofkjlaaTotals.lean).
  GIVEN WITH THE SEED: the statements are not yours to turn. If you find one false, say at which input.
  Laid BY PROGRAM, IN A SANDBOX (cutbox-rows.mjs): the forced cells as the released guide's own fill.sh prints them over the translation 220097a1806a3b7e… (all of the seat's roots in one cut). By AI agents, Wed Nov 11 2026. No macro, syntax, notation, axiom, sorry.
-/
import Derived.Test.YtbeihmhiofkjlaaChecked
import GoSem.Claim
import GoSem.ClaimJoined
import GoSem.ClaimMapViews
import Derived.JoinedTies
import Derived.KernelRfl
namespace Go.Proofs.Ytbeihmhiofkjlaa
/- THE CELL 'sum', in the pinned program and in every row, IS THE sha256 OF THE DUMP (.gsa) THAT YtbeihmhiofkjlaaProg.lean LOADS. Nothing in Lean hashes anything: it is a label: what it is worth is what the hold of that sum in a sandbox is worth. -/
noncomputable def Try.pinned : Pinned := { name := "ytbeihmhiofkjlaa", sum := "220097a1806a3b7e102b8048ada1ac681bd6570d98c67c466f2c916eabe0103e", checked := Try.checked }
namespace Rows
def none {H : Type} : Left H := { results := [], args := [] }

/-- 'laws.FnExactGrayCode': WHATEVER THE INPUT: true; the input reads as it did. -/
def fnExactGrayCodeSpec : ChangeSpec := { name := "fnExactGrayCode", fn := fun _ => fun
  | [d] => { results := [.lit (.bool true)], args := [d] }
  | _ => none }
def fnExactGrayCodeRow : OpenClaim := { program := "ytbeihmhiofkjlaa", sum := "220097a1806a3b7e102b8048ada1ac681bd6570d98c67c466f2c916eabe0103e", func := "loop.example/robotcell/laws.FnExactGrayCode", spec := "fnExactGrayCode", apart := false }
def FnExactGrayCodeSaid : Prop := fnExactGrayCodeRow.holds Try.pinned (OpenSpec.ofChange fnExactGrayCodeSpec)

/-- ITS FALSE NEIGHBOUR: 'it returns false'. Refute it at one input. -/
def fnExactGrayCodeWrong : ChangeSpec := { name := "fnExactGrayCode", fn := fun _ => fun
  | [d] => { results := [.lit (.bool false)], args := [d] }
  | _ => none }
def FnExactGrayCodeWrongFalsely : Prop := fnExactGrayCodeRow.holds Try.pinned (OpenSpec.ofChange fnExactGrayCodeWrong)

/-- 'laws.FnExactEncoderAngle': WHATEVER THE INPUT: true; the input reads as it did. -/
def fnExactEncoderAngleSpec : ChangeSpec := { name := "fnExactEncoderAngle", fn := fun _ => fun
  | [d1, d2] => { results := [.lit (.bool true)], args := [d1, d2] }
  | _ => none }
def fnExactEncoderAngleRow : OpenClaim := { program := "ytbeihmhiofkjlaa", sum := "220097a1806a3b7e102b8048ada1ac681bd6570d98c67c466f2c916eabe0103e", func := "loop.example/robotcell/laws.FnExactEncoderAngle", spec := "fnExactEncoderAngle", apart := false }
def FnExactEncoderAngleSaid : Prop := fnExactEncoderAngleRow.holds Try.pinned (OpenSpec.ofChange fnExactEncoderAngleSpec)

/-- ITS FALSE NEIGHBOUR: 'it returns false'. Refute it at one input. -/
def fnExactEncoderAngleWrong : ChangeSpec := { name := "fnExactEncoderAngle", fn := fun _ => fun
  | [d1, d2] => { results := [.lit (.bool false)], args := [d1, d2] }
  | _ => none }
def FnExactEncoderAngleWrongFalsely : Prop := fnExactEncoderAngleRow.holds Try.pinned (OpenSpec.ofChange fnExactEncoderAngleWrong)

/-- 'laws.FnExactGrayValue': WHATEVER THE INPUT: true; the input reads as it did. -/
def fnExactGrayValueSpec : ChangeSpec := { name := "fnExactGrayValue", fn := fun _ => fun
  | [d] => { results := [.lit (.bool true)], args := [d] }
  | _ => none }
def fnExactGrayValueRow : OpenClaim := { program := "ytbeihmhiofkjlaa", sum := "220097a1806a3b7e102b8048ada1ac681bd6570d98c67c466f2c916eabe0103e", func := "loop.example/robotcell/laws.FnExactGrayValue", spec := "fnExactGrayValue", apart := false }
def FnExactGrayValueSaid : Prop := fnExactGrayValueRow.holds Try.pinned (OpenSpec.ofChange fnExactGrayValueSpec)

/-- ITS FALSE NEIGHBOUR: 'it returns false'. Refute it at one input. -/
def fnExactGrayValueWrong : ChangeSpec := { name := "fnExactGrayValue", fn := fun _ => fun
  | [d] => { results := [.lit (.bool false)], args := [d] }
  | _ => none }
def FnExactGrayValueWrongFalsely : Prop := fnExactGrayValueRow.holds Try.pinned (OpenSpec.ofChange fnExactGrayValueWrong)

/-- 'laws.FnEncoderAngle': WHATEVER THE INPUT: true; the input reads as it did. -/
def fnEncoderAngleSpec : ChangeSpec := { name := "fnEncoderAngle", fn := fun _ => fun
  | [d] => { results := [.lit (.bool true)], args := [d] }
  | _ => none }
def fnEncoderAngleRow : OpenClaim := { program := "ytbeihmhiofkjlaa", sum := "220097a1806a3b7e102b8048ada1ac681bd6570d98c67c466f2c916eabe0103e", func := "loop.example/robotcell/laws.FnEncoderAngle", spec := "fnEncoderAngle", apart := false }
def FnEncoderAngleSaid : Prop := fnEncoderAngleRow.holds Try.pinned (OpenSpec.ofChange fnEncoderAngleSpec)

/-- ITS FALSE NEIGHBOUR: 'it returns false'. Refute it at one input. -/
def fnEncoderAngleWrong : ChangeSpec := { name := "fnEncoderAngle", fn := fun _ => fun
  | [d] => { results := [.lit (.bool false)], args := [d] }
  | _ => none }
def FnEncoderAngleWrongFalsely : Prop := fnEncoderAngleRow.holds Try.pinned (OpenSpec.ofChange fnEncoderAngleWrong)

/-- 'laws.FnGrayCode': WHATEVER THE INPUT: true; the input reads as it did. -/
def fnGrayCodeSpec : ChangeSpec := { name := "fnGrayCode", fn := fun _ => fun
  | [d] => { results := [.lit (.bool true)], args := [d] }
  | _ => none }
def fnGrayCodeRow : OpenClaim := { program := "ytbeihmhiofkjlaa", sum := "220097a1806a3b7e102b8048ada1ac681bd6570d98c67c466f2c916eabe0103e", func := "loop.example/robotcell/laws.FnGrayCode", spec := "fnGrayCode", apart := false }
def FnGrayCodeSaid : Prop := fnGrayCodeRow.holds Try.pinned (OpenSpec.ofChange fnGrayCodeSpec)

/-- ITS FALSE NEIGHBOUR: 'it returns false'. Refute it at one input. -/
def fnGrayCodeWrong : ChangeSpec := { name := "fnGrayCode", fn := fun _ => fun
  | [d] => { results := [.lit (.bool false)], args := [d] }
  | _ => none }
def FnGrayCodeWrongFalsely : Prop := fnGrayCodeRow.holds Try.pinned (OpenSpec.ofChange fnGrayCodeWrong)

/-- 'laws.FnGrayValue': WHATEVER THE INPUT: true; the input reads as it did. -/
def fnGrayValueSpec : ChangeSpec := { name := "fnGrayValue", fn := fun _ => fun
  | [d] => { results := [.lit (.bool true)], args := [d] }
  | _ => none }
def fnGrayValueRow : OpenClaim := { program := "ytbeihmhiofkjlaa", sum := "220097a1806a3b7e102b8048ada1ac681bd6570d98c67c466f2c916eabe0103e", func := "loop.example/robotcell/laws.FnGrayValue", spec := "fnGrayValue", apart := false }
def FnGrayValueSaid : Prop := fnGrayValueRow.holds Try.pinned (OpenSpec.ofChange fnGrayValueSpec)

/-- ITS FALSE NEIGHBOUR: 'it returns false'. Refute it at one input. -/
def fnGrayValueWrong : ChangeSpec := { name := "fnGrayValue", fn := fun _ => fun
  | [d] => { results := [.lit (.bool false)], args := [d] }
  | _ => none }
def FnGrayValueWrongFalsely : Prop := fnGrayValueRow.holds Try.pinned (OpenSpec.ofChange fnGrayValueWrong)

/-- 'laws.FnExactCountEncoder': WHATEVER THE INPUT: true; the input reads as it did. -/
def fnExactCountEncoderSpec : ChangeSpec := { name := "fnExactCountEncoder", fn := fun _ => fun
  | [d1, d2] => { results := [.lit (.bool true)], args := [d1, d2] }
  | _ => none }
def fnExactCountEncoderRow : OpenClaim := { program := "ytbeihmhiofkjlaa", sum := "220097a1806a3b7e102b8048ada1ac681bd6570d98c67c466f2c916eabe0103e", func := "loop.example/robotcell/laws.FnExactCountEncoder", spec := "fnExactCountEncoder", apart := false }
def FnExactCountEncoderSaid : Prop := fnExactCountEncoderRow.holds Try.pinned (OpenSpec.ofChange fnExactCountEncoderSpec)

/-- ITS FALSE NEIGHBOUR: 'it returns false'. Refute it at one input. -/
def fnExactCountEncoderWrong : ChangeSpec := { name := "fnExactCountEncoder", fn := fun _ => fun
  | [d1, d2] => { results := [.lit (.bool false)], args := [d1, d2] }
  | _ => none }
def FnExactCountEncoderWrongFalsely : Prop := fnExactCountEncoderRow.holds Try.pinned (OpenSpec.ofChange fnExactCountEncoderWrong)

/-- 'laws.FnEncoderTurn': WHATEVER THE INPUT: true; the input reads as it did. -/
def fnEncoderTurnSpec : ChangeSpec := { name := "fnEncoderTurn", fn := fun _ => fun
  | [d] => { results := [.lit (.bool true)], args := [d] }
  | _ => none }
def fnEncoderTurnRow : OpenClaim := { program := "ytbeihmhiofkjlaa", sum := "220097a1806a3b7e102b8048ada1ac681bd6570d98c67c466f2c916eabe0103e", func := "loop.example/robotcell/laws.FnEncoderTurn", spec := "fnEncoderTurn", apart := false }
def FnEncoderTurnSaid : Prop := fnEncoderTurnRow.holds Try.pinned (OpenSpec.ofChange fnEncoderTurnSpec)

/-- ITS FALSE NEIGHBOUR: 'it returns false'. Refute it at one input. -/
def fnEncoderTurnWrong : ChangeSpec := { name := "fnEncoderTurn", fn := fun _ => fun
  | [d] => { results := [.lit (.bool false)], args := [d] }
  | _ => none }
def FnEncoderTurnWrongFalsely : Prop := fnEncoderTurnRow.holds Try.pinned (OpenSpec.ofChange fnEncoderTurnWrong)

/-- 'laws.FnCountEncoder': WHATEVER THE INPUT: true; the input reads as it did. -/
def fnCountEncoderSpec : ChangeSpec := { name := "fnCountEncoder", fn := fun _ => fun
  | [d] => { results := [.lit (.bool true)], args := [d] }
  | _ => none }
def fnCountEncoderRow : OpenClaim := { program := "ytbeihmhiofkjlaa", sum := "220097a1806a3b7e102b8048ada1ac681bd6570d98c67c466f2c916eabe0103e", func := "loop.example/robotcell/laws.FnCountEncoder", spec := "fnCountEncoder", apart := false }
def FnCountEncoderSaid : Prop := fnCountEncoderRow.holds Try.pinned (OpenSpec.ofChange fnCountEncoderSpec)

/-- ITS FALSE NEIGHBOUR: 'it returns false'. Refute it at one input. -/
def fnCountEncoderWrong : ChangeSpec := { name := "fnCountEncoder", fn := fun _ => fun
  | [d] => { results := [.lit (.bool false)], args := [d] }
  | _ => none }
def FnCountEncoderWrongFalsely : Prop := fnCountEncoderRow.holds Try.pinned (OpenSpec.ofChange fnCountEncoderWrong)

/-- 'laws.FnExactSpeedEstimates': WHATEVER THE INPUT: true; the input reads as it did. -/
def fnExactSpeedEstimatesSpec : ChangeSpec := { name := "fnExactSpeedEstimates", fn := fun _ => fun
  | [d1, d2] => { results := [.lit (.bool true)], args := [d1, d2] }
  | _ => none }
def fnExactSpeedEstimatesRow : OpenClaim := { program := "ytbeihmhiofkjlaa", sum := "220097a1806a3b7e102b8048ada1ac681bd6570d98c67c466f2c916eabe0103e", func := "loop.example/robotcell/laws.FnExactSpeedEstimates", spec := "fnExactSpeedEstimates", apart := false }
def FnExactSpeedEstimatesSaid : Prop := fnExactSpeedEstimatesRow.holds Try.pinned (OpenSpec.ofChange fnExactSpeedEstimatesSpec)

/-- ITS FALSE NEIGHBOUR: 'it returns false'. Refute it at one input. -/
def fnExactSpeedEstimatesWrong : ChangeSpec := { name := "fnExactSpeedEstimates", fn := fun _ => fun
  | [d1, d2] => { results := [.lit (.bool false)], args := [d1, d2] }
  | _ => none }
def FnExactSpeedEstimatesWrongFalsely : Prop := fnExactSpeedEstimatesRow.holds Try.pinned (OpenSpec.ofChange fnExactSpeedEstimatesWrong)

/-- 'laws.FnSpeedEstimates': WHATEVER THE INPUT: true; the input reads as it did. -/
def fnSpeedEstimatesSpec : ChangeSpec := { name := "fnSpeedEstimates", fn := fun _ => fun
  | [d] => { results := [.lit (.bool true)], args := [d] }
  | _ => none }
def fnSpeedEstimatesRow : OpenClaim := { program := "ytbeihmhiofkjlaa", sum := "220097a1806a3b7e102b8048ada1ac681bd6570d98c67c466f2c916eabe0103e", func := "loop.example/robotcell/laws.FnSpeedEstimates", spec := "fnSpeedEstimates", apart := false }
def FnSpeedEstimatesSaid : Prop := fnSpeedEstimatesRow.holds Try.pinned (OpenSpec.ofChange fnSpeedEstimatesSpec)

/-- ITS FALSE NEIGHBOUR: 'it returns false'. Refute it at one input. -/
def fnSpeedEstimatesWrong : ChangeSpec := { name := "fnSpeedEstimates", fn := fun _ => fun
  | [d] => { results := [.lit (.bool false)], args := [d] }
  | _ => none }
def FnSpeedEstimatesWrongFalsely : Prop := fnSpeedEstimatesRow.holds Try.pinned (OpenSpec.ofChange fnSpeedEstimatesWrong)

/- THE SECOND FORM. 'bulk': how many values and letters a reading holds, each counted each time it is reached (what is shared counts as often as it is met; a slice's spare places count too). A statement '..UptoSaid' is the law's where the arguments, and the package variables that the reading takes, are together of bulk at most 1048576: NARROWER than '..Said'. Prove '..Said' where nothing that the law and all that it calls make is longer than what came in: it says more and counts as full. Else prove '..UptoSaid'. A law counts once. -/
mutual
def uptoBulk {H : Type} : DataW H → Nat
  | .lit (.string bytes) => bytes.length + 1
  | .lit _ => 1
  | .nil => 1
  | .ptr d => uptoBulk d + 1
  | .slice elems spare => uptoBulkAll elems + uptoBulkAll spare + 1
  | .agg parts => uptoBulkAll parts + 1
  | .iface _ d => uptoBulk d + 1
  | .map entries => uptoBulkEntries entries + 1
  | .held _ => 1
def uptoBulkAll {H : Type} : List (DataW H) → Nat
  | [] => 0
  | d :: r => uptoBulk d + uptoBulkAll r
def uptoBulkEntries {H : Type} : List (Lit × DataW H) → Nat
  | [] => 0
  | x :: r => uptoBulkEntry x + uptoBulkEntries r
def uptoBulkEntry {H : Type} : Lit × DataW H → Nat
  | (.string bytes, d) => bytes.length + uptoBulk d + 1
  | (_, d) => uptoBulk d + 1
 end
def uptoSmall : (H : Type) → List (DataW H) → Bool := fun _ ds => decide (uptoBulkAll ds ≤ 1048576)
def OpenSpec.upto (s : _root_.Go.ChangeSpec) : _root_.Go.OpenSpec := { _root_.Go.OpenSpec.ofChange s with cond := some uptoSmall }

/-- 'laws.FnExactGrayCode', WHERE WHAT IT READS IS OF BULK AT MOST 1048576: true; the input reads as it did. -/
def fnExactGrayCodeUptoRow : OpenClaim := { program := "ytbeihmhiofkjlaa", sum := "220097a1806a3b7e102b8048ada1ac681bd6570d98c67c466f2c916eabe0103e", func := "loop.example/robotcell/laws.FnExactGrayCode", spec := "fnExactGrayCode", apart := false, narrowed := true }
def FnExactGrayCodeUptoSaid : Prop := fnExactGrayCodeUptoRow.holds Try.pinned (OpenSpec.upto fnExactGrayCodeSpec)

/-- 'laws.FnExactEncoderAngle', WHERE WHAT IT READS IS OF BULK AT MOST 1048576: true; the input reads as it did. -/
def fnExactEncoderAngleUptoRow : OpenClaim := { program := "ytbeihmhiofkjlaa", sum := "220097a1806a3b7e102b8048ada1ac681bd6570d98c67c466f2c916eabe0103e", func := "loop.example/robotcell/laws.FnExactEncoderAngle", spec := "fnExactEncoderAngle", apart := false, narrowed := true }
def FnExactEncoderAngleUptoSaid : Prop := fnExactEncoderAngleUptoRow.holds Try.pinned (OpenSpec.upto fnExactEncoderAngleSpec)

/-- 'laws.FnExactGrayValue', WHERE WHAT IT READS IS OF BULK AT MOST 1048576: true; the input reads as it did. -/
def fnExactGrayValueUptoRow : OpenClaim := { program := "ytbeihmhiofkjlaa", sum := "220097a1806a3b7e102b8048ada1ac681bd6570d98c67c466f2c916eabe0103e", func := "loop.example/robotcell/laws.FnExactGrayValue", spec := "fnExactGrayValue", apart := false, narrowed := true }
def FnExactGrayValueUptoSaid : Prop := fnExactGrayValueUptoRow.holds Try.pinned (OpenSpec.upto fnExactGrayValueSpec)

/-- 'laws.FnEncoderAngle', WHERE WHAT IT READS IS OF BULK AT MOST 1048576: true; the input reads as it did. -/
def fnEncoderAngleUptoRow : OpenClaim := { program := "ytbeihmhiofkjlaa", sum := "220097a1806a3b7e102b8048ada1ac681bd6570d98c67c466f2c916eabe0103e", func := "loop.example/robotcell/laws.FnEncoderAngle", spec := "fnEncoderAngle", apart := false, narrowed := true }
def FnEncoderAngleUptoSaid : Prop := fnEncoderAngleUptoRow.holds Try.pinned (OpenSpec.upto fnEncoderAngleSpec)

/-- 'laws.FnGrayCode', WHERE WHAT IT READS IS OF BULK AT MOST 1048576: true; the input reads as it did. -/
def fnGrayCodeUptoRow : OpenClaim := { program := "ytbeihmhiofkjlaa", sum := "220097a1806a3b7e102b8048ada1ac681bd6570d98c67c466f2c916eabe0103e", func := "loop.example/robotcell/laws.FnGrayCode", spec := "fnGrayCode", apart := false, narrowed := true }
def FnGrayCodeUptoSaid : Prop := fnGrayCodeUptoRow.holds Try.pinned (OpenSpec.upto fnGrayCodeSpec)

/-- 'laws.FnGrayValue', WHERE WHAT IT READS IS OF BULK AT MOST 1048576: true; the input reads as it did. -/
def fnGrayValueUptoRow : OpenClaim := { program := "ytbeihmhiofkjlaa", sum := "220097a1806a3b7e102b8048ada1ac681bd6570d98c67c466f2c916eabe0103e", func := "loop.example/robotcell/laws.FnGrayValue", spec := "fnGrayValue", apart := false, narrowed := true }
def FnGrayValueUptoSaid : Prop := fnGrayValueUptoRow.holds Try.pinned (OpenSpec.upto fnGrayValueSpec)

/-- 'laws.FnExactCountEncoder', WHERE WHAT IT READS IS OF BULK AT MOST 1048576: true; the input reads as it did. -/
def fnExactCountEncoderUptoRow : OpenClaim := { program := "ytbeihmhiofkjlaa", sum := "220097a1806a3b7e102b8048ada1ac681bd6570d98c67c466f2c916eabe0103e", func := "loop.example/robotcell/laws.FnExactCountEncoder", spec := "fnExactCountEncoder", apart := false, narrowed := true }
def FnExactCountEncoderUptoSaid : Prop := fnExactCountEncoderUptoRow.holds Try.pinned (OpenSpec.upto fnExactCountEncoderSpec)

/-- 'laws.FnEncoderTurn', WHERE WHAT IT READS IS OF BULK AT MOST 1048576: true; the input reads as it did. -/
def fnEncoderTurnUptoRow : OpenClaim := { program := "ytbeihmhiofkjlaa", sum := "220097a1806a3b7e102b8048ada1ac681bd6570d98c67c466f2c916eabe0103e", func := "loop.example/robotcell/laws.FnEncoderTurn", spec := "fnEncoderTurn", apart := false, narrowed := true }
def FnEncoderTurnUptoSaid : Prop := fnEncoderTurnUptoRow.holds Try.pinned (OpenSpec.upto fnEncoderTurnSpec)

/-- 'laws.FnCountEncoder', WHERE WHAT IT READS IS OF BULK AT MOST 1048576: true; the input reads as it did. -/
def fnCountEncoderUptoRow : OpenClaim := { program := "ytbeihmhiofkjlaa", sum := "220097a1806a3b7e102b8048ada1ac681bd6570d98c67c466f2c916eabe0103e", func := "loop.example/robotcell/laws.FnCountEncoder", spec := "fnCountEncoder", apart := false, narrowed := true }
def FnCountEncoderUptoSaid : Prop := fnCountEncoderUptoRow.holds Try.pinned (OpenSpec.upto fnCountEncoderSpec)

/-- 'laws.FnExactSpeedEstimates', WHERE WHAT IT READS IS OF BULK AT MOST 1048576: true; the input reads as it did. -/
def fnExactSpeedEstimatesUptoRow : OpenClaim := { program := "ytbeihmhiofkjlaa", sum := "220097a1806a3b7e102b8048ada1ac681bd6570d98c67c466f2c916eabe0103e", func := "loop.example/robotcell/laws.FnExactSpeedEstimates", spec := "fnExactSpeedEstimates", apart := false, narrowed := true }
def FnExactSpeedEstimatesUptoSaid : Prop := fnExactSpeedEstimatesUptoRow.holds Try.pinned (OpenSpec.upto fnExactSpeedEstimatesSpec)

/-- 'laws.FnSpeedEstimates', WHERE WHAT IT READS IS OF BULK AT MOST 1048576: true; the input reads as it did. -/
def fnSpeedEstimatesUptoRow : OpenClaim := { program := "ytbeihmhiofkjlaa", sum := "220097a1806a3b7e102b8048ada1ac681bd6570d98c67c466f2c916eabe0103e", func := "loop.example/robotcell/laws.FnSpeedEstimates", spec := "fnSpeedEstimates", apart := false, narrowed := true }
def FnSpeedEstimatesUptoSaid : Prop := fnSpeedEstimatesUptoRow.holds Try.pinned (OpenSpec.upto fnSpeedEstimatesSpec)

end Rows
end Go.Proofs.Ytbeihmhiofkjlaa
