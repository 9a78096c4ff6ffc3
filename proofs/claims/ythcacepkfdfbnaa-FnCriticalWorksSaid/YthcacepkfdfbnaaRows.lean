/-
  No cell of these rows narrows 'for every input' (looked for: loops, veiled, ifaces, maps, wideKeys, modest, calm, conditions, laid).
  DERIVED. THE GIVEN ROWS OF THIS SEAT. 10 by the template 'for every input the law returns true; each argument reads behind the call as it read before'; 0 by the template 'total and deterministic' (their statements: YthcacepkfdfbnaaTotals.lean).
  GIVEN WITH THE SEED: the statements are not yours to turn. If you find one false, say at which input.
  Laid BY PROGRAM, IN A SANDBOX (cutbox-rows.mjs): the forced cells as the released guide's own fill.sh prints them over the translation 13eaa979d56511e7… (all of the seat's roots in one cut). By AI agents, Wed Nov 11 2026. No macro, syntax, notation, axiom, sorry.
-/
import Derived.Test.YthcacepkfdfbnaaChecked
import GoSem.Claim
import GoSem.ClaimJoined
import GoSem.ClaimMapViews
import Derived.JoinedTies
import Derived.KernelRfl
namespace Go.Proofs.Ythcacepkfdfbnaa
/- THE CELL 'sum', in the pinned program and in every row, IS THE sha256 OF THE DUMP (.gsa) THAT YthcacepkfdfbnaaProg.lean LOADS. Nothing in Lean hashes anything: it is a label: what it is worth is what the hold of that sum in a sandbox is worth. -/
noncomputable def Try.pinned : Pinned := { name := "ythcacepkfdfbnaa", sum := "13eaa979d56511e7c66c8da048d84fe0526e5cf8fb90331436d52c51fb74dac6", checked := Try.checked }
namespace Rows
def none {H : Type} : Left H := { results := [], args := [] }

/-- 'laws.FnExactWorksValid': WHATEVER THE INPUT: true; the input reads as it did. -/
def fnExactWorksValidSpec : ChangeSpec := { name := "fnExactWorksValid", fn := fun _ => fun
  | [d] => { results := [.lit (.bool true)], args := [d] }
  | _ => none }
def fnExactWorksValidRow : OpenClaim := { program := "ythcacepkfdfbnaa", sum := "13eaa979d56511e7c66c8da048d84fe0526e5cf8fb90331436d52c51fb74dac6", func := "loop.example/robotcell/laws.FnExactWorksValid", spec := "fnExactWorksValid", apart := false }
def FnExactWorksValidSaid : Prop := fnExactWorksValidRow.holds Try.pinned (OpenSpec.ofChange fnExactWorksValidSpec)

/-- ITS FALSE NEIGHBOUR: 'it returns false'. Refute it at one input. -/
def fnExactWorksValidWrong : ChangeSpec := { name := "fnExactWorksValid", fn := fun _ => fun
  | [d] => { results := [.lit (.bool false)], args := [d] }
  | _ => none }
def FnExactWorksValidWrongFalsely : Prop := fnExactWorksValidRow.holds Try.pinned (OpenSpec.ofChange fnExactWorksValidWrong)

/-- 'laws.FnWorksValid': WHATEVER THE INPUT: true; the input reads as it did. -/
def fnWorksValidSpec : ChangeSpec := { name := "fnWorksValid", fn := fun _ => fun
  | [d] => { results := [.lit (.bool true)], args := [d] }
  | _ => none }
def fnWorksValidRow : OpenClaim := { program := "ythcacepkfdfbnaa", sum := "13eaa979d56511e7c66c8da048d84fe0526e5cf8fb90331436d52c51fb74dac6", func := "loop.example/robotcell/laws.FnWorksValid", spec := "fnWorksValid", apart := false }
def FnWorksValidSaid : Prop := fnWorksValidRow.holds Try.pinned (OpenSpec.ofChange fnWorksValidSpec)

/-- ITS FALSE NEIGHBOUR: 'it returns false'. Refute it at one input. -/
def fnWorksValidWrong : ChangeSpec := { name := "fnWorksValid", fn := fun _ => fun
  | [d] => { results := [.lit (.bool false)], args := [d] }
  | _ => none }
def FnWorksValidWrongFalsely : Prop := fnWorksValidRow.holds Try.pinned (OpenSpec.ofChange fnWorksValidWrong)

/-- 'laws.FnEarliestStarts': WHATEVER THE INPUT: true; the input reads as it did. -/
def fnEarliestStartsSpec : ChangeSpec := { name := "fnEarliestStarts", fn := fun _ => fun
  | [d] => { results := [.lit (.bool true)], args := [d] }
  | _ => none }
def fnEarliestStartsRow : OpenClaim := { program := "ythcacepkfdfbnaa", sum := "13eaa979d56511e7c66c8da048d84fe0526e5cf8fb90331436d52c51fb74dac6", func := "loop.example/robotcell/laws.FnEarliestStarts", spec := "fnEarliestStarts", apart := false }
def FnEarliestStartsSaid : Prop := fnEarliestStartsRow.holds Try.pinned (OpenSpec.ofChange fnEarliestStartsSpec)

/-- ITS FALSE NEIGHBOUR: 'it returns false'. Refute it at one input. -/
def fnEarliestStartsWrong : ChangeSpec := { name := "fnEarliestStarts", fn := fun _ => fun
  | [d] => { results := [.lit (.bool false)], args := [d] }
  | _ => none }
def FnEarliestStartsWrongFalsely : Prop := fnEarliestStartsRow.holds Try.pinned (OpenSpec.ofChange fnEarliestStartsWrong)

/-- 'laws.FnExactEarliestStarts': WHATEVER THE INPUT: true; the input reads as it did. -/
def fnExactEarliestStartsSpec : ChangeSpec := { name := "fnExactEarliestStarts", fn := fun _ => fun
  | [d] => { results := [.lit (.bool true)], args := [d] }
  | _ => none }
def fnExactEarliestStartsRow : OpenClaim := { program := "ythcacepkfdfbnaa", sum := "13eaa979d56511e7c66c8da048d84fe0526e5cf8fb90331436d52c51fb74dac6", func := "loop.example/robotcell/laws.FnExactEarliestStarts", spec := "fnExactEarliestStarts", apart := false }
def FnExactEarliestStartsSaid : Prop := fnExactEarliestStartsRow.holds Try.pinned (OpenSpec.ofChange fnExactEarliestStartsSpec)

/-- ITS FALSE NEIGHBOUR: 'it returns false'. Refute it at one input. -/
def fnExactEarliestStartsWrong : ChangeSpec := { name := "fnExactEarliestStarts", fn := fun _ => fun
  | [d] => { results := [.lit (.bool false)], args := [d] }
  | _ => none }
def FnExactEarliestStartsWrongFalsely : Prop := fnExactEarliestStartsRow.holds Try.pinned (OpenSpec.ofChange fnExactEarliestStartsWrong)

/-- 'laws.FnCycleTime': WHATEVER THE INPUT: true; the input reads as it did. -/
def fnCycleTimeSpec : ChangeSpec := { name := "fnCycleTime", fn := fun _ => fun
  | [d] => { results := [.lit (.bool true)], args := [d] }
  | _ => none }
def fnCycleTimeRow : OpenClaim := { program := "ythcacepkfdfbnaa", sum := "13eaa979d56511e7c66c8da048d84fe0526e5cf8fb90331436d52c51fb74dac6", func := "loop.example/robotcell/laws.FnCycleTime", spec := "fnCycleTime", apart := false }
def FnCycleTimeSaid : Prop := fnCycleTimeRow.holds Try.pinned (OpenSpec.ofChange fnCycleTimeSpec)

/-- ITS FALSE NEIGHBOUR: 'it returns false'. Refute it at one input. -/
def fnCycleTimeWrong : ChangeSpec := { name := "fnCycleTime", fn := fun _ => fun
  | [d] => { results := [.lit (.bool false)], args := [d] }
  | _ => none }
def FnCycleTimeWrongFalsely : Prop := fnCycleTimeRow.holds Try.pinned (OpenSpec.ofChange fnCycleTimeWrong)

/-- 'laws.FnExactCycleTime': WHATEVER THE INPUT: true; the input reads as it did. -/
def fnExactCycleTimeSpec : ChangeSpec := { name := "fnExactCycleTime", fn := fun _ => fun
  | [d] => { results := [.lit (.bool true)], args := [d] }
  | _ => none }
def fnExactCycleTimeRow : OpenClaim := { program := "ythcacepkfdfbnaa", sum := "13eaa979d56511e7c66c8da048d84fe0526e5cf8fb90331436d52c51fb74dac6", func := "loop.example/robotcell/laws.FnExactCycleTime", spec := "fnExactCycleTime", apart := false }
def FnExactCycleTimeSaid : Prop := fnExactCycleTimeRow.holds Try.pinned (OpenSpec.ofChange fnExactCycleTimeSpec)

/-- ITS FALSE NEIGHBOUR: 'it returns false'. Refute it at one input. -/
def fnExactCycleTimeWrong : ChangeSpec := { name := "fnExactCycleTime", fn := fun _ => fun
  | [d] => { results := [.lit (.bool false)], args := [d] }
  | _ => none }
def FnExactCycleTimeWrongFalsely : Prop := fnExactCycleTimeRow.holds Try.pinned (OpenSpec.ofChange fnExactCycleTimeWrong)

/-- 'laws.FnLatestStarts': WHATEVER THE INPUT: true; the input reads as it did. -/
def fnLatestStartsSpec : ChangeSpec := { name := "fnLatestStarts", fn := fun _ => fun
  | [d] => { results := [.lit (.bool true)], args := [d] }
  | _ => none }
def fnLatestStartsRow : OpenClaim := { program := "ythcacepkfdfbnaa", sum := "13eaa979d56511e7c66c8da048d84fe0526e5cf8fb90331436d52c51fb74dac6", func := "loop.example/robotcell/laws.FnLatestStarts", spec := "fnLatestStarts", apart := false }
def FnLatestStartsSaid : Prop := fnLatestStartsRow.holds Try.pinned (OpenSpec.ofChange fnLatestStartsSpec)

/-- ITS FALSE NEIGHBOUR: 'it returns false'. Refute it at one input. -/
def fnLatestStartsWrong : ChangeSpec := { name := "fnLatestStarts", fn := fun _ => fun
  | [d] => { results := [.lit (.bool false)], args := [d] }
  | _ => none }
def FnLatestStartsWrongFalsely : Prop := fnLatestStartsRow.holds Try.pinned (OpenSpec.ofChange fnLatestStartsWrong)

/-- 'laws.FnExactLatestStarts': WHATEVER THE INPUT: true; the input reads as it did. -/
def fnExactLatestStartsSpec : ChangeSpec := { name := "fnExactLatestStarts", fn := fun _ => fun
  | [d] => { results := [.lit (.bool true)], args := [d] }
  | _ => none }
def fnExactLatestStartsRow : OpenClaim := { program := "ythcacepkfdfbnaa", sum := "13eaa979d56511e7c66c8da048d84fe0526e5cf8fb90331436d52c51fb74dac6", func := "loop.example/robotcell/laws.FnExactLatestStarts", spec := "fnExactLatestStarts", apart := false }
def FnExactLatestStartsSaid : Prop := fnExactLatestStartsRow.holds Try.pinned (OpenSpec.ofChange fnExactLatestStartsSpec)

/-- ITS FALSE NEIGHBOUR: 'it returns false'. Refute it at one input. -/
def fnExactLatestStartsWrong : ChangeSpec := { name := "fnExactLatestStarts", fn := fun _ => fun
  | [d] => { results := [.lit (.bool false)], args := [d] }
  | _ => none }
def FnExactLatestStartsWrongFalsely : Prop := fnExactLatestStartsRow.holds Try.pinned (OpenSpec.ofChange fnExactLatestStartsWrong)

/-- 'laws.FnCriticalWorks': WHATEVER THE INPUT: true; the input reads as it did. -/
def fnCriticalWorksSpec : ChangeSpec := { name := "fnCriticalWorks", fn := fun _ => fun
  | [d] => { results := [.lit (.bool true)], args := [d] }
  | _ => none }
def fnCriticalWorksRow : OpenClaim := { program := "ythcacepkfdfbnaa", sum := "13eaa979d56511e7c66c8da048d84fe0526e5cf8fb90331436d52c51fb74dac6", func := "loop.example/robotcell/laws.FnCriticalWorks", spec := "fnCriticalWorks", apart := false }
def FnCriticalWorksSaid : Prop := fnCriticalWorksRow.holds Try.pinned (OpenSpec.ofChange fnCriticalWorksSpec)

/-- ITS FALSE NEIGHBOUR: 'it returns false'. Refute it at one input. -/
def fnCriticalWorksWrong : ChangeSpec := { name := "fnCriticalWorks", fn := fun _ => fun
  | [d] => { results := [.lit (.bool false)], args := [d] }
  | _ => none }
def FnCriticalWorksWrongFalsely : Prop := fnCriticalWorksRow.holds Try.pinned (OpenSpec.ofChange fnCriticalWorksWrong)

/-- 'laws.FnExactCriticalWorks': WHATEVER THE INPUT: true; the input reads as it did. -/
def fnExactCriticalWorksSpec : ChangeSpec := { name := "fnExactCriticalWorks", fn := fun _ => fun
  | [d] => { results := [.lit (.bool true)], args := [d] }
  | _ => none }
def fnExactCriticalWorksRow : OpenClaim := { program := "ythcacepkfdfbnaa", sum := "13eaa979d56511e7c66c8da048d84fe0526e5cf8fb90331436d52c51fb74dac6", func := "loop.example/robotcell/laws.FnExactCriticalWorks", spec := "fnExactCriticalWorks", apart := false }
def FnExactCriticalWorksSaid : Prop := fnExactCriticalWorksRow.holds Try.pinned (OpenSpec.ofChange fnExactCriticalWorksSpec)

/-- ITS FALSE NEIGHBOUR: 'it returns false'. Refute it at one input. -/
def fnExactCriticalWorksWrong : ChangeSpec := { name := "fnExactCriticalWorks", fn := fun _ => fun
  | [d] => { results := [.lit (.bool false)], args := [d] }
  | _ => none }
def FnExactCriticalWorksWrongFalsely : Prop := fnExactCriticalWorksRow.holds Try.pinned (OpenSpec.ofChange fnExactCriticalWorksWrong)

/- THE SECOND FORM. 'bulk': how many values and letters a reading holds, each counted each time it is reached (what is shared counts as often as it is met; a slice's spare places count too). A statement '..UptoSaid' is the law's where the arguments, and the package variables that the reading takes, are together of bulk at most 1048576: NARROWER than '..Said'. Prove '..Said' where nothing that the law and all that it calls make is longer than what came in: it says more and counts as full. Else prove '..UptoSaid'. A law counts once. -/
mutual
def uptoBulk {H : Type} : DataW H → Nat
  | .lit (.string bytes) => bytes.length + 1
  | .lit _ => 1
  | .nil => 1
  | .ptr d => uptoBulk d + 1
  | .slice elems spare => uptoBulkAll elems + uptoBulkAll spare + 1
  | .agg parts => uptoBulkAll parts + 1
  | .iface _ d => uptoBulk d + 1
  | .map entries => uptoBulkEntries entries + 1
  | .held _ => 1
def uptoBulkAll {H : Type} : List (DataW H) → Nat
  | [] => 0
  | d :: r => uptoBulk d + uptoBulkAll r
def uptoBulkEntries {H : Type} : List (Lit × DataW H) → Nat
  | [] => 0
  | x :: r => uptoBulkEntry x + uptoBulkEntries r
def uptoBulkEntry {H : Type} : Lit × DataW H → Nat
  | (.string bytes, d) => bytes.length + uptoBulk d + 1
  | (_, d) => uptoBulk d + 1
 end
def uptoSmall : (H : Type) → List (DataW H) → Bool := fun _ ds => decide (uptoBulkAll ds ≤ 1048576)
def OpenSpec.upto (s : _root_.Go.ChangeSpec) : _root_.Go.OpenSpec := { _root_.Go.OpenSpec.ofChange s with cond := some uptoSmall }

/-- 'laws.FnExactWorksValid', WHERE WHAT IT READS IS OF BULK AT MOST 1048576: true; the input reads as it did. -/
def fnExactWorksValidUptoRow : OpenClaim := { program := "ythcacepkfdfbnaa", sum := "13eaa979d56511e7c66c8da048d84fe0526e5cf8fb90331436d52c51fb74dac6", func := "loop.example/robotcell/laws.FnExactWorksValid", spec := "fnExactWorksValid", apart := false, narrowed := true }
def FnExactWorksValidUptoSaid : Prop := fnExactWorksValidUptoRow.holds Try.pinned (OpenSpec.upto fnExactWorksValidSpec)

/-- 'laws.FnWorksValid', WHERE WHAT IT READS IS OF BULK AT MOST 1048576: true; the input reads as it did. -/
def fnWorksValidUptoRow : OpenClaim := { program := "ythcacepkfdfbnaa", sum := "13eaa979d56511e7c66c8da048d84fe0526e5cf8fb90331436d52c51fb74dac6", func := "loop.example/robotcell/laws.FnWorksValid", spec := "fnWorksValid", apart := false, narrowed := true }
def FnWorksValidUptoSaid : Prop := fnWorksValidUptoRow.holds Try.pinned (OpenSpec.upto fnWorksValidSpec)

/-- 'laws.FnEarliestStarts', WHERE WHAT IT READS IS OF BULK AT MOST 1048576: true; the input reads as it did. -/
def fnEarliestStartsUptoRow : OpenClaim := { program := "ythcacepkfdfbnaa", sum := "13eaa979d56511e7c66c8da048d84fe0526e5cf8fb90331436d52c51fb74dac6", func := "loop.example/robotcell/laws.FnEarliestStarts", spec := "fnEarliestStarts", apart := false, narrowed := true }
def FnEarliestStartsUptoSaid : Prop := fnEarliestStartsUptoRow.holds Try.pinned (OpenSpec.upto fnEarliestStartsSpec)

/-- 'laws.FnExactEarliestStarts', WHERE WHAT IT READS IS OF BULK AT MOST 1048576: true; the input reads as it did. -/
def fnExactEarliestStartsUptoRow : OpenClaim := { program := "ythcacepkfdfbnaa", sum := "13eaa979d56511e7c66c8da048d84fe0526e5cf8fb90331436d52c51fb74dac6", func := "loop.example/robotcell/laws.FnExactEarliestStarts", spec := "fnExactEarliestStarts", apart := false, narrowed := true }
def FnExactEarliestStartsUptoSaid : Prop := fnExactEarliestStartsUptoRow.holds Try.pinned (OpenSpec.upto fnExactEarliestStartsSpec)

/-- 'laws.FnCycleTime', WHERE WHAT IT READS IS OF BULK AT MOST 1048576: true; the input reads as it did. -/
def fnCycleTimeUptoRow : OpenClaim := { program := "ythcacepkfdfbnaa", sum := "13eaa979d56511e7c66c8da048d84fe0526e5cf8fb90331436d52c51fb74dac6", func := "loop.example/robotcell/laws.FnCycleTime", spec := "fnCycleTime", apart := false, narrowed := true }
def FnCycleTimeUptoSaid : Prop := fnCycleTimeUptoRow.holds Try.pinned (OpenSpec.upto fnCycleTimeSpec)

/-- 'laws.FnExactCycleTime', WHERE WHAT IT READS IS OF BULK AT MOST 1048576: true; the input reads as it did. -/
def fnExactCycleTimeUptoRow : OpenClaim := { program := "ythcacepkfdfbnaa", sum := "13eaa979d56511e7c66c8da048d84fe0526e5cf8fb90331436d52c51fb74dac6", func := "loop.example/robotcell/laws.FnExactCycleTime", spec := "fnExactCycleTime", apart := false, narrowed := true }
def FnExactCycleTimeUptoSaid : Prop := fnExactCycleTimeUptoRow.holds Try.pinned (OpenSpec.upto fnExactCycleTimeSpec)

/-- 'laws.FnLatestStarts', WHERE WHAT IT READS IS OF BULK AT MOST 1048576: true; the input reads as it did. -/
def fnLatestStartsUptoRow : OpenClaim := { program := "ythcacepkfdfbnaa", sum := "13eaa979d56511e7c66c8da048d84fe0526e5cf8fb90331436d52c51fb74dac6", func := "loop.example/robotcell/laws.FnLatestStarts", spec := "fnLatestStarts", apart := false, narrowed := true }
def FnLatestStartsUptoSaid : Prop := fnLatestStartsUptoRow.holds Try.pinned (OpenSpec.upto fnLatestStartsSpec)

/-- 'laws.FnExactLatestStarts', WHERE WHAT IT READS IS OF BULK AT MOST 1048576: true; the input reads as it did. -/
def fnExactLatestStartsUptoRow : OpenClaim := { program := "ythcacepkfdfbnaa", sum := "13eaa979d56511e7c66c8da048d84fe0526e5cf8fb90331436d52c51fb74dac6", func := "loop.example/robotcell/laws.FnExactLatestStarts", spec := "fnExactLatestStarts", apart := false, narrowed := true }
def FnExactLatestStartsUptoSaid : Prop := fnExactLatestStartsUptoRow.holds Try.pinned (OpenSpec.upto fnExactLatestStartsSpec)

/-- 'laws.FnCriticalWorks', WHERE WHAT IT READS IS OF BULK AT MOST 1048576: true; the input reads as it did. -/
def fnCriticalWorksUptoRow : OpenClaim := { program := "ythcacepkfdfbnaa", sum := "13eaa979d56511e7c66c8da048d84fe0526e5cf8fb90331436d52c51fb74dac6", func := "loop.example/robotcell/laws.FnCriticalWorks", spec := "fnCriticalWorks", apart := false, narrowed := true }
def FnCriticalWorksUptoSaid : Prop := fnCriticalWorksUptoRow.holds Try.pinned (OpenSpec.upto fnCriticalWorksSpec)

/-- 'laws.FnExactCriticalWorks', WHERE WHAT IT READS IS OF BULK AT MOST 1048576: true; the input reads as it did. -/
def fnExactCriticalWorksUptoRow : OpenClaim := { program := "ythcacepkfdfbnaa", sum := "13eaa979d56511e7c66c8da048d84fe0526e5cf8fb90331436d52c51fb74dac6", func := "loop.example/robotcell/laws.FnExactCriticalWorks", spec := "fnExactCriticalWorks", apart := false, narrowed := true }
def FnExactCriticalWorksUptoSaid : Prop := fnExactCriticalWorksUptoRow.holds Try.pinned (OpenSpec.upto fnExactCriticalWorksSpec)

end Rows
end Go.Proofs.Ythcacepkfdfbnaa
