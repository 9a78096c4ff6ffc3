/-
  No cell of these rows narrows 'for every input' (looked for: loops, veiled, ifaces, maps, wideKeys, modest, calm, conditions, laid).
  DERIVED. THE GIVEN ROWS OF THIS SEAT. 10 by the template 'for every input the law returns true; each argument reads behind the call as it read before'; 0 by the template 'total and deterministic' (their statements: YthkleabdnjhniaaTotals.lean).
  GIVEN WITH THE SEED: the statements are not yours to turn. If you find one false, say at which input.
  Laid BY PROGRAM, IN A SANDBOX (cutbox-rows.mjs): the forced cells as the released guide's own fill.sh prints them over the translation 16e371758e138a21… (all of the seat's roots in one cut). By AI agents, Wed Nov 11 2026. No macro, syntax, notation, axiom, sorry.
-/
import Derived.Test.YthkleabdnjhniaaChecked
import GoSem.Claim
import GoSem.ClaimJoined
import GoSem.ClaimMapViews
import Derived.JoinedTies
import Derived.KernelRfl
namespace Go.Proofs.Ythkleabdnjhniaa
/- THE CELL 'sum', in the pinned program and in every row, IS THE sha256 OF THE DUMP (.gsa) THAT YthkleabdnjhniaaProg.lean LOADS. Nothing in Lean hashes anything: it is a label: what it is worth is what the hold of that sum in a sandbox is worth. -/
noncomputable def Try.pinned : Pinned := { name := "ythkleabdnjhniaa", sum := "16e371758e138a2118fecb0947f177531ba9282f71af1824e072baf325f1457c", checked := Try.checked }
namespace Rows
def none {H : Type} : Left H := { results := [], args := [] }

/-- 'laws.FnExactStopsValid': WHATEVER THE INPUT: true; the input reads as it did. -/
def fnExactStopsValidSpec : ChangeSpec := { name := "fnExactStopsValid", fn := fun _ => fun
  | [d] => { results := [.lit (.bool true)], args := [d] }
  | _ => none }
def fnExactStopsValidRow : OpenClaim := { program := "ythkleabdnjhniaa", sum := "16e371758e138a2118fecb0947f177531ba9282f71af1824e072baf325f1457c", func := "loop.example/robotcell/laws.FnExactStopsValid", spec := "fnExactStopsValid", apart := false }
def FnExactStopsValidSaid : Prop := fnExactStopsValidRow.holds Try.pinned (OpenSpec.ofChange fnExactStopsValidSpec)

/-- ITS FALSE NEIGHBOUR: 'it returns false'. Refute it at one input. -/
def fnExactStopsValidWrong : ChangeSpec := { name := "fnExactStopsValid", fn := fun _ => fun
  | [d] => { results := [.lit (.bool false)], args := [d] }
  | _ => none }
def FnExactStopsValidWrongFalsely : Prop := fnExactStopsValidRow.holds Try.pinned (OpenSpec.ofChange fnExactStopsValidWrong)

/-- 'laws.FnStopsValid': WHATEVER THE INPUT: true; the input reads as it did. -/
def fnStopsValidSpec : ChangeSpec := { name := "fnStopsValid", fn := fun _ => fun
  | [d] => { results := [.lit (.bool true)], args := [d] }
  | _ => none }
def fnStopsValidRow : OpenClaim := { program := "ythkleabdnjhniaa", sum := "16e371758e138a2118fecb0947f177531ba9282f71af1824e072baf325f1457c", func := "loop.example/robotcell/laws.FnStopsValid", spec := "fnStopsValid", apart := false }
def FnStopsValidSaid : Prop := fnStopsValidRow.holds Try.pinned (OpenSpec.ofChange fnStopsValidSpec)

/-- ITS FALSE NEIGHBOUR: 'it returns false'. Refute it at one input. -/
def fnStopsValidWrong : ChangeSpec := { name := "fnStopsValid", fn := fun _ => fun
  | [d] => { results := [.lit (.bool false)], args := [d] }
  | _ => none }
def FnStopsValidWrongFalsely : Prop := fnStopsValidRow.holds Try.pinned (OpenSpec.ofChange fnStopsValidWrong)

/-- 'laws.FnExactTourLength': WHATEVER THE INPUT: true; the input reads as it did. -/
def fnExactTourLengthSpec : ChangeSpec := { name := "fnExactTourLength", fn := fun _ => fun
  | [d1, d2] => { results := [.lit (.bool true)], args := [d1, d2] }
  | _ => none }
def fnExactTourLengthRow : OpenClaim := { program := "ythkleabdnjhniaa", sum := "16e371758e138a2118fecb0947f177531ba9282f71af1824e072baf325f1457c", func := "loop.example/robotcell/laws.FnExactTourLength", spec := "fnExactTourLength", apart := false }
def FnExactTourLengthSaid : Prop := fnExactTourLengthRow.holds Try.pinned (OpenSpec.ofChange fnExactTourLengthSpec)

/-- ITS FALSE NEIGHBOUR: 'it returns false'. Refute it at one input. -/
def fnExactTourLengthWrong : ChangeSpec := { name := "fnExactTourLength", fn := fun _ => fun
  | [d1, d2] => { results := [.lit (.bool false)], args := [d1, d2] }
  | _ => none }
def FnExactTourLengthWrongFalsely : Prop := fnExactTourLengthRow.holds Try.pinned (OpenSpec.ofChange fnExactTourLengthWrong)

/-- 'laws.FnTourLength': WHATEVER THE INPUT: true; the input reads as it did. -/
def fnTourLengthSpec : ChangeSpec := { name := "fnTourLength", fn := fun _ => fun
  | [d] => { results := [.lit (.bool true)], args := [d] }
  | _ => none }
def fnTourLengthRow : OpenClaim := { program := "ythkleabdnjhniaa", sum := "16e371758e138a2118fecb0947f177531ba9282f71af1824e072baf325f1457c", func := "loop.example/robotcell/laws.FnTourLength", spec := "fnTourLength", apart := false }
def FnTourLengthSaid : Prop := fnTourLengthRow.holds Try.pinned (OpenSpec.ofChange fnTourLengthSpec)

/-- ITS FALSE NEIGHBOUR: 'it returns false'. Refute it at one input. -/
def fnTourLengthWrong : ChangeSpec := { name := "fnTourLength", fn := fun _ => fun
  | [d] => { results := [.lit (.bool false)], args := [d] }
  | _ => none }
def FnTourLengthWrongFalsely : Prop := fnTourLengthRow.holds Try.pinned (OpenSpec.ofChange fnTourLengthWrong)

/-- 'laws.FnExactNearestTour': WHATEVER THE INPUT: true; the input reads as it did. -/
def fnExactNearestTourSpec : ChangeSpec := { name := "fnExactNearestTour", fn := fun _ => fun
  | [d] => { results := [.lit (.bool true)], args := [d] }
  | _ => none }
def fnExactNearestTourRow : OpenClaim := { program := "ythkleabdnjhniaa", sum := "16e371758e138a2118fecb0947f177531ba9282f71af1824e072baf325f1457c", func := "loop.example/robotcell/laws.FnExactNearestTour", spec := "fnExactNearestTour", apart := false }
def FnExactNearestTourSaid : Prop := fnExactNearestTourRow.holds Try.pinned (OpenSpec.ofChange fnExactNearestTourSpec)

/-- ITS FALSE NEIGHBOUR: 'it returns false'. Refute it at one input. -/
def fnExactNearestTourWrong : ChangeSpec := { name := "fnExactNearestTour", fn := fun _ => fun
  | [d] => { results := [.lit (.bool false)], args := [d] }
  | _ => none }
def FnExactNearestTourWrongFalsely : Prop := fnExactNearestTourRow.holds Try.pinned (OpenSpec.ofChange fnExactNearestTourWrong)

/-- 'laws.FnNearestTour': WHATEVER THE INPUT: true; the input reads as it did. -/
def fnNearestTourSpec : ChangeSpec := { name := "fnNearestTour", fn := fun _ => fun
  | [d] => { results := [.lit (.bool true)], args := [d] }
  | _ => none }
def fnNearestTourRow : OpenClaim := { program := "ythkleabdnjhniaa", sum := "16e371758e138a2118fecb0947f177531ba9282f71af1824e072baf325f1457c", func := "loop.example/robotcell/laws.FnNearestTour", spec := "fnNearestTour", apart := false }
def FnNearestTourSaid : Prop := fnNearestTourRow.holds Try.pinned (OpenSpec.ofChange fnNearestTourSpec)

/-- ITS FALSE NEIGHBOUR: 'it returns false'. Refute it at one input. -/
def fnNearestTourWrong : ChangeSpec := { name := "fnNearestTour", fn := fun _ => fun
  | [d] => { results := [.lit (.bool false)], args := [d] }
  | _ => none }
def FnNearestTourWrongFalsely : Prop := fnNearestTourRow.holds Try.pinned (OpenSpec.ofChange fnNearestTourWrong)

/-- 'laws.FnExactBestTour': WHATEVER THE INPUT: true; the input reads as it did. -/
def fnExactBestTourSpec : ChangeSpec := { name := "fnExactBestTour", fn := fun _ => fun
  | [d] => { results := [.lit (.bool true)], args := [d] }
  | _ => none }
def fnExactBestTourRow : OpenClaim := { program := "ythkleabdnjhniaa", sum := "16e371758e138a2118fecb0947f177531ba9282f71af1824e072baf325f1457c", func := "loop.example/robotcell/laws.FnExactBestTour", spec := "fnExactBestTour", recurses := true, apart := false }
def FnExactBestTourSaid : Prop := fnExactBestTourRow.holds Try.pinned (OpenSpec.ofChange fnExactBestTourSpec)

/-- ITS FALSE NEIGHBOUR: 'it returns false'. Refute it at one input. -/
def fnExactBestTourWrong : ChangeSpec := { name := "fnExactBestTour", fn := fun _ => fun
  | [d] => { results := [.lit (.bool false)], args := [d] }
  | _ => none }
def FnExactBestTourWrongFalsely : Prop := fnExactBestTourRow.holds Try.pinned (OpenSpec.ofChange fnExactBestTourWrong)

/-- 'laws.FnBestTour': WHATEVER THE INPUT: true; the input reads as it did. -/
def fnBestTourSpec : ChangeSpec := { name := "fnBestTour", fn := fun _ => fun
  | [d1, d2] => { results := [.lit (.bool true)], args := [d1, d2] }
  | _ => none }
def fnBestTourRow : OpenClaim := { program := "ythkleabdnjhniaa", sum := "16e371758e138a2118fecb0947f177531ba9282f71af1824e072baf325f1457c", func := "loop.example/robotcell/laws.FnBestTour", spec := "fnBestTour", recurses := true, apart := false }
def FnBestTourSaid : Prop := fnBestTourRow.holds Try.pinned (OpenSpec.ofChange fnBestTourSpec)

/-- ITS FALSE NEIGHBOUR: 'it returns false'. Refute it at one input. -/
def fnBestTourWrong : ChangeSpec := { name := "fnBestTour", fn := fun _ => fun
  | [d1, d2] => { results := [.lit (.bool false)], args := [d1, d2] }
  | _ => none }
def FnBestTourWrongFalsely : Prop := fnBestTourRow.holds Try.pinned (OpenSpec.ofChange fnBestTourWrong)

/-- 'laws.FnExactImproveTour': WHATEVER THE INPUT: true; the input reads as it did. -/
def fnExactImproveTourSpec : ChangeSpec := { name := "fnExactImproveTour", fn := fun _ => fun
  | [d1, d2] => { results := [.lit (.bool true)], args := [d1, d2] }
  | _ => none }
def fnExactImproveTourRow : OpenClaim := { program := "ythkleabdnjhniaa", sum := "16e371758e138a2118fecb0947f177531ba9282f71af1824e072baf325f1457c", func := "loop.example/robotcell/laws.FnExactImproveTour", spec := "fnExactImproveTour", apart := false }
def FnExactImproveTourSaid : Prop := fnExactImproveTourRow.holds Try.pinned (OpenSpec.ofChange fnExactImproveTourSpec)

/-- ITS FALSE NEIGHBOUR: 'it returns false'. Refute it at one input. -/
def fnExactImproveTourWrong : ChangeSpec := { name := "fnExactImproveTour", fn := fun _ => fun
  | [d1, d2] => { results := [.lit (.bool false)], args := [d1, d2] }
  | _ => none }
def FnExactImproveTourWrongFalsely : Prop := fnExactImproveTourRow.holds Try.pinned (OpenSpec.ofChange fnExactImproveTourWrong)

/-- 'laws.FnImproveTour': WHATEVER THE INPUT: true; the input reads as it did. -/
def fnImproveTourSpec : ChangeSpec := { name := "fnImproveTour", fn := fun _ => fun
  | [d] => { results := [.lit (.bool true)], args := [d] }
  | _ => none }
def fnImproveTourRow : OpenClaim := { program := "ythkleabdnjhniaa", sum := "16e371758e138a2118fecb0947f177531ba9282f71af1824e072baf325f1457c", func := "loop.example/robotcell/laws.FnImproveTour", spec := "fnImproveTour", apart := false }
def FnImproveTourSaid : Prop := fnImproveTourRow.holds Try.pinned (OpenSpec.ofChange fnImproveTourSpec)

/-- ITS FALSE NEIGHBOUR: 'it returns false'. Refute it at one input. -/
def fnImproveTourWrong : ChangeSpec := { name := "fnImproveTour", fn := fun _ => fun
  | [d] => { results := [.lit (.bool false)], args := [d] }
  | _ => none }
def FnImproveTourWrongFalsely : Prop := fnImproveTourRow.holds Try.pinned (OpenSpec.ofChange fnImproveTourWrong)

/- THE SECOND FORM. 'bulk': how many values and letters a reading holds, each counted each time it is reached (what is shared counts as often as it is met; a slice's spare places count too). A statement '..UptoSaid' is the law's where the arguments, and the package variables that the reading takes, are together of bulk at most 1048576: NARROWER than '..Said'. Prove '..Said' where nothing that the law and all that it calls make is longer than what came in: it says more and counts as full. Else prove '..UptoSaid'. A law counts once. -/
mutual
def uptoBulk {H : Type} : DataW H → Nat
  | .lit (.string bytes) => bytes.length + 1
  | .lit _ => 1
  | .nil => 1
  | .ptr d => uptoBulk d + 1
  | .slice elems spare => uptoBulkAll elems + uptoBulkAll spare + 1
  | .agg parts => uptoBulkAll parts + 1
  | .iface _ d => uptoBulk d + 1
  | .map entries => uptoBulkEntries entries + 1
  | .held _ => 1
def uptoBulkAll {H : Type} : List (DataW H) → Nat
  | [] => 0
  | d :: r => uptoBulk d + uptoBulkAll r
def uptoBulkEntries {H : Type} : List (Lit × DataW H) → Nat
  | [] => 0
  | x :: r => uptoBulkEntry x + uptoBulkEntries r
def uptoBulkEntry {H : Type} : Lit × DataW H → Nat
  | (.string bytes, d) => bytes.length + uptoBulk d + 1
  | (_, d) => uptoBulk d + 1
 end
def uptoSmall : (H : Type) → List (DataW H) → Bool := fun _ ds => decide (uptoBulkAll ds ≤ 1048576)
def OpenSpec.upto (s : _root_.Go.ChangeSpec) : _root_.Go.OpenSpec := { _root_.Go.OpenSpec.ofChange s with cond := some uptoSmall }

/-- 'laws.FnExactStopsValid', WHERE WHAT IT READS IS OF BULK AT MOST 1048576: true; the input reads as it did. -/
def fnExactStopsValidUptoRow : OpenClaim := { program := "ythkleabdnjhniaa", sum := "16e371758e138a2118fecb0947f177531ba9282f71af1824e072baf325f1457c", func := "loop.example/robotcell/laws.FnExactStopsValid", spec := "fnExactStopsValid", apart := false, narrowed := true }
def FnExactStopsValidUptoSaid : Prop := fnExactStopsValidUptoRow.holds Try.pinned (OpenSpec.upto fnExactStopsValidSpec)

/-- 'laws.FnStopsValid', WHERE WHAT IT READS IS OF BULK AT MOST 1048576: true; the input reads as it did. -/
def fnStopsValidUptoRow : OpenClaim := { program := "ythkleabdnjhniaa", sum := "16e371758e138a2118fecb0947f177531ba9282f71af1824e072baf325f1457c", func := "loop.example/robotcell/laws.FnStopsValid", spec := "fnStopsValid", apart := false, narrowed := true }
def FnStopsValidUptoSaid : Prop := fnStopsValidUptoRow.holds Try.pinned (OpenSpec.upto fnStopsValidSpec)

/-- 'laws.FnExactTourLength', WHERE WHAT IT READS IS OF BULK AT MOST 1048576: true; the input reads as it did. -/
def fnExactTourLengthUptoRow : OpenClaim := { program := "ythkleabdnjhniaa", sum := "16e371758e138a2118fecb0947f177531ba9282f71af1824e072baf325f1457c", func := "loop.example/robotcell/laws.FnExactTourLength", spec := "fnExactTourLength", apart := false, narrowed := true }
def FnExactTourLengthUptoSaid : Prop := fnExactTourLengthUptoRow.holds Try.pinned (OpenSpec.upto fnExactTourLengthSpec)

/-- 'laws.FnTourLength', WHERE WHAT IT READS IS OF BULK AT MOST 1048576: true; the input reads as it did. -/
def fnTourLengthUptoRow : OpenClaim := { program := "ythkleabdnjhniaa", sum := "16e371758e138a2118fecb0947f177531ba9282f71af1824e072baf325f1457c", func := "loop.example/robotcell/laws.FnTourLength", spec := "fnTourLength", apart := false, narrowed := true }
def FnTourLengthUptoSaid : Prop := fnTourLengthUptoRow.holds Try.pinned (OpenSpec.upto fnTourLengthSpec)

/-- 'laws.FnExactNearestTour', WHERE WHAT IT READS IS OF BULK AT MOST 1048576: true; the input reads as it did. -/
def fnExactNearestTourUptoRow : OpenClaim := { program := "ythkleabdnjhniaa", sum := "16e371758e138a2118fecb0947f177531ba9282f71af1824e072baf325f1457c", func := "loop.example/robotcell/laws.FnExactNearestTour", spec := "fnExactNearestTour", apart := false, narrowed := true }
def FnExactNearestTourUptoSaid : Prop := fnExactNearestTourUptoRow.holds Try.pinned (OpenSpec.upto fnExactNearestTourSpec)

/-- 'laws.FnNearestTour', WHERE WHAT IT READS IS OF BULK AT MOST 1048576: true; the input reads as it did. -/
def fnNearestTourUptoRow : OpenClaim := { program := "ythkleabdnjhniaa", sum := "16e371758e138a2118fecb0947f177531ba9282f71af1824e072baf325f1457c", func := "loop.example/robotcell/laws.FnNearestTour", spec := "fnNearestTour", apart := false, narrowed := true }
def FnNearestTourUptoSaid : Prop := fnNearestTourUptoRow.holds Try.pinned (OpenSpec.upto fnNearestTourSpec)

/-- 'laws.FnExactBestTour', WHERE WHAT IT READS IS OF BULK AT MOST 1048576: true; the input reads as it did. -/
def fnExactBestTourUptoRow : OpenClaim := { program := "ythkleabdnjhniaa", sum := "16e371758e138a2118fecb0947f177531ba9282f71af1824e072baf325f1457c", func := "loop.example/robotcell/laws.FnExactBestTour", spec := "fnExactBestTour", recurses := true, apart := false, narrowed := true }
def FnExactBestTourUptoSaid : Prop := fnExactBestTourUptoRow.holds Try.pinned (OpenSpec.upto fnExactBestTourSpec)

/-- 'laws.FnBestTour', WHERE WHAT IT READS IS OF BULK AT MOST 1048576: true; the input reads as it did. -/
def fnBestTourUptoRow : OpenClaim := { program := "ythkleabdnjhniaa", sum := "16e371758e138a2118fecb0947f177531ba9282f71af1824e072baf325f1457c", func := "loop.example/robotcell/laws.FnBestTour", spec := "fnBestTour", recurses := true, apart := false, narrowed := true }
def FnBestTourUptoSaid : Prop := fnBestTourUptoRow.holds Try.pinned (OpenSpec.upto fnBestTourSpec)

/-- 'laws.FnExactImproveTour', WHERE WHAT IT READS IS OF BULK AT MOST 1048576: true; the input reads as it did. -/
def fnExactImproveTourUptoRow : OpenClaim := { program := "ythkleabdnjhniaa", sum := "16e371758e138a2118fecb0947f177531ba9282f71af1824e072baf325f1457c", func := "loop.example/robotcell/laws.FnExactImproveTour", spec := "fnExactImproveTour", apart := false, narrowed := true }
def FnExactImproveTourUptoSaid : Prop := fnExactImproveTourUptoRow.holds Try.pinned (OpenSpec.upto fnExactImproveTourSpec)

/-- 'laws.FnImproveTour', WHERE WHAT IT READS IS OF BULK AT MOST 1048576: true; the input reads as it did. -/
def fnImproveTourUptoRow : OpenClaim := { program := "ythkleabdnjhniaa", sum := "16e371758e138a2118fecb0947f177531ba9282f71af1824e072baf325f1457c", func := "loop.example/robotcell/laws.FnImproveTour", spec := "fnImproveTour", apart := false, narrowed := true }
def FnImproveTourUptoSaid : Prop := fnImproveTourUptoRow.holds Try.pinned (OpenSpec.upto fnImproveTourSpec)

end Rows
end Go.Proofs.Ythkleabdnjhniaa
