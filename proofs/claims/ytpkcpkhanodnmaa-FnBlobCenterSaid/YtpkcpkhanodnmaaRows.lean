/-
  No cell of these rows narrows 'for every input' (looked for: loops, veiled, ifaces, maps, wideKeys, modest, calm, conditions, laid).
  DERIVED. THE GIVEN ROWS OF THIS SEAT. 11 by the template 'for every input the law returns true; each argument reads behind the call as it read before'; 0 by the template 'total and deterministic' (their statements: YtpkcpkhanodnmaaTotals.lean).
  GIVEN WITH THE SEED: the statements are not yours to turn. If you find one false, say at which input.
  Laid BY PROGRAM, IN A SANDBOX (cutbox-rows.mjs): the forced cells as the released guide's own fill.sh prints them over the translation 6e7fb3bd2f197543… (all of the seat's roots in one cut). By AI agents, Wed Nov 11 2026. No macro, syntax, notation, axiom, sorry.
-/
import Derived.Test.YtpkcpkhanodnmaaChecked
import GoSem.Claim
import GoSem.ClaimJoined
import GoSem.ClaimMapViews
import Derived.JoinedTies
import Derived.KernelRfl
namespace Go.Proofs.Ytpkcpkhanodnmaa
/- THE CELL 'sum', in the pinned program and in every row, IS THE sha256 OF THE DUMP (.gsa) THAT YtpkcpkhanodnmaaProg.lean LOADS. Nothing in Lean hashes anything: it is a label: what it is worth is what the hold of that sum in a sandbox is worth. -/
noncomputable def Try.pinned : Pinned := { name := "ytpkcpkhanodnmaa", sum := "6e7fb3bd2f197543e7d051245142f537bb6267162a864905c7d616622bfd0637", checked := Try.checked }
namespace Rows
def none {H : Type} : Left H := { results := [], args := [] }

/-- 'laws.FnExactBlobCenter': WHATEVER THE INPUT: true; the input reads as it did. -/
def fnExactBlobCenterSpec : ChangeSpec := { name := "fnExactBlobCenter", fn := fun _ => fun
  | [d] => { results := [.lit (.bool true)], args := [d] }
  | _ => none }
def fnExactBlobCenterRow : OpenClaim := { program := "ytpkcpkhanodnmaa", sum := "6e7fb3bd2f197543e7d051245142f537bb6267162a864905c7d616622bfd0637", func := "loop.example/robotcell/laws.FnExactBlobCenter", spec := "fnExactBlobCenter", apart := false }
def FnExactBlobCenterSaid : Prop := fnExactBlobCenterRow.holds Try.pinned (OpenSpec.ofChange fnExactBlobCenterSpec)

/-- ITS FALSE NEIGHBOUR: 'it returns false'. Refute it at one input. -/
def fnExactBlobCenterWrong : ChangeSpec := { name := "fnExactBlobCenter", fn := fun _ => fun
  | [d] => { results := [.lit (.bool false)], args := [d] }
  | _ => none }
def FnExactBlobCenterWrongFalsely : Prop := fnExactBlobCenterRow.holds Try.pinned (OpenSpec.ofChange fnExactBlobCenterWrong)

/-- 'laws.FnExactImageValid': WHATEVER THE INPUT: true; the input reads as it did. -/
def fnExactImageValidSpec : ChangeSpec := { name := "fnExactImageValid", fn := fun _ => fun
  | [d] => { results := [.lit (.bool true)], args := [d] }
  | _ => none }
def fnExactImageValidRow : OpenClaim := { program := "ytpkcpkhanodnmaa", sum := "6e7fb3bd2f197543e7d051245142f537bb6267162a864905c7d616622bfd0637", func := "loop.example/robotcell/laws.FnExactImageValid", spec := "fnExactImageValid", apart := false }
def FnExactImageValidSaid : Prop := fnExactImageValidRow.holds Try.pinned (OpenSpec.ofChange fnExactImageValidSpec)

/-- ITS FALSE NEIGHBOUR: 'it returns false'. Refute it at one input. -/
def fnExactImageValidWrong : ChangeSpec := { name := "fnExactImageValid", fn := fun _ => fun
  | [d] => { results := [.lit (.bool false)], args := [d] }
  | _ => none }
def FnExactImageValidWrongFalsely : Prop := fnExactImageValidRow.holds Try.pinned (OpenSpec.ofChange fnExactImageValidWrong)

/-- 'laws.FnImageValid': WHATEVER THE INPUT: true; the input reads as it did. -/
def fnImageValidSpec : ChangeSpec := { name := "fnImageValid", fn := fun _ => fun
  | [d] => { results := [.lit (.bool true)], args := [d] }
  | _ => none }
def fnImageValidRow : OpenClaim := { program := "ytpkcpkhanodnmaa", sum := "6e7fb3bd2f197543e7d051245142f537bb6267162a864905c7d616622bfd0637", func := "loop.example/robotcell/laws.FnImageValid", spec := "fnImageValid", apart := false }
def FnImageValidSaid : Prop := fnImageValidRow.holds Try.pinned (OpenSpec.ofChange fnImageValidSpec)

/-- ITS FALSE NEIGHBOUR: 'it returns false'. Refute it at one input. -/
def fnImageValidWrong : ChangeSpec := { name := "fnImageValid", fn := fun _ => fun
  | [d] => { results := [.lit (.bool false)], args := [d] }
  | _ => none }
def FnImageValidWrongFalsely : Prop := fnImageValidRow.holds Try.pinned (OpenSpec.ofChange fnImageValidWrong)

/-- 'laws.FnBlobCenter': WHATEVER THE INPUT: true; the input reads as it did. -/
def fnBlobCenterSpec : ChangeSpec := { name := "fnBlobCenter", fn := fun _ => fun
  | [d] => { results := [.lit (.bool true)], args := [d] }
  | _ => none }
def fnBlobCenterRow : OpenClaim := { program := "ytpkcpkhanodnmaa", sum := "6e7fb3bd2f197543e7d051245142f537bb6267162a864905c7d616622bfd0637", func := "loop.example/robotcell/laws.FnBlobCenter", spec := "fnBlobCenter", apart := false }
def FnBlobCenterSaid : Prop := fnBlobCenterRow.holds Try.pinned (OpenSpec.ofChange fnBlobCenterSpec)

/-- ITS FALSE NEIGHBOUR: 'it returns false'. Refute it at one input. -/
def fnBlobCenterWrong : ChangeSpec := { name := "fnBlobCenter", fn := fun _ => fun
  | [d] => { results := [.lit (.bool false)], args := [d] }
  | _ => none }
def FnBlobCenterWrongFalsely : Prop := fnBlobCenterRow.holds Try.pinned (OpenSpec.ofChange fnBlobCenterWrong)

/-- 'laws.FnExactErodeImage': WHATEVER THE INPUT: true; the input reads as it did. -/
def fnExactErodeImageSpec : ChangeSpec := { name := "fnExactErodeImage", fn := fun _ => fun
  | [d] => { results := [.lit (.bool true)], args := [d] }
  | _ => none }
def fnExactErodeImageRow : OpenClaim := { program := "ytpkcpkhanodnmaa", sum := "6e7fb3bd2f197543e7d051245142f537bb6267162a864905c7d616622bfd0637", func := "loop.example/robotcell/laws.FnExactErodeImage", spec := "fnExactErodeImage", apart := false }
def FnExactErodeImageSaid : Prop := fnExactErodeImageRow.holds Try.pinned (OpenSpec.ofChange fnExactErodeImageSpec)

/-- ITS FALSE NEIGHBOUR: 'it returns false'. Refute it at one input. -/
def fnExactErodeImageWrong : ChangeSpec := { name := "fnExactErodeImage", fn := fun _ => fun
  | [d] => { results := [.lit (.bool false)], args := [d] }
  | _ => none }
def FnExactErodeImageWrongFalsely : Prop := fnExactErodeImageRow.holds Try.pinned (OpenSpec.ofChange fnExactErodeImageWrong)

/-- 'laws.FnErodeImage': WHATEVER THE INPUT: true; the input reads as it did. -/
def fnErodeImageSpec : ChangeSpec := { name := "fnErodeImage", fn := fun _ => fun
  | [d] => { results := [.lit (.bool true)], args := [d] }
  | _ => none }
def fnErodeImageRow : OpenClaim := { program := "ytpkcpkhanodnmaa", sum := "6e7fb3bd2f197543e7d051245142f537bb6267162a864905c7d616622bfd0637", func := "loop.example/robotcell/laws.FnErodeImage", spec := "fnErodeImage", recurses := true, apart := false }
def FnErodeImageSaid : Prop := fnErodeImageRow.holds Try.pinned (OpenSpec.ofChange fnErodeImageSpec)

/-- ITS FALSE NEIGHBOUR: 'it returns false'. Refute it at one input. -/
def fnErodeImageWrong : ChangeSpec := { name := "fnErodeImage", fn := fun _ => fun
  | [d] => { results := [.lit (.bool false)], args := [d] }
  | _ => none }
def FnErodeImageWrongFalsely : Prop := fnErodeImageRow.holds Try.pinned (OpenSpec.ofChange fnErodeImageWrong)

/-- 'laws.FnLabelImage': WHATEVER THE INPUT: true; the input reads as it did. -/
def fnLabelImageSpec : ChangeSpec := { name := "fnLabelImage", fn := fun _ => fun
  | [d] => { results := [.lit (.bool true)], args := [d] }
  | _ => none }
def fnLabelImageRow : OpenClaim := { program := "ytpkcpkhanodnmaa", sum := "6e7fb3bd2f197543e7d051245142f537bb6267162a864905c7d616622bfd0637", func := "loop.example/robotcell/laws.FnLabelImage", spec := "fnLabelImage", recurses := true, apart := false }
def FnLabelImageSaid : Prop := fnLabelImageRow.holds Try.pinned (OpenSpec.ofChange fnLabelImageSpec)

/-- ITS FALSE NEIGHBOUR: 'it returns false'. Refute it at one input. -/
def fnLabelImageWrong : ChangeSpec := { name := "fnLabelImage", fn := fun _ => fun
  | [d] => { results := [.lit (.bool false)], args := [d] }
  | _ => none }
def FnLabelImageWrongFalsely : Prop := fnLabelImageRow.holds Try.pinned (OpenSpec.ofChange fnLabelImageWrong)

/-- 'laws.FnBlobShift': WHATEVER THE INPUT: true; the input reads as it did. -/
def fnBlobShiftSpec : ChangeSpec := { name := "fnBlobShift", fn := fun _ => fun
  | [d] => { results := [.lit (.bool true)], args := [d] }
  | _ => none }
def fnBlobShiftRow : OpenClaim := { program := "ytpkcpkhanodnmaa", sum := "6e7fb3bd2f197543e7d051245142f537bb6267162a864905c7d616622bfd0637", func := "loop.example/robotcell/laws.FnBlobShift", spec := "fnBlobShift", recurses := true, apart := false }
def FnBlobShiftSaid : Prop := fnBlobShiftRow.holds Try.pinned (OpenSpec.ofChange fnBlobShiftSpec)

/-- ITS FALSE NEIGHBOUR: 'it returns false'. Refute it at one input. -/
def fnBlobShiftWrong : ChangeSpec := { name := "fnBlobShift", fn := fun _ => fun
  | [d] => { results := [.lit (.bool false)], args := [d] }
  | _ => none }
def FnBlobShiftWrongFalsely : Prop := fnBlobShiftRow.holds Try.pinned (OpenSpec.ofChange fnBlobShiftWrong)

/-- 'laws.FnFindBlobs': WHATEVER THE INPUT: true; the input reads as it did. -/
def fnFindBlobsSpec : ChangeSpec := { name := "fnFindBlobs", fn := fun _ => fun
  | [d] => { results := [.lit (.bool true)], args := [d] }
  | _ => none }
def fnFindBlobsRow : OpenClaim := { program := "ytpkcpkhanodnmaa", sum := "6e7fb3bd2f197543e7d051245142f537bb6267162a864905c7d616622bfd0637", func := "loop.example/robotcell/laws.FnFindBlobs", spec := "fnFindBlobs", recurses := true, apart := false }
def FnFindBlobsSaid : Prop := fnFindBlobsRow.holds Try.pinned (OpenSpec.ofChange fnFindBlobsSpec)

/-- ITS FALSE NEIGHBOUR: 'it returns false'. Refute it at one input. -/
def fnFindBlobsWrong : ChangeSpec := { name := "fnFindBlobs", fn := fun _ => fun
  | [d] => { results := [.lit (.bool false)], args := [d] }
  | _ => none }
def FnFindBlobsWrongFalsely : Prop := fnFindBlobsRow.holds Try.pinned (OpenSpec.ofChange fnFindBlobsWrong)

/-- 'laws.FnExactLabelImage': WHATEVER THE INPUT: true; the input reads as it did. -/
def fnExactLabelImageSpec : ChangeSpec := { name := "fnExactLabelImage", fn := fun _ => fun
  | [d] => { results := [.lit (.bool true)], args := [d] }
  | _ => none }
def fnExactLabelImageRow : OpenClaim := { program := "ytpkcpkhanodnmaa", sum := "6e7fb3bd2f197543e7d051245142f537bb6267162a864905c7d616622bfd0637", func := "loop.example/robotcell/laws.FnExactLabelImage", spec := "fnExactLabelImage", recurses := true, apart := false }
def FnExactLabelImageSaid : Prop := fnExactLabelImageRow.holds Try.pinned (OpenSpec.ofChange fnExactLabelImageSpec)

/-- ITS FALSE NEIGHBOUR: 'it returns false'. Refute it at one input. -/
def fnExactLabelImageWrong : ChangeSpec := { name := "fnExactLabelImage", fn := fun _ => fun
  | [d] => { results := [.lit (.bool false)], args := [d] }
  | _ => none }
def FnExactLabelImageWrongFalsely : Prop := fnExactLabelImageRow.holds Try.pinned (OpenSpec.ofChange fnExactLabelImageWrong)

/-- 'laws.FnExactFindBlobs': WHATEVER THE INPUT: true; the input reads as it did. -/
def fnExactFindBlobsSpec : ChangeSpec := { name := "fnExactFindBlobs", fn := fun _ => fun
  | [d] => { results := [.lit (.bool true)], args := [d] }
  | _ => none }
def fnExactFindBlobsRow : OpenClaim := { program := "ytpkcpkhanodnmaa", sum := "6e7fb3bd2f197543e7d051245142f537bb6267162a864905c7d616622bfd0637", func := "loop.example/robotcell/laws.FnExactFindBlobs", spec := "fnExactFindBlobs", recurses := true, apart := false }
def FnExactFindBlobsSaid : Prop := fnExactFindBlobsRow.holds Try.pinned (OpenSpec.ofChange fnExactFindBlobsSpec)

/-- ITS FALSE NEIGHBOUR: 'it returns false'. Refute it at one input. -/
def fnExactFindBlobsWrong : ChangeSpec := { name := "fnExactFindBlobs", fn := fun _ => fun
  | [d] => { results := [.lit (.bool false)], args := [d] }
  | _ => none }
def FnExactFindBlobsWrongFalsely : Prop := fnExactFindBlobsRow.holds Try.pinned (OpenSpec.ofChange fnExactFindBlobsWrong)

/- THE SECOND FORM. 'bulk': how many values and letters a reading holds, each counted each time it is reached (what is shared counts as often as it is met; a slice's spare places count too). A statement '..UptoSaid' is the law's where the arguments, and the package variables that the reading takes, are together of bulk at most 1048576: NARROWER than '..Said'. Prove '..Said' where nothing that the law and all that it calls make is longer than what came in: it says more and counts as full. Else prove '..UptoSaid'. A law counts once. -/
mutual
def uptoBulk {H : Type} : DataW H → Nat
  | .lit (.string bytes) => bytes.length + 1
  | .lit _ => 1
  | .nil => 1
  | .ptr d => uptoBulk d + 1
  | .slice elems spare => uptoBulkAll elems + uptoBulkAll spare + 1
  | .agg parts => uptoBulkAll parts + 1
  | .iface _ d => uptoBulk d + 1
  | .map entries => uptoBulkEntries entries + 1
  | .held _ => 1
def uptoBulkAll {H : Type} : List (DataW H) → Nat
  | [] => 0
  | d :: r => uptoBulk d + uptoBulkAll r
def uptoBulkEntries {H : Type} : List (Lit × DataW H) → Nat
  | [] => 0
  | x :: r => uptoBulkEntry x + uptoBulkEntries r
def uptoBulkEntry {H : Type} : Lit × DataW H → Nat
  | (.string bytes, d) => bytes.length + uptoBulk d + 1
  | (_, d) => uptoBulk d + 1
 end
def uptoSmall : (H : Type) → List (DataW H) → Bool := fun _ ds => decide (uptoBulkAll ds ≤ 1048576)
def OpenSpec.upto (s : _root_.Go.ChangeSpec) : _root_.Go.OpenSpec := { _root_.Go.OpenSpec.ofChange s with cond := some uptoSmall }

/-- 'laws.FnExactBlobCenter', WHERE WHAT IT READS IS OF BULK AT MOST 1048576: true; the input reads as it did. -/
def fnExactBlobCenterUptoRow : OpenClaim := { program := "ytpkcpkhanodnmaa", sum := "6e7fb3bd2f197543e7d051245142f537bb6267162a864905c7d616622bfd0637", func := "loop.example/robotcell/laws.FnExactBlobCenter", spec := "fnExactBlobCenter", apart := false, narrowed := true }
def FnExactBlobCenterUptoSaid : Prop := fnExactBlobCenterUptoRow.holds Try.pinned (OpenSpec.upto fnExactBlobCenterSpec)

/-- 'laws.FnExactImageValid', WHERE WHAT IT READS IS OF BULK AT MOST 1048576: true; the input reads as it did. -/
def fnExactImageValidUptoRow : OpenClaim := { program := "ytpkcpkhanodnmaa", sum := "6e7fb3bd2f197543e7d051245142f537bb6267162a864905c7d616622bfd0637", func := "loop.example/robotcell/laws.FnExactImageValid", spec := "fnExactImageValid", apart := false, narrowed := true }
def FnExactImageValidUptoSaid : Prop := fnExactImageValidUptoRow.holds Try.pinned (OpenSpec.upto fnExactImageValidSpec)

/-- 'laws.FnImageValid', WHERE WHAT IT READS IS OF BULK AT MOST 1048576: true; the input reads as it did. -/
def fnImageValidUptoRow : OpenClaim := { program := "ytpkcpkhanodnmaa", sum := "6e7fb3bd2f197543e7d051245142f537bb6267162a864905c7d616622bfd0637", func := "loop.example/robotcell/laws.FnImageValid", spec := "fnImageValid", apart := false, narrowed := true }
def FnImageValidUptoSaid : Prop := fnImageValidUptoRow.holds Try.pinned (OpenSpec.upto fnImageValidSpec)

/-- 'laws.FnBlobCenter', WHERE WHAT IT READS IS OF BULK AT MOST 1048576: true; the input reads as it did. -/
def fnBlobCenterUptoRow : OpenClaim := { program := "ytpkcpkhanodnmaa", sum := "6e7fb3bd2f197543e7d051245142f537bb6267162a864905c7d616622bfd0637", func := "loop.example/robotcell/laws.FnBlobCenter", spec := "fnBlobCenter", apart := false, narrowed := true }
def FnBlobCenterUptoSaid : Prop := fnBlobCenterUptoRow.holds Try.pinned (OpenSpec.upto fnBlobCenterSpec)

/-- 'laws.FnExactErodeImage', WHERE WHAT IT READS IS OF BULK AT MOST 1048576: true; the input reads as it did. -/
def fnExactErodeImageUptoRow : OpenClaim := { program := "ytpkcpkhanodnmaa", sum := "6e7fb3bd2f197543e7d051245142f537bb6267162a864905c7d616622bfd0637", func := "loop.example/robotcell/laws.FnExactErodeImage", spec := "fnExactErodeImage", apart := false, narrowed := true }
def FnExactErodeImageUptoSaid : Prop := fnExactErodeImageUptoRow.holds Try.pinned (OpenSpec.upto fnExactErodeImageSpec)

/-- 'laws.FnErodeImage', WHERE WHAT IT READS IS OF BULK AT MOST 1048576: true; the input reads as it did. -/
def fnErodeImageUptoRow : OpenClaim := { program := "ytpkcpkhanodnmaa", sum := "6e7fb3bd2f197543e7d051245142f537bb6267162a864905c7d616622bfd0637", func := "loop.example/robotcell/laws.FnErodeImage", spec := "fnErodeImage", recurses := true, apart := false, narrowed := true }
def FnErodeImageUptoSaid : Prop := fnErodeImageUptoRow.holds Try.pinned (OpenSpec.upto fnErodeImageSpec)

/-- 'laws.FnLabelImage', WHERE WHAT IT READS IS OF BULK AT MOST 1048576: true; the input reads as it did. -/
def fnLabelImageUptoRow : OpenClaim := { program := "ytpkcpkhanodnmaa", sum := "6e7fb3bd2f197543e7d051245142f537bb6267162a864905c7d616622bfd0637", func := "loop.example/robotcell/laws.FnLabelImage", spec := "fnLabelImage", recurses := true, apart := false, narrowed := true }
def FnLabelImageUptoSaid : Prop := fnLabelImageUptoRow.holds Try.pinned (OpenSpec.upto fnLabelImageSpec)

/-- 'laws.FnBlobShift', WHERE WHAT IT READS IS OF BULK AT MOST 1048576: true; the input reads as it did. -/
def fnBlobShiftUptoRow : OpenClaim := { program := "ytpkcpkhanodnmaa", sum := "6e7fb3bd2f197543e7d051245142f537bb6267162a864905c7d616622bfd0637", func := "loop.example/robotcell/laws.FnBlobShift", spec := "fnBlobShift", recurses := true, apart := false, narrowed := true }
def FnBlobShiftUptoSaid : Prop := fnBlobShiftUptoRow.holds Try.pinned (OpenSpec.upto fnBlobShiftSpec)

/-- 'laws.FnFindBlobs', WHERE WHAT IT READS IS OF BULK AT MOST 1048576: true; the input reads as it did. -/
def fnFindBlobsUptoRow : OpenClaim := { program := "ytpkcpkhanodnmaa", sum := "6e7fb3bd2f197543e7d051245142f537bb6267162a864905c7d616622bfd0637", func := "loop.example/robotcell/laws.FnFindBlobs", spec := "fnFindBlobs", recurses := true, apart := false, narrowed := true }
def FnFindBlobsUptoSaid : Prop := fnFindBlobsUptoRow.holds Try.pinned (OpenSpec.upto fnFindBlobsSpec)

/-- 'laws.FnExactLabelImage', WHERE WHAT IT READS IS OF BULK AT MOST 1048576: true; the input reads as it did. -/
def fnExactLabelImageUptoRow : OpenClaim := { program := "ytpkcpkhanodnmaa", sum := "6e7fb3bd2f197543e7d051245142f537bb6267162a864905c7d616622bfd0637", func := "loop.example/robotcell/laws.FnExactLabelImage", spec := "fnExactLabelImage", recurses := true, apart := false, narrowed := true }
def FnExactLabelImageUptoSaid : Prop := fnExactLabelImageUptoRow.holds Try.pinned (OpenSpec.upto fnExactLabelImageSpec)

/-- 'laws.FnExactFindBlobs', WHERE WHAT IT READS IS OF BULK AT MOST 1048576: true; the input reads as it did. -/
def fnExactFindBlobsUptoRow : OpenClaim := { program := "ytpkcpkhanodnmaa", sum := "6e7fb3bd2f197543e7d051245142f537bb6267162a864905c7d616622bfd0637", func := "loop.example/robotcell/laws.FnExactFindBlobs", spec := "fnExactFindBlobs", recurses := true, apart := false, narrowed := true }
def FnExactFindBlobsUptoSaid : Prop := fnExactFindBlobsUptoRow.holds Try.pinned (OpenSpec.upto fnExactFindBlobsSpec)

end Rows
end Go.Proofs.Ytpkcpkhanodnmaa
