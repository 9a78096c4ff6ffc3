/-
  No cell of these rows narrows 'for every input' (looked for: loops, veiled, ifaces, maps, wideKeys, modest, calm, conditions, laid).
  DERIVED. THE GIVEN ROWS OF THIS SEAT. 4 by the template 'for every input the law returns true; each argument reads behind the call as it read before'; 0 by the template 'total and deterministic' (their statements: YtpbihjkfbbmdjaaTotals.lean).
  GIVEN WITH THE SEED: the statements are not yours to turn. If you find one false, say at which input.
  Laid BY PROGRAM, IN A SANDBOX (cutbox-rows.mjs): the forced cells as the released guide's own fill.sh prints them over the translation 05556bc7c2003329… (all of the seat's roots in one cut). By AI agents, Wed Nov 11 2026. No macro, syntax, notation, axiom, sorry.
-/
import Derived.Test.YtpbihjkfbbmdjaaChecked
import GoSem.Claim
import GoSem.ClaimJoined
import GoSem.ClaimMapViews
import Derived.JoinedTies
import Derived.KernelRfl
namespace Go.Proofs.Ytpbihjkfbbmdjaa
/- THE CELL 'sum', in the pinned program and in every row, IS THE sha256 OF THE DUMP (.gsa) THAT YtpbihjkfbbmdjaaProg.lean LOADS. Nothing in Lean hashes anything: it is a label: what it is worth is what the hold of that sum in a sandbox is worth. -/
noncomputable def Try.pinned : Pinned := { name := "ytpbihjkfbbmdjaa", sum := "05556bc7c2003329c1c5777fbffc25908b16cdbe7f9a24073dfa2b5fae4f383f", checked := Try.checked }
namespace Rows
def none {H : Type} : Left H := { results := [], args := [] }

/-- 'laws.FnExactStateSafe': WHATEVER THE INPUT: true; the input reads as it did. -/
def fnExactStateSafeSpec : ChangeSpec := { name := "fnExactStateSafe", fn := fun _ => fun
  | [d1, d2] => { results := [.lit (.bool true)], args := [d1, d2] }
  | _ => none }
def fnExactStateSafeRow : OpenClaim := { program := "ytpbihjkfbbmdjaa", sum := "05556bc7c2003329c1c5777fbffc25908b16cdbe7f9a24073dfa2b5fae4f383f", func := "loop.example/robotcell/laws.FnExactStateSafe", spec := "fnExactStateSafe", unfollowed := true, recurses := true, apart := false }
def FnExactStateSafeSaid : Prop := fnExactStateSafeRow.holds Try.pinned (OpenSpec.ofChange fnExactStateSafeSpec)

/-- ITS FALSE NEIGHBOUR: 'it returns false'. Refute it at one input. -/
def fnExactStateSafeWrong : ChangeSpec := { name := "fnExactStateSafe", fn := fun _ => fun
  | [d1, d2] => { results := [.lit (.bool false)], args := [d1, d2] }
  | _ => none }
def FnExactStateSafeWrongFalsely : Prop := fnExactStateSafeRow.holds Try.pinned (OpenSpec.ofChange fnExactStateSafeWrong)

/-- 'laws.FnExactFinishOrder': WHATEVER THE INPUT: true; the input reads as it did. -/
def fnExactFinishOrderSpec : ChangeSpec := { name := "fnExactFinishOrder", fn := fun _ => fun
  | [d1, d2] => { results := [.lit (.bool true)], args := [d1, d2] }
  | _ => none }
def fnExactFinishOrderRow : OpenClaim := { program := "ytpbihjkfbbmdjaa", sum := "05556bc7c2003329c1c5777fbffc25908b16cdbe7f9a24073dfa2b5fae4f383f", func := "loop.example/robotcell/laws.FnExactFinishOrder", spec := "fnExactFinishOrder", unfollowed := true, recurses := true, apart := false }
def FnExactFinishOrderSaid : Prop := fnExactFinishOrderRow.holds Try.pinned (OpenSpec.ofChange fnExactFinishOrderSpec)

/-- ITS FALSE NEIGHBOUR: 'it returns false'. Refute it at one input. -/
def fnExactFinishOrderWrong : ChangeSpec := { name := "fnExactFinishOrder", fn := fun _ => fun
  | [d1, d2] => { results := [.lit (.bool false)], args := [d1, d2] }
  | _ => none }
def FnExactFinishOrderWrongFalsely : Prop := fnExactFinishOrderRow.holds Try.pinned (OpenSpec.ofChange fnExactFinishOrderWrong)

/-- 'laws.FnExactGrantSafe': WHATEVER THE INPUT: true; the input reads as it did. -/
def fnExactGrantSafeSpec : ChangeSpec := { name := "fnExactGrantSafe", fn := fun _ => fun
  | [d1, d2, d3, d4] => { results := [.lit (.bool true)], args := [d1, d2, d3, d4] }
  | _ => none }
def fnExactGrantSafeRow : OpenClaim := { program := "ytpbihjkfbbmdjaa", sum := "05556bc7c2003329c1c5777fbffc25908b16cdbe7f9a24073dfa2b5fae4f383f", func := "loop.example/robotcell/laws.FnExactGrantSafe", spec := "fnExactGrantSafe", unfollowed := true, recurses := true, apart := false }
def FnExactGrantSafeSaid : Prop := fnExactGrantSafeRow.holds Try.pinned (OpenSpec.ofChange fnExactGrantSafeSpec)

/-- ITS FALSE NEIGHBOUR: 'it returns false'. Refute it at one input. -/
def fnExactGrantSafeWrong : ChangeSpec := { name := "fnExactGrantSafe", fn := fun _ => fun
  | [d1, d2, d3, d4] => { results := [.lit (.bool false)], args := [d1, d2, d3, d4] }
  | _ => none }
def FnExactGrantSafeWrongFalsely : Prop := fnExactGrantSafeRow.holds Try.pinned (OpenSpec.ofChange fnExactGrantSafeWrong)

/-- 'laws.FnGrantSafe': WHATEVER THE INPUT: true; the input reads as it did. -/
def fnGrantSafeSpec : ChangeSpec := { name := "fnGrantSafe", fn := fun _ => fun
  | [d] => { results := [.lit (.bool true)], args := [d] }
  | _ => none }
def fnGrantSafeRow : OpenClaim := { program := "ytpbihjkfbbmdjaa", sum := "05556bc7c2003329c1c5777fbffc25908b16cdbe7f9a24073dfa2b5fae4f383f", func := "loop.example/robotcell/laws.FnGrantSafe", spec := "fnGrantSafe", unfollowed := true, recurses := true, apart := false }
def FnGrantSafeSaid : Prop := fnGrantSafeRow.holds Try.pinned (OpenSpec.ofChange fnGrantSafeSpec)

/-- ITS FALSE NEIGHBOUR: 'it returns false'. Refute it at one input. -/
def fnGrantSafeWrong : ChangeSpec := { name := "fnGrantSafe", fn := fun _ => fun
  | [d] => { results := [.lit (.bool false)], args := [d] }
  | _ => none }
def FnGrantSafeWrongFalsely : Prop := fnGrantSafeRow.holds Try.pinned (OpenSpec.ofChange fnGrantSafeWrong)

/- THE SECOND FORM. 'bulk': how many values and letters a reading holds, each counted each time it is reached (what is shared counts as often as it is met; a slice's spare places count too). A statement '..UptoSaid' is the law's where the arguments, and the package variables that the reading takes, are together of bulk at most 1048576: NARROWER than '..Said'. Prove '..Said' where nothing that the law and all that it calls make is longer than what came in: it says more and counts as full. Else prove '..UptoSaid'. A law counts once. -/
mutual
def uptoBulk {H : Type} : DataW H → Nat
  | .lit (.string bytes) => bytes.length + 1
  | .lit _ => 1
  | .nil => 1
  | .ptr d => uptoBulk d + 1
  | .slice elems spare => uptoBulkAll elems + uptoBulkAll spare + 1
  | .agg parts => uptoBulkAll parts + 1
  | .iface _ d => uptoBulk d + 1
  | .map entries => uptoBulkEntries entries + 1
  | .held _ => 1
def uptoBulkAll {H : Type} : List (DataW H) → Nat
  | [] => 0
  | d :: r => uptoBulk d + uptoBulkAll r
def uptoBulkEntries {H : Type} : List (Lit × DataW H) → Nat
  | [] => 0
  | x :: r => uptoBulkEntry x + uptoBulkEntries r
def uptoBulkEntry {H : Type} : Lit × DataW H → Nat
  | (.string bytes, d) => bytes.length + uptoBulk d + 1
  | (_, d) => uptoBulk d + 1
 end
def uptoSmall : (H : Type) → List (DataW H) → Bool := fun _ ds => decide (uptoBulkAll ds ≤ 1048576)
def OpenSpec.upto (s : _root_.Go.ChangeSpec) : _root_.Go.OpenSpec := { _root_.Go.OpenSpec.ofChange s with cond := some uptoSmall }

/-- 'laws.FnExactStateSafe', WHERE WHAT IT READS IS OF BULK AT MOST 1048576: true; the input reads as it did. -/
def fnExactStateSafeUptoRow : OpenClaim := { program := "ytpbihjkfbbmdjaa", sum := "05556bc7c2003329c1c5777fbffc25908b16cdbe7f9a24073dfa2b5fae4f383f", func := "loop.example/robotcell/laws.FnExactStateSafe", spec := "fnExactStateSafe", unfollowed := true, recurses := true, apart := false, narrowed := true }
def FnExactStateSafeUptoSaid : Prop := fnExactStateSafeUptoRow.holds Try.pinned (OpenSpec.upto fnExactStateSafeSpec)

/-- 'laws.FnExactFinishOrder', WHERE WHAT IT READS IS OF BULK AT MOST 1048576: true; the input reads as it did. -/
def fnExactFinishOrderUptoRow : OpenClaim := { program := "ytpbihjkfbbmdjaa", sum := "05556bc7c2003329c1c5777fbffc25908b16cdbe7f9a24073dfa2b5fae4f383f", func := "loop.example/robotcell/laws.FnExactFinishOrder", spec := "fnExactFinishOrder", unfollowed := true, recurses := true, apart := false, narrowed := true }
def FnExactFinishOrderUptoSaid : Prop := fnExactFinishOrderUptoRow.holds Try.pinned (OpenSpec.upto fnExactFinishOrderSpec)

/-- 'laws.FnExactGrantSafe', WHERE WHAT IT READS IS OF BULK AT MOST 1048576: true; the input reads as it did. -/
def fnExactGrantSafeUptoRow : OpenClaim := { program := "ytpbihjkfbbmdjaa", sum := "05556bc7c2003329c1c5777fbffc25908b16cdbe7f9a24073dfa2b5fae4f383f", func := "loop.example/robotcell/laws.FnExactGrantSafe", spec := "fnExactGrantSafe", unfollowed := true, recurses := true, apart := false, narrowed := true }
def FnExactGrantSafeUptoSaid : Prop := fnExactGrantSafeUptoRow.holds Try.pinned (OpenSpec.upto fnExactGrantSafeSpec)

/-- 'laws.FnGrantSafe', WHERE WHAT IT READS IS OF BULK AT MOST 1048576: true; the input reads as it did. -/
def fnGrantSafeUptoRow : OpenClaim := { program := "ytpbihjkfbbmdjaa", sum := "05556bc7c2003329c1c5777fbffc25908b16cdbe7f9a24073dfa2b5fae4f383f", func := "loop.example/robotcell/laws.FnGrantSafe", spec := "fnGrantSafe", unfollowed := true, recurses := true, apart := false, narrowed := true }
def FnGrantSafeUptoSaid : Prop := fnGrantSafeUptoRow.holds Try.pinned (OpenSpec.upto fnGrantSafeSpec)

end Rows
end Go.Proofs.Ytpbihjkfbbmdjaa
