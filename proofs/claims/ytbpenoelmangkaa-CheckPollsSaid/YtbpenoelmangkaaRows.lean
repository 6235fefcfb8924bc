/-
  No cell of these rows narrows 'for every input' (looked for: loops, veiled, ifaces, maps, wideKeys, modest, calm, conditions, laid).
  DERIVED. THE GIVEN ROWS OF THIS SEAT. 4 by the template 'for every input the law returns true; each argument reads behind the call as it read before'; 0 by the template 'total and deterministic' (their statements: YtbpenoelmangkaaTotals.lean).
  GIVEN WITH THE SEED: the statements are not yours to turn. If you find one false, say at which input.
  Laid BY PROGRAM, IN A SANDBOX (cutbox-rows.mjs): the forced cells as the released guide's own fill.sh prints them over the translation 1816d1b24ede5b5b… (all of the seat's roots in one cut). By AI agents, Wed Nov 11 2026. No macro, syntax, notation, axiom, sorry.
-/
import Derived.Test.YtbpenoelmangkaaChecked
import GoSem.Claim
import GoSem.ClaimJoined
import GoSem.ClaimMapViews
import Derived.JoinedTies
import Derived.KernelRfl
namespace Go.Proofs.Ytbpenoelmangkaa
/- THE CELL 'sum', in the pinned program and in every row, IS THE sha256 OF THE DUMP (.gsa) THAT YtbpenoelmangkaaProg.lean LOADS. Nothing in Lean hashes anything: it is a label: what it is worth is what the hold of that sum in a sandbox is worth. -/
noncomputable def Try.pinned : Pinned := { name := "ytbpenoelmangkaa", sum := "1816d1b24ede5b5ba25163b3f2203a7f32a3a4437a7276e81dd8ac333d974da6", checked := Try.checked }
namespace Rows
def none {H : Type} : Left H := { results := [], args := [] }

/-- 'watchkeeperlaw09.CheckPolls': WHATEVER THE INPUT: true; the input reads as it did. -/
def checkPollsSpec : ChangeSpec := { name := "checkPolls", fn := fun _ => fun
  | [d] => { results := [.lit (.bool true)], args := [d] }
  | _ => none }
def checkPollsRow : OpenClaim := { program := "ytbpenoelmangkaa", sum := "1816d1b24ede5b5ba25163b3f2203a7f32a3a4437a7276e81dd8ac333d974da6", func := "watchkeeper/watchkeeperlaw09.CheckPolls", spec := "checkPolls", unfollowed := true, recurses := true, apart := false }
def CheckPollsSaid : Prop := checkPollsRow.holds Try.pinned (OpenSpec.ofChange checkPollsSpec)

/-- ITS FALSE NEIGHBOUR: 'it returns false'. Refute it at one input. -/
def checkPollsWrong : ChangeSpec := { name := "checkPolls", fn := fun _ => fun
  | [d] => { results := [.lit (.bool false)], args := [d] }
  | _ => none }
def CheckPollsWrongFalsely : Prop := checkPollsRow.holds Try.pinned (OpenSpec.ofChange checkPollsWrong)

/-- 'watchkeeperlaw09.CheckBoth': WHATEVER THE INPUT: true; the input reads as it did. -/
def checkBothSpec : ChangeSpec := { name := "checkBoth", fn := fun _ => fun
  | [d] => { results := [.lit (.bool true)], args := [d] }
  | _ => none }
def checkBothRow : OpenClaim := { program := "ytbpenoelmangkaa", sum := "1816d1b24ede5b5ba25163b3f2203a7f32a3a4437a7276e81dd8ac333d974da6", func := "watchkeeper/watchkeeperlaw09.CheckBoth", spec := "checkBoth", unfollowed := true, recurses := true, apart := false }
def CheckBothSaid : Prop := checkBothRow.holds Try.pinned (OpenSpec.ofChange checkBothSpec)

/-- ITS FALSE NEIGHBOUR: 'it returns false'. Refute it at one input. -/
def checkBothWrong : ChangeSpec := { name := "checkBoth", fn := fun _ => fun
  | [d] => { results := [.lit (.bool false)], args := [d] }
  | _ => none }
def CheckBothWrongFalsely : Prop := checkBothRow.holds Try.pinned (OpenSpec.ofChange checkBothWrong)

/-- 'watchkeeperlaw09.CheckMore': WHATEVER THE INPUT: true; the input reads as it did. -/
def checkMoreSpec : ChangeSpec := { name := "checkMore", fn := fun _ => fun
  | [d1, d2] => { results := [.lit (.bool true)], args := [d1, d2] }
  | _ => none }
def checkMoreRow : OpenClaim := { program := "ytbpenoelmangkaa", sum := "1816d1b24ede5b5ba25163b3f2203a7f32a3a4437a7276e81dd8ac333d974da6", func := "watchkeeper/watchkeeperlaw09.CheckMore", spec := "checkMore", unfollowed := true, recurses := true, apart := false }
def CheckMoreSaid : Prop := checkMoreRow.holds Try.pinned (OpenSpec.ofChange checkMoreSpec)

/-- ITS FALSE NEIGHBOUR: 'it returns false'. Refute it at one input. -/
def checkMoreWrong : ChangeSpec := { name := "checkMore", fn := fun _ => fun
  | [d1, d2] => { results := [.lit (.bool false)], args := [d1, d2] }
  | _ => none }
def CheckMoreWrongFalsely : Prop := checkMoreRow.holds Try.pinned (OpenSpec.ofChange checkMoreWrong)

/-- 'watchkeeperlaw09.CheckNames': WHATEVER THE INPUT: true; the input reads as it did. -/
def checkNamesSpec : ChangeSpec := { name := "checkNames", fn := fun _ => fun
  | [d1, d2] => { results := [.lit (.bool true)], args := [d1, d2] }
  | _ => none }
def checkNamesRow : OpenClaim := { program := "ytbpenoelmangkaa", sum := "1816d1b24ede5b5ba25163b3f2203a7f32a3a4437a7276e81dd8ac333d974da6", func := "watchkeeper/watchkeeperlaw09.CheckNames", spec := "checkNames", unfollowed := true, recurses := true, apart := false }
def CheckNamesSaid : Prop := checkNamesRow.holds Try.pinned (OpenSpec.ofChange checkNamesSpec)

/-- ITS FALSE NEIGHBOUR: 'it returns false'. Refute it at one input. -/
def checkNamesWrong : ChangeSpec := { name := "checkNames", fn := fun _ => fun
  | [d1, d2] => { results := [.lit (.bool false)], args := [d1, d2] }
  | _ => none }
def CheckNamesWrongFalsely : Prop := checkNamesRow.holds Try.pinned (OpenSpec.ofChange checkNamesWrong)

/- THE SECOND FORM. 'bulk': how many values and letters a reading holds, each counted each time it is reached (what is shared counts as often as it is met; a slice's spare places count too). A statement '..UptoSaid' is the law's where the arguments, and the package variables that the reading takes, are together of bulk at most 1048576: NARROWER than '..Said'. Prove '..Said' where nothing that the law and all that it calls make is longer than what came in: it says more and counts as full. Else prove '..UptoSaid'. A law counts once. -/
mutual
def uptoBulk {H : Type} : DataW H → Nat
  | .lit (.string bytes) => bytes.length + 1
  | .lit _ => 1
  | .nil => 1
  | .ptr d => uptoBulk d + 1
  | .slice elems spare => uptoBulkAll elems + uptoBulkAll spare + 1
  | .agg parts => uptoBulkAll parts + 1
  | .iface _ d => uptoBulk d + 1
  | .map entries => uptoBulkEntries entries + 1
  | .held _ => 1
def uptoBulkAll {H : Type} : List (DataW H) → Nat
  | [] => 0
  | d :: r => uptoBulk d + uptoBulkAll r
def uptoBulkEntries {H : Type} : List (Lit × DataW H) → Nat
  | [] => 0
  | x :: r => uptoBulkEntry x + uptoBulkEntries r
def uptoBulkEntry {H : Type} : Lit × DataW H → Nat
  | (.string bytes, d) => bytes.length + uptoBulk d + 1
  | (_, d) => uptoBulk d + 1
 end
def uptoSmall : (H : Type) → List (DataW H) → Bool := fun _ ds => decide (uptoBulkAll ds ≤ 1048576)
def OpenSpec.upto (s : _root_.Go.ChangeSpec) : _root_.Go.OpenSpec := { _root_.Go.OpenSpec.ofChange s with cond := some uptoSmall }

/-- 'watchkeeperlaw09.CheckPolls', WHERE WHAT IT READS IS OF BULK AT MOST 1048576: true; the input reads as it did. -/
def checkPollsUptoRow : OpenClaim := { program := "ytbpenoelmangkaa", sum := "1816d1b24ede5b5ba25163b3f2203a7f32a3a4437a7276e81dd8ac333d974da6", func := "watchkeeper/watchkeeperlaw09.CheckPolls", spec := "checkPolls", unfollowed := true, recurses := true, apart := false, narrowed := true }
def CheckPollsUptoSaid : Prop := checkPollsUptoRow.holds Try.pinned (OpenSpec.upto checkPollsSpec)

/-- 'watchkeeperlaw09.CheckBoth', WHERE WHAT IT READS IS OF BULK AT MOST 1048576: true; the input reads as it did. -/
def checkBothUptoRow : OpenClaim := { program := "ytbpenoelmangkaa", sum := "1816d1b24ede5b5ba25163b3f2203a7f32a3a4437a7276e81dd8ac333d974da6", func := "watchkeeper/watchkeeperlaw09.CheckBoth", spec := "checkBoth", unfollowed := true, recurses := true, apart := false, narrowed := true }
def CheckBothUptoSaid : Prop := checkBothUptoRow.holds Try.pinned (OpenSpec.upto checkBothSpec)

/-- 'watchkeeperlaw09.CheckMore', WHERE WHAT IT READS IS OF BULK AT MOST 1048576: true; the input reads as it did. -/
def checkMoreUptoRow : OpenClaim := { program := "ytbpenoelmangkaa", sum := "1816d1b24ede5b5ba25163b3f2203a7f32a3a4437a7276e81dd8ac333d974da6", func := "watchkeeper/watchkeeperlaw09.CheckMore", spec := "checkMore", unfollowed := true, recurses := true, apart := false, narrowed := true }
def CheckMoreUptoSaid : Prop := checkMoreUptoRow.holds Try.pinned (OpenSpec.upto checkMoreSpec)

/-- 'watchkeeperlaw09.CheckNames', WHERE WHAT IT READS IS OF BULK AT MOST 1048576: true; the input reads as it did. -/
def checkNamesUptoRow : OpenClaim := { program := "ytbpenoelmangkaa", sum := "1816d1b24ede5b5ba25163b3f2203a7f32a3a4437a7276e81dd8ac333d974da6", func := "watchkeeper/watchkeeperlaw09.CheckNames", spec := "checkNames", unfollowed := true, recurses := true, apart := false, narrowed := true }
def CheckNamesUptoSaid : Prop := checkNamesUptoRow.holds Try.pinned (OpenSpec.upto checkNamesSpec)

end Rows
end Go.Proofs.Ytbpenoelmangkaa
