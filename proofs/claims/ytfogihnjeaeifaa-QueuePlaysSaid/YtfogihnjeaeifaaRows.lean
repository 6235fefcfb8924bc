/-
  No cell of these rows narrows 'for every input' (looked for: loops, veiled, ifaces, maps, wideKeys, modest, calm, conditions, laid).
  DERIVED. THE GIVEN ROWS OF THIS SEAT. 5 by the template 'for every input the law returns true; each argument reads behind the call as it read before'; 0 by the template 'total and deterministic' (their statements: YtfogihnjeaeifaaTotals.lean).
  GIVEN WITH THE SEED: the statements are not yours to turn. If you find one false, say at which input.
  Laid BY PROGRAM, IN A SANDBOX (cutbox-rows.mjs): the forced cells as the released guide's own fill.sh prints them over the translation 2a70c0abf4c0c0d8… (all of the seat's roots in one cut). By AI agents, Wed Nov 11 2026. No macro, syntax, notation, axiom, sorry.
-/
import Derived.Test.YtfogihnjeaeifaaChecked
import GoSem.Claim
import GoSem.ClaimJoined
import GoSem.ClaimMapViews
import Derived.JoinedTies
import Derived.KernelRfl
namespace Go.Proofs.Ytfogihnjeaeifaa
/- THE CELL 'sum', in the pinned program and in every row, IS THE sha256 OF THE DUMP (.gsa) THAT YtfogihnjeaeifaaProg.lean LOADS. Nothing in Lean hashes anything: it is a label: what it is worth is what the hold of that sum in a sandbox is worth. -/
noncomputable def Try.pinned : Pinned := { name := "ytfogihnjeaeifaa", sum := "2a70c0abf4c0c0d8c7935013b4030d8bacab674c61623c421c254aed98f0736b", checked := Try.checked }
namespace Rows
def none {H : Type} : Left H := { results := [], args := [] }

/-- 'watchkeeperlaw20.QueuePlays': WHATEVER THE INPUT: true; the input reads as it did. -/
def queuePlaysSpec : ChangeSpec := { name := "queuePlays", fn := fun _ => fun
  | [d1, d2] => { results := [.lit (.bool true)], args := [d1, d2] }
  | _ => none }
def queuePlaysRow : OpenClaim := { program := "ytfogihnjeaeifaa", sum := "2a70c0abf4c0c0d8c7935013b4030d8bacab674c61623c421c254aed98f0736b", func := "watchkeeper/watchkeeperlaw20.QueuePlays", spec := "queuePlays", apart := false }
def QueuePlaysSaid : Prop := queuePlaysRow.holds Try.pinned (OpenSpec.ofChange queuePlaysSpec)

/-- ITS FALSE NEIGHBOUR: 'it returns false'. Refute it at one input. -/
def queuePlaysWrong : ChangeSpec := { name := "queuePlays", fn := fun _ => fun
  | [d1, d2] => { results := [.lit (.bool false)], args := [d1, d2] }
  | _ => none }
def QueuePlaysWrongFalsely : Prop := queuePlaysRow.holds Try.pinned (OpenSpec.ofChange queuePlaysWrong)

/-- 'watchkeeperlaw20.QueueAhead': WHATEVER THE INPUT: true; the input reads as it did. -/
def queueAheadSpec : ChangeSpec := { name := "queueAhead", fn := fun _ => fun
  | [d] => { results := [.lit (.bool true)], args := [d] }
  | _ => none }
def queueAheadRow : OpenClaim := { program := "ytfogihnjeaeifaa", sum := "2a70c0abf4c0c0d8c7935013b4030d8bacab674c61623c421c254aed98f0736b", func := "watchkeeper/watchkeeperlaw20.QueueAhead", spec := "queueAhead", apart := false }
def QueueAheadSaid : Prop := queueAheadRow.holds Try.pinned (OpenSpec.ofChange queueAheadSpec)

/-- ITS FALSE NEIGHBOUR: 'it returns false'. Refute it at one input. -/
def queueAheadWrong : ChangeSpec := { name := "queueAhead", fn := fun _ => fun
  | [d] => { results := [.lit (.bool false)], args := [d] }
  | _ => none }
def QueueAheadWrongFalsely : Prop := queueAheadRow.holds Try.pinned (OpenSpec.ofChange queueAheadWrong)

/-- 'watchkeeperlaw20.QueueNever': WHATEVER THE INPUT: true; the input reads as it did. -/
def queueNeverSpec : ChangeSpec := { name := "queueNever", fn := fun _ => fun
  | [d1, d2] => { results := [.lit (.bool true)], args := [d1, d2] }
  | _ => none }
def queueNeverRow : OpenClaim := { program := "ytfogihnjeaeifaa", sum := "2a70c0abf4c0c0d8c7935013b4030d8bacab674c61623c421c254aed98f0736b", func := "watchkeeper/watchkeeperlaw20.QueueNever", spec := "queueNever", apart := false }
def QueueNeverSaid : Prop := queueNeverRow.holds Try.pinned (OpenSpec.ofChange queueNeverSpec)

/-- ITS FALSE NEIGHBOUR: 'it returns false'. Refute it at one input. -/
def queueNeverWrong : ChangeSpec := { name := "queueNever", fn := fun _ => fun
  | [d1, d2] => { results := [.lit (.bool false)], args := [d1, d2] }
  | _ => none }
def QueueNeverWrongFalsely : Prop := queueNeverRow.holds Try.pinned (OpenSpec.ofChange queueNeverWrong)

/-- 'watchkeeperlaw20.QueueRoom': WHATEVER THE INPUT: true; the input reads as it did. -/
def queueRoomSpec : ChangeSpec := { name := "queueRoom", fn := fun _ => fun
  | [d1, d2] => { results := [.lit (.bool true)], args := [d1, d2] }
  | _ => none }
def queueRoomRow : OpenClaim := { program := "ytfogihnjeaeifaa", sum := "2a70c0abf4c0c0d8c7935013b4030d8bacab674c61623c421c254aed98f0736b", func := "watchkeeper/watchkeeperlaw20.QueueRoom", spec := "queueRoom", apart := false }
def QueueRoomSaid : Prop := queueRoomRow.holds Try.pinned (OpenSpec.ofChange queueRoomSpec)

/-- ITS FALSE NEIGHBOUR: 'it returns false'. Refute it at one input. -/
def queueRoomWrong : ChangeSpec := { name := "queueRoom", fn := fun _ => fun
  | [d1, d2] => { results := [.lit (.bool false)], args := [d1, d2] }
  | _ => none }
def QueueRoomWrongFalsely : Prop := queueRoomRow.holds Try.pinned (OpenSpec.ofChange queueRoomWrong)

/-- 'watchkeeperlaw20.QueueKeeps': WHATEVER THE INPUT: true; the input reads as it did. -/
def queueKeepsSpec : ChangeSpec := { name := "queueKeeps", fn := fun _ => fun
  | [d] => { results := [.lit (.bool true)], args := [d] }
  | _ => none }
def queueKeepsRow : OpenClaim := { program := "ytfogihnjeaeifaa", sum := "2a70c0abf4c0c0d8c7935013b4030d8bacab674c61623c421c254aed98f0736b", func := "watchkeeper/watchkeeperlaw20.QueueKeeps", spec := "queueKeeps", apart := false }
def QueueKeepsSaid : Prop := queueKeepsRow.holds Try.pinned (OpenSpec.ofChange queueKeepsSpec)

/-- ITS FALSE NEIGHBOUR: 'it returns false'. Refute it at one input. -/
def queueKeepsWrong : ChangeSpec := { name := "queueKeeps", fn := fun _ => fun
  | [d] => { results := [.lit (.bool false)], args := [d] }
  | _ => none }
def QueueKeepsWrongFalsely : Prop := queueKeepsRow.holds Try.pinned (OpenSpec.ofChange queueKeepsWrong)

/- THE SECOND FORM. 'bulk': how many values and letters a reading holds, each counted each time it is reached (what is shared counts as often as it is met; a slice's spare places count too). A statement '..UptoSaid' is the law's where the arguments, and the package variables that the reading takes, are together of bulk at most 1048576: NARROWER than '..Said'. Prove '..Said' where nothing that the law and all that it calls make is longer than what came in: it says more and counts as full. Else prove '..UptoSaid'. A law counts once. -/
mutual
def uptoBulk {H : Type} : DataW H → Nat
  | .lit (.string bytes) => bytes.length + 1
  | .lit _ => 1
  | .nil => 1
  | .ptr d => uptoBulk d + 1
  | .slice elems spare => uptoBulkAll elems + uptoBulkAll spare + 1
  | .agg parts => uptoBulkAll parts + 1
  | .iface _ d => uptoBulk d + 1
  | .map entries => uptoBulkEntries entries + 1
  | .held _ => 1
def uptoBulkAll {H : Type} : List (DataW H) → Nat
  | [] => 0
  | d :: r => uptoBulk d + uptoBulkAll r
def uptoBulkEntries {H : Type} : List (Lit × DataW H) → Nat
  | [] => 0
  | x :: r => uptoBulkEntry x + uptoBulkEntries r
def uptoBulkEntry {H : Type} : Lit × DataW H → Nat
  | (.string bytes, d) => bytes.length + uptoBulk d + 1
  | (_, d) => uptoBulk d + 1
 end
def uptoSmall : (H : Type) → List (DataW H) → Bool := fun _ ds => decide (uptoBulkAll ds ≤ 1048576)
def OpenSpec.upto (s : _root_.Go.ChangeSpec) : _root_.Go.OpenSpec := { _root_.Go.OpenSpec.ofChange s with cond := some uptoSmall }

/-- 'watchkeeperlaw20.QueuePlays', WHERE WHAT IT READS IS OF BULK AT MOST 1048576: true; the input reads as it did. -/
def queuePlaysUptoRow : OpenClaim := { program := "ytfogihnjeaeifaa", sum := "2a70c0abf4c0c0d8c7935013b4030d8bacab674c61623c421c254aed98f0736b", func := "watchkeeper/watchkeeperlaw20.QueuePlays", spec := "queuePlays", apart := false, narrowed := true }
def QueuePlaysUptoSaid : Prop := queuePlaysUptoRow.holds Try.pinned (OpenSpec.upto queuePlaysSpec)

/-- 'watchkeeperlaw20.QueueAhead', WHERE WHAT IT READS IS OF BULK AT MOST 1048576: true; the input reads as it did. -/
def queueAheadUptoRow : OpenClaim := { program := "ytfogihnjeaeifaa", sum := "2a70c0abf4c0c0d8c7935013b4030d8bacab674c61623c421c254aed98f0736b", func := "watchkeeper/watchkeeperlaw20.QueueAhead", spec := "queueAhead", apart := false, narrowed := true }
def QueueAheadUptoSaid : Prop := queueAheadUptoRow.holds Try.pinned (OpenSpec.upto queueAheadSpec)

/-- 'watchkeeperlaw20.QueueNever', WHERE WHAT IT READS IS OF BULK AT MOST 1048576: true; the input reads as it did. -/
def queueNeverUptoRow : OpenClaim := { program := "ytfogihnjeaeifaa", sum := "2a70c0abf4c0c0d8c7935013b4030d8bacab674c61623c421c254aed98f0736b", func := "watchkeeper/watchkeeperlaw20.QueueNever", spec := "queueNever", apart := false, narrowed := true }
def QueueNeverUptoSaid : Prop := queueNeverUptoRow.holds Try.pinned (OpenSpec.upto queueNeverSpec)

/-- 'watchkeeperlaw20.QueueRoom', WHERE WHAT IT READS IS OF BULK AT MOST 1048576: true; the input reads as it did. -/
def queueRoomUptoRow : OpenClaim := { program := "ytfogihnjeaeifaa", sum := "2a70c0abf4c0c0d8c7935013b4030d8bacab674c61623c421c254aed98f0736b", func := "watchkeeper/watchkeeperlaw20.QueueRoom", spec := "queueRoom", apart := false, narrowed := true }
def QueueRoomUptoSaid : Prop := queueRoomUptoRow.holds Try.pinned (OpenSpec.upto queueRoomSpec)

/-- 'watchkeeperlaw20.QueueKeeps', WHERE WHAT IT READS IS OF BULK AT MOST 1048576: true; the input reads as it did. -/
def queueKeepsUptoRow : OpenClaim := { program := "ytfogihnjeaeifaa", sum := "2a70c0abf4c0c0d8c7935013b4030d8bacab674c61623c421c254aed98f0736b", func := "watchkeeper/watchkeeperlaw20.QueueKeeps", spec := "queueKeeps", apart := false, narrowed := true }
def QueueKeepsUptoSaid : Prop := queueKeepsUptoRow.holds Try.pinned (OpenSpec.upto queueKeepsSpec)

end Rows
end Go.Proofs.Ytfogihnjeaeifaa
