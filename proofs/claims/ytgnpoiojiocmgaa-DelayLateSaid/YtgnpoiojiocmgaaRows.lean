/-
  No cell of these rows narrows 'for every input' (looked for: loops, veiled, ifaces, maps, wideKeys, modest, calm, conditions, laid).
  DERIVED. THE GIVEN ROWS OF THIS SEAT. 5 by the template 'for every input the law returns true; each argument reads behind the call as it read before'; 0 by the template 'total and deterministic' (their statements: YtgnpoiojiocmgaaTotals.lean).
  GIVEN WITH THE SEED: the statements are not yours to turn. If you find one false, say at which input.
  Laid BY PROGRAM, IN A SANDBOX (cutbox-rows.mjs): the forced cells as the released guide's own fill.sh prints them over the translation 12bc68aeb3c345a5… (all of the seat's roots in one cut). By AI agents, Wed Nov 11 2026. No macro, syntax, notation, axiom, sorry.
-/
import Derived.Test.YtgnpoiojiocmgaaChecked
import GoSem.Claim
import GoSem.ClaimJoined
import GoSem.ClaimMapViews
import Derived.JoinedTies
import Derived.KernelRfl
namespace Go.Proofs.Ytgnpoiojiocmgaa
/- THE CELL 'sum', in the pinned program and in every row, IS THE sha256 OF THE DUMP (.gsa) THAT YtgnpoiojiocmgaaProg.lean LOADS. Nothing in Lean hashes anything: it is a label: what it is worth is what the hold of that sum in a sandbox is worth. -/
noncomputable def Try.pinned : Pinned := { name := "ytgnpoiojiocmgaa", sum := "12bc68aeb3c345a5c9616b3765074c7c1cc8de03e1ba63523edcd196e7b60300", checked := Try.checked }
namespace Rows
def none {H : Type} : Left H := { results := [], args := [] }

/-- 'watchkeeperlaw12.DelayPlays': WHATEVER THE INPUT: true; the input reads as it did. -/
def delayPlaysSpec : ChangeSpec := { name := "delayPlays", fn := fun _ => fun
  | [d1, d2, d3] => { results := [.lit (.bool true)], args := [d1, d2, d3] }
  | _ => none }
def delayPlaysRow : OpenClaim := { program := "ytgnpoiojiocmgaa", sum := "12bc68aeb3c345a5c9616b3765074c7c1cc8de03e1ba63523edcd196e7b60300", func := "watchkeeper/watchkeeperlaw12.DelayPlays", spec := "delayPlays", apart := false }
def DelayPlaysSaid : Prop := delayPlaysRow.holds Try.pinned (OpenSpec.ofChange delayPlaysSpec)

/-- ITS FALSE NEIGHBOUR: 'it returns false'. Refute it at one input. -/
def delayPlaysWrong : ChangeSpec := { name := "delayPlays", fn := fun _ => fun
  | [d1, d2, d3] => { results := [.lit (.bool false)], args := [d1, d2, d3] }
  | _ => none }
def DelayPlaysWrongFalsely : Prop := delayPlaysRow.holds Try.pinned (OpenSpec.ofChange delayPlaysWrong)

/-- 'watchkeeperlaw12.DelayStood': WHATEVER THE INPUT: true; the input reads as it did. -/
def delayStoodSpec : ChangeSpec := { name := "delayStood", fn := fun _ => fun
  | [d1, d2, d3, d4] => { results := [.lit (.bool true)], args := [d1, d2, d3, d4] }
  | _ => none }
def delayStoodRow : OpenClaim := { program := "ytgnpoiojiocmgaa", sum := "12bc68aeb3c345a5c9616b3765074c7c1cc8de03e1ba63523edcd196e7b60300", func := "watchkeeper/watchkeeperlaw12.DelayStood", spec := "delayStood", apart := false }
def DelayStoodSaid : Prop := delayStoodRow.holds Try.pinned (OpenSpec.ofChange delayStoodSpec)

/-- ITS FALSE NEIGHBOUR: 'it returns false'. Refute it at one input. -/
def delayStoodWrong : ChangeSpec := { name := "delayStood", fn := fun _ => fun
  | [d1, d2, d3, d4] => { results := [.lit (.bool false)], args := [d1, d2, d3, d4] }
  | _ => none }
def DelayStoodWrongFalsely : Prop := delayStoodRow.holds Try.pinned (OpenSpec.ofChange delayStoodWrong)

/-- 'watchkeeperlaw12.DelayBack': WHATEVER THE INPUT: true; the input reads as it did. -/
def delayBackSpec : ChangeSpec := { name := "delayBack", fn := fun _ => fun
  | [d1, d2, d3, d4, d5] => { results := [.lit (.bool true)], args := [d1, d2, d3, d4, d5] }
  | _ => none }
def delayBackRow : OpenClaim := { program := "ytgnpoiojiocmgaa", sum := "12bc68aeb3c345a5c9616b3765074c7c1cc8de03e1ba63523edcd196e7b60300", func := "watchkeeper/watchkeeperlaw12.DelayBack", spec := "delayBack", apart := false }
def DelayBackSaid : Prop := delayBackRow.holds Try.pinned (OpenSpec.ofChange delayBackSpec)

/-- ITS FALSE NEIGHBOUR: 'it returns false'. Refute it at one input. -/
def delayBackWrong : ChangeSpec := { name := "delayBack", fn := fun _ => fun
  | [d1, d2, d3, d4, d5] => { results := [.lit (.bool false)], args := [d1, d2, d3, d4, d5] }
  | _ => none }
def DelayBackWrongFalsely : Prop := delayBackRow.holds Try.pinned (OpenSpec.ofChange delayBackWrong)

/-- 'watchkeeperlaw12.DelayLate': WHATEVER THE INPUT: true; the input reads as it did. -/
def delayLateSpec : ChangeSpec := { name := "delayLate", fn := fun _ => fun
  | [d1, d2, d3, d4] => { results := [.lit (.bool true)], args := [d1, d2, d3, d4] }
  | _ => none }
def delayLateRow : OpenClaim := { program := "ytgnpoiojiocmgaa", sum := "12bc68aeb3c345a5c9616b3765074c7c1cc8de03e1ba63523edcd196e7b60300", func := "watchkeeper/watchkeeperlaw12.DelayLate", spec := "delayLate", apart := false }
def DelayLateSaid : Prop := delayLateRow.holds Try.pinned (OpenSpec.ofChange delayLateSpec)

/-- ITS FALSE NEIGHBOUR: 'it returns false'. Refute it at one input. -/
def delayLateWrong : ChangeSpec := { name := "delayLate", fn := fun _ => fun
  | [d1, d2, d3, d4] => { results := [.lit (.bool false)], args := [d1, d2, d3, d4] }
  | _ => none }
def DelayLateWrongFalsely : Prop := delayLateRow.holds Try.pinned (OpenSpec.ofChange delayLateWrong)

/-- 'watchkeeperlaw12.DelayFirst': WHATEVER THE INPUT: true; the input reads as it did. -/
def delayFirstSpec : ChangeSpec := { name := "delayFirst", fn := fun _ => fun
  | [d1, d2, d3, d4] => { results := [.lit (.bool true)], args := [d1, d2, d3, d4] }
  | _ => none }
def delayFirstRow : OpenClaim := { program := "ytgnpoiojiocmgaa", sum := "12bc68aeb3c345a5c9616b3765074c7c1cc8de03e1ba63523edcd196e7b60300", func := "watchkeeper/watchkeeperlaw12.DelayFirst", spec := "delayFirst", apart := false }
def DelayFirstSaid : Prop := delayFirstRow.holds Try.pinned (OpenSpec.ofChange delayFirstSpec)

/-- ITS FALSE NEIGHBOUR: 'it returns false'. Refute it at one input. -/
def delayFirstWrong : ChangeSpec := { name := "delayFirst", fn := fun _ => fun
  | [d1, d2, d3, d4] => { results := [.lit (.bool false)], args := [d1, d2, d3, d4] }
  | _ => none }
def DelayFirstWrongFalsely : Prop := delayFirstRow.holds Try.pinned (OpenSpec.ofChange delayFirstWrong)

/- THE SECOND FORM. 'bulk': how many values and letters a reading holds, each counted each time it is reached (what is shared counts as often as it is met; a slice's spare places count too). A statement '..UptoSaid' is the law's where the arguments, and the package variables that the reading takes, are together of bulk at most 1048576: NARROWER than '..Said'. Prove '..Said' where nothing that the law and all that it calls make is longer than what came in: it says more and counts as full. Else prove '..UptoSaid'. A law counts once. -/
mutual
def uptoBulk {H : Type} : DataW H → Nat
  | .lit (.string bytes) => bytes.length + 1
  | .lit _ => 1
  | .nil => 1
  | .ptr d => uptoBulk d + 1
  | .slice elems spare => uptoBulkAll elems + uptoBulkAll spare + 1
  | .agg parts => uptoBulkAll parts + 1
  | .iface _ d => uptoBulk d + 1
  | .map entries => uptoBulkEntries entries + 1
  | .held _ => 1
def uptoBulkAll {H : Type} : List (DataW H) → Nat
  | [] => 0
  | d :: r => uptoBulk d + uptoBulkAll r
def uptoBulkEntries {H : Type} : List (Lit × DataW H) → Nat
  | [] => 0
  | x :: r => uptoBulkEntry x + uptoBulkEntries r
def uptoBulkEntry {H : Type} : Lit × DataW H → Nat
  | (.string bytes, d) => bytes.length + uptoBulk d + 1
  | (_, d) => uptoBulk d + 1
 end
def uptoSmall : (H : Type) → List (DataW H) → Bool := fun _ ds => decide (uptoBulkAll ds ≤ 1048576)
def OpenSpec.upto (s : _root_.Go.ChangeSpec) : _root_.Go.OpenSpec := { _root_.Go.OpenSpec.ofChange s with cond := some uptoSmall }

/-- 'watchkeeperlaw12.DelayPlays', WHERE WHAT IT READS IS OF BULK AT MOST 1048576: true; the input reads as it did. -/
def delayPlaysUptoRow : OpenClaim := { program := "ytgnpoiojiocmgaa", sum := "12bc68aeb3c345a5c9616b3765074c7c1cc8de03e1ba63523edcd196e7b60300", func := "watchkeeper/watchkeeperlaw12.DelayPlays", spec := "delayPlays", apart := false, narrowed := true }
def DelayPlaysUptoSaid : Prop := delayPlaysUptoRow.holds Try.pinned (OpenSpec.upto delayPlaysSpec)

/-- 'watchkeeperlaw12.DelayStood', WHERE WHAT IT READS IS OF BULK AT MOST 1048576: true; the input reads as it did. -/
def delayStoodUptoRow : OpenClaim := { program := "ytgnpoiojiocmgaa", sum := "12bc68aeb3c345a5c9616b3765074c7c1cc8de03e1ba63523edcd196e7b60300", func := "watchkeeper/watchkeeperlaw12.DelayStood", spec := "delayStood", apart := false, narrowed := true }
def DelayStoodUptoSaid : Prop := delayStoodUptoRow.holds Try.pinned (OpenSpec.upto delayStoodSpec)

/-- 'watchkeeperlaw12.DelayBack', WHERE WHAT IT READS IS OF BULK AT MOST 1048576: true; the input reads as it did. -/
def delayBackUptoRow : OpenClaim := { program := "ytgnpoiojiocmgaa", sum := "12bc68aeb3c345a5c9616b3765074c7c1cc8de03e1ba63523edcd196e7b60300", func := "watchkeeper/watchkeeperlaw12.DelayBack", spec := "delayBack", apart := false, narrowed := true }
def DelayBackUptoSaid : Prop := delayBackUptoRow.holds Try.pinned (OpenSpec.upto delayBackSpec)

/-- 'watchkeeperlaw12.DelayLate', WHERE WHAT IT READS IS OF BULK AT MOST 1048576: true; the input reads as it did. -/
def delayLateUptoRow : OpenClaim := { program := "ytgnpoiojiocmgaa", sum := "12bc68aeb3c345a5c9616b3765074c7c1cc8de03e1ba63523edcd196e7b60300", func := "watchkeeper/watchkeeperlaw12.DelayLate", spec := "delayLate", apart := false, narrowed := true }
def DelayLateUptoSaid : Prop := delayLateUptoRow.holds Try.pinned (OpenSpec.upto delayLateSpec)

/-- 'watchkeeperlaw12.DelayFirst', WHERE WHAT IT READS IS OF BULK AT MOST 1048576: true; the input reads as it did. -/
def delayFirstUptoRow : OpenClaim := { program := "ytgnpoiojiocmgaa", sum := "12bc68aeb3c345a5c9616b3765074c7c1cc8de03e1ba63523edcd196e7b60300", func := "watchkeeper/watchkeeperlaw12.DelayFirst", spec := "delayFirst", apart := false, narrowed := true }
def DelayFirstUptoSaid : Prop := delayFirstUptoRow.holds Try.pinned (OpenSpec.upto delayFirstSpec)

end Rows
end Go.Proofs.Ytgnpoiojiocmgaa
