/-
  No cell of these rows narrows 'for every input' (looked for: loops, veiled, ifaces, maps, wideKeys, modest, calm, conditions, laid).
  DERIVED. THE GIVEN ROWS OF THIS SEAT. 9 by the template 'for every input the law returns true; each argument reads behind the call as it read before'; 0 by the template 'total and deterministic' (their statements: YtjnbjcieepooaacTotals.lean).
  GIVEN WITH THE SEED: the statements are not yours to turn. If you find one false, say at which input.
  Laid BY PROGRAM, IN A SANDBOX (cutbox-rows.mjs): the forced cells as the released guide's own fill.sh prints them over the translation d8d5dc45a35b8cf3… (all of the seat's roots in one cut). By AI agents, Wed Nov 11 2026. No macro, syntax, notation, axiom, sorry.
-/
import Derived.Test.YtjnbjcieepooaacChecked
import GoSem.Claim
import GoSem.ClaimJoined
import GoSem.ClaimMapViews
import Derived.JoinedTies
import Derived.KernelRfl
namespace Go.Proofs.Ytjnbjcieepooaac
/- THE CELL 'sum', in the pinned program and in every row, IS THE sha256 OF THE DUMP (.gsa) THAT YtjnbjcieepooaacProg.lean LOADS. Nothing in Lean hashes anything: it is a label: what it is worth is what the hold of that sum in a sandbox is worth. -/
noncomputable def Try.pinned : Pinned := { name := "ytjnbjcieepooaac", sum := "d8d5dc45a35b8cf3ce6514bdc93b59bc77e138199c299f6b503b29da195074e8", checked := Try.checked }
namespace Rows
def none {H : Type} : Left H := { results := [], args := [] }

/-- 'bargatelaw10.TreeAlone': WHATEVER THE INPUT: true; the input reads as it did. -/
def treeAloneSpec : ChangeSpec := { name := "treeAlone", fn := fun _ => fun
  | [d1, d2] => { results := [.lit (.bool true)], args := [d1, d2] }
  | _ => none }
def treeAloneRow : OpenClaim := { program := "ytjnbjcieepooaac", sum := "d8d5dc45a35b8cf3ce6514bdc93b59bc77e138199c299f6b503b29da195074e8", func := "bargate/bargatelaw10.TreeAlone", spec := "treeAlone", apart := false }
def TreeAloneSaid : Prop := treeAloneRow.holds Try.pinned (OpenSpec.ofChange treeAloneSpec)

/-- ITS FALSE NEIGHBOUR: 'it returns false'. Refute it at one input. -/
def treeAloneWrong : ChangeSpec := { name := "treeAlone", fn := fun _ => fun
  | [d1, d2] => { results := [.lit (.bool false)], args := [d1, d2] }
  | _ => none }
def TreeAloneWrongFalsely : Prop := treeAloneRow.holds Try.pinned (OpenSpec.ofChange treeAloneWrong)

/-- 'bargatelaw10.TreeHello': WHATEVER THE INPUT: true; the input reads as it did. -/
def treeHelloSpec : ChangeSpec := { name := "treeHello", fn := fun _ => fun
  | [d1, d2, d3] => { results := [.lit (.bool true)], args := [d1, d2, d3] }
  | _ => none }
def treeHelloRow : OpenClaim := { program := "ytjnbjcieepooaac", sum := "d8d5dc45a35b8cf3ce6514bdc93b59bc77e138199c299f6b503b29da195074e8", func := "bargate/bargatelaw10.TreeHello", spec := "treeHello", apart := false }
def TreeHelloSaid : Prop := treeHelloRow.holds Try.pinned (OpenSpec.ofChange treeHelloSpec)

/-- ITS FALSE NEIGHBOUR: 'it returns false'. Refute it at one input. -/
def treeHelloWrong : ChangeSpec := { name := "treeHello", fn := fun _ => fun
  | [d1, d2, d3] => { results := [.lit (.bool false)], args := [d1, d2, d3] }
  | _ => none }
def TreeHelloWrongFalsely : Prop := treeHelloRow.holds Try.pinned (OpenSpec.ofChange treeHelloWrong)

/-- 'bargatelaw10.TreePlays': WHATEVER THE INPUT: true; the input reads as it did. -/
def treePlaysSpec : ChangeSpec := { name := "treePlays", fn := fun _ => fun
  | [d1, d2, d3] => { results := [.lit (.bool true)], args := [d1, d2, d3] }
  | _ => none }
def treePlaysRow : OpenClaim := { program := "ytjnbjcieepooaac", sum := "d8d5dc45a35b8cf3ce6514bdc93b59bc77e138199c299f6b503b29da195074e8", func := "bargate/bargatelaw10.TreePlays", spec := "treePlays", apart := false }
def TreePlaysSaid : Prop := treePlaysRow.holds Try.pinned (OpenSpec.ofChange treePlaysSpec)

/-- ITS FALSE NEIGHBOUR: 'it returns false'. Refute it at one input. -/
def treePlaysWrong : ChangeSpec := { name := "treePlays", fn := fun _ => fun
  | [d1, d2, d3] => { results := [.lit (.bool false)], args := [d1, d2, d3] }
  | _ => none }
def TreePlaysWrongFalsely : Prop := treePlaysRow.holds Try.pinned (OpenSpec.ofChange treePlaysWrong)

/-- 'bargatelaw10.TreeStates': WHATEVER THE INPUT: true; the input reads as it did. -/
def treeStatesSpec : ChangeSpec := { name := "treeStates", fn := fun _ => fun
  | [d1, d2, d3] => { results := [.lit (.bool true)], args := [d1, d2, d3] }
  | _ => none }
def treeStatesRow : OpenClaim := { program := "ytjnbjcieepooaac", sum := "d8d5dc45a35b8cf3ce6514bdc93b59bc77e138199c299f6b503b29da195074e8", func := "bargate/bargatelaw10.TreeStates", spec := "treeStates", apart := false }
def TreeStatesSaid : Prop := treeStatesRow.holds Try.pinned (OpenSpec.ofChange treeStatesSpec)

/-- ITS FALSE NEIGHBOUR: 'it returns false'. Refute it at one input. -/
def treeStatesWrong : ChangeSpec := { name := "treeStates", fn := fun _ => fun
  | [d1, d2, d3] => { results := [.lit (.bool false)], args := [d1, d2, d3] }
  | _ => none }
def TreeStatesWrongFalsely : Prop := treeStatesRow.holds Try.pinned (OpenSpec.ofChange treeStatesWrong)

/-- 'bargatelaw10.TreePair': WHATEVER THE INPUT: true; the input reads as it did. -/
def treePairSpec : ChangeSpec := { name := "treePair", fn := fun _ => fun
  | [d1, d2, d3] => { results := [.lit (.bool true)], args := [d1, d2, d3] }
  | _ => none }
def treePairRow : OpenClaim := { program := "ytjnbjcieepooaac", sum := "d8d5dc45a35b8cf3ce6514bdc93b59bc77e138199c299f6b503b29da195074e8", func := "bargate/bargatelaw10.TreePair", spec := "treePair", apart := false }
def TreePairSaid : Prop := treePairRow.holds Try.pinned (OpenSpec.ofChange treePairSpec)

/-- ITS FALSE NEIGHBOUR: 'it returns false'. Refute it at one input. -/
def treePairWrong : ChangeSpec := { name := "treePair", fn := fun _ => fun
  | [d1, d2, d3] => { results := [.lit (.bool false)], args := [d1, d2, d3] }
  | _ => none }
def TreePairWrongFalsely : Prop := treePairRow.holds Try.pinned (OpenSpec.ofChange treePairWrong)

/-- 'bargatelaw10.TreeForgets': WHATEVER THE INPUT: true; the input reads as it did. -/
def treeForgetsSpec : ChangeSpec := { name := "treeForgets", fn := fun _ => fun
  | [d1, d2] => { results := [.lit (.bool true)], args := [d1, d2] }
  | _ => none }
def treeForgetsRow : OpenClaim := { program := "ytjnbjcieepooaac", sum := "d8d5dc45a35b8cf3ce6514bdc93b59bc77e138199c299f6b503b29da195074e8", func := "bargate/bargatelaw10.TreeForgets", spec := "treeForgets", apart := false }
def TreeForgetsSaid : Prop := treeForgetsRow.holds Try.pinned (OpenSpec.ofChange treeForgetsSpec)

/-- ITS FALSE NEIGHBOUR: 'it returns false'. Refute it at one input. -/
def treeForgetsWrong : ChangeSpec := { name := "treeForgets", fn := fun _ => fun
  | [d1, d2] => { results := [.lit (.bool false)], args := [d1, d2] }
  | _ => none }
def TreeForgetsWrongFalsely : Prop := treeForgetsRow.holds Try.pinned (OpenSpec.ofChange treeForgetsWrong)

/-- 'bargatelaw10.TreeLoop': WHATEVER THE INPUT: true; the input reads as it did. -/
def treeLoopSpec : ChangeSpec := { name := "treeLoop", fn := fun _ => fun
  | [d1, d2, d3] => { results := [.lit (.bool true)], args := [d1, d2, d3] }
  | _ => none }
def treeLoopRow : OpenClaim := { program := "ytjnbjcieepooaac", sum := "d8d5dc45a35b8cf3ce6514bdc93b59bc77e138199c299f6b503b29da195074e8", func := "bargate/bargatelaw10.TreeLoop", spec := "treeLoop", apart := false }
def TreeLoopSaid : Prop := treeLoopRow.holds Try.pinned (OpenSpec.ofChange treeLoopSpec)

/-- ITS FALSE NEIGHBOUR: 'it returns false'. Refute it at one input. -/
def treeLoopWrong : ChangeSpec := { name := "treeLoop", fn := fun _ => fun
  | [d1, d2, d3] => { results := [.lit (.bool false)], args := [d1, d2, d3] }
  | _ => none }
def TreeLoopWrongFalsely : Prop := treeLoopRow.holds Try.pinned (OpenSpec.ofChange treeLoopWrong)

/-- 'bargatelaw10.TreeDown': WHATEVER THE INPUT: true; the input reads as it did. -/
def treeDownSpec : ChangeSpec := { name := "treeDown", fn := fun _ => fun
  | [d1, d2, d3] => { results := [.lit (.bool true)], args := [d1, d2, d3] }
  | _ => none }
def treeDownRow : OpenClaim := { program := "ytjnbjcieepooaac", sum := "d8d5dc45a35b8cf3ce6514bdc93b59bc77e138199c299f6b503b29da195074e8", func := "bargate/bargatelaw10.TreeDown", spec := "treeDown", apart := false }
def TreeDownSaid : Prop := treeDownRow.holds Try.pinned (OpenSpec.ofChange treeDownSpec)

/-- ITS FALSE NEIGHBOUR: 'it returns false'. Refute it at one input. -/
def treeDownWrong : ChangeSpec := { name := "treeDown", fn := fun _ => fun
  | [d1, d2, d3] => { results := [.lit (.bool false)], args := [d1, d2, d3] }
  | _ => none }
def TreeDownWrongFalsely : Prop := treeDownRow.holds Try.pinned (OpenSpec.ofChange treeDownWrong)

/-- 'bargatelaw10.TreeEdge': WHATEVER THE INPUT: true; the input reads as it did. -/
def treeEdgeSpec : ChangeSpec := { name := "treeEdge", fn := fun _ => fun
  | [d1, d2] => { results := [.lit (.bool true)], args := [d1, d2] }
  | _ => none }
def treeEdgeRow : OpenClaim := { program := "ytjnbjcieepooaac", sum := "d8d5dc45a35b8cf3ce6514bdc93b59bc77e138199c299f6b503b29da195074e8", func := "bargate/bargatelaw10.TreeEdge", spec := "treeEdge", apart := false }
def TreeEdgeSaid : Prop := treeEdgeRow.holds Try.pinned (OpenSpec.ofChange treeEdgeSpec)

/-- ITS FALSE NEIGHBOUR: 'it returns false'. Refute it at one input. -/
def treeEdgeWrong : ChangeSpec := { name := "treeEdge", fn := fun _ => fun
  | [d1, d2] => { results := [.lit (.bool false)], args := [d1, d2] }
  | _ => none }
def TreeEdgeWrongFalsely : Prop := treeEdgeRow.holds Try.pinned (OpenSpec.ofChange treeEdgeWrong)

/- THE SECOND FORM. 'bulk': how many values and letters a reading holds, each counted each time it is reached (what is shared counts as often as it is met; a slice's spare places count too). A statement '..UptoSaid' is the law's where the arguments, and the package variables that the reading takes, are together of bulk at most 1048576: NARROWER than '..Said'. Prove '..Said' where nothing that the law and all that it calls make is longer than what came in: it says more and counts as full. Else prove '..UptoSaid'. A law counts once. -/
mutual
def uptoBulk {H : Type} : DataW H → Nat
  | .lit (.string bytes) => bytes.length + 1
  | .lit _ => 1
  | .nil => 1
  | .ptr d => uptoBulk d + 1
  | .slice elems spare => uptoBulkAll elems + uptoBulkAll spare + 1
  | .agg parts => uptoBulkAll parts + 1
  | .iface _ d => uptoBulk d + 1
  | .map entries => uptoBulkEntries entries + 1
  | .held _ => 1
def uptoBulkAll {H : Type} : List (DataW H) → Nat
  | [] => 0
  | d :: r => uptoBulk d + uptoBulkAll r
def uptoBulkEntries {H : Type} : List (Lit × DataW H) → Nat
  | [] => 0
  | x :: r => uptoBulkEntry x + uptoBulkEntries r
def uptoBulkEntry {H : Type} : Lit × DataW H → Nat
  | (.string bytes, d) => bytes.length + uptoBulk d + 1
  | (_, d) => uptoBulk d + 1
 end
def uptoSmall : (H : Type) → List (DataW H) → Bool := fun _ ds => decide (uptoBulkAll ds ≤ 1048576)
def OpenSpec.upto (s : _root_.Go.ChangeSpec) : _root_.Go.OpenSpec := { _root_.Go.OpenSpec.ofChange s with cond := some uptoSmall }

/-- 'bargatelaw10.TreeAlone', WHERE WHAT IT READS IS OF BULK AT MOST 1048576: true; the input reads as it did. -/
def treeAloneUptoRow : OpenClaim := { program := "ytjnbjcieepooaac", sum := "d8d5dc45a35b8cf3ce6514bdc93b59bc77e138199c299f6b503b29da195074e8", func := "bargate/bargatelaw10.TreeAlone", spec := "treeAlone", apart := false, narrowed := true }
def TreeAloneUptoSaid : Prop := treeAloneUptoRow.holds Try.pinned (OpenSpec.upto treeAloneSpec)

/-- 'bargatelaw10.TreeHello', WHERE WHAT IT READS IS OF BULK AT MOST 1048576: true; the input reads as it did. -/
def treeHelloUptoRow : OpenClaim := { program := "ytjnbjcieepooaac", sum := "d8d5dc45a35b8cf3ce6514bdc93b59bc77e138199c299f6b503b29da195074e8", func := "bargate/bargatelaw10.TreeHello", spec := "treeHello", apart := false, narrowed := true }
def TreeHelloUptoSaid : Prop := treeHelloUptoRow.holds Try.pinned (OpenSpec.upto treeHelloSpec)

/-- 'bargatelaw10.TreePlays', WHERE WHAT IT READS IS OF BULK AT MOST 1048576: true; the input reads as it did. -/
def treePlaysUptoRow : OpenClaim := { program := "ytjnbjcieepooaac", sum := "d8d5dc45a35b8cf3ce6514bdc93b59bc77e138199c299f6b503b29da195074e8", func := "bargate/bargatelaw10.TreePlays", spec := "treePlays", apart := false, narrowed := true }
def TreePlaysUptoSaid : Prop := treePlaysUptoRow.holds Try.pinned (OpenSpec.upto treePlaysSpec)

/-- 'bargatelaw10.TreeStates', WHERE WHAT IT READS IS OF BULK AT MOST 1048576: true; the input reads as it did. -/
def treeStatesUptoRow : OpenClaim := { program := "ytjnbjcieepooaac", sum := "d8d5dc45a35b8cf3ce6514bdc93b59bc77e138199c299f6b503b29da195074e8", func := "bargate/bargatelaw10.TreeStates", spec := "treeStates", apart := false, narrowed := true }
def TreeStatesUptoSaid : Prop := treeStatesUptoRow.holds Try.pinned (OpenSpec.upto treeStatesSpec)

/-- 'bargatelaw10.TreePair', WHERE WHAT IT READS IS OF BULK AT MOST 1048576: true; the input reads as it did. -/
def treePairUptoRow : OpenClaim := { program := "ytjnbjcieepooaac", sum := "d8d5dc45a35b8cf3ce6514bdc93b59bc77e138199c299f6b503b29da195074e8", func := "bargate/bargatelaw10.TreePair", spec := "treePair", apart := false, narrowed := true }
def TreePairUptoSaid : Prop := treePairUptoRow.holds Try.pinned (OpenSpec.upto treePairSpec)

/-- 'bargatelaw10.TreeForgets', WHERE WHAT IT READS IS OF BULK AT MOST 1048576: true; the input reads as it did. -/
def treeForgetsUptoRow : OpenClaim := { program := "ytjnbjcieepooaac", sum := "d8d5dc45a35b8cf3ce6514bdc93b59bc77e138199c299f6b503b29da195074e8", func := "bargate/bargatelaw10.TreeForgets", spec := "treeForgets", apart := false, narrowed := true }
def TreeForgetsUptoSaid : Prop := treeForgetsUptoRow.holds Try.pinned (OpenSpec.upto treeForgetsSpec)

/-- 'bargatelaw10.TreeLoop', WHERE WHAT IT READS IS OF BULK AT MOST 1048576: true; the input reads as it did. -/
def treeLoopUptoRow : OpenClaim := { program := "ytjnbjcieepooaac", sum := "d8d5dc45a35b8cf3ce6514bdc93b59bc77e138199c299f6b503b29da195074e8", func := "bargate/bargatelaw10.TreeLoop", spec := "treeLoop", apart := false, narrowed := true }
def TreeLoopUptoSaid : Prop := treeLoopUptoRow.holds Try.pinned (OpenSpec.upto treeLoopSpec)

/-- 'bargatelaw10.TreeDown', WHERE WHAT IT READS IS OF BULK AT MOST 1048576: true; the input reads as it did. -/
def treeDownUptoRow : OpenClaim := { program := "ytjnbjcieepooaac", sum := "d8d5dc45a35b8cf3ce6514bdc93b59bc77e138199c299f6b503b29da195074e8", func := "bargate/bargatelaw10.TreeDown", spec := "treeDown", apart := false, narrowed := true }
def TreeDownUptoSaid : Prop := treeDownUptoRow.holds Try.pinned (OpenSpec.upto treeDownSpec)

/-- 'bargatelaw10.TreeEdge', WHERE WHAT IT READS IS OF BULK AT MOST 1048576: true; the input reads as it did. -/
def treeEdgeUptoRow : OpenClaim := { program := "ytjnbjcieepooaac", sum := "d8d5dc45a35b8cf3ce6514bdc93b59bc77e138199c299f6b503b29da195074e8", func := "bargate/bargatelaw10.TreeEdge", spec := "treeEdge", apart := false, narrowed := true }
def TreeEdgeUptoSaid : Prop := treeEdgeUptoRow.holds Try.pinned (OpenSpec.upto treeEdgeSpec)

end Rows
end Go.Proofs.Ytjnbjcieepooaac
