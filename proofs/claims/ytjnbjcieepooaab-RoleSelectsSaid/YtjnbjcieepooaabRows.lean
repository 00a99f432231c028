/-
  No cell of these rows narrows 'for every input' (looked for: loops, veiled, ifaces, maps, wideKeys, modest, calm, conditions, laid).
  DERIVED. THE GIVEN ROWS OF THIS SEAT. 12 by the template 'for every input the law returns true; each argument reads behind the call as it read before'; 0 by the template 'total and deterministic' (their statements: YtjnbjcieepooaabTotals.lean).
  GIVEN WITH THE SEED: the statements are not yours to turn. If you find one false, say at which input.
  Laid BY PROGRAM, IN A SANDBOX (cutbox-rows.mjs): the forced cells as the released guide's own fill.sh prints them over the translation ffb8dc8ee7979ad6… (all of the seat's roots in one cut). By AI agents, Wed Nov 11 2026. No macro, syntax, notation, axiom, sorry.
-/
import Derived.Test.YtjnbjcieepooaabChecked
import GoSem.Claim
import GoSem.ClaimJoined
import GoSem.ClaimMapViews
import Derived.JoinedTies
import Derived.KernelRfl
namespace Go.Proofs.Ytjnbjcieepooaab
/- THE CELL 'sum', in the pinned program and in every row, IS THE sha256 OF THE DUMP (.gsa) THAT YtjnbjcieepooaabProg.lean LOADS. Nothing in Lean hashes anything: it is a label: what it is worth is what the hold of that sum in a sandbox is worth. -/
noncomputable def Try.pinned : Pinned := { name := "ytjnbjcieepooaab", sum := "ffb8dc8ee7979ad6d454ec4c42e6255e2eda214e8948213625563d2b9285e4e3", checked := Try.checked }
namespace Rows
def none {H : Type} : Left H := { results := [], args := [] }

/-- 'bargatelaw08.VectorOrders': WHATEVER THE INPUT: true; the input reads as it did. -/
def vectorOrdersSpec : ChangeSpec := { name := "vectorOrders", fn := fun _ => fun
  | [d1, d2, d3] => { results := [.lit (.bool true)], args := [d1, d2, d3] }
  | _ => none }
def vectorOrdersRow : OpenClaim := { program := "ytjnbjcieepooaab", sum := "ffb8dc8ee7979ad6d454ec4c42e6255e2eda214e8948213625563d2b9285e4e3", func := "bargate/bargatelaw08.VectorOrders", spec := "vectorOrders", apart := false }
def VectorOrdersSaid : Prop := vectorOrdersRow.holds Try.pinned (OpenSpec.ofChange vectorOrdersSpec)

/-- ITS FALSE NEIGHBOUR: 'it returns false'. Refute it at one input. -/
def vectorOrdersWrong : ChangeSpec := { name := "vectorOrders", fn := fun _ => fun
  | [d1, d2, d3] => { results := [.lit (.bool false)], args := [d1, d2, d3] }
  | _ => none }
def VectorOrdersWrongFalsely : Prop := vectorOrdersRow.holds Try.pinned (OpenSpec.ofChange vectorOrdersWrong)

/-- 'bargatelaw08.VectorOver': WHATEVER THE INPUT: true; the input reads as it did. -/
def vectorOverSpec : ChangeSpec := { name := "vectorOver", fn := fun _ => fun
  | [d1, d2, d3] => { results := [.lit (.bool true)], args := [d1, d2, d3] }
  | _ => none }
def vectorOverRow : OpenClaim := { program := "ytjnbjcieepooaab", sum := "ffb8dc8ee7979ad6d454ec4c42e6255e2eda214e8948213625563d2b9285e4e3", func := "bargate/bargatelaw08.VectorOver", spec := "vectorOver", apart := false }
def VectorOverSaid : Prop := vectorOverRow.holds Try.pinned (OpenSpec.ofChange vectorOverSpec)

/-- ITS FALSE NEIGHBOUR: 'it returns false'. Refute it at one input. -/
def vectorOverWrong : ChangeSpec := { name := "vectorOver", fn := fun _ => fun
  | [d1, d2, d3] => { results := [.lit (.bool false)], args := [d1, d2, d3] }
  | _ => none }
def VectorOverWrongFalsely : Prop := vectorOverRow.holds Try.pinned (OpenSpec.ofChange vectorOverWrong)

/-- 'bargatelaw08.VectorBest': WHATEVER THE INPUT: true; the input reads as it did. -/
def vectorBestSpec : ChangeSpec := { name := "vectorBest", fn := fun _ => fun
  | [d] => { results := [.lit (.bool true)], args := [d] }
  | _ => none }
def vectorBestRow : OpenClaim := { program := "ytjnbjcieepooaab", sum := "ffb8dc8ee7979ad6d454ec4c42e6255e2eda214e8948213625563d2b9285e4e3", func := "bargate/bargatelaw08.VectorBest", spec := "vectorBest", apart := false }
def VectorBestSaid : Prop := vectorBestRow.holds Try.pinned (OpenSpec.ofChange vectorBestSpec)

/-- ITS FALSE NEIGHBOUR: 'it returns false'. Refute it at one input. -/
def vectorBestWrong : ChangeSpec := { name := "vectorBest", fn := fun _ => fun
  | [d] => { results := [.lit (.bool false)], args := [d] }
  | _ => none }
def VectorBestWrongFalsely : Prop := vectorBestRow.holds Try.pinned (OpenSpec.ofChange vectorBestWrong)

/-- 'bargatelaw08.VectorSupersedes': WHATEVER THE INPUT: true; the input reads as it did. -/
def vectorSupersedesSpec : ChangeSpec := { name := "vectorSupersedes", fn := fun _ => fun
  | [d1, d2] => { results := [.lit (.bool true)], args := [d1, d2] }
  | _ => none }
def vectorSupersedesRow : OpenClaim := { program := "ytjnbjcieepooaab", sum := "ffb8dc8ee7979ad6d454ec4c42e6255e2eda214e8948213625563d2b9285e4e3", func := "bargate/bargatelaw08.VectorSupersedes", spec := "vectorSupersedes", apart := false }
def VectorSupersedesSaid : Prop := vectorSupersedesRow.holds Try.pinned (OpenSpec.ofChange vectorSupersedesSpec)

/-- ITS FALSE NEIGHBOUR: 'it returns false'. Refute it at one input. -/
def vectorSupersedesWrong : ChangeSpec := { name := "vectorSupersedes", fn := fun _ => fun
  | [d1, d2] => { results := [.lit (.bool false)], args := [d1, d2] }
  | _ => none }
def VectorSupersedesWrongFalsely : Prop := vectorSupersedesRow.holds Try.pinned (OpenSpec.ofChange vectorSupersedesWrong)

/-- 'bargatelaw08.VectorIds': WHATEVER THE INPUT: true; the input reads as it did. -/
def vectorIdsSpec : ChangeSpec := { name := "vectorIds", fn := fun _ => fun
  | [d1, d2, d3] => { results := [.lit (.bool true)], args := [d1, d2, d3] }
  | _ => none }
def vectorIdsRow : OpenClaim := { program := "ytjnbjcieepooaab", sum := "ffb8dc8ee7979ad6d454ec4c42e6255e2eda214e8948213625563d2b9285e4e3", func := "bargate/bargatelaw08.VectorIds", spec := "vectorIds", apart := false }
def VectorIdsSaid : Prop := vectorIdsRow.holds Try.pinned (OpenSpec.ofChange vectorIdsSpec)

/-- ITS FALSE NEIGHBOUR: 'it returns false'. Refute it at one input. -/
def vectorIdsWrong : ChangeSpec := { name := "vectorIds", fn := fun _ => fun
  | [d1, d2, d3] => { results := [.lit (.bool false)], args := [d1, d2, d3] }
  | _ => none }
def VectorIdsWrongFalsely : Prop := vectorIdsRow.holds Try.pinned (OpenSpec.ofChange vectorIdsWrong)

/-- 'bargatelaw08.VectorCosts': WHATEVER THE INPUT: true; the input reads as it did. -/
def vectorCostsSpec : ChangeSpec := { name := "vectorCosts", fn := fun _ => fun
  | [d] => { results := [.lit (.bool true)], args := [d] }
  | _ => none }
def vectorCostsRow : OpenClaim := { program := "ytjnbjcieepooaab", sum := "ffb8dc8ee7979ad6d454ec4c42e6255e2eda214e8948213625563d2b9285e4e3", func := "bargate/bargatelaw08.VectorCosts", spec := "vectorCosts", apart := false }
def VectorCostsSaid : Prop := vectorCostsRow.holds Try.pinned (OpenSpec.ofChange vectorCostsSpec)

/-- ITS FALSE NEIGHBOUR: 'it returns false'. Refute it at one input. -/
def vectorCostsWrong : ChangeSpec := { name := "vectorCosts", fn := fun _ => fun
  | [d] => { results := [.lit (.bool false)], args := [d] }
  | _ => none }
def VectorCostsWrongFalsely : Prop := vectorCostsRow.holds Try.pinned (OpenSpec.ofChange vectorCostsWrong)

/-- 'bargatelaw08.VectorChain': WHATEVER THE INPUT: true; the input reads as it did. -/
def vectorChainSpec : ChangeSpec := { name := "vectorChain", fn := fun _ => fun
  | [d1, d2] => { results := [.lit (.bool true)], args := [d1, d2] }
  | _ => none }
def vectorChainRow : OpenClaim := { program := "ytjnbjcieepooaab", sum := "ffb8dc8ee7979ad6d454ec4c42e6255e2eda214e8948213625563d2b9285e4e3", func := "bargate/bargatelaw08.VectorChain", spec := "vectorChain", apart := false }
def VectorChainSaid : Prop := vectorChainRow.holds Try.pinned (OpenSpec.ofChange vectorChainSpec)

/-- ITS FALSE NEIGHBOUR: 'it returns false'. Refute it at one input. -/
def vectorChainWrong : ChangeSpec := { name := "vectorChain", fn := fun _ => fun
  | [d1, d2] => { results := [.lit (.bool false)], args := [d1, d2] }
  | _ => none }
def VectorChainWrongFalsely : Prop := vectorChainRow.holds Try.pinned (OpenSpec.ofChange vectorChainWrong)

/-- 'bargatelaw09.RoleSelects': WHATEVER THE INPUT: true; the input reads as it did. -/
def roleSelectsSpec : ChangeSpec := { name := "roleSelects", fn := fun _ => fun
  | [d1, d2] => { results := [.lit (.bool true)], args := [d1, d2] }
  | _ => none }
def roleSelectsRow : OpenClaim := { program := "ytjnbjcieepooaab", sum := "ffb8dc8ee7979ad6d454ec4c42e6255e2eda214e8948213625563d2b9285e4e3", func := "bargate/bargatelaw09.RoleSelects", spec := "roleSelects", apart := false }
def RoleSelectsSaid : Prop := roleSelectsRow.holds Try.pinned (OpenSpec.ofChange roleSelectsSpec)

/-- ITS FALSE NEIGHBOUR: 'it returns false'. Refute it at one input. -/
def roleSelectsWrong : ChangeSpec := { name := "roleSelects", fn := fun _ => fun
  | [d1, d2] => { results := [.lit (.bool false)], args := [d1, d2] }
  | _ => none }
def RoleSelectsWrongFalsely : Prop := roleSelectsRow.holds Try.pinned (OpenSpec.ofChange roleSelectsWrong)

/-- 'bargatelaw09.RoleOne': WHATEVER THE INPUT: true; the input reads as it did. -/
def roleOneSpec : ChangeSpec := { name := "roleOne", fn := fun _ => fun
  | [d1, d2] => { results := [.lit (.bool true)], args := [d1, d2] }
  | _ => none }
def roleOneRow : OpenClaim := { program := "ytjnbjcieepooaab", sum := "ffb8dc8ee7979ad6d454ec4c42e6255e2eda214e8948213625563d2b9285e4e3", func := "bargate/bargatelaw09.RoleOne", spec := "roleOne", apart := false }
def RoleOneSaid : Prop := roleOneRow.holds Try.pinned (OpenSpec.ofChange roleOneSpec)

/-- ITS FALSE NEIGHBOUR: 'it returns false'. Refute it at one input. -/
def roleOneWrong : ChangeSpec := { name := "roleOne", fn := fun _ => fun
  | [d1, d2] => { results := [.lit (.bool false)], args := [d1, d2] }
  | _ => none }
def RoleOneWrongFalsely : Prop := roleOneRow.holds Try.pinned (OpenSpec.ofChange roleOneWrong)

/-- 'bargatelaw09.RoleDown': WHATEVER THE INPUT: true; the input reads as it did. -/
def roleDownSpec : ChangeSpec := { name := "roleDown", fn := fun _ => fun
  | [d1, d2, d3] => { results := [.lit (.bool true)], args := [d1, d2, d3] }
  | _ => none }
def roleDownRow : OpenClaim := { program := "ytjnbjcieepooaab", sum := "ffb8dc8ee7979ad6d454ec4c42e6255e2eda214e8948213625563d2b9285e4e3", func := "bargate/bargatelaw09.RoleDown", spec := "roleDown", apart := false }
def RoleDownSaid : Prop := roleDownRow.holds Try.pinned (OpenSpec.ofChange roleDownSpec)

/-- ITS FALSE NEIGHBOUR: 'it returns false'. Refute it at one input. -/
def roleDownWrong : ChangeSpec := { name := "roleDown", fn := fun _ => fun
  | [d1, d2, d3] => { results := [.lit (.bool false)], args := [d1, d2, d3] }
  | _ => none }
def RoleDownWrongFalsely : Prop := roleDownRow.holds Try.pinned (OpenSpec.ofChange roleDownWrong)

/-- 'bargatelaw09.RoleNames': WHATEVER THE INPUT: true; the input reads as it did. -/
def roleNamesSpec : ChangeSpec := { name := "roleNames", fn := fun _ => fun
  | [d] => { results := [.lit (.bool true)], args := [d] }
  | _ => none }
def roleNamesRow : OpenClaim := { program := "ytjnbjcieepooaab", sum := "ffb8dc8ee7979ad6d454ec4c42e6255e2eda214e8948213625563d2b9285e4e3", func := "bargate/bargatelaw09.RoleNames", spec := "roleNames", apart := false }
def RoleNamesSaid : Prop := roleNamesRow.holds Try.pinned (OpenSpec.ofChange roleNamesSpec)

/-- ITS FALSE NEIGHBOUR: 'it returns false'. Refute it at one input. -/
def roleNamesWrong : ChangeSpec := { name := "roleNames", fn := fun _ => fun
  | [d] => { results := [.lit (.bool false)], args := [d] }
  | _ => none }
def RoleNamesWrongFalsely : Prop := roleNamesRow.holds Try.pinned (OpenSpec.ofChange roleNamesWrong)

/-- 'bargatelaw09.RoleMore': WHATEVER THE INPUT: true; the input reads as it did. -/
def roleMoreSpec : ChangeSpec := { name := "roleMore", fn := fun _ => fun
  | [d1, d2, d3] => { results := [.lit (.bool true)], args := [d1, d2, d3] }
  | _ => none }
def roleMoreRow : OpenClaim := { program := "ytjnbjcieepooaab", sum := "ffb8dc8ee7979ad6d454ec4c42e6255e2eda214e8948213625563d2b9285e4e3", func := "bargate/bargatelaw09.RoleMore", spec := "roleMore", apart := false }
def RoleMoreSaid : Prop := roleMoreRow.holds Try.pinned (OpenSpec.ofChange roleMoreSpec)

/-- ITS FALSE NEIGHBOUR: 'it returns false'. Refute it at one input. -/
def roleMoreWrong : ChangeSpec := { name := "roleMore", fn := fun _ => fun
  | [d1, d2, d3] => { results := [.lit (.bool false)], args := [d1, d2, d3] }
  | _ => none }
def RoleMoreWrongFalsely : Prop := roleMoreRow.holds Try.pinned (OpenSpec.ofChange roleMoreWrong)

/- THE SECOND FORM. 'bulk': how many values and letters a reading holds, each counted each time it is reached (what is shared counts as often as it is met; a slice's spare places count too). A statement '..UptoSaid' is the law's where the arguments, and the package variables that the reading takes, are together of bulk at most 1048576: NARROWER than '..Said'. Prove '..Said' where nothing that the law and all that it calls make is longer than what came in: it says more and counts as full. Else prove '..UptoSaid'. A law counts once. -/
mutual
def uptoBulk {H : Type} : DataW H → Nat
  | .lit (.string bytes) => bytes.length + 1
  | .lit _ => 1
  | .nil => 1
  | .ptr d => uptoBulk d + 1
  | .slice elems spare => uptoBulkAll elems + uptoBulkAll spare + 1
  | .agg parts => uptoBulkAll parts + 1
  | .iface _ d => uptoBulk d + 1
  | .map entries => uptoBulkEntries entries + 1
  | .held _ => 1
def uptoBulkAll {H : Type} : List (DataW H) → Nat
  | [] => 0
  | d :: r => uptoBulk d + uptoBulkAll r
def uptoBulkEntries {H : Type} : List (Lit × DataW H) → Nat
  | [] => 0
  | x :: r => uptoBulkEntry x + uptoBulkEntries r
def uptoBulkEntry {H : Type} : Lit × DataW H → Nat
  | (.string bytes, d) => bytes.length + uptoBulk d + 1
  | (_, d) => uptoBulk d + 1
 end
def uptoSmall : (H : Type) → List (DataW H) → Bool := fun _ ds => decide (uptoBulkAll ds ≤ 1048576)
def OpenSpec.upto (s : _root_.Go.ChangeSpec) : _root_.Go.OpenSpec := { _root_.Go.OpenSpec.ofChange s with cond := some uptoSmall }

/-- 'bargatelaw08.VectorOrders', WHERE WHAT IT READS IS OF BULK AT MOST 1048576: true; the input reads as it did. -/
def vectorOrdersUptoRow : OpenClaim := { program := "ytjnbjcieepooaab", sum := "ffb8dc8ee7979ad6d454ec4c42e6255e2eda214e8948213625563d2b9285e4e3", func := "bargate/bargatelaw08.VectorOrders", spec := "vectorOrders", apart := false, narrowed := true }
def VectorOrdersUptoSaid : Prop := vectorOrdersUptoRow.holds Try.pinned (OpenSpec.upto vectorOrdersSpec)

/-- 'bargatelaw08.VectorOver', WHERE WHAT IT READS IS OF BULK AT MOST 1048576: true; the input reads as it did. -/
def vectorOverUptoRow : OpenClaim := { program := "ytjnbjcieepooaab", sum := "ffb8dc8ee7979ad6d454ec4c42e6255e2eda214e8948213625563d2b9285e4e3", func := "bargate/bargatelaw08.VectorOver", spec := "vectorOver", apart := false, narrowed := true }
def VectorOverUptoSaid : Prop := vectorOverUptoRow.holds Try.pinned (OpenSpec.upto vectorOverSpec)

/-- 'bargatelaw08.VectorBest', WHERE WHAT IT READS IS OF BULK AT MOST 1048576: true; the input reads as it did. -/
def vectorBestUptoRow : OpenClaim := { program := "ytjnbjcieepooaab", sum := "ffb8dc8ee7979ad6d454ec4c42e6255e2eda214e8948213625563d2b9285e4e3", func := "bargate/bargatelaw08.VectorBest", spec := "vectorBest", apart := false, narrowed := true }
def VectorBestUptoSaid : Prop := vectorBestUptoRow.holds Try.pinned (OpenSpec.upto vectorBestSpec)

/-- 'bargatelaw08.VectorSupersedes', WHERE WHAT IT READS IS OF BULK AT MOST 1048576: true; the input reads as it did. -/
def vectorSupersedesUptoRow : OpenClaim := { program := "ytjnbjcieepooaab", sum := "ffb8dc8ee7979ad6d454ec4c42e6255e2eda214e8948213625563d2b9285e4e3", func := "bargate/bargatelaw08.VectorSupersedes", spec := "vectorSupersedes", apart := false, narrowed := true }
def VectorSupersedesUptoSaid : Prop := vectorSupersedesUptoRow.holds Try.pinned (OpenSpec.upto vectorSupersedesSpec)

/-- 'bargatelaw08.VectorIds', WHERE WHAT IT READS IS OF BULK AT MOST 1048576: true; the input reads as it did. -/
def vectorIdsUptoRow : OpenClaim := { program := "ytjnbjcieepooaab", sum := "ffb8dc8ee7979ad6d454ec4c42e6255e2eda214e8948213625563d2b9285e4e3", func := "bargate/bargatelaw08.VectorIds", spec := "vectorIds", apart := false, narrowed := true }
def VectorIdsUptoSaid : Prop := vectorIdsUptoRow.holds Try.pinned (OpenSpec.upto vectorIdsSpec)

/-- 'bargatelaw08.VectorCosts', WHERE WHAT IT READS IS OF BULK AT MOST 1048576: true; the input reads as it did. -/
def vectorCostsUptoRow : OpenClaim := { program := "ytjnbjcieepooaab", sum := "ffb8dc8ee7979ad6d454ec4c42e6255e2eda214e8948213625563d2b9285e4e3", func := "bargate/bargatelaw08.VectorCosts", spec := "vectorCosts", apart := false, narrowed := true }
def VectorCostsUptoSaid : Prop := vectorCostsUptoRow.holds Try.pinned (OpenSpec.upto vectorCostsSpec)

/-- 'bargatelaw08.VectorChain', WHERE WHAT IT READS IS OF BULK AT MOST 1048576: true; the input reads as it did. -/
def vectorChainUptoRow : OpenClaim := { program := "ytjnbjcieepooaab", sum := "ffb8dc8ee7979ad6d454ec4c42e6255e2eda214e8948213625563d2b9285e4e3", func := "bargate/bargatelaw08.VectorChain", spec := "vectorChain", apart := false, narrowed := true }
def VectorChainUptoSaid : Prop := vectorChainUptoRow.holds Try.pinned (OpenSpec.upto vectorChainSpec)

/-- 'bargatelaw09.RoleSelects', WHERE WHAT IT READS IS OF BULK AT MOST 1048576: true; the input reads as it did. -/
def roleSelectsUptoRow : OpenClaim := { program := "ytjnbjcieepooaab", sum := "ffb8dc8ee7979ad6d454ec4c42e6255e2eda214e8948213625563d2b9285e4e3", func := "bargate/bargatelaw09.RoleSelects", spec := "roleSelects", apart := false, narrowed := true }
def RoleSelectsUptoSaid : Prop := roleSelectsUptoRow.holds Try.pinned (OpenSpec.upto roleSelectsSpec)

/-- 'bargatelaw09.RoleOne', WHERE WHAT IT READS IS OF BULK AT MOST 1048576: true; the input reads as it did. -/
def roleOneUptoRow : OpenClaim := { program := "ytjnbjcieepooaab", sum := "ffb8dc8ee7979ad6d454ec4c42e6255e2eda214e8948213625563d2b9285e4e3", func := "bargate/bargatelaw09.RoleOne", spec := "roleOne", apart := false, narrowed := true }
def RoleOneUptoSaid : Prop := roleOneUptoRow.holds Try.pinned (OpenSpec.upto roleOneSpec)

/-- 'bargatelaw09.RoleDown', WHERE WHAT IT READS IS OF BULK AT MOST 1048576: true; the input reads as it did. -/
def roleDownUptoRow : OpenClaim := { program := "ytjnbjcieepooaab", sum := "ffb8dc8ee7979ad6d454ec4c42e6255e2eda214e8948213625563d2b9285e4e3", func := "bargate/bargatelaw09.RoleDown", spec := "roleDown", apart := false, narrowed := true }
def RoleDownUptoSaid : Prop := roleDownUptoRow.holds Try.pinned (OpenSpec.upto roleDownSpec)

/-- 'bargatelaw09.RoleNames', WHERE WHAT IT READS IS OF BULK AT MOST 1048576: true; the input reads as it did. -/
def roleNamesUptoRow : OpenClaim := { program := "ytjnbjcieepooaab", sum := "ffb8dc8ee7979ad6d454ec4c42e6255e2eda214e8948213625563d2b9285e4e3", func := "bargate/bargatelaw09.RoleNames", spec := "roleNames", apart := false, narrowed := true }
def RoleNamesUptoSaid : Prop := roleNamesUptoRow.holds Try.pinned (OpenSpec.upto roleNamesSpec)

/-- 'bargatelaw09.RoleMore', WHERE WHAT IT READS IS OF BULK AT MOST 1048576: true; the input reads as it did. -/
def roleMoreUptoRow : OpenClaim := { program := "ytjnbjcieepooaab", sum := "ffb8dc8ee7979ad6d454ec4c42e6255e2eda214e8948213625563d2b9285e4e3", func := "bargate/bargatelaw09.RoleMore", spec := "roleMore", apart := false, narrowed := true }
def RoleMoreUptoSaid : Prop := roleMoreUptoRow.holds Try.pinned (OpenSpec.upto roleMoreSpec)

end Rows
end Go.Proofs.Ytjnbjcieepooaab
