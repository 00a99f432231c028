/- The law 'TreeEdge' in the form in which its statement's frame takes it. -/
import Derived.Test.YtjnbjcieepooaacTL4
import Derived.Test.YtjnbjcieepooaacFlat
namespace Go.Proofs.Ytjnbjcieepooaac
open Go.RowKit
set_option linter.unusedVariables false
namespace treeEdge
theorem treeEdge_walk (w : World) (id : Int) (hw : (Lit.int .u64 id).wf = true) (cs : Array Value) (F : FlatV Try.prog 41 cs) :
    Calls Try.prog 11 #[.int .u64 id, .agg cs] w fun r w' => r = .returned (.bool true) ∧ Below w.heap.size w w' := by
  obtain ⟨m, rfl, hm⟩ := msg_of F
  exact treeEdge_any w id m hm
end treeEdge
end Go.Proofs.Ytjnbjcieepooaac
