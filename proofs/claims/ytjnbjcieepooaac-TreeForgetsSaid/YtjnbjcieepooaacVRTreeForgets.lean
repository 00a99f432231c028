/- The law 'TreeForgets' in the form in which its statement's frame takes it. -/
import Derived.Test.YtjnbjcieepooaacTL3
import Derived.Test.YtjnbjcieepooaacFlat
namespace Go.Proofs.Ytjnbjcieepooaac
open Go.RowKit
set_option linter.unusedVariables false
namespace treeForgets
theorem treeForgets_walk (w : World) (root : Int) (hw : (Lit.int .u64 root).wf = true) (secs : Int) (_ : (Lit.int .i64 secs).wf = true) :
    Calls Try.prog 8 #[.int .u64 root, .int .i64 secs] w fun r w' => r = .returned (.bool true) ∧ Below w.heap.size w w' := treeForgets_any w root secs (wf_bdu64 hw).1
end treeForgets
end Go.Proofs.Ytjnbjcieepooaac
