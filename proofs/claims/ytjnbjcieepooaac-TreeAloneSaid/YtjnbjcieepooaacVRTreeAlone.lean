/- The law 'TreeAlone' in the form in which its statement's frame takes it. -/
import Derived.Test.YtjnbjcieepooaacTL1
namespace Go.Proofs.Ytjnbjcieepooaac
open Go.RowKit
set_option linter.unusedVariables false
namespace treeAlone
theorem treeAlone_walk (w : World) (e : Bool) (s : Int) (_ : (Lit.int .i64 s).wf = true) :
    Calls Try.prog 3 #[.bool e, .int .i64 s] w fun r w' => r = .returned (.bool true) ∧ Below w.heap.size w w' := treeAlone_any w e s
end treeAlone
end Go.Proofs.Ytjnbjcieepooaac
