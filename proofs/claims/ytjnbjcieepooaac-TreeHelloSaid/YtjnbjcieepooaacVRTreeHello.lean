/- The law 'TreeHello' in the form in which its statement's frame takes it. -/
import Derived.Test.YtjnbjcieepooaacTL2
namespace Go.Proofs.Ytjnbjcieepooaac
open Go.RowKit
set_option linter.unusedVariables false
namespace treeHello
theorem treeHello_walk (w : World) (id : Int) (_ : (Lit.int .u64 id).wf = true) (many : Int) (_ : (Lit.int .i64 many).wf = true) (secs : Int) (_ : (Lit.int .i64 secs).wf = true) :
    Calls Try.prog 4 #[.int .u64 id, .int .i64 many, .int .i64 secs] w fun r w' => r = .returned (.bool true) ∧ Below w.heap.size w w' := treeHello_any w id many secs
end treeHello
end Go.Proofs.Ytjnbjcieepooaac
