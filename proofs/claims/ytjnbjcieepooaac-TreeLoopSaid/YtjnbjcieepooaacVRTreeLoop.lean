/- The law 'TreeLoop' in the form in which its statement's frame takes it. -/
import Derived.Test.YtjnbjcieepooaacTL6
import Derived.Test.YtjnbjcieepooaacFlat
namespace Go.Proofs.Ytjnbjcieepooaac
open Go.RowKit
set_option linter.unusedVariables false
namespace treeLoop
theorem treeLoop_walk (w : World) (id : Int) (hw : (Lit.int .u64 id).wf = true) (one : Int) (_ : (Lit.int .i64 one).wf = true) (two : Int) (_ : (Lit.int .i64 two).wf = true) :
    Calls Try.prog 9 #[.int .u64 id, .int .i64 one, .int .i64 two] w fun r w' => r = .returned (.bool true) ∧ Below w.heap.size w w' :=
  treeLoop_any w id one two ⟨(wf_bdu64 hw).1, (wf_bdu64 hw).2⟩
end treeLoop
end Go.Proofs.Ytjnbjcieepooaac
