/- The law 'TreeDown' in the form in which its statement's frame takes it. -/
import Derived.Test.YtjnbjcieepooaacTL5
import Derived.Test.YtjnbjcieepooaacFlat
namespace Go.Proofs.Ytjnbjcieepooaac
open Go.RowKit
set_option linter.unusedVariables false
namespace treeDown
theorem treeDown_walk (w : World) (id : Int) (hw : (Lit.int .u64 id).wf = true) (a : Option Addr) (n cap : Nat) (F : FlatS Try.prog w 52 a n) (port : Int) (_ : (Lit.int .i64 port).wf = true) :
    Calls Try.prog 10 #[.int .u64 id, .slice a n cap, .int .i64 port] w fun r w' => r = .returned (.bool true) ∧ Below w.heap.size w w' := by
  obtain ⟨f, hf, hA⟩ := acts_of F
  exact treeDown_any w id port a n cap F.top f hf hA
end treeDown
end Go.Proofs.Ytjnbjcieepooaac
