/- The law 'VectorBest' in the form in which its statement's frame takes it. -/
import Derived.Test.YtjnbjcieepooaabVecOpen
import Derived.Test.YtjnbjcieepooaabVLBest
namespace Go.Proofs.Ytjnbjcieepooaab
open Go.RowKit
set_option linter.unusedVariables false
namespace vectorBest
theorem vectorBest_walk (w : World) (a : Option Addr) (len cap : Nat) (F : FlatS Try.prog w 24 a len) :
    Calls Try.prog 5 #[.slice a len cap] w fun e w' => e = .returned (.bool true) ∧ Below w.heap.size w w' := by
  obtain ⟨vs, _, hv⟩ := vecs_of F
  exact vectorBest_any w a len cap vs F.top hv
end vectorBest
end Go.Proofs.Ytjnbjcieepooaab
