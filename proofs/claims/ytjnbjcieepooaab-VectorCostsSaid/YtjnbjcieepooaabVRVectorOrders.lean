/- The law 'VectorOrders' in the form in which its statement's frame takes it. -/
import Derived.Test.YtjnbjcieepooaabVecOpen
import Derived.Test.YtjnbjcieepooaabVectorLaws
namespace Go.Proofs.Ytjnbjcieepooaab
open Go.RowKit
set_option linter.unusedVariables false
namespace vectorOrders
theorem vectorOrders_walk (w : World) (ca : Array Value) (Fa : FlatV Try.prog 24 ca) (cb : Array Value) (Fb : FlatV Try.prog 24 cb) (cc : Array Value) (Fc : FlatV Try.prog 24 cc) :
    Calls Try.prog 3 #[.agg ca, .agg cb, .agg cc] w fun e w' => e = .returned (.bool true) ∧ Below w.heap.size w w' := by
  obtain ⟨a, rfl, _⟩ := vec_of Fa
  obtain ⟨b, rfl, _⟩ := vec_of Fb
  obtain ⟨c, rfl, _⟩ := vec_of Fc
  exact vectorOrders_any w a b c
end vectorOrders
namespace vectorCosts
theorem vectorCosts_walk (w : World) (s : Int) (_ : (Lit.int .i64 s).wf = true) :
    Calls Try.prog 8 #[.int .i64 s] w fun e w' => e = .returned (.bool true) ∧ Below w.heap.size w w' := vectorCosts_any w s
end vectorCosts
end Go.Proofs.Ytjnbjcieepooaab
