/- The law 'VectorSupersedes' in the form in which its statement's frame takes it. -/
import Derived.Test.YtjnbjcieepooaabVecOpen
import Derived.Test.YtjnbjcieepooaabVLSuper
namespace Go.Proofs.Ytjnbjcieepooaab
open Go.RowKit
set_option linter.unusedVariables false
namespace vectorSupersedes
theorem vectorSupersedes_walk (w : World) (ca : Array Value) (Fa : FlatV Try.prog 24 ca) (cb : Array Value) (Fb : FlatV Try.prog 24 cb) :
    Calls Try.prog 6 #[.agg ca, .agg cb] w fun e w' => e = .returned (.bool true) ∧ Below w.heap.size w w' := by
  obtain ⟨a, rfl, _⟩ := vec_of Fa
  obtain ⟨b, rfl, _⟩ := vec_of Fb
  exact vectorSupersedes_any w a b
end vectorSupersedes
end Go.Proofs.Ytjnbjcieepooaab
