/- The law 'VectorOver' in the form in which its statement's frame takes it. -/
import Derived.Test.YtjnbjcieepooaabVecOpen
import Derived.Test.YtjnbjcieepooaabVLOver
namespace Go.Proofs.Ytjnbjcieepooaab
open Go.RowKit
set_option linter.unusedVariables false
namespace vectorOver
theorem vectorOver_walk (w : World) (ca : Array Value) (Fa : FlatV Try.prog 24 ca) (c : Int) (wc : (Lit.int .u64 c).wf = true) (m : Int) (wm : (Lit.int .u64 m).wf = true) :
    Calls Try.prog 4 #[.agg ca, .int .u64 c, .int .u64 m] w fun e w' => e = .returned (.bool true) ∧ Below w.heap.size w w' := by
  obtain ⟨a, rfl, ha⟩ := vec_of Fa
  exact vectorOver_any w a ha c m (wf_bdu64 wc).1 (wf_bdu64 wc).2 (wf_bdu64 wm).1 (wf_bdu64 wm).2
end vectorOver
end Go.Proofs.Ytjnbjcieepooaab
