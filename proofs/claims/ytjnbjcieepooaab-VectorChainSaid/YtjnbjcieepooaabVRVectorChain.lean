/- The law 'VectorChain' in the form in which its statement's frame takes it. -/
import Derived.Test.YtjnbjcieepooaabVecOpen
import Derived.Test.YtjnbjcieepooaabVLChain
namespace Go.Proofs.Ytjnbjcieepooaab
open Go.RowKit
set_option linter.unusedVariables false
namespace vectorChain
theorem vectorChain_walk (w : World) (cs : Array Value) (Fv : FlatV Try.prog 24 cs) (a : Option Addr) (len cap : Nat) (F : FlatS Try.prog w 22 a len) :
    Calls Try.prog 9 #[.agg cs, .slice a len cap] w fun e w' => e = .returned (.bool true) ∧ Below w.heap.size w w' := by
  obtain ⟨v, rfl, hv⟩ := vec_of Fv
  exact vectorChain_any w v hv a len cap F
end vectorChain
end Go.Proofs.Ytjnbjcieepooaab
