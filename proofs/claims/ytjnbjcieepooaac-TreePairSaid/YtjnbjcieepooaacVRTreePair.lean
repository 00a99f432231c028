/- The law 'TreePair' in the form in which its statement's frame takes it. -/
import Derived.Test.YtjnbjcieepooaacTL8
import Derived.Test.YtjnbjcieepooaacFlat
namespace Go.Proofs.Ytjnbjcieepooaac
open Go.RowKit
set_option linter.unusedVariables false
namespace treePair
theorem treePair_walk (w : World) (one : Int) (h1 : (Lit.int .u64 one).wf = true) (two : Int) (h2 : (Lit.int .u64 two).wf = true) (wires : Int) (_ : (Lit.int .i64 wires).wf = true) :
    Calls Try.prog 7 #[.int .u64 one, .int .u64 two, .int .i64 wires] w fun r w' => r = .returned (.bool true) ∧ Below w.heap.size w w' :=
  treePair_any w one two wires ⟨(wf_bdu64 h1).1, (wf_bdu64 h1).2⟩ ⟨(wf_bdu64 h2).1, (wf_bdu64 h2).2⟩
end treePair
end Go.Proofs.Ytjnbjcieepooaac
