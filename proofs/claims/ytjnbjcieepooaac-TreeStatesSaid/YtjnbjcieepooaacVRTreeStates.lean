/- The law 'TreeStates' in the form in which its statement's frame takes it. -/
import Derived.Test.YtjnbjcieepooaacTL7
import Derived.Test.YtjnbjcieepooaacFlat
namespace Go.Proofs.Ytjnbjcieepooaac
open Go.RowKit
set_option linter.unusedVariables false
namespace treeStates
theorem treeStates_walk (w : World) (id : Int) (hw : (Lit.int .u64 id).wf = true) (al : Option Addr) (nl cl : Nat) (F : FlatC Try.prog w 31 al nl cl) (aa : Option Addr) (na ca : Nat) (G : FlatC Try.prog w 52 aa na ca) :
    Calls Try.prog 6 #[.int .u64 id, .slice al nl cl, .slice aa na ca] w fun r w' => r = .returned (.bool true) ∧ Below w.heap.size w w' := by
  obtain ⟨f, hf, hP⟩ := tports_of F.f
  obtain ⟨g, hg, hA⟩ := acts_of G.f
  exact treeStates_any w id al nl cl aa na ca F.f.top G.f.top F.cap f hf hP g hg hA
end treeStates
end Go.Proofs.Ytjnbjcieepooaac
