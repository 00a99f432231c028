/- The law 'RoleMore', in the form that its row asks. -/
import Derived.Test.YtjnbjcieepooaabRoleOpen
import Derived.Test.YtjnbjcieepooaabRLMore
namespace Go.Proofs.Ytjnbjcieepooaab
open Go.RowKit
set_option linter.unusedVariables false
set_option linter.unusedSimpArgs false

theorem roleMore.roleMore_walk (w : World) (g : Int) (wg : (Lit.int .u64 g).wf = true) (a : Option Addr) (len cap : Nat) (F : FlatS Try.prog w 61 a len) (cs : Array Value) (Fv : FlatV Try.prog 24 cs) :
    Calls Try.prog 14 #[.int .u64 g, .slice a len cap, .agg cs] w fun e w' => e = .returned (.bool true) ∧ Below w.heap.size w w' := by
  obtain ⟨ps, hok, hp⟩ := ports_of F
  obtain ⟨v, rfl, hv⟩ := vec_of Fv
  exact roleMore_any w g a len cap ps hok F.top hp v hv
end Go.Proofs.Ytjnbjcieepooaab
