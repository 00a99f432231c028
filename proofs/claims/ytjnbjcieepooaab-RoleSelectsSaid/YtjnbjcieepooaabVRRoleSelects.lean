/- The law 'RoleSelects', in the form that its row asks. -/
import Derived.Test.YtjnbjcieepooaabRoleOpen
import Derived.Test.YtjnbjcieepooaabRLSelects
namespace Go.Proofs.Ytjnbjcieepooaab
open Go.RowKit
set_option linter.unusedVariables false
set_option linter.unusedSimpArgs false

theorem roleSelects.roleSelects_walk (w : World) (g : Int) (wg : (Lit.int .u64 g).wf = true) (a : Option Addr) (len cap : Nat) (F : FlatS Try.prog w 61 a len) :
    Calls Try.prog 10 #[.int .u64 g, .slice a len cap] w fun e w' => e = .returned (.bool true) ∧ Below w.heap.size w w' := by
  obtain ⟨ps, hok, hp⟩ := ports_of F
  exact roleSelects_any w g a len cap ps hok F.top hp
end Go.Proofs.Ytjnbjcieepooaab
