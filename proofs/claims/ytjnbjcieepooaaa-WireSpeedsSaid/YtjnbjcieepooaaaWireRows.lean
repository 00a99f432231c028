/- The laws of package wire in the form in which their statements' frames take them: each answers true, and nothing that was there before turns. -/
import Derived.Test.YtjnbjcieepooaaaFlat
import Derived.Test.YtjnbjcieepooaaaWireMore
import Derived.Test.YtjnbjcieepooaaaWireAll
namespace Go.Proofs.Ytjnbjcieepooaaa
open Go.RowKit

theorem to_below {f : Nat} {args : Array Value} {w : World} (h : Calls Try.prog f args w fun e w' => e = .returned (.bool true) ∧ w = w') :
    Calls Try.prog f args w fun e w' => e = .returned (.bool true) ∧ Below w.heap.size w w' :=
  h.mono fun _ _ ⟨he, hw⟩ => ⟨he, hw ▸ Below.refl _ _⟩

namespace wireTimes
theorem wireTimes_walk (w : World) (a : Int) (wa : (Lit.int .i64 a).wf = true) (s : Int) (_ : (Lit.int .i64 s).wf = true) :
    Calls Try.prog 6 #[.int .i64 a, .int .i64 s] w fun e w' => e = .returned (.bool true) ∧ Below w.heap.size w w' :=
  to_below (Ytjnbjcieepooaaa.wireTimes_walk a s (wf_bd64 wa).1 (wf_bd64 wa).2 w)
end wireTimes
namespace wireFits
theorem wireFits_walk (w : World) (a : Int) (_ : (Lit.int .i64 a).wf = true) (s : Int) (_ : (Lit.int .i64 s).wf = true) :
    Calls Try.prog 7 #[.int .i64 a, .int .i64 s] w fun e w' => e = .returned (.bool true) ∧ Below w.heap.size w w' :=
  to_below (Ytjnbjcieepooaaa.wireFits_walk a s w)
end wireFits
namespace wireClocks
theorem wireClocks_walk (w : World) (a : Int) (wa : (Lit.int .i64 a).wf = true) (s : Int) (ws : (Lit.int .i64 s).wf = true) :
    Calls Try.prog 8 #[.int .i64 a, .int .i64 s] w fun e w' => e = .returned (.bool true) ∧ Below w.heap.size w w' :=
  to_below (Ytjnbjcieepooaaa.wireClocks_walk a s (wf_bd64 wa).1 (wf_bd64 wa).2 (wf_bd64 ws).1 (wf_bd64 ws).2 w)
end wireClocks
namespace wireCredits
theorem wireCredits_walk (w : World) (r : Int) (_ : (Lit.int .i64 r).wf = true) (n : Int) (_ : (Lit.int .i64 n).wf = true) (m : Int) (wm : (Lit.int .i64 m).wf = true) :
    Calls Try.prog 9 #[.int .i64 r, .int .i64 n, .int .i64 m] w fun e w' => e = .returned (.bool true) ∧ Below w.heap.size w w' :=
  to_below (Ytjnbjcieepooaaa.wireCredits_walk r n m (wf_bd64 wm).2 w)
end wireCredits
namespace wireSpeeds
theorem wireSpeeds_walk (w : World) (a : Int) (_ : (Lit.int .i64 a).wf = true) :
    Calls Try.prog 10 #[.int .i64 a] w fun e w' => e = .returned (.bool true) ∧ Below w.heap.size w w' :=
  to_below (Ytjnbjcieepooaaa.wireSpeeds_walk a w)
end wireSpeeds

theorem cellsOf3 : Try.prog.cellsOf 3 = 1 := by kernel_rfl
theorem kind3 : kindAt Try.prog 2 3 0 = some (.i .i64) := by
  unfold kindAt; rw [Try.underlying3]; rfl

theorem choose_lt {α : Type} (n : Nat) (p : Nat → α → Prop) (d : α) (h : ∀ i, i < n → ∃ x, p i x) : ∃ l : List α, l.length = n ∧ ∀ i, i < n → p i (l.getD i d) := by
  induction n with
  | zero => exact ⟨[], rfl, fun i hi => absurd hi (by omega)⟩
  | succ n ih =>
    obtain ⟨l, hl, hp⟩ := ih fun i hi => h i (by omega)
    obtain ⟨x, hx⟩ := h n (by omega)
    refine ⟨l ++ [x], by simp [hl], fun i hi => ?_⟩
    by_cases hin : i < n
    · have := hp i hin
      simpa [List.getD, List.getElem?_append_left (show i < l.length by omega)] using this
    · obtain rfl : i = n := by omega
      simpa [List.getD, hl] using hx

theorem reads_of {w : World} {a : Option Addr} {len : Nat} (F : FlatS Try.prog w 3 a len) : ∃ zs, Reads w a len zs := by
  by_cases h0 : 0 < len
  · obtain ⟨b, off, rfl, _, hc⟩ := F.at_ h0
    obtain ⟨zs, hz, hp⟩ := choose_lt len (fun i x => w.cell? ⟨b, off + i, none⟩ = some (.int .i64 x)) 0 (fun i hi => by
      obtain ⟨v, hv, x, rfl, _⟩ := hc i hi 2 0 _ kind3
      rw [cellsOf3] at hv
      exact ⟨x, by simpa using hv⟩)
    exact ⟨zs, hz, fun _ => ⟨b, off, rfl, hp⟩⟩
  · exact ⟨[], by simp; omega, fun h => absurd h h0⟩

namespace wireAll
theorem wireAll_walk (w : World) (s : Int) (_ : (Lit.int .i64 s).wf = true) (a : Option Addr) (len cap : Nat) (F : FlatS Try.prog w 3 a len) :
    Calls Try.prog 14 #[.int .i64 s, .slice a len cap] w fun e w' => e = .returned (.bool true) ∧ Below w.heap.size w w' := by
  obtain ⟨zs, hz⟩ := reads_of F
  exact to_below (Ytjnbjcieepooaaa.wireAll_walk s a len cap zs w hz F.top)
end wireAll
end Go.Proofs.Ytjnbjcieepooaaa
