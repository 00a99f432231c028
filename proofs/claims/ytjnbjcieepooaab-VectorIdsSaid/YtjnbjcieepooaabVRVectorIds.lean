/- The law 'VectorIds' in the form in which its statement's frame takes it. -/
import Derived.Test.YtjnbjcieepooaabVecOpen
import Derived.Test.YtjnbjcieepooaabVLIds
namespace Go.Proofs.Ytjnbjcieepooaab
open Go.RowKit
set_option linter.unusedVariables false
theorem pk0 : kindAt Try.prog 3 34 0 = some (.i .i64) := by kernel_rfl
theorem pk1 : kindAt Try.prog 3 34 1 = some (.i .i64) := by kernel_rfl
theorem mk00 : kindAt Try.prog 3 36 0 = some (.i .u8) := by kernel_rfl
theorem mk01 : kindAt Try.prog 3 36 1 = some (.i .u8) := by kernel_rfl
theorem mk02 : kindAt Try.prog 3 36 2 = some (.i .u8) := by kernel_rfl
theorem mk03 : kindAt Try.prog 3 36 3 = some (.i .u8) := by kernel_rfl
theorem mk04 : kindAt Try.prog 3 36 4 = some (.i .u8) := by kernel_rfl
theorem mk05 : kindAt Try.prog 3 36 5 = some (.i .u8) := by kernel_rfl
theorem mk0 : ∀ k, k < 6 → kindAt Try.prog 3 36 k = some (.i .u8)
  | 0, _ => mk00
  | 1, _ => mk01
  | 2, _ => mk02
  | 3, _ => mk03
  | 4, _ => mk04
  | 5, _ => mk05
  | k + 6, h => absurd h (by omega)
theorem pair_of {cs : Array Value} (F : FlatV Try.prog 34 cs) : ∃ p q : Int, cs = #[.int .i64 p, .int .i64 q] := by
  obtain ⟨p, hp, _⟩ := F.int_at 3 0 pk0
  obtain ⟨q, hq, _⟩ := F.int_at 3 1 pk1
  have hs : cs.size = 2 := F.size.trans (by kernel_rfl)
  refine ⟨p, q, ?_⟩
  apply Array.ext_getElem?
  intro i
  by_cases hi : i < 2
  · have : i = 0 ∨ i = 1 := by omega
    rcases this with rfl | rfl
    · rw [hp]; rfl
    · rw [hq]; rfl
  · rw [Array.getElem?_eq_none (by omega), Array.getElem?_eq_none (by show 2 ≤ i; omega)]
theorem mac_of {cs : Array Value} (F : FlatV Try.prog 36 cs) : ∃ m : Nat → Int, (∀ k, k < 6 → 0 ≤ m k ∧ m k ≤ 255) ∧ cs = #[.int .u8 (m 0), .int .u8 (m 1), .int .u8 (m 2), .int .u8 (m 3), .int .u8 (m 4), .int .u8 (m 5)] := by
  obtain ⟨m, hm⟩ := choose_fn 6 (fun i x => cs[i]? = some (.int .u8 x) ∧ 0 ≤ x ∧ x ≤ 255) (0 : Int) (fun i hi => by
    obtain ⟨x, hx, wx⟩ := F.int_at 3 i (mk0 i hi)
    exact ⟨x, hx, (wf_bdu8 wx).1, (wf_bdu8 wx).2⟩)
  have hs : cs.size = 6 := F.size.trans (by kernel_rfl)
  refine ⟨m, fun k hk => (hm k hk).2, ?_⟩
  apply Array.ext_getElem?
  intro i
  by_cases hi : i < 6
  · rw [(hm i hi).1]
    have : i = 0 ∨ i = 1 ∨ i = 2 ∨ i = 3 ∨ i = 4 ∨ i = 5 := by omega
    rcases this with rfl | rfl | rfl | rfl | rfl | rfl <;> rfl
  · rw [Array.getElem?_eq_none (by omega), Array.getElem?_eq_none (by show 6 ≤ i; omega)]
namespace vectorIds
theorem vectorIds_walk (w : World) (cp : Array Value) (Fp : FlatV Try.prog 34 cp) (ca : Array Value) (Fa : FlatV Try.prog 36 ca) (cb : Array Value) (Fb : FlatV Try.prog 36 cb) :
    Calls Try.prog 7 #[.agg cp, .agg ca, .agg cb] w fun e w' => e = .returned (.bool true) ∧ Below w.heap.size w w' := by
  obtain ⟨p, q, rfl⟩ := pair_of Fp
  obtain ⟨a, ha, rfl⟩ := mac_of Fa
  obtain ⟨b, hb, rfl⟩ := mac_of Fb
  exact vectorIds_any w p q a b ha hb
end vectorIds
end Go.Proofs.Ytjnbjcieepooaab
