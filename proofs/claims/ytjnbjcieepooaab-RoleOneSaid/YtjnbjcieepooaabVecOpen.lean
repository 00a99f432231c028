/- Arguments that are vectors, opened. -/
import Derived.Test.YtjnbjcieepooaabVectorB
namespace Go.Proofs.Ytjnbjcieepooaab
open Go.RowKit
set_option linter.unusedVariables false
set_option linter.unusedSimpArgs false

theorem vk0 : kindAt Try.prog 3 24 0 = some (.i .u64) := by kernel_rfl
theorem vk1 : kindAt Try.prog 3 24 1 = some (.i .u64) := by kernel_rfl
theorem vk2 : kindAt Try.prog 3 24 2 = some (.i .u64) := by kernel_rfl
theorem vk3 : kindAt Try.prog 3 24 3 = some (.i .i64) := by kernel_rfl
theorem vcells : Try.prog.cellsOf 24 = 4 := by kernel_rfl

theorem vec_of {cs : Array Value} (F : FlatV Try.prog 24 cs) : ∃ v : Vec, cs = v.cells ∧ v.ok := by
  obtain ⟨a, ha, wa⟩ := F.int_at 3 0 vk0
  obtain ⟨b, hb, wb⟩ := F.int_at 3 1 vk1
  obtain ⟨c, hc, wc⟩ := F.int_at 3 2 vk2
  obtain ⟨d, hd, wd⟩ := F.int_at 3 3 vk3
  have hs : cs.size = 4 := F.size.trans vcells
  refine ⟨⟨a, b, c, d⟩, ?_, (wf_bdu64 wa).1, (wf_bdu64 wa).2, (wf_bdu64 wb).1, (wf_bdu64 wb).2, (wf_bdu64 wc).1, (wf_bdu64 wc).2, (wf_bd64 wd).1, (wf_bd64 wd).2⟩
  apply Array.ext_getElem?
  intro i
  by_cases hi : i < 4
  · have : i = 0 ∨ i = 1 ∨ i = 2 ∨ i = 3 := by omega
    rcases this with rfl | rfl | rfl | rfl
    · rw [ha]; rfl
    · rw [hb]; rfl
    · rw [hc]; rfl
    · rw [hd]; rfl
  · rw [Array.getElem?_eq_none (by omega), Array.getElem?_eq_none (by show 4 ≤ i; omega)]

theorem vecs_of {w : World} {a : Option Addr} {len : Nat} (F : FlatS Try.prog w 24 a len) :
    ∃ vs : Nat → Vec, (∀ i, i < len → (vs i).ok) ∧ (0 < len → ∃ b off, a = some ⟨b, off, none⟩ ∧ Vecs w b off len vs) := by
  by_cases h0 : 0 < len
  · obtain ⟨b, off, rfl, hlt, hc⟩ := F.at_ h0
    obtain ⟨vs, hvs⟩ := choose_fn len (fun i v => w.cell? ⟨b, off + i * 4, none⟩ = some (.int .u64 v.root) ∧ w.cell? ⟨b, off + i * 4 + 1, none⟩ = some (.int .u64 v.cost) ∧ w.cell? ⟨b, off + i * 4 + 2, none⟩ = some (.int .u64 v.bridge) ∧ w.cell? ⟨b, off + i * 4 + 3, none⟩ = some (.int .i64 v.port) ∧ v.ok) (⟨0, 0, 0, 0⟩ : Vec) (fun i hi => by
      obtain ⟨_, h1, x1, rfl, w1⟩ := hc i hi 3 0 _ vk0
      obtain ⟨_, h2, x2, rfl, w2⟩ := hc i hi 3 1 _ vk1
      obtain ⟨_, h3, x3, rfl, w3⟩ := hc i hi 3 2 _ vk2
      obtain ⟨_, h4, x4, rfl, w4⟩ := hc i hi 3 3 _ vk3
      rw [vcells] at h1 h2 h3 h4
      exact ⟨⟨x1, x2, x3, x4⟩, h1, h2, h3, h4, (wf_bdu64 w1).1, (wf_bdu64 w1).2, (wf_bdu64 w2).1, (wf_bdu64 w2).2, (wf_bdu64 w3).1, (wf_bdu64 w3).2, (wf_bd64 w4).1, (wf_bd64 w4).2⟩)
    exact ⟨vs, fun i hi => (hvs i hi).2.2.2.2, fun _ => ⟨b, off, rfl, hlt, fun i hi => (hvs i hi).1, fun i hi => (hvs i hi).2.1, fun i hi => (hvs i hi).2.2.1, fun i hi => (hvs i hi).2.2.2.1⟩⟩
  · exact ⟨fun _ => ⟨0, 0, 0, 0⟩, fun i hi => absurd hi (by omega), fun h => absurd h h0⟩
end Go.Proofs.Ytjnbjcieepooaab
