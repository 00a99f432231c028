/- Arguments that are ports, opened. -/
import Derived.Test.YtjnbjcieepooaabRoleSel
import Derived.Test.YtjnbjcieepooaabVecOpen
namespace Go.Proofs.Ytjnbjcieepooaab
open Go.RowKit
set_option linter.unusedVariables false
set_option linter.unusedSimpArgs false

theorem pk0 : kindAt Try.prog 4 61 0 = some (.i .i64) := by kernel_rfl
theorem pk1 : kindAt Try.prog 4 61 1 = some (.i .u64) := by kernel_rfl
theorem pk2 : kindAt Try.prog 4 61 2 = some .b := by kernel_rfl
theorem pk3 : kindAt Try.prog 4 61 3 = some .b := by kernel_rfl
theorem pk4 : kindAt Try.prog 4 61 4 = some (.i .u64) := by kernel_rfl
theorem pk5 : kindAt Try.prog 4 61 5 = some (.i .u64) := by kernel_rfl
theorem pk6 : kindAt Try.prog 4 61 6 = some (.i .u64) := by kernel_rfl
theorem pk7 : kindAt Try.prog 4 61 7 = some (.i .i64) := by kernel_rfl
theorem pcells : Try.prog.cellsOf 61 = 8 := by kernel_rfl

theorem ports_of {w : World} {a : Option Addr} {len : Nat} (F : FlatS Try.prog w 61 a len) :
    ∃ ps : Nat → RPort, (∀ i, i < len → (ps i).ok) ∧ (0 < len → ∃ b off, a = some ⟨b, off, none⟩ ∧ PortsAt w b off len ps) := by
  by_cases h0 : 0 < len
  · obtain ⟨b, off, rfl, hlt, hc⟩ := F.at_ h0
    obtain ⟨ps, hps⟩ := choose_fn len (fun i (p : RPort) => w.cell? ⟨b, off + i * 8, none⟩ = some (.int .i64 p.id) ∧ w.cell? ⟨b, off + i * 8 + 1, none⟩ = some (.int .u64 p.cost) ∧ w.cell? ⟨b, off + i * 8 + 2, none⟩ = some (.bool p.up) ∧ w.cell? ⟨b, off + i * 8 + 3, none⟩ = some (.bool p.has)
        ∧ w.cell? ⟨b, off + i * 8 + 4, none⟩ = some (.int .u64 p.told.root) ∧ w.cell? ⟨b, off + i * 8 + 5, none⟩ = some (.int .u64 p.told.cost) ∧ w.cell? ⟨b, off + i * 8 + 6, none⟩ = some (.int .u64 p.told.bridge) ∧ w.cell? ⟨b, off + i * 8 + 7, none⟩ = some (.int .i64 p.told.port) ∧ p.ok) (⟨0, 0, false, false, ⟨0, 0, 0, 0⟩⟩ : RPort) (fun i hi => by
      obtain ⟨_, h0, x0, rfl, w0⟩ := hc i hi 4 0 _ pk0
      obtain ⟨_, h1, x1, rfl, w1⟩ := hc i hi 4 1 _ pk1
      obtain ⟨_, h2, x2, rfl⟩ := hc i hi 4 2 _ pk2
      obtain ⟨_, h3, x3, rfl⟩ := hc i hi 4 3 _ pk3
      obtain ⟨_, h4, x4, rfl, w4⟩ := hc i hi 4 4 _ pk4
      obtain ⟨_, h5, x5, rfl, w5⟩ := hc i hi 4 5 _ pk5
      obtain ⟨_, h6, x6, rfl, w6⟩ := hc i hi 4 6 _ pk6
      obtain ⟨_, h7, x7, rfl, w7⟩ := hc i hi 4 7 _ pk7
      rw [pcells] at h0 h1 h2 h3 h4 h5 h6 h7
      exact ⟨⟨x0, x1, x2, x3, ⟨x4, x5, x6, x7⟩⟩, h0, h1, h2, h3, h4, h5, h6, h7, (wf_bdu64 w1).1, (wf_bdu64 w1).2, (wf_bdu64 w4).1, (wf_bdu64 w4).2, (wf_bdu64 w5).1, (wf_bdu64 w5).2, (wf_bdu64 w6).1, (wf_bdu64 w6).2, (wf_bd64 w7).1, (wf_bd64 w7).2⟩)
    exact ⟨ps, fun i hi => (hps i hi).2.2.2.2.2.2.2.2, fun _ => ⟨b, off, rfl, hlt, fun i hi => (hps i hi).1, fun i hi => (hps i hi).2.1, fun i hi => (hps i hi).2.2.1, fun i hi => (hps i hi).2.2.2.1, fun i hi => (hps i hi).2.2.2.2.1, fun i hi => (hps i hi).2.2.2.2.2.1, fun i hi => (hps i hi).2.2.2.2.2.2.1, fun i hi => (hps i hi).2.2.2.2.2.2.2.1⟩⟩
  · exact ⟨fun _ => ⟨0, 0, false, false, ⟨0, 0, 0, 0⟩⟩, fun i hi => absurd hi (by omega), fun h => absurd h h0⟩
end Go.Proofs.Ytjnbjcieepooaab
