/- Arguments that are messages, opened. -/
import Derived.Test.YtjnbjcieepooaacTM
import Derived.Test.YtjnbjcieepooaacFlat
namespace Go.Proofs.Ytjnbjcieepooaac
open Go.RowKit
set_option linter.unusedVariables false
set_option linter.unusedSimpArgs false

theorem mk0 : kindAt Try.prog 4 41 0 = some (.i .i64) := by kernel_rfl
theorem mk1 : kindAt Try.prog 4 41 1 = some (.i .u64) := by kernel_rfl
theorem mk2 : kindAt Try.prog 4 41 2 = some (.i .u64) := by kernel_rfl
theorem mk3 : kindAt Try.prog 4 41 3 = some (.i .u64) := by kernel_rfl
theorem mk4 : kindAt Try.prog 4 41 4 = some (.i .i64) := by kernel_rfl
theorem mk5 : kindAt Try.prog 4 41 5 = some .b := by kernel_rfl
theorem mk6 : kindAt Try.prog 4 41 6 = some .b := by kernel_rfl
theorem mk7 : kindAt Try.prog 4 41 7 = some .b := by kernel_rfl
theorem mk8 : kindAt Try.prog 4 41 8 = some .b := by kernel_rfl
theorem mk9 : kindAt Try.prog 4 41 9 = some .b := by kernel_rfl
theorem mk10 : kindAt Try.prog 4 41 10 = some .b := by kernel_rfl
theorem mk11 : kindAt Try.prog 4 41 11 = some (.i .i64) := by kernel_rfl
theorem mk12 : kindAt Try.prog 4 41 12 = some (.i .i64) := by kernel_rfl
theorem mk13 : kindAt Try.prog 4 41 13 = some (.i .i64) := by kernel_rfl
theorem mk14 : kindAt Try.prog 4 41 14 = some (.i .i64) := by kernel_rfl
theorem mk15 : kindAt Try.prog 4 41 15 = some (.i .i64) := by kernel_rfl
theorem mcells : Try.prog.cellsOf 41 = 16 := by kernel_rfl
theorem msg_of {cs : Array Value} (F : FlatV Try.prog 41 cs) : ∃ m : Msg, cs = m.cells ∧ m.v.ok := by
  obtain ⟨kd, h0, w0⟩ := F.int_at 4 0 mk0
  obtain ⟨vr, h1, w1⟩ := F.int_at 4 1 mk1
  obtain ⟨vc, h2, w2⟩ := F.int_at 4 2 mk2
  obtain ⟨vb, h3, w3⟩ := F.int_at 4 3 mk3
  obtain ⟨vp, h4, w4⟩ := F.int_at 4 4 mk4
  obtain ⟨ch, h5⟩ := F.bool_at 4 5 mk5
  obtain ⟨ak, h6⟩ := F.bool_at 4 6 mk6
  obtain ⟨pr, h7⟩ := F.bool_at 4 7 mk7
  obtain ⟨ag, h8⟩ := F.bool_at 4 8 mk8
  obtain ⟨le, h9⟩ := F.bool_at 4 9 mk9
  obtain ⟨fo, h10⟩ := F.bool_at 4 10 mk10
  obtain ⟨ro, h11, w11⟩ := F.int_at 4 11 mk11
  obtain ⟨a0, h12, w12⟩ := F.int_at 4 12 mk12
  obtain ⟨a1, h13, w13⟩ := F.int_at 4 13 mk13
  obtain ⟨a2, h14, w14⟩ := F.int_at 4 14 mk14
  obtain ⟨a3, h15, w15⟩ := F.int_at 4 15 mk15
  have hs : cs.size = 16 := F.size.trans mcells
  refine ⟨⟨kd, ⟨vr, vc, vb, vp⟩, ch, ak, pr, ag, le, fo, ro, a0, a1, a2, a3⟩, ?_, ⟨(wf_bdu64 w1).1, (wf_bdu64 w1).2, (wf_bdu64 w2).1, (wf_bdu64 w2).2, (wf_bdu64 w3).1, (wf_bdu64 w3).2, (wf_bd64 w4).1, (wf_bd64 w4).2⟩⟩
  apply Array.ext_getElem?
  intro i
  by_cases hi : i < 16
  · have : i = 0 ∨ i = 1 ∨ i = 2 ∨ i = 3 ∨ i = 4 ∨ i = 5 ∨ i = 6 ∨ i = 7 ∨ i = 8 ∨ i = 9 ∨ i = 10 ∨ i = 11 ∨ i = 12 ∨ i = 13 ∨ i = 14 ∨ i = 15 := by omega
    rcases this with rfl | rfl | rfl | rfl | rfl | rfl | rfl | rfl | rfl | rfl | rfl | rfl | rfl | rfl | rfl | rfl
    · exact h0
    · exact h1
    · exact h2
    · exact h3
    · exact h4
    · exact h5
    · exact h6
    · exact h7
    · exact h8
    · exact h9
    · exact h10
    · exact h11
    · exact h12
    · exact h13
    · exact h14
    · exact h15
  · rw [Array.getElem?_eq_none (by omega), Array.getElem?_eq_none (by show 16 ≤ i; omega)]
end Go.Proofs.Ytjnbjcieepooaac
