/- The law's copy of the ports, by its contract. -/
import Derived.Test.YtjnbjcieepooaabRefSel
namespace Go.Proofs.Ytjnbjcieepooaab
open Go.RowKit
set_option linter.unusedVariables false
set_option linter.unusedSimpArgs false

def portsL (ps : Nat → RPort) (k : Nat) : List Value := (List.range k).flatMap fun j => (ps j).cells.toList
theorem portsL_succ (ps : Nat → RPort) (k : Nat) : portsL ps (k + 1) = portsL ps k ++ [.int .i64 (ps k).id, .int .u64 (ps k).cost, .bool (ps k).up, .bool (ps k).has, .int .u64 (ps k).told.root, .int .u64 (ps k).told.cost, .int .u64 (ps k).told.bridge, .int .i64 (ps k).told.port] := by
  unfold portsL; rw [List.range_succ, List.flatMap_append]; simp
/-- A slice of ports. -/
def PortSlice (w : World) (v : Value) (n : Nat) (ps : Nat → RPort) : Prop := ∃ a cap, v = .slice a n cap ∧ (0 < n → ∃ b off, a = some ⟨b, off, none⟩ ∧ PortsAt w b off n ps)
theorem PortSlice.of_own {w : World} {base n : Nat} {e : TypeId} {v : Value} {ps : Nat → RPort} (h : w.ownsRow base e 8 v n (portsL ps n)) : PortSlice w v n ps := by
  obtain ⟨a, cap, rfl⟩ := own_slice h
  refine ⟨a, cap, rfl, fun hn => ?_⟩
  obtain ⟨g, cap', hv, _, hlt, _, hc⟩ := own_at h hn
  simp only [Value.slice.injEq] at hv
  obtain ⟨rfl, _, rfl⟩ := hv
  have hx : ∀ i o, i < n → o < 8 → w.cell? ⟨g, 0 + i * 8 + o, none⟩ = (ps i).cells.toList[o]? := fun i o hi ho => by
    rw [Nat.zero_add, hc _ (by omega)]
    exact flat_get _ 8 (fun i => rfl) n i o hi ho
  exact ⟨g, 0, rfl, hlt, fun i hi => hx i 0 hi (by omega), fun i hi => hx i 1 hi (by omega), fun i hi => hx i 2 hi (by omega), fun i hi => hx i 3 hi (by omega), fun i hi => hx i 4 hi (by omega), fun i hi => hx i 5 hi (by omega), fun i hi => hx i 6 hi (by omega), fun i hi => hx i 7 hi (by omega)⟩
theorem PortSlice.below {w w' : World} {v : Value} {n : Nat} {ps : Nat → RPort} (h : PortSlice w v n ps) (hb : Below w.heap.size w w') : PortSlice w' v n ps := by
  obtain ⟨a, cap, rfl, h⟩ := h
  refine ⟨a, cap, rfl, fun hn => ?_⟩
  obtain ⟨b, off, rfl, hP⟩ := h hn
  exact ⟨b, off, rfl, hP.below hb⟩
def PlainPost (w : World) (n : Nat) (ps : Nat → RPort) (e : Ending) (w' : World) : Prop := ∃ v, e = .returned v ∧ PortSlice w' v n ps ∧ Below w.heap.size w w'
theorem info74 : (Try.prog.info? 74).map (fun i => (i.zero, i.size, i.bytes)) = some (some (.agg #[.int .i64 0, .int .u64 0, .bool false, .bool false, .int .u64 0, .int .u64 0, .int .u64 0, .int .i64 0]), 8, 56) := by kernel_rfl
set_option maxHeartbeats 2000000 in
theorem plain_calls (ps : Nat → RPort) (a : Option Addr) (n cap : Nat) (hn : n ≤ 1000000) (w : World) (hp : 0 < n → ∃ b off, a = some ⟨b, off, none⟩ ∧ PortsAt w b off n ps) :
    Calls Try.prog 28 #[.slice a n cap] w (PlainPost w n ps) := by
  go_enter Try.func28, Try.ntmps28
  go_wp2
  go_loopg [3, 8] n (fun gh s3 s8 wx => ∃ k : Nat, k + gh = n ∧ s8 = .int .i64 (k : Int) ∧ wx.ownsRow w.heap.size 74 8 s3 k (portsL ps k) ∧ Below w.heap.size w wx)
  case atStart => exact ⟨0, by omega, rfl, World.ownsRow_nil _ _ _ _, Below.refl _ _⟩
  case round =>
    obtain ⟨k, hkg, rfl, hown, hbel⟩ := hrel
    cases gk with
    | zero =>
      have hkM : ¬ ((k : Int) < (n : Int)) := by omega
      obtain rfl : k = n := by omega
      go_wp2
      go_ret
      exact ⟨_, rfl, PortSlice.of_own hown, hbel⟩
    | succ gh =>
      have hkM : (k : Int) < (n : Int) := by omega
      obtain ⟨b, off, rfl, hP⟩ := hp (by omega)
      have hr := port_row hP (show k < n by omega) hbel
      go_upto_region 5 with (refine wpList_load_mid rfl 61 _ rfl b (off + k * 8) rfl [.int .i64 (ps k).id, .int .u64 (ps k).cost, .bool (ps k).up, .bool (ps k).has, .int .u64 (ps k).told.root, .int .u64 (ps k).told.cost, .int .u64 (ps k).told.bridge, .int .i64 (ps k).told.port] _ hr Try.underlying61 rfl in61 ?_)
      have h1 := own_below hown ((Below.refl _ _).alloc (Nat.le_refl _) (.cells #[.int .i64 (ps k).id, .int .u64 (ps k).cost, .bool (ps k).up, .bool (ps k).has, .int .u64 (ps k).told.root, .int .u64 (ps k).told.cost, .int .u64 (ps k).told.bridge, .int .i64 (ps k).told.port] 61))
      have b1 := hbel.alloc hbel.size (.cells #[.int .i64 (ps k).id, .int .u64 (ps k).cost, .bool (ps k).up, .bool (ps k).has, .int .u64 (ps k).told.root, .int .u64 (ps k).told.cost, .int .u64 (ps k).told.bridge, .int .i64 (ps k).told.port] 61)
      have q7 := (Blk.new wr #[.int .i64 (ps k).id, .int .u64 (ps k).cost, .bool (ps k).up, .bool (ps k).has, .int .u64 (ps k).told.root, .int .u64 (ps k).told.cost, .int .u64 (ps k).told.bridge, .int .i64 (ps k).told.port] 61).cell
      generalize wr.alloc (.cells #[.int .i64 (ps k).id, .int .u64 (ps k).cost, .bool (ps k).up, .bool (ps k).has, .int .u64 (ps k).told.root, .int .u64 (ps k).told.cost, .int .u64 (ps k).told.bridge, .int .i64 (ps k).told.port] 61) = w7 at h1 b1 q7 ⊢
      generalize wr.heap.size = b7 at q7 ⊢
      clear hr hown hbel
      have h2 := own_below h1 ((Below.refl _ _).alloc (Nat.le_refl _) (.cells #[.int .i64 (ps k).id, .int .u64 (ps k).cost, .bool (ps k).up, .bool (ps k).has, .int .u64 (ps k).told.root, .int .u64 (ps k).told.cost, .int .u64 (ps k).told.bridge, .int .i64 (ps k).told.port] 74))
      have b2 := b1.alloc b1.size (.cells #[.int .i64 (ps k).id, .int .u64 (ps k).cost, .bool (ps k).up, .bool (ps k).has, .int .u64 (ps k).told.root, .int .u64 (ps k).told.cost, .int .u64 (ps k).told.bridge, .int .i64 (ps k).told.port] 74)
      go_wp2_with (refine wpList_append_one rfl _ _ 57 rfl w.heap.size 74 _ 8 56 Try.underlying57 info74 rfl (by decide) _ k _ rfl h2 w7.heap.size [.int .i64 (ps k).id, .int .u64 (ps k).cost, .bool (ps k).up, .bool (ps k).has, .int .u64 (ps k).told.root, .int .u64 (ps k).told.cost, .int .u64 (ps k).told.bridge, .int .i64 (ps k).told.port] 74 rfl (Blk.new w7 _ _) rfl (by simp [Value.oneCell']) (by unfold maxLen; omega) (by omega) b2.size ?_; intro v3 w8 hown hfr hin)
      go_roundg gh
      case measure => omega
      case rel => exact ⟨k + 1, by omega, by go_num, by rw [portsL_succ]; exact hown, Below.fr b2 hfr b2.size fun i _ hi => (own_ge h2 hi).1⟩
end Go.Proofs.Ytjnbjcieepooaab
