/- The law's own example answers true. -/
import Derived.Test.YtjnbjcieepooaabRoleA
namespace Go.Proofs.Ytjnbjcieepooaab
open Go.RowKit
set_option linter.unusedVariables false
set_option linter.unusedSimpArgs false

theorem SelOut.tells {w : World} {n : Nat} {g : Int} {ps : Nat → RPort} {S : Way} {br bt : Nat} {cr ct : Array Value} {kr kt : Nat} (h : SelOut w n g ps S br bt cr ct kr kt) (i o : Nat) (hi : i < kt) (ho : o < 4) : w.cell? ⟨bt, i * 4 + o, none⟩ = (tellF g ps S i).cells[o]? := by
  rw [h.t.cell]
  have : o = 0 ∨ o = 1 ∨ o = 2 ∨ o = 3 := by omega
  rcases this with rfl | rfl | rfl | rfl
  · exact h.t0 i hi
  · exact h.t1 i hi
  · exact h.t2 i hi
  · exact h.t3 i hi
def sel3 (i : Nat) : RPort := if i = 0 then ⟨1, 10, true, false, ⟨0, 0, 0, 0⟩⟩ else if i = 1 then ⟨2, 10, true, true, ⟨3, 0, 3, 7⟩⟩ else ⟨3, 0, false, false, ⟨0, 0, 0, 0⟩⟩
theorem sel3_ok (i : Nat) (hi : i < 3) : (sel3 i).ok := by
  have : i = 0 ∨ i = 1 ∨ i = 2 := by omega
  rcases this with rfl | rfl | rfl <;> exact ⟨by decide, by decide, ⟨by decide, by decide, by decide, by decide, by decide, by decide, by decide, by decide⟩⟩
theorem sel3_way : wayN 5 sel3 3 = ⟨⟨3, 10, 3, 7⟩, 1⟩ := by rfl
abbrev sel3C : Array Value := #[.int .i64 1, .int .u64 10, .bool true, .bool false, .int .u64 0, .int .u64 0, .int .u64 0, .int .i64 0, .int .i64 2, .int .u64 10, .bool true, .bool true, .int .u64 3, .int .u64 0, .int .u64 3, .int .i64 7, .int .i64 3, .int .u64 0, .bool false, .bool false, .int .u64 0, .int .u64 0, .int .u64 0, .int .i64 0]
theorem sel3_at {w : World} {b : Nat} {t : TypeId} (h : Blk w b sel3C t) : PortsAt w b 0 3 sel3 := by
  have hx : ∀ (o : Nat) (c : RPort → Value), (∀ i, i < 3 → sel3C[i * 8 + o]? = some (c (sel3 i))) → ∀ i, i < 3 → w.cell? ⟨b, 0 + i * 8 + o, none⟩ = some (c (sel3 i)) := fun o c hc i hi => by
    rw [Nat.zero_add, h.cell]; exact hc i hi
  have h3 : ∀ {p : Nat → Prop}, p 0 → p 1 → p 2 → ∀ i, i < 3 → p i := fun h0 h1 h2 i hi => by
    have : i = 0 ∨ i = 1 ∨ i = 2 := by omega
    rcases this with rfl | rfl | rfl <;> assumption
  exact ⟨h.lt, hx 0 (fun p => .int .i64 p.id) (h3 rfl rfl rfl), hx 1 (fun p => .int .u64 p.cost) (h3 rfl rfl rfl), hx 2 (fun p => .bool p.up) (h3 rfl rfl rfl), hx 3 (fun p => .bool p.has) (h3 rfl rfl rfl), hx 4 (fun p => .int .u64 p.told.root) (h3 rfl rfl rfl), hx 5 (fun p => .int .u64 p.told.cost) (h3 rfl rfl rfl), hx 6 (fun p => .int .u64 p.told.bridge) (h3 rfl rfl rfl), hx 7 (fun p => .int .i64 p.told.port) (h3 rfl rfl rfl)⟩
theorem sel3_calls (w : World) (b : Nat) (h : Blk w b sel3C 61) :
    Calls Try.prog 26 #[.int .u64 5, .slice (some ⟨b, 0, none⟩) 3 3] w (SelPost w 3 5 sel3 ⟨⟨3, 10, 3, 7⟩, 1⟩) :=
  select_calls 5 sel3 _ 3 3 (by decide) sel3_ok w (fun _ => ⟨b, 0, rfl, sel3_at h⟩) _ sel3_way

theorem own37 (w : World) : Calls Try.prog 22 #[.int .u64 3, .int .i64 7] w fun e w' => e = .returned (.agg #[.int .u64 3, .int .u64 0, .int .u64 3, .int .i64 7]) ∧ Below w.heap.size w w' := own_calls 3 7 w
set_option maxHeartbeats 4000000 in
theorem selects_calls (w : World) : Calls Try.prog 25 #[] w fun e w' => e = .returned (.bool true) ∧ Below w.heap.size w w' := by
  have n4 : Hid (nameF 4 = ⟨#[98, 97, 99, 107, 117, 112]⟩) := rfl
  have n5 : Hid (nameF 5 = ⟨#[]⟩) := rfl
  go_enter Try.func25, Try.ntmps25
  go_upto_region 2 with (first
    | (go_at_call 22; (with_reducible refine (own37 _).mono ?_); rintro e w' ⟨rfl, hb1⟩)
    | (go_at_call 26; (with_reducible refine (sel3_calls _ _ (Blk.new _ _ _)).mono ?_); rintro e w2 ⟨br, bt, cr, ct, rfl, ho, g1, g2, hb2⟩))
  have hb3 := (hb1.alloc hb1.size (.cells sel3C 61)).trans (hb2.mono (by have := hb1.size; simp; omega))
  clear hb1 hb2
  have r0 : w2.cell? ⟨br, 0, none⟩ = some (.int .i64 2) := by rw [ho.r.cell]; exact ho.rv 0 (by decide)
  have r1 : w2.cell? ⟨br, 1, none⟩ = some (.int .i64 1) := by rw [ho.r.cell]; exact ho.rv 1 (by decide)
  have r2 : w2.cell? ⟨br, 2, none⟩ = some (.int .i64 0) := by rw [ho.r.cell]; exact ho.rv 2 (by decide)
  have t0 : w2.cell? ⟨bt, 0, none⟩ = some (.int .u64 3) := by rw [ho.t.cell]; exact ho.t0 0 (by decide)
  have t1 : w2.cell? ⟨bt, 1, none⟩ = some (.int .u64 10) := by rw [ho.t.cell]; exact ho.t1 0 (by decide)
  have t2 : w2.cell? ⟨bt, 2, none⟩ = some (.int .u64 5) := by rw [ho.t.cell]; exact ho.t2 0 (by decide)
  have t3 : w2.cell? ⟨bt, 3, none⟩ = some (.int .i64 1) := by rw [ho.t.cell]; exact ho.t3 0 (by decide)
  have lr := ho.r.lt
  have lt := ho.t.lt
  clear ho g1 g2
  go_wp2_with (go_at_call 29; first | ((with_reducible refine (name_calls _ _ n4.out _).mono ?_); rintro e w' ⟨rfl, rfl⟩) | ((with_reducible refine (name_calls _ _ n5.out _).mono ?_); rintro e w' ⟨rfl, rfl⟩))
  go_ret
  exact ⟨rfl, hb3.alloc hb3.size _⟩
end Go.Proofs.Ytjnbjcieepooaab
