/- The functions of package role, by their contracts. -/
import Derived.Test.YtjnbjcieepooaacVectorPlain
import Derived.Test.YtjnbjcieepooaacFrame
namespace Go.Proofs.Ytjnbjcieepooaac
open Go.RowKit
set_option linter.unusedVariables false
set_option linter.unusedSimpArgs false

/-- A port as package role has it. -/
structure RPort where
  id : Int
  cost : Int
  up : Bool
  has : Bool
  told : Vec
abbrev RPort.cells (p : RPort) : Array Value := #[.int .i64 p.id, .int .u64 p.cost, .bool p.up, .bool p.has, .int .u64 p.told.root, .int .u64 p.told.cost, .int .u64 p.told.bridge, .int .i64 p.told.port]
structure RPort.ok (p : RPort) : Prop where
  c0 : 0 ≤ p.cost
  c1 : p.cost ≤ 18446744073709551615
  v : p.told.ok

def ofF (p : RPort) (root : Bool) (t : Vec) : Int :=
  if p.up = false then 0 else if root = true then 1 else if p.has = false ∨ betB p.told t = false then 2 else if p.told.bridge = t.bridge then 4 else 3

theorem of_calls (p : RPort) (root : Bool) (t : Vec) (x : Int) (hx : ofF p root t = x) (w : World) :
    Calls Try.prog 59 #[.agg p.cells, .bool root, t.val] w fun e w' => e = .returned (.int .i64 x) ∧ Below w.heap.size w w' := by
  subst hx
  obtain ⟨B, hB⟩ : ∃ B, betB p.told t = B := ⟨_, rfl⟩
  have HB := Lib.hid hB
  unfold ofF
  rw [hB]
  clear hB
  obtain ⟨id, cost, up, has, ⟨pr, pc, pb, pp⟩⟩ := p
  obtain ⟨tr, tc, tb, tp⟩ := t
  simp only [RPort.cells]
  have b2 : Hid (∀ (a b : Obj), Below w.heap.size w ((w.alloc a).alloc b)) := fun a b => ((Below.refl _ _).alloc (Nat.le_refl _) _).alloc (by simp) _
  cases up with
  | false =>
    rw [if_pos rfl]
    go_enter Try.func59, Try.ntmps59
    go_wp2
    go_ret
    exact ⟨rfl, b2.out _ _⟩
  | true =>
    rw [if_neg (by simp)]
    cases root with
    | true =>
      rw [if_pos rfl]
      go_enter Try.func59, Try.ntmps59
      go_wp2
      go_ret
      exact ⟨rfl, b2.out _ _⟩
    | false =>
      rw [if_neg (by simp)]
      cases has with
      | false =>
        rw [if_pos (.inl rfl)]
        go_enter Try.func59, Try.ntmps59
        go_wp2
        go_ret
        exact ⟨rfl, b2.out _ _⟩
      | true =>
        cases B with
        | false =>
          rw [if_pos (.inr rfl)]
          go_enter Try.func59, Try.ntmps59
          go_wp2_with (go_at_call 48; (with_reducible refine (better_calls _ _ _ HB.out _).mono ?_); rintro e w' ⟨rfl, hb1⟩; obtain ⟨hbc, hbf⟩ := bcell hb1)
          go_ret
          exact ⟨rfl, (b2.out _ _).trans (Below.mono (by assumption) (by simp; omega))⟩
        | true =>
          rw [if_neg (by simp)]
          by_cases h : pb = tb
          · subst h
            rw [if_pos rfl]
            go_enter Try.func59, Try.ntmps59
            go_wp2_with (go_at_call 48; (with_reducible refine (better_calls _ _ _ HB.out _).mono ?_); rintro e w' ⟨rfl, hb1⟩; obtain ⟨hbc, hbf⟩ := bcell hb1)
            go_ret
            exact ⟨rfl, (b2.out _ _).trans (Below.mono (by assumption) (by simp; omega))⟩
          · rw [if_neg h]
            have h' : (pb == tb) = false := by simpa using h
            go_enter Try.func59, Try.ntmps59
            go_wp2_with (go_at_call 48; (with_reducible refine (better_calls _ _ _ HB.out _).mono ?_); rintro e w' ⟨rfl, hb1⟩; obtain ⟨hbc, hbf⟩ := bcell hb1)
            go_ret
            exact ⟨rfl, (b2.out _ _).trans (Below.mono (by assumption) (by simp; omega))⟩
/-- A way to the root: the vector behind it, and the port. -/
abbrev pathCells (v : Vec) (p : Int) : Array Value := #[.int .u64 v.root, .int .u64 v.cost, .int .u64 v.bridge, .int .i64 v.port, .int .i64 p]
def betterF (ids : Nat → Int) (a : Vec) (i : Nat) (b : Vec) (j : Nat) : Bool := if cmpV a b = 0 then decide (ids i < ids j) else decide (cmpV a b < 0)

set_option maxHeartbeats 1000000 in
theorem pathBetter_calls (b off len cap : Nat) (ids : Nat → Int) (v u : Vec) (i j : Nat) (hi : i < len) (hj : j < len) (hlen : len ≤ 9223372036854775807) (w : World) (hb : b < w.heap.size) (ci : w.cell? ⟨b, off + i * 8, none⟩ = some (.int .i64 (ids i))) (cj : w.cell? ⟨b, off + j * 8, none⟩ = some (.int .i64 (ids j))) (x : Bool) (hx : betterF ids v i u j = x) :
    Calls Try.prog 58 #[.slice (some ⟨b, off, none⟩) len cap, .agg (pathCells v (i : Int)), .agg (pathCells u (j : Int))] w fun e w' => e = .returned (.bool x) ∧ Below w.heap.size w w' := by
  obtain ⟨c, hc⟩ : ∃ c, cmpV v u = c := ⟨_, rfl⟩
  have HC := Lib.hid hc
  unfold betterF at hx
  rw [hc] at hx
  have HX := Lib.hid hx
  clear hc hx
  obtain ⟨vr, vc, vb, vp⟩ := v
  obtain ⟨ur, uc, ub, up⟩ := u
  simp only [pathCells]
  have hil : (i : Int) < (len : Int) := by omega
  have hjl : (j : Int) < (len : Int) := by omega
  go_enter Try.func58, Try.ntmps58
  go_upto_region 1 with fail
  have hK : Keep w ((w.alloc (.cells #[.int .u64 vr, .int .u64 vc, .int .u64 vb, .int .i64 vp, .int .i64 (i : Int)] 97)).alloc (.cells #[.int .u64 ur, .int .u64 uc, .int .u64 ub, .int .i64 up, .int .i64 (j : Int)] 97)) [(w.heap.size + 1, #[.int .u64 ur, .int .u64 uc, .int .u64 ub, .int .i64 up, .int .i64 (j : Int)], 97), (w.heap.size, #[.int .u64 vr, .int .u64 vc, .int .u64 vb, .int .i64 vp, .int .i64 (i : Int)], 97)] := by
    have h := ((Keep.start w).add #[.int .u64 vr, .int .u64 vc, .int .u64 vb, .int .i64 vp, .int .i64 (i : Int)] 97).add #[.int .u64 ur, .int .u64 uc, .int .u64 ub, .int .i64 up, .int .i64 (j : Int)] 97
    simpa using h
  generalize World.alloc (World.alloc w _) _ = W at hK ⊢
  have q0 := (hK.nth 1 rfl).cell
  have q1 := (hK.nth 0 rfl).cell
  go_upto_region 2 with (go_at_call 55; (with_reducible refine (compare_calls _ _ _ HC.out _).mono ?_); rintro e w' ⟨rfl, hb1⟩; have hK' := hK.step hb1; clear hK hb1 q0 q1; rename Keep _ _ _ => hK; have q0 := (hK.nth 1 rfl).cell; have q1 := (hK.nth 0 rfl).cell)
  rename World => W1
  by_cases h0 : c = 0
  · subst h0
    have ci' : W1.cell? ⟨b, off + i * 8, none⟩ = some (.int .i64 (ids i)) := by rw [hK.below.cell hb]; exact ci
    have cj' : W1.cell? ⟨b, off + j * 8, none⟩ = some (.int .i64 (ids j)) := by rw [hK.below.cell hb]; exact cj
    clear ci cj
    go_upto_region 4 with fail
    go_quiet (fail)
    go_wp2
    go_ret
    exact ⟨ret_bool' (by rw [← HX.out]; simp), (hK.drewN _).below⟩
  · have h0' : (c != 0) = true := by simpa using h0
    go_wp2
    go_ret
    exact ⟨ret_bool' (by rw [← HX.out, if_neg h0]), hK.below⟩
end Go.Proofs.Ytjnbjcieepooaac
