/- Small lemmas for the walks: blocks known whole; a struct or an array read whole out of a block, at whatever guard; a piece of an array value; results. -/
import Derived.Test.YtjnbjcieepooaacFlat
import Derived.WalkKit
import Derived.Lib.Hide
import Derived.Deep.LoopGhost
import Derived.Deep.DeepCutAuto
import Derived.WalkLawsBesides
namespace Go.Proofs.Ytjnbjcieepooaac
open Go.RowKit
set_option linter.unusedVariables false
set_option linter.unusedSimpArgs false

theorem ret_two' {k k' : IntKind} {a b c d : Int} (h : a = b) (h' : c = d) : Ending.returned (.tuple #[.int k a, .int k' c]) = .returned (.tuple #[.int k b, .int k' d]) := by rw [h, h']
theorem ret_bool' {a b : Bool} (h : a = b) : Ending.returned (.bool a) = .returned (.bool b) := by rw [h]
theorem ret_int' {k : IntKind} {a b : Int} (h : a = b) : Ending.returned (.int k a) = .returned (.int k b) := by rw [h]

/-- A block known whole. -/
def Blk (w : World) (b : Nat) (cs : Array Value) (t : TypeId) : Prop := w.heap[b]? = some (.cells cs t (0, 0))
theorem Blk.new (w : World) (cs : Array Value) (t : TypeId) : Blk (w.alloc (.cells cs t)) w.heap.size cs t := by
  unfold Blk; show (w.heap.push _)[w.heap.size]? = _; simp
theorem Blk.cell {w : World} {b : Nat} {cs : Array Value} {t : TypeId} (h : Blk w b cs t) (o : Nat) : w.cell? ⟨b, o, none⟩ = cs[o]? := by
  unfold World.cell?; rw [h]; rfl
theorem Blk.free {w : World} {b : Nat} {cs : Array Value} {t : TypeId} (h : Blk w b cs t) (o : Nat) : w.frozen? ⟨b, o, none⟩ = false := by
  unfold World.frozen?; rw [h]; simp
theorem Blk.lt {w : World} {b : Nat} {cs : Array Value} {t : TypeId} (h : Blk w b cs t) : b < w.heap.size := (Array.getElem?_eq_some_iff.1 h).1
theorem Blk.below {w w' : World} {B b : Nat} {cs : Array Value} {t : TypeId} (h : Blk w b cs t) (hb : Below B w w') (hB : b < B) : Blk w' b cs t := (hb.block b hB).trans h
theorem Blk.alloc {w : World} {b : Nat} {cs : Array Value} {t : TypeId} (h : Blk w b cs t) (o : Obj) : Blk (w.alloc o) b cs t := (Below.heap_alloc w o b h.lt).trans h
theorem Blk.set {w : World} {b : Nat} {cs : Array Value} {t : TypeId} (h : Blk w b cs t) (o : Nat) (v : Value) : Blk (w.setCell ⟨b, o, none⟩ v) b (cs.setIfInBounds o v) t := by
  unfold Blk at *
  simp only [World.setCell, Array.getElem?_modify]
  rw [if_true, h]; rfl
theorem Blk.set_other {w : World} {b : Nat} {cs : Array Value} {t : TypeId} (h : Blk w b cs t) {a : Addr} (hne : b ≠ a.block) (v : Value) : Blk (w.setCell a v) b cs t := (Below.heap_setCell w a v b hne).trans h
theorem Blk.drewN {w : World} {b : Nat} {cs : Array Value} {t : TypeId} (h : Blk w b cs t) (n : Nat) : Blk (w.drewN n) b cs t := h

theorem wpList_load_all {P : Program} {ops : Array Oper} {rest : List Oper} {o : Oper} {a : Act} {w : World} {Q : Exit → Act → World → Prop} (hw : Region.wanted o (yielded ops a.tmps) = true) (ty : TypeId) (x : Operand) (ho : o.op = .load ty x)
    (g : Nat) (hx : a.eval x = .pointer (some ⟨g, 0, none⟩)) (t : TypeId) (cs : Array Value) (d : TypeDesc) (hg : Blk w g cs t)
    (hu : P.underlying ty = some d) (hd : (match d with | .struct _ | .array _ _ => true | _ => false) = true) (hi : (P.info? ty).map (·.size) = some cs.size)
    (h : wpList P ops Q rest (a.put o.dst (.agg cs)) w) : wpList P ops Q (o :: rest) a w :=
  BigFrame.wpList_want hw fun _ hK => wp_load_row ty x ho g hx t cs (0, 0) d hg hu hd hi (hK _ _ h)

/-- A struct that is an element of an array value. -/
theorem index_part {P : Program} {t e : TypeId} {n s : Nat} {cs : Array Value} (ht : P.underlying t = some (.array n e)) (ha : ∀ w, (isAgg e).run P w = .ok true w) (hs : ∀ w, (sizeOf e).run P w = .ok s w)
    (k : Nat) (hk : k < n) (ki : IntKind) (w : World) : (Instr.index t (.agg cs) (.int ki (k : Int))).run P w = .ok (.agg (cs.extract (k * s) (k * s + s))) w := by
  have e1 : (part e cs ((k : Int).toNat * s)).run P w = .ok (.agg (cs.extract (k * s) (k * s + s))) w := by
    unfold part
    simp only [Sem.run_bind, ha, Result.andThen_ok, if_true, hs, Sem.run_pure]
    rw [show (k : Int).toNat = k by omega]
  unfold Instr.index
  simp only [asIntOf, Sem.run_bind, Sem.run_pure, Result.andThen_ok, run_underlying ht]
  rw [if_pos ⟨by omega, by omega⟩]
  simp only [Sem.run_bind, hs, Result.andThen_ok]
  exact e1
/-- A number that is an element of an array value. -/
theorem index_one {P : Program} {t e : TypeId} {n : Nat} {cs : Array Value} {v : Value} (ht : P.underlying t = some (.array n e)) (ha : ∀ w, (isAgg e).run P w = .ok false w) (hs : ∀ w, (sizeOf e).run P w = .ok 1 w)
    (k : Nat) (hk : k < n) (hv : cs[k]? = some v) (ki : IntKind) (w : World) : (Instr.index t (.agg cs) (.int ki (k : Int))).run P w = .ok v w := by
  have e1 : (part e cs ((k : Int).toNat * 1)).run P w = .ok v w := by
    unfold part
    simp only [Sem.run_bind, ha, Result.andThen_ok, Bool.false_eq_true, if_false]
    rw [show (k : Int).toNat * 1 = k by omega, hv]
    rfl
  unfold Instr.index
  simp only [asIntOf, Sem.run_bind, Sem.run_pure, Result.andThen_ok, run_underlying ht]
  rw [if_pos ⟨by omega, by omega⟩]
  simp only [Sem.run_bind, hs, Result.andThen_ok]
  exact e1

/-- Of every number below n an x: so a function. -/
theorem choose_fn {α : Type} (n : Nat) (p : Nat → α → Prop) (d : α) (h : ∀ i, i < n → ∃ x, p i x) : ∃ f : Nat → α, ∀ i, i < n → p i (f i) := by
  induction n with
  | zero => exact ⟨fun _ => d, fun i hi => absurd hi (by omega)⟩
  | succ n ih =>
    obtain ⟨f, hf⟩ := ih fun i hi => h i (by omega)
    obtain ⟨x, hx⟩ := h n (by omega)
    refine ⟨fun i => if i = n then x else f i, fun i hi => ?_⟩
    by_cases hin : i = n
    · subst hin; simpa using hx
    · simpa [hin] using hf i (by omega)
end Go.Proofs.Ytjnbjcieepooaac
