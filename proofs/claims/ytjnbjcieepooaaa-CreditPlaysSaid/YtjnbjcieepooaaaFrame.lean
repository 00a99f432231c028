/- What a call leaves as it was: all that was there when it began, but the blocks that may turn. -/
import Derived.Test.YtjnbjcieepooaaaBase
namespace Go.Proofs.Ytjnbjcieepooaaa
open Go.RowKit

/-- What was there when the call began has not turned, but the blocks that may. -/
structure Fr (m : Nat → Prop) (w w' : World) : Prop where
  os : w'.os = w.os
  tape : w'.tape = w.tape
  output : w'.output = w.output
  size : w.heap.size ≤ w'.heap.size
  block : ∀ k, k < w.heap.size → ¬ m k → w'.heap[k]? = w.heap[k]?
theorem Fr.refl (m : Nat → Prop) (w : World) : Fr m w w := ⟨rfl, rfl, rfl, Nat.le_refl _, fun _ _ _ => rfl⟩
theorem Fr.trans {m : Nat → Prop} {a b c : World} (h : Fr m a b) (k : Fr m b c) : Fr m a c :=
  ⟨k.os.trans h.os, k.tape.trans h.tape, k.output.trans h.output, Nat.le_trans h.size k.size, fun i hi hm => (k.block i (Nat.lt_of_lt_of_le hi h.size) hm).trans (h.block i hi hm)⟩
theorem Fr.mono {m m' : Nat → Prop} {w w' : World} (h : Fr m w w') (hm : ∀ k, k < w.heap.size → m k → m' k) : Fr m' w w' := ⟨h.os, h.tape, h.output, h.size, fun k hk hn => h.block k hk fun hx => hn (hm k hk hx)⟩
theorem Fr.alloc {m : Nat → Prop} {a w : World} (h : Fr m a w) (o : Obj) : Fr m a (w.alloc o) :=
  ⟨h.os, h.tape, h.output, Nat.le_trans h.size (by simp), fun k hk hm => (Below.heap_alloc w o k (Nat.lt_of_lt_of_le hk h.size)).trans (h.block k hk hm)⟩
theorem Fr.set {m : Nat → Prop} {a w : World} (h : Fr m a w) {p : Addr} (hp : m p.block ∨ a.heap.size ≤ p.block) (v : Value) : Fr m a (w.setCell p v) :=
  ⟨h.os, h.tape, h.output, Nat.le_trans h.size (by simp [World.setCell]), fun k hk hm => by
    rw [Below.heap_setCell w p v k (fun e => by subst e; rcases hp with hp | hp; exact hm hp; omega)]
    exact h.block k hk hm⟩
theorem Fr.drewN {m : Nat → Prop} {a w : World} (h : Fr m a w) (n : Nat) : Fr m a (w.drewN n) := ⟨h.os, h.tape, h.output, h.size, h.block⟩
theorem Fr.drew {m : Nat → Prop} {a w : World} (h : Fr m a w) : Fr m a w.drew := ⟨h.os, h.tape, h.output, h.size, h.block⟩
theorem Fr.of_below {m : Nat → Prop} {w w' : World} (h : Below w.heap.size w w') : Fr m w w' := ⟨h.os, h.tape, h.output, h.size, fun k hk _ => h.block k hk⟩
theorem Fr.below {B : Nat} {w w' : World} (h : Fr (fun k => B ≤ k) w w') (hB : B ≤ w.heap.size) : Below B w w' := ⟨h.os, h.tape, h.output, h.size, fun k hk => h.block k (by omega) (by omega)⟩
theorem Below.fr {m : Nat → Prop} {B : Nat} {a w w' : World} (h : Below B a w) (k : Fr m w w') (hB : B ≤ w.heap.size) (hm : ∀ i, i < w.heap.size → m i → B ≤ i) : Below B a w' :=
  h.trans ((k.mono hm).below hB)
theorem Blk.fr {w w' : World} {m : Nat → Prop} {b : Nat} {cs : Array Value} {t : TypeId} (h : Blk w b cs t) (k : Fr m w w') (hm : ¬ m b) : Blk w' b cs t := (k.block b h.lt hm).trans h
end Go.Proofs.Ytjnbjcieepooaaa
