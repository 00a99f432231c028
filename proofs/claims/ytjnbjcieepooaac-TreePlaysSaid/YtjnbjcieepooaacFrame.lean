/- What a call leaves as it was: all that was there when it began, but the blocks that may turn. -/
import Derived.Test.YtjnbjcieepooaacBase
import Derived.Deep.QuietTactic
import Derived.BigQuiet
namespace Go.Proofs.Ytjnbjcieepooaac
open Go.RowKit
set_option linter.unusedVariables false
set_option linter.unusedSimpArgs false

/-- What was there when the call began has not turned, but the blocks that may. -/
structure Fr (m : Nat → Prop) (w w' : World) : Prop where
  os : w'.os = w.os
  tape : w'.tape = w.tape
  output : w'.output = w.output
  size : w.heap.size ≤ w'.heap.size
  block : ∀ k, k < w.heap.size → ¬ m k → w'.heap[k]? = w.heap[k]?
theorem Fr.refl (m : Nat → Prop) (w : World) : Fr m w w := ⟨rfl, rfl, rfl, Nat.le_refl _, fun _ _ _ => rfl⟩
theorem Fr.trans {m : Nat → Prop} {a b c : World} (h : Fr m a b) (k : Fr m b c) : Fr m a c :=
  ⟨k.os.trans h.os, k.tape.trans h.tape, k.output.trans h.output, Nat.le_trans h.size k.size, fun i hi hm => (k.block i (Nat.lt_of_lt_of_le hi h.size) hm).trans (h.block i hi hm)⟩
theorem Fr.mono {m m' : Nat → Prop} {w w' : World} (h : Fr m w w') (hm : ∀ k, k < w.heap.size → m k → m' k) : Fr m' w w' := ⟨h.os, h.tape, h.output, h.size, fun k hk hn => h.block k hk fun hx => hn (hm k hk hx)⟩
theorem Fr.alloc {m : Nat → Prop} {a w : World} (h : Fr m a w) (o : Obj) : Fr m a (w.alloc o) :=
  ⟨h.os, h.tape, h.output, Nat.le_trans h.size (by simp), fun k hk hm => (Below.heap_alloc w o k (Nat.lt_of_lt_of_le hk h.size)).trans (h.block k hk hm)⟩
theorem Fr.set {m : Nat → Prop} {a w : World} (h : Fr m a w) {p : Addr} (hp : m p.block ∨ a.heap.size ≤ p.block) (v : Value) : Fr m a (w.setCell p v) :=
  ⟨h.os, h.tape, h.output, Nat.le_trans h.size (by simp [World.setCell]), fun k hk hm => by
    rw [Below.heap_setCell w p v k (fun e => by subst e; rcases hp with hp | hp; exact hm hp; omega)]
    exact h.block k hk hm⟩
theorem Fr.drewN {m : Nat → Prop} {a w : World} (h : Fr m a w) (n : Nat) : Fr m a (w.drewN n) := ⟨h.os, h.tape, h.output, h.size, h.block⟩
theorem Fr.drew {m : Nat → Prop} {a w : World} (h : Fr m a w) : Fr m a w.drew := ⟨h.os, h.tape, h.output, h.size, h.block⟩
theorem Fr.of_below {m : Nat → Prop} {w w' : World} (h : Below w.heap.size w w') : Fr m w w' := ⟨h.os, h.tape, h.output, h.size, fun k hk _ => h.block k hk⟩
theorem Fr.below {B : Nat} {w w' : World} (h : Fr (fun k => B ≤ k) w w') (hB : B ≤ w.heap.size) : Below B w w' := ⟨h.os, h.tape, h.output, h.size, fun k hk => h.block k (by omega) (by omega)⟩
theorem Below.fr {m : Nat → Prop} {B : Nat} {a w w' : World} (h : Below B a w) (k : Fr m w w') (hB : B ≤ w.heap.size) (hm : ∀ i, i < w.heap.size → m i → B ≤ i) : Below B a w' :=
  h.trans ((k.mono hm).below hB)
theorem Blk.fr {w w' : World} {m : Nat → Prop} {b : Nat} {cs : Array Value} {t : TypeId} (h : Blk w b cs t) (k : Fr m w w') (hm : ¬ m b) : Blk w' b cs t := (k.block b h.lt hm).trans h
/-- Some blocks known whole, and all that was there before. -/
structure Keep (w W : World) (l : List (Nat × Array Value × TypeId)) : Prop where
  blk : ∀ x ∈ l, Blk W x.1 x.2.1 x.2.2
  below : Below w.heap.size w W
theorem Keep.step {w W W' : World} {l : List (Nat × Array Value × TypeId)} (h : Keep w W l) (hb : Below W.heap.size W W') : Keep w W' l :=
  ⟨fun x hx => (h.blk x hx).below hb (h.blk x hx).lt, h.below.trans (hb.mono h.below.size)⟩
theorem Keep.add {w W : World} {l : List (Nat × Array Value × TypeId)} (h : Keep w W l) (c : Array Value) (t : TypeId) : Keep w (W.alloc (.cells c t)) ((W.heap.size, c, t) :: l) :=
  ⟨fun x hx => by
    rcases List.mem_cons.1 hx with rfl | hx
    · exact Blk.new W c t
    · exact (h.blk x hx).alloc _, h.below.alloc h.below.size _⟩
theorem Keep.alloc {w W : World} {l : List (Nat × Array Value × TypeId)} (h : Keep w W l) (o : Obj) : Keep w (W.alloc o) l :=
  ⟨fun x hx => (h.blk x hx).alloc _, h.below.alloc h.below.size _⟩
theorem Keep.drewN {w W : World} {l : List (Nat × Array Value × TypeId)} (h : Keep w W l) (n : Nat) : Keep w (W.drewN n) l :=
  ⟨fun x hx => (h.blk x hx).drewN n, h.below.trans ⟨rfl, rfl, rfl, Nat.le_refl _, fun _ _ => rfl⟩⟩
theorem Keep.step_drew {w W W' : World} {l : List (Nat × Array Value × TypeId)} (h : Keep w W l) (hb : Below W.drew.heap.size W.drew W') : Keep w W' l :=
  (h.drewN 1).step hb
theorem Keep.start (w : World) : Keep w w [] := ⟨fun x hx => by simp at hx, Below.refl _ _⟩
theorem Keep.nth {w W : World} {l : List (Nat × Array Value × TypeId)} (h : Keep w W l) (i : Nat) {b : Nat} {c : Array Value} {t : TypeId} (hi : l[i]? = some (b, c, t)) : Blk W b c t :=
  h.blk (b, c, t) (List.mem_of_getElem? hi)
theorem Keep.fr {w W W' : World} {l : List (Nat × Array Value × TypeId)} {m : Nat → Prop} (h : Keep w W l) (hf : Fr m W W') (hl : ∀ x ∈ l, ¬ m x.1) (hm : ∀ i, m i → w.heap.size ≤ i) : Keep w W' l :=
  ⟨fun x hx => (h.blk x hx).fr hf (hl x hx), Below.fr h.below hf h.below.size fun i _ hi => hm i hi⟩
/-- A world in which some blocks are as they are known. -/
structure KW (w : World) (l : List (Nat × Array Value × TypeId)) where
  val : World
  keep : Keep w val l
/-- A region that draws its order, that reads the blocks that are known, and whose callees leave all that was there: one walk, in the order of the text. -/
theorem wp_region_keep {P : Program} {id : Nat} {Q : Exit → Act → World → Prop} {a : Act} {W : World} {ops : List Oper} {w : World} {l : List (Nat × Array Value × TypeId)} (hm : P.follows .mixedOrders = true) (hB : Region.lexB .any ops.toArray = true) (hK : Keep w W l)
    (h : wpQuiet P ops.toArray (fun w' => ∃ n : KW w l, w' = n.val) (fun a' => ∀ w', (∃ n : KW w l, w' = n.val) → Q .normal a' w') ops a) : (Code.region id ops.toArray true).wp P Q a W :=
  wp_region_quiet (C := fun w' => ∃ n : KW w l, w' = n.val) hm hB ⟨⟨_, hK.drewN 1⟩, rfl⟩ (by simpa using h)
theorem KW.call {P : Program} {f : FuncId} {args : Array Value} {w : World} {l : List (Nat × Array Value × TypeId)} {n : KW w l} {v : Value}
    (h : Calls P f args n.val fun e w' => e = .returned v ∧ Below n.val.heap.size n.val w') : Calls P f args n.val fun e w'' => e = .returned v ∧ ∃ m : KW w l, w'' = m.val :=
  h.mono fun _ w' ⟨he, hb⟩ => ⟨he, ⟨w', n.keep.step hb⟩, rfl⟩
theorem KW.same {P : Program} {f : FuncId} {args : Array Value} {w : World} {l : List (Nat × Array Value × TypeId)} {n : KW w l} {v : Value}
    (h : Calls P f args n.val fun e w' => e = .returned v ∧ n.val = w') : Calls P f args n.val fun e w'' => e = .returned v ∧ ∃ m : KW w l, w'' = m.val :=
  h.mono fun _ w' ⟨he, hb⟩ => ⟨he, n, hb.symm⟩
end Go.Proofs.Ytjnbjcieepooaac
