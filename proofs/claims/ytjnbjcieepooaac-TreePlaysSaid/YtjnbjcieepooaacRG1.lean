/- The reference's tree in memory; active, forward, notice, send, tell. Conditions: none. -/
import Derived.Test.YtjnbjcieepooaacTW
import Derived.Test.YtjnbjcieepooaacTInv
import Derived.Test.YtjnbjcieepooaacTW1
import Derived.Test.YtjnbjcieepooaacTW4
namespace Go.Proofs.Ytjnbjcieepooaac
open Go.RowKit
set_option linter.unusedVariables false
set_option linter.unusedSimpArgs false

/-- Where a reference's tree lies. -/
structure RB where
  tb : Nat
  b : Nat → Nat
  a : Nat → Option Addr
  c : Nat → Nat
  ov : Value
/-- The fields that are lists. -/
def inF (k : Nat) : Prop := 1 ≤ k ∧ k ≤ 14 ∨ k = 17
def tyF (k : Nat) : TypeId := if k = 2 then 25 else if k = 8 ∨ k = 17 then 27 else if 3 ≤ k ∧ k ≤ 7 then 4 else 3
def szF (k : Nat) : Nat := if k = 8 ∨ k = 17 then 4 else 1
/-- What a port's variable is. -/
def pcell (q : TP) : Nat → Array Value
  | 1 => #[.int .i64 q.p.id]
  | 2 => #[.int .u64 q.p.cost]
  | 3 => #[.bool q.p.up]
  | 4 => #[.bool q.p.has]
  | 5 => #[.bool q.edge]
  | 6 => #[.bool q.agreed]
  | 8 => q.p.told.cells
  | 9 => #[.int .i64 q.role]
  | 10 => #[.int .i64 q.state]
  | 11 => #[.int .i64 q.age]
  | 12 => #[.int .i64 q.left]
  | 13 => #[.int .i64 q.wait]
  | 14 => #[.int .i64 q.change]
  | _ => #[]
def cont (T : Tr) (k i : Nat) : Array Value := if k = 7 then #[.bool (T.flush.getD i false)] else if k = 17 then (T.tell_ i).cells else pcell (T.at_ i) k
def refC (B : RB) (T : Tr) : Array Value := #[.int .u64 T.id, .slice (B.a 1) T.n (B.c 1), .slice (B.a 2) T.n (B.c 2), .slice (B.a 3) T.n (B.c 3), .slice (B.a 4) T.n (B.c 4), .slice (B.a 5) T.n (B.c 5), .slice (B.a 6) T.n (B.c 6), .slice (B.a 7) T.n (B.c 7), .slice (B.a 8) T.n (B.c 8), .slice (B.a 9) T.n (B.c 9), .slice (B.a 10) T.n (B.c 10), .slice (B.a 11) T.n (B.c 11), .slice (B.a 12) T.n (B.c 12), .slice (B.a 13) T.n (B.c 13), .slice (B.a 14) T.n (B.c 14), .int .u64 T.vec.root, .int .u64 T.vec.cost, .int .u64 T.vec.bridge, .int .i64 T.vec.port, .int .i64 T.rp, .slice (B.a 17) T.n (B.c 17), .int .i64 T.hello, B.ov]
/-- A reference's tree in memory. -/
structure RefW (w : World) (B : RB) (T : Tr) : Prop where
  t : Blk w B.tb (refC B T) 81
  a : 0 < T.n → ∀ k, inF k → B.a k = some ⟨B.b k, 0, none⟩
  r : 0 < T.n → ∀ k, inF k → RowsB w (B.b k) (tyF k) (szF k) T.n (cont T k)
  ne : 0 < T.n → ∀ j k, inF j → inF k → j ≠ k → B.b j ≠ B.b k
  nt : 0 < T.n → ∀ k, inF k → B.tb ≠ B.b k
  o : w.ownsRow 0 84 17 B.ov T.outs.length (outsL T.outs)
/-- Its own blocks. -/
def ROwn (B : RB) (n : Nat) (k : Nat) : Prop := k = B.tb ∨ (0 < n ∧ ∃ f, inF f ∧ k = B.b f) ∨ InRow B.ov k
theorem RefW.own_lt {w : World} {B : RB} {T : Tr} (h : RefW w B T) {k : Nat} (hk : ROwn B T.n k) : k < w.heap.size := by
  rcases hk with rfl | ⟨hn, f, hf, rfl⟩ | hk
  · exact h.t.lt
  · exact (h.r hn f hf).lt
  · exact (own_ge h.o hk).2
theorem tyF_ne_tree (k : Nat) : tyF k ≠ 81 := by unfold tyF; split; decide; split; decide; split <;> decide
theorem tyF_ne_out (k : Nat) : 84 ≠ tyF k := by unfold tyF; split; decide; split; decide; split <;> decide
theorem RefW.ov_tb {w : World} {B : RB} {T : Tr} (h : RefW w B T) : ¬ InRow B.ov B.tb := own_ne_blk h.o h.t (by decide)
theorem RefW.ov_b {w : World} {B : RB} {T : Tr} (h : RefW w B T) (hn : 0 < T.n) {k : Nat} (hk : inF k) : ¬ InRow B.ov (B.b k) := own_ne_rows h.o (h.r hn k hk) (tyF_ne_out k)
theorem RefW.fr {w w' : World} {B : RB} {T : Tr} {m : Nat → Prop} (h : RefW w B T) (hf : Fr m w w') (hm : ∀ k, ROwn B T.n k → ¬ m k) : RefW w' B T :=
  ⟨h.t.fr hf (hm _ (.inl rfl)), h.a, fun hn k hk => (h.r hn k hk).fr hf (hm _ (.inr (.inl ⟨hn, k, hk, rfl⟩))), h.ne, h.nt, own_fr h.o hf fun k hk => hm k (.inr (.inr hk))⟩
theorem RefW.below {w w' : World} {B : RB} {T : Tr} (h : RefW w B T) (hb : Below w.heap.size w w') : RefW w' B T := h.fr (Fr.of_below (m := fun _ => False) hb) fun _ _ x => x
/-- From one world to another one, in which nothing but it and new memory has turned. -/
structure RStep (w : World) (B : RB) (n : Nat) (w' : World) (B' : RB) : Prop where
  fr : Fr (ROwn B n) w w'
  tb : B'.tb = B.tb
  sub : ∀ k, ROwn B' n k → ROwn B n k ∨ w.heap.size ≤ k
theorem RStep.refl (w : World) (B : RB) (n : Nat) : RStep w B n w B := ⟨Fr.refl _ _, rfl, fun _ h => .inl h⟩
theorem RStep.trans {a b c : World} {A B C : RB} {n : Nat} (h : RStep a A n b B) (k : RStep b B n c C) : RStep a A n c C :=
  ⟨⟨k.fr.os.trans h.fr.os, k.fr.tape.trans h.fr.tape, k.fr.output.trans h.fr.output, Nat.le_trans h.fr.size k.fr.size, fun i hi hn =>
      (k.fr.block i (Nat.lt_of_lt_of_le hi h.fr.size) fun hB => by rcases h.sub i hB with h1 | h1; exact hn h1; omega).trans (h.fr.block i hi hn)⟩,
    k.tb.trans h.tb, fun i hi => by
      rcases k.sub i hi with h1 | h1
      · exact h.sub i h1
      · exact .inr (Nat.le_trans h.fr.size h1)⟩
theorem RStep.below {w w' : World} (B : RB) (n : Nat) (h : Below w.heap.size w w') : RStep w B n w' B := ⟨Fr.of_below h, rfl, fun _ h => .inl h⟩
/-- What a method of it leaves. -/
def RPost (w : World) (B : RB) (n : Nat) (U : Tr) (e : Ending) (w' : World) : Prop := ∃ B', e = .returned (.tuple #[]) ∧ RefW w' B' U ∧ RStep w B n w' B'
theorem RPost.after {w w1 : World} {B B1 : RB} {n : Nat} {U : Tr} {e : Ending} {w' : World} (h : RStep w B n w1 B1) (p : RPost w1 B1 n U e w') : RPost w B n U e w' := by
  obtain ⟨B', e, a, b⟩ := p
  exact ⟨B', e, a, h.trans b⟩
/-- A store into a list. -/
theorem RefW.set {w : World} {B : RB} {T U : Tr} (h : RefW w B T) {f i : Nat} (hf : inF f) (hi : i < T.n) {o : Nat} (ho : o < szF f) (v : Value) (hn : U.n = T.n) (ht : refC B U = refC B T) (hou : U.outs = T.outs)
    (hc : ∀ g j, cont U g j = if g = f ∧ j = i then (cont T f i).setIfInBounds o v else cont T g j) : RefW (w.setCell ⟨B.b f, i * szF f + o, none⟩ v) B U := by
  have h0 : 0 < T.n := by omega
  have hfr : Fr (fun k => k = B.b f) w (w.setCell ⟨B.b f, i * szF f + o, none⟩ v) := (Fr.refl (fun k => k = B.b f) w).set (p := ⟨B.b f, i * szF f + o, none⟩) (.inl rfl) v
  refine ⟨?_, fun _ => h.a h0, fun _ k hk => ?_, fun _ => h.ne h0, fun _ => h.nt h0, ?_⟩
  · rw [ht]; exact h.t.fr hfr (h.nt h0 f hf)
  · rw [hn]
    by_cases e : k = f
    · subst e
      refine ((h.r h0 k hk).set hi ho v).congr fun j hj => ?_
      rw [hc k j]
      by_cases e2 : j = i
      · subst e2; rw [updF_same, if_pos ⟨rfl, rfl⟩]
      · rw [updF_ne _ _ e2, if_neg (fun g => e2 g.2)]
    · refine ((h.r h0 k hk).fr hfr (h.ne h0 k f hk hf e)).congr fun j hj => ?_
      rw [hc k j, if_neg (fun g => e g.1)]
  · rw [hou]; exact own_fr h.o hfr fun k hk e => by subst e; exact h.ov_b h0 hf hk
theorem RStep.set {w w' : World} {B B' : RB} {n : Nat} (h : RStep w B n w' B') (hn : 0 < n) {f : Nat} (hf : inF f) (o : Nat) (v : Value) : RStep w B n (w'.setCell ⟨B'.b f, o, none⟩ v) B' :=
  h.trans ⟨(Fr.refl _ w').set (.inl (.inr (.inl ⟨hn, f, hf, rfl⟩))) _, rfl, fun _ h => .inl h⟩
theorem RStep.alloc {w w' : World} {B B' : RB} {n : Nat} (h : RStep w B n w' B') (o : Obj) : RStep w B n (w'.alloc o) B' := h.trans (RStep.below _ _ ((Below.refl _ _).alloc (Nat.le_refl _) _))
theorem cont_upd (T : Tr) (i : Nat) (x : TP) (hi : i < T.n) (g j : Nat) : cont (T.upd i x) g j = if g = 7 ∨ g = 17 then cont T g j else pcell (if j = i then x else T.at_ j) g := by
  unfold cont
  by_cases h7 : g = 7
  · rw [if_pos h7, if_pos (.inl h7), if_pos h7]; rfl
  · rw [if_neg h7, if_neg h7]
    by_cases h17 : g = 17
    · rw [if_pos h17, if_pos (.inr h17), if_pos h17]; rfl
    · rw [if_neg h17, if_neg h17, if_neg (fun h => h.elim h7 h17)]
      by_cases e : j = i
      · subst e; rw [upd_at T x hi, if_pos rfl]
      · rw [upd_ne T x (fun h => e h.symm), if_neg e]
theorem refC_upd (B : RB) (T : Tr) (i : Nat) (x : TP) : refC B (T.upd i x) = refC B T := by
  unfold refC
  rw [upd_n]
  rfl
/-- A store into a port's variable that is one cell. -/
theorem RefW.set1 {w : World} {B : RB} {T : Tr} (h : RefW w B T) {f i : Nat} (hf : inF f) (hs : szF f = 1) (h7 : f ≠ 7) (h17 : f ≠ 17) (hi : i < T.n) (x : TP) (v : Value) (hx : ∀ g, pcell x g = if g = f then #[v] else pcell (T.at_ i) g) (h1 : (pcell (T.at_ i) f).size = 1) : RefW (w.setCell ⟨B.b f, i, none⟩ v) B (T.upd i x) := by
  have key := h.set (U := T.upd i x) hf hi (o := 0) (by rw [hs]; decide) v (upd_n _ _ _) (refC_upd B T i x) rfl fun g j => by
    rw [cont_upd T i x hi]
    by_cases e : g = f ∧ j = i
    · obtain ⟨rfl, rfl⟩ := e
      rw [if_neg (show ¬ (g = 7 ∨ g = 17) from fun k => k.elim h7 h17), if_pos (show j = j from rfl), hx, if_pos (show g = g from rfl), if_pos (show g = g ∧ j = j from ⟨rfl, rfl⟩)]
      unfold cont
      rw [if_neg h7, if_neg h17]
      have : ∃ y, pcell (T.at_ j) g = #[y] := by
        generalize pcell (T.at_ j) g = c at h1
        obtain ⟨l⟩ := c
        match l, h1 with
        | [y], _ => exact ⟨y, rfl⟩
      obtain ⟨y, hy⟩ := this
      rw [hy]
      rfl
    · rw [if_neg e]
      unfold cont
      by_cases h7' : g = 7
      · rw [if_pos (.inl h7'), if_pos h7']
      · by_cases h17' : g = 17
        · rw [if_pos (.inr h17'), if_neg h7', if_pos h17']
        · rw [if_neg (fun h => h.elim h7' h17'), if_neg h7', if_neg h17']
          by_cases ej : j = i
          · subst ej; rw [if_pos rfl, hx, if_neg (fun h => e ⟨h, rfl⟩)]
          · rw [if_neg ej]
  rw [hs, Nat.mul_one, Nat.add_zero] at key
  exact key
theorem pc_up (q : TP) (y : Bool) (g : Nat) : pcell { q with p := { q.p with up := y } } g = if g = 3 then #[.bool y] else pcell q g := by
  by_cases h : g = 3
  · subst h; rfl
  · rw [if_neg h]
    exact match g, h with
    | 0, _ => rfl
    | 1, _ => rfl
    | 2, _ => rfl
    | 3, h => absurd rfl h
    | 4, _ => rfl
    | 5, _ => rfl
    | 6, _ => rfl
    | 7, _ => rfl
    | 8, _ => rfl
    | 9, _ => rfl
    | 10, _ => rfl
    | 11, _ => rfl
    | 12, _ => rfl
    | 13, _ => rfl
    | 14, _ => rfl
    | g + 15, _ => rfl
theorem RefW.set_up {w : World} {B : RB} {T : Tr} (h : RefW w B T) {i : Nat} (hi : i < T.n) (y : Bool) : RefW (w.setCell ⟨B.b 3, i, none⟩ (.bool y)) B (T.upd i { T.at_ i with p := { (T.at_ i).p with up := y } }) :=
  h.set1 (.inl (by omega)) rfl (by decide) (by decide) hi _ _ (pc_up _ y) rfl
theorem pc_has (q : TP) (y : Bool) (g : Nat) : pcell { q with p := { q.p with has := y } } g = if g = 4 then #[.bool y] else pcell q g := by
  by_cases h : g = 4
  · subst h; rfl
  · rw [if_neg h]
    exact match g, h with
    | 0, _ => rfl
    | 1, _ => rfl
    | 2, _ => rfl
    | 3, _ => rfl
    | 4, h => absurd rfl h
    | 5, _ => rfl
    | 6, _ => rfl
    | 7, _ => rfl
    | 8, _ => rfl
    | 9, _ => rfl
    | 10, _ => rfl
    | 11, _ => rfl
    | 12, _ => rfl
    | 13, _ => rfl
    | 14, _ => rfl
    | g + 15, _ => rfl
theorem RefW.set_has {w : World} {B : RB} {T : Tr} (h : RefW w B T) {i : Nat} (hi : i < T.n) (y : Bool) : RefW (w.setCell ⟨B.b 4, i, none⟩ (.bool y)) B (T.upd i { T.at_ i with p := { (T.at_ i).p with has := y } }) :=
  h.set1 (.inl (by omega)) rfl (by decide) (by decide) hi _ _ (pc_has _ y) rfl
theorem pc_edge (q : TP) (y : Bool) (g : Nat) : pcell { q with edge := y } g = if g = 5 then #[.bool y] else pcell q g := by
  by_cases h : g = 5
  · subst h; rfl
  · rw [if_neg h]
    exact match g, h with
    | 0, _ => rfl
    | 1, _ => rfl
    | 2, _ => rfl
    | 3, _ => rfl
    | 4, _ => rfl
    | 5, h => absurd rfl h
    | 6, _ => rfl
    | 7, _ => rfl
    | 8, _ => rfl
    | 9, _ => rfl
    | 10, _ => rfl
    | 11, _ => rfl
    | 12, _ => rfl
    | 13, _ => rfl
    | 14, _ => rfl
    | g + 15, _ => rfl
theorem RefW.set_edge {w : World} {B : RB} {T : Tr} (h : RefW w B T) {i : Nat} (hi : i < T.n) (y : Bool) : RefW (w.setCell ⟨B.b 5, i, none⟩ (.bool y)) B (T.upd i { T.at_ i with edge := y }) :=
  h.set1 (.inl (by omega)) rfl (by decide) (by decide) hi _ _ (pc_edge _ y) rfl
theorem pc_agreed (q : TP) (y : Bool) (g : Nat) : pcell { q with agreed := y } g = if g = 6 then #[.bool y] else pcell q g := by
  by_cases h : g = 6
  · subst h; rfl
  · rw [if_neg h]
    exact match g, h with
    | 0, _ => rfl
    | 1, _ => rfl
    | 2, _ => rfl
    | 3, _ => rfl
    | 4, _ => rfl
    | 5, _ => rfl
    | 6, h => absurd rfl h
    | 7, _ => rfl
    | 8, _ => rfl
    | 9, _ => rfl
    | 10, _ => rfl
    | 11, _ => rfl
    | 12, _ => rfl
    | 13, _ => rfl
    | 14, _ => rfl
    | g + 15, _ => rfl
theorem RefW.set_agreed {w : World} {B : RB} {T : Tr} (h : RefW w B T) {i : Nat} (hi : i < T.n) (y : Bool) : RefW (w.setCell ⟨B.b 6, i, none⟩ (.bool y)) B (T.upd i { T.at_ i with agreed := y }) :=
  h.set1 (.inl (by omega)) rfl (by decide) (by decide) hi _ _ (pc_agreed _ y) rfl
theorem pc_role (q : TP) (y : Int) (g : Nat) : pcell { q with role := y } g = if g = 9 then #[.int .i64 y] else pcell q g := by
  by_cases h : g = 9
  · subst h; rfl
  · rw [if_neg h]
    exact match g, h with
    | 0, _ => rfl
    | 1, _ => rfl
    | 2, _ => rfl
    | 3, _ => rfl
    | 4, _ => rfl
    | 5, _ => rfl
    | 6, _ => rfl
    | 7, _ => rfl
    | 8, _ => rfl
    | 9, h => absurd rfl h
    | 10, _ => rfl
    | 11, _ => rfl
    | 12, _ => rfl
    | 13, _ => rfl
    | 14, _ => rfl
    | g + 15, _ => rfl
theorem RefW.set_role {w : World} {B : RB} {T : Tr} (h : RefW w B T) {i : Nat} (hi : i < T.n) (y : Int) : RefW (w.setCell ⟨B.b 9, i, none⟩ (.int .i64 y)) B (T.upd i { T.at_ i with role := y }) :=
  h.set1 (.inl (by omega)) rfl (by decide) (by decide) hi _ _ (pc_role _ y) rfl
theorem pc_state (q : TP) (y : Int) (g : Nat) : pcell { q with state := y } g = if g = 10 then #[.int .i64 y] else pcell q g := by
  by_cases h : g = 10
  · subst h; rfl
  · rw [if_neg h]
    exact match g, h with
    | 0, _ => rfl
    | 1, _ => rfl
    | 2, _ => rfl
    | 3, _ => rfl
    | 4, _ => rfl
    | 5, _ => rfl
    | 6, _ => rfl
    | 7, _ => rfl
    | 8, _ => rfl
    | 9, _ => rfl
    | 10, h => absurd rfl h
    | 11, _ => rfl
    | 12, _ => rfl
    | 13, _ => rfl
    | 14, _ => rfl
    | g + 15, _ => rfl
theorem RefW.set_state {w : World} {B : RB} {T : Tr} (h : RefW w B T) {i : Nat} (hi : i < T.n) (y : Int) : RefW (w.setCell ⟨B.b 10, i, none⟩ (.int .i64 y)) B (T.upd i { T.at_ i with state := y }) :=
  h.set1 (.inl (by omega)) rfl (by decide) (by decide) hi _ _ (pc_state _ y) rfl
theorem pc_age (q : TP) (y : Int) (g : Nat) : pcell { q with age := y } g = if g = 11 then #[.int .i64 y] else pcell q g := by
  by_cases h : g = 11
  · subst h; rfl
  · rw [if_neg h]
    exact match g, h with
    | 0, _ => rfl
    | 1, _ => rfl
    | 2, _ => rfl
    | 3, _ => rfl
    | 4, _ => rfl
    | 5, _ => rfl
    | 6, _ => rfl
    | 7, _ => rfl
    | 8, _ => rfl
    | 9, _ => rfl
    | 10, _ => rfl
    | 11, h => absurd rfl h
    | 12, _ => rfl
    | 13, _ => rfl
    | 14, _ => rfl
    | g + 15, _ => rfl
theorem RefW.set_age {w : World} {B : RB} {T : Tr} (h : RefW w B T) {i : Nat} (hi : i < T.n) (y : Int) : RefW (w.setCell ⟨B.b 11, i, none⟩ (.int .i64 y)) B (T.upd i { T.at_ i with age := y }) :=
  h.set1 (.inl (by omega)) rfl (by decide) (by decide) hi _ _ (pc_age _ y) rfl
theorem pc_left (q : TP) (y : Int) (g : Nat) : pcell { q with left := y } g = if g = 12 then #[.int .i64 y] else pcell q g := by
  by_cases h : g = 12
  · subst h; rfl
  · rw [if_neg h]
    exact match g, h with
    | 0, _ => rfl
    | 1, _ => rfl
    | 2, _ => rfl
    | 3, _ => rfl
    | 4, _ => rfl
    | 5, _ => rfl
    | 6, _ => rfl
    | 7, _ => rfl
    | 8, _ => rfl
    | 9, _ => rfl
    | 10, _ => rfl
    | 11, _ => rfl
    | 12, h => absurd rfl h
    | 13, _ => rfl
    | 14, _ => rfl
    | g + 15, _ => rfl
theorem RefW.set_left {w : World} {B : RB} {T : Tr} (h : RefW w B T) {i : Nat} (hi : i < T.n) (y : Int) : RefW (w.setCell ⟨B.b 12, i, none⟩ (.int .i64 y)) B (T.upd i { T.at_ i with left := y }) :=
  h.set1 (.inl (by omega)) rfl (by decide) (by decide) hi _ _ (pc_left _ y) rfl
theorem pc_wait (q : TP) (y : Int) (g : Nat) : pcell { q with wait := y } g = if g = 13 then #[.int .i64 y] else pcell q g := by
  by_cases h : g = 13
  · subst h; rfl
  · rw [if_neg h]
    exact match g, h with
    | 0, _ => rfl
    | 1, _ => rfl
    | 2, _ => rfl
    | 3, _ => rfl
    | 4, _ => rfl
    | 5, _ => rfl
    | 6, _ => rfl
    | 7, _ => rfl
    | 8, _ => rfl
    | 9, _ => rfl
    | 10, _ => rfl
    | 11, _ => rfl
    | 12, _ => rfl
    | 13, h => absurd rfl h
    | 14, _ => rfl
    | g + 15, _ => rfl
theorem RefW.set_wait {w : World} {B : RB} {T : Tr} (h : RefW w B T) {i : Nat} (hi : i < T.n) (y : Int) : RefW (w.setCell ⟨B.b 13, i, none⟩ (.int .i64 y)) B (T.upd i { T.at_ i with wait := y }) :=
  h.set1 (.inl (by omega)) rfl (by decide) (by decide) hi _ _ (pc_wait _ y) rfl
theorem pc_change (q : TP) (y : Int) (g : Nat) : pcell { q with change := y } g = if g = 14 then #[.int .i64 y] else pcell q g := by
  by_cases h : g = 14
  · subst h; rfl
  · rw [if_neg h]
    exact match g, h with
    | 0, _ => rfl
    | 1, _ => rfl
    | 2, _ => rfl
    | 3, _ => rfl
    | 4, _ => rfl
    | 5, _ => rfl
    | 6, _ => rfl
    | 7, _ => rfl
    | 8, _ => rfl
    | 9, _ => rfl
    | 10, _ => rfl
    | 11, _ => rfl
    | 12, _ => rfl
    | 13, _ => rfl
    | 14, h => absurd rfl h
    | g + 15, _ => rfl
theorem RefW.set_change {w : World} {B : RB} {T : Tr} (h : RefW w B T) {i : Nat} (hi : i < T.n) (y : Int) : RefW (w.setCell ⟨B.b 14, i, none⟩ (.int .i64 y)) B (T.upd i { T.at_ i with change := y }) :=
  h.set1 (.inl (by omega)) rfl (by decide) (by decide) hi _ _ (pc_change _ y) rfl
/-- A port is to forget. -/
theorem RefW.set_flush {w : World} {B : RB} {T : Tr} (h : RefW w B T) {i : Nat} (hi : i < T.n) (hfl : T.flush.length = T.n) : RefW (w.setCell ⟨B.b 7, i, none⟩ (.bool true)) B (T.fl i) := by
  have key := h.set (U := T.fl i) (f := 7) (.inl (by omega)) hi (o := 0) (by decide) (.bool true) rfl rfl rfl fun g j => by
    by_cases e : g = 7 ∧ j = i
    · obtain ⟨rfl, rfl⟩ := e
      rw [if_pos ⟨rfl, rfl⟩]
      show #[Value.bool ((T.flush.set j true).getD j false)] = _
      rw [getD_set_self _ _ _ (by omega)]
      rfl
    · rw [if_neg e]
      unfold cont
      by_cases h7 : g = 7
      · rw [if_pos h7, if_pos h7]
        have : i ≠ j := fun h => e ⟨h7, h.symm⟩
        show #[Value.bool ((T.flush.set i true).getD j false)] = _
        rw [getD_set_ne _ _ _ this]
      · rw [if_neg h7, if_neg h7]
        rfl
  rw [show szF 7 = 1 from rfl, Nat.mul_one, Nat.add_zero] at key
  exact key
/-- What is read. -/
theorem RefW.own {w : World} {B : RB} {T : Tr} (h : RefW w B T) : ∀ o, w.cell? ⟨B.tb, o, none⟩ = #[Value.int .u64 T.id, .slice (B.a 1) T.n (B.c 1), .slice (B.a 2) T.n (B.c 2), .slice (B.a 3) T.n (B.c 3), .slice (B.a 4) T.n (B.c 4), .slice (B.a 5) T.n (B.c 5), .slice (B.a 6) T.n (B.c 6), .slice (B.a 7) T.n (B.c 7), .slice (B.a 8) T.n (B.c 8), .slice (B.a 9) T.n (B.c 9), .slice (B.a 10) T.n (B.c 10), .slice (B.a 11) T.n (B.c 11), .slice (B.a 12) T.n (B.c 12), .slice (B.a 13) T.n (B.c 13), .slice (B.a 14) T.n (B.c 14), .int .u64 T.vec.root, .int .u64 T.vec.cost, .int .u64 T.vec.bridge, .int .i64 T.vec.port, .int .i64 T.rp, .slice (B.a 17) T.n (B.c 17), .int .i64 T.hello, B.ov][o]? := h.t.cell
theorem RefW.ownp {w : World} {B : RB} {T : Tr} (h : RefW w B T) (hn : 0 < T.n) : ∀ o, w.cell? ⟨B.tb, o, none⟩ = #[Value.int .u64 T.id, .slice (some ⟨B.b 1, 0, none⟩) T.n (B.c 1), .slice (some ⟨B.b 2, 0, none⟩) T.n (B.c 2), .slice (some ⟨B.b 3, 0, none⟩) T.n (B.c 3), .slice (some ⟨B.b 4, 0, none⟩) T.n (B.c 4), .slice (some ⟨B.b 5, 0, none⟩) T.n (B.c 5), .slice (some ⟨B.b 6, 0, none⟩) T.n (B.c 6), .slice (some ⟨B.b 7, 0, none⟩) T.n (B.c 7), .slice (some ⟨B.b 8, 0, none⟩) T.n (B.c 8), .slice (some ⟨B.b 9, 0, none⟩) T.n (B.c 9), .slice (some ⟨B.b 10, 0, none⟩) T.n (B.c 10), .slice (some ⟨B.b 11, 0, none⟩) T.n (B.c 11), .slice (some ⟨B.b 12, 0, none⟩) T.n (B.c 12), .slice (some ⟨B.b 13, 0, none⟩) T.n (B.c 13), .slice (some ⟨B.b 14, 0, none⟩) T.n (B.c 14), .int .u64 T.vec.root, .int .u64 T.vec.cost, .int .u64 T.vec.bridge, .int .i64 T.vec.port, .int .i64 T.rp, .slice (some ⟨B.b 17, 0, none⟩) T.n (B.c 17), .int .i64 T.hello, B.ov][o]? := by
  have e := h.own
  have a := h.a hn
  rw [a 1 (.inl (by omega)), a 2 (.inl (by omega)), a 3 (.inl (by omega)), a 4 (.inl (by omega)), a 5 (.inl (by omega)), a 6 (.inl (by omega)), a 7 (.inl (by omega)), a 8 (.inl (by omega)), a 9 (.inl (by omega)), a 10 (.inl (by omega)), a 11 (.inl (by omega)), a 12 (.inl (by omega)), a 13 (.inl (by omega)), a 14 (.inl (by omega)), a 17 (.inr rfl)] at e
  exact e
theorem RefW.get {w : World} {B : RB} {T : Tr} (h : RefW w B T) {i : Nat} (hi : i < T.n) {f : Nat} (hf : inF f) (hs : szF f = 1) : w.cell? ⟨B.b f, i, none⟩ = (cont T f i)[0]? := by
  have := (h.r (by omega) f hf).cell i 0 hi (by rw [hs]; decide)
  rw [hs, Nat.mul_one, Nat.add_zero] at this
  exact this
theorem RefW.free {w : World} {B : RB} {T : Tr} (h : RefW w B T) (hn : 0 < T.n) {f : Nat} (hf : inF f) (o : Nat) : w.frozen? ⟨B.b f, o, none⟩ = false := (h.r hn f hf).free o
theorem RefW.get4 {w : World} {B : RB} {T : Tr} (h : RefW w B T) {i : Nat} (hi : i < T.n) {f : Nat} (hf : inF f) (hs : szF f = 4) (o : Nat) (ho : o < 4) : w.cell? ⟨B.b f, i * 4 + o, none⟩ = (cont T f i)[o]? := by
  have := (h.r (by omega) f hf).cell i o hi (by rw [hs]; exact ho)
  rw [hs] at this
  exact this
theorem inF_of {k : Nat} (h : 1 ≤ k ∧ k ≤ 14 ∨ k = 17) : inF k := h
/-- What a method of it leaves that makes no list anew. -/
def RQPost (w : World) (B : RB) (n : Nat) (U : Tr) (e : Ending) (w' : World) : Prop := e = .returned (.tuple #[]) ∧ RefW w' B U ∧ RStep w B n w' B
theorem below_drew1 (w : World) : Below w.heap.size w w.drew := (Below.refl _ w).drew
theorem RefW.drew {w : World} {B : RB} {T : Tr} (h : RefW w B T) : RefW w.drew B T := h.below (below_drew1 w)
theorem RStep.drew {w w' : World} {B B' : RB} {n : Nat} (h : RStep w B n w' B') : RStep w B n w'.drew B' := h.trans (RStep.below _ _ (below_drew1 w'))
theorem RefW.g5 {w : World} {B : RB} {T : Tr} (h : RefW w B T) {i : Nat} (hi : i < T.n) : w.cell? ⟨B.b 5, i, none⟩ = some (.bool (T.at_ i).edge) := h.get hi (.inl (by omega)) rfl
theorem RefW.g7 {w : World} {B : RB} {T : Tr} (h : RefW w B T) {i : Nat} (hi : i < T.n) : w.cell? ⟨B.b 7, i, none⟩ = some (.bool (T.flush.getD i false)) := h.get hi (.inl (by omega)) rfl
theorem RefW.g9 {w : World} {B : RB} {T : Tr} (h : RefW w B T) {i : Nat} (hi : i < T.n) : w.cell? ⟨B.b 9, i, none⟩ = some (.int .i64 (T.at_ i).role) := h.get hi (.inl (by omega)) rfl
theorem RefW.g10 {w : World} {B : RB} {T : Tr} (h : RefW w B T) {i : Nat} (hi : i < T.n) : w.cell? ⟨B.b 10, i, none⟩ = some (.int .i64 (T.at_ i).state) := h.get hi (.inl (by omega)) rfl
theorem RefW.g13 {w : World} {B : RB} {T : Tr} (h : RefW w B T) {i : Nat} (hi : i < T.n) : w.cell? ⟨B.b 13, i, none⟩ = some (.int .i64 (T.at_ i).wait) := h.get hi (.inl (by omega)) rfl
theorem RefW.g14 {w : World} {B : RB} {T : Tr} (h : RefW w B T) {i : Nat} (hi : i < T.n) : w.cell? ⟨B.b 14, i, none⟩ = some (.int .i64 (T.at_ i).change) := h.get hi (.inl (by omega)) rfl
theorem active_calls (T : Tr) (B : RB) (i : Nat) (hi : i < T.n) (w : World) (hT : RefW w B T) (x : Bool) (hx : actB (T.at_ i) = x) :
    Calls Try.prog 54 #[.pointer (some ⟨B.tb, 0, none⟩), .int .i64 (i : Int)] w fun e w' => e = .returned (.bool x) ∧ w = w' := by
  have hn0 : 0 < T.n := by omega
  have qt := hT.ownp hn0
  have hin : (i : Int) < (T.n : Int) := by omega
  have r9 : w.cell? ⟨B.b 9, i, none⟩ = some (.int .i64 (T.at_ i).role) := hT.get hi (.inl (by omega)) rfl
  have HX := Lib.hid hx
  clear hT hx
  by_cases h1 : (T.at_ i).role = 1
  · have HZ : Hid (x = true) := Lib.hid (by rw [← HX.out]; exact act_yes (.inl h1))
    rw [h1] at r9
    clear h1
    go_enter Try.func54, Try.ntmps54
    go_wp2
    go_ret
    exact ⟨ret_bool' HZ.out.symm, rfl⟩
  have h1b : ((T.at_ i).role == 1) = false := by simpa using h1
  by_cases h2 : (T.at_ i).role = 2
  · have HZ : Hid (x = true) := Lib.hid (by rw [← HX.out]; exact act_yes (.inr h2))
    rw [h2] at r9
    clear h1 h2 h1b
    go_enter Try.func54, Try.ntmps54
    go_wp2
    go_ret
    exact ⟨ret_bool' HZ.out.symm, rfl⟩
  have h2b : ((T.at_ i).role == 2) = false := by simpa using h2
  have HZ : Hid (x = false) := Lib.hid (by rw [← HX.out]; exact act_no h1 h2)
  clear h1 h2
  go_enter Try.func54, Try.ntmps54
  go_wp2
  go_ret
  exact ⟨ret_bool' HZ.out.symm, rfl⟩
set_option maxHeartbeats 4000000 in
theorem rforward_calls (T : Tr) (B : RB) (i : Nat) (hi : i < T.n) (hn : T.n ≤ 16) (hfl : T.flush.length = T.n) (w : World) (hT : RefW w B T) (U : Tr) (hU : forwardF i T = U) :
    Calls Try.prog 38 #[.pointer (some ⟨B.tb, 0, none⟩), .int .i64 (i : Int)] w (RQPost w B T.n U) := by
  have hn0 : 0 < T.n := by omega
  have hin : (i : Int) < (T.n : Int) := by omega
  have qt := hT.ownp hn0
  have f10 := hT.free hn0 (f := 10) (.inl (by omega))
  have f13 := hT.free hn0 (f := 13) (.inl (by omega))
  have r10 : w.cell? ⟨B.b 10, i, none⟩ = some (.int .i64 (T.at_ i).state) := hT.get hi (.inl (by omega)) rfl
  have r13 : w.cell? ⟨B.b 13, i, none⟩ = some (.int .i64 (T.at_ i).wait) := hT.get hi (.inl (by omega)) rfl
  have n1 := hT.ne hn0 10 13 (.inl (by omega)) (.inl (by omega)) (by decide)
  have n2 := hT.nt hn0 10 (.inl (by omega))
  have n3 := hT.nt hn0 13 (.inl (by omega))
  have h1 := hT.set_state hi 2
  have h2 := h1.set_wait (i := i) (by rw [upd_n]; exact hi) 0
  rw [upd_at T _ hi, upd_upd] at h2
  have hS2 := ((RStep.refl w B T.n).set hn0 (f := 10) (.inl (by omega)) i (.int .i64 2)).set hn0 (f := 13) (.inl (by omega)) i (.int .i64 0)
  have HU := Lib.hid hU
  have HF := Lib.hid hfl
  clear hU hfl hT h1
  go_enter Try.func38, Try.ntmps38
  go_wp2
  go_region
  have h3 : RefW ((w.setCell ⟨B.b 10, i, none⟩ (.int .i64 2)).setCell ⟨B.b 13, i, none⟩ (.int .i64 0)).drew B (T.upd i (fwdP (T.at_ i))) := h2.drew
  have hS3 := hS2.drew
  generalize World.drew _ = W at h3 hS3 ⊢
  clear h2 hS2 qt f10 f13 r10 r13 n1 n2 n3
  obtain ⟨T1, hT1⟩ : ∃ T1, T.upd i (fwdP (T.at_ i)) = T1 := ⟨_, rfl⟩
  have n1 : T1.n = T.n := by rw [← hT1]; exact upd_n _ _ _
  have e1 : (T1.at_ i).edge = (T.at_ i).edge := by rw [← hT1, upd_at T _ hi]; rfl
  have hUU : forwardF i T = if (T.at_ i).edge = true then T1 else changedF i T1 := by rw [← hT1]; rfl
  have f1 : T1.flush.length = T1.n := by rw [n1, ← HF.out, ← hT1]; rfl
  rw [hT1] at h3
  have N1 := Lib.hid n1
  have F1 := Lib.hid f1
  have i1 : i < T1.n := by omega
  have qt := h3.ownp (by omega)
  have r5 := h3.g5 i1
  rw [e1] at r5
  have HW := Lib.hid h3
  have HS := Lib.hid hS3
  rw [n1] at qt
  clear hT1 e1 f1 h3 hS3 i1
  cases he : (T.at_ i).edge with
  | true =>
    rw [he] at r5
    rw [if_pos he] at hUU
    have HE : Hid (T1 = U) := Lib.hid (hUU.symm.trans HU.out)
    clear he hUU
    go_wp2
    refine bodyPost_ret (results_none rfl _ _ _) rfl ?_
    exact ⟨rfl, by rw [← HE.out]; exact HW.out, HS.out⟩
  | false =>
    rw [he] at r5
    rw [if_neg (by rw [he]; simp)] at hUU
    have HE : Hid (upto (chStep i) T1.n T1 = U) := Lib.hid (hUU.symm.trans HU.out)
    clear he hUU
    go_wp2
    clear qt r5
    go_loopg [4] T.n (fun gh s4 wx => ∃ k : Nat, k + gh = T.n ∧ s4 = .int .i64 (k : Int) ∧ RefW wx B (upto (chStep i) k T1) ∧ RStep w B T.n wx B)
    case atStart => exact ⟨0, by omega, rfl, HW.out, HS.out⟩
    case round =>
      obtain ⟨k, hkg, rfl, hX, hSx⟩ := hrel
      have sh := shp_upto (shp_ch i) k T1
      have sn := sh.n.trans n1
      have sf := sh.fl.trans F1.out
      rw [n1] at sf
      have HSx := Lib.hid hSx
      clear hSx sh
      cases gk with
      | zero =>
        have hkM : ¬ ((k : Int) < (T.n : Int)) := by omega
        have hk : k = T1.n := by omega
        have hE := HE.out
        rw [← hk] at hE
        generalize upto (chStep i) k T1 = X at hX sn sf hE
        have hX0 : 0 < X.n := by omega
        have qt := hX.ownp hX0
        rw [sn] at qt
        have HX := Lib.hid hX
        clear hX
        go_wp2
        go_end0
        exact ⟨rfl, by rw [← hE]; exact HX.out, HSx.out⟩
      | succ gh =>
        have hkM : (k : Int) < (T.n : Int) := by omega
        have HST : Hid (upto (chStep i) (k + 1) T1 = chStep i k (upto (chStep i) k T1)) := Lib.hid rfl
        generalize upto (chStep i) k T1 = X at hX sn sf HST
        have hkn : k < X.n := by omega
        have hX0 : 0 < X.n := by omega
        have qt := hX.ownp hX0
        rw [sn] at qt
        have r5 := hX.g5 hkn
        have r14 := hX.g14 hkn
        have r7 := hX.g7 hkn
        have f14 := hX.free hX0 (f := 14) (.inl (by omega))
        have f7 := hX.free hX0 (f := 7) (.inl (by omega))
        have m1 := hX.ne hX0 7 14 (.inl (by omega)) (.inl (by omega)) (by decide)
        have m2 := hX.nt hX0 7 (.inl (by omega))
        have m3 := hX.nt hX0 14 (.inl (by omega))
        have HX := Lib.hid hX
        have SN := Lib.hid sn
        have SF := Lib.hid sf
        clear hX
        have HAC : Hid (∀ x, actB (X.at_ k) = x → Calls Try.prog 54 #[.pointer (some ⟨B.tb, 0, none⟩), .int .i64 (k : Int)] wr fun e w' => e = .returned (.bool x) ∧ wr = w') := Lib.hid fun x hx => active_calls X B k hkn wr HX.out x hx
        cases hact : actB (X.at_ k) with
        | false =>
          have HAF := Lib.hid (HAC.out false hact)
          have HZ := Lib.hid (ch_skip (a := i) (i := k) (T := X) (by rw [hact]; simp))
          clear hact
          go_wp2_with (go_at_call 54; (with_reducible refine HAF.out.mono ?_); rintro e w3 ⟨rfl, rfl⟩)
          go_roundg gh
          case measure => omega
          case rel => exact ⟨k + 1, by omega, by go_num, by rw [HST.out, HZ.out]; exact HX.out, HSx.out⟩
        | true =>
          have HAF := Lib.hid (HAC.out true hact)
          cases he : (X.at_ k).edge with
          | true =>
            rw [he] at r5
            have HZ := Lib.hid (ch_skip (a := i) (i := k) (T := X) (by rw [he]; simp))
            clear hact he
            go_wp2_with (go_at_call 54; (with_reducible refine HAF.out.mono ?_); rintro e w3 ⟨rfl, rfl⟩)
            go_roundg gh
            case measure => omega
            case rel => exact ⟨k + 1, by omega, by go_num, by rw [HST.out, HZ.out]; exact HX.out, HSx.out⟩
          | false =>
            rw [he] at r5
            have hz := ch_do (a := i) hact he
            clear hact he
            have h1 := HX.out.set_change hkn 4
            have h2 := h1.set_flush (i := k) (by rw [upd_n]; exact hkn) (by rw [upd_n]; exact SF.out.trans SN.out.symm)
            have H1 := Lib.hid h1
            have H2 := Lib.hid h2
            clear h1 h2
            by_cases hka : k = i
            · subst hka
              rw [if_pos rfl] at hz
              have HZ := Lib.hid hz
              clear hz
              go_wp2_with (go_at_call 54; (with_reducible refine HAF.out.mono ?_); rintro e w3 ⟨rfl, rfl⟩)
              go_roundg gh
              case measure => omega
              case rel => exact ⟨k + 1, by omega, by go_num, by rw [HST.out, HZ.out]; exact H1.out, HSx.out.set hn0 (f := 14) (.inl (by omega)) k _⟩
            · rw [if_neg hka] at hz
              have HZ := Lib.hid hz
              clear hz
              have hkb : ((k : Int) != (i : Int)) = true := by simpa using (show ¬ (k : Int) = (i : Int) by omega)
              go_wp2_with (go_at_call 54; (with_reducible refine HAF.out.mono ?_); rintro e w3 ⟨rfl, rfl⟩)
              go_roundg gh
              case measure => omega
              case rel => exact ⟨k + 1, by omega, by go_num, by rw [HST.out, HZ.out]; exact H2.out, (HSx.out.set hn0 (f := 14) (.inl (by omega)) k _).set hn0 (f := 7) (.inl (by omega)) k _⟩
set_option maxHeartbeats 4000000 in
theorem rnotice_calls (T : Tr) (B : RB) (i : Nat) (hi : i < T.n) (hn : T.n ≤ 16) (hfl : T.flush.length = T.n) (w : World) (hT : RefW w B T) (U : Tr) (hU : noticeF i T = U) :
    Calls Try.prog 40 #[.pointer (some ⟨B.tb, 0, none⟩), .int .i64 (i : Int)] w (RQPost w B T.n U) := by
  have hn0 : 0 < T.n := by omega
  have HAI : Hid (∀ x, actB (T.at_ i) = x → Calls Try.prog 54 #[.pointer (some ⟨B.tb, 0, none⟩), .int .i64 (i : Int)] w fun e w' => e = .returned (.bool x) ∧ w = w') := Lib.hid fun x hx => active_calls T B i hi w hT x hx
  have HU := Lib.hid hU
  have HF := Lib.hid hfl
  have HT := Lib.hid hT
  have qt := hT.ownp hn0
  clear hU hfl hT
  cases ha : actB (T.at_ i) with
  | false =>
    have HAF := Lib.hid (HAI.out false ha)
    have HE : Hid (T = U) := by rw [← HU.out]; exact Lib.hid (by unfold noticeF; rw [if_neg (by rw [ha]; simp)])
    clear ha qt
    go_enter Try.func40, Try.ntmps40
    go_wp2_with (go_at_call 54; (with_reducible refine HAF.out.mono ?_); rintro e w3 ⟨rfl, rfl⟩)
    refine bodyPost_ret (results_none rfl _ _ _) rfl ?_
    exact ⟨rfl, by rw [← HE.out]; exact HT.out, RStep.refl _ _ _⟩
  | true =>
    have HAF := Lib.hid (HAI.out true ha)
    have HE : Hid (upto (noStep i) T.n T = U) := by rw [← HU.out]; exact Lib.hid (by unfold noticeF; rw [if_pos ha])
    clear ha
    go_enter Try.func40, Try.ntmps40
    go_wp2_with (go_at_call 54; (with_reducible refine HAF.out.mono ?_); rintro e w3 ⟨rfl, rfl⟩)
    clear qt
    go_loopg [4] T.n (fun gh s4 wx => ∃ k : Nat, k + gh = T.n ∧ s4 = .int .i64 (k : Int) ∧ RefW wx B (upto (noStep i) k T) ∧ RStep w B T.n wx B)
    case atStart => exact ⟨0, by omega, rfl, HT.out, RStep.refl _ _ _⟩
    case round =>
      obtain ⟨k, hkg, rfl, hX, hSx⟩ := hrel
      have sh := shp_upto (shp_no i) k T
      have sn := sh.n
      have sf := sh.fl.trans HF.out
      have HSx := Lib.hid hSx
      clear hSx sh
      cases gk with
      | zero =>
        have hkM : ¬ ((k : Int) < (T.n : Int)) := by omega
        have hk : k = T.n := by omega
        have hE := HE.out
        rw [← hk] at hE
        generalize upto (noStep i) k T = X at hX sn sf hE
        have hX0 : 0 < X.n := by omega
        have qt := hX.ownp hX0
        rw [sn] at qt
        have HX := Lib.hid hX
        clear hX
        go_wp2
        go_end0
        exact ⟨rfl, by rw [← hE]; exact HX.out, HSx.out⟩
      | succ gh =>
        have hkM : (k : Int) < (T.n : Int) := by omega
        have HST : Hid (upto (noStep i) (k + 1) T = noStep i k (upto (noStep i) k T)) := Lib.hid rfl
        generalize upto (noStep i) k T = X at hX sn sf HST
        have hkn : k < X.n := by omega
        have hX0 : 0 < X.n := by omega
        have qt := hX.ownp hX0
        rw [sn] at qt
        have r5 := hX.g5 hkn
        have r14 := hX.g14 hkn
        have r7 := hX.g7 hkn
        have f14 := hX.free hX0 (f := 14) (.inl (by omega))
        have f7 := hX.free hX0 (f := 7) (.inl (by omega))
        have m1 := hX.ne hX0 7 14 (.inl (by omega)) (.inl (by omega)) (by decide)
        have m2 := hX.nt hX0 7 (.inl (by omega))
        have m3 := hX.nt hX0 14 (.inl (by omega))
        have HX := Lib.hid hX
        have SN := Lib.hid sn
        have SF := Lib.hid sf
        clear hX
        have HAC : Hid (∀ x, actB (X.at_ k) = x → Calls Try.prog 54 #[.pointer (some ⟨B.tb, 0, none⟩), .int .i64 (k : Int)] wr fun e w' => e = .returned (.bool x) ∧ wr = w') := Lib.hid fun x hx => active_calls X B k hkn wr HX.out x hx
        by_cases hka : k = i
        · subst hka
          have HZ := Lib.hid (no_skip (a := k) (i := k) (T := X) (.inl rfl))
          go_wp2
          go_roundg gh
          case measure => omega
          case rel => exact ⟨k + 1, by omega, by go_num, by rw [HST.out, HZ.out]; exact HX.out, HSx.out⟩
        have hkb : ((k : Int) != (i : Int)) = true := by simpa using (show ¬ (k : Int) = (i : Int) by omega)
        cases hact : actB (X.at_ k) with
        | false =>
          have HAG := Lib.hid (HAC.out false hact)
          have HZ := Lib.hid (no_skip (a := i) (i := k) (T := X) (.inr (.inr hact)))
          clear hact hka
          go_wp2_with (go_at_call 54; (with_reducible refine HAG.out.mono ?_); rintro e w3 ⟨rfl, rfl⟩)
          go_roundg gh
          case measure => omega
          case rel => exact ⟨k + 1, by omega, by go_num, by rw [HST.out, HZ.out]; exact HX.out, HSx.out⟩
        | true =>
          have HAG := Lib.hid (HAC.out true hact)
          cases he : (X.at_ k).edge with
          | true =>
            rw [he] at r5
            have HZ := Lib.hid (no_skip (a := i) (i := k) (T := X) (.inr (.inl he)))
            clear hact he hka
            go_wp2_with (go_at_call 54; (with_reducible refine HAG.out.mono ?_); rintro e w3 ⟨rfl, rfl⟩)
            go_roundg gh
            case measure => omega
            case rel => exact ⟨k + 1, by omega, by go_num, by rw [HST.out, HZ.out]; exact HX.out, HSx.out⟩
          | false =>
            rw [he] at r5
            have hz : noStep i k X = (X.upd k { X.at_ k with change := 4 }).fl k := by
              unfold noStep
              rw [if_neg (fun g => by rcases g with g | g | g; exact hka g; rw [he] at g; cases g; rw [hact] at g; cases g)]
              rfl
            have HZ := Lib.hid hz
            clear hact he hka hz
            have h1 := HX.out.set_change hkn 4
            have h2 := h1.set_flush (i := k) (by rw [upd_n]; exact hkn) (by rw [upd_n]; exact SF.out.trans SN.out.symm)
            have H2 := Lib.hid h2
            clear h1 h2
            go_wp2_with (go_at_call 54; (with_reducible refine HAG.out.mono ?_); rintro e w3 ⟨rfl, rfl⟩)
            go_roundg gh
            case measure => omega
            case rel => exact ⟨k + 1, by omega, by go_num, by rw [HST.out, HZ.out]; exact H2.out, (HSx.out.set hn0 (f := 14) (.inl (by omega)) k _).set hn0 (f := 7) (.inl (by omega)) k _⟩
/-- A message more. -/
theorem rsend_end {w wa w1 : World} {B : RB} {T : Tr} (o : OutM) (v' : Value) (hT : RefW w B T) (ha : Below w.heap.size w wa) (hown : w1.ownsRow 0 84 17 v' (T.outs.length + 1) (outsL T.outs ++ o.cells)) (hfr : Fr (InRow B.ov) wa w1) (hin : ∀ k, InRow v' k → InRow B.ov k ∨ wa.heap.size ≤ k) :
    RefW (w1.setCell ⟨B.tb, 22, none⟩ v') { B with ov := v' } { T with outs := T.outs ++ [o] } ∧ RStep w B T.n (w1.setCell ⟨B.tb, 22, none⟩ v') { B with ov := v' } := by
  have hTa := hT.below ha
  have hcs : RStep w B T.n w1 B := (RStep.below B T.n ha).trans ⟨hfr.mono fun k _ hk => .inr (.inr hk), rfl, fun k hk => .inl hk⟩
  have hnv : ∀ k, InRow v' k → k ≠ B.tb := fun k hk e => by
    subst e
    rcases hin _ hk with h | h
    · exact hTa.ov_tb h
    · have := hTa.t.lt; omega
  have hfs : Fr (fun k => k = B.tb) w1 (w1.setCell ⟨B.tb, 22, none⟩ v') := (Fr.refl (fun k => k = B.tb) w1).set (p := ⟨B.tb, 22, none⟩) (.inl rfl) v'
  refine ⟨⟨?_, fun hn => hTa.a hn, fun hn k hk => ?_, fun hn => hTa.ne hn, fun hn => hTa.nt hn, ?_⟩, ⟨hcs.fr.trans (hfs.mono fun k _ e => .inl e), rfl, fun k hk => ?_⟩⟩
  · exact (hTa.t.fr hfr hTa.ov_tb).set 22 v'
  · exact ((hTa.r hn k hk).fr hfr (hTa.ov_b hn hk)).fr hfs (hTa.nt hn k hk).symm
  · have h2 := own_fr hown hfs hnv
    show World.ownsRow _ _ _ _ _ (T.outs ++ [o]).length (outsL (T.outs ++ [o]))
    rw [List.length_append, outsL, List.flatMap_append]
    simpa [outsL] using h2
  · rcases hk with h | h | h
    · exact .inl (.inl h)
    · exact .inl (.inr (.inl h))
    · rcases hin _ h with h1 | h1
      · exact .inl (.inr (.inr h1))
      · exact .inr (Nat.le_trans ha.size h1)
theorem info84 : (Try.prog.info? 84).map (fun i => (i.zero, i.size, i.bytes)) = some (some (.agg #[.int .i64 0, .int .i64 0, .int .u64 0, .int .u64 0, .int .u64 0, .int .i64 0, .bool false, .bool false, .bool false, .bool false, .bool false, .bool false, .int .i64 0, .int .i64 0, .int .i64 0, .int .i64 0, .int .i64 0]), 17, 96) := by kernel_rfl
/-- May what a port tells be? -/
theorem msg_chk (T : Tr) (i : Nat) : chkF (msgF T i) = (decide (0 ≤ ageF T) && decide (ageF T < 5120) && decide (0 ≤ (T.tell_ i).port) && decide ((T.tell_ i).port ≤ 65535) && decide ((T.tell_ i).cost ≤ 4294967295)) := by
  have hr : ¬ ((msgF T i).role < 0) ∧ ¬ (3 < (msgF T i).role) := by
    show ¬ (mroleF (T.at_ i) < 0) ∧ ¬ (3 < mroleF (T.at_ i))
    unfold mroleF
    split
    · omega
    · split <;> omega
  unfold chkF
  rw [if_neg (show ¬ ((msgF T i).kind < 0 ∨ 3 ≤ (msgF T i).kind) from fun h => by rcases h with h | h; exact absurd h (by show ¬ (1 : Int) < 0; omega); exact absurd h (by show ¬ (3 : Int) ≤ 1; omega)),
    if_neg (show ¬ (msgF T i).kind = 2 from by show ¬ (1 : Int) = 2; omega), if_neg (show ¬ ((msgF T i).kind = 0 ∧ _ ∨ _ ∨ _) from fun h => by
      rcases h with ⟨h, _⟩ | h | h
      · exact absurd h (by show ¬ (1 : Int) = 0; omega)
      · exact hr.1 h
      · exact hr.2 h)]
  show (if 4294967295 < (T.tell_ i).cost ∨ (T.tell_ i).port < 0 ∨ 65535 < (T.tell_ i).port then false else ageB (ageF T) && ageB 5120 && ageB 512 && ageB 3840 && decide (ageF T < 5120)) = _
  generalize ageF T = A
  generalize (T.tell_ i).port = P
  generalize (T.tell_ i).cost = C
  rw [show ageB 5120 = true from by decide, show ageB 512 = true from by decide, show ageB 3840 = true from by decide]
  unfold ageB
  rw [Bool.eq_iff_iff]
  split
  · simp; omega
  · simp; omega
/-- What send leaves: nothing but the messages' row lies elsewhere. -/
def RSPost (w : World) (B : RB) (n : Nat) (U : Tr) (e : Ending) (w' : World) : Prop := ∃ v, e = .returned (.tuple #[]) ∧ RefW w' { B with ov := v } U ∧ RStep w B n w' { B with ov := v }
theorem RStep.ov {a b c : World} {B : RB} {v v' : Value} {n : Nat} (h : RStep a B n b { B with ov := v }) (k : RStep b { B with ov := v } n c { B with ov := v' }) : RStep a B n c { B with ov := v' } := h.trans k
set_option maxRecDepth 8000 in
set_option maxHeartbeats 8000000 in
theorem rsend_calls (T : Tr) (B : RB) (i : Nat) (b : Bool) (hi : i < T.n) (hn : T.n ≤ 16) (hrp : T.rp < (T.n : Int)) (hR : T.outs.length + 1 ≤ 1000000) (w : World) (hT : RefW w B T) (U : Tr) (hU : sendF i b T = U) :
    Calls Try.prog 41 #[.pointer (some ⟨B.tb, 0, none⟩), .int .i64 (i : Int), .bool b] w (RSPost w B T.n U) := by
  have hn0 : 0 < T.n := by omega
  have hin : (i : Int) < (T.n : Int) := by omega
  have HU := Lib.hid hU
  have HT := Lib.hid hT
  have qt := hT.ownp hn0
  clear hU hT
  go_enter Try.func41, Try.ntmps41
  go_upto_if 12 with (fail)
  go_cut [6] (fun s6 wx => s6 = .int .i64 (ageF T) ∧ Below w.heap.size w wx)
  case first =>
    by_cases h : 0 ≤ T.rp
    · obtain ⟨j, hj⟩ : ∃ j : Nat, T.rp = (j : Int) := ⟨T.rp.toNat, by omega⟩
      have hjn : j < T.n := by omega
      have r11 : w.cell? ⟨B.b 11, j, none⟩ = some (.int .i64 (T.at_ j).age) := HT.out.get hjn (.inl (by omega)) rfl
      have HA : Hid (ageF T = (T.at_ j).age) := Lib.hid ((if_pos h).trans (by rw [hj, Int.toNat_natCast]))
      have hji : (j : Int) < (T.n : Int) := by omega
      rw [hj] at qt
      rw [hj]
      clear hj h
      go_wp2
      go_quiet (fail)
      go_wp2
      go_meet
      exact ⟨by rw [HA.out], ⟨rfl, rfl, rfl, Nat.le_refl _, fun _ _ => rfl⟩⟩
    · have HA : Hid (ageF T = 0) := Lib.hid (if_neg h)
      go_wp2
      go_meet
      exact ⟨by rw [HA.out], Below.refl _ _⟩
  case rest =>
    obtain ⟨rfl, hb⟩ := hcut
    have hTc := HT.out.below hb
    have hSc := RStep.below B T.n hb
    clear qt
    obtain ⟨A, hA⟩ : ∃ A, ageF T = A := ⟨_, rfl⟩
    obtain ⟨V, hV⟩ : ∃ V, T.tell_ i = V := ⟨_, rfl⟩
    obtain ⟨q, hq⟩ : ∃ q, T.at_ i = q := ⟨_, rfl⟩
    obtain ⟨M, hM⟩ : ∃ M, msgF T i = M := ⟨_, rfl⟩
    have hmc := msg_chk T i
    rw [hA, hV] at hmc
    rw [hA]
    have hm : M = ⟨1, V, decide (0 < q.change), false, decide (q.role = 2) && decide (q.state ≠ 2) && !q.edge, false, decide (0 < q.state), (q.state == 2), mroleF q, A, 5120, 512, 3840⟩ := by
      rw [← hM]
      unfold msgF
      rw [hA, hV, hq]
      have e1 : decide (q.state ≥ 1) = decide (0 < q.state) := decide_eq_decide.2 (by omega)
      rw [e1]
      rfl
    have t0 : wc.cell? ⟨B.b 17, i * 4, none⟩ = some (.int .u64 V.root) := by have := hTc.get4 hi (f := 17) (.inr rfl) rfl 0 (by omega); rw [show cont T 17 i = (T.tell_ i).cells from rfl, hV] at this; exact this
    have t1 : wc.cell? ⟨B.b 17, i * 4 + 1, none⟩ = some (.int .u64 V.cost) := by have := hTc.get4 hi (f := 17) (.inr rfl) rfl 1 (by omega); rw [show cont T 17 i = (T.tell_ i).cells from rfl, hV] at this; exact this
    have t2 : wc.cell? ⟨B.b 17, i * 4 + 2, none⟩ = some (.int .u64 V.bridge) := by have := hTc.get4 hi (f := 17) (.inr rfl) rfl 2 (by omega); rw [show cont T 17 i = (T.tell_ i).cells from rfl, hV] at this; exact this
    have t3 : wc.cell? ⟨B.b 17, i * 4 + 3, none⟩ = some (.int .i64 V.port) := by have := hTc.get4 hi (f := 17) (.inr rfl) rfl 3 (by omega); rw [show cont T 17 i = (T.tell_ i).cells from rfl, hV] at this; exact this
    have qt := hTc.ownp hn0
    have HTC := Lib.hid hTc
    have HSC := Lib.hid hSc
    have HM := Lib.hid hM
    have HMM := Lib.hid hm
    have HQ := Lib.hid hq
    have HMC := Lib.hid hmc
    clear hTc hSc hM hm hq hmc hA hV hb
    by_cases hbad : (decide (0 ≤ A) && decide (A < 5120) && decide (0 ≤ V.port) && decide (V.port ≤ 65535) && decide (V.cost ≤ 4294967295)) = false
    · have HE : Hid (T = U) := Lib.hid (by rw [← HU.out]; exact (send_no (by rw [HMC.out]; exact hbad)).symm)
      by_cases c1 : A < 0
      · clear hbad
        go_wp2
        refine bodyPost_ret (results_none rfl _ _ _) rfl ?_
        exact ⟨B.ov, rfl, by rw [← HE.out]; exact HTC.out, HSC.out⟩
      by_cases c2 : 5120 ≤ A
      · clear hbad
        go_wp2
        refine bodyPost_ret (results_none rfl _ _ _) rfl ?_
        exact ⟨B.ov, rfl, by rw [← HE.out]; exact HTC.out, HSC.out⟩
      by_cases c3 : V.port < 0
      · clear hbad
        go_wp2
        refine bodyPost_ret (results_none rfl _ _ _) rfl ?_
        exact ⟨B.ov, rfl, by rw [← HE.out]; exact HTC.out, HSC.out⟩
      by_cases c4 : 65535 < V.port
      · clear hbad
        go_wp2
        refine bodyPost_ret (results_none rfl _ _ _) rfl ?_
        exact ⟨B.ov, rfl, by rw [← HE.out]; exact HTC.out, HSC.out⟩
      have c5 : 4294967295 < V.cost := Classical.byContradiction fun h => by
        simp only [Bool.and_eq_false_iff, decide_eq_false_iff_not] at hbad
        omega
      clear hbad
      go_wp2
      refine bodyPost_ret (results_none rfl _ _ _) rfl ?_
      exact ⟨B.ov, rfl, by rw [← HE.out]; exact HTC.out, HSC.out⟩
    have hgood : 0 ≤ A ∧ A < 5120 ∧ 0 ≤ V.port ∧ V.port ≤ 65535 ∧ V.cost ≤ 4294967295 := by
      have h := hbad
      simp only [Bool.not_eq_false, Bool.and_eq_true, decide_eq_true_eq] at h
      omega
    have HU3 : Hid ({ T with outs := T.outs ++ [⟨(i : Int), { M with agreement := b }⟩] } = U) := Lib.hid (by
      rw [← HU.out, ← HM.out]
      exact (send_yes (by rw [HMC.out]; exact Bool.of_not_eq_false hbad)).symm)
    obtain ⟨g1, g2, g3, g4, g5⟩ := hgood
    have c1 : ¬ A < 0 := by omega
    have c2 : ¬ 5120 ≤ A := by omega
    have c3 : ¬ V.port < 0 := by omega
    have c4 : ¬ 65535 < V.port := by omega
    have c5 : ¬ 4294967295 < V.cost := by omega
    clear hbad g1 g2 g3 g4 g5 HU HMC
    have r10 := HTC.out.g10 hi
    have r14 := HTC.out.g14 hi
    rw [HQ.out] at r10 r14
    go_upto_region 4 with fail
    clear c1 c2 c3 c4 c5
    have HU := Lib.hid HU3.out
    clear HU3
    have lt1 := HTC.out.t.lt
    have l17 := (HTC.out.r hn0 17 (.inr rfl)).lt
    have l14 := (HTC.out.r hn0 14 (.inl (by omega))).lt
    have l10 := (HTC.out.r hn0 10 (.inl (by omega))).lt
    go_region_held3 (fun w' => w'.cell? ⟨B.tb, 20, none⟩ = some (.slice (some ⟨B.b 17, 0, none⟩) T.n (B.c 17)) ∧ w'.cell? ⟨B.tb, 14, none⟩ = some (.slice (some ⟨B.b 14, 0, none⟩) T.n (B.c 14)) ∧ w'.cell? ⟨B.tb, 10, none⟩ = some (.slice (some ⟨B.b 10, 0, none⟩) T.n (B.c 10)) ∧ w'.cell? ⟨B.b 17, i * 4, none⟩ = some (.int .u64 V.root) ∧ w'.cell? ⟨B.b 17, i * 4 + 1, none⟩ = some (.int .u64 V.cost) ∧ w'.cell? ⟨B.b 17, i * 4 + 2, none⟩ = some (.int .u64 V.bridge) ∧ w'.cell? ⟨B.b 17, i * 4 + 3, none⟩ = some (.int .i64 V.port)
        ∧ w'.cell? ⟨B.b 14, i, none⟩ = some (.int .i64 q.change) ∧ w'.cell? ⟨B.b 10, i, none⟩ = some (.int .i64 q.state))
      (first | go_keep | ((try dsimp only); (repeat' apply And.intro) <;> go_keep)) (fail)
    rename_i hHd
    clear hHd
    have hbl := (((Below.refl wc.heap.size wc).alloc (Nat.le_refl _) (.cells #[.int .i64 1, .int .u64 V.root, .int .u64 V.cost, .int .u64 V.bridge, .int .i64 V.port, .bool (decide (0 < q.change)), .bool false, .bool false, .bool b, .bool (decide (0 < q.state)), .bool (q.state == 2), .int .i64 1, .int .i64 A, .int .i64 5120, .int .i64 512, .int .i64 3840] 41)).drew)
    have hB7 := (Blk.new wc #[.int .i64 1, .int .u64 V.root, .int .u64 V.cost, .int .u64 V.bridge, .int .i64 V.port, .bool (decide (0 < q.change)), .bool false, .bool false, .bool b, .bool (decide (0 < q.state)), .bool (q.state == 2), .int .i64 1, .int .i64 A, .int .i64 5120, .int .i64 512, .int .i64 3840] 41).drewN 1
    have hT7 := HTC.out.below hbl
    have hS7 := HSC.out.trans (RStep.below B T.n hbl)
    have hNB : ¬ ROwn B T.n wc.heap.size := fun h => by have := HTC.out.own_lt h; omega
    have hge : w.heap.size ≤ wc.heap.size := HSC.out.fr.size
    change Blk (wc.alloc (.cells #[.int .i64 1, .int .u64 V.root, .int .u64 V.cost, .int .u64 V.bridge, .int .i64 V.port, .bool (decide (0 < q.change)), .bool false, .bool false, .bool b, .bool (decide (0 < q.state)), .bool (q.state == 2), .int .i64 1, .int .i64 A, .int .i64 5120, .int .i64 512, .int .i64 3840] 41)).drew _ _ _ at hB7
    clear t0 t1 t2 t3 qt r10 r14 lt1 l17 l14 l10 hbl
    generalize World.drew _ = W at hB7 hT7 hS7 ⊢
    generalize wc.heap.size = b7 at hB7 hNB hge ⊢
    have HB7 := Lib.hid hB7
    have HT7 := Lib.hid hT7
    have HS7 := Lib.hid hS7
    have HNB := Lib.hid hNB
    have HGE := Lib.hid hge
    have HSET : Hid (∀ (W' : World) (o : Nat) (v : Value), RefW W' B T → RStep w B T.n W' B → RefW (W'.setCell ⟨b7, o, none⟩ v) B T ∧ RStep w B T.n (W'.setCell ⟨b7, o, none⟩ v) B) := Lib.hid fun W' o v h1 h2 =>
      ⟨h1.fr ((Fr.refl (fun k => k = b7) W').set (p := ⟨b7, o, none⟩) (.inl rfl) v) (fun k hk e => HNB.out (e ▸ hk)), ⟨h2.fr.set (p := ⟨b7, o, none⟩) (.inr HGE.out) v, rfl, h2.sub⟩⟩
    clear hT7 hS7 hNB hge HTC HSC
    have q7 := hB7.cell
    have f7 := hB7.free
    have qt := HT7.out.ownp hn0
    have r9 := HT7.out.g9 hi
    rw [HQ.out] at r9
    clear hB7
    go_upto_if 103 with (fail)
    go_cut [] (fun wx => Blk wx b7 #[.int .i64 1, .int .u64 V.root, .int .u64 V.cost, .int .u64 V.bridge, .int .i64 V.port, .bool (decide (0 < q.change)), .bool false, .bool false, .bool b, .bool (decide (0 < q.state)), .bool (q.state == 2), .int .i64 (if q.role = 1 then 2 else 1), .int .i64 A, .int .i64 5120, .int .i64 512, .int .i64 3840] 41 ∧ RefW wx B T ∧ RStep w B T.n wx B)
    case first =>
      by_cases h1 : q.role = 1
      · have h1b : (q.role == 1) = true := by rw [h1]; rfl
        have hz := HSET.out W 11 (.int .i64 2) HT7.out HS7.out
        have hy : Blk (W.setCell ⟨b7, 11, none⟩ (.int .i64 2)) b7 #[.int .i64 1, .int .u64 V.root, .int .u64 V.cost, .int .u64 V.bridge, .int .i64 V.port, .bool (decide (0 < q.change)), .bool false, .bool false, .bool b, .bool (decide (0 < q.state)), .bool (q.state == 2), .int .i64 (if q.role = 1 then 2 else 1), .int .i64 A, .int .i64 5120, .int .i64 512, .int .i64 3840] 41 := by rw [if_pos h1]; exact HB7.out.set 11 (.int .i64 2)
        have HY := Lib.hid hy
        have HZ := Lib.hid hz
        clear h1 hz hy
        go_wp2
        go_meet
        exact ⟨HY.out, HZ.out.1, HZ.out.2⟩
      · have h1b : (q.role == 1) = false := by simpa using h1
        have HY : Hid (Blk W b7 #[.int .i64 1, .int .u64 V.root, .int .u64 V.cost, .int .u64 V.bridge, .int .i64 V.port, .bool (decide (0 < q.change)), .bool false, .bool false, .bool b, .bool (decide (0 < q.state)), .bool (q.state == 2), .int .i64 (if q.role = 1 then 2 else 1), .int .i64 A, .int .i64 5120, .int .i64 512, .int .i64 3840] 41) := by rw [if_neg h1]; exact HB7
        clear h1
        go_wp2
        go_meet
        exact ⟨HY.out, HT7.out, HS7.out⟩
    case rest =>
      obtain ⟨hB8, hT8, hS8⟩ := hcut
      clear q7 f7 qt r9 HB7 HT7 HS7
      have q7 := hB8.cell
      have f7 := hB8.free
      have qt := hT8.ownp hn0
      have r9 := hT8.g9 hi
      have r10 := hT8.g10 hi
      have r5 := hT8.g5 hi
      have nb := hT8.t.lt
      rw [HQ.out] at r9 r10 r5
      have e7 : B.tb ≠ b7 := fun h => HNB.out (.inl h.symm)
      have e9 : B.b 9 ≠ b7 := fun h => HNB.out (.inr (.inl ⟨hn0, 9, .inl (by omega), h.symm⟩))
      have e10 : B.b 10 ≠ b7 := fun h => HNB.out (.inr (.inl ⟨hn0, 10, .inl (by omega), h.symm⟩))
      have e5 : B.b 5 ≠ b7 := fun h => HNB.out (.inr (.inl ⟨hn0, 5, .inl (by omega), h.symm⟩))
      have HB8 := Lib.hid hB8
      have HT8 := Lib.hid hT8
      have HS8 := Lib.hid hS8
      clear hB8 hT8 hS8 nb
      go_upto_if 112 with (fail)
      generalize wc = W8 at *
      go_cut [] (fun wx => Blk wx b7 #[.int .i64 M.kind, .int .u64 M.v.root, .int .u64 M.v.cost, .int .u64 M.v.bridge, .int .i64 M.v.port, .bool M.change, .bool M.ack, .bool M.proposal, .bool b, .bool M.learning, .bool M.forwarding, .int .i64 M.role, .int .i64 M.age, .int .i64 M.maxAge, .int .i64 M.hello, .int .i64 M.delay] 41 ∧ RefW wx B T ∧ RStep w B T.n wx B)
      case first =>
        by_cases h2 : q.role = 2
        · have h2b : (q.role == 2) = true := by rw [h2]; rfl
          by_cases hs : q.state = 2
          · rw [hs] at r10
            have HZ0 : Hid (M = ⟨1, V, decide (0 < q.change), false, false, false, decide (0 < q.state), (q.state == 2), 3, A, 5120, 512, 3840⟩) := Lib.hid (by rw [HMM.out]; unfold mroleF; rw [if_pos h2]; rw [decide_eq_false (show ¬ q.state ≠ 2 from fun h => h hs), Bool.and_false, Bool.false_and])
            have hz1 := HSET.out W8 11 (.int .i64 3) HT8.out HS8.out
            have hz2 := HSET.out _ 7 (.bool false) hz1.1 hz1.2
            have hy : Blk ((W8.setCell ⟨b7, 11, none⟩ (.int .i64 3)).setCell ⟨b7, 7, none⟩ (.bool false)) b7 #[.int .i64 M.kind, .int .u64 M.v.root, .int .u64 M.v.cost, .int .u64 M.v.bridge, .int .i64 M.v.port, .bool M.change, .bool M.ack, .bool M.proposal, .bool b, .bool M.learning, .bool M.forwarding, .int .i64 M.role, .int .i64 M.age, .int .i64 M.maxAge, .int .i64 M.hello, .int .i64 M.delay] 41 := by rw [HZ0.out]; exact (HB8.out.set 11 (.int .i64 3)).set 7 (.bool false)
            have HY := Lib.hid hy
            have HZ := Lib.hid hz2
            clear hz1 hz2 hy h2 hs
            go_wp2
            go_meet
            exact ⟨HY.out, HZ.out.1, HZ.out.2⟩
          · have hsb : (q.state != 2) = true := by simpa using hs
            cases he : q.edge with
            | true =>
              rw [he] at r5
              have HZ0 : Hid (M = ⟨1, V, decide (0 < q.change), false, false, false, decide (0 < q.state), (q.state == 2), 3, A, 5120, 512, 3840⟩) := Lib.hid (by rw [HMM.out]; unfold mroleF; rw [if_pos h2]; rw [he, Bool.not_true, Bool.and_false])
              have hz1 := HSET.out W8 11 (.int .i64 3) HT8.out HS8.out
              have hz2 := HSET.out _ 7 (.bool false) hz1.1 hz1.2
              have hy : Blk ((W8.setCell ⟨b7, 11, none⟩ (.int .i64 3)).setCell ⟨b7, 7, none⟩ (.bool false)) b7 #[.int .i64 M.kind, .int .u64 M.v.root, .int .u64 M.v.cost, .int .u64 M.v.bridge, .int .i64 M.v.port, .bool M.change, .bool M.ack, .bool M.proposal, .bool b, .bool M.learning, .bool M.forwarding, .int .i64 M.role, .int .i64 M.age, .int .i64 M.maxAge, .int .i64 M.hello, .int .i64 M.delay] 41 := by rw [HZ0.out]; exact (HB8.out.set 11 (.int .i64 3)).set 7 (.bool false)
              have HY := Lib.hid hy
              have HZ := Lib.hid hz2
              clear hz1 hz2 hy h2 hs he
              go_wp2
              go_meet
              exact ⟨HY.out, HZ.out.1, HZ.out.2⟩
            | false =>
              rw [he] at r5
              have HZ0 : Hid (M = ⟨1, V, decide (0 < q.change), false, true, false, decide (0 < q.state), (q.state == 2), 3, A, 5120, 512, 3840⟩) := Lib.hid (by rw [HMM.out]; unfold mroleF; rw [if_pos h2]; rw [he, decide_eq_true h2, decide_eq_true hs]; rfl)
              have hz1 := HSET.out W8 11 (.int .i64 3) HT8.out HS8.out
              have hz2 := HSET.out _ 7 (.bool true) hz1.1 hz1.2
              have hy : Blk ((W8.setCell ⟨b7, 11, none⟩ (.int .i64 3)).setCell ⟨b7, 7, none⟩ (.bool true)) b7 #[.int .i64 M.kind, .int .u64 M.v.root, .int .u64 M.v.cost, .int .u64 M.v.bridge, .int .i64 M.v.port, .bool M.change, .bool M.ack, .bool M.proposal, .bool b, .bool M.learning, .bool M.forwarding, .int .i64 M.role, .int .i64 M.age, .int .i64 M.maxAge, .int .i64 M.hello, .int .i64 M.delay] 41 := by rw [HZ0.out]; exact (HB8.out.set 11 (.int .i64 3)).set 7 (.bool true)
              have HY := Lib.hid hy
              have HZ := Lib.hid hz2
              clear hz1 hz2 hy h2 hs he
              go_wp2
              go_meet
              exact ⟨HY.out, HZ.out.1, HZ.out.2⟩
        · have h2b : (q.role == 2) = false := by simpa using h2
          have HZ0 : Hid (M = ⟨1, V, decide (0 < q.change), false, false, false, decide (0 < q.state), (q.state == 2), (if q.role = 1 then 2 else 1), A, 5120, 512, 3840⟩) := Lib.hid (by rw [HMM.out]; unfold mroleF; rw [if_neg h2, decide_eq_false h2]; rfl)
          have hy : Blk W8 b7 #[.int .i64 M.kind, .int .u64 M.v.root, .int .u64 M.v.cost, .int .u64 M.v.bridge, .int .i64 M.v.port, .bool M.change, .bool M.ack, .bool M.proposal, .bool b, .bool M.learning, .bool M.forwarding, .int .i64 M.role, .int .i64 M.age, .int .i64 M.maxAge, .int .i64 M.hello, .int .i64 M.delay] 41 := by rw [HZ0.out]; exact HB8.out
          have HY := Lib.hid hy
          clear hy h2
          go_wp2
          go_meet
          exact ⟨HY.out, HT8.out, HS8.out⟩
      case rest =>
        obtain ⟨hB, hTW, hSW⟩ := hcut
        clear q7 f7 qt r9 r10 r5 HB8 HT8 HS8 e9 e10 e5 HSET
        generalize wc = W at *
        have qt := hTW.own
        have ft := hTW.t.free
        have lt := hTW.t.lt
        have e6 := e7
        have HTW := Lib.hid hTW
        have HSW := Lib.hid hSW
        have HAL : Hid (Below W.heap.size W (W.drew.alloc (.cells [.int .i64 (i : Int), .int .i64 M.kind, .int .u64 M.v.root, .int .u64 M.v.cost, .int .u64 M.v.bridge, .int .i64 M.v.port, .bool M.change, .bool M.ack, .bool M.proposal, .bool b, .bool M.learning, .bool M.forwarding, .int .i64 M.role, .int .i64 M.age, .int .i64 M.maxAge, .int .i64 M.hello, .int .i64 M.delay].toArray 84))) := Lib.hid ((((Below.refl W.heap.size W).drew).alloc (Nat.le_refl _) _))
        have HT2 : Hid (RefW (W.drew.alloc (.cells [.int .i64 (i : Int), .int .i64 M.kind, .int .u64 M.v.root, .int .u64 M.v.cost, .int .u64 M.v.bridge, .int .i64 M.v.port, .bool M.change, .bool M.ack, .bool M.proposal, .bool b, .bool M.learning, .bool M.forwarding, .int .i64 M.role, .int .i64 M.age, .int .i64 M.maxAge, .int .i64 M.hello, .int .i64 M.delay].toArray 84)) B T) := Lib.hid (hTW.below HAL.out)
        have hnr : Hid (¬ InRow B.ov b7) := Lib.hid (own_ne_blk hTW.o hB (by decide))
        clear hTW hSW
        go_upto_region 10 with fail
        refine wp_region_held_drew (S := fun w' => Blk w' b7 #[.int .i64 M.kind, .int .u64 M.v.root, .int .u64 M.v.cost, .int .u64 M.v.bridge, .int .i64 M.v.port, .bool M.change, .bool M.ack, .bool M.proposal, .bool b, .bool M.learning, .bool M.forwarding, .int .i64 M.role, .int .i64 M.age, .int .i64 M.maxAge, .int .i64 M.hello, .int .i64 M.delay] 41 ∧ ∀ o, w'.cell? ⟨b7, o, none⟩ = (#[.int .i64 M.kind, .int .u64 M.v.root, .int .u64 M.v.cost, .int .u64 M.v.bridge, .int .i64 M.v.port, .bool M.change, .bool M.ack, .bool M.proposal, .bool b, .bool M.learning, .bool M.forwarding, .int .i64 M.role, .int .i64 M.age, .int .i64 M.maxAge, .int .i64 M.hello, .int .i64 M.delay] : Array Value)[o]?) (by kernel_rfl) (held_drew hB) (fun hS => ?_)
        refine wpAnyH_take (i := 0) (v := .pointer (some ⟨B.tb, 0, none⟩)) (show _ = some (Oper.mk (some 133) _ _ _ _ _) from rfl) (by kernel_rfl) (by kernel_rfl) (by kernel_rfl) (fun _ _ _ h => h) (Or.inl ⟨by rfl, by intro w hSw; go_simp⟩) hS ?_
        try simp only [Act.put, List.setIfInBounds_toArray, List.set_cons_zero, List.set_cons_succ]
        refine wpAnyH_take (i := 1) (v := .pointer (some ⟨B.tb, 0, none⟩)) (show _ = some (Oper.mk (some 134) _ _ _ _ _) from rfl) (by kernel_rfl) (by kernel_rfl) (by kernel_rfl) (fun _ _ _ h => h) (Or.inl ⟨by rfl, by intro w hSw; go_simp⟩) hS ?_
        try simp only [Act.put, List.setIfInBounds_toArray, List.set_cons_zero, List.set_cons_succ]
        refine wpAnyH_take (i := 2) (v := .pointer (some ⟨B.tb, 0, none⟩)) (show _ = some (Oper.mk (some 135) _ _ _ _ _) from rfl) (by kernel_rfl) (by kernel_rfl) (by kernel_rfl) (fun _ _ _ h => h) (Or.inl ⟨by rfl, by intro w hSw; go_simp⟩) hS ?_
        try simp only [Act.put, List.setIfInBounds_toArray, List.set_cons_zero, List.set_cons_succ]
        refine wpAnyH_take (i := 3) (v := .pointer (some ⟨B.tb, 22, none⟩)) (show _ = some (Oper.mk (some 136) _ _ _ _ _) from rfl) (by kernel_rfl) (by kernel_rfl) (by kernel_rfl) (fun _ _ _ h => h) (Or.inl ⟨by rfl, by intro w hSw; go_simp⟩) hS ?_
        try simp only [Act.put, List.setIfInBounds_toArray, List.set_cons_zero, List.set_cons_succ]
        refine wpAnyH_take (i := 5) (v := .int .i64 (i : Int)) (show _ = some (Oper.mk (some 138) _ _ _ _ _) from rfl) (by kernel_rfl) (by kernel_rfl) (by kernel_rfl) (fun _ _ _ h => h) (Or.inl ⟨by rfl, by intro w hSw; go_simp⟩) hS ?_
        try simp only [Act.put, List.setIfInBounds_toArray, List.set_cons_zero, List.set_cons_succ]
        refine wpAnyH_take (i := 6) (show _ = some (Oper.mk (some 139) _ _ _ _ _) from rfl) (by kernel_rfl) (by kernel_rfl) (by kernel_rfl) (fun _ _ _ h => h) (yieldsIf_load_blk (by rfl) 41 _ rfl b7 rfl 41 #[.int .i64 M.kind, .int .u64 M.v.root, .int .u64 M.v.cost, .int .u64 M.v.bridge, .int .i64 M.v.port, .bool M.change, .bool M.ack, .bool M.proposal, .bool b, .bool M.learning, .bool M.forwarding, .int .i64 M.role, .int .i64 M.age, .int .i64 M.maxAge, .int .i64 M.hello, .int .i64 M.delay] _ (fun _ h => h.1) Try.underlying41 rfl sz41) hS ?_
        try simp only [Act.put, List.setIfInBounds_toArray, List.set_cons_zero, List.set_cons_succ]
        refine wpAnyH_take (i := 7) (v := .agg #[.int .i64 (i : Int), .int .i64 M.kind, .int .u64 M.v.root, .int .u64 M.v.cost, .int .u64 M.v.bridge, .int .i64 M.v.port, .bool M.change, .bool M.ack, .bool M.proposal, .bool b, .bool M.learning, .bool M.forwarding, .int .i64 M.role, .int .i64 M.age, .int .i64 M.maxAge, .int .i64 M.hello, .int .i64 M.delay]) (show _ = some (Oper.mk (some 140) _ _ _ _ _) from rfl) (by kernel_rfl) (by kernel_rfl) (by kernel_rfl) (fun _ _ _ h => h) (Or.inl ⟨by rfl, by intro w hSw; go_simp⟩) hS ?_
        try simp only [Act.put, List.setIfInBounds_toArray, List.set_cons_zero, List.set_cons_succ]
        refine wpAnyH_ready (rs := [4, 8]) (by kernel_rfl) (by simp) ?_
        refine AllReadyH.cons (show _ = some (Oper.mk (some 137) _ _ _ _ _) from rfl) (fun K hK => ?_) (AllReadyH.cons (show _ = some (Oper.mk (some 141) _ _ _ _ _) from rfl) (fun K hK => ?_) AllReadyH.nil)
        · go_simp
          refine hK.out _ _ hS (fun hS => ?_)
          clear hK K
          try simp only [Act.put, List.setIfInBounds_toArray, List.set_cons_zero, List.set_cons_succ]
          refine wpAnyH_ready (rs := [8]) (by kernel_rfl) (by simp) ?_
          refine AllReadyH.cons (show _ = some (Oper.mk (some 141) _ _ _ _ _) from rfl) (fun K hK => ?_) AllReadyH.nil
          go_simp
          refine hK.out _ _ (held_alloc hS _) (fun hS => ?_)
          clear hK K
          try simp only [Act.put, List.setIfInBounds_toArray, List.set_cons_zero, List.set_cons_succ]
          refine wpAnyH_ready (rs := [9]) (by kernel_rfl) (by simp) ?_
          refine AllReadyH.cons (show _ = some (Oper.mk (some 142) _ _ _ _ _) from rfl) (fun K hK => ?_) AllReadyH.nil
          refine step_append_one rfl (.tmp 137) (.tmp 141) 79 rfl 0 84 _ 17 96 Try.underlying79 info84 rfl (by decide) B.ov T.outs.length (outsL T.outs) rfl (by exact HT2.out.o) W.heap.size [.int .i64 (i : Int), .int .i64 M.kind, .int .u64 M.v.root, .int .u64 M.v.cost, .int .u64 M.v.bridge, .int .i64 M.v.port, .bool M.change, .bool M.ack, .bool M.proposal, .bool b, .bool M.learning, .bool M.forwarding, .int .i64 M.role, .int .i64 M.age, .int .i64 M.maxAge, .int .i64 M.hello, .int .i64 M.delay] 84 rfl (by exact Blk.new W.drew _ _) rfl (by simp [Value.oneCell']) (by unfold maxLen; omega) (by omega) (Nat.zero_le _) ?_
          intro v1 w1 hown1 hfr1 hin1
          obtain ⟨a1, c1, rfl⟩ := own_slice hown1
          have hb1 := HT2.out.t.fr hfr1 HT2.out.ov_tb
          have qt1 : w1.cell? ⟨B.tb, 22, none⟩ = some B.ov := (hb1.cell 22).trans rfl
          have ft1 := hb1.free
          clear hb1
          refine hK.out _ _ (held_fr hS hfr1 hnr.out) (fun hS => ?_)
          clear hK K
          try simp only [Act.put, List.setIfInBounds_toArray, List.set_cons_zero, List.set_cons_succ]
          refine wpAnyH_take (i := 10) (v := .pointer (some ⟨B.tb, 0, none⟩)) (show _ = some (Oper.mk (some 143) _ _ _ _ _) from rfl) (by kernel_rfl) (by kernel_rfl) (by kernel_rfl) (fun _ _ _ h => h) (Or.inl ⟨by rfl, by intro w hSw; go_simp⟩) hS ?_
          try simp only [Act.put, List.setIfInBounds_toArray, List.set_cons_zero, List.set_cons_succ]
          refine wpAnyH_take (i := 11) (v := .pointer (some ⟨B.tb, 22, none⟩)) (show _ = some (Oper.mk (some 144) _ _ _ _ _) from rfl) (by kernel_rfl) (by kernel_rfl) (by kernel_rfl) (fun _ _ _ h => h) (Or.inl ⟨by rfl, by intro w hSw; go_simp⟩) hS ?_
          try simp only [Act.put, List.setIfInBounds_toArray, List.set_cons_zero, List.set_cons_succ]
          refine wpAnyH_ready (rs := [12]) (by kernel_rfl) (by simp) ?_
          refine AllReadyH.cons (show _ = some (Oper.mk none _ _ _ _ _) from rfl) (fun K hK => ?_) AllReadyH.nil
          go_simp
          refine hK.out _ _ (held_set hS e6.symm _) (fun hS => ?_)
          clear hK K
          try simp only [Act.put, List.setIfInBounds_toArray, List.set_cons_zero, List.set_cons_succ]
          refine wpAnyH_done (by kernel_rfl) ?_ _
          go_wp2
          go_end0
          have hz := rsend_end (T := T) ⟨(i : Int), { M with agreement := b }⟩ (.slice a1 (T.outs.length + 1) c1) HTW.out (HAL.out) hown1 hfr1 hin1
          exact ⟨_, rfl, by rw [← HU.out]; exact hz.1, HSW.out.trans hz.2⟩
        · go_simp
          refine hK.out _ _ (held_alloc hS _) (fun hS => ?_)
          clear hK K
          try simp only [Act.put, List.setIfInBounds_toArray, List.set_cons_zero, List.set_cons_succ]
          refine wpAnyH_ready (rs := [4]) (by kernel_rfl) (by simp) ?_
          refine AllReadyH.cons (show _ = some (Oper.mk (some 137) _ _ _ _ _) from rfl) (fun K hK => ?_) AllReadyH.nil
          go_simp
          refine hK.out _ _ hS (fun hS => ?_)
          clear hK K
          try simp only [Act.put, List.setIfInBounds_toArray, List.set_cons_zero, List.set_cons_succ]
          refine wpAnyH_ready (rs := [9]) (by kernel_rfl) (by simp) ?_
          refine AllReadyH.cons (show _ = some (Oper.mk (some 142) _ _ _ _ _) from rfl) (fun K hK => ?_) AllReadyH.nil
          refine step_append_one rfl (.tmp 137) (.tmp 141) 79 rfl 0 84 _ 17 96 Try.underlying79 info84 rfl (by decide) B.ov T.outs.length (outsL T.outs) rfl (by exact HT2.out.o) W.heap.size [.int .i64 (i : Int), .int .i64 M.kind, .int .u64 M.v.root, .int .u64 M.v.cost, .int .u64 M.v.bridge, .int .i64 M.v.port, .bool M.change, .bool M.ack, .bool M.proposal, .bool b, .bool M.learning, .bool M.forwarding, .int .i64 M.role, .int .i64 M.age, .int .i64 M.maxAge, .int .i64 M.hello, .int .i64 M.delay] 84 rfl (by exact Blk.new W.drew _ _) rfl (by simp [Value.oneCell']) (by unfold maxLen; omega) (by omega) (Nat.zero_le _) ?_
          intro v1 w1 hown1 hfr1 hin1
          obtain ⟨a1, c1, rfl⟩ := own_slice hown1
          have hb1 := HT2.out.t.fr hfr1 HT2.out.ov_tb
          have qt1 : w1.cell? ⟨B.tb, 22, none⟩ = some B.ov := (hb1.cell 22).trans rfl
          have ft1 := hb1.free
          clear hb1
          refine hK.out _ _ (held_fr hS hfr1 hnr.out) (fun hS => ?_)
          clear hK K
          try simp only [Act.put, List.setIfInBounds_toArray, List.set_cons_zero, List.set_cons_succ]
          refine wpAnyH_take (i := 10) (v := .pointer (some ⟨B.tb, 0, none⟩)) (show _ = some (Oper.mk (some 143) _ _ _ _ _) from rfl) (by kernel_rfl) (by kernel_rfl) (by kernel_rfl) (fun _ _ _ h => h) (Or.inl ⟨by rfl, by intro w hSw; go_simp⟩) hS ?_
          try simp only [Act.put, List.setIfInBounds_toArray, List.set_cons_zero, List.set_cons_succ]
          refine wpAnyH_take (i := 11) (v := .pointer (some ⟨B.tb, 22, none⟩)) (show _ = some (Oper.mk (some 144) _ _ _ _ _) from rfl) (by kernel_rfl) (by kernel_rfl) (by kernel_rfl) (fun _ _ _ h => h) (Or.inl ⟨by rfl, by intro w hSw; go_simp⟩) hS ?_
          try simp only [Act.put, List.setIfInBounds_toArray, List.set_cons_zero, List.set_cons_succ]
          refine wpAnyH_ready (rs := [12]) (by kernel_rfl) (by simp) ?_
          refine AllReadyH.cons (show _ = some (Oper.mk none _ _ _ _ _) from rfl) (fun K hK => ?_) AllReadyH.nil
          go_simp
          refine hK.out _ _ (held_set hS e6.symm _) (fun hS => ?_)
          clear hK K
          try simp only [Act.put, List.setIfInBounds_toArray, List.set_cons_zero, List.set_cons_succ]
          refine wpAnyH_done (by kernel_rfl) ?_ _
          go_wp2
          go_end0
          have hz := rsend_end (T := T) ⟨(i : Int), { M with agreement := b }⟩ (.slice a1 (T.outs.length + 1) c1) HTW.out (HAL.out) hown1 hfr1 hin1
          exact ⟨_, rfl, by rw [← HU.out]; exact hz.1, HSW.out.trans hz.2⟩
set_option maxHeartbeats 4000000 in
theorem rtell_calls (T : Tr) (B : RB) (hn : T.n ≤ 16) (hrp : T.rp < (T.n : Int)) (hR : T.outs.length + T.n ≤ 1000000) (w : World) (hT : RefW w B T) (U : Tr) (hU : tellAll T = U) :
    Calls Try.prog 39 #[.pointer (some ⟨B.tb, 0, none⟩)] w (RSPost w B T.n U) := by
  have HU := Lib.hid hU
  have HT := Lib.hid hT
  have HRP := Lib.hid hrp
  have HR := Lib.hid hR
  clear hU hT hrp hR
  go_enter Try.func39, Try.ntmps39
  go_wp2
  go_loopg [2] T.n (fun gh s2 wx => ∃ (k : Nat) (v : Value), k + gh = T.n ∧ s2 = .int .i64 (k : Int) ∧ RefW wx { B with ov := v } (upto tellStep k T) ∧ RStep w B T.n wx { B with ov := v })
  case atStart => exact ⟨0, B.ov, by omega, rfl, HT.out, RStep.refl _ _ _⟩
  case round =>
    obtain ⟨k, v, hkg, rfl, hX, hS⟩ := hrel
    have HS := Lib.hid hS
    have sn := (kep_tells k T).n
    have sr := (kep_tells k T).rp
    have so := (shp_upto shp_tellStep k T).o
    rw [Nat.mul_one] at so
    clear hS
    cases gk with
    | zero =>
      have hkM : ¬ ((k : Int) < (T.n : Int)) := by omega
      have hk : k = T.n := by omega
      have hE := HU.out
      have hE2 : upto tellStep k T = U := by rw [hk]; exact hE
      generalize upto tellStep k T = X at hX sn hE2 so sr
      have qt : ∀ o, wr.cell? ⟨B.tb, o, none⟩ = (refC { B with ov := v } X)[o]? := hX.own
      have HX := Lib.hid hX
      unfold refC at qt
      rw [sn] at qt
      clear hX hE
      go_wp2
      go_end0
      exact ⟨v, rfl, by rw [← hE2]; exact HX.out, HS.out⟩
    | succ gh =>
      have hkM : (k : Int) < (T.n : Int) := by omega
      have HST : Hid (upto tellStep (k + 1) T = tellStep k (upto tellStep k T)) := Lib.hid rfl
      generalize upto tellStep k T = X at hX sn so sr HST
      have hkn : k < X.n := by omega
      have hX0 : 0 < X.n := by omega
      have hrx : X.rp < (X.n : Int) := by have := HRP.out; rw [sr, sn]; exact this
      have hox : X.outs.length + 1 ≤ 1000000 := by have := HR.out; omega
      have hnx : X.n ≤ 16 := by omega
      have HSD : Hid (∀ V, sendF k false X = V → Calls Try.prog 41 #[.pointer (some ⟨B.tb, 0, none⟩), .int .i64 (k : Int), .bool false] wr (RSPost wr { B with ov := v } X.n V)) := Lib.hid fun V hV => rsend_calls X { B with ov := v } k false hkn hnx hrx hox wr hX V hV
      have qt : ∀ o, wr.cell? ⟨B.tb, o, none⟩ = _ := hX.ownp hX0
      dsimp only at qt
      rw [sn] at qt
      have r9 : wr.cell? ⟨B.b 9, k, none⟩ = _ := hX.g9 hkn
      have r14 : wr.cell? ⟨B.b 14, k, none⟩ = _ := hX.g14 hkn
      have HX := Lib.hid hX
      have SN := Lib.hid sn
      clear hX sn so sr hkn hX0 hrx hox hnx
      obtain ⟨q, hq⟩ : ∃ q, X.at_ k = q := ⟨_, rfl⟩
      rw [hq] at r9 r14
      have HQ := Lib.hid hq
      clear hq
      by_cases h2 : q.role = 2
      · have h2b : (q.role == 2) = true := by simpa using h2
        have HZ : Hid (sendF k false X = tellStep k X) := by rw [tell_do (by rw [HQ.out]; exact .inl h2)]; exact Lib.hid rfl
        generalize tellStep k X = V at HZ HST
        have HCV := Lib.hid (HSD.out V HZ.out)
        rw [h2] at r9
        clear h2
        go_wp2_with (go_at_call 41; (with_reducible refine HCV.out.mono ?_); rintro e w' ⟨v', rfl, hT', hS'⟩)
        rw [SN.out] at hS'
        go_roundg gh
        case measure => omega
        case rel => exact ⟨k + 1, v', by omega, by go_num, by rw [HST.out]; exact hT', HS.out.ov hS'⟩
      · have h2b : (q.role == 2) = false := by simpa using h2
        by_cases h1 : q.role = 1 ∧ 0 < q.change
        · have h1b : (q.role == 1) = true := by simpa using h1.1
          have hc := h1.2
          have HZ : Hid (sendF k false X = tellStep k X) := by rw [tell_do (by rw [HQ.out]; exact .inr h1)]; exact Lib.hid rfl
          generalize tellStep k X = V at HZ HST
          have HCV := Lib.hid (HSD.out V HZ.out)
          clear h1 h2
          go_wp2_with (go_at_call 41; (with_reducible refine HCV.out.mono ?_); rintro e w' ⟨v', rfl, hT', hS'⟩)
          rw [SN.out] at hS'
          go_roundg gh
          case measure => omega
          case rel => exact ⟨k + 1, v', by omega, by go_num, by rw [HST.out]; exact hT', HS.out.ov hS'⟩
        · have HZ : Hid (tellStep k X = X) := Lib.hid (tell_skip (by rw [HQ.out]; exact fun h => h.elim h2 h1))
          by_cases h1r : q.role = 1
          · have h1b : (q.role == 1) = true := by simpa using h1r
            have hc : ¬ 0 < q.change := fun h => h1 ⟨h1r, h⟩
            clear h1 h2 h1r
            go_wp2
            go_roundg gh
            case measure => omega
            case rel => exact ⟨k + 1, v, by omega, by go_num, by rw [HST.out, HZ.out]; exact HX.out, HS.out⟩
          · have h1b : (q.role == 1) = false := by simpa using h1r
            clear h1 h2 h1r
            go_wp2
            go_roundg gh
            case measure => omega
            case rel => exact ⟨k + 1, v, by omega, by go_num, by rw [HST.out, HZ.out]; exact HX.out, HS.out⟩
end Go.Proofs.Ytjnbjcieepooaac
