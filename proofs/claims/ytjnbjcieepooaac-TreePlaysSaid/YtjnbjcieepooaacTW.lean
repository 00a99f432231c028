/- A tree in memory: its own struct, its ports, its roles, what it tells, its flushes, its messages; what a call may write of it; stores. -/
import Derived.Test.YtjnbjcieepooaacTM
import Derived.Test.YtjnbjcieepooaacLay
namespace Go.Proofs.Ytjnbjcieepooaac
open Go.RowKit
set_option linter.unusedVariables false
set_option linter.unusedSimpArgs false

/-- Where a tree lies. -/
structure TB where
  tb : Nat
  pb : Nat
  pc : Nat
  br : Nat
  bt : Nat
  fb : Nat
  pa : Option Addr
  ov : Value
def treeC (B : TB) (T : Tr) : Array Value := #[.int .u64 T.id, .slice B.pa T.n B.pc, .int .u64 T.vec.root, .int .u64 T.vec.cost, .int .u64 T.vec.bridge, .int .i64 T.vec.port, .int .i64 T.rp, .slice (some ⟨B.br, 0, none⟩) T.n T.n, .slice (some ⟨B.bt, 0, none⟩) T.n T.n, .int .i64 T.hello, B.ov, .slice (some ⟨B.fb, 0, none⟩) T.n T.n]
/-- A tree in memory. -/
structure TreeW (w : World) (B : TB) (T : Tr) : Prop where
  t : Blk w B.tb (treeC B T) 74
  p : 0 < T.n → B.pa = some ⟨B.pb, 0, none⟩ ∧ RowsB w B.pb 31 16 T.n (fun i => (T.at_ i).cells)
  r : RowsB w B.br 3 1 T.n (fun i => #[.int .i64 (T.role_ i)])
  l : RowsB w B.bt 27 4 T.n (fun i => (T.tell_ i).cells)
  f : RowsB w B.fb 4 1 T.n (fun i => #[.bool (T.flush.getD i false)])
  o : w.ownsRow 0 43 17 B.ov T.outs.length (outsL T.outs)
/-- A tree's own blocks. -/
def TOwn (B : TB) (n : Nat) (k : Nat) : Prop := k = B.tb ∨ (0 < n ∧ k = B.pb) ∨ k = B.br ∨ k = B.bt ∨ k = B.fb ∨ InRow B.ov k
theorem TreeW.own_lt {w : World} {B : TB} {T : Tr} (h : TreeW w B T) {k : Nat} (hk : TOwn B T.n k) : k < w.heap.size := by
  rcases hk with rfl | ⟨hn, rfl⟩ | rfl | rfl | rfl | hk
  · exact h.t.lt
  · exact (h.p hn).2.lt
  · exact h.r.lt
  · exact h.l.lt
  · exact h.f.lt
  · exact (own_ge h.o hk).2
theorem TreeW.fr {w w' : World} {B : TB} {T : Tr} {m : Nat → Prop} (h : TreeW w B T) (hf : Fr m w w') (hm : ∀ k, TOwn B T.n k → ¬ m k) : TreeW w' B T :=
  ⟨h.t.fr hf (hm _ (.inl rfl)), fun hn => ⟨(h.p hn).1, (h.p hn).2.fr hf (hm _ (.inr (.inl ⟨hn, rfl⟩)))⟩, h.r.fr hf (hm _ (.inr (.inr (.inl rfl)))), h.l.fr hf (hm _ (.inr (.inr (.inr (.inl rfl))))),
    h.f.fr hf (hm _ (.inr (.inr (.inr (.inr (.inl rfl)))))), own_fr h.o hf fun k hk => hm k (.inr (.inr (.inr (.inr (.inr hk)))))⟩
theorem TreeW.below {w w' : World} {B : TB} {T : Tr} (h : TreeW w B T) (hb : Below w.heap.size w w') : TreeW w' B T := h.fr (Fr.of_below (m := fun _ => False) hb) fun _ _ x => x
theorem TreeW.alloc {w : World} {B : TB} {T : Tr} (h : TreeW w B T) (o : Obj) : TreeW (w.alloc o) B T := h.below ((Below.refl _ _).alloc (Nat.le_refl _) _)
theorem TreeW.drew {w : World} {B : TB} {T : Tr} (h : TreeW w B T) : TreeW w.drew B T := h.below ((Below.refl _ _).drew)
theorem TreeW.drewN {w : World} {B : TB} {T : Tr} (h : TreeW w B T) (m : Nat) : TreeW (w.drewN m) B T := h.below ⟨rfl, rfl, rfl, Nat.le_refl _, fun _ _ => rfl⟩
/-- From one world to another one, in which nothing but the tree and new memory has turned. -/
structure TStep (w : World) (B : TB) (n : Nat) (w' : World) (B' : TB) : Prop where
  fr : Fr (TOwn B n) w w'
  tb : B'.tb = B.tb
  sub : ∀ k, TOwn B' n k → TOwn B n k ∨ w.heap.size ≤ k
theorem TStep.refl (w : World) (B : TB) (n : Nat) : TStep w B n w B := ⟨Fr.refl _ _, rfl, fun _ h => .inl h⟩
theorem TStep.trans {a b c : World} {A B C : TB} {n : Nat} (h : TStep a A n b B) (k : TStep b B n c C) : TStep a A n c C :=
  ⟨⟨k.fr.os.trans h.fr.os, k.fr.tape.trans h.fr.tape, k.fr.output.trans h.fr.output, Nat.le_trans h.fr.size k.fr.size, fun i hi hn =>
      (k.fr.block i (Nat.lt_of_lt_of_le hi h.fr.size) fun hB => by rcases h.sub i hB with h1 | h1; exact hn h1; omega).trans (h.fr.block i hi hn)⟩,
    k.tb.trans h.tb, fun i hi => by
      rcases k.sub i hi with h1 | h1
      · exact h.sub i h1
      · exact .inr (Nat.le_trans h.fr.size h1)⟩
theorem TStep.below {w w' : World} (B : TB) (n : Nat) (h : Below w.heap.size w w') : TStep w B n w' B := ⟨Fr.of_below h, rfl, fun _ h => .inl h⟩
theorem TStep.fr_below {w w' : World} {B B' : TB} {n base : Nat} (h : TStep w B n w' B') (hB : ∀ k, TOwn B n k → base ≤ k) (hb : base ≤ w.heap.size) : Below base w w' :=
  ⟨h.fr.os, h.fr.tape, h.fr.output, h.fr.size, fun k hk => h.fr.block k (by omega) fun ho => by have := hB k ho; omega⟩
/-- What a method of a tree leaves. -/
def TPost (w : World) (B : TB) (n : Nat) (U : Tr) (e : Ending) (w' : World) : Prop := ∃ B', e = .returned (.tuple #[]) ∧ TreeW w' B' U ∧ TStep w B n w' B'

/-- Some stores, one behind the other. -/
def setsW (b base : Nat) (l : List (Nat × Value)) (w : World) : World := l.foldl (fun w x => w.setCell ⟨b, base + x.1, none⟩ x.2) w
def setsC (l : List (Nat × Value)) (c : Array Value) : Array Value := l.foldl (fun c x => c.setIfInBounds x.1 x.2) c
theorem setsC_size (l : List (Nat × Value)) (c : Array Value) : (setsC l c).size = c.size := by
  induction l generalizing c with
  | nil => rfl
  | cons x l ih => show (setsC l (c.setIfInBounds x.1 x.2)).size = _; rw [ih]; simp
theorem RowsB.sets {b : Nat} {t : TypeId} {sz n : Nat} {m : Nat} (hm : m < n) (l : List (Nat × Value)) : ∀ {w : World} {f : Nat → Array Value}, RowsB w b t sz n f → (∀ x ∈ l, x.1 < sz) → RowsB (setsW b (m * sz) l w) b t sz n (updF f m (setsC l (f m))) := by
  induction l with
  | nil => intro w f h _; exact h.congr fun i _ => by
            by_cases e : i = m
            · subst e; rw [updF_same]; rfl
            · rw [updF_ne _ _ e]
  | cons x l ih =>
    intro w f h hl
    have h1 := h.set hm (hl x (by simp)) x.2
    have h2 := ih h1 fun y hy => hl y (by simp [hy])
    refine h2.congr fun i _ => ?_
    by_cases e : i = m
    · subst e; rw [updF_same, updF_same, updF_same]; rfl
    · rw [updF_ne _ _ e, updF_ne _ _ e, updF_ne _ _ e]
theorem setsW_fr (b base : Nat) (l : List (Nat × Value)) : ∀ (w : World), Fr (fun k => k = b) w (setsW b base l w) := by
  induction l with
  | nil => intro w; exact Fr.refl _ _
  | cons x l ih => intro w; exact ((Fr.refl (fun k => k = b) w).set (p := ⟨b, base + x.1, none⟩) (.inl rfl) x.2).trans (ih _)
theorem getD_set_self {α : Type} (l : List α) {i : Nat} (x d : α) (h : i < l.length) : (l.set i x).getD i d = x := by simp [List.getD, List.getElem?_set_self h]
theorem getD_set_ne {α : Type} (l : List α) {i j : Nat} (x d : α) (h : i ≠ j) : (l.set i x).getD j d = l.getD j d := by simp [List.getD, List.getElem?_set_ne h]
theorem TreeW.tb_ne {w : World} {B : TB} {T : Tr} (h : TreeW w B T) : (0 < T.n → B.tb ≠ B.pb) ∧ B.tb ≠ B.br ∧ B.tb ≠ B.bt ∧ B.tb ≠ B.fb ∧ ¬ InRow B.ov B.tb :=
  ⟨fun hn => (((h.p hn).2.ne_blk h.t (by decide))).symm, (h.r.ne_blk h.t (by decide)).symm, (h.l.ne_blk h.t (by decide)).symm, (h.f.ne_blk h.t (by decide)).symm, own_ne_blk h.o h.t (by decide)⟩
theorem own_ne_rows {w : World} {base size n b sz m : Nat} {e t : TypeId} {v : Value} {xs : List Value} {f : Nat → Array Value} (h : w.ownsRow base e size v n xs) (hb : RowsB w b t sz m f) (hne : e ≠ t) : ¬ InRow v b := by
  obtain ⟨cs, hb, _⟩ := hb; exact own_ne_blk h hb hne
/-- Stores into a port's row. -/
theorem TreeW.set_port {w : World} {B : TB} {T : Tr} (h : TreeW w B T) {i : Nat} (hi : i < T.n) (l : List (Nat × Value)) (x : TP) (hl : ∀ y ∈ l, y.1 < 16) (hx : x.cells = setsC l (T.at_ i).cells) : TreeW (setsW B.pb (i * 16) l w) B (T.upd i x) := by
  have hn : 0 < T.n := by omega
  obtain ⟨hpa, hp⟩ := h.p hn
  have hf := setsW_fr B.pb (i * 16) l w
  have hnn := upd_n T i x
  refine ⟨?_, fun _ => ⟨hpa, ?_⟩, ?_, ?_, ?_, ?_⟩
  · have := h.t.fr hf (h.tb_ne.1 hn)
    unfold treeC at this ⊢
    rw [hnn]; exact this
  · have := hp.sets hi l hl
    rw [hnn]
    refine this.congr fun j hj => ?_
    by_cases e : j = i
    · subst e; rw [updF_same, upd_at T x hj, hx]
    · rw [updF_ne _ _ e, upd_ne T x (fun h => e h.symm)]
  · rw [hnn]; exact h.r.fr hf (h.r.ne hp (by decide))
  · rw [hnn]; exact h.l.fr hf (h.l.ne hp (by decide))
  · rw [hnn]; exact h.f.fr hf (h.f.ne hp (by decide))
  · exact own_fr h.o hf fun k hk e => by subst e; exact own_ne_rows h.o hp (by decide) hk
theorem TStep.set_port {w w' : World} {B B' : TB} {n : Nat} (h : TStep w B n w' B') (hn : 0 < n) (base : Nat) (l : List (Nat × Value)) : TStep w B n (setsW B'.pb base l w') B' :=
  h.trans ⟨(setsW_fr B'.pb base l w').mono fun k _ e => .inr (.inl ⟨hn, e⟩), rfl, fun _ h => .inl h⟩
/-- A port is to forget. -/
theorem TreeW.set_flush {w : World} {B : TB} {T : Tr} (h : TreeW w B T) {i : Nat} (hi : i < T.n) (hfl : T.flush.length = T.n) : TreeW (w.setCell ⟨B.fb, i, none⟩ (.bool true)) B (T.fl i) := by
  have hn : 0 < T.n := by omega
  obtain ⟨hpa, hp⟩ := h.p hn
  have hf : Fr (fun k => k = B.fb) w (w.setCell ⟨B.fb, i, none⟩ (.bool true)) := (Fr.refl (fun k => k = B.fb) w).set (p := ⟨B.fb, i, none⟩) (.inl rfl) _
  refine ⟨h.t.fr hf h.tb_ne.2.2.2.1, fun _ => ⟨hpa, hp.fr hf (hp.ne h.f (by decide))⟩, h.r.fr hf (h.r.ne h.f (by decide)), h.l.fr hf (h.l.ne h.f (by decide)), ?_, own_fr h.o hf fun k hk e => by subst e; exact own_ne_rows h.o h.f (by decide) hk⟩
  have := h.f.set hi (o := 0) (by decide) (.bool true)
  rw [Nat.mul_one, Nat.add_zero] at this
  refine this.congr fun j hj => ?_
  show #[Value.bool ((T.flush.set i true).getD j false)] = _
  by_cases e : j = i
  · subst e; rw [updF_same, getD_set_self _ _ _ (by omega)]; rfl
  · rw [updF_ne _ _ e, getD_set_ne _ _ _ (fun h => e h.symm)]
theorem TStep.set_flush {w w' : World} {B B' : TB} {n : Nat} (h : TStep w B n w' B') (i : Nat) (v : Value) : TStep w B n (w'.setCell ⟨B'.fb, i, none⟩ v) B' :=
  h.trans ⟨(Fr.refl _ w').set (.inl (.inr (.inr (.inr (.inr (.inl rfl)))))) _, rfl, fun _ h => .inl h⟩
theorem TStep.alloc {w w' : World} {B B' : TB} {n : Nat} (h : TStep w B n w' B') (o : Obj) : TStep w B n (w'.alloc o) B' := h.trans (TStep.below _ _ ((Below.refl _ _).alloc (Nat.le_refl _) _))
/-- What is read of a tree. -/
theorem TreeW.own {w : World} {B : TB} {T : Tr} (h : TreeW w B T) : ∀ o, w.cell? ⟨B.tb, o, none⟩ = #[Value.int .u64 T.id, .slice B.pa T.n B.pc, .int .u64 T.vec.root, .int .u64 T.vec.cost, .int .u64 T.vec.bridge, .int .i64 T.vec.port, .int .i64 T.rp, .slice (some ⟨B.br, 0, none⟩) T.n T.n, .slice (some ⟨B.bt, 0, none⟩) T.n T.n, .int .i64 T.hello, B.ov, .slice (some ⟨B.fb, 0, none⟩) T.n T.n][o]? := h.t.cell
theorem TreeW.ownp {w : World} {B : TB} {T : Tr} (h : TreeW w B T) (hn : 0 < T.n) : ∀ o, w.cell? ⟨B.tb, o, none⟩ = #[Value.int .u64 T.id, .slice (some ⟨B.pb, 0, none⟩) T.n B.pc, .int .u64 T.vec.root, .int .u64 T.vec.cost, .int .u64 T.vec.bridge, .int .i64 T.vec.port, .int .i64 T.rp, .slice (some ⟨B.br, 0, none⟩) T.n T.n, .slice (some ⟨B.bt, 0, none⟩) T.n T.n, .int .i64 T.hello, B.ov, .slice (some ⟨B.fb, 0, none⟩) T.n T.n][o]? := by
  have := h.own
  rw [(h.p hn).1] at this
  exact this
/-- The same, the ports' address by a name of its own. -/
theorem TreeW.ownP {w : World} {B : TB} {T : Tr} (h : TreeW w B T) : ∃ P : Option Addr, (0 < T.n → P = some ⟨B.pb, 0, none⟩) ∧ Hid (B.pa = P) ∧ ∀ o, w.cell? ⟨B.tb, o, none⟩ = #[Value.int .u64 T.id, .slice P T.n B.pc, .int .u64 T.vec.root, .int .u64 T.vec.cost, .int .u64 T.vec.bridge, .int .i64 T.vec.port, .int .i64 T.rp, .slice (some ⟨B.br, 0, none⟩) T.n T.n, .slice (some ⟨B.bt, 0, none⟩) T.n T.n, .int .i64 T.hello, B.ov, .slice (some ⟨B.fb, 0, none⟩) T.n T.n][o]? :=
  ⟨B.pa, fun hn => (h.p hn).1, Lib.hid rfl, h.own⟩
/-- Whose blocks are others than whose. -/
structure TNe (B : TB) : Prop where
  tp : B.tb ≠ B.pb
  tr : B.tb ≠ B.br
  tl : B.tb ≠ B.bt
  tf : B.tb ≠ B.fb
  pr : B.pb ≠ B.br
  pl : B.pb ≠ B.bt
  pf : B.pb ≠ B.fb
  rf : B.br ≠ B.fb
  lf : B.bt ≠ B.fb
theorem TreeW.nes {w : World} {B : TB} {T : Tr} (h : TreeW w B T) (hn : 0 < T.n) : TNe B :=
  ⟨h.tb_ne.1 hn, h.tb_ne.2.1, h.tb_ne.2.2.1, h.tb_ne.2.2.2.1, (h.p hn).2.ne h.r (by decide), (h.p hn).2.ne h.l (by decide), (h.p hn).2.ne h.f (by decide), h.r.ne h.f (by decide), h.l.ne h.f (by decide)⟩
theorem TreeW.row {w : World} {B : TB} {T : Tr} (h : TreeW w B T) {i : Nat} (hi : i < T.n) (o : Nat) (ho : o < 16) : w.cell? ⟨B.pb, i * 16 + o, none⟩ = (T.at_ i).cells[o]? := (h.p (by omega)).2.cell i o hi ho
theorem TreeW.rowfree {w : World} {B : TB} {T : Tr} (h : TreeW w B T) (hn : 0 < T.n) (o : Nat) : w.frozen? ⟨B.pb, o, none⟩ = false := (h.p hn).2.free o
theorem TreeW.flush_at {w : World} {B : TB} {T : Tr} (h : TreeW w B T) {i : Nat} (hi : i < T.n) : w.cell? ⟨B.fb, i, none⟩ = some (.bool (T.flush.getD i false)) := by
  have := h.f.cell i 0 hi (by decide)
  rw [Nat.mul_one, Nat.add_zero] at this
  exact this
theorem TreeW.role_at {w : World} {B : TB} {T : Tr} (h : TreeW w B T) {i : Nat} (hi : i < T.n) : w.cell? ⟨B.br, i, none⟩ = some (.int .i64 (T.role_ i)) := by
  have := h.r.cell i 0 hi (by decide)
  rw [Nat.mul_one, Nat.add_zero] at this
  exact this
end Go.Proofs.Ytjnbjcieepooaac
