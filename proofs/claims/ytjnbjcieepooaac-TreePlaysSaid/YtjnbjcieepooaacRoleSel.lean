/- role.Select by its contract: the best way, the roles and what is told. -/
import Derived.Test.YtjnbjcieepooaacRole
import Derived.Test.YtjnbjcieepooaacOwn
import Derived.Deep.RegionWith
import Derived.Deep.MidRow
import Derived.Deep.RegionHeld3
import Derived.Deep.DeepCutAuto
import Derived.Laws.MakeOwn
import Derived.StillTailTactics
namespace Go.Proofs.Ytjnbjcieepooaac
open Go.RowKit
set_option linter.unusedVariables false
set_option linter.unusedSimpArgs false

/-- The best way so far, and its port. -/
structure Way where
  v : Vec
  p : Int
def takeW (bridge : Int) (ps : Nat → RPort) (S : Way) (k : Nat) : Bool :=
  (ps k).up && (ps k).has && !decide ((ps k).told.bridge = bridge) &&
    (decide ((overV (ps k).told (ps k).cost).root < S.v.root) || (decide (0 ≤ S.p) && betterF (fun i => (ps i).id) (overV (ps k).told (ps k).cost) k S.v S.p.toNat))
def wayN (bridge : Int) (ps : Nat → RPort) : Nat → Way
  | 0 => ⟨ownV bridge 0, -1⟩
  | k + 1 => if takeW bridge ps (wayN bridge ps k) k = true then ⟨overV (ps k).told (ps k).cost, (k : Int)⟩ else wayN bridge ps k
def tellF (bridge : Int) (ps : Nat → RPort) (S : Way) (i : Nat) : Vec := ⟨S.v.root, S.v.cost, bridge, (ps i).id⟩
def roleF (bridge : Int) (ps : Nat → RPort) (S : Way) (i : Nat) : Int := ofF (ps i) (decide ((i : Int) = S.p)) (tellF bridge ps S i)

theorem wayN_port (bridge : Int) (ps : Nat → RPort) (n : Nat) : -1 ≤ (wayN bridge ps n).p ∧ (wayN bridge ps n).p < (n : Int) := by
  induction n with
  | zero => exact ⟨by show (-1 : Int) ≤ -1; omega, by show (-1 : Int) < 0; omega⟩
  | succ n ih =>
    show -1 ≤ (if takeW bridge ps (wayN bridge ps n) n = true then _ else _ : Way).p ∧ (if takeW bridge ps (wayN bridge ps n) n = true then _ else _ : Way).p < _
    split
    · exact ⟨by show (-1 : Int) ≤ (n : Int); omega, by show (n : Int) < ((n + 1 : Nat) : Int); omega⟩
    · exact ⟨ih.1, by have := ih.2; omega⟩

/-- Ports that lie in memory, one behind the other. -/
structure PortsAt (w : World) (b off n : Nat) (ps : Nat → RPort) : Prop where
  lt : b < w.heap.size
  c0 : ∀ i, i < n → w.cell? ⟨b, off + i * 8, none⟩ = some (.int .i64 (ps i).id)
  c1 : ∀ i, i < n → w.cell? ⟨b, off + i * 8 + 1, none⟩ = some (.int .u64 (ps i).cost)
  c2 : ∀ i, i < n → w.cell? ⟨b, off + i * 8 + 2, none⟩ = some (.bool (ps i).up)
  c3 : ∀ i, i < n → w.cell? ⟨b, off + i * 8 + 3, none⟩ = some (.bool (ps i).has)
  c4 : ∀ i, i < n → w.cell? ⟨b, off + i * 8 + 4, none⟩ = some (.int .u64 (ps i).told.root)
  c5 : ∀ i, i < n → w.cell? ⟨b, off + i * 8 + 5, none⟩ = some (.int .u64 (ps i).told.cost)
  c6 : ∀ i, i < n → w.cell? ⟨b, off + i * 8 + 6, none⟩ = some (.int .u64 (ps i).told.bridge)
  c7 : ∀ i, i < n → w.cell? ⟨b, off + i * 8 + 7, none⟩ = some (.int .i64 (ps i).told.port)
theorem PortsAt.below {w w' : World} {b off n : Nat} {ps : Nat → RPort} (h : PortsAt w b off n ps) (hb : Below w.heap.size w w') : PortsAt w' b off n ps :=
  ⟨Nat.lt_of_lt_of_le h.lt hb.size, fun i hi => (hb.cell h.lt).trans (h.c0 i hi), fun i hi => (hb.cell h.lt).trans (h.c1 i hi), fun i hi => (hb.cell h.lt).trans (h.c2 i hi), fun i hi => (hb.cell h.lt).trans (h.c3 i hi), fun i hi => (hb.cell h.lt).trans (h.c4 i hi), fun i hi => (hb.cell h.lt).trans (h.c5 i hi), fun i hi => (hb.cell h.lt).trans (h.c6 i hi), fun i hi => (hb.cell h.lt).trans (h.c7 i hi)⟩

def roles0 : Array Value := #[.int .u64 0, .int .u64 0, .int .u64 0, .int .i64 0, .int .i64 0, .slice none 0 0, .slice none 0 0]

theorem in61 : (Try.prog.info? 29).map (·.size) = some 8 := by kernel_rfl
theorem port_row {w wx : World} {b off n k : Nat} {ps : Nat → RPort} (h : PortsAt w b off n ps) (hk : k < n) (hb : Below w.heap.size w wx) :
    wx.rangeAt b (off + k * 8) [.int .i64 (ps k).id, .int .u64 (ps k).cost, .bool (ps k).up, .bool (ps k).has, .int .u64 (ps k).told.root, .int .u64 (ps k).told.cost, .int .u64 (ps k).told.bridge, .int .i64 (ps k).told.port] := by
  have h' := h.below hb
  intro j v hj
  match j, hj with
  | 0, hj => obtain rfl := by simpa using hj
             exact h'.c0 k hk
  | 1, hj => obtain rfl := by simpa using hj
             exact h'.c1 k hk
  | 2, hj => obtain rfl := by simpa using hj
             exact h'.c2 k hk
  | 3, hj => obtain rfl := by simpa using hj
             exact h'.c3 k hk
  | 4, hj => obtain rfl := by simpa using hj
             exact h'.c4 k hk
  | 5, hj => obtain rfl := by simpa using hj
             exact h'.c5 k hk
  | 6, hj => obtain rfl := by simpa using hj
             exact h'.c6 k hk
  | 7, hj => obtain rfl := by simpa using hj
             exact h'.c7 k hk
  | j + 8, hj => simp at hj
abbrev wayCells (S : Way) : Array Value := #[.int .u64 S.v.root, .int .u64 S.v.cost, .int .u64 S.v.bridge, .int .i64 S.v.port, .int .i64 S.p]
/-- The world in Select's first loop. -/
structure SW (w : World) (b4 b5 : Nat) (S : Way) (wx : World) : Prop where
  z : Blk wx b4 roles0 72
  s : Blk wx b5 (wayCells S) 97
  l : Below w.heap.size w wx
  lt : b4 < b5
  ge : w.heap.size ≤ b4

theorem SW.alloc {w wx : World} {b4 b5 : Nat} {S : Way} (h : SW w b4 b5 S wx) (o : Obj) : SW w b4 b5 S (wx.alloc o) := ⟨h.z.alloc o, h.s.alloc o, h.l.alloc h.l.size o, h.lt, h.ge⟩
theorem SW.step {w wx w' : World} {b4 b5 : Nat} {S : Way} (h : SW w b4 b5 S wx) (hb : Below wx.heap.size wx w') : SW w b4 b5 S w' :=
  ⟨h.z.below hb h.z.lt, h.s.below hb h.s.lt, h.l.trans (hb.mono h.l.size), h.lt, h.ge⟩
theorem way_skip {g : Int} {ps : Nat → RPort} {k : Nat} (h : takeW g ps (wayN g ps k) k = false) : wayN g ps (k + 1) = wayN g ps k := by
  show (if takeW g ps (wayN g ps k) k = true then _ else _ : Way) = _
  rw [h]; rfl
theorem way_take {g : Int} {ps : Nat → RPort} {k : Nat} (h : takeW g ps (wayN g ps k) k = true) : wayN g ps (k + 1) = ⟨overV (ps k).told (ps k).cost, (k : Int)⟩ := by
  show (if takeW g ps (wayN g ps k) k = true then _ else _ : Way) = _
  rw [h]; rfl
theorem take_down {g : Int} {ps : Nat → RPort} {S : Way} {k : Nat} (h : (ps k).up = false) : takeW g ps S k = false := by unfold takeW; rw [h]; rfl
theorem take_none {g : Int} {ps : Nat → RPort} {S : Way} {k : Nat} (h : (ps k).has = false) : takeW g ps S k = false := by unfold takeW; rw [h]; simp
theorem take_own {g : Int} {ps : Nat → RPort} {S : Way} {k : Nat} (h : (ps k).told.bridge = g) : takeW g ps S k = false := by unfold takeW; simp [h]

theorem take_is {g : Int} {ps : Nat → RPort} {S : Way} {k : Nat} (h1 : (ps k).up = true) (h2 : (ps k).has = true) (h3 : ¬ (ps k).told.bridge = g) :
    takeW g ps S k = (decide ((overV (ps k).told (ps k).cost).root < S.v.root) || (decide (0 ≤ S.p) && betterF (fun i => (ps i).id) (overV (ps k).told (ps k).cost) k S.v S.p.toNat)) := by
  unfold takeW; rw [h1, h2, decide_eq_false h3]; simp
theorem SW.set {w wx : World} {b4 b5 : Nat} {S : Way} (h : SW w b4 b5 S wx) (T : Way) :
    SW w b4 b5 T (((((wx.setCell ⟨b5, 0, none⟩ (.int .u64 T.v.root)).setCell ⟨b5, 1, none⟩ (.int .u64 T.v.cost)).setCell ⟨b5, 2, none⟩ (.int .u64 T.v.bridge)).setCell ⟨b5, 3, none⟩ (.int .i64 T.v.port)).setCell ⟨b5, 4, none⟩ (.int .i64 T.p)) := by
  have hne : b4 ≠ b5 := Nat.ne_of_lt h.lt
  have hg : w.heap.size ≤ b5 := Nat.le_trans h.ge (Nat.le_of_lt h.lt)
  refine ⟨((((h.z.set_other hne _).set_other hne _).set_other hne _).set_other hne _).set_other hne _, ((((h.s.set 0 _).set 1 _).set 2 _).set 3 _).set 4 _, ?_, h.lt, h.ge⟩
  exact Fr.below (Fr.set (Fr.set (Fr.set (Fr.set (Fr.set (m := fun k => w.heap.size ≤ k) (Fr.of_below h.l) (.inl hg) _) (.inl hg) _) (.inl hg) _) (.inl hg) _) (.inl hg) _) (Nat.le_refl _)

/-- What Select hands back beside the way: the roles and what is told, each in a block of its own. -/
structure SelOut (wx : World) (n : Nat) (g : Int) (ps : Nat → RPort) (S : Way) (br bt : Nat) (cr ct : Array Value) (kr kt : Nat) : Prop where
  r : Blk wx br cr 3
  rs : cr.size = n
  rv : ∀ j, j < kr → cr[j]? = some (.int .i64 (roleF g ps S j))
  t : Blk wx bt ct 27
  ts : ct.size = n * 4
  t0 : ∀ j, j < kt → ct[j * 4]? = some (.int .u64 (tellF g ps S j).root)
  t1 : ∀ j, j < kt → ct[j * 4 + 1]? = some (.int .u64 (tellF g ps S j).cost)
  t2 : ∀ j, j < kt → ct[j * 4 + 2]? = some (.int .u64 (tellF g ps S j).bridge)
  t3 : ∀ j, j < kt → ct[j * 4 + 3]? = some (.int .i64 (tellF g ps S j).port)
/-- The world in Select's second loop. -/
structure RW (w : World) (n : Nat) (g : Int) (ps : Nat → RPort) (S : Way) (b4 b5 bo br bt : Nat) (kr kt : Nat) (wx : World) : Prop where
  z : Blk wx b4 roles0 72
  s : Blk wx b5 (wayCells S) 97
  o : Blk wx bo #[.int .u64 S.v.root, .int .u64 S.v.cost, .int .u64 S.v.bridge, .int .i64 S.v.port, .int .i64 S.p, .slice (some ⟨br, 0, none⟩) n n, .slice (some ⟨bt, 0, none⟩) n n] 72
  out : ∃ cr ct, SelOut wx n g ps S br bt cr ct kr kt
  l : Below w.heap.size w wx
  ge : w.heap.size ≤ b4
  g1 : b4 < b5
  g2 : b5 < bo
  g3 : b5 < br
  g4 : b5 < bt
  n1 : bo ≠ br
  n2 : bo ≠ bt
  n3 : br ≠ bt
theorem SelOut.fr {wx w' : World} {n : Nat} {g : Int} {ps : Nat → RPort} {S : Way} {br bt : Nat} {cr ct : Array Value} {kr kt : Nat} {m : Nat → Prop} (h : SelOut wx n g ps S br bt cr ct kr kt) (hf : Fr m wx w') (h1 : ¬ m br) (h2 : ¬ m bt) : SelOut w' n g ps S br bt cr ct kr kt :=
  ⟨h.r.fr hf h1, h.rs, h.rv, h.t.fr hf h2, h.ts, h.t0, h.t1, h.t2, h.t3⟩
theorem RW.step {w wx w' : World} {n : Nat} {g : Int} {ps : Nat → RPort} {S : Way} {b4 b5 bo br bt kr kt : Nat} (h : RW w n g ps S b4 b5 bo br bt kr kt wx) (hb : Below wx.heap.size wx w') : RW w n g ps S b4 b5 bo br bt kr kt w' := by
  obtain ⟨cr, ct, ho⟩ := h.out
  exact ⟨h.z.below hb h.z.lt, h.s.below hb h.s.lt, h.o.below hb h.o.lt, ⟨cr, ct, ho.fr (Fr.of_below (m := fun _ => False) hb) (fun h => h) (fun h => h)⟩, h.l.trans (hb.mono h.l.size), h.ge, h.g1, h.g2, h.g3, h.g4, h.n1, h.n2, h.n3⟩
theorem RW.alloc {w wx : World} {n : Nat} {g : Int} {ps : Nat → RPort} {S : Way} {b4 b5 bo br bt kr kt : Nat} (h : RW w n g ps S b4 b5 bo br bt kr kt wx) (o : Obj) : RW w n g ps S b4 b5 bo br bt kr kt (wx.alloc o) :=
  h.step ((Below.refl _ _).alloc (Nat.le_refl _) _)
theorem RW.role {w wx : World} {n : Nat} {g : Int} {ps : Nat → RPort} {S : Way} {b4 b5 bo br bt k kt : Nat} (h : RW w n g ps S b4 b5 bo br bt k kt wx) (hk : k < n) (x : Int) (hx : roleF g ps S k = x) :
    RW w n g ps S b4 b5 bo br bt (k + 1) kt (wx.setCell ⟨br, k, none⟩ (.int .i64 x)) := by
  obtain ⟨cr, ct, ho⟩ := h.out
  have hge := h.ge; have g1 := h.g1; have g3 := h.g3
  have hrs := ho.rs
  refine ⟨h.z.set_other (by show b4 ≠ br; omega) _, h.s.set_other (by show b5 ≠ br; omega) _, h.o.set_other h.n1 _, ⟨cr.setIfInBounds k (.int .i64 x), ct, ho.r.set _ _, by simp [hrs], fun j hj => ?_, ho.t.set_other (by show bt ≠ br; exact h.n3.symm) _, ho.ts, ho.t0, ho.t1, ho.t2, ho.t3⟩, h.l.setCell (by show w.heap.size ≤ br; omega) _, h.ge, h.g1, h.g2, h.g3, h.g4, h.n1, h.n2, h.n3⟩
  by_cases hj' : j = k
  · subst hj'; rw [get_set_self (by omega), hx]
  · rw [get_set_ne (by omega)]; exact ho.rv j (by omega)
theorem RW.tell {w wx : World} {n : Nat} {g : Int} {ps : Nat → RPort} {S : Way} {b4 b5 bo br bt kr k : Nat} (h : RW w n g ps S b4 b5 bo br bt kr k wx) (hk : k < n) (v : Vec) (hv : tellF g ps S k = v) :
    RW w n g ps S b4 b5 bo br bt kr (k + 1) ((((wx.setCell ⟨bt, k * 4, none⟩ (.int .u64 v.root)).setCell ⟨bt, k * 4 + 1, none⟩ (.int .u64 v.cost)).setCell ⟨bt, k * 4 + 2, none⟩ (.int .u64 v.bridge)).setCell ⟨bt, k * 4 + 3, none⟩ (.int .i64 v.port)) := by
  obtain ⟨cr, ct, ho⟩ := h.out
  have hge := h.ge; have g1 := h.g1; have g4 := h.g4
  have hts := ho.ts
  have e4 : b4 ≠ bt := by omega
  have e5 : b5 ≠ bt := by omega
  refine ⟨(((h.z.set_other e4 _).set_other e4 _).set_other e4 _).set_other e4 _, (((h.s.set_other e5 _).set_other e5 _).set_other e5 _).set_other e5 _, (((h.o.set_other h.n2 _).set_other h.n2 _).set_other h.n2 _).set_other h.n2 _,
    ⟨cr, (((ct.setIfInBounds (k * 4) (.int .u64 v.root)).setIfInBounds (k * 4 + 1) (.int .u64 v.cost)).setIfInBounds (k * 4 + 2) (.int .u64 v.bridge)).setIfInBounds (k * 4 + 3) (.int .i64 v.port), (((ho.r.set_other h.n3 _).set_other h.n3 _).set_other h.n3 _).set_other h.n3 _, ho.rs, ho.rv, (((ho.t.set _ _).set _ _).set _ _).set _ _, by simp [hts], fun j hj => ?_, fun j hj => ?_, fun j hj => ?_, fun j hj => ?_⟩, ?_, h.ge, h.g1, h.g2, h.g3, h.g4, h.n1, h.n2, h.n3⟩
  · by_cases hj' : j = k
    · subst hj'; rw [get_set_ne (by omega), get_set_ne (by omega), get_set_ne (by omega), get_set_self (by omega), hv]
    · rw [get_set_ne (by omega), get_set_ne (by omega), get_set_ne (by omega), get_set_ne (by omega)]; exact ho.t0 j (by omega)
  · by_cases hj' : j = k
    · subst hj'; rw [get_set_ne (by omega), get_set_ne (by omega), get_set_self (by simp; omega), hv]
    · rw [get_set_ne (by omega), get_set_ne (by omega), get_set_ne (by omega), get_set_ne (by omega)]; exact ho.t1 j (by omega)
  · by_cases hj' : j = k
    · subst hj'; rw [get_set_ne (by omega), get_set_self (by simp; omega), hv]
    · rw [get_set_ne (by omega), get_set_ne (by omega), get_set_ne (by omega), get_set_ne (by omega)]; exact ho.t2 j (by omega)
  · by_cases hj' : j = k
    · subst hj'; rw [get_set_self (by simp; omega), hv]
    · rw [get_set_ne (by omega), get_set_ne (by omega), get_set_ne (by omega), get_set_ne (by omega)]; exact ho.t3 j (by omega)
  · have hg : w.heap.size ≤ bt := by omega
    exact (((h.l.setCell hg _).setCell hg _).setCell hg _).setCell hg _
theorem RW.there {w wx : World} {n : Nat} {g : Int} {ps : Nat → RPort} {S : Way} {b4 b5 bo br bt kr kt : Nat} (h : RW w n g ps S b4 b5 bo br bt kr kt wx) {j : Nat} (hj : j < n) :
    ∃ y0 y1 y2 y3 x0 : Value, wx.cell? ⟨bt, j * 4, none⟩ = some y0 ∧ wx.cell? ⟨bt, j * 4 + 1, none⟩ = some y1 ∧ wx.cell? ⟨bt, j * 4 + 2, none⟩ = some y2 ∧ wx.cell? ⟨bt, j * 4 + 3, none⟩ = some y3 ∧ (∀ o, wx.frozen? ⟨bt, o, none⟩ = false) ∧ wx.cell? ⟨br, j, none⟩ = some x0 ∧ ∀ o, wx.frozen? ⟨br, o, none⟩ = false := by
  obtain ⟨cr, ct, ho⟩ := h.out
  have hts := ho.ts
  have hrs := ho.rs
  have hx : ∀ o, o < n * 4 → ∃ y, wx.cell? ⟨bt, o, none⟩ = some y := fun o ho' => ⟨_, by rw [ho.t.cell, Array.getElem?_eq_getElem (by omega)]⟩
  obtain ⟨y0, h0⟩ := hx (j * 4) (by omega)
  obtain ⟨y1, h1⟩ := hx (j * 4 + 1) (by omega)
  obtain ⟨y2, h2⟩ := hx (j * 4 + 2) (by omega)
  obtain ⟨y3, h3⟩ := hx (j * 4 + 3) (by omega)
  exact ⟨y0, y1, y2, y3, _, h0, h1, h2, h3, ho.t.free, by rw [ho.r.cell, Array.getElem?_eq_getElem (show j < cr.size by omega)], ho.r.free⟩
def SelPost (w : World) (n : Nat) (g : Int) (ps : Nat → RPort) (S : Way) (e : Ending) (w' : World) : Prop := ∃ br bt cr ct, e = .returned (.agg #[.int .u64 S.v.root, .int .u64 S.v.cost, .int .u64 S.v.bridge, .int .i64 S.v.port, .int .i64 S.p, .slice (some ⟨br, 0, none⟩) n n, .slice (some ⟨bt, 0, none⟩) n n])
  ∧ SelOut w' n g ps S br bt cr ct n n ∧ w.heap.size ≤ br ∧ w.heap.size ≤ bt ∧ Below w.heap.size w w'

theorem RW.told {w wx : World} {n : Nat} {g : Int} {ps : Nat → RPort} {S : Way} {b4 b5 bo br bt kr kt : Nat} (h : RW w n g ps S b4 b5 bo br bt kr kt wx) {j : Nat} (hj : j < kt) :
    wx.cell? ⟨bt, j * 4, none⟩ = some (.int .u64 S.v.root) ∧ wx.cell? ⟨bt, j * 4 + 1, none⟩ = some (.int .u64 S.v.cost) ∧ wx.cell? ⟨bt, j * 4 + 2, none⟩ = some (.int .u64 g) ∧ wx.cell? ⟨bt, j * 4 + 3, none⟩ = some (.int .i64 (ps j).id) := by
  obtain ⟨cr, ct, ho⟩ := h.out
  exact ⟨by rw [ho.t.cell]; exact ho.t0 j hj, by rw [ho.t.cell]; exact ho.t1 j hj, by rw [ho.t.cell]; exact ho.t2 j hj, by rw [ho.t.cell]; exact ho.t3 j hj⟩
theorem RW.final {w wx : World} {n : Nat} {g : Int} {ps : Nat → RPort} {S : Way} {b5 bo br bt : Nat} (h : RW w n g ps S w.heap.size b5 bo br bt n n wx) (W : World)
    (hW : ((((((wx.setCell ⟨w.heap.size, 0, none⟩ (.int .u64 S.v.root)).setCell ⟨w.heap.size, 1, none⟩ (.int .u64 S.v.cost)).setCell ⟨w.heap.size, 2, none⟩ (.int .u64 S.v.bridge)).setCell ⟨w.heap.size, 3, none⟩ (.int .i64 S.v.port)).setCell ⟨w.heap.size, 4, none⟩ (.int .i64 S.p)).setCell ⟨w.heap.size, 5, none⟩ (.slice (some ⟨br, 0, none⟩) n n)).setCell ⟨w.heap.size, 6, none⟩ (.slice (some ⟨bt, 0, none⟩) n n) = W) :
    Blk W w.heap.size #[.int .u64 S.v.root, .int .u64 S.v.cost, .int .u64 S.v.bridge, .int .i64 S.v.port, .int .i64 S.p, .slice (some ⟨br, 0, none⟩) n n, .slice (some ⟨bt, 0, none⟩) n n] 72 ∧
    SelPost w n g ps S (.returned (.agg #[.int .u64 S.v.root, .int .u64 S.v.cost, .int .u64 S.v.bridge, .int .i64 S.v.port, .int .i64 S.p, .slice (some ⟨br, 0, none⟩) n n, .slice (some ⟨bt, 0, none⟩) n n])) W := by
  subst hW
  obtain ⟨cr, ct, ho⟩ := h.out
  have g1 := h.g1; have g3 := h.g3; have g4 := h.g4
  have hf : ∀ v0 v1 v2 v3 v4 v5 v6, Fr (fun k => k = w.heap.size) wx (((((((wx.setCell ⟨w.heap.size, 0, none⟩ v0).setCell ⟨w.heap.size, 1, none⟩ v1).setCell ⟨w.heap.size, 2, none⟩ v2).setCell ⟨w.heap.size, 3, none⟩ v3).setCell ⟨w.heap.size, 4, none⟩ v4).setCell ⟨w.heap.size, 5, none⟩ v5).setCell ⟨w.heap.size, 6, none⟩ v6) := fun v0 v1 v2 v3 v4 v5 v6 =>
    (((((((Fr.refl (fun k => k = w.heap.size) wx).set (.inl rfl) v0).set (.inl rfl) v1).set (.inl rfl) v2).set (.inl rfl) v3).set (.inl rfl) v4).set (.inl rfl) v5).set (.inl rfl) v6
  exact ⟨((((((h.z.set 0 _).set 1 _).set 2 _).set 3 _).set 4 _).set 5 _).set 6 _, br, bt, cr, ct, rfl, ho.fr (hf _ _ _ _ _ _ _) (by omega) (by omega), by omega, by omega, Below.fr h.l (hf _ _ _ _ _ _ _) h.l.size fun i _ hi => by omega⟩
theorem sel_make1 (k : Nat) (hk : k ≤ 1000000) (W : World) : (Instr.makeSlice 37 (.int .i64 (k : Int)) (.int .i64 (k : Int))).run Try.prog W = .ok (.slice (some ⟨W.heap.size, 0, none⟩) k k) (W.alloc (.cells (madeCells #[.int .i64 0] k) 3)) := by
  obtain ⟨i0, hi0, hz0, hz1, hz2⟩ := info_parts (show (Try.prog.info? 3).map (fun i => (i.zero, i.size, i.bytes)) = some (some (.int .i64 0), 1, 8) by kernel_rfl)
  have := run_make (P := Try.prog) W 37 3 i0 (.int .i64 0) Try.underlying37 hi0 hz0 .i64 .i64 (k : Int) (k : Int) (by omega) (Int.le_refl _) (by rw [hz2]; omega) (by omega)
  rw [hz1, Nat.mul_one] at this
  exact this
theorem sel_make2 (k : Nat) (hk : k ≤ 1000000) (W : World) : (Instr.makeSlice 70 (.int .i64 (k : Int)) (.int .i64 (k : Int))).run Try.prog W = .ok (.slice (some ⟨W.heap.size, 0, none⟩) k k) (W.alloc (.cells (madeCells #[.int .u64 0, .int .u64 0, .int .u64 0, .int .i64 0] (k * 4)) 27)) := by
  obtain ⟨i0, hi0, hz0, hz1, hz2⟩ := info_parts (show (Try.prog.info? 27).map (fun i => (i.zero, i.size, i.bytes)) = some (some (.agg #[.int .u64 0, .int .u64 0, .int .u64 0, .int .i64 0]), 4, 32) by kernel_rfl)
  have := run_make (P := Try.prog) W 70 27 i0 (.agg #[.int .u64 0, .int .u64 0, .int .u64 0, .int .i64 0]) Try.underlying70 hi0 hz0 .i64 .i64 (k : Int) (k : Int) (by omega) (Int.le_refl _) (by rw [hz2]; omega) (by omega)
  rw [hz1] at this
  exact this
/-- Three blocks more, the last one written over whole. -/
theorem alloc3_cell {W : World} {b : Nat} (hb : b < W.heap.size) (a c d : Obj) (o : Nat) : (((W.alloc a).alloc c).alloc d).cell? ⟨b, o, none⟩ = W.cell? ⟨b, o, none⟩ :=
  (((((Below.refl W.heap.size W).alloc (Nat.le_refl _) a).alloc (by simp) c).alloc (by simp; omega) d).cell (p := ⟨b, o, none⟩) hb)
theorem size_alloc' (W : World) (o : Obj) : (W.alloc o).heap.size = W.heap.size + 1 := by simp
theorem blk_1 (W : World) (a : Array Value) (t : TypeId) (o2 o3 : Obj) : Blk (((W.alloc (.cells a t)).alloc o2).alloc o3).drew W.heap.size a t := ((Blk.new W a t).alloc o2).alloc o3
theorem blk_2 (W : World) (a : Array Value) (t : TypeId) (o1 o3 : Obj) : Blk (((W.alloc o1).alloc (.cells a t)).alloc o3).drew (W.heap.size + 1) a t := by
  have h := (Blk.new (W.alloc o1) a t).alloc o3
  simp only [size_alloc'] at h
  exact h
theorem blk_3 (W : World) (a : Array Value) (t : TypeId) (o1 o2 : Obj) : Blk (((W.alloc o1).alloc o2).alloc (.cells a t)).drew (W.heap.size + 1 + 1) a t := by
  have h := Blk.new ((W.alloc o1).alloc o2) a t
  simp only [size_alloc'] at h
  exact h
theorem below_3 (W : World) (a b c : Obj) : Below W.heap.size W (((W.alloc a).alloc b).alloc c).drew := ((((Below.refl W.heap.size W).alloc (Nat.le_refl _) a).alloc (by simp) b).alloc (by simp; omega) c).drew
theorem RW.made {w wr wx : World} {n : Nat} {g : Int} {ps : Nat → RPort} {S : Way} {b4 b5 bo br bt : Nat} (h : SW w b4 b5 S wr) (hb : Below wr.heap.size wr wx)
    (ho : Blk wx bo #[.int .u64 S.v.root, .int .u64 S.v.cost, .int .u64 S.v.bridge, .int .i64 S.v.port, .int .i64 S.p, .slice (some ⟨br, 0, none⟩) n n, .slice (some ⟨bt, 0, none⟩) n n] 72)
    (hr : Blk wx br (madeCells #[.int .i64 0] n) 3) (ht : Blk wx bt (madeCells #[.int .u64 0, .int .u64 0, .int .u64 0, .int .i64 0] (n * 4)) 27)
    (l1 : wr.heap.size ≤ bo) (l2 : wr.heap.size ≤ br) (l3 : wr.heap.size ≤ bt) (n1 : bo ≠ br) (n2 : bo ≠ bt) (n3 : br ≠ bt) : RW w n g ps S b4 b5 bo br bt 0 0 wx :=
  ⟨h.z.below hb h.z.lt, h.s.below hb h.s.lt, ho, ⟨_, _, hr, size_madeCells _ _, fun j hj => absurd hj (by omega), ht, size_madeCells _ _, fun j hj => absurd hj (by omega), fun j hj => absurd hj (by omega), fun j hj => absurd hj (by omega), fun j hj => absurd hj (by omega)⟩,
    h.l.trans (hb.mono h.l.size), h.ge, h.lt, by have := h.s.lt; omega, by have := h.s.lt; omega, by have := h.s.lt; omega, n1, n2, n3⟩

set_option maxRecDepth 8000 in
set_option maxHeartbeats 4000000 in
theorem select_calls (g : Int) (ps : Nat → RPort) (a : Option Addr) (n cap : Nat) (hn : n ≤ 1000000) (hok : ∀ i, i < n → (ps i).ok) (w : World) (hp : 0 < n → ∃ b off, a = some ⟨b, off, none⟩ ∧ PortsAt w b off n ps) (S : Way) (hS : wayN g ps n = S) :
    Calls Try.prog 50 #[.int .u64 g, .slice a n cap] w (SelPost w n g ps S) := by
  have HS := Lib.hid hS
  clear hS
  go_enter Try.func50, Try.ntmps50
  go_upto_region 2 with (go_at_call 19; (with_reducible refine (own_calls g 0 _).mono ?_); rintro e w' ⟨rfl, hb1⟩)
  have hC : SW w w.heap.size w'.heap.size ⟨ownV g 0, -1⟩ (w'.alloc (.cells (wayCells ⟨ownV g 0, -1⟩) 97)) :=
    ⟨((Blk.new w roles0 72).below hb1 (Blk.new w roles0 72).lt).alloc _, Blk.new _ _ _, (((Below.refl w.heap.size w).alloc (Nat.le_refl _) (.cells roles0 72)).trans (hb1.mono (by simp [roles0]))).alloc (by have := hb1.size; simp at this; omega) _, by have := hb1.size; simp at this; omega, Nat.le_refl _⟩
  generalize w'.alloc (.cells (wayCells ⟨ownV g 0, -1⟩) 97) = W2 at hC ⊢
  generalize w'.heap.size = b5 at hC ⊢
  clear hb1
  clear w'
  go_wp2
  go_loopg [17] n (fun gh s17 wx => ∃ k : Nat, k + gh = n ∧ s17 = .int .i64 (k : Int) ∧ SW w w.heap.size b5 (wayN g ps k) wx)
  case atStart => exact ⟨0, by omega, rfl, hC⟩
  case round =>
    obtain ⟨k, hkg, rfl, hC⟩ := hrel
    cases gk with
    | zero =>
      have hkM : ¬ ((k : Int) < (n : Int)) := by omega
      obtain rfl : k = n := by omega
      rw [HS.out] at hC
      obtain ⟨⟨sr, sc, sb, sp⟩, spo⟩ := S
      have q5 : ∀ o, wr.cell? ⟨b5, o, none⟩ = #[Value.int .u64 sr, .int .u64 sc, .int .u64 sb, .int .i64 sp, .int .i64 spo][o]? := hC.s.cell
      have mk1 := sel_make1 k hn
      have mk2 := sel_make2 k hn
      have hlt5 := hC.s.lt
      have hk3 : ∀ a c d o, (((wr.alloc a).alloc c).alloc d).cell? ⟨b5, o, none⟩ = wr.cell? ⟨b5, o, none⟩ := fun a c d o => alloc3_cell hlt5 a c d o
      go_upto_region 10 with fail
      go_cut [9] (fun s9 wx => ∃ bo br bt : Nat, s9 = .pointer (some ⟨bo, 0, none⟩) ∧ RW w k g ps ⟨⟨sr, sc, sb, sp⟩, spo⟩ w.heap.size b5 bo br bt 0 0 wx)
      case first =>
        go_region_held3 (fun w' => w'.cell? ⟨b5, 0, none⟩ = some (.int .u64 sr) ∧ w'.cell? ⟨b5, 1, none⟩ = some (.int .u64 sc) ∧ w'.cell? ⟨b5, 2, none⟩ = some (.int .u64 sb) ∧ w'.cell? ⟨b5, 3, none⟩ = some (.int .i64 sp) ∧ w'.cell? ⟨b5, 4, none⟩ = some (.int .i64 spo))
          (first | go_keep | simp [hk3, q5]) (fail)
        all_goals (go_wp2_with fail; go_meet; exact ⟨_, _, _, rfl, RW.made hC (below_3 _ _ _ _) (by first | exact blk_1 _ _ _ _ _ | exact blk_2 _ _ _ _ _ | exact blk_3 _ _ _ _ _) (by first | exact blk_1 _ _ _ _ _ | exact blk_2 _ _ _ _ _ | exact blk_3 _ _ _ _ _) (by first | exact blk_1 _ _ _ _ _ | exact blk_2 _ _ _ _ _ | exact blk_3 _ _ _ _ _) (by omega) (by omega) (by omega) (by omega) (by omega) (by omega)⟩)
      case rest =>
        obtain ⟨bo, br, bt, rfl, hR⟩ := hcut
        clear hk3 mk1 mk2 hlt5 q5 hC
        go_wp2
        go_loopg [77] k (fun gh s77 wx => ∃ j : Nat, j + gh = k ∧ s77 = .int .i64 (j : Int) ∧ RW w k g ps ⟨⟨sr, sc, sb, sp⟩, spo⟩ w.heap.size b5 bo br bt j j wx)
        case atStart => exact ⟨0, by omega, rfl, hR⟩
        case round =>
          obtain ⟨j, hjg, rfl, hR⟩ := hrel
          cases gk with
          | zero =>
            have hjM : ¬ ((j : Int) < (k : Int)) := by omega
            obtain rfl : j = k := by omega
            have qo : ∀ o, wr.cell? ⟨bo, o, none⟩ = #[Value.int .u64 sr, .int .u64 sc, .int .u64 sb, .int .i64 sp, .int .i64 spo, .slice (some ⟨br, 0, none⟩) j j, .slice (some ⟨bt, 0, none⟩) j j][o]? := hR.o.cell
            have qz : ∀ o, wr.cell? ⟨w.heap.size, o, none⟩ = #[Value.int .u64 0, .int .u64 0, .int .u64 0, .int .i64 0, .int .i64 0, .slice none 0 0, .slice none 0 0][o]? := hR.z.cell
            have fz : ∀ o, wr.frozen? ⟨w.heap.size, o, none⟩ = false := hR.z.free
            clear hkM hkg hp
            go_wp2
            obtain ⟨hz7, hpost⟩ := hR.final _ rfl
            clear qo qz fz
            revert hz7 hpost
            generalize World.setCell (World.setCell _ _ _) _ _ = W7
            intro hz7 hpost
            have q7 := hz7.cell
            exact bodyPost_ret (v := .agg #[.int .u64 sr, .int .u64 sc, .int .u64 sb, .int .i64 sp, .int .i64 spo, .slice (some ⟨br, 0, none⟩) j j, .slice (some ⟨bt, 0, none⟩) j j]) (by simp [results, Try.results50, go_sem, q7]) rfl hpost
          | succ gh =>
            have hjM : (j : Int) < (k : Int) := by omega
            obtain ⟨b, off, rfl, hP⟩ := hp (by omega)
            have hr := port_row hP (show j < k by omega) hR.l
            go_upto_region 14 with (refine wpList_load_mid rfl 29 _ rfl b (off + j * 8) rfl [.int .i64 (ps j).id, .int .u64 (ps j).cost, .bool (ps j).up, .bool (ps j).has, .int .u64 (ps j).told.root, .int .u64 (ps j).told.cost, .int .u64 (ps j).told.bridge, .int .i64 (ps j).told.port] _ hr Try.underlying29 rfl in61 ?_)
            have hR13 := hR.alloc (.cells #[.int .i64 (ps j).id, .int .u64 (ps j).cost, .bool (ps j).up, .bool (ps j).has, .int .u64 (ps j).told.root, .int .u64 (ps j).told.cost, .int .u64 (ps j).told.bridge, .int .i64 (ps j).told.port] 29)
            have h13 := Blk.new wr #[.int .i64 (ps j).id, .int .u64 (ps j).cost, .bool (ps j).up, .bool (ps j).has, .int .u64 (ps j).told.root, .int .u64 (ps j).told.cost, .int .u64 (ps j).told.bridge, .int .i64 (ps j).told.port] 29
            have l13 : ∀ cr ct, SelOut wr k g ps ⟨⟨sr, sc, sb, sp⟩, spo⟩ br bt cr ct j j → br < wr.heap.size ∧ bt < wr.heap.size := fun cr ct h => ⟨h.r.lt, h.t.lt⟩
            obtain ⟨m1, m2⟩ : br < wr.heap.size ∧ bt < wr.heap.size := by obtain ⟨cr, ct, h⟩ := hR.out; exact l13 cr ct h
            have m3 : bo < wr.heap.size := hR.o.lt
            have m4 : b5 < wr.heap.size := hR.s.lt
            generalize wr.alloc (.cells #[.int .i64 (ps j).id, .int .u64 (ps j).cost, .bool (ps j).up, .bool (ps j).has, .int .u64 (ps j).told.root, .int .u64 (ps j).told.cost, .int .u64 (ps j).told.bridge, .int .i64 (ps j).told.port] 29) = w13 at hR13 h13 ⊢
            generalize wr.heap.size = bp at h13 m1 m2 m3 m4 ⊢
            clear hr l13 hR hP
            have q13 : ∀ o, w13.cell? ⟨bp, o, none⟩ = #[Value.int .i64 (ps j).id, .int .u64 (ps j).cost, .bool (ps j).up, .bool (ps j).has, .int .u64 (ps j).told.root, .int .u64 (ps j).told.cost, .int .u64 (ps j).told.bridge, .int .i64 (ps j).told.port][o]? := h13.cell
            have qo : ∀ o, w13.cell? ⟨bo, o, none⟩ = #[Value.int .u64 sr, .int .u64 sc, .int .u64 sb, .int .i64 sp, .int .i64 spo, .slice (some ⟨br, 0, none⟩) k k, .slice (some ⟨bt, 0, none⟩) k k][o]? := hR13.o.cell
            have q5 : ∀ o, w13.cell? ⟨b5, o, none⟩ = #[Value.int .u64 sr, .int .u64 sc, .int .u64 sb, .int .i64 sp, .int .i64 spo][o]? := hR13.s.cell
            obtain ⟨y0, y1, y2, y3, x0, c0, c1, c2, c3, d0, e0, e1⟩ := hR13.there (show j < k by omega)
            go_upto_region 15 with fail
            have hT := hR13.tell (show j < k by omega) ⟨sr, sc, g, (ps j).id⟩ rfl
            have hne : bp ≠ bt := by omega
            have h14 := (((h13.set_other (a := ⟨bt, j * 4, none⟩) hne (.int .u64 sr)).set_other (a := ⟨bt, j * 4 + 1, none⟩) hne (.int .u64 sc)).set_other (a := ⟨bt, j * 4 + 2, none⟩) hne (.int .u64 g)).set_other (a := ⟨bt, j * 4 + 3, none⟩) hne (.int .i64 (ps j).id)
            clear qo q5 q13 h13 hR13 c0 c1 c2 c3 d0 e0 e1
            revert hT h14
            generalize World.setCell (World.setCell _ _ _) _ _ = W14
            intro hT h14
            have q13 : ∀ o, W14.cell? ⟨bp, o, none⟩ = #[Value.int .i64 (ps j).id, .int .u64 (ps j).cost, .bool (ps j).up, .bool (ps j).has, .int .u64 (ps j).told.root, .int .u64 (ps j).told.cost, .int .u64 (ps j).told.bridge, .int .i64 (ps j).told.port][o]? := h14.cell
            have qo : ∀ o, W14.cell? ⟨bo, o, none⟩ = #[Value.int .u64 sr, .int .u64 sc, .int .u64 sb, .int .i64 sp, .int .i64 spo, .slice (some ⟨br, 0, none⟩) k k, .slice (some ⟨bt, 0, none⟩) k k][o]? := hT.o.cell
            have q5 : ∀ o, W14.cell? ⟨b5, o, none⟩ = #[Value.int .u64 sr, .int .u64 sc, .int .u64 sb, .int .i64 sp, .int .i64 spo][o]? := hT.s.cell
            obtain ⟨c0, c1, c2, c3⟩ := hT.told (show j < j + 1 by omega)
            obtain ⟨_, _, _, _, x0, _, _, _, _, _, e0, e1⟩ := hT.there (show j < k by omega)
            obtain ⟨x, hx⟩ : ∃ x, roleF g ps ⟨⟨sr, sc, sb, sp⟩, spo⟩ j = x := ⟨_, rfl⟩
            obtain ⟨B, hB⟩ : ∃ B, ((j : Int) == spo) = B := ⟨_, rfl⟩
            have HX : Hid (ofF (ps j) B ⟨sr, sc, g, (ps j).id⟩ = x) := by rw [← hB]; exact hx
            have HX' := Lib.hid hx
            clear hx
            have hst : Hid (∀ w', Below W14.heap.size W14 w' → RW w k g ps ⟨⟨sr, sc, sb, sp⟩, spo⟩ w.heap.size b5 bo br bt j (j + 1) w') := fun w' hb => hT.step hb
            have h14' : Hid (∀ w', Below W14.heap.size W14 w' → Blk w' bp #[.int .i64 (ps j).id, .int .u64 (ps j).cost, .bool (ps j).up, .bool (ps j).has, .int .u64 (ps j).told.root, .int .u64 (ps j).told.cost, .int .u64 (ps j).told.bridge, .int .i64 (ps j).told.port] 29) := fun w' hb => h14.below hb h14.lt
            have hn1 : bp ≠ br := by omega
            have hn2 : b5 ≠ br := by have := hT.g3; omega
            have hn3 : bo ≠ br := hT.n1
            have hn4 : bt ≠ br := hT.n3.symm
            clear hT h14
            go_region_held3 (fun w' => w'.cell? ⟨bp, 0, none⟩ = some (.int .i64 (ps j).id) ∧ w'.cell? ⟨bp, 1, none⟩ = some (.int .u64 (ps j).cost) ∧ w'.cell? ⟨bp, 2, none⟩ = some (.bool (ps j).up) ∧ w'.cell? ⟨bp, 3, none⟩ = some (.bool (ps j).has) ∧ w'.cell? ⟨bp, 4, none⟩ = some (.int .u64 (ps j).told.root) ∧ w'.cell? ⟨bp, 5, none⟩ = some (.int .u64 (ps j).told.cost) ∧ w'.cell? ⟨bp, 6, none⟩ = some (.int .u64 (ps j).told.bridge) ∧ w'.cell? ⟨bp, 7, none⟩ = some (.int .i64 (ps j).told.port)
                ∧ w'.cell? ⟨b5, 4, none⟩ = some (.int .i64 spo) ∧ w'.cell? ⟨bo, 5, none⟩ = some (.slice (some ⟨br, 0, none⟩) k k) ∧ w'.cell? ⟨bo, 6, none⟩ = some (.slice (some ⟨bt, 0, none⟩) k k)
                ∧ w'.cell? ⟨bt, j * 4, none⟩ = some (.int .u64 sr) ∧ w'.cell? ⟨bt, j * 4 + 1, none⟩ = some (.int .u64 sc) ∧ w'.cell? ⟨bt, j * 4 + 2, none⟩ = some (.int .u64 g) ∧ w'.cell? ⟨bt, j * 4 + 3, none⟩ = some (.int .i64 (ps j).id))
              (first | go_keep | ((try dsimp only); (repeat' apply And.intro) <;> go_keep) | ((try dsimp only); (repeat' apply And.intro) <;> (rw [cell_set_ne (by assumption)]; first | assumption | exact hz _ | exact hz' _ | exact hz3 _)))
              ((go_at_call 59; (with_reducible refine (of_calls (ps j) B ⟨sr, sc, g, (ps j).id⟩ x HX.out _).mono ?_); rintro e w' ⟨rfl, hb1⟩; have hR9 := hst.out _ (below_undrew hb1); have hz'' := h14'.out _ (below_undrew hb1); obtain ⟨hc0, hc1, hc2, hc3⟩ := hR9.told (show j < j + 1 by omega); obtain ⟨_, _, _, _, x9, _, _, _, _, _, e9, e8⟩ := hR9.there (show j < k by omega); have hz := hR9.s.cell; have hz' := hR9.o.cell; have hz3 := hz''.cell))
            have hF := hR9.role (show j < k by omega) x HX'.out
            clear hz hz' hz3 hc0 hc1 hc2 hc3 e9 e8 hR9 hst h14' c0 c1 c2 c3 e0 e1 qo q5 q13 hb1
            go_wp2
            go_roundg gh
            case measure => omega
            case rel => exact ⟨j + 1, by omega, by go_num, hF⟩
    | succ gh =>
      have hkM : (k : Int) < (n : Int) := by omega
      obtain ⟨b, off, rfl, hP⟩ := hp (by omega)
      have hr := port_row hP (show k < n by omega) hC.l
      go_upto_region 5 with (refine wpList_load_mid rfl 29 _ rfl b (off + k * 8) rfl [.int .i64 (ps k).id, .int .u64 (ps k).cost, .bool (ps k).up, .bool (ps k).has, .int .u64 (ps k).told.root, .int .u64 (ps k).told.cost, .int .u64 (ps k).told.bridge, .int .i64 (ps k).told.port] _ hr Try.underlying29 rfl in61 ?_)
      have hC7 := hC.alloc (.cells #[.int .i64 (ps k).id, .int .u64 (ps k).cost, .bool (ps k).up, .bool (ps k).has, .int .u64 (ps k).told.root, .int .u64 (ps k).told.cost, .int .u64 (ps k).told.bridge, .int .i64 (ps k).told.port] 29)
      have h7 := Blk.new wr #[.int .i64 (ps k).id, .int .u64 (ps k).cost, .bool (ps k).up, .bool (ps k).has, .int .u64 (ps k).told.root, .int .u64 (ps k).told.cost, .int .u64 (ps k).told.bridge, .int .i64 (ps k).told.port] 29
      have hb75 : b5 < wr.heap.size := hC.s.lt
      generalize wr.alloc (.cells #[.int .i64 (ps k).id, .int .u64 (ps k).cost, .bool (ps k).up, .bool (ps k).has, .int .u64 (ps k).told.root, .int .u64 (ps k).told.cost, .int .u64 (ps k).told.bridge, .int .i64 (ps k).told.port] 29) = w7 at hC7 h7 ⊢
      generalize wr.heap.size = b7 at h7 hb75 ⊢
      clear hr hC
      have hokk := hok k (by omega)
      have q7 := h7.cell
      have q5 := hC7.s.cell
      cases hup : (ps k).up with
      | false =>
        have hsk := way_skip (take_down (g := g) (S := wayN g ps k) hup)
        rw [hup] at q7
        go_wp2
        go_roundg gh
        case measure => omega
        case rel => exact ⟨k + 1, by omega, by go_num, by rw [hsk]; exact hC7⟩
      | true =>
        rw [hup] at q7
        cases hhas : (ps k).has with
        | false =>
          have hsk := way_skip (take_none (g := g) (S := wayN g ps k) hhas)
          rw [hhas] at q7
          go_wp2
          go_roundg gh
          case measure => omega
          case rel => exact ⟨k + 1, by omega, by go_num, by rw [hsk]; exact hC7⟩
        | true =>
          rw [hhas] at q7
          by_cases hbr : (ps k).told.bridge = g
          · have hsk := way_skip (take_own (S := wayN g ps k) hbr)
            have hbrb : ((ps k).told.bridge == g) = true := by simpa using hbr
            go_wp2
            go_roundg gh
            case measure => omega
            case rel => exact ⟨k + 1, by omega, by go_num, by rw [hsk]; exact hC7⟩
          · have hbrb : ((ps k).told.bridge == g) = false := by simpa using hbr
            obtain ⟨u, hu⟩ : ∃ u, overV (ps k).told (ps k).cost = u := ⟨_, rfl⟩
            have HU := Lib.hid hu
            have k0 := hokk.v.c0
            have k1 := hokk.v.c1
            have x0 := hokk.c0
            have x1 := hokk.c1
            go_upto_region 7 with (go_at_call 57; (with_reducible refine (over_calls (ps k).told (ps k).cost _ HU.out _ k0 k1 x0 x1).mono ?_); rintro e w' ⟨rfl, hb1⟩; have hC' := SW.step hC7 hb1)
            rename World => w9
            have hC8 := hC'.alloc (.cells (wayCells ⟨u, (k : Int)⟩) 97)
            have h8 := Blk.new w9 (wayCells ⟨u, (k : Int)⟩) 97
            have hb58 : b5 < w9.heap.size := hC'.s.lt
            change Code.wp _ _ _ _ (w9.alloc (.cells (wayCells ⟨u, (k : Int)⟩) 97))
            generalize w9.alloc (.cells (wayCells ⟨u, (k : Int)⟩) 97) = w8 at hC8 h8 ⊢
            generalize w9.heap.size = b8 at h8 hb58 ⊢
            clear hC' hb1 hC7 h7 q7 q5 k0 k1 x0 x1 hokk
            clear w9
            have htk := take_is (S := wayN g ps k) hup hhas hbr
            have hpo := wayN_port g ps k
            have hty := way_take (g := g) (ps := ps) (k := k)
            have htn := way_skip (g := g) (ps := ps) (k := k)
            rw [hu] at htk hty
            generalize wayN g ps k = Sk at hC8 htk hpo hty htn
            obtain ⟨⟨sr, sc, sb, sp⟩, spo⟩ := Sk
            obtain ⟨ur, uc, ub, up⟩ := u
            have q5 : ∀ o, w8.cell? ⟨b5, o, none⟩ = #[Value.int .u64 sr, .int .u64 sc, .int .u64 sb, .int .i64 sp, .int .i64 spo][o]? := hC8.s.cell
            have q8 : ∀ o, w8.cell? ⟨b8, o, none⟩ = #[Value.int .u64 ur, .int .u64 uc, .int .u64 ub, .int .i64 up, .int .i64 (k : Int)][o]? := h8.cell
            have f5 : ∀ o, w8.frozen? ⟨b5, o, none⟩ = false := hC8.s.free
            simp only at htk hpo
            by_cases h1 : ur < sr
            · have hT := hty (by rw [htk, decide_eq_true h1]; rfl)
              have HT := Lib.hid hT
              clear htk hty htn hT hpo
              have h1' : decide (ur < sr) = true := decide_eq_true h1
              go_wp2
              go_roundg gh
              case measure => omega
              case rel => exact ⟨k + 1, by omega, by go_num, by rw [HT.out]; exact hC8.set ⟨⟨ur, uc, ub, up⟩, (k : Int)⟩⟩
            · by_cases h2 : 0 ≤ spo
              · obtain ⟨j, rfl⟩ : ∃ j : Nat, spo = (j : Int) := ⟨spo.toNat, by omega⟩
                have hjn : j < n := by have := hpo.2; omega
                obtain ⟨B, hB⟩ : ∃ B, betterF (fun i => (ps i).id) ⟨ur, uc, ub, up⟩ k ⟨sr, sc, sb, sp⟩ j = B := ⟨_, rfl⟩
                rw [decide_eq_false h1, decide_eq_true h2, Int.toNat_natCast, hB] at htk
                have HB := Lib.hid hB
                have hP8 := hP.below hC8.l
                have hC8' : Hid (∀ w', Below w8.heap.size w8 w' → SW w w.heap.size b5 ⟨⟨sr, sc, sb, sp⟩, (j : Int)⟩ w') := fun w' hb => hC8.step hb
                have hQ : Hid (∀ w', Below w8.heap.size w8 w' → Blk w' b8 (wayCells ⟨⟨ur, uc, ub, up⟩, (k : Int)⟩) 97) := fun w' hb => h8.below hb h8.lt
                have hkn : k < n := by omega
                have ci := hP8.c0 k hkn
                have cj := hP8.c0 j hjn
                have hlt8 := hP8.lt
                clear hP8 hpo
                cases B with
                | false =>
                  have hT := htn htk
                  have HT := Lib.hid hT
                  clear htk hty htn hT hB
                  go_wp2_with (go_at_call 58; (with_reducible refine (pathBetter_calls b off n cap (fun i => (ps i).id) ⟨ur, uc, ub, up⟩ ⟨sr, sc, sb, sp⟩ k j hkn hjn (by omega) _ hlt8 ci cj _ HB.out).mono ?_); rintro e w' ⟨rfl, hb1⟩)
                  go_roundg gh
                  case measure => omega
                  case rel => exact ⟨k + 1, by omega, by go_num, by rw [HT.out]; exact hC8'.out _ (by assumption)⟩
                | true =>
                  have hT := hty htk
                  have HT := Lib.hid hT
                  clear htk hty htn hT hB
                  go_wp2_with (go_at_call 58; (with_reducible refine (pathBetter_calls b off n cap (fun i => (ps i).id) ⟨ur, uc, ub, up⟩ ⟨sr, sc, sb, sp⟩ k j hkn hjn (by omega) _ hlt8 ci cj _ HB.out).mono ?_); rintro e w' ⟨rfl, hb1⟩; have hC9 := hC8'.out _ hb1; have q5 : ∀ o, w'.cell? ⟨b5, o, none⟩ = #[Value.int .u64 sr, .int .u64 sc, .int .u64 sb, .int .i64 sp, .int .i64 (j : Int)][o]? := hC9.s.cell; have q8 : ∀ o, w'.cell? ⟨b8, o, none⟩ = #[Value.int .u64 ur, .int .u64 uc, .int .u64 ub, .int .i64 up, .int .i64 (k : Int)][o]? := (hQ.out _ hb1).cell; have f5 : ∀ o, w'.frozen? ⟨b5, o, none⟩ = false := hC9.s.free)
                  go_roundg gh
                  case measure => omega
                  case rel => exact ⟨k + 1, by omega, by go_num, by rw [HT.out]; exact hC9.set ⟨⟨ur, uc, ub, up⟩, (k : Int)⟩⟩
              · have hT := htn (by rw [htk, decide_eq_false h1, decide_eq_false h2]; rfl)
                have HT := Lib.hid hT
                clear htk hty htn hT hpo
                go_wp2
                go_roundg gh
                case measure => omega
                case rel => exact ⟨k + 1, by omega, by go_num, by rw [HT.out]; exact hC8⟩
end Go.Proofs.Ytjnbjcieepooaac
