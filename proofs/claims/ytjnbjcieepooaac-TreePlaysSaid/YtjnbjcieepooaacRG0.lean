/- Selection by the reference, by its contract. Conditions: none. -/
import Derived.Test.YtjnbjcieepooaacRoleSel
namespace Go.Proofs.Ytjnbjcieepooaac
open Go.RowKit
set_option linter.unusedVariables false
set_option linter.unusedSimpArgs false

theorem bet_root {a b : Vec} (h : a.root ≠ b.root) : betB a b = decide (a.root < b.root) := by
  unfold betB; rw [cmp_root h]; unfold ordI
  by_cases h1 : a.root < b.root
  · rw [if_pos h1, decide_eq_true h1]; rfl
  · rw [if_neg h1, if_pos (by omega), decide_eq_false h1]; rfl
theorem bet_cost {a b : Vec} (h1 : a.root = b.root) (h : a.cost ≠ b.cost) : betB a b = decide (a.cost < b.cost) := by
  unfold betB; rw [cmp_cost h1 h]; unfold ordI
  by_cases h1 : a.cost < b.cost
  · rw [if_pos h1, decide_eq_true h1]; rfl
  · rw [if_neg h1, if_pos (by omega), decide_eq_false h1]; rfl
theorem bet_bridge {a b : Vec} (h1 : a.root = b.root) (h2 : a.cost = b.cost) (h : a.bridge ≠ b.bridge) : betB a b = decide (a.bridge < b.bridge) := by
  unfold betB; rw [cmp_bridge h1 h2 h]; unfold ordI
  by_cases h1 : a.bridge < b.bridge
  · rw [if_pos h1, decide_eq_true h1]; rfl
  · rw [if_neg h1, if_pos (by omega), decide_eq_false h1]; rfl
theorem bet_port {a b : Vec} (h1 : a.root = b.root) (h2 : a.cost = b.cost) (h3 : a.bridge = b.bridge) : betB a b = decide (a.port < b.port) := by
  unfold betB; rw [cmp_port h1 h2 h3]; unfold ordI
  by_cases h1 : a.port < b.port
  · rw [if_pos h1, decide_eq_true h1]; rfl
  · by_cases h2 : b.port < a.port
    · rw [if_neg h1, if_pos h2, decide_eq_false h1]; rfl
    · rw [if_neg h1, if_neg h2, decide_eq_false h1]; rfl

theorem before_calls (a b : Vec) (x : Bool) (hx : betB a b = x) (w : World) :
    Calls Try.prog 42 #[a.val, b.val] w fun e w' => e = .returned (.bool x) ∧ Below w.heap.size w w' := by
  subst hx
  have b2 : Hid (∀ (a b : Obj), Below w.heap.size w ((w.alloc a).alloc b)) := fun a b => ((Below.refl _ _).alloc (Nat.le_refl _) _).alloc (by simp) _
  by_cases h1 : a.root = b.root
  · by_cases h2 : a.cost = b.cost
    · by_cases h3 : a.bridge = b.bridge
      · rw [bet_port h1 h2 h3]
        obtain ⟨ar, ac, ab, ap⟩ := a
        obtain ⟨br, bc, bb, bp⟩ := b
        simp only at h1 h2 h3
        subst h1 h2 h3
        go_enter Try.func42, Try.ntmps42
        go_wp2
        go_ret
        exact ⟨rfl, b2.out _ _⟩
      · rw [bet_bridge h1 h2 h3]
        obtain ⟨ar, ac, ab, ap⟩ := a
        obtain ⟨br, bc, bb, bp⟩ := b
        simp only at h1 h2 h3
        subst h1 h2
        have h3' : (ab != bb) = true := by simpa using h3
        go_enter Try.func42, Try.ntmps42
        go_wp2
        go_ret
        exact ⟨rfl, b2.out _ _⟩
    · rw [bet_cost h1 h2]
      obtain ⟨ar, ac, ab, ap⟩ := a
      obtain ⟨br, bc, bb, bp⟩ := b
      simp only at h1 h2
      subst h1
      have h3' : (ac != bc) = true := by simpa using h2
      go_enter Try.func42, Try.ntmps42
      go_wp2
      go_ret
      exact ⟨rfl, b2.out _ _⟩
  · rw [bet_root h1]
    obtain ⟨ar, ac, ab, ap⟩ := a
    obtain ⟨br, bc, bb, bp⟩ := b
    simp only at h1
    have h3' : (ar != br) = true := by simpa using h1
    go_enter Try.func42, Try.ntmps42
    go_wp2
    go_ret
    exact ⟨rfl, b2.out _ _⟩

def farF (a b : Int) : Int := if 4294967295 < b ∨ 4294967295 - b < a then 4294967295 else a + b
theorem far_calls (a b x : Int) (hx : farF a b = x) (ha : 0 ≤ a) (hb : 0 ≤ b) (w : World) :
    Calls Try.prog 60 #[.int .u64 a, .int .u64 b] w fun e w' => e = .returned (.int .u64 x) ∧ w = w' := by
  subst hx
  unfold farF
  by_cases h1 : 4294967295 < a
  · rw [if_pos (by omega)]
    go_enter Try.func60, Try.ntmps60
    go_wp2
    go_ret
    exact ⟨rfl, rfl⟩
  · by_cases h2 : 4294967295 < b
    · rw [if_pos (by omega)]
      go_enter Try.func60, Try.ntmps60
      go_wp2
      go_ret
      exact ⟨rfl, rfl⟩
    · by_cases h3 : 4294967295 < a + b
      · rw [if_pos (by omega)]
        go_enter Try.func60, Try.ntmps60
        go_wp2
        go_ret
        exact ⟨rfl, rfl⟩
      · rw [if_neg (by omega)]
        go_enter Try.func60, Try.ntmps60
        go_wp2
        go_ret
        exact ⟨rfl, rfl⟩
instance : DecidableEq Vec := fun a b => if h : a.root = b.root ∧ a.cost = b.cost ∧ a.bridge = b.bridge ∧ a.port = b.port then .isTrue (Vec.ext' h.1 h.2.1 h.2.2.1 h.2.2.2) else .isFalse fun e => h (by subst e; exact ⟨rfl, rfl, rfl, rfl⟩)
/-- The reference takes a way. -/
def refTake (g : Int) (ps : Nat → RPort) (S : Way) (k : Nat) : Bool :=
  (ps k).up && (ps k).has && !decide ((ps k).told.bridge = g) && !decide (g ≤ (ps k).told.root) &&
    (decide (S.p < 0) || betB (overV (ps k).told (ps k).cost) S.v || (decide (overV (ps k).told (ps k).cost = S.v) && decide ((ps k).id < (ps S.p.toNat).id)))

theorem over_root (v : Vec) (c : Int) : (overV v c).root = v.root := by unfold overV; split <;> rfl
theorem way_inv (g : Int) (ps : Nat → RPort) (k : Nat) : ((wayN g ps k).p < 0 → wayN g ps k = ⟨ownV g 0, -1⟩) ∧ (0 ≤ (wayN g ps k).p → (wayN g ps k).v.root < g) := by
  induction k with
  | zero => exact ⟨fun _ => rfl, fun h => absurd h (by show ¬ (0 : Int) ≤ -1; omega)⟩
  | succ k ih =>
    by_cases ht : takeW g ps (wayN g ps k) k = true
    · rw [way_take ht]
      refine ⟨fun h => absurd h (by show ¬ (k : Int) < 0; omega), fun _ => ?_⟩
      show (overV (ps k).told (ps k).cost).root < g
      rw [over_root]
      unfold takeW at ht
      simp only [Bool.and_eq_true, Bool.or_eq_true, decide_eq_true_eq] at ht
      obtain ⟨_, h⟩ := ht
      rw [over_root] at h
      rcases h with h | ⟨h0, h⟩
      · by_cases hp : 0 ≤ (wayN g ps k).p
        · have := ih.2 hp; omega
        · rw [ih.1 (by omega)] at h; exact h
      · have hr := ih.2 h0
        unfold betterF at h
        split at h
        · rename_i hc
          have := (cmp_all (overV (ps k).told (ps k).cost) (wayN g ps k).v)
          rcases this with ⟨hx, _⟩ | ⟨hx, _⟩ | ⟨_, he⟩
          · rw [hx] at hc; omega
          · rw [hx] at hc; omega
          · have := congrArg Vec.root he
            rw [over_root] at this
            omega
        · have hb : betB (overV (ps k).told (ps k).cost) (wayN g ps k).v = true := h
          have hb' := (betB_iff _ _).1 hb
          unfold Bet at hb'
          rw [over_root] at hb'
          omega
    · rw [way_skip (by simpa using ht)]
      exact ih
theorem ref_take (g : Int) (ps : Nat → RPort) (k : Nat) : refTake g ps (wayN g ps k) k = takeW g ps (wayN g ps k) k := by
  obtain ⟨h1, h2⟩ := way_inv g ps k
  unfold refTake takeW
  by_cases hu : (ps k).up = true <;> by_cases hh : (ps k).has = true <;> by_cases hb : (ps k).told.bridge = g <;> simp only [hu, hh, hb, Bool.and_true, Bool.true_and, Bool.false_and, Bool.and_false, decide_true, Bool.not_true, decide_false, Bool.not_false]
  · by_cases hp : 0 ≤ (wayN g ps k).p
    · have hr := h2 hp
      have e1 : decide ((wayN g ps k).p < 0) = false := by simpa using hp
      have e2 : decide (0 ≤ (wayN g ps k).p) = true := by simpa using hp
      rw [e1, e2, over_root]
      simp only [Bool.false_or, Bool.true_and]
      generalize wayN g ps k = S at *
      have ho : (overV (ps k).told (ps k).cost).root = (ps k).told.root := over_root _ _
      generalize overV (ps k).told (ps k).cost = u at *
      unfold betterF
      rcases cmp_all u S.v with ⟨hc, hB⟩ | ⟨hc, hB⟩ | ⟨hc, he⟩
      · have : betB u S.v = true := (betB_iff _ _).2 hB
        have hlt : (ps k).told.root < g := by unfold Bet at hB; omega
        rw [this, if_neg (by omega), hc]
        simp [show ¬ g ≤ (ps k).told.root by omega]
      · have e3 : betB u S.v = false := by unfold betB; rw [hc]; rfl
        have e4 : ¬ u = S.v := fun h => by rw [h] at hB; exact hB.irrefl
        have e5 : ¬ (ps k).told.root < S.v.root := by unfold Bet at hB; omega
        rw [e3, if_neg (by omega), hc]
        simp [e4, e5]
      · have e3 : betB u S.v = false := by unfold betB; rw [hc]; rfl
        subst he
        rw [e3, if_pos hc, ho]
        simp [show ¬ g ≤ (ps k).told.root by omega]
    · rw [h1 (by omega)]
      simp only [over_root]
      show (!decide (g ≤ (ps k).told.root) && (decide ((-1 : Int) < 0) || _ || _)) = (decide ((ps k).told.root < g) || (decide ((0 : Int) ≤ -1) && _))
      simp
      by_cases hr : (ps k).told.root < g
      · rw [decide_eq_true hr, decide_eq_false (by omega)]; rfl
      · rw [decide_eq_false hr, decide_eq_true (by omega)]; rfl

/-- The world in the reference's first loop: the result's block, the best vector's. -/
structure FW (w : World) (b4 b9 : Nat) (u : Vec) (wx : World) : Prop where
  z : Blk wx b4 #[.int .u64 0, .int .u64 0, .int .u64 0, .int .i64 0] 27
  s : Blk wx b9 u.cells 27
  l : Below w.heap.size w wx
  lt : b4 < b9
  ge : w.heap.size ≤ b4
theorem FW.step {w wx w' : World} {b4 b9 : Nat} {u : Vec} (h : FW w b4 b9 u wx) (hb : Below wx.heap.size wx w') : FW w b4 b9 u w' :=
  ⟨h.z.below hb h.z.lt, h.s.below hb h.s.lt, h.l.trans (hb.mono h.l.size), h.lt, h.ge⟩
theorem below_drewN (w : World) (m : Nat) : Below w.heap.size w (w.drewN m) := ⟨rfl, rfl, rfl, Nat.le_refl _, fun _ _ => rfl⟩
theorem below_drew (w : World) : Below w.heap.size w w.drew := (Below.refl _ w).drew
theorem FW.drewN {w wx : World} {b4 b9 : Nat} {u : Vec} (h : FW w b4 b9 u wx) (m : Nat) : FW w b4 b9 u (wx.drewN m) := h.step (below_drewN _ _)
theorem FW.alloc {w wx : World} {b4 b9 : Nat} {u : Vec} (h : FW w b4 b9 u wx) (o : Obj) : FW w b4 b9 u (wx.alloc o) := h.step ((Below.refl _ _).alloc (Nat.le_refl _) _)
theorem FW.set {w wx : World} {b4 b9 : Nat} {u : Vec} (h : FW w b4 b9 u wx) (T : Vec) :
    FW w b4 b9 T ((((wx.setCell ⟨b9, 0, none⟩ (.int .u64 T.root)).setCell ⟨b9, 1, none⟩ (.int .u64 T.cost)).setCell ⟨b9, 2, none⟩ (.int .u64 T.bridge)).setCell ⟨b9, 3, none⟩ (.int .i64 T.port)) := by
  have hne : b4 ≠ b9 := Nat.ne_of_lt h.lt
  have hg : w.heap.size ≤ b9 := Nat.le_trans h.ge (Nat.le_of_lt h.lt)
  exact ⟨(((h.z.set_other hne _).set_other hne _).set_other hne _).set_other hne _, (((h.s.set 0 _).set 1 _).set 2 _).set 3 _, (((h.l.setCell hg _).setCell hg _).setCell hg _).setCell hg _, h.lt, h.ge⟩
theorem own_base {w : World} {base base' size n : Nat} {e : TypeId} {v : Value} {xs : List Value} (h : w.ownsRow base e size v n xs) (hb : base' ≤ base) : w.ownsRow base' e size v n xs := by
  refine ⟨h.1, ?_⟩
  rcases h.2 with h0 | ⟨g, cap, cur, rfl, hg, hr⟩
  · exact .inl h0
  · exact .inr ⟨g, cap, cur, rfl, Nat.le_trans hb hg, hr⟩
def rolesL (g : Int) (ps : Nat → RPort) (S : Way) (k : Nat) : List Value := (List.range k).map fun j => .int .i64 (roleF g ps S j)
def tellsL (g : Int) (ps : Nat → RPort) (S : Way) (k : Nat) : List Value := (List.range k).flatMap fun j => (tellF g ps S j).cells.toList
theorem rolesL_succ (g : Int) (ps : Nat → RPort) (S : Way) (k : Nat) : rolesL g ps S (k + 1) = rolesL g ps S k ++ [.int .i64 (roleF g ps S k)] := by unfold rolesL; rw [List.range_succ, List.map_append]; rfl
theorem tellsL_succ (g : Int) (ps : Nat → RPort) (S : Way) (k : Nat) : tellsL g ps S (k + 1) = tellsL g ps S k ++ [.int .u64 S.v.root, .int .u64 S.v.cost, .int .u64 g, .int .i64 (ps k).id] := by unfold tellsL; rw [List.range_succ, List.flatMap_append]; simp [tellF, Vec.cells]
/-- The world in the reference's second loop. -/
structure GW (w : World) (g : Int) (ps : Nat → RPort) (S : Way) (b4 b9 : Nat) (vr vt : Value) (kr kt : Nat) (wx : World) : Prop where
  f : FW w b4 b9 S.v wx
  r : wx.ownsRow (b9 + 1) 3 1 vr kr (rolesL g ps S kr)
  t : wx.ownsRow (b9 + 1) 27 4 vt kt (tellsL g ps S kt)
theorem GW.step {w wx w' : World} {g : Int} {ps : Nat → RPort} {S : Way} {b4 b9 : Nat} {vr vt : Value} {kr kt : Nat} (h : GW w g ps S b4 b9 vr vt kr kt wx) (hb : Below wx.heap.size wx w') : GW w g ps S b4 b9 vr vt kr kt w' :=
  ⟨h.f.step hb, own_below h.r hb, own_below h.t hb⟩
theorem GW.alloc {w wx : World} {g : Int} {ps : Nat → RPort} {S : Way} {b4 b9 : Nat} {vr vt : Value} {kr kt : Nat} (h : GW w g ps S b4 b9 vr vt kr kt wx) (o : Obj) : GW w g ps S b4 b9 vr vt kr kt (wx.alloc o) :=
  h.step ((Below.refl _ _).alloc (Nat.le_refl _) _)
theorem FW.fr {w wx w' : World} {b4 b9 : Nat} {u : Vec} {m : Nat → Prop} (h : FW w b4 b9 u wx) (hf : Fr m wx w') (hm : ∀ k, m k → b9 < k) : FW w b4 b9 u w' :=
  ⟨h.z.fr hf (fun x => by have := hm _ x; have := h.lt; omega), h.s.fr hf (fun x => by have := hm _ x; omega), Below.fr h.l hf h.l.size (fun i _ hi => by have := hm _ hi; have := h.lt; have := h.ge; omega), h.lt, h.ge⟩
theorem GW.app_t {w wx w' : World} {g : Int} {ps : Nat → RPort} {S : Way} {b4 b9 : Nat} {vr vt vt' : Value} {kr kt : Nat} (h : GW w g ps S b4 b9 vr vt kr kt wx) (hf : Fr (InRow vt) wx w') (ho : w'.ownsRow (b9 + 1) 27 4 vt' (kt + 1) (tellsL g ps S kt ++ [.int .u64 S.v.root, .int .u64 S.v.cost, .int .u64 g, .int .i64 (ps kt).id])) :
    GW w g ps S b4 b9 vr vt' kr (kt + 1) w' :=
  ⟨h.f.fr hf (fun k hk => by have := (own_ge h.t hk).1; omega), own_fr h.r hf (fun k hk => own_ne_own h.r h.t (by decide) hk), by rw [tellsL_succ]; exact ho⟩
theorem GW.app_r {w wx w' : World} {g : Int} {ps : Nat → RPort} {S : Way} {b4 b9 : Nat} {vr vr' vt : Value} {kr kt : Nat} (h : GW w g ps S b4 b9 vr vt kr kt wx) (hf : Fr (InRow vr) wx w') (ho : w'.ownsRow (b9 + 1) 3 1 vr' (kr + 1) (rolesL g ps S kr ++ [.int .i64 (roleF g ps S kr)])) :
    GW w g ps S b4 b9 vr' vt (kr + 1) kt w' :=
  ⟨h.f.fr hf (fun k hk => by have := (own_ge h.r hk).1; omega), by rw [rolesL_succ]; exact ho, own_fr h.t hf (fun k hk => own_ne_own h.t h.r (by decide) hk)⟩
theorem info24 : (Try.prog.info? 27).map (fun i => (i.zero, i.size, i.bytes)) = some (some (.agg #[.int .u64 0, .int .u64 0, .int .u64 0, .int .i64 0]), 4, 32) := by kernel_rfl
theorem info3r : (Try.prog.info? 3).map (fun i => (i.zero, i.size, i.bytes)) = some (some (.int .i64 0), 1, 8) := by kernel_rfl
def x1F (g : Int) (ps : Nat → RPort) (S : Way) (j : Nat) : Int := if (ps j).has = false ∨ betB (ps j).told (tellF g ps S j) = false then 2 else if (ps j).told.bridge = g then 4 else 3
theorem role_x1 (g : Int) (ps : Nat → RPort) (S : Way) (j : Nat) : roleF g ps S j = if (ps j).up = false then 0 else if (j : Int) = S.p then 1 else x1F g ps S j := by
  unfold roleF ofF x1F
  simp only [decide_eq_true_eq]
  rfl
/-- What the reference's Select hands back. -/
def RefPost (w : World) (n : Nat) (g : Int) (ps : Nat → RPort) (S : Way) (e : Ending) (w' : World) : Prop := ∃ vr vt, e = .returned (.tuple #[S.v.val, .int .i64 S.p, vr, vt]) ∧
  w'.ownsRow w.heap.size 3 1 vr n (rolesL g ps S n) ∧ w'.ownsRow w.heap.size 27 4 vt n (tellsL g ps S n) ∧ Below w.heap.size w w'
def LoopRel (w : World) (n : Nat) (g : Int) (ps : Nat → RPort) (b4 b9 : Nat) (gh : Nat) (s8 s10 : Value) (wx : World) : Prop :=
  ∃ (k : Nat) (u : Vec), k + gh = n ∧ s10 = .int .i64 (k : Int) ∧ s8 = .int .i64 (wayN g ps k).p ∧ (0 ≤ (wayN g ps k).p → u = (wayN g ps k).v) ∧ FW w b4 b9 u wx
theorem overV_far (v : Vec) (c : Int) : overV v c = ⟨v.root, farF v.cost c, v.bridge, v.port⟩ := by unfold overV farF; split <;> rfl
theorem eq_parts {a b : Vec} (h : Bet a b) : (¬ b.root = a.root) ∨ (b.root = a.root ∧ ¬ b.cost = a.cost) ∨ (b.root = a.root ∧ b.cost = a.cost ∧ ¬ b.bridge = a.bridge) ∨ (b.root = a.root ∧ b.cost = a.cost ∧ b.bridge = a.bridge ∧ ¬ b.port = a.port) := by
  unfold Bet at h; omega
theorem in74 : (Try.prog.info? 89).map (·.size) = some 8 := by kernel_rfl

set_option maxRecDepth 8000 in
set_option maxHeartbeats 4000000 in
theorem refSelect_calls (g : Int) (ps : Nat → RPort) (a : Option Addr) (n cap : Nat) (hn : n ≤ 1000000) (hok : ∀ i, i < n → (ps i).ok) (w : World) (hp : 0 < n → ∃ b off, a = some ⟨b, off, none⟩ ∧ PortsAt w b off n ps) (S : Way) (hS : wayN g ps n = S) :
    Calls Try.prog 53 #[.int .u64 g, .slice a n cap] w (RefPost w n g ps S) := by
  have HS := Lib.hid hS
  clear hS
  go_enter Try.func53, Try.ntmps53
  go_wp2
  have hC : FW w w.heap.size (w.heap.size + 1) ⟨0, 0, 0, 0⟩ ((w.alloc (.cells #[.int .u64 0, .int .u64 0, .int .u64 0, .int .i64 0] 27)).alloc (.cells #[.int .u64 0, .int .u64 0, .int .u64 0, .int .i64 0] 27)) :=
    ⟨(Blk.new _ _ _).alloc _, by have h := Blk.new (w.alloc (.cells #[.int .u64 0, .int .u64 0, .int .u64 0, .int .i64 0] 27)) #[.int .u64 0, .int .u64 0, .int .u64 0, .int .i64 0] 27; simp only [size_alloc'] at h; exact h, ((Below.refl w.heap.size w).alloc (Nat.le_refl _) _).alloc (by simp) _, by omega, Nat.le_refl _⟩
  generalize World.alloc (World.alloc w _) _ = W2 at hC ⊢
  generalize w.heap.size + 1 = b9 at hC ⊢
  generalize hb4 : w.heap.size = b4 at hC ⊢
  have HB4 := Lib.hid hb4
  clear hb4
  go_loopg [8, 10] n (fun gh s8 s10 wx => LoopRel w n g ps b4 b9 gh s8 s10 wx)
  case atStart => exact ⟨0, _, by omega, rfl, rfl, fun h => absurd h (by show ¬ (0 : Int) ≤ -1; omega), hC⟩
  case round =>
    obtain ⟨k, u, hkg, rfl, rfl, hu, hC⟩ := hrel
    have hpo := wayN_port g ps k
    cases gk with
    | zero =>
      have hkM : ¬ ((k : Int) < (n : Int)) := by omega
      obtain rfl : k = n := by omega
      have hinv0 := way_inv g ps k
      rw [HS.out] at hu hpo hinv0 ⊢
      have hinv := Lib.hid hinv0.1
      clear hinv0
      go_upto_if 84 with (fail)
      go_cut [] (fun wx => FW w b4 b9 S.v wx)
      case first =>
        by_cases hneg : S.p < 0
        · have f9 : ∀ o, wr.frozen? ⟨b9, o, none⟩ = false := hC.s.free
          obtain ⟨u0, u1, u2, u3⟩ := u
          have q9 : ∀ o, wr.cell? ⟨b9, o, none⟩ = #[Value.int .u64 u0, .int .u64 u1, .int .u64 u2, .int .i64 u3][o]? := hC.s.cell
          go_wp2
          go_meet
          rw [hinv.out hneg]
          exact hC.set ⟨g, 0, g, 0⟩
        · obtain rfl := hu (by omega)
          have hneg' : decide (S.p < 0) = false := decide_eq_false hneg
          go_wp2
          go_meet
          exact hC
      case rest =>
        clear hC hu
        go_wp2
        go_loopg [13, 14, 15] k (fun gh s13 s14 s15 wx => ∃ j : Nat, j + gh = k ∧ s15 = .int .i64 (j : Int) ∧ GW w g ps S b4 b9 s13 s14 j j wx)
        case atStart => exact ⟨0, by omega, rfl, hcut, World.ownsRow_nil _ _ _ _, World.ownsRow_nil _ _ _ _⟩
        case round =>
          obtain ⟨j, hjg, rfl, hG⟩ := hrel
          cases gk with
          | zero =>
            have hjM : ¬ ((j : Int) < (k : Int)) := by omega
            obtain rfl : j = k := by omega
            have q9 : ∀ o, wr.cell? ⟨b9, o, none⟩ = #[Value.int .u64 S.v.root, .int .u64 S.v.cost, .int .u64 S.v.bridge, .int .i64 S.v.port][o]? := hG.f.s.cell
            have q4 : ∀ o, wr.cell? ⟨b4, o, none⟩ = #[Value.int .u64 0, .int .u64 0, .int .u64 0, .int .i64 0][o]? := hG.f.z.cell
            have f4 : ∀ o, wr.frozen? ⟨b4, o, none⟩ = false := hG.f.z.free
            clear hkM hkg hp hinv hpo
            go_wp2
            have hz := (((hG.f.z.set 0 (.int .u64 S.v.root)).set 1 (.int .u64 S.v.cost)).set 2 (.int .u64 S.v.bridge)).set 3 (.int .i64 S.v.port)
            have hf := ((((Fr.refl (fun k => k = b4) wr).set (p := ⟨b4, 0, none⟩) (.inl rfl) (.int .u64 S.v.root)).set (p := ⟨b4, 1, none⟩) (.inl rfl) (.int .u64 S.v.cost)).set (p := ⟨b4, 2, none⟩) (.inl rfl) (.int .u64 S.v.bridge)).set (p := ⟨b4, 3, none⟩) (.inl rfl) (.int .i64 S.v.port)
            clear q9 q4 f4
            revert hz hf
            generalize World.setCell (World.setCell _ _ _) _ _ = W7
            intro hz hf
            have q7 : ∀ o, W7.cell? ⟨b4, o, none⟩ = #[Value.int .u64 S.v.root, .int .u64 S.v.cost, .int .u64 S.v.bridge, .int .i64 S.v.port][o]? := hz.cell
            have hlt := hG.f.lt
            have hge := hG.f.ge
            have hpost : RefPost w j g ps S (.returned (.tuple #[S.v.val, .int .i64 S.p, _, _])) W7 :=
              ⟨_, _, rfl, own_base (own_fr hG.r hf fun k hk e => by have := (own_ge hG.r hk).1; omega) (by omega), own_base (own_fr hG.t hf fun k hk e => by have := (own_ge hG.t hk).1; omega) (by omega), Below.fr hG.f.l hf hG.f.l.size fun i _ hi => by omega⟩
            exact bodyPost_ret (v := .tuple #[S.v.val, .int .i64 S.p, _, _]) (by simp [results, Try.results53, go_sem, q7]) rfl hpost
          | succ gh =>
            have hjM : (j : Int) < (k : Int) := by omega
            obtain ⟨b, off, rfl, hP⟩ := hp (by omega)
            have hr := port_row hP (show j < k by omega) hG.f.l
            go_upto_region 20 with (refine wpList_load_mid rfl 89 _ rfl b (off + j * 8) rfl [.int .i64 (ps j).id, .int .u64 (ps j).cost, .bool (ps j).up, .bool (ps j).has, .int .u64 (ps j).told.root, .int .u64 (ps j).told.cost, .int .u64 (ps j).told.bridge, .int .i64 (ps j).told.port] _ hr Try.underlying89 rfl in74 ?_)
            have hG1 := hG.alloc (.cells #[.int .i64 (ps j).id, .int .u64 (ps j).cost, .bool (ps j).up, .bool (ps j).has, .int .u64 (ps j).told.root, .int .u64 (ps j).told.cost, .int .u64 (ps j).told.bridge, .int .i64 (ps j).told.port] 89)
            have h16 := Blk.new wr #[.int .i64 (ps j).id, .int .u64 (ps j).cost, .bool (ps j).up, .bool (ps j).has, .int .u64 (ps j).told.root, .int .u64 (ps j).told.cost, .int .u64 (ps j).told.bridge, .int .i64 (ps j).told.port] 89
            have hb96 : b9 < wr.heap.size := hG.f.s.lt
            generalize wr.alloc (.cells #[.int .i64 (ps j).id, .int .u64 (ps j).cost, .bool (ps j).up, .bool (ps j).has, .int .u64 (ps j).told.root, .int .u64 (ps j).told.cost, .int .u64 (ps j).told.bridge, .int .i64 (ps j).told.port] 89) = w7 at hG1 h16 ⊢
            generalize wr.heap.size = b16 at h16 hb96 ⊢
            clear hr hG
            have q16 := h16.cell
            have q9 : ∀ o, w7.cell? ⟨b9, o, none⟩ = #[Value.int .u64 S.v.root, .int .u64 S.v.cost, .int .u64 S.v.bridge, .int .i64 S.v.port][o]? := hG1.f.s.cell
            go_upto_region 21 with fail
            have hG2 := hG1.alloc (.cells #[.int .u64 S.v.root, .int .u64 S.v.cost, .int .u64 g, .int .i64 (ps j).id] 27)
            have h17 := Blk.new w7 #[.int .u64 S.v.root, .int .u64 S.v.cost, .int .u64 g, .int .i64 (ps j).id] 27
            have h16' := h16.alloc (.cells #[.int .u64 S.v.root, .int .u64 S.v.cost, .int .u64 g, .int .i64 (ps j).id] 27)
            change Code.wp _ _ _ _ (w7.alloc (.cells #[.int .u64 S.v.root, .int .u64 S.v.cost, .int .u64 g, .int .i64 (ps j).id] 27))
            generalize w7.alloc (.cells #[.int .u64 S.v.root, .int .u64 S.v.cost, .int .u64 g, .int .i64 (ps j).id] 27) = w8 at hG2 h17 h16' ⊢
            have hb167 : b16 < w7.heap.size := h16.lt
            have hrow : ∀ k, InRow _ k → k < w7.heap.size := fun k hk => (own_ge hG1.t hk).2
            generalize w7.heap.size = b17 at h17 hb167 hrow ⊢
            clear h16 q16 q9 hG1
            have q17 := h17.cell
            have q16 := h16'.cell
            have hG3 := hG2.alloc (.cells #[.int .u64 S.v.root, .int .u64 S.v.cost, .int .u64 g, .int .i64 (ps j).id] 27)
            have h18 := Blk.new w8 #[.int .u64 S.v.root, .int .u64 S.v.cost, .int .u64 g, .int .i64 (ps j).id] 27
            have hbase : b9 + 1 ≤ (w8.alloc (.cells #[.int .u64 S.v.root, .int .u64 S.v.cost, .int .u64 g, .int .i64 (ps j).id] 27)).heap.size := by have := hG3.f.s.lt; omega
            go_upto_region 22 with (refine wpList_append_one rfl _ _ 70 rfl (b9 + 1) 27 _ 4 32 Try.underlying70 info24 rfl (by decide) _ j _ rfl hG3.t w8.heap.size [.int .u64 S.v.root, .int .u64 S.v.cost, .int .u64 g, .int .i64 (ps j).id] 27 rfl h18 rfl (by simp [Value.oneCell']) (by unfold maxLen; omega) (by omega) hbase ?_; intro v14 w9 hown hfr hin)
            have hG4 := hG3.app_t hfr hown
            have h16b := (h16'.alloc (.cells #[.int .u64 S.v.root, .int .u64 S.v.cost, .int .u64 g, .int .i64 (ps j).id] 27)).fr hfr (own_ne_blk hG3.t (h16'.alloc _) (by decide))
            have h17b := (h17.alloc (.cells #[.int .u64 S.v.root, .int .u64 S.v.cost, .int .u64 g, .int .i64 (ps j).id] 27)).fr hfr (fun hk => by have := hrow _ hk; omega)
            clear hG3 h18 hbase hown hfr hin hG2 h17 h16' q17 q16 hrow
            have q16 : ∀ o, w9.cell? ⟨b16, o, none⟩ = #[Value.int .i64 (ps j).id, .int .u64 (ps j).cost, .bool (ps j).up, .bool (ps j).has, .int .u64 (ps j).told.root, .int .u64 (ps j).told.cost, .int .u64 (ps j).told.bridge, .int .i64 (ps j).told.port][o]? := h16b.cell
            have q17 : ∀ o, w9.cell? ⟨b17, o, none⟩ = #[Value.int .u64 S.v.root, .int .u64 S.v.cost, .int .u64 g, .int .i64 (ps j).id][o]? := h17b.cell
            have hx1 : x1F g ps S j = if (ps j).has = false ∨ betB (ps j).told ⟨S.v.root, S.v.cost, g, (ps j).id⟩ = false then 2 else if (ps j).told.bridge = g then 4 else 3 := rfl
            cases hhas : (ps j).has with
            | false =>
              rw [hhas] at q16 hx1
              rw [if_pos (.inl rfl)] at hx1
              have HX1 := Lib.hid hx1
              clear hx1
              go_upto_if 117 with (fail)
              go_cut [18] (fun s18 wx => s18 = .int .i64 (x1F g ps S j) ∧ Below w9.heap.size w9 wx)
              case first =>
                go_wp2
                go_meet
                exact ⟨by rw [HX1.out], Below.refl _ _⟩
              case rest =>
                obtain ⟨rfl, hb1⟩ := hcut
                have hG5 := hG4.step hb1
                have h16c := h16b.below hb1 h16b.lt
                have q16c : ∀ o, wc.cell? ⟨b16, o, none⟩ = #[Value.int .i64 (ps j).id, .int .u64 (ps j).cost, .bool (ps j).up, .bool (ps j).has, .int .u64 (ps j).told.root, .int .u64 (ps j).told.cost, .int .u64 (ps j).told.bridge, .int .i64 (ps j).told.port][o]? := h16c.cell
                have hbase : ∀ o, b9 + 1 ≤ (wc.alloc o).heap.size := fun o => by have := (hG5.alloc o).f.s.lt; omega
                have hrole := Lib.hid (role_x1 g ps S j)
                clear hG4 h16b h17b q16 q17 hb1 h16c
                by_cases hup : (ps j).up = true
                · rw [hup] at q16c
                  have hpr := hrole.out
                  rw [if_neg (by rw [hup]; exact Bool.noConfusion)] at hpr
                  by_cases heq : (j : Int) = S.p
                  · rw [if_pos heq] at hpr
                    have HPR := Lib.hid hpr
                    have heqb : ((j : Int) == S.p) = true := by simpa using heq
                    clear hrole hpr heq
                    go_wp2_with (refine wpList_append_one rfl _ _ 37 rfl (b9 + 1) 3 _ 1 8 Try.underlying37 info3r rfl (by decide) _ j _ rfl (hG5.alloc _).r wc.heap.size [_] 3 rfl (Blk.new wc _ _) rfl (by simp [Value.oneCell']) (by unfold maxLen; omega) (by omega) (hbase _) ?_; intro v13 w10 hown hfr hin)
                    go_roundg gh
                    case measure => omega
                    case rel => exact ⟨j + 1, by omega, by go_num, GW.app_r (hG5.alloc _) hfr (by rw [HPR.out]; exact hown)⟩
                  · rw [if_neg heq] at hpr
                    have HPR := Lib.hid hpr
                    have heqb : ((j : Int) == S.p) = false := by simpa using heq
                    clear hrole hpr heq
                    go_wp2_with (refine wpList_append_one rfl _ _ 37 rfl (b9 + 1) 3 _ 1 8 Try.underlying37 info3r rfl (by decide) _ j _ rfl (hG5.alloc _).r wc.heap.size [_] 3 rfl (Blk.new wc _ _) rfl (by simp [Value.oneCell']) (by unfold maxLen; omega) (by omega) (hbase _) ?_; intro v13 w10 hown hfr hin)
                    go_roundg gh
                    case measure => omega
                    case rel => exact ⟨j + 1, by omega, by go_num, GW.app_r (hG5.alloc _) hfr (by rw [HPR.out]; exact hown)⟩
                · have hup' : (ps j).up = false := by simpa using hup
                  rw [hup'] at q16c
                  have hpr := hrole.out
                  rw [if_pos hup'] at hpr
                  have HPR := Lib.hid hpr
                  clear hrole hpr
                  by_cases heq : (j : Int) = S.p
                  · have heqb : ((j : Int) == S.p) = true := by simpa using heq
                    clear heq
                    go_wp2_with (refine wpList_append_one rfl _ _ 37 rfl (b9 + 1) 3 _ 1 8 Try.underlying37 info3r rfl (by decide) _ j _ rfl (hG5.alloc _).r wc.heap.size [_] 3 rfl (Blk.new wc _ _) rfl (by simp [Value.oneCell']) (by unfold maxLen; omega) (by omega) (hbase _) ?_; intro v13 w10 hown hfr hin)
                    go_roundg gh
                    case measure => omega
                    case rel => exact ⟨j + 1, by omega, by go_num, GW.app_r (hG5.alloc _) hfr (by rw [HPR.out]; exact hown)⟩
                  · have heqb : ((j : Int) == S.p) = false := by simpa using heq
                    clear heq
                    go_wp2_with (refine wpList_append_one rfl _ _ 37 rfl (b9 + 1) 3 _ 1 8 Try.underlying37 info3r rfl (by decide) _ j _ rfl (hG5.alloc _).r wc.heap.size [_] 3 rfl (Blk.new wc _ _) rfl (by simp [Value.oneCell']) (by unfold maxLen; omega) (by omega) (hbase _) ?_; intro v13 w10 hown hfr hin)
                    go_roundg gh
                    case measure => omega
                    case rel => exact ⟨j + 1, by omega, by go_num, GW.app_r (hG5.alloc _) hfr (by rw [HPR.out]; exact hown)⟩
            | true =>
              rw [hhas] at q16 hx1
              obtain ⟨B, hB⟩ : ∃ B, betB (ps j).told ⟨S.v.root, S.v.cost, g, (ps j).id⟩ = B := ⟨_, rfl⟩
              rw [hB] at hx1
              have HB := Lib.hid hB
              have HX1 := Lib.hid hx1
              clear hx1 hB
              have hlt16 := h16b.lt
              have hst16 : Hid (∀ w', Below w9.heap.size w9 w' → ∀ o, w'.cell? ⟨b16, o, none⟩ = #[Value.int .i64 (ps j).id, .int .u64 (ps j).cost, .bool (ps j).up, .bool true, .int .u64 (ps j).told.root, .int .u64 (ps j).told.cost, .int .u64 (ps j).told.bridge, .int .i64 (ps j).told.port][o]?) := fun w' hb => by have := (h16b.below hb hlt16).cell; rw [hhas] at this; exact this
              go_upto_if 117 with (go_at_call 42; (with_reducible refine (before_calls (ps j).told ⟨S.v.root, S.v.cost, g, (ps j).id⟩ _ HB.out _).mono ?_); rintro e w' ⟨rfl, hb1⟩; have q16d := hst16.out _ hb1)
              go_cut [18] (fun s18 wx => s18 = .int .i64 (x1F g ps S j) ∧ Below w9.heap.size w9 wx)
              case first =>
                cases B with
                | false =>
                  go_wp2
                  go_meet
                  exact ⟨by rw [HX1.out]; simp, hb1⟩
                | true =>
                  by_cases hbr : (ps j).told.bridge = g
                  · have hbrb : ((ps j).told.bridge == g) = true := by simpa using hbr
                    go_wp2
                    go_meet
                    exact ⟨by rw [HX1.out]; simp [hbr], hb1⟩
                  · have hbrb : ((ps j).told.bridge == g) = false := by simpa using hbr
                    go_wp2
                    go_meet
                    exact ⟨by rw [HX1.out]; simp [hbr], hb1⟩
              case rest =>
                obtain ⟨rfl, hb1⟩ := hcut
                have hG5 := hG4.step hb1
                have h16c := h16b.below hb1 h16b.lt
                have q16c : ∀ o, wc.cell? ⟨b16, o, none⟩ = #[Value.int .i64 (ps j).id, .int .u64 (ps j).cost, .bool (ps j).up, .bool (ps j).has, .int .u64 (ps j).told.root, .int .u64 (ps j).told.cost, .int .u64 (ps j).told.bridge, .int .i64 (ps j).told.port][o]? := h16c.cell
                have hbase : ∀ o, b9 + 1 ≤ (wc.alloc o).heap.size := fun o => by have := (hG5.alloc o).f.s.lt; omega
                have hrole := Lib.hid (role_x1 g ps S j)
                clear hG4 h16b h17b q16 q17 hb1 h16c
                by_cases hup : (ps j).up = true
                · rw [hup] at q16c
                  have hpr := hrole.out
                  rw [if_neg (by rw [hup]; exact Bool.noConfusion)] at hpr
                  by_cases heq : (j : Int) = S.p
                  · rw [if_pos heq] at hpr
                    have HPR := Lib.hid hpr
                    have heqb : ((j : Int) == S.p) = true := by simpa using heq
                    clear hrole hpr heq
                    go_wp2_with (refine wpList_append_one rfl _ _ 37 rfl (b9 + 1) 3 _ 1 8 Try.underlying37 info3r rfl (by decide) _ j _ rfl (hG5.alloc _).r wc.heap.size [_] 3 rfl (Blk.new wc _ _) rfl (by simp [Value.oneCell']) (by unfold maxLen; omega) (by omega) (hbase _) ?_; intro v13 w10 hown hfr hin)
                    go_roundg gh
                    case measure => omega
                    case rel => exact ⟨j + 1, by omega, by go_num, GW.app_r (hG5.alloc _) hfr (by rw [HPR.out]; exact hown)⟩
                  · rw [if_neg heq] at hpr
                    have HPR := Lib.hid hpr
                    have heqb : ((j : Int) == S.p) = false := by simpa using heq
                    clear hrole hpr heq
                    go_wp2_with (refine wpList_append_one rfl _ _ 37 rfl (b9 + 1) 3 _ 1 8 Try.underlying37 info3r rfl (by decide) _ j _ rfl (hG5.alloc _).r wc.heap.size [_] 3 rfl (Blk.new wc _ _) rfl (by simp [Value.oneCell']) (by unfold maxLen; omega) (by omega) (hbase _) ?_; intro v13 w10 hown hfr hin)
                    go_roundg gh
                    case measure => omega
                    case rel => exact ⟨j + 1, by omega, by go_num, GW.app_r (hG5.alloc _) hfr (by rw [HPR.out]; exact hown)⟩
                · have hup' : (ps j).up = false := by simpa using hup
                  rw [hup'] at q16c
                  have hpr := hrole.out
                  rw [if_pos hup'] at hpr
                  have HPR := Lib.hid hpr
                  clear hrole hpr
                  by_cases heq : (j : Int) = S.p
                  · have heqb : ((j : Int) == S.p) = true := by simpa using heq
                    clear heq
                    go_wp2_with (refine wpList_append_one rfl _ _ 37 rfl (b9 + 1) 3 _ 1 8 Try.underlying37 info3r rfl (by decide) _ j _ rfl (hG5.alloc _).r wc.heap.size [_] 3 rfl (Blk.new wc _ _) rfl (by simp [Value.oneCell']) (by unfold maxLen; omega) (by omega) (hbase _) ?_; intro v13 w10 hown hfr hin)
                    go_roundg gh
                    case measure => omega
                    case rel => exact ⟨j + 1, by omega, by go_num, GW.app_r (hG5.alloc _) hfr (by rw [HPR.out]; exact hown)⟩
                  · have heqb : ((j : Int) == S.p) = false := by simpa using heq
                    clear heq
                    go_wp2_with (refine wpList_append_one rfl _ _ 37 rfl (b9 + 1) 3 _ 1 8 Try.underlying37 info3r rfl (by decide) _ j _ rfl (hG5.alloc _).r wc.heap.size [_] 3 rfl (Blk.new wc _ _) rfl (by simp [Value.oneCell']) (by unfold maxLen; omega) (by omega) (hbase _) ?_; intro v13 w10 hown hfr hin)
                    go_roundg gh
                    case measure => omega
                    case rel => exact ⟨j + 1, by omega, by go_num, GW.app_r (hG5.alloc _) hfr (by rw [HPR.out]; exact hown)⟩
    | succ gh =>
      have hkM : (k : Int) < (n : Int) := by omega
      obtain ⟨b, off, rfl, hP⟩ := hp (by omega)
      have hr := port_row hP (show k < n by omega) hC.l
      go_upto_region 7 with (refine wpList_load_mid rfl 89 _ rfl b (off + k * 8) rfl [.int .i64 (ps k).id, .int .u64 (ps k).cost, .bool (ps k).up, .bool (ps k).has, .int .u64 (ps k).told.root, .int .u64 (ps k).told.cost, .int .u64 (ps k).told.bridge, .int .i64 (ps k).told.port] _ hr Try.underlying89 rfl in74 ?_)
      have hC7 := hC.alloc (.cells #[.int .i64 (ps k).id, .int .u64 (ps k).cost, .bool (ps k).up, .bool (ps k).has, .int .u64 (ps k).told.root, .int .u64 (ps k).told.cost, .int .u64 (ps k).told.bridge, .int .i64 (ps k).told.port] 89)
      have h7 := Blk.new wr #[.int .i64 (ps k).id, .int .u64 (ps k).cost, .bool (ps k).up, .bool (ps k).has, .int .u64 (ps k).told.root, .int .u64 (ps k).told.cost, .int .u64 (ps k).told.bridge, .int .i64 (ps k).told.port] 89
      have hb97 : b9 < wr.heap.size := hC.s.lt
      generalize wr.alloc (.cells #[.int .i64 (ps k).id, .int .u64 (ps k).cost, .bool (ps k).up, .bool (ps k).has, .int .u64 (ps k).told.root, .int .u64 (ps k).told.cost, .int .u64 (ps k).told.bridge, .int .i64 (ps k).told.port] 89) = w7 at hC7 h7 ⊢
      generalize wr.heap.size = b7 at h7 hb97 ⊢
      clear hr hC
      have hokk := hok k (by omega)
      have q7 := h7.cell
      have htk := ref_take g ps k
      cases hup : (ps k).up with
      | false =>
        have hsk := way_skip (take_down (g := g) (S := wayN g ps k) hup)
        rw [hup] at q7
        go_wp2
        go_roundg gh
        case measure => omega
        case rel => exact ⟨k + 1, u, by omega, by go_num, by rw [hsk], by rw [hsk]; exact hu, hC7⟩
      | true =>
        rw [hup] at q7
        cases hhas : (ps k).has with
        | false =>
          have hsk := way_skip (take_none (g := g) (S := wayN g ps k) hhas)
          rw [hhas] at q7
          go_wp2
          go_roundg gh
          case measure => omega
          case rel => exact ⟨k + 1, u, by omega, by go_num, by rw [hsk], by rw [hsk]; exact hu, hC7⟩
        | true =>
          rw [hhas] at q7
          by_cases hbr : (ps k).told.bridge = g
          · have hsk := way_skip (take_own (S := wayN g ps k) hbr)
            have hbrb : ((ps k).told.bridge == g) = true := by simpa using hbr
            clear htk
            go_wp2
            go_roundg gh
            case measure => omega
            case rel => exact ⟨k + 1, u, by omega, by go_num, by rw [hsk], by rw [hsk]; exact hu, hC7⟩
          · have hbrb : ((ps k).told.bridge == g) = false := by simpa using hbr
            have htk' : refTake g ps (wayN g ps k) k = (!decide (g ≤ (ps k).told.root) &&
                (decide ((wayN g ps k).p < 0) || betB (overV (ps k).told (ps k).cost) (wayN g ps k).v || (decide (overV (ps k).told (ps k).cost = (wayN g ps k).v) && decide ((ps k).id < (ps (wayN g ps k).p.toNat).id)))) := by
              unfold refTake; rw [hup, hhas, decide_eq_false hbr]; simp
            rw [htk'] at htk
            clear htk'
            by_cases hrt : g ≤ (ps k).told.root
            · have hsk := way_skip (g := g) (ps := ps) (k := k) (by rw [← htk, decide_eq_true hrt]; rfl)
              clear htk
              go_wp2
              go_roundg gh
              case measure => omega
              case rel => exact ⟨k + 1, u, by omega, by go_num, by rw [hsk], by rw [hsk]; exact hu, hC7⟩
            · rw [decide_eq_false hrt] at htk
              simp only [Bool.not_false, Bool.true_and] at htk
              have k0 := hokk.v.c0
              have k1 := hokk.v.c1
              have x0 := hokk.c0
              have x1 := hokk.c1
              have hov := overV_far (ps k).told (ps k).cost
              obtain ⟨uc, huc⟩ : ∃ uc, farF (ps k).told.cost (ps k).cost = uc := ⟨_, rfl⟩
              rw [huc] at hov
              have HF := Lib.hid huc
              rw [hov] at htk
              have HOV := Lib.hid hov
              clear huc hov
              have hl7 := h7.lt
              go_upto_region 10 with (go_at_call 60; (with_reducible refine (far_calls _ _ _ HF.out k0 x0 _).mono ?_); rintro e w' ⟨rfl, rfl⟩)
              have hC9 := hC7.alloc (.cells #[.int .u64 (ps k).told.root, .int .u64 uc, .int .u64 (ps k).told.bridge, .int .i64 (ps k).told.port] 27)
              have h12 := Blk.new w7 #[.int .u64 (ps k).told.root, .int .u64 uc, .int .u64 (ps k).told.bridge, .int .i64 (ps k).told.port] 27
              have h11 := h7.alloc (.cells #[.int .u64 (ps k).told.root, .int .u64 uc, .int .u64 (ps k).told.bridge, .int .i64 (ps k).told.port] 27)
              have hb912 : b9 < w7.heap.size := by omega
              change Code.wp _ _ _ _ (w7.alloc (.cells #[.int .u64 (ps k).told.root, .int .u64 uc, .int .u64 (ps k).told.bridge, .int .i64 (ps k).told.port] 27))
              generalize w7.alloc (.cells #[.int .u64 (ps k).told.root, .int .u64 uc, .int .u64 (ps k).told.bridge, .int .i64 (ps k).told.port] 27) = w8 at hC9 h12 h11 ⊢
              generalize w7.heap.size = b12 at hb912 h12 ⊢
              clear hC7 h7 q7 hl7 hokk k0 k1 x0 x1
              have hP8 := hP.below hC9.l
              have hlt8 := hP8.lt
              have hkn : k < n := by omega
              have q11 := h11.cell 0
              have q12 : ∀ o, w8.cell? ⟨b12, o, none⟩ = #[Value.int .u64 (ps k).told.root, .int .u64 uc, .int .u64 (ps k).told.bridge, .int .i64 (ps k).told.port][o]? := h12.cell
              have f9 := hC9.s.free
              have hty := way_take (g := g) (ps := ps) (k := k)
              have htn := way_skip (g := g) (ps := ps) (k := k)
              rw [← htk] at hty htn
              rw [HOV.out] at hty
              clear htk
              obtain ⟨⟨sv, spo⟩, hSk⟩ : ∃ S, wayN g ps k = S := ⟨_, rfl⟩
              simp only [hSk] at hty htn hu hpo ⊢
              obtain ⟨u0, u1, u2, u3⟩ := u
              have q9 : ∀ o, w8.cell? ⟨b9, o, none⟩ = #[Value.int .u64 u0, .int .u64 u1, .int .u64 u2, .int .i64 u3][o]? := hC9.s.cell
              have HSk := Lib.hid hSk
              clear hSk
              by_cases hneg : spo < 0
              · have hT := hty (by rw [decide_eq_true hneg]; rfl)
                have HT := Lib.hid hT
                clear hty htn hT hu
                go_quiet (fail)
                go_wp2
                go_region
                go_wp2
                go_roundg gh
                case measure => omega
                case rel => exact ⟨k + 1, ⟨(ps k).told.root, uc, (ps k).told.bridge, (ps k).told.port⟩, by omega, by go_num, by rw [HT.out], by rw [HT.out]; exact fun _ => rfl, (hC9.drewN _).set ⟨(ps k).told.root, uc, (ps k).told.bridge, (ps k).told.port⟩⟩
              · obtain ⟨j, rfl⟩ : ∃ j : Nat, spo = (j : Int) := ⟨spo.toNat, by omega⟩
                have hjn : j < n := by have := hpo.2; omega
                obtain rfl := hu (by omega)
                rw [decide_eq_false hneg, Int.toNat_natCast] at hty htn
                simp only [Bool.false_or] at hty htn
                have cj := hP8.c0 j hjn
                have hjni : (j : Int) < (n : Int) := by omega
                obtain ⟨B, hB⟩ : ∃ B, betB ⟨(ps k).told.root, uc, (ps k).told.bridge, (ps k).told.port⟩ ⟨u0, u1, u2, u3⟩ = B := ⟨_, rfl⟩
                have HB := Lib.hid hB
                rw [hB] at hty htn
                have hK : Keep w8 w8 [(b12, #[.int .u64 (ps k).told.root, .int .u64 uc, .int .u64 (ps k).told.bridge, .int .i64 (ps k).told.port], 27), (b9, #[.int .u64 u0, .int .u64 u1, .int .u64 u2, .int .i64 u3], 27)] := ⟨by intro x hx; simp at hx; rcases hx with rfl | rfl; exact h12; exact hC9.s, Below.refl _ _⟩
                have e0 : ∀ (n : KW w8 [(b12, #[.int .u64 (ps k).told.root, .int .u64 uc, .int .u64 (ps k).told.bridge, .int .i64 (ps k).told.port], 27), (b9, #[.int .u64 u0, .int .u64 u1, .int .u64 u2, .int .i64 u3], 27)]) (o : Nat), n.val.cell? ⟨b12, o, none⟩ = #[Value.int .u64 (ps k).told.root, .int .u64 uc, .int .u64 (ps k).told.bridge, .int .i64 (ps k).told.port][o]? := fun n => (n.keep.nth 0 rfl).cell
                have e1 : ∀ (n : KW w8 [(b12, #[.int .u64 (ps k).told.root, .int .u64 uc, .int .u64 (ps k).told.bridge, .int .i64 (ps k).told.port], 27), (b9, #[.int .u64 u0, .int .u64 u1, .int .u64 u2, .int .i64 u3], 27)]) (o : Nat), n.val.cell? ⟨b9, o, none⟩ = #[Value.int .u64 u0, .int .u64 u1, .int .u64 u2, .int .i64 u3][o]? := fun n => (n.keep.nth 1 rfl).cell
                have e2 : ∀ (n : KW w8 [(b12, #[.int .u64 (ps k).told.root, .int .u64 uc, .int .u64 (ps k).told.bridge, .int .i64 (ps k).told.port], 27), (b9, #[.int .u64 u0, .int .u64 u1, .int .u64 u2, .int .i64 u3], 27)]), n.val.cell? ⟨b7, 0, none⟩ = some (.int .i64 (ps k).id) := fun n => (h11.below n.keep.below h11.lt).cell 0
                have e3 : ∀ (n : KW w8 [(b12, #[.int .u64 (ps k).told.root, .int .u64 uc, .int .u64 (ps k).told.bridge, .int .i64 (ps k).told.port], 27), (b9, #[.int .u64 u0, .int .u64 u1, .int .u64 u2, .int .i64 u3], 27)]), n.val.cell? ⟨b, off + j * 8, none⟩ = some (.int .i64 (ps j).id) := fun n => (hP8.below n.keep.below).c0 j hjn
                have hne : Nonempty (KW w8 [(b12, #[.int .u64 (ps k).told.root, .int .u64 uc, .int .u64 (ps k).told.bridge, .int .i64 (ps k).told.port], 27), (b9, #[.int .u64 u0, .int .u64 u1, .int .u64 u2, .int .i64 u3], 27)]) := ⟨⟨_, hK⟩⟩
                have hst : Hid (∀ w', Below w8.heap.size w8 w' → FW w b4 b9 ⟨u0, u1, u2, u3⟩ w') := fun w' hb => hC9.step hb
                have hnn : decide ((j : Int) < 0) = false := decide_eq_false hneg
                clear q11 h11 h12 hP8 hu q9 q12 cj f9
                cases B with
                | true =>
                  have hT := hty (by rfl)
                  have HT := Lib.hid hT
                  clear hty htn hT hB
                  refine wp_region_keep (by kernel_rfl) (by kernel_rfl) hK ?_
                  repeat (go_big_quiet_step ((go_at_call 42; exact KW.call (before_calls _ _ _ HB.out _))))
                  refine wpQuiet_nil ?_
                  rintro _ ⟨nq, rfl⟩
                  have hC10 := hst.out _ nq.keep.below
                  have q12 : ∀ o, nq.val.cell? ⟨b12, o, none⟩ = #[Value.int .u64 (ps k).told.root, .int .u64 uc, .int .u64 (ps k).told.bridge, .int .i64 (ps k).told.port][o]? := (nq.keep.nth 0 rfl).cell
                  have q9 : ∀ o, nq.val.cell? ⟨b9, o, none⟩ = #[Value.int .u64 u0, .int .u64 u1, .int .u64 u2, .int .i64 u3][o]? := (nq.keep.nth 1 rfl).cell
                  have f9 : ∀ o, nq.val.frozen? ⟨b9, o, none⟩ = false := hC10.s.free
                  clear hne e0 e1 e2 e3
                  generalize nq.val = w10 at *
                  clear nq hK hst
                  go_wp2
                  go_region
                  go_wp2
                  go_roundg gh
                  case measure => omega
                  case rel => exact ⟨k + 1, ⟨(ps k).told.root, uc, (ps k).told.bridge, (ps k).told.port⟩, by omega, by go_num, by rw [HT.out], by rw [HT.out]; exact fun _ => rfl, FW.set (FW.step hC10 (below_drew _)) ⟨(ps k).told.root, uc, (ps k).told.bridge, (ps k).told.port⟩⟩
                | false =>
                  by_cases heq : (⟨(ps k).told.root, uc, (ps k).told.bridge, (ps k).told.port⟩ : Vec) = ⟨u0, u1, u2, u3⟩
                  · rw [decide_eq_true heq] at hty htn
                    simp only [Bool.false_or, Bool.true_and] at hty htn
                    have g0 := congrArg Vec.root heq
                    have g1 := congrArg Vec.cost heq
                    have g2 := congrArg Vec.bridge heq
                    have g3 := congrArg Vec.port heq
                    simp only at g0 g1 g2 g3
                    subst g0 g1 g2 g3
                    clear heq
                    by_cases hid : (ps k).id < (ps j).id
                    · have hT := hty (decide_eq_true hid)
                      have HT := Lib.hid hT
                      have hid' : decide ((ps k).id < (ps j).id) = true := decide_eq_true hid
                      clear hty htn hT hB
                      refine wp_region_keep (by kernel_rfl) (by kernel_rfl) hK ?_
                      repeat (go_big_quiet_step ((go_at_call 42; exact KW.call (before_calls _ _ _ HB.out _))))
                      refine wpQuiet_nil ?_
                      rintro _ ⟨nq, rfl⟩
                      have hC10 := hst.out _ nq.keep.below
                      have q12 : ∀ o, nq.val.cell? ⟨b12, o, none⟩ = #[Value.int .u64 (ps k).told.root, .int .u64 uc, .int .u64 (ps k).told.bridge, .int .i64 (ps k).told.port][o]? := (nq.keep.nth 0 rfl).cell
                      have q9 : ∀ o, nq.val.cell? ⟨b9, o, none⟩ = #[Value.int .u64 (ps k).told.root, .int .u64 uc, .int .u64 (ps k).told.bridge, .int .i64 (ps k).told.port][o]? := (nq.keep.nth 1 rfl).cell
                      have f9 : ∀ o, nq.val.frozen? ⟨b9, o, none⟩ = false := hC10.s.free
                      clear hne e0 e1 e2 e3
                      generalize nq.val = w10 at *
                      clear nq hK hst
                      go_wp2
                      go_region
                      go_wp2
                      go_roundg gh
                      case measure => omega
                      case rel => exact ⟨k + 1, ⟨(ps k).told.root, uc, (ps k).told.bridge, (ps k).told.port⟩, by omega, by go_num, by rw [HT.out], by rw [HT.out]; exact fun _ => rfl, FW.set (FW.step hC10 (below_drew _)) ⟨(ps k).told.root, uc, (ps k).told.bridge, (ps k).told.port⟩⟩
                    · have hT := htn (decide_eq_false hid)
                      have HT := Lib.hid hT
                      have hid' : decide ((ps k).id < (ps j).id) = false := decide_eq_false hid
                      clear hty htn hT hB
                      refine wp_region_keep (by kernel_rfl) (by kernel_rfl) hK ?_
                      repeat (go_big_quiet_step ((go_at_call 42; exact KW.call (before_calls _ _ _ HB.out _))))
                      refine wpQuiet_nil ?_
                      rintro _ ⟨nq, rfl⟩
                      have hC10 := hst.out _ nq.keep.below
                      clear hne e0 e1 e2 e3
                      generalize nq.val = w10 at *
                      clear nq hK hst
                      go_wp2
                      go_roundg gh
                      case measure => omega
                      case rel => exact ⟨k + 1, ⟨(ps k).told.root, uc, (ps k).told.bridge, (ps k).told.port⟩, by omega, by go_num, by rw [HT.out], by rw [HT.out]; exact fun _ => rfl, hC10⟩
                  · rw [decide_eq_false heq] at htn
                    simp only [Bool.false_or, Bool.false_and] at htn
                    have hT := htn trivial
                    have HT := Lib.hid hT
                    clear hty htn hT
                    have hbt : Bet ⟨u0, u1, u2, u3⟩ ⟨(ps k).told.root, uc, (ps k).told.bridge, (ps k).told.port⟩ := by
                      rcases bet_total ⟨(ps k).told.root, uc, (ps k).told.bridge, (ps k).told.port⟩ ⟨u0, u1, u2, u3⟩ with h | h | h
                      · rw [(betB_iff _ _).2 h] at hB; cases hB
                      · exact h
                      · exact (heq h).elim
                    have hpart := eq_parts hbt
                    clear hbt heq hB
                    rcases hpart with h | ⟨rfl, h⟩ | ⟨rfl, rfl, h⟩ | ⟨rfl, rfl, rfl, h⟩
                    all_goals
                      refine wp_region_keep (by kernel_rfl) (by kernel_rfl) hK ?_
                      repeat (go_big_quiet_step ((go_at_call 42; exact KW.call (before_calls _ _ _ HB.out _))))
                      refine wpQuiet_nil ?_
                      rintro _ ⟨nq, rfl⟩
                      have hC10 := hst.out _ nq.keep.below
                      clear hne e0 e1 e2 e3
                      generalize nq.val = w10 at *
                      clear nq hK hst
                      go_wp2
                      go_roundg gh
                      case measure => omega
                      case rel =>
                        refine ⟨k + 1, _, by omega, by go_num, by rw [HT.out], ?_, hC10⟩
                        rw [HT.out]
                        exact fun _ => rfl
end Go.Proofs.Ytjnbjcieepooaac
