/- The law 'VectorChain': ways behind each other cost as much as all of them, in any order. -/
import Derived.Test.YtjnbjcieepooaabVectorC
import Derived.Test.YtjnbjcieepooaabVecOpen
import Derived.Deep.RegionWith
import Derived.StillTailTactics
namespace Go.Proofs.Ytjnbjcieepooaab
open Go.RowKit
set_option linter.unusedVariables false
set_option linter.unusedSimpArgs false

def sumTo (f : Nat → Int) : Nat → Int
  | 0 => 0
  | n + 1 => sumTo f n + f n
theorem sumTo_shift (f : Nat → Int) (n : Nat) : sumTo f (n + 1) = f 0 + sumTo (fun i => f (i + 1)) n := by
  induction n with
  | zero => simp [sumTo]
  | succ n ih =>
    show sumTo f (n + 1) + f (n + 1) = f 0 + (sumTo (fun i => f (i + 1)) n + f (n + 1))
    rw [ih]; omega
theorem sumTo_congr {f g : Nat → Int} {n : Nat} (h : ∀ i, i < n → f i = g i) : sumTo f n = sumTo g n := by
  induction n with
  | zero => rfl
  | succ n ih =>
    show sumTo f n + f n = sumTo g n + g n
    rw [ih fun i hi => h i (by omega), h n (by omega)]
theorem sumTo_rev (f : Nat → Int) (n : Nat) : sumTo (fun i => f (n - 1 - i)) n = sumTo f n := by
  induction n generalizing f with
  | zero => rfl
  | succ n ih =>
    rw [sumTo_shift f n, ← ih fun i => f (i + 1)]
    show sumTo (fun i => f (n + 1 - 1 - i)) n + f (n + 1 - 1 - n) = _
    rw [show n + 1 - 1 - n = 0 by omega, Int.add_comm]
    congr 1
    exact sumTo_congr fun i hi => by congr 1; omega
theorem sumTo_pos {f : Nat → Int} {n : Nat} (h : ∀ i, i < n → 0 ≤ f i) : 0 ≤ sumTo f n := by
  induction n with
  | zero => exact Int.le_refl _
  | succ n ih =>
    show 0 ≤ sumTo f n + f n
    have := ih fun i hi => h i (by omega)
    have := h n (by omega)
    omega

/-- The cost behind so many ways. -/
def behind (c s : Int) (k : Nat) : Int := if k = 0 then c else min (c + s) 4294967295
theorem behind_step {r b p c s x : Int} {k : Nat} (hc : 0 ≤ c) (hs : 0 ≤ s) (hx : 0 ≤ x) (hk : k = 0 → s = 0) : overV ⟨r, behind c s k, b, p⟩ x = ⟨r, behind c (s + x) (k + 1), b, p⟩ := by
  have h : (if 4294967295 < x ∨ 4294967295 - x < behind c s k then 4294967295 else behind c s k + x) = behind c (s + x) (k + 1) := by
    unfold behind
    rw [if_neg (show ¬ k + 1 = 0 by omega)]
    by_cases h0 : k = 0
    · rw [if_pos h0]
      have := hk h0
      split <;> omega
    · rw [if_neg h0]
      split <;> omega
  unfold overV
  show (if 4294967295 < x ∨ 4294967295 - x < behind c s k then Vec.mk r 4294967295 b p else Vec.mk r (behind c s k + x) b p) = _
  rw [← h]
  split <;> rfl

/-- The world in the chain: its two vectors, and all that was there. -/
structure CW (w : World) (ba bb : Nat) (x y : Vec) (wx : World) : Prop where
  a : Blk wx ba x.cells 24
  b : Blk wx bb y.cells 24
  l : Below w.heap.size w wx
  ne : ba ≠ bb
  la : w.heap.size ≤ ba
  lb : w.heap.size ≤ bb
theorem CW.step {w wx w' : World} {ba bb : Nat} {x y : Vec} (h : CW w ba bb x y wx) (hb : Below wx.heap.size wx w') : CW w ba bb x y w' :=
  ⟨h.a.below hb h.a.lt, h.b.below hb h.b.lt, h.l.trans (hb.mono h.l.size), h.ne, h.la, h.lb⟩
theorem CW.step_drew {w wx w' : World} {ba bb : Nat} {x y : Vec} (h : CW w ba bb x y wx) (hb : Below wx.drew.heap.size wx.drew w') : CW w ba bb x y w' :=
  CW.step h ⟨hb.os, hb.tape, hb.output, hb.size, hb.block⟩
theorem CW.set_a {w wx : World} {ba bb : Nat} {x y : Vec} (h : CW w ba bb x y wx) (z : Vec) :
    CW w ba bb z y ((((wx.setCell ⟨ba, 0, none⟩ (.int .u64 z.root)).setCell ⟨ba, 1, none⟩ (.int .u64 z.cost)).setCell ⟨ba, 2, none⟩ (.int .u64 z.bridge)).setCell ⟨ba, 3, none⟩ (.int .i64 z.port)) := by
  refine ⟨(((h.a.set 0 _).set 1 _).set 2 _).set 3 _, (((h.b.set_other (fun e => h.ne e.symm) _).set_other (fun e => h.ne e.symm) _).set_other (fun e => h.ne e.symm) _).set_other (fun e => h.ne e.symm) _, ?_, h.ne, h.la, h.lb⟩
  exact Fr.below (Fr.set (Fr.set (Fr.set (Fr.set (m := fun k => w.heap.size ≤ k) (Fr.of_below h.l) (.inl h.la) _) (.inl h.la) _) (.inl h.la) _) (.inl h.la) _) (Nat.le_refl _)
theorem CW.set_b {w wx : World} {ba bb : Nat} {x y : Vec} (h : CW w ba bb x y wx) (z : Vec) :
    CW w ba bb x z ((((wx.setCell ⟨bb, 0, none⟩ (.int .u64 z.root)).setCell ⟨bb, 1, none⟩ (.int .u64 z.cost)).setCell ⟨bb, 2, none⟩ (.int .u64 z.bridge)).setCell ⟨bb, 3, none⟩ (.int .i64 z.port)) := by
  refine ⟨(((h.a.set_other h.ne _).set_other h.ne _).set_other h.ne _).set_other h.ne _, (((h.b.set 0 _).set 1 _).set 2 _).set 3 _, ?_, h.ne, h.la, h.lb⟩
  exact Fr.below (Fr.set (Fr.set (Fr.set (Fr.set (m := fun k => w.heap.size ≤ k) (Fr.of_below h.l) (.inl h.lb) _) (.inl h.lb) _) (.inl h.lb) _) (.inl h.lb) _) (Nat.le_refl _)

theorem uk : kindAt Try.prog 2 22 0 = some (.i .u64) := by kernel_rfl
theorem cellsOfU : Try.prog.cellsOf 22 = 1 := by kernel_rfl
theorem costs_of {w : World} {a : Option Addr} {len : Nat} (F : FlatS Try.prog w 22 a len) :
    ∃ f : Nat → Int, (∀ i, i < len → 0 ≤ f i ∧ f i ≤ 18446744073709551615) ∧ (0 < len → ∃ b off, a = some ⟨b, off, none⟩ ∧ b < w.heap.size ∧ ∀ i, i < len → w.cell? ⟨b, off + i, none⟩ = some (.int .u64 (f i))) := by
  by_cases h0 : 0 < len
  · obtain ⟨b, off, rfl, hlt, hc⟩ := F.at_ h0
    obtain ⟨f, hf⟩ := choose_fn len (fun i x => w.cell? ⟨b, off + i, none⟩ = some (.int .u64 x) ∧ 0 ≤ x ∧ x ≤ 18446744073709551615) (0 : Int) (fun i hi => by
      obtain ⟨_, h1, x1, rfl, w1⟩ := hc i hi 2 0 _ uk
      rw [cellsOfU, Nat.mul_one, Nat.add_zero] at h1
      exact ⟨x1, h1, (wf_bdu64 w1).1, (wf_bdu64 w1).2⟩)
    exact ⟨f, fun i hi => (hf i hi).2, fun _ => ⟨b, off, rfl, hlt, fun i hi => (hf i hi).1⟩⟩
  · exact ⟨fun _ => 0, fun i hi => absurd hi (by omega), fun h => absurd h h0⟩

set_option maxRecDepth 8000 in
set_option maxHeartbeats 4000000 in
/-- 'VectorChain' answers true. -/
theorem vectorChain_any (w : World) (v : Vec) (hv : v.ok) (a : Option Addr) (len cap : Nat) (F : FlatS Try.prog w 22 a len) :
    Calls Try.prog 9 #[v.val, .slice a len cap] w fun e w' => e = .returned (.bool true) ∧ Below w.heap.size w w' := by
  have hlen := F.top
  obtain ⟨f, hf, hcs⟩ := costs_of F
  clear F
  obtain ⟨r, c, b, p⟩ := v
  obtain ⟨r0, r1, k0, k1, b0, b1, p0, p1⟩ := hv
  simp only at r0 r1 k0 k1 b0 b1 p0 p1
  clear r0 r1 b0 b1 p0 p1
  go_enter Try.func9, Try.ntmps9
  go_upto_region 1 with fail
  have hK : Keep w (w.alloc (.cells #[.int .u64 r, .int .u64 c, .int .u64 b, .int .i64 p] 24)) [(w.heap.size, #[.int .u64 r, .int .u64 c, .int .u64 b, .int .i64 p], 24)] := (Keep.start w).add _ _
  generalize w.alloc (.cells #[.int .u64 r, .int .u64 c, .int .u64 b, .int .i64 p] 24) = W at hK ⊢
  by_cases h100 : 100 < len
  · go_wp2_with (go_at_call 15; (with_reducible refine (orders_calls _).mono ?_); rintro e w' ⟨rfl, hb1⟩; have hK' := hK.step hb1)
    go_ret
    exact ⟨rfl, hK'.below⟩
  go_upto_region 5 with (go_at_call 15; (with_reducible refine (orders_calls _).mono ?_); rintro e w' ⟨rfl, hb1⟩; have hK' := hK.step hb1)
  rename World => W1
  clear hK
  have q1 := (hK'.nth 0 rfl).cell
  have hlt := (hK'.nth 0 rfl).lt
  go_region
  all_goals
    have hA := (hK'.add #[.int .u64 r, .int .u64 c, .int .u64 b, .int .i64 p] 24).add #[.int .u64 r, .int .u64 c, .int .u64 b, .int .i64 p] 24
    have hs : (W1.alloc (.cells #[.int .u64 r, .int .u64 c, .int .u64 b, .int .i64 p] 24)).heap.size = W1.heap.size + 1 := by simp
    rw [hs] at hA
    have a1 := hA.nth 0 rfl
    have a2 := hA.nth 1 rfl
    have al := hA.below
    have hl1 : w.heap.size ≤ W1.heap.size := hK'.below.size
    have hC1 : CW w W1.heap.size (W1.heap.size + 1) ⟨r, c, b, p⟩ ⟨r, c, b, p⟩ (((W1.alloc (.cells #[.int .u64 r, .int .u64 c, .int .u64 b, .int .i64 p] 24)).alloc (.cells #[.int .u64 r, .int .u64 c, .int .u64 b, .int .i64 p] 24)).drew) :=
      ⟨a2, a1, ⟨al.os, al.tape, al.output, al.size, al.block⟩, by omega, hl1, by omega⟩
    have hC2 : CW w (W1.heap.size + 1) W1.heap.size ⟨r, c, b, p⟩ ⟨r, c, b, p⟩ (((W1.alloc (.cells #[.int .u64 r, .int .u64 c, .int .u64 b, .int .i64 p] 24)).alloc (.cells #[.int .u64 r, .int .u64 c, .int .u64 b, .int .i64 p] 24)).drew) :=
      ⟨a1, a2, ⟨al.os, al.tape, al.output, al.size, al.block⟩, by omega, by omega, hl1⟩
    clear hA hs a1 a2 al hK' q1 hlt hl1
    generalize ((W1.alloc (.cells #[.int .u64 r, .int .u64 c, .int .u64 b, .int .i64 p] 24)).alloc (.cells #[.int .u64 r, .int .u64 c, .int .u64 b, .int .i64 p] 24)).drew = W2 at hC1 hC2 ⊢
    go_wp2
  rotate_left
  have hC1 := hC2
  all_goals
    have hC := hC1
    clear hC1 hC2
  generalize W1.heap.size + 1 = ba at hC ⊢
  generalize W1.heap.size = bb at hC ⊢
  rotate_left
  generalize W1.heap.size + 1 = bb at hC ⊢
  generalize W1.heap.size = ba at hC ⊢
  all_goals
    go_loopg [17] len (fun g s17 wx => ∃ k : Nat, k + g = len ∧ s17 = .int .i64 (k : Int) ∧ CW w ba bb ⟨r, behind c (sumTo f k) k, b, p⟩ ⟨r, behind c (sumTo (fun i => f (len - 1 - i)) k) k, b, p⟩ wx)
    case atStart => exact ⟨0, by omega, rfl, hC⟩
    case round =>
      obtain ⟨k, hkg, rfl, hC⟩ := hrel
      cases gk with
      | zero =>
        obtain rfl : k = len := by omega
        have hkM : ¬ ((k : Int) < (k : Int)) := by omega
        rw [sumTo_rev] at hC
        generalize behind c (sumTo f k) k = z at hC
        have q1 := hC.a.cell
        have q2 := hC.b.cell
        unfold Vec.cells at q1 q2
        have hbl := hC.l
        clear hcs hf hkg hC
        go_wp2
        go_ret
        exact ⟨rfl, hbl⟩
      | succ g =>
        have hkM : (k : Int) < (len : Int) := by omega
        obtain ⟨b9, off, rfl, hlt, hcc⟩ := hcs (by omega)
        obtain ⟨m, hm⟩ : ∃ m : Nat, m = len - 1 - k := ⟨_, rfl⟩
        have hm2 : (len : Int) - 1 - (k : Int) = (m : Int) := by omega
        have f1 := hf k (by omega)
        have f2 := hf m (by omega)
        have n1 := sumTo_pos (f := f) (n := k) fun i hi => (hf i (by omega)).1
        have n2 := sumTo_pos (f := fun i => f (len - 1 - i)) (n := k) fun i hi => (hf (len - 1 - i) (by omega)).1
        have e1 := behind_step (r := r) (b := b) (p := p) (k := k) k0 n1 f1.1 (fun h => by subst h; rfl)
        have e2 := behind_step (r := r) (b := b) (p := p) (k := k) k0 n2 f2.1 (fun h => by subst h; rfl)
        have bd1 : 0 ≤ behind c (sumTo f k) k ∧ behind c (sumTo f k) k ≤ 18446744073709551615 := by unfold behind; split <;> omega
        have bd2 : 0 ≤ behind c (sumTo (fun i => f (len - 1 - i)) k) k ∧ behind c (sumTo (fun i => f (len - 1 - i)) k) k ≤ 18446744073709551615 := by unfold behind; split <;> omega
        have z1 : sumTo f k + f k = sumTo f (k + 1) := rfl
        have z2 : sumTo (fun i => f (len - 1 - i)) k + f m = sumTo (fun i => f (len - 1 - i)) (k + 1) := by rw [hm]; rfl
        rw [z1] at e1
        rw [z2] at e2
        have i1 : wr.cell? ⟨b9, off + k, none⟩ = some (.int .u64 (f k)) := by rw [hC.l.cell hlt]; exact hcc k (by omega)
        have i2 : ∀ wx : World, Below w.heap.size w wx → wx.cell? ⟨b9, off + m, none⟩ = some (.int .u64 (f m)) := fun wx hb => by rw [hb.cell hlt]; exact hcc m (by omega)
        generalize behind c (sumTo f k) k = ca at hC e1 bd1
        generalize behind c (sumTo (fun i => f (len - 1 - i)) k) k = cb at hC e2 bd2
        generalize hna : behind c (sumTo f (k + 1)) (k + 1) = na at e1
        generalize hnb : behind c (sumTo (fun i => f (len - 1 - i)) (k + 1)) (k + 1) = nb at e2
        generalize f k = x1 at i1 e1 f1
        generalize f m = x2 at i2 e2 f2
        obtain ⟨f1l, f1u⟩ := f1
        obtain ⟨f2l, f2u⟩ := f2
        obtain ⟨c1l, c1u⟩ := bd1
        obtain ⟨c2l, c2u⟩ := bd2
        have E1 := Lib.hid e1
        have E2 := Lib.hid e2
        have NA := Lib.hid hna
        have NB := Lib.hid hnb
        have I2 := Lib.hid i2
        have q1 : ∀ o, wr.cell? ⟨ba, o, none⟩ = #[Value.int .u64 r, .int .u64 ca, .int .u64 b, .int .i64 p][o]? := hC.a.cell
        have q2 : ∀ o, wr.frozen? ⟨ba, o, none⟩ = false := hC.a.free
        clear hcs hf hcc n1 n2 e1 e2 z1 z2 hna hnb i2 hm
        go_upto_region 9 with fail
        go_region_with (go_at_call 18; (with_reducible refine (over_calls _ _ _ E1.out _ c1l c1u f1l f1u).mono ?_); rintro e w' ⟨rfl, hb1⟩; have hC' := CW.step_drew hC hb1; have r1 : ∀ o, w'.cell? ⟨ba, o, none⟩ = #[Value.int .u64 r, .int .u64 ca, .int .u64 b, .int .i64 p][o]? := hC'.a.cell; have r2 : ∀ o, w'.frozen? ⟨ba, o, none⟩ = false := hC'.a.free)
        all_goals
          have hD := hC'.set_a ⟨r, na, b, p⟩
          dsimp only at hD
          generalize World.setCell (World.setCell (World.setCell (World.setCell w' _ _) _ _) _ _) _ _ = W3 at hD ⊢
          clear hC hC' q1 q2 r1 r2 hb1 i1 w'
          have q1 : ∀ o, W3.cell? ⟨bb, o, none⟩ = #[Value.int .u64 r, .int .u64 cb, .int .u64 b, .int .i64 p][o]? := hD.b.cell
          have q2 : ∀ o, W3.frozen? ⟨bb, o, none⟩ = false := hD.b.free
          have i1 := I2.out W3 hD.l
          have s1 : IntKind.i64.wrap ((len : Int) - 1) = (len : Int) - 1 := IntWalk.i64_in _ (by omega)
          have s2 : IntKind.i64.wrap ((len : Int) - 1 - (k : Int)) = (m : Int) := by rw [hm2]; exact IntWalk.i64_in _ (by omega)
          have hml : (m : Int) < (len : Int) := by omega
          have hml2 : m < len := by omega
          clear hm2
          go_upto_region 10 with fail
          go_region_with (go_at_call 18; (with_reducible refine (over_calls _ _ _ E2.out _ c2l c2u f2l f2u).mono ?_); rintro e w' ⟨rfl, hb1⟩; have hC' := CW.step_drew hD hb1; have r1 : ∀ o, w'.cell? ⟨bb, o, none⟩ = #[Value.int .u64 r, .int .u64 cb, .int .u64 b, .int .i64 p][o]? := hC'.b.cell; have r2 : ∀ o, w'.frozen? ⟨bb, o, none⟩ = false := hC'.b.free)
          all_goals
            have hE := hC'.set_b ⟨r, nb, b, p⟩
            dsimp only at hE
            generalize World.setCell (World.setCell (World.setCell (World.setCell w' _ _) _ _) _ _) _ _ = W4 at hE ⊢
            rw [← NA.out, ← NB.out] at hE
            go_wp2
            go_roundg g
            case measure => omega
            case rel => exact ⟨k + 1, by omega, by go_num, hE⟩
end Go.Proofs.Ytjnbjcieepooaab
