/- The law 'CreditPlays': a class's credit told in one step is the credit told nanosecond by nanosecond; walked over the contracts of package credit and of its reference. -/
import Derived.Test.YtjnbjcieepooaaaCreditRate
import Derived.Deep.MidRow
import Derived.Deep.QuietTactic
import Derived.BigQuiet
namespace Go.Proofs.Ytjnbjcieepooaaa
open Go.RowKit
set_option linter.unusedVariables false
set_option linter.unusedSimpArgs false

/-- The credit after j nanoseconds. -/
def adv (i p md V j : Int) : Int := if md = 0 then min (V + i * j) 0 else if md = 1 then V + i * j else V - (p - i) * j
theorem adv_zero {i p md V : Int} (h : md = 0 → V ≤ 0) : adv i p md V 0 = V := by
  unfold adv
  rw [Int.mul_zero, Int.mul_zero]
  split
  · have := h (by assumption); omega
  · split <;> omega
theorem adv_tick {i p md V j l : Int} (hi : 1 ≤ i) : tickV ⟨i, p, adv i p md V j, l, md⟩ = adv i p md V (j + 1) := by
  unfold tickV adv
  by_cases c0 : md = 0
  · simp only [c0, if_true]
    rw [Int.mul_add, Int.mul_one]
    show min (min (V + i * j) 0 + i) 0 = _
    omega
  · by_cases c1 : md = 1
    · simp only [c1, if_true, Int.reduceEq, if_false]
      rw [Int.mul_add, Int.mul_one]
      show V + i * j + i = _
      omega
    · simp only [c0, c1, if_false]
      rw [Int.mul_add, Int.mul_one]
      show V - (p - i) * j - (p - i) = _
      omega
theorem adv_bd {i p md V j : Int} (h1 : 1 ≤ i) (h2 : i ≤ p) (h3 : p ≤ 10000000000) (j0 : 0 ≤ j) (h : md = 0 → V ≤ 0) :
    V - 10000000000 * j ≤ adv i p md V j ∧ adv i p md V j ≤ V + 10000000000 * j := by
  have a1 := mul_le_of (show 0 ≤ i by omega) (show i ≤ 10000000000 by omega) j0 (Int.le_refl j)
  have a2 := mul_le_of (show 0 ≤ p - i by omega) (show p - i ≤ 10000000000 by omega) j0 (Int.le_refl j)
  unfold adv
  split
  · have := h (by assumption); omega
  · split <;> omega
theorem adv_le {i p md V j : Int} (h : md = 0) : adv i p md V j ≤ 0 := by
  unfold adv; rw [if_pos h]; omega
theorem adv_pass {i p md V t j : Int} (h1 : 1 ≤ i) (h2 : i ≤ p) (h3 : p ≤ 10000000000) (j0 : 0 ≤ j) (j1 : j ≤ 20000) (h : md = 0 → V ≤ 0) (m0 : 0 ≤ md) (m2 : md ≤ 2) (v1 : -1000000000000000 ≤ V) (v2 : V ≤ 1000000000000000) :
    passS ⟨i, p, V, t, md⟩ (t + j) = ⟨i, p, adv i p md V j, t + j, md⟩ := by
  have hb := adv_bd (md := md) (V := V) h1 h2 h3 j0 h
  have e : t + j - t = j := by omega
  have hm : md = 0 ∨ md = 1 ∨ md = 2 := by omega
  rcases hm with rfl | rfl | rfl
  · rw [pass_empty h1 (by omega) (h rfl), e]; rfl
  · have e2 : adv i p 1 V j = V + i * j := rfl
    rw [e2] at hb
    rw [pass_waits h1 (by omega) (by omega) (by rw [e]; omega), e]; rfl
  · have e2 : adv i p 2 V j = V - (p - i) * j := rfl
    rw [e2] at hb
    rw [pass_sends h2 (by omega) (by omega) (by rw [e]; omega), e]; rfl

/-- The world in the plays: the class's credit, the reference's, and all that was there. -/
structure PW (w : World) (bs br : Nat) (S R : Sh) (wx : World) : Prop where
  s : Blk wx bs S.cells 65
  r : Blk wx br R.refCells 49
  b : Below w.heap.size w wx
  ne : bs ≠ br
  ls : w.heap.size ≤ bs
  lr : w.heap.size ≤ br
/-- With the play's own copy of its row. -/
structure PM (w : World) (bs br bm : Nat) (S R : Sh) (x y : Int) (wx : World) : Prop where
  p : PW w bs br S R wx
  m : Blk wx bm #[.int .i64 x, .int .i64 y] 50
  n1 : bm ≠ bs
  n2 : bm ≠ br
theorem PM.s_turn {w wx w' : World} {bs br bm : Nat} {S R S' : Sh} {x y : Int} (h : PM w bs br bm S R x y wx) (hk : Blk w' bs S'.cells 65) (hf : Fr (· = bs) wx w') : PM w bs br bm S' R x y w' :=
  ⟨⟨hk, h.p.r.fr hf (fun e => h.p.ne e.symm), Below.step h.p.b hf h.p.ls, h.p.ne, h.p.ls, h.p.lr⟩, h.m.fr hf h.n1, h.n1, h.n2⟩
theorem PM.r_turn {w wx w' : World} {bs br bm : Nat} {S R R' : Sh} {x y : Int} (h : PM w bs br bm S R x y wx) (hk : Blk w' br R'.refCells 49) (hf : Fr (· = br) wx w') : PM w bs br bm S R' x y w' :=
  ⟨⟨h.p.s.fr hf h.p.ne, hk, Below.step h.p.b hf h.p.lr, h.p.ne, h.p.ls, h.p.lr⟩, h.m.fr hf h.n2, h.n1, h.n2⟩
theorem PM.drew {w wx : World} {bs br bm : Nat} {S R : Sh} {x y : Int} (h : PM w bs br bm S R x y wx) : PM w bs br bm S R x y wx.drew :=
  ⟨⟨h.p.s, h.p.r, ⟨h.p.b.os, h.p.b.tape, h.p.b.output, h.p.b.size, h.p.b.block⟩, h.p.ne, h.p.ls, h.p.lr⟩, h.m, h.n1, h.n2⟩
theorem PM.s {w wx : World} {bs br bm : Nat} {S R : Sh} {x y : Int} (h : PM w bs br bm S R x y wx) : Blk wx bs S.cells 65 := h.p.s
theorem PM.r {w wx : World} {bs br bm : Nat} {S R : Sh} {x y : Int} (h : PM w bs br bm S R x y wx) : Blk wx br R.refCells 49 := h.p.r
theorem PM.c0 {w wx : World} {bs br bm : Nat} {S R : Sh} {x y : Int} (h : PM w bs br bm S R x y wx) : wx.cell? ⟨bm, 0, none⟩ = some (.int .i64 x) := h.m.cell 0
theorem PM.c1 {w wx : World} {bs br bm : Nat} {S R : Sh} {x y : Int} (h : PM w bs br bm S R x y wx) : wx.cell? ⟨bm, 1, none⟩ = some (.int .i64 y) := h.m.cell 1
theorem PM.rv {w wx : World} {bs br bm : Nat} {i p v l md : Int} {S : Sh} {x y : Int} (h : PM w bs br bm S ⟨i, p, v, l, md⟩ x y wx) : wx.cell? ⟨br, 2, none⟩ = some (.int .i64 v) := h.p.r.cell 2

/-- A world in a region that calls the shaper: its credit is as it was ahead, or as it is told. -/
structure QW (w : World) (bs br bm : Nat) (S0 S1 R : Sh) (x y : Int) where
  val : World
  ok : PM w bs br bm S0 R x y val ∨ PM w bs br bm S1 R x y val
theorem wp_region_q {id : Nat} {Q : Exit → Act → World → Prop} {a : Act} {W : World} {ops : List Oper} {w : World} {bs br bm : Nat} {S0 S1 R : Sh} {x y : Int} (hm : Try.prog.follows .mixedOrders = true) (hB : Region.lexB .any ops.toArray = true) (hK : PM w bs br bm S0 R x y W)
    (h : wpQuiet Try.prog ops.toArray (fun w' => ∃ n : QW w bs br bm S0 S1 R x y, w' = n.val) (fun a' => ∀ w', (∃ n : QW w bs br bm S0 S1 R x y, w' = n.val) → Q .normal a' w') ops a) : (Code.region id ops.toArray true).wp Try.prog Q a W :=
  wp_region_quiet (C := fun w' => ∃ n : QW w bs br bm S0 S1 R x y, w' = n.val) hm hB ⟨⟨_, .inl (PM.drew hK)⟩, rfl⟩ (by simpa using h)
theorem QW.value {w : World} {bs br bm : Nat} {S0 S1 R : Sh} {x y : Int} (h0 : S0.ok) (h1 : S1.ok) (now : Int) (hnow : now ≤ 9223372036854775807) (e0 : passS S0 now = S1) (e1 : passS S1 now = S1) (v : Int) (hv : S1.value = v) (n : QW w bs br bm S0 S1 R x y) :
    Calls Try.prog 30 #[.pointer (some ⟨bs, 0, none⟩), .int .i64 now] n.val fun e w'' => e = .returned (.int .i64 v) ∧ ∃ m : QW w bs br bm S0 S1 R x y, w'' = m.val := by
  rcases n.ok with hq | hq
  · refine (value_calls S0 h0 now hnow v (by rw [e0]; exact hv) bs _ hq.s).mono ?_
    rintro e w' ⟨rfl, hk, hf⟩
    rw [e0] at hk
    exact ⟨rfl, ⟨w', .inr (hq.s_turn hk hf)⟩, rfl⟩
  · refine (value_calls S1 h1 now hnow v (by rw [e1]; exact hv) bs _ hq.s).mono ?_
    rintro e w' ⟨rfl, hk, hf⟩
    rw [e1] at hk
    exact ⟨rfl, ⟨w', .inr (hq.s_turn hk hf)⟩, rfl⟩
theorem QW.ready {w : World} {bs br bm : Nat} {S0 S1 R : Sh} {x y : Int} (h0 : S0.ok) (h1 : S1.ok) (now : Int) (hnow : now ≤ 9223372036854775807) (e0 : passS S0 now = S1) (e1 : passS S1 now = S1) (v : Bool) (hv : decide (0 ≤ S1.value) = v) (n : QW w bs br bm S0 S1 R x y) :
    Calls Try.prog 31 #[.pointer (some ⟨bs, 0, none⟩), .int .i64 now] n.val fun e w'' => e = .returned (.bool v) ∧ ∃ m : QW w bs br bm S0 S1 R x y, w'' = m.val := by
  rcases n.ok with hq | hq
  · refine (ready_calls S0 h0 now hnow v (by rw [e0]; exact hv) bs _ hq.s).mono ?_
    rintro e w' ⟨rfl, hk, hf⟩
    rw [e0] at hk
    exact ⟨rfl, ⟨w', .inr (hq.s_turn hk hf)⟩, rfl⟩
  · refine (ready_calls S1 h1 now hnow v (by rw [e1]; exact hv) bs _ hq.s).mono ?_
    rintro e w' ⟨rfl, hk, hf⟩
    rw [e1] at hk
    exact ⟨rfl, ⟨w', .inr (hq.s_turn hk hf)⟩, rfl⟩
theorem QW.rv {w : World} {bs br bm : Nat} {S0 S1 : Sh} {i p v l md x y : Int} (n : QW w bs br bm S0 S1 ⟨i, p, v, l, md⟩ x y) : n.val.cell? ⟨br, 2, none⟩ = some (.int .i64 v) := by
  rcases n.ok with hq | hq
  · exact hq.rv
  · exact hq.rv
theorem QW.c0 {w : World} {bs br bm : Nat} {S0 S1 R : Sh} {x y : Int} (n : QW w bs br bm S0 S1 R x y) : n.val.cell? ⟨bm, 0, none⟩ = some (.int .i64 x) := by
  rcases n.ok with hq | hq
  · exact hq.c0
  · exact hq.c0
/-- The mode is set, in either case. -/
theorem QW.mode {w : World} {bs br bm : Nat} {S0 S1 R : Sh} {x y : Int} (h0 : S0.ok) (h1 : S1.ok) (m now : Int) (m0 : 0 ≤ m) (m2 : m ≤ 2) (hnow : now ≤ 9223372036854775807) (e0 : passS S0 now = S1) (e1 : passS S1 now = S1) (S2 : Sh) (hS : ({ S1 with mode := m, value := if m = 0 then min S1.value 0 else S1.value } : Sh) = S2) (n : QW w bs br bm S0 S1 R x y) :
    Calls Try.prog 32 #[.pointer (some ⟨bs, 0, none⟩), .int .i64 m, .int .i64 now] n.val fun e w' => e = .returned (.int .i64 0) ∧ PM w bs br bm S2 R x y w' := by
  rcases n.ok with hq | hq
  · refine (mode_calls S0 h0 m now m0 m2 hnow bs _ hq.s).mono ?_
    rintro e w' ⟨rfl, hk, hf⟩
    unfold modeS at hk
    rw [e0, hS] at hk
    exact ⟨rfl, hq.s_turn hk hf⟩
  · refine (mode_calls S1 h1 m now m0 m2 hnow bs _ hq.s).mono ?_
    rintro e w' ⟨rfl, hk, hf⟩
    unfold modeS at hk
    rw [e1, hS] at hk
    exact ⟨rfl, hq.s_turn hk hf⟩

theorem cellsOf50 : Try.prog.cellsOf 50 = 2 := by kernel_rfl
theorem in50 : (Try.prog.info? 50).map (·.size) = some 2 := by kernel_rfl
theorem row_at {w wx : World} {a : Option Addr} {len : Nat} (F : FlatS Try.prog w 50 a len) {k : Nat} (hk : k < len) (hb : Below w.heap.size w wx) :
    ∃ b off x y, a = some ⟨b, off, none⟩ ∧ wx.rangeAt b (off + k * 2) [.int .i64 x, .int .i64 y] := by
  obtain ⟨b, off, rfl, hlt, hc⟩ := F.at_ (by omega)
  obtain ⟨v, hv, x, rfl, _⟩ := hc k hk 2 0 _ rk0
  obtain ⟨v, hv', y, rfl, _⟩ := hc k hk 2 1 _ rk1
  rw [cellsOf50] at hv hv'
  refine ⟨b, off, x, y, rfl, fun j v hj => ?_⟩
  match j, hj with
  | 0, hj => rw [hb.cell hlt]; obtain rfl : Value.int .i64 x = v := by simpa using hj
             rw [← hv]; congr 2
  | 1, hj => rw [hb.cell hlt]; obtain rfl : Value.int .i64 y = v := by simpa using hj
             rw [← hv']; congr 2
  | j + 2, hj => simp at hj

set_option maxRecDepth 8000 in
set_option maxHeartbeats 4000000 in
theorem creditPlays_any (w : World) (i p : Int) (a : Option Addr) (len cap : Nat) (F : FlatS Try.prog w 50 a len) :
    Calls Try.prog 11 #[.int .i64 i, .int .i64 p, .slice a len cap] w fun e w' => e = .returned (.bool true) ∧ Below w.heap.size w w' := by
  have hlen := F.top
  by_cases h60 : 60 < len
  · go_enter Try.func11, Try.ntmps11
    go_wp2_with (go_at_call 27; (with_reducible refine (saves_calls _).mono ?_); rintro e w' ⟨rfl, hb1⟩)
    go_ret
    exact ⟨rfl, by assumption⟩
  go_enter Try.func11, Try.ntmps11
  go_upto_region 5 with (go_at_call 27; (with_reducible refine (saves_calls _).mono ?_); rintro e w' ⟨rfl, hb⟩)
  rename World => W1
  by_cases h1 : i < 1
  · go_wp2_with (go_at_call 28; (with_reducible refine (new_bad _ _ (by omega) _).mono ?_); rintro e w' ⟨rfl, rfl⟩)
    go_ret
    exact ⟨rfl, by assumption⟩
  by_cases h2 : 10000000000 < p
  · go_wp2_with (go_at_call 28; (with_reducible refine (new_bad _ _ (by omega) _).mono ?_); rintro e w' ⟨rfl, rfl⟩)
    go_ret
    exact ⟨rfl, by assumption⟩
  by_cases h3 : p < i
  · go_wp2_with (go_at_call 28; (with_reducible refine (new_bad _ _ (by omega) _).mono ?_); rintro e w' ⟨rfl, rfl⟩)
    go_ret
    exact ⟨rfl, by assumption⟩
  have i1 : 1 ≤ i := by omega
  have i2 : i ≤ p := by omega
  have i3 : p ≤ 10000000000 := by omega
  have hge : w.heap.size ≤ W1.heap.size := hb.size
  go_upto_region 12 with (go_at_call 28; (with_reducible refine (new_ok _ _ i1 i3 i2 _).mono ?_); rintro e w' ⟨rfl, hk, hb1⟩; have hb' := hb.trans (hb1.mono hge); clear hb hb1; rename Below _ _ _ => hb)
  have P0 : PW w W1.heap.size w'.heap.size ⟨i, p, 0, 0, 0⟩ ⟨i, p, 0, 0, 0⟩ (w'.alloc (.cells #[.int .i64 i, .int .i64 p, .int .i64 0, .int .i64 0] 49)) :=
    ⟨hk.alloc _, Blk.new _ _ _, hb.alloc hb.size _, Nat.ne_of_lt hk.lt, hge, hb.size⟩
  generalize w'.alloc (.cells #[.int .i64 i, .int .i64 p, .int .i64 0, .int .i64 0] 49) = W2 at P0 ⊢
  generalize W1.heap.size = bs at P0 ⊢
  generalize w'.heap.size = br at P0 ⊢
  clear hk hb hge
  clear w' W1
  have hOK : Hid (∀ v t m, -1152921504606846976 ≤ v → v ≤ 1152921504606846976 → 0 ≤ t → 0 ≤ m → m ≤ 2 → (Sh.mk i p v t m).ok) := fun v t m a1 a2 a3 a4 a5 => ⟨i1, i2, i3, a1, a2, a3, a4, a5⟩
  go_wp2
  go_loopg [10, 50] len (fun g s10 s50 wx => ∃ (k j0 : Nat) (t V md : Int), k + g = len ∧ s50 = .int .i64 (k : Int) ∧ s10 = .int .i64 (t + (j0 : Int)) ∧ 0 ≤ t ∧ t + (j0 : Int) ≤ 300 * (k : Int) ∧ 10000000000 * (j0 : Int) - 3000000000000 * (k : Int) ≤ V ∧ V ≤ 3000000000000 * (k : Int) - 10000000000 * (j0 : Int) ∧ 0 ≤ md ∧ md ≤ 2 ∧ (md = 0 → V ≤ 0) ∧ PW w bs br ⟨i, p, V, t, md⟩ ⟨i, p, adv i p md V (j0 : Int), t, md⟩ wx)
  case atStart => exact ⟨0, 0, 0, 0, 0, by omega, rfl, rfl, by omega, by omega, by omega, by omega, by omega, by omega, fun _ => Int.le_refl _, by rw [show ((0 : Nat) : Int) = 0 from rfl, adv_zero fun _ => Int.le_refl _]; exact P0⟩
  case round =>
    obtain ⟨k, j0, t, V, md, hkg, rfl, rfl, t0, t1, V0, V9, m0, m1, hm, hP⟩ := hrel
    cases gk with
    | zero =>
      have hkM : ¬ ((k : Int) < (len : Int)) := by omega
      clear F hOK P0 t1 V0 V9 hkg hm
      go_wp2
      go_ret
      exact ⟨rfl, hP.b⟩
    | succ g =>
      have hkM : (k : Int) < (len : Int) := by omega
      have hk60 : (k : Int) < 60 := by omega
      obtain ⟨b, off, x, y, rfl, hr⟩ := row_at F (show k < len by omega) hP.b
      clear P0 F
      go_upto_region 15 with (refine wpList_load_mid rfl 50 _ rfl b (off + k * 2) rfl [.int .i64 x, .int .i64 y] _ hr Try.underlying50 rfl in50 ?_)
      have hQ : PM w bs br wr.heap.size ⟨i, p, V, t, md⟩ ⟨i, p, adv i p md V (j0 : Int), t, md⟩ x y (wr.alloc (.cells #[.int .i64 x, .int .i64 y] 50)) :=
        ⟨⟨hP.s.alloc _, hP.r.alloc _, hP.b.alloc hP.b.size _, hP.ne, hP.ls, hP.lr⟩, Blk.new _ _ _, Nat.ne_of_gt hP.s.lt, Nat.ne_of_gt hP.r.lt⟩
      generalize wr.alloc (.cells #[.int .i64 x, .int .i64 y] 50) = wm at hQ ⊢
      generalize wr.heap.size = bm at hQ ⊢
      clear hr hP
      clear wr
      have q1 := hQ.c1
      obtain ⟨Y, hY⟩ : ∃ Y : Int, (if y < 0 then 0 else y) = Y := ⟨_, rfl⟩
      obtain ⟨N, hN⟩ : ∃ N : Nat, (if 300 < Y then 300 else Y) = (N : Int) := ⟨(if 300 < Y then 300 else Y).toNat, by subst hY; split <;> split <;> omega⟩
      have N3 : N ≤ 300 := by subst hY; revert hN; split <;> intro hN <;> omega
      go_wp2
      have V2 : -180000000000000 ≤ V := by omega
      have V3 : V ≤ 180000000000000 := by omega
      have t2 : t ≤ 18000 := by omega
      have j2 : (j0 : Int) ≤ 18000 := by omega
      clear hY hN q1
      go_loopg [10, 58] N (fun g' s10 s58 wx => ∃ j : Nat, j + g' = N ∧ s58 = .int .i64 (j : Int) ∧ s10 = .int .i64 (t + (j0 : Int) + (j : Int)) ∧ PM w bs br bm ⟨i, p, V, t, md⟩ ⟨i, p, adv i p md V ((j0 : Int) + (j : Int)), t, md⟩ x y wx)
      case atStart => exact ⟨0, by omega, rfl, by simp, by rw [show ((0 : Nat) : Int) = 0 from rfl, Int.add_zero]; exact hQ⟩
      case round =>
        obtain ⟨j, hj, rfl, rfl, hQ⟩ := hrel
        cases gk with
        | zero =>
          have hjN : ¬ ((j : Int) < (N : Int)) := by omega
          have hbd := adv_bd (md := md) (V := V) i1 i2 i3 (show 0 ≤ (j0 : Int) + (j : Int) by omega) hm
          have hpass := adv_pass (md := md) (V := V) (t := t) i1 i2 i3 (show 0 ≤ (j0 : Int) + (j : Int) by omega) (show (j0 : Int) + (j : Int) ≤ 20000 by omega) hm m0 m1 (by omega) (by omega)
          have hle := adv_le (i := i) (p := p) (md := md) (V := V) (j := (j0 : Int) + (j : Int))
          have hV1 : ∃ V1, V1 = adv i p md V ((j0 : Int) + (j : Int)) := ⟨_, rfl⟩
          obtain ⟨V1, hV1⟩ := hV1
          rw [← hV1] at hbd hpass hle hQ
          obtain ⟨b1, b2⟩ := hbd
          obtain ⟨T, hT⟩ : ∃ T : Int, T = t + (j0 : Int) + (j : Int) := ⟨_, rfl⟩
          rw [show t + ((j0 : Int) + (j : Int)) = T by omega] at hpass
          rw [← hT]
          have T0 : 0 ≤ T := by omega
          have T1 : T ≤ 18300 := by omega
          have HV1 := Lib.hid hV1
          have HT := Lib.hid hT
          clear hV1 hT
          have okS : Hid ((Sh.mk i p V t md).ok) := hOK.out _ _ _ (by omega) (by omega) t0 m0 m1
          have okS1 : Hid ((Sh.mk i p V1 T md).ok) := hOK.out _ _ _ (by omega) (by omega) T0 m0 m1
          have hp0 := Lib.hid hpass
          have hp1 : Hid (passS ⟨i, p, V1, T, md⟩ T = ⟨i, p, V1, T, md⟩) := if_pos (Int.le_refl T)
          clear hpass
          go_upto_region 20 with fail
          have hne : Nonempty (QW w bs br bm ⟨i, p, V, t, md⟩ ⟨i, p, V1, T, md⟩ ⟨i, p, V1, t, md⟩ x y) := ⟨⟨_, .inl hQ⟩⟩
          have hrv : ∀ n : QW w bs br bm ⟨i, p, V, t, md⟩ ⟨i, p, V1, T, md⟩ ⟨i, p, V1, t, md⟩ x y, n.val.cell? ⟨br, 2, none⟩ = some (.int .i64 V1) := fun n => n.rv
          obtain ⟨VV, hVV⟩ : ∃ VV, (if x = 0 then min V1 0 else V1) = VV := ⟨_, rfl⟩
          have vb1 : -190000000000000 ≤ VV := by subst hVV; split <;> omega
          have vb2 : VV ≤ 190000000000000 := by subst hVV; split <;> omega
          have okS2 : Hid (0 ≤ x → x ≤ 2 → (Sh.mk i p VV T x).ok) := fun x0 x2 => hOK.out _ _ _ (by omega) (by omega) T0 x0 x2
          have hp2 : Hid (passS ⟨i, p, VV, T, x⟩ T = ⟨i, p, VV, T, x⟩) := if_pos (Int.le_refl T)
          have hS2 : Hid (({ (Sh.mk i p V1 T md) with mode := x, value := if x = 0 then min (Sh.mk i p V1 T md).value 0 else (Sh.mk i p V1 T md).value } : Sh) = ⟨i, p, VV, T, x⟩) := by
            show _ = _
            rw [← hVV]
          have hR2 : Hid (setS ⟨i, p, V1, t, md⟩ x = ⟨i, p, VV, t, x⟩) := by
            show setS _ _ = _
            rw [← hVV]; rfl
          have hbad : ∀ n : QW w bs br bm ⟨i, p, V, t, md⟩ ⟨i, p, V1, T, md⟩ ⟨i, p, V1, t, md⟩ x y, ∃ (k' j0 : Nat) (t V md' : Int), k' + g = len ∧ Value.int .i64 ((k : Int) + 1) = .int .i64 (k' : Int) ∧ Value.int .i64 T = .int .i64 (t + (j0 : Int)) ∧ 0 ≤ t ∧ t + (j0 : Int) ≤ 300 * (k' : Int) ∧ 10000000000 * (j0 : Int) - 3000000000000 * (k' : Int) ≤ V ∧ V ≤ 3000000000000 * (k' : Int) - 10000000000 * (j0 : Int) ∧ 0 ≤ md' ∧ md' ≤ 2 ∧ (md' = 0 → V ≤ 0) ∧ PW w bs br ⟨i, p, V, t, md'⟩ ⟨i, p, adv i p md' V (j0 : Int), t, md'⟩ n.val := by
            intro n
            have hT := HT.out
            rcases n.ok with hq | hq
            · refine ⟨k + 1, j0 + j, t, V, md, by omega, by go_num, by rw [hT]; congr 1; omega, t0, by omega, by omega, by omega, m0, m1, hm, ?_⟩
              rw [show ((j0 + j : Nat) : Int) = (j0 : Int) + (j : Int) by omega, ← HV1.out]
              exact hq.p
            · refine ⟨k + 1, 0, T, V1, md, by omega, by go_num, by congr 1; omega, T0, by omega, by omega, by omega, m0, m1, hle, ?_⟩
              rw [show ((0 : Nat) : Int) = 0 from rfl, adv_zero hle]
              exact ⟨hq.p.s, hq.p.r, hq.p.b, hq.p.ne, hq.p.ls, hq.p.lr⟩
          have hgood : 0 ≤ x → x ≤ 2 → ∀ n : QW w bs br bm ⟨i, p, VV, T, x⟩ ⟨i, p, VV, T, x⟩ ⟨i, p, VV, t, x⟩ x y, ∃ (k' j0 : Nat) (t V md' : Int), k' + g = len ∧ Value.int .i64 ((k : Int) + 1) = .int .i64 (k' : Int) ∧ Value.int .i64 T = .int .i64 (t + (j0 : Int)) ∧ 0 ≤ t ∧ t + (j0 : Int) ≤ 300 * (k' : Int) ∧ 10000000000 * (j0 : Int) - 3000000000000 * (k' : Int) ≤ V ∧ V ≤ 3000000000000 * (k' : Int) - 10000000000 * (j0 : Int) ∧ 0 ≤ md' ∧ md' ≤ 2 ∧ (md' = 0 → V ≤ 0) ∧ PW w bs br ⟨i, p, V, t, md'⟩ ⟨i, p, adv i p md' V (j0 : Int), t, md'⟩ n.val := by
            intro x0 x2 n
            have hT := HT.out
            have hz : x = 0 → VV ≤ 0 := fun hx => by subst hVV; rw [if_pos hx]; omega
            have hq : PM w bs br bm ⟨i, p, VV, T, x⟩ ⟨i, p, VV, t, x⟩ x y n.val := by rcases n.ok with hq | hq <;> exact hq
            refine ⟨k + 1, 0, T, VV, x, by omega, by go_num, by congr 1; omega, T0, by omega, by subst hVV; split <;> omega, by subst hVV; split <;> omega, x0, x2, hz, ?_⟩
            rw [show ((0 : Nat) : Int) = 0 from rfl, adv_zero hz]
            exact ⟨hq.p.s, hq.p.r, hq.p.b, hq.p.ne, hq.p.ls, hq.p.lr⟩
          have HVV := Lib.hid hVV
          clear hVV b1 b2 V2 V3 t2 j2 V0 V9 t1 hj hm hle hkg
          by_cases hv : 0 ≤ V1
          ·
            have e3 : Hid (decide (0 ≤ (Sh.mk i p V1 T md).value) = true) := decide_eq_true hv
            refine wp_region_q (S1 := ⟨i, p, V1, T, md⟩) (by kernel_rfl) (by kernel_rfl) hQ ?_
            repeat (go_big_quiet_step (first
              | (go_at_call 30; exact QW.value okS.out okS1.out T (by omega) hp0.out hp1.out V1 rfl _)
              | (go_at_call 31; exact QW.ready okS.out okS1.out T (by omega) hp0.out hp1.out true e3.out _)))
            refine wpQuiet_nil ?_
            rintro _ ⟨nq, rfl⟩
            clear hrv hne hQ
            have c0 := nq.c0
            by_cases hx0 : x < 0
            · go_wp2_with (go_at_call 32; (with_reducible refine (mode_bad ⟨i, p, V1, T, md⟩ _ _ (.inl hx0) _ _).mono ?_); rintro e w' ⟨rfl, rfl⟩)
              go_roundg g
              case measure => omega
              case rel => exact hbad nq
            by_cases hx2 : 2 < x
            · go_wp2_with (go_at_call 32; (with_reducible refine (mode_bad ⟨i, p, V1, T, md⟩ _ _ (.inr hx2) _ _).mono ?_); rintro e w' ⟨rfl, rfl⟩)
              go_roundg g
              case measure => omega
              case rel => exact hbad nq
            have hx0' : 0 ≤ x := by omega
            have hx2' : x ≤ 2 := by omega
            go_upto_region 27 with (first
              | (go_at_call 32; (with_reducible refine (QW.mode okS.out okS1.out x T hx0' hx2' (by omega) hp0.out hp1.out ⟨i, p, VV, T, x⟩ hS2.out nq).mono ?_); rintro e w' ⟨rfl, hQ⟩; have c0 := hQ.c0)
              | (go_at_call 33; (with_reducible refine (set_calls _ x _ _ (PM.r (by assumption))).mono ?_); rintro e w' ⟨rfl, hk', hf'⟩; rw [hR2.out] at hk'; have hQ' := PM.r_turn (by assumption) hk' hf'; clear hk' hf' hQ; rename PM _ _ _ _ _ _ _ _ _ => hQ; have c0 := hQ.c0))
            have hne : Nonempty (QW w bs br bm ⟨i, p, VV, T, x⟩ ⟨i, p, VV, T, x⟩ ⟨i, p, VV, t, x⟩ x y) := ⟨⟨_, .inl hQ⟩⟩
            have hrv : ∀ n : QW w bs br bm ⟨i, p, VV, T, x⟩ ⟨i, p, VV, T, x⟩ ⟨i, p, VV, t, x⟩ x y, n.val.cell? ⟨br, 2, none⟩ = some (.int .i64 VV) := fun n => n.rv
            refine wp_region_q (S1 := ⟨i, p, VV, T, x⟩) (by kernel_rfl) (by kernel_rfl) hQ ?_
            repeat (go_big_quiet_step ((go_at_call 30; exact QW.value (okS2.out hx0' hx2') (okS2.out hx0' hx2') T (by omega) hp2.out hp2.out VV rfl _)))
            refine wpQuiet_nil ?_
            rintro _ ⟨nq2, rfl⟩
            go_wp2
            go_roundg g
            case measure => omega
            case rel => exact hgood hx0' hx2' nq2
          ·
            have e3 : Hid (decide (0 ≤ (Sh.mk i p V1 T md).value) = false) := decide_eq_false hv
            refine wp_region_q (S1 := ⟨i, p, V1, T, md⟩) (by kernel_rfl) (by kernel_rfl) hQ ?_
            repeat (go_big_quiet_step (first
              | (go_at_call 30; exact QW.value okS.out okS1.out T (by omega) hp0.out hp1.out V1 rfl _)
              | (go_at_call 31; exact QW.ready okS.out okS1.out T (by omega) hp0.out hp1.out false e3.out _)))
            refine wpQuiet_nil ?_
            rintro _ ⟨nq, rfl⟩
            clear hrv hne hQ
            have c0 := nq.c0
            by_cases hx0 : x < 0
            · go_wp2_with (go_at_call 32; (with_reducible refine (mode_bad ⟨i, p, V1, T, md⟩ _ _ (.inl hx0) _ _).mono ?_); rintro e w' ⟨rfl, rfl⟩)
              go_roundg g
              case measure => omega
              case rel => exact hbad nq
            by_cases hx2 : 2 < x
            · go_wp2_with (go_at_call 32; (with_reducible refine (mode_bad ⟨i, p, V1, T, md⟩ _ _ (.inr hx2) _ _).mono ?_); rintro e w' ⟨rfl, rfl⟩)
              go_roundg g
              case measure => omega
              case rel => exact hbad nq
            have hx0' : 0 ≤ x := by omega
            have hx2' : x ≤ 2 := by omega
            go_upto_region 27 with (first
              | (go_at_call 32; (with_reducible refine (QW.mode okS.out okS1.out x T hx0' hx2' (by omega) hp0.out hp1.out ⟨i, p, VV, T, x⟩ hS2.out nq).mono ?_); rintro e w' ⟨rfl, hQ⟩; have c0 := hQ.c0)
              | (go_at_call 33; (with_reducible refine (set_calls _ x _ _ (PM.r (by assumption))).mono ?_); rintro e w' ⟨rfl, hk', hf'⟩; rw [hR2.out] at hk'; have hQ' := PM.r_turn (by assumption) hk' hf'; clear hk' hf' hQ; rename PM _ _ _ _ _ _ _ _ _ => hQ; have c0 := hQ.c0))
            have hne : Nonempty (QW w bs br bm ⟨i, p, VV, T, x⟩ ⟨i, p, VV, T, x⟩ ⟨i, p, VV, t, x⟩ x y) := ⟨⟨_, .inl hQ⟩⟩
            have hrv : ∀ n : QW w bs br bm ⟨i, p, VV, T, x⟩ ⟨i, p, VV, T, x⟩ ⟨i, p, VV, t, x⟩ x y, n.val.cell? ⟨br, 2, none⟩ = some (.int .i64 VV) := fun n => n.rv
            refine wp_region_q (S1 := ⟨i, p, VV, T, x⟩) (by kernel_rfl) (by kernel_rfl) hQ ?_
            repeat (go_big_quiet_step ((go_at_call 30; exact QW.value (okS2.out hx0' hx2') (okS2.out hx0' hx2') T (by omega) hp2.out hp2.out VV rfl _)))
            refine wpQuiet_nil ?_
            rintro _ ⟨nq2, rfl⟩
            go_wp2
            go_roundg g
            case measure => omega
            case rel => exact hgood hx0' hx2' nq2
        | succ g' =>
          have hjN : (j : Int) < (N : Int) := by omega
          have hbd := adv_bd (md := md) (V := V) i1 i2 i3 (show 0 ≤ (j0 : Int) + (j : Int) by omega) hm
          have okR : Hid ((Sh.mk i p (adv i p md V ((j0 : Int) + (j : Int))) t md).ok) := hOK.out _ _ _ (by omega) (by omega) t0 m0 m1
          have htick := adv_tick (i := i) (p := p) (md := md) (V := V) (j := (j0 : Int) + (j : Int)) (l := t) i1
          have HT := Lib.hid htick
          clear hbd htick hm
          go_wp2_with (go_at_call 29; (with_reducible refine (tick_calls _ okR.out _ _ (PM.r (by assumption))).mono ?_); rintro e w' ⟨rfl, hk', hf'⟩; rw [HT.out] at hk'; have hQ' := PM.r_turn (by assumption) hk' hf'; clear hk' hf' hQ; rename PM _ _ _ _ _ _ _ _ _ => hQ)
          go_roundg g'
          case measure => omega
          case rel => exact ⟨j + 1, by omega, by go_num, by go_num, by rw [show (j0 : Int) + ((j + 1 : Nat) : Int) = (j0 : Int) + (j : Int) + 1 by omega]; assumption⟩
namespace creditPlays
theorem creditPlays_walk (w : World) (i : Int) (_ : (Lit.int .i64 i).wf = true) (p : Int) (_ : (Lit.int .i64 p).wf = true) (a : Option Addr) (len cap : Nat) (F : FlatS Try.prog w 50 a len) :
    Calls Try.prog 11 #[.int .i64 i, .int .i64 p, .slice a len cap] w fun e w' => e = .returned (.bool true) ∧ Below w.heap.size w w' := creditPlays_any w i p a len cap F
end creditPlays
end Go.Proofs.Ytjnbjcieepooaaa
