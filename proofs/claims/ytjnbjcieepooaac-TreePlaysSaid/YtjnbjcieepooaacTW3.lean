/- message, send and tell of package tree, by their contracts. -/
import Derived.Test.YtjnbjcieepooaacTW2
import Derived.Test.YtjnbjcieepooaacTChk
import Derived.Deep.CutBlock
import Derived.Test.YtjnbjcieepooaacTail
namespace Go.Proofs.Ytjnbjcieepooaac
open Go.RowKit
set_option linter.unusedVariables false
set_option linter.unusedSimpArgs false

theorem sets16 (z0 z1 z2 z3 z4 z5 z6 z7 z8 z9 z10 z11 z12 z13 z14 z15 a0 a1 a2 a3 a4 a5 a6 a7 a8 a9 a10 a11 a12 a13 a14 a15 : Value) : (((((((((((((((((#[z0, z1, z2, z3, z4, z5, z6, z7, z8, z9, z10, z11, z12, z13, z14, z15] : Array Value)).setIfInBounds 0 a0).setIfInBounds 1 a1).setIfInBounds 2 a2).setIfInBounds 3 a3).setIfInBounds 4 a4).setIfInBounds 5 a5).setIfInBounds 6 a6).setIfInBounds 7 a7).setIfInBounds 8 a8).setIfInBounds 9 a9).setIfInBounds 10 a10).setIfInBounds 11 a11).setIfInBounds 12 a12).setIfInBounds 13 a13).setIfInBounds 14 a14).setIfInBounds 15 a15 = #[a0, a1, a2, a3, a4, a5, a6, a7, a8, a9, a10, a11, a12, a13, a14, a15] := by simp
theorem set16_ne {w : World} {b c : Nat} (h : c ≠ b) (v0 v1 v2 v3 v4 v5 v6 v7 v8 v9 v10 v11 v12 v13 v14 v15 : Value) (o : Nat) : ((((((((((((((((w.setCell ⟨b, 0, none⟩ v0).setCell ⟨b, 1, none⟩ v1).setCell ⟨b, 2, none⟩ v2).setCell ⟨b, 3, none⟩ v3).setCell ⟨b, 4, none⟩ v4).setCell ⟨b, 5, none⟩ v5).setCell ⟨b, 6, none⟩ v6).setCell ⟨b, 7, none⟩ v7).setCell ⟨b, 8, none⟩ v8).setCell ⟨b, 9, none⟩ v9).setCell ⟨b, 10, none⟩ v10).setCell ⟨b, 11, none⟩ v11).setCell ⟨b, 12, none⟩ v12).setCell ⟨b, 13, none⟩ v13).setCell ⟨b, 14, none⟩ v14).setCell ⟨b, 15, none⟩ v15).cell? ⟨c, o, none⟩ = w.cell? ⟨c, o, none⟩ := by
  rw [cell_set_ne h, cell_set_ne h, cell_set_ne h, cell_set_ne h, cell_set_ne h, cell_set_ne h, cell_set_ne h, cell_set_ne h, cell_set_ne h, cell_set_ne h, cell_set_ne h, cell_set_ne h, cell_set_ne h, cell_set_ne h, cell_set_ne h, cell_set_ne h]
theorem below_drew' (w : World) : Below w.heap.size w w.drew := (Below.refl _ w).drew
/-- A block written over whole. -/
theorem step_store_row {P : Program} {ops : Array Oper} {o : Oper} {a : Act} {w : World} {K : Act → World → Prop} {Q : Exit → Act → World → Prop} {E : Prop} (hgd : o.guard = none) (ty : TypeId) (x y : Operand) (ho : o.op = .store ty x y)
    (g : Nat) (cells : Array Value) (hx : a.eval x = .pointer (some ⟨g, 0, none⟩)) (hy : a.eval y = .agg cells) (t : TypeId) (old : Array Value) (hB : Blk w g old t) (hi : (P.info? ty).map (·.size) = some cells.size)
    (hold : old.size = cells.size) (h1 : cells.all (·.oneCell') = true) (h : ∀ w', Blk w' g cells t → Fr (fun k => k = g) w w' → K (a.put o.dst undef) w') :
    if Region.wanted o (yielded ops a.tmps) = true then Oper.wp P o a w K Q else E := by
  have hw : Region.wanted o (yielded ops a.tmps) = true := by simp [Region.wanted, hgd]
  rw [if_pos hw]
  exact wp_store_row ty x y ho g cells hx hy t old hB hi hold h1 (h _ (setRow_heap w g old cells t (0, 0) hB) ⟨rfl, rfl, rfl, by simp, fun k _ hk => setRow_other w g k cells hk⟩)
theorem Fr.cell_ne {w w' : World} {g b : Nat} (h : Fr (fun k => k = g) w w') (hb : b < w.heap.size) (hne : b ≠ g) (o : Nat) : w'.cell? ⟨b, o, none⟩ = w.cell? ⟨b, o, none⟩ := World.cell?_of_block (h.block b hb hne)
theorem sz41 : (Try.prog.info? 41).map (·.size) = some 16 := by kernel_rfl
abbrev msg0 : Array Value := #[.int .i64 0, .int .u64 0, .int .u64 0, .int .u64 0, .int .i64 0, .bool false, .bool false, .bool false, .bool false, .bool false, .bool false, .int .i64 0, .int .i64 0, .int .i64 0, .int .i64 0, .int .i64 0]
set_option maxRecDepth 8000 in
set_option maxHeartbeats 4000000 in
theorem message_calls (T : Tr) (B : TB) (i : Nat) (hi : i < T.n) (hn : T.n ≤ 16) (hrp : T.rp < (T.n : Int)) (w : World) (hT : TreeW w B T) (x : Bool) (hx : chkF (msgF T i) = x) :
    Calls Try.prog 56 #[.pointer (some ⟨B.tb, 0, none⟩), .int .i64 (i : Int)] w fun e w' => e = .returned (.tuple #[.agg (msgF T i).cells, .bool x]) ∧ Below w.heap.size w w' := by
  have HX := Lib.hid hx
  have hn0 : 0 < T.n := by omega
  have hin : (i : Int) < (T.n : Int) := by omega
  have HT := Lib.hid hT
  have qt := hT.ownp hn0
  have lt := hT.t.lt
  have lp := (hT.p hn0).2.lt
  have hr := (hT.alloc (.cells msg0 41)).range hi
  clear hx hT
  obtain ⟨q, hq⟩ : ∃ q, T.at_ i = q := ⟨_, rfl⟩
  rw [hq] at hr
  have HQ := Lib.hid hq
  clear hq
  go_enter Try.func56, Try.ntmps56
  go_upto_region 3 with (refine wpList_load_mid rfl 31 _ rfl B.pb (i * 16) rfl _ _ hr Try.underlying31 rfl sz31 ?_)
  have K0 := ((Keep.start w).add msg0 41).add #[.int .i64 q.p.id, .int .u64 q.p.cost, .bool q.p.up, .bool q.p.has, .int .u64 q.p.told.root, .int .u64 q.p.told.cost, .int .u64 q.p.told.bridge, .int .i64 q.p.told.port, .bool q.edge, .int .i64 q.role, .int .i64 q.state, .int .i64 q.age, .int .i64 q.left, .int .i64 q.wait, .int .i64 q.change, .bool q.agreed] 31
  simp only [size_alloc'] at K0
  change Code.wp _ _ _ _ ((w.alloc (.cells msg0 41)).alloc (.cells #[.int .i64 q.p.id, .int .u64 q.p.cost, .bool q.p.up, .bool q.p.has, .int .u64 q.p.told.root, .int .u64 q.p.told.cost, .int .u64 q.p.told.bridge, .int .i64 q.p.told.port, .bool q.edge, .int .i64 q.role, .int .i64 q.state, .int .i64 q.age, .int .i64 q.left, .int .i64 q.wait, .int .i64 q.change, .bool q.agreed] 31))
  generalize (w.alloc (.cells msg0 41)).alloc (.cells #[.int .i64 q.p.id, .int .u64 q.p.cost, .bool q.p.up, .bool q.p.has, .int .u64 q.p.told.root, .int .u64 q.p.told.cost, .int .u64 q.p.told.bridge, .int .i64 q.p.told.port, .bool q.edge, .int .i64 q.role, .int .i64 q.state, .int .i64 q.age, .int .i64 q.left, .int .i64 q.wait, .int .i64 q.change, .bool q.agreed] 31) = W at K0 ⊢
  have hTW := HT.out.below K0.below
  clear hr qt
  have qt := hTW.ownp hn0
  go_upto_if 21 with (fail)
  go_cut [7] (fun s7 wx => s7 = .int .i64 (ageF T) ∧ Below W.heap.size W wx)
  case first =>
    by_cases h : 0 ≤ T.rp
    · obtain ⟨j, hj⟩ : ∃ j : Nat, T.rp = (j : Int) := ⟨T.rp.toNat, by omega⟩
      have hjn : j < T.n := by omega
      have r11 : W.cell? ⟨B.pb, j * 16 + 11, none⟩ = some (.int .i64 (T.at_ j).age) := hTW.row hjn 11 (by decide)
      have HA : Hid (ageF T = (T.at_ j).age) := Lib.hid ((if_pos h).trans (by rw [hj, Int.toNat_natCast]))
      have hji : (j : Int) < (T.n : Int) := by omega
      rw [hj] at qt
      rw [hj]
      clear hTW hj h
      go_wp2
      go_quiet (fail)
      go_wp2
      go_meet
      exact ⟨by rw [HA.out], ⟨rfl, rfl, rfl, Nat.le_refl _, fun _ _ => rfl⟩⟩
    · have HA : Hid (ageF T = 0) := Lib.hid (if_neg h)
      clear hTW
      go_wp2
      go_meet
      exact ⟨by rw [HA.out], Below.refl _ _⟩
  case rest =>
    obtain ⟨rfl, hb⟩ := hcut
    have K1 := K0.step hb
    have hTc := hTW.below hb
    clear K0 hTW hb qt
    obtain ⟨A, hA⟩ : ∃ A, ageF T = A := ⟨_, rfl⟩
    obtain ⟨V, hV⟩ : ∃ V, T.tell_ i = V := ⟨_, rfl⟩
    rw [hA]
    have hm : msgF T i = ⟨1, V, decide (q.change > 0), false, decide (q.role = 2) && decide (q.state ≠ 2) && !q.edge, false, decide (q.state ≥ 1), decide (q.state = 2), mroleF q, A, 5120, 512, 3840⟩ := by
      unfold msgF; rw [hA, hV, HQ.out]
    have HM := Lib.hid hm
    have t0 : wc.cell? ⟨B.bt, i * 4, none⟩ = some (.int .u64 V.root) := by have := hTc.l.cell i 0 hi (by decide); rw [hV] at this; exact this
    have t1 : wc.cell? ⟨B.bt, i * 4 + 1, none⟩ = some (.int .u64 V.cost) := by have := hTc.l.cell i 1 hi (by decide); rw [hV] at this; exact this
    have t2 : wc.cell? ⟨B.bt, i * 4 + 2, none⟩ = some (.int .u64 V.bridge) := by have := hTc.l.cell i 2 hi (by decide); rw [hV] at this; exact this
    have t3 : wc.cell? ⟨B.bt, i * 4 + 3, none⟩ = some (.int .i64 V.port) := by have := hTc.l.cell i 3 hi (by decide); rw [hV] at this; exact this
    have qt := hTc.ownp hn0
    have lt1 := hTc.t.lt
    have ll1 := hTc.l.lt
    have q6 := (K1.nth 0 rfl).cell
    have l6 := (K1.nth 0 rfl).lt
    clear hm hA hV hTc
    go_upto_region 5 with (fail)
    go_region_held3 (fun w' => w'.cell? ⟨B.tb, 8, none⟩ = some (.slice (some ⟨B.bt, 0, none⟩) T.n T.n) ∧ w'.cell? ⟨B.bt, i * 4, none⟩ = some (.int .u64 V.root) ∧ w'.cell? ⟨B.bt, i * 4 + 1, none⟩ = some (.int .u64 V.cost) ∧ w'.cell? ⟨B.bt, i * 4 + 2, none⟩ = some (.int .u64 V.bridge) ∧ w'.cell? ⟨B.bt, i * 4 + 3, none⟩ = some (.int .i64 V.port)
        ∧ w'.cell? ⟨w.heap.size + 1, 14, none⟩ = some (.int .i64 q.change) ∧ w'.cell? ⟨w.heap.size + 1, 10, none⟩ = some (.int .i64 q.state))
      (first | go_keep | ((try dsimp only); (repeat' apply And.intro) <;> go_keep)) (fail)
    have K2 := (K1.add #[.int .i64 1, .int .u64 V.root, .int .u64 V.cost, .int .u64 V.bridge, .int .i64 V.port, .bool (decide (0 < q.change)), .bool false, .bool false, .bool false, .bool (decide (1 ≤ q.state)), .bool (q.state == 2), .int .i64 0, .int .i64 A, .int .i64 5120, .int .i64 512, .int .i64 3840] 41).step (below_drew' _)
    have l8 := l6
    have e68 : w.heap.size + 1 < wc.heap.size := l6
    have e48 : w.heap.size < wc.heap.size := by omega
    clear t0 t1 t2 t3 qt q6 l6 K1
    generalize World.drew _ = W2 at K2 ⊢
    generalize wc.heap.size = b8 at K2 e68 e48 ⊢
    have q6 := (K2.nth 1 rfl).cell
    have q8 : ∀ o, W2.cell? ⟨b8, o, none⟩ = (#[.int .i64 1, .int .u64 V.root, .int .u64 V.cost, .int .u64 V.bridge, .int .i64 V.port, .bool (decide (0 < q.change)), .bool false, .bool false, .bool false, .bool (decide (1 ≤ q.state)), .bool (q.state == 2), .int .i64 0, .int .i64 A, .int .i64 5120, .int .i64 512, .int .i64 3840] : Array Value)[o]? := (K2.nth 0 rfl).cell
    have f8 := (K2.nth 0 rfl).free
    go_upto_block 0 with (fail)
    go_cut [] (fun wx => ∃ (P : Bool) (R : Int), Hid (msgF T i = ⟨1, V, decide (q.change > 0), false, P, false, decide (q.state ≥ 1), decide (q.state = 2), R, A, 5120, 512, 3840⟩) ∧ Blk wx b8 #[.int .i64 1, .int .u64 V.root, .int .u64 V.cost, .int .u64 V.bridge, .int .i64 V.port, .bool (decide (0 < q.change)), .bool false, .bool P, .bool false, .bool (decide (1 ≤ q.state)), .bool (q.state == 2), .int .i64 R, .int .i64 A, .int .i64 5120, .int .i64 512, .int .i64 3840] 41 ∧ Blk wx w.heap.size msg0 41 ∧ Below w.heap.size w wx)
    case first =>
      by_cases h2 : q.role = 2
      · have h2b : (q.role == 2) = true := by simpa using h2
        have hz : msgF T i = ⟨1, V, decide (q.change > 0), false, decide (q.state ≠ 2) && !q.edge, false, decide (q.state ≥ 1), decide (q.state = 2), 3, A, 5120, 512, 3840⟩ := by
          rw [HM.out]; unfold mroleF; rw [if_pos h2, h2]; rfl
        clear h2
        by_cases hs : q.state = 2
        · have hsb : (q.state != 2) = false := by simpa using hs
          rw [decide_eq_false (show ¬ q.state ≠ 2 from fun h => h hs)] at hz
          have HZ : Hid (msgF T i = ⟨1, V, decide (q.change > 0), false, false, false, decide (q.state ≥ 1), decide (q.state = 2), 3, A, 5120, 512, 3840⟩) := hz
          clear hz hs
          go_wp2
          go_meet
          exact ⟨false, 3, HZ, ((K2.nth 0 rfl).set 11 (.int .i64 3)).set 7 (.bool false), ((K2.nth 2 rfl).set_other (a := ⟨b8, 11, none⟩) (Nat.ne_of_lt e48) (.int .i64 3)).set_other (a := ⟨b8, 7, none⟩) (Nat.ne_of_lt e48) (.bool false), (K2.below.setCell (p := ⟨b8, 11, none⟩) (Nat.le_of_lt e48) _).setCell (p := ⟨b8, 7, none⟩) (Nat.le_of_lt e48) _⟩
        · have hsb : (q.state != 2) = true := by simpa using hs
          rw [decide_eq_true hs] at hz
          clear hs
          cases he : q.edge with
          | true =>
            rw [he] at q6 hz
            have HZ : Hid (msgF T i = ⟨1, V, decide (q.change > 0), false, false, false, decide (q.state ≥ 1), decide (q.state = 2), 3, A, 5120, 512, 3840⟩) := hz
            clear hz he
            go_wp2
            go_meet
            exact ⟨false, 3, HZ, ((K2.nth 0 rfl).set 11 (.int .i64 3)).set 7 (.bool false), ((K2.nth 2 rfl).set_other (a := ⟨b8, 11, none⟩) (Nat.ne_of_lt e48) (.int .i64 3)).set_other (a := ⟨b8, 7, none⟩) (Nat.ne_of_lt e48) (.bool false), (K2.below.setCell (p := ⟨b8, 11, none⟩) (Nat.le_of_lt e48) _).setCell (p := ⟨b8, 7, none⟩) (Nat.le_of_lt e48) _⟩
          | false =>
            rw [he] at q6 hz
            have HZ : Hid (msgF T i = ⟨1, V, decide (q.change > 0), false, true, false, decide (q.state ≥ 1), decide (q.state = 2), 3, A, 5120, 512, 3840⟩) := hz
            clear hz he
            go_wp2
            go_meet
            exact ⟨true, 3, HZ, ((K2.nth 0 rfl).set 11 (.int .i64 3)).set 7 (.bool true), ((K2.nth 2 rfl).set_other (a := ⟨b8, 11, none⟩) (Nat.ne_of_lt e48) (.int .i64 3)).set_other (a := ⟨b8, 7, none⟩) (Nat.ne_of_lt e48) (.bool true), (K2.below.setCell (p := ⟨b8, 11, none⟩) (Nat.le_of_lt e48) _).setCell (p := ⟨b8, 7, none⟩) (Nat.le_of_lt e48) _⟩
      · have h2b : (q.role == 2) = false := by simpa using h2
        have hd : (decide (q.role = 2) && decide (q.state ≠ 2) && !q.edge) = false := by rw [decide_eq_false h2]; rfl
        by_cases h1 : q.role = 1
        · have HZ : Hid (msgF T i = ⟨1, V, decide (q.change > 0), false, false, false, decide (q.state ≥ 1), decide (q.state = 2), 2, A, 5120, 512, 3840⟩) := by have h := HM.out; rw [hd, show mroleF q = 2 from (if_neg h2).trans (if_pos h1)] at h; exact h
          have h1b : (q.role == 1) = true := by simpa using h1
          clear hd h1 h2
          go_wp2
          go_meet
          exact ⟨false, 2, HZ, (K2.nth 0 rfl).set 11 (.int .i64 2), (K2.nth 2 rfl).set_other (a := ⟨b8, 11, none⟩) (Nat.ne_of_lt e48) (.int .i64 2), K2.below.setCell (p := ⟨b8, 11, none⟩) (Nat.le_of_lt e48) _⟩
        · have h1b : (q.role == 1) = false := by simpa using h1
          have HZ : Hid (msgF T i = ⟨1, V, decide (q.change > 0), false, false, false, decide (q.state ≥ 1), decide (q.state = 2), 1, A, 5120, 512, 3840⟩) := by have h := HM.out; rw [hd, show mroleF q = 1 from (if_neg h2).trans (if_neg h1)] at h; exact h
          clear hd h1 h2
          go_wp2
          go_meet
          exact ⟨false, 1, HZ, (K2.nth 0 rfl).set 11 (.int .i64 1), (K2.nth 2 rfl).set_other (a := ⟨b8, 11, none⟩) (Nat.ne_of_lt e48) (.int .i64 1), K2.below.setCell (p := ⟨b8, 11, none⟩) (Nat.le_of_lt e48) _⟩
    case rest =>
      obtain ⟨P, R, HZ, hB, hB4, hBel⟩ := hcut
      clear q6 q8 f8 K2
      have HC : Hid (chkF ⟨1, V, decide (q.change > 0), false, P, false, decide (q.state ≥ 1), decide (q.state = 2), R, A, 5120, 512, 3840⟩ = x) := by have h := HX.out; rw [HZ.out] at h; exact h
      have hchk : Hid (∀ w', Calls Try.prog 24 #[.agg #[.int .i64 1, .int .u64 V.root, .int .u64 V.cost, .int .u64 V.bridge, .int .i64 V.port, .bool (decide (0 < q.change)), .bool false, .bool P, .bool false, .bool (decide (1 ≤ q.state)), .bool (q.state == 2), .int .i64 R, .int .i64 A, .int .i64 5120, .int .i64 512, .int .i64 3840]] w' (ChkPost x w')) := fun w' => check_calls ⟨1, V, decide (q.change > 0), false, P, false, decide (q.state ≥ 1), decide (q.state = 2), R, A, 5120, 512, 3840⟩ x HC.out w'
      have hfin : Hid ((msgF T i).cells = #[.int .i64 1, .int .u64 V.root, .int .u64 V.cost, .int .u64 V.bridge, .int .i64 V.port, .bool (decide (0 < q.change)), .bool false, .bool P, .bool false, .bool (decide (1 ≤ q.state)), .bool (q.state == 2), .int .i64 R, .int .i64 A, .int .i64 5120, .int .i64 512, .int .i64 3840]) := by rw [HZ.out]; rfl
      have hone : Hid ((#[.int .i64 1, .int .u64 V.root, .int .u64 V.cost, .int .u64 V.bridge, .int .i64 V.port, .bool (decide (0 < q.change)), .bool false, .bool P, .bool false, .bool (decide (1 ≤ q.state)), .bool (q.state == 2), .int .i64 R, .int .i64 A, .int .i64 5120, .int .i64 512, .int .i64 3840] : Array Value).all (·.oneCell') = true) := Lib.hid (by simp [Value.oneCell'])
      have hsz : Hid ((#[.int .i64 1, .int .u64 V.root, .int .u64 V.cost, .int .u64 V.bridge, .int .i64 V.port, .bool (decide (0 < q.change)), .bool false, .bool P, .bool false, .bool (decide (1 ≤ q.state)), .bool (q.state == 2), .int .i64 R, .int .i64 A, .int .i64 5120, .int .i64 512, .int .i64 3840] : Array Value).size = 16) := Lib.hid rfl
      generalize (#[.int .i64 1, .int .u64 V.root, .int .u64 V.cost, .int .u64 V.bridge, .int .i64 V.port, .bool (decide (0 < q.change)), .bool false, .bool P, .bool false, .bool (decide (1 ≤ q.state)), .bool (q.state == 2), .int .i64 R, .int .i64 A, .int .i64 5120, .int .i64 512, .int .i64 3840] : Array Value) = MC at hB hchk hfin hone hsz
      have hi41 : Hid ((Try.prog.info? 41).map (·.size) = some MC.size) := by rw [hsz.out]; exact Lib.hid sz41
      go_upto_region 13 with (fail)
      refine wp_region_held_drew (S := fun w' => Blk w' b8 MC 41 ∧ (∃ cs, Blk w' w.heap.size cs 41 ∧ cs.size = 16) ∧ Below w.heap.size w w') (by kernel_rfl) ⟨hB.drewN 1, ⟨_, hB4.drewN 1, rfl⟩, hBel.drew⟩ (fun hS => ?_)
      clear hB hB4 hBel
      refine wpAnyH_take (i := 0) rfl (by kernel_rfl) (by kernel_rfl) (by kernel_rfl) (fun _ _ _ h => h) (yieldsIf_load_blk (by rfl) 41 _ rfl b8 rfl 41 MC _ (fun _ h => h.1) Try.underlying41 rfl hi41.out) hS ?_
      try simp only [Act.put, List.setIfInBounds_toArray, List.set_cons_zero, List.set_cons_succ]
      refine wpAnyH_take (i := 1) rfl (by kernel_rfl) (by kernel_rfl) (by kernel_rfl) (fun _ _ _ h => h) (yieldsIf_load_blk (by rfl) 41 _ rfl b8 rfl 41 MC _ (fun _ h => h.1) Try.underlying41 rfl hi41.out) hS ?_
      try simp only [Act.put, List.setIfInBounds_toArray, List.set_cons_zero, List.set_cons_succ]
      generalize World.drew _ = w0 at hS ⊢
      refine wpAnyH_ready (rs := [2]) (by kernel_rfl) (by simp) ?_
      refine AllReadyH.cons rfl (fun K hK => ?_) AllReadyH.nil
      go_simp
      go_at_call 24
      (with_reducible refine (hchk.out _).mono ?_)
      rintro e w' ⟨c, rfl, hc0, hcn, hb1⟩
      clear hchk
      dsimp only
      have hS1 : Blk w' b8 MC 41 ∧ (∃ cs, Blk w' w.heap.size cs 41 ∧ cs.size = 16) ∧ Below w.heap.size w w' := by
        obtain ⟨h1, ⟨cs, h2, h3⟩, h4⟩ := hS
        exact ⟨h1.below hb1 h1.lt, ⟨cs, h2.below hb1 h2.lt, h3⟩, h4.trans (hb1.mono h4.size)⟩
      refine hK.out _ _ hS1 (fun hS2 => ?_)
      clear hK K hS hS1 hb1
      try simp only [Act.put, List.setIfInBounds_toArray, List.set_cons_zero, List.set_cons_succ]
      refine wpAnyH_take (i := 3) (v := .bool x) (show _ = some (Oper.mk (some 74) _ _ _ _ _) from rfl) (by kernel_rfl) (by kernel_rfl) (by kernel_rfl) (fun _ _ _ h => h) (Or.inl ⟨by rfl, by intro w _; go_simp⟩) hS2 ?_
      try simp only [Act.put, List.setIfInBounds_toArray, List.set_cons_zero, List.set_cons_succ]
      refine wpAnyH_ready (rs := [4]) (by kernel_rfl) (by simp) ?_
      refine AllReadyH.cons (show _ = some (Oper.mk none _ _ _ _ _) from rfl) (fun K hK => ?_) AllReadyH.nil
      obtain ⟨h1, ⟨cs, h2, h3⟩, h4⟩ := hS2
      refine step_store_row rfl 41 _ _ rfl w.heap.size MC rfl rfl 41 cs h2 hi41.out (h3.trans hsz.out.symm) hone.out (fun w2 hB2 hf2 => ?_)
      have hS3 : Blk w2 b8 MC 41 ∧ (∃ cs, Blk w2 w.heap.size cs 41 ∧ cs.size = 16) ∧ Below w.heap.size w w2 :=
        ⟨h1.fr hf2 (Nat.ne_of_gt e48), ⟨MC, hB2, hsz.out⟩, Below.fr h4 hf2 h4.size fun i _ hi => Nat.le_of_eq hi.symm⟩
      refine hK.out _ _ hS3 (fun hS4 => ?_)
      clear hK K hS3 h1 h2 h3 h4 hf2
      try simp only [Act.put, List.setIfInBounds_toArray, List.set_cons_zero, List.set_cons_succ]
      refine wpAnyH_take (i := 5) (v := .bool x) (show _ = some (Oper.mk (some 5) _ _ _ _ _) from rfl) (by kernel_rfl) (by kernel_rfl) (by kernel_rfl) (fun _ _ _ h => h) (Or.inl ⟨by rfl, by intro w _; go_simp⟩) hS4 ?_
      try simp only [Act.put, List.setIfInBounds_toArray, List.set_cons_zero, List.set_cons_succ]
      refine wpAnyH_done (by kernel_rfl) ?_ _
      have hB2' := hB2.cell
      clear hB2 hc0 hcn
      rw [← hfin.out] at hB2'
      simp only [Msg.cells] at hB2'
      have hend : (Ending.returned (.tuple #[.agg (msgF T i).cells, .bool x]) : Ending) = .returned (.tuple #[.agg (msgF T i).cells, .bool x]) ∧ Below w.heap.size w w2 := ⟨rfl, hS4.2.2⟩
      clear hS4 hfin hone hsz hi41
      go_wp2
      exact bodyPost_ret (v := .tuple #[.agg (msgF T i).cells, .bool x]) (by simp [results, Try.results56, go_sem, hB2', Msg.cells]) rfl ⟨rfl, hend.2⟩
end Go.Proofs.Ytjnbjcieepooaac
