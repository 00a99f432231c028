/- TreeHello: walked. -/
import Derived.Test.YtjnbjcieepooaacTR2
import Derived.Test.YtjnbjcieepooaacVector
namespace Go.Proofs.Ytjnbjcieepooaac
open Go.RowKit
set_option linter.unusedVariables false
set_option linter.unusedSimpArgs false

theorem outsL_get (l : List OutM) : ∀ (i j : Nat) (o : OutM), l[i]? = some o → j < 17 → (outsL l)[i * 17 + j]? = o.cells[j]? := by
  induction l with
  | nil => intro i j o h; simp at h
  | cons x l ih =>
    intro i j o h hj
    have hx : x.cells.length = 17 := rfl
    show (x.cells ++ outsL l)[i * 17 + j]? = _
    cases i with
    | zero =>
      simp at h
      subst h
      rw [Nat.zero_mul, Nat.zero_add, List.getElem?_append_left (by omega)]
    | succ i =>
      rw [List.getElem?_append_right (by omega), show (i + 1) * 17 + j - x.cells.length = i * 17 + j by omega]
      exact ih i j o (by simpa using h) hj
theorem outsL_len (l : List OutM) : (outsL l).length = l.length * 17 := by
  induction l with
  | nil => rfl
  | cons x l ih =>
    have hx : x.cells.length = 17 := rfl
    show (x.cells ++ outsL l).length = _
    rw [List.length_append, ih, List.length_cons]
    omega
/-- A message's row, read whole. -/
theorem out_range {w : World} {base g c n : Nat} {l : List OutM} (h : w.ownsRow base 43 17 (.slice (some ⟨g, 0, none⟩) n c) n (outsL l)) (hn : l.length = n) {i : Nat} {o : OutM} (ho : l[i]? = some o) : w.rangeAt g (i * 17) o.cells := fun j v hj => by
  have hi := (List.getElem?_eq_some_iff.1 ho).1
  have hl := (List.getElem?_eq_some_iff.1 hj).1
  have hx : o.cells.length = 17 := rfl
  rcases h.2 with ⟨hv, _⟩ | ⟨g', cap', cur, hv, _⟩
  · cases hv
  · rw [h.cellAt (i * 17 + j) (by omega), outsL_get l i j o ho (by omega), ← hj]
theorem range_below {w w' : World} {b o : Nat} {cs : List Value} (h : w.rangeAt b o cs) (hb : Below w.heap.size w w') : w'.rangeAt b o cs := fun j v hj => by
  have h1 := h j v hj
  have hlt : b < w.heap.size := World.block_lt_of_cell? w ⟨b, o + j, none⟩ h1
  rw [hb.cell (p := ⟨b, o + j, none⟩) hlt]
  exact h1
theorem sz43 : (Try.prog.info? 43).map (·.size) = some 17 := by kernel_rfl
def intL (k : Nat) : List Value := (List.range k).map fun i => .int .i64 (hids i)
theorem intL_succ (k : Nat) : intL (k + 1) = intL k ++ [.int .i64 ((k : Int) + 1)] := by unfold intL; rw [List.range_succ, List.map_append]; rfl
theorem held2_drew {w : World} {b b' : Nat} {cs cs' : Array Value} {t t' : TypeId} (h : Blk w b cs t) (h' : Blk w b' cs' t') : Blk w.drew b cs t ∧ (∀ o, w.drew.cell? ⟨b, o, none⟩ = cs[o]?) ∧ Blk w.drew b' cs' t' ∧ ∀ o, w.drew.cell? ⟨b', o, none⟩ = cs'[o]? := ⟨h.drewN 1, (h.drewN 1).cell, h'.drewN 1, (h'.drewN 1).cell⟩
theorem held2_below {w w' : World} {b b' : Nat} {cs cs' : Array Value} {t t' : TypeId} (h : Blk w b cs t ∧ (∀ o, w.cell? ⟨b, o, none⟩ = cs[o]?) ∧ Blk w b' cs' t' ∧ ∀ o, w.cell? ⟨b', o, none⟩ = cs'[o]?) (hb : Below w.heap.size w w') :
    Blk w' b cs t ∧ (∀ o, w'.cell? ⟨b, o, none⟩ = cs[o]?) ∧ Blk w' b' cs' t' ∧ ∀ o, w'.cell? ⟨b', o, none⟩ = cs'[o]? := ⟨h.1.below hb h.1.lt, (h.1.below hb h.1.lt).cell, h.2.2.1.below hb h.2.2.1.lt, (h.2.2.1.below hb h.2.2.1.lt).cell⟩
theorem hel_ok (id : Int) (n k : Nat) (hn : n ≤ 8) (hk : k ≤ 60) : TOk (hel k (hel0 id n)) (2 * (hel k (hel0 id n)).n) := by
  have o0 : TOk (newN id (gports hids) n) 6000 := TOk.new id _ n 6000 (by omega) (mk_ok hids n) (by omega)
  have o1 : TOk (linkF 0 true (newN id (gports hids) n)) 5900 := (o0.mono (k := (newN id (gports hids) n).n + 5900) (by rw [newN_n]; omega)).link 0 true
  have out : ∀ {T : Tr} {k : Nat}, TOk T k → TOk (outsF T) k := fun h => ⟨h.n, h.fl, h.rp, h.hello, h.ps, by have := h.room; show 0 + _ ≤ _; omega⟩
  have key : ∀ m, m ≤ 60 → TOk (hel m (hel0 id n)) (5900 - 32 * m) := by
    intro m
    induction m with
    | zero => intro _; exact out o1
    | succ m ih =>
      intro hm
      have h := ih (by omega)
      have hn := h.n
      exact out ((h.mono (k := 2 * (hel m (hel0 id n)).n + (5900 - 32 * (m + 1))) (by omega)).tick)
  have h := key k hk
  exact h.mono (by have := h.n; omega)
theorem newN_ok (id : Int) (n : Nat) (hn : n ≤ 8) : TOk (newN id (gports hids) n) (newN id (gports hids) n).n := by
  rw [newN_n]
  exact TOk.new id _ n n (by omega) (mk_ok hids n) (by omega)
set_option maxRecDepth 8000 in
set_option maxHeartbeats 8000000 in
theorem treeHello_any (w : World) (id many secs : Int) : Calls Try.prog 4 #[.int .u64 id, .int .i64 many, .int .i64 secs] w fun r w' => r = .returned (.bool true) ∧ Below w.heap.size w w' := by
  by_cases hout : many < 1 ∨ 8 < many ∨ secs < 0 ∨ 60 < secs
  · by_cases h1 : many < 1
    · go_enter Try.func4, Try.ntmps4
      go_wp2_with (go_at_call 12; (with_reducible refine (grows_calls _).mono ?_); rintro r w1 ⟨rfl, hb1⟩)
      go_ret
      exact ⟨rfl, hb1⟩
    by_cases h2 : 8 < many
    · go_enter Try.func4, Try.ntmps4
      go_wp2_with (go_at_call 12; (with_reducible refine (grows_calls _).mono ?_); rintro r w1 ⟨rfl, hb1⟩)
      go_ret
      exact ⟨rfl, hb1⟩
    by_cases h3 : secs < 0
    · go_enter Try.func4, Try.ntmps4
      go_wp2_with (go_at_call 12; (with_reducible refine (grows_calls _).mono ?_); rintro r w1 ⟨rfl, hb1⟩)
      go_ret
      exact ⟨rfl, hb1⟩
    have h4 : 60 < secs := by omega
    go_enter Try.func4, Try.ntmps4
    go_wp2_with (go_at_call 12; (with_reducible refine (grows_calls _).mono ?_); rintro r w1 ⟨rfl, hb1⟩)
    go_ret
    exact ⟨rfl, hb1⟩
  have h1 : ¬ many < 1 := fun h => hout (.inl h)
  have h2 : ¬ 8 < many := fun h => hout (.inr (.inl h))
  have h3 : ¬ secs < 0 := fun h => hout (.inr (.inr (.inl h)))
  have h4 : ¬ 60 < secs := fun h => hout (.inr (.inr (.inr h)))
  clear hout
  obtain ⟨n, rfl⟩ : ∃ n : Nat, many = (n : Int) := ⟨many.toNat, by omega⟩
  obtain ⟨S, rfl⟩ : ∃ S : Nat, secs = (S : Int) := ⟨secs.toNat, by omega⟩
  have hn1 : 1 ≤ n := by omega
  have hn8 : n ≤ 8 := by omega
  have hS60 : S ≤ 60 := by omega
  have HHEL : Hid (∀ s, s < 60 → (tickF (hel s (hel0 id n))).outs.length = (if s % 2 = 0 then 1 else 0) ∧ ∀ (i : Nat) (o : OutM), (tickF (hel s (hel0 id n))).outs[i]? = some o → helOk o = true ∧ o.m.v.root = id ∧ o.m.v.bridge = id) := Lib.hid fun s hs => hel_any id (by omega) hn1 hs
  have HOK : Hid (∀ k, k ≤ 60 → TOk (hel k (hel0 id n)) (2 * (hel k (hel0 id n)).n)) := Lib.hid fun k hk => hel_ok id n k hn8 hk
  have hno := newN_ok id n hn8
  obtain ⟨N0, hN0⟩ : ∃ N0, newN id (gports hids) n = N0 := ⟨_, rfl⟩
  obtain ⟨L0, hL0⟩ : ∃ L0, linkF 0 true N0 = L0 := ⟨_, rfl⟩
  have hH : hel0 id n = outsF L0 := by unfold hel0; rw [hN0, hL0]
  rw [hN0] at hno
  have HN0 := Lib.hid hN0
  have HL0 := Lib.hid hL0
  have HNO := Lib.hid hno
  have HH := Lib.hid hH
  obtain ⟨G, hG⟩ : ∃ G, hel0 id n = G := ⟨_, rfl⟩
  rw [hG] at HHEL HOK HH
  have HC := Lib.hid (mk_ok hids n)
  have H1a : Hid (n ≤ 4611686018427387904) := Lib.hid (by omega)
  have H1b : Hid ((if n ≤ 16 then n else 16) = n) := Lib.hid (if_pos (by omega))
  have H1c : Hid (n ≤ 1000) := Lib.hid (by omega)
  clear hno hN0 hL0 hH hG
  go_enter Try.func4, Try.ntmps4
  go_upto_region 3 with (go_at_call 12; (with_reducible refine (grows_calls _).mono ?_); rintro r w0 ⟨rfl, hb1⟩)
  go_cut [30] (fun s30 wx => s30 = .bool false ∧ wx = w0)
  case first =>
    have d1 : decide ((n : Int) < 1) = false := decide_eq_false (by omega)
    have d2 : decide (8 < (n : Int)) = false := decide_eq_false (by omega)
    have d3 : decide ((S : Int) < 0) = false := decide_eq_false (by omega)
    have d4 : decide (60 < (S : Int)) = false := decide_eq_false (by omega)
    go_wp2
    go_meet
    exact ⟨rfl, rfl⟩
  case rest =>
    obtain ⟨rfl, hw1⟩ := hcut
    generalize wc = w1 at hw1 ⊢
    subst hw1
    clear h1 h2 h3 h4
    go_upto_region 6 with (fail)
    go_wp2
    have HB1 := Lib.hid hb1
    clear hb1
    go_loopg [7, 32] n (fun gh s7 s32 wx => ∃ k : Nat, k + gh = n ∧ s32 = .int .i64 (k : Int) ∧ wx.ownsRow w1.heap.size 3 1 s7 k (intL k) ∧ Below w1.heap.size w1 wx)
    case atStart => exact ⟨0, by omega, rfl, World.ownsRow_nil _ _ _ _, Below.refl _ _⟩
    case round =>
      obtain ⟨k, hkg, rfl, hown, hbel⟩ := hrel
      cases gk with
      | succ gh =>
        have hkM : (k : Int) < (n : Int) := by omega
        have s1 : IntKind.i64.wrap ((k : Int) + 1) = (k : Int) + 1 := IntWalk.i64_in _ (by omega)
        have ha := (Below.refl wr.heap.size wr).alloc (Nat.le_refl _) (.cells [Value.int .i64 ((k : Int) + 1)].toArray 3)
        have h2 := own_below hown ha
        have b2 := hbel.trans (ha.mono hbel.size)
        have hsz := b2.size
        go_wp2_with (refine wpList_append_one rfl _ _ 37 rfl w1.heap.size 3 _ 1 8 Try.underlying37 info3 rfl (by decide) _ k _ rfl h2 wr.heap.size [.int .i64 ((k : Int) + 1)] 3 rfl (Blk.new wr _ _) rfl (by simp [Value.oneCell']) (by unfold maxLen; omega) (by omega) hsz ?_; intro v3 w8 hown8 hfr hin)
        go_roundg gh
        case measure => omega
        case rel => exact ⟨k + 1, by omega, by go_num, by rw [intL_succ]; exact hown8, Below.fr b2 hfr b2.size fun i _ hi => by have := (own_ge h2 hi).1; omega⟩
      | zero =>
        have hkM : ¬ ((k : Int) < (n : Int)) := by omega
        obtain rfl : k = n := by omega
        obtain ⟨g, c, rfl, hg1, hg2, hc, hcell⟩ := own_at hown (by omega)
        have hcells : Hid (0 < k → ∃ b off, some (⟨g, 0, none⟩ : Addr) = some ⟨b, off, none⟩ ∧ b < wr.heap.size ∧ ∀ j, j < k → wr.cell? ⟨b, off + j, none⟩ = some (.int .i64 (hids j))) :=
          Lib.hid fun _ => ⟨g, 0, rfl, hg2, fun j hj => by
            rw [Nat.zero_add, hcell j (by omega)]
            unfold intL
            simp [hj]⟩
        have hbl := HB1.out.trans (hbel.mono HB1.out.size)
        clear hcell hown hbel
        go_upto_region 12 with (first
          | (go_at_call 13; (with_reducible refine (mkports_calls hids _ k c H1c.out _ hcells.out).mono ?_); rintro e w2 ⟨v1, rfl, hown1, hb1⟩; obtain ⟨a1, c1, rfl, hc1, hp1⟩ := ports_of_own (f := gports hids) hown1; have HP1 := Lib.hid hp1; clear hp1 hown1 hcells)
          | (go_at_call 14; (with_reducible refine (new_calls id (gports hids) a1 k c1 H1a.out hc1 k H1b.out HC.out _ HP1.out N0 HN0.out).mono ?_); intro e w3 hnew; obtain ⟨tb, rfl, hT2, hb2⟩ := hnew.at_; clear hnew HP1))
        have hbl2 := hbl.trans ((hb1.mono hbl.size).trans (hb2.mono (Nat.le_trans hbl.size hb1.size)))
        have hT := hT2.more (Z' := fun j => j < w.heap.size) fun j hj => .inl (Nat.lt_of_lt_of_le hj (Nat.le_trans hbl.size hb1.size))
        have HT := Lib.hid hT
        clear hT2 hb1 hb2 hc1 hbl hT
        go_upto_region 13 with (go_at_call 15; (with_reducible refine (link_at HT.out 0 true HNO.out L0 HL0.out).mono ?_); rintro e w4 ⟨rfl, hT4, hf4⟩)
        have HT4 := Lib.hid hT4
        have hbl4 := hbl2.trans (hf4.toBelow (fun _ h => h) hbl2.size)
        clear hT4 hbl2 hf4 HT
        go_wp2_with (go_at_call 18; (with_reducible refine (outs_at HT4.out).mono ?_); rintro e w5 ⟨a5, c5, rfl, hown5, hT5, hf5, _⟩)
        have hT5' := hT5.more (Z' := fun j => j < w.heap.size) fun j hj => .inl (.inl hj)
        have hbl5 := hbl4.trans (hf5.toBelow (fun _ h => h) hbl4.size)
        rw [← HH.out] at hT5'
        clear hown5 hT5 hf5 hbl4 HT4
        go_loopg [50] S (fun gh s50 wx => ∃ j : Nat, j + gh = S ∧ s50 = .int .i64 (j : Int) ∧ TAt wx tb (hel j G) (fun j => j < w.heap.size) ∧ Below w.heap.size w wx)
        case atStart => exact ⟨0, by omega, rfl, hT5', hbl5⟩
        case round =>
          obtain ⟨j, hjg, rfl, hTj, hblj⟩ := hrel
          have HTj := Lib.hid hTj
          clear hTj
          cases gk with
          | zero =>
            have hjM : ¬ ((j : Int) < (S : Int)) := by omega
            go_wp2
            go_ret
            exact ⟨rfl, hblj⟩
          | succ gh =>
            have hjM : (j : Int) < (S : Int) := by omega
            have hjS : j < 60 := by omega
            obtain ⟨hlen, hall⟩ := HHEL.out j hjS
            have HOKj := Lib.hid (HOK.out j (by omega))
            have HHS : Hid (hel (j + 1) G = outsF (tickF (hel j G))) := Lib.hid rfl
            obtain ⟨Y, hY⟩ : ∃ Y, tickF (hel j G) = Y := ⟨_, rfl⟩
            rw [hY] at hlen hall HHS
            have HY := Lib.hid hY
            have HALL := Lib.hid hall
            generalize hel j G = X at HTj HOKj HY
            clear hY hall
            by_cases hp : j % 2 = 0
            · have HYL : Hid (Y.outs.length = 1) := Lib.hid (by rw [hlen, if_pos hp])
              have p1 : ((j : Int) % 2 == 1) = false := by simp; omega
              have p0 : ((j : Int) % 2 == 0) = true := by simp; omega
              clear hlen hp
              go_wp2_with (first
                | (go_at_call 16; (with_reducible refine (tick_at HTj.out HOKj.out Y HY.out).mono ?_); rintro e w6 ⟨rfl, hT6, hf6⟩; have HT6 := Lib.hid hT6; have HBL6 := Lib.hid (hblj.trans (hf6.toBelow (fun _ h => h) hblj.size)); clear hT6 hf6)
                | (go_at_call 18; (with_reducible refine (outs_at HT6.out).mono ?_); rintro e w7 ⟨a7, c7, rfl, hown7, hT7, hf7, _⟩; have HT7 := Lib.hid (hT7.more (Z' := fun j => j < w.heap.size) fun j hj => .inl (.inl hj)); have HBL7 := Lib.hid (HBL6.out.trans (hf7.toBelow (fun _ h => h) HBL6.out.size)); clear hT7 hf7; rw [HYL.out] at hown7 ⊢))
              obtain ⟨o, ho⟩ : ∃ o, Y.outs[0]? = some o := ⟨_, List.getElem?_eq_getElem (by rw [HYL.out]; omega)⟩
              obtain ⟨hok, hr1, hr2⟩ := HALL.out 0 o ho
              obtain ⟨g7, c7', hv7, hg7, hg7', hc7, _⟩ := own_at hown7 (by omega)
              simp only [Value.slice.injEq] at hv7
              obtain ⟨rfl, _, rfl⟩ := hv7
              have hrange := out_range hown7 HYL.out ho
              unfold helOk at hok
              simp only [Bool.and_eq_true, decide_eq_true_eq] at hok
              obtain ⟨⟨⟨⟨⟨⟨⟨q1, q2⟩, q3⟩, q4⟩, q5⟩, q6⟩, q7⟩, q8⟩ := hok
              obtain ⟨op, ⟨kd, ⟨vr, vc, vb, vp⟩, ch, ak, pr, ag, le, fo, ro, a0, a1', a2', a3'⟩⟩ := o
              dsimp only at q1 q2 q3 q4 q5 q6 q7 q8 hr1 hr2
              subst q1 q2 q3 q4 q5 q6 q7 q8 hr1 hr2
              have HRG : Hid (w7.rangeAt g7 (0 * 17) [.int .i64 0, .int .i64 kd, .int .u64 vb, .int .u64 0, .int .u64 vb, .int .i64 1, .bool ch, .bool ak, .bool pr, .bool ag, .bool le, .bool fo, .int .i64 3, .int .i64 0, .int .i64 5120, .int .i64 512, .int .i64 3840]) := Lib.hid hrange
              clear hrange hown7 ho HALL hg7 hg7'
              go_loopg [77] 1 (fun gh s77 wx => ∃ q : Nat, q + gh = 1 ∧ s77 = .int .i64 (q : Int) ∧ TAt wx tb (outsF Y) (fun j => j < w.heap.size) ∧ Below w.heap.size w wx ∧ wx.rangeAt g7 (0 * 17) [.int .i64 0, .int .i64 kd, .int .u64 vb, .int .u64 0, .int .u64 vb, .int .i64 1, .bool ch, .bool ak, .bool pr, .bool ag, .bool le, .bool fo, .int .i64 3, .int .i64 0, .int .i64 5120, .int .i64 512, .int .i64 3840])
              case atStart => exact ⟨0, by omega, rfl, HT7.out, HBL7.out, HRG.out⟩
              case round =>
                obtain ⟨q, hqg, rfl, hTq, hblq, hrq⟩ := hrel
                have HTq := Lib.hid hTq
                clear hTq
                cases gk with
                | zero =>
                  have hqM : ¬ ((q : Int) < 1) := by omega
                  clear hrq
                  go_wp2
                  go_roundg gh
                  case measure => omega
                  case rel => exact ⟨j + 1, by omega, by go_num, by rw [HHS.out]; exact HTq.out, hblq⟩
                | succ gq =>
                  obtain rfl : q = 0 := by omega
                  have hqM : ((0 : Nat) : Int) < 1 := by omega
                  go_upto_region 25 with (refine wpList_load_mid rfl 43 _ rfl g7 (0 * 17) rfl _ _ hrq Try.underlying43 rfl sz43 ?_)
                  have hA := (Below.refl wr.heap.size wr).alloc (Nat.le_refl _) (.cells #[.int .i64 0, .int .i64 kd, .int .u64 vb, .int .u64 0, .int .u64 vb, .int .i64 1, .bool ch, .bool ak, .bool pr, .bool ag, .bool le, .bool fo, .int .i64 3, .int .i64 0, .int .i64 5120, .int .i64 512, .int .i64 3840] 43)
                  have hsz : (wr.alloc (.cells #[.int .i64 0, .int .i64 kd, .int .u64 vb, .int .u64 0, .int .u64 vb, .int .i64 1, .bool ch, .bool ak, .bool pr, .bool ag, .bool le, .bool fo, .int .i64 3, .int .i64 0, .int .i64 5120, .int .i64 512, .int .i64 3840] 43)).heap.size = wr.heap.size + 1 := size_alloc' _ _
                  have hAW := hA.alloc (by rw [hsz]; omega) (.cells #[.int .i64 kd, .int .u64 vb, .int .u64 0, .int .u64 vb, .int .i64 1, .bool ch, .bool ak, .bool pr, .bool ag, .bool le, .bool fo, .int .i64 3, .int .i64 0, .int .i64 5120, .int .i64 512, .int .i64 3840] 41)
                  have hB13 := (Blk.new wr #[.int .i64 0, .int .i64 kd, .int .u64 vb, .int .u64 0, .int .u64 vb, .int .i64 1, .bool ch, .bool ak, .bool pr, .bool ag, .bool le, .bool fo, .int .i64 3, .int .i64 0, .int .i64 5120, .int .i64 512, .int .i64 3840] 43).alloc (.cells #[.int .i64 kd, .int .u64 vb, .int .u64 0, .int .u64 vb, .int .i64 1, .bool ch, .bool ak, .bool pr, .bool ag, .bool le, .bool fo, .int .i64 3, .int .i64 0, .int .i64 5120, .int .i64 512, .int .i64 3840] 41)
                  have hB14 := Blk.new (wr.alloc (.cells #[.int .i64 0, .int .i64 kd, .int .u64 vb, .int .u64 0, .int .u64 vb, .int .i64 1, .bool ch, .bool ak, .bool pr, .bool ag, .bool le, .bool fo, .int .i64 3, .int .i64 0, .int .i64 5120, .int .i64 512, .int .i64 3840] 43)) #[.int .i64 kd, .int .u64 vb, .int .u64 0, .int .u64 vb, .int .i64 1, .bool ch, .bool ak, .bool pr, .bool ag, .bool le, .bool fo, .int .i64 3, .int .i64 0, .int .i64 5120, .int .i64 512, .int .i64 3840] 41
                  rw [hsz] at hB14
                  have hrq2 : ∀ {w' : World}, Below wr.heap.size wr w' → w'.rangeAt g7 (0 * 17) [.int .i64 0, .int .i64 kd, .int .u64 vb, .int .u64 0, .int .u64 vb, .int .i64 1, .bool ch, .bool ak, .bool pr, .bool ag, .bool le, .bool fo, .int .i64 3, .int .i64 0, .int .i64 5120, .int .i64 512, .int .i64 3840] := fun {w'} hb => range_below hrq hb
                  have HRQ := Lib.hid (fun (w' : World) (hb : Below wr.heap.size wr w') => range_below hrq hb)
                  change Code.wp _ _ _ _ ((wr.alloc (.cells #[.int .i64 0, .int .i64 kd, .int .u64 vb, .int .u64 0, .int .u64 vb, .int .i64 1, .bool ch, .bool ak, .bool pr, .bool ag, .bool le, .bool fo, .int .i64 3, .int .i64 0, .int .i64 5120, .int .i64 512, .int .i64 3840] 43)).alloc (.cells #[.int .i64 kd, .int .u64 vb, .int .u64 0, .int .u64 vb, .int .i64 1, .bool ch, .bool ak, .bool pr, .bool ag, .bool le, .bool fo, .int .i64 3, .int .i64 0, .int .i64 5120, .int .i64 512, .int .i64 3840] 41))
                  generalize (wr.alloc (.cells #[.int .i64 0, .int .i64 kd, .int .u64 vb, .int .u64 0, .int .u64 vb, .int .i64 1, .bool ch, .bool ak, .bool pr, .bool ag, .bool le, .bool fo, .int .i64 3, .int .i64 0, .int .i64 5120, .int .i64 512, .int .i64 3840] 43)).alloc (.cells #[.int .i64 kd, .int .u64 vb, .int .u64 0, .int .u64 vb, .int .i64 1, .bool ch, .bool ak, .bool pr, .bool ag, .bool le, .bool fo, .int .i64 3, .int .i64 0, .int .i64 5120, .int .i64 512, .int .i64 3840] 41) = W at hAW hB13 hB14 ⊢
                  have HAW := Lib.hid hAW
                  have HWR := Lib.hid (Nat.le_refl wr.heap.size)
                  clear hA hsz hAW hrq hrq2
                  generalize wr.heap.size + 1 = b14 at hB14 ⊢
                  generalize hb13 : wr.heap.size = b13 at hB13 HAW HRQ ⊢
                  have HB13 := Lib.hid hb13
                  have HQG := Lib.hid hqg
                  clear hb13 hqg hqM hkg hkM hc hn1 hn8 hc7 p1 p0
                  have HOWN : Hid (∀ w', Calls Try.prog 19 #[.int .u64 vb, .int .i64 1] w' fun e w2 => e = .returned (.agg #[.int .u64 vb, .int .u64 0, .int .u64 vb, .int .i64 1]) ∧ Below w'.heap.size w' w2) := Lib.hid fun w' => own_calls vb 1 w'
                  go_region_held3 (fun w' => Blk w' b13 #[.int .i64 0, .int .i64 kd, .int .u64 vb, .int .u64 0, .int .u64 vb, .int .i64 1, .bool ch, .bool ak, .bool pr, .bool ag, .bool le, .bool fo, .int .i64 3, .int .i64 0, .int .i64 5120, .int .i64 512, .int .i64 3840] 43 ∧ (∀ o, w'.cell? ⟨b13, o, none⟩ = (#[.int .i64 0, .int .i64 kd, .int .u64 vb, .int .u64 0, .int .u64 vb, .int .i64 1, .bool ch, .bool ak, .bool pr, .bool ag, .bool le, .bool fo, .int .i64 3, .int .i64 0, .int .i64 5120, .int .i64 512, .int .i64 3840] : Array Value)[o]?) ∧ Blk w' b14 #[.int .i64 kd, .int .u64 vb, .int .u64 0, .int .u64 vb, .int .i64 1, .bool ch, .bool ak, .bool pr, .bool ag, .bool le, .bool fo, .int .i64 3, .int .i64 0, .int .i64 5120, .int .i64 512, .int .i64 3840] 41 ∧ ∀ o, w'.cell? ⟨b14, o, none⟩ = (#[.int .i64 kd, .int .u64 vb, .int .u64 0, .int .u64 vb, .int .i64 1, .bool ch, .bool ak, .bool pr, .bool ag, .bool le, .bool fo, .int .i64 3, .int .i64 0, .int .i64 5120, .int .i64 512, .int .i64 3840] : Array Value)[o]?)
                    (first | assumption | exact held2_drew hB13 hB14 | exact held2_below (by assumption) (by assumption))
                    (first | (go_at_call 19; (with_reducible refine (HOWN.out _).mono ?_); rintro e w8 ⟨rfl, hb8⟩))
                  go_wp2
                  go_roundg gq
                  case measure => first | omega | (have := HQG.out; omega)
                  case rel =>
                    have h13 := HB13.out
                    have hbx : Below b13 wr w8 := HAW.out.trans (((Below.refl _ _).drew).trans (hb8.mono (by have := HAW.out.size; show b13 ≤ W.heap.size; omega)))
                    have hby : Below wr.heap.size wr w8 := by rw [h13]; exact hbx
                    exact ⟨0 + 1, by have := HQG.out; omega, by go_num, HTq.out.below hby, hblq.trans (hby.mono hblq.size), HRQ.out w8 hbx⟩
            · have HYL : Hid (Y.outs.length = 0) := Lib.hid (by rw [hlen, if_neg hp])
              have p1 : ((j : Int) % 2 == 1) = true := by simp; omega
              have p0 : ((j : Int) % 2 == 0) = false := by simp; omega
              clear hlen hp
              go_wp2_with (first
                | (go_at_call 16; (with_reducible refine (tick_at HTj.out HOKj.out Y HY.out).mono ?_); rintro e w6 ⟨rfl, hT6, hf6⟩; have HT6 := Lib.hid hT6; have HBL6 := Lib.hid (hblj.trans (hf6.toBelow (fun _ h => h) hblj.size)); clear hT6 hf6)
                | (go_at_call 18; (with_reducible refine (outs_at HT6.out).mono ?_); rintro e w7 ⟨a7, c7, rfl, hown7, hT7, hf7, _⟩; have HT7 := Lib.hid (hT7.more (Z' := fun j => j < w.heap.size) fun j hj => .inl (.inl hj)); have HBL7 := Lib.hid (HBL6.out.trans (hf7.toBelow (fun _ h => h) HBL6.out.size)); clear hT7 hf7; rw [HYL.out] at hown7 ⊢))
              go_loopg [77] 0 (fun gh s77 wx => s77 = .int .i64 0 ∧ wx = w7)
              case atStart => exact ⟨rfl, rfl⟩
              case round =>
                obtain ⟨rfl, rfl⟩ := hrel
                go_wp2
                go_roundg gh
                case measure => omega
                case rel => exact ⟨j + 1, by omega, by go_num, by rw [HHS.out]; exact HT7.out, HBL7.out⟩
end Go.Proofs.Ytjnbjcieepooaac
