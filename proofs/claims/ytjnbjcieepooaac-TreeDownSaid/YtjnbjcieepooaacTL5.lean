/- TreeDown: walked. -/
import Derived.Test.YtjnbjcieepooaacTArg
import Derived.Test.YtjnbjcieepooaacTD
namespace Go.Proofs.Ytjnbjcieepooaac
open Go.RowKit
set_option linter.unusedVariables false
set_option linter.unusedSimpArgs false

/-- Acts, one behind the other. -/
def runF (f : Nat → ActM) : Nat → Tr → Tr
  | 0, T => T
  | k + 1, T => doF (f k) (runF f k T)
theorem run_n (f : Nat → ActM) (k : Nat) (T : Tr) : (runF f k T).n = T.n := by
  induction k with
  | zero => rfl
  | succ k ih => exact (do_n _ _).trans ih
theorem TJ.run {T : Tr} (h : TJ T) (f : Nat → ActM) (k : Nat) : TJ (runF f k T) := by
  induction k with
  | zero => exact h
  | succ k ih => exact ih.do_ _
theorem TOk.run {T : Tr} (f : Nat → ActM) (k : Nat) (hf : ∀ i, i < k → (f i).m.v.ok) {j : Nat} (h : TOk T (34 * k + j)) : TOk (runF f k T) j := by
  induction k generalizing j with
  | zero => exact h.mono (by omega)
  | succ k ih => exact (ih (fun i hi => hf i (by omega)) (j := 34 + j) (h.mono (by omega))).do_ _ (hf k (by omega))
theorem sz52 : (Try.prog.info? 52).map (·.size) = some 18 := by kernel_rfl
/-- What is read of the port behind the two acts. -/
structure DownEnd (E1 E2 : Tr) (p : Nat) : Prop where
  u1 : (E1.at_ p).p.up = false
  h1 : (E1.at_ p).p.has = false
  s1 : (E1.at_ p).state = 0
  r1 : (E1.at_ p).role = 0
  u2 : (E2.at_ p).p.up = true
  h2 : (E2.at_ p).p.has = false
  t2 : (E2.at_ p).p.told = v0
  r2 : (E2.at_ p).role = 2
  s2 : (E2.at_ p).state = if (E2.at_ p).edge = true then 2 else 0
theorem down_law {T : Tr} (h : TJ T) {p : Nat} (hp : p < T.n) : DownEnd (linkF (p : Int) false T) (linkF (p : Int) true (linkF (p : Int) false T)) p := by
  obtain ⟨a, b, c, d⟩ := down_off h hp
  have hn : p < (linkF (p : Int) false T).n := by rw [(shp_link _ _ T).n]; exact hp
  obtain ⟨e, f, g, i, j⟩ := down_on hn a d
  exact ⟨a, b, c, d, e, f, g, i, j⟩
theorem blk_sets {b : Nat} {t : TypeId} : ∀ (vs : List Value) (o : Nat) (w : World) (cs : Array Value), o + vs.length ≤ cs.size → Blk w b cs t → ∃ cs', Blk (w.setCells b o vs) b cs' t ∧ cs'.size = cs.size ∧ (∀ j, j < o → cs'[j]? = cs[j]?) ∧ ∀ j, j < vs.length → cs'[o + j]? = vs[j]?
  | [], o, w, cs, _, h => ⟨cs, h, rfl, fun _ _ => rfl, fun j hj => absurd hj (Nat.not_lt_zero j)⟩
  | v :: r, o, w, cs, hl, h => by
    have hl' : o + (r.length + 1) ≤ cs.size := hl
    have h1 := h.set o v
    obtain ⟨cs', a, c, d, e⟩ := blk_sets r (o + 1) (w.setCell ⟨b, o, none⟩ v) (cs.setIfInBounds o v) (by rw [Array.size_setIfInBounds]; omega) h1
    refine ⟨cs', a, by rw [c, Array.size_setIfInBounds], fun j hj => by rw [d j (by omega), get_set_ne (by omega)], fun j hj => ?_⟩
    cases j with
    | zero => rw [Nat.add_zero, d o (by omega), get_set_self (by omega)]; rfl
    | succ j =>
      have hj' : j < r.length := by simpa using hj
      have := e j hj'
      rw [show o + (j + 1) = o + 1 + j by omega, this]
      rfl
/-- A block that is written whole. -/
theorem Blk.over {w : World} {b : Nat} {cs : Array Value} {t : TypeId} (h : Blk w b cs t) (vs : List Value) (hl : vs.length = cs.size) : Blk (w.setCells b 0 vs) b vs.toArray t := by
  obtain ⟨cs', a, c, _, e⟩ := blk_sets vs 0 w cs (by omega) h
  have : cs' = vs.toArray := by
    apply Array.ext_getElem?
    intro j
    by_cases hj : j < vs.length
    · have := e j hj
      rw [Nat.zero_add] at this
      rw [this]
      simp
    · rw [Array.getElem?_eq_none (by omega), Array.getElem?_eq_none (by simpa using hj)]
  rw [← this]
  exact a
theorem Blk.there {w : World} {b : Nat} {cs : Array Value} {t : TypeId} (h : Blk w b cs t) : w.there b 0 cs.size := fun j hj => by
  rw [Nat.zero_add]
  exact ⟨by rw [h.cell]; simp [hj], h.free j⟩
theorem Blk.range {w : World} {b : Nat} {cs : List Value} {t : TypeId} (h : Blk w b cs.toArray t) : w.rangeAt b 0 cs := fun j v hj => by
  rw [Nat.zero_add, h.cell]
  simpa using hj
theorem wpList_load_midw {P : Program} {ops : Array Oper} {rest : List Oper} {op : Oper} {a : Act} {w : World} {Q : Exit → Act → World → Prop} (hw : Region.wanted op (yielded ops a.tmps) = true) (ty : TypeId) (x : Operand) (ho : op.op = .load ty x)
    (b o : Nat) (hx : a.eval x = .pointer (some ⟨b, o, none⟩)) (cs : List Value) (d : TypeDesc) (hc : w.rangeAt b o cs)
    (hu : P.underlying ty = some d) (hd : d.isRow = true) (hi : (P.info? ty).map (·.size) = some cs.length)
    (h : wpList P ops Q rest (a.put op.dst (.agg cs.toArray)) w) : wpList P ops Q (op :: rest) a w :=
  BigFrame.wpList_want hw fun _ hK => wp_load_mid ty x ho b o hx cs d hc hu hd hi (hK _ _ h)
theorem sz27 : (Try.prog.info? 27).map (·.size) = some 4 := by kernel_rfl
theorem inf31 : (Try.prog.info? 31).map (·.size) = some 16 := by kernel_rfl
theorem head3_down (w : World) (id port : Int) (a : Option Addr) (n cap : Nat) (h : 100 < n ∨ port < 0 ∨ 2 < port) (hn : n ≤ 9223372036854775807) : Calls Try.prog 10 #[.int .u64 id, .slice a n cap, .int .i64 port] w fun r w' => r = .returned (.bool true) ∧ Below w.heap.size w w' := by
  by_cases h1 : (100 : Int) < (n : Int)
  · go_enter Try.func10, Try.ntmps10
    go_wp2_with (go_at_call 12; (with_reducible refine (grows_calls _).mono ?_); rintro r w1 ⟨rfl, hb1⟩)
    go_ret
    exact ⟨rfl, hb1⟩
  by_cases h2 : port < 0
  · go_enter Try.func10, Try.ntmps10
    go_wp2_with (go_at_call 12; (with_reducible refine (grows_calls _).mono ?_); rintro r w1 ⟨rfl, hb1⟩)
    go_ret
    exact ⟨rfl, hb1⟩
  · have h3 : 2 < port := by omega
    go_enter Try.func10, Try.ntmps10
    go_wp2_with (go_at_call 12; (with_reducible refine (grows_calls _).mono ?_); rintro r w1 ⟨rfl, hb1⟩)
    go_ret
    exact ⟨rfl, hb1⟩
set_option maxRecDepth 8000 in
set_option maxHeartbeats 8000000 in
theorem treeDown_any (w : World) (id port : Int) (a : Option Addr) (n cap : Nat) (hn : n ≤ 9223372036854775807) (f : Nat → ActM) (hf : ∀ i, i < n → (f i).m.v.ok) (hA : ActsAt w a n f) : Calls Try.prog 10 #[.int .u64 id, .slice a n cap, .int .i64 port] w fun r w' => r = .returned (.bool true) ∧ Below w.heap.size w w' := by
  by_cases hout : 100 < n ∨ port < 0 ∨ 2 < port
  · exact head3_down w id port a n cap hout hn
  have h1 : ¬ (100 : Int) < (n : Int) := fun h => hout (.inl (by omega))
  have h2 : ¬ port < 0 := fun h => hout (.inr (.inl h))
  have h3 : ¬ 2 < port := fun h => hout (.inr (.inr h))
  clear hout
  obtain ⟨p, rfl⟩ : ∃ p : Nat, port = (p : Int) := ⟨port.toNat, by omega⟩
  have hp3 : p < 3 := by omega
  have hpi : (p : Int) < 3 := by omega
  have hn100 : n ≤ 100 := by omega
  obtain ⟨N0, hN0⟩ : ∃ N0, newN id (gports hids) 3 = N0 := ⟨_, rfl⟩
  have hn0 : N0.n = 3 := by rw [← hN0]; exact newN_n _ _ _
  have ok0 : TOk N0 5000 := by rw [← hN0]; exact TOk.new id _ 3 5000 (by omega) (mk_ok hids 3) (by omega)
  have j0 : TJ N0 := by rw [← hN0]; exact tj_new id _ 3
  have OKR : Hid (∀ k, k ≤ n → TOk (runF f k N0) 34) := Lib.hid fun k hk => (ok0.mono (by omega)).run f k (fun i hi => hf i (by omega)) (j := 34)
  have hEn : (runF f n N0).n = 3 := (run_n f n N0).trans hn0
  obtain ⟨E1, hE1⟩ : ∃ E1, linkF (p : Int) false (runF f n N0) = E1 := ⟨_, rfl⟩
  obtain ⟨E2, hE2⟩ : ∃ E2, linkF (p : Int) true E1 = E2 := ⟨_, rfl⟩
  have hd : DownEnd E1 E2 p := by rw [← hE2, ← hE1]; exact down_law (j0.run f n) (by omega)
  have okE : TOk (runF f n N0) 100 := (ok0.mono (by omega)).run f n hf (j := 100)
  have okE1 : TOk E1 50 := by rw [← hE1]; exact (okE.mono (by omega)).link _ _
  have hE1n : E1.n = 3 := by rw [← hE1]; exact (shp_link _ _ _).n.trans hEn
  have hE2n : E2.n = 3 := by rw [← hE2]; exact (shp_link _ _ _).n.trans hE1n
  obtain ⟨P1, hP1⟩ : ∃ P1, E1.at_ p = P1 := ⟨_, rfl⟩
  obtain ⟨P2, hP2⟩ : ∃ P2, E2.at_ p = P2 := ⟨_, rfl⟩
  obtain ⟨du1, dh1, ds1, dr1, du2, dh2, dt2, dr2, ds2⟩ := hd
  rw [hP1] at du1 dh1 ds1 dr1
  rw [hP2] at du2 dh2 dt2 dr2 ds2
  have D1 : Hid (P1.p.up = false ∧ P1.p.has = false ∧ P1.state = 0 ∧ P1.role = 0) := Lib.hid ⟨du1, dh1, ds1, dr1⟩
  have D2 : Hid (P2.p.up = true ∧ P2.p.has = false ∧ P2.p.told = v0 ∧ P2.role = 2 ∧ P2.state = if P2.edge = true then 2 else 0) := Lib.hid ⟨du2, dh2, dt2, dr2, ds2⟩
  have HN0 := Lib.hid hN0
  have HP1 := Lib.hid hP1
  have HP2 := Lib.hid hP2
  have HE1 := Lib.hid hE1
  have HE2 := Lib.hid hE2
  have OKE : Hid (TOk (runF f n N0) (runF f n N0).n) := Lib.hid (okE.mono (by omega))
  have OKE1 : Hid (TOk E1 E1.n) := Lib.hid (okE1.mono (by omega))
  have N1 : Hid (E1.n = 3) := Lib.hid hE1n
  have N2 : Hid (E2.n = 3) := Lib.hid hE2n
  have N116 : Hid (E1.n ≤ 16) := Lib.hid (by omega)
  have N216 : Hid (E2.n ≤ 16) := Lib.hid (by omega)
  have HACT := Lib.hid hA
  have HF := Lib.hid hf
  have HC := Lib.hid (mk_ok hids 3)
  have H1a : Hid (3 ≤ 4611686018427387904) := Lib.hid (by omega)
  have H1b : Hid ((if 3 ≤ 16 then 3 else 16) = 3) := Lib.hid rfl
  clear hN0 hP1 hP2 hE1 hE2 ok0 j0 hEn okE okE1 hE1n hE2n du1 dh1 ds1 dr1 du2 dh2 dt2 dr2 ds2 hA hf hn0
  go_enter Try.func10, Try.ntmps10
  go_upto_region 5 with (go_at_call 12; (with_reducible refine (grows_calls _).mono ?_); rintro r w1 ⟨rfl, hb1⟩)
  have hA := (Below.refl w1.heap.size w1).alloc (Nat.le_refl _) (.cells #[.int .i64 1, .int .i64 2, .int .i64 3] 3)
  have hB := Blk.new w1 #[.int .i64 1, .int .i64 2, .int .i64 3] 3
  have hcells : Hid (0 < 3 → ∃ b off, some (⟨w1.heap.size, 0, none⟩ : Addr) = some ⟨b, off, none⟩ ∧ b < (w1.alloc (.cells #[.int .i64 1, .int .i64 2, .int .i64 3] 3)).heap.size ∧ ∀ j, j < 3 → (w1.alloc (.cells #[.int .i64 1, .int .i64 2, .int .i64 3] 3)).cell? ⟨b, off + j, none⟩ = some (.int .i64 (hids j))) :=
    Lib.hid fun _ => ⟨w1.heap.size, 0, rfl, hB.lt, fun j hj => by
      rw [Nat.zero_add, hB.cell]
      have : j = 0 ∨ j = 1 ∨ j = 2 := by omega
      rcases this with rfl | rfl | rfl <;> rfl⟩
  clear hB
  go_upto_region 6 with (first
    | (go_at_call 13; (with_reducible refine (mkports_calls hids _ 3 3 (by omega) _ hcells.out).mono ?_); rintro e w2 ⟨v1, rfl, hown1, hb2⟩; obtain ⟨a1, c1, rfl, hc1, hp1⟩ := ports_of_own (f := gports hids) hown1; have HQ1 := Lib.hid hp1; clear hp1 hown1 hcells)
    | (go_at_call 14; (with_reducible refine (new_calls id (gports hids) a1 3 c1 H1a.out hc1 3 H1b.out HC.out _ HQ1.out N0 HN0.out).mono ?_); intro e w3 hnew; obtain ⟨tb, rfl, hT2, hb3⟩ := hnew.at_; clear hnew HQ1))
  have hbl2 := hb1.trans ((hA.trans ((hb2.mono hA.size).trans (hb3.mono (Nat.le_trans hA.size hb2.size)))).mono hb1.size)
  have hT := hT2.more (Z' := fun j => j < w.heap.size) fun j hj => .inl (Nat.lt_of_lt_of_le hj (Nat.le_trans hb1.size (Nat.le_trans hA.size hb2.size)))
  have HT := Lib.hid hT
  clear hT2 hA hb1 hb2 hb3 hc1 hT
  go_wp2
  go_loopg [30] n (fun gh s30 wx => ∃ k : Nat, k + gh = n ∧ s30 = .int .i64 (k : Int) ∧ TAt wx tb (runF f k N0) (fun j => j < w.heap.size) ∧ Below w.heap.size w wx)
  case atStart => exact ⟨0, by omega, rfl, HT.out, hbl2⟩
  case round =>
    obtain ⟨k, hkg, rfl, hT, hbl⟩ := hrel
    have HTk := Lib.hid hT
    clear hT
    cases gk with
    | succ gh =>
      as_aux_lemma =>
        have hkM : (k : Int) < (n : Int) := by omega
        have hkn : k < n := by omega
        obtain ⟨b, off, rfl, hlt, hrg⟩ := HACT.out (by omega)
        have hr := range_below (hrg k hkn) hbl
        have OK1 := Lib.hid (OKR.out k (by omega))
        have hm := HF.out k hkn
        have hst : doF (f k) (runF f k N0) = runF f (k + 1) N0 := rfl
        obtain ⟨Y, hY⟩ : ∃ Y, runF f (k + 1) N0 = Y := ⟨_, rfl⟩
        have HY := Lib.hid hY
        rw [hY] at hst
        generalize f k = A at hr hm hst
        generalize runF f k N0 = X at HTk OK1 hst
        have HDO : Hid (∀ w', TAt w' tb X (fun j => j < w.heap.size) → Calls Try.prog 21 #[.pointer (some ⟨tb, 0, none⟩), .agg #[.int .i64 A.kind, .int .i64 A.port, .int .i64 A.m.kind, .int .u64 A.m.v.root, .int .u64 A.m.v.cost, .int .u64 A.m.v.bridge, .int .i64 A.m.v.port, .bool A.m.change, .bool A.m.ack, .bool A.m.proposal, .bool A.m.agreement, .bool A.m.learning, .bool A.m.forwarding, .int .i64 A.m.role, .int .i64 A.m.age, .int .i64 A.m.maxAge, .int .i64 A.m.hello, .int .i64 A.m.delay]] w' (AtPost w' tb Y (fun j => j < w.heap.size))) := Lib.hid fun w' h => do_at h A hm OK1.out Y hst
        have hr' : wr.rangeAt b (off + k * 18) [.int .i64 A.kind, .int .i64 A.port, .int .i64 A.m.kind, .int .u64 A.m.v.root, .int .u64 A.m.v.cost, .int .u64 A.m.v.bridge, .int .i64 A.m.v.port, .bool A.m.change, .bool A.m.ack, .bool A.m.proposal, .bool A.m.agreement, .bool A.m.learning, .bool A.m.forwarding, .int .i64 A.m.role, .int .i64 A.m.age, .int .i64 A.m.maxAge, .int .i64 A.m.hello, .int .i64 A.m.delay] := hr
        clear hr hrg hm hst hY
        go_upto_region 9 with (refine wpList_load_mid rfl 52 _ rfl b (off + k * 18) rfl _ _ hr' Try.underlying52 rfl sz52 ?_)
        have ha := (Below.refl wr.heap.size wr).alloc (Nat.le_refl _) (.cells #[.int .i64 A.kind, .int .i64 A.port, .int .i64 A.m.kind, .int .u64 A.m.v.root, .int .u64 A.m.v.cost, .int .u64 A.m.v.bridge, .int .i64 A.m.v.port, .bool A.m.change, .bool A.m.ack, .bool A.m.proposal, .bool A.m.agreement, .bool A.m.learning, .bool A.m.forwarding, .int .i64 A.m.role, .int .i64 A.m.age, .int .i64 A.m.maxAge, .int .i64 A.m.hello, .int .i64 A.m.delay] 52)
        have hq := Blk.new wr #[.int .i64 A.kind, .int .i64 A.port, .int .i64 A.m.kind, .int .u64 A.m.v.root, .int .u64 A.m.v.cost, .int .u64 A.m.v.bridge, .int .i64 A.m.v.port, .bool A.m.change, .bool A.m.ack, .bool A.m.proposal, .bool A.m.agreement, .bool A.m.learning, .bool A.m.forwarding, .int .i64 A.m.role, .int .i64 A.m.age, .int .i64 A.m.maxAge, .int .i64 A.m.hello, .int .i64 A.m.delay] 52
        change Code.wp _ _ _ _ (wr.alloc (.cells #[.int .i64 A.kind, .int .i64 A.port, .int .i64 A.m.kind, .int .u64 A.m.v.root, .int .u64 A.m.v.cost, .int .u64 A.m.v.bridge, .int .i64 A.m.v.port, .bool A.m.change, .bool A.m.ack, .bool A.m.proposal, .bool A.m.agreement, .bool A.m.learning, .bool A.m.forwarding, .int .i64 A.m.role, .int .i64 A.m.age, .int .i64 A.m.maxAge, .int .i64 A.m.hello, .int .i64 A.m.delay] 52))
        generalize wr.alloc (.cells #[.int .i64 A.kind, .int .i64 A.port, .int .i64 A.m.kind, .int .u64 A.m.v.root, .int .u64 A.m.v.cost, .int .u64 A.m.v.bridge, .int .i64 A.m.v.port, .bool A.m.change, .bool A.m.ack, .bool A.m.proposal, .bool A.m.agreement, .bool A.m.learning, .bool A.m.forwarding, .int .i64 A.m.role, .int .i64 A.m.age, .int .i64 A.m.maxAge, .int .i64 A.m.hello, .int .i64 A.m.delay] 52) = W at ha hq ⊢
        have HTW := Lib.hid (HTk.out.below ha)
        have hbW := hbl.trans (ha.mono hbl.size)
        clear ha hr'
        generalize wr.heap.size = b9 at hq ⊢
        have q9 := hq.range
        clear hq
        go_wp2_with (first
          | (refine wpList_load_mid rfl 52 _ rfl b9 0 rfl _ _ q9 Try.underlying52 rfl sz52 ?_)
          | (go_at_call 21; (with_reducible refine (HDO.out _ HTW.out).mono ?_); rintro e w8 ⟨rfl, hT8, hf8⟩))
        go_roundg gh
        case measure => omega
        case rel => exact ⟨k + 1, by omega, by go_num, by rw [HY.out]; exact hT8, hbW.trans (hf8.toBelow (fun _ h => h) hbW.size)⟩
    | zero =>
      have hkM : ¬ ((k : Int) < (n : Int)) := by omega
      obtain rfl : k = n := by omega
      generalize runF f k N0 = E at HTk OKE HE1
      go_upto_region 12 with (go_at_call 15; (with_reducible refine (link_at HTk.out (p : Int) false OKE.out E1 HE1.out).mono ?_); rintro e w4 ⟨rfl, hT4, hf4⟩)
      have HT4 := Lib.hid hT4
      have hbl4 := hbl.trans (hf4.toBelow (fun _ h => h) hbl.size)
      clear hT4 hf4 hbl HTk
      go_upto_region 13 with (first
        | (go_at_call 28; (with_reducible refine (ports_at HT4.out N116.out).mono ?_); rintro e w5 ⟨v5, rfl, hown5, hb5⟩; rw [N1.out] at hown5; obtain ⟨g5, c5, rfl, hg5, hlt5, hP5⟩ := port_rows hown5 N1.out (by omega); have hr5' := hP5.range (i := p) hp3; rw [Nat.zero_add, HP1.out] at hr5'; have hr5 : w5.rangeAt g5 (p * 16) [.int .i64 P1.p.id, .int .u64 P1.p.cost, .bool P1.p.up, .bool P1.p.has, .int .u64 P1.p.told.root, .int .u64 P1.p.told.cost, .int .u64 P1.p.told.bridge, .int .i64 P1.p.told.port, .bool P1.edge, .int .i64 P1.role, .int .i64 P1.state, .int .i64 P1.age, .int .i64 P1.left, .int .i64 P1.wait, .int .i64 P1.change, .bool P1.agreed] := hr5'; clear hr5' hP5 hown5)
        | (refine wpList_load_mid rfl 31 _ rfl g5 (p * 16) rfl _ _ hr5 Try.underlying31 rfl sz31 ?_))
      have h7 := hb5.alloc hb5.size (.cells #[.int .i64 P1.p.id, .int .u64 P1.p.cost, .bool P1.p.up, .bool P1.p.has, .int .u64 P1.p.told.root, .int .u64 P1.p.told.cost, .int .u64 P1.p.told.bridge, .int .i64 P1.p.told.port, .bool P1.edge, .int .i64 P1.role, .int .i64 P1.state, .int .i64 P1.age, .int .i64 P1.left, .int .i64 P1.wait, .int .i64 P1.change, .bool P1.agreed] 31)
      have hB7 := Blk.new w5 #[.int .i64 P1.p.id, .int .u64 P1.p.cost, .bool P1.p.up, .bool P1.p.has, .int .u64 P1.p.told.root, .int .u64 P1.p.told.cost, .int .u64 P1.p.told.bridge, .int .i64 P1.p.told.port, .bool P1.edge, .int .i64 P1.role, .int .i64 P1.state, .int .i64 P1.age, .int .i64 P1.left, .int .i64 P1.wait, .int .i64 P1.change, .bool P1.agreed] 31
      change Code.wp _ _ _ _ (w5.alloc (.cells #[.int .i64 P1.p.id, .int .u64 P1.p.cost, .bool P1.p.up, .bool P1.p.has, .int .u64 P1.p.told.root, .int .u64 P1.p.told.cost, .int .u64 P1.p.told.bridge, .int .i64 P1.p.told.port, .bool P1.edge, .int .i64 P1.role, .int .i64 P1.state, .int .i64 P1.age, .int .i64 P1.left, .int .i64 P1.wait, .int .i64 P1.change, .bool P1.agreed] 31))
      generalize w5.alloc (.cells #[.int .i64 P1.p.id, .int .u64 P1.p.cost, .bool P1.p.up, .bool P1.p.has, .int .u64 P1.p.told.root, .int .u64 P1.p.told.cost, .int .u64 P1.p.told.bridge, .int .i64 P1.p.told.port, .bool P1.edge, .int .i64 P1.role, .int .i64 P1.state, .int .i64 P1.age, .int .i64 P1.left, .int .i64 P1.wait, .int .i64 P1.change, .bool P1.agreed] 31) = w7 at h7 hB7 ⊢
      generalize hb9 : w5.heap.size = b9 at hB7
      have hb9' : w4.heap.size ≤ b9 := by have := hb5.size; omega
      have HG9 : Hid (w.heap.size ≤ b9) := Lib.hid (Nat.le_trans hbl4.size hb9')
      have HT7 := Lib.hid (HT4.out.keep h7 hb9' hB7.lt)
      have hbl7 := hbl4.trans (h7.mono hbl4.size)
      have c2 : w7.cell? ⟨b9, 2, none⟩ = some (.bool false) := by rw [hB7.cell, ← D1.out.1]; rfl
      have c3 : w7.cell? ⟨b9, 3, none⟩ = some (.bool false) := by rw [hB7.cell, ← D1.out.2.1]; rfl
      have c10 : w7.cell? ⟨b9, 10, none⟩ = some (.int .i64 0) := by rw [hB7.cell, ← D1.out.2.2.1]; rfl
      have c9 : w7.cell? ⟨b9, 9, none⟩ = some (.int .i64 0) := by rw [hB7.cell, ← D1.out.2.2.2]; rfl
      clear hb5 hr5 hg5 hlt5 HT4 hbl4 h7 hb9 hb9'
      go_upto_region 15 with fail
      clear c2 c3 c10 c9
      go_upto_region 16 with (go_at_call 15; (with_reducible refine (link_at HT7.out (p : Int) true OKE1.out E2 HE2.out).mono ?_); rintro e w8 ⟨rfl, hT8, hf8⟩)
      have HT8 := Lib.hid hT8
      have hB8 := hf8.blk hB7 (.inr rfl)
      have hbl8 := hbl7.trans (hf8.toBelow (fun _ h => .inl h) hbl7.size)
      clear hT8 hf8 hbl7 HT7 hB7
      go_upto_region 17 with (first
        | (go_at_call 28; (with_reducible refine (ports_at HT8.out N216.out).mono ?_); rintro e w9 ⟨v9, rfl, hown9, hb9⟩; rw [N2.out] at hown9; obtain ⟨g9, c9, rfl, hg9, hlt9, hP9⟩ := port_rows hown9 N2.out (by omega); have hr9' := hP9.range (i := p) hp3; rw [Nat.zero_add, HP2.out] at hr9'; have hr9 : w9.rangeAt g9 (p * 16) [.int .i64 P2.p.id, .int .u64 P2.p.cost, .bool P2.p.up, .bool P2.p.has, .int .u64 P2.p.told.root, .int .u64 P2.p.told.cost, .int .u64 P2.p.told.bridge, .int .i64 P2.p.told.port, .bool P2.edge, .int .i64 P2.role, .int .i64 P2.state, .int .i64 P2.age, .int .i64 P2.left, .int .i64 P2.wait, .int .i64 P2.change, .bool P2.agreed] := hr9'; clear hr9' hP9 hown9; have hB9 := hB8.below hb9 hB8.lt; have hth := hB9.there)
        | (refine wpList_load_mid rfl 31 _ rfl g9 (p * 16) rfl _ _ hr9 Try.underlying31 rfl sz31 ?_)
        | (refine wpList_store_mid rfl 31 _ _ rfl b9 0 _ rfl rfl hth inf31 (by simp [Value.oneCell']) ?_))
      have hB10 := hB9.over [.int .i64 P2.p.id, .int .u64 P2.p.cost, .bool P2.p.up, .bool P2.p.has, .int .u64 P2.p.told.root, .int .u64 P2.p.told.cost, .int .u64 P2.p.told.bridge, .int .i64 P2.p.told.port, .bool P2.edge, .int .i64 P2.role, .int .i64 P2.state, .int .i64 P2.age, .int .i64 P2.left, .int .i64 P2.wait, .int .i64 P2.change, .bool P2.agreed] rfl
      have hbl9 := hbl8.trans (hb9.mono hbl8.size)
      have hblE : Below w.heap.size w (w9.setCells b9 0 [.int .i64 P2.p.id, .int .u64 P2.p.cost, .bool P2.p.up, .bool P2.p.has, .int .u64 P2.p.told.root, .int .u64 P2.p.told.cost, .int .u64 P2.p.told.bridge, .int .i64 P2.p.told.port, .bool P2.edge, .int .i64 P2.role, .int .i64 P2.state, .int .i64 P2.age, .int .i64 P2.left, .int .i64 P2.wait, .int .i64 P2.change, .bool P2.agreed]) := Below.fr hbl9 (setCells_frb b9 [.int .i64 P2.p.id, .int .u64 P2.p.cost, .bool P2.p.up, .bool P2.p.has, .int .u64 P2.p.told.root, .int .u64 P2.p.told.cost, .int .u64 P2.p.told.bridge, .int .i64 P2.p.told.port, .bool P2.edge, .int .i64 P2.role, .int .i64 P2.state, .int .i64 P2.age, .int .i64 P2.left, .int .i64 P2.wait, .int .i64 P2.change, .bool P2.agreed] 0 w9) hbl9.size (fun i _ e => by subst e; exact HG9.out)
      change Code.wp _ _ _ _ (w9.setCells b9 0 [.int .i64 P2.p.id, .int .u64 P2.p.cost, .bool P2.p.up, .bool P2.p.has, .int .u64 P2.p.told.root, .int .u64 P2.p.told.cost, .int .u64 P2.p.told.bridge, .int .i64 P2.p.told.port, .bool P2.edge, .int .i64 P2.role, .int .i64 P2.state, .int .i64 P2.age, .int .i64 P2.left, .int .i64 P2.wait, .int .i64 P2.change, .bool P2.agreed])
      generalize w9.setCells b9 0 [.int .i64 P2.p.id, .int .u64 P2.p.cost, .bool P2.p.up, .bool P2.p.has, .int .u64 P2.p.told.root, .int .u64 P2.p.told.cost, .int .u64 P2.p.told.bridge, .int .i64 P2.p.told.port, .bool P2.edge, .int .i64 P2.role, .int .i64 P2.state, .int .i64 P2.age, .int .i64 P2.left, .int .i64 P2.wait, .int .i64 P2.change, .bool P2.agreed] = w10 at hB10 hblE ⊢
      have c2 : w10.cell? ⟨b9, 2, none⟩ = some (.bool true) := by rw [hB10.cell, ← D2.out.1]; rfl
      have c3 : w10.cell? ⟨b9, 3, none⟩ = some (.bool false) := by rw [hB10.cell, ← D2.out.2.1]; rfl
      have r4 : w10.rangeAt b9 4 [.int .u64 0, .int .u64 0, .int .u64 0, .int .i64 0] := fun j v hj => by
        have hl : j < 4 := (List.getElem?_eq_some_iff.1 hj).1
        rw [hB10.cell]
        have : j = 0 ∨ j = 1 ∨ j = 2 ∨ j = 3 := by omega
        rcases this with rfl | rfl | rfl | rfl
        · rw [← hj]; show some (Value.int .u64 P2.p.told.root) = _; rw [D2.out.2.2.1]; rfl
        · rw [← hj]; show some (Value.int .u64 P2.p.told.cost) = _; rw [D2.out.2.2.1]; rfl
        · rw [← hj]; show some (Value.int .u64 P2.p.told.bridge) = _; rw [D2.out.2.2.1]; rfl
        · rw [← hj]; show some (Value.int .i64 P2.p.told.port) = _; rw [D2.out.2.2.1]; rfl
      have c9' : w10.cell? ⟨b9, 9, none⟩ = some (.int .i64 2) := by rw [hB10.cell, ← D2.out.2.2.2.1]; rfl
      have c10 : w10.cell? ⟨b9, 10, none⟩ = some (.int .i64 P2.state) := by rw [hB10.cell]; rfl
      have c8 : w10.cell? ⟨b9, 8, none⟩ = some (.bool P2.edge) := by rw [hB10.cell]; rfl
      have hs := D2.out.2.2.2.2
      clear hB10 hB9 hbl9 hb9 hth hr9 hlt9 hg9 hB8 hbl8
      cases he : P2.edge with
      | true =>
        rw [he, if_pos rfl] at hs
        rw [he] at c8
        rw [hs] at c10
        clear he hs
        go_wp2_with (refine wpList_load_midw rfl 27 _ rfl b9 4 rfl _ _ r4 Try.underlying27 rfl sz27 ?_)
        go_ret
        exact ⟨rfl, hblE⟩
      | false =>
        rw [he, if_neg (by simp)] at hs
        rw [he] at c8
        rw [hs] at c10
        clear he hs
        go_wp2_with (refine wpList_load_midw rfl 27 _ rfl b9 4 rfl _ _ r4 Try.underlying27 rfl sz27 ?_)
        go_ret
        exact ⟨rfl, hblE⟩
end Go.Proofs.Ytjnbjcieepooaac
