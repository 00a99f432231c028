/- State, Outs, Root, Ports and selected of package tree, by their contracts. -/
import Derived.Test.YtjnbjcieepooaacTW1
import Derived.Deep.RegionHeld3
import Derived.Deep.DeepCutAuto
namespace Go.Proofs.Ytjnbjcieepooaac
open Go.RowKit
set_option linter.unusedVariables false
set_option linter.unusedSimpArgs false

theorem state_calls (T : Tr) (B : TB) (x y : Int) (w : World) (hT : TreeW w B T) (hy : stateF T x = y) :
    Calls Try.prog 17 #[.pointer (some ⟨B.tb, 0, none⟩), .int .i64 x] w fun e w' => e = .returned (.int .i64 y) ∧ w = w' := by
  have HY := Lib.hid hy
  have qt := hT.own
  clear hy
  by_cases h0 : x < 0
  · have HZ : Hid (stateF T x = 0) := Lib.hid (if_neg (by omega))
    clear hT
    go_enter Try.func17, Try.ntmps17
    go_wp2
    go_ret
    exact ⟨ret_int' (by rw [← HY.out, HZ.out]), rfl⟩
  by_cases h1 : (T.n : Int) ≤ x
  · have HZ : Hid (stateF T x = 0) := Lib.hid (if_neg (by omega))
    clear hT
    go_enter Try.func17, Try.ntmps17
    go_wp2
    go_ret
    exact ⟨ret_int' (by rw [← HY.out, HZ.out]), rfl⟩
  obtain ⟨i, rfl⟩ : ∃ i : Nat, x = (i : Int) := ⟨x.toNat, by omega⟩
  have HZ : Hid (stateF T (i : Int) = (T.at_ i).state) := Lib.hid ((if_pos (by omega)).trans (by rw [Int.toNat_natCast]))
  have hi : i < T.n := by omega
  have hin : (i : Int) < (T.n : Int) := by omega
  clear qt
  have qt := hT.ownp (by omega)
  have r10 : w.cell? ⟨B.pb, i * 16 + 10, none⟩ = some (.int .i64 (T.at_ i).state) := hT.row hi 10 (by decide)
  clear hT
  go_enter Try.func17, Try.ntmps17
  go_wp2
  go_ret
  exact ⟨ret_int' (by rw [← HY.out, HZ.out]), rfl⟩

/-- A field of the tree's own struct that is no slice of its. -/
theorem TreeW.set_own {w : World} {B B' : TB} {T U : Tr} (h : TreeW w B T) (o : Nat) (v : Value) (hc : treeC B' U = (treeC B T).setIfInBounds o v) (hn : U.n = T.n) (h1 : B'.tb = B.tb) (h2 : B'.pb = B.pb) (h3 : B'.pa = B.pa) (h4 : B'.br = B.br) (h5 : B'.bt = B.bt) (h6 : B'.fb = B.fb)
    (hps : U.ps = T.ps) (hr : U.roles = T.roles) (hl : U.tells = T.tells) (hf : U.flush = T.flush) (ho : (w.setCell ⟨B.tb, o, none⟩ v).ownsRow 0 43 17 B'.ov U.outs.length (outsL U.outs)) : TreeW (w.setCell ⟨B.tb, o, none⟩ v) B' U := by
  have hfr : Fr (fun k => k = B.tb) w (w.setCell ⟨B.tb, o, none⟩ v) := (Fr.refl (fun k => k = B.tb) w).set (p := ⟨B.tb, o, none⟩) (.inl rfl) v
  have hat : ∀ i, U.at_ i = T.at_ i := fun i => by unfold Tr.at_; rw [hps]
  refine ⟨by rw [h1, hc]; exact h.t.set o v, fun hn' => ?_, ?_, ?_, ?_, ho⟩
  · rw [hn] at hn' ⊢
    obtain ⟨a, b⟩ := h.p hn'
    rw [h2, h3]
    exact ⟨a, (b.fr hfr (fun e => h.tb_ne.1 hn' e.symm)).congr fun i _ => by rw [hat]⟩
  · rw [h4, hn]; exact (h.r.fr hfr (fun e => h.tb_ne.2.1 e.symm)).congr fun i _ => by unfold Tr.role_; rw [hr]
  · rw [h5, hn]; exact (h.l.fr hfr (fun e => h.tb_ne.2.2.1 e.symm)).congr fun i _ => by unfold Tr.tell_; rw [hl]
  · rw [h6, hn]; exact (h.f.fr hfr (fun e => h.tb_ne.2.2.2.1 e.symm)).congr fun i _ => by rw [hf]
def OutsPost (w : World) (B : TB) (T : Tr) (e : Ending) (w' : World) : Prop :=
  e = .returned B.ov ∧ TreeW w' { B with ov := .slice none 0 0 } (outsF T) ∧ w'.ownsRow 0 43 17 B.ov T.outs.length (outsL T.outs) ∧ TStep w B T.n w' { B with ov := .slice none 0 0 }
theorem outs_calls (T : Tr) (B : TB) (w : World) (hT : TreeW w B T) : Calls Try.prog 18 #[.pointer (some ⟨B.tb, 0, none⟩)] w (OutsPost w B T) := by
  have qt := hT.own
  have ft := hT.t.free
  have hfr : Fr (fun k => k = B.tb) w (w.setCell ⟨B.tb, 10, none⟩ (.slice none 0 0)) := (Fr.refl (fun k => k = B.tb) w).set (p := ⟨B.tb, 10, none⟩) (.inl rfl) _
  have h1 : TreeW (w.setCell ⟨B.tb, 10, none⟩ (.slice none 0 0)) { B with ov := .slice none 0 0 } (outsF T) :=
    hT.set_own 10 _ rfl rfl rfl rfl rfl rfl rfl rfl rfl rfl rfl rfl (World.ownsRow_nil _ _ _ _)
  have h2 := own_fr hT.o hfr fun k hk e => by subst e; exact hT.tb_ne.2.2.2.2 hk
  have h3 : TStep w B T.n (w.setCell ⟨B.tb, 10, none⟩ (.slice none 0 0)) { B with ov := .slice none 0 0 } :=
    ⟨hfr.mono fun k _ e => .inl e, rfl, fun k hk => by
      rcases hk with h | h | h | h | h | h
      · exact .inl (.inl h)
      · exact .inl (.inr (.inl h))
      · exact .inl (.inr (.inr (.inl h)))
      · exact .inl (.inr (.inr (.inr (.inl h))))
      · exact .inl (.inr (.inr (.inr (.inr (.inl h)))))
      · simp [InRow, Value.ownBlock] at h⟩
  have H : Hid (OutsPost w B T (.returned B.ov) (w.setCell ⟨B.tb, 10, none⟩ (.slice none 0 0))) := ⟨rfl, h1, h2, h3⟩
  clear hT hfr h1 h2 h3
  go_enter Try.func18, Try.ntmps18
  go_wp2
  go_ret
  exact H.out

theorem root_calls (T : Tr) (B : TB) (w : World) (hT : TreeW w B T) :
    Calls Try.prog 27 #[.pointer (some ⟨B.tb, 0, none⟩)] w fun e w' => e = .returned (.tuple #[T.vec.val, .int .i64 T.rp]) ∧ Below w.heap.size w w' := by
  have qt := hT.own
  have lt := hT.t.lt
  clear hT
  go_enter Try.func27, Try.ntmps27
  go_wp2
  go_region
  all_goals
    go_wp2
    exact bodyPost_ret (v := .tuple #[T.vec.val, .int .i64 T.rp]) (by simp [results, Try.results27, go_sem]) rfl ⟨rfl, ((Below.refl _ _).alloc (Nat.le_refl _) _).drew⟩

def portsTL (T : Tr) : List Value := (List.range T.n).flatMap fun i => (T.at_ i).cells.toList
theorem info31 : (Try.prog.info? 31).map (fun i => (i.zero, i.size, i.bytes)) = some (some (.agg #[.int .i64 0, .int .u64 0, .bool false, .bool false, .int .u64 0, .int .u64 0, .int .u64 0, .int .i64 0, .bool false, .int .i64 0, .int .i64 0, .int .i64 0, .int .i64 0, .int .i64 0, .int .i64 0, .bool false]), 16, 120) := by kernel_rfl
theorem portsTL_len (T : Tr) : (portsTL T).length = T.n * 16 := flat_len _ 16 (fun i => rfl) T.n
theorem portsTL_one (T : Tr) : ∀ u ∈ portsTL T, u.oneCell' = true := fun u hu => by
  obtain ⟨i, _, hi⟩ := List.mem_flatMap.1 hu
  simp only [TP.cells, List.mem_cons, List.not_mem_nil, or_false] at hi
  rcases hi with rfl | rfl | rfl | rfl | rfl | rfl | rfl | rfl | rfl | rfl | rfl | rfl | rfl | rfl | rfl | rfl <;> rfl
theorem TreeW.news {w : World} {B : TB} {T : Tr} (h : TreeW w B T) : NewsAt w B.pa T.n (portsTL T) := fun hn => by
  obtain ⟨ha, hp⟩ := h.p hn
  refine ⟨B.pb, 0, ha, fun j u hj => ?_⟩
  have hl := portsTL_len T
  have hlt : j < T.n * 16 := by have := (List.getElem?_eq_some_iff.1 hj).1; omega
  have hd : j / 16 * 16 + j % 16 = j := by omega
  have e := flat_get (fun i => (T.at_ i).cells.toList) 16 (fun i => rfl) T.n (j / 16) (j % 16) (by omega) (Nat.mod_lt _ (by omega))
  have c := hp.cell (j / 16) (j % 16) (by omega) (Nat.mod_lt _ (by omega))
  rw [hd] at e c
  have e2 : (portsTL T)[j]? = (T.at_ (j / 16)).cells.toList[j % 16]? := e
  rw [Nat.zero_add, c, ← hj, e2]
  simp
def PortsPost (w : World) (T : Tr) (e : Ending) (w' : World) : Prop := ∃ v, e = .returned v ∧ w'.ownsRow w.heap.size 31 16 v T.n (portsTL T) ∧ Below w.heap.size w w'
theorem ports_calls (T : Tr) (B : TB) (hn : T.n ≤ 16) (w : World) (hT : TreeW w B T) : Calls Try.prog 28 #[.pointer (some ⟨B.tb, 0, none⟩)] w (PortsPost w T) := by
  have qt := hT.own
  have hnews := hT.news
  have HN := Lib.hid hnews
  clear hT hnews
  go_enter Try.func28, Try.ntmps28
  go_wp2_with (refine wpList_append_any rfl _ _ 23 rfl w.heap.size 31 _ 16 120 Try.underlying23 info31 rfl (by decide) (.slice none 0 0) 0 [] rfl (World.ownsRow_nil _ _ _ _) B.pa T.n B.pc (portsTL T) rfl (portsTL_len T) HN.out (portsTL_one T) (by unfold maxLen; omega) (by omega) (Nat.le_refl _) ?_; intro v w1 hown hfr)
  go_ret
  rw [Nat.zero_add, List.nil_append] at hown
  exact ⟨_, rfl, hown, Below.fr (Below.refl _ _) hfr (Nat.le_refl _) fun i _ hi => by simp [InRow, Value.ownBlock] at hi⟩

/-- The ports as role.Select takes them. -/
def qsL (T : Tr) (k : Nat) : List Value := (List.range k).flatMap fun j => (T.qs j).cells.toList
theorem qsL_succ (T : Tr) (k : Nat) : qsL T (k + 1) = qsL T k ++ [.int .i64 (T.at_ k).p.id, .int .u64 (T.at_ k).p.cost, .bool (T.at_ k).p.up, .bool (T.at_ k).p.has, .int .u64 (T.at_ k).p.told.root, .int .u64 (T.at_ k).p.told.cost, .int .u64 (T.at_ k).p.told.bridge, .int .i64 (T.at_ k).p.told.port] := by
  unfold qsL; rw [List.range_succ, List.flatMap_append]; simp [Tr.qs]
theorem info29 : (Try.prog.info? 29).map (fun i => (i.zero, i.size, i.bytes)) = some (some (.agg #[.int .i64 0, .int .u64 0, .bool false, .bool false, .int .u64 0, .int .u64 0, .int .u64 0, .int .i64 0]), 8, 56) := by kernel_rfl
theorem sz31 : (Try.prog.info? 31).map (·.size) = some 16 := by kernel_rfl
/-- A port's row, read whole. -/
theorem TreeW.range {w : World} {B : TB} {T : Tr} (h : TreeW w B T) {i : Nat} (hi : i < T.n) : w.rangeAt B.pb (i * 16) [.int .i64 (T.at_ i).p.id, .int .u64 (T.at_ i).p.cost, .bool (T.at_ i).p.up, .bool (T.at_ i).p.has, .int .u64 (T.at_ i).p.told.root, .int .u64 (T.at_ i).p.told.cost, .int .u64 (T.at_ i).p.told.bridge, .int .i64 (T.at_ i).p.told.port,
    .bool (T.at_ i).edge, .int .i64 (T.at_ i).role, .int .i64 (T.at_ i).state, .int .i64 (T.at_ i).age, .int .i64 (T.at_ i).left, .int .i64 (T.at_ i).wait, .int .i64 (T.at_ i).change, .bool (T.at_ i).agreed] := fun j v hj => by
  have hl := (List.getElem?_eq_some_iff.1 hj).1
  rw [h.row hi j hl, ← hj]
  unfold TP.cells
  simp

theorem PortsAt.of_rows {w : World} {b : Nat} {t : TypeId} {n : Nat} {ps : Nat → RPort} (h : RowsB w b t 8 n (fun i => (ps i).cells)) : PortsAt w b 0 n ps := by
  have hx : ∀ i o, i < n → o < 8 → w.cell? ⟨b, 0 + i * 8 + o, none⟩ = (ps i).cells[o]? := fun i o hi ho => by rw [Nat.zero_add]; exact h.cell i o hi ho
  exact ⟨h.lt, fun i hi => hx i 0 hi (by omega), fun i hi => hx i 1 hi (by omega), fun i hi => hx i 2 hi (by omega), fun i hi => hx i 3 hi (by omega), fun i hi => hx i 4 hi (by omega), fun i hi => hx i 5 hi (by omega), fun i hi => hx i 6 hi (by omega), fun i hi => hx i 7 hi (by omega)⟩
theorem own_ports {w : World} {base n : Nat} {v : Value} {T : Tr} (h : w.ownsRow base 29 8 v n (qsL T n)) : ∃ a cap, v = .slice a n cap ∧ (0 < n → ∃ b off, a = some ⟨b, off, none⟩ ∧ PortsAt w b off n T.qs) := by
  obtain ⟨a, cap, rfl⟩ := own_slice h
  refine ⟨a, cap, rfl, fun hn => ?_⟩
  obtain ⟨g, cap', hv, _⟩ := own_at h hn
  simp only [Value.slice.injEq] at hv
  obtain ⟨rfl, _, rfl⟩ := hv
  exact ⟨g, 0, rfl, PortsAt.of_rows (RowsB.of_own (fun i => rfl) h)⟩
set_option maxRecDepth 8000 in
set_option maxHeartbeats 4000000 in
theorem selected_calls (T : Tr) (B : TB) (hn : T.n ≤ 16) (hok : ∀ i, i < T.n → (T.qs i).ok) (w : World) (hT : TreeW w B T) (S : Way) (hS : selW T = S) :
    Calls Try.prog 32 #[.pointer (some ⟨B.tb, 0, none⟩)] w (SelPost w T.n T.id T.qs S) := by
  have HS : Hid (wayN T.id T.qs T.n = S) := hS
  have HT := Lib.hid hT
  obtain ⟨P, hPn, HPA, qt⟩ := hT.ownP
  have lt := hT.t.lt
  clear hS hT
  go_enter Try.func32, Try.ntmps32
  go_upto_region 2 with fail
  have hb0 := (Below.refl w.heap.size w).alloc (Nat.le_refl _) (.cells roles0 72)
  have hz0 := Blk.new w roles0 72
  have qt0 := (HT.out.below hb0).own
  rw [HPA.out] at qt0
  change Code.wp _ _ _ _ (w.alloc (.cells roles0 72))
  generalize w.alloc (.cells roles0 72) = w0 at hb0 hz0 qt0 ⊢
  clear qt
  go_wp2
  clear qt0
  go_loopg [3, 11] T.n (fun gh s3 s11 wx => ∃ k : Nat, k + gh = T.n ∧ s11 = .int .i64 (k : Int) ∧ wx.ownsRow (w.heap.size + 1) 29 8 s3 k (qsL T k) ∧ Below w.heap.size w wx ∧ Blk wx w.heap.size roles0 72)
  case atStart => exact ⟨0, by omega, rfl, World.ownsRow_nil _ _ _ _, hb0, hz0⟩
  case round =>
    obtain ⟨k, hkg, rfl, hown, hbel, hz⟩ := hrel
    have hTx := HT.out.below hbel
    cases gk with
    | zero =>
      have hkM : ¬ ((k : Int) < (T.n : Int)) := by omega
      obtain rfl : k = T.n := by omega
      obtain ⟨a, cap, hv, hp⟩ := own_ports hown
      have HP := Lib.hid hp
      have qt := hTx.own
      rw [HPA.out] at qt
      have hlz := hz.lt
      clear hTx hp
      subst hv
      have HN : Hid (T.n ≤ 1000000) := by show T.n ≤ 1000000; omega
      go_wp2_with (go_at_call 50; (with_reducible refine (select_calls T.id T.qs a T.n cap HN.out hok _ HP.out S HS.out).mono ?_); rintro e w' ⟨br, bt, cr, ct, rfl, ho, g1, g2, hb2⟩; have hz2 := hz.below hb2 hlz; have qz : ∀ o, w'.cell? ⟨w.heap.size, o, none⟩ = #[Value.int .u64 0, .int .u64 0, .int .u64 0, .int .i64 0, .int .i64 0, .slice none 0 0, .slice none 0 0][o]? := hz2.cell; have fz := hz2.free)
      have hz7 := ((((((hz2.set 0 (.int .u64 S.v.root)).set 1 (.int .u64 S.v.cost)).set 2 (.int .u64 S.v.bridge)).set 3 (.int .i64 S.v.port)).set 4 (.int .i64 S.p)).set 5 (.slice (some ⟨br, 0, none⟩) T.n T.n)).set 6 (.slice (some ⟨bt, 0, none⟩) T.n T.n)
      have hf7 := (((((((Fr.refl (fun k => k = w.heap.size) w').set (p := ⟨w.heap.size, 0, none⟩) (.inl rfl) (.int .u64 S.v.root)).set (p := ⟨w.heap.size, 1, none⟩) (.inl rfl) (.int .u64 S.v.cost)).set (p := ⟨w.heap.size, 2, none⟩) (.inl rfl) (.int .u64 S.v.bridge)).set (p := ⟨w.heap.size, 3, none⟩) (.inl rfl) (.int .i64 S.v.port)).set (p := ⟨w.heap.size, 4, none⟩) (.inl rfl) (.int .i64 S.p)).set (p := ⟨w.heap.size, 5, none⟩) (.inl rfl) (.slice (some ⟨br, 0, none⟩) T.n T.n)).set (p := ⟨w.heap.size, 6, none⟩) (.inl rfl) (.slice (some ⟨bt, 0, none⟩) T.n T.n)
      clear qz fz
      revert hz7 hf7
      generalize World.setCell (World.setCell _ _ _) _ _ = W7
      intro hz7 hf7
      have q7 : ∀ o, W7.cell? ⟨w.heap.size, o, none⟩ = #[Value.int .u64 S.v.root, .int .u64 S.v.cost, .int .u64 S.v.bridge, .int .i64 S.v.port, .int .i64 S.p, .slice (some ⟨br, 0, none⟩) T.n T.n, .slice (some ⟨bt, 0, none⟩) T.n T.n][o]? := hz7.cell
      have hbl := hbel.trans (hb2.mono hbel.size)
      have hpost : SelPost w T.n T.id T.qs S (.returned (.agg #[.int .u64 S.v.root, .int .u64 S.v.cost, .int .u64 S.v.bridge, .int .i64 S.v.port, .int .i64 S.p, .slice (some ⟨br, 0, none⟩) T.n T.n, .slice (some ⟨bt, 0, none⟩) T.n T.n])) W7 :=
        ⟨br, bt, cr, ct, rfl, ho.fr hf7 (by omega) (by omega), by have := hbel.size; omega, by have := hbel.size; omega, Below.fr hbl hf7 hbl.size fun i _ hi => by omega⟩
      exact bodyPost_ret (v := .agg #[.int .u64 S.v.root, .int .u64 S.v.cost, .int .u64 S.v.bridge, .int .i64 S.v.port, .int .i64 S.p, .slice (some ⟨br, 0, none⟩) T.n T.n, .slice (some ⟨bt, 0, none⟩) T.n T.n]) (by simp [results, Try.results32, go_sem, q7]) rfl hpost
    | succ gh =>
      have hkM : (k : Int) < (T.n : Int) := by omega
      have hkn : k < T.n := by omega
      have qt := hTx.ownp (by omega)
      have hr := hTx.range hkn
      obtain rfl := hPn (by omega)
      go_upto_region 5 with (refine wpList_load_mid rfl 31 _ rfl B.pb (k * 16) rfl _ _ hr Try.underlying31 rfl sz31 ?_)
      have ha := (Below.refl wr.heap.size wr).alloc (Nat.le_refl _) (.cells #[.int .i64 (T.at_ k).p.id, .int .u64 (T.at_ k).p.cost, .bool (T.at_ k).p.up, .bool (T.at_ k).p.has, .int .u64 (T.at_ k).p.told.root, .int .u64 (T.at_ k).p.told.cost, .int .u64 (T.at_ k).p.told.bridge, .int .i64 (T.at_ k).p.told.port, .bool (T.at_ k).edge, .int .i64 (T.at_ k).role, .int .i64 (T.at_ k).state, .int .i64 (T.at_ k).age, .int .i64 (T.at_ k).left, .int .i64 (T.at_ k).wait, .int .i64 (T.at_ k).change, .bool (T.at_ k).agreed] 31)
      have h1 := own_below hown ha
      have hz1 := hz.below ha hz.lt
      have b1 := hbel.trans (ha.mono hbel.size)
      have q7 := (Blk.new wr #[.int .i64 (T.at_ k).p.id, .int .u64 (T.at_ k).p.cost, .bool (T.at_ k).p.up, .bool (T.at_ k).p.has, .int .u64 (T.at_ k).p.told.root, .int .u64 (T.at_ k).p.told.cost, .int .u64 (T.at_ k).p.told.bridge, .int .i64 (T.at_ k).p.told.port, .bool (T.at_ k).edge, .int .i64 (T.at_ k).role, .int .i64 (T.at_ k).state, .int .i64 (T.at_ k).age, .int .i64 (T.at_ k).left, .int .i64 (T.at_ k).wait, .int .i64 (T.at_ k).change, .bool (T.at_ k).agreed] 31).cell
      change Code.wp _ _ _ _ (wr.alloc (.cells #[.int .i64 (T.at_ k).p.id, .int .u64 (T.at_ k).p.cost, .bool (T.at_ k).p.up, .bool (T.at_ k).p.has, .int .u64 (T.at_ k).p.told.root, .int .u64 (T.at_ k).p.told.cost, .int .u64 (T.at_ k).p.told.bridge, .int .i64 (T.at_ k).p.told.port, .bool (T.at_ k).edge, .int .i64 (T.at_ k).role, .int .i64 (T.at_ k).state, .int .i64 (T.at_ k).age, .int .i64 (T.at_ k).left, .int .i64 (T.at_ k).wait, .int .i64 (T.at_ k).change, .bool (T.at_ k).agreed] 31))
      generalize wr.alloc (.cells #[.int .i64 (T.at_ k).p.id, .int .u64 (T.at_ k).p.cost, .bool (T.at_ k).p.up, .bool (T.at_ k).p.has, .int .u64 (T.at_ k).p.told.root, .int .u64 (T.at_ k).p.told.cost, .int .u64 (T.at_ k).p.told.bridge, .int .i64 (T.at_ k).p.told.port, .bool (T.at_ k).edge, .int .i64 (T.at_ k).role, .int .i64 (T.at_ k).state, .int .i64 (T.at_ k).age, .int .i64 (T.at_ k).left, .int .i64 (T.at_ k).wait, .int .i64 (T.at_ k).change, .bool (T.at_ k).agreed] 31) = w7 at h1 hz1 b1 q7 ⊢
      generalize wr.heap.size = b7 at q7 ⊢
      clear hr hown hbel hz ha qt hTx
      have ha := (Below.refl w7.heap.size w7).alloc (Nat.le_refl _) (.cells [.int .i64 (T.at_ k).p.id, .int .u64 (T.at_ k).p.cost, .bool (T.at_ k).p.up, .bool (T.at_ k).p.has, .int .u64 (T.at_ k).p.told.root, .int .u64 (T.at_ k).p.told.cost, .int .u64 (T.at_ k).p.told.bridge, .int .i64 (T.at_ k).p.told.port].toArray 29)
      have h2 := own_below h1 ha
      have hz2 := hz1.below ha hz1.lt
      have b2 := b1.trans (ha.mono b1.size)
      go_wp2_with (refine wpList_append_one rfl _ _ 85 rfl (w.heap.size + 1) 29 _ 8 56 Try.underlying85 info29 rfl (by decide) _ k _ rfl h2 w7.heap.size [.int .i64 (T.at_ k).p.id, .int .u64 (T.at_ k).p.cost, .bool (T.at_ k).p.up, .bool (T.at_ k).p.has, .int .u64 (T.at_ k).p.told.root, .int .u64 (T.at_ k).p.told.cost, .int .u64 (T.at_ k).p.told.bridge, .int .i64 (T.at_ k).p.told.port] 29 rfl (Blk.new w7 _ _) rfl (by simp [Value.oneCell']) (by unfold maxLen; omega) (by omega) (by have := hz2.lt; omega) ?_; intro v3 w8 hown hfr hin)
      go_roundg gh
      case measure => omega
      case rel => exact ⟨k + 1, by omega, by go_num, by rw [qsL_succ]; exact hown, Below.fr b2 hfr b2.size fun i _ hi => by have := (own_ge h2 hi).1; omega, hz2.fr hfr fun hk => by have := (own_ge h2 hk).1; omega⟩
end Go.Proofs.Ytjnbjcieepooaac
