/- A tree and the reference's one, side by side; the law's helper same. Conditions: none. -/
import Derived.Test.YtjnbjcieepooaacRG7
import Derived.Test.YtjnbjcieepooaacTDo
import Derived.Test.YtjnbjcieepooaacTArg2
namespace Go.Proofs.Ytjnbjcieepooaac
open Go.RowKit
set_option linter.unusedVariables false
set_option linter.unusedSimpArgs false

/-- Side by side: neither's blocks are the other's, nor such as were there at first. -/
structure PW (base : Nat) (w : World) (tb : Nat) (B : RB) (T1 T2 : Tr) : Prop where
  t : TAt w tb T1 (fun k => k < base ∨ ROwn B T2.n k)
  r : RefW w B T2
  o : ∀ k, ROwn B T2.n k → base ≤ k
  le : base ≤ w.heap.size
theorem PW.below {base : Nat} {w w' : World} {tb : Nat} {B : RB} {T1 T2 : Tr} (h : PW base w tb B T1 T2) (hb : Below w.heap.size w w') : PW base w' tb B T1 T2 :=
  ⟨h.t.below hb, h.r.below hb, h.o, Nat.le_trans h.le hb.size⟩
theorem PW.tree {base : Nat} {w w' : World} {tb : Nat} {B : RB} {T1 T2 U : Tr} (h : PW base w tb B T1 T2) (ht : TAt w' tb U (fun k => k < base ∨ ROwn B T2.n k)) (hf : FrZ (fun k => k < base ∨ ROwn B T2.n k) w w') : PW base w' tb B U T2 ∧ Below base w w' :=
  ⟨⟨ht, h.r.fr hf fun k hk g => g (.inr hk), h.o, Nat.le_trans h.le hf.size⟩, hf.toBelow (fun k hk => .inl hk) h.le⟩
theorem PW.ref {base : Nat} {w w' : World} {tb : Nat} {B B' : RB} {T1 T2 U : Tr} (h : PW base w tb B T1 T2) (hn : U.n = T2.n) (hr : RefW w' B' U) (hs : RStep w B T2.n w' B') : PW base w' tb B' T1 U ∧ Below base w w' := by
  have ho : ∀ k, ROwn B' U.n k → base ≤ k := fun k hk => by
    rw [hn] at hk
    rcases hs.sub k hk with g | g
    · exact h.o k g
    · exact Nat.le_trans h.le g
  refine ⟨⟨?_, hr, ho, Nat.le_trans h.le hs.fr.size⟩, ⟨hs.fr.os, hs.fr.tape, hs.fr.output, hs.fr.size, fun k hk => hs.fr.block k (Nat.lt_of_lt_of_le hk h.le) fun g => by have := h.o k g; omega⟩⟩
  obtain ⟨TB, h1, h2, h3, h4⟩ := h.t
  refine ⟨TB, h1, h2.fr hs.fr fun k hk g => h3 k hk (.inr g), fun k hk hz => ?_, fun k hk => ?_⟩
  · rcases hz with hz | hz
    · exact h3 k hk (.inl hz)
    · rw [hn] at hz
      rcases hs.sub k hz with g | g
      · exact h3 k hk (.inr g)
      · have := h2.own_lt hk; omega
  · rcases hk with hk | hk
    · exact Nat.lt_of_lt_of_le hk (Nat.le_trans h.le hs.fr.size)
    · exact hr.own_lt hk
/-- A port is not to forget. -/
def clr (i : Nat) (T : Tr) : Tr := { T with flush := T.flush.set i false }
theorem RefW.set_clr {w : World} {B : RB} {T : Tr} (h : RefW w B T) {i : Nat} (hi : i < T.n) (hfl : T.flush.length = T.n) : RefW (w.setCell ⟨B.b 7, i, none⟩ (.bool false)) B (clr i T) := by
  have key := h.set (U := clr i T) (f := 7) (.inl (by omega)) hi (o := 0) (by decide) (.bool false) rfl rfl rfl fun g j => by
    by_cases e : g = 7 ∧ j = i
    · obtain ⟨rfl, rfl⟩ := e
      rw [if_pos ⟨rfl, rfl⟩]
      show #[Value.bool ((T.flush.set j false).getD j false)] = _
      rw [getD_set_self _ _ _ (by omega)]
      rfl
    · rw [if_neg e]
      unfold cont
      by_cases h7 : g = 7
      · rw [if_pos h7, if_pos h7]
        have : i ≠ j := fun h => e ⟨h7, h.symm⟩
        show #[Value.bool ((T.flush.set i false).getD j false)] = _
        rw [getD_set_ne _ _ _ this]
      · rw [if_neg h7, if_neg h7]
        rfl
  rw [show szF 7 = 1 from rfl, Nat.mul_one, Nat.add_zero] at key
  exact key
theorem clr_get (k : Nat) (T : Tr) (i : Nat) : (upto clr k T).flush[i]? = if i < k then (T.flush[i]?).map (fun _ => false) else T.flush[i]? := by
  induction k with
  | zero => rw [if_neg (by omega)]; rfl
  | succ k ih =>
    show ((upto clr k T).flush.set k false)[i]? = _
    rw [List.getElem?_set]
    by_cases e : k = i
    · subst e
      rw [if_neg (Nat.lt_irrefl k)] at ih
      rw [if_pos rfl, if_pos (Nat.lt_succ_self k), ← ih]
      by_cases h : k < (upto clr k T).flush.length
      · rw [if_pos h, List.getElem?_eq_getElem h]; rfl
      · rw [if_neg h, List.getElem?_eq_none (by omega)]; rfl
    · rw [if_neg e, ih]
      by_cases h : i < k
      · rw [if_pos h, if_pos (by omega)]
      · rw [if_neg h, if_neg (by omega)]
theorem clr_same {i : Nat} {T : Tr} (h : T.flush.getD i false = false) : clr i T = T := by
  unfold clr
  have : T.flush.set i false = T.flush := by
    apply List.ext_getElem?
    intro j
    rw [List.getElem?_set]
    split
    · rename_i e
      subst e
      split
      · rename_i hl
        simp [List.getD, hl] at h
        rw [List.getElem?_eq_getElem hl, h]
      · rename_i hl
        rw [List.getElem?_eq_none (by omega)]
    · rfl
  rw [this]
theorem clr_shape (k : Nat) (T : Tr) : ∃ fl, upto clr k T = { T with flush := fl } := by
  induction k with
  | zero => exact ⟨T.flush, rfl⟩
  | succ k ih =>
    obtain ⟨fl, h⟩ := ih
    exact ⟨fl.set k false, by show clr k (upto clr k T) = _; rw [h]; rfl⟩
theorem clr_all {T : Tr} (hfl : T.flush.length = T.n) : upto clr T.n T = flushesF T := by
  obtain ⟨fl, h⟩ := clr_shape T.n T
  rw [h]
  unfold flushesF
  have : fl = T.flush.map fun _ => false := by
    apply List.ext_getElem?
    intro i
    have hg := clr_get T.n T i
    rw [h] at hg
    dsimp only at hg
    rw [hg, List.getElem?_map]
    by_cases hi : i < T.n
    · rw [if_pos hi]
    · rw [if_neg hi, List.getElem?_eq_none (by omega)]; rfl
  rw [this]
theorem clr_n (k : Nat) (T : Tr) : (upto clr k T).n = T.n ∧ (upto clr k T).flush.length = T.flush.length := by
  induction k with
  | zero => exact ⟨rfl, rfl⟩
  | succ k ih => exact ⟨ih.1, by show ((upto clr k T).flush.set k false).length = _; rw [List.length_set]; exact ih.2⟩
theorem clr_later (k : Nat) (T : Tr) : (upto clr k T).flush.getD k false = T.flush.getD k false := by
  rw [List.getD_eq_getElem?_getD, clr_get, if_neg (by omega), List.getD_eq_getElem?_getD]
/-- No message is left. -/
theorem RefW.no_outs {w : World} {B : RB} {T : Tr} (h : RefW w B T) : RefW (w.setCell ⟨B.tb, 22, none⟩ (.slice none 0 0)) { B with ov := .slice none 0 0 } (outsF T) := by
  have hf : Fr (fun k => k = B.tb) w (w.setCell ⟨B.tb, 22, none⟩ (.slice none 0 0)) := (Fr.refl (fun k => k = B.tb) w).set (p := ⟨B.tb, 22, none⟩) (.inl rfl) _
  exact ⟨h.t.set 22 _, h.a, fun hn k hk => (h.r hn k hk).fr hf (h.nt hn k hk).symm, h.ne, h.nt, World.ownsRow_nil _ _ _ _⟩
theorem RStep.no_outs (w : World) (B : RB) (n : Nat) : RStep w B n (w.setCell ⟨B.tb, 22, none⟩ (.slice none 0 0)) { B with ov := .slice none 0 0 } :=
  ⟨(Fr.refl _ w).set (p := ⟨B.tb, 22, none⟩) (.inl (.inl rfl)) _, rfl, fun k hk => by
    rcases hk with h | h | h
    · exact .inl (.inl h)
    · exact .inl (.inr (.inl h))
    · cases h⟩
def SameR (base : Nat) (w : World) (tb : Nat) (B : RB) (T : Tr) (e : Ending) (w' : World) : Prop := e = .returned (.bool true) ∧ ∃ B' : RB, B'.tb = B.tb ∧ PW base w' tb B' (flushesF (outsF T)) (flushesF (outsF T)) ∧ Below base w w'
theorem sz31s : (Try.prog.info? 31).map (·.size) = some 16 := by kernel_rfl
theorem sz43s : (Try.prog.info? 43).map (·.size) = some 17 := by kernel_rfl
theorem state_in {T : Tr} {i : Nat} (hi : i < T.n) {y : Int} (hy : (T.at_ i).state = y) : stateF T (i : Int) = y := by
  unfold stateF
  rw [if_pos ⟨by omega, by omega⟩, Int.toNat_natCast]
  exact hy
set_option maxRecDepth 20000 in
set_option maxHeartbeats 40000000 in
theorem same_calls (base tb : Nat) (B : RB) (T : Tr) (hok : TOk T 0) (w : World) (hP : PW base w tb B T T) :
    Calls Try.prog 26 #[.pointer (some ⟨tb, 0, none⟩), .pointer (some ⟨B.tb, 0, none⟩)] w (SameR base w tb B T) := by
  have HP0 := Lib.hid hP
  have N16 := Lib.hid hok.n
  have HFL := Lib.hid hok.fl
  have HRM : Hid (T.outs.length ≤ 1000000) := Lib.hid (by have := hok.room; omega)
  clear hP hok
  go_enter Try.func26, Try.ntmps26
  go_upto_region 2 with (go_at_call 28; (with_reducible refine (ports_at HP0.out.t N16.out).mono ?_); rintro e w1 ⟨v1, rfl, hown1, hb1⟩; obtain ⟨a1, c1, rfl⟩ := own_slice hown1)
  have HP1 := Lib.hid (HP0.out.below hb1)
  have HB1 := Lib.hid (hb1.mono HP0.out.le)
  have HOWN1 := Lib.hid hown1
  clear hown1 hb1
  go_upto_region 3 with (go_at_call 27; (with_reducible refine (root_at HP1.out.t).mono ?_); rintro e w2 ⟨rfl, hb2⟩)
  have ha := (Below.refl w2.heap.size w2).alloc (Nat.le_refl _) (.cells #[.int .u64 T.vec.root, .int .u64 T.vec.cost, .int .u64 T.vec.bridge, .int .i64 T.vec.port] 27)
  have hq := Blk.new w2 #[.int .u64 T.vec.root, .int .u64 T.vec.cost, .int .u64 T.vec.bridge, .int .i64 T.vec.port] 27
  have HP3 := Lib.hid ((HP1.out.below hb2).below ha)
  have HB3 := Lib.hid (HB1.out.trans ((hb2.trans (ha.mono hb2.size)).mono HP1.out.le))
  have HOWN3 := Lib.hid (own_below (own_below HOWN1.out hb2) ha)
  change Code.wp _ _ _ _ (w2.alloc (.cells #[.int .u64 T.vec.root, .int .u64 T.vec.cost, .int .u64 T.vec.bridge, .int .i64 T.vec.port] 27))
  generalize w2.alloc (.cells #[.int .u64 T.vec.root, .int .u64 T.vec.cost, .int .u64 T.vec.bridge, .int .i64 T.vec.port] 27) = W at hq HP3 HB3 HOWN3 ⊢
  generalize w2.heap.size = b6 at hq ⊢
  have HQ := Lib.hid hq
  clear hq ha hb2 HP1 HB1 HOWN1 HP0
  go_cut [46] (fun s46 wx => s46 = .bool false ∧ Below W.heap.size W wx)
  case first => as_aux_lemma =>
    have qt := HP3.out.r.own
    have q6 := HQ.out.cell
    go_quiet (fail)
    go_wp2
    go_meet
    exact ⟨rfl, ⟨rfl, rfl, rfl, Nat.le_refl _, fun _ _ => rfl⟩⟩
  case rest =>
    obtain ⟨rfl, hb⟩ := hcut
    obtain ⟨W3, hW3⟩ : ∃ x, x = wc := ⟨_, rfl⟩
    subst hW3
    have HP4 := Lib.hid (HP3.out.below hb)
    have HB4 := Lib.hid (HB3.out.trans (hb.mono HP3.out.le))
    have HOWN4 := Lib.hid (own_below HOWN3.out hb)
    clear hb HP3 HB3 HOWN3 HQ
    go_wp2
    go_loopg [49] T.n (fun gh s49 wx => ∃ i : Nat, i + gh = T.n ∧ s49 = .int .i64 (i : Int) ∧ Below W3.heap.size W3 wx)
    case atStart => exact ⟨0, by omega, rfl, Below.refl _ _⟩
    case round =>
      obtain ⟨i, hig, rfl, hbi⟩ := hrel
      cases gk with
      | succ gi => as_aux_lemma =>
        have hiM : (i : Int) < (T.n : Int) := by omega
        have hn16 : T.n ≤ 16 := N16.out
        have hin : i < T.n := by omega
        obtain ⟨g11, c11', hv, hge, hlt11, hP11⟩ := port_rows HOWN4.out rfl (by omega)
        simp only [Value.slice.injEq] at hv
        obtain ⟨rfl, _, rfl⟩ := hv
        have hr1 := (hP11.below hbi).range hin
        rw [Nat.zero_add] at hr1
        have HPi := Lib.hid (HP4.out.below hbi)
        have hst : Hid (∀ y, (T.at_ i).state = y → stateF T (i : Int) = y) := Lib.hid fun y h => state_in hin h
        obtain ⟨P, hPe⟩ : ∃ P, T.at_ i = P := ⟨_, rfl⟩
        rw [hPe] at hr1 hst
        have HPE := Lib.hid hPe
        clear hPe hP11 hge hlt11
        have hr2 : wr.rangeAt g11 (i * 16) [.int .i64 P.p.id, .int .u64 P.p.cost, .bool P.p.up, .bool P.p.has, .int .u64 P.p.told.root, .int .u64 P.p.told.cost, .int .u64 P.p.told.bridge, .int .i64 P.p.told.port, .bool P.edge, .int .i64 P.role, .int .i64 P.state, .int .i64 P.age, .int .i64 P.left, .int .i64 P.wait, .int .i64 P.change, .bool P.agreed] := hr1
        clear hr1
        go_upto_region 8 with (refine wpList_load_mid rfl 31 _ rfl g11 (i * 16) rfl _ _ hr2 Try.underlying31 rfl sz31s ?_)
        have ha := (Below.refl wr.heap.size wr).alloc (Nat.le_refl _) (.cells #[.int .i64 P.p.id, .int .u64 P.p.cost, .bool P.p.up, .bool P.p.has, .int .u64 P.p.told.root, .int .u64 P.p.told.cost, .int .u64 P.p.told.bridge, .int .i64 P.p.told.port, .bool P.edge, .int .i64 P.role, .int .i64 P.state, .int .i64 P.age, .int .i64 P.left, .int .i64 P.wait, .int .i64 P.change, .bool P.agreed] 31)
        have hq := Blk.new wr #[.int .i64 P.p.id, .int .u64 P.p.cost, .bool P.p.up, .bool P.p.has, .int .u64 P.p.told.root, .int .u64 P.p.told.cost, .int .u64 P.p.told.bridge, .int .i64 P.p.told.port, .bool P.edge, .int .i64 P.role, .int .i64 P.state, .int .i64 P.age, .int .i64 P.left, .int .i64 P.wait, .int .i64 P.change, .bool P.agreed] 31
        change Code.wp _ _ _ _ (wr.alloc (.cells #[.int .i64 P.p.id, .int .u64 P.p.cost, .bool P.p.up, .bool P.p.has, .int .u64 P.p.told.root, .int .u64 P.p.told.cost, .int .u64 P.p.told.bridge, .int .i64 P.p.told.port, .bool P.edge, .int .i64 P.role, .int .i64 P.state, .int .i64 P.age, .int .i64 P.left, .int .i64 P.wait, .int .i64 P.change, .bool P.agreed] 31))
        generalize wr.alloc (.cells #[.int .i64 P.p.id, .int .u64 P.p.cost, .bool P.p.up, .bool P.p.has, .int .u64 P.p.told.root, .int .u64 P.p.told.cost, .int .u64 P.p.told.bridge, .int .i64 P.p.told.port, .bool P.edge, .int .i64 P.role, .int .i64 P.state, .int .i64 P.age, .int .i64 P.left, .int .i64 P.wait, .int .i64 P.change, .bool P.agreed] 31) = W2 at ha hq ⊢
        have hbW2 := Lib.hid (hbi.trans (ha.mono hbi.size))
        have HPW := Lib.hid (HPi.out.below ha)
        clear ha hr2 hbi HPi
        generalize wr.heap.size = b13 at hq ⊢
        have HST := Lib.hid (hst.out P.state rfl)
        have hX := HPW.out.r
        have hX0 : 0 < T.n := by omega
        have qt := hX.ownp hX0
        have q13 := hq.cell
        have r9 := hX.g9 hin
        have r10 := hX.g10 hin
        have r5 := hX.g5 hin
        have r3 : W2.cell? ⟨B.b 3, i, none⟩ = some (.bool (T.at_ i).p.up) := hX.get hin (.inl (by omega)) rfl
        have r4 : W2.cell? ⟨B.b 4, i, none⟩ = some (.bool (T.at_ i).p.has) := hX.get hin (.inl (by omega)) rfl
        have r80 : W2.cell? ⟨B.b 8, i * 4, none⟩ = some (.int .u64 (T.at_ i).p.told.root) := hX.get4 hin (f := 8) (.inl (by omega)) rfl 0 (by omega)
        have r81 : W2.cell? ⟨B.b 8, i * 4 + 1, none⟩ = some (.int .u64 (T.at_ i).p.told.cost) := hX.get4 hin (f := 8) (.inl (by omega)) rfl 1 (by omega)
        have r82 : W2.cell? ⟨B.b 8, i * 4 + 2, none⟩ = some (.int .u64 (T.at_ i).p.told.bridge) := hX.get4 hin (f := 8) (.inl (by omega)) rfl 2 (by omega)
        have r83 : W2.cell? ⟨B.b 8, i * 4 + 3, none⟩ = some (.int .i64 (T.at_ i).p.told.port) := hX.get4 hin (f := 8) (.inl (by omega)) rfl 3 (by omega)
        rw [HPE.out] at r9 r10 r5 r3 r4 r80 r81 r82 r83
        have lt0 := hX.t.lt
        have ltq := hq.lt
        have lt : ∀ k, inF k → B.b k < W2.heap.size := fun k hk => (hX.r hX0 k hk).lt
        have l3 := lt 3 (.inl (by omega))
        have l4 := lt 4 (.inl (by omega))
        have l5 := lt 5 (.inl (by omega))
        have l8 := lt 8 (.inl (by omega))
        have l9 := lt 9 (.inl (by omega))
        have l10 := lt 10 (.inl (by omega))
        have et : ∀ (n : KW W2 []) (o : Nat), n.val.cell? ⟨B.tb, o, none⟩ = _ := fun n o => (n.keep.below.cell (p := ⟨B.tb, o, none⟩) lt0).trans (qt o)
        have eq : ∀ (n : KW W2 []) (o : Nat), n.val.cell? ⟨b13, o, none⟩ = _ := fun n o => (n.keep.below.cell (p := ⟨b13, o, none⟩) ltq).trans (q13 o)
        have e3 : ∀ (n : KW W2 []), n.val.cell? ⟨B.b 3, i, none⟩ = _ := fun n => (n.keep.below.cell (p := ⟨B.b 3, i, none⟩) l3).trans r3
        have e4 : ∀ (n : KW W2 []), n.val.cell? ⟨B.b 4, i, none⟩ = _ := fun n => (n.keep.below.cell (p := ⟨B.b 4, i, none⟩) l4).trans r4
        have e5 : ∀ (n : KW W2 []), n.val.cell? ⟨B.b 5, i, none⟩ = _ := fun n => (n.keep.below.cell (p := ⟨B.b 5, i, none⟩) l5).trans r5
        have e9 : ∀ (n : KW W2 []), n.val.cell? ⟨B.b 9, i, none⟩ = _ := fun n => (n.keep.below.cell (p := ⟨B.b 9, i, none⟩) l9).trans r9
        have e10 : ∀ (n : KW W2 []), n.val.cell? ⟨B.b 10, i, none⟩ = _ := fun n => (n.keep.below.cell (p := ⟨B.b 10, i, none⟩) l10).trans r10
        have e80 : ∀ (n : KW W2 []), n.val.cell? ⟨B.b 8, i * 4, none⟩ = _ := fun n => (n.keep.below.cell (p := ⟨B.b 8, i * 4, none⟩) l8).trans r80
        have e81 : ∀ (n : KW W2 []), n.val.cell? ⟨B.b 8, i * 4 + 1, none⟩ = _ := fun n => (n.keep.below.cell (p := ⟨B.b 8, i * 4 + 1, none⟩) l8).trans r81
        have e82 : ∀ (n : KW W2 []), n.val.cell? ⟨B.b 8, i * 4 + 2, none⟩ = _ := fun n => (n.keep.below.cell (p := ⟨B.b 8, i * 4 + 2, none⟩) l8).trans r82
        have e83 : ∀ (n : KW W2 []), n.val.cell? ⟨B.b 8, i * 4 + 3, none⟩ = _ := fun n => (n.keep.below.cell (p := ⟨B.b 8, i * 4 + 3, none⟩) l8).trans r83
        have hne : Nonempty (KW W2 []) := ⟨⟨_, Keep.start W2⟩⟩
        have HT := Lib.hid HPW.out.t
        clear hX qt q13 r9 r10 r5 r3 r4 r80 r81 r82 r83 lt0 ltq lt l3 l4 l5 l8 l9 l10 hq hX0
        refine wp_region_keep (by kernel_rfl) (by kernel_rfl) (Keep.start W2) ?_
        dsimp only [List.append]
        repeat (go_big_quiet_step ((go_at_call 17; exact KW.same (state_at (HT.out.below (KW.keep _).below) _ _ HST.out))))
        refine wpQuiet_nil ?_
        rintro _ ⟨nq, rfl⟩
        have hbq := nq.keep.below
        have hbF := hbW2.out.trans (hbq.mono hbW2.out.size)
        clear et eq e3 e4 e5 e9 e10 e80 e81 e82 e83
        go_wp2
        go_roundg gi
        case measure => omega
        case rel => exact ⟨i + 1, by omega, by go_num, hbF⟩
      | zero =>
        have hiM : ¬ ((i : Int) < (T.n : Int)) := by omega
        have HP5 := Lib.hid (HP4.out.below hbi)
        have HB5 := Lib.hid (HB4.out.trans (hbi.mono HP4.out.le))
        clear hbi HP4 HB4 HOWN4
        go_upto_region 12 with (go_at_call 18; (with_reducible refine (outs_at HP5.out.t).mono ?_); rintro e w6 ⟨a6, c6, rfl, hown6, hT6, hf6, _⟩)
        have hm6 := hT6.more (Z' := fun k => k < base ∨ ROwn B T.n k) fun j hj => .inl (.inl hj)
        obtain ⟨hp6, hb6⟩ := HP5.out.tree hm6 hf6
        have HP6 := Lib.hid hp6
        have HB6 := Lib.hid (HB5.out.trans hb6)
        have HOWN6 := Lib.hid hown6
        obtain ⟨ao, co, hov⟩ := own_slice hp6.r.o
        have HOV := Lib.hid hov
        have qt := hp6.r.own
        rw [hov] at qt
        clear hown6 hT6 hf6 hm6 hp6 hb6 HP5 HB5 hov
        go_wp2
        clear qt
        go_loopg [148] T.outs.length (fun gh s148 wx => ∃ q : Nat, q + gh = T.outs.length ∧ s148 = .int .i64 (q : Int) ∧ Below w6.heap.size w6 wx)
        case atStart => exact ⟨0, by omega, rfl, Below.refl _ _⟩
        case round =>
          obtain ⟨q, hqg, rfl, hbq⟩ := hrel
          cases gk with
          | succ gq => as_aux_lemma =>
            have hqM : (q : Int) < (T.outs.length : Int) := by omega
            have hqn : q < T.outs.length := by omega
            have hrm : T.outs.length ≤ 1000000 := HRM.out
            obtain ⟨g12, c12', hv, _, hlt12, _, _⟩ := own_at HOWN6.out (by omega)
            simp only [Value.slice.injEq] at hv
            obtain ⟨rfl, _, rfl⟩ := hv
            have hRo := HP6.out.r.o
            rw [HOV.out] at hRo
            obtain ⟨go, co', hv, _, hlto, _, hco⟩ := own_at hRo (by omega)
            simp only [Value.slice.injEq] at hv
            obtain ⟨rfl, _, rfl⟩ := hv
            obtain ⟨o, ho⟩ : ∃ o, T.outs[q]? = some o := ⟨_, List.getElem?_eq_getElem hqn⟩
            have hrq := range_below (out_range HOWN6.out rfl ho) hbq
            have hrq' : wr.rangeAt g12 (q * 17) [.int .i64 o.port, .int .i64 o.m.kind, .int .u64 o.m.v.root, .int .u64 o.m.v.cost, .int .u64 o.m.v.bridge, .int .i64 o.m.v.port, .bool o.m.change, .bool o.m.ack, .bool o.m.proposal, .bool o.m.agreement, .bool o.m.learning, .bool o.m.forwarding, .int .i64 o.m.role, .int .i64 o.m.age, .int .i64 o.m.maxAge, .int .i64 o.m.hello, .int .i64 o.m.delay] := hrq
            have hog : ∀ j, j < 17 → w6.cell? ⟨go, q * 17 + j, none⟩ = o.cells[j]? := fun j hj => by
              rw [hco (q * 17 + j) (by omega)]
              exact outsL_get T.outs q j o ho hj
            clear hrq ho hlt12 hRo hco
            go_upto_region 17 with (refine wpList_load_mid rfl 43 _ rfl g12 (q * 17) rfl _ _ hrq' Try.underlying43 rfl sz43s ?_)
            have ha := (Below.refl wr.heap.size wr).alloc (Nat.le_refl _) (.cells #[.int .i64 o.port, .int .i64 o.m.kind, .int .u64 o.m.v.root, .int .u64 o.m.v.cost, .int .u64 o.m.v.bridge, .int .i64 o.m.v.port, .bool o.m.change, .bool o.m.ack, .bool o.m.proposal, .bool o.m.agreement, .bool o.m.learning, .bool o.m.forwarding, .int .i64 o.m.role, .int .i64 o.m.age, .int .i64 o.m.maxAge, .int .i64 o.m.hello, .int .i64 o.m.delay] 43)
            have hq := Blk.new wr #[.int .i64 o.port, .int .i64 o.m.kind, .int .u64 o.m.v.root, .int .u64 o.m.v.cost, .int .u64 o.m.v.bridge, .int .i64 o.m.v.port, .bool o.m.change, .bool o.m.ack, .bool o.m.proposal, .bool o.m.agreement, .bool o.m.learning, .bool o.m.forwarding, .int .i64 o.m.role, .int .i64 o.m.age, .int .i64 o.m.maxAge, .int .i64 o.m.hello, .int .i64 o.m.delay] 43
            change Code.wp _ _ _ _ (wr.alloc (.cells #[.int .i64 o.port, .int .i64 o.m.kind, .int .u64 o.m.v.root, .int .u64 o.m.v.cost, .int .u64 o.m.v.bridge, .int .i64 o.m.v.port, .bool o.m.change, .bool o.m.ack, .bool o.m.proposal, .bool o.m.agreement, .bool o.m.learning, .bool o.m.forwarding, .int .i64 o.m.role, .int .i64 o.m.age, .int .i64 o.m.maxAge, .int .i64 o.m.hello, .int .i64 o.m.delay] 43))
            generalize wr.alloc (.cells #[.int .i64 o.port, .int .i64 o.m.kind, .int .u64 o.m.v.root, .int .u64 o.m.v.cost, .int .u64 o.m.v.bridge, .int .i64 o.m.v.port, .bool o.m.change, .bool o.m.ack, .bool o.m.proposal, .bool o.m.agreement, .bool o.m.learning, .bool o.m.forwarding, .int .i64 o.m.role, .int .i64 o.m.age, .int .i64 o.m.maxAge, .int .i64 o.m.hello, .int .i64 o.m.delay] 43) = W2 at ha hq ⊢
            have hbW := hbq.trans (ha.mono hbq.size)
            have HBW := Lib.hid hbW
            have q12 := hq.cell
            have qt : ∀ j, W2.cell? ⟨B.tb, j, none⟩ = _ := fun j => (hbW.cell (p := ⟨B.tb, j, none⟩) HP6.out.r.t.lt).trans (HP6.out.r.own j)
            rw [HOV.out] at qt
            have hoW : ∀ j, j < 17 → W2.cell? ⟨go, q * 17 + j, none⟩ = o.cells[j]? := fun j hj => (hbW.cell (p := ⟨go, q * 17 + j, none⟩) hlto).trans (hog j hj)
            have o0 : W2.cell? ⟨go, q * 17, none⟩ = some (.int .i64 o.port) := by have := hoW 0 (by omega); exact this
            have o1 : W2.cell? ⟨go, q * 17 + 1, none⟩ = some (.int .i64 o.m.kind) := by have := hoW 1 (by omega); exact this
            have o2 : W2.cell? ⟨go, q * 17 + 1 + 1, none⟩ = some (.int .u64 o.m.v.root) := by have := hoW 2 (by omega); exact this
            have o3 : W2.cell? ⟨go, q * 17 + 1 + 2, none⟩ = some (.int .u64 o.m.v.cost) := by have := hoW 3 (by omega); exact this
            have o4 : W2.cell? ⟨go, q * 17 + 1 + 3, none⟩ = some (.int .u64 o.m.v.bridge) := by have := hoW 4 (by omega); exact this
            have o5 : W2.cell? ⟨go, q * 17 + 1 + 4, none⟩ = some (.int .i64 o.m.v.port) := by have := hoW 5 (by omega); exact this
            have o6 : W2.cell? ⟨go, q * 17 + 1 + 5, none⟩ = some (.bool o.m.change) := by have := hoW 6 (by omega); exact this
            have o7 : W2.cell? ⟨go, q * 17 + 1 + 6, none⟩ = some (.bool o.m.ack) := by have := hoW 7 (by omega); exact this
            have o8 : W2.cell? ⟨go, q * 17 + 1 + 7, none⟩ = some (.bool o.m.proposal) := by have := hoW 8 (by omega); exact this
            have o9 : W2.cell? ⟨go, q * 17 + 1 + 8, none⟩ = some (.bool o.m.agreement) := by have := hoW 9 (by omega); exact this
            have o10 : W2.cell? ⟨go, q * 17 + 1 + 9, none⟩ = some (.bool o.m.learning) := by have := hoW 10 (by omega); exact this
            have o11 : W2.cell? ⟨go, q * 17 + 1 + 10, none⟩ = some (.bool o.m.forwarding) := by have := hoW 11 (by omega); exact this
            have o12 : W2.cell? ⟨go, q * 17 + 1 + 11, none⟩ = some (.int .i64 o.m.role) := by have := hoW 12 (by omega); exact this
            have o13 : W2.cell? ⟨go, q * 17 + 1 + 12, none⟩ = some (.int .i64 o.m.age) := by have := hoW 13 (by omega); exact this
            have o14 : W2.cell? ⟨go, q * 17 + 1 + 13, none⟩ = some (.int .i64 o.m.maxAge) := by have := hoW 14 (by omega); exact this
            have o15 : W2.cell? ⟨go, q * 17 + 1 + 14, none⟩ = some (.int .i64 o.m.hello) := by have := hoW 15 (by omega); exact this
            have o16 : W2.cell? ⟨go, q * 17 + 1 + 15, none⟩ = some (.int .i64 o.m.delay) := by have := hoW 16 (by omega); exact this
            clear ha hrq' hbq hq hog hoW hbW hlto
            generalize wr.heap.size = b12 at q12 ⊢
            go_quiet (fail)
            have hbF := HBW.out.trans (⟨rfl, rfl, rfl, Nat.le_refl _, fun _ _ => rfl⟩ : Below w6.heap.size W2 (W2.drewN nq))
            go_wp2
            go_roundg gq
            case measure => omega
            case rel => exact ⟨q + 1, by omega, by go_num, hbF⟩
          | zero => as_aux_lemma =>
            have hqM : ¬ ((q : Int) < (T.outs.length : Int)) := by omega
            have hp7 := HP6.out.below hbq
            have hb7 := HB6.out.trans (hbq.mono HP6.out.le)
            have qt := hp7.r.own
            have ft := hp7.r.t.free
            obtain ⟨hp8, hb8⟩ := hp7.ref (B' := { B with ov := .slice none 0 0 }) (U := outsF T) rfl hp7.r.no_outs (RStep.no_outs _ _ _)
            have HP8 := Lib.hid hp8
            have HB8 := Lib.hid (hb7.trans hb8)
            clear hp7 hb7 hp8 hb8 HP6 HB6 HOWN6 HOV hbq
            go_upto_region 22 with (fail)
            generalize wr.setCell ⟨B.tb, 22, none⟩ (.slice none 0 0) = W8 at HP8 HB8 ⊢
            clear qt ft
            have qt : ∀ j, W8.cell? ⟨B.tb, j, none⟩ = _ := HP8.out.r.own
            dsimp only at qt
            have ha7 := HP8.out.r.a
            obtain ⟨a7, h7⟩ : ∃ a7, B.a 7 = a7 := ⟨_, rfl⟩
            have HA7 : Hid (0 < T.n → a7 = some ⟨B.b 7, 0, none⟩) := Lib.hid fun h => by rw [← h7]; exact ha7 h 7 (.inl (by omega))
            rw [h7, show (outsF T).n = T.n from rfl] at qt
            clear ha7 h7
            go_wp2
            clear qt
            go_loopg [186, 13] T.n (fun gh s186 s13 wx => ∃ k : Nat, k + gh = T.n ∧ s186 = .int .i64 (k : Int) ∧ s13 = .int .i64 ((flL T k).length : Int) ∧ PW base wx tb { B with ov := .slice none 0 0 } (outsF T) (upto clr k (outsF T)) ∧ Below base w wx)
            case atStart => exact ⟨0, by omega, rfl, rfl, HP8.out, HB8.out⟩
            case round =>
              obtain ⟨k, hkg, rfl, rfl, hp, hb⟩ := hrel
              have HB := Lib.hid hb
              have cn := clr_n k (outsF T)
              have HN16 : Hid (T.n ≤ 16) := N16
              clear hb
              cases gk with
              | succ gk =>
                have hkM : (k : Int) < (T.n : Int) := by omega
                have hkn : k < T.n := by omega
                have hn16 : T.n ≤ 16 := N16.out
                have hfk := flL_le T k
                obtain rfl := HA7.out (by omega)
                have cl := clr_later k (outsF T)
                have HSTP : Hid (upto clr (k + 1) (outsF T) = clr k (upto clr k (outsF T))) := Lib.hid rfl
                generalize upto clr k (outsF T) = X at hp cn cl HSTP
                have xn : X.n = T.n := cn.1
                have xf : X.flush.length = X.n := by rw [cn.1, cn.2]; exact HFL.out
                have xk : k < X.n := by rw [xn]; exact hkn
                have x0 : 0 < X.n := by omega
                have r7 : wr.cell? ⟨B.b 7, k, none⟩ = some (.bool (X.flush.getD k false)) := hp.r.g7 xk
                rw [cl] at r7
                have qt : ∀ j, wr.cell? ⟨B.tb, j, none⟩ = _ := hp.r.ownp x0
                dsimp only at qt
                rw [xn] at qt
                have f7 : ∀ j, wr.frozen? ⟨B.b 7, j, none⟩ = false := hp.r.free x0 (f := 7) (.inl (by omega))
                have hy : (outsF T).flush.getD k false = T.flush.getD k false := rfl
                rw [hy] at r7 cl
                cases hyes : T.flush.getD k false with
                | true =>
                  rw [hyes] at r7
                  obtain ⟨hp2, hb2⟩ := hp.ref (U := clr k X) rfl (hp.r.set_clr xk xf) ((RStep.refl wr { B with ov := .slice none 0 0 } X.n).set x0 (f := 7) (.inl (by omega)) k (.bool false))
                  have HP2 := Lib.hid hp2
                  have HB2 := Lib.hid (HB.out.trans hb2)
                  have HL : Hid ((flL T (k + 1)).length = (flL T k).length + 1) := Lib.hid (by rw [flL_yes hyes, List.length_append]; rfl)
                  generalize (flL T k).length = F at HL hfk ⊢
                  clear hyes hp hp2 hb2 cl cn xn xf xk x0 hy
                  go_wp2
                  go_roundg gk
                  case measure => omega
                  case rel => exact ⟨k + 1, by omega, by go_num, by rw [HL.out]; go_num, by rw [HSTP.out]; exact HP2.out, HB2.out⟩
                | false =>
                  rw [hyes] at r7 cl
                  have HE : Hid (clr k X = X) := Lib.hid (clr_same cl)
                  have HL : Hid ((flL T (k + 1)).length = (flL T k).length) := Lib.hid (by rw [flL_no hyes])
                  have HP2 := Lib.hid hp
                  generalize (flL T k).length = F at HL hfk ⊢
                  clear hyes hp cl cn xn xf xk x0 hy
                  go_wp2
                  go_roundg gk
                  case measure => omega
                  case rel => exact ⟨k + 1, by omega, by go_num, by rw [HL.out], by rw [HSTP.out, HE.out]; exact HP2.out, HB.out⟩
              | zero =>
                have hkM : ¬ ((k : Int) < (T.n : Int)) := by omega
                obtain rfl : k = T.n := by omega
                have hall : upto clr T.n (outsF T) = flushesF (outsF T) := clr_all (T := outsF T) HFL.out
                rw [hall] at hp
                have HP9 := Lib.hid hp
                have N16X : Hid ((outsF T).n ≤ 16) := Lib.hid N16.out
                have HFX : Hid ((outsF T).flush.length = (outsF T).n) := Lib.hid HFL.out
                have hfk := flL_le T T.n
                have hn16 : T.n ≤ 16 := N16.out
                clear hp hall cn
                go_wp2_with (go_at_call 31; (with_reducible refine (flushes_at HP9.out.t N16X.out HFX.out).mono ?_); rintro e w9 ⟨a9, c9, he, hT9, hf9⟩; have he' : e = .returned (.slice a9 (flL T T.n).length c9) := he; clear he; subst he')
                go_ret
                obtain ⟨hpf, hbf⟩ := HP9.out.tree hT9 hf9
                exact ⟨by simp, { B with ov := .slice none 0 0 }, rfl, hpf, HB.out.trans hbf⟩
end Go.Proofs.Ytjnbjcieepooaac
