/- Link, proposed, Tick of the reference's tree; what a message that is heard leaves. Conditions: none. -/
import Derived.Test.YtjnbjcieepooaacRG3
import Derived.Test.YtjnbjcieepooaacTW6
import Derived.Test.YtjnbjcieepooaacTW7
import Derived.Test.YtjnbjcieepooaacTW9
import Derived.Test.YtjnbjcieepooaacTWR
namespace Go.Proofs.Ytjnbjcieepooaac
open Go.RowKit
set_option linter.unusedVariables false
set_option linter.unusedSimpArgs false

theorem pc_told (q : TP) (y : Vec) (g : Nat) : pcell { q with p := { q.p with told := y } } g = if g = 8 then y.cells else pcell q g := by
  by_cases h : g = 8
  · subst h; rfl
  · rw [if_neg h]
    exact match g, h with
    | 0, _ => rfl
    | 1, _ => rfl
    | 2, _ => rfl
    | 3, _ => rfl
    | 4, _ => rfl
    | 5, _ => rfl
    | 6, _ => rfl
    | 7, _ => rfl
    | 8, h => absurd rfl h
    | 9, _ => rfl
    | 10, _ => rfl
    | 11, _ => rfl
    | 12, _ => rfl
    | 13, _ => rfl
    | 14, _ => rfl
    | g + 15, _ => rfl
theorem RefW.set8 {w : World} {B : RB} {T : Tr} (h : RefW w B T) {i : Nat} (hi : i < T.n) {o : Nat} (ho : o < 4) (y : Vec) (v : Value) (hy : y.cells = (T.at_ i).p.told.cells.setIfInBounds o v) :
    RefW (w.setCell ⟨B.b 8, i * 4 + o, none⟩ v) B (T.upd i { T.at_ i with p := { (T.at_ i).p with told := y } }) :=
  h.set (U := T.upd i { T.at_ i with p := { (T.at_ i).p with told := y } }) (f := 8) (.inl (by omega)) hi (o := o) ho v (upd_n _ _ _) (refC_upd B T i _) rfl fun g j => by
    rw [cont_upd T i _ hi]
    by_cases e : g = 8 ∧ j = i
    · obtain ⟨rfl, rfl⟩ := e
      rw [if_neg (show ¬ (8 = 7 ∨ 8 = 17) by omega), if_pos (show j = j from rfl), pc_told, if_pos (show (8 : Nat) = 8 from rfl), if_pos (show 8 = 8 ∧ j = j from ⟨rfl, rfl⟩), hy]
      rfl
    · rw [if_neg e]
      unfold cont
      by_cases h7 : g = 7
      · rw [if_pos (.inl h7), if_pos h7]
      · by_cases h17 : g = 17
        · rw [if_pos (.inr h17), if_neg h7, if_pos h17]
        · rw [if_neg (fun h => h.elim h7 h17), if_neg h7, if_neg h17]
          by_cases ej : j = i
          · subst ej; rw [if_pos rfl, pc_told, if_neg (fun h => e ⟨h, rfl⟩)]
          · rw [if_neg ej]
theorem RefW.set_told {w : World} {B : RB} {T : Tr} (h : RefW w B T) {i : Nat} (hi : i < T.n) (y : Vec) :
    RefW ((((w.setCell ⟨B.b 8, i * 4, none⟩ (.int .u64 y.root)).setCell ⟨B.b 8, i * 4 + 1, none⟩ (.int .u64 y.cost)).setCell ⟨B.b 8, i * 4 + 2, none⟩ (.int .u64 y.bridge)).setCell ⟨B.b 8, i * 4 + 3, none⟩ (.int .i64 y.port)) B (T.upd i { T.at_ i with p := { (T.at_ i).p with told := y } }) := by
  have hi' : ∀ x, i < (T.upd i x).n := fun x => by rw [upd_n]; exact hi
  have h1 := h.set8 hi (o := 0) (by omega) ⟨y.root, (T.at_ i).p.told.cost, (T.at_ i).p.told.bridge, (T.at_ i).p.told.port⟩ (.int .u64 y.root) rfl
  have h2 := h1.set8 (hi' _) (o := 1) (by omega) ⟨y.root, y.cost, (T.at_ i).p.told.bridge, (T.at_ i).p.told.port⟩ (.int .u64 y.cost) (by rw [upd_at T _ hi]; rfl)
  rw [upd_at T _ hi, upd_upd] at h2
  have h3 := h2.set8 (hi' _) (o := 2) (by omega) ⟨y.root, y.cost, y.bridge, (T.at_ i).p.told.port⟩ (.int .u64 y.bridge) (by rw [upd_at T _ hi]; rfl)
  rw [upd_at T _ hi, upd_upd] at h3
  have h4 := h3.set8 (hi' _) (o := 3) (by omega) y (.int .i64 y.port) (by rw [upd_at T _ hi]; rfl)
  rw [upd_at T _ hi, upd_upd] at h4
  exact h4
theorem RStep.set_told {w w' : World} {B B' : RB} {n : Nat} (h : RStep w B n w' B') (hn : 0 < n) (i : Nat) (v0 v1 v2 v3 : Value) : RStep w B n ((((w'.setCell ⟨B'.b 8, i * 4, none⟩ v0).setCell ⟨B'.b 8, i * 4 + 1, none⟩ v1).setCell ⟨B'.b 8, i * 4 + 2, none⟩ v2).setCell ⟨B'.b 8, i * 4 + 3, none⟩ v3) B' :=
  (((h.set hn (f := 8) (.inl (by omega)) (i * 4) v0).set hn (f := 8) (.inl (by omega)) (i * 4 + 1) v1).set hn (f := 8) (.inl (by omega)) (i * 4 + 2) v2).set hn (f := 8) (.inl (by omega)) (i * 4 + 3) v3
theorem linkP_eq (q : TP) (up : Bool) : ({ q with p := { q.p with up := up, has := false, told := v0 } } : TP) = linkP q up := rfl
set_option maxRecDepth 8000 in
set_option maxHeartbeats 8000000 in
theorem rlink_calls (T : Tr) (B : RB) (x : Int) (up : Bool) (hok : TOk T T.n) (w : World) (hT : RefW w B T) (U : Tr) (hU : linkF x up T = U) :
    Calls Try.prog 23 #[.pointer (some ⟨B.tb, 0, none⟩), .int .i64 x, .bool up] w (RPost w B T.n U) := by
  have HU := Lib.hid hU
  have HO := Lib.hid hok
  have HT := Lib.hid hT
  have hn := hok.n
  have qt0 := hT.own
  by_cases h0 : x < 0
  · have HE : Hid (T = U) := by rw [← hU]; exact Lib.hid (link_no (by omega)).symm
    clear hU hok hT HU HO hn
    go_enter Try.func23, Try.ntmps23
    go_wp2
    refine bodyPost_ret (results_none rfl _ _ _) rfl ?_
    exact ⟨B, rfl, by rw [← HE.out]; exact HT.out, RStep.refl _ _ _⟩
  by_cases h1 : x < (T.n : Int)
  rotate_left
  · have HE : Hid (T = U) := by rw [← hU]; exact Lib.hid (link_no (by omega)).symm
    clear hU hok hT HU HO hn
    go_enter Try.func23, Try.ntmps23
    go_wp2
    refine bodyPost_ret (results_none rfl _ _ _) rfl ?_
    exact ⟨B, rfl, by rw [← HE.out]; exact HT.out, RStep.refl _ _ _⟩
  obtain ⟨i, rfl⟩ : ∃ i : Nat, x = (i : Int) := ⟨x.toNat, by omega⟩
  have hi : i < T.n := by omega
  have hn0 : 0 < T.n := by omega
  have qt := hT.ownp hn0
  have r3 : w.cell? ⟨B.b 3, i, none⟩ = some (.bool (T.at_ i).p.up) := hT.get hi (.inl (by omega)) rfl
  clear qt0 h0
  by_cases hup : (T.at_ i).p.up = up
  · have HE : Hid (T = U) := by rw [← hU]; exact Lib.hid (link_no (by rw [Int.toNat_natCast]; exact fun h => h.2.2 hup)).symm
    rw [hup] at r3
    clear hup hi hn0
    clear hU hok hT HU HO hn
    go_enter Try.func23, Try.ntmps23
    go_wp2
    refine bodyPost_ret (results_none rfl _ _ _) rfl ?_
    exact ⟨B, rfl, by rw [← HE.out]; exact HT.out, RStep.refl _ _ _⟩
  have hub : ((T.at_ i).p.up == up) = false := by simpa using hup
  have hz := link_yes hi hup
  have r4 : w.cell? ⟨B.b 4, i, none⟩ = some (.bool (T.at_ i).p.has) := hT.get hi (.inl (by omega)) rfl
  have r80 : w.cell? ⟨B.b 8, i * 4, none⟩ = some (.int .u64 (T.at_ i).p.told.root) := hT.get4 hi (f := 8) (.inl (by omega)) rfl 0 (by omega)
  have r81 : w.cell? ⟨B.b 8, i * 4 + 1, none⟩ = some (.int .u64 (T.at_ i).p.told.cost) := hT.get4 hi (f := 8) (.inl (by omega)) rfl 1 (by omega)
  have r82 : w.cell? ⟨B.b 8, i * 4 + 2, none⟩ = some (.int .u64 (T.at_ i).p.told.bridge) := hT.get4 hi (f := 8) (.inl (by omega)) rfl 2 (by omega)
  have r83 : w.cell? ⟨B.b 8, i * 4 + 3, none⟩ = some (.int .i64 (T.at_ i).p.told.port) := hT.get4 hi (f := 8) (.inl (by omega)) rfl 3 (by omega)
  have n34 := hT.ne hn0 3 4 (.inl (by omega)) (.inl (by omega)) (by decide)
  have n38 := hT.ne hn0 3 8 (.inl (by omega)) (.inl (by omega)) (by decide)
  have n48 := hT.ne hn0 4 8 (.inl (by omega)) (.inl (by omega)) (by decide)
  have m3 := hT.nt hn0 3 (.inl (by omega))
  have m4 := hT.nt hn0 4 (.inl (by omega))
  have m8 := hT.nt hn0 8 (.inl (by omega))
  have f3 := hT.free hn0 (f := 3) (.inl (by omega))
  have f4 := hT.free hn0 (f := 4) (.inl (by omega))
  have f8 := hT.free hn0 (f := 8) (.inl (by omega))
  have g1 := hT.set_up hi up
  have g2 := g1.set_has (i := i) (by rw [upd_n]; exact hi) false
  rw [upd_at T _ hi, upd_upd] at g2
  have g3 := g2.set_told (i := i) (by rw [upd_n]; exact hi) v0
  rw [upd_at T _ hi, upd_upd] at g3
  have g4 : RefW ((((((w.setCell ⟨B.b 3, i, none⟩ (.bool up)).setCell ⟨B.b 4, i, none⟩ (.bool false)).setCell ⟨B.b 8, i * 4, none⟩ (.int .u64 0)).setCell ⟨B.b 8, i * 4 + 1, none⟩ (.int .u64 0)).setCell ⟨B.b 8, i * 4 + 2, none⟩ (.int .u64 0)).setCell ⟨B.b 8, i * 4 + 3, none⟩ (.int .i64 0)).drew B (T.upd i (linkP (T.at_ i) up)) := g3.drew
  have s4 : RStep w B T.n ((((((w.setCell ⟨B.b 3, i, none⟩ (.bool up)).setCell ⟨B.b 4, i, none⟩ (.bool false)).setCell ⟨B.b 8, i * 4, none⟩ (.int .u64 0)).setCell ⟨B.b 8, i * 4 + 1, none⟩ (.int .u64 0)).setCell ⟨B.b 8, i * 4 + 2, none⟩ (.int .u64 0)).setCell ⟨B.b 8, i * 4 + 3, none⟩ (.int .i64 0)).drew B :=
    ((((RStep.refl w B T.n).set hn0 (f := 3) (.inl (by omega)) i _).set hn0 (f := 4) (.inl (by omega)) i _).set_told hn0 i _ _ _ _).drew
  have hV := hok.linked i up
  have hVn : ((T.upd i (linkP (T.at_ i) up)).fl i).n = T.n := upd_n _ _ _
  have v1n : (T.upd i (linkP (T.at_ i) up)).n = T.n := upd_n _ _ _
  have v1f : (T.upd i (linkP (T.at_ i) up)).flush.length = T.n := hok.fl
  obtain ⟨V1, hV1⟩ : ∃ V1, T.upd i (linkP (T.at_ i) up) = V1 := ⟨_, rfl⟩
  rw [hV1] at g4 hV hVn hz v1n v1f
  obtain ⟨V, hVe⟩ : ∃ V, V1.fl i = V := ⟨_, rfl⟩
  rw [hVe] at hV hVn hz
  have HV : Hid (TOk V V.n) := by rw [hVn]; exact Lib.hid hV
  have HVN := Lib.hid hVn
  have HVE := Lib.hid hVe
  have HZ : Hid (againF true V = U) := by rw [← hU]; exact Lib.hid hz.symm
  have V1N := Lib.hid v1n
  have V1F := Lib.hid v1f
  have HI := Lib.hid hi
  have HN0 := Lib.hid hn0
  clear hU hok hT HU HO hn hup hi hn0 hz g1 g2 g3 hV hVe hVn hV1 v1n v1f
  go_enter Try.func23, Try.ntmps23
  go_upto_region 1 with (fail)
  go_region
  generalize World.drew _ = W at g4 s4 ⊢
  clear qt r3 r4 r80 r81 r82 r83 n34 n38 n48 m3 m4 m8 f3 f4 f8
  have i1 : i < V1.n := by rw [V1N.out]; exact HI.out
  have z1 : 0 < V1.n := by omega
  have qt := g4.ownp z1
  rw [V1N.out] at qt
  have r7 := g4.g7 i1
  have f7 := g4.free z1 (f := 7) (.inl (by omega))
  have g5 := g4.set_flush i1 (V1F.out.trans V1N.out.symm)
  rw [HVE.out] at g5
  have s5 := s4.set HN0.out (f := 7) (.inl (by omega)) i (.bool true)
  have HC : Hid (Calls Try.prog 37 #[.pointer (some ⟨B.tb, 0, none⟩), .bool true] (W.setCell ⟨B.b 7, i, none⟩ (.bool true)) (RPost (W.setCell ⟨B.b 7, i, none⟩ (.bool true)) B V.n U)) := Lib.hid (ragain_calls V B true HV.out _ g5 U HZ.out)
  have HS5 := Lib.hid s5
  clear g4 s4 g5 s5 i1 z1
  go_wp2_with (go_at_call 37; (with_reducible refine HC.out.mono ?_); rintro e w' ⟨B', rfl, hT', hS'⟩)
  go_end0
  rw [HVN.out] at hS'
  exact ⟨B', rfl, hT', HS5.out.trans hS'⟩
/-- A port's state is one of the three. -/
def StB (q : TP) : Prop := 0 ≤ q.state ∧ q.state ≤ 2
theorem st_props {T : Tr} (h : AllP StB T) (a k : Nat) : AllP StB (upto (propStep a) k T) := allP_upto (fun i T h => by
  unfold propStep
  split
  · exact (h.upd fun hi => by show (0 : Int) ≤ 0 ∧ (0 : Int) ≤ 2; omega).fl i
  · exact h) k h
theorem clo_st : Clo StB where
  turn q r h := by show (0 : Int) ≤ (if r = 2 ∧ q.edge = true then 2 else 0) ∧ (if r = 2 ∧ q.edge = true then (2 : Int) else 0) ≤ 2; split <;> omega
  chg q h := h
  fwd q h := by show (0 : Int) ≤ 2 ∧ (2 : Int) ≤ 2; omega
  agr q b h := h
  link q b h := h
  prop q h := by show (0 : Int) ≤ 0 ∧ (0 : Int) ≤ 2; omega
  hear q m hm h := h
  age q h := by
    unfold agedP
    dsimp only
    split
    · split
      · exact h
      · exact h
    · exact h
  edge q h := h
  wait q h _ := h
  learn q h := by show (0 : Int) ≤ 1 ∧ (1 : Int) ≤ 2; omega
theorem TJ.st {T : Tr} (h : TJ T) : AllP StB T := fun i hi => (h.ps i hi).s
set_option maxRecDepth 8000 in
set_option maxHeartbeats 8000000 in
theorem rproposed_calls (T : Tr) (B : RB) (a : Nat) (ha : a < T.n) (hok : TOk T (T.n + 1)) (hst : AllP StB T) (w : World) (hT : RefW w B T) (U : Tr) (hU : proposedF a T = U) :
    Calls Try.prog 43 #[.pointer (some ⟨B.tb, 0, none⟩), .int .i64 (a : Int)] w (RPost w B T.n U) := by
  have HU := Lib.hid hU
  have HO := Lib.hid hok
  have HT := Lib.hid hT
  have HA := Lib.hid ha
  have HST := Lib.hid hst
  have hn := hok.n
  have hn0 : 0 < T.n := by omega
  have qt := hT.ownp hn0
  have ra := hT.g9 ha
  have han : (a : Int) < (T.n : Int) := by omega
  have HN0 := Lib.hid hn0
  have HO1 : Hid (TOk T 1) := Lib.hid (hok.mono (by omega))
  clear hok hT hst
  by_cases h34 : (T.at_ a).role = 3 ∨ (T.at_ a).role = 4
  · have HE : Hid (sendF a true T = U) := by rw [← hU]; exact Lib.hid (proposed_34 h34).symm
    have HC : Hid (Calls Try.prog 41 #[.pointer (some ⟨B.tb, 0, none⟩), .int .i64 (a : Int), .bool true] w (RSPost w B T.n U)) := Lib.hid (rsend_calls T B a true ha hn HO1.out.rp HO1.out.room w HT.out U HE.out)
    have un : U.n = T.n := by rw [← HE.out]; exact (shp_send a true T).n
    have ua : U.at_ a = T.at_ a := by rw [← HE.out]; unfold sendF; split <;> rfl
    have UN := Lib.hid un
    have UA := Lib.hid ua
    clear hU hn ha hn0 un ua
    rcases h34 with h | h
    all_goals
      have HR := Lib.hid h
      rw [h] at ra
      clear h
      go_enter Try.func43, Try.ntmps43
      go_upto_region 2 with (go_at_call 41; (with_reducible refine HC.out.mono ?_); rintro e w' ⟨v', rfl, hT', hS'⟩)
      clear qt ra
      have qt : ∀ o, w'.cell? ⟨B.tb, o, none⟩ = _ := hT'.ownp (by rw [UN.out]; exact HN0.out)
      dsimp only at qt
      rw [UN.out] at qt
      have ra : w'.cell? ⟨B.b 9, a, none⟩ = _ := hT'.g9 (by rw [UN.out]; exact HA.out)
      rw [UA.out, HR.out] at ra
      have HT' := Lib.hid hT'
      have HS' := Lib.hid hS'
      clear hT' hS'
      go_wp2
      refine bodyPost_ret (results_none rfl _ _ _) rfl ?_
      exact ⟨_, rfl, HT'.out, HS'.out⟩
  have h3b : ((T.at_ a).role == 3) = false := by simpa using fun h => h34 (.inl h)
  have h4b : ((T.at_ a).role == 4) = false := by simpa using fun h => h34 (.inr h)
  by_cases h1 : (T.at_ a).role = 1
  rotate_left
  · have HE : Hid (T = U) := by rw [← hU]; exact Lib.hid (proposed_no h34 h1).symm
    have h1b : ((T.at_ a).role != 1) = true := by simpa using h1
    clear hU hn ha hn0 h34 h1
    go_enter Try.func43, Try.ntmps43
    go_wp2
    refine bodyPost_ret (results_none rfl _ _ _) rfl ?_
    exact ⟨B, rfl, by rw [← HE.out]; exact HT.out, RStep.refl _ _ _⟩
  have HE : Hid (tellAll (sendF a true (upto (propStep a) T.n T)) = U) := by rw [← hU]; exact Lib.hid (proposed_1 h1).symm
  rw [h1] at ra
  clear hU ha hn0 h34 h1 h3b h4b HO1
  go_enter Try.func43, Try.ntmps43
  go_wp2
  clear qt ra
  go_loopg [4] T.n (fun gh s4 wx => ∃ k : Nat, k + gh = T.n ∧ s4 = .int .i64 (k : Int) ∧ RefW wx B (upto (propStep a) k T) ∧ RStep w B T.n wx B)
  case atStart => exact ⟨0, by omega, rfl, HT.out, RStep.refl _ _ _⟩
  case round =>
    obtain ⟨k, hkg, rfl, hX, hS⟩ := hrel
    have hxo := HO.out.props a k
    have hxs := st_props HST.out a k
    have sn : (upto (propStep a) k T).n = T.n := (shp_props a k T).n
    have HS := Lib.hid hS
    clear hS
    cases gk with
    | zero =>
      have hkM : ¬ ((k : Int) < (T.n : Int)) := by omega
      obtain rfl : k = T.n := by omega
      generalize upto (propStep a) T.n T = X at hX sn hxo HE hxs
      have qt := hX.ownp (by have := HN0.out; omega)
      rw [sn] at qt
      obtain ⟨Y, hY⟩ : ∃ Y, sendF a true X = Y := ⟨_, rfl⟩
      rw [hY] at HE
      have yo : TOk Y T.n := by rw [← hY]; exact hxo.send a true (by omega)
      have yn : Y.n = T.n := by rw [← hY]; exact (shp_send a true X).n.trans sn
      have hx1 : TOk X 1 := hxo.mono (by omega)
      have HC : Hid (Calls Try.prog 41 #[.pointer (some ⟨B.tb, 0, none⟩), .int .i64 (a : Int), .bool true] wr (RSPost wr B X.n Y)) := Lib.hid (rsend_calls X B a true (by rw [sn]; exact HA.out) hx1.n hx1.rp hx1.room wr hX Y hY)
      have HC2 : Hid (∀ w' v, RefW w' { B with ov := v } Y → Calls Try.prog 39 #[.pointer (some ⟨B.tb, 0, none⟩)] w' (RSPost w' { B with ov := v } Y.n U)) := Lib.hid fun w' v h => rtell_calls Y { B with ov := v } yo.n yo.rp (by rw [yn]; exact yo.room) w' h U HE.out
      have HYN := Lib.hid yn
      have HXN := Lib.hid sn
      clear hX sn hxo hY yo yn hx1 hxs
      go_wp2_with (first | (go_at_call 41; (with_reducible refine HC.out.mono ?_); rintro e w' ⟨v', rfl, hT', hS'⟩; have HT' := Lib.hid hT'; have HS' := Lib.hid hS'; clear hT' hS') | (go_at_call 39; (with_reducible refine (HC2.out _ _ HT'.out).mono ?_); rintro e w2 ⟨v2, rfl, hT2, hS2⟩))
      go_end0
      have hS' := HS'.out
      rw [HXN.out] at hS'
      rw [HYN.out] at hS2
      exact ⟨_, rfl, hT2, (HS.out.trans hS').trans hS2⟩
    | succ gh =>
      have hkM : (k : Int) < (T.n : Int) := by omega
      have HSTP : Hid (upto (propStep a) (k + 1) T = propStep a k (upto (propStep a) k T)) := Lib.hid rfl
      generalize upto (propStep a) k T = X at hX sn hxo HSTP hxs
      have hkn : k < X.n := by rw [sn]; omega
      have hX0 : 0 < X.n := by omega
      have hs0 := (hxs k hkn).1
      have qt := hX.ownp hX0
      rw [sn] at qt
      have r5 := hX.g5 hkn
      have r6 := hX.g6 hkn
      have r7 := hX.g7 hkn
      have r9 := hX.g9 hkn
      have r10 := hX.g10 hkn
      have r13 := hX.g13 hkn
      have f7 := hX.free hX0 (f := 7) (.inl (by omega))
      have f10 := hX.free hX0 (f := 10) (.inl (by omega))
      have f13 := hX.free hX0 (f := 13) (.inl (by omega))
      have n1 := hX.ne hX0 10 13 (.inl (by omega)) (.inl (by omega)) (by decide)
      have n2 := hX.nt hX0 10 (.inl (by omega))
      have n3 := hX.nt hX0 13 (.inl (by omega))
      have h1 := hX.set_state hkn 0
      have h2 := h1.set_wait (i := k) (by rw [upd_n]; exact hkn) 15
      rw [upd_at X _ hkn, upd_upd] at h2
      have h3 : RefW ((wr.setCell ⟨B.b 10, k, none⟩ (.int .i64 0)).setCell ⟨B.b 13, k, none⟩ (.int .i64 15)).drew B (X.upd k (propP (X.at_ k))) := h2.drew
      have s3 : RStep w B T.n ((wr.setCell ⟨B.b 10, k, none⟩ (.int .i64 0)).setCell ⟨B.b 13, k, none⟩ (.int .i64 15)).drew B := ((HS.out.set HN0.out (f := 10) (.inl (by omega)) k _).set HN0.out (f := 13) (.inl (by omega)) k _).drew
      have VN := Lib.hid ((upd_n X k (propP (X.at_ k))).trans sn)
      have VF : Hid ((X.upd k (propP (X.at_ k))).flush.length = (X.upd k (propP (X.at_ k))).n) := Lib.hid (by rw [upd_n]; exact hxo.fl)
      have VK : Hid (k < (X.upd k (propP (X.at_ k))).n) := Lib.hid (by rw [upd_n]; exact hkn)
      have H3 := Lib.hid h3
      have S3 := Lib.hid s3
      have HX := Lib.hid hX
      clear h1 h2 h3 s3 hX hkn hX0 hxo sn hxs
      obtain ⟨q, hq⟩ : ∃ q, X.at_ k = q := ⟨_, rfl⟩
      have HP : Hid (k ≠ a → q.role = 2 → q.edge = false → q.agreed = false → q.state ≠ 0 → propStep a k X = (X.upd k (propP q)).fl k) := Lib.hid fun e1 e2 e3 e4 e5 => by rw [← hq] at *; exact prop_do ⟨e1, e2, e3, e4, e5⟩
      have HQ : Hid (¬ (k ≠ a ∧ q.role = 2 ∧ q.edge = false ∧ q.agreed = false ∧ q.state ≠ 0) → propStep a k X = X) := Lib.hid fun h => by rw [← hq] at h; exact prop_skip h
      rw [hq] at r5 r6 r9 r10 r13 hs0 H3 VN VF VK
      clear hq
      by_cases c1 : k = a
      · have cb : ((k : Int) != (a : Int)) = false := by simpa using (show (k : Int) = (a : Int) by omega)
        have HZ := Lib.hid (HQ.out fun h => h.1 c1)
        clear c1
        go_wp2
        go_roundg gh
        case measure => omega
        case rel => exact ⟨k + 1, by omega, by go_num, by rw [HSTP.out, HZ.out]; exact HX.out, HS.out⟩
      have cb : ((k : Int) != (a : Int)) = true := by simpa using (show ¬ (k : Int) = (a : Int) by omega)
      by_cases c2 : q.role = 2
      rotate_left
      · have c2b : (q.role == 2) = false := by simpa using c2
        have HZ := Lib.hid (HQ.out fun h => c2 h.2.1)
        clear c1 c2
        go_wp2
        go_roundg gh
        case measure => omega
        case rel => exact ⟨k + 1, by omega, by go_num, by rw [HSTP.out, HZ.out]; exact HX.out, HS.out⟩
      rw [c2] at r9
      cases c3 : q.edge with
      | true =>
        rw [c3] at r5
        have HZ := Lib.hid (HQ.out fun h => by have := h.2.2.1; rw [c3] at this; cases this)
        clear c1 c2 c3
        go_wp2
        go_roundg gh
        case measure => omega
        case rel => exact ⟨k + 1, by omega, by go_num, by rw [HSTP.out, HZ.out]; exact HX.out, HS.out⟩
      | false =>
        rw [c3] at r5
        cases c4 : q.agreed with
        | true =>
          rw [c4] at r6
          have HZ := Lib.hid (HQ.out fun h => by have := h.2.2.2.1; rw [c4] at this; cases this)
          clear c1 c2 c3 c4
          go_wp2
          go_roundg gh
          case measure => omega
          case rel => exact ⟨k + 1, by omega, by go_num, by rw [HSTP.out, HZ.out]; exact HX.out, HS.out⟩
        | false =>
          rw [c4] at r6
          by_cases c5 : q.state = 0
          · have HZ := Lib.hid (HQ.out fun h => h.2.2.2.2 c5)
            rw [c5] at r10
            clear c1 c2 c3 c4 c5 hs0
            go_wp2
            go_roundg gh
            case measure => omega
            case rel => exact ⟨k + 1, by omega, by go_num, by rw [HSTP.out, HZ.out]; exact HX.out, HS.out⟩
          · have c5b : 0 < q.state := by omega
            have HZ := Lib.hid (HP.out c1 c2 c3 c4 c5)
            clear c1 c2 c3 c4 c5 hs0
            go_upto_region 7 with (fail)
            go_region
            have g3 := H3.out
            have s3 := S3.out
            clear H3 S3
            generalize World.drew _ = W at g3 s3 ⊢
            clear qt r5 r6 r7 r9 r10 r13 f7 f10 f13 n1 n2 n3
            generalize X.upd k (propP q) = V at HZ g3 VN VF VK
            have zv : 0 < V.n := by have := VK.out; omega
            have qt := g3.ownp zv
            rw [VN.out] at qt
            have r7 := g3.g7 VK.out
            have f7 := g3.free zv (f := 7) (.inl (by omega))
            have G := Lib.hid (g3.set_flush VK.out VF.out)
            have S := Lib.hid (s3.set HN0.out (f := 7) (.inl (by omega)) k (.bool true))
            clear g3 s3 zv
            go_wp2
            go_roundg gh
            case measure => omega
            case rel => exact ⟨k + 1, by omega, by go_num, by rw [HSTP.out, HZ.out]; exact G.out, S.out⟩
theorem upd_self (T : Tr) {i : Nat} (hi : i < T.n) : T.upd i (T.at_ i) = T := by
  unfold Tr.upd Tr.at_
  have : T.ps.set i (T.ps.getD i tp0) = T.ps := by
    apply List.ext_getElem?
    intro j
    have hi' : i < T.ps.length := hi
    rw [List.getElem?_set]
    split
    · rename_i e
      subst e
      simp [List.getD, hi']
    · rfl
  rw [this]
/-- What was told gets older. -/
def aged1 (q : TP) : TP := if q.p.has = true then (if q.left - 1 ≤ 0 then { q with p := { q.p with has := false, told := v0 }, left := q.left - 1 } else { q with left := q.left - 1 }) else q
theorem aged_eq (q : TP) : agedP q = ({ aged1 q with change := decC q }, q.p.has && decide (q.left - 1 ≤ 0)) := by
  unfold agedP aged1 decC
  dsimp only
  by_cases h : q.p.has = true
  · rw [if_pos h, if_pos h, h]
    by_cases hl : q.left - 1 ≤ 0
    · rw [if_pos hl, if_pos hl, decide_eq_true hl]; rfl
    · rw [if_neg hl, if_neg hl, decide_eq_false hl]; rfl
  · rw [if_neg h, if_neg h, Bool.eq_false_iff.2 h]; rfl
theorem aged1_change (q : TP) : (aged1 q).change = q.change := by
  unfold aged1
  split
  · split <;> rfl
  · rfl
theorem RefW.set_hello {w : World} {B : RB} {T : Tr} (h : RefW w B T) (x : Int) : RefW (w.setCell ⟨B.tb, 21, none⟩ (.int .i64 x)) B { T with hello := x } := by
  have hf : Fr (fun k => k = B.tb) w (w.setCell ⟨B.tb, 21, none⟩ (.int .i64 x)) := (Fr.refl (fun k => k = B.tb) w).set (p := ⟨B.tb, 21, none⟩) (.inl rfl) _
  exact ⟨h.t.set 21 _, h.a, fun hn k hk => (h.r hn k hk).fr hf (h.nt hn k hk).symm, h.ne, h.nt, own_fr h.o hf fun k hk e => by subst e; exact h.ov_tb hk⟩
theorem RStep.set_own {w w' : World} {B B' : RB} {n : Nat} (h : RStep w B n w' B') (o : Nat) (v : Value) : RStep w B n (w'.setCell ⟨B'.tb, o, none⟩ v) B' :=
  h.trans ⟨(Fr.refl _ w').set (p := ⟨B'.tb, o, none⟩) (.inl (.inl rfl)) _, rfl, fun _ h => .inl h⟩
set_option maxRecDepth 8000 in
set_option maxHeartbeats 16000000 in
theorem rtick_calls (T : Tr) (B : RB) (hok : TOk T (2 * T.n)) (hst : AllP StB T) (w : World) (hT : RefW w B T) (U : Tr) (hU : tickF T = U) :
    Calls Try.prog 22 #[.pointer (some ⟨B.tb, 0, none⟩)] w (RPost w B T.n U) := by
  have HU := Lib.hid hU
  have HO := Lib.hid hok
  have HT := Lib.hid hT
  have HST := Lib.hid hst
  have hn := hok.n
  clear hU hok hT hst
  go_enter Try.func22, Try.ntmps22
  go_wp2
  go_loopg [3, 2] T.n (fun gh s3 s2 wx => ∃ k : Nat, k + gh = T.n ∧ s3 = .int .i64 (k : Int) ∧ s2 = .bool (uptoB ageStep k (T, false)).2 ∧ RefW wx B (uptoB ageStep k (T, false)).1 ∧ RStep w B T.n wx B)
  case atStart => exact ⟨0, by omega, rfl, rfl, HT.out, RStep.refl _ _ _⟩
  case round =>
    obtain ⟨k, hkg, rfl, rfl, hX, hS⟩ := hrel
    have hxo := HO.out.ages k false
    have sn : (uptoB ageStep k (T, false)).1.n = T.n := (shp_ages k (T, false)).n
    have HS := Lib.hid hS
    clear hS
    cases gk with
    | succ gh =>
      have hkM : (k : Int) < (T.n : Int) := by omega
      have HSTP : Hid (uptoB ageStep (k + 1) (T, false) = ageStep k (uptoB ageStep k (T, false))) := Lib.hid rfl
      generalize uptoB ageStep k (T, false) = X at hX sn hxo HSTP ⊢
      obtain ⟨X, xb⟩ := X
      dsimp only at hX sn hxo
      have hkn : k < X.n := by rw [sn]; omega
      have hX0 : 0 < X.n := by omega
      have HN0 : Hid (0 < T.n) := Lib.hid (by omega)
      have HKN := Lib.hid hkn
      have SN := Lib.hid sn
      have hq := hxo.ps k hkn
      obtain ⟨q, hqe⟩ : ∃ q, X.at_ k = q := ⟨_, rfl⟩
      have hstp : ageStep k (X, xb) = (X.upd k { aged1 q with change := decC q }, xb || (q.p.has && decide (q.left - 1 ≤ 0))) := by
        show (X.upd k (agedP (X.at_ k)).1, xb || (agedP (X.at_ k)).2) = _
        rw [aged_eq, hqe]
      rw [hstp] at HSTP
      rw [hqe] at hq
      have HQE := Lib.hid hqe
      have hc := hq.c
      have hl := hq.l
      have HC := Lib.hid hc
      have qt := hX.ownp hX0
      rw [sn] at qt
      have r4 : wr.cell? ⟨B.b 4, k, none⟩ = some (.bool (X.at_ k).p.has) := hX.get hkn (.inl (by omega)) rfl
      rw [hqe] at r4
      have HX := Lib.hid hX
      clear hstp hX sn hxo hq hc
      go_upto_if 20 with (fail)
      go_cut [2] (fun s2 wx => s2 = .bool (xb || (q.p.has && decide (q.left - 1 ≤ 0))) ∧ RefW wx B (X.upd k (aged1 q)) ∧ RStep w B T.n wx B)
      case first =>
        cases c1 : q.p.has with
        | false =>
          have HE : Hid (X.upd k (aged1 q) = X) := Lib.hid (by
            have : aged1 q = q := by unfold aged1; rw [if_neg (by rw [c1]; simp)]
            rw [this, ← hqe]; exact upd_self X hkn)
          have HD : Hid ((q.p.has && decide (q.left - 1 ≤ 0)) = false) := Lib.hid (by rw [c1]; rfl)
          rw [c1] at r4
          clear c1 hl hqe hkn hX0
          go_wp2
          go_meet
          exact ⟨by rw [HD.out, Bool.or_false], by rw [HE.out]; exact HX.out, HS.out⟩
        | true =>
          obtain ⟨hl1, hl6⟩ := hl c1
          have s2 : IntKind.i64.wrap (q.left - 1) = q.left - 1 := IntWalk.i64_in _ (by omega)
          have hX := HX.out
          have r12 : wr.cell? ⟨B.b 12, k, none⟩ = some (.int .i64 (X.at_ k).left) := hX.get hkn (.inl (by omega)) rfl
          rw [hqe] at r12
          rw [c1] at r4
          have f12 := hX.free hX0 (f := 12) (.inl (by omega))
          have m12 := hX.nt hX0 12 (.inl (by omega))
          have g1 := hX.set_left hkn (q.left - 1)
          rw [hqe] at g1
          have G1 := Lib.hid g1
          have S1 := Lib.hid (HS.out.set HN0.out (f := 12) (.inl (by omega)) k (.int .i64 (q.left - 1)))
          clear g1 hX
          by_cases hll : q.left - 1 ≤ 0
          · have hlb : q.left - 1 < 1 := by omega
            have HE : Hid (aged1 q = { q with p := { q.p with has := false, told := v0 }, left := q.left - 1 }) := Lib.hid (by unfold aged1; rw [if_pos c1, if_pos hll])
            have HD : Hid ((q.p.has && decide (q.left - 1 ≤ 0)) = true) := Lib.hid (by rw [c1, decide_eq_true hll]; rfl)
            clear hl c1
            go_upto_region 7 with (fail)
            have hV := G1.out
            have hS1 := S1.out
            clear G1 S1
            generalize wr.setCell ⟨B.b 12, k, none⟩ (.int .i64 (q.left - 1)) = W at hV hS1 ⊢
            clear qt r4 r12 f12 m12 s2
            have VN : Hid ((X.upd k { q with left := q.left - 1 }).n = T.n) := Lib.hid ((upd_n _ _ _).trans SN.out)
            have VA : Hid ((X.upd k { q with left := q.left - 1 }).at_ k = { q with left := q.left - 1 }) := Lib.hid (upd_at X _ hkn)
            have VU : Hid (∀ y, (X.upd k { q with left := q.left - 1 }).upd k y = X.upd k y) := Lib.hid fun y => upd_upd _ _ _ _
            generalize X.upd k { q with left := q.left - 1 } = V at hV VN VA VU
            have vk : k < V.n := by have := VN.out; omega
            have v0' : 0 < V.n := by omega
            have qt := hV.ownp v0'
            rw [VN.out] at qt
            have r4 : W.cell? ⟨B.b 4, k, none⟩ = some (.bool (V.at_ k).p.has) := hV.get vk (.inl (by omega)) rfl
            have r80 : W.cell? ⟨B.b 8, k * 4, none⟩ = some (.int .u64 (V.at_ k).p.told.root) := hV.get4 vk (f := 8) (.inl (by omega)) rfl 0 (by omega)
            have r81 : W.cell? ⟨B.b 8, k * 4 + 1, none⟩ = some (.int .u64 (V.at_ k).p.told.cost) := hV.get4 vk (f := 8) (.inl (by omega)) rfl 1 (by omega)
            have r82 : W.cell? ⟨B.b 8, k * 4 + 2, none⟩ = some (.int .u64 (V.at_ k).p.told.bridge) := hV.get4 vk (f := 8) (.inl (by omega)) rfl 2 (by omega)
            have r83 : W.cell? ⟨B.b 8, k * 4 + 3, none⟩ = some (.int .i64 (V.at_ k).p.told.port) := hV.get4 vk (f := 8) (.inl (by omega)) rfl 3 (by omega)
            have n48 := hV.ne v0' 4 8 (.inl (by omega)) (.inl (by omega)) (by decide)
            have m4 := hV.nt v0' 4 (.inl (by omega))
            have m8 := hV.nt v0' 8 (.inl (by omega))
            have f4 := hV.free v0' (f := 4) (.inl (by omega))
            have f8 := hV.free v0' (f := 8) (.inl (by omega))
            have g2 := hV.set_has vk false
            have g3 := g2.set_told (i := k) (by rw [upd_n]; exact vk) v0
            rw [upd_at V _ vk, upd_upd, VU.out, VA.out] at g3
            have g4 : RefW (((((W.setCell ⟨B.b 4, k, none⟩ (.bool false)).setCell ⟨B.b 8, k * 4, none⟩ (.int .u64 0)).setCell ⟨B.b 8, k * 4 + 1, none⟩ (.int .u64 0)).setCell ⟨B.b 8, k * 4 + 2, none⟩ (.int .u64 0)).setCell ⟨B.b 8, k * 4 + 3, none⟩ (.int .i64 0)).drew B (X.upd k { q with p := { q.p with has := false, told := v0 }, left := q.left - 1 }) := g3.drew
            have s4 : RStep w B T.n (((((W.setCell ⟨B.b 4, k, none⟩ (.bool false)).setCell ⟨B.b 8, k * 4, none⟩ (.int .u64 0)).setCell ⟨B.b 8, k * 4 + 1, none⟩ (.int .u64 0)).setCell ⟨B.b 8, k * 4 + 2, none⟩ (.int .u64 0)).setCell ⟨B.b 8, k * 4 + 3, none⟩ (.int .i64 0)).drew B :=
              ((hS1.set HN0.out (f := 4) (.inl (by omega)) k _).set_told HN0.out k _ _ _ _).drew
            clear g2 g3 hV hS1 vk v0' hqe hkn hX0
            go_region
            generalize World.drew _ = W2 at g4 s4 ⊢
            clear qt r4 r80 r81 r82 r83 n48 m4 m8 f4 f8
            go_wp2
            go_meet
            exact ⟨by rw [HD.out, Bool.or_true], by rw [HE.out]; exact g4, s4⟩
          · have hlb : ¬ q.left - 1 < 1 := by omega
            have HE : Hid (aged1 q = { q with left := q.left - 1 }) := Lib.hid (by unfold aged1; rw [if_pos c1, if_neg hll])
            have HD : Hid ((q.p.has && decide (q.left - 1 ≤ 0)) = false) := Lib.hid (by rw [c1, decide_eq_false hll]; rfl)
            clear hl c1 hqe hkn hX0
            go_wp2
            go_meet
            exact ⟨by rw [HD.out, Bool.or_false], by rw [HE.out]; exact G1.out, S1.out⟩
      case rest =>
        obtain ⟨rfl, hV, hSV⟩ := hcut
        have VN : Hid ((X.upd k (aged1 q)).n = T.n) := Lib.hid ((upd_n _ _ _).trans SN.out)
        have VA : Hid ((X.upd k (aged1 q)).at_ k = aged1 q) := Lib.hid (upd_at X _ hkn)
        have VU : Hid (∀ y, (X.upd k (aged1 q)).upd k y = X.upd k y) := Lib.hid fun y => upd_upd _ _ _ _
        generalize X.upd k (aged1 q) = V at hV VN VA VU
        have vk : k < V.n := by have := VN.out; omega
        have v0' : 0 < V.n := by omega
        clear qt r4 hl hqe hkn hX0
        have qt := hV.ownp v0'
        rw [VN.out] at qt
        have r14 := hV.g14 vk
        rw [VA.out, aged1_change] at r14
        have f14 := hV.free v0' (f := 14) (.inl (by omega))
        have hc := HC.out
        have s1 : IntKind.i64.wrap (q.change - 1) = q.change - 1 := IntWalk.i64_in _ (by omega)
        have G0 := Lib.hid hV
        have S0 := Lib.hid hSV
        by_cases hcc : 0 < q.change
        · have g1 := hV.set_change vk (q.change - 1)
          rw [VU.out, VA.out] at g1
          have HD : Hid (decC q = q.change - 1) := Lib.hid (by unfold decC; rw [if_neg (by omega)])
          have G1 := Lib.hid g1
          have S1 := Lib.hid (hSV.set HN0.out (f := 14) (.inl (by omega)) k (.int .i64 (q.change - 1)))
          clear g1 hV hSV vk v0'
          go_wp2
          go_roundg gh
          case measure => omega
          case rel => exact ⟨k + 1, by omega, by go_num, by rw [HSTP.out], by rw [HSTP.out, HD.out]; exact G1.out, S1.out⟩
        · have HD : Hid (X.upd k { aged1 q with change := decC q } = V) := Lib.hid (by
            have e0 : decC q = (aged1 q).change := by rw [aged1_change]; unfold decC; rw [if_pos (by omega)]; omega
            rw [e0, ← VA.out, ← VU.out]
            exact upd_self V vk)
          clear hV hSV vk v0'
          go_wp2
          go_roundg gh
          case measure => omega
          case rel => exact ⟨k + 1, by omega, by go_num, by rw [HSTP.out], by rw [HSTP.out, HD.out]; exact G0.out, S0.out⟩
    | zero =>
      have hkM : ¬ ((k : Int) < (T.n : Int)) := by omega
      obtain rfl : k = T.n := by omega
      have T1 : Hid (tick1 T = if (uptoB ageStep T.n (T, false)).2 = true then againF false (uptoB ageStep T.n (T, false)).1 else (uptoB ageStep T.n (T, false)).1) := Lib.hid rfl
      generalize uptoB ageStep T.n (T, false) = X at hX sn hxo T1 ⊢
      obtain ⟨X, Xb⟩ := X
      dsimp only at hX sn hxo T1
      have qt := hX.own
      rw [sn] at qt
      have HX := Lib.hid hX
      have HXO : Hid (TOk X X.n) := Lib.hid (hxo.mono (by omega))
      have SN := Lib.hid sn
      clear hX sn hxo
      go_upto_if 68 with (fail)
      go_cut [] (fun wx => ∃ B' : RB, RefW wx B' (tick1 T) ∧ RStep w B T.n wx B')
      case first =>
        cases Xb with
        | false =>
          have HE : Hid (tick1 T = X) := by have h := T1.out; rw [if_neg (by simp)] at h; exact Lib.hid h
          go_wp2
          go_meet
          exact ⟨B, by rw [HE.out]; exact HX.out, HS.out⟩
        | true =>
          have HE : Hid (againF false X = tick1 T) := by have h := T1.out; rw [if_pos rfl] at h; exact Lib.hid h.symm
          have HC : Hid (Calls Try.prog 37 #[.pointer (some ⟨B.tb, 0, none⟩), .bool false] wr (RPost wr B X.n (tick1 T))) := Lib.hid (ragain_calls X B false HXO.out wr HX.out (tick1 T) HE.out)
          go_wp2_with (go_at_call 37; (with_reducible refine HC.out.mono ?_); rintro e w' ⟨B', rfl, hT', hS'⟩)
          rw [SN.out] at hS'
          go_meet
          exact ⟨B', hT', HS.out.trans hS'⟩
      case rest =>
        obtain ⟨B1, hT1, hS1⟩ := hcut
        obtain ⟨tb1, b1, a1, c1, ov1⟩ := B1
        obtain rfl : tb1 = B.tb := hS1.tb
        have y1 : TOk (tick1 T) T.n := HO.out.tick1'
        have ys : AllP StB (tick1 T) := allP_tick1 clo_st HST.out
        have yn : (tick1 T).n = T.n := (shp_tick1 T).n
        have HU2 : Hid (helloF (upto waitStep T.n (tick1 T)) = U) := Lib.hid HU.out
        generalize tick1 T = Y at hT1 y1 yn HU2 ys
        have HT1 := Lib.hid hT1
        have HS1 := Lib.hid hS1
        have Y1 := Lib.hid y1
        have YN := Lib.hid yn
        have YS := Lib.hid ys
        clear qt hT1 hS1 y1 yn ys T1 HX HXO SN HU HO HT HS
        go_wp2
        go_loopg [4] T.n (fun gh s4 wx => ∃ k : Nat, k + gh = T.n ∧ s4 = .int .i64 (k : Int) ∧ RefW wx ⟨B.tb, b1, a1, c1, ov1⟩ (upto waitStep k Y) ∧ RStep w B T.n wx ⟨B.tb, b1, a1, c1, ov1⟩)
        case atStart => exact ⟨0, by omega, rfl, HT1.out, HS1.out⟩
        case round =>
          obtain ⟨k, hkg, rfl, hX, hS⟩ := hrel
          have HS := Lib.hid hS
          clear hS
          have hxo := Y1.out.waits k (by have := YN.out; omega)
          have hxs : AllP StB (upto waitStep k Y) := allP_waits clo_st k (by have := YN.out; omega) YS.out
          have sn : (upto waitStep k Y).n = T.n := (shp_waits k Y).n.trans YN.out
          cases gk with
          | zero =>
            have hkM : ¬ ((k : Int) < (T.n : Int)) := by omega
            obtain rfl : k = T.n := by omega
            generalize upto waitStep T.n Y = X at hX sn hxo HU2 hxs
            have hhl := hxo.hello
            have qt := hX.own
            dsimp only at qt
            rw [sn] at qt
            have ft : ∀ o, wr.frozen? ⟨B.tb, o, none⟩ = false := hX.t.free
            have hx2 := hX.set_hello (X.hello - 1)
            have hx3 := hx2.set_hello 2
            have hS3 := HS.out.set_own 21 (.int .i64 (X.hello - 1))
            have hS4 := hS3.set_own 21 (.int .i64 2)
            have s1 : IntKind.i64.wrap (X.hello - 1) = X.hello - 1 := IntWalk.i64_in _ (by omega)
            have HX2 := Lib.hid hx2
            have HX3 := Lib.hid hx3
            have HS3 := Lib.hid hS3
            have HS4 := Lib.hid hS4
            have HX3O : Hid (TOk { X with hello := 2 } X.n) := by
              rw [sn]
              exact Lib.hid (hxo.step (U := { X with hello := 2 }) (m := 0) ⟨rfl, rfl, rfl, Nat.le_refl _⟩ ⟨fun h => h, fun _ => by show (-1 : Int) ≤ 2 ∧ (2 : Int) ≤ 2; omega⟩ hxo.ps (by omega))
            have SN := Lib.hid sn
            clear hX hx2 hx3 hxo sn hS3 hS4 hxs
            by_cases hh : X.hello - 1 ≤ 0
            · have HE : Hid (tellAll { X with hello := 2 } = U) := by have h := HU2.out; unfold helloF at h; rw [if_pos hh] at h; exact Lib.hid h
              have HC : Hid (Calls Try.prog 39 #[.pointer (some ⟨B.tb, 0, none⟩)] ((wr.setCell ⟨B.tb, 21, none⟩ (.int .i64 (X.hello - 1))).setCell ⟨B.tb, 21, none⟩ (.int .i64 2)) (RSPost ((wr.setCell ⟨B.tb, 21, none⟩ (.int .i64 (X.hello - 1))).setCell ⟨B.tb, 21, none⟩ (.int .i64 2)) ⟨B.tb, b1, a1, c1, ov1⟩ X.n U)) :=
                Lib.hid (rtell_calls { X with hello := 2 } ⟨B.tb, b1, a1, c1, ov1⟩ HX3O.out.n HX3O.out.rp HX3O.out.room _ HX3.out U HE.out)
              clear HU2
              go_wp2_with (go_at_call 39; (with_reducible refine HC.out.mono ?_); rintro e w' ⟨v4, rfl, hT', hS'⟩)
              go_end0
              rw [SN.out] at hS'
              exact ⟨_, rfl, hT', HS4.out.trans hS'⟩
            · have HE : Hid ({ X with hello := X.hello - 1 } = U) := by have h := HU2.out; unfold helloF at h; rw [if_neg hh] at h; exact Lib.hid h
              clear HU2
              go_wp2
              go_end0
              exact ⟨_, rfl, by rw [← HE.out]; exact HX2.out, HS3.out⟩
          | succ gh =>
            have hkM : (k : Int) < (T.n : Int) := by omega
            have HSTP : Hid (upto waitStep (k + 1) Y = waitStep k (upto waitStep k Y)) := Lib.hid rfl
            generalize upto waitStep k Y = X at hX sn hxo HSTP hxs
            have hkn : k < X.n := by rw [sn]; omega
            have hX0 : 0 < X.n := by omega
            have HN0 : Hid (0 < T.n) := Lib.hid (by omega)
            have hs := hxs k hkn
            have qt := hX.ownp hX0
            dsimp only at qt
            rw [sn] at qt
            have r9 : wr.cell? ⟨b1 9, k, none⟩ = some (.int .i64 (X.at_ k).role) := hX.g9 hkn
            have r10 : wr.cell? ⟨b1 10, k, none⟩ = some (.int .i64 (X.at_ k).state) := hX.g10 hkn
            have r13 : wr.cell? ⟨b1 13, k, none⟩ = some (.int .i64 (X.at_ k).wait) := hX.g13 hkn
            have f10 : ∀ o, wr.frozen? ⟨b1 10, o, none⟩ = false := hX.free hX0 (f := 10) (.inl (by omega))
            have f13 : ∀ o, wr.frozen? ⟨b1 13, o, none⟩ = false := hX.free hX0 (f := 13) (.inl (by omega))
            have n1 : b1 10 ≠ b1 13 := hX.ne hX0 10 13 (.inl (by omega)) (.inl (by omega)) (by decide)
            have m10 : B.tb ≠ b1 10 := hX.nt hX0 10 (.inl (by omega))
            have m13 : B.tb ≠ b1 13 := hX.nt hX0 13 (.inl (by omega))
            have hq := (hxo.ps k hkn).w
            have w1 := @wait_skip k X
            have w2 := @wait_more k X
            have w3 := @wait_learn k X
            have w4 := @wait_fwd k X
            have g1 := hX.set_wait hkn ((X.at_ k).wait - 1)
            have hqe' : ∃ q, X.at_ k = q := ⟨_, rfl⟩
            obtain ⟨q, hqe⟩ := hqe'
            have VN : Hid ((X.upd k { q with wait := q.wait - 1 }).n = T.n) := Lib.hid ((upd_n _ _ _).trans sn)
            have VF : Hid ((X.upd k { q with wait := q.wait - 1 }).flush.length = (X.upd k { q with wait := q.wait - 1 }).n) := Lib.hid (by rw [upd_n]; exact hxo.fl)
            have VA : Hid ((X.upd k { q with wait := q.wait - 1 }).at_ k = { q with wait := q.wait - 1 }) := Lib.hid (upd_at X _ hkn)
            have VU : Hid (∀ y, (X.upd k { q with wait := q.wait - 1 }).upd k y = X.upd k y) := Lib.hid fun y => upd_upd _ _ _ _
            have VK : Hid (k < (X.upd k { q with wait := q.wait - 1 }).n) := Lib.hid (by rw [upd_n]; exact hkn)
            rw [hqe] at r9 r10 r13 hq hs w1 w2 w3 w4 g1
            obtain ⟨hs0, hs2⟩ := hs
            have W1 := Lib.hid w1
            have W2 := Lib.hid w2
            have W3 := Lib.hid w3
            have W4 := Lib.hid w4
            have HX := Lib.hid hX
            have G1 := Lib.hid g1
            have S1 := Lib.hid (HS.out.set HN0.out (f := 13) (.inl (by omega)) k (.int .i64 (q.wait - 1)))
            have SN := Lib.hid sn
            clear hX sn hxo hkn hX0 hqe w1 w2 w3 w4 g1 hxs
            by_cases c2 : q.role = 2
            rotate_left
            · have c2b : (q.role == 2) = false := by simpa using c2
              have HZ := Lib.hid (W1.out (.inl c2))
              clear c2
              go_wp2
              go_roundg gh
              case measure => omega
              case rel => exact ⟨k + 1, by omega, by go_num, by rw [HSTP.out, HZ.out]; exact HX.out, HS.out⟩
            by_cases c3 : q.state = 2
            · have HZ := Lib.hid (W1.out (.inr c3))
              rw [c2] at r9
              rw [c3] at r10
              clear c2 c3 hs0 hs2
              go_wp2
              go_roundg gh
              case measure => omega
              case rel => exact ⟨k + 1, by omega, by go_num, by rw [HSTP.out, HZ.out]; exact HX.out, HS.out⟩
            have c3b : q.state < 2 := by omega
            have hnot : Hid (¬ (q.role ≠ 2 ∨ q.state = 2)) := Lib.hid (by rintro (h | h); exact h c2; exact c3 h)
            rw [c2] at r9
            clear c2 c3
            have s1 : IntKind.i64.wrap (q.wait - 1) = q.wait - 1 := IntWalk.i64_in _ (by omega)
            by_cases c4 : 0 < q.wait - 1
            · have HZ := Lib.hid (W2.out hnot.out c4)
              have c4b : ¬ q.wait - 1 ≤ 0 := by omega
              go_wp2
              go_roundg gh
              case measure => omega
              case rel => exact ⟨k + 1, by omega, by go_num, by rw [HSTP.out, HZ.out]; exact G1.out, S1.out⟩
            have c4b : q.wait - 1 ≤ 0 := by omega
            by_cases c5 : q.state = 0
            · have HZ := Lib.hid (W3.out hnot.out c4 c5)
              rw [c5] at r10
              clear c5 c3b hs0 hs2
              go_upto_region 20 with (fail)
              have hV := G1.out
              have hSV := S1.out
              clear G1 S1
              generalize wr.setCell ⟨b1 13, k, none⟩ (.int .i64 (q.wait - 1)) = W at hV hSV ⊢
              clear qt r9 r10 r13 f10 f13 n1 m10 m13
              generalize X.upd k { q with wait := q.wait - 1 } = V at hV VN VA VU VF VK
              have vk := VK.out
              have v0' : 0 < V.n := by omega
              have qt := hV.ownp v0'
              dsimp only at qt
              rw [VN.out] at qt
              have r10 : W.cell? ⟨b1 10, k, none⟩ = some (.int .i64 (V.at_ k).state) := hV.g10 vk
              have r13 : W.cell? ⟨b1 13, k, none⟩ = some (.int .i64 (V.at_ k).wait) := hV.g13 vk
              have f10 : ∀ o, W.frozen? ⟨b1 10, o, none⟩ = false := hV.free v0' (f := 10) (.inl (by omega))
              have f13 : ∀ o, W.frozen? ⟨b1 13, o, none⟩ = false := hV.free v0' (f := 13) (.inl (by omega))
              have n1 : b1 10 ≠ b1 13 := hV.ne v0' 10 13 (.inl (by omega)) (.inl (by omega)) (by decide)
              have m10 : B.tb ≠ b1 10 := hV.nt v0' 10 (.inl (by omega))
              have m13 : B.tb ≠ b1 13 := hV.nt v0' 13 (.inl (by omega))
              have g2 := hV.set_state vk 1
              have g3 := g2.set_wait (i := k) (by rw [upd_n]; exact vk) 15
              rw [upd_at V _ vk, upd_upd, VU.out, VA.out] at g3
              have g4 : RefW ((W.setCell ⟨b1 10, k, none⟩ (.int .i64 1)).setCell ⟨b1 13, k, none⟩ (.int .i64 15)).drew ⟨B.tb, b1, a1, c1, ov1⟩ (X.upd k { q with state := 1, wait := 15 }) := g3.drew
              have s4 : RStep w B T.n ((W.setCell ⟨b1 10, k, none⟩ (.int .i64 1)).setCell ⟨b1 13, k, none⟩ (.int .i64 15)).drew ⟨B.tb, b1, a1, c1, ov1⟩ := ((hSV.set HN0.out (f := 10) (.inl (by omega)) k _).set HN0.out (f := 13) (.inl (by omega)) k _).drew
              clear g2 g3 hV hSV vk v0'
              go_region
              generalize World.drew _ = W2 at g4 s4 ⊢
              clear qt r10 r13 f10 f13 n1 m10 m13
              go_wp2
              go_roundg gh
              case measure => omega
              case rel => exact ⟨k + 1, by omega, by go_num, by rw [HSTP.out, HZ.out]; exact g4, s4⟩
            · have c5b : (q.state == 0) = false := by simpa using c5
              have hz := W4.out hnot.out c4 c5
              have hV := G1.out
              generalize X.upd k { q with wait := q.wait - 1 } = V at hV hz VN VA VU VF VK
              obtain ⟨Z, hZ⟩ : ∃ Z, forwardF k V = Z := ⟨_, rfl⟩
              have HC : Hid (Calls Try.prog 38 #[.pointer (some ⟨B.tb, 0, none⟩), .int .i64 (k : Int)] (wr.setCell ⟨b1 13, k, none⟩ (.int .i64 (q.wait - 1))) (RQPost (wr.setCell ⟨b1 13, k, none⟩ (.int .i64 (q.wait - 1))) ⟨B.tb, b1, a1, c1, ov1⟩ V.n Z)) :=
                Lib.hid (rforward_calls V ⟨B.tb, b1, a1, c1, ov1⟩ k VK.out (by rw [VN.out]; exact hn) VF.out _ hV Z hZ)
              have HZ := Lib.hid (hz.trans hZ)
              clear hz hV hZ c5 G1
              go_wp2_with (go_at_call 38; (with_reducible refine HC.out.mono ?_); rintro e w' ⟨rfl, hT', hS'⟩)
              rw [VN.out] at hS'
              go_roundg gh
              case measure => omega
              case rel => exact ⟨k + 1, by omega, by go_num, by rw [HSTP.out, HZ.out]; exact hT', S1.out.trans hS'⟩
/-- A message that lies in a block of its own, and a reference's tree that has heard it. -/
structure Heard (w W : World) (B : RB) (T T1 : Tr) (b5 : Nat) (m : Msg) : Prop where
  t : RefW W B T1
  m : Blk W b5 #[.int .i64 m.kind, .int .u64 m.v.root, .int .u64 m.v.cost, .int .u64 m.v.bridge, .int .i64 m.v.port, .bool m.change, .bool m.ack, .bool m.proposal, .bool m.agreement, .bool m.learning, .bool m.forwarding, .int .i64 m.role, .int .i64 m.age, .int .i64 m.maxAge, .int .i64 m.hello, .int .i64 m.delay] 41
  s : RStep w B T.n W B
  no : ¬ ROwn B T.n b5
  n : T1.n = T.n
theorem heard_of {w : World} {B : RB} {T : Tr} (hT : RefW w B T) {i : Nat} (hi : i < T.n) (m : Msg) :
    Heard w ((w.alloc (.cells #[.int .i64 m.kind, .int .u64 m.v.root, .int .u64 m.v.cost, .int .u64 m.v.bridge, .int .i64 m.v.port, .bool m.change, .bool m.ack, .bool m.proposal, .bool m.agreement, .bool m.learning, .bool m.forwarding, .int .i64 m.role, .int .i64 m.age, .int .i64 m.maxAge, .int .i64 m.hello, .int .i64 m.delay] 41)).setCell ⟨B.b 5, i, none⟩ (.bool false)) B T (T.upd i { T.at_ i with edge := false }) w.heap.size m := by
  have hb := (Below.refl w.heap.size w).alloc (Nat.le_refl _) (.cells #[.int .i64 m.kind, .int .u64 m.v.root, .int .u64 m.v.cost, .int .u64 m.v.bridge, .int .i64 m.v.port, .bool m.change, .bool m.ack, .bool m.proposal, .bool m.agreement, .bool m.learning, .bool m.forwarding, .int .i64 m.role, .int .i64 m.age, .int .i64 m.maxAge, .int .i64 m.hello, .int .i64 m.delay] 41)
  have hT1 := hT.below hb
  have hn0 : 0 < T.n := by omega
  have hno : ¬ ROwn B T.n w.heap.size := fun h => by have := hT.own_lt h; omega
  refine ⟨hT1.set_edge hi false, ?_, (RStep.below B T.n hb).set hn0 (f := 5) (.inl (by omega)) i _, hno, upd_n _ _ _⟩
  refine (Blk.new w #[.int .i64 m.kind, .int .u64 m.v.root, .int .u64 m.v.cost, .int .u64 m.v.bridge, .int .i64 m.v.port, .bool m.change, .bool m.ack, .bool m.proposal, .bool m.agreement, .bool m.learning, .bool m.forwarding, .int .i64 m.role, .int .i64 m.age, .int .i64 m.maxAge, .int .i64 m.hello, .int .i64 m.delay] 41).fr ((Fr.refl (fun k => k = B.b 5) _).set (p := ⟨B.b 5, i, none⟩) (.inl rfl) _) (fun e => hno ?_)
  exact .inr (.inl ⟨hn0, 5, .inl (by omega), e⟩)
end Go.Proofs.Ytjnbjcieepooaac
