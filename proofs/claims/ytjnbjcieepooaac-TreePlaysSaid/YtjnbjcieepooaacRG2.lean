/- choose of the reference's tree. Conditions: none. -/
import Derived.Test.YtjnbjcieepooaacRG1
import Derived.Test.YtjnbjcieepooaacRG0
namespace Go.Proofs.Ytjnbjcieepooaac
open Go.RowKit
set_option linter.unusedVariables false
set_option linter.unusedSimpArgs false

theorem info89 : (Try.prog.info? 89).map (fun i => (i.zero, i.size, i.bytes)) = some (some (.agg #[.int .i64 0, .int .u64 0, .bool false, .bool false, .int .u64 0, .int .u64 0, .int .u64 0, .int .i64 0]), 8, 56) := by kernel_rfl
theorem own_ports89 {w : World} {base n : Nat} {v : Value} {T : Tr} (h : w.ownsRow base 89 8 v n (qsL T n)) : ∃ a cap, v = .slice a n cap ∧ (0 < n → ∃ b off, a = some ⟨b, off, none⟩ ∧ PortsAt w b off n T.qs) := by
  obtain ⟨a, cap, rfl⟩ := own_slice h
  refine ⟨a, cap, rfl, fun hn => ?_⟩
  obtain ⟨g, cap', hv, _⟩ := own_at h hn
  simp only [Value.slice.injEq] at hv
  obtain ⟨rfl, _, rfl⟩ := hv
  exact ⟨g, 0, rfl, PortsAt.of_rows (RowsB.of_own (fun i => rfl) h)⟩
/-- The struct behind choose. -/
def chooseW (W : World) (B : RB) (T : Tr) (vt : Value) : World :=
  (((((W.setCell ⟨B.tb, 15, none⟩ (.int .u64 (selW T).v.root)).setCell ⟨B.tb, 16, none⟩ (.int .u64 (selW T).v.cost)).setCell ⟨B.tb, 17, none⟩ (.int .u64 (selW T).v.bridge)).setCell ⟨B.tb, 18, none⟩ (.int .i64 (selW T).v.port)).setCell ⟨B.tb, 19, none⟩ (.int .i64 (selW T).p)).setCell ⟨B.tb, 20, none⟩ vt
theorem chooseW_fr (W : World) (B : RB) (T : Tr) (vt : Value) : Fr (fun k => k = B.tb) W (chooseW W B T vt) :=
  ((((((Fr.refl (fun k => k = B.tb) W).set (p := ⟨B.tb, 15, none⟩) (.inl rfl) _).set (p := ⟨B.tb, 16, none⟩) (.inl rfl) _).set (p := ⟨B.tb, 17, none⟩) (.inl rfl) _).set (p := ⟨B.tb, 18, none⟩) (.inl rfl) _).set (p := ⟨B.tb, 19, none⟩) (.inl rfl) _).set (p := ⟨B.tb, 20, none⟩) (.inl rfl) _
theorem choose_end {w W : World} {B : RB} {T : Tr} (hb : Below w.heap.size w W) (hT : RefW w B T) {a : Option Addr} {c : Nat} (ht : W.ownsRow w.heap.size 27 4 (.slice a T.n c) T.n (tellsL T.id T.qs (selW T) T.n)) :
    ∃ B' : RB, RefW (chooseW W B T (.slice a T.n c)) B' (selF T) ∧ RStep w B T.n (chooseW W B T (.slice a T.n c)) B' ∧ B'.ov = B.ov ∧ ∀ k, ROwn B' T.n k → ROwn B T.n k ∨ InRow (.slice a T.n c) k := by
  have hTW := hT.below hb
  have hfr := chooseW_fr W B T (.slice a T.n c)
  obtain ⟨bt, hbt⟩ : ∃ bt, 0 < T.n → a = some ⟨bt, 0, none⟩ ∧ InRow (.slice a T.n c) bt ∧ RowsB W bt 27 4 T.n (cont (selF T) 17) := by
    by_cases h0 : 0 < T.n
    · obtain ⟨g, c', hv, h1, h2, h3, h4⟩ := own_at ht h0
      simp only [Value.slice.injEq] at hv
      obtain ⟨rfl, _, rfl⟩ := hv
      refine ⟨g, fun _ => ⟨rfl, rfl, ?_⟩⟩
      have hR := RowsB.of_own (f := fun i => (tellF T.id T.qs (selW T) i).cells) (fun i => rfl) ht
      exact hR.congr fun i hi => by
        show ((selF T).tell_ i).cells = _
        have hi' : i < T.n := hi
        have e2 : (selF T).tell_ i = tellF T.id T.qs (selW T) i := by
          unfold Tr.tell_ selF
          simp [List.getD, hi']
        rw [e2]
    · exact ⟨0, fun h => absurd h h0⟩
  have hge : 0 < T.n → w.heap.size ≤ bt := fun h0 => (own_ge ht (hbt h0).2.1).1
  refine ⟨{ B with b := fun k => if k = 17 then bt else B.b k, a := fun k => if k = 17 then a else B.a k, c := fun k => if k = 17 then c else B.c k }, ⟨?_, fun h0 k hk => ?_, fun h0 k hk => ?_, fun h0 j k hj hk hne => ?_, fun h0 k hk => ?_, ?_⟩, ⟨?_, rfl, fun k hk => ?_⟩, rfl, fun k hk => ?_⟩
  · exact (((((hTW.t.set 15 (.int .u64 (selW T).v.root)).set 16 (.int .u64 (selW T).v.cost)).set 17 (.int .u64 (selW T).v.bridge)).set 18 (.int .i64 (selW T).v.port)).set 19 (.int .i64 (selW T).p)).set 20 (.slice a T.n c)
  · dsimp only
    by_cases e : k = 17
    · rw [if_pos e, if_pos e]; exact (hbt h0).1
    · rw [if_neg e, if_neg e]; exact hT.a h0 k hk
  · dsimp only
    have h0' : 0 < T.n := h0
    by_cases e : k = 17
    · subst e
      rw [if_pos rfl]
      exact (hbt h0').2.2.fr hfr (fun e => by have := hT.t.lt; have := hge h0'; omega)
    · rw [if_neg e]
      refine ((hTW.r h0' k hk).fr hfr (hTW.nt h0' k hk).symm).congr fun i hi => ?_
      unfold cont
      by_cases h7 : k = 7
      · rw [if_pos h7, if_pos h7]; rfl
      · rw [if_neg h7, if_neg h7, if_neg e, if_neg e]; rfl
  · dsimp only
    have h0' : 0 < T.n := h0
    have lt : ∀ k, inF k → B.b k < w.heap.size := fun k hk => (hT.r h0' k hk).lt
    by_cases e : j = 17
    · rw [if_pos e, if_neg (fun h => hne (e.trans h.symm))]
      have := lt k hk; have := hge h0'; omega
    · rw [if_neg e]
      by_cases e2 : k = 17
      · rw [if_pos e2]
        have := lt j hj; have := hge h0'; omega
      · rw [if_neg e2]; exact hT.ne h0' j k hj hk hne
  · dsimp only
    have h0' : 0 < T.n := h0
    by_cases e : k = 17
    · rw [if_pos e]
      have := hT.t.lt; have := hge h0'; omega
    · rw [if_neg e]; exact hT.nt h0' k hk
  · exact own_fr hTW.o hfr fun k hk e => by subst e; exact hTW.ov_tb hk
  · exact ((Fr.of_below hb).trans (hfr.mono fun k _ e => .inl e))
  · rcases hk with h | ⟨h0, f, hf, h⟩ | h
    · exact .inl (.inl h)
    · dsimp only at h
      by_cases e : f = 17
      · rw [if_pos e] at h
        have := hge h0
        exact .inr (by omega)
      · rw [if_neg e] at h
        exact .inl (.inr (.inl ⟨h0, f, hf, h⟩))
    · exact .inl (.inr (.inr h))
  · rcases hk with h | ⟨h0, f, hf, h⟩ | h
    · exact .inl (.inl h)
    · dsimp only at h
      by_cases e : f = 17
      · rw [if_pos e] at h
        exact .inr (h ▸ (hbt h0).2.1)
      · rw [if_neg e] at h
        exact .inl (.inr (.inl ⟨h0, f, hf, h⟩))
    · exact .inl (.inr (.inr h))
/-- What choose leaves: the roles that it hands back, and the struct with the way and a list of what is told of its own. -/
def ChoosePost (w : World) (B : RB) (T : Tr) (e : Ending) (w' : World) : Prop :=
  ∃ B' a c, e = .returned (.slice a T.n c) ∧ w'.ownsRow w.heap.size 3 1 (.slice a T.n c) T.n (rolesL T.id T.qs (selW T) T.n) ∧ RefW w' B' (selF T) ∧ RStep w B T.n w' B' ∧ (∀ k, InRow (.slice a T.n c) k → ¬ ROwn B' T.n k) ∧ B'.ov = B.ov
set_option maxRecDepth 8000 in
set_option maxHeartbeats 8000000 in
theorem choose_calls (T : Tr) (B : RB) (hn : T.n ≤ 16) (hok : ∀ i, i < T.n → (T.qs i).ok) (w : World) (hT : RefW w B T) :
    Calls Try.prog 36 #[.pointer (some ⟨B.tb, 0, none⟩)] w (ChoosePost w B T) := by
  have HT := Lib.hid hT
  have HOK := Lib.hid hok
  clear hT hok
  go_enter Try.func36, Try.ntmps36
  go_wp2
  go_loopg [3, 4] T.n (fun gh s3 s4 wx => ∃ k : Nat, k + gh = T.n ∧ s4 = .int .i64 (k : Int) ∧ wx.ownsRow w.heap.size 89 8 s3 k (qsL T k) ∧ Below w.heap.size w wx)
  case atStart => exact ⟨0, by omega, rfl, World.ownsRow_nil _ _ _ _, Below.refl _ _⟩
  case round =>
    obtain ⟨k, hkg, rfl, hown, hbel⟩ := hrel
    obtain ⟨a3, c3, rfl⟩ := own_slice hown
    have hTx := HT.out.below hbel
    cases gk with
    | succ gh =>
      have hkM : (k : Int) < (T.n : Int) := by omega
      have hkn : k < T.n := by omega
      have hX0 : 0 < T.n := by omega
      have qt := hTx.ownp hX0
      obtain ⟨q, hq⟩ : ∃ q, T.at_ k = q := ⟨_, rfl⟩
      have r1 : wr.cell? ⟨B.b 1, k, none⟩ = some (.int .i64 (T.at_ k).p.id) := hTx.get hkn (.inl (by omega)) rfl
      have r2 : wr.cell? ⟨B.b 2, k, none⟩ = some (.int .u64 (T.at_ k).p.cost) := hTx.get hkn (.inl (by omega)) rfl
      have r3 : wr.cell? ⟨B.b 3, k, none⟩ = some (.bool (T.at_ k).p.up) := hTx.get hkn (.inl (by omega)) rfl
      have r4 : wr.cell? ⟨B.b 4, k, none⟩ = some (.bool (T.at_ k).p.has) := hTx.get hkn (.inl (by omega)) rfl
      have r80 : wr.cell? ⟨B.b 8, k * 4, none⟩ = some (.int .u64 (T.at_ k).p.told.root) := hTx.get4 hkn (f := 8) (.inl (by omega)) rfl 0 (by omega)
      have r81 : wr.cell? ⟨B.b 8, k * 4 + 1, none⟩ = some (.int .u64 (T.at_ k).p.told.cost) := hTx.get4 hkn (f := 8) (.inl (by omega)) rfl 1 (by omega)
      have r82 : wr.cell? ⟨B.b 8, k * 4 + 2, none⟩ = some (.int .u64 (T.at_ k).p.told.bridge) := hTx.get4 hkn (f := 8) (.inl (by omega)) rfl 2 (by omega)
      have r83 : wr.cell? ⟨B.b 8, k * 4 + 3, none⟩ = some (.int .i64 (T.at_ k).p.told.port) := hTx.get4 hkn (f := 8) (.inl (by omega)) rfl 3 (by omega)
      rw [hq] at r1 r2 r3 r4 r80 r81 r82 r83
      have HKEEP : Hid (∀ a b, Below w.heap.size a b → (a.cell? ⟨B.tb, 1, none⟩ = some (.slice (some ⟨B.b 1, 0, none⟩) T.n (B.c 1)) ∧ a.cell? ⟨B.tb, 2, none⟩ = some (.slice (some ⟨B.b 2, 0, none⟩) T.n (B.c 2)) ∧ a.cell? ⟨B.tb, 3, none⟩ = some (.slice (some ⟨B.b 3, 0, none⟩) T.n (B.c 3)) ∧ a.cell? ⟨B.tb, 4, none⟩ = some (.slice (some ⟨B.b 4, 0, none⟩) T.n (B.c 4)) ∧ a.cell? ⟨B.tb, 8, none⟩ = some (.slice (some ⟨B.b 8, 0, none⟩) T.n (B.c 8)) ∧ a.cell? ⟨B.b 1, k, none⟩ = some (.int .i64 q.p.id) ∧ a.cell? ⟨B.b 2, k, none⟩ = some (.int .u64 q.p.cost) ∧ a.cell? ⟨B.b 3, k, none⟩ = some (.bool q.p.up) ∧ a.cell? ⟨B.b 4, k, none⟩ = some (.bool q.p.has) ∧ a.cell? ⟨B.b 8, k * 4, none⟩ = some (.int .u64 q.p.told.root) ∧ a.cell? ⟨B.b 8, k * 4 + 1, none⟩ = some (.int .u64 q.p.told.cost) ∧ a.cell? ⟨B.b 8, k * 4 + 2, none⟩ = some (.int .u64 q.p.told.bridge) ∧ a.cell? ⟨B.b 8, k * 4 + 3, none⟩ = some (.int .i64 q.p.told.port)) → (b.cell? ⟨B.tb, 1, none⟩ = some (.slice (some ⟨B.b 1, 0, none⟩) T.n (B.c 1)) ∧ b.cell? ⟨B.tb, 2, none⟩ = some (.slice (some ⟨B.b 2, 0, none⟩) T.n (B.c 2)) ∧ b.cell? ⟨B.tb, 3, none⟩ = some (.slice (some ⟨B.b 3, 0, none⟩) T.n (B.c 3)) ∧ b.cell? ⟨B.tb, 4, none⟩ = some (.slice (some ⟨B.b 4, 0, none⟩) T.n (B.c 4)) ∧ b.cell? ⟨B.tb, 8, none⟩ = some (.slice (some ⟨B.b 8, 0, none⟩) T.n (B.c 8)) ∧ b.cell? ⟨B.b 1, k, none⟩ = some (.int .i64 q.p.id) ∧ b.cell? ⟨B.b 2, k, none⟩ = some (.int .u64 q.p.cost) ∧ b.cell? ⟨B.b 3, k, none⟩ = some (.bool q.p.up) ∧ b.cell? ⟨B.b 4, k, none⟩ = some (.bool q.p.has) ∧ b.cell? ⟨B.b 8, k * 4, none⟩ = some (.int .u64 q.p.told.root) ∧ b.cell? ⟨B.b 8, k * 4 + 1, none⟩ = some (.int .u64 q.p.told.cost) ∧ b.cell? ⟨B.b 8, k * 4 + 2, none⟩ = some (.int .u64 q.p.told.bridge) ∧ b.cell? ⟨B.b 8, k * 4 + 3, none⟩ = some (.int .i64 q.p.told.port))) := Lib.hid (by
        have l0 := HT.out.t.lt
        have l1 := (HT.out.r hX0 1 (.inl (by omega))).lt
        have l2 := (HT.out.r hX0 2 (.inl (by omega))).lt
        have l3 := (HT.out.r hX0 3 (.inl (by omega))).lt
        have l4 := (HT.out.r hX0 4 (.inl (by omega))).lt
        have l8 := (HT.out.r hX0 8 (.inl (by omega))).lt
        intro a b hb h
        obtain ⟨h1, h2, h3, h4, h5, h6, h7, h8, h9, h10, h11, h12, h13⟩ := h
        refine ⟨?_, ?_, ?_, ?_, ?_, ?_, ?_, ?_, ?_, ?_, ?_, ?_, ?_⟩
        all_goals (first | (rw [hb.cell (p := ⟨B.tb, _, none⟩) l0]; assumption) | (rw [hb.cell (p := ⟨B.b 1, _, none⟩) l1]; assumption) | (rw [hb.cell (p := ⟨B.b 2, _, none⟩) l2]; assumption) | (rw [hb.cell (p := ⟨B.b 3, _, none⟩) l3]; assumption) | (rw [hb.cell (p := ⟨B.b 4, _, none⟩) l4]; assumption) | (rw [hb.cell (p := ⟨B.b 8, _, none⟩) l8]; assumption)))
      have HOW : Hid ((wr.drew.alloc (.cells [.int .i64 q.p.id, .int .u64 q.p.cost, .bool q.p.up, .bool q.p.has, .int .u64 q.p.told.root, .int .u64 q.p.told.cost, .int .u64 q.p.told.bridge, .int .i64 q.p.told.port].toArray 89)).ownsRow w.heap.size 89 8 (.slice a3 k c3) k (qsL T k)) := Lib.hid (own_below hown ((Below.refl wr.heap.size wr).drew.alloc (Nat.le_refl _) _))
      have HBA : Hid (Below w.heap.size w (wr.drew.alloc (.cells [.int .i64 q.p.id, .int .u64 q.p.cost, .bool q.p.up, .bool q.p.has, .int .u64 q.p.told.root, .int .u64 q.p.told.cost, .int .u64 q.p.told.bridge, .int .i64 q.p.told.port].toArray 89))) := Lib.hid (hbel.trans (((Below.refl wr.heap.size wr).drew.alloc (Nat.le_refl _) _).mono hbel.size))
      have HQ := Lib.hid hq
      have HSZ := Lib.hid hbel.size
      clear hTx hown hbel hq
      go_wp2
      go_region_held3 (fun w' => w'.cell? ⟨B.tb, 1, none⟩ = some (.slice (some ⟨B.b 1, 0, none⟩) T.n (B.c 1)) ∧ w'.cell? ⟨B.tb, 2, none⟩ = some (.slice (some ⟨B.b 2, 0, none⟩) T.n (B.c 2)) ∧ w'.cell? ⟨B.tb, 3, none⟩ = some (.slice (some ⟨B.b 3, 0, none⟩) T.n (B.c 3)) ∧ w'.cell? ⟨B.tb, 4, none⟩ = some (.slice (some ⟨B.b 4, 0, none⟩) T.n (B.c 4)) ∧ w'.cell? ⟨B.tb, 8, none⟩ = some (.slice (some ⟨B.b 8, 0, none⟩) T.n (B.c 8)) ∧ w'.cell? ⟨B.b 1, k, none⟩ = some (.int .i64 q.p.id) ∧ w'.cell? ⟨B.b 2, k, none⟩ = some (.int .u64 q.p.cost) ∧ w'.cell? ⟨B.b 3, k, none⟩ = some (.bool q.p.up) ∧ w'.cell? ⟨B.b 4, k, none⟩ = some (.bool q.p.has) ∧ w'.cell? ⟨B.b 8, k * 4, none⟩ = some (.int .u64 q.p.told.root) ∧ w'.cell? ⟨B.b 8, k * 4 + 1, none⟩ = some (.int .u64 q.p.told.cost) ∧ w'.cell? ⟨B.b 8, k * 4 + 2, none⟩ = some (.int .u64 q.p.told.bridge) ∧ w'.cell? ⟨B.b 8, k * 4 + 3, none⟩ = some (.int .i64 q.p.told.port))
        (first | go_keep | ((try dsimp only); (repeat' apply And.intro) <;> go_keep) | exact HKEEP.out _ _ (by assumption) (by assumption))
        (first | (refine step_append_one rfl (.tmp 18) (.tmp 55) 88 rfl w.heap.size 89 _ 8 56 Try.underlying88 info89 rfl (by decide) (.slice a3 k c3) k (qsL T k) rfl (by exact HOW.out) wr.heap.size [.int .i64 q.p.id, .int .u64 q.p.cost, .bool q.p.up, .bool q.p.has, .int .u64 q.p.told.root, .int .u64 q.p.told.cost, .int .u64 q.p.told.bridge, .int .i64 q.p.told.port] 89 rfl (by exact Blk.new wr.drew _ _) rfl (by simp [Value.oneCell']) (by unfold maxLen; omega) (by omega) (by exact HBA.out.size) ?_; intro v5 w5 hown5 hfr5 hin5; have hb5 : Below w.heap.size (wr.drew.alloc (.cells [.int .i64 q.p.id, .int .u64 q.p.cost, .bool q.p.up, .bool q.p.has, .int .u64 q.p.told.root, .int .u64 q.p.told.cost, .int .u64 q.p.told.bridge, .int .i64 q.p.told.port].toArray 89)) w5 := Below.fr (Below.refl _ _) hfr5 HBA.out.size (fun i _ hi => (own_ge HOW.out hi).1)))
      rename_i hHd
      have HB5 := Lib.hid (HBA.out.trans hb5)
      clear hHd hb5 hfr5 hin5 qt r1 r2 r3 r4 r80 r81 r82 r83
      go_wp2
      go_roundg gh
      case measure => omega
      case rel => exact ⟨k + 1, by omega, by go_num, by rw [qsL_succ, HQ.out]; exact hown5, HB5.out⟩
    | zero =>
      have hkM : ¬ ((k : Int) < (T.n : Int)) := by omega
      obtain rfl : k = T.n := by omega
      obtain ⟨a3', cap, hv, hp⟩ := own_ports89 hown
      simp only [Value.slice.injEq] at hv
      obtain ⟨rfl, _, rfl⟩ := hv
      have HP := Lib.hid hp
      have qt := hTx.own
      have HN : Hid (T.n ≤ 1000000) := by show T.n ≤ 1000000; omega
      have HBEL := Lib.hid hbel
      obtain ⟨S, hS⟩ : ∃ S, wayN T.id T.qs T.n = S := ⟨_, rfl⟩
      have HS := Lib.hid hS
      clear hTx hp hown hbel hS
      go_upto_region 7 with (go_at_call 53; (with_reducible refine (refSelect_calls T.id T.qs a3 T.n c3 HN.out HOK.out _ HP.out S HS.out).mono ?_); rintro e w2 ⟨vr, vt, rfl, hor, hot, hb2⟩; obtain ⟨ar, cr, rfl⟩ := own_slice hor; obtain ⟨at', ct, rfl⟩ := own_slice hot)
      have h3 := (Below.refl w2.heap.size w2).alloc (Nat.le_refl _) (.cells #[.int .u64 S.v.root, .int .u64 S.v.cost, .int .u64 S.v.bridge, .int .i64 S.v.port] 27)
      have hq := Blk.new w2 #[.int .u64 S.v.root, .int .u64 S.v.cost, .int .u64 S.v.bridge, .int .i64 S.v.port] 27
      have hor3 := own_below (own_base hor HBEL.out.size) h3
      have hot3 := own_below (own_base hot HBEL.out.size) h3
      have hb3 := HBEL.out.trans ((hb2.trans (h3.mono hb2.size)).mono HBEL.out.size)
      change Code.wp _ _ _ _ (w2.alloc (.cells #[.int .u64 S.v.root, .int .u64 S.v.cost, .int .u64 S.v.bridge, .int .i64 S.v.port] 27))
      generalize w2.alloc (.cells #[.int .u64 S.v.root, .int .u64 S.v.cost, .int .u64 S.v.bridge, .int .i64 S.v.port] 27) = W at hq hor3 hot3 hb3 ⊢
      generalize w2.heap.size = b5 at hq ⊢
      have q5 := hq.cell
      have hTW := HT.out.below hb3
      have e5 : B.tb ≠ b5 := hTW.t.ne hq (by decide)
      have hrr : ∀ k, InRow (.slice ar T.n cr) k → ¬ ROwn B T.n k ∧ w.heap.size ≤ k := fun k hk => by
        have h1 := (own_ge hor3 hk).1
        exact ⟨fun h => by have := HT.out.own_lt h; omega, h1⟩
      have hSe : selW T = S := HS.out
      obtain ⟨B', hR', hS', hov, hsub⟩ := choose_end hb3 HT.out (a := at') (c := ct) (by rw [hSe]; exact hot3)
      have hfc := chooseW_fr W B T (.slice at' T.n ct)
      have hor4 := own_fr hor3 hfc (fun k hk e => by subst e; exact (hrr _ hk).1 (.inl rfl))
      unfold chooseW at hR' hS' hor4
      rw [hSe] at hR' hS' hor4
      have HFIN : Hid (ChoosePost w B T (.returned (.slice ar T.n cr)) ((((((W.setCell ⟨B.tb, 15, none⟩ (.int .u64 S.v.root)).setCell ⟨B.tb, 16, none⟩ (.int .u64 S.v.cost)).setCell ⟨B.tb, 17, none⟩ (.int .u64 S.v.bridge)).setCell ⟨B.tb, 18, none⟩ (.int .i64 S.v.port)).setCell ⟨B.tb, 19, none⟩ (.int .i64 S.p)).setCell ⟨B.tb, 20, none⟩ (.slice at' T.n ct))) :=
        Lib.hid ⟨B', ar, cr, rfl, by rw [hSe]; exact hor4, hR', hS', fun k hk h => by
          rcases hsub k h with g | g
          · exact (hrr k hk).1 g
          · exact own_ne_own hor3 hot3 (by decide) hk g, hov⟩
      have ft := hTW.t.free
      clear qt
      have qt := hTW.own
      clear hR' hS' hov hsub hfc hor4 hrr hSe hTW hor hot hor3 hot3 hb2 h3 hq
      go_wp2
      go_ret
      exact HFIN.out
def inV (k : Nat) : Prop := 1 ≤ k ∧ k ≤ 14
def refCV (B : RB) (T : Tr) (v20 : Value) : Array Value := #[.int .u64 T.id, .slice (B.a 1) T.n (B.c 1), .slice (B.a 2) T.n (B.c 2), .slice (B.a 3) T.n (B.c 3), .slice (B.a 4) T.n (B.c 4), .slice (B.a 5) T.n (B.c 5), .slice (B.a 6) T.n (B.c 6), .slice (B.a 7) T.n (B.c 7), .slice (B.a 8) T.n (B.c 8), .slice (B.a 9) T.n (B.c 9), .slice (B.a 10) T.n (B.c 10), .slice (B.a 11) T.n (B.c 11), .slice (B.a 12) T.n (B.c 12), .slice (B.a 13) T.n (B.c 13), .slice (B.a 14) T.n (B.c 14), .int .u64 T.vec.root, .int .u64 T.vec.cost, .int .u64 T.vec.bridge, .int .i64 T.vec.port, .int .i64 T.rp, v20, .int .i64 T.hello, B.ov]
/-- A reference's tree in memory, all but what is told. -/
structure RefV (w : World) (B : RB) (T : Tr) (v20 : Value) : Prop where
  t : Blk w B.tb (refCV B T v20) 81
  a : 0 < T.n → ∀ k, inV k → B.a k = some ⟨B.b k, 0, none⟩
  r : 0 < T.n → ∀ k, inV k → RowsB w (B.b k) (tyF k) (szF k) T.n (cont T k)
  ne : 0 < T.n → ∀ j k, inV j → inV k → j ≠ k → B.b j ≠ B.b k
  nt : 0 < T.n → ∀ k, inV k → B.tb ≠ B.b k
  o : w.ownsRow 0 84 17 B.ov T.outs.length (outsL T.outs)
theorem RefV.below {w w' : World} {B : RB} {T : Tr} {v20 : Value} (h : RefV w B T v20) (hb : Below w.heap.size w w') : RefV w' B T v20 :=
  have hf : Fr (fun _ => False) w w' := Fr.of_below hb
  ⟨h.t.fr hf (fun x => x), h.a, fun hn k hk => (h.r hn k hk).fr hf (fun x => x), h.ne, h.nt, own_fr h.o hf fun _ _ x => x⟩
theorem RefV.own {w : World} {B : RB} {T : Tr} {v20 : Value} (h : RefV w B T v20) : ∀ o, w.cell? ⟨B.tb, o, none⟩ = #[Value.int .u64 T.id, .slice (B.a 1) T.n (B.c 1), .slice (B.a 2) T.n (B.c 2), .slice (B.a 3) T.n (B.c 3), .slice (B.a 4) T.n (B.c 4), .slice (B.a 5) T.n (B.c 5), .slice (B.a 6) T.n (B.c 6), .slice (B.a 7) T.n (B.c 7), .slice (B.a 8) T.n (B.c 8), .slice (B.a 9) T.n (B.c 9), .slice (B.a 10) T.n (B.c 10), .slice (B.a 11) T.n (B.c 11), .slice (B.a 12) T.n (B.c 12), .slice (B.a 13) T.n (B.c 13), .slice (B.a 14) T.n (B.c 14), .int .u64 T.vec.root, .int .u64 T.vec.cost, .int .u64 T.vec.bridge, .int .i64 T.vec.port, .int .i64 T.rp, v20, .int .i64 T.hello, B.ov][o]? := h.t.cell
theorem RefV.ownp {w : World} {B : RB} {T : Tr} {v20 : Value} (h : RefV w B T v20) (hn : 0 < T.n) : ∀ o, w.cell? ⟨B.tb, o, none⟩ = #[Value.int .u64 T.id, .slice (some ⟨B.b 1, 0, none⟩) T.n (B.c 1), .slice (some ⟨B.b 2, 0, none⟩) T.n (B.c 2), .slice (some ⟨B.b 3, 0, none⟩) T.n (B.c 3), .slice (some ⟨B.b 4, 0, none⟩) T.n (B.c 4), .slice (some ⟨B.b 5, 0, none⟩) T.n (B.c 5), .slice (some ⟨B.b 6, 0, none⟩) T.n (B.c 6), .slice (some ⟨B.b 7, 0, none⟩) T.n (B.c 7), .slice (some ⟨B.b 8, 0, none⟩) T.n (B.c 8), .slice (some ⟨B.b 9, 0, none⟩) T.n (B.c 9), .slice (some ⟨B.b 10, 0, none⟩) T.n (B.c 10), .slice (some ⟨B.b 11, 0, none⟩) T.n (B.c 11), .slice (some ⟨B.b 12, 0, none⟩) T.n (B.c 12), .slice (some ⟨B.b 13, 0, none⟩) T.n (B.c 13), .slice (some ⟨B.b 14, 0, none⟩) T.n (B.c 14), .int .u64 T.vec.root, .int .u64 T.vec.cost, .int .u64 T.vec.bridge, .int .i64 T.vec.port, .int .i64 T.rp, v20, .int .i64 T.hello, B.ov][o]? := by
  have e := h.own
  have a := h.a hn
  rw [a 1 ⟨by omega, by omega⟩, a 2 ⟨by omega, by omega⟩, a 3 ⟨by omega, by omega⟩, a 4 ⟨by omega, by omega⟩, a 5 ⟨by omega, by omega⟩, a 6 ⟨by omega, by omega⟩, a 7 ⟨by omega, by omega⟩, a 8 ⟨by omega, by omega⟩, a 9 ⟨by omega, by omega⟩, a 10 ⟨by omega, by omega⟩, a 11 ⟨by omega, by omega⟩, a 12 ⟨by omega, by omega⟩, a 13 ⟨by omega, by omega⟩, a 14 ⟨by omega, by omega⟩] at e
  exact e
theorem RefV.get {w : World} {B : RB} {T : Tr} {v20 : Value} (h : RefV w B T v20) {i : Nat} (hi : i < T.n) {f : Nat} (hf : inV f) (hs : szF f = 1) : w.cell? ⟨B.b f, i, none⟩ = (cont T f i)[0]? := by
  have := (h.r (by omega) f hf).cell i 0 hi (by rw [hs]; decide)
  rw [hs, Nat.mul_one, Nat.add_zero] at this
  exact this
theorem RefV.get4 {w : World} {B : RB} {T : Tr} {v20 : Value} (h : RefV w B T v20) {i : Nat} (hi : i < T.n) {f : Nat} (hf : inV f) (hs : szF f = 4) (o : Nat) (ho : o < 4) : w.cell? ⟨B.b f, i * 4 + o, none⟩ = (cont T f i)[o]? := by
  have := (h.r (by omega) f hf).cell i o hi (by rw [hs]; exact ho)
  rw [hs] at this
  exact this
/-- What choose leaves of it. -/
def ChooseV (w : World) (B : RB) (T : Tr) (e : Ending) (w' : World) : Prop :=
  ∃ B' v, e = .returned v ∧ RefW w' B' (selF T) ∧ Fr (fun k => k = B.tb) w w' ∧ B'.tb = B.tb ∧ B'.ov = B.ov ∧ (∀ k, inV k → B'.b k = B.b k) ∧ (0 < T.n → w.heap.size ≤ B'.b 17)
theorem chooseV_end {w W : World} {B : RB} {T : Tr} {v20 : Value} (hb : Below w.heap.size w W) (hT : RefV w B T v20) {a : Option Addr} {c : Nat} (ht : W.ownsRow w.heap.size 27 4 (.slice a T.n c) T.n (tellsL T.id T.qs (selW T) T.n)) (v : Value) :
    ChooseV w B T (.returned v) (chooseW W B T (.slice a T.n c)) := by
  have hTW := hT.below hb
  have hfr := chooseW_fr W B T (.slice a T.n c)
  obtain ⟨bt, hbt⟩ : ∃ bt, 0 < T.n → a = some ⟨bt, 0, none⟩ ∧ InRow (.slice a T.n c) bt ∧ RowsB W bt 27 4 T.n (cont (selF T) 17) := by
    by_cases h0 : 0 < T.n
    · obtain ⟨g, c', hv, h1, h2, h3, h4⟩ := own_at ht h0
      simp only [Value.slice.injEq] at hv
      obtain ⟨rfl, _, rfl⟩ := hv
      refine ⟨g, fun _ => ⟨rfl, rfl, ?_⟩⟩
      have hR := RowsB.of_own (f := fun i => (tellF T.id T.qs (selW T) i).cells) (fun i => rfl) ht
      exact hR.congr fun i hi => by
        show ((selF T).tell_ i).cells = _
        have hi' : i < T.n := hi
        have e2 : (selF T).tell_ i = tellF T.id T.qs (selW T) i := by
          unfold Tr.tell_ selF
          simp [List.getD, hi']
        rw [e2]
    · exact ⟨0, fun h => absurd h h0⟩
  have hge : 0 < T.n → w.heap.size ≤ bt := fun h0 => (own_ge ht (hbt h0).2.1).1
  have hV : ∀ k, inF k → k ≠ 17 → inV k := fun k hk e => by rcases hk with h | h; exact h; exact absurd h e
  refine ⟨{ B with b := fun k => if k = 17 then bt else B.b k, a := fun k => if k = 17 then a else B.a k, c := fun k => if k = 17 then c else B.c k }, v, rfl, ⟨?_, fun h0 k hk => ?_, fun h0 k hk => ?_, fun h0 j k hj hk hne => ?_, fun h0 k hk => ?_, ?_⟩, (Fr.of_below hb).trans hfr, rfl, rfl, fun k hk => if_neg (by have := hk.2; omega), fun h0 => by dsimp only; rw [if_pos rfl]; exact hge h0⟩
  · exact (((((hTW.t.set 15 (.int .u64 (selW T).v.root)).set 16 (.int .u64 (selW T).v.cost)).set 17 (.int .u64 (selW T).v.bridge)).set 18 (.int .i64 (selW T).v.port)).set 19 (.int .i64 (selW T).p)).set 20 (.slice a T.n c)
  · dsimp only
    by_cases e : k = 17
    · rw [if_pos e, if_pos e]; exact (hbt h0).1
    · rw [if_neg e, if_neg e]; exact hT.a h0 k (hV k hk e)
  · dsimp only
    have h0' : 0 < T.n := h0
    by_cases e : k = 17
    · subst e
      rw [if_pos rfl]
      exact (hbt h0').2.2.fr hfr (fun e => by have := hT.t.lt; have := hge h0'; omega)
    · rw [if_neg e]
      refine ((hTW.r h0' k (hV k hk e)).fr hfr (hTW.nt h0' k (hV k hk e)).symm).congr fun i hi => ?_
      unfold cont
      by_cases h7 : k = 7
      · rw [if_pos h7, if_pos h7]; rfl
      · rw [if_neg h7, if_neg h7, if_neg e, if_neg e]; rfl
  · dsimp only
    have h0' : 0 < T.n := h0
    have lt : ∀ k, inF k → k ≠ 17 → B.b k < w.heap.size := fun k hk e => (hT.r h0' k (hV k hk e)).lt
    by_cases e : j = 17
    · have e2 : k ≠ 17 := fun h => hne (e.trans h.symm)
      rw [if_pos e, if_neg e2]
      have := lt k hk e2; have := hge h0'; omega
    · rw [if_neg e]
      by_cases e2 : k = 17
      · rw [if_pos e2]
        have := lt j hj e; have := hge h0'; omega
      · rw [if_neg e2]; exact hT.ne h0' j k (hV j hj e) (hV k hk e2) hne
  · dsimp only
    have h0' : 0 < T.n := h0
    by_cases e : k = 17
    · rw [if_pos e]
      have := hT.t.lt; have := hge h0'; omega
    · rw [if_neg e]; exact hT.nt h0' k (hV k hk e)
  · exact own_fr hTW.o hfr fun k hk e => by subst e; exact own_ne_blk hTW.o hTW.t (by decide) hk
set_option maxRecDepth 8000 in
set_option maxHeartbeats 8000000 in
theorem chooseV_calls (T : Tr) (B : RB) (v20 : Value) (hn : T.n ≤ 16) (hok : ∀ i, i < T.n → (T.qs i).ok) (w : World) (hT : RefV w B T v20) :
    Calls Try.prog 36 #[.pointer (some ⟨B.tb, 0, none⟩)] w (ChooseV w B T) := by
  have HT := Lib.hid hT
  have HOK := Lib.hid hok
  clear hT hok
  go_enter Try.func36, Try.ntmps36
  go_wp2
  go_loopg [3, 4] T.n (fun gh s3 s4 wx => ∃ k : Nat, k + gh = T.n ∧ s4 = .int .i64 (k : Int) ∧ wx.ownsRow w.heap.size 89 8 s3 k (qsL T k) ∧ Below w.heap.size w wx)
  case atStart => exact ⟨0, by omega, rfl, World.ownsRow_nil _ _ _ _, Below.refl _ _⟩
  case round =>
    obtain ⟨k, hkg, rfl, hown, hbel⟩ := hrel
    obtain ⟨a3, c3, rfl⟩ := own_slice hown
    have hTx := HT.out.below hbel
    cases gk with
    | succ gh =>
      have hkM : (k : Int) < (T.n : Int) := by omega
      have hkn : k < T.n := by omega
      have hX0 : 0 < T.n := by omega
      have qt := hTx.ownp hX0
      obtain ⟨q, hq⟩ : ∃ q, T.at_ k = q := ⟨_, rfl⟩
      have r1 : wr.cell? ⟨B.b 1, k, none⟩ = some (.int .i64 (T.at_ k).p.id) := hTx.get hkn ⟨by omega, by omega⟩ rfl
      have r2 : wr.cell? ⟨B.b 2, k, none⟩ = some (.int .u64 (T.at_ k).p.cost) := hTx.get hkn ⟨by omega, by omega⟩ rfl
      have r3 : wr.cell? ⟨B.b 3, k, none⟩ = some (.bool (T.at_ k).p.up) := hTx.get hkn ⟨by omega, by omega⟩ rfl
      have r4 : wr.cell? ⟨B.b 4, k, none⟩ = some (.bool (T.at_ k).p.has) := hTx.get hkn ⟨by omega, by omega⟩ rfl
      have r80 : wr.cell? ⟨B.b 8, k * 4, none⟩ = some (.int .u64 (T.at_ k).p.told.root) := hTx.get4 hkn (f := 8) ⟨by omega, by omega⟩ rfl 0 (by omega)
      have r81 : wr.cell? ⟨B.b 8, k * 4 + 1, none⟩ = some (.int .u64 (T.at_ k).p.told.cost) := hTx.get4 hkn (f := 8) ⟨by omega, by omega⟩ rfl 1 (by omega)
      have r82 : wr.cell? ⟨B.b 8, k * 4 + 2, none⟩ = some (.int .u64 (T.at_ k).p.told.bridge) := hTx.get4 hkn (f := 8) ⟨by omega, by omega⟩ rfl 2 (by omega)
      have r83 : wr.cell? ⟨B.b 8, k * 4 + 3, none⟩ = some (.int .i64 (T.at_ k).p.told.port) := hTx.get4 hkn (f := 8) ⟨by omega, by omega⟩ rfl 3 (by omega)
      rw [hq] at r1 r2 r3 r4 r80 r81 r82 r83
      have HKEEP : Hid (∀ a b, Below w.heap.size a b → (a.cell? ⟨B.tb, 1, none⟩ = some (.slice (some ⟨B.b 1, 0, none⟩) T.n (B.c 1)) ∧ a.cell? ⟨B.tb, 2, none⟩ = some (.slice (some ⟨B.b 2, 0, none⟩) T.n (B.c 2)) ∧ a.cell? ⟨B.tb, 3, none⟩ = some (.slice (some ⟨B.b 3, 0, none⟩) T.n (B.c 3)) ∧ a.cell? ⟨B.tb, 4, none⟩ = some (.slice (some ⟨B.b 4, 0, none⟩) T.n (B.c 4)) ∧ a.cell? ⟨B.tb, 8, none⟩ = some (.slice (some ⟨B.b 8, 0, none⟩) T.n (B.c 8)) ∧ a.cell? ⟨B.b 1, k, none⟩ = some (.int .i64 q.p.id) ∧ a.cell? ⟨B.b 2, k, none⟩ = some (.int .u64 q.p.cost) ∧ a.cell? ⟨B.b 3, k, none⟩ = some (.bool q.p.up) ∧ a.cell? ⟨B.b 4, k, none⟩ = some (.bool q.p.has) ∧ a.cell? ⟨B.b 8, k * 4, none⟩ = some (.int .u64 q.p.told.root) ∧ a.cell? ⟨B.b 8, k * 4 + 1, none⟩ = some (.int .u64 q.p.told.cost) ∧ a.cell? ⟨B.b 8, k * 4 + 2, none⟩ = some (.int .u64 q.p.told.bridge) ∧ a.cell? ⟨B.b 8, k * 4 + 3, none⟩ = some (.int .i64 q.p.told.port)) → (b.cell? ⟨B.tb, 1, none⟩ = some (.slice (some ⟨B.b 1, 0, none⟩) T.n (B.c 1)) ∧ b.cell? ⟨B.tb, 2, none⟩ = some (.slice (some ⟨B.b 2, 0, none⟩) T.n (B.c 2)) ∧ b.cell? ⟨B.tb, 3, none⟩ = some (.slice (some ⟨B.b 3, 0, none⟩) T.n (B.c 3)) ∧ b.cell? ⟨B.tb, 4, none⟩ = some (.slice (some ⟨B.b 4, 0, none⟩) T.n (B.c 4)) ∧ b.cell? ⟨B.tb, 8, none⟩ = some (.slice (some ⟨B.b 8, 0, none⟩) T.n (B.c 8)) ∧ b.cell? ⟨B.b 1, k, none⟩ = some (.int .i64 q.p.id) ∧ b.cell? ⟨B.b 2, k, none⟩ = some (.int .u64 q.p.cost) ∧ b.cell? ⟨B.b 3, k, none⟩ = some (.bool q.p.up) ∧ b.cell? ⟨B.b 4, k, none⟩ = some (.bool q.p.has) ∧ b.cell? ⟨B.b 8, k * 4, none⟩ = some (.int .u64 q.p.told.root) ∧ b.cell? ⟨B.b 8, k * 4 + 1, none⟩ = some (.int .u64 q.p.told.cost) ∧ b.cell? ⟨B.b 8, k * 4 + 2, none⟩ = some (.int .u64 q.p.told.bridge) ∧ b.cell? ⟨B.b 8, k * 4 + 3, none⟩ = some (.int .i64 q.p.told.port))) := Lib.hid (by
        have l0 := HT.out.t.lt
        have l1 := (HT.out.r hX0 1 ⟨by omega, by omega⟩).lt
        have l2 := (HT.out.r hX0 2 ⟨by omega, by omega⟩).lt
        have l3 := (HT.out.r hX0 3 ⟨by omega, by omega⟩).lt
        have l4 := (HT.out.r hX0 4 ⟨by omega, by omega⟩).lt
        have l8 := (HT.out.r hX0 8 ⟨by omega, by omega⟩).lt
        intro a b hb h
        obtain ⟨h1, h2, h3, h4, h5, h6, h7, h8, h9, h10, h11, h12, h13⟩ := h
        refine ⟨?_, ?_, ?_, ?_, ?_, ?_, ?_, ?_, ?_, ?_, ?_, ?_, ?_⟩
        all_goals (first | (rw [hb.cell (p := ⟨B.tb, _, none⟩) l0]; assumption) | (rw [hb.cell (p := ⟨B.b 1, _, none⟩) l1]; assumption) | (rw [hb.cell (p := ⟨B.b 2, _, none⟩) l2]; assumption) | (rw [hb.cell (p := ⟨B.b 3, _, none⟩) l3]; assumption) | (rw [hb.cell (p := ⟨B.b 4, _, none⟩) l4]; assumption) | (rw [hb.cell (p := ⟨B.b 8, _, none⟩) l8]; assumption)))
      have HOW : Hid ((wr.drew.alloc (.cells [.int .i64 q.p.id, .int .u64 q.p.cost, .bool q.p.up, .bool q.p.has, .int .u64 q.p.told.root, .int .u64 q.p.told.cost, .int .u64 q.p.told.bridge, .int .i64 q.p.told.port].toArray 89)).ownsRow w.heap.size 89 8 (.slice a3 k c3) k (qsL T k)) := Lib.hid (own_below hown ((Below.refl wr.heap.size wr).drew.alloc (Nat.le_refl _) _))
      have HBA : Hid (Below w.heap.size w (wr.drew.alloc (.cells [.int .i64 q.p.id, .int .u64 q.p.cost, .bool q.p.up, .bool q.p.has, .int .u64 q.p.told.root, .int .u64 q.p.told.cost, .int .u64 q.p.told.bridge, .int .i64 q.p.told.port].toArray 89))) := Lib.hid (hbel.trans (((Below.refl wr.heap.size wr).drew.alloc (Nat.le_refl _) _).mono hbel.size))
      have HQ := Lib.hid hq
      have HSZ := Lib.hid hbel.size
      clear hTx hown hbel hq
      go_wp2
      go_region_held3 (fun w' => w'.cell? ⟨B.tb, 1, none⟩ = some (.slice (some ⟨B.b 1, 0, none⟩) T.n (B.c 1)) ∧ w'.cell? ⟨B.tb, 2, none⟩ = some (.slice (some ⟨B.b 2, 0, none⟩) T.n (B.c 2)) ∧ w'.cell? ⟨B.tb, 3, none⟩ = some (.slice (some ⟨B.b 3, 0, none⟩) T.n (B.c 3)) ∧ w'.cell? ⟨B.tb, 4, none⟩ = some (.slice (some ⟨B.b 4, 0, none⟩) T.n (B.c 4)) ∧ w'.cell? ⟨B.tb, 8, none⟩ = some (.slice (some ⟨B.b 8, 0, none⟩) T.n (B.c 8)) ∧ w'.cell? ⟨B.b 1, k, none⟩ = some (.int .i64 q.p.id) ∧ w'.cell? ⟨B.b 2, k, none⟩ = some (.int .u64 q.p.cost) ∧ w'.cell? ⟨B.b 3, k, none⟩ = some (.bool q.p.up) ∧ w'.cell? ⟨B.b 4, k, none⟩ = some (.bool q.p.has) ∧ w'.cell? ⟨B.b 8, k * 4, none⟩ = some (.int .u64 q.p.told.root) ∧ w'.cell? ⟨B.b 8, k * 4 + 1, none⟩ = some (.int .u64 q.p.told.cost) ∧ w'.cell? ⟨B.b 8, k * 4 + 2, none⟩ = some (.int .u64 q.p.told.bridge) ∧ w'.cell? ⟨B.b 8, k * 4 + 3, none⟩ = some (.int .i64 q.p.told.port))
        (first | go_keep | ((try dsimp only); (repeat' apply And.intro) <;> go_keep) | exact HKEEP.out _ _ (by assumption) (by assumption))
        (first | (refine step_append_one rfl (.tmp 18) (.tmp 55) 88 rfl w.heap.size 89 _ 8 56 Try.underlying88 info89 rfl (by decide) (.slice a3 k c3) k (qsL T k) rfl (by exact HOW.out) wr.heap.size [.int .i64 q.p.id, .int .u64 q.p.cost, .bool q.p.up, .bool q.p.has, .int .u64 q.p.told.root, .int .u64 q.p.told.cost, .int .u64 q.p.told.bridge, .int .i64 q.p.told.port] 89 rfl (by exact Blk.new wr.drew _ _) rfl (by simp [Value.oneCell']) (by unfold maxLen; omega) (by omega) (by exact HBA.out.size) ?_; intro v5 w5 hown5 hfr5 hin5; have hb5 : Below w.heap.size (wr.drew.alloc (.cells [.int .i64 q.p.id, .int .u64 q.p.cost, .bool q.p.up, .bool q.p.has, .int .u64 q.p.told.root, .int .u64 q.p.told.cost, .int .u64 q.p.told.bridge, .int .i64 q.p.told.port].toArray 89)) w5 := Below.fr (Below.refl _ _) hfr5 HBA.out.size (fun i _ hi => (own_ge HOW.out hi).1)))
      rename_i hHd
      have HB5 := Lib.hid (HBA.out.trans hb5)
      clear hHd hb5 hfr5 hin5 qt r1 r2 r3 r4 r80 r81 r82 r83
      go_wp2
      go_roundg gh
      case measure => omega
      case rel => exact ⟨k + 1, by omega, by go_num, by rw [qsL_succ, HQ.out]; exact hown5, HB5.out⟩
    | zero =>
      have hkM : ¬ ((k : Int) < (T.n : Int)) := by omega
      obtain rfl : k = T.n := by omega
      obtain ⟨a3', cap, hv, hp⟩ := own_ports89 hown
      simp only [Value.slice.injEq] at hv
      obtain ⟨rfl, _, rfl⟩ := hv
      have HP := Lib.hid hp
      have qt := hTx.own
      have HN : Hid (T.n ≤ 1000000) := by show T.n ≤ 1000000; omega
      have HBEL := Lib.hid hbel
      obtain ⟨S, hS⟩ : ∃ S, wayN T.id T.qs T.n = S := ⟨_, rfl⟩
      have HS := Lib.hid hS
      clear hTx hp hown hbel hS
      go_upto_region 7 with (go_at_call 53; (with_reducible refine (refSelect_calls T.id T.qs a3 T.n c3 HN.out HOK.out _ HP.out S HS.out).mono ?_); rintro e w2 ⟨vr, vt, rfl, hor, hot, hb2⟩; obtain ⟨ar, cr, rfl⟩ := own_slice hor; obtain ⟨at', ct, rfl⟩ := own_slice hot)
      have h3 := (Below.refl w2.heap.size w2).alloc (Nat.le_refl _) (.cells #[.int .u64 S.v.root, .int .u64 S.v.cost, .int .u64 S.v.bridge, .int .i64 S.v.port] 27)
      have hq := Blk.new w2 #[.int .u64 S.v.root, .int .u64 S.v.cost, .int .u64 S.v.bridge, .int .i64 S.v.port] 27
      have hor3 := own_below (own_base hor HBEL.out.size) h3
      have hot3 := own_below (own_base hot HBEL.out.size) h3
      have hb3 := HBEL.out.trans ((hb2.trans (h3.mono hb2.size)).mono HBEL.out.size)
      change Code.wp _ _ _ _ (w2.alloc (.cells #[.int .u64 S.v.root, .int .u64 S.v.cost, .int .u64 S.v.bridge, .int .i64 S.v.port] 27))
      generalize w2.alloc (.cells #[.int .u64 S.v.root, .int .u64 S.v.cost, .int .u64 S.v.bridge, .int .i64 S.v.port] 27) = W at hq hor3 hot3 hb3 ⊢
      generalize w2.heap.size = b5 at hq ⊢
      have q5 := hq.cell
      have hTW := HT.out.below hb3
      have e5 : B.tb ≠ b5 := hTW.t.ne hq (by decide)
      have hSe : selW T = S := HS.out
      have hfin := chooseV_end hb3 HT.out (a := at') (c := ct) (by rw [hSe]; exact hot3) (.slice ar T.n cr)
      unfold chooseW at hfin
      rw [hSe] at hfin
      have HFIN : Hid (ChooseV w B T (.returned (.slice ar T.n cr)) ((((((W.setCell ⟨B.tb, 15, none⟩ (.int .u64 S.v.root)).setCell ⟨B.tb, 16, none⟩ (.int .u64 S.v.cost)).setCell ⟨B.tb, 17, none⟩ (.int .u64 S.v.bridge)).setCell ⟨B.tb, 18, none⟩ (.int .i64 S.v.port)).setCell ⟨B.tb, 19, none⟩ (.int .i64 S.p)).setCell ⟨B.tb, 20, none⟩ (.slice at' T.n ct))) := Lib.hid hfin
      have ft := hTW.t.free
      clear qt
      have qt := hTW.own
      clear hfin hSe hTW hor hot hor3 hot3 hb2 h3 hq
      go_wp2
      go_ret
      exact HFIN.out
end Go.Proofs.Ytjnbjcieepooaac
