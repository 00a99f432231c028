/- The laws' helper do: an act, done to a tree; by its contract. -/
import Derived.Test.YtjnbjcieepooaacTL3
import Derived.Test.YtjnbjcieepooaacTO
import Derived.Test.YtjnbjcieepooaacTOpen
namespace Go.Proofs.Ytjnbjcieepooaac
open Go.RowKit
set_option linter.unusedVariables false
set_option linter.unusedSimpArgs false

/-- Something that happens. -/
structure ActM where
  kind : Int
  port : Int
  m : Msg
def ActM.cells (a : ActM) : Array Value := #[.int .i64 a.kind, .int .i64 a.port, .int .i64 a.m.kind, .int .u64 a.m.v.root, .int .u64 a.m.v.cost, .int .u64 a.m.v.bridge, .int .i64 a.m.v.port, .bool a.m.change, .bool a.m.ack, .bool a.m.proposal, .bool a.m.agreement, .bool a.m.learning, .bool a.m.forwarding,
  .int .i64 a.m.role, .int .i64 a.m.age, .int .i64 a.m.maxAge, .int .i64 a.m.hello, .int .i64 a.m.delay]
def doF (a : ActM) (T : Tr) : Tr :=
  if a.kind = 0 then tickF T else if a.kind = 1 then linkF a.port true T else if a.kind = 2 then linkF a.port false T else if a.kind = 3 then receiveF a.port a.m T else T
theorem do_n (a : ActM) (T : Tr) : (doF a T).n = T.n := by
  unfold doF
  split
  · exact (shp_tick T).n
  · split
    · exact (shp_link _ _ T).n
    · split
      · exact (shp_link _ _ T).n
      · split
        · exact (shp_receive _ _ T).n
        · rfl
theorem do_id (a : ActM) (T : Tr) : (doF a T).id = T.id := by
  unfold doF
  split
  · exact (shp_tick T).id
  · split
    · exact (shp_link _ _ T).id
    · split
      · exact (shp_link _ _ T).id
      · split
        · exact (shp_receive _ _ T).id
        · rfl
theorem TOk.do_ {T : Tr} {k : Nat} (h : TOk T (34 + k)) (a : ActM) (hm : a.m.v.ok) : TOk (doF a T) k := by
  have hn := h.n
  unfold doF
  split
  · exact (h.mono (k := 2 * T.n + k) (by omega)).tick
  · split
    · exact (h.mono (k := T.n + k) (by omega)).link _ _
    · split
      · exact (h.mono (k := T.n + k) (by omega)).link _ _
      · split
        · exact (h.mono (k := 2 * T.n + 2 + k) (by omega)).receive _ _ hm
        · exact h.mono (by omega)
theorem TJ.do_ {T : Tr} (h : TJ T) (a : ActM) : TJ (doF a T) := by
  unfold doF
  split
  · exact h.tick
  · split
    · exact h.link _ _
    · split
      · exact h.link _ _
      · split
        · exact h.receive _ _
        · exact h
theorem TLO.do_ {T : Tr} (h : TLO T) (a : ActM) : TLO (doF a T) := by
  unfold doF
  split
  · exact h.tick
  · split
    · exact h.link _ _
    · split
      · exact h.link _ _
      · split
        · exact h.receive _ _
        · exact h
set_option maxRecDepth 8000 in
set_option maxHeartbeats 4000000 in
theorem do_at {w : World} {tb : Nat} {T : Tr} {Z : Nat → Prop} (hT : TAt w tb T Z) (a : ActM) (hm : a.m.v.ok) (hok : TOk T 34) (U : Tr) (hU : doF a T = U) :
    Calls Try.prog 21 #[.pointer (some ⟨tb, 0, none⟩), .agg a.cells] w (AtPost w tb U Z) := by
  have hn := hok.n
  have O1 : Hid (TOk T (2 * T.n)) := Lib.hid (hok.mono (by omega))
  have O2 : Hid (TOk T T.n) := Lib.hid (hok.mono (by omega))
  have O3 : Hid (TOk T (2 * T.n + 2)) := Lib.hid (hok.mono (by omega))
  obtain ⟨kd, pt, ⟨mk, ⟨vr, vc, vb, vp⟩, ch, ak, pr, ag, le, fo, ro, a0, a1, a2, a3⟩⟩ := a
  have HM := Lib.hid hm
  have HU := Lib.hid hU
  have HT := Lib.hid hT
  have hA := (Below.refl w.heap.size w).alloc (Nat.le_refl _) (.cells #[.int .i64 kd, .int .i64 pt, .int .i64 mk, .int .u64 vr, .int .u64 vc, .int .u64 vb, .int .i64 vp, .bool ch, .bool ak, .bool pr, .bool ag, .bool le, .bool fo, .int .i64 ro, .int .i64 a0, .int .i64 a1, .int .i64 a2, .int .i64 a3] 52)
  have hB := Blk.new w #[.int .i64 kd, .int .i64 pt, .int .i64 mk, .int .u64 vr, .int .u64 vc, .int .u64 vb, .int .i64 vp, .bool ch, .bool ak, .bool pr, .bool ag, .bool le, .bool fo, .int .i64 ro, .int .i64 a0, .int .i64 a1, .int .i64 a2, .int .i64 a3] 52
  have HT1 := Lib.hid (hT.below hA)
  have HF1 : Hid (FrZ Z w (w.alloc (.cells #[.int .i64 kd, .int .i64 pt, .int .i64 mk, .int .u64 vr, .int .u64 vc, .int .u64 vb, .int .i64 vp, .bool ch, .bool ak, .bool pr, .bool ag, .bool le, .bool fo, .int .i64 ro, .int .i64 a0, .int .i64 a1, .int .i64 a2, .int .i64 a3] 52))) := Lib.hid (Fr.of_below hA)
  have HRC : Hid (∀ (w' : World), TAt w' tb T Z → Calls Try.prog 30 #[.pointer (some ⟨tb, 0, none⟩), .int .i64 pt, .agg #[.int .i64 mk, .int .u64 vr, .int .u64 vc, .int .u64 vb, .int .i64 vp, .bool ch, .bool ak, .bool pr, .bool ag, .bool le, .bool fo, .int .i64 ro, .int .i64 a0, .int .i64 a1, .int .i64 a2, .int .i64 a3]] w' (AtPost w' tb (receiveF pt ⟨mk, ⟨vr, vc, vb, vp⟩, ch, ak, pr, ag, le, fo, ro, a0, a1, a2, a3⟩ T) Z)) :=
    Lib.hid fun w' h => receive_at h pt ⟨mk, ⟨vr, vc, vb, vp⟩, ch, ak, pr, ag, le, fo, ro, a0, a1, a2, a3⟩ HM.out O3.out _ rfl
  have qb : ∀ o, (w.alloc (.cells #[.int .i64 kd, .int .i64 pt, .int .i64 mk, .int .u64 vr, .int .u64 vc, .int .u64 vb, .int .i64 vp, .bool ch, .bool ak, .bool pr, .bool ag, .bool le, .bool fo, .int .i64 ro, .int .i64 a0, .int .i64 a1, .int .i64 a2, .int .i64 a3] 52)).cell? ⟨w.heap.size, o, none⟩ = #[Value.int .i64 kd, .int .i64 pt, .int .i64 mk, .int .u64 vr, .int .u64 vc, .int .u64 vb, .int .i64 vp, .bool ch, .bool ak, .bool pr, .bool ag, .bool le, .bool fo, .int .i64 ro, .int .i64 a0, .int .i64 a1, .int .i64 a2, .int .i64 a3][o]? := hB.cell
  clear hT hU hm hok hA hB hn
  simp only [ActM.cells]
  go_enter Try.func21, Try.ntmps21
  go_upto_region 1 with fail
  change Code.wp _ _ _ _ (w.alloc (.cells #[.int .i64 kd, .int .i64 pt, .int .i64 mk, .int .u64 vr, .int .u64 vc, .int .u64 vb, .int .i64 vp, .bool ch, .bool ak, .bool pr, .bool ag, .bool le, .bool fo, .int .i64 ro, .int .i64 a0, .int .i64 a1, .int .i64 a2, .int .i64 a3] 52))
  generalize w.alloc (.cells #[.int .i64 kd, .int .i64 pt, .int .i64 mk, .int .u64 vr, .int .u64 vc, .int .u64 vb, .int .i64 vp, .bool ch, .bool ak, .bool pr, .bool ag, .bool le, .bool fo, .int .i64 ro, .int .i64 a0, .int .i64 a1, .int .i64 a2, .int .i64 a3] 52) = w1 at HT1 HF1 qb ⊢
  generalize w.heap.size = ab at qb ⊢
  by_cases k0 : kd = 0
  · have k0b : (kd == 0) = true := by rw [k0]; rfl
    have HD : Hid (tickF T = U) := Lib.hid (by rw [← HU.out]; exact (if_pos k0).symm)
    clear k0
    go_wp2_with (go_at_call 16; (with_reducible refine (tick_at HT1.out O1.out U HD.out).mono ?_); rintro e w2 ⟨rfl, hT2, hf2⟩)
    go_end0
    exact ⟨rfl, hT2, HF1.out.trans hf2⟩
  have k0b : (kd == 0) = false := by simp; exact k0
  by_cases k1 : kd = 1
  · have k1b : (kd == 1) = true := by rw [k1]; rfl
    have HD : Hid (linkF pt true T = U) := Lib.hid (by rw [← HU.out]; exact ((if_neg k0).trans (if_pos k1)).symm)
    clear k0 k1
    go_wp2_with (go_at_call 15; (with_reducible refine (link_at HT1.out pt true O2.out U HD.out).mono ?_); rintro e w2 ⟨rfl, hT2, hf2⟩)
    go_end0
    exact ⟨rfl, hT2, HF1.out.trans hf2⟩
  have k1b : (kd == 1) = false := by simp; exact k1
  by_cases k2 : kd = 2
  · have k2b : (kd == 2) = true := by rw [k2]; rfl
    have HD : Hid (linkF pt false T = U) := Lib.hid (by rw [← HU.out]; exact ((if_neg k0).trans ((if_neg k1).trans (if_pos k2))).symm)
    clear k0 k1 k2
    go_wp2_with (go_at_call 15; (with_reducible refine (link_at HT1.out pt false O2.out U HD.out).mono ?_); rintro e w2 ⟨rfl, hT2, hf2⟩)
    go_end0
    exact ⟨rfl, hT2, HF1.out.trans hf2⟩
  have k2b : (kd == 2) = false := by simp; exact k2
  by_cases k3 : kd = 3
  · have k3b : (kd == 3) = true := by rw [k3]; rfl
    have HD : Hid (receiveF pt ⟨mk, ⟨vr, vc, vb, vp⟩, ch, ak, pr, ag, le, fo, ro, a0, a1, a2, a3⟩ T = U) := Lib.hid (by rw [← HU.out]; exact ((if_neg k0).trans ((if_neg k1).trans ((if_neg k2).trans (if_pos k3)))).symm)
    rw [HD.out] at HRC
    clear k0 k1 k2 k3
    go_wp2_with (go_at_call 30; (with_reducible refine (HRC.out _ HT1.out).mono ?_); rintro e w2 ⟨rfl, hT2, hf2⟩)
    go_end0
    exact ⟨rfl, hT2, HF1.out.trans hf2⟩
  · have k3b : (kd == 3) = false := by simp; exact k3
    have HD : Hid (T = U) := Lib.hid (by rw [← HU.out]; exact ((if_neg k0).trans ((if_neg k1).trans ((if_neg k2).trans (if_neg k3)))).symm)
    clear k0 k1 k2 k3
    go_wp2
    go_end0
    exact ⟨rfl, by rw [← HD.out]; exact HT1.out, HF1.out⟩
end Go.Proofs.Ytjnbjcieepooaac
