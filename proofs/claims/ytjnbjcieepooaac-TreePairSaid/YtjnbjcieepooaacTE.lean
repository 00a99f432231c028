/- TreeEdge's plain law. -/
import Derived.Test.YtjnbjcieepooaacTJ2
import Derived.Test.YtjnbjcieepooaacTR2
namespace Go.Proofs.Ytjnbjcieepooaac
open Go.RowKit
set_option linter.unusedVariables false
set_option linter.unusedSimpArgs false

theorem prop_self (a i : Nat) (T : Tr) : (propStep a i T).at_ a = T.at_ a := by
  unfold propStep
  split
  · rename_i h
    show (T.upd i (propP (T.at_ i))).at_ a = T.at_ a
    exact upd_ne T _ h.1
  · rfl
theorem props_self (a k : Nat) (T : Tr) : (upto (propStep a) k T).at_ a = T.at_ a := by
  induction k with
  | zero => rfl
  | succ k ih => exact (prop_self a k _).trans ih
/-- Being asked to agree leaves the asked port as it is. -/
theorem proposed_self (a : Nat) (T : Tr) : ((proposedF a T).at_ a).role = (T.at_ a).role ∧ ((proposedF a T).at_ a).state = (T.at_ a).state ∧ ((proposedF a T).at_ a).edge = (T.at_ a).edge := by
  unfold proposedF
  split
  · have h := (smp_send a true T).at_ a
    exact ⟨h.2.1, h.2.2.1, h.2.2.2⟩
  · split
    · have h := ((smp_send a true (upto (propStep a) T.n T)).trans (smp_tellAll _)).at_ a
      have g := props_self a T.n T
      rw [g] at h
      exact ⟨h.2.1, h.2.2.1, h.2.2.2⟩
    · exact ⟨rfl, rfl, rfl⟩
theorem edge_no {T : Tr} {m : Msg} (h : chkF m = false) : receiveF 0 m T = T := if_neg fun g => by rw [h] at g; cases g.2.2.2
/-- A port with nothing but stations that hears a message. -/
theorem edge_after {T : Tr} {m : Msg} (h0 : 0 < T.n) (hu : (T.at_ 0).p.up = true) (hr : (T.at_ 0).role = 2) (hs : (T.at_ 0).state = 2) (hc : chkF m = true) :
    ((receiveF 0 m T).at_ 0).edge = false ∧ (((receiveF 0 m T).at_ 0).role = 2 ∨ ((receiveF 0 m T).at_ 0).role = 1 → ((receiveF 0 m T).at_ 0).state = 2) := by
  have hrec : receiveF 0 m T = (if m.kind = 2 then noticeF 0 (T.upd 0 { T.at_ 0 with edge := false }) else if m.kind = 1 ∧ m.role ≠ 3 then answerF 0 m (T.upd 0 { T.at_ 0 with edge := false }) else changeF 0 m (replyF 0 m (hearF 0 m (T.upd 0 { T.at_ 0 with edge := false })))) :=
    if_pos ⟨by omega, by omega, hu, hc⟩
  rw [hrec]
  have a0 : (T.upd 0 { T.at_ 0 with edge := false }).at_ 0 = { T.at_ 0 with edge := false } := upd_at T _ h0
  have n0 : (T.upd 0 { T.at_ 0 with edge := false }).n = T.n := upd_n _ _ _
  generalize T.upd 0 { T.at_ 0 with edge := false } = U at a0 n0
  have ue : (U.at_ 0).edge = false := by rw [a0]
  have ur : (U.at_ 0).role = 2 := by rw [a0]; exact hr
  have us : (U.at_ 0).state = 2 := by rw [a0]; exact hs
  split
  · have h := (smp_notice 0 U).at_ 0
    exact ⟨h.2.2.2.trans ue, fun _ => h.2.2.1.trans us⟩
  · split
    · have ha : answerF 0 m U = if m.change = true then noticeF 0 U else U := by
        have hx : ¬ ((U.at_ 0).role = 2 ∧ m.agreement = true ∧ m.v.root = (U.tell_ 0).root ∧ (U.at_ 0).state ≠ 2) := fun g => g.2.2.2 us
        unfold answerF
        dsimp only
        simp only [if_neg hx]
      rw [ha]
      split
      · have h := (smp_notice 0 U).at_ 0
        exact ⟨h.2.2.2.trans ue, fun _ => h.2.2.1.trans us⟩
      · exact ⟨ue, fun _ => us⟩
    · have hh : ((hearF 0 m U).at_ 0).edge = false ∧ (((hearF 0 m U).at_ 0).role = 2 ∨ ((hearF 0 m U).at_ 0).role = 1 → ((hearF 0 m U).at_ 0).state = 2) := by
        unfold hearF
        split
        · have hn : 0 < (U.upd 0 (hearP (U.at_ 0) m)).n := by rw [upd_n]; omega
          have ha := (again_at false (U.upd 0 (hearP (U.at_ 0) m))).2 0 hn
          have hat : (U.upd 0 (hearP (U.at_ 0) m)).at_ 0 = hearP (U.at_ 0) m := upd_at U _ (by omega)
          have e1 : ((againF false (U.upd 0 (hearP (U.at_ 0) m))).at_ 0).edge = false := by rw [ha.2.1, hat]; exact ue
          have e2 : ((againF false (U.upd 0 (hearP (U.at_ 0) m))).at_ 0).role = 2 ∨ ((againF false (U.upd 0 (hearP (U.at_ 0) m))).at_ 0).role = 1 → ((againF false (U.upd 0 (hearP (U.at_ 0) m))).at_ 0).state = 2 := by
            intro hro
            rw [ha.2.2.2]
            by_cases hp : ((0 : Nat) : Int) = (selW (U.upd 0 (hearP (U.at_ 0) m))).p
            · rw [if_pos hp]
            · rw [if_neg hp]
              rw [ha.2.2.1] at hro
              have hro2 : roleF (U.upd 0 (hearP (U.at_ 0) m)).id (U.upd 0 (hearP (U.at_ 0) m)).qs (selW (U.upd 0 (hearP (U.at_ 0) m))) 0 = 2 := by
                rcases hro with g | g
                · exact g
                · exfalso
                  revert g
                  unfold roleF ofF
                  have hd : decide (((0 : Nat) : Int) = (selW (U.upd 0 (hearP (U.at_ 0) m))).p) = false := decide_eq_false hp
                  rw [hd]
                  split
                  · intro g; omega
                  · rw [if_neg (by simp)]
                    split
                    · intro g; omega
                    · split <;> intro g <;> omega
              unfold reS
              rw [hro2, hat, if_pos (by show (2 : Int) = (U.at_ 0).role; exact ur.symm)]
              exact us
          dsimp only
          split
          · have hp := proposed_self 0 (againF false (U.upd 0 (hearP (U.at_ 0) m)))
            exact ⟨hp.2.2.trans e1, fun g => by rw [hp.1] at g; rw [hp.2.1]; exact e2 g⟩
          · exact ⟨e1, e2⟩
        · exact ⟨ue, fun _ => us⟩
      have hs2 : Smp (hearF 0 m U) (changeF 0 m (replyF 0 m (hearF 0 m U))) := by
        have g : Smp (hearF 0 m U) (replyF 0 m (hearF 0 m U)) := by
          unfold replyF
          split
          · exact smp_send _ _ _
          · exact Smp.refl _
        unfold changeF
        split
        · exact g.trans (smp_notice _ _)
        · exact g
      have h := hs2.at_ 0
      exact ⟨h.2.2.2.trans hh.1, fun g => by rw [h.2.1] at g; rw [h.2.2.1]; exact hh.2 g⟩
theorem RT.newf {RI RP : Int → Int → Prop} (N : Names RI RP) {id id' : Int} (hid : RI id id') (f : Nat → TP) (M : Nat) (hf : ∀ x, RP x x) : RT RI RP (newN id f M) (newN id' f M) := by
  refine RT0.sel N ⟨hid, by rw [preT_n, preT_n], fun i => ?_, rfl, All2.nil _, rfl⟩
  by_cases hi : i < M
  · rw [preT_at _ _ _ _ hi, preT_at _ _ _ _ hi]
    exact ⟨hf _, fun h => (by cases h), rfl⟩
  · have e1 : (preT id f M).at_ i = tp0 := by simp [Tr.at_, preT, List.getD, hi]
    have e2 : (preT id' f M).at_ i = tp0 := by simp [Tr.at_, preT, List.getD, hi]
    rw [e1, e2]
    exact ⟨N.p0, fun h => (by cases h), rfl⟩
def eports (i : Nat) : TP := if i = 0 then portP 1 true else portP 2 false
def edgeT (id : Int) : Tr := linkF 0 true (newN id eports 2)
def edgeOk (o : OutM) : Bool := !o.m.proposal && o.m.forwarding
theorem edge5 : ((edgeT 5).outs.all edgeOk = true) ∧ ((edgeT 5).at_ 0).role = 2 ∧ ((edgeT 5).at_ 0).state = 2 ∧ ((edgeT 5).at_ 0).edge = true ∧ ((edgeT 5).at_ 0).p.up = true := by decide +kernel
theorem edge_any (id : Int) : (∀ (i : Nat) (o : OutM), (edgeT id).outs[i]? = some o → edgeOk o = true) ∧ ((edgeT id).at_ 0).role = 2 ∧ ((edgeT id).at_ 0).state = 2 ∧ ((edgeT id).at_ 0).edge = true ∧ ((edgeT id).at_ 0).p.up = true := by
  have N := names_one id 5
  have h := (RT.newf N (id := id) (id' := 5) ⟨rfl, rfl⟩ eports 2 fun _ => rfl).link N 0 true
  obtain ⟨e1, e2, e3, e4, e5⟩ := edge5
  have hq := h.ps 0
  refine ⟨fun i o ho => ?_, hq.role.symm.trans e2, hq.state.symm.trans e3, hq.edge.symm.trans e4, hq.up.symm.trans e5⟩
  obtain ⟨o', ho'⟩ : ∃ o', (edgeT 5).outs[i]? = some o' := by
    have hi := (List.getElem?_eq_some_iff.1 ho).1
    exact ⟨_, List.getElem?_eq_getElem (by rw [show (edgeT 5).outs.length = _ from h.outs.1]; exact hi)⟩
  have hr := h.outs.2 i o o' ho ho'
  have hc : edgeOk o' = true := List.all_eq_true.1 e1 o' (List.mem_of_getElem? ho')
  unfold edgeOk at hc ⊢
  rw [hr.m.e] at hc
  exact hc
end Go.Proofs.Ytjnbjcieepooaac
