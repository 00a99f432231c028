/- What holds of each message of a tree behind each act: it may be, it goes out at a port, and bears the bridge's id. -/
import Derived.Test.YtjnbjcieepooaacTJ2
namespace Go.Proofs.Ytjnbjcieepooaac
open Go.RowKit
set_option linter.unusedVariables false
set_option linter.unusedSimpArgs false

/-- What is told bears the bridge's id. -/
def TL (T : Tr) : Prop := ∀ i, i < T.n → (T.tell_ i).bridge = T.id
/-- Each message may be. -/
def OJ (T : Tr) : Prop := ∀ o, o ∈ T.outs → OutJ T.n T.id o
theorem Kep.tl {T U : Tr} (h : Kep T U) (g : TL T) : TL U := fun i hi => by
  have e : U.tell_ i = T.tell_ i := by unfold Tr.tell_; rw [h.tells]
  rw [e, h.id]
  exact g i (by rw [← h.n]; exact hi)
/-- No message but such that may be is new. -/
structure Ost (T U : Tr) : Prop where
  k : Kep T U
  o : ∀ x, x ∈ U.outs → x ∈ T.outs ∨ (TL T → OutJ T.n T.id x)
theorem Ost.refl (T : Tr) : Ost T T := ⟨Kep.refl T, fun _ h => .inl h⟩
theorem Ost.trans {T U V : Tr} (a : Ost T U) (b : Ost U V) : Ost T V :=
  ⟨a.k.trans b.k, fun x hx => by
    rcases b.o x hx with h | h
    · exact a.o x h
    · refine .inr fun g => ?_
      have := h (a.k.tl g)
      rw [a.k.n, a.k.id] at this
      exact this⟩
theorem Ost.of {T U : Tr} (h : Kep T U) (e : U.outs = T.outs) : Ost T U := ⟨h, fun x hx => .inl (by rw [← e]; exact hx)⟩
theorem Ost.oj {T U : Tr} (h : Ost T U) (g : TL T) (o : OJ T) : OJ U := fun x hx => by
  rw [h.k.n, h.k.id]
  rcases h.o x hx with e | e
  · exact o x e
  · exact e g
theorem ost_upd (T : Tr) (i : Nat) (x : TP) : Ost T (T.upd i x) := .of (kep_upd _ _ _) rfl
theorem ost_fl (T : Tr) (i : Nat) : Ost T (T.fl i) := .of (kep_fl _ _) rfl
theorem ost_upto {f : Nat → Tr → Tr} (hf : ∀ i T, Ost T (f i T)) (k : Nat) (T : Tr) : Ost T (upto f k T) := by
  induction k with
  | zero => exact Ost.refl _
  | succ k ih => exact ih.trans (hf k _)
theorem ost_uptoN {f : Nat → Tr → Tr} {N : Nat} (hf : ∀ i T, i < N → T.n = N → Ost T (f i T)) (k : Nat) (hk : k ≤ N) {T : Tr} (hT : T.n = N) : Ost T (upto f k T) := by
  induction k with
  | zero => exact Ost.refl _
  | succ k ih =>
    have h := ih (by omega)
    exact h.trans (hf k _ (by omega) (by rw [h.k.n]; exact hT))
theorem ost_uptoB {f : Nat → Tr × Bool → Tr × Bool} (hf : ∀ i X, Ost X.1 (f i X).1) (k : Nat) (X : Tr × Bool) : Ost X.1 (uptoB f k X).1 := by
  induction k with
  | zero => exact Ost.refl _
  | succ k ih => exact ih.trans (hf k _)
theorem ost_turn (i : Nat) (r : Int) (T : Tr) : Ost T (turnF i r T) := by
  unfold turnF
  dsimp only
  split
  · exact ost_upd _ _ _
  · exact (ost_upd _ _ _).trans (ost_fl _ _)
theorem ost_changed (a : Nat) (T : Tr) : Ost T (changedF a T) := ost_upto (fun i T => by
  unfold chStep
  split
  · dsimp only
    split
    · exact ost_upd _ _ _
    · exact (ost_upd _ _ _).trans (ost_fl _ _)
  · exact Ost.refl _) _ _
theorem ost_forward (i : Nat) (T : Tr) : Ost T (forwardF i T) := by
  unfold forwardF
  dsimp only
  split
  · exact ost_upd _ _ _
  · exact (ost_upd _ _ _).trans (ost_changed _ _)
theorem ost_notice (a : Nat) (T : Tr) : Ost T (noticeF a T) := by
  unfold noticeF
  split
  · exact ost_upto (fun i T => by
      unfold noStep
      split
      · exact Ost.refl _
      · exact (ost_fl _ _).trans (ost_upd _ _ _)) _ _
  · exact Ost.refl _
theorem chk_agree (m : Msg) (hk : m.kind = 1) (b : Bool) : chkF { m with agreement := b } = chkF m := by
  unfold chkF
  dsimp only
  rw [hk]
  simp
theorem ost_send (i : Nat) (b : Bool) (T : Tr) (hi : i < T.n) : Ost T (sendF i b T) := by
  unfold sendF
  split
  · rename_i hc
    refine ⟨⟨rfl, rfl, rfl, rfl, rfl, rfl, rfl⟩, fun x hx => ?_⟩
    rcases List.mem_append.1 hx with h | h
    · exact .inl h
    · refine .inr fun g => ?_
      obtain rfl := List.mem_singleton.1 h
      exact ⟨(chk_agree (msgF T i) rfl b).trans hc, by show (0 : Int) ≤ (i : Int); omega, by show (i : Int) < (T.n : Int); omega, g i hi⟩
  · exact Ost.refl _
theorem ost_tellAll (T : Tr) : Ost T (tellAll T) := ost_uptoN (N := T.n) (fun i T hi hn => by
  unfold tellStep
  split
  · exact ost_send _ _ _ (by omega)
  · exact Ost.refl _) _ (Nat.le_refl _) rfl
theorem ost_fwdRoot (T : Tr) : Ost T (fwdRoot T) := by
  unfold fwdRoot
  split
  · exact ost_forward _ _
  · exact Ost.refl _
theorem ost_again (b : Bool) (T : Tr) : Ost (selF T) (againF b T) := by
  have h1 : Ost (selF T) (again1 T b).1 := by
    unfold again1
    dsimp only
    split
    · exact ost_upto (f := noAgree) (fun i T => ost_upd _ _ _) _ _
    · exact Ost.refl _
  have h2 : Ost (selF T) (again2 T b).1 := h1.trans (ost_uptoB (fun i X => by
    unfold roleStep
    split
    · exact Ost.refl _
    · exact ost_turn _ _ _) _ _)
  have h3 := h2.trans (ost_fwdRoot _)
  unfold againF
  dsimp only
  split
  · exact h3.trans (ost_tellAll _)
  · exact h3
theorem tl_sel (T : Tr) : TL (selF T) := fun i hi => by
  have hi' : i < T.n := hi
  have e2 : (selF T).tell_ i = tellF T.id T.qs (selW T) i := by
    unfold Tr.tell_ selF
    simp [List.getD, hi']
  rw [e2]
  rfl
theorem OJ.again {T : Tr} (h : OJ T) (b : Bool) : OJ (againF b T) := (ost_again b T).oj (tl_sel T) h
theorem tl_again (b : Bool) (T : Tr) : TL (againF b T) := (ost_again b T).k.tl (tl_sel T)
/-- Both. -/
structure TLO (T : Tr) : Prop where
  l : TL T
  o : OJ T
theorem TLO.ost {T U : Tr} (h : TLO T) (g : Ost T U) : TLO U := ⟨g.k.tl h.l, g.oj h.l h.o⟩
theorem TLO.again {T U : Tr} (h : TLO T) (g : Ost T U) (b : Bool) : TLO (againF b U) := ⟨tl_again b U, (g.oj h.l h.o).again b⟩
theorem TLO.link {T : Tr} (h : TLO T) (x : Int) (b : Bool) : TLO (linkF x b T) := by
  unfold linkF
  split
  · exact h.again ((ost_upd _ _ _).trans (ost_fl _ _)) true
  · exact h
theorem ost_proposed (a : Nat) (T : Tr) (ha : a < T.n) : Ost T (proposedF a T) := by
  unfold proposedF
  split
  · exact ost_send _ _ _ ha
  · split
    · have h1 := ost_upto (f := propStep a) (fun i T => by
        unfold propStep
        split
        · exact (ost_upd _ _ _).trans (ost_fl _ _)
        · exact Ost.refl _) T.n T
      exact (h1.trans (ost_send a true _ (by rw [h1.k.n]; exact ha))).trans (ost_tellAll _)
    · exact Ost.refl _
theorem ost_answer (i : Nat) (m : Msg) (T : Tr) (hi : i < T.n) : Ost T (answerF i m T) := by
  have h1 : Ost T (if (T.at_ i).role = 2 ∧ m.agreement = true ∧ m.v.root = (T.tell_ i).root ∧ (T.at_ i).state ≠ 2 then sendF i false (forwardF i (T.upd i { T.at_ i with agreed := true })) else T) := by
    split
    · have h2 := (ost_upd T i { T.at_ i with agreed := true }).trans (ost_forward i _)
      exact h2.trans (ost_send i false _ (by rw [h2.k.n]; exact hi))
    · exact Ost.refl _
  unfold answerF
  dsimp only
  split
  · exact h1.trans (ost_notice _ _)
  · exact h1
theorem TLO.hear {T : Tr} (h : TLO T) (i : Nat) (m : Msg) (hi : i < T.n) : TLO (hearF i m T) := by
  unfold hearF
  split
  · have h1 := h.again (ost_upd T i (hearP (T.at_ i) m)) false
    have hn : (againF false (T.upd i (hearP (T.at_ i) m))).n = T.n := (kep_again false _).n.trans (upd_n _ _ _)
    dsimp only
    split
    · exact h1.ost (ost_proposed i _ (by rw [hn]; exact hi))
    · exact h1
  · exact h
theorem TLO.receive {T : Tr} (h : TLO T) (x : Int) (m : Msg) : TLO (receiveF x m T) := by
  unfold receiveF
  split
  · rename_i hc
    have hi : x.toNat < T.n := by omega
    have h1 := h.ost (ost_upd T x.toNat { T.at_ x.toNat with edge := false })
    have hi1 : x.toNat < (T.upd x.toNat { T.at_ x.toNat with edge := false }).n := by rw [upd_n]; exact hi
    dsimp only
    split
    · exact h1.ost (ost_notice _ _)
    · split
      · exact h1.ost (ost_answer _ _ _ hi1)
      · have h2 := h1.hear x.toNat m hi1
        have hn : (hearF x.toNat m (T.upd x.toNat { T.at_ x.toNat with edge := false })).n = T.n := (shp_hear _ _ _).n.trans (upd_n _ _ _)
        have h3 : TLO (replyF x.toNat m (hearF x.toNat m (T.upd x.toNat { T.at_ x.toNat with edge := false }))) := by
          unfold replyF
          split
          · exact h2.ost (ost_send _ _ _ (by rw [hn]; exact hi))
          · exact h2
        unfold changeF
        split
        · exact h3.ost (ost_notice _ _)
        · exact h3
  · exact h
theorem TLO.tick {T : Tr} (h : TLO T) : TLO (tickF T) := by
  have h0 : Ost T (uptoB ageStep T.n (T, false)).1 := ost_uptoB (fun i X => ost_upd _ _ _) T.n (T, false)
  have h1 : TLO (tick1 T) := by
    unfold tick1
    dsimp only
    split
    · exact h.again h0 false
    · exact h.ost h0
  have h2 : TLO (upto waitStep T.n (tick1 T)) := h1.ost (ost_upto (fun i T => by
    unfold waitStep
    dsimp only
    split
    · exact Ost.refl _
    · split
      · exact ost_upd _ _ _
      · split
        · exact ost_upd _ _ _
        · exact (ost_upd _ _ _).trans (ost_forward _ _)) _ _)
  unfold tickF helloF
  split
  · exact TLO.ost (T := { upto waitStep T.n (tick1 T) with hello := 2 }) ⟨h2.l, h2.o⟩ (ost_tellAll _)
  · exact ⟨h2.l, h2.o⟩
theorem TLO.outs {T : Tr} (h : TLO T) : TLO (outsF T) := ⟨h.l, fun o ho => by cases ho⟩
theorem tlo_new (id : Int) (f : Nat → TP) (M : Nat) : TLO (newN id f M) := ⟨tl_sel _, fun o ho => by cases ho⟩
end Go.Proofs.Ytjnbjcieepooaac
