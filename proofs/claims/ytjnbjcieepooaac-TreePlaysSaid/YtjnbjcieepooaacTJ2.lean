/- What holds behind each act, act by act. -/
import Derived.Test.YtjnbjcieepooaacTJ
import Derived.Test.YtjnbjcieepooaacTLG
namespace Go.Proofs.Ytjnbjcieepooaac
open Go.RowKit
set_option linter.unusedVariables false
set_option linter.unusedSimpArgs false

/-- A port whose role, state and link are as they were. -/
theorem TJ.updA {T : Tr} (h : TJ T) (i : Nat) (x : TP) (hx : x.p.up = (T.at_ i).p.up ∧ x.role = (T.at_ i).role ∧ x.state = (T.at_ i).state ∧ (x.p.up = false → x.p.has = false ∧ x.p.told = v0)) : TJ (T.upd i x) := by
  by_cases hi : i < T.n
  rotate_left
  · rw [upd_ge T x hi]; exact h
  have hK := kep_upd T i x
  have hn := hK.n
  have at_ : ∀ j, (T.upd i x).at_ j = if i = j then x else T.at_ j := fun j => by
    by_cases e : i = j
    · subst e; rw [upd_at T x hi, if_pos rfl]
    · rw [upd_ne T x e, if_neg e]
  refine ⟨fun j hj => ?_, fun j hj hd => ?_, fun j hj hp => ?_, fun j hj => ?_⟩
  · rw [hn] at hj
    rw [at_]
    by_cases e : i = j
    · subst e
      rw [if_pos rfl]
      have q := h.ps i hj
      exact ⟨by rw [hx.2.2.1]; exact q.s, by rw [hx.2.2.1, hx.2.1]; exact q.r, hx.2.2.2⟩
    · rw [if_neg e]; exact h.ps j hj
  · rw [hn] at hj
    rw [at_] at hd ⊢
    by_cases e : i = j
    · subst e
      rw [if_pos rfl] at hd ⊢
      rw [hx.1] at hd
      rw [hx.2.1]; exact h.down i hj hd
    · rw [if_neg e] at hd ⊢; exact h.down j hj hd
  · rw [hn] at hj
    rw [at_]
    by_cases e : i = j
    · subst e
      rw [if_pos rfl, hx.2.1, hx.2.2.1]; exact h.root i hj hp
    · rw [if_neg e]; exact h.root j hj hp
  · rw [hn] at hj
    exact h.tells j hj
theorem TJ.same {T U : Tr} (h : TJ T) (hps : U.ps = T.ps) (hid : U.id = T.id) (hrp : U.rp = T.rp) (htl : U.tells = T.tells) : TJ U := by
  have hn : U.n = T.n := by show U.ps.length = T.ps.length; rw [hps]
  have ha : ∀ i, U.at_ i = T.at_ i := fun i => by unfold Tr.at_; rw [hps]
  have ht : ∀ i, U.tell_ i = T.tell_ i := fun i => by unfold Tr.tell_; rw [htl]
  exact ⟨fun i hi => by rw [ha]; exact h.ps i (by omega), fun i hi hd => by rw [ha] at hd ⊢; exact h.down i (by omega) hd, fun i hi hr => by rw [ha]; exact h.root i (by omega) (by rw [← hrp]; exact hr), fun i hi => by rw [ht, hid]; exact h.tells i (by omega)⟩
theorem tj_new (id : Int) (f : Nat → TP) (M : Nat) : TJ (newN id f M) := by
  have hn : (newN id f M).n = M := newN_n id f M
  have ha : ∀ i, i < M → (newN id f M).at_ i = newP (f i) := fun i hi => preT_at id f M i hi
  refine ⟨fun i hi => ?_, fun i hi _ => ?_, fun i hi hr => ?_, fun i hi => ?_⟩
  · rw [ha i (by omega)]; exact ⟨by show (0 : Int) ≤ 0 ∧ (0 : Int) ≤ 2; omega, fun h => absurd rfl h, fun _ => ⟨rfl, rfl⟩⟩
  · rw [ha i (by omega)]; rfl
  · exfalso
    have hr' : (i : Int) = (selW (preT id f M)).p := hr
    rcases way_has (preT id f M).id (preT id f M).qs (preT id f M).n with h | ⟨h1, h2, _⟩
    · have : (selW (preT id f M)).p = -1 := h
      omega
    · have e : (wayN (preT id f M).id (preT id f M).qs (preT id f M).n).p.toNat = i := by have : (wayN (preT id f M).id (preT id f M).qs (preT id f M).n).p = (selW (preT id f M)).p := rfl; omega
      rw [e] at h2
      have h3 : ((preT id f M).at_ i).p.up = true := h2
      rw [preT_at id f M i (by omega)] at h3
      cases h3
  · have hi' : i < (preT id f M).n := hi
    have e2 : (selF (preT id f M)).tell_ i = tellF (preT id f M).id (preT id f M).qs (selW (preT id f M)) i := by
      unfold Tr.tell_ selF
      simp [List.getD, hi']
    show ((selF (preT id f M)).tell_ i).bridge = id
    rw [e2]
    rfl
theorem pj_upd {T : Tr} (h : ∀ i, i < T.n → PJ (T.at_ i)) (i : Nat) (x : TP) (hx : i < T.n → PJ x) : ∀ j, j < (T.upd i x).n → PJ ((T.upd i x).at_ j) := AllP.upd (I := PJ) h hx
theorem TJ.link {T : Tr} (h : TJ T) (x : Int) (up : Bool) : TJ (linkF x up T) := by
  unfold linkF
  split
  · have hp := pj_upd h.ps x.toNat (linkP (T.at_ x.toNat) up) fun hi => ⟨(h.ps _ hi).s, (h.ps _ hi).r, fun _ => ⟨rfl, rfl⟩⟩
    exact tj_again (T := (T.upd x.toNat (linkP (T.at_ x.toNat) up)).fl x.toNat) hp true
  · exact h
theorem TJ.notice {T : Tr} (h : TJ T) (a : Nat) : TJ (noticeF a T) := h.smp (smp_notice a T)
theorem TJ.send {T : Tr} (h : TJ T) (i : Nat) (b : Bool) : TJ (sendF i b T) := h.smp (smp_send i b T)
theorem TJ.tellAll {T : Tr} (h : TJ T) : TJ (tellAll T) := h.smp (smp_tellAll T)
theorem tj_upto {f : Nat → Tr → Tr} {N : Nat} (hn : ∀ i T, (f i T).n = T.n) (hf : ∀ i T, i < N → T.n = N → TJ T → TJ (f i T)) (k : Nat) (hk : k ≤ N) {T : Tr} (hT : T.n = N) (h : TJ T) : TJ (upto f k T) ∧ (upto f k T).n = N := by
  induction k with
  | zero => exact ⟨h, hT⟩
  | succ k ih => exact ⟨hf k _ (by omega) (ih (by omega)).2 (ih (by omega)).1, (hn k _).trans (ih (by omega)).2⟩
theorem TJ.prop {T : Tr} (h : TJ T) (a i : Nat) : TJ (propStep a i T) := by
  unfold propStep
  split
  · rename_i hc
    exact (h.upd2 i (propP (T.at_ i)) hc.2.1 ⟨rfl, rfl, by show (0 : Int) ≤ 0; omega, by show (0 : Int) ≤ 2; omega⟩).smp (smp_fl _ _)
  · exact h
theorem TJ.proposed {T : Tr} (h : TJ T) (a : Nat) : TJ (proposedF a T) := by
  unfold proposedF
  split
  · exact h.send _ _
  · split
    · exact ((tj_upto (N := T.n) (fun i T => (shp_prop a i T).n) (fun i T _ _ h => h.prop a i) T.n (Nat.le_refl _) rfl h).1.send _ _).tellAll
    · exact h
theorem TJ.answer {T : Tr} (h : TJ T) (i : Nat) (hi : i < T.n) (m : Msg) : TJ (answerF i m T) := by
  have h1 : TJ (if (T.at_ i).role = 2 ∧ m.agreement = true ∧ m.v.root = (T.tell_ i).root ∧ (T.at_ i).state ≠ 2 then sendF i false (forwardF i (T.upd i { T.at_ i with agreed := true })) else T) := by
    split
    · rename_i hc
      have h2 := h.updA i { T.at_ i with agreed := true } ⟨rfl, rfl, rfl, (h.ps i hi).d⟩
      refine (h2.forward i (by rw [upd_n]; exact hi) ?_).send _ _
      rw [upd_at T _ hi]; exact hc.1
    · exact h
  unfold answerF
  dsimp only
  split
  · exact h1.notice _
  · exact h1
theorem TJ.hear {T : Tr} (h : TJ T) (i : Nat) (hu : (T.at_ i).p.up = true) (m : Msg) : TJ (hearF i m T) := by
  unfold hearF
  split
  · have h1 := tj_again (pj_upd h.ps i (hearP (T.at_ i) m) fun hi => ⟨(h.ps i hi).s, (h.ps i hi).r, fun hd => by
      have : (T.at_ i).p.up = false := hd
      rw [hu] at this; cases this⟩) false
    dsimp only
    split
    · exact h1.proposed i
    · exact h1
  · exact h
theorem TJ.receive {T : Tr} (h : TJ T) (x : Int) (m : Msg) : TJ (receiveF x m T) := by
  unfold receiveF
  split
  · rename_i hc
    have hi : x.toNat < T.n := by omega
    have h1 := h.updA x.toNat { T.at_ x.toNat with edge := false } ⟨rfl, rfl, rfl, (h.ps _ hi).d⟩
    have hi1 : x.toNat < (T.upd x.toNat { T.at_ x.toNat with edge := false }).n := by rw [upd_n]; exact hi
    have hu1 : ((T.upd x.toNat { T.at_ x.toNat with edge := false }).at_ x.toNat).p.up = true := by rw [upd_at T _ hi]; exact hc.2.2.1
    dsimp only
    split
    · exact h1.notice _
    · split
      · exact h1.answer _ hi1 m
      · have h2 := h1.hear _ hu1 m
        have h3 : TJ (replyF x.toNat m (hearF x.toNat m (T.upd x.toNat { T.at_ x.toNat with edge := false }))) := by
          unfold replyF
          split
          · exact h2.send _ _
          · exact h2
        unfold changeF
        split
        · exact h3.notice _
        · exact h3
  · exact h
theorem TJ.age {X : Tr × Bool} (h : TJ X.1) (i : Nat) (hi : i < X.1.n) : TJ (ageStep i X).1 := by
  refine h.updA i _ ?_
  have q := h.ps i hi
  unfold agedP
  dsimp only
  split
  · split
    · exact ⟨rfl, rfl, rfl, fun _ => ⟨rfl, rfl⟩⟩
    · exact ⟨rfl, rfl, rfl, q.d⟩
  · exact ⟨rfl, rfl, rfl, q.d⟩
theorem TJ.ages {T : Tr} (h : TJ T) (k : Nat) (hk : k ≤ T.n) : TJ (uptoB ageStep k (T, false)).1 ∧ (uptoB ageStep k (T, false)).1.n = T.n := by
  induction k with
  | zero => exact ⟨h, rfl⟩
  | succ k ih =>
    obtain ⟨h1, h2⟩ := ih (by omega)
    exact ⟨TJ.age h1 k (by omega), (shp_age k _).n.trans h2⟩
theorem TJ.wait {T : Tr} (h : TJ T) (i : Nat) (hi : i < T.n) : TJ (waitStep i T) := by
  unfold waitStep
  dsimp only
  split
  · exact h
  · rename_i hc
    have hr : (T.at_ i).role = 2 := Classical.byContradiction fun g => hc (.inl g)
    have hs := (h.ps i hi).s
    split
    · exact h.upd2 i _ hr ⟨rfl, rfl, hs.1, hs.2⟩
    · split
      · exact h.upd2 i _ hr ⟨rfl, rfl, by show (0 : Int) ≤ 1; omega, by show (1 : Int) ≤ 2; omega⟩
      · have h1 := h.upd2 i { T.at_ i with wait := (T.at_ i).wait - 1 } hr ⟨rfl, rfl, hs.1, hs.2⟩
        exact h1.forward i (by rw [upd_n]; exact hi) (by rw [upd_at T _ hi]; exact hr)
theorem TJ.tick {T : Tr} (h : TJ T) : TJ (tickF T) := by
  have h1 : TJ (tick1 T) := by
    have ha := (h.ages T.n (Nat.le_refl _)).1
    unfold tick1
    dsimp only
    split
    · exact tj_again ha.ps false
    · exact ha
  have hn : (tick1 T).n = T.n := (shp_tick1 T).n
  have h2 := (tj_upto (N := T.n) (fun i T => (shp_wait i T).n) (fun i T' hi hn h => h.wait i (by omega)) T.n (Nat.le_refl _) hn h1).1
  unfold tickF helloF
  split
  · exact (h2.same (U := { upto waitStep T.n (tick1 T) with hello := 2 }) rfl rfl rfl rfl).tellAll
  · exact h2.same rfl rfl rfl rfl
theorem TJ.outs {T : Tr} (h : TJ T) : TJ (outsF T) := h.same rfl rfl rfl rfl
end Go.Proofs.Ytjnbjcieepooaac
