/- What holds of every port of a tree, and goes on to hold: closed under all that the functions do to a port. -/
import Derived.Test.YtjnbjcieepooaacTMP
namespace Go.Proofs.Ytjnbjcieepooaac
open Go.RowKit
set_option linter.unusedVariables false
set_option linter.unusedSimpArgs false

/-- It holds of every port. -/
def AllP (I : TP → Prop) (T : Tr) : Prop := ∀ i, i < T.n → I (T.at_ i)
theorem AllP.upd {I : TP → Prop} {T : Tr} (h : AllP I T) {i : Nat} {x : TP} (hx : i < T.n → I x) : AllP I (T.upd i x) := fun j hj => by
  rw [upd_n] at hj
  by_cases e : i = j
  · subst e; rw [upd_at T x hj]; exact hx hj
  · rw [upd_ne T x e]; exact h j hj
theorem AllP.fl {I : TP → Prop} {T : Tr} (h : AllP I T) (i : Nat) : AllP I (T.fl i) := h
theorem allP_upto {I : TP → Prop} {f : Nat → Tr → Tr} (hf : ∀ i T, AllP I T → AllP I (f i T)) (k : Nat) {T : Tr} (h : AllP I T) : AllP I (upto f k T) := by
  induction k with
  | zero => exact h
  | succ k ih => exact hf k _ ih
/-- Closed under what the functions do. -/
structure Clo (I : TP → Prop) : Prop where
  turn : ∀ q r, I q → I (turnP q r)
  chg : ∀ q, I q → I { q with change := 4 }
  fwd : ∀ q, I q → I (fwdP q)
  agr : ∀ q b, I q → I { q with agreed := b }
  link : ∀ q b, I q → I (linkP q b)
  prop : ∀ q, I q → I (propP q)
  hear : ∀ q m, m.v.ok → I q → I (hearP q m)
  age : ∀ q, I q → I (agedP q).1
  edge : ∀ q, I q → I { q with edge := false }
  wait : ∀ q, I q → 0 < q.wait - 1 → I { q with wait := q.wait - 1 }
  learn : ∀ q, I q → I { q with state := 1, wait := 15 }
section
variable {I : TP → Prop}
theorem allP_turn (c : Clo I) {i : Nat} (r : Int) {T : Tr} (h : AllP I T) : AllP I (turnF i r T) := by
  have h1 : AllP I (T.upd i (turnP (T.at_ i) r)) := h.upd fun hi => c.turn _ _ (h i hi)
  unfold turnF
  dsimp only
  split
  · exact h1
  · exact h1.fl i
theorem allP_ch (c : Clo I) (a i : Nat) {T : Tr} (h : AllP I T) : AllP I (chStep a i T) := by
  have h1 : AllP I (T.upd i { T.at_ i with change := 4 }) := h.upd fun hi => c.chg _ (h i hi)
  unfold chStep
  split
  · dsimp only
    split
    · exact h1
    · exact h1.fl i
  · exact h
theorem allP_changed (c : Clo I) (a : Nat) {T : Tr} (h : AllP I T) : AllP I (changedF a T) := allP_upto (fun i T h => allP_ch c a i h) _ h
theorem allP_forward (c : Clo I) (i : Nat) {T : Tr} (h : AllP I T) : AllP I (forwardF i T) := by
  have h1 : AllP I (T.upd i (fwdP (T.at_ i))) := h.upd fun hi => c.fwd _ (h i hi)
  unfold forwardF
  dsimp only
  split
  · exact h1
  · exact allP_changed c i h1
theorem allP_no (c : Clo I) (a i : Nat) {T : Tr} (h : AllP I T) : AllP I (noStep a i T) := by
  unfold noStep
  split
  · exact h
  · exact (h.fl i).upd fun hi => c.chg _ (h i hi)
theorem allP_notice (c : Clo I) (a : Nat) {T : Tr} (h : AllP I T) : AllP I (noticeF a T) := by
  unfold noticeF
  split
  · exact allP_upto (fun i T h => allP_no c a i h) _ h
  · exact h
theorem allP_send (i : Nat) (b : Bool) {T : Tr} (h : AllP I T) : AllP I (sendF i b T) := by
  unfold sendF
  split
  · exact h
  · exact h
theorem allP_tellAll {T : Tr} (h : AllP I T) : AllP I (tellAll T) := allP_upto (fun i T h => by
  unfold tellStep
  split
  · exact allP_send i false h
  · exact h) _ h
theorem allP_sel {T : Tr} (h : AllP I T) : AllP I (selF T) := h
theorem allP_again1 (c : Clo I) (b : Bool) {T : Tr} (h : AllP I T) : AllP I (again1 T b).1 := by
  unfold again1
  dsimp only
  split
  · exact allP_upto (fun i T h => h.upd fun hi => c.agr _ _ (h i hi)) _ h
  · exact h
theorem allP_uptoB {f : Nat → Tr × Bool → Tr × Bool} (hf : ∀ i X, AllP I X.1 → AllP I (f i X).1) (k : Nat) {X : Tr × Bool} (h : AllP I X.1) : AllP I (uptoB f k X).1 := by
  induction k with
  | zero => exact h
  | succ k ih => exact hf k _ ih
theorem allP_again2 (c : Clo I) (b : Bool) {T : Tr} (h : AllP I T) : AllP I (again2 T b).1 := allP_uptoB (fun i X h => by
  unfold roleStep
  split
  · exact h
  · exact allP_turn c _ h) _ (allP_again1 c b h)
theorem allP_fwdRoot (c : Clo I) {T : Tr} (h : AllP I T) : AllP I (fwdRoot T) := by
  unfold fwdRoot
  split
  · exact allP_forward c _ h
  · exact h
theorem allP_again (c : Clo I) (b : Bool) {T : Tr} (h : AllP I T) : AllP I (againF b T) := by
  have h1 := allP_fwdRoot c (allP_again2 c b h)
  unfold againF
  dsimp only
  split
  · exact allP_tellAll h1
  · exact h1
theorem allP_link (c : Clo I) (x : Int) (b : Bool) {T : Tr} (h : AllP I T) : AllP I (linkF x b T) := by
  unfold linkF
  split
  · exact allP_again c true ((h.upd fun hi => c.link _ _ (h _ hi)).fl _)
  · exact h
theorem allP_proposed (c : Clo I) (a : Nat) {T : Tr} (h : AllP I T) : AllP I (proposedF a T) := by
  unfold proposedF
  split
  · exact allP_send _ _ h
  · split
    · exact allP_tellAll (allP_send _ _ (allP_upto (fun i T h => by
        unfold propStep
        split
        · exact (h.upd fun hi => c.prop _ (h i hi)).fl i
        · exact h) _ h))
    · exact h
theorem allP_answer (c : Clo I) (i : Nat) (m : Msg) {T : Tr} (h : AllP I T) : AllP I (answerF i m T) := by
  have h1 : AllP I (if (T.at_ i).role = 2 ∧ m.agreement = true ∧ m.v.root = (T.tell_ i).root ∧ (T.at_ i).state ≠ 2 then sendF i false (forwardF i (T.upd i { T.at_ i with agreed := true })) else T) := by
    split
    · exact allP_send _ _ (allP_forward c _ (h.upd fun hi => c.agr _ _ (h i hi)))
    · exact h
  unfold answerF
  dsimp only
  split
  · exact allP_notice c _ h1
  · exact h1
theorem allP_hear (c : Clo I) (i : Nat) (m : Msg) (hm : m.v.ok) {T : Tr} (h : AllP I T) : AllP I (hearF i m T) := by
  unfold hearF
  split
  · have h1 := allP_again c false (h.upd fun hi => c.hear _ m hm (h i hi))
    dsimp only
    split
    · exact allP_proposed c i h1
    · exact h1
  · exact h
theorem allP_reply (i : Nat) (m : Msg) {T : Tr} (h : AllP I T) : AllP I (replyF i m T) := by
  unfold replyF
  split
  · exact allP_send _ _ h
  · exact h
theorem allP_change (c : Clo I) (i : Nat) (m : Msg) {T : Tr} (h : AllP I T) : AllP I (changeF i m T) := by
  unfold changeF
  split
  · exact allP_notice c _ h
  · exact h
theorem allP_receive (c : Clo I) (x : Int) (m : Msg) (hm : m.v.ok) {T : Tr} (h : AllP I T) : AllP I (receiveF x m T) := by
  unfold receiveF
  split
  · have h1 : AllP I (T.upd x.toNat { T.at_ x.toNat with edge := false }) := h.upd fun hi => c.edge _ (h _ hi)
    dsimp only
    split
    · exact allP_notice c _ h1
    · split
      · exact allP_answer c _ m h1
      · exact allP_change c _ m (allP_reply _ m (allP_hear c _ m hm h1))
  · exact h
theorem forward_wait (i : Nat) (k : Int) (T : Tr) (hi : i < T.n) : forwardF i (T.upd i { T.at_ i with wait := k }) = forwardF i T := by
  unfold forwardF
  rw [upd_at T _ hi]
  dsimp only
  rw [upd_upd]
  rfl
theorem allP_wait (c : Clo I) (i : Nat) {T : Tr} (hi : i < T.n) (h : AllP I T) : AllP I (waitStep i T) := by
  unfold waitStep
  dsimp only
  split
  · exact h
  · split
    · rename_i h1; exact h.upd fun hi => c.wait _ (h i hi) h1
    · split
      · exact h.upd fun hi => c.learn _ (h i hi)
      · rw [forward_wait i _ T hi]; exact allP_forward c i h
theorem allP_uptoN {f : Nat → Tr → Tr} {N : Nat} (hn : ∀ i T, (f i T).n = T.n) (hf : ∀ i T, i < N → T.n = N → AllP I T → AllP I (f i T)) (k : Nat) (hk : k ≤ N) {T : Tr} (hT : T.n = N) (h : AllP I T) : AllP I (upto f k T) ∧ (upto f k T).n = N := by
  induction k with
  | zero => exact ⟨h, hT⟩
  | succ k ih => exact ⟨hf k _ (by omega) (ih (by omega)).2 (ih (by omega)).1, (hn k _).trans (ih (by omega)).2⟩
theorem allP_waits (c : Clo I) {T : Tr} (k : Nat) (hk : k ≤ T.n) (h : AllP I T) : AllP I (upto waitStep k T) :=
  (allP_uptoN (N := T.n) (fun i T => (shp_wait i T).n) (fun i T hi hn h => allP_wait c i (by omega) h) k hk rfl h).1
theorem allP_ages (c : Clo I) (k : Nat) {X : Tr × Bool} (h : AllP I X.1) : AllP I (uptoB ageStep k X).1 :=
  allP_uptoB (fun i X h => h.upd fun hi => c.age _ (h i hi)) _ h
theorem allP_tick1 (c : Clo I) {T : Tr} (h : AllP I T) : AllP I (tick1 T) := by
  have h1 := allP_ages c T.n (X := (T, false)) h
  unfold tick1
  dsimp only
  split
  · exact allP_again c false h1
  · exact h1
theorem allP_hello {T : Tr} (h : AllP I T) : AllP I (helloF T) := by
  unfold helloF
  split
  · exact allP_tellAll (T := { T with hello := 2 }) h
  · exact h
theorem allP_tick (c : Clo I) {T : Tr} (h : AllP I T) : AllP I (tickF T) := allP_hello (allP_waits c _ (Nat.le_of_eq (shp_tick1 T).n.symm) (allP_tick1 c h))
end

/-- A port's numbers are in their ranges. -/
structure TP.Ok (q : TP) : Prop where
  p : q.p.ok
  l : q.p.has = true → 1 ≤ q.left ∧ q.left ≤ 6
  w : 0 ≤ q.wait ∧ q.wait ≤ 15
  c : 0 ≤ q.change ∧ q.change ≤ 4
theorem v0_ok : v0.ok := ⟨by decide, by decide, by decide, by decide, by decide, by decide, by decide, by decide⟩
theorem clo_ok : Clo TP.Ok where
  turn q r h := ⟨h.p, h.l, by show 0 ≤ (if r = 2 ∧ q.edge = false then (15 : Int) else 0) ∧ (if r = 2 ∧ q.edge = false then (15 : Int) else 0) ≤ 15; split <;> omega, by show (0 : Int) ≤ 0 ∧ (0 : Int) ≤ 4; omega⟩
  chg q h := ⟨h.p, h.l, h.w, by show (0 : Int) ≤ 4 ∧ (4 : Int) ≤ 4; omega⟩
  fwd q h := ⟨h.p, h.l, by show (0 : Int) ≤ 0 ∧ (0 : Int) ≤ 15; omega, h.c⟩
  agr q b h := ⟨h.p, h.l, h.w, h.c⟩
  link q b h := ⟨⟨h.p.c0, h.p.c1, v0_ok⟩, fun x => (by cases x), h.w, h.c⟩
  prop q h := ⟨h.p, h.l, by show (0 : Int) ≤ 15 ∧ (15 : Int) ≤ 15; omega, h.c⟩
  hear q m hm h := ⟨⟨h.p.c0, h.p.c1, by show (if m.age + 256 < m.maxAge then m.v else v0).ok; split; exact hm; exact v0_ok⟩, fun _ => by show (1 : Int) ≤ 6 ∧ (6 : Int) ≤ 6; omega, h.w, h.c⟩
  age q h := by
    have hc : 0 ≤ (if q.change - 1 < 0 then 0 else q.change - 1) ∧ (if q.change - 1 < 0 then 0 else q.change - 1) ≤ 4 := by have := h.c; split <;> omega
    unfold agedP
    dsimp only
    split
    · rename_i hh
      have := h.l hh
      split
      · exact ⟨⟨h.p.c0, h.p.c1, v0_ok⟩, fun x => (by cases x), h.w, hc⟩
      · exact ⟨h.p, fun _ => by show 1 ≤ q.left - 1 ∧ q.left - 1 ≤ 6; omega, h.w, hc⟩
    · exact ⟨h.p, h.l, h.w, hc⟩
  edge q h := ⟨h.p, h.l, h.w, h.c⟩
  wait q h h1 := ⟨h.p, h.l, by have := h.w; show 0 ≤ q.wait - 1 ∧ q.wait - 1 ≤ 15; omega, h.c⟩
  learn q h := ⟨h.p, h.l, by show (0 : Int) ≤ 15 ∧ (15 : Int) ≤ 15; omega, h.c⟩
/-- A tree whose numbers are in their ranges, with room for some more messages. -/
structure TOk (T : Tr) (k : Nat) : Prop where
  n : T.n ≤ 16
  fl : T.flush.length = T.n
  rp : T.rp < (T.n : Int)
  hello : -1 ≤ T.hello ∧ T.hello ≤ 2
  ps : AllP TP.Ok T
  room : T.outs.length + k ≤ 1000000
theorem TOk.mono {T : Tr} {j k : Nat} (h : TOk T j) (hk : k ≤ j) : TOk T k := ⟨h.n, h.fl, h.rp, h.hello, h.ps, by have := h.room; omega⟩
/-- The messages' root port is one of its ports; how many seconds until it tells. -/
structure Rps (T U : Tr) : Prop where
  rp : T.rp < (T.n : Int) → U.rp < (U.n : Int)
  hello : -1 ≤ T.hello ∧ T.hello ≤ 2 → -1 ≤ U.hello ∧ U.hello ≤ 2
theorem TOk.step {T U : Tr} {j k m : Nat} (h : TOk T j) (s : Shp T U m) (r : Rps T U) (hp : AllP TP.Ok U) (hk : m + k ≤ j) : TOk U k :=
  ⟨by rw [s.n]; exact h.n, by rw [s.fl, s.n]; exact h.fl, r.rp h.rp, r.hello h.hello, hp, by have := s.o; have := h.room; omega⟩
theorem Rps.refl (T : Tr) : Rps T T := ⟨id, id⟩
theorem Rps.trans {T U V : Tr} (a : Rps T U) (b : Rps U V) : Rps T V := ⟨fun h => b.rp (a.rp h), fun h => b.hello (a.hello h)⟩
theorem Rps.of {T U : Tr} (hn : U.n = T.n) (hr : U.rp = T.rp) (hh : U.hello = T.hello) : Rps T U := ⟨fun h => by rw [hn, hr]; exact h, fun h => by rw [hh]; exact h⟩

/-- What only a selection turns. -/
structure Kep (T U : Tr) : Prop where
  id : U.id = T.id
  n : U.n = T.n
  vec : U.vec = T.vec
  rp : U.rp = T.rp
  roles : U.roles = T.roles
  tells : U.tells = T.tells
  hello : U.hello = T.hello
theorem Kep.refl (T : Tr) : Kep T T := ⟨rfl, rfl, rfl, rfl, rfl, rfl, rfl⟩
theorem Kep.trans {T U V : Tr} (a : Kep T U) (b : Kep U V) : Kep T V := ⟨b.id.trans a.id, b.n.trans a.n, b.vec.trans a.vec, b.rp.trans a.rp, b.roles.trans a.roles, b.tells.trans a.tells, b.hello.trans a.hello⟩
theorem Kep.rps {T U : Tr} (h : Kep T U) : Rps T U := Rps.of h.n h.rp h.hello
theorem kep_upd (T : Tr) (i : Nat) (x : TP) : Kep T (T.upd i x) := ⟨rfl, upd_n T i x, rfl, rfl, rfl, rfl, rfl⟩
theorem kep_fl (T : Tr) (i : Nat) : Kep T (T.fl i) := ⟨rfl, rfl, rfl, rfl, rfl, rfl, rfl⟩
theorem kep_upto {f : Nat → Tr → Tr} (hf : ∀ i T, Kep T (f i T)) (k : Nat) (T : Tr) : Kep T (upto f k T) := by
  induction k with
  | zero => exact Kep.refl _
  | succ k ih => exact ih.trans (hf k _)
theorem kep_uptoB {f : Nat → Tr × Bool → Tr × Bool} (hf : ∀ i X, Kep X.1 (f i X).1) (k : Nat) (X : Tr × Bool) : Kep X.1 (uptoB f k X).1 := by
  induction k with
  | zero => exact Kep.refl _
  | succ k ih => exact ih.trans (hf k _)
theorem kep_turn (i : Nat) (r : Int) (T : Tr) : Kep T (turnF i r T) := by
  unfold turnF
  dsimp only
  split
  · exact kep_upd _ _ _
  · exact (kep_upd _ _ _).trans (kep_fl _ _)
theorem kep_changed (a : Nat) (T : Tr) : Kep T (changedF a T) := kep_upto (fun i T => by
  unfold chStep
  split
  · dsimp only
    split
    · exact kep_upd _ _ _
    · exact (kep_upd _ _ _).trans (kep_fl _ _)
  · exact Kep.refl _) _ _
theorem kep_forward (i : Nat) (T : Tr) : Kep T (forwardF i T) := by
  unfold forwardF
  dsimp only
  split
  · exact kep_upd _ _ _
  · exact (kep_upd _ _ _).trans (kep_changed _ _)
theorem kep_notice (a : Nat) (T : Tr) : Kep T (noticeF a T) := by
  unfold noticeF
  split
  · exact kep_upto (fun i T => by
      unfold noStep
      split
      · exact Kep.refl _
      · exact (kep_fl _ _).trans (kep_upd _ _ _)) _ _
  · exact Kep.refl _
theorem kep_send (i : Nat) (b : Bool) (T : Tr) : Kep T (sendF i b T) := by
  unfold sendF
  split
  · exact ⟨rfl, rfl, rfl, rfl, rfl, rfl, rfl⟩
  · exact Kep.refl _
theorem kep_tellAll (T : Tr) : Kep T (tellAll T) := kep_upto (fun i T => by
  unfold tellStep
  split
  · exact kep_send _ _ _
  · exact Kep.refl _) _ _
theorem kep_fwdRoot (T : Tr) : Kep T (fwdRoot T) := by
  unfold fwdRoot
  split
  · exact kep_forward _ _
  · exact Kep.refl _
theorem kep_again (b : Bool) (T : Tr) : Kep (selF T) (againF b T) := by
  have h1 : Kep (selF T) (again1 T b).1 := by
    unfold again1
    dsimp only
    split
    · exact kep_upto (fun i T => kep_upd _ _ _) _ _
    · exact Kep.refl _
  have h2 : Kep (selF T) (again2 T b).1 := h1.trans (kep_uptoB (fun i X => by
    unfold roleStep
    split
    · exact Kep.refl _
    · exact kep_turn _ _ _) _ _)
  have h3 := h2.trans (kep_fwdRoot _)
  unfold againF
  dsimp only
  split
  · exact h3.trans (kep_tellAll _)
  · exact h3
theorem rps_sel (T : Tr) : Rps T (selF T) := ⟨fun _ => (wayN_port T.id T.qs T.n).2, id⟩
theorem rps_again (b : Bool) (T : Tr) : Rps T (againF b T) := (rps_sel T).trans (kep_again b T).rps
theorem rps_link (x : Int) (b : Bool) (T : Tr) : Rps T (linkF x b T) := by
  unfold linkF
  split
  · exact ((kep_upd _ _ _).trans (kep_fl _ _)).rps.trans (rps_again _ _)
  · exact Rps.refl _
theorem kep_proposed (a : Nat) (T : Tr) : Kep T (proposedF a T) := by
  unfold proposedF
  split
  · exact kep_send _ _ _
  · split
    · exact ((kep_upto (fun i T => by
        unfold propStep
        split
        · exact (kep_upd _ _ _).trans (kep_fl _ _)
        · exact Kep.refl _) _ _).trans (kep_send _ _ _)).trans (kep_tellAll _)
    · exact Kep.refl _
theorem kep_answer (i : Nat) (m : Msg) (T : Tr) : Kep T (answerF i m T) := by
  have h1 : Kep T (if (T.at_ i).role = 2 ∧ m.agreement = true ∧ m.v.root = (T.tell_ i).root ∧ (T.at_ i).state ≠ 2 then sendF i false (forwardF i (T.upd i { T.at_ i with agreed := true })) else T) := by
    split
    · exact ((kep_upd _ _ _).trans (kep_forward _ _)).trans (kep_send _ _ _)
    · exact Kep.refl _
  unfold answerF
  dsimp only
  split
  · exact h1.trans (kep_notice _ _)
  · exact h1
theorem rps_hear (i : Nat) (m : Msg) (T : Tr) : Rps T (hearF i m T) := by
  unfold hearF
  split
  · have h1 := (kep_upd T i (hearP (T.at_ i) m)).rps.trans (rps_again false _)
    dsimp only
    split
    · exact h1.trans (kep_proposed _ _).rps
    · exact h1
  · exact Rps.refl _
theorem kep_reply (i : Nat) (m : Msg) (T : Tr) : Kep T (replyF i m T) := by
  unfold replyF
  split
  · exact kep_send _ _ _
  · exact Kep.refl _
theorem kep_change (i : Nat) (m : Msg) (T : Tr) : Kep T (changeF i m T) := by
  unfold changeF
  split
  · exact kep_notice _ _
  · exact Kep.refl _
theorem rps_receive (x : Int) (m : Msg) (T : Tr) : Rps T (receiveF x m T) := by
  unfold receiveF
  split
  · have h1 := (kep_upd T x.toNat { T.at_ x.toNat with edge := false }).rps
    dsimp only
    split
    · exact h1.trans (kep_notice _ _).rps
    · split
      · exact h1.trans (kep_answer _ _ _).rps
      · exact ((h1.trans (rps_hear _ _ _)).trans (kep_reply _ _ _).rps).trans (kep_change _ _ _).rps
  · exact Rps.refl _
theorem kep_wait (i : Nat) (T : Tr) : Kep T (waitStep i T) := by
  unfold waitStep
  dsimp only
  split
  · exact Kep.refl _
  · split
    · exact kep_upd _ _ _
    · split
      · exact kep_upd _ _ _
      · exact (kep_upd _ _ _).trans (kep_forward _ _)
theorem kep_waits (k : Nat) (T : Tr) : Kep T (upto waitStep k T) := kep_upto kep_wait _ _
theorem rps_hello (T : Tr) : Rps T (helloF T) := by
  unfold helloF
  split
  · exact (show Rps T { T with hello := 2 } from ⟨id, fun _ => by show (-1 : Int) ≤ 2 ∧ (2 : Int) ≤ 2; omega⟩).trans (kep_tellAll _).rps
  · rename_i h
    exact ⟨id, fun h2 => by show -1 ≤ T.hello - 1 ∧ T.hello - 1 ≤ 2; omega⟩
theorem kep_ages (k : Nat) (X : Tr × Bool) : Kep X.1 (uptoB ageStep k X).1 := kep_uptoB (fun i X => kep_upd _ _ _) _ _
theorem rps_tick1 (T : Tr) : Rps T (tick1 T) := by
  have h := (kep_ages T.n (T, false)).rps
  unfold tick1
  dsimp only
  split
  · exact h.trans (rps_again _ _)
  · exact h
theorem rps_tick (T : Tr) : Rps T (tickF T) := ((rps_tick1 T).trans (kep_waits _ _).rps).trans (rps_hello _)
theorem TOk.again {T : Tr} {k : Nat} (h : TOk T (T.n + k)) (b : Bool) : TOk (againF b T) k := h.step (shp_again b T) (rps_again b T) (allP_again clo_ok b h.ps) (Nat.le_refl _)
theorem TOk.link {T : Tr} {k : Nat} (h : TOk T (T.n + k)) (x : Int) (b : Bool) : TOk (linkF x b T) k := h.step (shp_link x b T) (rps_link x b T) (allP_link clo_ok x b h.ps) (Nat.le_refl _)
theorem TOk.receive {T : Tr} {k : Nat} (h : TOk T (2 * T.n + 2 + k)) (x : Int) (m : Msg) (hm : m.v.ok) : TOk (receiveF x m T) k := h.step (shp_receive x m T) (rps_receive x m T) (allP_receive clo_ok x m hm h.ps) (Nat.le_refl _)
theorem TOk.tick {T : Tr} {k : Nat} (h : TOk T (2 * T.n + k)) : TOk (tickF T) k := h.step (shp_tick T) (rps_tick T) (allP_tick clo_ok h.ps) (Nat.le_refl _)
end Go.Proofs.Ytjnbjcieepooaac
