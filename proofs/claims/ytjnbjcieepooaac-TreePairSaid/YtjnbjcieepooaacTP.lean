/- What ports tell each other to and fro, as plain functions; the runs of TreeLoop and TreePair. -/
import Derived.Test.YtjnbjcieepooaacTE
namespace Go.Proofs.Ytjnbjcieepooaac
open Go.RowKit
set_option linter.unusedVariables false
set_option linter.unusedSimpArgs false

theorem All2.cons {α β : Type} {R : α → β → Prop} {x : α} {l : List α} {l' : List β} (h : All2 R (x :: l) l') : ∃ y l2, l' = y :: l2 ∧ R x y ∧ All2 R l l2 := by
  cases l' with
  | nil => have := h.1; simp at this
  | cons y l2 => exact ⟨y, l2, rfl, h.2 0 x y rfl rfl, by have := h.1; simpa using this, fun i o o' h1 h2 => h.2 (i + 1) o o' (by simpa using h1) (by simpa using h2)⟩
/-- A tree with room, whose messages are of some range. -/
structure Good (T : Tr) : Prop where
  ok : TOk T 0
  len : T.outs.length ≤ 500
  o : ∀ x, x ∈ T.outs → x.m.v.ok ∧ 0 ≤ x.port ∧ x.port ≤ 16
theorem Good.big {T : Tr} (h : Good T) : TOk T 900000 := ⟨h.ok.n, h.ok.fl, h.ok.rp, h.ok.hello, h.ok.ps, by have := h.len; omega⟩
theorem TOk.outs0 {T : Tr} {j : Nat} (h : TOk T j) : TOk (outsF T) 1000000 := ⟨h.n, h.fl, h.rp, h.hello, h.ps, by show 0 + 1000000 ≤ 1000000; omega⟩
theorem TOk.recv {T : Tr} {k : Nat} (h : TOk T (34 + k)) (x : Int) (m : Msg) (hm : m.v.ok) : TOk (receiveF x m T) k := by
  have hn := h.n
  exact (h.mono (k := 2 * T.n + 2 + k) (by omega)).receive x m hm
/-- One bridge, two of whose ports are joined. -/
def recv1 (l : List OutM) (T : Tr) : Tr := l.foldl (fun T o => receiveF (1 - o.port) o.m T) T
def round1 (T : Tr) : Tr := recv1 T.outs (outsF T)
def rounds1 : Nat → Tr → Tr
  | 0, T => T
  | k + 1, T => round1 (rounds1 k T)
def loopS (T : Tr) : Nat → Tr
  | 0 => T
  | k + 1 => tickF (rounds1 20 (loopS T k))
theorem TOk.recv1s (l : List OutM) (hl : ∀ x, x ∈ l → x.m.v.ok) {T : Tr} {k : Nat} (h : TOk T (34 * l.length + k)) : TOk (recv1 l T) k := by
  induction l generalizing T with
  | nil => exact h.mono (by simp)
  | cons x l ih =>
    refine ih (fun y hy => hl y (by simp [hy])) (T := receiveF (1 - x.port) x.m T) ?_
    refine TOk.recv ?_ _ _ (hl x (by simp))
    exact h.mono (by simp only [List.length_cons]; omega)
theorem outs_nil {T : Tr} (h : T.outs = []) : outsF T = T := by
  cases T
  unfold outsF
  dsimp only at h ⊢
  rw [h]
theorem round1_nil {T : Tr} (h : T.outs = []) : round1 T = T := by
  unfold round1 recv1
  rw [h]
  exact outs_nil h
theorem rounds1_nil {T : Tr} {j : Nat} (h : (rounds1 j T).outs = []) (k : Nat) : rounds1 (j + k) T = rounds1 j T := by
  induction k with
  | zero => rfl
  | succ k ih =>
    show round1 (rounds1 (j + k) T) = _
    rw [ih]
    exact round1_nil h
section
variable {RI RP : Int → Int → Prop}
theorem RT.recv1 (N : Names RI RP) {l l' : List OutM} (hl : All2 (RO RI RP) l l') {T T' : Tr} (h : RT RI RP T T') : RT RI RP (Go.Proofs.Ytjnbjcieepooaac.recv1 l T) (Go.Proofs.Ytjnbjcieepooaac.recv1 l' T') := by
  induction l generalizing T T' l' with
  | nil =>
    have : l' = [] := List.eq_nil_of_length_eq_zero hl.1
    subst this
    exact h
  | cons x l ih =>
    obtain ⟨y, l2, rfl, hxy, hl2⟩ := hl.cons
    refine ih hl2 (T := receiveF (1 - x.port) x.m T) (T' := receiveF (1 - y.port) y.m T') ?_
    rw [hxy.port]
    exact h.receive N hxy.m _
theorem RT.rounds1 (N : Names RI RP) {T T' : Tr} (h : RT RI RP T T') (k : Nat) : RT RI RP (Go.Proofs.Ytjnbjcieepooaac.rounds1 k T) (Go.Proofs.Ytjnbjcieepooaac.rounds1 k T') := by
  induction k with
  | zero => exact h
  | succ k ih => exact RT.recv1 N ih.outs ih.outsR
theorem RT.loopS (N : Names RI RP) {T T' : Tr} (h : RT RI RP T T') (k : Nat) : RT RI RP (Go.Proofs.Ytjnbjcieepooaac.loopS T k) (Go.Proofs.Ytjnbjcieepooaac.loopS T' k) := by
  induction k with
  | zero => exact h
  | succ k ih => exact (ih.rounds1 N 20).tick N
end
def okO (o : OutM) : Bool := decide (0 ≤ o.port) && decide (o.port ≤ 16) && decide (0 ≤ o.m.v.cost) && decide (o.m.v.cost ≤ 4294967295) && decide (0 ≤ o.m.v.port) && decide (o.m.v.port ≤ 65535)
def okT (T : Tr) : Bool := decide (T.outs.length ≤ 500) && T.outs.all okO
/-- Alike to a tree whose messages are of some range. -/
theorem good_of {RI RP : Int → Int → Prop} (N : Names RI RP) (hI : ∀ a a', RI a a' → 0 ≤ a ∧ a ≤ 18446744073709551615) {T T' : Tr} (h : RT RI RP T T') (hT : TOk T 0) (hc : okT T' = true) : Good T := by
  unfold okT at hc
  rw [Bool.and_eq_true, decide_eq_true_eq] at hc
  obtain ⟨h1, h2⟩ := hc
  refine ⟨hT, by rw [← h.outs.1]; exact h1, fun x hx => ?_⟩
  obtain ⟨i, hi⟩ := List.mem_iff_getElem?.1 hx
  obtain ⟨y, hy⟩ : ∃ y, T'.outs[i]? = some y := ⟨_, List.getElem?_eq_getElem (by rw [h.outs.1]; exact (List.getElem?_eq_some_iff.1 hi).1)⟩
  have hr := h.outs.2 i x y hi hy
  have hk : okO y = true := List.all_eq_true.1 h2 y (List.mem_of_getElem? hy)
  unfold okO at hk
  simp only [Bool.and_eq_true, decide_eq_true_eq] at hk
  have e1 := hr.port
  have e2 := hr.m.v.cost
  have e3 := (N.r hr.m.v.port).2 (by omega)
  refine ⟨⟨(hI _ _ hr.m.v.root).1, (hI _ _ hr.m.v.root).2, by omega, by omega, (hI _ _ hr.m.v.bridge).1, (hI _ _ hr.m.v.bridge).2, by omega, by omega⟩, by omega, by omega⟩
/-- The run of TreeLoop. -/
def lids (one two : Int) (i : Nat) : Int := if i = 0 then one else two
def loop0 (id one two : Int) : Tr := linkF 1 true (linkF 0 true (newN id (gports (lids one two)) 2))
def loopB (T : Tr) (low high : Nat) : Bool := decide ((T.at_ low).role = 2) && decide ((T.at_ low).state = 2) && decide ((T.at_ high).role = 4) && decide ((T.at_ high).state = 0)
theorem loop_all12 : (∀ k, k < 36 → ∀ j, j < 21 → okT (rounds1 j (loopS (loop0 5 1 2) k)) = true) := by decide +kernel
theorem loop_all21 : (∀ k, k < 36 → ∀ j, j < 21 → okT (rounds1 j (loopS (loop0 5 2 1) k)) = true) := by decide +kernel
theorem loop_end12 : loopB (loopS (loop0 5 1 2) 35) 0 1 = true := by decide +kernel
theorem loop_end21 : loopB (loopS (loop0 5 2 1) 35) 1 0 = true := by decide +kernel
/-- Two bridges, linked at ports of the same numbers. -/
def recvAt (n : Nat) (o : OutM) (T : Tr) : Tr := upto (fun k T => if (k : Int) = o.port then receiveF (k : Int) o.m T else T) n T
def recvs (n : Nat) (l : List OutM) (T : Tr) : Tr := l.foldl (fun T o => recvAt n o T) T
def pairStep (n : Nat) (X : Tr × Tr) : Tr × Tr := (recvs n X.2.outs (outsF X.1), recvs n X.1.outs (outsF X.2))
def pairN (n : Nat) : Nat → Tr × Tr → Tr × Tr
  | 0, X => X
  | k + 1, X => pairStep n (pairN n k X)
def linkAll (n : Nat) (T : Tr) : Tr := upto (fun i T => linkF (i : Int) true T) n T
def pair0 (id : Int) (n : Nat) : Tr := linkAll n (newN id (gports hids) n)
end Go.Proofs.Ytjnbjcieepooaac
