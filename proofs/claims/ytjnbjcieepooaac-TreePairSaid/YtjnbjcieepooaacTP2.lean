/- The runs of TreeLoop and TreePair for any names, as plain laws. -/
import Derived.Test.YtjnbjcieepooaacTP
namespace Go.Proofs.Ytjnbjcieepooaac
open Go.RowKit
set_option linter.unusedVariables false
set_option linter.unusedSimpArgs false

theorem loopS_tok {RI RP : Int → Int → Prop} (N : Names RI RP) (hI : ∀ a a', RI a a' → 0 ≤ a ∧ a ≤ 18446744073709551615) {T T' : Tr} (h : RT RI RP T T') (hT : TOk T 0)
    (hc : ∀ k, k < 36 → ∀ j, j < 21 → okT (rounds1 j (loopS T' k)) = true) : ∀ k, k < 36 → ∀ j, j < 21 → Good (rounds1 j (loopS T k)) := by
  have inner : ∀ k, k < 36 → TOk (loopS T k) 0 → ∀ j, j < 21 → Good (rounds1 j (loopS T k)) := by
    intro k hk h0 j
    induction j with
    | zero => intro _; exact good_of N hI (h.loopS N k) h0 (hc k hk 0 (by omega))
    | succ j ih =>
      intro hj
      have g := ih (by omega)
      have h1 : TOk (rounds1 (j + 1) (loopS T k)) 0 := TOk.recv1s _ (fun x hx => (g.o x hx).1) (g.ok.outs0.mono (by have := g.len; omega))
      exact good_of N hI ((h.loopS N k).rounds1 N (j + 1)) h1 (hc k hk (j + 1) (by omega))
  intro k
  induction k with
  | zero => intro hk; exact inner 0 (by omega) hT
  | succ k ih =>
    intro hk
    have g := ih (by omega) 20 (by omega)
    have hn := g.ok.n
    have h1 : TOk (loopS T (k + 1)) 0 := (g.big.mono (k := 2 * (rounds1 20 (loopS T k)).n + 0) (by omega)).tick
    exact inner (k + 1) hk h1
/-- Two names of ports, and none. -/
def twoP (lo hi : Int) : Int → Int → Prop := fun x x' => (x = 0 ∧ x' = 0) ∨ (x = lo ∧ x' = 1) ∨ (x = hi ∧ x' = 2)
theorem names_loop (id lo hi : Int) (h1 : 1 ≤ lo) (h2 : lo < hi) (h3 : hi ≤ 4000) : Names (oneI id 5) (twoP lo hi) where
  i := ⟨fun {x x' y y'} hx hy => by obtain ⟨rfl, rfl⟩ := hx; obtain ⟨rfl, rfl⟩ := hy; omega⟩
  p := ⟨fun {x x' y y'} hx hy => by
    rcases hx with ⟨rfl, rfl⟩ | ⟨rfl, rfl⟩ | ⟨rfl, rfl⟩ <;> rcases hy with ⟨rfl, rfl⟩ | ⟨rfl, rfl⟩ | ⟨rfl, rfl⟩ <;> omega⟩
  p0 := .inl ⟨rfl, rfl⟩
  r := fun h => by rcases h with ⟨rfl, rfl⟩ | ⟨rfl, rfl⟩ | ⟨rfl, rfl⟩ <;> omega
theorem loop0_ok (id one two : Int) : TOk (loop0 id one two) 0 := by
  have o0 : TOk (newN id (gports (lids one two)) 2) 100 := TOk.new id _ 2 100 (by omega) (mk_ok _ 2) (by omega)
  have hn : (newN id (gports (lids one two)) 2).n = 2 := newN_n _ _ _
  unfold loop0
  generalize newN id (gports (lids one two)) 2 = T at o0 hn
  have o1 := (o0.mono (k := T.n + 50) (by omega)).link 0 true
  have hn1 : (linkF 0 true T).n = T.n := (shp_link 0 true T).n
  exact (o1.mono (k := (linkF 0 true T).n + 0) (by omega)).link 1 true
theorem loop_law (id one two : Int) (hid : 0 ≤ id ∧ id ≤ 18446744073709551615) (h1 : 1 ≤ one) (h2 : 1 ≤ two) (h3 : one ≤ 4000) (h4 : two ≤ 4000) (h5 : one ≠ two) :
    (∀ k, k < 36 → ∀ j, j < 21 → Good (rounds1 j (loopS (loop0 id one two) k))) ∧ (if two < one then loopB (loopS (loop0 id one two) 35) 1 0 = true else loopB (loopS (loop0 id one two) 35) 0 1 = true) := by
  by_cases h : two < one
  · have N := names_loop id two one h2 h h3
    have hr : RT (oneI id 5) (twoP two one) (loop0 id one two) (loop0 5 2 1) := ((RT.new N (id := id) (id' := 5) ⟨rfl, rfl⟩ (g := lids one two) (g' := lids 2 1) 2 fun i hi => by
      have : i = 0 ∨ i = 1 := by omega
      rcases this with rfl | rfl
      · exact .inr (.inr ⟨rfl, rfl⟩)
      · exact .inr (.inl ⟨rfl, rfl⟩)).link N 0 true).link N 1 true
    refine ⟨loopS_tok N (fun a a' ha => by obtain ⟨rfl, _⟩ := ha; exact hid) hr (loop0_ok id one two) loop_all21, ?_⟩
    rw [if_pos h]
    have hq := (hr.loopS N 35).ps
    have e := loop_end21
    unfold loopB at e ⊢
    rw [(hq 1).role, (hq 1).state, (hq 0).role, (hq 0).state] at e
    exact e
  · have N := names_loop id one two h1 (by omega) h4
    have hr : RT (oneI id 5) (twoP one two) (loop0 id one two) (loop0 5 1 2) := ((RT.new N (id := id) (id' := 5) ⟨rfl, rfl⟩ (g := lids one two) (g' := lids 1 2) 2 fun i hi => by
      have : i = 0 ∨ i = 1 := by omega
      rcases this with rfl | rfl
      · exact .inr (.inl ⟨rfl, rfl⟩)
      · exact .inr (.inr ⟨rfl, rfl⟩)).link N 0 true).link N 1 true
    refine ⟨loopS_tok N (fun a a' ha => by obtain ⟨rfl, _⟩ := ha; exact hid) hr (loop0_ok id one two) loop_all12, ?_⟩
    rw [if_neg h]
    have hq := (hr.loopS N 35).ps
    have e := loop_end12
    unfold loopB at e ⊢
    rw [(hq 1).role, (hq 1).state, (hq 0).role, (hq 0).state] at e
    exact e

theorem recvAt_n (n : Nat) (o : OutM) (k : Nat) (T : Tr) : (upto (fun k T => if (k : Int) = o.port then receiveF (k : Int) o.m T else T) k T).n = T.n := by
  induction k with
  | zero => rfl
  | succ k ih =>
    show (if (k : Int) = o.port then receiveF (k : Int) o.m _ else _).n = T.n
    split
    · exact (shp_receive _ _ _).n.trans ih
    · exact ih
theorem recvs_n (n : Nat) (l : List OutM) (T : Tr) : (recvs n l T).n = T.n := by
  induction l generalizing T with
  | nil => rfl
  | cons x l ih => exact (ih (recvAt n x T)).trans (recvAt_n n x n T)
theorem TOk.recvAts (o : OutM) (ho : o.m.v.ok) (k : Nat) {T : Tr} {j : Nat} (h : TOk T (34 * k + j)) : TOk (upto (fun k T => if (k : Int) = o.port then receiveF (k : Int) o.m T else T) k T) j := by
  induction k generalizing j with
  | zero => exact h.mono (by omega)
  | succ k ih =>
    have g := ih (j := 34 + j) (h.mono (by omega))
    show TOk (if (k : Int) = o.port then receiveF (k : Int) o.m _ else _) j
    split
    · exact g.recv _ _ ho
    · exact g.mono (by omega)
theorem TOk.recvAt {n : Nat} {o : OutM} (ho : o.m.v.ok) {T : Tr} {j : Nat} (h : TOk T (34 * n + j)) : TOk (Go.Proofs.Ytjnbjcieepooaac.recvAt n o T) j := TOk.recvAts o ho n h
theorem TOk.recvs (n : Nat) (l : List OutM) (hl : ∀ x, x ∈ l → x.m.v.ok) {T : Tr} {k : Nat} (h : TOk T (34 * n * l.length + k)) : TOk (Go.Proofs.Ytjnbjcieepooaac.recvs n l T) k := by
  induction l generalizing T with
  | nil => exact h.mono (by simp)
  | cons x l ih =>
    refine ih (fun y hy => hl y (by simp [hy])) (T := Go.Proofs.Ytjnbjcieepooaac.recvAt n x T) ?_
    refine TOk.recvAt (hl x (by simp)) ?_
    exact h.mono (by rw [List.length_cons, Nat.mul_succ]; omega)
theorem pair_nil {n : Nat} {X : Tr × Tr} (h1 : X.1.outs = []) (h2 : X.2.outs = []) : pairStep n X = X := by
  unfold pairStep recvs
  rw [h1, h2]
  show (outsF X.1, outsF X.2) = X
  rw [outs_nil h1, outs_nil h2]
theorem pairN_nil {n : Nat} {X : Tr × Tr} {j : Nat} (h1 : (pairN n j X).1.outs = []) (h2 : (pairN n j X).2.outs = []) (k : Nat) : pairN n (j + k) X = pairN n j X := by
  induction k with
  | zero => rfl
  | succ k ih =>
    show pairStep n (pairN n (j + k) X) = _
    rw [ih]
    exact pair_nil h1 h2
section
variable {RI RP : Int → Int → Prop}
theorem RT.recvAt (N : Names RI RP) (n : Nat) {o o' : OutM} (ho : RO RI RP o o') {T T' : Tr} (h : RT RI RP T T') : RT RI RP (Go.Proofs.Ytjnbjcieepooaac.recvAt n o T) (Go.Proofs.Ytjnbjcieepooaac.recvAt n o' T') := by
  refine RT.upto (fun i T T' h => ?_) n h
  rw [ho.port]
  split
  · exact h.receive N ho.m _
  · exact h
theorem RT.recvs (N : Names RI RP) (n : Nat) {l l' : List OutM} (hl : All2 (RO RI RP) l l') {T T' : Tr} (h : RT RI RP T T') : RT RI RP (Go.Proofs.Ytjnbjcieepooaac.recvs n l T) (Go.Proofs.Ytjnbjcieepooaac.recvs n l' T') := by
  induction l generalizing T T' l' with
  | nil =>
    have : l' = [] := List.eq_nil_of_length_eq_zero hl.1
    subst this
    exact h
  | cons x l ih =>
    obtain ⟨y, l2, rfl, hxy, hl2⟩ := hl.cons
    exact ih hl2 (h.recvAt N n hxy)
theorem RT.pairN (N : Names RI RP) (n : Nat) {X X' : Tr × Tr} (h1 : RT RI RP X.1 X'.1) (h2 : RT RI RP X.2 X'.2) (k : Nat) : RT RI RP (Go.Proofs.Ytjnbjcieepooaac.pairN n k X).1 (Go.Proofs.Ytjnbjcieepooaac.pairN n k X').1 ∧ RT RI RP (Go.Proofs.Ytjnbjcieepooaac.pairN n k X).2 (Go.Proofs.Ytjnbjcieepooaac.pairN n k X').2 := by
  induction k with
  | zero => exact ⟨h1, h2⟩
  | succ k ih => exact ⟨RT.recvs N n ih.2.outs ih.1.outsR, RT.recvs N n ih.1.outs ih.2.outsR⟩
theorem RT.linkAll (N : Names RI RP) (n : Nat) {T T' : Tr} (h : RT RI RP T T') : RT RI RP (Go.Proofs.Ytjnbjcieepooaac.linkAll n T) (Go.Proofs.Ytjnbjcieepooaac.linkAll n T') := RT.upto (f := fun i T => linkF (i : Int) true T) (f' := fun i T => linkF (i : Int) true T) (fun i T T' h => h.link N (i : Int) true) n h
end
/-- The run: both linked, to and fro, a second, to and fro. -/
def pairX0 (one two : Int) (n : Nat) : Tr × Tr := (pair0 one n, pair0 two n)
def pairX1 (one two : Int) (n : Nat) : Tr × Tr := pairN n 4 (pairX0 one two n)
def pairX2 (one two : Int) (n : Nat) : Tr × Tr := (tickF (pairX1 one two n).1, tickF (pairX1 one two n).2)
def pairX3 (one two : Int) (n : Nat) : Tr × Tr := pairN n 4 (pairX2 one two n)
def okP (X : Tr × Tr) : Bool := okT X.1 && okT X.2
def nilP (X : Tr × Tr) : Bool := X.1.outs.isEmpty && X.2.outs.isEmpty
def pairC (one two : Int) (n : Nat) : Bool := (List.range 5).all (fun k => okP (pairN n k (pairX0 one two n))) && (List.range 5).all (fun k => okP (pairN n k (pairX2 one two n))) && nilP (pairX1 one two n) && nilP (pairX3 one two n)
/-- The lesser's and the greater's ends. -/
def pairE (n : Nat) (A B : Tr) : Bool := decide (A.rp = -1) && decide (B.rp = 0) && decide (stateF A 0 = 2) && (List.range n).all fun i => decide ((stateF B (i : Int) = 2) ↔ i = 0)
theorem pair_c12 : ∀ n, n < 7 → 1 ≤ n → (pairC 1 2 n && pairE n (pairX3 1 2 n).1 (pairX3 1 2 n).2 && decide ((pairX3 1 2 n).1.vec.root = 1) && decide ((pairX3 1 2 n).2.vec.root = 1)) = true := by decide +kernel
theorem pair_c21 : ∀ n, n < 7 → 1 ≤ n → (pairC 2 1 n && pairE n (pairX3 2 1 n).2 (pairX3 2 1 n).1 && decide ((pairX3 2 1 n).1.vec.root = 1) && decide ((pairX3 2 1 n).2.vec.root = 1)) = true := by decide +kernel
end Go.Proofs.Ytjnbjcieepooaac
