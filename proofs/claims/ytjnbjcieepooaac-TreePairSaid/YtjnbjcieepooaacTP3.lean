/- TreePair's plain law. -/
import Derived.Test.YtjnbjcieepooaacTP2
namespace Go.Proofs.Ytjnbjcieepooaac
open Go.RowKit
set_option linter.unusedVariables false
set_option linter.unusedSimpArgs false

theorem pairN_good {RI RP : Int → Int → Prop} (N : Names RI RP) (hI : ∀ a a', RI a a' → 0 ≤ a ∧ a ≤ 18446744073709551615) (n : Nat) (hn : n ≤ 6) {X X' : Tr × Tr} (h1 : RT RI RP X.1 X'.1) (h2 : RT RI RP X.2 X'.2) (o1 : TOk X.1 0) (o2 : TOk X.2 0)
    (hc : ∀ k, k < 5 → okP (pairN n k X') = true) : ∀ k, k < 5 → Good (pairN n k X).1 ∧ Good (pairN n k X).2 := by
  intro k
  induction k with
  | zero =>
    intro hk
    have e := hc 0 hk
    unfold okP at e
    rw [Bool.and_eq_true] at e
    exact ⟨good_of N hI h1 o1 e.1, good_of N hI h2 o2 e.2⟩
  | succ k ih =>
    intro hk
    obtain ⟨g1, g2⟩ := ih (by omega)
    have e := hc (k + 1) hk
    unfold okP at e
    rw [Bool.and_eq_true] at e
    have hr := RT.pairN N n h1 h2 (k + 1)
    have b1 : TOk (pairN n (k + 1) X).1 0 := TOk.recvs n _ (fun x hx => (g2.o x hx).1) (g1.ok.outs0.mono (by
      have h := g2.len
      have : 34 * n * (pairN n k X).2.outs.length ≤ 34 * 6 * 500 := Nat.mul_le_mul (by omega) h
      omega))
    have b2 : TOk (pairN n (k + 1) X).2 0 := TOk.recvs n _ (fun x hx => (g1.o x hx).1) (g2.ok.outs0.mono (by
      have h := g1.len
      have : 34 * n * (pairN n k X).1.outs.length ≤ 34 * 6 * 500 := Nat.mul_le_mul (by omega) h
      omega))
    exact ⟨good_of N hI hr.1 b1 e.1, good_of N hI hr.2 b2 e.2⟩
theorem links_ok (k : Nat) {T : Tr} {j : Nat} (h : TOk T (16 * k + j)) : TOk (upto (fun i T => linkF (i : Int) true T) k T) j := by
  induction k generalizing j with
  | zero => exact h.mono (by omega)
  | succ k ih =>
    have g := ih (j := 16 + j) (h.mono (by omega))
    have hn := g.n
    exact (g.mono (k := (upto (fun i T => linkF (i : Int) true T) k T).n + j) (by omega)).link _ _
theorem pair0_ok (id : Int) (n : Nat) (hn : n ≤ 6) : TOk (pair0 id n) 0 := links_ok n (TOk.new id _ n _ (by omega) (mk_ok hids n) (by omega))
/-- Two names of bridges. -/
def twoI (a b : Int) : Int → Int → Prop := fun x x' => (x = a ∧ x' = 1) ∨ (x = b ∧ x' = 2)
theorem names_pair (a b : Int) (h : a < b) : Names (twoI a b) sameI where
  i := ⟨fun {x x' y y'} hx hy => by
    rcases hx with ⟨rfl, rfl⟩ | ⟨rfl, rfl⟩ <;> rcases hy with ⟨rfl, rfl⟩ | ⟨rfl, rfl⟩ <;> omega⟩
  p := ⟨fun {x x' y y'} hx hy => by cases hx; cases hy; exact Iff.rfl⟩
  p0 := rfl
  r := fun h => by cases h; exact Iff.rfl
/-- What TreePair's walk asks. -/
structure PairLaw (one two : Int) (n : Nat) : Prop where
  g0 : ∀ k, k < 5 → Good (pairN n k (pairX0 one two n)).1 ∧ Good (pairN n k (pairX0 one two n)).2
  g2 : ∀ k, k < 5 → Good (pairN n k (pairX2 one two n)).1 ∧ Good (pairN n k (pairX2 one two n)).2
  n1 : (pairX1 one two n).1.outs = [] ∧ (pairX1 one two n).2.outs = []
  n3 : (pairX3 one two n).1.outs = [] ∧ (pairX3 one two n).2.outs = []
/-- One is the root, the other one's first port leads to it. -/
structure PairEnd (r : Int) (n : Nat) (A B : Tr) : Prop where
  ar : A.vec.root = r
  br : B.vec.root = r
  ap : A.rp = -1
  bp : B.rp = 0
  a0 : stateF A 0 = 2
  bs : ∀ i : Nat, i < n → (stateF B (i : Int) = 2 ↔ i = 0)
theorem state_rt {RI RP : Int → Int → Prop} {T T' : Tr} (h : RT RI RP T T') (x : Int) : stateF T' x = stateF T x := by
  unfold stateF
  rw [h.n, (h.ps x.toNat).state]
theorem pair_end {a b : Int} {n : Nat} {A B A' B' : Tr} (h1 : RT (twoI a b) sameI A A') (h2 : RT (twoI a b) sameI B B') (he : pairE n A' B' = true) (r1 : A'.vec.root = 1) (r2 : B'.vec.root = 1) : PairEnd a n A B := by
  unfold pairE at he
  simp only [Bool.and_eq_true, decide_eq_true_eq, List.all_eq_true, List.mem_range] at he
  obtain ⟨⟨⟨e1, e2⟩, e3⟩, e4⟩ := he
  refine ⟨?_, ?_, by rw [← h1.rp]; exact e1, by rw [← h2.rp]; exact e2, by rw [← state_rt h1]; exact e3, fun i hi => by rw [← state_rt h2]; exact e4 i hi⟩
  · rcases h1.vec.root with ⟨e, _⟩ | ⟨_, e⟩
    · exact e
    · omega
  · rcases h2.vec.root with ⟨e, _⟩ | ⟨_, e⟩
    · exact e
    · omega
theorem pair_gen {a b one two : Int} {o t : Int} (h : a < b) (ha : 0 ≤ a) (hb : b ≤ 18446744073709551615) (n : Nat) (hn : n ≤ 6) (ho : twoI a b one o) (ht : twoI a b two t) (hc : pairC o t n = true) :
    PairLaw one two n ∧ RT (twoI a b) sameI (pairX3 one two n).1 (pairX3 o t n).1 ∧ RT (twoI a b) sameI (pairX3 one two n).2 (pairX3 o t n).2 := by
  have N := names_pair a b h
  have hI : ∀ x x', twoI a b x x' → 0 ≤ x ∧ x ≤ 18446744073709551615 := fun x x' hx => by rcases hx with ⟨rfl, _⟩ | ⟨rfl, _⟩ <;> omega
  have r1 : RT (twoI a b) sameI (pair0 one n) (pair0 o n) := RT.linkAll N n (RT.new N ho (g := hids) (g' := hids) n fun _ _ => rfl)
  have r2 : RT (twoI a b) sameI (pair0 two n) (pair0 t n) := RT.linkAll N n (RT.new N ht (g := hids) (g' := hids) n fun _ _ => rfl)
  unfold pairC at hc
  simp only [Bool.and_eq_true, List.all_eq_true, List.mem_range] at hc
  obtain ⟨⟨⟨c0, c2⟩, c1⟩, c3⟩ := hc
  have G0 := pairN_good N hI n hn (X := pairX0 one two n) (X' := pairX0 o t n) r1 r2 (pair0_ok one n hn) (pair0_ok two n hn) c0
  have R1 := RT.pairN N n (X := pairX0 one two n) (X' := pairX0 o t n) r1 r2 4
  have t1 := R1.1.tick N
  have t2 := R1.2.tick N
  obtain ⟨g1, g2⟩ := G0 4 (by omega)
  have k1 : TOk (pairX2 one two n).1 0 := by
    have h1 := g1.ok.n
    exact (g1.big.mono (k := 2 * (pairN n 4 (pairX0 one two n)).1.n + 0) (by omega)).tick
  have k2 : TOk (pairX2 one two n).2 0 := by
    have h1 := g2.ok.n
    exact (g2.big.mono (k := 2 * (pairN n 4 (pairX0 one two n)).2.n + 0) (by omega)).tick
  have G2 := pairN_good N hI n hn (X := pairX2 one two n) (X' := pairX2 o t n) t1 t2 k1 k2 c2
  have R3 := RT.pairN N n (X := pairX2 one two n) (X' := pairX2 o t n) t1 t2 4
  have nil_of : ∀ {X X' : Tr × Tr}, RT (twoI a b) sameI X.1 X'.1 → RT (twoI a b) sameI X.2 X'.2 → nilP X' = true → X.1.outs = [] ∧ X.2.outs = [] := fun {X X'} h1 h2 h => by
    unfold nilP at h
    rw [Bool.and_eq_true] at h
    have e1 : X'.1.outs = [] := by simpa using h.1
    have e2 : X'.2.outs = [] := by simpa using h.2
    have l1 := h1.outs.1
    have l2 := h2.outs.1
    rw [e1] at l1
    rw [e2] at l2
    exact ⟨List.eq_nil_of_length_eq_zero l1.symm, List.eq_nil_of_length_eq_zero l2.symm⟩
  exact ⟨⟨G0, G2, nil_of R1.1 R1.2 c1, nil_of R3.1 R3.2 c3⟩, R3.1, R3.2⟩
theorem pair_law (one two : Int) (h1 : 0 ≤ one ∧ one ≤ 18446744073709551615) (h2 : 0 ≤ two ∧ two ≤ 18446744073709551615) (hne : one ≠ two) (n : Nat) (hn1 : 1 ≤ n) (hn : n ≤ 6) :
    PairLaw one two n ∧ (if two < one then PairEnd two n (pairX3 one two n).2 (pairX3 one two n).1 else PairEnd one n (pairX3 one two n).1 (pairX3 one two n).2) := by
  by_cases h : two < one
  · have hc := pair_c21 n (by omega) hn1
    simp only [Bool.and_eq_true, decide_eq_true_eq] at hc
    obtain ⟨⟨⟨c1, c2⟩, c3⟩, c4⟩ := hc
    obtain ⟨g1, g2, g3⟩ := pair_gen (a := two) (b := one) h h2.1 h1.2 n hn (.inr ⟨rfl, rfl⟩) (.inl ⟨rfl, rfl⟩) c1
    rw [if_pos h]
    exact ⟨g1, pair_end g3 g2 c2 c4 c3⟩
  · have hc := pair_c12 n (by omega) hn1
    simp only [Bool.and_eq_true, decide_eq_true_eq] at hc
    obtain ⟨⟨⟨c1, c2⟩, c3⟩, c4⟩ := hc
    obtain ⟨g1, g2, g3⟩ := pair_gen (a := one) (b := two) (by omega) h1.1 h2.2 n hn (.inl ⟨rfl, rfl⟩) (.inr ⟨rfl, rfl⟩) c1
    rw [if_neg h]
    exact ⟨g1, pair_end g2 g3 c2 c3 c4⟩
end Go.Proofs.Ytjnbjcieepooaac
