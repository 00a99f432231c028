/- Two trees that lie apart from each other. -/
import Derived.Test.YtjnbjcieepooaacTArg2
namespace Go.Proofs.Ytjnbjcieepooaac
open Go.RowKit
set_option linter.unusedVariables false
set_option linter.unusedSimpArgs false

/-- Two trees, apart; none of their own blocks is one of Z. -/
def Two (w : World) (ta : Nat) (A : Tr) (tb : Nat) (B : Tr) (Z : Nat → Prop) : Prop :=
  ∃ BB : TB, BB.tb = tb ∧ TreeW w BB B ∧ (∀ k, TOwn BB B.n k → ¬ Z k) ∧ TAt w ta A (fun k => Z k ∨ TOwn BB B.n k)
theorem Two.swap {w : World} {ta tb : Nat} {A B : Tr} {Z : Nat → Prop} (h : Two w ta A tb B Z) : Two w tb B ta A Z := by
  obtain ⟨BB, e, hB, hz, BA, e2, hA, hz2, hlt⟩ := h
  refine ⟨BA, e2, hA, fun k hk g => hz2 k hk (.inl g), BB, e, hB, fun k hk g => ?_, fun k g => ?_⟩
  · rcases g with g | g
    · exact hz k hk g
    · exact hz2 k g (.inr hk)
  · rcases g with g | g
    · exact hlt k (.inl g)
    · exact hA.own_lt g
theorem Two.below {w w' : World} {ta tb : Nat} {A B : Tr} {Z : Nat → Prop} (h : Two w ta A tb B Z) (hb : Below w.heap.size w w') : Two w' ta A tb B Z := by
  obtain ⟨BB, e, hB, hz, hA⟩ := h
  exact ⟨BB, e, hB.below hb, hz, hA.below hb⟩
theorem Two.more {w : World} {ta tb : Nat} {A B : Tr} {Z Z' : Nat → Prop} (h : Two w ta A tb B Z) (hz : ∀ k, Z' k → Z k) : Two w ta A tb B Z' := by
  obtain ⟨BB, e, hB, hn, hA⟩ := h
  exact ⟨BB, e, hB, fun k hk g => hn k hk (hz k g), hA.more fun k g => .inl (g.elim (fun g => .inl (hz k g)) .inr)⟩
theorem Two.keep {w w' : World} {ta tb : Nat} {A B : Tr} {Z : Nat → Prop} (h : Two w ta A tb B Z) (hb : Below w.heap.size w w') {b : Nat} (h1 : w.heap.size ≤ b) (h2 : b < w'.heap.size) : Two w' ta A tb B (fun k => Z k ∨ k = b) := by
  obtain ⟨BB, e, hB, hn, hA⟩ := h
  refine ⟨BB, e, hB.below hb, fun k hk g => ?_, ?_⟩
  · rcases g with g | g
    · exact hn k hk g
    · have := hB.own_lt hk; omega
  · exact (hA.keep hb h1 h2).more fun k g => .inl (by
      rcases g with (g | g) | g
      · exact .inl (.inl g)
      · exact .inr g
      · exact .inl (.inr g))
/-- What a method of the first one leaves. -/
def TwoPost (w : World) (ta : Nat) (U : Tr) (tb : Nat) (B : Tr) (Z : Nat → Prop) (e : Ending) (w' : World) : Prop := e = .returned (.tuple #[]) ∧ Two w' ta U tb B Z ∧ FrZ Z w w'
theorem two_first {w : World} {ta tb : Nat} {A B U : Tr} {Z : Nat → Prop} {f : Nat} {args : Array Value} (h : Two w ta A tb B Z)
    (hc : ∀ Z', TAt w ta A Z' → Calls Try.prog f args w (AtPost w ta U Z')) : Calls Try.prog f args w (TwoPost w ta U tb B Z) := by
  obtain ⟨BB, e, hB, hz, hA⟩ := h
  refine (hc _ hA).mono ?_
  rintro r w' ⟨rfl, hA', hf⟩
  exact ⟨rfl, ⟨BB, e, hB.fr hf (fun k hk hn => hn (.inr hk)), hz, hA'⟩, hf.mono fun k _ hk g => hk (.inl g)⟩
theorem two_second {w : World} {ta tb : Nat} {A B U : Tr} {Z : Nat → Prop} {f : Nat} {args : Array Value} (h : Two w ta A tb B Z)
    (hc : ∀ Z', TAt w tb B Z' → Calls Try.prog f args w (AtPost w tb U Z')) : Calls Try.prog f args w fun e w' => e = .returned (.tuple #[]) ∧ Two w' ta A tb U Z ∧ FrZ Z w w' := by
  refine (two_first h.swap hc).mono ?_
  rintro r w' ⟨rfl, h', hf⟩
  exact ⟨rfl, h'.swap, hf⟩
def TwoOuts (w : World) (ta : Nat) (A : Tr) (tb : Nat) (B : Tr) (Z : Nat → Prop) (T : Tr) (e : Ending) (w' : World) : Prop :=
  ∃ a c, e = .returned (.slice a T.outs.length c) ∧ w'.ownsRow 0 43 17 (.slice a T.outs.length c) T.outs.length (outsL T.outs) ∧ Two w' ta A tb B (fun k => Z k ∨ InRow (.slice a T.outs.length c) k) ∧ FrZ Z w w'
theorem two_outs1 {w : World} {ta tb : Nat} {A B : Tr} {Z : Nat → Prop} (h : Two w ta A tb B Z) : Calls Try.prog 18 #[.pointer (some ⟨ta, 0, none⟩)] w (TwoOuts w ta (outsF A) tb B Z A) := by
  obtain ⟨BB, e, hB, hz, hA⟩ := h
  refine (outs_at hA).mono ?_
  rintro r w' ⟨a, c, rfl, hown, hA', hf, hrow⟩
  refine ⟨a, c, rfl, hown, ⟨BB, e, hB.fr hf (fun k hk hn => hn (.inr hk)), fun k hk g => ?_, hA'.more fun k g => .inl ?_⟩, hf.mono fun k _ hk g => hk (.inl g)⟩
  · rcases g with g | g
    · exact hz k hk g
    · exact hrow k g (.inr hk)
  · rcases g with (g | g) | g
    · exact .inl (.inl g)
    · exact .inr g
    · exact .inl (.inr g)
theorem two_outs2 {w : World} {ta tb : Nat} {A B : Tr} {Z : Nat → Prop} (h : Two w ta A tb B Z) : Calls Try.prog 18 #[.pointer (some ⟨tb, 0, none⟩)] w (TwoOuts w ta A tb (outsF B) Z B) := by
  refine (two_outs1 h.swap).mono ?_
  rintro r w' ⟨a, c, rfl, hown, h', hf⟩
  exact ⟨a, c, rfl, hown, h'.swap, hf⟩
/-- Two trees that were made one behind the other. -/
theorem two_of {w : World} {ta tb : Nat} {A B : Tr} {Z : Nat → Prop} (hA : TAt w ta A Z) {w' : World} (hb : Below w.heap.size w w') (hB : TAt w' tb B (fun k => k < w.heap.size)) : Two w' ta A tb B Z := by
  obtain ⟨BA, e, h1, h2, h3⟩ := hA
  obtain ⟨BB, e2, g1, g2, g3⟩ := hB
  refine ⟨BB, e2, g1, fun k hk g => g2 k hk (h3 k g), BA, e, h1.below hb, fun k hk g => ?_, fun k g => ?_⟩
  · rcases g with g | g
    · exact h2 k hk g
    · exact g2 k g (h1.own_lt hk)
  · rcases g with g | g
    · exact Nat.lt_of_lt_of_le (h3 k g) hb.size
    · exact g1.own_lt g
/-- What is read of each of them. -/
theorem Two.fst {w : World} {ta tb : Nat} {A B : Tr} {Z : Nat → Prop} (h : Two w ta A tb B Z) : TAt w ta A Z := by
  obtain ⟨BB, e, hB, hz, hA⟩ := h
  exact hA.more fun k g => .inl (.inl g)
theorem Two.snd {w : World} {ta tb : Nat} {A B : Tr} {Z : Nat → Prop} (h : Two w ta A tb B Z) : TAt w tb B Z := h.swap.fst
end Go.Proofs.Ytjnbjcieepooaac
