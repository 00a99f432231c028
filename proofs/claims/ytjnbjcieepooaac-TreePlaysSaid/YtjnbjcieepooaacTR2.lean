/- New trees that are alike, and what follows for the laws on any ids. -/
import Derived.Test.YtjnbjcieepooaacTRel
import Derived.Test.YtjnbjcieepooaacTLG
namespace Go.Proofs.Ytjnbjcieepooaac
open Go.RowKit
set_option linter.unusedVariables false
set_option linter.unusedSimpArgs false

section
variable {RI RP : Int → Int → Prop}
theorem RT.new (N : Names RI RP) {id id' : Int} (hid : RI id id') {g g' : Nat → Int} (M : Nat) (hg : ∀ i, i < M → RP (g i) (g' i)) : RT RI RP (newN id (gports g) M) (newN id' (gports g') M) := by
  refine RT0.sel N ⟨hid, by rw [preT_n, preT_n], fun i => ?_, rfl, All2.nil _, rfl⟩
  by_cases hi : i < M
  · rw [preT_at _ _ _ _ hi, preT_at _ _ _ _ hi]
    exact ⟨hg i hi, fun h => (by cases h), rfl⟩
  · have e1 : (preT id (gports g) M).at_ i = tp0 := by simp [Tr.at_, preT, List.getD, hi]
    have e2 : (preT id' (gports g') M).at_ i = tp0 := by simp [Tr.at_, preT, List.getD, hi]
    rw [e1, e2]
    exact ⟨N.p0, fun h => (by cases h), rfl⟩
end
/-- One name. -/
def oneI (a a' : Int) : Int → Int → Prop := fun x x' => x = a ∧ x' = a'
def sameI : Int → Int → Prop := fun x x' => x = x'
theorem names_one (a a' : Int) : Names (oneI a a') sameI where
  i := ⟨fun {x x' y y'} hx hy => by obtain ⟨rfl, rfl⟩ := hx; obtain ⟨rfl, rfl⟩ := hy; omega⟩
  p := ⟨fun {x x' y y'} hx hy => by cases hx; cases hy; exact Iff.rfl⟩
  p0 := rfl
  r := fun h => by cases h; exact Iff.rfl
def hids (i : Nat) : Int := (i : Int) + 1
def hel : Nat → Tr → Tr
  | 0, T => T
  | k + 1, T => outsF (tickF (hel k T))
def hel0 (id : Int) (n : Nat) : Tr := outsF (linkF 0 true (newN id (gports hids) n))
theorem rt_hel {RI RP : Int → Int → Prop} (N : Names RI RP) {T T' : Tr} (h : RT RI RP T T') (k : Nat) : RT RI RP (hel k T) (hel k T') := by
  induction k with
  | zero => exact h
  | succ k ih => exact (ih.tick N).outsR
def helOk (o : OutM) : Bool := decide (o.port = 0) && decide (o.m.v.cost = 0) && decide (o.m.v.port = 1) && decide (o.m.age = 0) && decide (o.m.maxAge = 5120) && decide (o.m.hello = 512) && decide (o.m.delay = 3840) && decide (o.m.role = 3)
def helB (n s : Nat) : Bool := decide ((tickF (hel s (hel0 5 n))).outs.length = if s % 2 = 0 then 1 else 0) && (tickF (hel s (hel0 5 n))).outs.all helOk
theorem hel_all : ∀ n, n < 9 → 1 ≤ n → ∀ s, s < 60 → helB n s = true := by decide +kernel
/-- What a bridge that stands still tells. -/
theorem hel_any (id : Int) {n s : Nat} (hn : n < 9) (h1 : 1 ≤ n) (hs : s < 60) : (tickF (hel s (hel0 id n))).outs.length = (if s % 2 = 0 then 1 else 0) ∧ ∀ (i : Nat) (o : OutM), (tickF (hel s (hel0 id n))).outs[i]? = some o → helOk o = true ∧ o.m.v.root = id ∧ o.m.v.bridge = id := by
  have N := names_one id 5
  have h0 := ((RT.new N (id := id) (id' := 5) ⟨rfl, rfl⟩ (g := hids) (g' := hids) n fun _ _ => rfl).link N 0 true).outsR
  have h := ((rt_hel N h0 s).tick N).outs
  have hb := hel_all n hn h1 s hs
  unfold helB at hb
  rw [Bool.and_eq_true, decide_eq_true_eq] at hb
  obtain ⟨hl, hall⟩ := hb
  refine ⟨h.1.symm.trans hl, fun i o ho => ?_⟩
  obtain ⟨o', ho'⟩ : ∃ o', (tickF (hel s (hel0 5 n))).outs[i]? = some o' := by
    have hi := (List.getElem?_eq_some_iff.1 ho).1
    exact ⟨_, List.getElem?_eq_getElem (by rw [show (tickF (hel s (hel0 5 n))).outs.length = _ from h.1]; exact hi)⟩
  have hr := h.2 i o o' ho ho'
  have hc : helOk o' = true := List.all_eq_true.1 hall o' (List.mem_of_getElem? ho')
  have e := hr.m.e
  refine ⟨?_, hr.m.v.root.1, hr.m.v.bridge.1⟩
  have e1 := hr.m.v.cost
  have e2 : o.m.v.port = o'.m.v.port := hr.m.v.port
  have e3 := hr.port
  unfold helOk at hc ⊢
  rw [e3, e1, ← e2] at hc
  rw [e] at hc
  exact hc
end Go.Proofs.Ytjnbjcieepooaac
