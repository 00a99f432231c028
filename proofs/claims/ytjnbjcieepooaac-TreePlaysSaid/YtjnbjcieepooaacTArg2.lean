/- Acts one behind the other; blocks read and written whole. -/
import Derived.Test.YtjnbjcieepooaacTArg
namespace Go.Proofs.Ytjnbjcieepooaac
open Go.RowKit
set_option linter.unusedVariables false
set_option linter.unusedSimpArgs false

/-- Acts, one behind the other. -/
def runF (f : Nat → ActM) : Nat → Tr → Tr
  | 0, T => T
  | k + 1, T => doF (f k) (runF f k T)
theorem run_n (f : Nat → ActM) (k : Nat) (T : Tr) : (runF f k T).n = T.n := by
  induction k with
  | zero => rfl
  | succ k ih => exact (do_n _ _).trans ih
theorem TJ.run {T : Tr} (h : TJ T) (f : Nat → ActM) (k : Nat) : TJ (runF f k T) := by
  induction k with
  | zero => exact h
  | succ k ih => exact ih.do_ _
theorem TOk.run {T : Tr} (f : Nat → ActM) (k : Nat) (hf : ∀ i, i < k → (f i).m.v.ok) {j : Nat} (h : TOk T (34 * k + j)) : TOk (runF f k T) j := by
  induction k generalizing j with
  | zero => exact h.mono (by omega)
  | succ k ih => exact (ih (fun i hi => hf i (by omega)) (j := 34 + j) (h.mono (by omega))).do_ _ (hf k (by omega))
theorem sz52 : (Try.prog.info? 52).map (·.size) = some 18 := by kernel_rfl
theorem blk_sets {b : Nat} {t : TypeId} : ∀ (vs : List Value) (o : Nat) (w : World) (cs : Array Value), o + vs.length ≤ cs.size → Blk w b cs t → ∃ cs', Blk (w.setCells b o vs) b cs' t ∧ cs'.size = cs.size ∧ (∀ j, j < o → cs'[j]? = cs[j]?) ∧ ∀ j, j < vs.length → cs'[o + j]? = vs[j]?
  | [], o, w, cs, _, h => ⟨cs, h, rfl, fun _ _ => rfl, fun j hj => absurd hj (Nat.not_lt_zero j)⟩
  | v :: r, o, w, cs, hl, h => by
    have hl' : o + (r.length + 1) ≤ cs.size := hl
    have h1 := h.set o v
    obtain ⟨cs', a, c, d, e⟩ := blk_sets r (o + 1) (w.setCell ⟨b, o, none⟩ v) (cs.setIfInBounds o v) (by rw [Array.size_setIfInBounds]; omega) h1
    refine ⟨cs', a, by rw [c, Array.size_setIfInBounds], fun j hj => by rw [d j (by omega), get_set_ne (by omega)], fun j hj => ?_⟩
    cases j with
    | zero => rw [Nat.add_zero, d o (by omega), get_set_self (by omega)]; rfl
    | succ j =>
      have hj' : j < r.length := by simpa using hj
      have := e j hj'
      rw [show o + (j + 1) = o + 1 + j by omega, this]
      rfl
/-- A block that is written whole. -/
theorem Blk.over {w : World} {b : Nat} {cs : Array Value} {t : TypeId} (h : Blk w b cs t) (vs : List Value) (hl : vs.length = cs.size) : Blk (w.setCells b 0 vs) b vs.toArray t := by
  obtain ⟨cs', a, c, _, e⟩ := blk_sets vs 0 w cs (by omega) h
  have : cs' = vs.toArray := by
    apply Array.ext_getElem?
    intro j
    by_cases hj : j < vs.length
    · have := e j hj
      rw [Nat.zero_add] at this
      rw [this]
      simp
    · rw [Array.getElem?_eq_none (by omega), Array.getElem?_eq_none (by simpa using hj)]
  rw [← this]
  exact a
theorem Blk.there {w : World} {b : Nat} {cs : Array Value} {t : TypeId} (h : Blk w b cs t) : w.there b 0 cs.size := fun j hj => by
  rw [Nat.zero_add]
  exact ⟨by rw [h.cell]; simp [hj], h.free j⟩
theorem Blk.range {w : World} {b : Nat} {cs : List Value} {t : TypeId} (h : Blk w b cs.toArray t) : w.rangeAt b 0 cs := fun j v hj => by
  rw [Nat.zero_add, h.cell]
  simpa using hj
theorem wpList_load_midw {P : Program} {ops : Array Oper} {rest : List Oper} {op : Oper} {a : Act} {w : World} {Q : Exit → Act → World → Prop} (hw : Region.wanted op (yielded ops a.tmps) = true) (ty : TypeId) (x : Operand) (ho : op.op = .load ty x)
    (b o : Nat) (hx : a.eval x = .pointer (some ⟨b, o, none⟩)) (cs : List Value) (d : TypeDesc) (hc : w.rangeAt b o cs)
    (hu : P.underlying ty = some d) (hd : d.isRow = true) (hi : (P.info? ty).map (·.size) = some cs.length)
    (h : wpList P ops Q rest (a.put op.dst (.agg cs.toArray)) w) : wpList P ops Q (op :: rest) a w :=
  BigFrame.wpList_want hw fun _ hK => wp_load_mid ty x ho b o hx cs d hc hu hd hi (hK _ _ h)
theorem sz27 : (Try.prog.info? 27).map (·.size) = some 4 := by kernel_rfl
theorem inf31 : (Try.prog.info? 31).map (·.size) = some 16 := by kernel_rfl
end Go.Proofs.Ytjnbjcieepooaac
