/- Values without pointers, opened cell by cell: a number, a bool, a struct or an array of such; a slice of such. What stands at each place of a value that reads as such a type is a number or a bool of that place's kind. Conditions: the type's layout, as the table has it. -/
import Derived.Test.YtjnbjcieepooaacRows
import Derived.WalkKit
import Derived.ProofKit
import Derived.OpenShut
import Derived.ShutString
import Derived.ChangeOld
import Derived.Below
import Derived.SizedLaws
import Derived.Deep.Slices
import Derived.Lib.Hide
namespace Go.Proofs.Ytjnbjcieepooaac
open Go.RowKit Go.ChangeShapes Go.WideShapes
set_option linter.unusedVariables false
set_option linter.unusedSimpArgs false

inductive FK where
  | i (k : IntKind)
  | b
def FK.ok : FK → Value → Prop
  | .i k, v => ∃ n, v = .int k n ∧ (Lit.int k n).wf = true
  | .b, v => ∃ x, v = .bool x

/-- The kind of the cell at a place of a type. -/
def kindAt (P : Program) : Nat → TypeId → Nat → Option FK
  | 0, _, _ => none
  | d + 1, t, o =>
    match P.underlying t with
    | some (.int k) => if o = 0 then some (.i k) else none
    | some .bool => if o = 0 then some .b else none
    | some (.struct fs) => (fs.toList.find? fun f => decide (f.offset ≤ o ∧ o < f.offset + P.cellsOf f.type)).bind fun f => kindAt P d f.type (o - f.offset)
    | some (.array n e) => if o / P.cellsOf e < n ∧ 0 < P.cellsOf e then kindAt P d e (o % P.cellsOf e) else none
    | _ => none

section
variable {H : Type} {enc : TypeId × Value → H} {P : Program} {w : World} {base : Nat} {spare : Nat → Bool} {held : Bool}

theorem kind_cell (d : Nat) : ∀ {t : TypeId} {fuel : Nat} {cs : List Value} {x : DataW H × List MemPlace} {o : Nat} {fk : FK},
    DataW.trod enc P w base spare held fuel t cs = some x → kindAt P d t o = some fk → ∃ v, cs[o]? = some v ∧ fk.ok v := by
  induction d with
  | zero => intro t fuel cs x o fk _ h; simp [kindAt] at h
  | succ d ih =>
    intro t fuel cs x o fk h hk
    unfold kindAt at hk
    split at hk
    · rename_i k ht
      split at hk
      · rename_i ho
        subst ho
        obtain rfl := Option.some.inj hk
        cases fuel with
        | zero => simp [DataW.trod] at h
        | succ n =>
          unfold DataW.trod at h
          rw [ht] at h
          split at h <;> simp_all [FK.ok]
      · simp at hk
    · rename_i ht
      split at hk
      · rename_i ho
        subst ho
        obtain rfl := Option.some.inj hk
        cases fuel with
        | zero => simp [DataW.trod] at h
        | succ n =>
          unfold DataW.trod at h
          rw [ht] at h
          split at h <;> simp_all [FK.ok]
      · simp at hk
    · rename_i fs ht
      obtain ⟨f, hf, hk⟩ := Option.bind_eq_some_iff.1 hk
      have hp := List.find?_some hf
      simp only [decide_eq_true_eq] at hp
      obtain ⟨i, hi⟩ := List.mem_iff_getElem?.1 (List.mem_of_find?_eq_some hf)
      obtain ⟨xs, n, _, _, hlen, _, hg⟩ := DataW.trod_struct ht h
      have hi' : fs[i]? = some f := by simpa using hi
      have hgi := hg i f hi'
      cases hx : xs[i]? with
      | none =>
        have hxl : xs.length = fs.size := by assumption
        have h1 := (Array.getElem?_eq_some_iff.1 hi').1
        have h2 := List.getElem?_eq_none_iff.1 hx
        omega
      | some y =>
        rw [hx] at hgi
        obtain ⟨v, hv, hok⟩ := ih hgi hk
        refine ⟨v, ?_, hok⟩
        rw [List.getElem?_take_of_lt (by omega), List.getElem?_drop] at hv
        rw [← hv]
        congr 1
        omega
    · rename_i n e ht
      split at hk
      · rename_i ho
        obtain ⟨xs, m, _, _, hlen, hxl, hg⟩ := DataW.trod_array ht h
        have hgi := hg _ ho.1
        cases hx : xs[o / P.cellsOf e]? with
        | none =>
          have h2 := List.getElem?_eq_none_iff.1 hx
          omega
        | some y =>
          rw [hx] at hgi
          obtain ⟨v, hv, hok⟩ := ih hgi hk
          refine ⟨v, ?_, hok⟩
          rw [List.getElem?_take_of_lt (Nat.mod_lt _ ho.2), List.getElem?_drop] at hv
          rw [← hv]
          congr 1
          have := Nat.div_add_mod o (P.cellsOf e)
          rw [Nat.mul_comm] at this
          omega
      · simp at hk
    · simp at hk

/-- A value without pointers. -/
structure FlatV (P : Program) (t : TypeId) (cs : Array Value) : Prop where
  size : cs.size = P.cellsOf t
  at_ : ∀ d o fk, kindAt P d t o = some fk → ∃ v, cs[o]? = some v ∧ fk.ok v

theorem open_flat_struct {fs : Array Field} {t : TypeId} {r : Reach} {b0 : Nat} {v : Value} {y : DataW H} {p : List MemPlace} (ht : P.underlying t = some (.struct fs)) (hv : Value.okWide P w r b0 t v) (h : DataW.Trod enc P w base spare held t v y p) :
    ∃ cs, v = .agg cs ∧ FlatV P t cs := by
  unfold Value.okWide at hv
  rw [ht] at hv
  obtain ⟨cs, rfl, hs, _⟩ := hv
  obtain ⟨fuel, hf⟩ := h
  refine ⟨cs, rfl, hs, fun d o fk hk => ?_⟩
  obtain ⟨u, hu, hok⟩ := kind_cell d hf hk
  exact ⟨u, by simpa [Value.cells] using hu, hok⟩
theorem open_flat_array {n : Nat} {e t : TypeId} {r : Reach} {b0 : Nat} {v : Value} {y : DataW H} {p : List MemPlace} (ht : P.underlying t = some (.array n e)) (hv : Value.okWide P w r b0 t v) (h : DataW.Trod enc P w base spare held t v y p) :
    ∃ cs, v = .agg cs ∧ FlatV P t cs := by
  unfold Value.okWide at hv
  rw [ht] at hv
  obtain ⟨cs, rfl, hs, _⟩ := hv
  obtain ⟨fuel, hf⟩ := h
  refine ⟨cs, rfl, hs, fun d o fk hk => ?_⟩
  obtain ⟨u, hu, hok⟩ := kind_cell d hf hk
  exact ⟨u, by simpa [Value.cells] using hu, hok⟩

/-- A slice of values without pointers: it lies in memory, element by element. -/
structure FlatS (P : Program) (w : World) (e : TypeId) (a : Option Addr) (len : Nat) : Prop where
  top : len ≤ 9223372036854775807
  at_ : 0 < len → ∃ b off, a = some ⟨b, off, none⟩ ∧ b < w.heap.size ∧ ∀ i, i < len → ∀ d o fk, kindAt P d e o = some fk → ∃ v, w.cell? ⟨b, off + (i * P.cellsOf e + o), none⟩ = some v ∧ fk.ok v

theorem add_spot (a : Addr) (n : Nat) (hs : a.spot = none) : a.add n = ⟨a.block, a.off + n, none⟩ := by
  unfold Addr.add
  split
  · rename_i h; subst h; cases a; simp_all
  · cases a; simp_all

theorem open_flat_slice {t e : TypeId} {r : Reach} {b0 : Nat} {v : Value} {y : DataW H} {p : List MemPlace} (ht : P.underlying t = some (.slice e)) (hpos : 0 < P.cellsOf e) (hv : Value.okWide P w r b0 t v) (h : DataW.Trod enc P w base spare held t v y p) :
    ∃ a len cap, v = .slice a len cap ∧ FlatS P w e a len := by
  obtain ⟨a, len, cap, rfl⟩ := okWide_slice ht hv
  refine ⟨a, len, cap, rfl, ?_⟩
  obtain ⟨fuel, hf⟩ := h
  rcases Go.Deep.open_slice ht hf with ⟨hcs, _⟩ | ⟨ad, len', cap', m, n, D, Pl, hcs, hb, hl, hm, hmm, hx, hi⟩
  · simp [Value.cells] at hcs
    obtain ⟨rfl, rfl, rfl⟩ := hcs
    exact ⟨by omega, fun h => absurd h (by omega)⟩
  · simp [Value.cells] at hcs
    obtain ⟨rfl, rfl, rfl⟩ := hcs
    unfold maxLen at hm
    refine ⟨by omega, fun h0 => ?_⟩
    have hlm : len ≤ m := by rw [hmm]; split <;> omega
    obtain ⟨cs0, hc0, _⟩ := hi 0 (by omega)
    obtain ⟨_, hcl, hat⟩ := World.cells?_some hc0
    have h00 := hat 0 hpos
    have hsp : ad.spot = none := by
      have e0 : (ad.add (0 * P.cellsOf e)).add 0 = ad := by simp [Addr.add]
      rw [e0, List.getElem?_eq_getElem (by omega)] at h00
      unfold World.cell? at h00
      split at h00
      · split at h00
        · simp at h00
        · rename_i h; simpa using h
      · simp at h00
    refine ⟨ad.block, ad.off, by cases ad; simp_all, ?_, fun i him d o fk hk => ?_⟩
    · have e0 : (ad.add (0 * P.cellsOf e)).add 0 = ad := by simp [Addr.add]
      rw [e0, List.getElem?_eq_getElem (by omega)] at h00
      exact World.block_lt_of_cell? w ad h00
    · obtain ⟨cs', hc, htr⟩ := hi i (by omega)
      obtain ⟨u, hu, hok⟩ := kind_cell d htr hk
      obtain ⟨_, hcl', hat'⟩ := World.cells?_some hc
      have ho : o < P.cellsOf e := by
        have := (List.getElem?_eq_some_iff.1 hu).1
        omega
      refine ⟨u, ?_, hok⟩
      have h1 := hat' o ho
      rw [hu, add_spot _ _ (by rw [add_spot _ _ hsp]), add_spot _ _ hsp] at h1
      rw [← h1]
      congr 2
      simp only
      omega
end

theorem FlatV.int_at {P : Program} {t : TypeId} {cs : Array Value} (h : FlatV P t cs) (d o : Nat) {k : IntKind} (hk : kindAt P d t o = some (.i k)) : ∃ n, cs[o]? = some (.int k n) ∧ (Lit.int k n).wf = true := by
  obtain ⟨v, hv, n, rfl, hw⟩ := h.at_ d o _ hk
  exact ⟨n, hv, hw⟩
theorem FlatV.bool_at {P : Program} {t : TypeId} {cs : Array Value} (h : FlatV P t cs) (d o : Nat) (hk : kindAt P d t o = some .b) : ∃ x, cs[o]? = some (.bool x) := by
  obtain ⟨v, hv, n, rfl⟩ := h.at_ d o _ hk
  exact ⟨n, hv⟩

theorem wf_bd64 {a : Int} (h : (Lit.int .i64 a).wf = true) : -9223372036854775808 ≤ a ∧ a ≤ 9223372036854775807 := by
  simp [Lit.wf, IntKind.min, IntKind.max, IntKind.signed, IntKind.bits] at h
  omega
theorem wf_bdu64 {a : Int} (h : (Lit.int .u64 a).wf = true) : 0 ≤ a ∧ a ≤ 18446744073709551615 := by
  simp [Lit.wf, IntKind.min, IntKind.max, IntKind.signed, IntKind.bits] at h
  omega
theorem wf_bdu8 {a : Int} (h : (Lit.int .u8 a).wf = true) : 0 ≤ a ∧ a ≤ 255 := by
  simp [Lit.wf, IntKind.min, IntKind.max, IntKind.signed, IntKind.bits] at h
  omega
end Go.Proofs.Ytjnbjcieepooaac
