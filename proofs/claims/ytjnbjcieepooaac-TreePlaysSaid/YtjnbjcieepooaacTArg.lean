/- Arguments that are lists of acts or of a tree's ports, opened. -/
import Derived.Test.YtjnbjcieepooaacTDo
import Derived.Test.YtjnbjcieepooaacTL2
namespace Go.Proofs.Ytjnbjcieepooaac
open Go.RowKit
set_option linter.unusedVariables false
set_option linter.unusedSimpArgs false

/-- A slice of values without pointers, no longer than its room. -/
structure FlatC (P : Program) (w : World) (e : TypeId) (a : Option Addr) (len cap : Nat) : Prop where
  f : FlatS P w e a len
  cap : len ≤ cap
section
open Go.ChangeShapes Go.WideShapes Go.ChangeAt
variable {H : Type} {enc : TypeId × Value → H} {P : Program} {w : World} {base : Nat} {spare : Nat → Bool} {held : Bool}
theorem open_flat_slice_c {t e : TypeId} {r : Reach} {b0 : Nat} {v : Value} {y : DataW H} {p : List MemPlace} (ht : P.underlying t = some (.slice e)) (hpos : 0 < P.cellsOf e) (hv : Value.okWide P w r b0 t v) (h : DataW.Trod enc P w base spare held t v y p) :
    ∃ a len cap, v = .slice a len cap ∧ FlatC P w e a len cap := by
  obtain ⟨a, len, cap, rfl, F⟩ := open_flat_slice ht hpos hv h
  refine ⟨a, len, cap, rfl, F, ?_⟩
  obtain ⟨fuel, hf⟩ := h
  rcases Go.Deep.open_slice ht hf with ⟨hcs, _⟩ | ⟨ad, len', cap', m, n, D, Pl, hcs, hb, hl, hm, hmm, hx, hi⟩
  · simp [Value.cells] at hcs
    omega
  · simp [Value.cells] at hcs
    omega
end
theorem ak0 : kindAt Try.prog 5 52 0 = some (.i .i64) := by kernel_rfl
theorem ak1 : kindAt Try.prog 5 52 1 = some (.i .i64) := by kernel_rfl
theorem ak2 : kindAt Try.prog 5 52 2 = some (.i .i64) := by kernel_rfl
theorem ak3 : kindAt Try.prog 5 52 3 = some (.i .u64) := by kernel_rfl
theorem ak4 : kindAt Try.prog 5 52 4 = some (.i .u64) := by kernel_rfl
theorem ak5 : kindAt Try.prog 5 52 5 = some (.i .u64) := by kernel_rfl
theorem ak6 : kindAt Try.prog 5 52 6 = some (.i .i64) := by kernel_rfl
theorem ak7 : kindAt Try.prog 5 52 7 = some .b := by kernel_rfl
theorem ak8 : kindAt Try.prog 5 52 8 = some .b := by kernel_rfl
theorem ak9 : kindAt Try.prog 5 52 9 = some .b := by kernel_rfl
theorem ak10 : kindAt Try.prog 5 52 10 = some .b := by kernel_rfl
theorem ak11 : kindAt Try.prog 5 52 11 = some .b := by kernel_rfl
theorem ak12 : kindAt Try.prog 5 52 12 = some .b := by kernel_rfl
theorem ak13 : kindAt Try.prog 5 52 13 = some (.i .i64) := by kernel_rfl
theorem ak14 : kindAt Try.prog 5 52 14 = some (.i .i64) := by kernel_rfl
theorem ak15 : kindAt Try.prog 5 52 15 = some (.i .i64) := by kernel_rfl
theorem ak16 : kindAt Try.prog 5 52 16 = some (.i .i64) := by kernel_rfl
theorem ak17 : kindAt Try.prog 5 52 17 = some (.i .i64) := by kernel_rfl
theorem acells : Try.prog.cellsOf 52 = 18 := by kernel_rfl
def act0 : ActM := ⟨0, 0, ⟨0, v0, false, false, false, false, false, false, 0, 0, 0, 0, 0⟩⟩
/-- Acts that lie in memory. -/
def ActsAt (w : World) (a : Option Addr) (n : Nat) (f : Nat → ActM) : Prop := 0 < n → ∃ b off, a = some ⟨b, off, none⟩ ∧ b < w.heap.size ∧ ∀ i, i < n → w.rangeAt b (off + i * 18) (f i).cells.toList
theorem ActsAt.below {w w' : World} {a : Option Addr} {n : Nat} {f : Nat → ActM} (h : ActsAt w a n f) (hb : Below w.heap.size w w') : ActsAt w' a n f := fun hn => by
  obtain ⟨b, off, e, hlt, hr⟩ := h hn
  exact ⟨b, off, e, Nat.lt_of_lt_of_le hlt hb.size, fun i hi => range_below (hr i hi) hb⟩
theorem acts_of {w : World} {a : Option Addr} {len : Nat} (F : FlatS Try.prog w 52 a len) :
    ∃ f : Nat → ActM, (∀ i, i < len → (f i).m.v.ok) ∧ ActsAt w a len f := by
  by_cases h0 : 0 < len
  · obtain ⟨b, off, rfl, hlt, hc⟩ := F.at_ h0
    obtain ⟨f, hf⟩ := choose_fn len (fun i (x : ActM) => w.rangeAt b (off + i * 18) x.cells.toList ∧ x.m.v.ok) act0 (fun i hi => by
      obtain ⟨_, h0, x0, rfl, w0⟩ := hc i hi 5 0 _ ak0
      obtain ⟨_, h1, x1, rfl, w1⟩ := hc i hi 5 1 _ ak1
      obtain ⟨_, h2, x2, rfl, w2⟩ := hc i hi 5 2 _ ak2
      obtain ⟨_, h3, x3, rfl, w3⟩ := hc i hi 5 3 _ ak3
      obtain ⟨_, h4, x4, rfl, w4⟩ := hc i hi 5 4 _ ak4
      obtain ⟨_, h5, x5, rfl, w5⟩ := hc i hi 5 5 _ ak5
      obtain ⟨_, h6, x6, rfl, w6⟩ := hc i hi 5 6 _ ak6
      obtain ⟨_, h7, x7, rfl⟩ := hc i hi 5 7 _ ak7
      obtain ⟨_, h8, x8, rfl⟩ := hc i hi 5 8 _ ak8
      obtain ⟨_, h9, x9, rfl⟩ := hc i hi 5 9 _ ak9
      obtain ⟨_, h10, x10, rfl⟩ := hc i hi 5 10 _ ak10
      obtain ⟨_, h11, x11, rfl⟩ := hc i hi 5 11 _ ak11
      obtain ⟨_, h12, x12, rfl⟩ := hc i hi 5 12 _ ak12
      obtain ⟨_, h13, x13, rfl, w13⟩ := hc i hi 5 13 _ ak13
      obtain ⟨_, h14, x14, rfl, w14⟩ := hc i hi 5 14 _ ak14
      obtain ⟨_, h15, x15, rfl, w15⟩ := hc i hi 5 15 _ ak15
      obtain ⟨_, h16, x16, rfl, w16⟩ := hc i hi 5 16 _ ak16
      obtain ⟨_, h17, x17, rfl, w17⟩ := hc i hi 5 17 _ ak17
      rw [acells] at h0 h1 h2 h3 h4 h5 h6 h7 h8 h9 h10 h11 h12 h13 h14 h15 h16 h17
      refine ⟨⟨x0, x1, ⟨x2, ⟨x3, x4, x5, x6⟩, x7, x8, x9, x10, x11, x12, x13, x14, x15, x16, x17⟩⟩, fun j v hj => ?_, ⟨(wf_bdu64 w3).1, (wf_bdu64 w3).2, (wf_bdu64 w4).1, (wf_bdu64 w4).2, (wf_bdu64 w5).1, (wf_bdu64 w5).2, (wf_bd64 w6).1, (wf_bd64 w6).2⟩⟩
      have hl : j < 18 := (List.getElem?_eq_some_iff.1 hj).1
      rw [Nat.add_assoc]
      have : j = 0 ∨ j = 1 ∨ j = 2 ∨ j = 3 ∨ j = 4 ∨ j = 5 ∨ j = 6 ∨ j = 7 ∨ j = 8 ∨ j = 9 ∨ j = 10 ∨ j = 11 ∨ j = 12 ∨ j = 13 ∨ j = 14 ∨ j = 15 ∨ j = 16 ∨ j = 17 := by omega
      rcases this with rfl | rfl | rfl | rfl | rfl | rfl | rfl | rfl | rfl | rfl | rfl | rfl | rfl | rfl | rfl | rfl | rfl | rfl <;> (cases hj; assumption))
    exact ⟨f, fun i hi => (hf i hi).2, fun _ => ⟨b, off, rfl, hlt, fun i hi => (hf i hi).1⟩⟩
  · exact ⟨fun _ => act0, fun i hi => absurd hi (by omega), fun h => absurd h h0⟩
theorem tk0 : kindAt Try.prog 5 31 0 = some (.i .i64) := by kernel_rfl
theorem tk1 : kindAt Try.prog 5 31 1 = some (.i .u64) := by kernel_rfl
theorem tk2 : kindAt Try.prog 5 31 2 = some .b := by kernel_rfl
theorem tk3 : kindAt Try.prog 5 31 3 = some .b := by kernel_rfl
theorem tk4 : kindAt Try.prog 5 31 4 = some (.i .u64) := by kernel_rfl
theorem tk5 : kindAt Try.prog 5 31 5 = some (.i .u64) := by kernel_rfl
theorem tk6 : kindAt Try.prog 5 31 6 = some (.i .u64) := by kernel_rfl
theorem tk7 : kindAt Try.prog 5 31 7 = some (.i .i64) := by kernel_rfl
theorem tk8 : kindAt Try.prog 5 31 8 = some .b := by kernel_rfl
theorem tk9 : kindAt Try.prog 5 31 9 = some (.i .i64) := by kernel_rfl
theorem tk10 : kindAt Try.prog 5 31 10 = some (.i .i64) := by kernel_rfl
theorem tk11 : kindAt Try.prog 5 31 11 = some (.i .i64) := by kernel_rfl
theorem tk12 : kindAt Try.prog 5 31 12 = some (.i .i64) := by kernel_rfl
theorem tk13 : kindAt Try.prog 5 31 13 = some (.i .i64) := by kernel_rfl
theorem tk14 : kindAt Try.prog 5 31 14 = some (.i .i64) := by kernel_rfl
theorem tk15 : kindAt Try.prog 5 31 15 = some .b := by kernel_rfl
theorem tcells : Try.prog.cellsOf 31 = 16 := by kernel_rfl
/-- Ports that lie in memory. -/
def PortsIn (w : World) (a : Option Addr) (n : Nat) (f : Nat → TP) : Prop := 0 < n → ∃ b off, a = some ⟨b, off, none⟩ ∧ TPorts w b off n f
theorem PortsIn.below {w w' : World} {a : Option Addr} {n : Nat} {f : Nat → TP} (h : PortsIn w a n f) (hb : Below w.heap.size w w') : PortsIn w' a n f := fun hn => by
  obtain ⟨b, off, e, hp⟩ := h hn
  exact ⟨b, off, e, hp.below hb⟩
theorem tports_of {w : World} {a : Option Addr} {len : Nat} (F : FlatS Try.prog w 31 a len) :
    ∃ f : Nat → TP, (∀ i, i < len → 0 ≤ (f i).p.cost ∧ (f i).p.cost ≤ 18446744073709551615) ∧ PortsIn w a len f := by
  by_cases h0 : 0 < len
  · obtain ⟨b, off, rfl, hlt, hc⟩ := F.at_ h0
    obtain ⟨f, hf⟩ := choose_fn len (fun i (x : TP) => (∀ o, o < 16 → w.cell? ⟨b, off + i * 16 + o, none⟩ = x.cells[o]?) ∧ 0 ≤ x.p.cost ∧ x.p.cost ≤ 18446744073709551615) tp0 (fun i hi => by
      obtain ⟨_, h0, x0, rfl, w0⟩ := hc i hi 5 0 _ tk0
      obtain ⟨_, h1, x1, rfl, w1⟩ := hc i hi 5 1 _ tk1
      obtain ⟨_, h2, x2, rfl⟩ := hc i hi 5 2 _ tk2
      obtain ⟨_, h3, x3, rfl⟩ := hc i hi 5 3 _ tk3
      obtain ⟨_, h4, x4, rfl, w4⟩ := hc i hi 5 4 _ tk4
      obtain ⟨_, h5, x5, rfl, w5⟩ := hc i hi 5 5 _ tk5
      obtain ⟨_, h6, x6, rfl, w6⟩ := hc i hi 5 6 _ tk6
      obtain ⟨_, h7, x7, rfl, w7⟩ := hc i hi 5 7 _ tk7
      obtain ⟨_, h8, x8, rfl⟩ := hc i hi 5 8 _ tk8
      obtain ⟨_, h9, x9, rfl, w9⟩ := hc i hi 5 9 _ tk9
      obtain ⟨_, h10, x10, rfl, w10⟩ := hc i hi 5 10 _ tk10
      obtain ⟨_, h11, x11, rfl, w11⟩ := hc i hi 5 11 _ tk11
      obtain ⟨_, h12, x12, rfl, w12⟩ := hc i hi 5 12 _ tk12
      obtain ⟨_, h13, x13, rfl, w13⟩ := hc i hi 5 13 _ tk13
      obtain ⟨_, h14, x14, rfl, w14⟩ := hc i hi 5 14 _ tk14
      obtain ⟨_, h15, x15, rfl⟩ := hc i hi 5 15 _ tk15
      rw [tcells] at h0 h1 h2 h3 h4 h5 h6 h7 h8 h9 h10 h11 h12 h13 h14 h15
      refine ⟨⟨⟨x0, x1, x2, x3, ⟨x4, x5, x6, x7⟩⟩, x8, x9, x10, x11, x12, x13, x14, x15⟩, fun o ho => ?_, (wf_bdu64 w1).1, (wf_bdu64 w1).2⟩
      rw [Nat.add_assoc]
      have : o = 0 ∨ o = 1 ∨ o = 2 ∨ o = 3 ∨ o = 4 ∨ o = 5 ∨ o = 6 ∨ o = 7 ∨ o = 8 ∨ o = 9 ∨ o = 10 ∨ o = 11 ∨ o = 12 ∨ o = 13 ∨ o = 14 ∨ o = 15 := by omega
      rcases this with rfl | rfl | rfl | rfl | rfl | rfl | rfl | rfl | rfl | rfl | rfl | rfl | rfl | rfl | rfl | rfl <;> assumption)
    exact ⟨f, fun i hi => (hf i hi).2, fun _ => ⟨b, off, rfl, hlt, fun i o hi ho => (hf i hi).1 o ho⟩⟩
  · exact ⟨fun _ => tp0, fun i hi => absurd hi (by omega), fun h => absurd h h0⟩
/-- A port's row of the list that Ports hands out. -/
theorem port_rows {w : World} {base n : Nat} {v : Value} {T : Tr} (h : w.ownsRow base 31 16 v n (portsTL T)) (hn : T.n = n) (h0 : 0 < n) :
    ∃ g c, v = .slice (some ⟨g, 0, none⟩) n c ∧ base ≤ g ∧ g < w.heap.size ∧ TPorts w g 0 n T.at_ := by
  obtain ⟨g, c, rfl, h1, h2, h3, h4⟩ := own_at h h0
  subst hn
  have hR := RowsB.of_own (f := fun i => (T.at_ i).cells) (fun i => rfl) h
  exact ⟨g, c, rfl, h1, h2, ⟨h2, fun i o hi ho => by rw [Nat.zero_add]; exact hR.cell i o hi ho⟩⟩
end Go.Proofs.Ytjnbjcieepooaac
