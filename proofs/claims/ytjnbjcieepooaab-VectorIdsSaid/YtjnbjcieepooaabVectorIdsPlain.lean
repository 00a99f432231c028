/- Ids in order: a priority ahead, then the address byte by byte; strings of bytes in order are numbers in order. -/
import Derived.Test.YtjnbjcieepooaabVectorC
import Derived.Laws.BytesArg
import Derived.Lib.Bytes
namespace Go.Proofs.Ytjnbjcieepooaab
open Go.RowKit
set_option linter.unusedVariables false
set_option linter.unusedSimpArgs false

/-- The number whose digits are the bytes. -/
def fv (p : Int) : List Int → Int
  | [] => p
  | x :: l => fv (p * 256 + x) l
def Bytes256 (l : List Int) : Prop := ∀ x ∈ l, 0 ≤ x ∧ x ≤ 255
theorem fv_lt : ∀ (xs ys : List Int) (p q : Int), xs.length = ys.length → Bytes256 xs → Bytes256 ys → p < q → fv p xs < fv q ys
  | [], [], p, q, _, _, _, h => h
  | x :: xs, y :: ys, p, q, hl, hx, hy, h => by
    have h1 := hx x (List.mem_cons_self)
    have h2 := hy y (List.mem_cons_self)
    exact fv_lt xs ys _ _ (by simpa using hl) (fun z hz => hx z (List.mem_cons_of_mem _ hz)) (fun z hz => hy z (List.mem_cons_of_mem _ hz)) (by omega)
  | [], _ :: _, _, _, hl, _, _, _ => by simp at hl
  | _ :: _, [], _, _, hl, _, _, _ => by simp at hl

theorem u8_lt {x y : Int} (x0 : 0 ≤ x) (x1 : x ≤ 255) (y0 : 0 ≤ y) (y1 : y ≤ 255) : (UInt8.ofNat x.toNat < UInt8.ofNat y.toNat) ↔ x < y := by
  rw [UInt8.lt_iff_toNat_lt, UInt8.toNat_ofNat', UInt8.toNat_ofNat']
  omega
theorem u8_eq {x y : Int} (x0 : 0 ≤ x) (x1 : x ≤ 255) (y0 : 0 ≤ y) (y1 : y ≤ 255) : (UInt8.ofNat x.toNat = UInt8.ofNat y.toNat) ↔ x = y := by
  constructor
  · intro h
    have := congrArg UInt8.toNat h
    rw [UInt8.toNat_ofNat', UInt8.toNat_ofNat'] at this
    omega
  · rintro rfl; rfl

theorem less_fv : ∀ (xs ys : List Int) (p : Int), xs.length = ys.length → Bytes256 xs → Bytes256 ys → Op.bytesLess (Lib.bytesOf xs) (Lib.bytesOf ys) = decide (fv p xs < fv p ys)
  | [], [], p, _, _, _ => by
    show Op.bytesLess [] [] = _
    simp [Op.bytesLess, fv]
  | x :: xs, y :: ys, p, hl, hx, hy => by
    have h1 := hx x (List.mem_cons_self)
    have h2 := hy y (List.mem_cons_self)
    have hxs : Bytes256 xs := fun z hz => hx z (List.mem_cons_of_mem _ hz)
    have hys : Bytes256 ys := fun z hz => hy z (List.mem_cons_of_mem _ hz)
    have hl' : xs.length = ys.length := by simpa using hl
    have ih := less_fv xs ys (p * 256 + x) hl' hxs hys
    show Op.bytesLess (UInt8.ofNat x.toNat :: Lib.bytesOf xs) (UInt8.ofNat y.toNat :: Lib.bytesOf ys) = _
    rw [Op.bytesLess]
    show _ = decide (fv (p * 256 + x) xs < fv (p * 256 + y) ys)
    rcases Int.lt_trichotomy x y with h | h | h
    · have e1 : UInt8.ofNat x.toNat < UInt8.ofNat y.toNat := (u8_lt h1.1 h1.2 h2.1 h2.2).2 h
      have e2 := fv_lt xs ys (p * 256 + x) (p * 256 + y) hl' hxs hys (by omega)
      rw [decide_eq_true e1, decide_eq_true e2]; rfl
    · subst h
      have e1 : ¬ (UInt8.ofNat x.toNat < UInt8.ofNat x.toNat) := fun e => by have := (u8_lt h1.1 h1.2 h1.1 h1.2).1 e; omega
      rw [decide_eq_false e1, ih]; simp
    · have e1 : ¬ (UInt8.ofNat x.toNat < UInt8.ofNat y.toNat) := fun e => by have := (u8_lt h1.1 h1.2 h2.1 h2.2).1 e; omega
      have e3 : ¬ (UInt8.ofNat x.toNat = UInt8.ofNat y.toNat) := fun e => by have := (u8_eq h1.1 h1.2 h2.1 h2.2).1 e; omega
      have e2 := fv_lt ys xs (p * 256 + y) (p * 256 + x) hl'.symm hys hxs (by omega)
      rw [decide_eq_false e1, decide_eq_false (show ¬ fv (p * 256 + x) xs < fv (p * 256 + y) ys by omega)]
      simp [e3]
  | [], _ :: _, _, hl, _, _ => by simp at hl
  | _ :: _, [], _, hl, _, _ => by simp at hl

def macL (m : Nat → Int) : List Int := [m 0, m 1, m 2, m 3, m 4, m 5]
theorem macL_ok {m : Nat → Int} (h : ∀ k, k < 6 → 0 ≤ m k ∧ m k ≤ 255) : Bytes256 (macL m) := by
  intro x hx
  simp only [macL, List.mem_cons, List.not_mem_nil, or_false] at hx
  rcases hx with rfl | rfl | rfl | rfl | rfl | rfl
  · exact h 0 (by omega)
  · exact h 1 (by omega)
  · exact h 2 (by omega)
  · exact h 3 (by omega)
  · exact h 4 (by omega)
  · exact h 5 (by omega)
theorem id_fv (p : Int) (m : Nat → Int) : idN p m 6 = fv p (macL m) := rfl
/-- Ids in order. -/
theorem id_less {p q : Int} {m n : Nat → Int} (hm : ∀ k, k < 6 → 0 ≤ m k ∧ m k ≤ 255) (hn : ∀ k, k < 6 → 0 ≤ n k ∧ n k ≤ 255) :
    decide (idN p m 6 < idN q n 6) = if p = q then Op.bytesLess (Lib.bytesOf (macL m)) (Lib.bytesOf (macL n)) else decide (p < q) := by
  rw [id_fv, id_fv]
  have hl : (macL m).length = (macL n).length := rfl
  have hM := macL_ok hm
  have hN := macL_ok hn
  generalize macL m = M at hl hM ⊢
  generalize macL n = N at hl hN ⊢
  split
  · rename_i h
    subst h
    exact (less_fv _ _ p hl hM hN).symm
  · rename_i h
    by_cases h1 : p < q
    · rw [decide_eq_true h1, decide_eq_true (fv_lt _ _ _ _ hl hM hN h1)]
    · have := fv_lt _ _ _ _ hl.symm hN hM (show q < p by omega)
      rw [decide_eq_false h1, decide_eq_false (by omega)]
end Go.Proofs.Ytjnbjcieepooaab
