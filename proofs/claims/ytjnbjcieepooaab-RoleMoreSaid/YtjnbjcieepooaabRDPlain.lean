/- The law 'RoleDown' answers true. -/
import Derived.Test.YtjnbjcieepooaabRLSelects
import Derived.Test.YtjnbjcieepooaabRoleOpen
import Derived.Test.YtjnbjcieepooaabLay
namespace Go.Proofs.Ytjnbjcieepooaab
open Go.RowKit
set_option linter.unusedVariables false
set_option linter.unusedSimpArgs false

def downA (ps : Nat → RPort) (m : Nat) : Nat → RPort := updF ps m { ps m with up := false, has := false }
def downB (ps : Nat → RPort) (m : Nat) : Nat → RPort := updF ps m ⟨(ps m).id, (ps m).cost, false, true, ⟨0, 0, 0, 0⟩⟩
theorem downA_ne (ps : Nat → RPort) {m i : Nat} (h : i ≠ m) : downA ps m i = ps i := updF_ne _ _ h
theorem downB_ne (ps : Nat → RPort) {m i : Nat} (h : i ≠ m) : downB ps m i = ps i := updF_ne _ _ h
theorem downA_at (ps : Nat → RPort) (m : Nat) : downA ps m m = { ps m with up := false, has := false } := updF_same _ _ _
theorem downB_at (ps : Nat → RPort) (m : Nat) : downB ps m m = ⟨(ps m).id, (ps m).cost, false, true, ⟨0, 0, 0, 0⟩⟩ := updF_same _ _ _
theorem down_id (ps : Nat → RPort) (m i : Nat) : (downB ps m i).id = (downA ps m i).id := by
  by_cases h : i = m
  · subst h; rw [downA_at, downB_at]
  · rw [downA_ne _ h, downB_ne _ h]
theorem vec0_ok : (⟨0, 0, 0, 0⟩ : Vec).ok := ⟨by decide, by decide, by decide, by decide, by decide, by decide, by decide, by decide⟩
theorem down_ok {ps : Nat → RPort} {n : Nat} (h : ∀ i, i < n → (ps i).ok) (m : Nat) : (∀ i, i < n → (downA ps m i).ok) ∧ (∀ i, i < n → (downB ps m i).ok) := by
  refine ⟨fun i hi => ?_, fun i hi => ?_⟩
  · by_cases e : i = m
    · subst e; rw [downA_at]; have := h i hi; exact ⟨this.c0, this.c1, this.v⟩
    · rw [downA_ne _ e]; exact h i hi
  · by_cases e : i = m
    · subst e; rw [downB_at]; have := h i hi; exact ⟨this.c0, this.c1, vec0_ok⟩
    · rw [downB_ne _ e]; exact h i hi
theorem down_take (g : Int) (ps : Nat → RPort) (m : Nat) (S : Way) (k : Nat) : takeW g (downB ps m) S k = takeW g (downA ps m) S k := by
  have hid : (fun i => (downB ps m i).id) = (fun i => (downA ps m i).id) := funext (down_id ps m)
  by_cases h : k = m
  · subst h; rw [take_down (by rw [downB_at]), take_down (by rw [downA_at])]
  · unfold takeW
    rw [hid, downA_ne _ h, downB_ne _ h]
theorem down_way (g : Int) (ps : Nat → RPort) (m n : Nat) : wayN g (downB ps m) n = wayN g (downA ps m) n := by
  induction n with
  | zero => rfl
  | succ k ih =>
    by_cases ht : takeW g (downA ps m) (wayN g (downA ps m) k) k = true
    · rw [way_take ht, way_take (by rw [ih, down_take]; exact ht)]
      by_cases h : k = m
      · subst h; rw [take_down (by rw [downA_at])] at ht; cases ht
      · rw [downA_ne _ h, downB_ne _ h]
    · have hf : takeW g (downA ps m) (wayN g (downA ps m) k) k = false := by simpa using ht
      rw [way_skip hf, way_skip (by rw [ih, down_take]; exact hf), ih]
theorem down_tell (g : Int) (ps : Nat → RPort) (m : Nat) (S : Way) (i : Nat) : tellF g (downB ps m) S i = tellF g (downA ps m) S i := by
  unfold tellF; rw [down_id]
theorem down_role (g : Int) (ps : Nat → RPort) (m : Nat) (S : Way) (i : Nat) : roleF g (downB ps m) S i = roleF g (downA ps m) S i := by
  by_cases h : i = m
  · subst h
    unfold roleF ofF
    rw [if_pos (by rw [downB_at]), if_pos (by rw [downA_at])]
  · unfold roleF
    rw [down_tell, downA_ne _ h, downB_ne _ h]
theorem down_zero (g : Int) (ps : Nat → RPort) (m : Nat) (S : Way) : roleF g (downA ps m) S m = 0 := by
  unfold roleF ofF
  rw [if_pos (by rw [downA_at])]

theorem PortsAt.of_rows {w : World} {b : Nat} {t : TypeId} {n : Nat} {ps : Nat → RPort} (h : RowsB w b t 8 n (fun i => (ps i).cells)) : PortsAt w b 0 n ps := by
  have hx : ∀ i o, i < n → o < 8 → w.cell? ⟨b, 0 + i * 8 + o, none⟩ = (ps i).cells[o]? := fun i o hi ho => by rw [Nat.zero_add]; exact h.cell i o hi ho
  exact ⟨h.lt, fun i hi => hx i 0 hi (by omega), fun i hi => hx i 1 hi (by omega), fun i hi => hx i 2 hi (by omega), fun i hi => hx i 3 hi (by omega), fun i hi => hx i 4 hi (by omega), fun i hi => hx i 5 hi (by omega), fun i hi => hx i 6 hi (by omega), fun i hi => hx i 7 hi (by omega)⟩
theorem portsL_len (ps : Nat → RPort) (n : Nat) : (portsL ps n).length = n * 8 := flat_len _ 8 (fun i => rfl) n
theorem portsL_one (ps : Nat → RPort) (n : Nat) : ∀ u ∈ portsL ps n, u.oneCell' = true := fun u hu => by
  obtain ⟨i, _, hi⟩ := List.mem_flatMap.1 hu
  simp only [RPort.cells, List.mem_cons, List.not_mem_nil, or_false] at hi
  rcases hi with rfl | rfl | rfl | rfl | rfl | rfl | rfl | rfl <;> rfl
theorem PortsAt.news {w : World} {b off n : Nat} {ps : Nat → RPort} (h : PortsAt w b off n ps) (j : Nat) (u : Value) (hj : (portsL ps n)[j]? = some u) : w.cell? ⟨b, off + j, none⟩ = some u := by
  have hl := portsL_len ps n
  have hlt : j < n * 8 := by have := (List.getElem?_eq_some_iff.1 hj).1; omega
  have hd : j / 8 * 8 + j % 8 = j := by omega
  have hi : j / 8 < n := by omega
  have e := flat_get (fun i => (ps i).cells.toList) 8 (fun i => rfl) n (j / 8) (j % 8) hi (Nat.mod_lt _ (by omega))
  rw [hd] at e
  have e' : ((ps (j / 8)).cells.toList)[j % 8]? = some u := e.symm.trans hj
  have hm : j % 8 = 0 ∨ j % 8 = 1 ∨ j % 8 = 2 ∨ j % 8 = 3 ∨ j % 8 = 4 ∨ j % 8 = 5 ∨ j % 8 = 6 ∨ j % 8 = 7 := by omega
  have ho : off + j = off + j / 8 * 8 + j % 8 := by omega
  rw [ho, ← e']
  rcases hm with hm | hm | hm | hm | hm | hm | hm | hm <;> rw [hm]
  · exact h.c0 _ hi
  · exact h.c1 _ hi
  · exact h.c2 _ hi
  · exact h.c3 _ hi
  · exact h.c4 _ hi
  · exact h.c5 _ hi
  · exact h.c6 _ hi
  · exact h.c7 _ hi
theorem info61 : (Try.prog.info? 61).map (fun i => (i.zero, i.size, i.bytes)) = some (some (.agg #[.int .i64 0, .int .u64 0, .bool false, .bool false, .int .u64 0, .int .u64 0, .int .u64 0, .int .i64 0]), 8, 56) := by kernel_rfl
/-- The cells of a port's row where it is to be written. -/
theorem RowsB.row8 {w : World} {b : Nat} {t : TypeId} {n m : Nat} {ps : Nat → RPort} (h : RowsB w b t 8 n (fun i => (ps i).cells)) (hm : m < n) :
    w.cell? ⟨b, m * 8 + 2, none⟩ = some (.bool (ps m).up) ∧ w.cell? ⟨b, m * 8 + 3, none⟩ = some (.bool (ps m).has) ∧ w.cell? ⟨b, m * 8 + 4, none⟩ = some (.int .u64 (ps m).told.root) ∧ w.cell? ⟨b, m * 8 + 5, none⟩ = some (.int .u64 (ps m).told.cost) ∧ w.cell? ⟨b, m * 8 + 6, none⟩ = some (.int .u64 (ps m).told.bridge) ∧ w.cell? ⟨b, m * 8 + 7, none⟩ = some (.int .i64 (ps m).told.port) ∧ ∀ o, w.frozen? ⟨b, o, none⟩ = false :=
  ⟨h.cell m 2 hm (by omega), h.cell m 3 hm (by omega), h.cell m 4 hm (by omega), h.cell m 5 hm (by omega), h.cell m 6 hm (by omega), h.cell m 7 hm (by omega), h.free⟩
theorem downA_rows {w : World} {b : Nat} {t : TypeId} {n m : Nat} {ps : Nat → RPort} (h : RowsB w b t 8 n (fun i => (ps i).cells)) (hm : m < n) :
    RowsB ((w.setCell ⟨b, m * 8 + 2, none⟩ (.bool false)).setCell ⟨b, m * 8 + 3, none⟩ (.bool false)) b t 8 n (fun i => (downA ps m i).cells) := by
  refine ((h.set hm (o := 2) (by omega) (.bool false)).set hm (o := 3) (by omega) (.bool false)).congr fun i hi => ?_
  by_cases e : i = m
  · subst e; rw [updF_same, updF_same, downA_at]; rfl
  · rw [updF_ne _ _ e, updF_ne _ _ e, downA_ne _ e]
theorem downB_rows {w : World} {b : Nat} {t : TypeId} {n m : Nat} {ps : Nat → RPort} (h : RowsB w b t 8 n (fun i => (downA ps m i).cells)) (hm : m < n) :
    RowsB (((((w.setCell ⟨b, m * 8 + 3, none⟩ (.bool true)).setCell ⟨b, m * 8 + 4, none⟩ (.int .u64 0)).setCell ⟨b, m * 8 + 5, none⟩ (.int .u64 0)).setCell ⟨b, m * 8 + 6, none⟩ (.int .u64 0)).setCell ⟨b, m * 8 + 7, none⟩ (.int .i64 0)) b t 8 n (fun i => (downB ps m i).cells) := by
  refine (((((h.set hm (o := 3) (by omega) (.bool true)).set hm (o := 4) (by omega) (.int .u64 0)).set hm (o := 5) (by omega) (.int .u64 0)).set hm (o := 6) (by omega) (.int .u64 0)).set hm (o := 7) (by omega) (.int .i64 0)).congr fun i hi => ?_
  by_cases e : i = m
  · subst e; rw [updF_same, updF_same, updF_same, updF_same, updF_same, downA_at, downB_at]; rfl
  · rw [updF_ne _ _ e, updF_ne _ _ e, updF_ne _ _ e, updF_ne _ _ e, updF_ne _ _ e, downA_ne _ e, downB_ne _ e]
end Go.Proofs.Ytjnbjcieepooaab
