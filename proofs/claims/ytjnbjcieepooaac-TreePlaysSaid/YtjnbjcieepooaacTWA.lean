/- Flushes of package tree, by its contract. -/
import Derived.Test.YtjnbjcieepooaacTW4
import Derived.Lib.SliceRun
import Derived.BigFrame
namespace Go.Proofs.Ytjnbjcieepooaac
open Go.RowKit
set_option linter.unusedVariables false
set_option linter.unusedSimpArgs false

theorem setCells_frb (b : Nat) : ∀ (vs : List Value) (o : Nat) (w : World), Fr (fun k => k = b) w (w.setCells b o vs)
  | [], _, w => Fr.refl _ w
  | v :: vs, o, w => ((Fr.refl (fun k => k = b) w).set (p := ⟨b, o, none⟩) (.inl rfl) v).trans (setCells_frb b vs (o + 1) _)
theorem rowsB_fill {b : Nat} {t : TypeId} {n : Nat} (v : Value) : ∀ (m o : Nat) {w : World} {f : Nat → Array Value}, RowsB w b t 1 n f → o + m ≤ n → RowsB (w.setCells b o (List.replicate m v)) b t 1 n (fun i => if o ≤ i ∧ i < o + m then #[v] else f i)
  | 0, o, w, f, h, _ => h.congr fun i hi => by rw [if_neg (by omega)]
  | m + 1, o, w, f, h, hm => by
    have h1 := h.set (m := o) (o := 0) (by omega) (by decide) v
    rw [Nat.mul_one, Nat.add_zero] at h1
    have h2 := rowsB_fill v m (o + 1) h1 (by omega)
    have hsz : (f o).size = 1 := by obtain ⟨cs, _, hr⟩ := h; exact hr.size o (by omega)
    have hf : (f o).setIfInBounds 0 v = #[v] := by
      generalize f o = c at hsz
      obtain ⟨l⟩ := c
      match l, hsz with
      | [x], _ => rfl
    show RowsB ((w.setCell ⟨b, o, none⟩ v).setCells b (o + 1) (List.replicate m v)) b t 1 n _
    refine h2.congr fun i hi => ?_
    by_cases e : i = o
    · subst e
      rw [if_pos (by omega), if_neg (by omega), updF_same, hf]
    · rw [updF_ne _ _ e]
      by_cases g : o ≤ i ∧ i < o + (m + 1)
      · rw [if_pos g, if_pos (by omega)]
      · rw [if_neg g, if_neg (by omega)]
def flL (T : Tr) (k : Nat) : List Nat := (List.range k).filter fun i => T.flush.getD i false
def flV (T : Tr) (k : Nat) : List Value := (flL T k).map fun (i : Nat) => .int .i64 (i : Int)
theorem flL_yes {T : Tr} {k : Nat} (h : T.flush.getD k false = true) : flL T (k + 1) = flL T k ++ [k] := by unfold flL; rw [List.range_succ, List.filter_append]; simp only [List.filter, h]
theorem flL_no {T : Tr} {k : Nat} (h : T.flush.getD k false = false) : flL T (k + 1) = flL T k := by unfold flL; rw [List.range_succ, List.filter_append]; simp only [List.filter, h, List.append_nil]
theorem flL_le (T : Tr) (k : Nat) : (flL T k).length ≤ k := by unfold flL; exact Nat.le_trans (List.length_filter_le _ _) (by simp)
def FlushPost (w : World) (B : TB) (T : Tr) (e : Ending) (w' : World) : Prop :=
  ∃ v, e = .returned v ∧ w'.ownsRow w.heap.size 3 1 v (flL T T.n).length (flV T T.n) ∧ TreeW w' B (flushesF T) ∧ TStep w B T.n w' B
theorem zero4 (w : World) : (zeroValue 4).run Try.prog w = .ok (.bool false) w := by kernel_rfl
theorem info3 : (Try.prog.info? 3).map (fun i => (i.zero, i.size, i.bytes)) = some (some (.int .i64 0), 1, 8) := by kernel_rfl
theorem TreeW.flushed {w : World} {B : TB} {T : Tr} (h : TreeW w B T) (hfl : T.flush.length = T.n) : TreeW (w.setCells B.fb 0 (List.replicate T.n (.bool false))) B (flushesF T) := by
  have hf := setCells_frb B.fb (List.replicate T.n (.bool false)) 0 w
  refine ⟨h.t.fr hf h.tb_ne.2.2.2.1, fun hn => ⟨(h.p hn).1, (h.p hn).2.fr hf ((h.p hn).2.ne h.f (by decide))⟩, h.r.fr hf (h.r.ne h.f (by decide)), h.l.fr hf (h.l.ne h.f (by decide)), ?_, own_fr h.o hf fun k hk e => by subst e; exact own_ne_rows h.o h.f (by decide) hk⟩
  refine (rowsB_fill (.bool false) T.n 0 h.f (by omega)).congr fun i hi => ?_
  have hi' : i < T.n := hi
  rw [if_pos (by omega)]
  show #[Value.bool ((T.flush.map fun _ => false).getD i false)] = _
  simp [List.getD]
  cases T.flush[i]? <;> rfl
set_option maxRecDepth 8000 in
set_option maxHeartbeats 4000000 in
theorem flushes_calls (T : Tr) (B : TB) (hn : T.n ≤ 16) (hfl : T.flush.length = T.n) (w : World) (hT : TreeW w B T) : Calls Try.prog 31 #[.pointer (some ⟨B.tb, 0, none⟩)] w (FlushPost w B T) := by
  have HT := Lib.hid hT
  have HF := Lib.hid hfl
  have qt := hT.own
  clear hT hfl
  go_enter Try.func31, Try.ntmps31
  go_wp2
  clear qt
  go_loopg [3, 11] T.n (fun gh s3 s11 wx => ∃ k : Nat, k + gh = T.n ∧ s11 = .int .i64 (k : Int) ∧ wx.ownsRow w.heap.size 3 1 s3 (flL T k).length (flV T k) ∧ Below w.heap.size w wx)
  case atStart => exact ⟨0, by omega, rfl, World.ownsRow_nil _ _ _ _, Below.refl _ _⟩
  case round =>
    obtain ⟨k, hkg, rfl, hown, hbel⟩ := hrel
    have hTx := HT.out.below hbel
    cases gk with
    | zero =>
      have hkM : ¬ ((k : Int) < (T.n : Int)) := by omega
      obtain rfl : k = T.n := by omega
      have qt := hTx.own
      obtain ⟨a3, c3, rfl⟩ := own_slice hown
      have HOWN := Lib.hid hown
      have HTX := Lib.hid hTx
      clear hown
      by_cases h0 : 0 < T.n
      · have hcl : ∀ ty, (Builtin.clear_ #[48] ty #[.slice (some ⟨B.fb, 0, none⟩) T.n T.n]).run Try.prog wr = .ok (.tuple #[]) (wr.setCells B.fb 0 (List.replicate T.n (.bool false))) :=
          fun ty => Lib.run_clear_slice wr 48 4 ty (.bool false) Try.underlying48 zero4 rfl rfl B.fb 0 T.n T.n h0 (fun j hj => by rw [Nat.zero_add, hTx.flush_at hj]; rfl) (fun j hj => hTx.f.free _)
        clear hTx h0
        go_wp2_with (simp only [hcl])
        go_ret
        have hfr := setCells_frb B.fb (List.replicate T.n (.bool false)) 0 wr
        refine ⟨_, rfl, own_fr HOWN.out hfr fun i hi e => ?_, HTX.out.flushed HF.out, ((TStep.below B T.n hbel).trans ⟨hfr.mono fun i _ e => .inr (.inr (.inr (.inr (.inl e)))), rfl, fun _ h => .inl h⟩)⟩
        subst e
        have := (own_ge HOWN.out hi).1
        have := HT.out.f.lt
        omega
      · have h00 : T.n = 0 := by omega
        have hcl : ∀ ty, (Builtin.clear_ #[48] ty #[.slice (some ⟨B.fb, 0, none⟩) T.n T.n]).run Try.prog wr = .ok (.tuple #[]) wr := fun ty => by
          rw [h00]; simp [Builtin.clear_, run_underlying Try.underlying48]
        have hfl0 : flushesF T = T := by
          have : T.flush = [] := List.eq_nil_of_length_eq_zero (by rw [HF.out]; exact h00)
          unfold flushesF
          cases T
          simp only at this
          subst this
          rfl
        have HFL := Lib.hid hfl0
        clear hTx h0 h00 hfl0
        go_wp2_with (simp only [hcl])
        go_ret
        exact ⟨_, rfl, HOWN.out, by rw [HFL.out]; exact HTX.out, TStep.below B T.n hbel⟩
    | succ gh =>
      have hkM : (k : Int) < (T.n : Int) := by omega
      have hkn : k < T.n := by omega
      have hle := flL_le T k
      have hfi := hTx.flush_at hkn
      cases hb : T.flush.getD k false with
      | false =>
        rw [hb] at hfi
        have HZ := Lib.hid (flL_no hb)
        clear hTx hb
        go_wp2
        go_roundg gh
        case measure => omega
        case rel => exact ⟨k + 1, by omega, by go_num, by unfold flV; rw [HZ.out]; exact hown, hbel⟩
      | true =>
        rw [hb] at hfi
        have HZ := Lib.hid (flL_yes hb)
        have ha := (Below.refl wr.heap.size wr).alloc (Nat.le_refl _) (.cells [Value.int .i64 (k : Int)].toArray 3)
        have h2 := own_below hown ha
        have b2 := hbel.trans (ha.mono hbel.size)
        clear hTx hb
        go_wp2_with (refine wpList_append_one rfl _ _ 37 rfl w.heap.size 3 _ 1 8 Try.underlying37 info3 rfl (by decide) _ (flL T k).length _ rfl h2 wr.heap.size [.int .i64 (k : Int)] 3 rfl (Blk.new wr _ _) rfl (by simp [Value.oneCell']) (by unfold maxLen; omega) (by omega) (by have := b2.size; omega) ?_; intro v3 w8 hown8 hfr hin)
        go_roundg gh
        case measure => omega
        case rel => exact ⟨k + 1, by omega, by go_num, by unfold flV; rw [HZ.out]; simpa [flV] using hown8, Below.fr b2 hfr b2.size fun i _ hi => by have := (own_ge h2 hi).1; omega⟩
end Go.Proofs.Ytjnbjcieepooaac
