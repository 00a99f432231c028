/- A block that lies row by row: each row's cells by a function; stores into it; rows that were appended. -/
import Derived.Test.YtjnbjcieepooaacOwn
namespace Go.Proofs.Ytjnbjcieepooaac
open Go.RowKit
set_option linter.unusedVariables false
set_option linter.unusedSimpArgs false

def updF {α : Type} (f : Nat → α) (m : Nat) (x : α) : Nat → α := fun i => if i = m then x else f i
theorem updF_same {α : Type} (f : Nat → α) (m : Nat) (x : α) : updF f m x m = x := if_pos rfl
theorem updF_ne {α : Type} (f : Nat → α) {m i : Nat} (x : α) (h : i ≠ m) : updF f m x i = f i := if_neg h
/-- Rows, one behind the other. -/
structure RowsIn (cs : Array Value) (sz n : Nat) (f : Nat → Array Value) : Prop where
  at_ : ∀ i o, i < n → o < sz → cs[i * sz + o]? = (f i)[o]?
  fits : n * sz ≤ cs.size
  size : ∀ i, i < n → (f i).size = sz
theorem row_lt {n sz m o : Nat} (hm : m < n) (ho : o < sz) : m * sz + o < n * sz := by
  have := Nat.mul_le_mul_right sz (show m + 1 ≤ n from hm)
  rw [Nat.succ_mul] at this
  omega
theorem row_inj {sz i m o p : Nat} (ho : o < sz) (hp : p < sz) (h : i * sz + o = m * sz + p) : i = m ∧ o = p := by
  have h1 : i = m := by
    have e1 : (i * sz + o) / sz = i := by rw [Nat.mul_comm, Nat.mul_add_div (by omega), Nat.div_eq_of_lt ho]; omega
    have e2 : (m * sz + p) / sz = m := by rw [Nat.mul_comm, Nat.mul_add_div (by omega), Nat.div_eq_of_lt hp]; omega
    rw [← e1, ← e2, h]
  subst h1
  exact ⟨rfl, by omega⟩
theorem RowsIn.set {cs : Array Value} {sz n : Nat} {f : Nat → Array Value} (h : RowsIn cs sz n f) {m o : Nat} (hm : m < n) (ho : o < sz) (v : Value) : RowsIn (cs.setIfInBounds (m * sz + o) v) sz n (updF f m ((f m).setIfInBounds o v)) := by
  have hlt := row_lt hm ho
  have hf := h.fits
  have hs := h.size m hm
  refine ⟨fun i p hi hp => ?_, by simpa using hf, fun i hi => ?_⟩
  rotate_left
  · by_cases hi' : i = m
    · subst hi'; rw [updF_same]; simpa using hs
    · rw [updF_ne _ _ hi']; exact h.size i hi
  by_cases hi' : i = m
  · subst hi'
    rw [updF_same]
    by_cases hp' : p = o
    · subst hp'; rw [get_set_self (by omega), get_set_self (by omega)]
    · rw [get_set_ne (by omega), get_set_ne (by omega)]; exact h.at_ i p hi hp
  · rw [updF_ne _ _ hi', get_set_ne (fun e => hi' (row_inj ho hp e).1.symm)]
    exact h.at_ i p hi hp
theorem RowsIn.congr {cs : Array Value} {sz n : Nat} {f f' : Nat → Array Value} (h : RowsIn cs sz n f) (hf : ∀ i, i < n → f' i = f i) : RowsIn cs sz n f' := ⟨fun i o hi ho => by rw [hf i hi]; exact h.at_ i o hi ho, h.fits, fun i hi => by rw [hf i hi]; exact h.size i hi⟩
/-- A block of rows. -/
def RowsB (w : World) (b : Nat) (t : TypeId) (sz n : Nat) (f : Nat → Array Value) : Prop := ∃ cs, Blk w b cs t ∧ RowsIn cs sz n f
theorem RowsB.cell {w : World} {b : Nat} {t : TypeId} {sz n : Nat} {f : Nat → Array Value} (h : RowsB w b t sz n f) (i o : Nat) (hi : i < n) (ho : o < sz) : w.cell? ⟨b, i * sz + o, none⟩ = (f i)[o]? := by
  obtain ⟨cs, hb, hr⟩ := h
  rw [hb.cell]; exact hr.at_ i o hi ho
theorem RowsB.free {w : World} {b : Nat} {t : TypeId} {sz n : Nat} {f : Nat → Array Value} (h : RowsB w b t sz n f) (o : Nat) : w.frozen? ⟨b, o, none⟩ = false := by obtain ⟨cs, hb, _⟩ := h; exact hb.free o
theorem RowsB.lt {w : World} {b : Nat} {t : TypeId} {sz n : Nat} {f : Nat → Array Value} (h : RowsB w b t sz n f) : b < w.heap.size := by obtain ⟨cs, hb, _⟩ := h; exact hb.lt
theorem RowsB.fr {w w' : World} {b : Nat} {t : TypeId} {sz n : Nat} {f : Nat → Array Value} {m : Nat → Prop} (h : RowsB w b t sz n f) (hf : Fr m w w') (hm : ¬ m b) : RowsB w' b t sz n f := by obtain ⟨cs, hb, hr⟩ := h; exact ⟨cs, hb.fr hf hm, hr⟩
theorem RowsB.below {w w' : World} {b : Nat} {t : TypeId} {sz n : Nat} {f : Nat → Array Value} (h : RowsB w b t sz n f) (hb : Below w.heap.size w w') : RowsB w' b t sz n f := h.fr (Fr.of_below (m := fun _ => False) hb) fun h => h
theorem RowsB.alloc {w : World} {b : Nat} {t : TypeId} {sz n : Nat} {f : Nat → Array Value} (h : RowsB w b t sz n f) (o : Obj) : RowsB (w.alloc o) b t sz n f := by obtain ⟨cs, hb, hr⟩ := h; exact ⟨cs, hb.alloc o, hr⟩
theorem RowsB.set {w : World} {b : Nat} {t : TypeId} {sz n : Nat} {f : Nat → Array Value} (h : RowsB w b t sz n f) {m o : Nat} (hm : m < n) (ho : o < sz) (v : Value) : RowsB (w.setCell ⟨b, m * sz + o, none⟩ v) b t sz n (updF f m ((f m).setIfInBounds o v)) := by
  obtain ⟨cs, hb, hr⟩ := h
  exact ⟨_, hb.set _ _, hr.set hm ho v⟩
theorem RowsB.set_other {w : World} {b : Nat} {t : TypeId} {sz n : Nat} {f : Nat → Array Value} (h : RowsB w b t sz n f) {a : Addr} (hne : b ≠ a.block) (v : Value) : RowsB (w.setCell a v) b t sz n f := by obtain ⟨cs, hb, hr⟩ := h; exact ⟨cs, hb.set_other hne v, hr⟩
theorem RowsB.congr {w : World} {b : Nat} {t : TypeId} {sz n : Nat} {f f' : Nat → Array Value} (h : RowsB w b t sz n f) (hf : ∀ i, i < n → f' i = f i) : RowsB w b t sz n f' := by obtain ⟨cs, hb, hr⟩ := h; exact ⟨cs, hb, hr.congr hf⟩
theorem RowsB.ne {w : World} {b b' : Nat} {t t' : TypeId} {sz n sz' n' : Nat} {f f' : Nat → Array Value} (h : RowsB w b t sz n f) (h' : RowsB w b' t' sz' n' f') (ht : t ≠ t') : b ≠ b' := fun e => by
  obtain ⟨cs, hb, _⟩ := h
  obtain ⟨cs', hb', _⟩ := h'
  subst e
  unfold Blk at hb hb'
  rw [hb] at hb'
  simp at hb'
  exact ht hb'.2
theorem RowsB.ne_blk {w : World} {b b' : Nat} {t t' : TypeId} {sz n : Nat} {f : Nat → Array Value} {cs' : Array Value} (h : RowsB w b t sz n f) (hb' : Blk w b' cs' t') (ht : t ≠ t') : b ≠ b' := fun e => by
  obtain ⟨cs, hb, _⟩ := h
  subst e
  unfold Blk at hb hb'
  rw [hb] at hb'
  simp at hb'
  exact ht hb'.2
theorem Blk.ne {w : World} {b b' : Nat} {t t' : TypeId} {cs cs' : Array Value} (hb : Blk w b cs t) (hb' : Blk w b' cs' t') (ht : t ≠ t') : b ≠ b' := fun e => by
  subst e
  unfold Blk at hb hb'
  rw [hb] at hb'
  simp at hb'
  exact ht hb'.2
/-- Rows that were appended. -/
theorem RowsB.of_own {w : World} {base g cap n sz : Nat} {e : TypeId} {f : Nat → Array Value} (hf : ∀ i, (f i).size = sz) (h : w.ownsRow base e sz (.slice (some ⟨g, 0, none⟩) n cap) n ((List.range n).flatMap fun i => (f i).toList)) : RowsB w g e sz n f := by
  obtain ⟨cur, hb, ht⟩ := own_blk h (k := g) rfl
  have hl := flat_len (fun i => (f i).toList) sz (fun i => by simpa using hf i) n
  have hsz : n * sz ≤ cur.size := by
    have := congrArg List.length ht
    rw [List.length_take, hl] at this
    simp at this
    omega
  refine ⟨cur, hb, fun i o hi ho => ?_, hsz, fun i _ => hf i⟩
  have h2 := flat_get (fun i => (f i).toList) sz (fun i => by simpa using hf i) n i o hi ho
  rw [← ht, List.getElem?_take_of_lt (row_lt hi ho)] at h2
  simpa using h2
/-- Many elements, wherever they lie, appended to a row. -/
theorem wpList_append_many {P : Program} {w : World} {ops : Array Oper} {rest : List Oper} {o : Oper} {a : Act} {Q : Exit → Act → World → Prop} (hgd : o.guard = none) (s x : Operand) (t : TypeId)
    (ho : o.op = .call { callee := .builtin .append, args := #[s, x], argTypes := #[t, t] })
    (base : Nat) (e : TypeId) (z : Value) (size bytes : Nat) (ht : P.underlying t = some (.slice e)) (hinfo : (P.info? e).map (fun i => (i.zero, i.size, i.bytes)) = some (some z, size, bytes)) (hzs : z.cells.size = size) (hsz : 0 < size)
    (v : Value) (n : Nat) (xs : List Value) (hs : a.eval s = v) (hown : w.ownsRow base e size v n xs)
    (b off m c : Nat) (news : List Value) (hx : a.eval x = .slice (some ⟨b, off, none⟩) m c) (hl : news.length = m * size) (hnews : ∀ j u, news[j]? = some u → w.cell? ⟨b, off + j, none⟩ = some u) (h1 : ∀ u ∈ news, u.oneCell' = true)
    (h63 : n + m ≤ maxLen) (hbytes : (n + m) * bytes ≤ 140737488355328) (hbase : base ≤ w.heap.size)
    (h : ∀ v' w', w'.ownsRow base e size v' (n + m) (xs ++ news) → Fr (InRow v) w w' → wpList P ops Q rest (a.put o.dst v') w') : wpList P ops Q (o :: rest) a w := by
  obtain ⟨i, hi, hz, hsize, hby⟩ := info_parts hinfo
  exact wpList_append_own w hgd s x t ho base e i z size bytes ht hi hz hsize hby hzs hsz v n xs hs hown ⟨b, off, none⟩ m c news hx hl (fun j u hj => by rw [add_spot _ _ rfl]; exact hnews j u hj) h1 h63 hbytes hbase fun v' w' h2 h3 h4 => h v' w' h2 (Fr.of_grown h3)
/-- What a slice of elements bears, nil and empty ones too. -/
def NewsAt (w : World) (a : Option Addr) (len : Nat) (news : List Value) : Prop := 0 < len → ∃ b off, a = some ⟨b, off, none⟩ ∧ ∀ j u, news[j]? = some u → w.cell? ⟨b, off + j, none⟩ = some u
theorem run_append_zero {P : Program} {w : World} (base : Nat) (t ty e : TypeId) (i : TypeInfo) (size : Nat) (ht : P.underlying t = some (.slice e)) (hi : P.info? e = some i)
    (v : Value) (n : Nat) (xs : List Value) (hown : w.ownsRow base e size v n xs) (a : Option Addr) (c : Nat) :
    (Builtin.append_ #[t, t] ty #[v, .slice a 0 c]).run P w = .ok v w := by
  rcases hown.2 with ⟨rfl, rfl⟩ | ⟨g, cap, cur, rfl, _, _, hnc, _⟩
  · cases a <;> simp [Builtin.append_, run_underlying ht, sizeOf, typeInfo, hi, Builtin.lenOf, Builtin.firstCells, loadCells, loadCellsFrom]
  · cases a <;> simp [Builtin.append_, run_underlying ht, sizeOf, typeInfo, hi, Builtin.lenOf, Builtin.firstCells, hnc, storeCells, loadCells, loadCellsFrom]
theorem wp_append_any {P : Program} {w : World} {o : Oper} {a : Act} {K : Act → World → Prop} {Q : Exit → Act → World → Prop} (s x : Operand) (t : TypeId)
    (ho : o.op = .call { callee := .builtin .append, args := #[s, x], argTypes := #[t, t] })
    (base : Nat) (e : TypeId) (z : Value) (size bytes : Nat) (ht : P.underlying t = some (.slice e)) (hinfo : (P.info? e).map (fun i => (i.zero, i.size, i.bytes)) = some (some z, size, bytes)) (hzs : z.cells.size = size) (hsz : 0 < size)
    (v : Value) (n : Nat) (xs : List Value) (hs : a.eval s = v) (hown : w.ownsRow base e size v n xs)
    (ad : Option Addr) (m c : Nat) (news : List Value) (hx : a.eval x = .slice ad m c) (hl : news.length = m * size) (hnews : NewsAt w ad m news) (h1 : ∀ u ∈ news, u.oneCell' = true)
    (h63 : n + m ≤ maxLen) (hbytes : (n + m) * bytes ≤ 140737488355328) (hbase : base ≤ w.heap.size)
    (h : ∀ v' w', w'.ownsRow base e size v' (n + m) (xs ++ news) → Fr (InRow v) w w' → K (a.put o.dst v') w') : o.wp P a w K Q := by
  obtain ⟨i, hi, hz, hsize, hby⟩ := info_parts hinfo
  by_cases hm : 0 < m
  · obtain ⟨b, off, rfl, hn⟩ := hnews hm
    exact wp_append_own w s x t ho base e i z size bytes ht hi hz hsize hby hzs hsz v n xs hs hown ⟨b, off, none⟩ m c news hx hl (fun j u hj => by rw [add_spot _ _ rfl]; exact hn j u hj) h1 h63 hbytes hbase fun v' w' h2 h3 h4 => h v' w' h2 (Fr.of_grown h3)
  · obtain rfl : m = 0 := by omega
    obtain rfl : news = [] := List.eq_nil_of_length_eq_zero (by simpa using hl)
    have hr := run_append_zero (P := P) (w := w) base t o.type e i size ht hi v n xs hown ad c
    unfold Oper.wp execOp
    simp only [ho, resolve, invoke, builtin, Sem.run_bind, Sem.run_pure, Result.andThen_ok, List.map_toArray, List.map_cons, List.map_nil, hs, hx, hr]
    exact h v w (by simpa using hown) (Fr.refl _ _)
theorem wpList_append_any {P : Program} {w : World} {ops : Array Oper} {rest : List Oper} {o : Oper} {a : Act} {Q : Exit → Act → World → Prop} (hgd : o.guard = none) (s x : Operand) (t : TypeId)
    (ho : o.op = .call { callee := .builtin .append, args := #[s, x], argTypes := #[t, t] })
    (base : Nat) (e : TypeId) (z : Value) (size bytes : Nat) (ht : P.underlying t = some (.slice e)) (hinfo : (P.info? e).map (fun i => (i.zero, i.size, i.bytes)) = some (some z, size, bytes)) (hzs : z.cells.size = size) (hsz : 0 < size)
    (v : Value) (n : Nat) (xs : List Value) (hs : a.eval s = v) (hown : w.ownsRow base e size v n xs)
    (ad : Option Addr) (m c : Nat) (news : List Value) (hx : a.eval x = .slice ad m c) (hl : news.length = m * size) (hnews : NewsAt w ad m news) (h1 : ∀ u ∈ news, u.oneCell' = true)
    (h63 : n + m ≤ maxLen) (hbytes : (n + m) * bytes ≤ 140737488355328) (hbase : base ≤ w.heap.size)
    (h : ∀ v' w', w'.ownsRow base e size v' (n + m) (xs ++ news) → Fr (InRow v) w w' → wpList P ops Q rest (a.put o.dst v') w') : wpList P ops Q (o :: rest) a w :=
  wpList_plain hgd fun _ hK => wp_append_any s x t ho base e z size bytes ht hinfo hzs hsz v n xs hs hown ad m c news hx hl hnews h1 h63 hbytes hbase fun v' w' h2 h3 => hK _ _ (h v' w' h2 h3)
theorem step_append_any {P : Program} {w : World} {ops : Array Oper} {o : Oper} {a : Act} {K : Act → World → Prop} {Q : Exit → Act → World → Prop} {E : Prop} (hgd : o.guard = none) (s x : Operand) (t : TypeId)
    (ho : o.op = .call { callee := .builtin .append, args := #[s, x], argTypes := #[t, t] })
    (base : Nat) (e : TypeId) (z : Value) (size bytes : Nat) (ht : P.underlying t = some (.slice e)) (hinfo : (P.info? e).map (fun i => (i.zero, i.size, i.bytes)) = some (some z, size, bytes)) (hzs : z.cells.size = size) (hsz : 0 < size)
    (v : Value) (n : Nat) (xs : List Value) (hs : a.eval s = v) (hown : w.ownsRow base e size v n xs)
    (ad : Option Addr) (m c : Nat) (news : List Value) (hx : a.eval x = .slice ad m c) (hl : news.length = m * size) (hnews : NewsAt w ad m news) (h1 : ∀ u ∈ news, u.oneCell' = true)
    (h63 : n + m ≤ maxLen) (hbytes : (n + m) * bytes ≤ 140737488355328) (hbase : base ≤ w.heap.size)
    (h : ∀ v' w', w'.ownsRow base e size v' (n + m) (xs ++ news) → Fr (InRow v) w w' → K (a.put o.dst v') w') :
    if Region.wanted o (yielded ops a.tmps) = true then Oper.wp P o a w K Q else E := by
  have hw : Region.wanted o (yielded ops a.tmps) = true := by simp [Region.wanted, hgd]
  rw [if_pos hw]
  exact wp_append_any s x t ho base e z size bytes ht hinfo hzs hsz v n xs hs hown ad m c news hx hl hnews h1 h63 hbytes hbase h
theorem NewsAt.blk {w : World} {b : Nat} {cs : List Value} {t : TypeId} (h : Blk w b cs.toArray t) (len : Nat) : NewsAt w (some ⟨b, 0, none⟩) len cs := fun _ => ⟨b, 0, rfl, fun j u hj => by rw [Nat.zero_add, h.cell]; simpa using hj⟩
/-- An empty slice that is not nil. -/
theorem own_empty (w : World) (base : Nat) (hb : base ≤ w.heap.size) (e : TypeId) (size : Nat) : (w.alloc (.cells #[] e)).ownsRow base e size (.slice (some ⟨w.heap.size, 0, none⟩) 0 0) 0 [] :=
  World.ownsRow_made w #[] 0 hb (by unfold maxLen; omega) (by simp)
end Go.Proofs.Ytjnbjcieepooaac
