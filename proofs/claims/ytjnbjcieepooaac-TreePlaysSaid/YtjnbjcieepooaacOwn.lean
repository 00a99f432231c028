/- Rows that a call itself made: what an append leaves, in the words of Frame; one element appended; rows of two types do not meet. -/
import Derived.Test.YtjnbjcieepooaacFrame
import Derived.OwnWalk
import Derived.Laws.OwnMore
namespace Go.Proofs.Ytjnbjcieepooaac
open Go.RowKit
set_option linter.unusedVariables false
set_option linter.unusedSimpArgs false

theorem below_undrew {w w' : World} (h : Below w.drew.heap.size w.drew w') : Below w.heap.size w w' := ⟨h.os, h.tape, h.output, h.size, h.block⟩
theorem cell_set_ne {w : World} {b o j c : Nat} {v : Value} (h : b ≠ c) : (w.setCell ⟨c, j, none⟩ v).cell? ⟨b, o, none⟩ = w.cell? ⟨b, o, none⟩ := World.cell?_of_block (Below.heap_setCell w ⟨c, j, none⟩ v b h)
theorem get_set_self {cs : Array Value} {j : Nat} {v : Value} (h : j < cs.size) : (cs.setIfInBounds j v)[j]? = some v := by simp [h]
theorem get_set_ne {cs : Array Value} {i j : Nat} {v : Value} (h : i ≠ j) : (cs.setIfInBounds i v)[j]? = cs[j]? := by simp [Array.getElem?_setIfInBounds, h]

/-- The block of a row. -/
def InRow (v : Value) (k : Nat) : Prop := v.ownBlock = some k
theorem Fr.of_grown {w w' : World} {v : Value} (h : w.grownBy w' v.ownBlock) : Fr (InRow v) w w' :=
  ⟨h.os, h.tape, h.output, h.size, fun k hk hn => h.block k hk (fun e => hn e.symm)⟩
theorem own_ge {w : World} {base size n : Nat} {e : TypeId} {v : Value} {xs : List Value} (h : w.ownsRow base e size v n xs) {k : Nat} (hk : InRow v k) : base ≤ k ∧ k < w.heap.size := h.lt k hk
/-- A row is where its block is known to be of its type. -/
theorem own_blk {w : World} {base size n : Nat} {e : TypeId} {v : Value} {xs : List Value} (h : w.ownsRow base e size v n xs) {k : Nat} (hk : InRow v k) : ∃ cur, Blk w k cur e ∧ cur.toList.take (n * size) = xs := by
  rcases h.2 with ⟨rfl, _⟩ | ⟨g, cap, cur, rfl, _, hb, _, _, _, ht⟩
  · simp [InRow, Value.ownBlock] at hk
  · simp only [InRow, Value.ownBlock, Option.some.injEq] at hk
    subst hk
    exact ⟨cur, hb, ht⟩
theorem own_ne_blk {w : World} {base size n b : Nat} {e t : TypeId} {v : Value} {xs : List Value} {cs : Array Value} (h : w.ownsRow base e size v n xs) (hb : Blk w b cs t) (hne : e ≠ t) : ¬ InRow v b := fun hk => by
  obtain ⟨cur, hc, _⟩ := own_blk h hk
  unfold Blk at hb hc
  rw [hb] at hc
  simp at hc
  exact hne hc.2.symm
theorem own_ne_own {w : World} {base size n base' size' n' : Nat} {e e' : TypeId} {v v' : Value} {xs xs' : List Value} (h : w.ownsRow base e size v n xs) (h' : w.ownsRow base' e' size' v' n' xs') (hne : e ≠ e') {k : Nat} (hk : InRow v k) : ¬ InRow v' k := by
  obtain ⟨cur, hc, _⟩ := own_blk h hk
  exact own_ne_blk h' hc hne.symm
theorem own_fr {w w' : World} {base size n : Nat} {e : TypeId} {v : Value} {xs : List Value} {m : Nat → Prop} (h : w.ownsRow base e size v n xs) (hf : Fr m w w') (hm : ∀ k, InRow v k → ¬ m k) : w'.ownsRow base e size v n xs := by
  refine ⟨h.1, ?_⟩
  rcases h.2 with h0 | ⟨g, cap, cur, rfl, hb, hg, hr⟩
  · exact .inl h0
  · exact .inr ⟨g, cap, cur, rfl, hb, (hf.block g (Array.getElem?_eq_some_iff.1 hg).1 (hm g rfl)).trans hg, hr⟩
theorem own_below {w w' : World} {base size n : Nat} {e : TypeId} {v : Value} {xs : List Value} (h : w.ownsRow base e size v n xs) (hb : Below w.heap.size w w') : w'.ownsRow base e size v n xs :=
  own_fr h (Fr.of_below (m := fun _ => False) hb) fun _ _ h => h
/-- Where a row lies. -/
theorem own_at {w : World} {base size n : Nat} {e : TypeId} {v : Value} {xs : List Value} (h : w.ownsRow base e size v n xs) (hn : 0 < n) : ∃ g cap, v = .slice (some ⟨g, 0, none⟩) n cap ∧ base ≤ g ∧ g < w.heap.size ∧ n ≤ cap ∧ ∀ j, j < n * size → w.cell? ⟨g, j, none⟩ = xs[j]? := by
  rcases h.2 with ⟨_, h0⟩ | ⟨g, cap, cur, rfl, hb, hg, hc, _⟩
  · omega
  · exact ⟨g, cap, rfl, hb, (Array.getElem?_eq_some_iff.1 hg).1, hc, fun j hj => h.cellAt j hj⟩
theorem own_slice {w : World} {base size n : Nat} {e : TypeId} {v : Value} {xs : List Value} (h : w.ownsRow base e size v n xs) : ∃ a cap, v = .slice a n cap := by
  rcases h.2 with ⟨rfl, rfl⟩ | ⟨g, cap, cur, rfl, _⟩
  · exact ⟨none, 0, rfl⟩
  · exact ⟨_, cap, rfl⟩

theorem flat_len {β : Type} (f : Nat → List β) (m : Nat) (hf : ∀ i, (f i).length = m) (k : Nat) : ((List.range k).flatMap f).length = k * m := by
  induction k with
  | zero => simp
  | succ k ih => rw [List.range_succ, List.flatMap_append, List.length_append, ih, Nat.succ_mul]; simp [hf]
theorem flat_get {β : Type} (f : Nat → List β) (m : Nat) (hf : ∀ i, (f i).length = m) (k j o : Nat) (hj : j < k) (ho : o < m) : ((List.range k).flatMap f)[j * m + o]? = (f j)[o]? := by
  induction k with
  | zero => omega
  | succ k ih =>
    have hl := flat_len f m hf k
    rw [List.range_succ, List.flatMap_append]
    by_cases h : j < k
    · have : j * m + o < k * m := by
        have := Nat.mul_le_mul_right m (show j + 1 ≤ k from h)
        rw [Nat.succ_mul] at this
        omega
      rw [List.getElem?_append_left (by omega)]
      exact ih h
    · obtain rfl : j = k := by omega
      rw [List.getElem?_append_right (by omega), hl]
      simp
/-- One element, in a block of its own, appended to a row. -/
theorem wpList_append_one {P : Program} {w : World} {ops : Array Oper} {rest : List Oper} {o : Oper} {a : Act} {Q : Exit → Act → World → Prop} (hgd : o.guard = none) (s x : Operand) (t : TypeId)
    (ho : o.op = .call { callee := .builtin .append, args := #[s, x], argTypes := #[t, t] })
    (base : Nat) (e : TypeId) (z : Value) (size bytes : Nat) (ht : P.underlying t = some (.slice e)) (hinfo : (P.info? e).map (fun i => (i.zero, i.size, i.bytes)) = some (some z, size, bytes)) (hzs : z.cells.size = size) (hsz : 0 < size)
    (v : Value) (n : Nat) (xs : List Value) (hs : a.eval s = v) (hown : w.ownsRow base e size v n xs)
    (sb : Nat) (news : List Value) (ts : TypeId) (hx : a.eval x = .slice (some ⟨sb, 0, none⟩) 1 1) (hsrc : Blk w sb news.toArray ts) (hl : news.length = size) (h1 : ∀ u ∈ news, u.oneCell' = true)
    (h63 : n + 1 ≤ maxLen) (hbytes : (n + 1) * bytes ≤ 140737488355328) (hbase : base ≤ w.heap.size)
    (h : ∀ v' w', w'.ownsRow base e size v' (n + 1) (xs ++ news) → Fr (InRow v) w w' → (∀ k, InRow v' k → InRow v k ∨ w.heap.size ≤ k) → wpList P ops Q rest (a.put o.dst v') w') : wpList P ops Q (o :: rest) a w := by
  obtain ⟨i, hi, hz, hsize, hby⟩ := info_parts hinfo
  refine wpList_plain hgd fun _ hK => ?_
  obtain ⟨v', w', hr, h2, h3, h4⟩ := run_append_own (P := P) w base t o.type e i z size bytes ht hi hz hsize hby hzs hsz v n xs hown ⟨sb, 0, none⟩ 1 1 news (by omega) (fun j u hj => by rw [add_spot _ _ rfl]; show w.cell? ⟨sb, 0 + j, none⟩ = _; rw [Nat.zero_add, hsrc.cell]; simpa using hj) h1 h63 hbytes hbase
  unfold Oper.wp execOp
  simp only [ho, resolve, invoke, builtin, Sem.run_bind, Sem.run_pure, Result.andThen_ok, List.map_toArray, List.map_cons, List.map_nil, hs, hx, hr]
  refine hK _ _ (h v' w' h2 (Fr.of_grown h3) fun k hk => ?_)
  subst hsize hby
  rcases hown.2 with ⟨rfl, rfl⟩ | ⟨g, cap, cur, rfl, hbg, hg, hnc, hcm, hcs, htake⟩
  · obtain ⟨v'', w'', hr', h2', _⟩ := run_append_own (P := P) w w.heap.size t o.type e i z i.size i.bytes ht hi hz rfl rfl hzs hsz _ 0 xs ⟨hown.1, .inl ⟨rfl, rfl⟩⟩ ⟨sb, 0, none⟩ 1 1 news (by omega) (fun j u hj => by rw [add_spot _ _ rfl]; show w.cell? ⟨sb, 0 + j, none⟩ = _; rw [Nat.zero_add, hsrc.cell]; simpa using hj) h1 h63 hbytes (Nat.le_refl _)
    rw [hr] at hr'
    obtain ⟨rfl, rfl⟩ : v' = v'' ∧ w' = w'' := by simpa using hr'
    exact .inr (own_ge h2' hk).1
  · by_cases hroom : n + 1 ≤ cap
    · have hfit : n * i.size + news.length ≤ cur.size := by rw [hl, hcs]; have := Nat.mul_le_mul_right i.size hroom; rw [Nat.add_mul] at this; omega
      have hr' := run_append_room (P := P) w t o.type e i ht hi g n cap cur hg ⟨sb, 0, none⟩ 1 1 news (by omega) (fun j u hj => by rw [add_spot _ _ rfl]; show w.cell? ⟨sb, 0 + j, none⟩ = _; rw [Nat.zero_add, hsrc.cell]; simpa using hj) h1 hroom hfit
      rw [hr] at hr'
      obtain ⟨rfl, _⟩ : v' = _ ∧ w' = _ := by simpa using hr'
      exact .inl (by simpa [InRow, Value.ownBlock] using hk)
    · have holds : ∀ j u, xs[j]? = some u → w.cell? ((⟨g, 0, none⟩ : Addr).add j) = some u := hown.cells (g := g) rfl
      have hr' := run_append_grow (P := P) w t o.type e i z ht hi hz ⟨g, 0, none⟩ n cap xs hown.1 holds ⟨sb, 0, none⟩ 1 1 news (by omega) (fun j u hj => by rw [add_spot _ _ rfl]; show w.cell? ⟨sb, 0 + j, none⟩ = _; rw [Nat.zero_add, hsrc.cell]; simpa using hj) (by omega) (by simp only [maxLen] at h63; omega) (growslice_fits (by omega) hbytes)
      rw [hr] at hr'
      obtain ⟨rfl, _⟩ : v' = _ ∧ w' = _ := by simpa using hr'
      exact .inr (by simp [InRow, Value.ownBlock] at hk; omega)
end Go.Proofs.Ytjnbjcieepooaac
