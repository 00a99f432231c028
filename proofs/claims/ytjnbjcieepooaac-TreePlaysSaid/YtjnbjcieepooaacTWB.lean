/- New of package tree, by its contract. -/
import Derived.Test.YtjnbjcieepooaacTW5
namespace Go.Proofs.Ytjnbjcieepooaac
open Go.RowKit
set_option linter.unusedVariables false
set_option linter.unusedSimpArgs false

/-- A tree in the making: no roles yet. -/
structure PreW (w : World) (tb : Nat) (P : Option Addr) (pb pc fb : Nat) (T : Tr) : Prop where
  t : Blk w tb #[.int .u64 T.id, .slice P T.n pc, .int .u64 0, .int .u64 0, .int .u64 0, .int .i64 0, .int .i64 0, .slice none 0 0, .slice none 0 0, .int .i64 0, .slice none 0 0, .slice (some ⟨fb, 0, none⟩) T.n T.n] 74
  p : 0 < T.n → P = some ⟨pb, 0, none⟩ ∧ RowsB w pb 31 16 T.n (fun i => (T.at_ i).cells)
theorem PreW.below {w w' : World} {tb pb pc fb : Nat} {P : Option Addr} {T : Tr} (h : PreW w tb P pb pc fb T) (hb : Below w.heap.size w w') : PreW w' tb P pb pc fb T := ⟨h.t.below hb h.t.lt, fun hn => ⟨(h.p hn).1, (h.p hn).2.below hb⟩⟩
theorem PreW.pn {w : World} {tb pb pc fb : Nat} {P : Option Addr} {T : Tr} (h : PreW w tb P pb pc fb T) (hn : 0 < T.n) : P = some ⟨pb, 0, none⟩ := (h.p hn).1
theorem PreW.own {w : World} {tb pb pc fb : Nat} {P : Option Addr} {T : Tr} (h : PreW w tb P pb pc fb T) : ∀ o, w.cell? ⟨tb, o, none⟩ = #[Value.int .u64 T.id, .slice P T.n pc, .int .u64 0, .int .u64 0, .int .u64 0, .int .i64 0, .int .i64 0, .slice none 0 0, .slice none 0 0, .int .i64 0, .slice none 0 0, .slice (some ⟨fb, 0, none⟩) T.n T.n][o]? := h.t.cell
theorem PreW.ownp {w : World} {tb pb pc fb : Nat} {P : Option Addr} {T : Tr} (h : PreW w tb P pb pc fb T) (hn : 0 < T.n) : ∀ o, w.cell? ⟨tb, o, none⟩ = #[Value.int .u64 T.id, .slice (some ⟨pb, 0, none⟩) T.n pc, .int .u64 0, .int .u64 0, .int .u64 0, .int .i64 0, .int .i64 0, .slice none 0 0, .slice none 0 0, .int .i64 0, .slice none 0 0, .slice (some ⟨fb, 0, none⟩) T.n T.n][o]? := by
  have := h.own
  rw [h.pn hn] at this
  exact this
theorem rows_range {w : World} {b t n : Nat} {f : Nat → TP} (h : RowsB w b t 16 n (fun i => (f i).cells)) {i : Nat} (hi : i < n) : w.rangeAt b (i * 16) [.int .i64 (f i).p.id, .int .u64 (f i).p.cost, .bool (f i).p.up, .bool (f i).p.has, .int .u64 (f i).p.told.root, .int .u64 (f i).p.told.cost, .int .u64 (f i).p.told.bridge, .int .i64 (f i).p.told.port,
    .bool (f i).edge, .int .i64 (f i).role, .int .i64 (f i).state, .int .i64 (f i).age, .int .i64 (f i).left, .int .i64 (f i).wait, .int .i64 (f i).change, .bool (f i).agreed] := fun j v hj => by
  have hl := (List.getElem?_eq_some_iff.1 hj).1
  rw [h.cell i j hi hl, ← hj]
  unfold TP.cells
  simp
theorem PreW.range {w : World} {tb pb pc fb : Nat} {P : Option Addr} {T : Tr} (h : PreW w tb P pb pc fb T) {i : Nat} (hi : i < T.n) : w.rangeAt pb (i * 16) [.int .i64 (T.at_ i).p.id, .int .u64 (T.at_ i).p.cost, .bool (T.at_ i).p.up, .bool (T.at_ i).p.has, .int .u64 (T.at_ i).p.told.root, .int .u64 (T.at_ i).p.told.cost, .int .u64 (T.at_ i).p.told.bridge, .int .i64 (T.at_ i).p.told.port,
    .bool (T.at_ i).edge, .int .i64 (T.at_ i).role, .int .i64 (T.at_ i).state, .int .i64 (T.at_ i).age, .int .i64 (T.at_ i).left, .int .i64 (T.at_ i).wait, .int .i64 (T.at_ i).change, .bool (T.at_ i).agreed] := rows_range (f := T.at_) (h.p (by omega)).2 hi
set_option maxRecDepth 8000 in
set_option maxHeartbeats 4000000 in
theorem selected0_calls (T : Tr) (tb pb pc fb : Nat) (P : Option Addr) (hn : T.n ≤ 16) (hok : ∀ i, i < T.n → (T.qs i).ok) (w : World) (hT : PreW w tb P pb pc fb T) (S : Way) (hS : selW T = S) :
    Calls Try.prog 32 #[.pointer (some ⟨tb, 0, none⟩)] w (SelPost w T.n T.id T.qs S) := by
  have HS : Hid (wayN T.id T.qs T.n = S) := hS
  have HT := Lib.hid hT
  have hPn := hT.pn
  have qt := hT.own
  have lt := hT.t.lt
  clear hS hT
  go_enter Try.func32, Try.ntmps32
  go_upto_region 2 with fail
  have hb0 := (Below.refl w.heap.size w).alloc (Nat.le_refl _) (.cells roles0 72)
  have hz0 := Blk.new w roles0 72
  have qt0 := (HT.out.below hb0).own
  change Code.wp _ _ _ _ (w.alloc (.cells roles0 72))
  generalize w.alloc (.cells roles0 72) = w0 at hb0 hz0 qt0 ⊢
  clear qt
  go_wp2
  clear qt0
  go_loopg [3, 11] T.n (fun gh s3 s11 wx => ∃ k : Nat, k + gh = T.n ∧ s11 = .int .i64 (k : Int) ∧ wx.ownsRow (w.heap.size + 1) 29 8 s3 k (qsL T k) ∧ Below w.heap.size w wx ∧ Blk wx w.heap.size roles0 72)
  case atStart => exact ⟨0, by omega, rfl, World.ownsRow_nil _ _ _ _, hb0, hz0⟩
  case round =>
    obtain ⟨k, hkg, rfl, hown, hbel, hz⟩ := hrel
    have hTx := HT.out.below hbel
    cases gk with
    | zero =>
      have hkM : ¬ ((k : Int) < (T.n : Int)) := by omega
      obtain rfl : k = T.n := by omega
      obtain ⟨a, cap, hv, hp⟩ := own_ports hown
      have HP := Lib.hid hp
      have qt := hTx.own
      have hlz := hz.lt
      clear hTx hp
      subst hv
      have HN : Hid (T.n ≤ 1000000) := by show T.n ≤ 1000000; omega
      go_wp2_with (go_at_call 50; (with_reducible refine (select_calls T.id T.qs a T.n cap HN.out hok _ HP.out S HS.out).mono ?_); rintro e w' ⟨br, bt, cr, ct, rfl, ho, g1, g2, hb2⟩; have hz2 := hz.below hb2 hlz; have qz : ∀ o, w'.cell? ⟨w.heap.size, o, none⟩ = #[Value.int .u64 0, .int .u64 0, .int .u64 0, .int .i64 0, .int .i64 0, .slice none 0 0, .slice none 0 0][o]? := hz2.cell; have fz := hz2.free)
      have hz7 := ((((((hz2.set 0 (.int .u64 S.v.root)).set 1 (.int .u64 S.v.cost)).set 2 (.int .u64 S.v.bridge)).set 3 (.int .i64 S.v.port)).set 4 (.int .i64 S.p)).set 5 (.slice (some ⟨br, 0, none⟩) T.n T.n)).set 6 (.slice (some ⟨bt, 0, none⟩) T.n T.n)
      have hf7 := (((((((Fr.refl (fun k => k = w.heap.size) w').set (p := ⟨w.heap.size, 0, none⟩) (.inl rfl) (.int .u64 S.v.root)).set (p := ⟨w.heap.size, 1, none⟩) (.inl rfl) (.int .u64 S.v.cost)).set (p := ⟨w.heap.size, 2, none⟩) (.inl rfl) (.int .u64 S.v.bridge)).set (p := ⟨w.heap.size, 3, none⟩) (.inl rfl) (.int .i64 S.v.port)).set (p := ⟨w.heap.size, 4, none⟩) (.inl rfl) (.int .i64 S.p)).set (p := ⟨w.heap.size, 5, none⟩) (.inl rfl) (.slice (some ⟨br, 0, none⟩) T.n T.n)).set (p := ⟨w.heap.size, 6, none⟩) (.inl rfl) (.slice (some ⟨bt, 0, none⟩) T.n T.n)
      clear qz fz
      revert hz7 hf7
      generalize World.setCell (World.setCell _ _ _) _ _ = W7
      intro hz7 hf7
      have q7 : ∀ o, W7.cell? ⟨w.heap.size, o, none⟩ = #[Value.int .u64 S.v.root, .int .u64 S.v.cost, .int .u64 S.v.bridge, .int .i64 S.v.port, .int .i64 S.p, .slice (some ⟨br, 0, none⟩) T.n T.n, .slice (some ⟨bt, 0, none⟩) T.n T.n][o]? := hz7.cell
      have hbl := hbel.trans (hb2.mono hbel.size)
      have hpost : SelPost w T.n T.id T.qs S (.returned (.agg #[.int .u64 S.v.root, .int .u64 S.v.cost, .int .u64 S.v.bridge, .int .i64 S.v.port, .int .i64 S.p, .slice (some ⟨br, 0, none⟩) T.n T.n, .slice (some ⟨bt, 0, none⟩) T.n T.n])) W7 :=
        ⟨br, bt, cr, ct, rfl, ho.fr hf7 (by omega) (by omega), by have := hbel.size; omega, by have := hbel.size; omega, Below.fr hbl hf7 hbl.size fun i _ hi => by omega⟩
      exact bodyPost_ret (v := .agg #[.int .u64 S.v.root, .int .u64 S.v.cost, .int .u64 S.v.bridge, .int .i64 S.v.port, .int .i64 S.p, .slice (some ⟨br, 0, none⟩) T.n T.n, .slice (some ⟨bt, 0, none⟩) T.n T.n]) (by simp [results, Try.results32, go_sem, q7]) rfl hpost
    | succ gh =>
      have hkM : (k : Int) < (T.n : Int) := by omega
      have hkn : k < T.n := by omega
      have qt := hTx.ownp (by omega)
      have hr := hTx.range hkn
      obtain rfl := hPn (by omega)
      go_upto_region 5 with (refine wpList_load_mid rfl 31 _ rfl pb (k * 16) rfl _ _ hr Try.underlying31 rfl sz31 ?_)
      have ha := (Below.refl wr.heap.size wr).alloc (Nat.le_refl _) (.cells #[.int .i64 (T.at_ k).p.id, .int .u64 (T.at_ k).p.cost, .bool (T.at_ k).p.up, .bool (T.at_ k).p.has, .int .u64 (T.at_ k).p.told.root, .int .u64 (T.at_ k).p.told.cost, .int .u64 (T.at_ k).p.told.bridge, .int .i64 (T.at_ k).p.told.port, .bool (T.at_ k).edge, .int .i64 (T.at_ k).role, .int .i64 (T.at_ k).state, .int .i64 (T.at_ k).age, .int .i64 (T.at_ k).left, .int .i64 (T.at_ k).wait, .int .i64 (T.at_ k).change, .bool (T.at_ k).agreed] 31)
      have h1 := own_below hown ha
      have hz1 := hz.below ha hz.lt
      have b1 := hbel.trans (ha.mono hbel.size)
      have q7 := (Blk.new wr #[.int .i64 (T.at_ k).p.id, .int .u64 (T.at_ k).p.cost, .bool (T.at_ k).p.up, .bool (T.at_ k).p.has, .int .u64 (T.at_ k).p.told.root, .int .u64 (T.at_ k).p.told.cost, .int .u64 (T.at_ k).p.told.bridge, .int .i64 (T.at_ k).p.told.port, .bool (T.at_ k).edge, .int .i64 (T.at_ k).role, .int .i64 (T.at_ k).state, .int .i64 (T.at_ k).age, .int .i64 (T.at_ k).left, .int .i64 (T.at_ k).wait, .int .i64 (T.at_ k).change, .bool (T.at_ k).agreed] 31).cell
      change Code.wp _ _ _ _ (wr.alloc (.cells #[.int .i64 (T.at_ k).p.id, .int .u64 (T.at_ k).p.cost, .bool (T.at_ k).p.up, .bool (T.at_ k).p.has, .int .u64 (T.at_ k).p.told.root, .int .u64 (T.at_ k).p.told.cost, .int .u64 (T.at_ k).p.told.bridge, .int .i64 (T.at_ k).p.told.port, .bool (T.at_ k).edge, .int .i64 (T.at_ k).role, .int .i64 (T.at_ k).state, .int .i64 (T.at_ k).age, .int .i64 (T.at_ k).left, .int .i64 (T.at_ k).wait, .int .i64 (T.at_ k).change, .bool (T.at_ k).agreed] 31))
      generalize wr.alloc (.cells #[.int .i64 (T.at_ k).p.id, .int .u64 (T.at_ k).p.cost, .bool (T.at_ k).p.up, .bool (T.at_ k).p.has, .int .u64 (T.at_ k).p.told.root, .int .u64 (T.at_ k).p.told.cost, .int .u64 (T.at_ k).p.told.bridge, .int .i64 (T.at_ k).p.told.port, .bool (T.at_ k).edge, .int .i64 (T.at_ k).role, .int .i64 (T.at_ k).state, .int .i64 (T.at_ k).age, .int .i64 (T.at_ k).left, .int .i64 (T.at_ k).wait, .int .i64 (T.at_ k).change, .bool (T.at_ k).agreed] 31) = w7 at h1 hz1 b1 q7 ⊢
      generalize wr.heap.size = b7 at q7 ⊢
      clear hr hown hbel hz ha qt hTx
      have ha := (Below.refl w7.heap.size w7).alloc (Nat.le_refl _) (.cells [.int .i64 (T.at_ k).p.id, .int .u64 (T.at_ k).p.cost, .bool (T.at_ k).p.up, .bool (T.at_ k).p.has, .int .u64 (T.at_ k).p.told.root, .int .u64 (T.at_ k).p.told.cost, .int .u64 (T.at_ k).p.told.bridge, .int .i64 (T.at_ k).p.told.port].toArray 29)
      have h2 := own_below h1 ha
      have hz2 := hz1.below ha hz1.lt
      have b2 := b1.trans (ha.mono b1.size)
      go_wp2_with (refine wpList_append_one rfl _ _ 85 rfl (w.heap.size + 1) 29 _ 8 56 Try.underlying85 info29 rfl (by decide) _ k _ rfl h2 w7.heap.size [.int .i64 (T.at_ k).p.id, .int .u64 (T.at_ k).p.cost, .bool (T.at_ k).p.up, .bool (T.at_ k).p.has, .int .u64 (T.at_ k).p.told.root, .int .u64 (T.at_ k).p.told.cost, .int .u64 (T.at_ k).p.told.bridge, .int .i64 (T.at_ k).p.told.port] 29 rfl (Blk.new w7 _ _) rfl (by simp [Value.oneCell']) (by unfold maxLen; omega) (by omega) (by have := hz2.lt; omega) ?_; intro v3 w8 hown hfr hin)
      go_roundg gh
      case measure => omega
      case rel => exact ⟨k + 1, by omega, by go_num, by rw [qsL_succ]; exact hown, Below.fr b2 hfr b2.size fun i _ hi => by have := (own_ge h2 hi).1; omega, hz2.fr hfr fun hk => by have := (own_ge h2 hk).1; omega⟩
end Go.Proofs.Ytjnbjcieepooaac
