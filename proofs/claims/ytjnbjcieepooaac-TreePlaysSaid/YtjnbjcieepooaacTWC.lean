/- New of package tree, by its contract. -/
import Derived.Test.YtjnbjcieepooaacTWB
namespace Go.Proofs.Ytjnbjcieepooaac
open Go.RowKit
set_option linter.unusedVariables false
set_option linter.unusedSimpArgs false

/-- Ports that lie in memory, one behind the other. -/
structure TPorts (w : World) (b off n : Nat) (f : Nat → TP) : Prop where
  lt : b < w.heap.size
  c : ∀ i o, i < n → o < 16 → w.cell? ⟨b, off + i * 16 + o, none⟩ = (f i).cells[o]?
theorem TPorts.below {w w' : World} {b off n : Nat} {f : Nat → TP} (h : TPorts w b off n f) (hb : Below w.heap.size w w') : TPorts w' b off n f :=
  ⟨Nat.lt_of_lt_of_le h.lt hb.size, fun i o hi ho => by rw [hb.cell (p := ⟨b, off + i * 16 + o, none⟩) h.lt]; exact h.c i o hi ho⟩
theorem TPorts.range {w : World} {b off n : Nat} {f : Nat → TP} (h : TPorts w b off n f) {i : Nat} (hi : i < n) : w.rangeAt b (off + i * 16) [.int .i64 (f i).p.id, .int .u64 (f i).p.cost, .bool (f i).p.up, .bool (f i).p.has, .int .u64 (f i).p.told.root, .int .u64 (f i).p.told.cost, .int .u64 (f i).p.told.bridge, .int .i64 (f i).p.told.port,
    .bool (f i).edge, .int .i64 (f i).role, .int .i64 (f i).state, .int .i64 (f i).age, .int .i64 (f i).left, .int .i64 (f i).wait, .int .i64 (f i).change, .bool (f i).agreed] := fun j v hj => by
  have hl := (List.getElem?_eq_some_iff.1 hj).1
  rw [h.c i j hi hl, ← hj]
  unfold TP.cells
  simp
/-- The tree before the roles are selected. -/
def preT (id : Int) (f : Nat → TP) (M : Nat) : Tr := ⟨id, (List.range M).map (fun i => newP (f i)), v0, 0, [], [], 0, [], (List.range M).map fun _ => false⟩
theorem preT_n (id : Int) (f : Nat → TP) (M : Nat) : (preT id f M).n = M := by simp [Tr.n, preT]
theorem preT_at (id : Int) (f : Nat → TP) (M i : Nat) (hi : i < M) : (preT id f M).at_ i = newP (f i) := by simp [Tr.at_, preT, List.getD, hi]
def newN (id : Int) (f : Nat → TP) (M : Nat) : Tr := selF (preT id f M)
def newL (f : Nat → TP) (k : Nat) : List Value := (List.range k).flatMap fun i => (newP (f i)).cells.toList
theorem newL_succ (f : Nat → TP) (k : Nat) : newL f (k + 1) = newL f k ++ [.int .i64 (f k).p.id, .int .u64 (f k).p.cost, .bool false, .bool false, .int .u64 0, .int .u64 0, .int .u64 0, .int .i64 0, .bool (f k).edge, .int .i64 0, .int .i64 0, .int .i64 0, .int .i64 0, .int .i64 0, .int .i64 0, .bool false] := by
  unfold newL; rw [List.range_succ, List.flatMap_append]; simp [newP, TP.cells, v0]
theorem new_make (k : Nat) (hk : k ≤ 1000000) (W : World) : (Instr.makeSlice 48 (.int .i64 (k : Int)) (.int .i64 (k : Int))).run Try.prog W = .ok (.slice (some ⟨W.heap.size, 0, none⟩) k k) (W.alloc (.cells (madeCells #[.bool false] k) 4)) := by
  obtain ⟨i0, hi0, hz0, hz1, hz2⟩ := info_parts (show (Try.prog.info? 4).map (fun i => (i.zero, i.size, i.bytes)) = some (some (.bool false), 1, 1) by kernel_rfl)
  have := run_make (P := Try.prog) W 48 4 i0 (.bool false) Try.underlying48 hi0 hz0 .i64 .i64 (k : Int) (k : Int) (by omega) (Int.le_refl _) (by rw [hz2]; omega) (by omega)
  rw [hz1, Nat.mul_one] at this
  exact this
theorem made_bools (k i : Nat) (hi : i < k) : (madeCells #[.bool false] k)[i]? = some (.bool false) := by
  unfold madeCells
  simp [hi, Nat.mod_one]
def NewPost (w : World) (U : Tr) (e : Ending) (w' : World) : Prop := ∃ B : TB, e = .returned (.pointer (some ⟨B.tb, 0, none⟩)) ∧ TreeW w' B U ∧ Below w.heap.size w w' ∧ ∀ k, TOwn B U.n k → w.heap.size ≤ k
/-- The roles are laid for the first time. -/
theorem pre_sel {w w' : World} {tb pb pc fb br bt : Nat} {P : Option Addr} {T : Tr} {S : Way} {cr ct : Array Value} (hT : PreW w tb P pb pc fb T) (hF : RowsB w fb 4 1 T.n (fun i => #[.bool (T.flush.getD i false)])) (h1 : T.hello = 0) (h2 : T.outs = [])
    (hS : selW T = S) (h : SelOut w' T.n T.id T.qs S br bt cr ct T.n T.n) (gr : w.heap.size ≤ br) (gt : w.heap.size ≤ bt) (hb : Below w.heap.size w w') :
    TreeW (setsW tb 0 [(2, .int .u64 S.v.root), (3, .int .u64 S.v.cost), (4, .int .u64 S.v.bridge), (5, .int .i64 S.v.port), (6, .int .i64 S.p), (7, .slice (some ⟨br, 0, none⟩) T.n T.n), (8, .slice (some ⟨bt, 0, none⟩) T.n T.n)] w') ⟨tb, pb, pc, br, bt, fb, P, .slice none 0 0⟩ (selF T) := by
  have hT' := hT.below hb
  have hF' := hF.below hb
  have hf := setsW_fr tb 0 [(2, .int .u64 S.v.root), (3, .int .u64 S.v.cost), (4, .int .u64 S.v.bridge), (5, .int .i64 S.v.port), (6, .int .i64 S.p), (7, .slice (some ⟨br, 0, none⟩) T.n T.n), (8, .slice (some ⟨bt, 0, none⟩) T.n T.n)] w'
  have nr : br ≠ tb := by have := hT.t.lt; omega
  have nt : bt ≠ tb := by have := hT.t.lt; omega
  subst hS
  refine ⟨?_, fun hn => ⟨(hT'.p hn).1, (hT'.p hn).2.fr hf ((hT'.p hn).2.ne_blk hT'.t (by decide))⟩, ?_, ?_, hF'.fr hf (hF'.ne_blk hT'.t (by decide)), ?_⟩
  · have := ((((((hT'.t.set 2 (.int .u64 (selW T).v.root)).set 3 (.int .u64 (selW T).v.cost)).set 4 (.int .u64 (selW T).v.bridge)).set 5 (.int .i64 (selW T).v.port)).set 6 (.int .i64 (selW T).p)).set 7 (.slice (some ⟨br, 0, none⟩) T.n T.n)).set 8 (.slice (some ⟨bt, 0, none⟩) T.n T.n)
    simp only [List.setIfInBounds_toArray, List.set_cons_succ, List.set_cons_zero] at this
    rw [← h1] at this
    exact this
  · refine ⟨cr, h.r.fr hf nr, ⟨fun i o hi ho => ?_, by rw [h.rs]; exact Nat.le_of_eq (Nat.mul_one _), fun i _ => rfl⟩⟩
    obtain rfl : o = 0 := by omega
    rw [Nat.mul_one, Nat.add_zero, h.rv i hi]
    have : (selF T).role_ i = roleF T.id T.qs (selW T) i := by
      unfold Tr.role_ selF
      have hi' : i < T.n := hi
      simp [List.getD, hi']
    rw [this]; rfl
  · refine ⟨ct, h.t.fr hf nt, ⟨fun i o hi ho => ?_, by rw [h.ts]; exact Nat.le_refl _, fun i _ => rfl⟩⟩
    have : (selF T).tell_ i = tellF T.id T.qs (selW T) i := by
      unfold Tr.tell_ selF
      have hi' : i < T.n := hi
      simp [List.getD, hi']
    rw [this]
    have ho4 : o = 0 ∨ o = 1 ∨ o = 2 ∨ o = 3 := by omega
    rcases ho4 with rfl | rfl | rfl | rfl
    · rw [Nat.add_zero, h.t0 i hi]; rfl
    · rw [h.t1 i hi]; rfl
    · rw [h.t2 i hi]; rfl
    · rw [h.t3 i hi]; rfl
  · have e : (selF T).outs = [] := h2
    rw [e]
    exact World.ownsRow_nil _ _ _ _
set_option maxRecDepth 8000 in
set_option maxHeartbeats 8000000 in
theorem new_calls (id : Int) (f : Nat → TP) (a : Option Addr) (len cap : Nat) (hlen : len ≤ 4611686018427387904) (hcap : len ≤ cap) (M : Nat) (hM : (if len ≤ 16 then len else 16) = M) (hok : ∀ i, i < M → 0 ≤ (f i).p.cost ∧ (f i).p.cost ≤ 18446744073709551615) (w : World)
    (hp : 0 < len → ∃ b off, a = some ⟨b, off, none⟩ ∧ TPorts w b off len f) (U : Tr) (hU : newN id f M = U) :
    Calls Try.prog 14 #[.int .u64 id, .slice a len cap] w (NewPost w U) := by
  have HU := Lib.hid hU
  have HP := Lib.hid hp
  have hM16 : M ≤ 16 := by rw [← hM]; split <;> omega
  have hMl : M ≤ len := by rw [← hM]; split <;> omega
  have HOK := Lib.hid hok
  clear hU hp hok
  go_enter Try.func14, Try.ntmps14
  go_upto_region 2 with (fail)
  have hb1 := (Below.refl w.heap.size w).alloc (Nat.le_refl _) (.cells #[.int .u64 id, .slice none 0 0, .int .u64 0, .int .u64 0, .int .u64 0, .int .i64 0, .int .i64 0, .slice none 0 0, .slice none 0 0, .int .i64 0, .slice none 0 0, .slice none 0 0] 74)
  have hB1 := Blk.new w #[.int .u64 id, .slice none 0 0, .int .u64 0, .int .u64 0, .int .u64 0, .int .i64 0, .int .i64 0, .slice none 0 0, .slice none 0 0, .int .i64 0, .slice none 0 0, .slice none 0 0] 74
  have hz1 : (w.alloc (.cells #[.int .u64 id, .slice none 0 0, .int .u64 0, .int .u64 0, .int .u64 0, .int .i64 0, .int .i64 0, .slice none 0 0, .slice none 0 0, .int .i64 0, .slice none 0 0, .slice none 0 0] 74)).heap.size = w.heap.size + 1 := size_alloc' _ _
  change Code.wp _ _ _ _ (w.alloc (.cells #[.int .u64 id, .slice none 0 0, .int .u64 0, .int .u64 0, .int .u64 0, .int .i64 0, .int .i64 0, .slice none 0 0, .slice none 0 0, .int .i64 0, .slice none 0 0, .slice none 0 0] 74))
  generalize w.alloc (.cells #[.int .u64 id, .slice none 0 0, .int .u64 0, .int .u64 0, .int .u64 0, .int .i64 0, .int .i64 0, .slice none 0 0, .slice none 0 0, .int .i64 0, .slice none 0 0, .slice none 0 0] 74) = W at hb1 hB1 hz1 ⊢
  have HB1 := Lib.hid hB1
  have HBE := Lib.hid hb1
  clear hB1 hb1
  go_cut [15, 16, 17] (fun s15 s16 s17 wx => s15 = .slice a M cap ∧ s16 = .int .i64 (M : Int) ∧ s17 = .int .i64 0 ∧ wx = W)
  case first =>
    by_cases h16 : len ≤ 16
    · rw [if_pos h16] at hM
      subst hM
      have hm : ¬ (16 : Int) < (len : Int) := by omega
      go_wp2
      go_meet
      exact ⟨rfl, rfl, rfl, rfl⟩
    · rw [if_neg h16] at hM
      subst hM
      go_wp2
      go_meet
      exact ⟨rfl, rfl, rfl, rfl⟩
  case rest =>
    obtain ⟨rfl, rfl, rfl, rfl⟩ := hcut
    generalize htb : w.heap.size = tb at hz1 HB1
    have HTB := Lib.hid htb
    clear htb
    go_wp2
    go_loopg [17] M (fun gh s17 wx => ∃ (k : Nat) (v : Value), k + gh = M ∧ s17 = .int .i64 (k : Int) ∧ Blk wx tb #[.int .u64 id, v, .int .u64 0, .int .u64 0, .int .u64 0, .int .i64 0, .int .i64 0, .slice none 0 0, .slice none 0 0, .int .i64 0, .slice none 0 0, .slice none 0 0] 74 ∧ wx.ownsRow (tb + 1) 31 16 v k (newL f k) ∧ Below w.heap.size w wx)
    case atStart => exact ⟨0, .slice none 0 0, by omega, rfl, HB1.out, World.ownsRow_nil _ _ _ _, HBE.out⟩
    case round =>
      obtain ⟨k, v, hkg, rfl, hB, hown, hbel⟩ := hrel
      obtain ⟨a1, c1, rfl⟩ := own_slice hown
      cases gk with
      | zero =>
        have hkM : ¬ ((k : Int) < (M : Int)) := by omega
        obtain rfl : k = M := by omega
        have mk1 := new_make k (by omega)
        have qt : ∀ o, wr.cell? ⟨tb, o, none⟩ = (#[.int .u64 id, .slice a1 k c1, .int .u64 0, .int .u64 0, .int .u64 0, .int .i64 0, .int .i64 0, .slice none 0 0, .slice none 0 0, .int .i64 0, .slice none 0 0, .slice none 0 0] : Array Value)[o]? := hB.cell
        have ft := hB.free
        have lt : tb < wr.heap.size := hB.lt
        obtain ⟨T0, hT0⟩ : ∃ T0, preT id f k = T0 := ⟨_, rfl⟩
        have hT0n : T0.n = k := by rw [← hT0, preT_n]
        have hT0id : T0.id = id := by rw [← hT0]; rfl
        have hat : ∀ i, i < k → T0.at_ i = newP (f i) := fun i hi => by rw [← hT0, preT_at _ _ _ _ hi]
        have hpre : ∃ pb fb, PreW ((wr.setCell ⟨tb, 11, none⟩ (.slice (some ⟨wr.heap.size, 0, none⟩) k k)).alloc (.cells (madeCells #[.bool false] k) 4)) tb a1 pb c1 fb T0 ∧ RowsB ((wr.setCell ⟨tb, 11, none⟩ (.slice (some ⟨wr.heap.size, 0, none⟩) k k)).alloc (.cells (madeCells #[.bool false] k) 4)) fb 4 1 T0.n (fun i => #[.bool (T0.flush.getD i false)]) ∧ fb = wr.heap.size ∧ (0 < k → tb + 1 ≤ pb) ∧ Below w.heap.size w ((wr.setCell ⟨tb, 11, none⟩ (.slice (some ⟨wr.heap.size, 0, none⟩) k k)).alloc (.cells (madeCells #[.bool false] k) 4)) := by
          have hfs : Fr (fun j => j = tb) wr (wr.setCell ⟨tb, 11, none⟩ (.slice (some ⟨wr.heap.size, 0, none⟩) k k)) := (Fr.refl (fun j => j = tb) wr).set (p := ⟨tb, 11, none⟩) (.inl rfl) _
          have hsz : (wr.setCell ⟨tb, 11, none⟩ (.slice (some ⟨wr.heap.size, 0, none⟩) k k)).heap.size = wr.heap.size := by simp
          have hal := (Below.refl _ (wr.setCell ⟨tb, 11, none⟩ (.slice (some ⟨wr.heap.size, 0, none⟩) k k))).alloc (Nat.le_refl _) (.cells (madeCells #[.bool false] k) 4)
          have hfl := Blk.new (wr.setCell ⟨tb, 11, none⟩ (.slice (some ⟨wr.heap.size, 0, none⟩) k k)) (madeCells #[.bool false] k) 4
          have hset := (hB.set 11 (.slice (some ⟨wr.heap.size, 0, none⟩) k k)).below hal (by rw [hsz]; exact lt)
          simp only [List.setIfInBounds_toArray, List.set_cons_succ, List.set_cons_zero] at hset
          have hF : RowsB ((wr.setCell ⟨tb, 11, none⟩ (.slice (some ⟨wr.heap.size, 0, none⟩) k k)).alloc (.cells (madeCells #[.bool false] k) 4)) wr.heap.size 4 1 T0.n (fun i => #[.bool (T0.flush.getD i false)]) := by
            rw [hsz] at hfl
            refine ⟨_, hfl, ⟨fun i o hi ho => ?_, by rw [size_madeCells, hT0n]; omega, fun i _ => rfl⟩⟩
            obtain rfl : o = 0 := by omega
            rw [hT0n] at hi
            rw [Nat.mul_one, Nat.add_zero, made_bools k i hi]
            have : T0.flush.getD i false = false := by rw [← hT0]; simp [preT, List.getD, hi]
            rw [this]; rfl
          have hbb : Below w.heap.size w ((wr.setCell ⟨tb, 11, none⟩ (.slice (some ⟨wr.heap.size, 0, none⟩) k k)).alloc (.cells (madeCells #[.bool false] k) 4)) := (Below.fr hbel hfs hbel.size fun j _ hj => by have := HTB.out; omega).trans (hal.mono (by rw [hsz]; exact hbel.size))
          by_cases hk0 : 0 < k
          · obtain ⟨g, c', hv, hg1, hg2, _⟩ := own_at hown hk0
            simp only [Value.slice.injEq] at hv
            obtain ⟨rfl, _, rfl⟩ := hv
            have hR := RowsB.of_own (f := fun i => (newP (f i)).cells) (fun i => rfl) hown
            have hR2 := (hR.fr hfs (by omega)).below hal
            exact ⟨g, wr.heap.size, ⟨by rw [hT0n, hT0id]; exact hset, fun _ => ⟨rfl, by rw [hT0n]; exact hR2.congr fun i hi => by rw [hat i hi]⟩⟩, hF, rfl, fun _ => hg1, hbb⟩
          · exact ⟨0, wr.heap.size, ⟨by rw [hT0n, hT0id]; exact hset, fun h => absurd h (by rw [hT0n]; exact hk0)⟩, hF, rfl, fun h => absurd h hk0, hbb⟩
        obtain ⟨pb, fb, hPW, hF, hfb, hpb, hbb⟩ := hpre
        obtain ⟨S, hS⟩ : ∃ S, selW T0 = S := ⟨_, rfl⟩
        have HS := Lib.hid hS
        have HN16 : Hid (T0.n ≤ 16) := by rw [hT0n]; exact Lib.hid hM16
        have HQ : Hid (∀ i, i < T0.n → (T0.qs i).ok) := Lib.hid fun i hi => by
          rw [hT0n] at hi
          have := HOK.out i hi
          unfold Tr.qs
          rw [hat i hi]
          exact ⟨this.1, this.2, v0_ok⟩
        have HE : Hid (selF T0 = U) := by rw [← hT0]; exact HU
        have HH : Hid (T0.hello = 0) := by rw [← hT0]; exact Lib.hid rfl
        have HOU : Hid (T0.outs = []) := by rw [← hT0]; exact Lib.hid rfl
        have hfbg : w.heap.size ≤ fb := by rw [hfb]; exact hbel.size
        have htl : Hid (w.heap.size ≤ tb) := Lib.hid (Nat.le_of_eq HTB.out)
        have hpbg : Hid (0 < T0.n → w.heap.size ≤ pb) := Lib.hid fun h => by rw [hT0n] at h; have := hpb h; have := HTB.out; omega
        clear hS hT0 hT0n hT0id hat hown hB hbel hpb hfb HU HOK
        go_upto_region 8 with (fail)
        change Code.wp _ _ _ _ ((wr.setCell ⟨tb, 11, none⟩ (.slice (some ⟨wr.heap.size, 0, none⟩) k k)).alloc (.cells (madeCells #[.bool false] k) 4))
        generalize (wr.setCell ⟨tb, 11, none⟩ (.slice (some ⟨wr.heap.size, 0, none⟩) k k)).alloc (.cells (madeCells #[.bool false] k) 4) = W9 at hPW hF hbb ⊢
        clear qt ft lt mk1
        have HPW := Lib.hid hPW
        clear hPW
        go_upto_region 9 with (go_at_call 32; (with_reducible refine (selected0_calls T0 tb pb c1 fb a1 HN16.out HQ.out _ HPW.out S HS.out).mono ?_); rintro e w' ⟨br, bt, cr, ct, rfl, ho, g1, g2, hb2⟩; have q4 := (HPW.out.below hb2).own; have f4 := (HPW.out.below hb2).t.free)
        have h8 := pre_sel HPW.out hF HH.out HOU.out HS.out ho g1 g2 hb2
        have hfw := setsW_fr tb 0 [(2, .int .u64 S.v.root), (3, .int .u64 S.v.cost), (4, .int .u64 S.v.bridge), (5, .int .i64 S.v.port), (6, .int .i64 S.p), (7, .slice (some ⟨br, 0, none⟩) T0.n T0.n), (8, .slice (some ⟨bt, 0, none⟩) T0.n T0.n)] w'
        change Code.wp _ _ _ _ (setsW tb 0 [(2, .int .u64 S.v.root), (3, .int .u64 S.v.cost), (4, .int .u64 S.v.bridge), (5, .int .i64 S.v.port), (6, .int .i64 S.p), (7, .slice (some ⟨br, 0, none⟩) T0.n T0.n), (8, .slice (some ⟨bt, 0, none⟩) T0.n T0.n)] w')
        have hbe := hbb.trans (hb2.mono hbb.size)
        have hbf := Below.fr hbe hfw hbe.size fun j _ hj => by have := htl.out; omega
        generalize setsW tb 0 [(2, .int .u64 S.v.root), (3, .int .u64 S.v.cost), (4, .int .u64 S.v.bridge), (5, .int .i64 S.v.port), (6, .int .i64 S.p), (7, .slice (some ⟨br, 0, none⟩) T0.n T0.n), (8, .slice (some ⟨bt, 0, none⟩) T0.n T0.n)] w' = WE at h8 hfw hbf ⊢
        have hsz9 := hbb.size
        have hpost : NewPost w U (.returned (.pointer (some ⟨tb, 0, none⟩))) WE := by
          rw [← HE.out]
          refine ⟨_, rfl, h8, hbf, fun j hj => ?_⟩
          rcases hj with h | h | h | h | h | h
          · have := htl.out; rw [h]; exact this
          · rw [h.2]; exact hpbg.out h.1
          · rw [h]; show w.heap.size ≤ br; omega
          · rw [h]; show w.heap.size ≤ bt; omega
          · rw [h]; exact hfbg
          · simp [InRow, Value.ownBlock] at h
        have HPOST := Lib.hid hpost
        clear q4 f4 ho g1 g2 hb2 h8 hfw hbf hpost hbe
        go_wp2
        go_ret
        exact HPOST.out
      | succ gh =>
        have hkM : (k : Int) < (M : Int) := by omega
        have hkn : k < len := by omega
        obtain ⟨b, off, hab, hpt⟩ := HP.out (by omega)
        have hr := (hpt.below hbel).range hkn
        subst hab
        obtain ⟨q, hq⟩ : ∃ q, f k = q := ⟨_, rfl⟩
        have HQ := Lib.hid hq
        rw [hq] at hr
        have HBT := Lib.hid hB
        clear hq hpt hB
        go_upto_region 5 with (refine wpList_load_mid rfl 31 _ rfl b (off + k * 16) rfl _ _ hr Try.underlying31 rfl sz31 ?_)
        have hB7 := Blk.new wr #[.int .i64 q.p.id, .int .u64 q.p.cost, .bool q.p.up, .bool q.p.has, .int .u64 q.p.told.root, .int .u64 q.p.told.cost, .int .u64 q.p.told.bridge, .int .i64 q.p.told.port, .bool q.edge, .int .i64 q.role, .int .i64 q.state, .int .i64 q.age, .int .i64 q.left, .int .i64 q.wait, .int .i64 q.change, .bool q.agreed] 31
        have hbw := hbel.alloc hbel.size (.cells #[.int .i64 q.p.id, .int .u64 q.p.cost, .bool q.p.up, .bool q.p.has, .int .u64 q.p.told.root, .int .u64 q.p.told.cost, .int .u64 q.p.told.bridge, .int .i64 q.p.told.port, .bool q.edge, .int .i64 q.role, .int .i64 q.state, .int .i64 q.age, .int .i64 q.left, .int .i64 q.wait, .int .i64 q.change, .bool q.agreed] 31)
        have hbr := (Below.refl wr.heap.size wr).alloc (Nat.le_refl _) (.cells #[.int .i64 q.p.id, .int .u64 q.p.cost, .bool q.p.up, .bool q.p.has, .int .u64 q.p.told.root, .int .u64 q.p.told.cost, .int .u64 q.p.told.bridge, .int .i64 q.p.told.port, .bool q.edge, .int .i64 q.role, .int .i64 q.state, .int .i64 q.age, .int .i64 q.left, .int .i64 q.wait, .int .i64 q.change, .bool q.agreed] 31)
        have hBT := HBT.out.below hbr HBT.out.lt
        have hownW := own_below hown hbr
        have e7 : wr.heap.size ≠ tb := Nat.ne_of_gt HBT.out.lt
        have hnr : Hid (¬ InRow (.slice a1 k c1) wr.heap.size) := Lib.hid fun h => by have := (own_ge hown h).2; omega
        change Code.wp _ _ _ _ (wr.alloc (.cells #[.int .i64 q.p.id, .int .u64 q.p.cost, .bool q.p.up, .bool q.p.has, .int .u64 q.p.told.root, .int .u64 q.p.told.cost, .int .u64 q.p.told.bridge, .int .i64 q.p.told.port, .bool q.edge, .int .i64 q.role, .int .i64 q.state, .int .i64 q.age, .int .i64 q.left, .int .i64 q.wait, .int .i64 q.change, .bool q.agreed] 31))
        generalize wr.alloc (.cells #[.int .i64 q.p.id, .int .u64 q.p.cost, .bool q.p.up, .bool q.p.has, .int .u64 q.p.told.root, .int .u64 q.p.told.cost, .int .u64 q.p.told.bridge, .int .i64 q.p.told.port, .bool q.edge, .int .i64 q.role, .int .i64 q.state, .int .i64 q.age, .int .i64 q.left, .int .i64 q.wait, .int .i64 q.change, .bool q.agreed] 31) = W7 at hB7 hbw hBT hownW ⊢
        generalize wr.heap.size = b7 at hB7 e7 hnr ⊢
        clear hr hown hbel hbr HBT
        have qt : ∀ o, W7.cell? ⟨tb, o, none⟩ = (#[.int .u64 id, .slice a1 k c1, .int .u64 0, .int .u64 0, .int .u64 0, .int .i64 0, .int .i64 0, .slice none 0 0, .slice none 0 0, .int .i64 0, .slice none 0 0, .slice none 0 0] : Array Value)[o]? := hBT.cell
        have lt : tb < W7.heap.size := hBT.lt
        have hown2 := own_below hownW (((Below.refl W7.heap.size W7).drew).alloc (Nat.le_refl _) (.cells [.int .i64 q.p.id, .int .u64 q.p.cost, .bool false, .bool false, .int .u64 0, .int .u64 0, .int .u64 0, .int .i64 0, .bool q.edge, .int .i64 0, .int .i64 0, .int .i64 0, .int .i64 0, .int .i64 0, .int .i64 0, .bool false].toArray 31))
        have hBT2 := hBT.below (((Below.refl W7.heap.size W7).drew).alloc (Nat.le_refl _) (.cells [.int .i64 q.p.id, .int .u64 q.p.cost, .bool false, .bool false, .int .u64 0, .int .u64 0, .int .u64 0, .int .i64 0, .bool q.edge, .int .i64 0, .int .i64 0, .int .i64 0, .int .i64 0, .int .i64 0, .int .i64 0, .bool false].toArray 31)) hBT.lt
        have HOWN2 := Lib.hid hown2
        have HBT2 := Lib.hid hBT2
        have HNT : Hid (¬ InRow (.slice a1 k c1) tb) := Lib.hid fun h => by have := (own_ge hown2 h).1; omega
        have h7s : Hid (tb + 1 ≤ W7.heap.size) := Lib.hid lt
        clear hown2 hBT2 hBT hownW
        refine wp_region_held_drew (S := fun w' => Blk w' b7 #[.int .i64 q.p.id, .int .u64 q.p.cost, .bool q.p.up, .bool q.p.has, .int .u64 q.p.told.root, .int .u64 q.p.told.cost, .int .u64 q.p.told.bridge, .int .i64 q.p.told.port, .bool q.edge, .int .i64 q.role, .int .i64 q.state, .int .i64 q.age, .int .i64 q.left, .int .i64 q.wait, .int .i64 q.change, .bool q.agreed] 31 ∧ ∀ o, w'.cell? ⟨b7, o, none⟩ = (#[.int .i64 q.p.id, .int .u64 q.p.cost, .bool q.p.up, .bool q.p.has, .int .u64 q.p.told.root, .int .u64 q.p.told.cost, .int .u64 q.p.told.bridge, .int .i64 q.p.told.port, .bool q.edge, .int .i64 q.role, .int .i64 q.state, .int .i64 q.age, .int .i64 q.left, .int .i64 q.wait, .int .i64 q.change, .bool q.agreed] : Array Value)[o]?) (by kernel_rfl) (held_drew hB7) (fun hS => ?_)
        refine wpAnyH_take (i := 0) (v := .pointer (some ⟨tb, 0, none⟩)) (show _ = some (Oper.mk (some 21) _ _ _ _ _) from rfl) (by kernel_rfl) (by kernel_rfl) (by kernel_rfl) (fun _ _ _ h => h) (Or.inl ⟨by rfl, by intro w hSw; go_simp⟩) hS ?_
        try simp only [Act.put, List.setIfInBounds_toArray, List.set_cons_zero, List.set_cons_succ]
        refine wpAnyH_take (i := 1) (v := .pointer (some ⟨tb, 0, none⟩)) (show _ = some (Oper.mk (some 22) _ _ _ _ _) from rfl) (by kernel_rfl) (by kernel_rfl) (by kernel_rfl) (fun _ _ _ h => h) (Or.inl ⟨by rfl, by intro w hSw; go_simp⟩) hS ?_
        try simp only [Act.put, List.setIfInBounds_toArray, List.set_cons_zero, List.set_cons_succ]
        refine wpAnyH_take (i := 2) (v := .pointer (some ⟨tb, 0, none⟩)) (show _ = some (Oper.mk (some 23) _ _ _ _ _) from rfl) (by kernel_rfl) (by kernel_rfl) (by kernel_rfl) (fun _ _ _ h => h) (Or.inl ⟨by rfl, by intro w hSw; go_simp⟩) hS ?_
        try simp only [Act.put, List.setIfInBounds_toArray, List.set_cons_zero, List.set_cons_succ]
        refine wpAnyH_take (i := 3) (v := .pointer (some ⟨tb, 1, none⟩)) (show _ = some (Oper.mk (some 24) _ _ _ _ _) from rfl) (by kernel_rfl) (by kernel_rfl) (by kernel_rfl) (fun _ _ _ h => h) (Or.inl ⟨by rfl, by intro w hSw; go_simp⟩) hS ?_
        try simp only [Act.put, List.setIfInBounds_toArray, List.set_cons_zero, List.set_cons_succ]
        refine wpAnyH_take (i := 5) (v := .pointer (some ⟨b7, 0, none⟩)) (show _ = some (Oper.mk (some 26) _ _ _ _ _) from rfl) (by kernel_rfl) (by kernel_rfl) (by kernel_rfl) (fun _ _ _ h => h) (Or.inl ⟨by rfl, by intro w hSw; go_simp⟩) hS ?_
        try simp only [Act.put, List.setIfInBounds_toArray, List.set_cons_zero, List.set_cons_succ]
        refine wpAnyH_take (i := 6) (v := .pointer (some ⟨b7, 0, none⟩)) (show _ = some (Oper.mk (some 27) _ _ _ _ _) from rfl) (by kernel_rfl) (by kernel_rfl) (by kernel_rfl) (fun _ _ _ h => h) (Or.inl ⟨by rfl, by intro w hSw; go_simp⟩) hS ?_
        try simp only [Act.put, List.setIfInBounds_toArray, List.set_cons_zero, List.set_cons_succ]
        refine wpAnyH_take (i := 7) (v := .int .i64 q.p.id) (show _ = some (Oper.mk (some 28) _ _ _ _ _) from rfl) (by kernel_rfl) (by kernel_rfl) (by kernel_rfl) (fun _ _ _ h => h) (Or.inl ⟨by rfl, by intro w hSw; go_simp⟩) hS ?_
        try simp only [Act.put, List.setIfInBounds_toArray, List.set_cons_zero, List.set_cons_succ]
        refine wpAnyH_take (i := 8) (v := .pointer (some ⟨b7, 0, none⟩)) (show _ = some (Oper.mk (some 29) _ _ _ _ _) from rfl) (by kernel_rfl) (by kernel_rfl) (by kernel_rfl) (fun _ _ _ h => h) (Or.inl ⟨by rfl, by intro w hSw; go_simp⟩) hS ?_
        try simp only [Act.put, List.setIfInBounds_toArray, List.set_cons_zero, List.set_cons_succ]
        refine wpAnyH_take (i := 9) (v := .pointer (some ⟨b7, 1, none⟩)) (show _ = some (Oper.mk (some 30) _ _ _ _ _) from rfl) (by kernel_rfl) (by kernel_rfl) (by kernel_rfl) (fun _ _ _ h => h) (Or.inl ⟨by rfl, by intro w hSw; go_simp⟩) hS ?_
        try simp only [Act.put, List.setIfInBounds_toArray, List.set_cons_zero, List.set_cons_succ]
        refine wpAnyH_take (i := 10) (v := .int .u64 q.p.cost) (show _ = some (Oper.mk (some 31) _ _ _ _ _) from rfl) (by kernel_rfl) (by kernel_rfl) (by kernel_rfl) (fun _ _ _ h => h) (Or.inl ⟨by rfl, by intro w hSw; go_simp⟩) hS ?_
        try simp only [Act.put, List.setIfInBounds_toArray, List.set_cons_zero, List.set_cons_succ]
        refine wpAnyH_take (i := 11) (v := .agg #[.int .i64 q.p.id, .int .u64 q.p.cost, .bool false, .bool false, .int .u64 0, .int .u64 0, .int .u64 0, .int .i64 0]) (show _ = some (Oper.mk (some 32) _ _ _ _ _) from rfl) (by kernel_rfl) (by kernel_rfl) (by kernel_rfl) (fun _ _ _ h => h) (Or.inl ⟨by rfl, by intro w hSw; go_simp⟩) hS ?_
        try simp only [Act.put, List.setIfInBounds_toArray, List.set_cons_zero, List.set_cons_succ]
        refine wpAnyH_take (i := 12) (v := .pointer (some ⟨b7, 8, none⟩)) (show _ = some (Oper.mk (some 33) _ _ _ _ _) from rfl) (by kernel_rfl) (by kernel_rfl) (by kernel_rfl) (fun _ _ _ h => h) (Or.inl ⟨by rfl, by intro w hSw; go_simp⟩) hS ?_
        try simp only [Act.put, List.setIfInBounds_toArray, List.set_cons_zero, List.set_cons_succ]
        refine wpAnyH_take (i := 13) (v := .bool q.edge) (show _ = some (Oper.mk (some 34) _ _ _ _ _) from rfl) (by kernel_rfl) (by kernel_rfl) (by kernel_rfl) (fun _ _ _ h => h) (Or.inl ⟨by rfl, by intro w hSw; go_simp⟩) hS ?_
        try simp only [Act.put, List.setIfInBounds_toArray, List.set_cons_zero, List.set_cons_succ]
        refine wpAnyH_take (i := 14) (v := .agg #[.int .i64 q.p.id, .int .u64 q.p.cost, .bool false, .bool false, .int .u64 0, .int .u64 0, .int .u64 0, .int .i64 0, .bool q.edge, .int .i64 0, .int .i64 0, .int .i64 0, .int .i64 0, .int .i64 0, .int .i64 0, .bool false]) (show _ = some (Oper.mk (some 35) _ _ _ _ _) from rfl) (by kernel_rfl) (by kernel_rfl) (by kernel_rfl) (fun _ _ _ h => h) (Or.inl ⟨by rfl, by intro w hSw; go_simp⟩) hS ?_
        try simp only [Act.put, List.setIfInBounds_toArray, List.set_cons_zero, List.set_cons_succ]
        refine wpAnyH_ready (rs := [4, 15]) (by kernel_rfl) (by simp) ?_
        refine AllReadyH.cons (show _ = some (Oper.mk (some 25) _ _ _ _ _) from rfl) (fun K hK => ?_) (AllReadyH.cons (show _ = some (Oper.mk (some 36) _ _ _ _ _) from rfl) (fun K hK => ?_) AllReadyH.nil)
        · go_simp
          refine hK.out _ _ hS (fun hS => ?_)
          clear hK K
          try simp only [Act.put, List.setIfInBounds_toArray, List.set_cons_zero, List.set_cons_succ]
          refine wpAnyH_ready (rs := [15]) (by kernel_rfl) (by simp) ?_
          refine AllReadyH.cons (show _ = some (Oper.mk (some 36) _ _ _ _ _) from rfl) (fun K hK => ?_) AllReadyH.nil
          go_simp
          refine hK.out _ _ (held_alloc hS _) (fun hS => ?_)
          clear hK K
          try simp only [Act.put, List.setIfInBounds_toArray, List.set_cons_zero, List.set_cons_succ]
          refine wpAnyH_ready (rs := [16]) (by kernel_rfl) (by simp) ?_
          refine AllReadyH.cons (show _ = some (Oper.mk (some 37) _ _ _ _ _) from rfl) (fun K hK => ?_) AllReadyH.nil
          refine step_append_one rfl (.tmp 25) (.tmp 36) 23 rfl (tb + 1) 31 _ 16 120 Try.underlying23 info31 rfl (by decide) (.slice a1 k c1) k (newL f k) rfl (by exact HOWN2.out) W7.heap.size [.int .i64 q.p.id, .int .u64 q.p.cost, .bool false, .bool false, .int .u64 0, .int .u64 0, .int .u64 0, .int .i64 0, .bool q.edge, .int .i64 0, .int .i64 0, .int .i64 0, .int .i64 0, .int .i64 0, .int .i64 0, .bool false] 31 rfl (by exact Blk.new W7.drew _ _) rfl (by simp [Value.oneCell']) (by unfold maxLen; omega) (by omega) (by simp; have := h7s.out; omega) ?_
          intro v1 w1 hown1 hfr1 hin1
          obtain ⟨a2, c2, rfl⟩ := own_slice hown1
          have hb1 := HBT2.out.fr hfr1 HNT.out
          have qt1 : w1.cell? ⟨tb, 1, none⟩ = some (.slice a1 k c1) := (hb1.cell 1).trans rfl
          have ft1 := hb1.free
          have HB1w := Lib.hid hb1
          clear hb1
          refine hK.out _ _ (held_fr hS hfr1 hnr.out) (fun hS => ?_)
          clear hK K
          try simp only [Act.put, List.setIfInBounds_toArray, List.set_cons_zero, List.set_cons_succ]
          refine wpAnyH_take (i := 17) (v := .pointer (some ⟨tb, 0, none⟩)) (show _ = some (Oper.mk (some 38) _ _ _ _ _) from rfl) (by kernel_rfl) (by kernel_rfl) (by kernel_rfl) (fun _ _ _ h => h) (Or.inl ⟨by rfl, by intro w hSw; go_simp⟩) hS ?_
          try simp only [Act.put, List.setIfInBounds_toArray, List.set_cons_zero, List.set_cons_succ]
          refine wpAnyH_take (i := 18) (v := .pointer (some ⟨tb, 1, none⟩)) (show _ = some (Oper.mk (some 39) _ _ _ _ _) from rfl) (by kernel_rfl) (by kernel_rfl) (by kernel_rfl) (fun _ _ _ h => h) (Or.inl ⟨by rfl, by intro w hSw; go_simp⟩) hS ?_
          try simp only [Act.put, List.setIfInBounds_toArray, List.set_cons_zero, List.set_cons_succ]
          refine wpAnyH_ready (rs := [19]) (by kernel_rfl) (by simp) ?_
          refine AllReadyH.cons (show _ = some (Oper.mk none _ _ _ _ _) from rfl) (fun K hK => ?_) AllReadyH.nil
          go_simp
          refine hK.out _ _ (held_set hS e7 _) (fun hS => ?_)
          clear hK K
          try simp only [Act.put, List.setIfInBounds_toArray, List.set_cons_zero, List.set_cons_succ]
          refine wpAnyH_done (by kernel_rfl) ?_ _
          go_wp2
          go_roundg gh
          case measure => omega
          case rel =>
            have hset := HB1w.out.set 1 (.slice a2 (k + 1) c2)
            simp only [List.setIfInBounds_toArray, List.set_cons_succ, List.set_cons_zero] at hset
            have hfs : Fr (fun j => j = tb) w1 (w1.setCell ⟨tb, 1, none⟩ (.slice a2 (k + 1) c2)) := (Fr.refl (fun j => j = tb) w1).set (p := ⟨tb, 1, none⟩) (.inl rfl) _
            refine ⟨k + 1, _, by omega, by go_num, hset, by rw [newL_succ, HQ.out]; exact own_fr hown1 hfs fun j hj e => by have := (own_ge hown1 hj).1; omega, ?_⟩
            have hbb := (hbw.drew).alloc hbw.size (.cells [.int .i64 q.p.id, .int .u64 q.p.cost, .bool false, .bool false, .int .u64 0, .int .u64 0, .int .u64 0, .int .i64 0, .bool q.edge, .int .i64 0, .int .i64 0, .int .i64 0, .int .i64 0, .int .i64 0, .int .i64 0, .bool false].toArray 31)
            have hbx := Below.fr hbb hfr1 hbb.size fun j _ hj => by have := (own_ge HOWN2.out hj).1; have := HTB.out; omega
            exact Below.fr hbx hfs hbx.size fun j _ hj => by have := HTB.out; omega
        · go_simp
          refine hK.out _ _ (held_alloc hS _) (fun hS => ?_)
          clear hK K
          try simp only [Act.put, List.setIfInBounds_toArray, List.set_cons_zero, List.set_cons_succ]
          refine wpAnyH_ready (rs := [4]) (by kernel_rfl) (by simp) ?_
          refine AllReadyH.cons (show _ = some (Oper.mk (some 25) _ _ _ _ _) from rfl) (fun K hK => ?_) AllReadyH.nil
          go_simp
          refine hK.out _ _ hS (fun hS => ?_)
          clear hK K
          try simp only [Act.put, List.setIfInBounds_toArray, List.set_cons_zero, List.set_cons_succ]
          refine wpAnyH_ready (rs := [16]) (by kernel_rfl) (by simp) ?_
          refine AllReadyH.cons (show _ = some (Oper.mk (some 37) _ _ _ _ _) from rfl) (fun K hK => ?_) AllReadyH.nil
          refine step_append_one rfl (.tmp 25) (.tmp 36) 23 rfl (tb + 1) 31 _ 16 120 Try.underlying23 info31 rfl (by decide) (.slice a1 k c1) k (newL f k) rfl (by exact HOWN2.out) W7.heap.size [.int .i64 q.p.id, .int .u64 q.p.cost, .bool false, .bool false, .int .u64 0, .int .u64 0, .int .u64 0, .int .i64 0, .bool q.edge, .int .i64 0, .int .i64 0, .int .i64 0, .int .i64 0, .int .i64 0, .int .i64 0, .bool false] 31 rfl (by exact Blk.new W7.drew _ _) rfl (by simp [Value.oneCell']) (by unfold maxLen; omega) (by omega) (by simp; have := h7s.out; omega) ?_
          intro v1 w1 hown1 hfr1 hin1
          obtain ⟨a2, c2, rfl⟩ := own_slice hown1
          have hb1 := HBT2.out.fr hfr1 HNT.out
          have qt1 : w1.cell? ⟨tb, 1, none⟩ = some (.slice a1 k c1) := (hb1.cell 1).trans rfl
          have ft1 := hb1.free
          have HB1w := Lib.hid hb1
          clear hb1
          refine hK.out _ _ (held_fr hS hfr1 hnr.out) (fun hS => ?_)
          clear hK K
          try simp only [Act.put, List.setIfInBounds_toArray, List.set_cons_zero, List.set_cons_succ]
          refine wpAnyH_take (i := 17) (v := .pointer (some ⟨tb, 0, none⟩)) (show _ = some (Oper.mk (some 38) _ _ _ _ _) from rfl) (by kernel_rfl) (by kernel_rfl) (by kernel_rfl) (fun _ _ _ h => h) (Or.inl ⟨by rfl, by intro w hSw; go_simp⟩) hS ?_
          try simp only [Act.put, List.setIfInBounds_toArray, List.set_cons_zero, List.set_cons_succ]
          refine wpAnyH_take (i := 18) (v := .pointer (some ⟨tb, 1, none⟩)) (show _ = some (Oper.mk (some 39) _ _ _ _ _) from rfl) (by kernel_rfl) (by kernel_rfl) (by kernel_rfl) (fun _ _ _ h => h) (Or.inl ⟨by rfl, by intro w hSw; go_simp⟩) hS ?_
          try simp only [Act.put, List.setIfInBounds_toArray, List.set_cons_zero, List.set_cons_succ]
          refine wpAnyH_ready (rs := [19]) (by kernel_rfl) (by simp) ?_
          refine AllReadyH.cons (show _ = some (Oper.mk none _ _ _ _ _) from rfl) (fun K hK => ?_) AllReadyH.nil
          go_simp
          refine hK.out _ _ (held_set hS e7 _) (fun hS => ?_)
          clear hK K
          try simp only [Act.put, List.setIfInBounds_toArray, List.set_cons_zero, List.set_cons_succ]
          refine wpAnyH_done (by kernel_rfl) ?_ _
          go_wp2
          go_roundg gh
          case measure => omega
          case rel =>
            have hset := HB1w.out.set 1 (.slice a2 (k + 1) c2)
            simp only [List.setIfInBounds_toArray, List.set_cons_succ, List.set_cons_zero] at hset
            have hfs : Fr (fun j => j = tb) w1 (w1.setCell ⟨tb, 1, none⟩ (.slice a2 (k + 1) c2)) := (Fr.refl (fun j => j = tb) w1).set (p := ⟨tb, 1, none⟩) (.inl rfl) _
            refine ⟨k + 1, _, by omega, by go_num, hset, by rw [newL_succ, HQ.out]; exact own_fr hown1 hfs fun j hj e => by have := (own_ge hown1 hj).1; omega, ?_⟩
            have hbb := (hbw.drew).alloc hbw.size (.cells [.int .i64 q.p.id, .int .u64 q.p.cost, .bool false, .bool false, .int .u64 0, .int .u64 0, .int .u64 0, .int .i64 0, .bool q.edge, .int .i64 0, .int .i64 0, .int .i64 0, .int .i64 0, .int .i64 0, .int .i64 0, .bool false].toArray 31)
            have hbx := Below.fr hbb hfr1 hbb.size fun j _ hj => by have := (own_ge HOWN2.out hj).1; have := HTB.out; omega
            exact Below.fr hbx hfs hbx.size fun j _ hj => by have := HTB.out; omega
end Go.Proofs.Ytjnbjcieepooaac
