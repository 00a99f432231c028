/- TreePlays: walked. Conditions: none. -/
import Derived.Test.YtjnbjcieepooaacRG5
import Derived.Test.YtjnbjcieepooaacRG6
import Derived.Test.YtjnbjcieepooaacRG4
import Derived.Test.YtjnbjcieepooaacRG7
import Derived.Test.YtjnbjcieepooaacRG8
import Derived.Test.YtjnbjcieepooaacFlat
namespace Go.Proofs.Ytjnbjcieepooaac
open Go.RowKit
set_option linter.unusedVariables false
set_option linter.unusedSimpArgs false

set_option maxRecDepth 8000 in
set_option maxHeartbeats 8000000 in
theorem rreceive_calls (T : Tr) (B : RB) (x : Int) (m : Msg) (hX : chkF m = true) (hok : TOk T (2 * T.n + 2)) (hst : AllP StB T) (hm : m.v.ok) (w : World) (hT : RefW w B T) (U : Tr) (hU : receiveF x m T = U) :
    Calls Try.prog 25 #[.pointer (some ⟨B.tb, 0, none⟩), .int .i64 x, .agg m.cells] w (RPost w B T.n U) := by
  obtain ⟨mk, ⟨vr, vc, vb, vp⟩, ch, ak, pr, ag, le, fo, ro, a0, a1, a2, a3⟩ := m
  have hb0 := (Below.refl w.heap.size w).alloc (Nat.le_refl _) (.cells #[.int .i64 mk, .int .u64 vr, .int .u64 vc, .int .u64 vb, .int .i64 vp, .bool ch, .bool ak, .bool pr, .bool ag, .bool le, .bool fo, .int .i64 ro, .int .i64 a0, .int .i64 a1, .int .i64 a2, .int .i64 a3] 41)
  by_cases hin : 0 ≤ x ∧ x < (T.n : Int) ∧ (T.at_ x.toNat).p.up = true
  · obtain ⟨h0, h1, hup⟩ := hin
    obtain ⟨i, rfl⟩ : ∃ i : Nat, x = (i : Int) := ⟨x.toNat, by omega⟩
    have hi : i < T.n := by omega
    rw [Int.toNat_natCast] at hup
    by_cases k2 : mk = 2
    · exact rreceive_a T B i ⟨mk, ⟨vr, vc, vb, vp⟩, ch, ak, pr, ag, le, fo, ro, a0, a1, a2, a3⟩ hi hup hX k2 hok hst hm w hT U hU
    by_cases k1 : mk = 1 ∧ ¬ ro = 3
    · exact rreceive_b T B i ⟨mk, ⟨vr, vc, vb, vp⟩, ch, ak, pr, ag, le, fo, ro, a0, a1, a2, a3⟩ hi hup hX k1.1 k1.2 hok hst hm w hT U hU
    · exact rreceive_c T B i ⟨mk, ⟨vr, vc, vb, vp⟩, ch, ak, pr, ag, le, fo, ro, a0, a1, a2, a3⟩ hi hup hX k2 k1 hok hst hm w hT U hU
  have hno : ¬ (0 ≤ x ∧ x < (T.n : Int) ∧ (T.at_ x.toNat).p.up = true ∧ chkF ⟨mk, ⟨vr, vc, vb, vp⟩, ch, ak, pr, ag, le, fo, ro, a0, a1, a2, a3⟩ = true) := fun h => hin ⟨h.1, h.2.1, h.2.2.1⟩
  have HE : Hid (T = U) := by rw [← hU]; exact Lib.hid (receive_no hno).symm
  have HT := Lib.hid (hT.below hb0)
  have HS := Lib.hid (RStep.below B T.n hb0)
  have qt0 := (hT.below hb0).own
  by_cases h0 : x < 0
  · clear hU hok hT hno hin hst hm hX
    go_enter Try.func25, Try.ntmps25
    go_wp2
    refine bodyPost_ret (results_none rfl _ _ _) rfl ?_
    exact ⟨B, rfl, by rw [← HE.out]; exact HT.out, HS.out⟩
  by_cases h1 : x < (T.n : Int)
  rotate_left
  · clear hU hok hT hno hin hst hm hX
    go_enter Try.func25, Try.ntmps25
    go_upto_region 1 with (fail)
    change Code.wp _ _ _ _ (w.alloc (.cells #[.int .i64 mk, .int .u64 vr, .int .u64 vc, .int .u64 vb, .int .i64 vp, .bool ch, .bool ak, .bool pr, .bool ag, .bool le, .bool fo, .int .i64 ro, .int .i64 a0, .int .i64 a1, .int .i64 a2, .int .i64 a3] 41))
    generalize w.alloc (.cells #[.int .i64 mk, .int .u64 vr, .int .u64 vc, .int .u64 vb, .int .i64 vp, .bool ch, .bool ak, .bool pr, .bool ag, .bool le, .bool fo, .int .i64 ro, .int .i64 a0, .int .i64 a1, .int .i64 a2, .int .i64 a3] 41) = W0 at HT HS qt0 ⊢
    go_wp2
    refine bodyPost_ret (results_none rfl _ _ _) rfl ?_
    exact ⟨B, rfl, by rw [← HE.out]; exact HT.out, HS.out⟩
  obtain ⟨i, rfl⟩ : ∃ i : Nat, x = (i : Int) := ⟨x.toNat, by omega⟩
  have hi : i < T.n := by omega
  have hn0 : 0 < T.n := by omega
  have hup : (T.at_ i).p.up = false := by
    cases hu : (T.at_ i).p.up with
    | false => rfl
    | true => exact absurd ⟨by omega, h1, by rw [Int.toNat_natCast]; exact hu⟩ hin
  have qt := HT.out.ownp hn0
  have r3 : World.cell? _ ⟨B.b 3, i, none⟩ = some (.bool (T.at_ i).p.up) := HT.out.get hi (.inl (by omega)) rfl
  rw [hup] at r3
  clear qt0 hU hok hT hno hin hst hm hX hup hi hn0
  go_enter Try.func25, Try.ntmps25
  go_upto_region 1 with (fail)
  change Code.wp _ _ _ _ (w.alloc (.cells #[.int .i64 mk, .int .u64 vr, .int .u64 vc, .int .u64 vb, .int .i64 vp, .bool ch, .bool ak, .bool pr, .bool ag, .bool le, .bool fo, .int .i64 ro, .int .i64 a0, .int .i64 a1, .int .i64 a2, .int .i64 a3] 41))
  generalize w.alloc (.cells #[.int .i64 mk, .int .u64 vr, .int .u64 vc, .int .u64 vb, .int .i64 vp, .bool ch, .bool ak, .bool pr, .bool ag, .bool le, .bool fo, .int .i64 ro, .int .i64 a0, .int .i64 a1, .int .i64 a2, .int .i64 a3] 41) = W0 at HT HS qt r3 ⊢
  go_wp2
  refine bodyPost_ret (results_none rfl _ _ _) rfl ?_
  exact ⟨B, rfl, by rw [← HE.out]; exact HT.out, HS.out⟩
/-- Acts, one behind the other; each time what is told and forgotten is taken. -/
def runP (f : Nat → ActM) : Nat → Tr → Tr
  | 0, T => T
  | k + 1, T => flushesF (outsF (doF (f k) (runP f k T)))
structure RunP (n : Nat) (T : Tr) : Prop where
  ok : TOk T 100
  st : AllP StB T
  n : T.n = n
theorem st_do {T : Tr} (h : AllP StB T) (a : ActM) (hm : a.m.v.ok) : AllP StB (doF a T) := by
  unfold doF
  split
  · exact allP_tick clo_st h
  · split
    · exact allP_link clo_st _ _ h
    · split
      · exact allP_link clo_st _ _ h
      · split
        · exact allP_receive clo_st _ _ hm h
        · exact h
theorem TOk.clean {U : Tr} (h : TOk U 0) : TOk (flushesF (outsF U)) 100 :=
  ⟨h.n, by show (U.flush.map _).length = U.n; rw [List.length_map]; exact h.fl, h.rp, h.hello, h.ps, by show 0 + 100 ≤ 1000000; omega⟩
theorem RunP.next {n : Nat} {T : Tr} (h : RunP n T) (a : ActM) (hm : a.m.v.ok) : TOk (doF a T) 0 ∧ AllP StB (doF a T) ∧ (doF a T).n = n ∧ RunP n (flushesF (outsF (doF a T))) := by
  have h1 : TOk (doF a T) 0 := (h.ok.mono (k := 34 + 0) (by omega)).do_ a hm
  have h2 := st_do h.st a hm
  have h3 := (do_n a T).trans h.n
  exact ⟨h1, h2, h3, h1.clean, h2, h3⟩
theorem RunP.run {n : Nat} {T : Tr} (h : RunP n T) (f : Nat → ActM) (k : Nat) (hf : ∀ i, i < k → (f i).m.v.ok) : RunP n (runP f k T) := by
  induction k with
  | zero => exact h
  | succ k ih => exact ((ih fun i hi => hf i (by omega)).next (f k) (hf k (by omega))).2.2.2
theorem RunP.new (id : Int) (f : Nat → TP) (n : Nat) (hn : n ≤ 10) (hc : ∀ i, i < n → 0 ≤ (f i).p.cost ∧ (f i).p.cost ≤ 18446744073709551615) : RunP n (newN id f n) :=
  ⟨TOk.new id f n 100 (by omega) hc (by omega), fun i hi => by
    have hi' : i < n := by have : (newN id f n).n = n := preT_n id f n; omega
    have : (newN id f n).at_ i = newP (f i) := preT_at id f n i hi'
    rw [this]
    exact ⟨by show (0 : Int) ≤ 0; omega, by show (0 : Int) ≤ 2; omega⟩, preT_n id f n⟩
theorem pw_new {base tb : Nat} {wr w3 w4 : World} {B : RB} {N : Tr} {vi vc : Value} {e e2 : TypeId} {b1 s1 n1 b2 s2 n2 : Nat} {x1 x2 : List Value} (hT : TAt w3 tb N (fun k => k < wr.heap.size)) (hb : Below w3.heap.size w3 w4) (hR : RefW w4 B N) (hi : wr.ownsRow b1 e s1 vi n1 x1) (hc : wr.ownsRow b2 e2 s2 vc n2 x2)
    (h1 : base ≤ b1) (h2 : base ≤ b2) (h3 : base ≤ wr.heap.size) (h4 : wr.heap.size ≤ w3.heap.size) (ho : ∀ k, ROwn B N.n k → InRow vi k ∨ InRow vc k ∨ w3.heap.size ≤ k) : PW base w4 tb B N N := by
  obtain ⟨TB, e1, hTW, hz, hz2⟩ := hT
  refine ⟨⟨TB, e1, hTW.below hb, fun k hk hzk => ?_, fun k hk => ?_⟩, hR, fun k hk => ?_, Nat.le_trans (Nat.le_trans h3 h4) hb.size⟩
  · have hlt := hTW.own_lt hk
    have hge := hz k hk
    rcases hzk with g | g
    · exact hge (by omega)
    · rcases ho k g with g | g | g
      · exact hge (own_ge hi g).2
      · exact hge (own_ge hc g).2
      · omega
  · rcases hk with hk | hk
    · exact Nat.lt_of_lt_of_le hk (Nat.le_trans (Nat.le_trans h3 h4) hb.size)
    · exact hR.own_lt hk
  · rcases ho k hk with g | g | g
    · exact Nat.le_trans h1 (own_ge hi g).1
    · exact Nat.le_trans h2 (own_ge hc g).1
    · exact Nat.le_trans (Nat.le_trans h3 h4) g
theorem head_plays (w : World) (id : Int) (al : Option Addr) (nl cl : Nat) (aa : Option Addr) (na ca : Nat) (h : 10 < nl ∨ 150 < na) (hn : nl ≤ 9223372036854775807) (hn2 : na ≤ 9223372036854775807) : Calls Try.prog 5 #[.int .u64 id, .slice al nl cl, .slice aa na ca] w fun r w' => r = .returned (.bool true) ∧ Below w.heap.size w w' := by
  by_cases h1 : (10 : Int) < (nl : Int)
  · go_enter Try.func5, Try.ntmps5
    go_wp2_with (go_at_call 12; (with_reducible refine (grows_calls _).mono ?_); rintro r w1 ⟨rfl, hb1⟩)
    go_ret
    exact ⟨rfl, hb1⟩
  · have h2 : (150 : Int) < (na : Int) := by omega
    go_enter Try.func5, Try.ntmps5
    go_wp2_with (go_at_call 12; (with_reducible refine (grows_calls _).mono ?_); rintro r w1 ⟨rfl, hb1⟩)
    go_ret
    exact ⟨rfl, hb1⟩
theorem AJ.reg {S : ASpec} {l : Array Bool} {f : Nat → Option Value} {v : Nat → Value} {b : Nat → Nat} {w : World} (h : AJ S l f v b w) {c : Ch} (hm : c ∈ S.ch) (hd : dn l c.mo = false) : f c.rg = none := by
  have := h.sg c hm
  rw [this, if_neg (fun g => by have := (h.so c hm g).1; rw [hd] at this; cases this)]
section
variable {o : Oper} {a : Act} {w : World} {K : Act → World → Prop} {Q : Exit → Act → World → Prop}
theorem wp_as (x : Operand) (h : o.op = .assign x) (hk : K (a.put o.dst (a.eval x)) w) : o.wp Try.prog a w K Q := by
  unfold Oper.wp
  rw [show (execOp a.eval o).run Try.prog w = .ok (.value (a.eval x)) w from by unfold execOp; simp only [h]; rfl]
  exact hk
set_option maxRecDepth 100000 in
theorem wp_ld (t : TypeId) (ht : t = 3 ∨ t = 25 ∨ t = 4) (x : Operand) (b o' : Nat) (v : Value) (h : o.op = .load t x) (hx : a.eval x = .pointer (some ⟨b, o', none⟩)) (hc : w.cell? ⟨b, o', none⟩ = some v) (hk : K (a.put o.dst v) w) : o.wp Try.prog a w K Q := by
  unfold Oper.wp execOp
  simp only [h, hx]
  rcases ht with rfl | rfl | rfl
  all_goals
    go_simp
    exact hk
set_option maxRecDepth 100000 in
theorem wp_faP (x : Operand) (b k k' : Nat) (hk : k = 0 ∧ k' = 0 ∨ k = 1 ∧ k' = 8) (h : o.op = .fieldAddr 31 x k) (hx : a.eval x = .pointer (some ⟨b, 0, none⟩)) (hk' : K (a.put o.dst (.pointer (some ⟨b, k', none⟩))) w) : o.wp Try.prog a w K Q := by
  unfold Oper.wp execOp
  simp only [h, hx]
  rcases hk with ⟨rfl, rfl⟩ | ⟨rfl, rfl⟩
  all_goals
    go_simp
    exact hk'
set_option maxRecDepth 100000 in
theorem wp_faR (x : Operand) (b k : Nat) (hk : k = 0 ∨ k = 1) (h : o.op = .fieldAddr 29 x k) (hx : a.eval x = .pointer (some ⟨b, 0, none⟩)) (hk' : K (a.put o.dst (.pointer (some ⟨b, k, none⟩))) w) : o.wp Try.prog a w K Q := by
  unfold Oper.wp execOp
  simp only [h, hx]
  rcases hk with rfl | rfl
  all_goals
    go_simp
    exact hk'
set_option maxRecDepth 100000 in
theorem wp_bs (t e : TypeId) (x : Operand) (v : Value) (ht : t = 37 ∧ e = 3 ∧ (∃ n, v = .int .i64 n) ∨ t = 47 ∧ e = 25 ∧ (∃ n, v = .int .u64 n) ∨ t = 48 ∧ e = 4 ∧ (∃ y, v = .bool y)) (h : o.op = .buildSlice t 1 #[(0, x)]) (hx : a.eval x = v) (hk' : K (a.put o.dst (.slice (some ⟨w.heap.size, 0, none⟩) 1 1)) (w.alloc (.cells #[v] e))) : o.wp Try.prog a w K Q := by
  unfold Oper.wp execOp
  simp only [h]
  generalize a.eval = ev at hx ⊢
  rcases ht with ⟨rfl, rfl, n, rfl⟩ | ⟨rfl, rfl, n, rfl⟩ | ⟨rfl, rfl, n, rfl⟩
  all_goals
    go_simp
    exact hk'
end
theorem infi : (Try.prog.info? 3).map (fun i => (i.zero, i.size, i.bytes)) = some (some (.int .i64 0), 1, 8) := by kernel_rfl
theorem infu : (Try.prog.info? 25).map (fun i => (i.zero, i.size, i.bytes)) = some (some (.int .u64 0), 1, 8) := by kernel_rfl
def ch1 : Ch := ⟨0, 32, 7, 4, 36, 5, 37, 17⟩
def ch2 : Ch := ⟨6, 38, 8, 10, 42, 11, 43, 18⟩
def ch3 : Ch := ⟨12, 44, 9, 15, 47, 16, 48, 19⟩
def chA : List Ch := [ch1, ch2, ch3]
def puA : List (Nat × Nat) := [(1, 33), (2, 34), (3, 35), (7, 39), (8, 40), (9, 41), (13, 45), (14, 46)]
def pvA (b : Nat) (q : TP) : Nat → Value
  | 3 => .int .i64 q.p.id
  | 8 => .pointer (some ⟨b, 1, none⟩)
  | 9 => .int .u64 q.p.cost
  | 13 => .pointer (some ⟨b, 8, none⟩)
  | 14 => .bool q.edge
  | _ => .pointer (some ⟨b, 0, none⟩)
def tyA (c : Ch) : TypeId := if c.mo = 0 then 3 else if c.mo = 6 then 25 else 4
def elA (q : TP) (c : Ch) : Value := if c.mo = 0 then .int .i64 q.p.id else if c.mo = 6 then .int .u64 q.p.cost else .bool q.edge
def VA (x y z : Value) (c : Ch) : Value := if c.mo = 0 then x else if c.mo = 6 then y else z
def xsA (f : Nat → TP) (k : Nat) (c : Ch) : List Value := if c.mo = 0 then rowL f 1 k else if c.mo = 6 then rowL f 2 k else rowL f 5 k
set_option maxRecDepth 20000 in
theorem aok : AOk 20 100 puA chA := ⟨by decide, by decide, by decide, by decide, by decide, by decide⟩
theorem out11 : ∀ x ∈ puA ++ chA.flatMap Ch.sls, x.2 ≠ 11 := by decide
theorem ty_ne : (∀ c ∈ chA, ∀ d ∈ chA, c.mo ≠ d.mo → tyA c ≠ tyA d) ∧ ∀ c ∈ chA, tyA c ≠ 31 := by decide
theorem ch_eq : ∀ c ∈ chA, ∀ d ∈ chA, c.mo = d.mo → c = d := fun c hc d hd h => by
  simp only [chA, List.mem_cons, List.not_mem_nil, or_false] at hc hd
  rcases hc with rfl | rfl | rfl <;> rcases hd with rfl | rfl | rfl <;> first | rfl | exact absurd h (by decide)
theorem rowL_succ (f : Nat → TP) (g k : Nat) : rowL f g (k + 1) = rowL f g k ++ (pcell (newP (f k)) g).toList := by
  unfold rowL; rw [List.range_succ, List.flatMap_append]; simp
set_option maxRecDepth 20000 in
set_option maxHeartbeats 40000000 in
theorem treePlays_any (w : World) (id : Int) (al : Option Addr) (nl cl : Nat) (aa : Option Addr) (na ca : Nat) (hn : nl ≤ 9223372036854775807) (hn2 : na ≤ 9223372036854775807) (hcl : nl ≤ cl) (f : Nat → TP) (hf : ∀ i, i < nl → 0 ≤ (f i).p.cost ∧ (f i).p.cost ≤ 18446744073709551615) (hP : PortsIn w al nl f)
    (g : Nat → ActM) (hg : ∀ i, i < na → (g i).m.v.ok) (hA : ActsAt w aa na g) : Calls Try.prog 5 #[.int .u64 id, .slice al nl cl, .slice aa na ca] w fun r w' => r = .returned (.bool true) ∧ Below w.heap.size w w' := by
  by_cases hout : 10 < nl ∨ 150 < na
  · exact head_plays w id al nl cl aa na ca hout hn hn2
  have h1 : ¬ (10 : Int) < (nl : Int) := fun h => hout (.inl (by omega))
  have h2 : ¬ (150 : Int) < (na : Int) := fun h => hout (.inr (by omega))
  have hnl : nl ≤ 10 := by omega
  have hna : na ≤ 150 := by omega
  clear hout
  have r0 := RunP.new id f nl hnl hf
  have HRUN : Hid (∀ k, k ≤ na → RunP nl (runP g k (newN id f nl))) := Lib.hid fun k hk => r0.run g k fun i hi => hg i (by omega)
  obtain ⟨N0, hN0⟩ : ∃ N0, newN id f nl = N0 := ⟨_, rfl⟩
  have HN0 := Lib.hid hN0
  rw [hN0] at HRUN
  have HC := Lib.hid hf
  have HG := Lib.hid hg
  have HACT := Lib.hid hA
  have HPRT := Lib.hid hP
  have H1a : Hid (nl ≤ 4611686018427387904) := Lib.hid (by omega)
  have H1b : Hid ((if nl ≤ 16 then nl else 16) = nl) := Lib.hid (if_pos (by omega))
  have HCL := Lib.hid hcl
  have HNL := Lib.hid hnl
  clear r0 hN0 hf hg hA hP hcl
  go_enter Try.func5, Try.ntmps5
  go_upto_region 5 with (go_at_call 12; (with_reducible refine (grows_calls _).mono ?_); rintro r w1 ⟨rfl, hb1⟩)
  have HP1 : Hid (PortsIn w1 al nl f) := Lib.hid (HPRT.out.below hb1)
  have HB1 := Lib.hid hb1
  clear hb1
  go_wp2
  go_loopg [28, 7, 8, 9] nl (fun gh s28 s7 s8 s9 wx => ∃ k : Nat, k + gh = nl ∧ s28 = .int .i64 (k : Int) ∧ wx.ownsRow w1.heap.size 3 1 s7 k (rowL f 1 k) ∧ wx.ownsRow w1.heap.size 25 1 s8 k (rowL f 2 k) ∧ wx.ownsRow w1.heap.size 4 1 s9 k (rowL f 5 k) ∧ Below w1.heap.size w1 wx)
  case atStart => exact ⟨0, by omega, rfl, World.ownsRow_nil _ _ _ _, World.ownsRow_nil _ _ _ _, World.ownsRow_nil _ _ _ _, Below.refl _ _⟩
  case round =>
    obtain ⟨k, hkg, rfl, h7, h8, h9, hbl⟩ := hrel
    obtain ⟨a7, c7, rfl⟩ := own_slice h7
    obtain ⟨a8, c8, rfl⟩ := own_slice h8
    obtain ⟨a9, c9, rfl⟩ := own_slice h9
    cases gk with
    | succ gh => as_aux_lemma =>
      have hkM : (k : Int) < (nl : Int) := by omega
      have hkn : k < nl := by omega
      obtain ⟨pb, off, rfl, hTP⟩ := HP1.out (by omega)
      have hr1 := (hTP.below hbl).range hkn
      have hr2 : wr.rangeAt pb (off + k * 16) [.int .i64 (f k).p.id, .int .u64 (f k).p.cost, .bool (f k).p.up, .bool (f k).p.has, .int .u64 (f k).p.told.root, .int .u64 (f k).p.told.cost, .int .u64 (f k).p.told.bridge, .int .i64 (f k).p.told.port, .bool (f k).edge, .int .i64 (f k).role, .int .i64 (f k).state, .int .i64 (f k).age, .int .i64 (f k).left, .int .i64 (f k).wait, .int .i64 (f k).change, .bool (f k).agreed] := hr1
      clear hr1 hTP
      go_upto_region 11 with (refine wpList_load_mid rfl 31 _ rfl pb (off + k * 16) rfl _ _ hr2 Try.underlying31 rfl sz31s ?_)
      have ha := (Below.refl wr.heap.size wr).alloc (Nat.le_refl _) (.cells #[.int .i64 (f k).p.id, .int .u64 (f k).p.cost, .bool (f k).p.up, .bool (f k).p.has, .int .u64 (f k).p.told.root, .int .u64 (f k).p.told.cost, .int .u64 (f k).p.told.bridge, .int .i64 (f k).p.told.port, .bool (f k).edge, .int .i64 (f k).role, .int .i64 (f k).state, .int .i64 (f k).age, .int .i64 (f k).left, .int .i64 (f k).wait, .int .i64 (f k).change, .bool (f k).agreed] 31)
      have hq := Blk.new wr #[.int .i64 (f k).p.id, .int .u64 (f k).p.cost, .bool (f k).p.up, .bool (f k).p.has, .int .u64 (f k).p.told.root, .int .u64 (f k).p.told.cost, .int .u64 (f k).p.told.bridge, .int .i64 (f k).p.told.port, .bool (f k).edge, .int .i64 (f k).role, .int .i64 (f k).state, .int .i64 (f k).age, .int .i64 (f k).left, .int .i64 (f k).wait, .int .i64 (f k).change, .bool (f k).agreed] 31
      have h7 := own_below h7 ha
      have h8 := own_below h8 ha
      have h9 := own_below h9 ha
      have hbW2 := hbl.trans (ha.mono hbl.size)
      change Code.wp _ _ _ _ (wr.alloc (.cells #[.int .i64 (f k).p.id, .int .u64 (f k).p.cost, .bool (f k).p.up, .bool (f k).p.has, .int .u64 (f k).p.told.root, .int .u64 (f k).p.told.cost, .int .u64 (f k).p.told.bridge, .int .i64 (f k).p.told.port, .bool (f k).edge, .int .i64 (f k).role, .int .i64 (f k).state, .int .i64 (f k).age, .int .i64 (f k).left, .int .i64 (f k).wait, .int .i64 (f k).change, .bool (f k).agreed] 31))
      generalize wr.alloc (.cells #[.int .i64 (f k).p.id, .int .u64 (f k).p.cost, .bool (f k).p.up, .bool (f k).p.has, .int .u64 (f k).p.told.root, .int .u64 (f k).p.told.cost, .int .u64 (f k).p.told.bridge, .int .i64 (f k).p.told.port, .bool (f k).edge, .int .i64 (f k).role, .int .i64 (f k).state, .int .i64 (f k).age, .int .i64 (f k).left, .int .i64 (f k).wait, .int .i64 (f k).change, .bool (f k).agreed] 31) = W2 at hq h7 h8 h9 hbW2 ⊢
      clear ha hr2 hbl
      generalize wr.heap.size = b11 at hq ⊢
      have hbs : w1.heap.size ≤ W2.heap.size := hbW2.size
      generalize hA : Act.mk _ _ = A0
      have hsz : A0.tmps.size = 100 := by rw [← hA]; rfl
      have e7 : A0.eval (.tmp 7) = .slice a7 k c7 := by rw [← hA]; rfl
      have e8 : A0.eval (.tmp 8) = .slice a8 k c8 := by rw [← hA]; rfl
      have e9 : A0.eval (.tmp 9) = .slice a9 k c9 := by rw [← hA]; rfl
      have e11 : A0.eval (.tmp 11) = .pointer (some ⟨b11, 0, none⟩) := by rw [← hA]; rfl
      have HA := Lib.hid hA
      clear hA
      have OK : ASpec.Ok ⟨20, w1.heap.size, k, A0, W2, b11, #[.int .i64 (f k).p.id, .int .u64 (f k).p.cost, .bool (f k).p.up, .bool (f k).p.has, .int .u64 (f k).p.told.root, .int .u64 (f k).p.told.cost, .int .u64 (f k).p.told.bridge, .int .i64 (f k).p.told.port, .bool (f k).edge, .int .i64 (f k).role, .int .i64 (f k).state, .int .i64 (f k).age, .int .i64 (f k).left, .int .i64 (f k).wait, .int .i64 (f k).change, .bool (f k).agreed], 31, puA, pvA b11 (f k), chA, tyA, elA (f k), VA (.slice a7 k c7) (.slice a8 k c8) (.slice a9 k c9), xsA f k⟩ := ⟨⟨100, aok, hsz⟩, ty_ne.1, ty_ne.2, ch_eq⟩
      refine wp_region_inv (AInv ⟨20, w1.heap.size, k, A0, W2, b11, #[.int .i64 (f k).p.id, .int .u64 (f k).p.cost, .bool (f k).p.up, .bool (f k).p.has, .int .u64 (f k).p.told.root, .int .u64 (f k).p.told.cost, .int .u64 (f k).p.told.bridge, .int .i64 (f k).p.told.port, .bool (f k).edge, .int .i64 (f k).role, .int .i64 (f k).state, .int .i64 (f k).age, .int .i64 (f k).left, .int .i64 (f k).wait, .int .i64 (f k).change, .bool (f k).agreed], 31, puA, pvA b11 (f k), chA, tyA, elA (f k), VA (.slice a7 k c7) (.slice a8 k c8) (.slice a9 k c9), xsA f k⟩) (by kernel_rfl) ?hs (fun l a w ⟨f, v, b, _, h⟩ => h.size) (fun l a w' hJ hall => ?he) (AJ.init hq (fun c hc => ?hr) hbs)
      case hr =>
        have hc' : c ∈ chA := hc
        simp only [chA, List.mem_cons, List.not_mem_nil, or_false] at hc'
        rcases hc' with rfl | rfl | rfl
        · exact h7
        · exact h8
        · exact h9
      case hs =>
        refine StepsJ.cons' [] rfl (by kernel_rfl) (by kernel_rfl) (fun l a w hJ hd hds K hK => ?_) ?_
        · obtain ⟨F, v, b, rfl, h⟩ := hJ
          exact wp_mv (.tmp 7) rfl (hK _ _ ⟨_, v, b, by rw [ov_old (t := 7) (h.reg (c := ch1) (show ch1 ∈ chA by simp [chA]) hd), e7]; exact ov_put _ (by rw [hsz]; decide), h.move OK (c := ch1) (show ch1 ∈ chA by simp [chA])⟩)
        refine StepsJ.cons' [] rfl (by kernel_rfl) (by kernel_rfl) (fun l a w hJ hd hds K hK => ?_) ?_
        · obtain ⟨F, v, b, rfl, h⟩ := hJ
          exact wp_faP (.tmp 11) b11 0 0 (by decide) rfl (by rw [ov_old (h.old 11 out11)]; exact e11) (hK _ _ ⟨_, v, b, ov_put _ (by rw [hsz]; decide), h.pure OK (j := 1) (d := 33) (show (1, 33) ∈ puA from by decide)⟩)
        refine StepsJ.cons' [1] rfl (by kernel_rfl) (by kernel_rfl) (fun l a w hJ hd hds K hK => ?_) ?_
        · obtain ⟨F, v, b, rfl, h⟩ := hJ
          have e := ov_at (a := A0) (t := 33) (by rw [hsz]; decide) (h.pu (1, 33) (show (1, 33) ∈ puA from by decide) (hds 1 (by decide)))
          exact wp_faR (.tmp 33) b11 0 (by decide) rfl e (hK _ _ ⟨_, v, b, ov_put _ (by rw [hsz]; decide), h.pure OK (j := 2) (d := 34) (show (2, 34) ∈ puA from by decide)⟩)
        refine StepsJ.cons' [2] rfl (by kernel_rfl) (by kernel_rfl) (fun l a w hJ hd hds K hK => ?_) ?_
        · obtain ⟨F, v, b, rfl, h⟩ := hJ
          have e := ov_at (a := A0) (t := 34) (by rw [hsz]; decide) (h.pu (2, 34) (show (2, 34) ∈ puA from by decide) (hds 2 (by decide)))
          exact wp_ld 3 (by decide) (.tmp 34) b11 0 _ rfl e (by rw [h.q.cell]; rfl) (hK _ _ ⟨_, v, b, ov_put _ (by rw [hsz]; decide), h.pure OK (j := 3) (d := 35) (show (3, 35) ∈ puA from by decide)⟩)
        refine StepsJ.cons' [3] rfl (by kernel_rfl) (by kernel_rfl) (fun l a w hJ hd hds K hK => ?_) ?_
        · obtain ⟨F, v, b, rfl, h⟩ := hJ
          have e := ov_at (a := A0) (t := 35) (by rw [hsz]; decide) (h.pu (3, 35) (show (3, 35) ∈ puA from by decide) (hds 3 (by decide)))
          exact wp_bs 37 3 (.tmp 35) _ (.inl ⟨rfl, rfl, _, rfl⟩) rfl e (hK _ _ ⟨_, v, _, ov_put _ (by rw [hsz]; decide), h.build OK (c := ch1) (show ch1 ∈ chA by simp [chA])⟩)
        refine StepsJ.cons' [0, 4] rfl (by kernel_rfl) (by kernel_rfl) (fun l a w hJ hd hds K hK => ?_) ?_
        · obtain ⟨F, v, b, rfl, h⟩ := hJ
          have e1 := ov_at (a := A0) (t := 32) (by rw [hsz]; decide) (h.mv ch1 (show ch1 ∈ chA by simp [chA]) (hds 0 (by decide)))
          have e2 := ov_at (a := A0) (t := 36) (by rw [hsz]; decide) (h.bl ch1 (show ch1 ∈ chA by simp [chA]) (hds 4 (by decide)))
          have hb := h.bk ch1 (show ch1 ∈ chA by simp [chA]) (hds 4 (by decide)) hd
          have hr := h.r0 ch1 (show ch1 ∈ chA by simp [chA]) hd
          exact wp_append_any (.tmp 32) (.tmp 36) 37 rfl w1.heap.size 3 _ 1 8 Try.underlying37 infi rfl (by decide) _ k _ e1 hr _ 1 1 [elA (f k) ch1] e2 rfl (NewsAt.blk hb 1) (fun u hu => by rw [List.mem_singleton.1 hu]; rfl) (by unfold maxLen; omega) (by omega) (Nat.le_trans h.bs h.fr.size) (fun v' w' hown hfr => hK _ _ ⟨_, _, b, ov_put _ (by rw [hsz]; decide), h.app OK (c := ch1) (show ch1 ∈ chA by simp [chA]) hd (show (5 : Nat) < 20 by decide) hown hfr⟩)
        refine StepsJ.cons' [] rfl (by kernel_rfl) (by kernel_rfl) (fun l a w hJ hd hds K hK => ?_) ?_
        · obtain ⟨F, v, b, rfl, h⟩ := hJ
          exact wp_mv (.tmp 8) rfl (hK _ _ ⟨_, v, b, by rw [ov_old (t := 8) (h.reg (c := ch2) (show ch2 ∈ chA by simp [chA]) hd), e8]; exact ov_put _ (by rw [hsz]; decide), h.move OK (c := ch2) (show ch2 ∈ chA by simp [chA])⟩)
        refine StepsJ.cons' [] rfl (by kernel_rfl) (by kernel_rfl) (fun l a w hJ hd hds K hK => ?_) ?_
        · obtain ⟨F, v, b, rfl, h⟩ := hJ
          exact wp_faP (.tmp 11) b11 0 0 (by decide) rfl (by rw [ov_old (h.old 11 out11)]; exact e11) (hK _ _ ⟨_, v, b, ov_put _ (by rw [hsz]; decide), h.pure OK (j := 7) (d := 39) (show (7, 39) ∈ puA from by decide)⟩)
        refine StepsJ.cons' [7] rfl (by kernel_rfl) (by kernel_rfl) (fun l a w hJ hd hds K hK => ?_) ?_
        · obtain ⟨F, v, b, rfl, h⟩ := hJ
          have e := ov_at (a := A0) (t := 39) (by rw [hsz]; decide) (h.pu (7, 39) (show (7, 39) ∈ puA from by decide) (hds 7 (by decide)))
          exact wp_faR (.tmp 39) b11 1 (by decide) rfl e (hK _ _ ⟨_, v, b, ov_put _ (by rw [hsz]; decide), h.pure OK (j := 8) (d := 40) (show (8, 40) ∈ puA from by decide)⟩)
        refine StepsJ.cons' [8] rfl (by kernel_rfl) (by kernel_rfl) (fun l a w hJ hd hds K hK => ?_) ?_
        · obtain ⟨F, v, b, rfl, h⟩ := hJ
          have e := ov_at (a := A0) (t := 40) (by rw [hsz]; decide) (h.pu (8, 40) (show (8, 40) ∈ puA from by decide) (hds 8 (by decide)))
          exact wp_ld 25 (by decide) (.tmp 40) b11 1 _ rfl e (by rw [h.q.cell]; rfl) (hK _ _ ⟨_, v, b, ov_put _ (by rw [hsz]; decide), h.pure OK (j := 9) (d := 41) (show (9, 41) ∈ puA from by decide)⟩)
        refine StepsJ.cons' [9] rfl (by kernel_rfl) (by kernel_rfl) (fun l a w hJ hd hds K hK => ?_) ?_
        · obtain ⟨F, v, b, rfl, h⟩ := hJ
          have e := ov_at (a := A0) (t := 41) (by rw [hsz]; decide) (h.pu (9, 41) (show (9, 41) ∈ puA from by decide) (hds 9 (by decide)))
          exact wp_bs 47 25 (.tmp 41) _ (.inr (.inl ⟨rfl, rfl, _, rfl⟩)) rfl e (hK _ _ ⟨_, v, _, ov_put _ (by rw [hsz]; decide), h.build OK (c := ch2) (show ch2 ∈ chA by simp [chA])⟩)
        refine StepsJ.cons' [6, 10] rfl (by kernel_rfl) (by kernel_rfl) (fun l a w hJ hd hds K hK => ?_) ?_
        · obtain ⟨F, v, b, rfl, h⟩ := hJ
          have e1 := ov_at (a := A0) (t := 38) (by rw [hsz]; decide) (h.mv ch2 (show ch2 ∈ chA by simp [chA]) (hds 6 (by decide)))
          have e2 := ov_at (a := A0) (t := 42) (by rw [hsz]; decide) (h.bl ch2 (show ch2 ∈ chA by simp [chA]) (hds 10 (by decide)))
          have hb := h.bk ch2 (show ch2 ∈ chA by simp [chA]) (hds 10 (by decide)) hd
          have hr := h.r0 ch2 (show ch2 ∈ chA by simp [chA]) hd
          exact wp_append_any (.tmp 38) (.tmp 42) 47 rfl w1.heap.size 25 _ 1 8 Try.underlying47 infu rfl (by decide) _ k _ e1 hr _ 1 1 [elA (f k) ch2] e2 rfl (NewsAt.blk hb 1) (fun u hu => by rw [List.mem_singleton.1 hu]; rfl) (by unfold maxLen; omega) (by omega) (Nat.le_trans h.bs h.fr.size) (fun v' w' hown hfr => hK _ _ ⟨_, _, b, ov_put _ (by rw [hsz]; decide), h.app OK (c := ch2) (show ch2 ∈ chA by simp [chA]) hd (show (11 : Nat) < 20 by decide) hown hfr⟩)
        refine StepsJ.cons' [] rfl (by kernel_rfl) (by kernel_rfl) (fun l a w hJ hd hds K hK => ?_) ?_
        · obtain ⟨F, v, b, rfl, h⟩ := hJ
          exact wp_mv (.tmp 9) rfl (hK _ _ ⟨_, v, b, by rw [ov_old (t := 9) (h.reg (c := ch3) (show ch3 ∈ chA by simp [chA]) hd), e9]; exact ov_put _ (by rw [hsz]; decide), h.move OK (c := ch3) (show ch3 ∈ chA by simp [chA])⟩)
        refine StepsJ.cons' [] rfl (by kernel_rfl) (by kernel_rfl) (fun l a w hJ hd hds K hK => ?_) ?_
        · obtain ⟨F, v, b, rfl, h⟩ := hJ
          exact wp_faP (.tmp 11) b11 1 8 (by decide) rfl (by rw [ov_old (h.old 11 out11)]; exact e11) (hK _ _ ⟨_, v, b, ov_put _ (by rw [hsz]; decide), h.pure OK (j := 13) (d := 45) (show (13, 45) ∈ puA from by decide)⟩)
        refine StepsJ.cons' [13] rfl (by kernel_rfl) (by kernel_rfl) (fun l a w hJ hd hds K hK => ?_) ?_
        · obtain ⟨F, v, b, rfl, h⟩ := hJ
          have e := ov_at (a := A0) (t := 45) (by rw [hsz]; decide) (h.pu (13, 45) (show (13, 45) ∈ puA from by decide) (hds 13 (by decide)))
          exact wp_ld 4 (by decide) (.tmp 45) b11 8 _ rfl e (by rw [h.q.cell]; rfl) (hK _ _ ⟨_, v, b, ov_put _ (by rw [hsz]; decide), h.pure OK (j := 14) (d := 46) (show (14, 46) ∈ puA from by decide)⟩)
        refine StepsJ.cons' [14] rfl (by kernel_rfl) (by kernel_rfl) (fun l a w hJ hd hds K hK => ?_) ?_
        · obtain ⟨F, v, b, rfl, h⟩ := hJ
          have e := ov_at (a := A0) (t := 46) (by rw [hsz]; decide) (h.pu (14, 46) (show (14, 46) ∈ puA from by decide) (hds 14 (by decide)))
          exact wp_bs 48 4 (.tmp 46) _ (.inr (.inr ⟨rfl, rfl, _, rfl⟩)) rfl e (hK _ _ ⟨_, v, _, ov_put _ (by rw [hsz]; decide), h.build OK (c := ch3) (show ch3 ∈ chA by simp [chA])⟩)
        refine StepsJ.cons' [12, 15] rfl (by kernel_rfl) (by kernel_rfl) (fun l a w hJ hd hds K hK => ?_) ?_
        · obtain ⟨F, v, b, rfl, h⟩ := hJ
          have e1 := ov_at (a := A0) (t := 44) (by rw [hsz]; decide) (h.mv ch3 (show ch3 ∈ chA by simp [chA]) (hds 12 (by decide)))
          have e2 := ov_at (a := A0) (t := 47) (by rw [hsz]; decide) (h.bl ch3 (show ch3 ∈ chA by simp [chA]) (hds 15 (by decide)))
          have hb := h.bk ch3 (show ch3 ∈ chA by simp [chA]) (hds 15 (by decide)) hd
          have hr := h.r0 ch3 (show ch3 ∈ chA by simp [chA]) hd
          exact wp_append_any (.tmp 44) (.tmp 47) 48 rfl w1.heap.size 4 _ 1 1 Try.underlying48 infb rfl (by decide) _ k _ e1 hr _ 1 1 [elA (f k) ch3] e2 rfl (NewsAt.blk hb 1) (fun u hu => by rw [List.mem_singleton.1 hu]; rfl) (by unfold maxLen; omega) (by omega) (Nat.le_trans h.bs h.fr.size) (fun v' w' hown hfr => hK _ _ ⟨_, _, b, ov_put _ (by rw [hsz]; decide), h.app OK (c := ch3) (show ch3 ∈ chA by simp [chA]) hd (show (16 : Nat) < 20 by decide) hown hfr⟩)
        refine StepsJ.cons' [0, 5] rfl (by kernel_rfl) (by kernel_rfl) (fun l a w hJ hd hds K hK => ?_) ?_
        · obtain ⟨F, v, b, rfl, h⟩ := hJ
          have e := ov_at (a := A0) (t := 37) (by rw [hsz]; decide) (h.r1 ch1 (show ch1 ∈ chA by simp [chA]) (hds 5 (by decide))).1
          exact wp_as (.tmp 37) rfl (hK _ _ ⟨_, v, b, by rw [e]; exact ov_put _ (by rw [hsz]; decide), h.asg OK (c := ch1) (show ch1 ∈ chA by simp [chA]) (hds 0 (by decide)) (hds 5 (by decide)) (show (17 : Nat) < 20 by decide)⟩)
        refine StepsJ.cons' [6, 11] rfl (by kernel_rfl) (by kernel_rfl) (fun l a w hJ hd hds K hK => ?_) ?_
        · obtain ⟨F, v, b, rfl, h⟩ := hJ
          have e := ov_at (a := A0) (t := 43) (by rw [hsz]; decide) (h.r1 ch2 (show ch2 ∈ chA by simp [chA]) (hds 11 (by decide))).1
          exact wp_as (.tmp 43) rfl (hK _ _ ⟨_, v, b, by rw [e]; exact ov_put _ (by rw [hsz]; decide), h.asg OK (c := ch2) (show ch2 ∈ chA by simp [chA]) (hds 6 (by decide)) (hds 11 (by decide)) (show (18 : Nat) < 20 by decide)⟩)
        refine StepsJ.cons' [12, 16] rfl (by kernel_rfl) (by kernel_rfl) (fun l a w hJ hd hds K hK => ?_) ?_
        · obtain ⟨F, v, b, rfl, h⟩ := hJ
          have e := ov_at (a := A0) (t := 48) (by rw [hsz]; decide) (h.r1 ch3 (show ch3 ∈ chA by simp [chA]) (hds 16 (by decide))).1
          exact wp_as (.tmp 48) rfl (hK _ _ ⟨_, v, b, by rw [e]; exact ov_put _ (by rw [hsz]; decide), h.asg OK (c := ch3) (show ch3 ∈ chA by simp [chA]) (hds 12 (by decide)) (hds 16 (by decide)) (show (19 : Nat) < 20 by decide)⟩)
        exact StepsJ.nil
      case he =>
        obtain ⟨F, v, b, rfl, h⟩ := hJ
        have hin : ∀ x ∈ puA ++ chA.flatMap Ch.sls, x.1 < 20 := by decide
        have hfr := h.frame OK (fun x hx => hall _ (hin x hx))
        have g1 := (h.r1 ch1 (show ch1 ∈ chA by simp [chA]) (hall 5 (show (5 : Nat) < 20 by decide))).2
        have g2 := (h.r1 ch2 (show ch2 ∈ chA by simp [chA]) (hall 11 (show (11 : Nat) < 20 by decide))).2
        have g3 := (h.r1 ch3 (show ch3 ∈ chA by simp [chA]) (hall 16 (show (16 : Nat) < 20 by decide))).2
        have hfr' : ov A0 F = List.foldr (fun x a => Act.put a (some x.1) x.2) A0 [(33, Value.pointer (some ⟨b11, 0, none⟩)), (34, Value.pointer (some ⟨b11, 0, none⟩)), (35, Value.int .i64 (f k).p.id), (39, Value.pointer (some ⟨b11, 0, none⟩)), (40, Value.pointer (some ⟨b11, 1, none⟩)), (41, Value.int .u64 (f k).p.cost), (45, Value.pointer (some ⟨b11, 8, none⟩)), (46, Value.bool (f k).edge), (32, Value.slice a7 k c7), (36, Value.slice (some ⟨b 4, 0, none⟩) 1 1), (37, v 5), (7, v 5), (38, Value.slice a8 k c8), (42, Value.slice (some ⟨b 10, 0, none⟩) 1 1), (43, v 11), (8, v 11), (44, Value.slice a9 k c9), (47, Value.slice (some ⟨b 15, 0, none⟩) 1 1), (48, v 16), (9, v 16)] := hfr
        rw [hfr', ← HA.out]
        have hbe : Below w1.heap.size w1 w' := hbW2.trans (h.fr.mono (Nat.le_refl _))
        have G1 := Lib.hid g1
        have G2 := Lib.hid g2
        have G3 := Lib.hid g3
        have HBE := Lib.hid hbe
        clear hfr hfr' h hall e7 e8 e9 e11 hsz OK HA g1 g2 g3 hbe hin
        simp only [List.foldr, Act.put, List.setIfInBounds_toArray, List.set_cons_zero, List.set_cons_succ]
        go_wp2
        go_roundg gh
        case measure => omega
        case rel => exact ⟨k + 1, by omega, by go_num, by rw [rowL_succ]; exact G1.out, by rw [rowL_succ]; exact G2.out, by rw [rowL_succ]; exact G3.out, HBE.out⟩
    | zero =>
      have hkM : ¬ ((k : Int) < (nl : Int)) := by omega
      obtain rfl : k = nl := by omega
      have H7 := Lib.hid h7
      have H8 := Lib.hid h8
      have H9 := Lib.hid h9
      have HPk : Hid (0 < k → ∃ b off, al = some ⟨b, off, none⟩ ∧ TPorts wr b off k f) := Lib.hid (HP1.out.below hbl)
      have HBk := Lib.hid (HB1.out.trans (hbl.mono HB1.out.size))
      have HLE := Lib.hid hbl.size
      clear h7 h8 h9 hbl
      go_upto_region 14 with (first
        | (go_at_call 14; (with_reducible refine (new_calls id f al k cl H1a.out HCL.out k H1b.out HC.out _ HPk.out N0 HN0.out).mono ?_); intro e w3 hnew; obtain ⟨tb, rfl, hT3, hb3⟩ := hnew.at_; clear hnew; have HT3 := Lib.hid hT3; have HB3 := Lib.hid hb3; clear hT3 hb3)
        | (go_at_call 20; (with_reducible refine (rnew_calls id f k HNL.out HC.out a7 a8 a9 c7 c8 c9 w1.heap.size _ (Nat.le_trans HLE.out HB3.out.size) (own_below H7.out HB3.out) (own_below H8.out HB3.out) (own_below H9.out HB3.out) N0 HN0.out).mono ?_); rintro e w4 ⟨⟨rb, b4, a4, c4, ov4⟩, rfl, hR4, hb4, ho4⟩))
      have hp := pw_new (base := w.heap.size) HT3.out hb4 hR4 H7.out H8.out HB1.out.size HB1.out.size HBk.out.size HB3.out.size ho4
      have HP := Lib.hid hp
      have HB4 := Lib.hid ((HBk.out.trans (HB3.out.mono HBk.out.size)).trans (hb4.mono (Nat.le_trans HBk.out.size HB3.out.size)))
      clear hp hb4 hR4 ho4 HT3 HB3 H7 H8 H9 HPk HBk HLE
      go_wp2
      go_loopg [60] na (fun gh s60 wx => ∃ (j : Nat) (b : Nat → Nat) (a : Nat → Option Addr) (c : Nat → Nat) (ov : Value), j + gh = na ∧ s60 = .int .i64 (j : Int) ∧ PW w.heap.size wx tb ⟨rb, b, a, c, ov⟩ (runP g j N0) (runP g j N0) ∧ Below w.heap.size w wx)
      case atStart => exact ⟨0, b4, a4, c4, ov4, by omega, rfl, HP.out, HB4.out⟩
      case round =>
        clear b4 a4 c4 ov4 HP HB4
        obtain ⟨k, b, a, c, ov, hkg, rfl, hp, hbl⟩ := hrel
        have HPk := Lib.hid hp
        clear hp
        cases gk with
        | zero =>
          have hkM : ¬ ((k : Int) < (na : Int)) := by omega
          go_wp2
          go_ret
          exact ⟨rfl, hbl⟩
        | succ gh => as_aux_lemma =>
          have hkM : (k : Int) < (na : Int) := by omega
          have hkn : k < na := by omega
          obtain ⟨pb, off, rfl, hlt, hrg⟩ := HACT.out (by omega)
          have hr := range_below (hrg k hkn) hbl
          have HRk := HRUN.out k (by omega)
          have hm := HG.out k hkn
          obtain ⟨uo, us, un, _⟩ := HRk.next (g k) hm
          have hst : flushesF (outsF (doF (g k) (runP g k N0))) = runP g (k + 1) N0 := rfl
          generalize g k = A at hr hm hst uo us un
          obtain ⟨U, hU⟩ : ∃ U, doF A (runP g k N0) = U := ⟨_, rfl⟩
          rw [hU] at hst uo us un
          have HU := Lib.hid hU
          have HST := Lib.hid hst
          have OKU := Lib.hid uo
          have XOK := Lib.hid HRk.ok
          have XST := Lib.hid HRk.st
          have HN : Hid (U.n = (runP g k N0).n) := Lib.hid (un.trans HRk.n.symm)
          have HM := Lib.hid hm
          have N16 := Lib.hid HRk.ok.n
          generalize runP g k N0 = X at HPk HU XOK XST HN N16
          have hr' : wr.rangeAt pb (off + k * 18) [.int .i64 A.kind, .int .i64 A.port, .int .i64 A.m.kind, .int .u64 A.m.v.root, .int .u64 A.m.v.cost, .int .u64 A.m.v.bridge, .int .i64 A.m.v.port, .bool A.m.change, .bool A.m.ack, .bool A.m.proposal, .bool A.m.agreement, .bool A.m.learning, .bool A.m.forwarding, .int .i64 A.m.role, .int .i64 A.m.age, .int .i64 A.m.maxAge, .int .i64 A.m.hello, .int .i64 A.m.delay] := hr
          clear hr hrg hm hst hU HRk uo us un hlt
          go_upto_region 17 with (refine wpList_load_mid rfl 52 _ rfl pb (off + k * 18) rfl _ _ hr' Try.underlying52 rfl sz52 ?_)
          have ha := (Below.refl wr.heap.size wr).alloc (Nat.le_refl _) (.cells #[.int .i64 A.kind, .int .i64 A.port, .int .i64 A.m.kind, .int .u64 A.m.v.root, .int .u64 A.m.v.cost, .int .u64 A.m.v.bridge, .int .i64 A.m.v.port, .bool A.m.change, .bool A.m.ack, .bool A.m.proposal, .bool A.m.agreement, .bool A.m.learning, .bool A.m.forwarding, .int .i64 A.m.role, .int .i64 A.m.age, .int .i64 A.m.maxAge, .int .i64 A.m.hello, .int .i64 A.m.delay] 52)
          have hq := Blk.new wr #[.int .i64 A.kind, .int .i64 A.port, .int .i64 A.m.kind, .int .u64 A.m.v.root, .int .u64 A.m.v.cost, .int .u64 A.m.v.bridge, .int .i64 A.m.v.port, .bool A.m.change, .bool A.m.ack, .bool A.m.proposal, .bool A.m.agreement, .bool A.m.learning, .bool A.m.forwarding, .int .i64 A.m.role, .int .i64 A.m.age, .int .i64 A.m.maxAge, .int .i64 A.m.hello, .int .i64 A.m.delay] 52
          have hsz := size_alloc' wr (.cells #[.int .i64 A.kind, .int .i64 A.port, .int .i64 A.m.kind, .int .u64 A.m.v.root, .int .u64 A.m.v.cost, .int .u64 A.m.v.bridge, .int .i64 A.m.v.port, .bool A.m.change, .bool A.m.ack, .bool A.m.proposal, .bool A.m.agreement, .bool A.m.learning, .bool A.m.forwarding, .int .i64 A.m.role, .int .i64 A.m.age, .int .i64 A.m.maxAge, .int .i64 A.m.hello, .int .i64 A.m.delay] 52)
          have hT9 := HPk.out.t.keep ha (b := wr.heap.size) (Nat.le_refl _) hq.lt
          have HPW := Lib.hid (HPk.out.below ha)
          have hbW := hbl.trans (ha.mono hbl.size)
          change Code.wp _ _ _ _ (wr.alloc (.cells #[.int .i64 A.kind, .int .i64 A.port, .int .i64 A.m.kind, .int .u64 A.m.v.root, .int .u64 A.m.v.cost, .int .u64 A.m.v.bridge, .int .i64 A.m.v.port, .bool A.m.change, .bool A.m.ack, .bool A.m.proposal, .bool A.m.agreement, .bool A.m.learning, .bool A.m.forwarding, .int .i64 A.m.role, .int .i64 A.m.age, .int .i64 A.m.maxAge, .int .i64 A.m.hello, .int .i64 A.m.delay] 52))
          generalize wr.alloc (.cells #[.int .i64 A.kind, .int .i64 A.port, .int .i64 A.m.kind, .int .u64 A.m.v.root, .int .u64 A.m.v.cost, .int .u64 A.m.v.bridge, .int .i64 A.m.v.port, .bool A.m.change, .bool A.m.ack, .bool A.m.proposal, .bool A.m.agreement, .bool A.m.learning, .bool A.m.forwarding, .int .i64 A.m.role, .int .i64 A.m.age, .int .i64 A.m.maxAge, .int .i64 A.m.hello, .int .i64 A.m.delay] 52) = W at hq hT9 HPW hbW ⊢
          clear ha hr' hbl hsz HPk
          generalize wr.heap.size = b9 at hq hT9 ⊢
          have HT9 := Lib.hid hT9
          have HBW := Lib.hid hbW
          have HQ := Lib.hid hq
          have q9 := hq.range
          clear hT9 hbW hq
          have HDO : Hid (Calls Try.prog 21 #[.pointer (some ⟨tb, 0, none⟩), .agg #[.int .i64 A.kind, .int .i64 A.port, .int .i64 A.m.kind, .int .u64 A.m.v.root, .int .u64 A.m.v.cost, .int .u64 A.m.v.bridge, .int .i64 A.m.v.port, .bool A.m.change, .bool A.m.ack, .bool A.m.proposal, .bool A.m.agreement, .bool A.m.learning, .bool A.m.forwarding, .int .i64 A.m.role, .int .i64 A.m.age, .int .i64 A.m.maxAge, .int .i64 A.m.hello, .int .i64 A.m.delay]] W (AtPost W tb U (fun j => (j < w.heap.size ∨ ROwn ⟨rb, b, a, c, ov⟩ X.n j) ∨ j = b9))) := Lib.hid (do_at HT9.out A HM.out (XOK.out.mono (by omega)) U HU.out)
          go_upto_region 18 with (first
            | (refine wpList_load_mid rfl 52 _ rfl b9 0 rfl _ _ q9 Try.underlying52 rfl sz52 ?_)
            | (go_at_call 21; (with_reducible refine HDO.out.mono ?_); rintro e w8 ⟨rfl, hT8, hf8⟩))
          obtain ⟨hp8, hb8⟩ := HPW.out.tree (hT8.more (Z' := fun j => j < w.heap.size ∨ ROwn ⟨rb, b, a, c, ov⟩ X.n j) fun j hj => .inl (.inl hj)) (hf8.mono fun j _ hj hz => hj (.inl hz))
          have HP8 := Lib.hid hp8
          have HB8 := Lib.hid (HBW.out.trans hb8)
          have hq8 := hf8.blk HQ.out (.inr rfl)
          have HQ8 := Lib.hid hq8
          have q9 := hq8.cell
          have HR8 := Lib.hid hp8.r
          clear hp8 hb8 hT8 hf8 hq8 HPW HBW HQ HT9 HDO
          have HSM : Hid (∀ (w' : World) (b : Nat → Nat) (a : Nat → Option Addr) (c : Nat → Nat) (ov : Value), PW w.heap.size w' tb ⟨rb, b, a, c, ov⟩ U U → Calls Try.prog 26 #[.pointer (some ⟨tb, 0, none⟩), .pointer (some ⟨rb, 0, none⟩)] w' (SameR w.heap.size w' tb ⟨rb, b, a, c, ov⟩ U)) := Lib.hid fun w' b a c ov h => same_calls w.heap.size tb ⟨rb, b, a, c, ov⟩ U OKU.out w' h
          have HUN : Hid (PW w.heap.size w8 tb ⟨rb, b, a, c, ov⟩ U X → U = X → PW w.heap.size w8 tb ⟨rb, b, a, c, ov⟩ U U) := Lib.hid fun h e => by subst e; exact h
          by_cases k0 : A.kind = 0
          · have k0b : (A.kind == 0) = true := by simpa using k0
            have HE : Hid (tickF X = U) := Lib.hid (by rw [← HU.out]; unfold doF; rw [if_pos k0])
            have HC : Hid (Calls Try.prog 22 #[.pointer (some ⟨rb, 0, none⟩)] w8 (RPost w8 ⟨rb, b, a, c, ov⟩ X.n U)) := Lib.hid (rtick_calls X ⟨rb, b, a, c, ov⟩ (XOK.out.mono (by have := N16.out; omega)) XST.out w8 HR8.out U HE.out)
            clear k0
            go_wp2_with (first
              | (go_at_call 22; (with_reducible refine HC.out.mono ?_); rintro e w9 ⟨⟨tb9, b9', a9', c9', ov9⟩, rfl, hR9, hS9⟩; have e9 : rb = tb9 := hS9.tb.symm; subst e9; obtain ⟨hp9, hb9⟩ := HP8.out.ref HN.out hR9 hS9; have HP9 := Lib.hid hp9; have HB9 := Lib.hid (HB8.out.trans hb9); clear hp9 hb9 hR9 hS9)
              | (go_at_call 26; (with_reducible refine (HSM.out _ _ _ _ _ HP9.out).mono ?_); rintro e w10 ⟨rfl, ⟨⟨tb10, b10, a10, c10, ov10⟩, e10, hp10, hb10⟩⟩; have e10' : rb = tb10 := e10.symm; clear e10; subst e10'))
            go_roundg gh
            case measure => omega
            case rel => exact ⟨k + 1, b10, a10, c10, ov10, by omega, by go_num, by rw [← HST.out]; exact hp10, HB9.out.trans hb10⟩
          have k0b : (A.kind == 0) = false := by simpa using k0
          by_cases k1 : A.kind = 1
          · have k1b : (A.kind == 1) = true := by simpa using k1
            have HE : Hid (linkF A.port true X = U) := Lib.hid (by rw [← HU.out]; unfold doF; rw [if_neg k0, if_pos k1])
            have HC : Hid (Calls Try.prog 23 #[.pointer (some ⟨rb, 0, none⟩), .int .i64 A.port, .bool true] w8 (RPost w8 ⟨rb, b, a, c, ov⟩ X.n U)) := Lib.hid (rlink_calls X ⟨rb, b, a, c, ov⟩ A.port true (XOK.out.mono (by have := N16.out; omega)) w8 HR8.out U HE.out)
            clear k0 k1
            go_wp2_with (first
              | (go_at_call 23; (with_reducible refine HC.out.mono ?_); rintro e w9 ⟨⟨tb9, b9', a9', c9', ov9⟩, rfl, hR9, hS9⟩; have e9 : rb = tb9 := hS9.tb.symm; subst e9; obtain ⟨hp9, hb9⟩ := HP8.out.ref HN.out hR9 hS9; have HP9 := Lib.hid hp9; have HB9 := Lib.hid (HB8.out.trans hb9); clear hp9 hb9 hR9 hS9)
              | (go_at_call 26; (with_reducible refine (HSM.out _ _ _ _ _ HP9.out).mono ?_); rintro e w10 ⟨rfl, ⟨⟨tb10, b10, a10, c10, ov10⟩, e10, hp10, hb10⟩⟩; have e10' : rb = tb10 := e10.symm; clear e10; subst e10'))
            go_roundg gh
            case measure => omega
            case rel => exact ⟨k + 1, b10, a10, c10, ov10, by omega, by go_num, by rw [← HST.out]; exact hp10, HB9.out.trans hb10⟩
          have k1b : (A.kind == 1) = false := by simpa using k1
          by_cases k2 : A.kind = 2
          · have k2b : (A.kind == 2) = true := by simpa using k2
            have HE : Hid (linkF A.port false X = U) := Lib.hid (by rw [← HU.out]; unfold doF; rw [if_neg k0, if_neg k1, if_pos k2])
            have HC : Hid (Calls Try.prog 23 #[.pointer (some ⟨rb, 0, none⟩), .int .i64 A.port, .bool false] w8 (RPost w8 ⟨rb, b, a, c, ov⟩ X.n U)) := Lib.hid (rlink_calls X ⟨rb, b, a, c, ov⟩ A.port false (XOK.out.mono (by have := N16.out; omega)) w8 HR8.out U HE.out)
            clear k0 k1 k2
            go_wp2_with (first
              | (go_at_call 23; (with_reducible refine HC.out.mono ?_); rintro e w9 ⟨⟨tb9, b9', a9', c9', ov9⟩, rfl, hR9, hS9⟩; have e9 : rb = tb9 := hS9.tb.symm; subst e9; obtain ⟨hp9, hb9⟩ := HP8.out.ref HN.out hR9 hS9; have HP9 := Lib.hid hp9; have HB9 := Lib.hid (HB8.out.trans hb9); clear hp9 hb9 hR9 hS9)
              | (go_at_call 26; (with_reducible refine (HSM.out _ _ _ _ _ HP9.out).mono ?_); rintro e w10 ⟨rfl, ⟨⟨tb10, b10, a10, c10, ov10⟩, e10, hp10, hb10⟩⟩; have e10' : rb = tb10 := e10.symm; clear e10; subst e10'))
            go_roundg gh
            case measure => omega
            case rel => exact ⟨k + 1, b10, a10, c10, ov10, by omega, by go_num, by rw [← HST.out]; exact hp10, HB9.out.trans hb10⟩
          have k2b : (A.kind == 2) = false := by simpa using k2
          by_cases k3 : A.kind = 3
          rotate_left
          · have k3b : (A.kind == 3) = false := by simpa using k3
            have HE : Hid (U = X) := Lib.hid (by rw [← HU.out]; unfold doF; rw [if_neg k0, if_neg k1, if_neg k2, if_neg k3])
            have HP9 := Lib.hid (HUN.out HP8.out HE.out)
            have HB9 := HB8
            clear k0 k1 k2 k3
            go_wp2_with (go_at_call 26; (with_reducible refine (HSM.out _ _ _ _ _ HP9.out).mono ?_); rintro e w10 ⟨rfl, ⟨⟨tb10, b10, a10, c10, ov10⟩, e10, hp10, hb10⟩⟩; have e10' : rb = tb10 := e10.symm; clear e10; subst e10')
            go_roundg gh
            case measure => omega
            case rel => exact ⟨k + 1, b10, a10, c10, ov10, by omega, by go_num, by rw [← HST.out]; exact hp10, HB9.out.trans hb10⟩
          have k3b : (A.kind == 3) = true := by simpa using k3
          have HE : Hid (receiveF A.port A.m X = U) := Lib.hid (by rw [← HU.out]; unfold doF; rw [if_neg k0, if_neg k1, if_neg k2, if_pos k3])
          have qm : w8.rangeAt b9 2 [.int .i64 A.m.kind, .int .u64 A.m.v.root, .int .u64 A.m.v.cost, .int .u64 A.m.v.bridge, .int .i64 A.m.v.port, .bool A.m.change, .bool A.m.ack, .bool A.m.proposal, .bool A.m.agreement, .bool A.m.learning, .bool A.m.forwarding, .int .i64 A.m.role, .int .i64 A.m.age, .int .i64 A.m.maxAge, .int .i64 A.m.hello, .int .i64 A.m.delay] := fun j v hj => by
            have := HQ8.out.range (2 + j) v (by rw [Nat.add_comm]; exact hj)
            rw [Nat.zero_add] at this
            exact this
          obtain ⟨X3, hX3⟩ : ∃ x, chkF A.m = x := ⟨_, rfl⟩
          have HCK : Hid (∀ w', Calls Try.prog 24 #[.agg #[.int .i64 A.m.kind, .int .u64 A.m.v.root, .int .u64 A.m.v.cost, .int .u64 A.m.v.bridge, .int .i64 A.m.v.port, .bool A.m.change, .bool A.m.ack, .bool A.m.proposal, .bool A.m.agreement, .bool A.m.learning, .bool A.m.forwarding, .int .i64 A.m.role, .int .i64 A.m.age, .int .i64 A.m.maxAge, .int .i64 A.m.hello, .int .i64 A.m.delay]] w' (ChkPost X3 w')) := Lib.hid fun w' => check_calls A.m X3 hX3 w'
          have HX3 := Lib.hid hX3
          clear k0 k1 k2 k3 hX3
          cases X3 with
          | false =>
            have HE2 : Hid (U = X) := Lib.hid (by rw [← HE.out]; exact receive_no (fun h => by have := HX3.out; rw [h.2.2.2] at this; cases this))
            have HP9 := Lib.hid (HUN.out HP8.out HE2.out)
            have HB9 := HB8
            go_upto_region 27 with (first
              | (refine wpList_load_mid rfl 41 _ rfl b9 2 rfl _ _ qm Try.underlying41 rfl sz41 ?_)
              | (go_at_call 24; (with_reducible refine (HCK.out _).mono ?_); rintro e w9 ⟨cd, rfl, hc0, hcn, hb9⟩))
            have HP9 := Lib.hid (HP9.out.below hb9)
            have HB9 := Lib.hid (HB8.out.trans (hb9.mono HP8.out.le))
            clear hb9 hc0 hcn
            go_wp2_with (go_at_call 26; (with_reducible refine (HSM.out _ _ _ _ _ HP9.out).mono ?_); rintro e w10 ⟨rfl, ⟨⟨tb10, b10, a10, c10, ov10⟩, e10, hp10, hb10⟩⟩; have e10' : rb = tb10 := e10.symm; clear e10; subst e10')
            go_roundg gh
            case measure => omega
            case rel => exact ⟨k + 1, b10, a10, c10, ov10, by omega, by go_num, by rw [← HST.out]; exact hp10, HB9.out.trans hb10⟩
          | true =>
            have HRC : Hid (∀ w' , RefW w' ⟨rb, b, a, c, ov⟩ X → Calls Try.prog 25 #[.pointer (some ⟨rb, 0, none⟩), .int .i64 A.port, .agg #[.int .i64 A.m.kind, .int .u64 A.m.v.root, .int .u64 A.m.v.cost, .int .u64 A.m.v.bridge, .int .i64 A.m.v.port, .bool A.m.change, .bool A.m.ack, .bool A.m.proposal, .bool A.m.agreement, .bool A.m.learning, .bool A.m.forwarding, .int .i64 A.m.role, .int .i64 A.m.age, .int .i64 A.m.maxAge, .int .i64 A.m.hello, .int .i64 A.m.delay]] w' (RPost w' ⟨rb, b, a, c, ov⟩ X.n U)) := Lib.hid fun w' h => rreceive_calls X ⟨rb, b, a, c, ov⟩ A.port A.m HX3.out (XOK.out.mono (by have := N16.out; omega)) XST.out HM.out w' h U HE.out
            go_upto_region 26 with (first
              | (refine wpList_load_mid rfl 41 _ rfl b9 2 rfl _ _ qm Try.underlying41 rfl sz41 ?_)
              | (go_at_call 24; (with_reducible refine (HCK.out _).mono ?_); rintro e wk ⟨cd, rfl, hc0, hcn, hbk⟩))
            have HPk := Lib.hid (HP8.out.below hbk)
            have HBk := Lib.hid (HB8.out.trans (hbk.mono HP8.out.le))
            have hqk := HQ8.out.below hbk HQ8.out.lt
            have qk := hqk.cell
            have qmk : wk.rangeAt b9 2 [.int .i64 A.m.kind, .int .u64 A.m.v.root, .int .u64 A.m.v.cost, .int .u64 A.m.v.bridge, .int .i64 A.m.v.port, .bool A.m.change, .bool A.m.ack, .bool A.m.proposal, .bool A.m.agreement, .bool A.m.learning, .bool A.m.forwarding, .int .i64 A.m.role, .int .i64 A.m.age, .int .i64 A.m.maxAge, .int .i64 A.m.hello, .int .i64 A.m.delay] := range_below qm hbk
            have HC := Lib.hid (HRC.out wk HPk.out.r)
            clear hbk hc0 hcn q9 qm hqk
            go_wp2_with (first
              | (refine wpList_load_mid rfl 41 _ rfl b9 2 rfl _ _ qmk Try.underlying41 rfl sz41 ?_)
              | (go_at_call 25; (with_reducible refine HC.out.mono ?_); rintro e w9 ⟨⟨tb9, b9', a9', c9', ov9⟩, rfl, hR9, hS9⟩; have e9 : rb = tb9 := hS9.tb.symm; subst e9; obtain ⟨hp9, hb9⟩ := HPk.out.ref HN.out hR9 hS9; have HP9 := Lib.hid hp9; have HB9 := Lib.hid (HBk.out.trans hb9); clear hp9 hb9 hR9 hS9)
              | (go_at_call 26; (with_reducible refine (HSM.out _ _ _ _ _ HP9.out).mono ?_); rintro e w10 ⟨rfl, ⟨⟨tb10, b10, a10, c10, ov10⟩, e10, hp10, hb10⟩⟩; have e10' : rb = tb10 := e10.symm; clear e10; subst e10'))
            go_roundg gh
            case measure => omega
            case rel => exact ⟨k + 1, b10, a10, c10, ov10, by omega, by go_num, by rw [← HST.out]; exact hp10, HB9.out.trans hb10⟩
namespace treePlays
theorem treePlays_walk (w : World) (id : Int) (hw : (Lit.int .u64 id).wf = true) (al : Option Addr) (nl cl : Nat) (F : FlatC Try.prog w 31 al nl cl) (aa : Option Addr) (na ca : Nat) (G : FlatC Try.prog w 52 aa na ca) :
    Calls Try.prog 5 #[.int .u64 id, .slice al nl cl, .slice aa na ca] w fun r w' => r = .returned (.bool true) ∧ Below w.heap.size w w' := by
  obtain ⟨f, hf, hP⟩ := tports_of F.f
  obtain ⟨g, hg, hA⟩ := acts_of G.f
  exact treePlays_any w id al nl cl aa na ca F.f.top G.f.top F.cap f hf hP g hg hA
end treePlays
end Go.Proofs.Ytjnbjcieepooaac
