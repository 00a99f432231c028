/- TreeStates: walked. -/
import Derived.Test.YtjnbjcieepooaacTArg2
import Derived.Test.YtjnbjcieepooaacTChk
namespace Go.Proofs.Ytjnbjcieepooaac
open Go.RowKit
set_option linter.unusedVariables false
set_option linter.unusedSimpArgs false

/-- Acts, one behind the other; each time the messages are taken. -/
def runO (f : Nat → ActM) : Nat → Tr → Tr
  | 0, T => T
  | k + 1, T => outsF (doF (f k) (runO f k T))
structure RunO (id : Int) (n : Nat) (T : Tr) : Prop where
  j : TJ T
  l : TLO T
  n : T.n = n
  id : T.id = id
  ok : TOk T 100
theorem RunO.do_ {id : Int} {n : Nat} {T : Tr} (h : RunO id n T) (a : ActM) (ha : a.m.v.ok) : TJ (doF a T) ∧ TLO (doF a T) ∧ (doF a T).n = n ∧ (doF a T).id = id ∧ TOk (doF a T) 0 :=
  ⟨h.j.do_ a, h.l.do_ a, (do_n a T).trans h.n, (do_id a T).trans h.id, (h.ok.mono (by omega)).do_ a ha⟩
theorem RunO.run {id : Int} {n : Nat} {T : Tr} (h : RunO id n T) (f : Nat → ActM) (k : Nat) (hf : ∀ i, i < k → (f i).m.v.ok) : RunO id n (runO f k T) := by
  induction k with
  | zero => exact h
  | succ k ih =>
    obtain ⟨a, b, c, d, e⟩ := (ih fun i hi => hf i (by omega)).do_ (f k) (hf k (by omega))
    exact ⟨a.outs, b.outs, c, d, ⟨e.n, e.fl, e.rp, e.hello, e.ps, by show 0 + 100 ≤ 1000000; omega⟩⟩
theorem RunO.new (id : Int) (f : Nat → TP) (n : Nat) (hn : n ≤ 10) (hc : ∀ i, i < n → 0 ≤ (f i).p.cost ∧ (f i).p.cost ≤ 18446744073709551615) : RunO id n (newN id f n) :=
  ⟨tj_new id f n, tlo_new id f n, newN_n id f n, rfl, TOk.new id f n 100 (by omega) hc (by omega)⟩
/-- What is read of a port. -/
structure StP (rp : Int) (i : Nat) (P : TP) : Prop where
  r : (i : Int) = rp → P.role = 1 ∧ P.state = 2
  s : P.state ≠ 0 → P.role = 1 ∨ P.role = 2
  u : P.p.up = false → P.state = 0
  b : 0 ≤ P.state ∧ P.state ≤ 2
theorem TJ.stp {T : Tr} (h : TJ T) {i : Nat} (hi : i < T.n) : StP T.rp i (T.at_ i) :=
  ⟨h.root i hi, (h.ps i hi).r, fun hu => Classical.byContradiction fun g => by
    have h0 := h.down i hi hu
    rcases (h.ps i hi).r g with e | e <;> omega, (h.ps i hi).s⟩
theorem cell_belw {w w' : World} {b o : Nat} {v : Value} (h : w.cell? ⟨b, o, none⟩ = some v) (hb : Below w.heap.size w w') : w'.cell? ⟨b, o, none⟩ = some v := by
  rw [hb.cell (p := ⟨b, o, none⟩) (World.block_lt_of_cell? w ⟨b, o, none⟩ h)]
  exact h
theorem head_states (w : World) (id : Int) (al : Option Addr) (nl cl : Nat) (aa : Option Addr) (na ca : Nat) (h : 10 < nl ∨ 150 < na) (hn : nl ≤ 9223372036854775807) (hn2 : na ≤ 9223372036854775807) : Calls Try.prog 6 #[.int .u64 id, .slice al nl cl, .slice aa na ca] w fun r w' => r = .returned (.bool true) ∧ Below w.heap.size w w' := by
  by_cases h1 : (10 : Int) < (nl : Int)
  · go_enter Try.func6, Try.ntmps6
    go_wp2_with (go_at_call 12; (with_reducible refine (grows_calls _).mono ?_); rintro r w1 ⟨rfl, hb1⟩)
    go_ret
    exact ⟨rfl, hb1⟩
  · have h2 : (150 : Int) < (na : Int) := by omega
    go_enter Try.func6, Try.ntmps6
    go_wp2_with (go_at_call 12; (with_reducible refine (grows_calls _).mono ?_); rintro r w1 ⟨rfl, hb1⟩)
    go_ret
    exact ⟨rfl, hb1⟩
set_option maxRecDepth 8000 in
set_option maxHeartbeats 16000000 in
theorem treeStates_any (w : World) (id : Int) (al : Option Addr) (nl cl : Nat) (aa : Option Addr) (na ca : Nat) (hn : nl ≤ 9223372036854775807) (hn2 : na ≤ 9223372036854775807) (hcl : nl ≤ cl) (f : Nat → TP) (hf : ∀ i, i < nl → 0 ≤ (f i).p.cost ∧ (f i).p.cost ≤ 18446744073709551615) (hP : PortsIn w al nl f)
    (g : Nat → ActM) (hg : ∀ i, i < na → (g i).m.v.ok) (hA : ActsAt w aa na g) : Calls Try.prog 6 #[.int .u64 id, .slice al nl cl, .slice aa na ca] w fun r w' => r = .returned (.bool true) ∧ Below w.heap.size w w' := by
  by_cases hout : 10 < nl ∨ 150 < na
  · exact head_states w id al nl cl aa na ca hout hn hn2
  have h1 : ¬ (10 : Int) < (nl : Int) := fun h => hout (.inl (by omega))
  have h2 : ¬ (150 : Int) < (na : Int) := fun h => hout (.inr (by omega))
  have hnl : nl ≤ 10 := by omega
  have hna : na ≤ 150 := by omega
  clear hout
  have r0 := RunO.new id f nl hnl hf
  have HRUN : Hid (∀ k, k ≤ na → RunO id nl (runO g k (newN id f nl))) := Lib.hid fun k hk => r0.run g k fun i hi => hg i (by omega)
  obtain ⟨N0, hN0⟩ : ∃ N0, newN id f nl = N0 := ⟨_, rfl⟩
  have HN0 := Lib.hid hN0
  rw [hN0] at HRUN
  have HC := Lib.hid hf
  have HG := Lib.hid hg
  have HACT := Lib.hid hA
  have HPRT := Lib.hid hP
  have H1a : Hid (nl ≤ 4611686018427387904) := Lib.hid (by omega)
  have H1b : Hid ((if nl ≤ 16 then nl else 16) = nl) := Lib.hid (if_pos (by omega))
  have HCL := Lib.hid hcl
  clear r0 hN0 hf hg hA hP hcl
  go_enter Try.func6, Try.ntmps6
  go_upto_region 5 with (go_at_call 12; (with_reducible refine (grows_calls _).mono ?_); rintro r w1 ⟨rfl, hb1⟩)
  have HP1 : Hid (0 < nl → ∃ b off, al = some ⟨b, off, none⟩ ∧ TPorts w1 b off nl f) := Lib.hid (HPRT.out.below hb1)
  go_upto_region 6 with (go_at_call 14; (with_reducible refine (new_calls id f al nl cl H1a.out HCL.out nl H1b.out HC.out _ HP1.out N0 HN0.out).mono ?_); intro e w3 hnew; obtain ⟨tb, rfl, hT2, hb3⟩ := hnew.at_; clear hnew)
  have hbl2 := hb1.trans (hb3.mono hb1.size)
  have hT := hT2.more (Z' := fun j => j < w.heap.size) fun j hj => .inl (Nat.lt_of_lt_of_le hj hb1.size)
  have HT := Lib.hid hT
  clear hT2 hb1 hb3 hT HP1
  go_wp2
  go_loopg [31] na (fun gh s31 wx => ∃ k : Nat, k + gh = na ∧ s31 = .int .i64 (k : Int) ∧ TAt wx tb (runO g k N0) (fun j => j < w.heap.size) ∧ Below w.heap.size w wx)
  case atStart => exact ⟨0, by omega, rfl, HT.out, hbl2⟩
  case round =>
    obtain ⟨k, hkg, rfl, hT, hbl⟩ := hrel
    have HTk := Lib.hid hT
    clear hT
    cases gk with
    | zero =>
      have hkM : ¬ ((k : Int) < (na : Int)) := by omega
      go_wp2
      go_ret
      exact ⟨rfl, hbl⟩
    | succ gh =>
      have hkM : (k : Int) < (na : Int) := by omega
      have hkn : k < na := by omega
      obtain ⟨b, off, rfl, hlt, hrg⟩ := HACT.out (by omega)
      have hr := range_below (hrg k hkn) hbl
      have HRk := HRUN.out k (by omega)
      have hm := HG.out k hkn
      obtain ⟨uj, ul, un, ui, uo⟩ := HRk.do_ (g k) hm
      have OK1 := Lib.hid (HRk.ok.mono (k := 34) (by omega))
      have hst : outsF (doF (g k) (runO g k N0)) = runO g (k + 1) N0 := rfl
      generalize g k = A at hr hm hst uj ul un ui uo
      obtain ⟨Y, hY⟩ : ∃ Y, runO g (k + 1) N0 = Y := ⟨_, rfl⟩
      obtain ⟨U, hU⟩ : ∃ U, doF A (runO g k N0) = U := ⟨_, rfl⟩
      rw [hU] at hst uj ul un ui uo
      rw [hY] at hst
      have HY := Lib.hid hY
      have HU := Lib.hid hU
      have HST := Lib.hid hst
      have UJ : Hid (∀ i, i < nl → StP U.rp i (U.at_ i)) := Lib.hid fun i hi => uj.stp (by omega)
      have UO : Hid (∀ o, o ∈ U.outs → OutJ nl id o) := Lib.hid fun o ho => by have := ul.o o ho; rw [un, ui] at this; exact this
      have UN := Lib.hid un
      have U16 : Hid (U.n ≤ 16) := Lib.hid (by omega)
      have hlen : U.outs.length ≤ 1000000 := by have := uo.room; omega
      generalize runO g k N0 = X at HTk OK1 HU
      have HDO : Hid (∀ w', TAt w' tb X (fun j => j < w.heap.size) → Calls Try.prog 21 #[.pointer (some ⟨tb, 0, none⟩), .agg #[.int .i64 A.kind, .int .i64 A.port, .int .i64 A.m.kind, .int .u64 A.m.v.root, .int .u64 A.m.v.cost, .int .u64 A.m.v.bridge, .int .i64 A.m.v.port, .bool A.m.change, .bool A.m.ack, .bool A.m.proposal, .bool A.m.agreement, .bool A.m.learning, .bool A.m.forwarding, .int .i64 A.m.role, .int .i64 A.m.age, .int .i64 A.m.maxAge, .int .i64 A.m.hello, .int .i64 A.m.delay]] w' (AtPost w' tb U (fun j => j < w.heap.size))) := Lib.hid fun w' h => do_at h A hm OK1.out U HU.out
      have hr' : wr.rangeAt b (off + k * 18) [.int .i64 A.kind, .int .i64 A.port, .int .i64 A.m.kind, .int .u64 A.m.v.root, .int .u64 A.m.v.cost, .int .u64 A.m.v.bridge, .int .i64 A.m.v.port, .bool A.m.change, .bool A.m.ack, .bool A.m.proposal, .bool A.m.agreement, .bool A.m.learning, .bool A.m.forwarding, .int .i64 A.m.role, .int .i64 A.m.age, .int .i64 A.m.maxAge, .int .i64 A.m.hello, .int .i64 A.m.delay] := hr
      clear hr hrg hm hst hY hU HRk uj ul un ui uo hlt
      go_upto_region 9 with (refine wpList_load_mid rfl 52 _ rfl b (off + k * 18) rfl _ _ hr' Try.underlying52 rfl sz52 ?_)
      have ha := (Below.refl wr.heap.size wr).alloc (Nat.le_refl _) (.cells #[.int .i64 A.kind, .int .i64 A.port, .int .i64 A.m.kind, .int .u64 A.m.v.root, .int .u64 A.m.v.cost, .int .u64 A.m.v.bridge, .int .i64 A.m.v.port, .bool A.m.change, .bool A.m.ack, .bool A.m.proposal, .bool A.m.agreement, .bool A.m.learning, .bool A.m.forwarding, .int .i64 A.m.role, .int .i64 A.m.age, .int .i64 A.m.maxAge, .int .i64 A.m.hello, .int .i64 A.m.delay] 52)
      have hq := Blk.new wr #[.int .i64 A.kind, .int .i64 A.port, .int .i64 A.m.kind, .int .u64 A.m.v.root, .int .u64 A.m.v.cost, .int .u64 A.m.v.bridge, .int .i64 A.m.v.port, .bool A.m.change, .bool A.m.ack, .bool A.m.proposal, .bool A.m.agreement, .bool A.m.learning, .bool A.m.forwarding, .int .i64 A.m.role, .int .i64 A.m.age, .int .i64 A.m.maxAge, .int .i64 A.m.hello, .int .i64 A.m.delay] 52
      change Code.wp _ _ _ _ (wr.alloc (.cells #[.int .i64 A.kind, .int .i64 A.port, .int .i64 A.m.kind, .int .u64 A.m.v.root, .int .u64 A.m.v.cost, .int .u64 A.m.v.bridge, .int .i64 A.m.v.port, .bool A.m.change, .bool A.m.ack, .bool A.m.proposal, .bool A.m.agreement, .bool A.m.learning, .bool A.m.forwarding, .int .i64 A.m.role, .int .i64 A.m.age, .int .i64 A.m.maxAge, .int .i64 A.m.hello, .int .i64 A.m.delay] 52))
      generalize wr.alloc (.cells #[.int .i64 A.kind, .int .i64 A.port, .int .i64 A.m.kind, .int .u64 A.m.v.root, .int .u64 A.m.v.cost, .int .u64 A.m.v.bridge, .int .i64 A.m.v.port, .bool A.m.change, .bool A.m.ack, .bool A.m.proposal, .bool A.m.agreement, .bool A.m.learning, .bool A.m.forwarding, .int .i64 A.m.role, .int .i64 A.m.age, .int .i64 A.m.maxAge, .int .i64 A.m.hello, .int .i64 A.m.delay] 52) = W at ha hq ⊢
      have HTW := Lib.hid (HTk.out.below ha)
      have hbW := hbl.trans (ha.mono hbl.size)
      clear ha hr' hbl
      generalize wr.heap.size = b9 at hq ⊢
      have q9 := hq.range
      clear hq HTk
      go_upto_region 10 with (first
        | (refine wpList_load_mid rfl 52 _ rfl b9 0 rfl _ _ q9 Try.underlying52 rfl sz52 ?_)
        | (go_at_call 21; (with_reducible refine (HDO.out _ HTW.out).mono ?_); rintro e w8 ⟨rfl, hT8, hf8⟩))
      have HT8 := Lib.hid hT8
      have hbl8 := hbW.trans (hf8.toBelow (fun _ h => h) hbW.size)
      clear hT8 hf8 hbW HTW q9
      go_upto_region 11 with (go_at_call 27; (with_reducible refine (root_at HT8.out).mono ?_); rintro e w9 ⟨rfl, hb9⟩)
      have h10 := hb9.alloc hb9.size (.cells #[.int .u64 U.vec.root, .int .u64 U.vec.cost, .int .u64 U.vec.bridge, .int .i64 U.vec.port] 27)
      change Code.wp _ _ _ _ (w9.alloc (.cells #[.int .u64 U.vec.root, .int .u64 U.vec.cost, .int .u64 U.vec.bridge, .int .i64 U.vec.port] 27))
      generalize w9.alloc (.cells #[.int .u64 U.vec.root, .int .u64 U.vec.cost, .int .u64 U.vec.bridge, .int .i64 U.vec.port] 27) = w10 at h10 ⊢
      have HT10 := Lib.hid (HT8.out.below h10)
      have hbl10 := hbl8.trans (h10.mono hbl8.size)
      clear hb9 h10 hbl8 HT8
      generalize w9.heap.size = b10
      go_wp2_with (go_at_call 28; (with_reducible refine (ports_at HT10.out U16.out).mono ?_); rintro e w11 ⟨v11, rfl, hown11, hb11⟩; rw [UN.out] at hown11; obtain ⟨a11, c11, rfl⟩ := own_slice hown11)
      have HT11 := Lib.hid (HT10.out.below hb11)
      have hbl11 := hbl10.trans (hb11.mono hbl10.size)
      have HOWN := Lib.hid hown11
      clear hown11 hb11 hbl10 HT10
      go_loopg [46] nl (fun gh s46 wx => ∃ i : Nat, i + gh = nl ∧ s46 = .int .i64 (i : Int) ∧ Below w11.heap.size w11 wx)
      case atStart => exact ⟨0, by omega, rfl, Below.refl _ _⟩
      case round =>
        obtain ⟨i, hig, rfl, hbi⟩ := hrel
        cases gk with
        | zero =>
          have hiM : ¬ ((i : Int) < (nl : Int)) := by omega
          have HTi := Lib.hid (HT11.out.below hbi)
          have hbli := hbl11.trans (hbi.mono hbl11.size)
          clear hbi hbl11 HT11 HOWN
          go_wp2_with (go_at_call 18; (with_reducible refine (outs_at HTi.out).mono ?_); rintro e w12 ⟨a12, c12, rfl, hown12, hT12, hf12, _⟩)
          have hT12' := hT12.more (Z' := fun j => j < w.heap.size) fun j hj => .inl (.inl hj)
          rw [HST.out] at hT12'
          have HT12 := Lib.hid hT12'
          have HOWN12 := Lib.hid hown12
          have hbl12 := hbli.trans (hf12.toBelow (fun _ h => h) hbli.size)
          clear hT12 hT12' hown12 hf12 hbli HTi
          go_loopg [100] U.outs.length (fun gh s100 wx => ∃ q : Nat, q + gh = U.outs.length ∧ s100 = .int .i64 (q : Int) ∧ Below w12.heap.size w12 wx)
          case atStart => exact ⟨0, by omega, rfl, Below.refl _ _⟩
          case round =>
            obtain ⟨q, hqg, rfl, hbq⟩ := hrel
            cases gk with
            | zero =>
              have hqM : ¬ ((q : Int) < (U.outs.length : Int)) := by omega
              go_wp2
              go_roundg gh
              case measure => omega
              case rel => exact ⟨k + 1, by omega, by go_num, by rw [HY.out]; exact HT12.out.below hbq, hbl12.trans (hbq.mono hbl12.size)⟩
            | succ gq =>
              have hqM : (q : Int) < (U.outs.length : Int) := by omega
              have hqn : q < U.outs.length := by omega
              obtain ⟨g12, c12', hv, _, hlt12, _, _⟩ := own_at HOWN12.out (by omega)
              simp only [Value.slice.injEq] at hv
              obtain ⟨rfl, _, rfl⟩ := hv
              obtain ⟨o, ho⟩ : ∃ o, U.outs[q]? = some o := ⟨_, List.getElem?_eq_getElem hqn⟩
              have hrq := range_below (out_range HOWN12.out rfl ho) hbq
              have hrq' : wr.rangeAt g12 (q * 17) [.int .i64 o.port, .int .i64 o.m.kind, .int .u64 o.m.v.root, .int .u64 o.m.v.cost, .int .u64 o.m.v.bridge, .int .i64 o.m.v.port, .bool o.m.change, .bool o.m.ack, .bool o.m.proposal, .bool o.m.agreement, .bool o.m.learning, .bool o.m.forwarding, .int .i64 o.m.role, .int .i64 o.m.age, .int .i64 o.m.maxAge, .int .i64 o.m.hello, .int .i64 o.m.delay] := hrq
              obtain ⟨hck, hp0, hp1, hbr⟩ := UO.out o (List.mem_of_getElem? ho)
              have hp0' : ¬ o.port < 0 := by omega
              have hchk : Hid (∀ w', Calls Try.prog 24 #[.agg #[.int .i64 o.m.kind, .int .u64 o.m.v.root, .int .u64 o.m.v.cost, .int .u64 o.m.v.bridge, .int .i64 o.m.v.port, .bool o.m.change, .bool o.m.ack, .bool o.m.proposal, .bool o.m.agreement, .bool o.m.learning, .bool o.m.forwarding, .int .i64 o.m.role, .int .i64 o.m.age, .int .i64 o.m.maxAge, .int .i64 o.m.hello, .int .i64 o.m.delay]] w' (ChkPost true w')) := Lib.hid fun w' => check_calls o.m true hck w'
              have HBR := Lib.hid hbr
              clear hrq ho hlt12 hck hbr hp0
              go_upto_region 24 with (refine wpList_load_mid rfl 43 _ rfl g12 (q * 17) rfl _ _ hrq' Try.underlying43 rfl sz43 ?_)
              have ha := (Below.refl wr.heap.size wr).alloc (Nat.le_refl _) (.cells #[.int .i64 o.port, .int .i64 o.m.kind, .int .u64 o.m.v.root, .int .u64 o.m.v.cost, .int .u64 o.m.v.bridge, .int .i64 o.m.v.port, .bool o.m.change, .bool o.m.ack, .bool o.m.proposal, .bool o.m.agreement, .bool o.m.learning, .bool o.m.forwarding, .int .i64 o.m.role, .int .i64 o.m.age, .int .i64 o.m.maxAge, .int .i64 o.m.hello, .int .i64 o.m.delay] 43)
              have hq := Blk.new wr #[.int .i64 o.port, .int .i64 o.m.kind, .int .u64 o.m.v.root, .int .u64 o.m.v.cost, .int .u64 o.m.v.bridge, .int .i64 o.m.v.port, .bool o.m.change, .bool o.m.ack, .bool o.m.proposal, .bool o.m.agreement, .bool o.m.learning, .bool o.m.forwarding, .int .i64 o.m.role, .int .i64 o.m.age, .int .i64 o.m.maxAge, .int .i64 o.m.hello, .int .i64 o.m.delay] 43
              change Code.wp _ _ _ _ (wr.alloc (.cells #[.int .i64 o.port, .int .i64 o.m.kind, .int .u64 o.m.v.root, .int .u64 o.m.v.cost, .int .u64 o.m.v.bridge, .int .i64 o.m.v.port, .bool o.m.change, .bool o.m.ack, .bool o.m.proposal, .bool o.m.agreement, .bool o.m.learning, .bool o.m.forwarding, .int .i64 o.m.role, .int .i64 o.m.age, .int .i64 o.m.maxAge, .int .i64 o.m.hello, .int .i64 o.m.delay] 43))
              generalize wr.alloc (.cells #[.int .i64 o.port, .int .i64 o.m.kind, .int .u64 o.m.v.root, .int .u64 o.m.v.cost, .int .u64 o.m.v.bridge, .int .i64 o.m.v.port, .bool o.m.change, .bool o.m.ack, .bool o.m.proposal, .bool o.m.agreement, .bool o.m.learning, .bool o.m.forwarding, .int .i64 o.m.role, .int .i64 o.m.age, .int .i64 o.m.maxAge, .int .i64 o.m.hello, .int .i64 o.m.delay] 43) = W3 at ha hq ⊢
              have hbW3 := hbq.trans (ha.mono hbq.size)
              clear ha hrq' hbq
              generalize wr.heap.size = b15 at hq ⊢
              have c0 : W3.cell? ⟨b15, 0, none⟩ = some (.int .i64 o.port) := by rw [hq.cell]; rfl
              have c4 : W3.cell? ⟨b15, 4, none⟩ = some (.int .u64 id) := by rw [hq.cell, ← HBR.out]; rfl
              have q1 : W3.rangeAt b15 1 [.int .i64 o.m.kind, .int .u64 o.m.v.root, .int .u64 o.m.v.cost, .int .u64 o.m.v.bridge, .int .i64 o.m.v.port, .bool o.m.change, .bool o.m.ack, .bool o.m.proposal, .bool o.m.agreement, .bool o.m.learning, .bool o.m.forwarding, .int .i64 o.m.role, .int .i64 o.m.age, .int .i64 o.m.maxAge, .int .i64 o.m.hello, .int .i64 o.m.delay] := fun j v hj => by
                have := hq.range (1 + j) v (by rw [Nat.add_comm]; exact hj)
                rw [Nat.zero_add] at this
                exact this
              clear hq
              go_wp2_with (first
                | (refine wpList_load_mid rfl 41 _ rfl b15 1 rfl _ _ q1 Try.underlying41 rfl sz41 ?_)
                | (go_at_call 24; (with_reducible refine (hchk.out _).mono ?_); rintro e w13 ⟨cd, rfl, hc0, hcn, hb13⟩; have d0 := cell_belw c0 hb13; have d4 := cell_belw c4 hb13))
              go_roundg gq
              case measure => omega
              case rel => exact ⟨q + 1, by omega, by go_num, hbW3.trans (hb13.mono hbW3.size)⟩
        | succ gi => as_aux_lemma =>
          have hiM : (i : Int) < (nl : Int) := by omega
          have hin : i < nl := by omega
          obtain ⟨g11, c11', hv, hge, hlt11, hP11⟩ := port_rows HOWN.out UN.out (by omega)
          simp only [Value.slice.injEq] at hv
          obtain ⟨rfl, _, rfl⟩ := hv
          have hr1 := (hP11.below hbi).range hin
          rw [Nat.zero_add] at hr1
          have hs := UJ.out i hin
          obtain ⟨P, hPe⟩ : ∃ P, U.at_ i = P := ⟨_, rfl⟩
          rw [hPe] at hr1 hs
          clear hPe hP11 hge hlt11
          have hr2 : wr.rangeAt g11 (i * 16) [.int .i64 P.p.id, .int .u64 P.p.cost, .bool P.p.up, .bool P.p.has, .int .u64 P.p.told.root, .int .u64 P.p.told.cost, .int .u64 P.p.told.bridge, .int .i64 P.p.told.port, .bool P.edge, .int .i64 P.role, .int .i64 P.state, .int .i64 P.age, .int .i64 P.left, .int .i64 P.wait, .int .i64 P.change, .bool P.agreed] := hr1
          clear hr1
          go_upto_region 14 with (refine wpList_load_mid rfl 31 _ rfl g11 (i * 16) rfl _ _ hr2 Try.underlying31 rfl sz31 ?_)
          have ha := (Below.refl wr.heap.size wr).alloc (Nat.le_refl _) (.cells #[.int .i64 P.p.id, .int .u64 P.p.cost, .bool P.p.up, .bool P.p.has, .int .u64 P.p.told.root, .int .u64 P.p.told.cost, .int .u64 P.p.told.bridge, .int .i64 P.p.told.port, .bool P.edge, .int .i64 P.role, .int .i64 P.state, .int .i64 P.age, .int .i64 P.left, .int .i64 P.wait, .int .i64 P.change, .bool P.agreed] 31)
          have hq := Blk.new wr #[.int .i64 P.p.id, .int .u64 P.p.cost, .bool P.p.up, .bool P.p.has, .int .u64 P.p.told.root, .int .u64 P.p.told.cost, .int .u64 P.p.told.bridge, .int .i64 P.p.told.port, .bool P.edge, .int .i64 P.role, .int .i64 P.state, .int .i64 P.age, .int .i64 P.left, .int .i64 P.wait, .int .i64 P.change, .bool P.agreed] 31
          change Code.wp _ _ _ _ (wr.alloc (.cells #[.int .i64 P.p.id, .int .u64 P.p.cost, .bool P.p.up, .bool P.p.has, .int .u64 P.p.told.root, .int .u64 P.p.told.cost, .int .u64 P.p.told.bridge, .int .i64 P.p.told.port, .bool P.edge, .int .i64 P.role, .int .i64 P.state, .int .i64 P.age, .int .i64 P.left, .int .i64 P.wait, .int .i64 P.change, .bool P.agreed] 31))
          generalize wr.alloc (.cells #[.int .i64 P.p.id, .int .u64 P.p.cost, .bool P.p.up, .bool P.p.has, .int .u64 P.p.told.root, .int .u64 P.p.told.cost, .int .u64 P.p.told.bridge, .int .i64 P.p.told.port, .bool P.edge, .int .i64 P.role, .int .i64 P.state, .int .i64 P.age, .int .i64 P.left, .int .i64 P.wait, .int .i64 P.change, .bool P.agreed] 31) = W2 at ha hq ⊢
          have hbW2 := hbi.trans (ha.mono hbi.size)
          clear ha hr2
          generalize wr.heap.size = b13 at hq ⊢
          have c2 : W2.cell? ⟨b13, 2, none⟩ = some (.bool P.p.up) := by rw [hq.cell]; rfl
          have c9 : W2.cell? ⟨b13, 9, none⟩ = some (.int .i64 P.role) := by rw [hq.cell]; rfl
          have c10 : W2.cell? ⟨b13, 10, none⟩ = some (.int .i64 P.state) := by rw [hq.cell]; rfl
          clear hq hbi hbl11
          obtain ⟨s1, s2, s3, s4⟩ := hs
          by_cases hrp : (i : Int) = U.rp
          · obtain ⟨x1, x2⟩ := s1 hrp
            have x3 : P.p.up = true := by
              cases hu : P.p.up with
              | true => rfl
              | false => have := s3 hu; omega
            have hrb : ((i : Int) == U.rp) = true := by rw [hrp]; simp
            rw [x1] at c9
            rw [x2] at c10
            rw [x3] at c2
            clear s1 s2 s3 s4 x1 x2 x3 hrp
            go_wp2
            go_roundg gi
            case measure => omega
            case rel => exact ⟨i + 1, by omega, by go_num, hbW2⟩
          have hrb : ((i : Int) == U.rp) = false := by simpa using hrp
          by_cases h0 : P.state = 0
          · rw [h0] at c10
            clear s1 s2 s3 s4 h0 hrp
            cases hu : P.p.up with
            | true =>
              rw [hu] at c2
              clear hu
              go_wp2
              go_roundg gi
              case measure => omega
              case rel => exact ⟨i + 1, by omega, by go_num, hbW2⟩
            | false =>
              rw [hu] at c2
              clear hu
              go_wp2
              go_roundg gi
              case measure => omega
              case rel => exact ⟨i + 1, by omega, by go_num, hbW2⟩
          have x3 : P.p.up = true := by
            cases hu : P.p.up with
            | true => rfl
            | false => exact absurd (s3 hu) h0
          rw [x3] at c2
          have hst : P.state = 1 ∨ P.state = 2 := by omega
          have hro := s2 h0
          clear s1 s2 s3 s4 x3 h0 hrp
          rcases hst with h | h
          all_goals
            rw [h] at c10
            clear h
            rcases hro with h | h
            all_goals
              rw [h] at c9
              clear h
              go_wp2
              go_roundg gi
              case measure => omega
              case rel => exact ⟨i + 1, by omega, by go_num, hbW2⟩
end Go.Proofs.Ytjnbjcieepooaac
