/- The laws' helper pair: messages of two trees go to and fro until none is left; by its contract. -/
import Derived.Test.YtjnbjcieepooaacTwo
import Derived.Test.YtjnbjcieepooaacTP3
namespace Go.Proofs.Ytjnbjcieepooaac
open Go.RowKit
set_option linter.unusedVariables false
set_option linter.unusedSimpArgs false

def rstep (o : OutM) (k : Nat) (T : Tr) : Tr := if (k : Int) = o.port then receiveF (k : Int) o.m T else T
theorem recvs_take (n : Nat) (l : List OutM) (T : Tr) {q : Nat} {o : OutM} (h : l[q]? = some o) : recvs n (l.take (q + 1)) T = upto (rstep o) n (recvs n (l.take q) T) := by
  unfold recvs
  rw [List.take_add_one, h, List.foldl_append]
  rfl
theorem rstep_yes {o : OutM} {k : Nat} (h : (k : Int) = o.port) (T : Tr) : rstep o k T = receiveF (k : Int) o.m T := if_pos h
theorem rstep_no {o : OutM} {k : Nat} (h : ¬ (k : Int) = o.port) (T : Tr) : rstep o k T = T := if_neg h
theorem rstep_ok {n : Nat} (hn : n ≤ 6) {L : List OutM} (hl : ∀ x, x ∈ L → x.m.v.ok) (hlen : L.length ≤ 500) {T : Tr} (h : TOk T 1000000) (q : Nat) {o : OutM} (ho : o ∈ L) {j : Nat} (hj : j ≤ n) :
    TOk (upto (rstep o) j (recvs n (L.take q) T)) (2 * (upto (rstep o) j (recvs n (L.take q) T)).n + 2) := by
  have h1 : TOk (recvs n (L.take q) T) (34 * j + 100) := TOk.recvs n _ (fun x hx => hl x (List.mem_of_mem_take hx)) (h.mono (by
    have h2 : (L.take q).length ≤ 500 := by rw [List.length_take]; omega
    have h3 : 34 * n * (L.take q).length ≤ 34 * 6 * 500 := Nat.mul_le_mul (by omega) h2
    omega))
  have h2 : TOk (upto (rstep o) j (recvs n (L.take q) T)) 100 := TOk.recvAts o (hl o ho) j h1
  have hn := h2.n
  exact h2.mono (by omega)
theorem sz63 : (Try.prog.info? 63).map (·.size) = some 2 := by kernel_rfl
/-- The links: at ports of the same numbers. -/
def linkC (i : Nat) : Array Value := #[.int .i64 (i : Int), .int .i64 (i : Int)]
theorem link_range {w : World} {b n : Nat} (h : RowsB w b 63 2 n linkC) {i : Nat} (hi : i < n) : w.rangeAt b (i * 2) [.int .i64 (i : Int), .int .i64 (i : Int)] := fun j v hj => by
  have hl : j < 2 := (List.getElem?_eq_some_iff.1 hj).1
  rw [h.cell i j hi hl, ← hj]
  unfold linkC
  simp
def PairPost (w : World) (ta : Nat) (A : Tr) (tb : Nat) (B : Tr) (Z : Nat → Prop) (e : Ending) (w' : World) : Prop := e = .returned (.bool true) ∧ Two w' ta A tb B Z ∧ FrZ Z w w'
set_option maxRecDepth 8000 in
set_option maxHeartbeats 16000000 in
theorem pair_calls (n : Nat) (hn6 : n ≤ 6) (K : Nat) (hK : K < 200) (X : Tr × Tr) (hgood : ∀ k, k < K + 1 → Good (pairN n k X).1 ∧ Good (pairN n k X).2) (hnil : (pairN n K X).1.outs = [] ∧ (pairN n K X).2.outs = [])
    (lb cl ta tb : Nat) (Z : Nat → Prop) (w : World) (hT : Two w ta X.1 tb X.2 Z) (hL : RowsB w lb 63 2 n linkC) (hZ : Z lb) (E : Tr × Tr) (hE : pairN n K X = E) :
    Calls Try.prog 29 #[.pointer (some ⟨ta, 0, none⟩), .pointer (some ⟨tb, 0, none⟩), .slice (some ⟨lb, 0, none⟩) n cl] w (PairPost w ta E.1 tb E.2 Z) := by
  subst hE
  have HG := Lib.hid hgood
  have HN := Lib.hid hnil
  have HT := Lib.hid hT
  have HL := Lib.hid hL
  have HZ := Lib.hid hZ
  have hn6' := Lib.hid hn6
  clear hgood hnil hT hL hZ
  go_enter Try.func29, Try.ntmps29
  go_wp2
  go_loopg [17] 200 (fun gh s17 wx => ∃ k : Nat, k + gh = 200 ∧ k ≤ K ∧ s17 = .int .i64 (k : Int) ∧ Two wx ta (pairN n k X).1 tb (pairN n k X).2 Z ∧ FrZ Z w wx)
  case atStart => exact ⟨0, by omega, by omega, rfl, HT.out, Fr.refl _ _⟩
  case round =>
    obtain ⟨k, hkg, hkK, rfl, hTk, hfk⟩ := hrel
    have HTk := Lib.hid hTk
    have HFk := Lib.hid hfk
    clear hTk hfk
    cases gk with
    | zero => omega
    | succ gh =>
      have hkM : (k : Int) < 200 := by omega
      have hgk := HG.out k (by omega)
      have HNK : Hid (k = K → (pairN n k X).1.outs = [] ∧ (pairN n k X).2.outs = []) := Lib.hid fun e => by rw [e]; exact HN.out
      have HEQ : Hid ((pairN n k X).1.outs = [] → (pairN n k X).2.outs = [] → pairN n K X = pairN n k X) := Lib.hid fun h1 h2 => by
        have h := pairN_nil h1 h2 (K - k)
        rw [show k + (K - k) = K by omega] at h
        exact h
      have hn6 := hn6'
      obtain ⟨⟨A, B⟩, hAB⟩ : ∃ Y, pairN n k X = Y := ⟨_, rfl⟩
      have HXK := Lib.hid hAB
      rw [hAB] at hgk HNK HEQ HTk
      have GA := Lib.hid hgk.1
      have GB := Lib.hid hgk.2
      have la := hgk.1.len
      have lb' := hgk.2.len
      clear hgk hAB
      have e1 : (A, B).1 = A := rfl
      have e2 : (A, B).2 = B := rfl
      rw [e1] at GA HNK HEQ HTk la
      rw [e2] at GB HNK HEQ HTk lb'
      clear e1 e2
      go_upto_region 4 with (first
        | (go_at_call 18; (with_reducible refine (two_outs1 HTk.out).mono ?_); rintro e w6 ⟨ax, cx, rfl, hox, hT6, hf6⟩; have HT6 := Lib.hid hT6; clear hT6)
        | (go_at_call 18; (with_reducible refine (two_outs2 HT6.out).mono ?_); rintro e w7 ⟨ay, cy, rfl, hoy, hT7, hf7⟩))
      have HF7 : Hid (FrZ Z w w7) := Lib.hid (HFk.out.trans (hf6.trans (hf7.mono fun k _ hk hz => hk (.inl hz))))
      have HL7 := Lib.hid (RowsB.fr HL.out HF7.out (fun h => h HZ.out))
      have hox7 := own_fr hox hf7 (fun k hk hn => hn (.inr hk))
      have HOX := Lib.hid hox7
      have HOY7 := Lib.hid hoy
      have HT7 := Lib.hid hT7
      clear hf6 hf7 hox hox7 hoy hT7 HTk HT6
      by_cases hem : A.outs = [] ∧ B.outs = []
      · have l1 : ((A.outs.length : Int) == 0) = true := by rw [hem.1]; rfl
        have l2 : ((B.outs.length : Int) == 0) = true := by rw [hem.2]; rfl
        have hEE := HEQ.out hem.1 hem.2
        have n1 := outs_nil hem.1
        have n2 := outs_nil hem.2
        have HQ : Hid (Two w7 ta (pairN n K X).1 tb (pairN n K X).2 Z) := Lib.hid (by
          rw [hEE]
          have h := HT7.out.more (Z' := Z) fun k hk => .inl (.inl hk)
          rw [n1, n2] at h
          exact h)
        clear hEE n1 n2 hem
        go_wp2
        go_ret
        exact ⟨rfl, HQ.out, HF7.out⟩
      have hkK2 : k < K := by
        by_cases h : k = K
        · exact absurd (HNK.out h) hem
        · omega
      obtain ⟨Z2, hZ2⟩ : ∃ Z2 : Nat → Prop, (fun k => (Z k ∨ InRow (.slice ax A.outs.length cx) k) ∨ InRow (.slice ay B.outs.length cy) k) = Z2 := ⟨_, rfl⟩
      rw [hZ2] at HT7
      have HZX : Hid (∀ k, InRow (.slice ax A.outs.length cx) k → Z2 k) := Lib.hid fun k h => by rw [← hZ2]; exact .inl (.inr h)
      have HZY : Hid (∀ k, InRow (.slice ay B.outs.length cy) k → Z2 k) := Lib.hid fun k h => by rw [← hZ2]; exact .inr h
      have HZZ : Hid (∀ k, Z k → Z2 k) := Lib.hid fun k h => by rw [← hZ2]; exact .inl (.inl h)
      have HZL : Hid (Z2 lb) := Lib.hid (HZZ.out lb HZ.out)
      have HL2 := Lib.hid HL7.out
      clear hZ2 HL7
      have hif : ((A.outs.length : Int) == 0 && (B.outs.length : Int) == 0) = false := by
        cases h1 : A.outs with
        | nil =>
          cases h2 : B.outs with
          | nil => exact absurd ⟨h1, h2⟩ hem
          | cons y l => simp; omega
        | cons y l => simp; omega
      clear hem
      go_cut [30] (fun s30 wx => s30 = .bool false ∧ wx = w7)
      case first =>
        by_cases h1 : A.outs.length = 0
        · have l1 : ((A.outs.length : Int) == 0) = true := by rw [h1]; rfl
          have l2 : ((B.outs.length : Int) == 0) = false := by rw [l1] at hif; simpa using hif
          go_wp2
          go_meet
          exact ⟨rfl, rfl⟩
        · have l1 : ((A.outs.length : Int) == 0) = false := by simp; intro h; apply h1; rw [h]; rfl
          go_wp2
          go_meet
          exact ⟨rfl, rfl⟩
      case rest =>
        obtain ⟨rfl, hwc⟩ := hcut
        subst wc
        clear hif
        go_wp2
        go_loopg [33] A.outs.length (fun gh s33 wx => ∃ q : Nat, q + gh = A.outs.length ∧ s33 = .int .i64 (q : Int) ∧ Two wx ta (outsF A) tb (recvs n (A.outs.take q) (outsF B)) Z2 ∧ FrZ Z2 w7 wx)
        case atStart => exact ⟨0, by omega, rfl, HT7.out, Fr.refl _ _⟩
        case round =>
          obtain ⟨q, hqg, rfl, hTq, hfq⟩ := hrel
          have HTq := Lib.hid hTq
          clear hTq
          cases gk with
          | zero =>
            have hqM : ¬ ((q : Int) < (A.outs.length : Int)) := by omega
            obtain rfl : q = A.outs.length := by omega
            have hown8 := own_fr HOY7.out hfq (fun k hk hn => hn (HZY.out k hk))
            have hL8 := RowsB.fr HL2.out hfq (fun hn => hn HZL.out)
            rw [List.take_length] at HTq
            obtain ⟨B1, hB1⟩ : ∃ B1, recvs n A.outs (outsF B) = B1 := ⟨_, rfl⟩
            rw [hB1] at HTq
            have HB1 := Lib.hid hB1
            have HT8 := Lib.hid HTq.out
            have HOY := Lib.hid hown8
            have HF8 : Hid (FrZ Z w wr) := Lib.hid (HF7.out.trans (hfq.mono fun k _ hk hz => hk (HZZ.out k hz)))
            clear HL2 hB1 hown8 hfq HTq
            have HL2 := Lib.hid hL8
            clear hL8
            generalize wr = w8 at HT8 HOY HF8 HL2 ⊢
            go_wp2
            go_loopg [58] B.outs.length (fun gh s58 wx => ∃ q : Nat, q + gh = B.outs.length ∧ s58 = .int .i64 (q : Int) ∧ Two wx ta (recvs n (B.outs.take q) (outsF A)) tb B1 Z2 ∧ FrZ Z2 w8 wx)
            case atStart => exact ⟨0, by omega, rfl, HT8.out, Fr.refl _ _⟩
            case round =>
              obtain ⟨q, hqg, rfl, hTq, hfq⟩ := hrel
              have HTq := Lib.hid hTq
              clear hTq
              cases gk with
              | zero =>
                have hqM : ¬ ((q : Int) < (B.outs.length : Int)) := by omega
                obtain rfl : q = B.outs.length := by omega
                go_wp2
                go_roundg gh
                case measure => omega
                case rel => exact ⟨k + 1, by omega, by omega, by go_num, by
                  show Two wr ta (pairStep n (pairN n k X)).1 tb (pairStep n (pairN n k X)).2 Z
                  rw [HXK.out]
                  have h := HTq.out.more HZZ.out
                  rw [List.take_length] at h
                  have e : (pairStep n (A, B)).2 = B1 := HB1.out
                  rw [e]
                  exact h, HF8.out.trans (hfq.mono fun k _ hk hz => hk (HZZ.out k hz))⟩
              | succ gq =>
                have hqM : (q : Int) < (B.outs.length : Int) := by omega
                have hqn : q < B.outs.length := by omega
                obtain ⟨gr, cr, hv, _, hltr, _, _⟩ := own_at HOY.out (by omega)
                have hvv := hv
                simp only [Value.slice.injEq] at hvv
                obtain ⟨rfl, _, rfl⟩ := hvv
                obtain ⟨o, ho⟩ : ∃ o, B.outs[q]? = some o := ⟨_, List.getElem?_eq_getElem hqn⟩
                have hom := List.mem_of_getElem? ho
                have hownq := own_fr HOY.out hfq (fun k hk hn => hn (HZY.out k hk))
                have hrq := out_range hownq rfl ho
                have hrq' : wr.rangeAt gr (q * 17) [.int .i64 o.port, .int .i64 o.m.kind, .int .u64 o.m.v.root, .int .u64 o.m.v.cost, .int .u64 o.m.v.bridge, .int .i64 o.m.v.port, .bool o.m.change, .bool o.m.ack, .bool o.m.proposal, .bool o.m.agreement, .bool o.m.learning, .bool o.m.forwarding, .int .i64 o.m.role, .int .i64 o.m.age, .int .i64 o.m.maxAge, .int .i64 o.m.hello, .int .i64 o.m.delay] := hrq
                have HO := Lib.hid ho
                have HOM := Lib.hid hom
                have hLq := RowsB.fr HL2.out hfq (fun hn => hn HZL.out)
                clear hrq ho hom hownq hltr hv
                go_upto_region 19 with (refine wpList_load_mid rfl 43 _ rfl gr (q * 17) rfl _ _ hrq' Try.underlying43 rfl sz43 ?_)
                have ha := (Below.refl wr.heap.size wr).alloc (Nat.le_refl _) (.cells #[.int .i64 o.port, .int .i64 o.m.kind, .int .u64 o.m.v.root, .int .u64 o.m.v.cost, .int .u64 o.m.v.bridge, .int .i64 o.m.v.port, .bool o.m.change, .bool o.m.ack, .bool o.m.proposal, .bool o.m.agreement, .bool o.m.learning, .bool o.m.forwarding, .int .i64 o.m.role, .int .i64 o.m.age, .int .i64 o.m.maxAge, .int .i64 o.m.hello, .int .i64 o.m.delay] 43)
                have hqb := Blk.new wr #[.int .i64 o.port, .int .i64 o.m.kind, .int .u64 o.m.v.root, .int .u64 o.m.v.cost, .int .u64 o.m.v.bridge, .int .i64 o.m.v.port, .bool o.m.change, .bool o.m.ack, .bool o.m.proposal, .bool o.m.agreement, .bool o.m.learning, .bool o.m.forwarding, .int .i64 o.m.role, .int .i64 o.m.age, .int .i64 o.m.maxAge, .int .i64 o.m.hello, .int .i64 o.m.delay] 43
                change Code.wp _ _ _ _ (wr.alloc (.cells #[.int .i64 o.port, .int .i64 o.m.kind, .int .u64 o.m.v.root, .int .u64 o.m.v.cost, .int .u64 o.m.v.bridge, .int .i64 o.m.v.port, .bool o.m.change, .bool o.m.ack, .bool o.m.proposal, .bool o.m.agreement, .bool o.m.learning, .bool o.m.forwarding, .int .i64 o.m.role, .int .i64 o.m.age, .int .i64 o.m.maxAge, .int .i64 o.m.hello, .int .i64 o.m.delay] 43))
                generalize wr.alloc (.cells #[.int .i64 o.port, .int .i64 o.m.kind, .int .u64 o.m.v.root, .int .u64 o.m.v.cost, .int .u64 o.m.v.bridge, .int .i64 o.m.v.port, .bool o.m.change, .bool o.m.ack, .bool o.m.proposal, .bool o.m.agreement, .bool o.m.learning, .bool o.m.forwarding, .int .i64 o.m.role, .int .i64 o.m.age, .int .i64 o.m.maxAge, .int .i64 o.m.hello, .int .i64 o.m.delay] 43) = W at ha hqb ⊢
                generalize hb10 : wr.heap.size = b10 at hqb
                have HTW := Lib.hid (HTq.out.keep ha (by omega) hqb.lt)
                have HLW := Lib.hid (hLq.below ha)
                have HFW : Hid (FrZ Z2 w8 W) := Lib.hid (hfq.trans (Fr.of_below ha))
                have HQB := Lib.hid hqb
                clear ha hqb hb10 hrq' hLq hfq HTq
                go_wp2
                go_loopg [64] n (fun gh s64 wx => ∃ j : Nat, j + gh = n ∧ s64 = .int .i64 (j : Int) ∧ Two wx ta (upto (rstep o) j (recvs n (B.outs.take q) (outsF A))) tb B1 (fun k => Z2 k ∨ k = b10) ∧ FrZ (fun k => Z2 k ∨ k = b10) W wx)
                case atStart => exact ⟨0, by omega, rfl, HTW.out, Fr.refl _ _⟩
                case round =>
                  obtain ⟨j, hjg, rfl, hTj, hfj⟩ := hrel
                  have HTj := Lib.hid hTj
                  clear hTj
                  cases gk with
                  | zero =>
                    have hjM : ¬ ((j : Int) < (n : Int)) := by omega
                    obtain rfl : j = n := by omega
                    go_wp2
                    go_roundg gq
                    case measure => omega
                    case rel => exact ⟨q + 1, by omega, by go_num, by rw [recvs_take j B.outs _ HO.out]; exact HTj.out.more fun k hk => .inl hk, HFW.out.trans (hfj.mono fun k _ hk hz => hk (.inl hz))⟩
                  | succ gj =>
                    have hjM : (j : Int) < (n : Int) := by omega
                    have hjn : j < n := by omega
                    have hr2 := link_range (RowsB.fr HLW.out hfj (fun hn => hn (.inl HZL.out))) hjn
                    have OKj := Lib.hid (rstep_ok hn6.out (fun x hx => (GB.out.o x hx).1) GB.out.len (GA.out.ok.outs0) q HOM.out (Nat.le_of_lt hjn))
                    have hvo := (GB.out.o o HOM.out).1
                    have hqj := hfj.blk HQB.out (.inr rfl)
                    obtain ⟨R, hR⟩ : ∃ R, upto (rstep o) j (recvs n (B.outs.take q) (outsF A)) = R := ⟨_, rfl⟩
                    have hS : upto (rstep o) (j + 1) (recvs n (B.outs.take q) (outsF A)) = rstep o j R := by rw [← hR]; rfl
                    rw [hR] at HTj OKj
                    have HS := Lib.hid hS
                    clear hR hS
                    go_upto_region 22 with (refine wpList_load_mid rfl 63 _ rfl lb (j * 2) rfl _ _ hr2 Try.underlying63 rfl sz63 ?_)
                    have ha := (Below.refl wr.heap.size wr).alloc (Nat.le_refl _) (.cells #[.int .i64 (j : Int), .int .i64 (j : Int)] 63)
                    have hq2 := Blk.new wr #[.int .i64 (j : Int), .int .i64 (j : Int)] 63
                    change Code.wp _ _ _ _ (wr.alloc (.cells #[.int .i64 (j : Int), .int .i64 (j : Int)] 63))
                    generalize wr.alloc (.cells #[.int .i64 (j : Int), .int .i64 (j : Int)] 63) = W2 at ha hq2 ⊢
                    have HT2 := Lib.hid (HTj.out.below ha)
                    have HF2 : Hid (FrZ (fun k => Z2 k ∨ k = b10) W W2) := Lib.hid (hfj.trans (Fr.of_below ha))
                    have hq3 := hqj.below ha hqj.lt
                    clear ha hr2 hqj hfj HTj
                    generalize wr.heap.size = b12 at hq2 ⊢
                    have e0 : W2.cell? ⟨b12, 0, none⟩ = some (.int .i64 (j : Int)) := by rw [hq2.cell]; rfl
                    have e1 : W2.cell? ⟨b12, 1, none⟩ = some (.int .i64 (j : Int)) := by rw [hq2.cell]; rfl
                    have c0 : W2.cell? ⟨b10, 0, none⟩ = some (.int .i64 o.port) := by rw [hq3.cell]; rfl
                    have q1 : W2.rangeAt b10 1 [.int .i64 o.m.kind, .int .u64 o.m.v.root, .int .u64 o.m.v.cost, .int .u64 o.m.v.bridge, .int .i64 o.m.v.port, .bool o.m.change, .bool o.m.ack, .bool o.m.proposal, .bool o.m.agreement, .bool o.m.learning, .bool o.m.forwarding, .int .i64 o.m.role, .int .i64 o.m.age, .int .i64 o.m.maxAge, .int .i64 o.m.hello, .int .i64 o.m.delay] := fun j v hj => by
                      have := hq3.range (1 + j) v (by rw [Nat.add_comm]; exact hj)
                      rw [Nat.zero_add] at this
                      exact this
                    clear hq2 hq3
                    by_cases hp : (j : Int) = o.port
                    · have hpb : ((j : Int) == o.port) = true := by rw [hp]; simp
                      have hrv : Hid (∀ w' Z', TAt w' ta R Z' → Calls Try.prog 30 #[.pointer (some ⟨ta, 0, none⟩), .int .i64 (j : Int), .agg #[.int .i64 o.m.kind, .int .u64 o.m.v.root, .int .u64 o.m.v.cost, .int .u64 o.m.v.bridge, .int .i64 o.m.v.port, .bool o.m.change, .bool o.m.ack, .bool o.m.proposal, .bool o.m.agreement, .bool o.m.learning, .bool o.m.forwarding, .int .i64 o.m.role, .int .i64 o.m.age, .int .i64 o.m.maxAge, .int .i64 o.m.hello, .int .i64 o.m.delay]] w' (AtPost w' ta (rstep o j R) Z')) := Lib.hid fun w' Z' h => receive_at h (j : Int) o.m hvo OKj.out _ (rstep_yes hp R).symm
                      clear hp hvo
                      go_wp2_with (first
                        | (refine wpList_load_mid rfl 41 _ rfl b10 1 rfl _ _ q1 Try.underlying41 rfl sz41 ?_)
                        | (go_at_call 30; (with_reducible refine (two_first HT2.out (hrv.out _)).mono ?_); rintro e w9 ⟨rfl, hT9, hf9⟩))
                      go_roundg gj
                      case measure => omega
                      case rel => exact ⟨j + 1, by omega, by go_num, by rw [HS.out]; exact hT9, HF2.out.trans hf9⟩
                    · have hpb : ((j : Int) == o.port) = false := by simpa using hp
                      have hno := rstep_no hp R
                      clear hp hvo
                      go_wp2
                      go_roundg gj
                      case measure => omega
                      case rel => exact ⟨j + 1, by omega, by go_num, by rw [HS.out, hno]; exact HT2.out, HF2.out⟩
          | succ gq =>
            have hqM : (q : Int) < (A.outs.length : Int) := by omega
            have hqn : q < A.outs.length := by omega
            obtain ⟨gr, cr, hv, _, hltr, _, _⟩ := own_at HOX.out (by omega)
            have hvv := hv
            simp only [Value.slice.injEq] at hvv
            obtain ⟨rfl, _, rfl⟩ := hvv
            obtain ⟨o, ho⟩ : ∃ o, A.outs[q]? = some o := ⟨_, List.getElem?_eq_getElem hqn⟩
            have hom := List.mem_of_getElem? ho
            have hownq := own_fr HOX.out hfq (fun k hk hn => hn (HZX.out k hk))
            have hrq := out_range hownq rfl ho
            have hrq' : wr.rangeAt gr (q * 17) [.int .i64 o.port, .int .i64 o.m.kind, .int .u64 o.m.v.root, .int .u64 o.m.v.cost, .int .u64 o.m.v.bridge, .int .i64 o.m.v.port, .bool o.m.change, .bool o.m.ack, .bool o.m.proposal, .bool o.m.agreement, .bool o.m.learning, .bool o.m.forwarding, .int .i64 o.m.role, .int .i64 o.m.age, .int .i64 o.m.maxAge, .int .i64 o.m.hello, .int .i64 o.m.delay] := hrq
            have HO := Lib.hid ho
            have HOM := Lib.hid hom
            have hLq := RowsB.fr HL2.out hfq (fun hn => hn HZL.out)
            clear hrq ho hom hownq hltr hv
            go_upto_region 9 with (refine wpList_load_mid rfl 43 _ rfl gr (q * 17) rfl _ _ hrq' Try.underlying43 rfl sz43 ?_)
            have ha := (Below.refl wr.heap.size wr).alloc (Nat.le_refl _) (.cells #[.int .i64 o.port, .int .i64 o.m.kind, .int .u64 o.m.v.root, .int .u64 o.m.v.cost, .int .u64 o.m.v.bridge, .int .i64 o.m.v.port, .bool o.m.change, .bool o.m.ack, .bool o.m.proposal, .bool o.m.agreement, .bool o.m.learning, .bool o.m.forwarding, .int .i64 o.m.role, .int .i64 o.m.age, .int .i64 o.m.maxAge, .int .i64 o.m.hello, .int .i64 o.m.delay] 43)
            have hqb := Blk.new wr #[.int .i64 o.port, .int .i64 o.m.kind, .int .u64 o.m.v.root, .int .u64 o.m.v.cost, .int .u64 o.m.v.bridge, .int .i64 o.m.v.port, .bool o.m.change, .bool o.m.ack, .bool o.m.proposal, .bool o.m.agreement, .bool o.m.learning, .bool o.m.forwarding, .int .i64 o.m.role, .int .i64 o.m.age, .int .i64 o.m.maxAge, .int .i64 o.m.hello, .int .i64 o.m.delay] 43
            change Code.wp _ _ _ _ (wr.alloc (.cells #[.int .i64 o.port, .int .i64 o.m.kind, .int .u64 o.m.v.root, .int .u64 o.m.v.cost, .int .u64 o.m.v.bridge, .int .i64 o.m.v.port, .bool o.m.change, .bool o.m.ack, .bool o.m.proposal, .bool o.m.agreement, .bool o.m.learning, .bool o.m.forwarding, .int .i64 o.m.role, .int .i64 o.m.age, .int .i64 o.m.maxAge, .int .i64 o.m.hello, .int .i64 o.m.delay] 43))
            generalize wr.alloc (.cells #[.int .i64 o.port, .int .i64 o.m.kind, .int .u64 o.m.v.root, .int .u64 o.m.v.cost, .int .u64 o.m.v.bridge, .int .i64 o.m.v.port, .bool o.m.change, .bool o.m.ack, .bool o.m.proposal, .bool o.m.agreement, .bool o.m.learning, .bool o.m.forwarding, .int .i64 o.m.role, .int .i64 o.m.age, .int .i64 o.m.maxAge, .int .i64 o.m.hello, .int .i64 o.m.delay] 43) = W at ha hqb ⊢
            generalize hb10 : wr.heap.size = b10 at hqb
            have HTW := Lib.hid (HTq.out.keep ha (by omega) hqb.lt)
            have HLW := Lib.hid (hLq.below ha)
            have HFW : Hid (FrZ Z2 w7 W) := Lib.hid (hfq.trans (Fr.of_below ha))
            have HQB := Lib.hid hqb
            clear ha hqb hb10 hrq' hLq hfq HTq
            go_wp2
            go_loopg [39] n (fun gh s39 wx => ∃ j : Nat, j + gh = n ∧ s39 = .int .i64 (j : Int) ∧ Two wx ta (outsF A) tb (upto (rstep o) j (recvs n (A.outs.take q) (outsF B))) (fun k => Z2 k ∨ k = b10) ∧ FrZ (fun k => Z2 k ∨ k = b10) W wx)
            case atStart => exact ⟨0, by omega, rfl, HTW.out, Fr.refl _ _⟩
            case round =>
              obtain ⟨j, hjg, rfl, hTj, hfj⟩ := hrel
              have HTj := Lib.hid hTj
              clear hTj
              cases gk with
              | zero =>
                have hjM : ¬ ((j : Int) < (n : Int)) := by omega
                obtain rfl : j = n := by omega
                go_wp2
                go_roundg gq
                case measure => omega
                case rel => exact ⟨q + 1, by omega, by go_num, by rw [recvs_take j A.outs _ HO.out]; exact HTj.out.more fun k hk => .inl hk, HFW.out.trans (hfj.mono fun k _ hk hz => hk (.inl hz))⟩
              | succ gj =>
                have hjM : (j : Int) < (n : Int) := by omega
                have hjn : j < n := by omega
                have hr2 := link_range (RowsB.fr HLW.out hfj (fun hn => hn (.inl HZL.out))) hjn
                have OKj := Lib.hid (rstep_ok hn6.out (fun x hx => (GA.out.o x hx).1) GA.out.len (GB.out.ok.outs0) q HOM.out (Nat.le_of_lt hjn))
                have hvo := (GA.out.o o HOM.out).1
                have hqj := hfj.blk HQB.out (.inr rfl)
                obtain ⟨R, hR⟩ : ∃ R, upto (rstep o) j (recvs n (A.outs.take q) (outsF B)) = R := ⟨_, rfl⟩
                have hS : upto (rstep o) (j + 1) (recvs n (A.outs.take q) (outsF B)) = rstep o j R := by rw [← hR]; rfl
                rw [hR] at HTj OKj
                have HS := Lib.hid hS
                clear hR hS
                go_upto_region 12 with (refine wpList_load_mid rfl 63 _ rfl lb (j * 2) rfl _ _ hr2 Try.underlying63 rfl sz63 ?_)
                have ha := (Below.refl wr.heap.size wr).alloc (Nat.le_refl _) (.cells #[.int .i64 (j : Int), .int .i64 (j : Int)] 63)
                have hq2 := Blk.new wr #[.int .i64 (j : Int), .int .i64 (j : Int)] 63
                change Code.wp _ _ _ _ (wr.alloc (.cells #[.int .i64 (j : Int), .int .i64 (j : Int)] 63))
                generalize wr.alloc (.cells #[.int .i64 (j : Int), .int .i64 (j : Int)] 63) = W2 at ha hq2 ⊢
                have HT2 := Lib.hid (HTj.out.below ha)
                have HF2 : Hid (FrZ (fun k => Z2 k ∨ k = b10) W W2) := Lib.hid (hfj.trans (Fr.of_below ha))
                have hq3 := hqj.below ha hqj.lt
                clear ha hr2 hqj hfj HTj
                generalize wr.heap.size = b12 at hq2 ⊢
                have e0 : W2.cell? ⟨b12, 0, none⟩ = some (.int .i64 (j : Int)) := by rw [hq2.cell]; rfl
                have e1 : W2.cell? ⟨b12, 1, none⟩ = some (.int .i64 (j : Int)) := by rw [hq2.cell]; rfl
                have c0 : W2.cell? ⟨b10, 0, none⟩ = some (.int .i64 o.port) := by rw [hq3.cell]; rfl
                have q1 : W2.rangeAt b10 1 [.int .i64 o.m.kind, .int .u64 o.m.v.root, .int .u64 o.m.v.cost, .int .u64 o.m.v.bridge, .int .i64 o.m.v.port, .bool o.m.change, .bool o.m.ack, .bool o.m.proposal, .bool o.m.agreement, .bool o.m.learning, .bool o.m.forwarding, .int .i64 o.m.role, .int .i64 o.m.age, .int .i64 o.m.maxAge, .int .i64 o.m.hello, .int .i64 o.m.delay] := fun j v hj => by
                  have := hq3.range (1 + j) v (by rw [Nat.add_comm]; exact hj)
                  rw [Nat.zero_add] at this
                  exact this
                clear hq2 hq3
                by_cases hp : (j : Int) = o.port
                · have hpb : ((j : Int) == o.port) = true := by rw [hp]; simp
                  have hrv : Hid (∀ w' Z', TAt w' tb R Z' → Calls Try.prog 30 #[.pointer (some ⟨tb, 0, none⟩), .int .i64 (j : Int), .agg #[.int .i64 o.m.kind, .int .u64 o.m.v.root, .int .u64 o.m.v.cost, .int .u64 o.m.v.bridge, .int .i64 o.m.v.port, .bool o.m.change, .bool o.m.ack, .bool o.m.proposal, .bool o.m.agreement, .bool o.m.learning, .bool o.m.forwarding, .int .i64 o.m.role, .int .i64 o.m.age, .int .i64 o.m.maxAge, .int .i64 o.m.hello, .int .i64 o.m.delay]] w' (AtPost w' tb (rstep o j R) Z')) := Lib.hid fun w' Z' h => receive_at h (j : Int) o.m hvo OKj.out _ (rstep_yes hp R).symm
                  clear hp hvo
                  go_wp2_with (first
                    | (refine wpList_load_mid rfl 41 _ rfl b10 1 rfl _ _ q1 Try.underlying41 rfl sz41 ?_)
                    | (go_at_call 30; (with_reducible refine (two_second HT2.out (hrv.out _)).mono ?_); rintro e w9 ⟨rfl, hT9, hf9⟩))
                  go_roundg gj
                  case measure => omega
                  case rel => exact ⟨j + 1, by omega, by go_num, by rw [HS.out]; exact hT9, HF2.out.trans hf9⟩
                · have hpb : ((j : Int) == o.port) = false := by simpa using hp
                  have hno := rstep_no hp R
                  clear hp hvo
                  go_wp2
                  go_roundg gj
                  case measure => omega
                  case rel => exact ⟨j + 1, by omega, by go_num, by rw [HS.out, hno]; exact HT2.out, HF2.out⟩
end Go.Proofs.Ytjnbjcieepooaac
