/- send and tell of package tree, by their contracts. -/
import Derived.Test.YtjnbjcieepooaacTW3
import Derived.Test.YtjnbjcieepooaacTInv
namespace Go.Proofs.Ytjnbjcieepooaac
open Go.RowKit
set_option linter.unusedVariables false
set_option linter.unusedSimpArgs false

theorem info43 : (Try.prog.info? 43).map (fun i => (i.zero, i.size, i.bytes)) = some (some (.agg #[.int .i64 0, .int .i64 0, .int .u64 0, .int .u64 0, .int .u64 0, .int .i64 0, .bool false, .bool false, .bool false, .bool false, .bool false, .bool false, .int .i64 0, .int .i64 0, .int .i64 0, .int .i64 0, .int .i64 0]), 17, 96) := by kernel_rfl
/-- A message more. -/
theorem send_end {w wa w1 : World} {B : TB} {T : Tr} (o : OutM) (v' : Value) (hT : TreeW w B T) (ha : Below w.heap.size w wa) (hown : w1.ownsRow 0 43 17 v' (T.outs.length + 1) (outsL T.outs ++ o.cells)) (hfr : Fr (InRow B.ov) wa w1) (hin : ∀ k, InRow v' k → InRow B.ov k ∨ wa.heap.size ≤ k) :
    TreeW (w1.setCell ⟨B.tb, 10, none⟩ v') { B with ov := v' } { T with outs := T.outs ++ [o] } ∧ TStep w B T.n (w1.setCell ⟨B.tb, 10, none⟩ v') { B with ov := v' } := by
  have hTa := hT.below ha
  have hne := hTa.tb_ne
  have hcs : TStep w B T.n w1 B := (TStep.below B T.n ha).trans ⟨hfr.mono fun k _ hk => .inr (.inr (.inr (.inr (.inr hk)))), rfl, fun k hk => .inl hk⟩
  have hnv : ∀ k, InRow v' k → k ≠ B.tb := fun k hk e => by
    subst e
    rcases hin _ hk with h | h
    · exact hne.2.2.2.2 h
    · have := hTa.t.lt; omega
  have hfs : Fr (fun k => k = B.tb) w1 (w1.setCell ⟨B.tb, 10, none⟩ v') := (Fr.refl (fun k => k = B.tb) w1).set (p := ⟨B.tb, 10, none⟩) (.inl rfl) v'
  refine ⟨⟨?_, fun hn => ?_, ?_, ?_, ?_, ?_⟩, ⟨hcs.fr.trans (hfs.mono fun k _ e => .inl e), rfl, fun k hk => ?_⟩⟩
  · exact (hTa.t.fr hfr hne.2.2.2.2).set 10 v'
  · obtain ⟨a, b⟩ := hTa.p hn
    exact ⟨a, (b.fr hfr (own_ne_rows hTa.o b (by decide))).fr hfs (hne.1 hn).symm⟩
  · exact (hTa.r.fr hfr (own_ne_rows hTa.o hTa.r (by decide))).fr hfs hne.2.1.symm
  · exact (hTa.l.fr hfr (own_ne_rows hTa.o hTa.l (by decide))).fr hfs hne.2.2.1.symm
  · exact (hTa.f.fr hfr (own_ne_rows hTa.o hTa.f (by decide))).fr hfs hne.2.2.2.1.symm
  · have h2 := own_fr hown hfs hnv
    show World.ownsRow _ _ _ _ _ (T.outs ++ [o]).length (outsL (T.outs ++ [o]))
    rw [List.length_append, outsL, List.flatMap_append]
    simpa [outsL] using h2
  · rcases hk with h | h | h | h | h | h
    · exact .inl (.inl h)
    · exact .inl (.inr (.inl h))
    · exact .inl (.inr (.inr (.inl h)))
    · exact .inl (.inr (.inr (.inr (.inl h))))
    · exact .inl (.inr (.inr (.inr (.inr (.inl h)))))
    · rcases hin _ h with h1 | h1
      · exact .inl (.inr (.inr (.inr (.inr (.inr h1)))))
      · exact .inr (Nat.le_trans ha.size h1)
theorem held_alloc {w : World} {b : Nat} {cs : Array Value} {t : TypeId} (h : Blk w b cs t ∧ ∀ o, w.cell? ⟨b, o, none⟩ = cs[o]?) (o : Obj) : Blk (w.alloc o) b cs t ∧ ∀ i, (w.alloc o).cell? ⟨b, i, none⟩ = cs[i]? := ⟨h.1.alloc o, (h.1.alloc o).cell⟩
theorem held_set {w : World} {b : Nat} {cs : Array Value} {t : TypeId} {g o : Nat} (h : Blk w b cs t ∧ ∀ o, w.cell? ⟨b, o, none⟩ = cs[o]?) (hne : b ≠ g) (v : Value) : Blk (w.setCell ⟨g, o, none⟩ v) b cs t ∧ ∀ i, (w.setCell ⟨g, o, none⟩ v).cell? ⟨b, i, none⟩ = cs[i]? := ⟨h.1.set_other hne v, (h.1.set_other hne v).cell⟩
theorem held_fr {w w' : World} {b : Nat} {cs : Array Value} {t : TypeId} {m : Nat → Prop} (h : Blk w b cs t ∧ ∀ o, w.cell? ⟨b, o, none⟩ = cs[o]?) (hf : Fr m w w') (hm : ¬ m b) : Blk w' b cs t ∧ ∀ i, w'.cell? ⟨b, i, none⟩ = cs[i]? := ⟨h.1.fr hf hm, (h.1.fr hf hm).cell⟩
theorem held_drew {w : World} {b : Nat} {cs : Array Value} {t : TypeId} (h : Blk w b cs t) : Blk w.drew b cs t ∧ ∀ o, w.drew.cell? ⟨b, o, none⟩ = cs[o]? := ⟨h.drewN 1, (h.drewN 1).cell⟩
/-- What send leaves: nothing but the messages' row lies elsewhere. -/
def SPost (w : World) (B : TB) (n : Nat) (U : Tr) (e : Ending) (w' : World) : Prop := ∃ v, e = .returned (.tuple #[]) ∧ TreeW w' { B with ov := v } U ∧ TStep w B n w' { B with ov := v }
theorem SPost.post {w : World} {B : TB} {n : Nat} {U : Tr} {e : Ending} {w' : World} (h : SPost w B n U e w') : TPost w B n U e w' := by obtain ⟨v, h⟩ := h; exact ⟨_, h⟩
theorem send_no {T : Tr} {i : Nat} {b : Bool} (h : chkF (msgF T i) = false) : sendF i b T = T := if_neg (by rw [h]; simp)
theorem send_yes {T : Tr} {i : Nat} {b : Bool} (h : chkF (msgF T i) = true) : sendF i b T = { T with outs := T.outs ++ [⟨(i : Int), { msgF T i with agreement := b }⟩] } := if_pos h
set_option maxRecDepth 8000 in
set_option maxHeartbeats 4000000 in
theorem send_calls (T : Tr) (B : TB) (i : Nat) (b : Bool) (hi : i < T.n) (hok : TOk T 1) (w : World) (hT : TreeW w B T) (U : Tr) (hU : sendF i b T = U) :
    Calls Try.prog 49 #[.pointer (some ⟨B.tb, 0, none⟩), .int .i64 (i : Int), .bool b] w (SPost w B T.n U) := by
  have HU := Lib.hid hU
  have HT := Lib.hid hT
  have HN := Lib.hid hok.n
  have HP := Lib.hid hok.rp
  have hR := hok.room
  have qt := hT.own
  have ft := hT.t.free
  have lt := hT.t.lt
  clear hU hT hok
  obtain ⟨x, hx⟩ : ∃ x, chkF (msgF T i) = x := ⟨_, rfl⟩
  obtain ⟨M, hM⟩ : ∃ M, msgF T i = M := ⟨_, rfl⟩
  have hmsg : Hid (Calls Try.prog 56 #[.pointer (some ⟨B.tb, 0, none⟩), .int .i64 (i : Int)] w fun e w' => e = .returned (.tuple #[.agg M.cells, .bool x]) ∧ Below w.heap.size w w') := by
    rw [← hM]; exact message_calls T B i hi HN.out HP.out w HT.out x hx
  simp only [Msg.cells] at hmsg
  cases x with
  | false =>
    rw [send_no hx] at HU
    clear hx hM
    go_enter Try.func49, Try.ntmps49
    go_wp2_with (go_at_call 56; (with_reducible refine (hmsg.out).mono ?_); rintro e w' ⟨rfl, hb⟩)
    all_goals
      refine bodyPost_ret (results_none rfl _ _ _) rfl ?_
      have h2 := hb.alloc hb.size (.cells #[.int .i64 M.kind, .int .u64 M.v.root, .int .u64 M.v.cost, .int .u64 M.v.bridge, .int .i64 M.v.port, .bool M.change, .bool M.ack, .bool M.proposal, .bool M.agreement, .bool M.learning, .bool M.forwarding, .int .i64 M.role, .int .i64 M.age, .int .i64 M.maxAge, .int .i64 M.hello, .int .i64 M.delay] 41)
      exact ⟨B.ov, rfl, by rw [← HU.out]; exact HT.out.below h2, TStep.below _ _ h2⟩
  | true =>
    rw [send_yes hx, hM] at HU
    clear hx hM
    go_enter Try.func49, Try.ntmps49
    go_upto_region 3 with (go_at_call 56; (with_reducible refine (hmsg.out).mono ?_); rintro e w' ⟨rfl, hb⟩)
    have hB := Blk.new w' #[.int .i64 M.kind, .int .u64 M.v.root, .int .u64 M.v.cost, .int .u64 M.v.bridge, .int .i64 M.v.port, .bool M.change, .bool M.ack, .bool M.proposal, .bool b, .bool M.learning, .bool M.forwarding, .int .i64 M.role, .int .i64 M.age, .int .i64 M.maxAge, .int .i64 M.hello, .int .i64 M.delay] 41
    have hbw := hb.alloc hb.size (.cells #[.int .i64 M.kind, .int .u64 M.v.root, .int .u64 M.v.cost, .int .u64 M.v.bridge, .int .i64 M.v.port, .bool M.change, .bool M.ack, .bool M.proposal, .bool b, .bool M.learning, .bool M.forwarding, .int .i64 M.role, .int .i64 M.age, .int .i64 M.maxAge, .int .i64 M.hello, .int .i64 M.delay] 41)
    have e6 : B.tb ≠ w'.heap.size := by have := hb.size; omega
    change Code.wp _ _ _ _ (w'.alloc (.cells #[.int .i64 M.kind, .int .u64 M.v.root, .int .u64 M.v.cost, .int .u64 M.v.bridge, .int .i64 M.v.port, .bool M.change, .bool M.ack, .bool M.proposal, .bool b, .bool M.learning, .bool M.forwarding, .int .i64 M.role, .int .i64 M.age, .int .i64 M.maxAge, .int .i64 M.hello, .int .i64 M.delay] 41))
    generalize w'.alloc (.cells #[.int .i64 M.kind, .int .u64 M.v.root, .int .u64 M.v.cost, .int .u64 M.v.bridge, .int .i64 M.v.port, .bool M.change, .bool M.ack, .bool M.proposal, .bool b, .bool M.learning, .bool M.forwarding, .int .i64 M.role, .int .i64 M.age, .int .i64 M.maxAge, .int .i64 M.hello, .int .i64 M.delay] 41) = W at hB hbw ⊢
    generalize w'.heap.size = b6 at hB e6 ⊢
    clear hb hmsg qt ft
    have hTW := HT.out.below hbw
    have qt := hTW.own
    have ft := hTW.t.free
    have lt := hTW.t.lt
    have hTW2 := (hTW.drew).alloc (.cells [.int .i64 (i : Int), .int .i64 M.kind, .int .u64 M.v.root, .int .u64 M.v.cost, .int .u64 M.v.bridge, .int .i64 M.v.port, .bool M.change, .bool M.ack, .bool M.proposal, .bool b, .bool M.learning, .bool M.forwarding, .int .i64 M.role, .int .i64 M.age, .int .i64 M.maxAge, .int .i64 M.hello, .int .i64 M.delay].toArray 43)
    have HT2 := Lib.hid hTW2
    have hnr : Hid (¬ InRow B.ov b6) := Lib.hid (own_ne_blk hTW.o hB (by decide))
    clear hTW hTW2
    refine wp_region_held_drew (S := fun w' => Blk w' b6 #[.int .i64 M.kind, .int .u64 M.v.root, .int .u64 M.v.cost, .int .u64 M.v.bridge, .int .i64 M.v.port, .bool M.change, .bool M.ack, .bool M.proposal, .bool b, .bool M.learning, .bool M.forwarding, .int .i64 M.role, .int .i64 M.age, .int .i64 M.maxAge, .int .i64 M.hello, .int .i64 M.delay] 41 ∧ ∀ o, w'.cell? ⟨b6, o, none⟩ = (#[.int .i64 M.kind, .int .u64 M.v.root, .int .u64 M.v.cost, .int .u64 M.v.bridge, .int .i64 M.v.port, .bool M.change, .bool M.ack, .bool M.proposal, .bool b, .bool M.learning, .bool M.forwarding, .int .i64 M.role, .int .i64 M.age, .int .i64 M.maxAge, .int .i64 M.hello, .int .i64 M.delay] : Array Value)[o]?) (by kernel_rfl) (held_drew hB) (fun hS => ?_)
    refine wpAnyH_take (i := 0) (v := .pointer (some ⟨B.tb, 0, none⟩)) (show _ = some (Oper.mk (some 18) _ _ _ _ _) from rfl) (by kernel_rfl) (by kernel_rfl) (by kernel_rfl) (fun _ _ _ h => h) (Or.inl ⟨by rfl, by intro w hSw; go_simp⟩) hS ?_
    try simp only [Act.put, List.setIfInBounds_toArray, List.set_cons_zero, List.set_cons_succ]
    refine wpAnyH_take (i := 1) (v := .pointer (some ⟨B.tb, 0, none⟩)) (show _ = some (Oper.mk (some 19) _ _ _ _ _) from rfl) (by kernel_rfl) (by kernel_rfl) (by kernel_rfl) (fun _ _ _ h => h) (Or.inl ⟨by rfl, by intro w hSw; go_simp⟩) hS ?_
    try simp only [Act.put, List.setIfInBounds_toArray, List.set_cons_zero, List.set_cons_succ]
    refine wpAnyH_take (i := 2) (v := .pointer (some ⟨B.tb, 0, none⟩)) (show _ = some (Oper.mk (some 20) _ _ _ _ _) from rfl) (by kernel_rfl) (by kernel_rfl) (by kernel_rfl) (fun _ _ _ h => h) (Or.inl ⟨by rfl, by intro w hSw; go_simp⟩) hS ?_
    try simp only [Act.put, List.setIfInBounds_toArray, List.set_cons_zero, List.set_cons_succ]
    refine wpAnyH_take (i := 3) (v := .pointer (some ⟨B.tb, 10, none⟩)) (show _ = some (Oper.mk (some 21) _ _ _ _ _) from rfl) (by kernel_rfl) (by kernel_rfl) (by kernel_rfl) (fun _ _ _ h => h) (Or.inl ⟨by rfl, by intro w hSw; go_simp⟩) hS ?_
    try simp only [Act.put, List.setIfInBounds_toArray, List.set_cons_zero, List.set_cons_succ]
    refine wpAnyH_take (i := 5) (v := .int .i64 (i : Int)) (show _ = some (Oper.mk (some 23) _ _ _ _ _) from rfl) (by kernel_rfl) (by kernel_rfl) (by kernel_rfl) (fun _ _ _ h => h) (Or.inl ⟨by rfl, by intro w hSw; go_simp⟩) hS ?_
    try simp only [Act.put, List.setIfInBounds_toArray, List.set_cons_zero, List.set_cons_succ]
    refine wpAnyH_take (i := 6) (show _ = some (Oper.mk (some 24) _ _ _ _ _) from rfl) (by kernel_rfl) (by kernel_rfl) (by kernel_rfl) (fun _ _ _ h => h) (yieldsIf_load_blk (by rfl) 41 _ rfl b6 rfl 41 #[.int .i64 M.kind, .int .u64 M.v.root, .int .u64 M.v.cost, .int .u64 M.v.bridge, .int .i64 M.v.port, .bool M.change, .bool M.ack, .bool M.proposal, .bool b, .bool M.learning, .bool M.forwarding, .int .i64 M.role, .int .i64 M.age, .int .i64 M.maxAge, .int .i64 M.hello, .int .i64 M.delay] _ (fun _ h => h.1) Try.underlying41 rfl sz41) hS ?_
    try simp only [Act.put, List.setIfInBounds_toArray, List.set_cons_zero, List.set_cons_succ]
    refine wpAnyH_take (i := 7) (v := .agg #[.int .i64 (i : Int), .int .i64 M.kind, .int .u64 M.v.root, .int .u64 M.v.cost, .int .u64 M.v.bridge, .int .i64 M.v.port, .bool M.change, .bool M.ack, .bool M.proposal, .bool b, .bool M.learning, .bool M.forwarding, .int .i64 M.role, .int .i64 M.age, .int .i64 M.maxAge, .int .i64 M.hello, .int .i64 M.delay]) (show _ = some (Oper.mk (some 25) _ _ _ _ _) from rfl) (by kernel_rfl) (by kernel_rfl) (by kernel_rfl) (fun _ _ _ h => h) (Or.inl ⟨by rfl, by intro w hSw; go_simp⟩) hS ?_
    try simp only [Act.put, List.setIfInBounds_toArray, List.set_cons_zero, List.set_cons_succ]
    refine wpAnyH_ready (rs := [4, 8]) (by kernel_rfl) (by simp) ?_
    refine AllReadyH.cons (show _ = some (Oper.mk (some 22) _ _ _ _ _) from rfl) (fun K hK => ?_) (AllReadyH.cons (show _ = some (Oper.mk (some 26) _ _ _ _ _) from rfl) (fun K hK => ?_) AllReadyH.nil)
    · go_simp
      refine hK.out _ _ hS (fun hS => ?_)
      clear hK K
      try simp only [Act.put, List.setIfInBounds_toArray, List.set_cons_zero, List.set_cons_succ]
      refine wpAnyH_ready (rs := [8]) (by kernel_rfl) (by simp) ?_
      refine AllReadyH.cons (show _ = some (Oper.mk (some 26) _ _ _ _ _) from rfl) (fun K hK => ?_) AllReadyH.nil
      go_simp
      refine hK.out _ _ (held_alloc hS _) (fun hS => ?_)
      clear hK K
      try simp only [Act.put, List.setIfInBounds_toArray, List.set_cons_zero, List.set_cons_succ]
      refine wpAnyH_ready (rs := [9]) (by kernel_rfl) (by simp) ?_
      refine AllReadyH.cons (show _ = some (Oper.mk (some 27) _ _ _ _ _) from rfl) (fun K hK => ?_) AllReadyH.nil
      refine step_append_one rfl (.tmp 22) (.tmp 26) 38 rfl 0 43 _ 17 96 Try.underlying38 info43 rfl (by decide) B.ov T.outs.length (outsL T.outs) rfl (by exact HT2.out.o) W.heap.size [.int .i64 (i : Int), .int .i64 M.kind, .int .u64 M.v.root, .int .u64 M.v.cost, .int .u64 M.v.bridge, .int .i64 M.v.port, .bool M.change, .bool M.ack, .bool M.proposal, .bool b, .bool M.learning, .bool M.forwarding, .int .i64 M.role, .int .i64 M.age, .int .i64 M.maxAge, .int .i64 M.hello, .int .i64 M.delay] 43 rfl (by exact Blk.new W.drew _ _) rfl (by simp [Value.oneCell']) (by unfold maxLen; omega) (by omega) (Nat.zero_le _) ?_
      intro v1 w1 hown1 hfr1 hin1
      obtain ⟨a1, c1, rfl⟩ := own_slice hown1
      have hb1 := HT2.out.t.fr hfr1 HT2.out.tb_ne.2.2.2.2
      have qt1 : w1.cell? ⟨B.tb, 10, none⟩ = some B.ov := (hb1.cell 10).trans rfl
      have ft1 := hb1.free
      clear hb1
      refine hK.out _ _ (held_fr hS hfr1 hnr.out) (fun hS => ?_)
      clear hK K
      try simp only [Act.put, List.setIfInBounds_toArray, List.set_cons_zero, List.set_cons_succ]
      refine wpAnyH_take (i := 10) (v := .pointer (some ⟨B.tb, 0, none⟩)) (show _ = some (Oper.mk (some 28) _ _ _ _ _) from rfl) (by kernel_rfl) (by kernel_rfl) (by kernel_rfl) (fun _ _ _ h => h) (Or.inl ⟨by rfl, by intro w hSw; go_simp⟩) hS ?_
      try simp only [Act.put, List.setIfInBounds_toArray, List.set_cons_zero, List.set_cons_succ]
      refine wpAnyH_take (i := 11) (v := .pointer (some ⟨B.tb, 10, none⟩)) (show _ = some (Oper.mk (some 29) _ _ _ _ _) from rfl) (by kernel_rfl) (by kernel_rfl) (by kernel_rfl) (fun _ _ _ h => h) (Or.inl ⟨by rfl, by intro w hSw; go_simp⟩) hS ?_
      try simp only [Act.put, List.setIfInBounds_toArray, List.set_cons_zero, List.set_cons_succ]
      refine wpAnyH_ready (rs := [12]) (by kernel_rfl) (by simp) ?_
      refine AllReadyH.cons (show _ = some (Oper.mk none _ _ _ _ _) from rfl) (fun K hK => ?_) AllReadyH.nil
      go_simp
      refine hK.out _ _ (held_set hS e6.symm _) (fun hS => ?_)
      clear hK K
      try simp only [Act.put, List.setIfInBounds_toArray, List.set_cons_zero, List.set_cons_succ]
      refine wpAnyH_done (by kernel_rfl) ?_ _
      go_wp2
      go_end0
      have hz := send_end (T := T) ⟨(i : Int), { M with agreement := b }⟩ (.slice a1 (T.outs.length + 1) c1) HT.out (hbw.alloc hbw.size _).drew hown1 hfr1 hin1
      exact ⟨_, rfl, by rw [← HU.out]; exact hz.1, hz.2⟩
    · go_simp
      refine hK.out _ _ (held_alloc hS _) (fun hS => ?_)
      clear hK K
      try simp only [Act.put, List.setIfInBounds_toArray, List.set_cons_zero, List.set_cons_succ]
      refine wpAnyH_ready (rs := [4]) (by kernel_rfl) (by simp) ?_
      refine AllReadyH.cons (show _ = some (Oper.mk (some 22) _ _ _ _ _) from rfl) (fun K hK => ?_) AllReadyH.nil
      go_simp
      refine hK.out _ _ hS (fun hS => ?_)
      clear hK K
      try simp only [Act.put, List.setIfInBounds_toArray, List.set_cons_zero, List.set_cons_succ]
      refine wpAnyH_ready (rs := [9]) (by kernel_rfl) (by simp) ?_
      refine AllReadyH.cons (show _ = some (Oper.mk (some 27) _ _ _ _ _) from rfl) (fun K hK => ?_) AllReadyH.nil
      refine step_append_one rfl (.tmp 22) (.tmp 26) 38 rfl 0 43 _ 17 96 Try.underlying38 info43 rfl (by decide) B.ov T.outs.length (outsL T.outs) rfl (by exact HT2.out.o) W.heap.size [.int .i64 (i : Int), .int .i64 M.kind, .int .u64 M.v.root, .int .u64 M.v.cost, .int .u64 M.v.bridge, .int .i64 M.v.port, .bool M.change, .bool M.ack, .bool M.proposal, .bool b, .bool M.learning, .bool M.forwarding, .int .i64 M.role, .int .i64 M.age, .int .i64 M.maxAge, .int .i64 M.hello, .int .i64 M.delay] 43 rfl (by exact Blk.new W.drew _ _) rfl (by simp [Value.oneCell']) (by unfold maxLen; omega) (by omega) (Nat.zero_le _) ?_
      intro v1 w1 hown1 hfr1 hin1
      obtain ⟨a1, c1, rfl⟩ := own_slice hown1
      have hb1 := HT2.out.t.fr hfr1 HT2.out.tb_ne.2.2.2.2
      have qt1 : w1.cell? ⟨B.tb, 10, none⟩ = some B.ov := (hb1.cell 10).trans rfl
      have ft1 := hb1.free
      clear hb1
      refine hK.out _ _ (held_fr hS hfr1 hnr.out) (fun hS => ?_)
      clear hK K
      try simp only [Act.put, List.setIfInBounds_toArray, List.set_cons_zero, List.set_cons_succ]
      refine wpAnyH_take (i := 10) (v := .pointer (some ⟨B.tb, 0, none⟩)) (show _ = some (Oper.mk (some 28) _ _ _ _ _) from rfl) (by kernel_rfl) (by kernel_rfl) (by kernel_rfl) (fun _ _ _ h => h) (Or.inl ⟨by rfl, by intro w hSw; go_simp⟩) hS ?_
      try simp only [Act.put, List.setIfInBounds_toArray, List.set_cons_zero, List.set_cons_succ]
      refine wpAnyH_take (i := 11) (v := .pointer (some ⟨B.tb, 10, none⟩)) (show _ = some (Oper.mk (some 29) _ _ _ _ _) from rfl) (by kernel_rfl) (by kernel_rfl) (by kernel_rfl) (fun _ _ _ h => h) (Or.inl ⟨by rfl, by intro w hSw; go_simp⟩) hS ?_
      try simp only [Act.put, List.setIfInBounds_toArray, List.set_cons_zero, List.set_cons_succ]
      refine wpAnyH_ready (rs := [12]) (by kernel_rfl) (by simp) ?_
      refine AllReadyH.cons (show _ = some (Oper.mk none _ _ _ _ _) from rfl) (fun K hK => ?_) AllReadyH.nil
      go_simp
      refine hK.out _ _ (held_set hS e6.symm _) (fun hS => ?_)
      clear hK K
      try simp only [Act.put, List.setIfInBounds_toArray, List.set_cons_zero, List.set_cons_succ]
      refine wpAnyH_done (by kernel_rfl) ?_ _
      go_wp2
      go_end0
      have hz := send_end (T := T) ⟨(i : Int), { M with agreement := b }⟩ (.slice a1 (T.outs.length + 1) c1) HT.out (hbw.alloc hbw.size _).drew hown1 hfr1 hin1
      exact ⟨_, rfl, by rw [← HU.out]; exact hz.1, hz.2⟩

theorem TStep.ov {w w' : World} {B : TB} {n : Nat} {v u : Value} (h : TStep w B n w' { B with ov := v }) {w2 : World} (g : TStep w' { B with ov := v } n w2 { B with ov := u }) : TStep w B n w2 { B with ov := u } := h.trans g
theorem tell_skip {T : Tr} {i : Nat} (h : ¬ ((T.at_ i).role = 2 ∨ (T.at_ i).role = 1 ∧ 0 < (T.at_ i).change)) : tellStep i T = T := if_neg h
theorem tell_do {T : Tr} {i : Nat} (h : (T.at_ i).role = 2 ∨ (T.at_ i).role = 1 ∧ 0 < (T.at_ i).change) : tellStep i T = sendF i false T := if_pos h
theorem kep_tells (k : Nat) (T : Tr) : Kep T (upto tellStep k T) := kep_upto (fun i T => by
  unfold tellStep
  split
  · exact kep_send _ _ _
  · exact Kep.refl _) _ _
theorem TOk.tells {T : Tr} {k j m : Nat} (h : TOk T m) (hm : k + j ≤ m) : TOk (upto tellStep k T) j := by
  have s := shp_upto shp_tellStep k T
  rw [Nat.mul_one] at s
  exact h.step s (kep_tells k T).rps (allP_upto (fun i T h => by
    unfold tellStep
    split
    · exact allP_send i false h
    · exact h) _ h.ps) hm
set_option maxRecDepth 8000 in
set_option maxHeartbeats 4000000 in
theorem tell_calls (T : Tr) (B : TB) (hok : TOk T T.n) (w : World) (hT : TreeW w B T) (U : Tr) (hU : tellAll T = U) :
    Calls Try.prog 35 #[.pointer (some ⟨B.tb, 0, none⟩)] w (SPost w B T.n U) := by
  have HU := Lib.hid hU
  have HO := Lib.hid hok
  have HT := Lib.hid hT
  have hn := hok.n
  have lt := hT.t.lt
  obtain ⟨P, hPn, HPA, qt⟩ := hT.ownP
  clear hU hok hT
  go_enter Try.func35, Try.ntmps35
  go_wp2
  clear qt lt
  go_loopg [9] T.n (fun gh s9 wx => ∃ (k : Nat) (v : Value), k + gh = T.n ∧ s9 = .int .i64 (k : Int) ∧ TreeW wx { B with ov := v } (upto tellStep k T) ∧ TStep w B T.n wx { B with ov := v })
  case atStart => exact ⟨0, B.ov, by omega, rfl, HT.out, TStep.refl _ _ _⟩
  case round =>
    obtain ⟨k, v, hkg, rfl, hX, hS⟩ := hrel
    have HX := Lib.hid hX
    cases gk with
    | zero =>
      have hkM : ¬ ((k : Int) < (T.n : Int)) := by omega
      obtain rfl : k = T.n := by omega
      clear hX
      go_wp2
      go_end0
      exact ⟨v, rfl, by rw [← HU.out]; exact HX.out, hS⟩
    | succ gh =>
      have hkM : (k : Int) < (T.n : Int) := by omega
      have HST : Hid (upto tellStep (k + 1) T = tellStep k (upto tellStep k T)) := Lib.hid rfl
      have sn := (kep_tells k T).n
      have hkt := HO.out.tells (k := k) (j := 1) (by omega)
      generalize upto tellStep k T = X at hX HX sn HST hkt
      have hkn : k < X.n := by rw [sn]; omega
      have hr := hX.range hkn
      obtain rfl := hPn (by omega)
      have HK := Lib.hid hkt
      have HKN := Lib.hid hkn
      have SN := Lib.hid sn
      clear hX hkt sn
      obtain ⟨q, hq⟩ : ∃ q, X.at_ k = q := ⟨_, rfl⟩
      rw [hq] at hr
      have HQ := Lib.hid hq
      clear hq
      go_upto_region 3 with (refine wpList_load_mid rfl 31 _ rfl B.pb (k * 16) rfl _ _ hr Try.underlying31 rfl sz31 ?_)
      have HTA := Lib.hid (HX.out.alloc (.cells #[.int .i64 q.p.id, .int .u64 q.p.cost, .bool q.p.up, .bool q.p.has, .int .u64 q.p.told.root, .int .u64 q.p.told.cost, .int .u64 q.p.told.bridge, .int .i64 q.p.told.port, .bool q.edge, .int .i64 q.role, .int .i64 q.state, .int .i64 q.age, .int .i64 q.left, .int .i64 q.wait, .int .i64 q.change, .bool q.agreed] 31))
      have hb := (Below.refl wr.heap.size wr).alloc (Nat.le_refl _) (.cells #[.int .i64 q.p.id, .int .u64 q.p.cost, .bool q.p.up, .bool q.p.has, .int .u64 q.p.told.root, .int .u64 q.p.told.cost, .int .u64 q.p.told.bridge, .int .i64 q.p.told.port, .bool q.edge, .int .i64 q.role, .int .i64 q.state, .int .i64 q.age, .int .i64 q.left, .int .i64 q.wait, .int .i64 q.change, .bool q.agreed] 31)
      have q3 := (Blk.new wr #[.int .i64 q.p.id, .int .u64 q.p.cost, .bool q.p.up, .bool q.p.has, .int .u64 q.p.told.root, .int .u64 q.p.told.cost, .int .u64 q.p.told.bridge, .int .i64 q.p.told.port, .bool q.edge, .int .i64 q.role, .int .i64 q.state, .int .i64 q.age, .int .i64 q.left, .int .i64 q.wait, .int .i64 q.change, .bool q.agreed] 31).cell
      change Code.wp _ _ _ _ (wr.alloc (.cells #[.int .i64 q.p.id, .int .u64 q.p.cost, .bool q.p.up, .bool q.p.has, .int .u64 q.p.told.root, .int .u64 q.p.told.cost, .int .u64 q.p.told.bridge, .int .i64 q.p.told.port, .bool q.edge, .int .i64 q.role, .int .i64 q.state, .int .i64 q.age, .int .i64 q.left, .int .i64 q.wait, .int .i64 q.change, .bool q.agreed] 31))
      generalize wr.alloc (.cells #[.int .i64 q.p.id, .int .u64 q.p.cost, .bool q.p.up, .bool q.p.has, .int .u64 q.p.told.root, .int .u64 q.p.told.cost, .int .u64 q.p.told.bridge, .int .i64 q.p.told.port, .bool q.edge, .int .i64 q.role, .int .i64 q.state, .int .i64 q.age, .int .i64 q.left, .int .i64 q.wait, .int .i64 q.change, .bool q.agreed] 31) = W at HTA hb q3 ⊢
      generalize wr.heap.size = b3 at q3 ⊢
      clear hr hkn hPn HPA
      by_cases h2 : q.role = 2
      · have h2b : (q.role == 2) = true := by simpa using h2
        have HZ : Hid (sendF k false X = tellStep k X) := by rw [tell_do (by rw [HQ.out]; exact .inl h2)]; exact Lib.hid rfl
        generalize tellStep k X = V at HZ HST
        clear h2
        go_wp2_with (go_at_call 49; (with_reducible refine (send_calls X { B with ov := v } k false HKN.out HK.out _ HTA.out V HZ.out).mono ?_); rintro e w' ⟨v', rfl, hT', hS'⟩)
        rw [SN.out] at hS'
        go_roundg gh
        case measure => omega
        case rel => exact ⟨k + 1, v', by omega, by go_num, by rw [HST.out]; exact hT', (hS.trans (TStep.below _ _ hb)).ov hS'⟩
      · have h2b : (q.role == 2) = false := by simpa using h2
        by_cases h1 : q.role = 1
        · have h1b : (q.role == 1) = true := by simpa using h1
          by_cases hc : 0 < q.change
          · have HZ : Hid (sendF k false X = tellStep k X) := by rw [tell_do (by rw [HQ.out]; exact .inr ⟨h1, hc⟩)]; exact Lib.hid rfl
            generalize tellStep k X = V at HZ HST
            clear h2 h1
            go_wp2_with (go_at_call 49; (with_reducible refine (send_calls X { B with ov := v } k false HKN.out HK.out _ HTA.out V HZ.out).mono ?_); rintro e w' ⟨v', rfl, hT', hS'⟩)
            rw [SN.out] at hS'
            go_roundg gh
            case measure => omega
            case rel => exact ⟨k + 1, v', by omega, by go_num, by rw [HST.out]; exact hT', (hS.trans (TStep.below _ _ hb)).ov hS'⟩
          · have HZ : Hid (tellStep k X = X) := Lib.hid (tell_skip (by rw [HQ.out]; rintro (h | ⟨_, h⟩); exact h2 h; exact hc h))
            clear h2 h1
            go_wp2
            go_roundg gh
            case measure => omega
            case rel => exact ⟨k + 1, v, by omega, by go_num, by rw [HST.out, HZ.out]; exact HTA.out, hS.trans (TStep.below _ _ hb)⟩
        · have h1b : (q.role == 1) = false := by simpa using h1
          have HZ : Hid (tellStep k X = X) := Lib.hid (tell_skip (by rw [HQ.out]; rintro (h | ⟨h, _⟩); exact h2 h; exact h1 h))
          clear h2 h1
          go_wp2
          go_roundg gh
          case measure => omega
          case rel => exact ⟨k + 1, v, by omega, by go_num, by rw [HST.out, HZ.out]; exact HTA.out, hS.trans (TStep.below _ _ hb)⟩
end Go.Proofs.Ytjnbjcieepooaac
