/- The law 'RoleMore' answers true. -/
import Derived.Test.YtjnbjcieepooaabRDPlain
import Derived.Deep.RegionHeld3
import Derived.Deep.DeepCutAuto
namespace Go.Proofs.Ytjnbjcieepooaab
open Go.RowKit
set_option linter.unusedVariables false
set_option linter.unusedSimpArgs false

def morePs (ps : Nat → RPort) (n : Nat) (v : Vec) : Nat → RPort := updF ps n ⟨1048576, 4294967296, true, true, v⟩
theorem more_lt (ps : Nat → RPort) (n : Nat) (v : Vec) {i : Nat} (h : i < n) : morePs ps n v i = ps i := updF_ne _ _ (by omega)
theorem more_at (ps : Nat → RPort) (n : Nat) (v : Vec) : morePs ps n v n = ⟨1048576, 4294967296, true, true, v⟩ := updF_same _ _ _
theorem more_ok {ps : Nat → RPort} {n : Nat} (h : ∀ i, i < n → (ps i).ok) {v : Vec} (hv : v.ok) : ∀ i, i < n + 1 → (morePs ps n v i).ok := fun i hi => by
  by_cases e : i = n
  · subst e; rw [more_at]; exact ⟨by show (0 : Int) ≤ 4294967296; decide, by show (4294967296 : Int) ≤ 18446744073709551615; decide, hv⟩
  · rw [more_lt _ _ _ (by omega)]; exact h i (by omega)
theorem betterF_congr {ids ids' : Nat → Int} {a b : Vec} {i j : Nat} (hi : ids i = ids' i) (hj : ids j = ids' j) : betterF ids a i b j = betterF ids' a i b j := by unfold betterF; rw [hi, hj]
theorem portsL_congr {ps ps' : Nat → RPort} (n : Nat) (h : ∀ i, i < n → ps i = ps' i) : portsL ps n = portsL ps' n := by
  induction n with
  | zero => rfl
  | succ n ih => rw [portsL_succ, portsL_succ, ih fun i hi => h i (by omega), h n (by omega)]
theorem more_way_lt (g : Int) (ps : Nat → RPort) (n : Nat) (v : Vec) (k : Nat) (hk : k ≤ n) : wayN g (morePs ps n v) k = wayN g ps k := by
  induction k with
  | zero => rfl
  | succ k ih =>
    have ih := ih (by omega)
    have hpo := wayN_port g ps k
    have ht : takeW g (morePs ps n v) (wayN g ps k) k = takeW g ps (wayN g ps k) k := by
      unfold takeW
      rw [more_lt ps n v (i := k) (by omega)]
      by_cases hp : 0 ≤ (wayN g ps k).p
      · rw [betterF_congr (ids' := fun i => (ps i).id) (by rw [more_lt ps n v (i := k) (by omega)]) (by rw [more_lt ps n v (i := (wayN g ps k).p.toNat) (by omega)])]
      · rw [decide_eq_false hp]; simp only [Bool.false_and]
    by_cases h : takeW g ps (wayN g ps k) k = true
    · rw [way_take h, way_take (by rw [ih, ht]; exact h), more_lt _ _ _ (by omega)]
    · have hf : takeW g ps (wayN g ps k) k = false := by simpa using h
      rw [way_skip hf, way_skip (by rw [ih, ht]; exact hf), ih]
theorem more_way (g : Int) (ps : Nat → RPort) (n : Nat) (v : Vec) (h1 : (wayN g ps n).v.root ≤ v.root) (h2 : (wayN g ps n).v.cost < 4294967295) : wayN g (morePs ps n v) (n + 1) = wayN g ps n := by
  have he := more_way_lt g ps n v n (Nat.le_refl _)
  rw [way_skip, he]
  rw [he]
  unfold takeW
  rw [more_at]
  have ho : overV v 4294967296 = ⟨v.root, 4294967295, v.bridge, v.port⟩ := by unfold overV; rw [if_pos (.inl (by decide))]
  simp only [ho]
  rw [decide_eq_false (show ¬ v.root < (wayN g ps n).v.root by omega)]
  have hc : cmpV ⟨v.root, 4294967295, v.bridge, v.port⟩ (wayN g ps n).v = 1 := cmp_gt (by unfold Bet; simp only; omega)
  unfold betterF
  rw [hc, if_neg (by decide)]
  simp
theorem more_role (g : Int) (ps : Nat → RPort) (n : Nat) (v : Vec) (S : Way) {i : Nat} (h : i < n) : roleF g (morePs ps n v) S i = roleF g ps S i ∧ tellF g (morePs ps n v) S i = tellF g ps S i := by
  unfold roleF tellF
  rw [more_lt _ _ _ h]
  exact ⟨rfl, rfl⟩
theorem portsL_more (ps : Nat → RPort) (n : Nat) (v : Vec) : portsL ps n ++ [.int .i64 1048576, .int .u64 4294967296, .bool true, .bool true, .int .u64 v.root, .int .u64 v.cost, .int .u64 v.bridge, .int .i64 v.port] = portsL (morePs ps n v) (n + 1) := by
  rw [portsL_succ, more_at, portsL_congr n (ps := morePs ps n v) (ps' := ps) fun i hi => more_lt _ _ _ hi]
theorem news_of {w : World} {a : Option Addr} {n : Nat} {ps : Nat → RPort} (h : 0 < n → ∃ b off, a = some ⟨b, off, none⟩ ∧ PortsAt w b off n ps) : NewsAt w a n (portsL ps n) := fun hn => by
  obtain ⟨b, off, e, hP⟩ := h hn
  exact ⟨b, off, e, hP.news⟩

theorem bl_1 (w : World) (o : Obj) : Below w.heap.size w (w.alloc o).drew := ((Below.refl w.heap.size w).alloc (Nat.le_refl _) o).drew
theorem bl_2 (w : World) (o o' : Obj) : Below w.heap.size w ((w.alloc o).alloc o').drew := (((Below.refl w.heap.size w).alloc (Nat.le_refl _) o).alloc (by simp) o').drew
theorem bl_row {w W w' : World} {size n : Nat} {e : TypeId} {v : Value} {xs : List Value} (hfr : Fr (InRow v) W w') (h : Below w.heap.size w W) (hown : W.ownsRow w.heap.size e size v n xs) : Below w.heap.size w w' :=
  Below.fr h hfr h.size fun i _ hi => (own_ge hown hi).1
theorem own_one (w : World) (o : Obj) (e : TypeId) (size : Nat) : ((w.alloc o).alloc (.cells #[] e)).ownsRow w.heap.size e size (.slice (some ⟨w.heap.size + 1, 0, none⟩) 0 0) 0 [] := by
  have h := own_empty (w.alloc o) w.heap.size (by simp) e size
  simp only [size_alloc'] at h
  exact h
theorem more_b2 (w : World) (o : Obj) (a : Array Value) (t : TypeId) : Blk ((w.alloc o).alloc (.cells a t)).drew (w.heap.size + 1) a t := by
  have h := Blk.new (w.alloc o) a t
  simp only [size_alloc'] at h
  exact h
theorem more_b1 (w : World) (o : Obj) (a : Array Value) (t : TypeId) : Blk ((w.alloc (.cells a t)).alloc o).drew w.heap.size a t := (Blk.new w a t).alloc o
abbrev moreC (v : Vec) : List Value := [.int .i64 1048576, .int .u64 4294967296, .bool true, .bool true, .int .u64 v.root, .int .u64 v.cost, .int .u64 v.bridge, .int .i64 v.port]
/-- What the region leaves. -/
theorem more_end {w W w' : World} {n : Nat} {ps : Nat → RPort} {wv : Vec} {v21 v' : Value} {m : Nat} {xs : List Value} (hm : m = n) (hb : Below w.heap.size w W) (hown : W.ownsRow w.heap.size 61 8 v21 m xs) (hxs : xs = portsL ps n)
    (h : w'.ownsRow w.heap.size 61 8 v' (m + 1) (xs ++ moreC wv)) (hfr : Fr (InRow v21) W w') : ∃ gm cm, v' = .slice (some ⟨gm, 0, none⟩) (n + 1) cm ∧ RowsB w' gm 61 8 (n + 1) (fun i => (morePs ps n wv i).cells) ∧ Below w.heap.size w w' := by
  subst hm hxs
  obtain ⟨gm, cm, rfl, _⟩ := own_at h (by omega)
  rw [portsL_more] at h
  exact ⟨gm, cm, rfl, RowsB.of_own (fun i => rfl) h, Below.fr hb hfr hb.size fun i _ hi => (own_ge hown hi).1⟩

set_option maxRecDepth 8000 in
set_option maxHeartbeats 6000000 in
theorem roleMore_any (w : World) (g : Int) (a : Option Addr) (n cap : Nat) (ps : Nat → RPort) (hok : ∀ i, i < n → (ps i).ok) (htop : n ≤ 9223372036854775807) (hp : 0 < n → ∃ b off, a = some ⟨b, off, none⟩ ∧ PortsAt w b off n ps) (wv : Vec) (hwv : wv.ok) :
    Calls Try.prog 14 #[.int .u64 g, .slice a n cap, wv.val] w fun e w' => e = .returned (.bool true) ∧ Below w.heap.size w w' := by
  by_cases hbig : 60 < n
  · clear hp
    go_enter Try.func14, Try.ntmps14
    go_wp2_with (go_at_call 25; (with_reducible refine (selects_calls _).mono ?_); rintro e w' ⟨rfl, hb1⟩)
    go_ret
    exact ⟨rfl, ((Below.refl _ _).alloc (Nat.le_refl _) _).trans (Below.mono (by assumption) (by simp))⟩
  obtain ⟨S, hS⟩ : ∃ S, wayN g ps n = S := ⟨_, rfl⟩
  obtain ⟨SB, hSB⟩ : ∃ SB, wayN g (morePs ps n wv) (n + 1) = SB := ⟨_, rfl⟩
  have hsame : S.v.root ≤ wv.root → S.v.cost < 4294967295 → SB = S := fun h1 h2 => by rw [← hSB, ← hS]; rw [← hS] at h1 h2; exact more_way g ps n wv h1 h2
  have HSAME := Lib.hid hsame
  have HS := Lib.hid hS
  have HSB := Lib.hid hSB
  have HP := Lib.hid hp
  have HOK := Lib.hid (more_ok hok hwv)
  clear hS hSB hp hsame
  have hPS : Hid (∀ w', Below w.heap.size w w' → (0 < n → ∃ b off, a = some ⟨b, off, none⟩ ∧ PortsAt w' b off n ps)) := fun w' hb hn => by
    obtain ⟨b, off, h, hP⟩ := HP.out hn
    exact ⟨b, off, h, hP.below hb⟩
  have K0 := (Keep.start w).add #[.int .u64 wv.root, .int .u64 wv.cost, .int .u64 wv.bridge, .int .i64 wv.port] 24
  go_enter Try.func14, Try.ntmps14
  go_upto_region 1 with fail
  generalize w.alloc (.cells #[.int .u64 wv.root, .int .u64 wv.cost, .int .u64 wv.bridge, .int .i64 wv.port] 24) = w0 at K0 ⊢
  have q0 := (K0.nth 0 rfl).cell
  go_upto_region 6 with (first
    | (go_at_call 25; (with_reducible refine (selects_calls _).mono ?_); rintro e w1 ⟨rfl, hb1⟩; have K1 := K0.step hb1)
    | (go_at_call 26; (with_reducible refine (select_calls g ps a n cap (by omega) hok _ (hPS.out _ K1.below) S HS.out).mono ?_); rintro e w2 ⟨br, bt, cr, ct, rfl, ho, g1, g2, hb2⟩))
  have K3 := (K1.step hb2).add #[.int .u64 S.v.root, .int .u64 S.v.cost, .int .u64 S.v.bridge, .int .i64 S.v.port, .int .i64 S.p, .slice (some ⟨br, 0, none⟩) n n, .slice (some ⟨bt, 0, none⟩) n n] 53
  have ho3 := ho.fr (Fr.of_below (m := fun _ => False) ((Below.refl w2.heap.size w2).alloc (Nat.le_refl _) (.cells #[.int .u64 S.v.root, .int .u64 S.v.cost, .int .u64 S.v.bridge, .int .i64 S.v.port, .int .i64 S.p, .slice (some ⟨br, 0, none⟩) n n, .slice (some ⟨bt, 0, none⟩) n n] 53))) (fun h => h) (fun h => h)
  clear q0 hb1 hb2 g1 g2 ho K1 K0
  generalize w2.alloc (.cells #[.int .u64 S.v.root, .int .u64 S.v.cost, .int .u64 S.v.bridge, .int .i64 S.v.port, .int .i64 S.p, .slice (some ⟨br, 0, none⟩) n n, .slice (some ⟨bt, 0, none⟩) n n] 53) = w3 at K3 ho3 ⊢
  generalize w2.heap.size = b7 at K3 ⊢
  have q7 := (K3.nth 0 rfl).cell
  have q0 := (K3.nth 1 rfl).cell
  have l0 := (K3.nth 1 rfl).lt
  go_cut [8] (fun s8 wx => ∃ gm cm, s8 = .slice (some ⟨gm, 0, none⟩) (n + 1) cm ∧ RowsB wx gm 61 8 (n + 1) (fun i => (morePs ps n wv i).cells) ∧ Below w3.heap.size w3 wx)
  case first =>
    have hN : Hid (∀ w', Below w3.heap.size w3 w' → NewsAt w' a n (portsL ps n)) := fun w' hb => news_of (hPS.out _ (K3.step hb).below)
    go_region_held3 (fun w' => w'.cell? ⟨w.heap.size, 0, none⟩ = some (.int .u64 wv.root) ∧ w'.cell? ⟨w.heap.size, 1, none⟩ = some (.int .u64 wv.cost) ∧ w'.cell? ⟨w.heap.size, 2, none⟩ = some (.int .u64 wv.bridge) ∧ w'.cell? ⟨w.heap.size, 3, none⟩ = some (.int .i64 wv.port))
      (first | ((try dsimp only); (repeat' apply And.intro) <;> (rw [hb25.cell l0]; exact q0 _)) | ((try dsimp only); (repeat' apply And.intro) <;> (rw [hb21.cell l0]; exact q0 _)) | ((try dsimp only); (repeat' apply And.intro) <;> (rw [(hb21.alloc hb21.size _).cell l0]; exact q0 _)) | go_keep | ((try dsimp only); (repeat' apply And.intro) <;> go_keep))
      (first | (refine step_append_any rfl (.tmp 19) (.tmp 20) 50 rfl w3.heap.size 61 _ 8 56 Try.underlying50 info61 rfl (by decide) (.slice (some ⟨w3.heap.size, 0, none⟩) 0 0) 0 [] rfl (by exact own_empty w3 _ (Nat.le_refl _) _ _) a n cap (portsL ps n) rfl (portsL_len _ _) (by exact hN.out _ (bl_1 _ _)) (portsL_one _ _) (by unfold maxLen; omega) (by omega) (by simp <;> omega) ?_; intro v21 w21 hown21 hfr21; have hb21 : Below w3.heap.size w3 w21 := bl_row (e := 61) (size := 8) (n := 0) (xs := []) hfr21 (by exact bl_1 _ _) (by exact own_empty w3 _ (Nat.le_refl _) _ _)) | (refine step_append_any rfl (.tmp 19) (.tmp 20) 50 rfl w3.heap.size 61 _ 8 56 Try.underlying50 info61 rfl (by decide) (.slice (some ⟨w3.heap.size, 0, none⟩) 0 0) 0 [] rfl (by exact (own_empty w3 _ (Nat.le_refl _) _ _).alloc _) a n cap (portsL ps n) rfl (portsL_len _ _) (by exact hN.out _ (bl_2 _ _ _)) (portsL_one _ _) (by unfold maxLen; omega) (by omega) (by simp <;> omega) ?_; intro v21 w21 hown21 hfr21; have hb21 : Below w3.heap.size w3 w21 := bl_row (e := 61) (size := 8) (n := 0) (xs := []) hfr21 (by exact bl_2 _ _ _) (by exact (own_empty w3 _ (Nat.le_refl _) _ _).alloc _)) | (refine step_append_any rfl (.tmp 19) (.tmp 20) 50 rfl w3.heap.size 61 _ 8 56 Try.underlying50 info61 rfl (by decide) (.slice (some ⟨w3.heap.size + 1, 0, none⟩) 0 0) 0 [] rfl (by exact own_one w3 _ _ _) a n cap (portsL ps n) rfl (portsL_len _ _) (by exact hN.out _ (bl_2 _ _ _)) (portsL_one _ _) (by unfold maxLen; omega) (by omega) (by simp <;> omega) ?_; intro v21 w21 hown21 hfr21; have hb21 : Below w3.heap.size w3 w21 := bl_row (e := 61) (size := 8) (n := 0) (xs := []) hfr21 (by exact bl_2 _ _ _) (by exact own_one w3 _ _ _)) | (refine step_append_any rfl (.tmp 21) (.tmp 24) 50 rfl w3.heap.size 61 _ 8 56 Try.underlying50 info61 rfl (by decide) v21 (0 + n) ([] ++ portsL ps n) rfl (by exact hown21.alloc _) (some ⟨w21.heap.size, 0, none⟩) 1 1 (moreC wv) rfl rfl (by exact NewsAt.blk (Blk.new w21 (moreC wv).toArray 61) 1) (by simp [Value.oneCell']) (by unfold maxLen; omega) (by omega) (by have := hb21.size; simp <;> omega) ?_; intro v25 w25 hown25 hfr25; have hend := more_end (m := 0 + n) (v21 := v21) (xs := [] ++ portsL ps n) (ps := ps) (Nat.zero_add n) (by exact hb21.alloc hb21.size _) (by exact hown21.alloc _) rfl hown25 hfr25; have hb25 : Below w3.heap.size w3 w25 := by obtain ⟨_, _, _, _, h⟩ := hend; exact h) | (refine step_append_any rfl (.tmp 21) (.tmp 24) 50 rfl w3.heap.size 61 _ 8 56 Try.underlying50 info61 rfl (by decide) v21 (0 + n) ([] ++ portsL ps n) rfl (by exact hown21) (some ⟨w3.heap.size + 1, 0, none⟩) 1 1 (moreC wv) rfl rfl (by exact NewsAt.blk (Blk.fr (more_b2 w3 _ (moreC wv).toArray _) hfr21 (by simp [InRow, Value.ownBlock])) 1) (by simp [Value.oneCell']) (by unfold maxLen; omega) (by omega) (by have := hb21.size; simp <;> omega) ?_; intro v25 w25 hown25 hfr25; have hend := more_end (m := 0 + n) (v21 := v21) (xs := [] ++ portsL ps n) (ps := ps) (Nat.zero_add n) (by exact hb21) (by exact hown21) rfl hown25 hfr25; have hb25 : Below w3.heap.size w3 w25 := by obtain ⟨_, _, _, _, h⟩ := hend; exact h) | (refine step_append_any rfl (.tmp 21) (.tmp 24) 50 rfl w3.heap.size 61 _ 8 56 Try.underlying50 info61 rfl (by decide) v21 (0 + n) ([] ++ portsL ps n) rfl (by exact hown21) (some ⟨w3.heap.size, 0, none⟩) 1 1 (moreC wv) rfl rfl (by exact NewsAt.blk (Blk.fr (more_b1 w3 _ (moreC wv).toArray _) hfr21 (by simp [InRow, Value.ownBlock])) 1) (by simp [Value.oneCell']) (by unfold maxLen; omega) (by omega) (by have := hb21.size; simp <;> omega) ?_; intro v25 w25 hown25 hfr25; have hend := more_end (m := 0 + n) (v21 := v21) (xs := [] ++ portsL ps n) (ps := ps) (Nat.zero_add n) (by exact hb21) (by exact hown21) rfl hown25 hfr25; have hb25 : Below w3.heap.size w3 w25 := by obtain ⟨_, _, _, _, h⟩ := hend; exact h))
    all_goals (go_wp2_with fail; go_meet; exact hend)
  case rest =>
    obtain ⟨gm, cm, rfl, hRM, hbc⟩ := hcut
    have hPM := PortsAt.of_rows hRM
    have Kc := K3.step hbc
    have hoc := ho3.fr (Fr.of_below (m := fun _ => False) hbc) (fun h => h) (fun h => h)
    clear q7 q0 ho3 K3 hbc hRM
    go_upto_region 8 with (go_at_call 26; (with_reducible refine (select_calls g (morePs ps n wv) _ (n + 1) cm (by omega) HOK.out _ (fun _ => ⟨gm, 0, rfl, hPM⟩) SB HSB.out).mono ?_); rintro e w6 ⟨br', bt', cr', ct', rfl, ho', g1', g2', hb6⟩)
    have K7 := (Kc.step hb6).add #[.int .u64 SB.v.root, .int .u64 SB.v.cost, .int .u64 SB.v.bridge, .int .i64 SB.v.port, .int .i64 SB.p, .slice (some ⟨br', 0, none⟩) (n + 1) (n + 1), .slice (some ⟨bt', 0, none⟩) (n + 1) (n + 1)] 53
    have hal := (Below.refl w6.heap.size w6).alloc (Nat.le_refl _) (.cells #[.int .u64 SB.v.root, .int .u64 SB.v.cost, .int .u64 SB.v.bridge, .int .i64 SB.v.port, .int .i64 SB.p, .slice (some ⟨br', 0, none⟩) (n + 1) (n + 1), .slice (some ⟨bt', 0, none⟩) (n + 1) (n + 1)] 53)
    have ho1 := (hoc.fr (Fr.of_below (m := fun _ => False) hb6) (fun h => h) (fun h => h)).fr (Fr.of_below (m := fun _ => False) hal) (fun h => h) (fun h => h)
    have ho2 := ho'.fr (Fr.of_below (m := fun _ => False) hal) (fun h => h) (fun h => h)
    clear ho' hoc Kc hb6 g1' g2' hal hPM
    generalize w6.alloc (.cells #[.int .u64 SB.v.root, .int .u64 SB.v.cost, .int .u64 SB.v.bridge, .int .i64 SB.v.port, .int .i64 SB.p, .slice (some ⟨br', 0, none⟩) (n + 1) (n + 1), .slice (some ⟨bt', 0, none⟩) (n + 1) (n + 1)] 53) = w8 at K7 ho1 ho2 ⊢
    generalize w6.heap.size = b9 at K7 ⊢
    have q9 := (K7.nth 0 rfl).cell
    have q7 := (K7.nth 1 rfl).cell
    have q0 := (K7.nth 2 rfl).cell
    by_cases c1 : wv.root < S.v.root
    · clear ho1 ho2
      go_wp2
      go_ret
      exact ⟨rfl, K7.below⟩
    by_cases c2 : 4294967295 ≤ S.v.cost
    · clear ho1 ho2
      go_wp2
      all_goals (go_ret; exact ⟨rfl, K7.below⟩)
    obtain rfl := HSAME.out (by omega) (by omega)
    have hsame : Sames w8 g ps SB n br bt br' bt' :=
      ⟨ho1.r.lt, ho1.t.lt, ho2.r.lt, ho2.t.lt, fun i hi => by rw [ho1.r.cell]; exact ho1.rv i hi, fun i hi => by rw [ho2.r.cell, ho2.rv i (by omega), (more_role g ps n wv SB hi).1], fun i o hi ho => ho1.tells i o hi ho, fun i o hi ho => by rw [ho2.tells i o (by omega) ho, (more_role g ps n wv SB hi).2]⟩
    have hst : Hid (∀ w', Below w8.heap.size w8 w' → (∀ o, w'.cell? ⟨b7, o, none⟩ = #[.int .u64 SB.v.root, .int .u64 SB.v.cost, .int .u64 SB.v.bridge, .int .i64 SB.v.port, .int .i64 SB.p, .slice (some ⟨br, 0, none⟩) n n, .slice (some ⟨bt, 0, none⟩) n n][o]?) ∧ ∀ o, w'.cell? ⟨b9, o, none⟩ = #[.int .u64 SB.v.root, .int .u64 SB.v.cost, .int .u64 SB.v.bridge, .int .i64 SB.v.port, .int .i64 SB.p, .slice (some ⟨br', 0, none⟩) (n + 1) (n + 1), .slice (some ⟨bt', 0, none⟩) (n + 1) (n + 1)][o]?) := fun w' hb => ⟨(((K7.step hb).nth 1 rfl).cell), (((K7.step hb).nth 0 rfl).cell)⟩
    have HSA := Lib.hid hsame
    have hb9 := K7.below
    clear K7 hsame ho1 ho2
    go_wp2
    clear q9 q7 q0
    all_goals
      go_loopg [82] n (fun gh s82 wx => ∃ k : Nat, k + gh = n ∧ s82 = .int .i64 (k : Int) ∧ Below w8.heap.size w8 wx)
      case atStart => exact ⟨0, by omega, rfl, Below.refl _ _⟩
      case round =>
        obtain ⟨k, hkg, rfl, hbx⟩ := hrel
        cases gk with
        | zero =>
          have hkM : ¬ ((k : Int) < (n : Int)) := by omega
          go_wp2
          go_ret
          exact ⟨rfl, hb9.trans (hbx.mono hb9.size)⟩
        | succ gh =>
          have hkM : (k : Int) < (n : Int) := by omega
          have hkM' : (k : Int) < (n : Int) + 1 := by omega
          have hs' := HSA.out.below hbx
          obtain ⟨q7, q9⟩ := hst.out _ hbx
          have r1 := hs'.r k (by omega)
          have r2 := hs'.r' k (by omega)
          obtain ⟨T, hT⟩ : ∃ T, tellF g ps SB k = T := ⟨_, rfl⟩
          have HT := Lib.hid hT
          have t0 : wr.cell? ⟨bt, k * 4, none⟩ = some (.int .u64 T.root) := by rw [← HT.out]; exact hs'.t k 0 (by omega) (by omega)
          have t1 : wr.cell? ⟨bt, k * 4 + 1, none⟩ = some (.int .u64 T.cost) := by rw [← HT.out]; exact hs'.t k 1 (by omega) (by omega)
          have t2 : wr.cell? ⟨bt, k * 4 + 2, none⟩ = some (.int .u64 T.bridge) := by rw [← HT.out]; exact hs'.t k 2 (by omega) (by omega)
          have t3 : wr.cell? ⟨bt, k * 4 + 3, none⟩ = some (.int .i64 T.port) := by rw [← HT.out]; exact hs'.t k 3 (by omega) (by omega)
          have u0 : wr.cell? ⟨bt', k * 4, none⟩ = some (.int .u64 T.root) := by rw [← HT.out]; exact hs'.t' k 0 (by omega) (by omega)
          have u1 : wr.cell? ⟨bt', k * 4 + 1, none⟩ = some (.int .u64 T.cost) := by rw [← HT.out]; exact hs'.t' k 1 (by omega) (by omega)
          have u2 : wr.cell? ⟨bt', k * 4 + 2, none⟩ = some (.int .u64 T.bridge) := by rw [← HT.out]; exact hs'.t' k 2 (by omega) (by omega)
          have u3 : wr.cell? ⟨bt', k * 4 + 3, none⟩ = some (.int .i64 T.port) := by rw [← HT.out]; exact hs'.t' k 3 (by omega) (by omega)
          clear hs' hT
          go_wp2
          go_quiet (fail)
          go_wp2
          go_roundg gh
          case measure => omega
          case rel => exact ⟨k + 1, by omega, by go_num, hbx.trans ⟨rfl, rfl, rfl, Nat.le_refl _, fun _ _ => rfl⟩⟩
end Go.Proofs.Ytjnbjcieepooaab
