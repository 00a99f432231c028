/- The law 'RoleOne' answers true. -/
import Derived.Test.YtjnbjcieepooaabRoleSels
import Derived.Test.YtjnbjcieepooaabRoleOpen
import Derived.Test.YtjnbjcieepooaabRefSel
namespace Go.Proofs.Ytjnbjcieepooaab
open Go.RowKit
set_option linter.unusedVariables false
set_option linter.unusedSimpArgs false

theorem way_port (g : Int) (ps : Nat → RPort) (n k : Nat) (h : (wayN g ps n).p = (k : Int)) : (ps k).up = true ∧ (ps k).has = true := by
  induction n with
  | zero => exact absurd h (by show ¬ (-1 : Int) = (k : Int); omega)
  | succ n ih =>
    by_cases ht : takeW g ps (wayN g ps n) n = true
    · rw [way_take ht] at h
      have : n = k := by have : (n : Int) = (k : Int) := h; omega
      subst this
      unfold takeW at ht
      simp only [Bool.and_eq_true] at ht
      exact ⟨ht.1.1.1, ht.1.1.2⟩
    · rw [way_skip (by simpa using ht)] at h
      exact ih h
theorem way_root (g : Int) (ps : Nat → RPort) (n : Nat) : (wayN g ps n).v.root ≤ g := by
  obtain ⟨h1, h2⟩ := way_inv g ps n
  by_cases h : 0 ≤ (wayN g ps n).p
  · have := h2 h; omega
  · rw [h1 (by omega)]; exact Int.le_refl _
/-- How many root's ports there are among the first ones. -/
def cnt (S : Way) (k : Nat) : Int := if 0 ≤ S.p ∧ S.p < (k : Int) then 1 else 0
theorem cnt_ne (S : Way) (k : Nat) (h : ¬ (k : Int) = S.p) : cnt S (k + 1) = cnt S k := by unfold cnt; congr 1; apply propext; omega
theorem cnt_eq (S : Way) (k : Nat) (h : (k : Int) = S.p) : cnt S (k + 1) = cnt S k + 1 := by unfold cnt; rw [if_pos (by omega), if_neg (by omega)]; rfl
theorem cnt_bd (S : Way) (k : Nat) : 0 ≤ cnt S k ∧ cnt S k ≤ 1 := by unfold cnt; split <;> omega

set_option maxRecDepth 8000 in
set_option maxHeartbeats 6000000 in
theorem roleOne.roleOne_walk (w : World) (g : Int) (wg : (Lit.int .u64 g).wf = true) (a : Option Addr) (n cap : Nat) (F : FlatS Try.prog w 61 a n) :
    Calls Try.prog 11 #[.int .u64 g, .slice a n cap] w fun e w' => e = .returned (.bool true) ∧ Below w.heap.size w w' := by
  obtain ⟨ps, hok, hp⟩ := ports_of F
  have htop := F.top
  clear F
  by_cases hbig : 60 < n
  · clear hp
    go_enter Try.func11, Try.ntmps11
    go_wp2_with (go_at_call 25; (with_reducible refine (selects_calls _).mono ?_); rintro e w' ⟨rfl, hb1⟩)
    go_ret
    exact ⟨rfl, by assumption⟩
  obtain ⟨S, hS⟩ : ∃ S, wayN g ps n = S := ⟨_, rfl⟩
  have hinv := way_inv g ps n
  have hroot := way_root g ps n
  have hport := way_port g ps n
  have hpo := wayN_port g ps n
  rw [hS] at hinv hroot hport hpo
  have HPO := Lib.hid hport
  have HIN := Lib.hid hinv.2
  have HS := Lib.hid hS
  have HP := Lib.hid hp
  clear hS hp hinv hport
  have hPS : Hid (∀ w', Below w.heap.size w w' → (0 < n → ∃ b off, a = some ⟨b, off, none⟩ ∧ PortsAt w' b off n ps)) := fun w' hb hn => by
    obtain ⟨b, off, h, hP⟩ := HP.out hn
    exact ⟨b, off, h, hP.below hb⟩
  go_enter Try.func11, Try.ntmps11
  go_upto_region 6 with (first
    | (go_at_call 25; (with_reducible refine (selects_calls _).mono ?_); rintro e w1 ⟨rfl, hb1⟩)
    | (go_at_call 26; (with_reducible refine (select_calls g ps a n cap (by omega) hok _ (hPS.out _ hb1) S HS.out).mono ?_); rintro e w2 ⟨br, bt, cr, ct, rfl, ho, g1, g2, hb2⟩))
  have hb3 := hb1.trans (hb2.mono hb1.size)
  have K1 := (Keep.start w2).add #[.int .u64 S.v.root, .int .u64 S.v.cost, .int .u64 S.v.bridge, .int .i64 S.v.port, .int .i64 S.p, .slice (some ⟨br, 0, none⟩) n n, .slice (some ⟨bt, 0, none⟩) n n] 53
  have ho3 := ho.fr (Fr.of_below (m := fun _ => False) K1.below) (fun h => h) (fun h => h)
  generalize w2.alloc (.cells #[.int .u64 S.v.root, .int .u64 S.v.cost, .int .u64 S.v.bridge, .int .i64 S.v.port, .int .i64 S.p, .slice (some ⟨br, 0, none⟩) n n, .slice (some ⟨bt, 0, none⟩) n n] 53) = w3 at K1 ho3 ⊢
  generalize w2.heap.size = b5 at K1 ⊢
  have hb4 := hb3.trans (K1.below.mono hb3.size)
  clear hb1 hb2 hb3 ho g1 g2
  have q5 := (K1.nth 0 rfl).cell
  have hK : Hid (∀ w', Below w3.heap.size w3 w' → Blk w' b5 #[.int .u64 S.v.root, .int .u64 S.v.cost, .int .u64 S.v.bridge, .int .i64 S.v.port, .int .i64 S.p, .slice (some ⟨br, 0, none⟩) n n, .slice (some ⟨bt, 0, none⟩) n n] 53 ∧ SelOut w' n g ps S br bt cr ct n n) := fun w' hb => ⟨(K1.step hb).nth 0 rfl, ho3.fr (Fr.of_below (m := fun _ => False) hb) (fun h => h) (fun h => h)⟩
  clear K1 ho3
  go_wp2
  go_loopg [6, 33] n (fun gh s6 s33 wx => ∃ k : Nat, k + gh = n ∧ s33 = .int .i64 (k : Int) ∧ s6 = .int .i64 (cnt S k) ∧ Below w3.heap.size w3 wx)
  case atStart => exact ⟨0, by omega, rfl, by unfold cnt; rw [if_neg (by omega)], Below.refl _ _⟩
  case round =>
    obtain ⟨k, hkg, rfl, rfl, hbx⟩ := hrel
    clear q5
    have hc := cnt_bd S k
    obtain ⟨hz, ho⟩ := hK.out _ hbx
    cases gk with
    | zero =>
      have hkM : ¬ ((k : Int) < (n : Int)) := by omega
      obtain rfl : k = n := by omega
      have q5 := hz.cell
      have hq : cnt S k = if 0 ≤ S.p then 1 else 0 := by unfold cnt; congr 1; apply propext; omega
      have h1 : decide (cnt S k ≤ 1) = true := decide_eq_true hc.2
      have h2 : ((cnt S k == 1) == decide (0 ≤ S.p)) = true := by
        rw [hq]; split <;> simp [*]
      clear hq hc hkM
      go_wp2
      go_ret
      exact ⟨rfl, hb4.trans (hbx.mono hb4.size)⟩
    | succ gh =>
      have hkM : (k : Int) < (n : Int) := by omega
      obtain ⟨b, off, rfl, hP⟩ := HP.out (by omega)
      have hr := port_row hP (show k < n by omega) (hb4.trans (hbx.mono hb4.size))
      have q5 := hz.cell
      go_upto_region 12 with (refine wpList_load_mid rfl 61 _ rfl b (off + k * 8) rfl [.int .i64 (ps k).id, .int .u64 (ps k).cost, .bool (ps k).up, .bool (ps k).has, .int .u64 (ps k).told.root, .int .u64 (ps k).told.cost, .int .u64 (ps k).told.bridge, .int .i64 (ps k).told.port] _ hr Try.underlying61 rfl in61 ?_)
      have b8 := (Below.refl wr.heap.size wr).alloc (Nat.le_refl _) (.cells #[.int .i64 (ps k).id, .int .u64 (ps k).cost, .bool (ps k).up, .bool (ps k).has, .int .u64 (ps k).told.root, .int .u64 (ps k).told.cost, .int .u64 (ps k).told.bridge, .int .i64 (ps k).told.port] 61)
      have h8 := Blk.new wr #[.int .i64 (ps k).id, .int .u64 (ps k).cost, .bool (ps k).up, .bool (ps k).has, .int .u64 (ps k).told.root, .int .u64 (ps k).told.cost, .int .u64 (ps k).told.bridge, .int .i64 (ps k).told.port] 61
      have hz8 := hz.below b8 hz.lt
      have ho8 := ho.fr (Fr.of_below (m := fun _ => False) b8) (fun h => h) (fun h => h)
      have hbx8 := hbx.trans (b8.mono hbx.size)
      generalize wr.alloc (.cells #[.int .i64 (ps k).id, .int .u64 (ps k).cost, .bool (ps k).up, .bool (ps k).has, .int .u64 (ps k).told.root, .int .u64 (ps k).told.cost, .int .u64 (ps k).told.bridge, .int .i64 (ps k).told.port] 61) = w8 at h8 hz8 ho8 hbx8 ⊢
      generalize wr.heap.size = bp at h8 ⊢
      clear hr q5 hz ho b8 hbx
      have q8 := h8.cell
      have q5 := hz8.cell
      have r0 : w8.cell? ⟨br, k, none⟩ = some (.int .i64 (roleF g ps S k)) := by rw [ho8.r.cell]; exact ho8.rv k (by omega)
      have hrx := role_x1 g ps S k
      by_cases hup : (ps k).up = true
      · rw [hup] at q8
        rw [if_neg (by rw [hup]; exact Bool.noConfusion)] at hrx
        by_cases heq : (k : Int) = S.p
        · have hrt := HIN.out (by omega)
          have hhas := (HPO.out k heq.symm).2
          rw [hhas] at q8
          rw [if_pos heq] at hrx
          rw [hrx] at r0
          have hcq := cnt_eq S k heq
          have HC := Lib.hid hcq
          have hne : ((k : Int) != S.p) = false := by simpa using heq
          obtain ⟨hc0, hc1⟩ := hc
          clear hrx hcq hP hpo
          clear heq
          go_wp2
          go_roundg gh
          case measure => omega
          case rel => exact ⟨k + 1, by omega, by go_num, by rw [HC.out], hbx8⟩
        · rw [if_neg heq] at hrx
          have HC := Lib.hid (cnt_ne S k heq)
          clear heq hc
          cases hhas : (ps k).has with
          | false =>
            rw [hhas] at q8
            have e : x1F g ps S k = 2 := by unfold x1F; rw [if_pos (.inl hhas)]
            rw [hrx, e] at r0
            clear hrx e
            go_wp2
            go_quiet (fail)
            go_wp2
            go_roundg gh
            case measure => omega
            case rel => exact ⟨k + 1, by omega, by go_num, by rw [HC.out], hbx8.trans (below_drewN _ _ |>.mono hbx8.size)⟩
          | true =>
            rw [hhas] at q8
            obtain ⟨B, hB⟩ : ∃ B, betB (ps k).told ⟨S.v.root, S.v.cost, g, (ps k).id⟩ = B := ⟨_, rfl⟩
            have HB := Lib.hid hB
            have e : x1F g ps S k = if B = false then 2 else if (ps k).told.bridge = g then 4 else 3 := by
              unfold x1F; rw [← hB]; simp [hhas, tellF]
            rw [hup, hhas] at h8
            have hKw : Keep w8 w8 [(bp, #[.int .i64 (ps k).id, .int .u64 (ps k).cost, .bool true, .bool true, .int .u64 (ps k).told.root, .int .u64 (ps k).told.cost, .int .u64 (ps k).told.bridge, .int .i64 (ps k).told.port], 61), (b5, #[.int .u64 S.v.root, .int .u64 S.v.cost, .int .u64 S.v.bridge, .int .i64 S.v.port, .int .i64 S.p, .slice (some ⟨br, 0, none⟩) n n, .slice (some ⟨bt, 0, none⟩) n n], 53)] := ⟨by intro x hx; simp at hx; rcases hx with rfl | rfl; exact h8; exact hz8, Below.refl _ _⟩
            have hst : ∀ (nn : KW w8 [(bp, #[.int .i64 (ps k).id, .int .u64 (ps k).cost, .bool true, .bool true, .int .u64 (ps k).told.root, .int .u64 (ps k).told.cost, .int .u64 (ps k).told.bridge, .int .i64 (ps k).told.port], 61), (b5, #[.int .u64 S.v.root, .int .u64 S.v.cost, .int .u64 S.v.bridge, .int .i64 S.v.port, .int .i64 S.p, .slice (some ⟨br, 0, none⟩) n n, .slice (some ⟨bt, 0, none⟩) n n], 53)]), SelOut nn.val n g ps S br bt cr ct n n := fun nn => ho8.fr (Fr.of_below (m := fun _ => False) nn.keep.below) (fun h => h) (fun h => h)
            have e0 : ∀ (nn : KW w8 [(bp, #[.int .i64 (ps k).id, .int .u64 (ps k).cost, .bool true, .bool true, .int .u64 (ps k).told.root, .int .u64 (ps k).told.cost, .int .u64 (ps k).told.bridge, .int .i64 (ps k).told.port], 61), (b5, #[.int .u64 S.v.root, .int .u64 S.v.cost, .int .u64 S.v.bridge, .int .i64 S.v.port, .int .i64 S.p, .slice (some ⟨br, 0, none⟩) n n, .slice (some ⟨bt, 0, none⟩) n n], 53)]) (o : Nat), nn.val.cell? ⟨bp, o, none⟩ = #[Value.int .i64 (ps k).id, .int .u64 (ps k).cost, .bool true, .bool true, .int .u64 (ps k).told.root, .int .u64 (ps k).told.cost, .int .u64 (ps k).told.bridge, .int .i64 (ps k).told.port][o]? := fun nn => (nn.keep.nth 0 rfl).cell
            have e1 : ∀ (nn : KW w8 [(bp, #[.int .i64 (ps k).id, .int .u64 (ps k).cost, .bool true, .bool true, .int .u64 (ps k).told.root, .int .u64 (ps k).told.cost, .int .u64 (ps k).told.bridge, .int .i64 (ps k).told.port], 61), (b5, #[.int .u64 S.v.root, .int .u64 S.v.cost, .int .u64 S.v.bridge, .int .i64 S.v.port, .int .i64 S.p, .slice (some ⟨br, 0, none⟩) n n, .slice (some ⟨bt, 0, none⟩) n n], 53)]) (o : Nat), nn.val.cell? ⟨b5, o, none⟩ = #[.int .u64 S.v.root, .int .u64 S.v.cost, .int .u64 S.v.bridge, .int .i64 S.v.port, .int .i64 S.p, .slice (some ⟨br, 0, none⟩) n n, .slice (some ⟨bt, 0, none⟩) n n][o]? := fun nn => (nn.keep.nth 1 rfl).cell
            have t0 : ∀ (nn : KW w8 [(bp, #[.int .i64 (ps k).id, .int .u64 (ps k).cost, .bool true, .bool true, .int .u64 (ps k).told.root, .int .u64 (ps k).told.cost, .int .u64 (ps k).told.bridge, .int .i64 (ps k).told.port], 61), (b5, #[.int .u64 S.v.root, .int .u64 S.v.cost, .int .u64 S.v.bridge, .int .i64 S.v.port, .int .i64 S.p, .slice (some ⟨br, 0, none⟩) n n, .slice (some ⟨bt, 0, none⟩) n n], 53)]), nn.val.cell? ⟨bt, k * 4, none⟩ = some (.int .u64 S.v.root) := fun nn => (hst nn).tells k 0 (by omega) (by omega)
            have t1 : ∀ (nn : KW w8 [(bp, #[.int .i64 (ps k).id, .int .u64 (ps k).cost, .bool true, .bool true, .int .u64 (ps k).told.root, .int .u64 (ps k).told.cost, .int .u64 (ps k).told.bridge, .int .i64 (ps k).told.port], 61), (b5, #[.int .u64 S.v.root, .int .u64 S.v.cost, .int .u64 S.v.bridge, .int .i64 S.v.port, .int .i64 S.p, .slice (some ⟨br, 0, none⟩) n n, .slice (some ⟨bt, 0, none⟩) n n], 53)]), nn.val.cell? ⟨bt, k * 4 + 1, none⟩ = some (.int .u64 S.v.cost) := fun nn => (hst nn).tells k 1 (by omega) (by omega)
            have t2 : ∀ (nn : KW w8 [(bp, #[.int .i64 (ps k).id, .int .u64 (ps k).cost, .bool true, .bool true, .int .u64 (ps k).told.root, .int .u64 (ps k).told.cost, .int .u64 (ps k).told.bridge, .int .i64 (ps k).told.port], 61), (b5, #[.int .u64 S.v.root, .int .u64 S.v.cost, .int .u64 S.v.bridge, .int .i64 S.v.port, .int .i64 S.p, .slice (some ⟨br, 0, none⟩) n n, .slice (some ⟨bt, 0, none⟩) n n], 53)]), nn.val.cell? ⟨bt, k * 4 + 2, none⟩ = some (.int .u64 g) := fun nn => (hst nn).tells k 2 (by omega) (by omega)
            have t3 : ∀ (nn : KW w8 [(bp, #[.int .i64 (ps k).id, .int .u64 (ps k).cost, .bool true, .bool true, .int .u64 (ps k).told.root, .int .u64 (ps k).told.cost, .int .u64 (ps k).told.bridge, .int .i64 (ps k).told.port], 61), (b5, #[.int .u64 S.v.root, .int .u64 S.v.cost, .int .u64 S.v.bridge, .int .i64 S.v.port, .int .i64 S.p, .slice (some ⟨br, 0, none⟩) n n, .slice (some ⟨bt, 0, none⟩) n n], 53)]), nn.val.cell? ⟨bt, k * 4 + 3, none⟩ = some (.int .i64 (ps k).id) := fun nn => (hst nn).tells k 3 (by omega) (by omega)
            have hne : Nonempty (KW w8 [(bp, #[.int .i64 (ps k).id, .int .u64 (ps k).cost, .bool true, .bool true, .int .u64 (ps k).told.root, .int .u64 (ps k).told.cost, .int .u64 (ps k).told.bridge, .int .i64 (ps k).told.port], 61), (b5, #[.int .u64 S.v.root, .int .u64 S.v.cost, .int .u64 S.v.bridge, .int .i64 S.v.port, .int .i64 S.p, .slice (some ⟨br, 0, none⟩) n n, .slice (some ⟨bt, 0, none⟩) n n], 53)]) := ⟨⟨_, hKw⟩⟩
            clear hst hB
            cases B with
            | false =>
              rw [if_pos rfl] at e
              rw [hrx, e] at r0
              clear hrx e
              go_wp2
              refine wp_region_keep (by kernel_rfl) (by kernel_rfl) hKw ?_
              repeat (go_big_quiet_step ((go_at_call 17; exact KW.call (better_calls _ _ _ HB.out _))))
              refine wpQuiet_nil ?_
              rintro _ ⟨nq, rfl⟩
              go_wp2
              go_roundg gh
              case measure => omega
              case rel => exact ⟨k + 1, by omega, by go_num, by rw [HC.out], hbx8.trans (nq.keep.below.mono hbx8.size)⟩
            | true =>
              rw [if_neg (by simp)] at e
              by_cases hbr : (ps k).told.bridge = g
              · rw [if_pos hbr] at e
                rw [hrx, e] at r0
                have hbrb : ((ps k).told.bridge != g) = false := by simpa using hbr
                clear hrx e hne e0 e1 t0 t1 t2 t3
                go_wp2
                go_roundg gh
                case measure => omega
                case rel => exact ⟨k + 1, by omega, by go_num, by rw [HC.out], hbx8⟩
              · rw [if_neg hbr] at e
                rw [hrx, e] at r0
                have hbrb : ((ps k).told.bridge == g) = false := by simpa using hbr
                clear hrx e
                go_wp2
                refine wp_region_keep (by kernel_rfl) (by kernel_rfl) hKw ?_
                repeat (go_big_quiet_step ((go_at_call 17; exact KW.call (better_calls _ _ _ HB.out _))))
                refine wpQuiet_nil ?_
                rintro _ ⟨nq, rfl⟩
                go_wp2
                go_roundg gh
                case measure => omega
                case rel => exact ⟨k + 1, by omega, by go_num, by rw [HC.out], hbx8.trans (nq.keep.below.mono hbx8.size)⟩
      · have hup' : (ps k).up = false := by simpa using hup
        rw [hup'] at q8
        rw [if_pos hup'] at hrx
        rw [hrx] at r0
        have hneq : ¬ (k : Int) = S.p := fun h => by have := (HPO.out k h.symm).1; rw [hup'] at this; cases this
        have HC := Lib.hid (cnt_ne S k hneq)
        clear hrx hc hneq
        go_wp2
        go_roundg gh
        case measure => omega
        case rel => exact ⟨k + 1, by omega, by go_num, by rw [HC.out], hbx8⟩
end Go.Proofs.Ytjnbjcieepooaab
