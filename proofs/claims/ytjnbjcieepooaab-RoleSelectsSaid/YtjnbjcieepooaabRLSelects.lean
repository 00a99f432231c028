/- The law 'RoleSelects' answers true. -/
import Derived.Test.YtjnbjcieepooaabRolePlain
import Derived.Test.YtjnbjcieepooaabRoleSels
namespace Go.Proofs.Ytjnbjcieepooaab
open Go.RowKit
set_option linter.unusedVariables false
set_option linter.unusedSimpArgs false

/-- What stands at a place of the four lists. -/
structure Sames (w : World) (g : Int) (ps : Nat → RPort) (S : Way) (n br bt gr gt : Nat) : Prop where
  lr : br < w.heap.size
  lt : bt < w.heap.size
  mr : gr < w.heap.size
  mt : gt < w.heap.size
  r : ∀ i, i < n → w.cell? ⟨br, i, none⟩ = some (.int .i64 (roleF g ps S i))
  r' : ∀ i, i < n → w.cell? ⟨gr, i, none⟩ = some (.int .i64 (roleF g ps S i))
  t : ∀ i o, i < n → o < 4 → w.cell? ⟨bt, i * 4 + o, none⟩ = (tellF g ps S i).cells[o]?
  t' : ∀ i o, i < n → o < 4 → w.cell? ⟨gt, i * 4 + o, none⟩ = (tellF g ps S i).cells[o]?
theorem rolesL_get (g : Int) (ps : Nat → RPort) (S : Way) (k i : Nat) (hi : i < k) : (rolesL g ps S k)[i]? = some (.int .i64 (roleF g ps S i)) := by
  unfold rolesL
  rw [List.getElem?_map, List.getElem?_range hi]; rfl
theorem tellsL_get (g : Int) (ps : Nat → RPort) (S : Way) (k i o : Nat) (hi : i < k) (ho : o < 4) : (tellsL g ps S k)[i * 4 + o]? = (tellF g ps S i).cells[o]? := by
  unfold tellsL
  rw [flat_get _ 4 (fun i => rfl) k i o hi ho]; simp
theorem Sames.below {w w' : World} {g : Int} {ps : Nat → RPort} {S : Way} {n br bt gr gt : Nat} (h : Sames w g ps S n br bt gr gt) (hb : Below w.heap.size w w') : Sames w' g ps S n br bt gr gt :=
  ⟨Nat.lt_of_lt_of_le h.lr hb.size, Nat.lt_of_lt_of_le h.lt hb.size, Nat.lt_of_lt_of_le h.mr hb.size, Nat.lt_of_lt_of_le h.mt hb.size, fun i hi => (hb.cell h.lr).trans (h.r i hi), fun i hi => (hb.cell h.mr).trans (h.r' i hi), fun i o hi ho => (hb.cell h.lt).trans (h.t i o hi ho), fun i o hi ho => (hb.cell h.mt).trans (h.t' i o hi ho)⟩

set_option maxRecDepth 8000 in
set_option maxHeartbeats 4000000 in
theorem roleSelects_any (w : World) (g : Int) (a : Option Addr) (n cap : Nat) (ps : Nat → RPort) (hok : ∀ i, i < n → (ps i).ok) (htop : n ≤ 9223372036854775807) (hp : 0 < n → ∃ b off, a = some ⟨b, off, none⟩ ∧ PortsAt w b off n ps) :
    Calls Try.prog 10 #[.int .u64 g, .slice a n cap] w fun e w' => e = .returned (.bool true) ∧ Below w.heap.size w w' := by
  by_cases hbig : 60 < n
  · clear hp
    go_enter Try.func10, Try.ntmps10
    go_wp2_with (go_at_call 25; (with_reducible refine (selects_calls _).mono ?_); rintro e w' ⟨rfl, hb1⟩)
    go_ret
    exact ⟨rfl, by assumption⟩
  obtain ⟨S, hS⟩ : ∃ S, wayN g ps n = S := ⟨_, rfl⟩
  have HS := Lib.hid hS
  have HP := Lib.hid hp
  clear hS hp
  have hPS : Hid (∀ w', Below w.heap.size w w' → (0 < n → ∃ b off, a = some ⟨b, off, none⟩ ∧ PortsAt w' b off n ps)) := fun w' hb hn => by
    obtain ⟨b, off, h, hP⟩ := HP.out hn
    exact ⟨b, off, h, hP.below hb⟩
  go_enter Try.func10, Try.ntmps10
  go_upto_region 6 with (first
    | (go_at_call 25; (with_reducible refine (selects_calls _).mono ?_); rintro e w1 ⟨rfl, hb1⟩)
    | (go_at_call 26; (with_reducible refine (select_calls g ps a n cap (by omega) hok _ (hPS.out _ hb1) S HS.out).mono ?_); rintro e w2 ⟨br, bt, cr, ct, rfl, ho, g1, g2, hb2⟩))
  have hb3 := hb1.trans (hb2.mono hb1.size)
  have K1 := (Keep.start w2).add #[.int .u64 S.v.root, .int .u64 S.v.cost, .int .u64 S.v.bridge, .int .i64 S.v.port, .int .i64 S.p, .slice (some ⟨br, 0, none⟩) n n, .slice (some ⟨bt, 0, none⟩) n n] 53
  generalize w2.alloc (.cells #[.int .u64 S.v.root, .int .u64 S.v.cost, .int .u64 S.v.bridge, .int .i64 S.v.port, .int .i64 S.p, .slice (some ⟨br, 0, none⟩) n n, .slice (some ⟨bt, 0, none⟩) n n] 53) = w3 at K1 ⊢
  generalize w2.heap.size = b5 at K1 ⊢
  have hb4 := hb3.trans (K1.below.mono hb3.size)
  go_upto_region 7 with (first
    | (go_at_call 28; (with_reducible refine (plain_calls ps a n cap (by omega) _ (hPS.out _ hb4)).mono ?_); rintro e w4 ⟨v, rfl, ⟨a', cap', rfl, hp'⟩, hb5⟩)
    | (go_at_call 27; (with_reducible refine (refSelect_calls g ps a' n cap' (by omega) hok _ hp' S HS.out).mono ?_); rintro e w5 ⟨vr, vt, rfl, hr, ht, hb6⟩))
  have K6 := ((K1.step hb5).step hb6).add #[.int .u64 S.v.root, .int .u64 S.v.cost, .int .u64 S.v.bridge, .int .i64 S.v.port] 24
  obtain ⟨ar, car, hvr⟩ := own_slice hr
  obtain ⟨ta, cta, hvt⟩ := own_slice ht
  have hb7 := hb3.trans (K6.below.mono hb3.size)
  have b56 := ((Below.refl w5.heap.size w5).alloc (Nat.le_refl _) (.cells #[.int .u64 S.v.root, .int .u64 S.v.cost, .int .u64 S.v.bridge, .int .i64 S.v.port] 24))
  have hsame : Hid (0 < n → ∃ gr gt, ar = some ⟨gr, 0, none⟩ ∧ ta = some ⟨gt, 0, none⟩ ∧ Sames (w5.alloc (.cells #[.int .u64 S.v.root, .int .u64 S.v.cost, .int .u64 S.v.bridge, .int .i64 S.v.port] 24)) g ps S n br bt gr gt) := fun hn => by
    obtain ⟨gr, cgr, e1, _, l1, _, c1⟩ := own_at hr hn
    obtain ⟨gt, cgt, e2, _, l2, _, c2⟩ := own_at ht hn
    rw [hvr] at e1
    rw [hvt] at e2
    simp only [Value.slice.injEq] at e1 e2
    refine ⟨gr, gt, e1.1, e2.1, ?_⟩
    have ho' := ho.fr (Fr.of_below (m := fun _ => False) K6.below) (fun h => h) (fun h => h)
    exact ⟨ho'.r.lt, ho'.t.lt, Nat.lt_of_lt_of_le l1 b56.size, Nat.lt_of_lt_of_le l2 b56.size, fun i hi => by rw [ho'.r.cell]; exact ho'.rv i hi,
      fun i hi => by rw [b56.cell (p := ⟨gr, i, none⟩) l1, c1 i (by omega)]; exact rolesL_get g ps S n i hi, fun i o hi ho => ho'.tells i o hi ho,
      fun i o hi ho => by rw [b56.cell (p := ⟨gt, i * 4 + o, none⟩) l2, c2 _ (by omega)]; exact tellsL_get g ps S n i o hi ho⟩
  subst hvr hvt
  clear hr ht ho hb6 hb5 hp' K1 b56 hb4 hb2 g1 g2 hb1 hb3
  generalize w5.alloc (.cells #[.int .u64 S.v.root, .int .u64 S.v.cost, .int .u64 S.v.bridge, .int .i64 S.v.port] 24) = w6 at K6 hsame hb7 ⊢
  generalize w5.heap.size = b6 at K6 ⊢
  have q5 := (K6.nth 1 rfl).cell
  have q6 := (K6.nth 0 rfl).cell
  have q5h : Hid (∀ w', Below w6.heap.size w6 w' → ∀ o, w'.cell? ⟨b5, o, none⟩ = #[Value.int .u64 S.v.root, .int .u64 S.v.cost, .int .u64 S.v.bridge, .int .i64 S.v.port, .int .i64 S.p, .slice (some ⟨br, 0, none⟩) n n, .slice (some ⟨bt, 0, none⟩) n n][o]?) := fun w' hb => (((K6.step hb).nth 1 rfl).cell)
  clear K6
  go_wp2
  go_loopg [56] n (fun gh s56 wx => ∃ k : Nat, k + gh = n ∧ s56 = .int .i64 (k : Int) ∧ Below w6.heap.size w6 wx)
  case atStart => exact ⟨0, by omega, rfl, Below.refl _ _⟩
  case round =>
    obtain ⟨k, hkg, rfl, hbx⟩ := hrel
    clear q5 q6
    cases gk with
    | zero =>
      have hkM : ¬ ((k : Int) < (n : Int)) := by omega
      go_wp2
      go_ret
      exact ⟨rfl, hb7.trans (hbx.mono hb7.size)⟩
    | succ gh =>
      have hkM : (k : Int) < (n : Int) := by omega
      obtain ⟨gr, gt, rfl, rfl, hs⟩ := hsame.out (by omega)
      have hs' := hs.below hbx
      have q5 := q5h.out _ hbx
      have r1 := hs'.r k (by omega)
      have r2 := hs'.r' k (by omega)
      have t0 : wr.cell? ⟨bt, k * 4, none⟩ = some (.int .u64 S.v.root) := hs'.t k 0 (by omega) (by omega)
      have t1 : wr.cell? ⟨bt, k * 4 + 1, none⟩ = some (.int .u64 S.v.cost) := hs'.t k 1 (by omega) (by omega)
      have t2 : wr.cell? ⟨bt, k * 4 + 2, none⟩ = some (.int .u64 g) := hs'.t k 2 (by omega) (by omega)
      have t3 : wr.cell? ⟨bt, k * 4 + 3, none⟩ = some (.int .i64 (ps k).id) := hs'.t k 3 (by omega) (by omega)
      have u0 : wr.cell? ⟨gt, k * 4, none⟩ = some (.int .u64 S.v.root) := hs'.t' k 0 (by omega) (by omega)
      have u1 : wr.cell? ⟨gt, k * 4 + 1, none⟩ = some (.int .u64 S.v.cost) := hs'.t' k 1 (by omega) (by omega)
      have u2 : wr.cell? ⟨gt, k * 4 + 2, none⟩ = some (.int .u64 g) := hs'.t' k 2 (by omega) (by omega)
      have u3 : wr.cell? ⟨gt, k * 4 + 3, none⟩ = some (.int .i64 (ps k).id) := hs'.t' k 3 (by omega) (by omega)
      clear hs hs'
      go_wp2
      go_quiet (fail)
      go_wp2
      go_roundg gh
      case measure => omega
      case rel => exact ⟨k + 1, by omega, by go_num, hbx.trans ⟨rfl, rfl, rfl, Nat.le_refl _, fun _ _ => rfl⟩⟩
end Go.Proofs.Ytjnbjcieepooaab
