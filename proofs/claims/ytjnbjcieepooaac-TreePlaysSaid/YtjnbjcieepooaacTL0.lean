/- The methods of a tree, as the laws call them: a tree that lies somewhere, and blocks that no method touches. -/
import Derived.Test.YtjnbjcieepooaacTW6
import Derived.Test.YtjnbjcieepooaacTW9
import Derived.Test.YtjnbjcieepooaacTWA
import Derived.Test.YtjnbjcieepooaacTWC
namespace Go.Proofs.Ytjnbjcieepooaac
open Go.RowKit
set_option linter.unusedVariables false
set_option linter.unusedSimpArgs false

/-- A tree lies at a block; none of its own blocks is one of those in Z, which all are there. -/
def TAt (w : World) (tb : Nat) (T : Tr) (Z : Nat → Prop) : Prop := ∃ B : TB, B.tb = tb ∧ TreeW w B T ∧ (∀ k, TOwn B T.n k → ¬ Z k) ∧ ∀ k, Z k → k < w.heap.size
/-- Nothing of Z is touched. -/
abbrev FrZ (Z : Nat → Prop) (w w' : World) : Prop := Fr (fun k => ¬ Z k) w w'
theorem FrZ.blk {Z : Nat → Prop} {w w' : World} {b : Nat} {cs : Array Value} {t : TypeId} (h : FrZ Z w w') (hb : Blk w b cs t) (hz : Z b) : Blk w' b cs t := hb.fr h fun hn => hn hz
theorem FrZ.toBelow {Z : Nat → Prop} {base : Nat} {w w' : World} (h : FrZ Z w w') (hz : ∀ k, k < base → Z k) (hb : base ≤ w.heap.size) : Below base w w' :=
  ⟨h.os, h.tape, h.output, h.size, fun k hk => h.block k (by omega) fun hn => hn (hz k hk)⟩
theorem TAt.below {w w' : World} {tb : Nat} {T : Tr} {Z : Nat → Prop} (h : TAt w tb T Z) (hb : Below w.heap.size w w') : TAt w' tb T Z := by
  obtain ⟨B, h1, h2, h3, h4⟩ := h
  exact ⟨B, h1, h2.below hb, h3, fun k hk => Nat.lt_of_lt_of_le (h4 k hk) hb.size⟩
/-- Other blocks may be kept from now on. -/
theorem TAt.more {w : World} {tb : Nat} {T : Tr} {Z Z' : Nat → Prop} (h : TAt w tb T Z) (hz : ∀ k, Z' k → Z k ∨ w.heap.size ≤ k ∧ False) : TAt w tb T Z' := by
  obtain ⟨B, h1, h2, h3, h4⟩ := h
  refine ⟨B, h1, h2, fun k hk hz' => ?_, fun k hk => ?_⟩
  · rcases hz k hz' with x | ⟨_, x⟩
    · exact h3 k hk x
    · exact x
  · rcases hz k hk with x | ⟨_, x⟩
    · exact h4 k x
    · exact x.elim
def AtPost (w : World) (tb : Nat) (U : Tr) (Z : Nat → Prop) (e : Ending) (w' : World) : Prop := e = .returned (.tuple #[]) ∧ TAt w' tb U Z ∧ FrZ Z w w'
theorem at_post {w : World} {tb : Nat} {T U : Tr} {Z : Nat → Prop} {f : Nat} {args : TB → Array Value} {cargs : Array Value} (hT : TAt w tb T Z) (hn : U.n = T.n)
    (hc : ∀ B : TB, B.tb = tb → TreeW w B T → Calls Try.prog f cargs w (TPost w B T.n U)) : Calls Try.prog f cargs w (AtPost w tb U Z) := by
  obtain ⟨B, h1, h2, h3, h4⟩ := hT
  refine (hc B h1 h2).mono ?_
  rintro e w' ⟨B', rfl, hT', hS⟩
  refine ⟨rfl, ⟨B', hS.tb.trans h1, hT', fun k hk hz => ?_, fun k hk => Nat.lt_of_lt_of_le (h4 k hk) hS.fr.size⟩, hS.fr.mono fun k _ hk => h3 k hk⟩
  rw [hn] at hk
  rcases hS.sub k hk with h | h
  · exact h3 k h hz
  · have := h4 k hz; omega
theorem tick_at {w : World} {tb : Nat} {T : Tr} {Z : Nat → Prop} (hT : TAt w tb T Z) (hok : TOk T (2 * T.n)) (U : Tr) (hU : tickF T = U) : Calls Try.prog 16 #[.pointer (some ⟨tb, 0, none⟩)] w (AtPost w tb U Z) :=
  at_post (args := fun _ => #[]) hT (by rw [← hU]; exact (shp_tick T).n) fun B e h => by subst e; exact tick_calls T B hok w h U hU
theorem link_at {w : World} {tb : Nat} {T : Tr} {Z : Nat → Prop} (hT : TAt w tb T Z) (x : Int) (up : Bool) (hok : TOk T T.n) (U : Tr) (hU : linkF x up T = U) : Calls Try.prog 15 #[.pointer (some ⟨tb, 0, none⟩), .int .i64 x, .bool up] w (AtPost w tb U Z) :=
  at_post (args := fun _ => #[]) hT (by rw [← hU]; exact (shp_link x up T).n) fun B e h => by subst e; exact link_calls T B x up hok w h U hU
theorem state_at {w : World} {tb : Nat} {T : Tr} {Z : Nat → Prop} (hT : TAt w tb T Z) (x : Int) (y : Int) (hy : stateF T x = y) : Calls Try.prog 17 #[.pointer (some ⟨tb, 0, none⟩), .int .i64 x] w fun e w' => e = .returned (.int .i64 y) ∧ w = w' := by
  obtain ⟨B, h1, h2, h3, h4⟩ := hT
  subst h1
  exact state_calls T B x y w h2 hy
theorem root_at {w : World} {tb : Nat} {T : Tr} {Z : Nat → Prop} (hT : TAt w tb T Z) : Calls Try.prog 27 #[.pointer (some ⟨tb, 0, none⟩)] w fun e w' => e = .returned (.tuple #[T.vec.val, .int .i64 T.rp]) ∧ Below w.heap.size w w' := by
  obtain ⟨B, h1, h2, h3, h4⟩ := hT
  subst h1
  exact root_calls T B w h2
theorem ports_at {w : World} {tb : Nat} {T : Tr} {Z : Nat → Prop} (hT : TAt w tb T Z) (hn : T.n ≤ 16) : Calls Try.prog 28 #[.pointer (some ⟨tb, 0, none⟩)] w (PortsPost w T) := by
  obtain ⟨B, h1, h2, h3, h4⟩ := hT
  subst h1
  exact ports_calls T B hn w h2
def OutsAt (w : World) (tb : Nat) (T : Tr) (Z : Nat → Prop) (e : Ending) (w' : World) : Prop :=
  ∃ a c, e = .returned (.slice a T.outs.length c) ∧ w'.ownsRow 0 43 17 (.slice a T.outs.length c) T.outs.length (outsL T.outs) ∧ TAt w' tb (outsF T) (fun k => Z k ∨ InRow (.slice a T.outs.length c) k) ∧ FrZ Z w w' ∧ ∀ k, InRow (.slice a T.outs.length c) k → ¬ Z k
theorem outs_at {w : World} {tb : Nat} {T : Tr} {Z : Nat → Prop} (hT : TAt w tb T Z) : Calls Try.prog 18 #[.pointer (some ⟨tb, 0, none⟩)] w (OutsAt w tb T Z) := by
  obtain ⟨B, h1, h2, h3, h4⟩ := hT
  subst h1
  refine (outs_calls T B w h2).mono ?_
  rintro e w' ⟨rfl, hT', hown, hS⟩
  obtain ⟨a, c, hv⟩ := own_slice hown
  rw [hv] at hown
  have hne := hT'.tb_ne
  have hz : ∀ k, InRow (.slice a T.outs.length c) k → ¬ Z k := fun k hk => h3 k (.inr (.inr (.inr (.inr (.inr (by rw [hv]; exact hk))))))
  refine ⟨a, c, by rw [hv], hown, ⟨{ B with ov := .slice none 0 0 }, rfl, hT', fun k hk => ?_, fun k hk => ?_⟩, hS.fr.mono fun k _ hk => h3 k hk, hz⟩
  · rintro (hz' | hz')
    · rcases hS.sub k hk with h | h
      · exact h3 k h hz'
      · have := h4 k hz'; have := hS.fr.size; have := hT'.own_lt hk; omega
    · rcases hk with h | ⟨hn, h⟩ | h | h | h | h
      · subst h; exact own_ne_blk hown hT'.t (by decide) hz'
      · subst h; exact own_ne_rows hown (hT'.p hn).2 (by decide) hz'
      · subst h; exact own_ne_rows hown hT'.r (by decide) hz'
      · subst h; exact own_ne_rows hown hT'.l (by decide) hz'
      · subst h; exact own_ne_rows hown hT'.f (by decide) hz'
      · simp [InRow, Value.ownBlock] at h
  · rcases hk with h | h
    · exact Nat.lt_of_lt_of_le (h4 k h) hS.fr.size
    · exact (own_ge hown h).2
def FlushAt (w : World) (tb : Nat) (T : Tr) (Z : Nat → Prop) (e : Ending) (w' : World) : Prop :=
  ∃ a c, e = .returned (.slice a (flL T T.n).length c) ∧ TAt w' tb (flushesF T) Z ∧ FrZ Z w w'
theorem flushes_at {w : World} {tb : Nat} {T : Tr} {Z : Nat → Prop} (hT : TAt w tb T Z) (hn : T.n ≤ 16) (hfl : T.flush.length = T.n) : Calls Try.prog 31 #[.pointer (some ⟨tb, 0, none⟩)] w (FlushAt w tb T Z) := by
  obtain ⟨B, h1, h2, h3, h4⟩ := hT
  subst h1
  refine (flushes_calls T B hn hfl w h2).mono ?_
  rintro e w' ⟨v, rfl, hown, hT', hS⟩
  obtain ⟨a, c, rfl⟩ := own_slice hown
  exact ⟨a, c, rfl, ⟨B, rfl, hT', fun k hk => h3 k hk, fun k hk => Nat.lt_of_lt_of_le (h4 k hk) hS.fr.size⟩, hS.fr.mono fun k _ hk => h3 k hk⟩
def NewAt (w : World) (U : Tr) (e : Ending) (w' : World) : Prop := ∃ tb, e = .returned (.pointer (some ⟨tb, 0, none⟩)) ∧ TAt w' tb U (fun k => k < w.heap.size) ∧ Below w.heap.size w w'
theorem NewPost.at_ {w : World} {U : Tr} {e : Ending} {w' : World} (h : NewPost w U e w') : NewAt w U e w' := by
  obtain ⟨B, rfl, hT, hb, ho⟩ := h
  exact ⟨B.tb, rfl, ⟨B, rfl, hT, fun k hk => by have := ho k hk; omega, fun k hk => Nat.lt_of_lt_of_le hk hb.size⟩, hb⟩
/-- Ports that were appended, as New takes them. -/
theorem ports_of_own {w : World} {base n : Nat} {v : Value} {f : Nat → TP} (h : w.ownsRow base 31 16 v n ((List.range n).flatMap fun i => (f i).cells.toList)) :
    ∃ a c, v = .slice a n c ∧ n ≤ c ∧ (0 < n → ∃ b off, a = some ⟨b, off, none⟩ ∧ TPorts w b off n f) := by
  by_cases hn : 0 < n
  · obtain ⟨g, c, rfl, h1, h2, h3, h4⟩ := own_at h hn
    have hR := RowsB.of_own (f := fun i => (f i).cells) (fun i => rfl) h
    exact ⟨_, c, rfl, h3, fun _ => ⟨g, 0, rfl, h2, fun i o hi ho => by rw [Nat.zero_add]; exact hR.cell i o hi ho⟩⟩
  · obtain ⟨a, c, rfl⟩ := own_slice h
    exact ⟨a, c, rfl, by omega, fun h => absurd h hn⟩
def portP (id : Int) (edge : Bool) : TP := ⟨⟨id, 10, false, false, v0⟩, edge, 0, 0, 0, 0, 0, 0, false⟩
def mkL (g : Nat → Int) (k : Nat) : List Value := (List.range k).flatMap fun i => (portP (g i) false).cells.toList
theorem mkL_succ (g : Nat → Int) (k : Nat) : mkL g (k + 1) = mkL g k ++ [.int .i64 (g k), .int .u64 10, .bool false, .bool false, .int .u64 0, .int .u64 0, .int .u64 0, .int .i64 0, .bool false, .int .i64 0, .int .i64 0, .int .i64 0, .int .i64 0, .int .i64 0, .int .i64 0, .bool false] := by
  unfold mkL; rw [List.range_succ, List.flatMap_append]; simp [portP, TP.cells, v0]
def MkPost (w : World) (g : Nat → Int) (n : Nat) (e : Ending) (w' : World) : Prop := ∃ v, e = .returned v ∧ w'.ownsRow w.heap.size 31 16 v n (mkL g n) ∧ Below w.heap.size w w'
set_option maxRecDepth 8000 in
set_option maxHeartbeats 4000000 in
theorem mkports_calls (g : Nat → Int) (a : Option Addr) (n cap : Nat) (hn : n ≤ 1000) (w : World) (hp : 0 < n → ∃ b off, a = some ⟨b, off, none⟩ ∧ b < w.heap.size ∧ ∀ j, j < n → w.cell? ⟨b, off + j, none⟩ = some (.int .i64 (g j))) :
    Calls Try.prog 13 #[.slice a n cap] w (MkPost w g n) := by
  have HP := Lib.hid hp
  clear hp
  go_enter Try.func13, Try.ntmps13
  go_wp2
  go_loopg [3, 8] n (fun gh s3 s8 wx => ∃ k : Nat, k + gh = n ∧ s8 = .int .i64 (k : Int) ∧ wx.ownsRow w.heap.size 31 16 s3 k (mkL g k) ∧ Below w.heap.size w wx)
  case atStart => exact ⟨0, by omega, rfl, World.ownsRow_nil _ _ _ _, Below.refl _ _⟩
  case round =>
    obtain ⟨k, hkg, rfl, hown, hbel⟩ := hrel
    cases gk with
    | zero =>
      have hkM : ¬ ((k : Int) < (n : Int)) := by omega
      obtain rfl : k = n := by omega
      go_wp2
      go_ret
      exact ⟨_, rfl, hown, hbel⟩
    | succ gh =>
      have hkM : (k : Int) < (n : Int) := by omega
      have hkn : k < n := by omega
      obtain ⟨b, off, hab, hlt, hc⟩ := HP.out (by omega)
      have hk : wr.cell? ⟨b, off + k, none⟩ = some (.int .i64 (g k)) := by rw [hbel.cell (p := ⟨b, off + k, none⟩) hlt]; exact hc k hkn
      subst hab
      have ha := (Below.refl wr.heap.size wr).alloc (Nat.le_refl _) (.cells [Value.int .i64 (g k), .int .u64 10, .bool false, .bool false, .int .u64 0, .int .u64 0, .int .u64 0, .int .i64 0, .bool false, .int .i64 0, .int .i64 0, .int .i64 0, .int .i64 0, .int .i64 0, .int .i64 0, .bool false].toArray 31)
      have h2 := own_below hown ha
      have b2 := hbel.trans (ha.mono hbel.size)
      have hsz := b2.size
      clear hc
      go_wp2_with (refine wpList_append_one rfl _ _ 23 rfl w.heap.size 31 _ 16 120 Try.underlying23 info31 rfl (by decide) _ k _ rfl h2 wr.heap.size [Value.int .i64 (g k), .int .u64 10, .bool false, .bool false, .int .u64 0, .int .u64 0, .int .u64 0, .int .i64 0, .bool false, .int .i64 0, .int .i64 0, .int .i64 0, .int .i64 0, .int .i64 0, .int .i64 0, .bool false] 31 rfl (Blk.new wr _ _) rfl (by simp [Value.oneCell']) (by unfold maxLen; omega) (by omega) hsz ?_; intro v3 w8 hown8 hfr hin)
      go_roundg gh
      case measure => omega
      case rel => exact ⟨k + 1, by omega, by go_num, by rw [mkL_succ]; exact hown8, Below.fr b2 hfr b2.size fun i _ hi => by have := (own_ge h2 hi).1; omega⟩
end Go.Proofs.Ytjnbjcieepooaac
