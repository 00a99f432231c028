/- A bridge's part in the spanning tree, as plain data and plain functions: what package tree computes. No program in sight. -/
import Derived.Test.YtjnbjcieepooaacRoleSel
namespace Go.Proofs.Ytjnbjcieepooaac
open Go.RowKit
set_option linter.unusedVariables false
set_option linter.unusedSimpArgs false

/-- A port of a tree. -/
structure TP where
  p : RPort
  edge : Bool
  role : Int
  state : Int
  age : Int
  left : Int
  wait : Int
  change : Int
  agreed : Bool
def TP.cells (q : TP) : Array Value := #[.int .i64 q.p.id, .int .u64 q.p.cost, .bool q.p.up, .bool q.p.has, .int .u64 q.p.told.root, .int .u64 q.p.told.cost, .int .u64 q.p.told.bridge, .int .i64 q.p.told.port,
  .bool q.edge, .int .i64 q.role, .int .i64 q.state, .int .i64 q.age, .int .i64 q.left, .int .i64 q.wait, .int .i64 q.change, .bool q.agreed]
def v0 : Vec := ⟨0, 0, 0, 0⟩
def tp0 : TP := ⟨⟨0, 0, false, false, v0⟩, false, 0, 0, 0, 0, 0, 0, false⟩
/-- A message. -/
structure Msg where
  kind : Int
  v : Vec
  change : Bool
  ack : Bool
  proposal : Bool
  agreement : Bool
  learning : Bool
  forwarding : Bool
  role : Int
  age : Int
  maxAge : Int
  hello : Int
  delay : Int
def Msg.cells (m : Msg) : Array Value := #[.int .i64 m.kind, .int .u64 m.v.root, .int .u64 m.v.cost, .int .u64 m.v.bridge, .int .i64 m.v.port, .bool m.change, .bool m.ack, .bool m.proposal, .bool m.agreement, .bool m.learning, .bool m.forwarding,
  .int .i64 m.role, .int .i64 m.age, .int .i64 m.maxAge, .int .i64 m.hello, .int .i64 m.delay]
structure OutM where
  port : Int
  m : Msg
def OutM.cells (o : OutM) : List Value := [.int .i64 o.port, .int .i64 o.m.kind, .int .u64 o.m.v.root, .int .u64 o.m.v.cost, .int .u64 o.m.v.bridge, .int .i64 o.m.v.port, .bool o.m.change, .bool o.m.ack, .bool o.m.proposal, .bool o.m.agreement, .bool o.m.learning, .bool o.m.forwarding,
  .int .i64 o.m.role, .int .i64 o.m.age, .int .i64 o.m.maxAge, .int .i64 o.m.hello, .int .i64 o.m.delay]
def outsL (l : List OutM) : List Value := l.flatMap OutM.cells
/-- A tree. -/
structure Tr where
  id : Int
  ps : List TP
  vec : Vec
  rp : Int
  roles : List Int
  tells : List Vec
  hello : Int
  outs : List OutM
  flush : List Bool
abbrev Tr.n (T : Tr) : Nat := T.ps.length
def Tr.at_ (T : Tr) (i : Nat) : TP := T.ps.getD i tp0
def Tr.upd (T : Tr) (i : Nat) (x : TP) : Tr := { T with ps := T.ps.set i x }
def Tr.fl (T : Tr) (i : Nat) : Tr := { T with flush := T.flush.set i true }
def Tr.tell_ (T : Tr) (i : Nat) : Vec := T.tells.getD i v0
def Tr.role_ (T : Tr) (i : Nat) : Int := T.roles.getD i 0
theorem upd_n (T : Tr) (i : Nat) (x : TP) : (T.upd i x).n = T.n := List.length_set
theorem upd_at (T : Tr) {i : Nat} (x : TP) (hi : i < T.n) : (T.upd i x).at_ i = x := by
  unfold Tr.at_ Tr.upd; simp [List.getD, List.getElem?_set_self hi]
theorem upd_ne (T : Tr) {i j : Nat} (x : TP) (h : i ≠ j) : (T.upd i x).at_ j = T.at_ j := by
  unfold Tr.at_ Tr.upd; simp [List.getD, List.getElem?_set_ne h]
theorem upd_upd (T : Tr) (i : Nat) (x y : TP) : (T.upd i x).upd i y = T.upd i y := by unfold Tr.upd; simp [List.set_set]
/-- Some rounds, one behind the other. -/
def upto (f : Nat → Tr → Tr) : Nat → Tr → Tr
  | 0, T => T
  | k + 1, T => f k (upto f k T)

def Tr.qs (T : Tr) (i : Nat) : RPort := (T.at_ i).p
/-- The roles by what the ports were told. -/
def selW (T : Tr) : Way := wayN T.id T.qs T.n
def selF (T : Tr) : Tr :=
  { T with vec := (selW T).v, rp := (selW T).p, roles := (List.range T.n).map (roleF T.id T.qs (selW T)), tells := (List.range T.n).map (tellF T.id T.qs (selW T)) }

/-- A port has another role. -/
def turnP (q : TP) (r : Int) : TP :=
  { q with role := r, state := if r = 2 ∧ q.edge = true then 2 else 0, wait := if r = 2 ∧ q.edge = false then 15 else 0, agreed := false, change := 0 }
def turnF (i : Nat) (r : Int) (T : Tr) : Tr :=
  let U := T.upd i (turnP (T.at_ i) r)
  if r = 1 then U else U.fl i
def actB (q : TP) : Bool := decide (q.role = 1) || decide (q.role = 2)
/-- The topology has changed at a port. -/
def chStep (at_ : Nat) (i : Nat) (T : Tr) : Tr :=
  if actB (T.at_ i) = true ∧ (T.at_ i).edge = false then
    (let U := T.upd i { T.at_ i with change := 4 }; if i = at_ then U else U.fl i)
  else T
def changedF (at_ : Nat) (T : Tr) : Tr := upto (chStep at_) T.n T
def fwdP (q : TP) : TP := { q with state := 2, wait := 0 }
def forwardF (i : Nat) (T : Tr) : Tr :=
  let U := T.upd i (fwdP (T.at_ i))
  if (T.at_ i).edge = true then U else changedF i U
/-- A change is heard of. -/
def noStep (at_ : Nat) (i : Nat) (T : Tr) : Tr :=
  if i = at_ ∨ (T.at_ i).edge = true ∨ actB (T.at_ i) = false then T else (T.fl i).upd i { T.at_ i with change := 4 }
def noticeF (at_ : Nat) (T : Tr) : Tr := if actB (T.at_ at_) = true then upto (noStep at_) T.n T else T

/-- What a port tells now. -/
def ageF (T : Tr) : Int := if 0 ≤ T.rp then (T.at_ T.rp.toNat).age else 0
def mroleF (q : TP) : Int := if q.role = 2 then 3 else if q.role = 1 then 2 else 1
def msgF (T : Tr) (i : Nat) : Msg :=
  ⟨1, T.tell_ i, decide ((T.at_ i).change > 0), false, decide ((T.at_ i).role = 2) && decide ((T.at_ i).state ≠ 2) && !(T.at_ i).edge, false, decide ((T.at_ i).state ≥ 1), decide ((T.at_ i).state = 2), mroleF (T.at_ i), ageF T, 5120, 512, 3840⟩
/-- May a message be? The code of bpdu.Check. -/
def ageB (n : Int) : Bool := decide (0 ≤ n) && decide (n ≤ 65535)
def chkF (m : Msg) : Bool :=
  if m.kind < 0 ∨ 3 ≤ m.kind then false
  else if m.kind = 2 then
    decide (m.v.root = 0) && decide (m.v.cost = 0) && decide (m.v.bridge = 0) && decide (m.v.port = 0) && !m.change && !m.ack && !m.proposal && !m.agreement && !m.learning && !m.forwarding && decide (m.role = 0) && decide (m.age = 0) && decide (m.maxAge = 0) && decide (m.hello = 0) && decide (m.delay = 0)
  else if m.kind = 0 ∧ (m.proposal || m.agreement || m.learning || m.forwarding || decide (m.role ≠ 0)) = true ∨ m.role < 0 ∨ 3 < m.role then false
  else if 4294967295 < m.v.cost ∨ m.v.port < 0 ∨ 65535 < m.v.port then false
  else ageB m.age && ageB m.maxAge && ageB m.hello && ageB m.delay && decide (m.age < m.maxAge)
def sendF (i : Nat) (agree : Bool) (T : Tr) : Tr :=
  if chkF (msgF T i) = true then { T with outs := T.outs ++ [⟨(i : Int), { msgF T i with agreement := agree }⟩] } else T
def tellStep (i : Nat) (T : Tr) : Tr :=
  if (T.at_ i).role = 2 ∨ (T.at_ i).role = 1 ∧ 0 < (T.at_ i).change then sendF i false T else T
def tellAll (T : Tr) : Tr := upto tellStep T.n T

/-- The roles are selected anew. -/
def noAgree (i : Nat) (T : Tr) : Tr := T.upd i { T.at_ i with agreed := false }
def roleStep (i : Nat) (X : Tr × Bool) : Tr × Bool :=
  if X.1.role_ i = (X.1.at_ i).role then X else (turnF i (X.1.role_ i) X.1, true)
def uptoB (f : Nat → Tr × Bool → Tr × Bool) : Nat → Tr × Bool → Tr × Bool
  | 0, X => X
  | k + 1, X => f k (uptoB f k X)
def again1 (T : Tr) (tell : Bool) : Tr × Bool :=
  let U := selF T
  if T.vec.root ≠ U.vec.root ∨ T.vec.cost ≠ U.vec.cost then (upto noAgree U.n U, true) else (U, tell)
def again2 (T : Tr) (tell : Bool) : Tr × Bool := uptoB roleStep (again1 T tell).1.n (again1 T tell)
def fwdRoot (T : Tr) : Tr := if 0 ≤ T.rp ∧ (T.at_ T.rp.toNat).state ≠ 2 then forwardF T.rp.toNat T else T
def againF (tell : Bool) (T : Tr) : Tr :=
  let X := again2 T tell
  if X.2 = true then tellAll (fwdRoot X.1) else fwdRoot X.1

/-- A link comes up, or goes down. -/
def linkP (q : TP) (up : Bool) : TP := { q with p := { q.p with up := up, has := false, told := v0 } }
def linkF (x : Int) (up : Bool) (T : Tr) : Tr :=
  if 0 ≤ x ∧ x < (T.n : Int) ∧ (T.at_ x.toNat).p.up ≠ up then againF true ((T.upd x.toNat (linkP (T.at_ x.toNat) up)).fl x.toNat) else T

/-- A port is asked to agree. -/
def propP (q : TP) : TP := { q with state := 0, wait := 15 }
def propStep (at_ : Nat) (i : Nat) (T : Tr) : Tr :=
  if i ≠ at_ ∧ (T.at_ i).role = 2 ∧ (T.at_ i).edge = false ∧ (T.at_ i).agreed = false ∧ (T.at_ i).state ≠ 0 then (T.upd i (propP (T.at_ i))).fl i else T
def proposedF (at_ : Nat) (T : Tr) : Tr :=
  if (T.at_ at_).role = 3 ∨ (T.at_ at_).role = 4 then sendF at_ true T
  else if (T.at_ at_).role = 1 then tellAll (sendF at_ true (upto (propStep at_) T.n T))
  else T
/-- A port hears one that isn't designated. -/
def answerF (i : Nat) (m : Msg) (T : Tr) : Tr :=
  let U := if (T.at_ i).role = 2 ∧ m.agreement = true ∧ m.v.root = (T.tell_ i).root ∧ (T.at_ i).state ≠ 2 then sendF i false (forwardF i (T.upd i { T.at_ i with agreed := true })) else T
  if m.change = true then noticeF i U else U
/-- A port hears a message. -/
def hearP (q : TP) (m : Msg) : TP :=
  { q with p := { q.p with has := decide (m.age + 256 < m.maxAge), told := if m.age + 256 < m.maxAge then m.v else v0 }, age := m.age + 256, left := 6 }
def hearF (i : Nat) (m : Msg) (T : Tr) : Tr :=
  if (T.at_ i).p.has = false ∨ supB m.v (T.at_ i).p.told = true then
    (let U := againF false (T.upd i (hearP (T.at_ i) m)); if m.proposal = true then proposedF i U else U)
  else T
def replyF (i : Nat) (m : Msg) (T : Tr) : Tr := if (T.at_ i).role = 2 ∧ betB (T.tell_ i) m.v = true then sendF i false T else T
def changeF (i : Nat) (m : Msg) (T : Tr) : Tr := if m.change = true then noticeF i T else T
def receiveF (x : Int) (m : Msg) (T : Tr) : Tr :=
  if 0 ≤ x ∧ x < (T.n : Int) ∧ (T.at_ x.toNat).p.up = true ∧ chkF m = true then
    (let i := x.toNat
     let U := T.upd i { T.at_ i with edge := false }
     if m.kind = 2 then noticeF i U
     else if m.kind = 1 ∧ m.role ≠ 3 then answerF i m U
     else changeF i m (replyF i m (hearF i m U)))
  else T
/-- A second goes by. -/
def agedP (q : TP) : TP × Bool :=
  let c := if q.change - 1 < 0 then 0 else q.change - 1
  if q.p.has = true then
    (if q.left - 1 ≤ 0 then ({ q with p := { q.p with has := false, told := v0 }, left := q.left - 1, change := c }, true) else ({ q with left := q.left - 1, change := c }, false))
  else ({ q with change := c }, false)
def ageStep (i : Nat) (X : Tr × Bool) : Tr × Bool := (X.1.upd i (agedP (X.1.at_ i)).1, X.2 || (agedP (X.1.at_ i)).2)
def waitStep (i : Nat) (T : Tr) : Tr :=
  let q := T.at_ i
  if q.role ≠ 2 ∨ q.state = 2 then T
  else if 0 < q.wait - 1 then T.upd i { q with wait := q.wait - 1 }
  else if q.state = 0 then T.upd i { q with state := 1, wait := 15 }
  else forwardF i (T.upd i { q with wait := q.wait - 1 })
def helloF (T : Tr) : Tr := if T.hello - 1 ≤ 0 then tellAll { T with hello := 2 } else { T with hello := T.hello - 1 }
def tick1 (T : Tr) : Tr :=
  let X := uptoB ageStep T.n (T, false)
  if X.2 = true then againF false X.1 else X.1
def tickF (T : Tr) : Tr := helloF (upto waitStep T.n (tick1 T))
def outsF (T : Tr) : Tr := { T with outs := [] }
def flushesF (T : Tr) : Tr := { T with flush := T.flush.map fun _ => false }
def stateF (T : Tr) (x : Int) : Int := if 0 ≤ x ∧ x < (T.n : Int) then (T.at_ x.toNat).state else 0
/-- The tree of a bridge with some ports, all links down. -/
def newP (q : TP) : TP := ⟨⟨q.p.id, q.p.cost, false, false, v0⟩, q.edge, 0, 0, 0, 0, 0, 0, false⟩
def newF (id : Int) (l : List TP) : Tr :=
  selF ⟨id, (l.take 16).map newP, v0, 0, [], [], 0, [], (l.take 16).map fun _ => false⟩
end Go.Proofs.Ytjnbjcieepooaac
