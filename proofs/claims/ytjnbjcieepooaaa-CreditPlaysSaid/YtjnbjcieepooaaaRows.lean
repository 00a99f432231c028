/-
  No cell of these rows narrows 'for every input' (looked for: loops, veiled, ifaces, maps, wideKeys, modest, calm, conditions, laid).
  DERIVED. THE GIVEN ROWS OF THIS SEAT. 12 by the template 'for every input the law returns true; each argument reads behind the call as it read before'; 0 by the template 'total and deterministic' (their statements: YtjnbjcieepooaaaTotals.lean).
  GIVEN WITH THE SEED: the statements are not yours to turn. If you find one false, say at which input.
  Laid BY PROGRAM, IN A SANDBOX (cutbox-rows.mjs): the forced cells as the released guide's own fill.sh prints them over the translation 6e90037069341097… (all of the seat's roots in one cut). By AI agents, Wed Nov 11 2026. No macro, syntax, notation, axiom, sorry.
-/
import Derived.Test.YtjnbjcieepooaaaChecked
import GoSem.Claim
import GoSem.ClaimJoined
import GoSem.ClaimMapViews
import Derived.JoinedTies
import Derived.KernelRfl
namespace Go.Proofs.Ytjnbjcieepooaaa
/- THE CELL 'sum', in the pinned program and in every row, IS THE sha256 OF THE DUMP (.gsa) THAT YtjnbjcieepooaaaProg.lean LOADS. Nothing in Lean hashes anything: it is a label: what it is worth is what the hold of that sum in a sandbox is worth. -/
noncomputable def Try.pinned : Pinned := { name := "ytjnbjcieepooaaa", sum := "6e90037069341097a23eef14840344ff5fc16cf97246e84f205018a35b00d576", checked := Try.checked }
namespace Rows
def none {H : Type} : Left H := { results := [], args := [] }

/-- 'bargatelaw20.ChooseClass': WHATEVER THE INPUT: true; the input reads as it did. -/
def chooseClassSpec : ChangeSpec := { name := "chooseClass", fn := fun _ => fun
  | [d1, d2] => { results := [.lit (.bool true)], args := [d1, d2] }
  | _ => none }
def chooseClassRow : OpenClaim := { program := "ytjnbjcieepooaaa", sum := "6e90037069341097a23eef14840344ff5fc16cf97246e84f205018a35b00d576", func := "bargate/bargatelaw20.ChooseClass", spec := "chooseClass", apart := false }
def ChooseClassSaid : Prop := chooseClassRow.holds Try.pinned (OpenSpec.ofChange chooseClassSpec)

/-- ITS FALSE NEIGHBOUR: 'it returns false'. Refute it at one input. -/
def chooseClassWrong : ChangeSpec := { name := "chooseClass", fn := fun _ => fun
  | [d1, d2] => { results := [.lit (.bool false)], args := [d1, d2] }
  | _ => none }
def ChooseClassWrongFalsely : Prop := chooseClassRow.holds Try.pinned (OpenSpec.ofChange chooseClassWrong)

/-- 'bargatelaw20.ChooseWake': WHATEVER THE INPUT: true; the input reads as it did. -/
def chooseWakeSpec : ChangeSpec := { name := "chooseWake", fn := fun _ => fun
  | [d1, d2, d3] => { results := [.lit (.bool true)], args := [d1, d2, d3] }
  | _ => none }
def chooseWakeRow : OpenClaim := { program := "ytjnbjcieepooaaa", sum := "6e90037069341097a23eef14840344ff5fc16cf97246e84f205018a35b00d576", func := "bargate/bargatelaw20.ChooseWake", spec := "chooseWake", unfollowed := true, recurses := true, apart := false }
def ChooseWakeSaid : Prop := chooseWakeRow.holds Try.pinned (OpenSpec.ofChange chooseWakeSpec)

/-- ITS FALSE NEIGHBOUR: 'it returns false'. Refute it at one input. -/
def chooseWakeWrong : ChangeSpec := { name := "chooseWake", fn := fun _ => fun
  | [d1, d2, d3] => { results := [.lit (.bool false)], args := [d1, d2, d3] }
  | _ => none }
def ChooseWakeWrongFalsely : Prop := chooseWakeRow.holds Try.pinned (OpenSpec.ofChange chooseWakeWrong)

/-- 'bargatelaw20.ChooseChecks': WHATEVER THE INPUT: true; the input reads as it did. -/
def chooseChecksSpec : ChangeSpec := { name := "chooseChecks", fn := fun _ => fun
  | [d1, d2] => { results := [.lit (.bool true)], args := [d1, d2] }
  | _ => none }
def chooseChecksRow : OpenClaim := { program := "ytjnbjcieepooaaa", sum := "6e90037069341097a23eef14840344ff5fc16cf97246e84f205018a35b00d576", func := "bargate/bargatelaw20.ChooseChecks", spec := "chooseChecks", apart := false }
def ChooseChecksSaid : Prop := chooseChecksRow.holds Try.pinned (OpenSpec.ofChange chooseChecksSpec)

/-- ITS FALSE NEIGHBOUR: 'it returns false'. Refute it at one input. -/
def chooseChecksWrong : ChangeSpec := { name := "chooseChecks", fn := fun _ => fun
  | [d1, d2] => { results := [.lit (.bool false)], args := [d1, d2] }
  | _ => none }
def ChooseChecksWrongFalsely : Prop := chooseChecksRow.holds Try.pinned (OpenSpec.ofChange chooseChecksWrong)

/-- 'bargatelaw05.WireTimes': WHATEVER THE INPUT: true; the input reads as it did. -/
def wireTimesSpec : ChangeSpec := { name := "wireTimes", fn := fun _ => fun
  | [d1, d2] => { results := [.lit (.bool true)], args := [d1, d2] }
  | _ => none }
def wireTimesRow : OpenClaim := { program := "ytjnbjcieepooaaa", sum := "6e90037069341097a23eef14840344ff5fc16cf97246e84f205018a35b00d576", func := "bargate/bargatelaw05.WireTimes", spec := "wireTimes", apart := false }
def WireTimesSaid : Prop := wireTimesRow.holds Try.pinned (OpenSpec.ofChange wireTimesSpec)

/-- ITS FALSE NEIGHBOUR: 'it returns false'. Refute it at one input. -/
def wireTimesWrong : ChangeSpec := { name := "wireTimes", fn := fun _ => fun
  | [d1, d2] => { results := [.lit (.bool false)], args := [d1, d2] }
  | _ => none }
def WireTimesWrongFalsely : Prop := wireTimesRow.holds Try.pinned (OpenSpec.ofChange wireTimesWrong)

/-- 'bargatelaw05.WireFits': WHATEVER THE INPUT: true; the input reads as it did. -/
def wireFitsSpec : ChangeSpec := { name := "wireFits", fn := fun _ => fun
  | [d1, d2] => { results := [.lit (.bool true)], args := [d1, d2] }
  | _ => none }
def wireFitsRow : OpenClaim := { program := "ytjnbjcieepooaaa", sum := "6e90037069341097a23eef14840344ff5fc16cf97246e84f205018a35b00d576", func := "bargate/bargatelaw05.WireFits", spec := "wireFits", apart := false }
def WireFitsSaid : Prop := wireFitsRow.holds Try.pinned (OpenSpec.ofChange wireFitsSpec)

/-- ITS FALSE NEIGHBOUR: 'it returns false'. Refute it at one input. -/
def wireFitsWrong : ChangeSpec := { name := "wireFits", fn := fun _ => fun
  | [d1, d2] => { results := [.lit (.bool false)], args := [d1, d2] }
  | _ => none }
def WireFitsWrongFalsely : Prop := wireFitsRow.holds Try.pinned (OpenSpec.ofChange wireFitsWrong)

/-- 'bargatelaw05.WireClocks': WHATEVER THE INPUT: true; the input reads as it did. -/
def wireClocksSpec : ChangeSpec := { name := "wireClocks", fn := fun _ => fun
  | [d1, d2] => { results := [.lit (.bool true)], args := [d1, d2] }
  | _ => none }
def wireClocksRow : OpenClaim := { program := "ytjnbjcieepooaaa", sum := "6e90037069341097a23eef14840344ff5fc16cf97246e84f205018a35b00d576", func := "bargate/bargatelaw05.WireClocks", spec := "wireClocks", apart := false }
def WireClocksSaid : Prop := wireClocksRow.holds Try.pinned (OpenSpec.ofChange wireClocksSpec)

/-- ITS FALSE NEIGHBOUR: 'it returns false'. Refute it at one input. -/
def wireClocksWrong : ChangeSpec := { name := "wireClocks", fn := fun _ => fun
  | [d1, d2] => { results := [.lit (.bool false)], args := [d1, d2] }
  | _ => none }
def WireClocksWrongFalsely : Prop := wireClocksRow.holds Try.pinned (OpenSpec.ofChange wireClocksWrong)

/-- 'bargatelaw05.WireCredits': WHATEVER THE INPUT: true; the input reads as it did. -/
def wireCreditsSpec : ChangeSpec := { name := "wireCredits", fn := fun _ => fun
  | [d1, d2, d3] => { results := [.lit (.bool true)], args := [d1, d2, d3] }
  | _ => none }
def wireCreditsRow : OpenClaim := { program := "ytjnbjcieepooaaa", sum := "6e90037069341097a23eef14840344ff5fc16cf97246e84f205018a35b00d576", func := "bargate/bargatelaw05.WireCredits", spec := "wireCredits", apart := false }
def WireCreditsSaid : Prop := wireCreditsRow.holds Try.pinned (OpenSpec.ofChange wireCreditsSpec)

/-- ITS FALSE NEIGHBOUR: 'it returns false'. Refute it at one input. -/
def wireCreditsWrong : ChangeSpec := { name := "wireCredits", fn := fun _ => fun
  | [d1, d2, d3] => { results := [.lit (.bool false)], args := [d1, d2, d3] }
  | _ => none }
def WireCreditsWrongFalsely : Prop := wireCreditsRow.holds Try.pinned (OpenSpec.ofChange wireCreditsWrong)

/-- 'bargatelaw05.WireSpeeds': WHATEVER THE INPUT: true; the input reads as it did. -/
def wireSpeedsSpec : ChangeSpec := { name := "wireSpeeds", fn := fun _ => fun
  | [d] => { results := [.lit (.bool true)], args := [d] }
  | _ => none }
def wireSpeedsRow : OpenClaim := { program := "ytjnbjcieepooaaa", sum := "6e90037069341097a23eef14840344ff5fc16cf97246e84f205018a35b00d576", func := "bargate/bargatelaw05.WireSpeeds", spec := "wireSpeeds", apart := false }
def WireSpeedsSaid : Prop := wireSpeedsRow.holds Try.pinned (OpenSpec.ofChange wireSpeedsSpec)

/-- ITS FALSE NEIGHBOUR: 'it returns false'. Refute it at one input. -/
def wireSpeedsWrong : ChangeSpec := { name := "wireSpeeds", fn := fun _ => fun
  | [d] => { results := [.lit (.bool false)], args := [d] }
  | _ => none }
def WireSpeedsWrongFalsely : Prop := wireSpeedsRow.holds Try.pinned (OpenSpec.ofChange wireSpeedsWrong)

/-- 'bargatelaw19.CreditPlays': WHATEVER THE INPUT: true; the input reads as it did. -/
def creditPlaysSpec : ChangeSpec := { name := "creditPlays", fn := fun _ => fun
  | [d1, d2, d3] => { results := [.lit (.bool true)], args := [d1, d2, d3] }
  | _ => none }
def creditPlaysRow : OpenClaim := { program := "ytjnbjcieepooaaa", sum := "6e90037069341097a23eef14840344ff5fc16cf97246e84f205018a35b00d576", func := "bargate/bargatelaw19.CreditPlays", spec := "creditPlays", apart := false }
def CreditPlaysSaid : Prop := creditPlaysRow.holds Try.pinned (OpenSpec.ofChange creditPlaysSpec)

/-- ITS FALSE NEIGHBOUR: 'it returns false'. Refute it at one input. -/
def creditPlaysWrong : ChangeSpec := { name := "creditPlays", fn := fun _ => fun
  | [d1, d2, d3] => { results := [.lit (.bool false)], args := [d1, d2, d3] }
  | _ => none }
def CreditPlaysWrongFalsely : Prop := creditPlaysRow.holds Try.pinned (OpenSpec.ofChange creditPlaysWrong)

/-- 'bargatelaw19.CreditWhen': WHATEVER THE INPUT: true; the input reads as it did. -/
def creditWhenSpec : ChangeSpec := { name := "creditWhen", fn := fun _ => fun
  | [d1, d2, d3] => { results := [.lit (.bool true)], args := [d1, d2, d3] }
  | _ => none }
def creditWhenRow : OpenClaim := { program := "ytjnbjcieepooaaa", sum := "6e90037069341097a23eef14840344ff5fc16cf97246e84f205018a35b00d576", func := "bargate/bargatelaw19.CreditWhen", spec := "creditWhen", apart := false }
def CreditWhenSaid : Prop := creditWhenRow.holds Try.pinned (OpenSpec.ofChange creditWhenSpec)

/-- ITS FALSE NEIGHBOUR: 'it returns false'. Refute it at one input. -/
def creditWhenWrong : ChangeSpec := { name := "creditWhen", fn := fun _ => fun
  | [d1, d2, d3] => { results := [.lit (.bool false)], args := [d1, d2, d3] }
  | _ => none }
def CreditWhenWrongFalsely : Prop := creditWhenRow.holds Try.pinned (OpenSpec.ofChange creditWhenWrong)

/-- 'bargatelaw19.CreditRate': WHATEVER THE INPUT: true; the input reads as it did. -/
def creditRateSpec : ChangeSpec := { name := "creditRate", fn := fun _ => fun
  | [d1, d2, d3] => { results := [.lit (.bool true)], args := [d1, d2, d3] }
  | _ => none }
def creditRateRow : OpenClaim := { program := "ytjnbjcieepooaaa", sum := "6e90037069341097a23eef14840344ff5fc16cf97246e84f205018a35b00d576", func := "bargate/bargatelaw19.CreditRate", spec := "creditRate", apart := false }
def CreditRateSaid : Prop := creditRateRow.holds Try.pinned (OpenSpec.ofChange creditRateSpec)

/-- ITS FALSE NEIGHBOUR: 'it returns false'. Refute it at one input. -/
def creditRateWrong : ChangeSpec := { name := "creditRate", fn := fun _ => fun
  | [d1, d2, d3] => { results := [.lit (.bool false)], args := [d1, d2, d3] }
  | _ => none }
def CreditRateWrongFalsely : Prop := creditRateRow.holds Try.pinned (OpenSpec.ofChange creditRateWrong)

/-- 'bargatelaw05.WireAll': WHATEVER THE INPUT: true; the input reads as it did. -/
def wireAllSpec : ChangeSpec := { name := "wireAll", fn := fun _ => fun
  | [d1, d2] => { results := [.lit (.bool true)], args := [d1, d2] }
  | _ => none }
def wireAllRow : OpenClaim := { program := "ytjnbjcieepooaaa", sum := "6e90037069341097a23eef14840344ff5fc16cf97246e84f205018a35b00d576", func := "bargate/bargatelaw05.WireAll", spec := "wireAll", apart := false }
def WireAllSaid : Prop := wireAllRow.holds Try.pinned (OpenSpec.ofChange wireAllSpec)

/-- ITS FALSE NEIGHBOUR: 'it returns false'. Refute it at one input. -/
def wireAllWrong : ChangeSpec := { name := "wireAll", fn := fun _ => fun
  | [d1, d2] => { results := [.lit (.bool false)], args := [d1, d2] }
  | _ => none }
def WireAllWrongFalsely : Prop := wireAllRow.holds Try.pinned (OpenSpec.ofChange wireAllWrong)

/- THE SECOND FORM. 'bulk': how many values and letters a reading holds, each counted each time it is reached (what is shared counts as often as it is met; a slice's spare places count too). A statement '..UptoSaid' is the law's where the arguments, and the package variables that the reading takes, are together of bulk at most 1048576: NARROWER than '..Said'. Prove '..Said' where nothing that the law and all that it calls make is longer than what came in: it says more and counts as full. Else prove '..UptoSaid'. A law counts once. -/
mutual
def uptoBulk {H : Type} : DataW H → Nat
  | .lit (.string bytes) => bytes.length + 1
  | .lit _ => 1
  | .nil => 1
  | .ptr d => uptoBulk d + 1
  | .slice elems spare => uptoBulkAll elems + uptoBulkAll spare + 1
  | .agg parts => uptoBulkAll parts + 1
  | .iface _ d => uptoBulk d + 1
  | .map entries => uptoBulkEntries entries + 1
  | .held _ => 1
def uptoBulkAll {H : Type} : List (DataW H) → Nat
  | [] => 0
  | d :: r => uptoBulk d + uptoBulkAll r
def uptoBulkEntries {H : Type} : List (Lit × DataW H) → Nat
  | [] => 0
  | x :: r => uptoBulkEntry x + uptoBulkEntries r
def uptoBulkEntry {H : Type} : Lit × DataW H → Nat
  | (.string bytes, d) => bytes.length + uptoBulk d + 1
  | (_, d) => uptoBulk d + 1
 end
def uptoSmall : (H : Type) → List (DataW H) → Bool := fun _ ds => decide (uptoBulkAll ds ≤ 1048576)
def OpenSpec.upto (s : _root_.Go.ChangeSpec) : _root_.Go.OpenSpec := { _root_.Go.OpenSpec.ofChange s with cond := some uptoSmall }

/-- 'bargatelaw20.ChooseClass', WHERE WHAT IT READS IS OF BULK AT MOST 1048576: true; the input reads as it did. -/
def chooseClassUptoRow : OpenClaim := { program := "ytjnbjcieepooaaa", sum := "6e90037069341097a23eef14840344ff5fc16cf97246e84f205018a35b00d576", func := "bargate/bargatelaw20.ChooseClass", spec := "chooseClass", apart := false, narrowed := true }
def ChooseClassUptoSaid : Prop := chooseClassUptoRow.holds Try.pinned (OpenSpec.upto chooseClassSpec)

/-- 'bargatelaw20.ChooseWake', WHERE WHAT IT READS IS OF BULK AT MOST 1048576: true; the input reads as it did. -/
def chooseWakeUptoRow : OpenClaim := { program := "ytjnbjcieepooaaa", sum := "6e90037069341097a23eef14840344ff5fc16cf97246e84f205018a35b00d576", func := "bargate/bargatelaw20.ChooseWake", spec := "chooseWake", unfollowed := true, recurses := true, apart := false, narrowed := true }
def ChooseWakeUptoSaid : Prop := chooseWakeUptoRow.holds Try.pinned (OpenSpec.upto chooseWakeSpec)

/-- 'bargatelaw20.ChooseChecks', WHERE WHAT IT READS IS OF BULK AT MOST 1048576: true; the input reads as it did. -/
def chooseChecksUptoRow : OpenClaim := { program := "ytjnbjcieepooaaa", sum := "6e90037069341097a23eef14840344ff5fc16cf97246e84f205018a35b00d576", func := "bargate/bargatelaw20.ChooseChecks", spec := "chooseChecks", apart := false, narrowed := true }
def ChooseChecksUptoSaid : Prop := chooseChecksUptoRow.holds Try.pinned (OpenSpec.upto chooseChecksSpec)

/-- 'bargatelaw05.WireTimes', WHERE WHAT IT READS IS OF BULK AT MOST 1048576: true; the input reads as it did. -/
def wireTimesUptoRow : OpenClaim := { program := "ytjnbjcieepooaaa", sum := "6e90037069341097a23eef14840344ff5fc16cf97246e84f205018a35b00d576", func := "bargate/bargatelaw05.WireTimes", spec := "wireTimes", apart := false, narrowed := true }
def WireTimesUptoSaid : Prop := wireTimesUptoRow.holds Try.pinned (OpenSpec.upto wireTimesSpec)

/-- 'bargatelaw05.WireFits', WHERE WHAT IT READS IS OF BULK AT MOST 1048576: true; the input reads as it did. -/
def wireFitsUptoRow : OpenClaim := { program := "ytjnbjcieepooaaa", sum := "6e90037069341097a23eef14840344ff5fc16cf97246e84f205018a35b00d576", func := "bargate/bargatelaw05.WireFits", spec := "wireFits", apart := false, narrowed := true }
def WireFitsUptoSaid : Prop := wireFitsUptoRow.holds Try.pinned (OpenSpec.upto wireFitsSpec)

/-- 'bargatelaw05.WireClocks', WHERE WHAT IT READS IS OF BULK AT MOST 1048576: true; the input reads as it did. -/
def wireClocksUptoRow : OpenClaim := { program := "ytjnbjcieepooaaa", sum := "6e90037069341097a23eef14840344ff5fc16cf97246e84f205018a35b00d576", func := "bargate/bargatelaw05.WireClocks", spec := "wireClocks", apart := false, narrowed := true }
def WireClocksUptoSaid : Prop := wireClocksUptoRow.holds Try.pinned (OpenSpec.upto wireClocksSpec)

/-- 'bargatelaw05.WireCredits', WHERE WHAT IT READS IS OF BULK AT MOST 1048576: true; the input reads as it did. -/
def wireCreditsUptoRow : OpenClaim := { program := "ytjnbjcieepooaaa", sum := "6e90037069341097a23eef14840344ff5fc16cf97246e84f205018a35b00d576", func := "bargate/bargatelaw05.WireCredits", spec := "wireCredits", apart := false, narrowed := true }
def WireCreditsUptoSaid : Prop := wireCreditsUptoRow.holds Try.pinned (OpenSpec.upto wireCreditsSpec)

/-- 'bargatelaw05.WireSpeeds', WHERE WHAT IT READS IS OF BULK AT MOST 1048576: true; the input reads as it did. -/
def wireSpeedsUptoRow : OpenClaim := { program := "ytjnbjcieepooaaa", sum := "6e90037069341097a23eef14840344ff5fc16cf97246e84f205018a35b00d576", func := "bargate/bargatelaw05.WireSpeeds", spec := "wireSpeeds", apart := false, narrowed := true }
def WireSpeedsUptoSaid : Prop := wireSpeedsUptoRow.holds Try.pinned (OpenSpec.upto wireSpeedsSpec)

/-- 'bargatelaw19.CreditPlays', WHERE WHAT IT READS IS OF BULK AT MOST 1048576: true; the input reads as it did. -/
def creditPlaysUptoRow : OpenClaim := { program := "ytjnbjcieepooaaa", sum := "6e90037069341097a23eef14840344ff5fc16cf97246e84f205018a35b00d576", func := "bargate/bargatelaw19.CreditPlays", spec := "creditPlays", apart := false, narrowed := true }
def CreditPlaysUptoSaid : Prop := creditPlaysUptoRow.holds Try.pinned (OpenSpec.upto creditPlaysSpec)

/-- 'bargatelaw19.CreditWhen', WHERE WHAT IT READS IS OF BULK AT MOST 1048576: true; the input reads as it did. -/
def creditWhenUptoRow : OpenClaim := { program := "ytjnbjcieepooaaa", sum := "6e90037069341097a23eef14840344ff5fc16cf97246e84f205018a35b00d576", func := "bargate/bargatelaw19.CreditWhen", spec := "creditWhen", apart := false, narrowed := true }
def CreditWhenUptoSaid : Prop := creditWhenUptoRow.holds Try.pinned (OpenSpec.upto creditWhenSpec)

/-- 'bargatelaw19.CreditRate', WHERE WHAT IT READS IS OF BULK AT MOST 1048576: true; the input reads as it did. -/
def creditRateUptoRow : OpenClaim := { program := "ytjnbjcieepooaaa", sum := "6e90037069341097a23eef14840344ff5fc16cf97246e84f205018a35b00d576", func := "bargate/bargatelaw19.CreditRate", spec := "creditRate", apart := false, narrowed := true }
def CreditRateUptoSaid : Prop := creditRateUptoRow.holds Try.pinned (OpenSpec.upto creditRateSpec)

/-- 'bargatelaw05.WireAll', WHERE WHAT IT READS IS OF BULK AT MOST 1048576: true; the input reads as it did. -/
def wireAllUptoRow : OpenClaim := { program := "ytjnbjcieepooaaa", sum := "6e90037069341097a23eef14840344ff5fc16cf97246e84f205018a35b00d576", func := "bargate/bargatelaw05.WireAll", spec := "wireAll", apart := false, narrowed := true }
def WireAllUptoSaid : Prop := wireAllUptoRow.holds Try.pinned (OpenSpec.upto wireAllSpec)

end Rows
end Go.Proofs.Ytjnbjcieepooaaa
