/-
  No cell of these rows narrows 'for every input' (looked for: loops, veiled, ifaces, maps, wideKeys, modest, calm, conditions, laid).
  DERIVED. THE GIVEN ROWS OF THIS SEAT. 7 by the template 'for every input the law returns true; each argument reads behind the call as it read before'; 0 by the template 'total and deterministic' (their statements: YtgaflglknjjalaaTotals.lean).
  GIVEN WITH THE SEED: the statements are not yours to turn. If you find one false, say at which input.
  Laid BY PROGRAM, IN A SANDBOX (cutbox-rows.mjs): the forced cells as the released guide's own fill.sh prints them over the translation 55f43a3089bcd59a… (all of the seat's roots in one cut). By AI agents, Wed Nov 11 2026. No macro, syntax, notation, axiom, sorry.
-/
import Derived.Test.YtgaflglknjjalaaChecked
import GoSem.Claim
import GoSem.ClaimJoined
import GoSem.ClaimMapViews
import Derived.JoinedTies
import Derived.KernelRfl
namespace Go.Proofs.Ytgaflglknjjalaa
/- THE CELL 'sum', in the pinned program and in every row, IS THE sha256 OF THE DUMP (.gsa) THAT YtgaflglknjjalaaProg.lean LOADS. Nothing in Lean hashes anything: it is a label: what it is worth is what the hold of that sum in a sandbox is worth. -/
noncomputable def Try.pinned : Pinned := { name := "ytgaflglknjjalaa", sum := "55f43a3089bcd59a9f29e764ebedf388322f1dbb7641efe88ac90ff90ea64d1e", checked := Try.checked }
namespace Rows
def none {H : Type} : Left H := { results := [], args := [] }

/-- 'outriderlaw10.FlowsSteps': WHATEVER THE INPUT: true; the input reads as it did. -/
def flowsStepsSpec : ChangeSpec := { name := "flowsSteps", fn := fun _ => fun
  | [d1, d2, d3] => { results := [.lit (.bool true)], args := [d1, d2, d3] }
  | _ => none }
def flowsStepsRow : OpenClaim := { program := "ytgaflglknjjalaa", sum := "55f43a3089bcd59a9f29e764ebedf388322f1dbb7641efe88ac90ff90ea64d1e", func := "outrider/outriderlaw10.FlowsSteps", spec := "flowsSteps", unfollowed := true, recurses := true, apart := false }
def FlowsStepsSaid : Prop := flowsStepsRow.holds Try.pinned (OpenSpec.ofChange flowsStepsSpec)

/-- ITS FALSE NEIGHBOUR: 'it returns false'. Refute it at one input. -/
def flowsStepsWrong : ChangeSpec := { name := "flowsSteps", fn := fun _ => fun
  | [d1, d2, d3] => { results := [.lit (.bool false)], args := [d1, d2, d3] }
  | _ => none }
def FlowsStepsWrongFalsely : Prop := flowsStepsRow.holds Try.pinned (OpenSpec.ofChange flowsStepsWrong)

/-- 'outriderlaw10.FlowsFull': WHATEVER THE INPUT: true; the input reads as it did. -/
def flowsFullSpec : ChangeSpec := { name := "flowsFull", fn := fun _ => fun
  | [d1, d2, d3] => { results := [.lit (.bool true)], args := [d1, d2, d3] }
  | _ => none }
def flowsFullRow : OpenClaim := { program := "ytgaflglknjjalaa", sum := "55f43a3089bcd59a9f29e764ebedf388322f1dbb7641efe88ac90ff90ea64d1e", func := "outrider/outriderlaw10.FlowsFull", spec := "flowsFull", unfollowed := true, recurses := true, apart := false }
def FlowsFullSaid : Prop := flowsFullRow.holds Try.pinned (OpenSpec.ofChange flowsFullSpec)

/-- ITS FALSE NEIGHBOUR: 'it returns false'. Refute it at one input. -/
def flowsFullWrong : ChangeSpec := { name := "flowsFull", fn := fun _ => fun
  | [d1, d2, d3] => { results := [.lit (.bool false)], args := [d1, d2, d3] }
  | _ => none }
def FlowsFullWrongFalsely : Prop := flowsFullRow.holds Try.pinned (OpenSpec.ofChange flowsFullWrong)

/-- 'outriderlaw10.FlowsAll': WHATEVER THE INPUT: true; the input reads as it did. -/
def flowsAllSpec : ChangeSpec := { name := "flowsAll", fn := fun _ => fun
  | [d1, d2] => { results := [.lit (.bool true)], args := [d1, d2] }
  | _ => none }
def flowsAllRow : OpenClaim := { program := "ytgaflglknjjalaa", sum := "55f43a3089bcd59a9f29e764ebedf388322f1dbb7641efe88ac90ff90ea64d1e", func := "outrider/outriderlaw10.FlowsAll", spec := "flowsAll", unfollowed := true, recurses := true, apart := false }
def FlowsAllSaid : Prop := flowsAllRow.holds Try.pinned (OpenSpec.ofChange flowsAllSpec)

/-- ITS FALSE NEIGHBOUR: 'it returns false'. Refute it at one input. -/
def flowsAllWrong : ChangeSpec := { name := "flowsAll", fn := fun _ => fun
  | [d1, d2] => { results := [.lit (.bool false)], args := [d1, d2] }
  | _ => none }
def FlowsAllWrongFalsely : Prop := flowsAllRow.holds Try.pinned (OpenSpec.ofChange flowsAllWrong)

/-- 'outriderlaw10.FlowsAsks': WHATEVER THE INPUT: true; the input reads as it did. -/
def flowsAsksSpec : ChangeSpec := { name := "flowsAsks", fn := fun _ => fun
  | [d1, d2, d3] => { results := [.lit (.bool true)], args := [d1, d2, d3] }
  | _ => none }
def flowsAsksRow : OpenClaim := { program := "ytgaflglknjjalaa", sum := "55f43a3089bcd59a9f29e764ebedf388322f1dbb7641efe88ac90ff90ea64d1e", func := "outrider/outriderlaw10.FlowsAsks", spec := "flowsAsks", unfollowed := true, recurses := true, apart := false }
def FlowsAsksSaid : Prop := flowsAsksRow.holds Try.pinned (OpenSpec.ofChange flowsAsksSpec)

/-- ITS FALSE NEIGHBOUR: 'it returns false'. Refute it at one input. -/
def flowsAsksWrong : ChangeSpec := { name := "flowsAsks", fn := fun _ => fun
  | [d1, d2, d3] => { results := [.lit (.bool false)], args := [d1, d2, d3] }
  | _ => none }
def FlowsAsksWrongFalsely : Prop := flowsAsksRow.holds Try.pinned (OpenSpec.ofChange flowsAsksWrong)

/-- 'outriderlaw10.FlowsStay': WHATEVER THE INPUT: true; the input reads as it did. -/
def flowsStaySpec : ChangeSpec := { name := "flowsStay", fn := fun _ => fun
  | [d1, d2] => { results := [.lit (.bool true)], args := [d1, d2] }
  | _ => none }
def flowsStayRow : OpenClaim := { program := "ytgaflglknjjalaa", sum := "55f43a3089bcd59a9f29e764ebedf388322f1dbb7641efe88ac90ff90ea64d1e", func := "outrider/outriderlaw10.FlowsStay", spec := "flowsStay", unfollowed := true, recurses := true, apart := false }
def FlowsStaySaid : Prop := flowsStayRow.holds Try.pinned (OpenSpec.ofChange flowsStaySpec)

/-- ITS FALSE NEIGHBOUR: 'it returns false'. Refute it at one input. -/
def flowsStayWrong : ChangeSpec := { name := "flowsStay", fn := fun _ => fun
  | [d1, d2] => { results := [.lit (.bool false)], args := [d1, d2] }
  | _ => none }
def FlowsStayWrongFalsely : Prop := flowsStayRow.holds Try.pinned (OpenSpec.ofChange flowsStayWrong)

/-- 'outriderlaw10.FlowsKeys': WHATEVER THE INPUT: true; the input reads as it did. -/
def flowsKeysSpec : ChangeSpec := { name := "flowsKeys", fn := fun _ => fun
  | [d1, d2, d3] => { results := [.lit (.bool true)], args := [d1, d2, d3] }
  | _ => none }
def flowsKeysRow : OpenClaim := { program := "ytgaflglknjjalaa", sum := "55f43a3089bcd59a9f29e764ebedf388322f1dbb7641efe88ac90ff90ea64d1e", func := "outrider/outriderlaw10.FlowsKeys", spec := "flowsKeys", unfollowed := true, recurses := true, apart := false }
def FlowsKeysSaid : Prop := flowsKeysRow.holds Try.pinned (OpenSpec.ofChange flowsKeysSpec)

/-- ITS FALSE NEIGHBOUR: 'it returns false'. Refute it at one input. -/
def flowsKeysWrong : ChangeSpec := { name := "flowsKeys", fn := fun _ => fun
  | [d1, d2, d3] => { results := [.lit (.bool false)], args := [d1, d2, d3] }
  | _ => none }
def FlowsKeysWrongFalsely : Prop := flowsKeysRow.holds Try.pinned (OpenSpec.ofChange flowsKeysWrong)

/-- 'outriderlaw10.FlowsEnds': WHATEVER THE INPUT: true; the input reads as it did. -/
def flowsEndsSpec : ChangeSpec := { name := "flowsEnds", fn := fun _ => fun
  | [d1, d2, d3] => { results := [.lit (.bool true)], args := [d1, d2, d3] }
  | _ => none }
def flowsEndsRow : OpenClaim := { program := "ytgaflglknjjalaa", sum := "55f43a3089bcd59a9f29e764ebedf388322f1dbb7641efe88ac90ff90ea64d1e", func := "outrider/outriderlaw10.FlowsEnds", spec := "flowsEnds", unfollowed := true, recurses := true, apart := false }
def FlowsEndsSaid : Prop := flowsEndsRow.holds Try.pinned (OpenSpec.ofChange flowsEndsSpec)

/-- ITS FALSE NEIGHBOUR: 'it returns false'. Refute it at one input. -/
def flowsEndsWrong : ChangeSpec := { name := "flowsEnds", fn := fun _ => fun
  | [d1, d2, d3] => { results := [.lit (.bool false)], args := [d1, d2, d3] }
  | _ => none }
def FlowsEndsWrongFalsely : Prop := flowsEndsRow.holds Try.pinned (OpenSpec.ofChange flowsEndsWrong)

/- THE SECOND FORM. 'bulk': how many values and letters a reading holds, each counted each time it is reached (what is shared counts as often as it is met; a slice's spare places count too). A statement '..UptoSaid' is the law's where the arguments, and the package variables that the reading takes, are together of bulk at most 1048576: NARROWER than '..Said'. Prove '..Said' where nothing that the law and all that it calls make is longer than what came in: it says more and counts as full. Else prove '..UptoSaid'. A law counts once. -/
mutual
def uptoBulk {H : Type} : DataW H → Nat
  | .lit (.string bytes) => bytes.length + 1
  | .lit _ => 1
  | .nil => 1
  | .ptr d => uptoBulk d + 1
  | .slice elems spare => uptoBulkAll elems + uptoBulkAll spare + 1
  | .agg parts => uptoBulkAll parts + 1
  | .iface _ d => uptoBulk d + 1
  | .map entries => uptoBulkEntries entries + 1
  | .held _ => 1
def uptoBulkAll {H : Type} : List (DataW H) → Nat
  | [] => 0
  | d :: r => uptoBulk d + uptoBulkAll r
def uptoBulkEntries {H : Type} : List (Lit × DataW H) → Nat
  | [] => 0
  | x :: r => uptoBulkEntry x + uptoBulkEntries r
def uptoBulkEntry {H : Type} : Lit × DataW H → Nat
  | (.string bytes, d) => bytes.length + uptoBulk d + 1
  | (_, d) => uptoBulk d + 1
 end
def uptoSmall : (H : Type) → List (DataW H) → Bool := fun _ ds => decide (uptoBulkAll ds ≤ 1048576)
def OpenSpec.upto (s : _root_.Go.ChangeSpec) : _root_.Go.OpenSpec := { _root_.Go.OpenSpec.ofChange s with cond := some uptoSmall }

/-- 'outriderlaw10.FlowsSteps', WHERE WHAT IT READS IS OF BULK AT MOST 1048576: true; the input reads as it did. -/
def flowsStepsUptoRow : OpenClaim := { program := "ytgaflglknjjalaa", sum := "55f43a3089bcd59a9f29e764ebedf388322f1dbb7641efe88ac90ff90ea64d1e", func := "outrider/outriderlaw10.FlowsSteps", spec := "flowsSteps", unfollowed := true, recurses := true, apart := false, narrowed := true }
def FlowsStepsUptoSaid : Prop := flowsStepsUptoRow.holds Try.pinned (OpenSpec.upto flowsStepsSpec)

/-- 'outriderlaw10.FlowsFull', WHERE WHAT IT READS IS OF BULK AT MOST 1048576: true; the input reads as it did. -/
def flowsFullUptoRow : OpenClaim := { program := "ytgaflglknjjalaa", sum := "55f43a3089bcd59a9f29e764ebedf388322f1dbb7641efe88ac90ff90ea64d1e", func := "outrider/outriderlaw10.FlowsFull", spec := "flowsFull", unfollowed := true, recurses := true, apart := false, narrowed := true }
def FlowsFullUptoSaid : Prop := flowsFullUptoRow.holds Try.pinned (OpenSpec.upto flowsFullSpec)

/-- 'outriderlaw10.FlowsAll', WHERE WHAT IT READS IS OF BULK AT MOST 1048576: true; the input reads as it did. -/
def flowsAllUptoRow : OpenClaim := { program := "ytgaflglknjjalaa", sum := "55f43a3089bcd59a9f29e764ebedf388322f1dbb7641efe88ac90ff90ea64d1e", func := "outrider/outriderlaw10.FlowsAll", spec := "flowsAll", unfollowed := true, recurses := true, apart := false, narrowed := true }
def FlowsAllUptoSaid : Prop := flowsAllUptoRow.holds Try.pinned (OpenSpec.upto flowsAllSpec)

/-- 'outriderlaw10.FlowsAsks', WHERE WHAT IT READS IS OF BULK AT MOST 1048576: true; the input reads as it did. -/
def flowsAsksUptoRow : OpenClaim := { program := "ytgaflglknjjalaa", sum := "55f43a3089bcd59a9f29e764ebedf388322f1dbb7641efe88ac90ff90ea64d1e", func := "outrider/outriderlaw10.FlowsAsks", spec := "flowsAsks", unfollowed := true, recurses := true, apart := false, narrowed := true }
def FlowsAsksUptoSaid : Prop := flowsAsksUptoRow.holds Try.pinned (OpenSpec.upto flowsAsksSpec)

/-- 'outriderlaw10.FlowsStay', WHERE WHAT IT READS IS OF BULK AT MOST 1048576: true; the input reads as it did. -/
def flowsStayUptoRow : OpenClaim := { program := "ytgaflglknjjalaa", sum := "55f43a3089bcd59a9f29e764ebedf388322f1dbb7641efe88ac90ff90ea64d1e", func := "outrider/outriderlaw10.FlowsStay", spec := "flowsStay", unfollowed := true, recurses := true, apart := false, narrowed := true }
def FlowsStayUptoSaid : Prop := flowsStayUptoRow.holds Try.pinned (OpenSpec.upto flowsStaySpec)

/-- 'outriderlaw10.FlowsKeys', WHERE WHAT IT READS IS OF BULK AT MOST 1048576: true; the input reads as it did. -/
def flowsKeysUptoRow : OpenClaim := { program := "ytgaflglknjjalaa", sum := "55f43a3089bcd59a9f29e764ebedf388322f1dbb7641efe88ac90ff90ea64d1e", func := "outrider/outriderlaw10.FlowsKeys", spec := "flowsKeys", unfollowed := true, recurses := true, apart := false, narrowed := true }
def FlowsKeysUptoSaid : Prop := flowsKeysUptoRow.holds Try.pinned (OpenSpec.upto flowsKeysSpec)

/-- 'outriderlaw10.FlowsEnds', WHERE WHAT IT READS IS OF BULK AT MOST 1048576: true; the input reads as it did. -/
def flowsEndsUptoRow : OpenClaim := { program := "ytgaflglknjjalaa", sum := "55f43a3089bcd59a9f29e764ebedf388322f1dbb7641efe88ac90ff90ea64d1e", func := "outrider/outriderlaw10.FlowsEnds", spec := "flowsEnds", unfollowed := true, recurses := true, apart := false, narrowed := true }
def FlowsEndsUptoSaid : Prop := flowsEndsUptoRow.holds Try.pinned (OpenSpec.upto flowsEndsSpec)

end Rows
end Go.Proofs.Ytgaflglknjjalaa
