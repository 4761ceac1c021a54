/-
  No cell of these rows narrows 'for every input' (looked for: loops, veiled, ifaces, maps, wideKeys, modest, calm, conditions, laid).
  DERIVED. THE GIVEN ROWS OF THIS SEAT. 6 by the template 'for every input the law returns true; each argument reads behind the call as it read before'; 0 by the template 'total and deterministic' (their statements: YtccjmkhfjplidaaTotals.lean).
  GIVEN WITH THE SEED: the statements are not yours to turn. If you find one false, say at which input.
  Laid BY PROGRAM, IN A SANDBOX (cutbox-rows.mjs): the forced cells as the released guide's own fill.sh prints them over the translation 8ae897926fd69257… (all of the seat's roots in one cut). By AI agents, Wed Nov 11 2026. No macro, syntax, notation, axiom, sorry.
-/
import Derived.Test.YtccjmkhfjplidaaChecked
import GoSem.Claim
import GoSem.ClaimJoined
import GoSem.ClaimMapViews
import Derived.JoinedTies
import Derived.KernelRfl
namespace Go.Proofs.Ytccjmkhfjplidaa
/- THE CELL 'sum', in the pinned program and in every row, IS THE sha256 OF THE DUMP (.gsa) THAT YtccjmkhfjplidaaProg.lean LOADS. Nothing in Lean hashes anything: it is a label: what it is worth is what the hold of that sum in a sandbox is worth. -/
noncomputable def Try.pinned : Pinned := { name := "ytccjmkhfjplidaa", sum := "8ae897926fd69257413f7e767049516fb2be313e7ecc0fa9995a543976537898", checked := Try.checked }
namespace Rows
def none {H : Type} : Left H := { results := [], args := [] }

/-- 'outriderlaw09.WheelSteps': WHATEVER THE INPUT: true; the input reads as it did. -/
def wheelStepsSpec : ChangeSpec := { name := "wheelSteps", fn := fun _ => fun
  | [d1, d2, d3] => { results := [.lit (.bool true)], args := [d1, d2, d3] }
  | _ => none }
def wheelStepsRow : OpenClaim := { program := "ytccjmkhfjplidaa", sum := "8ae897926fd69257413f7e767049516fb2be313e7ecc0fa9995a543976537898", func := "outrider/outriderlaw09.WheelSteps", spec := "wheelSteps", unfollowed := true, recurses := true, apart := false }
def WheelStepsSaid : Prop := wheelStepsRow.holds Try.pinned (OpenSpec.ofChange wheelStepsSpec)

/-- ITS FALSE NEIGHBOUR: 'it returns false'. Refute it at one input. -/
def wheelStepsWrong : ChangeSpec := { name := "wheelSteps", fn := fun _ => fun
  | [d1, d2, d3] => { results := [.lit (.bool false)], args := [d1, d2, d3] }
  | _ => none }
def WheelStepsWrongFalsely : Prop := wheelStepsRow.holds Try.pinned (OpenSpec.ofChange wheelStepsWrong)

/-- 'outriderlaw09.WheelCancelled': WHATEVER THE INPUT: true; the input reads as it did. -/
def wheelCancelledSpec : ChangeSpec := { name := "wheelCancelled", fn := fun _ => fun
  | [d1, d2, d3] => { results := [.lit (.bool true)], args := [d1, d2, d3] }
  | _ => none }
def wheelCancelledRow : OpenClaim := { program := "ytccjmkhfjplidaa", sum := "8ae897926fd69257413f7e767049516fb2be313e7ecc0fa9995a543976537898", func := "outrider/outriderlaw09.WheelCancelled", spec := "wheelCancelled", unfollowed := true, recurses := true, apart := false }
def WheelCancelledSaid : Prop := wheelCancelledRow.holds Try.pinned (OpenSpec.ofChange wheelCancelledSpec)

/-- ITS FALSE NEIGHBOUR: 'it returns false'. Refute it at one input. -/
def wheelCancelledWrong : ChangeSpec := { name := "wheelCancelled", fn := fun _ => fun
  | [d1, d2, d3] => { results := [.lit (.bool false)], args := [d1, d2, d3] }
  | _ => none }
def WheelCancelledWrongFalsely : Prop := wheelCancelledRow.holds Try.pinned (OpenSpec.ofChange wheelCancelledWrong)

/-- 'outriderlaw09.WheelOnce': WHATEVER THE INPUT: true; the input reads as it did. -/
def wheelOnceSpec : ChangeSpec := { name := "wheelOnce", fn := fun _ => fun
  | [d1, d2, d3] => { results := [.lit (.bool true)], args := [d1, d2, d3] }
  | _ => none }
def wheelOnceRow : OpenClaim := { program := "ytccjmkhfjplidaa", sum := "8ae897926fd69257413f7e767049516fb2be313e7ecc0fa9995a543976537898", func := "outrider/outriderlaw09.WheelOnce", spec := "wheelOnce", unfollowed := true, recurses := true, apart := false }
def WheelOnceSaid : Prop := wheelOnceRow.holds Try.pinned (OpenSpec.ofChange wheelOnceSpec)

/-- ITS FALSE NEIGHBOUR: 'it returns false'. Refute it at one input. -/
def wheelOnceWrong : ChangeSpec := { name := "wheelOnce", fn := fun _ => fun
  | [d1, d2, d3] => { results := [.lit (.bool false)], args := [d1, d2, d3] }
  | _ => none }
def WheelOnceWrongFalsely : Prop := wheelOnceRow.holds Try.pinned (OpenSpec.ofChange wheelOnceWrong)

/-- 'outriderlaw09.WheelAll': WHATEVER THE INPUT: true; the input reads as it did. -/
def wheelAllSpec : ChangeSpec := { name := "wheelAll", fn := fun _ => fun
  | [d] => { results := [.lit (.bool true)], args := [d] }
  | _ => none }
def wheelAllRow : OpenClaim := { program := "ytccjmkhfjplidaa", sum := "8ae897926fd69257413f7e767049516fb2be313e7ecc0fa9995a543976537898", func := "outrider/outriderlaw09.WheelAll", spec := "wheelAll", unfollowed := true, recurses := true, apart := false }
def WheelAllSaid : Prop := wheelAllRow.holds Try.pinned (OpenSpec.ofChange wheelAllSpec)

/-- ITS FALSE NEIGHBOUR: 'it returns false'. Refute it at one input. -/
def wheelAllWrong : ChangeSpec := { name := "wheelAll", fn := fun _ => fun
  | [d] => { results := [.lit (.bool false)], args := [d] }
  | _ => none }
def WheelAllWrongFalsely : Prop := wheelAllRow.holds Try.pinned (OpenSpec.ofChange wheelAllWrong)

/-- 'outriderlaw09.WheelNexts': WHATEVER THE INPUT: true; the input reads as it did. -/
def wheelNextsSpec : ChangeSpec := { name := "wheelNexts", fn := fun _ => fun
  | [d] => { results := [.lit (.bool true)], args := [d] }
  | _ => none }
def wheelNextsRow : OpenClaim := { program := "ytccjmkhfjplidaa", sum := "8ae897926fd69257413f7e767049516fb2be313e7ecc0fa9995a543976537898", func := "outrider/outriderlaw09.WheelNexts", spec := "wheelNexts", unfollowed := true, recurses := true, apart := false }
def WheelNextsSaid : Prop := wheelNextsRow.holds Try.pinned (OpenSpec.ofChange wheelNextsSpec)

/-- ITS FALSE NEIGHBOUR: 'it returns false'. Refute it at one input. -/
def wheelNextsWrong : ChangeSpec := { name := "wheelNexts", fn := fun _ => fun
  | [d] => { results := [.lit (.bool false)], args := [d] }
  | _ => none }
def WheelNextsWrongFalsely : Prop := wheelNextsRow.holds Try.pinned (OpenSpec.ofChange wheelNextsWrong)

/-- 'outriderlaw09.WheelAsks': WHATEVER THE INPUT: true; the input reads as it did. -/
def wheelAsksSpec : ChangeSpec := { name := "wheelAsks", fn := fun _ => fun
  | [d1, d2] => { results := [.lit (.bool true)], args := [d1, d2] }
  | _ => none }
def wheelAsksRow : OpenClaim := { program := "ytccjmkhfjplidaa", sum := "8ae897926fd69257413f7e767049516fb2be313e7ecc0fa9995a543976537898", func := "outrider/outriderlaw09.WheelAsks", spec := "wheelAsks", unfollowed := true, recurses := true, apart := false }
def WheelAsksSaid : Prop := wheelAsksRow.holds Try.pinned (OpenSpec.ofChange wheelAsksSpec)

/-- ITS FALSE NEIGHBOUR: 'it returns false'. Refute it at one input. -/
def wheelAsksWrong : ChangeSpec := { name := "wheelAsks", fn := fun _ => fun
  | [d1, d2] => { results := [.lit (.bool false)], args := [d1, d2] }
  | _ => none }
def WheelAsksWrongFalsely : Prop := wheelAsksRow.holds Try.pinned (OpenSpec.ofChange wheelAsksWrong)

/- THE SECOND FORM. 'bulk': how many values and letters a reading holds, each counted each time it is reached (what is shared counts as often as it is met; a slice's spare places count too). A statement '..UptoSaid' is the law's where the arguments, and the package variables that the reading takes, are together of bulk at most 1048576: NARROWER than '..Said'. Prove '..Said' where nothing that the law and all that it calls make is longer than what came in: it says more and counts as full. Else prove '..UptoSaid'. A law counts once. -/
mutual
def uptoBulk {H : Type} : DataW H → Nat
  | .lit (.string bytes) => bytes.length + 1
  | .lit _ => 1
  | .nil => 1
  | .ptr d => uptoBulk d + 1
  | .slice elems spare => uptoBulkAll elems + uptoBulkAll spare + 1
  | .agg parts => uptoBulkAll parts + 1
  | .iface _ d => uptoBulk d + 1
  | .map entries => uptoBulkEntries entries + 1
  | .held _ => 1
def uptoBulkAll {H : Type} : List (DataW H) → Nat
  | [] => 0
  | d :: r => uptoBulk d + uptoBulkAll r
def uptoBulkEntries {H : Type} : List (Lit × DataW H) → Nat
  | [] => 0
  | x :: r => uptoBulkEntry x + uptoBulkEntries r
def uptoBulkEntry {H : Type} : Lit × DataW H → Nat
  | (.string bytes, d) => bytes.length + uptoBulk d + 1
  | (_, d) => uptoBulk d + 1
 end
def uptoSmall : (H : Type) → List (DataW H) → Bool := fun _ ds => decide (uptoBulkAll ds ≤ 1048576)
def OpenSpec.upto (s : _root_.Go.ChangeSpec) : _root_.Go.OpenSpec := { _root_.Go.OpenSpec.ofChange s with cond := some uptoSmall }

/-- 'outriderlaw09.WheelSteps', WHERE WHAT IT READS IS OF BULK AT MOST 1048576: true; the input reads as it did. -/
def wheelStepsUptoRow : OpenClaim := { program := "ytccjmkhfjplidaa", sum := "8ae897926fd69257413f7e767049516fb2be313e7ecc0fa9995a543976537898", func := "outrider/outriderlaw09.WheelSteps", spec := "wheelSteps", unfollowed := true, recurses := true, apart := false, narrowed := true }
def WheelStepsUptoSaid : Prop := wheelStepsUptoRow.holds Try.pinned (OpenSpec.upto wheelStepsSpec)

/-- 'outriderlaw09.WheelCancelled', WHERE WHAT IT READS IS OF BULK AT MOST 1048576: true; the input reads as it did. -/
def wheelCancelledUptoRow : OpenClaim := { program := "ytccjmkhfjplidaa", sum := "8ae897926fd69257413f7e767049516fb2be313e7ecc0fa9995a543976537898", func := "outrider/outriderlaw09.WheelCancelled", spec := "wheelCancelled", unfollowed := true, recurses := true, apart := false, narrowed := true }
def WheelCancelledUptoSaid : Prop := wheelCancelledUptoRow.holds Try.pinned (OpenSpec.upto wheelCancelledSpec)

/-- 'outriderlaw09.WheelOnce', WHERE WHAT IT READS IS OF BULK AT MOST 1048576: true; the input reads as it did. -/
def wheelOnceUptoRow : OpenClaim := { program := "ytccjmkhfjplidaa", sum := "8ae897926fd69257413f7e767049516fb2be313e7ecc0fa9995a543976537898", func := "outrider/outriderlaw09.WheelOnce", spec := "wheelOnce", unfollowed := true, recurses := true, apart := false, narrowed := true }
def WheelOnceUptoSaid : Prop := wheelOnceUptoRow.holds Try.pinned (OpenSpec.upto wheelOnceSpec)

/-- 'outriderlaw09.WheelAll', WHERE WHAT IT READS IS OF BULK AT MOST 1048576: true; the input reads as it did. -/
def wheelAllUptoRow : OpenClaim := { program := "ytccjmkhfjplidaa", sum := "8ae897926fd69257413f7e767049516fb2be313e7ecc0fa9995a543976537898", func := "outrider/outriderlaw09.WheelAll", spec := "wheelAll", unfollowed := true, recurses := true, apart := false, narrowed := true }
def WheelAllUptoSaid : Prop := wheelAllUptoRow.holds Try.pinned (OpenSpec.upto wheelAllSpec)

/-- 'outriderlaw09.WheelNexts', WHERE WHAT IT READS IS OF BULK AT MOST 1048576: true; the input reads as it did. -/
def wheelNextsUptoRow : OpenClaim := { program := "ytccjmkhfjplidaa", sum := "8ae897926fd69257413f7e767049516fb2be313e7ecc0fa9995a543976537898", func := "outrider/outriderlaw09.WheelNexts", spec := "wheelNexts", unfollowed := true, recurses := true, apart := false, narrowed := true }
def WheelNextsUptoSaid : Prop := wheelNextsUptoRow.holds Try.pinned (OpenSpec.upto wheelNextsSpec)

/-- 'outriderlaw09.WheelAsks', WHERE WHAT IT READS IS OF BULK AT MOST 1048576: true; the input reads as it did. -/
def wheelAsksUptoRow : OpenClaim := { program := "ytccjmkhfjplidaa", sum := "8ae897926fd69257413f7e767049516fb2be313e7ecc0fa9995a543976537898", func := "outrider/outriderlaw09.WheelAsks", spec := "wheelAsks", unfollowed := true, recurses := true, apart := false, narrowed := true }
def WheelAsksUptoSaid : Prop := wheelAsksUptoRow.holds Try.pinned (OpenSpec.upto wheelAsksSpec)

end Rows
end Go.Proofs.Ytccjmkhfjplidaa
