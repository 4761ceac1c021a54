/-
  No cell of these rows narrows 'for every input' (looked for: loops, veiled, ifaces, maps, wideKeys, modest, calm, conditions, laid).
  DERIVED. THE GIVEN ROWS OF THIS SEAT. 5 by the template 'for every input the law returns true; each argument reads behind the call as it read before'; 0 by the template 'total and deterministic' (their statements: YtppneicfiodebaaTotals.lean).
  GIVEN WITH THE SEED: the statements are not yours to turn. If you find one false, say at which input.
  Laid BY PROGRAM, IN A SANDBOX (cutbox-rows.mjs): the forced cells as the released guide's own fill.sh prints them over the translation 07bf8512de6509dd… (all of the seat's roots in one cut). By AI agents, Wed Nov 11 2026. No macro, syntax, notation, axiom, sorry.
-/
import Derived.Test.YtppneicfiodebaaChecked
import GoSem.Claim
import GoSem.ClaimJoined
import GoSem.ClaimMapViews
import Derived.JoinedTies
import Derived.KernelRfl
namespace Go.Proofs.Ytppneicfiodebaa
/- THE CELL 'sum', in the pinned program and in every row, IS THE sha256 OF THE DUMP (.gsa) THAT YtppneicfiodebaaProg.lean LOADS. Nothing in Lean hashes anything: it is a label: what it is worth is what the hold of that sum in a sandbox is worth. -/
noncomputable def Try.pinned : Pinned := { name := "ytppneicfiodebaa", sum := "07bf8512de6509dd8aeee4d63ef53b55a6299efe11dfd8aeb30b174873973a32", checked := Try.checked }
namespace Rows
def none {H : Type} : Left H := { results := [], args := [] }

/-- 'outriderlaw12.TracksOrder': WHATEVER THE INPUT: true; the input reads as it did. -/
def tracksOrderSpec : ChangeSpec := { name := "tracksOrder", fn := fun _ => fun
  | [d1, d2, d3] => { results := [.lit (.bool true)], args := [d1, d2, d3] }
  | _ => none }
def tracksOrderRow : OpenClaim := { program := "ytppneicfiodebaa", sum := "07bf8512de6509dd8aeee4d63ef53b55a6299efe11dfd8aeb30b174873973a32", func := "outrider/outriderlaw12.TracksOrder", spec := "tracksOrder", recurses := true, apart := false }
def TracksOrderSaid : Prop := tracksOrderRow.holds Try.pinned (OpenSpec.ofChange tracksOrderSpec)

/-- ITS FALSE NEIGHBOUR: 'it returns false'. Refute it at one input. -/
def tracksOrderWrong : ChangeSpec := { name := "tracksOrder", fn := fun _ => fun
  | [d1, d2, d3] => { results := [.lit (.bool false)], args := [d1, d2, d3] }
  | _ => none }
def TracksOrderWrongFalsely : Prop := tracksOrderRow.holds Try.pinned (OpenSpec.ofChange tracksOrderWrong)

/-- 'outriderlaw12.TracksRise': WHATEVER THE INPUT: true; the input reads as it did. -/
def tracksRiseSpec : ChangeSpec := { name := "tracksRise", fn := fun _ => fun
  | [d1, d2, d3] => { results := [.lit (.bool true)], args := [d1, d2, d3] }
  | _ => none }
def tracksRiseRow : OpenClaim := { program := "ytppneicfiodebaa", sum := "07bf8512de6509dd8aeee4d63ef53b55a6299efe11dfd8aeb30b174873973a32", func := "outrider/outriderlaw12.TracksRise", spec := "tracksRise", recurses := true, apart := false }
def TracksRiseSaid : Prop := tracksRiseRow.holds Try.pinned (OpenSpec.ofChange tracksRiseSpec)

/-- ITS FALSE NEIGHBOUR: 'it returns false'. Refute it at one input. -/
def tracksRiseWrong : ChangeSpec := { name := "tracksRise", fn := fun _ => fun
  | [d1, d2, d3] => { results := [.lit (.bool false)], args := [d1, d2, d3] }
  | _ => none }
def TracksRiseWrongFalsely : Prop := tracksRiseRow.holds Try.pinned (OpenSpec.ofChange tracksRiseWrong)

/-- 'outriderlaw12.TracksParts': WHATEVER THE INPUT: true; the input reads as it did. -/
def tracksPartsSpec : ChangeSpec := { name := "tracksParts", fn := fun _ => fun
  | [d1, d2, d3] => { results := [.lit (.bool true)], args := [d1, d2, d3] }
  | _ => none }
def tracksPartsRow : OpenClaim := { program := "ytppneicfiodebaa", sum := "07bf8512de6509dd8aeee4d63ef53b55a6299efe11dfd8aeb30b174873973a32", func := "outrider/outriderlaw12.TracksParts", spec := "tracksParts", recurses := true, apart := false }
def TracksPartsSaid : Prop := tracksPartsRow.holds Try.pinned (OpenSpec.ofChange tracksPartsSpec)

/-- ITS FALSE NEIGHBOUR: 'it returns false'. Refute it at one input. -/
def tracksPartsWrong : ChangeSpec := { name := "tracksParts", fn := fun _ => fun
  | [d1, d2, d3] => { results := [.lit (.bool false)], args := [d1, d2, d3] }
  | _ => none }
def TracksPartsWrongFalsely : Prop := tracksPartsRow.holds Try.pinned (OpenSpec.ofChange tracksPartsWrong)

/-- 'outriderlaw12.TracksOwner': WHATEVER THE INPUT: true; the input reads as it did. -/
def tracksOwnerSpec : ChangeSpec := { name := "tracksOwner", fn := fun _ => fun
  | [d1, d2, d3] => { results := [.lit (.bool true)], args := [d1, d2, d3] }
  | _ => none }
def tracksOwnerRow : OpenClaim := { program := "ytppneicfiodebaa", sum := "07bf8512de6509dd8aeee4d63ef53b55a6299efe11dfd8aeb30b174873973a32", func := "outrider/outriderlaw12.TracksOwner", spec := "tracksOwner", recurses := true, apart := false }
def TracksOwnerSaid : Prop := tracksOwnerRow.holds Try.pinned (OpenSpec.ofChange tracksOwnerSpec)

/-- ITS FALSE NEIGHBOUR: 'it returns false'. Refute it at one input. -/
def tracksOwnerWrong : ChangeSpec := { name := "tracksOwner", fn := fun _ => fun
  | [d1, d2, d3] => { results := [.lit (.bool false)], args := [d1, d2, d3] }
  | _ => none }
def TracksOwnerWrongFalsely : Prop := tracksOwnerRow.holds Try.pinned (OpenSpec.ofChange tracksOwnerWrong)

/-- 'outriderlaw12.TracksAll': WHATEVER THE INPUT: true; the input reads as it did. -/
def tracksAllSpec : ChangeSpec := { name := "tracksAll", fn := fun _ => fun
  | [d1, d2, d3] => { results := [.lit (.bool true)], args := [d1, d2, d3] }
  | _ => none }
def tracksAllRow : OpenClaim := { program := "ytppneicfiodebaa", sum := "07bf8512de6509dd8aeee4d63ef53b55a6299efe11dfd8aeb30b174873973a32", func := "outrider/outriderlaw12.TracksAll", spec := "tracksAll", recurses := true, apart := false }
def TracksAllSaid : Prop := tracksAllRow.holds Try.pinned (OpenSpec.ofChange tracksAllSpec)

/-- ITS FALSE NEIGHBOUR: 'it returns false'. Refute it at one input. -/
def tracksAllWrong : ChangeSpec := { name := "tracksAll", fn := fun _ => fun
  | [d1, d2, d3] => { results := [.lit (.bool false)], args := [d1, d2, d3] }
  | _ => none }
def TracksAllWrongFalsely : Prop := tracksAllRow.holds Try.pinned (OpenSpec.ofChange tracksAllWrong)

/- THE SECOND FORM. 'bulk': how many values and letters a reading holds, each counted each time it is reached (what is shared counts as often as it is met; a slice's spare places count too). A statement '..UptoSaid' is the law's where the arguments, and the package variables that the reading takes, are together of bulk at most 1048576: NARROWER than '..Said'. Prove '..Said' where nothing that the law and all that it calls make is longer than what came in: it says more and counts as full. Else prove '..UptoSaid'. A law counts once. -/
mutual
def uptoBulk {H : Type} : DataW H → Nat
  | .lit (.string bytes) => bytes.length + 1
  | .lit _ => 1
  | .nil => 1
  | .ptr d => uptoBulk d + 1
  | .slice elems spare => uptoBulkAll elems + uptoBulkAll spare + 1
  | .agg parts => uptoBulkAll parts + 1
  | .iface _ d => uptoBulk d + 1
  | .map entries => uptoBulkEntries entries + 1
  | .held _ => 1
def uptoBulkAll {H : Type} : List (DataW H) → Nat
  | [] => 0
  | d :: r => uptoBulk d + uptoBulkAll r
def uptoBulkEntries {H : Type} : List (Lit × DataW H) → Nat
  | [] => 0
  | x :: r => uptoBulkEntry x + uptoBulkEntries r
def uptoBulkEntry {H : Type} : Lit × DataW H → Nat
  | (.string bytes, d) => bytes.length + uptoBulk d + 1
  | (_, d) => uptoBulk d + 1
 end
def uptoSmall : (H : Type) → List (DataW H) → Bool := fun _ ds => decide (uptoBulkAll ds ≤ 1048576)
def OpenSpec.upto (s : _root_.Go.ChangeSpec) : _root_.Go.OpenSpec := { _root_.Go.OpenSpec.ofChange s with cond := some uptoSmall }

/-- 'outriderlaw12.TracksOrder', WHERE WHAT IT READS IS OF BULK AT MOST 1048576: true; the input reads as it did. -/
def tracksOrderUptoRow : OpenClaim := { program := "ytppneicfiodebaa", sum := "07bf8512de6509dd8aeee4d63ef53b55a6299efe11dfd8aeb30b174873973a32", func := "outrider/outriderlaw12.TracksOrder", spec := "tracksOrder", recurses := true, apart := false, narrowed := true }
def TracksOrderUptoSaid : Prop := tracksOrderUptoRow.holds Try.pinned (OpenSpec.upto tracksOrderSpec)

/-- 'outriderlaw12.TracksRise', WHERE WHAT IT READS IS OF BULK AT MOST 1048576: true; the input reads as it did. -/
def tracksRiseUptoRow : OpenClaim := { program := "ytppneicfiodebaa", sum := "07bf8512de6509dd8aeee4d63ef53b55a6299efe11dfd8aeb30b174873973a32", func := "outrider/outriderlaw12.TracksRise", spec := "tracksRise", recurses := true, apart := false, narrowed := true }
def TracksRiseUptoSaid : Prop := tracksRiseUptoRow.holds Try.pinned (OpenSpec.upto tracksRiseSpec)

/-- 'outriderlaw12.TracksParts', WHERE WHAT IT READS IS OF BULK AT MOST 1048576: true; the input reads as it did. -/
def tracksPartsUptoRow : OpenClaim := { program := "ytppneicfiodebaa", sum := "07bf8512de6509dd8aeee4d63ef53b55a6299efe11dfd8aeb30b174873973a32", func := "outrider/outriderlaw12.TracksParts", spec := "tracksParts", recurses := true, apart := false, narrowed := true }
def TracksPartsUptoSaid : Prop := tracksPartsUptoRow.holds Try.pinned (OpenSpec.upto tracksPartsSpec)

/-- 'outriderlaw12.TracksOwner', WHERE WHAT IT READS IS OF BULK AT MOST 1048576: true; the input reads as it did. -/
def tracksOwnerUptoRow : OpenClaim := { program := "ytppneicfiodebaa", sum := "07bf8512de6509dd8aeee4d63ef53b55a6299efe11dfd8aeb30b174873973a32", func := "outrider/outriderlaw12.TracksOwner", spec := "tracksOwner", recurses := true, apart := false, narrowed := true }
def TracksOwnerUptoSaid : Prop := tracksOwnerUptoRow.holds Try.pinned (OpenSpec.upto tracksOwnerSpec)

/-- 'outriderlaw12.TracksAll', WHERE WHAT IT READS IS OF BULK AT MOST 1048576: true; the input reads as it did. -/
def tracksAllUptoRow : OpenClaim := { program := "ytppneicfiodebaa", sum := "07bf8512de6509dd8aeee4d63ef53b55a6299efe11dfd8aeb30b174873973a32", func := "outrider/outriderlaw12.TracksAll", spec := "tracksAll", recurses := true, apart := false, narrowed := true }
def TracksAllUptoSaid : Prop := tracksAllUptoRow.holds Try.pinned (OpenSpec.upto tracksAllSpec)

end Rows
end Go.Proofs.Ytppneicfiodebaa
