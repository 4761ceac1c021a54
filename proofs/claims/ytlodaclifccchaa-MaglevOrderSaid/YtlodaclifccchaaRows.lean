/-
  No cell of these rows narrows 'for every input' (looked for: loops, veiled, ifaces, maps, wideKeys, modest, calm, conditions, laid).
  DERIVED. THE GIVEN ROWS OF THIS SEAT. 7 by the template 'for every input the law returns true; each argument reads behind the call as it read before'; 0 by the template 'total and deterministic' (their statements: YtlodaclifccchaaTotals.lean).
  GIVEN WITH THE SEED: the statements are not yours to turn. If you find one false, say at which input.
  Laid BY PROGRAM, IN A SANDBOX (cutbox-rows.mjs): the forced cells as the released guide's own fill.sh prints them over the translation 7223cce92b465d26… (all of the seat's roots in one cut). By AI agents, Wed Nov 11 2026. No macro, syntax, notation, axiom, sorry.
-/
import Derived.Test.YtlodaclifccchaaChecked
import GoSem.Claim
import GoSem.ClaimJoined
import GoSem.ClaimMapViews
import Derived.JoinedTies
import Derived.KernelRfl
namespace Go.Proofs.Ytlodaclifccchaa
/- THE CELL 'sum', in the pinned program and in every row, IS THE sha256 OF THE DUMP (.gsa) THAT YtlodaclifccchaaProg.lean LOADS. Nothing in Lean hashes anything: it is a label: what it is worth is what the hold of that sum in a sandbox is worth. -/
noncomputable def Try.pinned : Pinned := { name := "ytlodaclifccchaa", sum := "7223cce92b465d26958710e3d89b30ce555f9df77b100275c004f0fc7caf75ba", checked := Try.checked }
namespace Rows
def none {H : Type} : Left H := { results := [], args := [] }

/-- 'outriderlaw08.MaglevShares': WHATEVER THE INPUT: true; the input reads as it did. -/
def maglevSharesSpec : ChangeSpec := { name := "maglevShares", fn := fun _ => fun
  | [d1, d2] => { results := [.lit (.bool true)], args := [d1, d2] }
  | _ => none }
def maglevSharesRow : OpenClaim := { program := "ytlodaclifccchaa", sum := "7223cce92b465d26958710e3d89b30ce555f9df77b100275c004f0fc7caf75ba", func := "outrider/outriderlaw08.MaglevShares", spec := "maglevShares", unfollowed := true, recurses := true, apart := false }
def MaglevSharesSaid : Prop := maglevSharesRow.holds Try.pinned (OpenSpec.ofChange maglevSharesSpec)

/-- ITS FALSE NEIGHBOUR: 'it returns false'. Refute it at one input. -/
def maglevSharesWrong : ChangeSpec := { name := "maglevShares", fn := fun _ => fun
  | [d1, d2] => { results := [.lit (.bool false)], args := [d1, d2] }
  | _ => none }
def MaglevSharesWrongFalsely : Prop := maglevSharesRow.holds Try.pinned (OpenSpec.ofChange maglevSharesWrong)

/-- 'outriderlaw08.MaglevFalls': WHATEVER THE INPUT: true; the input reads as it did. -/
def maglevFallsSpec : ChangeSpec := { name := "maglevFalls", fn := fun _ => fun
  | [d1, d2, d3] => { results := [.lit (.bool true)], args := [d1, d2, d3] }
  | _ => none }
def maglevFallsRow : OpenClaim := { program := "ytlodaclifccchaa", sum := "7223cce92b465d26958710e3d89b30ce555f9df77b100275c004f0fc7caf75ba", func := "outrider/outriderlaw08.MaglevFalls", spec := "maglevFalls", unfollowed := true, recurses := true, apart := false }
def MaglevFallsSaid : Prop := maglevFallsRow.holds Try.pinned (OpenSpec.ofChange maglevFallsSpec)

/-- ITS FALSE NEIGHBOUR: 'it returns false'. Refute it at one input. -/
def maglevFallsWrong : ChangeSpec := { name := "maglevFalls", fn := fun _ => fun
  | [d1, d2, d3] => { results := [.lit (.bool false)], args := [d1, d2, d3] }
  | _ => none }
def MaglevFallsWrongFalsely : Prop := maglevFallsRow.holds Try.pinned (OpenSpec.ofChange maglevFallsWrong)

/-- 'outriderlaw08.MaglevAgain': WHATEVER THE INPUT: true; the input reads as it did. -/
def maglevAgainSpec : ChangeSpec := { name := "maglevAgain", fn := fun _ => fun
  | [d1, d2] => { results := [.lit (.bool true)], args := [d1, d2] }
  | _ => none }
def maglevAgainRow : OpenClaim := { program := "ytlodaclifccchaa", sum := "7223cce92b465d26958710e3d89b30ce555f9df77b100275c004f0fc7caf75ba", func := "outrider/outriderlaw08.MaglevAgain", spec := "maglevAgain", unfollowed := true, recurses := true, apart := false }
def MaglevAgainSaid : Prop := maglevAgainRow.holds Try.pinned (OpenSpec.ofChange maglevAgainSpec)

/-- ITS FALSE NEIGHBOUR: 'it returns false'. Refute it at one input. -/
def maglevAgainWrong : ChangeSpec := { name := "maglevAgain", fn := fun _ => fun
  | [d1, d2] => { results := [.lit (.bool false)], args := [d1, d2] }
  | _ => none }
def MaglevAgainWrongFalsely : Prop := maglevAgainRow.holds Try.pinned (OpenSpec.ofChange maglevAgainWrong)

/-- 'outriderlaw08.MaglevFinds': WHATEVER THE INPUT: true; the input reads as it did. -/
def maglevFindsSpec : ChangeSpec := { name := "maglevFinds", fn := fun _ => fun
  | [d1, d2, d3] => { results := [.lit (.bool true)], args := [d1, d2, d3] }
  | _ => none }
def maglevFindsRow : OpenClaim := { program := "ytlodaclifccchaa", sum := "7223cce92b465d26958710e3d89b30ce555f9df77b100275c004f0fc7caf75ba", func := "outrider/outriderlaw08.MaglevFinds", spec := "maglevFinds", unfollowed := true, recurses := true, apart := false }
def MaglevFindsSaid : Prop := maglevFindsRow.holds Try.pinned (OpenSpec.ofChange maglevFindsSpec)

/-- ITS FALSE NEIGHBOUR: 'it returns false'. Refute it at one input. -/
def maglevFindsWrong : ChangeSpec := { name := "maglevFinds", fn := fun _ => fun
  | [d1, d2, d3] => { results := [.lit (.bool false)], args := [d1, d2, d3] }
  | _ => none }
def MaglevFindsWrongFalsely : Prop := maglevFindsRow.holds Try.pinned (OpenSpec.ofChange maglevFindsWrong)

/-- 'outriderlaw08.MaglevTurns': WHATEVER THE INPUT: true; the input reads as it did. -/
def maglevTurnsSpec : ChangeSpec := { name := "maglevTurns", fn := fun _ => fun
  | [d1, d2] => { results := [.lit (.bool true)], args := [d1, d2] }
  | _ => none }
def maglevTurnsRow : OpenClaim := { program := "ytlodaclifccchaa", sum := "7223cce92b465d26958710e3d89b30ce555f9df77b100275c004f0fc7caf75ba", func := "outrider/outriderlaw08.MaglevTurns", spec := "maglevTurns", unfollowed := true, recurses := true, apart := false }
def MaglevTurnsSaid : Prop := maglevTurnsRow.holds Try.pinned (OpenSpec.ofChange maglevTurnsSpec)

/-- ITS FALSE NEIGHBOUR: 'it returns false'. Refute it at one input. -/
def maglevTurnsWrong : ChangeSpec := { name := "maglevTurns", fn := fun _ => fun
  | [d1, d2] => { results := [.lit (.bool false)], args := [d1, d2] }
  | _ => none }
def MaglevTurnsWrongFalsely : Prop := maglevTurnsRow.holds Try.pinned (OpenSpec.ofChange maglevTurnsWrong)

/-- 'outriderlaw08.MaglevFills': WHATEVER THE INPUT: true; the input reads as it did. -/
def maglevFillsSpec : ChangeSpec := { name := "maglevFills", fn := fun _ => fun
  | [d1, d2] => { results := [.lit (.bool true)], args := [d1, d2] }
  | _ => none }
def maglevFillsRow : OpenClaim := { program := "ytlodaclifccchaa", sum := "7223cce92b465d26958710e3d89b30ce555f9df77b100275c004f0fc7caf75ba", func := "outrider/outriderlaw08.MaglevFills", spec := "maglevFills", unfollowed := true, recurses := true, apart := false }
def MaglevFillsSaid : Prop := maglevFillsRow.holds Try.pinned (OpenSpec.ofChange maglevFillsSpec)

/-- ITS FALSE NEIGHBOUR: 'it returns false'. Refute it at one input. -/
def maglevFillsWrong : ChangeSpec := { name := "maglevFills", fn := fun _ => fun
  | [d1, d2] => { results := [.lit (.bool false)], args := [d1, d2] }
  | _ => none }
def MaglevFillsWrongFalsely : Prop := maglevFillsRow.holds Try.pinned (OpenSpec.ofChange maglevFillsWrong)

/-- 'outriderlaw08.MaglevOrder': WHATEVER THE INPUT: true; the input reads as it did. -/
def maglevOrderSpec : ChangeSpec := { name := "maglevOrder", fn := fun _ => fun
  | [d1, d2, d3] => { results := [.lit (.bool true)], args := [d1, d2, d3] }
  | _ => none }
def maglevOrderRow : OpenClaim := { program := "ytlodaclifccchaa", sum := "7223cce92b465d26958710e3d89b30ce555f9df77b100275c004f0fc7caf75ba", func := "outrider/outriderlaw08.MaglevOrder", spec := "maglevOrder", unfollowed := true, recurses := true, apart := false }
def MaglevOrderSaid : Prop := maglevOrderRow.holds Try.pinned (OpenSpec.ofChange maglevOrderSpec)

/-- ITS FALSE NEIGHBOUR: 'it returns false'. Refute it at one input. -/
def maglevOrderWrong : ChangeSpec := { name := "maglevOrder", fn := fun _ => fun
  | [d1, d2, d3] => { results := [.lit (.bool false)], args := [d1, d2, d3] }
  | _ => none }
def MaglevOrderWrongFalsely : Prop := maglevOrderRow.holds Try.pinned (OpenSpec.ofChange maglevOrderWrong)

/- THE SECOND FORM. 'bulk': how many values and letters a reading holds, each counted each time it is reached (what is shared counts as often as it is met; a slice's spare places count too). A statement '..UptoSaid' is the law's where the arguments, and the package variables that the reading takes, are together of bulk at most 1048576: NARROWER than '..Said'. Prove '..Said' where nothing that the law and all that it calls make is longer than what came in: it says more and counts as full. Else prove '..UptoSaid'. A law counts once. -/
mutual
def uptoBulk {H : Type} : DataW H → Nat
  | .lit (.string bytes) => bytes.length + 1
  | .lit _ => 1
  | .nil => 1
  | .ptr d => uptoBulk d + 1
  | .slice elems spare => uptoBulkAll elems + uptoBulkAll spare + 1
  | .agg parts => uptoBulkAll parts + 1
  | .iface _ d => uptoBulk d + 1
  | .map entries => uptoBulkEntries entries + 1
  | .held _ => 1
def uptoBulkAll {H : Type} : List (DataW H) → Nat
  | [] => 0
  | d :: r => uptoBulk d + uptoBulkAll r
def uptoBulkEntries {H : Type} : List (Lit × DataW H) → Nat
  | [] => 0
  | x :: r => uptoBulkEntry x + uptoBulkEntries r
def uptoBulkEntry {H : Type} : Lit × DataW H → Nat
  | (.string bytes, d) => bytes.length + uptoBulk d + 1
  | (_, d) => uptoBulk d + 1
 end
def uptoSmall : (H : Type) → List (DataW H) → Bool := fun _ ds => decide (uptoBulkAll ds ≤ 1048576)
def OpenSpec.upto (s : _root_.Go.ChangeSpec) : _root_.Go.OpenSpec := { _root_.Go.OpenSpec.ofChange s with cond := some uptoSmall }

/-- 'outriderlaw08.MaglevShares', WHERE WHAT IT READS IS OF BULK AT MOST 1048576: true; the input reads as it did. -/
def maglevSharesUptoRow : OpenClaim := { program := "ytlodaclifccchaa", sum := "7223cce92b465d26958710e3d89b30ce555f9df77b100275c004f0fc7caf75ba", func := "outrider/outriderlaw08.MaglevShares", spec := "maglevShares", unfollowed := true, recurses := true, apart := false, narrowed := true }
def MaglevSharesUptoSaid : Prop := maglevSharesUptoRow.holds Try.pinned (OpenSpec.upto maglevSharesSpec)

/-- 'outriderlaw08.MaglevFalls', WHERE WHAT IT READS IS OF BULK AT MOST 1048576: true; the input reads as it did. -/
def maglevFallsUptoRow : OpenClaim := { program := "ytlodaclifccchaa", sum := "7223cce92b465d26958710e3d89b30ce555f9df77b100275c004f0fc7caf75ba", func := "outrider/outriderlaw08.MaglevFalls", spec := "maglevFalls", unfollowed := true, recurses := true, apart := false, narrowed := true }
def MaglevFallsUptoSaid : Prop := maglevFallsUptoRow.holds Try.pinned (OpenSpec.upto maglevFallsSpec)

/-- 'outriderlaw08.MaglevAgain', WHERE WHAT IT READS IS OF BULK AT MOST 1048576: true; the input reads as it did. -/
def maglevAgainUptoRow : OpenClaim := { program := "ytlodaclifccchaa", sum := "7223cce92b465d26958710e3d89b30ce555f9df77b100275c004f0fc7caf75ba", func := "outrider/outriderlaw08.MaglevAgain", spec := "maglevAgain", unfollowed := true, recurses := true, apart := false, narrowed := true }
def MaglevAgainUptoSaid : Prop := maglevAgainUptoRow.holds Try.pinned (OpenSpec.upto maglevAgainSpec)

/-- 'outriderlaw08.MaglevFinds', WHERE WHAT IT READS IS OF BULK AT MOST 1048576: true; the input reads as it did. -/
def maglevFindsUptoRow : OpenClaim := { program := "ytlodaclifccchaa", sum := "7223cce92b465d26958710e3d89b30ce555f9df77b100275c004f0fc7caf75ba", func := "outrider/outriderlaw08.MaglevFinds", spec := "maglevFinds", unfollowed := true, recurses := true, apart := false, narrowed := true }
def MaglevFindsUptoSaid : Prop := maglevFindsUptoRow.holds Try.pinned (OpenSpec.upto maglevFindsSpec)

/-- 'outriderlaw08.MaglevTurns', WHERE WHAT IT READS IS OF BULK AT MOST 1048576: true; the input reads as it did. -/
def maglevTurnsUptoRow : OpenClaim := { program := "ytlodaclifccchaa", sum := "7223cce92b465d26958710e3d89b30ce555f9df77b100275c004f0fc7caf75ba", func := "outrider/outriderlaw08.MaglevTurns", spec := "maglevTurns", unfollowed := true, recurses := true, apart := false, narrowed := true }
def MaglevTurnsUptoSaid : Prop := maglevTurnsUptoRow.holds Try.pinned (OpenSpec.upto maglevTurnsSpec)

/-- 'outriderlaw08.MaglevFills', WHERE WHAT IT READS IS OF BULK AT MOST 1048576: true; the input reads as it did. -/
def maglevFillsUptoRow : OpenClaim := { program := "ytlodaclifccchaa", sum := "7223cce92b465d26958710e3d89b30ce555f9df77b100275c004f0fc7caf75ba", func := "outrider/outriderlaw08.MaglevFills", spec := "maglevFills", unfollowed := true, recurses := true, apart := false, narrowed := true }
def MaglevFillsUptoSaid : Prop := maglevFillsUptoRow.holds Try.pinned (OpenSpec.upto maglevFillsSpec)

/-- 'outriderlaw08.MaglevOrder', WHERE WHAT IT READS IS OF BULK AT MOST 1048576: true; the input reads as it did. -/
def maglevOrderUptoRow : OpenClaim := { program := "ytlodaclifccchaa", sum := "7223cce92b465d26958710e3d89b30ce555f9df77b100275c004f0fc7caf75ba", func := "outrider/outriderlaw08.MaglevOrder", spec := "maglevOrder", unfollowed := true, recurses := true, apart := false, narrowed := true }
def MaglevOrderUptoSaid : Prop := maglevOrderUptoRow.holds Try.pinned (OpenSpec.upto maglevOrderSpec)

end Rows
end Go.Proofs.Ytlodaclifccchaa
