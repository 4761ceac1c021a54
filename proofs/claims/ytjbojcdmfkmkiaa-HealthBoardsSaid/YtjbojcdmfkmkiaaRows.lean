/-
  No cell of these rows narrows 'for every input' (looked for: loops, veiled, ifaces, maps, wideKeys, modest, calm, conditions, laid).
  DERIVED. THE GIVEN ROWS OF THIS SEAT. 6 by the template 'for every input the law returns true; each argument reads behind the call as it read before'; 0 by the template 'total and deterministic' (their statements: YtjbojcdmfkmkiaaTotals.lean).
  GIVEN WITH THE SEED: the statements are not yours to turn. If you find one false, say at which input.
  Laid BY PROGRAM, IN A SANDBOX (cutbox-rows.mjs): the forced cells as the released guide's own fill.sh prints them over the translation ac66d35d62b1b81e… (all of the seat's roots in one cut). By AI agents, Wed Nov 11 2026. No macro, syntax, notation, axiom, sorry.
-/
import Derived.Test.YtjbojcdmfkmkiaaChecked
import GoSem.Claim
import GoSem.ClaimJoined
import GoSem.ClaimMapViews
import Derived.JoinedTies
import Derived.KernelRfl
namespace Go.Proofs.Ytjbojcdmfkmkiaa
/- THE CELL 'sum', in the pinned program and in every row, IS THE sha256 OF THE DUMP (.gsa) THAT YtjbojcdmfkmkiaaProg.lean LOADS. Nothing in Lean hashes anything: it is a label: what it is worth is what the hold of that sum in a sandbox is worth. -/
noncomputable def Try.pinned : Pinned := { name := "ytjbojcdmfkmkiaa", sum := "ac66d35d62b1b81e5303238bd8b396985273b65f3ac346c05ab6ed18ab571ab6", checked := Try.checked }
namespace Rows
def none {H : Type} : Left H := { results := [], args := [] }

/-- 'outriderlaw11.HealthSteady': WHATEVER THE INPUT: true; the input reads as it did. -/
def healthSteadySpec : ChangeSpec := { name := "healthSteady", fn := fun _ => fun
  | [d1, d2, d3] => { results := [.lit (.bool true)], args := [d1, d2, d3] }
  | _ => none }
def healthSteadyRow : OpenClaim := { program := "ytjbojcdmfkmkiaa", sum := "ac66d35d62b1b81e5303238bd8b396985273b65f3ac346c05ab6ed18ab571ab6", func := "outrider/outriderlaw11.HealthSteady", spec := "healthSteady", unfollowed := true, recurses := true, apart := false }
def HealthSteadySaid : Prop := healthSteadyRow.holds Try.pinned (OpenSpec.ofChange healthSteadySpec)

/-- ITS FALSE NEIGHBOUR: 'it returns false'. Refute it at one input. -/
def healthSteadyWrong : ChangeSpec := { name := "healthSteady", fn := fun _ => fun
  | [d1, d2, d3] => { results := [.lit (.bool false)], args := [d1, d2, d3] }
  | _ => none }
def HealthSteadyWrongFalsely : Prop := healthSteadyRow.holds Try.pinned (OpenSpec.ofChange healthSteadyWrong)

/-- 'outriderlaw11.HealthDue': WHATEVER THE INPUT: true; the input reads as it did. -/
def healthDueSpec : ChangeSpec := { name := "healthDue", fn := fun _ => fun
  | [d1, d2] => { results := [.lit (.bool true)], args := [d1, d2] }
  | _ => none }
def healthDueRow : OpenClaim := { program := "ytjbojcdmfkmkiaa", sum := "ac66d35d62b1b81e5303238bd8b396985273b65f3ac346c05ab6ed18ab571ab6", func := "outrider/outriderlaw11.HealthDue", spec := "healthDue", unfollowed := true, recurses := true, apart := false }
def HealthDueSaid : Prop := healthDueRow.holds Try.pinned (OpenSpec.ofChange healthDueSpec)

/-- ITS FALSE NEIGHBOUR: 'it returns false'. Refute it at one input. -/
def healthDueWrong : ChangeSpec := { name := "healthDue", fn := fun _ => fun
  | [d1, d2] => { results := [.lit (.bool false)], args := [d1, d2] }
  | _ => none }
def HealthDueWrongFalsely : Prop := healthDueRow.holds Try.pinned (OpenSpec.ofChange healthDueWrong)

/-- 'outriderlaw11.HealthProbes': WHATEVER THE INPUT: true; the input reads as it did. -/
def healthProbesSpec : ChangeSpec := { name := "healthProbes", fn := fun _ => fun
  | [d1, d2, d3] => { results := [.lit (.bool true)], args := [d1, d2, d3] }
  | _ => none }
def healthProbesRow : OpenClaim := { program := "ytjbojcdmfkmkiaa", sum := "ac66d35d62b1b81e5303238bd8b396985273b65f3ac346c05ab6ed18ab571ab6", func := "outrider/outriderlaw11.HealthProbes", spec := "healthProbes", unfollowed := true, recurses := true, apart := false }
def HealthProbesSaid : Prop := healthProbesRow.holds Try.pinned (OpenSpec.ofChange healthProbesSpec)

/-- ITS FALSE NEIGHBOUR: 'it returns false'. Refute it at one input. -/
def healthProbesWrong : ChangeSpec := { name := "healthProbes", fn := fun _ => fun
  | [d1, d2, d3] => { results := [.lit (.bool false)], args := [d1, d2, d3] }
  | _ => none }
def HealthProbesWrongFalsely : Prop := healthProbesRow.holds Try.pinned (OpenSpec.ofChange healthProbesWrong)

/-- 'outriderlaw11.HealthRises': WHATEVER THE INPUT: true; the input reads as it did. -/
def healthRisesSpec : ChangeSpec := { name := "healthRises", fn := fun _ => fun
  | [d] => { results := [.lit (.bool true)], args := [d] }
  | _ => none }
def healthRisesRow : OpenClaim := { program := "ytjbojcdmfkmkiaa", sum := "ac66d35d62b1b81e5303238bd8b396985273b65f3ac346c05ab6ed18ab571ab6", func := "outrider/outriderlaw11.HealthRises", spec := "healthRises", unfollowed := true, recurses := true, apart := false }
def HealthRisesSaid : Prop := healthRisesRow.holds Try.pinned (OpenSpec.ofChange healthRisesSpec)

/-- ITS FALSE NEIGHBOUR: 'it returns false'. Refute it at one input. -/
def healthRisesWrong : ChangeSpec := { name := "healthRises", fn := fun _ => fun
  | [d] => { results := [.lit (.bool false)], args := [d] }
  | _ => none }
def HealthRisesWrongFalsely : Prop := healthRisesRow.holds Try.pinned (OpenSpec.ofChange healthRisesWrong)

/-- 'outriderlaw11.HealthBoards': WHATEVER THE INPUT: true; the input reads as it did. -/
def healthBoardsSpec : ChangeSpec := { name := "healthBoards", fn := fun _ => fun
  | [d1, d2, d3] => { results := [.lit (.bool true)], args := [d1, d2, d3] }
  | _ => none }
def healthBoardsRow : OpenClaim := { program := "ytjbojcdmfkmkiaa", sum := "ac66d35d62b1b81e5303238bd8b396985273b65f3ac346c05ab6ed18ab571ab6", func := "outrider/outriderlaw11.HealthBoards", spec := "healthBoards", unfollowed := true, recurses := true, apart := false }
def HealthBoardsSaid : Prop := healthBoardsRow.holds Try.pinned (OpenSpec.ofChange healthBoardsSpec)

/-- ITS FALSE NEIGHBOUR: 'it returns false'. Refute it at one input. -/
def healthBoardsWrong : ChangeSpec := { name := "healthBoards", fn := fun _ => fun
  | [d1, d2, d3] => { results := [.lit (.bool false)], args := [d1, d2, d3] }
  | _ => none }
def HealthBoardsWrongFalsely : Prop := healthBoardsRow.holds Try.pinned (OpenSpec.ofChange healthBoardsWrong)

/-- 'outriderlaw11.HealthApart': WHATEVER THE INPUT: true; the input reads as it did. -/
def healthApartSpec : ChangeSpec := { name := "healthApart", fn := fun _ => fun
  | [d1, d2, d3] => { results := [.lit (.bool true)], args := [d1, d2, d3] }
  | _ => none }
def healthApartRow : OpenClaim := { program := "ytjbojcdmfkmkiaa", sum := "ac66d35d62b1b81e5303238bd8b396985273b65f3ac346c05ab6ed18ab571ab6", func := "outrider/outriderlaw11.HealthApart", spec := "healthApart", unfollowed := true, recurses := true, apart := false }
def HealthApartSaid : Prop := healthApartRow.holds Try.pinned (OpenSpec.ofChange healthApartSpec)

/-- ITS FALSE NEIGHBOUR: 'it returns false'. Refute it at one input. -/
def healthApartWrong : ChangeSpec := { name := "healthApart", fn := fun _ => fun
  | [d1, d2, d3] => { results := [.lit (.bool false)], args := [d1, d2, d3] }
  | _ => none }
def HealthApartWrongFalsely : Prop := healthApartRow.holds Try.pinned (OpenSpec.ofChange healthApartWrong)

/- THE SECOND FORM. 'bulk': how many values and letters a reading holds, each counted each time it is reached (what is shared counts as often as it is met; a slice's spare places count too). A statement '..UptoSaid' is the law's where the arguments, and the package variables that the reading takes, are together of bulk at most 1048576: NARROWER than '..Said'. Prove '..Said' where nothing that the law and all that it calls make is longer than what came in: it says more and counts as full. Else prove '..UptoSaid'. A law counts once. -/
mutual
def uptoBulk {H : Type} : DataW H → Nat
  | .lit (.string bytes) => bytes.length + 1
  | .lit _ => 1
  | .nil => 1
  | .ptr d => uptoBulk d + 1
  | .slice elems spare => uptoBulkAll elems + uptoBulkAll spare + 1
  | .agg parts => uptoBulkAll parts + 1
  | .iface _ d => uptoBulk d + 1
  | .map entries => uptoBulkEntries entries + 1
  | .held _ => 1
def uptoBulkAll {H : Type} : List (DataW H) → Nat
  | [] => 0
  | d :: r => uptoBulk d + uptoBulkAll r
def uptoBulkEntries {H : Type} : List (Lit × DataW H) → Nat
  | [] => 0
  | x :: r => uptoBulkEntry x + uptoBulkEntries r
def uptoBulkEntry {H : Type} : Lit × DataW H → Nat
  | (.string bytes, d) => bytes.length + uptoBulk d + 1
  | (_, d) => uptoBulk d + 1
 end
def uptoSmall : (H : Type) → List (DataW H) → Bool := fun _ ds => decide (uptoBulkAll ds ≤ 1048576)
def OpenSpec.upto (s : _root_.Go.ChangeSpec) : _root_.Go.OpenSpec := { _root_.Go.OpenSpec.ofChange s with cond := some uptoSmall }

/-- 'outriderlaw11.HealthSteady', WHERE WHAT IT READS IS OF BULK AT MOST 1048576: true; the input reads as it did. -/
def healthSteadyUptoRow : OpenClaim := { program := "ytjbojcdmfkmkiaa", sum := "ac66d35d62b1b81e5303238bd8b396985273b65f3ac346c05ab6ed18ab571ab6", func := "outrider/outriderlaw11.HealthSteady", spec := "healthSteady", unfollowed := true, recurses := true, apart := false, narrowed := true }
def HealthSteadyUptoSaid : Prop := healthSteadyUptoRow.holds Try.pinned (OpenSpec.upto healthSteadySpec)

/-- 'outriderlaw11.HealthDue', WHERE WHAT IT READS IS OF BULK AT MOST 1048576: true; the input reads as it did. -/
def healthDueUptoRow : OpenClaim := { program := "ytjbojcdmfkmkiaa", sum := "ac66d35d62b1b81e5303238bd8b396985273b65f3ac346c05ab6ed18ab571ab6", func := "outrider/outriderlaw11.HealthDue", spec := "healthDue", unfollowed := true, recurses := true, apart := false, narrowed := true }
def HealthDueUptoSaid : Prop := healthDueUptoRow.holds Try.pinned (OpenSpec.upto healthDueSpec)

/-- 'outriderlaw11.HealthProbes', WHERE WHAT IT READS IS OF BULK AT MOST 1048576: true; the input reads as it did. -/
def healthProbesUptoRow : OpenClaim := { program := "ytjbojcdmfkmkiaa", sum := "ac66d35d62b1b81e5303238bd8b396985273b65f3ac346c05ab6ed18ab571ab6", func := "outrider/outriderlaw11.HealthProbes", spec := "healthProbes", unfollowed := true, recurses := true, apart := false, narrowed := true }
def HealthProbesUptoSaid : Prop := healthProbesUptoRow.holds Try.pinned (OpenSpec.upto healthProbesSpec)

/-- 'outriderlaw11.HealthRises', WHERE WHAT IT READS IS OF BULK AT MOST 1048576: true; the input reads as it did. -/
def healthRisesUptoRow : OpenClaim := { program := "ytjbojcdmfkmkiaa", sum := "ac66d35d62b1b81e5303238bd8b396985273b65f3ac346c05ab6ed18ab571ab6", func := "outrider/outriderlaw11.HealthRises", spec := "healthRises", unfollowed := true, recurses := true, apart := false, narrowed := true }
def HealthRisesUptoSaid : Prop := healthRisesUptoRow.holds Try.pinned (OpenSpec.upto healthRisesSpec)

/-- 'outriderlaw11.HealthBoards', WHERE WHAT IT READS IS OF BULK AT MOST 1048576: true; the input reads as it did. -/
def healthBoardsUptoRow : OpenClaim := { program := "ytjbojcdmfkmkiaa", sum := "ac66d35d62b1b81e5303238bd8b396985273b65f3ac346c05ab6ed18ab571ab6", func := "outrider/outriderlaw11.HealthBoards", spec := "healthBoards", unfollowed := true, recurses := true, apart := false, narrowed := true }
def HealthBoardsUptoSaid : Prop := healthBoardsUptoRow.holds Try.pinned (OpenSpec.upto healthBoardsSpec)

/-- 'outriderlaw11.HealthApart', WHERE WHAT IT READS IS OF BULK AT MOST 1048576: true; the input reads as it did. -/
def healthApartUptoRow : OpenClaim := { program := "ytjbojcdmfkmkiaa", sum := "ac66d35d62b1b81e5303238bd8b396985273b65f3ac346c05ab6ed18ab571ab6", func := "outrider/outriderlaw11.HealthApart", spec := "healthApart", unfollowed := true, recurses := true, apart := false, narrowed := true }
def HealthApartUptoSaid : Prop := healthApartUptoRow.holds Try.pinned (OpenSpec.upto healthApartSpec)

end Rows
end Go.Proofs.Ytjbojcdmfkmkiaa
