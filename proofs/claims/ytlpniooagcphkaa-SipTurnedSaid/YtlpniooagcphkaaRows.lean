/-
  No cell of these rows narrows 'for every input' (looked for: loops, veiled, ifaces, maps, wideKeys, modest, calm, conditions, laid).
  DERIVED. THE GIVEN ROWS OF THIS SEAT. 5 by the template 'for every input the law returns true; each argument reads behind the call as it read before'; 0 by the template 'total and deterministic' (their statements: YtlpniooagcphkaaTotals.lean).
  GIVEN WITH THE SEED: the statements are not yours to turn. If you find one false, say at which input.
  Laid BY PROGRAM, IN A SANDBOX (cutbox-rows.mjs): the forced cells as the released guide's own fill.sh prints them over the translation 457581094fd641f8… (all of the seat's roots in one cut). By AI agents, Wed Nov 11 2026. No macro, syntax, notation, axiom, sorry.
-/
import Derived.Test.YtlpniooagcphkaaChecked
import GoSem.Claim
import GoSem.ClaimJoined
import GoSem.ClaimMapViews
import Derived.JoinedTies
import Derived.KernelRfl
namespace Go.Proofs.Ytlpniooagcphkaa
/- THE CELL 'sum', in the pinned program and in every row, IS THE sha256 OF THE DUMP (.gsa) THAT YtlpniooagcphkaaProg.lean LOADS. Nothing in Lean hashes anything: it is a label: what it is worth is what the hold of that sum in a sandbox is worth. -/
noncomputable def Try.pinned : Pinned := { name := "ytlpniooagcphkaa", sum := "457581094fd641f897ff0eb1ef7f425b7a17a840a996543f5fb072bffa21e38b", checked := Try.checked }
namespace Rows
def none {H : Type} : Left H := { results := [], args := [] }

/-- 'outriderlaw07.SipSums': WHATEVER THE INPUT: true; the input reads as it did. -/
def sipSumsSpec : ChangeSpec := { name := "sipSums", fn := fun _ => fun
  | [d1, d2] => { results := [.lit (.bool true)], args := [d1, d2] }
  | _ => none }
def sipSumsRow : OpenClaim := { program := "ytlpniooagcphkaa", sum := "457581094fd641f897ff0eb1ef7f425b7a17a840a996543f5fb072bffa21e38b", func := "outrider/outriderlaw07.SipSums", spec := "sipSums", apart := false }
def SipSumsSaid : Prop := sipSumsRow.holds Try.pinned (OpenSpec.ofChange sipSumsSpec)

/-- ITS FALSE NEIGHBOUR: 'it returns false'. Refute it at one input. -/
def sipSumsWrong : ChangeSpec := { name := "sipSums", fn := fun _ => fun
  | [d1, d2] => { results := [.lit (.bool false)], args := [d1, d2] }
  | _ => none }
def SipSumsWrongFalsely : Prop := sipSumsRow.holds Try.pinned (OpenSpec.ofChange sipSumsWrong)

/-- 'outriderlaw07.SipNumbers': WHATEVER THE INPUT: true; the input reads as it did. -/
def sipNumbersSpec : ChangeSpec := { name := "sipNumbers", fn := fun _ => fun
  | [d1, d2] => { results := [.lit (.bool true)], args := [d1, d2] }
  | _ => none }
def sipNumbersRow : OpenClaim := { program := "ytlpniooagcphkaa", sum := "457581094fd641f897ff0eb1ef7f425b7a17a840a996543f5fb072bffa21e38b", func := "outrider/outriderlaw07.SipNumbers", spec := "sipNumbers", apart := false }
def SipNumbersSaid : Prop := sipNumbersRow.holds Try.pinned (OpenSpec.ofChange sipNumbersSpec)

/-- ITS FALSE NEIGHBOUR: 'it returns false'. Refute it at one input. -/
def sipNumbersWrong : ChangeSpec := { name := "sipNumbers", fn := fun _ => fun
  | [d1, d2] => { results := [.lit (.bool false)], args := [d1, d2] }
  | _ => none }
def SipNumbersWrongFalsely : Prop := sipNumbersRow.holds Try.pinned (OpenSpec.ofChange sipNumbersWrong)

/-- 'outriderlaw07.SipOwn': WHATEVER THE INPUT: true; the input reads as it did. -/
def sipOwnSpec : ChangeSpec := { name := "sipOwn", fn := fun _ => fun
  | [d1, d2] => { results := [.lit (.bool true)], args := [d1, d2] }
  | _ => none }
def sipOwnRow : OpenClaim := { program := "ytlpniooagcphkaa", sum := "457581094fd641f897ff0eb1ef7f425b7a17a840a996543f5fb072bffa21e38b", func := "outrider/outriderlaw07.SipOwn", spec := "sipOwn", apart := false }
def SipOwnSaid : Prop := sipOwnRow.holds Try.pinned (OpenSpec.ofChange sipOwnSpec)

/-- ITS FALSE NEIGHBOUR: 'it returns false'. Refute it at one input. -/
def sipOwnWrong : ChangeSpec := { name := "sipOwn", fn := fun _ => fun
  | [d1, d2] => { results := [.lit (.bool false)], args := [d1, d2] }
  | _ => none }
def SipOwnWrongFalsely : Prop := sipOwnRow.holds Try.pinned (OpenSpec.ofChange sipOwnWrong)

/-- 'outriderlaw07.SipTexts': WHATEVER THE INPUT: true; the input reads as it did. -/
def sipTextsSpec : ChangeSpec := { name := "sipTexts", fn := fun _ => fun
  | [d1, d2, d3] => { results := [.lit (.bool true)], args := [d1, d2, d3] }
  | _ => none }
def sipTextsRow : OpenClaim := { program := "ytlpniooagcphkaa", sum := "457581094fd641f897ff0eb1ef7f425b7a17a840a996543f5fb072bffa21e38b", func := "outrider/outriderlaw07.SipTexts", spec := "sipTexts", apart := false }
def SipTextsSaid : Prop := sipTextsRow.holds Try.pinned (OpenSpec.ofChange sipTextsSpec)

/-- ITS FALSE NEIGHBOUR: 'it returns false'. Refute it at one input. -/
def sipTextsWrong : ChangeSpec := { name := "sipTexts", fn := fun _ => fun
  | [d1, d2, d3] => { results := [.lit (.bool false)], args := [d1, d2, d3] }
  | _ => none }
def SipTextsWrongFalsely : Prop := sipTextsRow.holds Try.pinned (OpenSpec.ofChange sipTextsWrong)

/-- 'outriderlaw07.SipTurned': WHATEVER THE INPUT: true; the input reads as it did. -/
def sipTurnedSpec : ChangeSpec := { name := "sipTurned", fn := fun _ => fun
  | [d1, d2] => { results := [.lit (.bool true)], args := [d1, d2] }
  | _ => none }
def sipTurnedRow : OpenClaim := { program := "ytlpniooagcphkaa", sum := "457581094fd641f897ff0eb1ef7f425b7a17a840a996543f5fb072bffa21e38b", func := "outrider/outriderlaw07.SipTurned", spec := "sipTurned", apart := false }
def SipTurnedSaid : Prop := sipTurnedRow.holds Try.pinned (OpenSpec.ofChange sipTurnedSpec)

/-- ITS FALSE NEIGHBOUR: 'it returns false'. Refute it at one input. -/
def sipTurnedWrong : ChangeSpec := { name := "sipTurned", fn := fun _ => fun
  | [d1, d2] => { results := [.lit (.bool false)], args := [d1, d2] }
  | _ => none }
def SipTurnedWrongFalsely : Prop := sipTurnedRow.holds Try.pinned (OpenSpec.ofChange sipTurnedWrong)

/- THE SECOND FORM. 'bulk': how many values and letters a reading holds, each counted each time it is reached (what is shared counts as often as it is met; a slice's spare places count too). A statement '..UptoSaid' is the law's where the arguments, and the package variables that the reading takes, are together of bulk at most 1048576: NARROWER than '..Said'. Prove '..Said' where nothing that the law and all that it calls make is longer than what came in: it says more and counts as full. Else prove '..UptoSaid'. A law counts once. -/
mutual
def uptoBulk {H : Type} : DataW H → Nat
  | .lit (.string bytes) => bytes.length + 1
  | .lit _ => 1
  | .nil => 1
  | .ptr d => uptoBulk d + 1
  | .slice elems spare => uptoBulkAll elems + uptoBulkAll spare + 1
  | .agg parts => uptoBulkAll parts + 1
  | .iface _ d => uptoBulk d + 1
  | .map entries => uptoBulkEntries entries + 1
  | .held _ => 1
def uptoBulkAll {H : Type} : List (DataW H) → Nat
  | [] => 0
  | d :: r => uptoBulk d + uptoBulkAll r
def uptoBulkEntries {H : Type} : List (Lit × DataW H) → Nat
  | [] => 0
  | x :: r => uptoBulkEntry x + uptoBulkEntries r
def uptoBulkEntry {H : Type} : Lit × DataW H → Nat
  | (.string bytes, d) => bytes.length + uptoBulk d + 1
  | (_, d) => uptoBulk d + 1
 end
def uptoSmall : (H : Type) → List (DataW H) → Bool := fun _ ds => decide (uptoBulkAll ds ≤ 1048576)
def OpenSpec.upto (s : _root_.Go.ChangeSpec) : _root_.Go.OpenSpec := { _root_.Go.OpenSpec.ofChange s with cond := some uptoSmall }

/-- 'outriderlaw07.SipSums', WHERE WHAT IT READS IS OF BULK AT MOST 1048576: true; the input reads as it did. -/
def sipSumsUptoRow : OpenClaim := { program := "ytlpniooagcphkaa", sum := "457581094fd641f897ff0eb1ef7f425b7a17a840a996543f5fb072bffa21e38b", func := "outrider/outriderlaw07.SipSums", spec := "sipSums", apart := false, narrowed := true }
def SipSumsUptoSaid : Prop := sipSumsUptoRow.holds Try.pinned (OpenSpec.upto sipSumsSpec)

/-- 'outriderlaw07.SipNumbers', WHERE WHAT IT READS IS OF BULK AT MOST 1048576: true; the input reads as it did. -/
def sipNumbersUptoRow : OpenClaim := { program := "ytlpniooagcphkaa", sum := "457581094fd641f897ff0eb1ef7f425b7a17a840a996543f5fb072bffa21e38b", func := "outrider/outriderlaw07.SipNumbers", spec := "sipNumbers", apart := false, narrowed := true }
def SipNumbersUptoSaid : Prop := sipNumbersUptoRow.holds Try.pinned (OpenSpec.upto sipNumbersSpec)

/-- 'outriderlaw07.SipOwn', WHERE WHAT IT READS IS OF BULK AT MOST 1048576: true; the input reads as it did. -/
def sipOwnUptoRow : OpenClaim := { program := "ytlpniooagcphkaa", sum := "457581094fd641f897ff0eb1ef7f425b7a17a840a996543f5fb072bffa21e38b", func := "outrider/outriderlaw07.SipOwn", spec := "sipOwn", apart := false, narrowed := true }
def SipOwnUptoSaid : Prop := sipOwnUptoRow.holds Try.pinned (OpenSpec.upto sipOwnSpec)

/-- 'outriderlaw07.SipTexts', WHERE WHAT IT READS IS OF BULK AT MOST 1048576: true; the input reads as it did. -/
def sipTextsUptoRow : OpenClaim := { program := "ytlpniooagcphkaa", sum := "457581094fd641f897ff0eb1ef7f425b7a17a840a996543f5fb072bffa21e38b", func := "outrider/outriderlaw07.SipTexts", spec := "sipTexts", apart := false, narrowed := true }
def SipTextsUptoSaid : Prop := sipTextsUptoRow.holds Try.pinned (OpenSpec.upto sipTextsSpec)

/-- 'outriderlaw07.SipTurned', WHERE WHAT IT READS IS OF BULK AT MOST 1048576: true; the input reads as it did. -/
def sipTurnedUptoRow : OpenClaim := { program := "ytlpniooagcphkaa", sum := "457581094fd641f897ff0eb1ef7f425b7a17a840a996543f5fb072bffa21e38b", func := "outrider/outriderlaw07.SipTurned", spec := "sipTurned", apart := false, narrowed := true }
def SipTurnedUptoSaid : Prop := sipTurnedUptoRow.holds Try.pinned (OpenSpec.upto sipTurnedSpec)

end Rows
end Go.Proofs.Ytlpniooagcphkaa
