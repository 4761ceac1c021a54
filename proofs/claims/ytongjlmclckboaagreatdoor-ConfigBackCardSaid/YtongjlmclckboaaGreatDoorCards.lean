/-
  DERIVED. GIVEN WITH THE SEED: THE CARDS: each row of YtongjlmclckboaaGreatDoorRows.lean that lists a variable, with what it lists TIED to the program's text (the seventh form; the later family's looks); each row that meets fmt, with fmt's text TOLD by the authors' own Lean function (tested against real Go, not proved from fmt's source: count such statements apart). THE CARD IS WHAT COUNTS. Prove the row's statement (the work); the ties are given (YtongjlmclckboaaGreatDoorTie.lean); close each card by the builder's one call (the guide's Derived/Test/ToyasCard.lean, 'card_holds'). Laid BY PROGRAM, IN A SANDBOX (cutbox-door.mjs). By AI agents, Wed Nov 11 2026. No macro, syntax, notation, axiom, sorry.
-/
import Derived.Test.YtongjlmclckboaaGreatDoorRows
import GoSem.ClaimSeven
namespace Go.Proofs.YtongjlmclckboaaGreatDoor
namespace Rows

/-- THE TIED CARD OF 'outriderlaw18.ConfigBack'. -/
def configBackCard : Claim7 := { stood := { row := configBackRow, standIns := [], harness := (true, "9d38c91fa50cfba10ab1febb6f9e1bf7d18f85cefeaf9e6e86dbadb1385e8731"), looks := false }, kinds := [], alts := [], laidByText := true, laidKinds := [.data, .data, .data, .data, .pinned], laidTests := true, laidLooks := .later }
def ConfigBackCardSaid : Prop := Claim7.holds Tryz.pinned (.plain (OpenSpec.ofChange configBackSpec)) configBackCard

/-- THE SECOND FORM's CARD OF 'outriderlaw18.ConfigBack'. -/
def configBackUptoCard : Claim7 := { stood := { row := configBackUptoRow, standIns := [], harness := (true, "9d38c91fa50cfba10ab1febb6f9e1bf7d18f85cefeaf9e6e86dbadb1385e8731"), looks := false }, kinds := [], alts := [], laidByText := true, laidKinds := [.data, .data, .data, .data, .pinned], laidTests := true, laidLooks := .later }
def ConfigBackUptoCardSaid : Prop := Claim7.holds Tryz.pinned (.plain (OpenSpec.upto configBackSpec)) configBackUptoCard
end Rows
end Go.Proofs.YtongjlmclckboaaGreatDoor
