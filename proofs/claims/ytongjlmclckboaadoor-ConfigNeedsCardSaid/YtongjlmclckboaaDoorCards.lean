/-
  DERIVED. GIVEN WITH THE SEED: THE CARDS: each row of YtongjlmclckboaaDoorRows.lean that lists a variable, with what it lists TIED to the program's text (the seventh form; the later family's looks); each row that meets fmt, with fmt's text TOLD by the authors' own Lean function (tested against real Go, not proved from fmt's source: count such statements apart). THE CARD IS WHAT COUNTS. Prove the row's statement (the work); the ties are given (YtongjlmclckboaaDoorTie.lean); close each card by the builder's one call (the guide's Derived/Test/ToyasCard.lean, 'card_holds'). Laid BY PROGRAM, IN A SANDBOX (cutbox-door.mjs). By AI agents, Wed Nov 11 2026. No macro, syntax, notation, axiom, sorry.
-/
import Derived.Test.YtongjlmclckboaaDoorRows
import GoSem.ClaimSeven
namespace Go.Proofs.YtongjlmclckboaaDoor
namespace Rows

/-- THE TIED CARD OF 'outriderlaw18.ConfigSpaced'. -/
def configSpacedCard : Claim7 := { stood := { row := configSpacedRow, standIns := [], harness := (true, "404c64396cf03aaa96842e23ddda6cf3c372297eeca06ab521e4c9c5b65376f2"), looks := false }, kinds := [], alts := [], laidByText := true, laidKinds := [.data, .data, .data, .data, .pinned], laidTests := true, laidLooks := .later }
def ConfigSpacedCardSaid : Prop := Claim7.holds Tryd.pinned (.plain (OpenSpec.ofChange configSpacedSpec)) configSpacedCard

/-- THE TIED CARD OF 'outriderlaw18.ConfigNeeds'. -/
def configNeedsCard : Claim7 := { stood := { row := configNeedsRow, standIns := [], harness := (true, "404c64396cf03aaa96842e23ddda6cf3c372297eeca06ab521e4c9c5b65376f2"), looks := false }, kinds := [], alts := [], laidByText := true, laidKinds := [.data, .data, .data, .data, .pinned], laidTests := true, laidLooks := .later }
def ConfigNeedsCardSaid : Prop := Claim7.holds Tryd.pinned (.plain (OpenSpec.ofChange configNeedsSpec)) configNeedsCard

/-- THE TIED CARD OF 'outriderlaw18.ConfigTwice'. -/
def configTwiceCard : Claim7 := { stood := { row := configTwiceRow, standIns := [], harness := (true, "404c64396cf03aaa96842e23ddda6cf3c372297eeca06ab521e4c9c5b65376f2"), looks := false }, kinds := [], alts := [], laidByText := true, laidKinds := [.data, .data, .data, .data, .pinned], laidTests := true, laidLooks := .later }
def ConfigTwiceCardSaid : Prop := Claim7.holds Tryd.pinned (.plain (OpenSpec.ofChange configTwiceSpec)) configTwiceCard

/-- THE SECOND FORM's CARD OF 'outriderlaw18.ConfigSpaced'. -/
def configSpacedUptoCard : Claim7 := { stood := { row := configSpacedUptoRow, standIns := [], harness := (true, "404c64396cf03aaa96842e23ddda6cf3c372297eeca06ab521e4c9c5b65376f2"), looks := false }, kinds := [], alts := [], laidByText := true, laidKinds := [.data, .data, .data, .data, .pinned], laidTests := true, laidLooks := .later }
def ConfigSpacedUptoCardSaid : Prop := Claim7.holds Tryd.pinned (.plain (OpenSpec.upto configSpacedSpec)) configSpacedUptoCard

/-- THE SECOND FORM's CARD OF 'outriderlaw18.ConfigNeeds'. -/
def configNeedsUptoCard : Claim7 := { stood := { row := configNeedsUptoRow, standIns := [], harness := (true, "404c64396cf03aaa96842e23ddda6cf3c372297eeca06ab521e4c9c5b65376f2"), looks := false }, kinds := [], alts := [], laidByText := true, laidKinds := [.data, .data, .data, .data, .pinned], laidTests := true, laidLooks := .later }
def ConfigNeedsUptoCardSaid : Prop := Claim7.holds Tryd.pinned (.plain (OpenSpec.upto configNeedsSpec)) configNeedsUptoCard

/-- THE SECOND FORM's CARD OF 'outriderlaw18.ConfigTwice'. -/
def configTwiceUptoCard : Claim7 := { stood := { row := configTwiceUptoRow, standIns := [], harness := (true, "404c64396cf03aaa96842e23ddda6cf3c372297eeca06ab521e4c9c5b65376f2"), looks := false }, kinds := [], alts := [], laidByText := true, laidKinds := [.data, .data, .data, .data, .pinned], laidTests := true, laidLooks := .later }
def ConfigTwiceUptoCardSaid : Prop := Claim7.holds Tryd.pinned (.plain (OpenSpec.upto configTwiceSpec)) configTwiceUptoCard
end Rows
end Go.Proofs.YtongjlmclckboaaDoor
