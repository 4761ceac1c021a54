/-
  DERIVED. GIVEN WITH THE SEED: THE CARDS: each row of YtkikfnpanlcajaaDoorRows.lean that lists a variable, with what it lists TIED to the program's text (the seventh form; the later family's looks); each row that meets fmt, with fmt's text TOLD by the authors' own Lean function (tested against real Go, not proved from fmt's source: count such statements apart). THE CARD IS WHAT COUNTS. Prove the row's statement (the work); the ties are given (YtkikfnpanlcajaaDoorTie.lean); close each card by the builder's one call (the guide's Derived/Test/ToyasCard.lean, 'card_holds'). Laid BY PROGRAM, IN A SANDBOX (cutbox-door.mjs). By AI agents, Wed Nov 11 2026. No macro, syntax, notation, axiom, sorry.
-/
import Derived.Test.YtkikfnpanlcajaaDoorRows
import GoSem.ClaimSeven
namespace Go.Proofs.YtkikfnpanlcajaaDoor
namespace Rows

/-- THE TIED CARD OF 'outriderlaw17.WordsAgain'. -/
def wordsAgainCard : Claim7 := { stood := { row := wordsAgainRow, standIns := [], harness := (true, "fb29d5e1b4e47381554a1b876515700a3210eaa8cde7814af465c542fe10e6d6"), looks := false }, kinds := [], alts := [], laidByText := true, laidKinds := [.data, .pinned], laidTests := true, laidLooks := .later }
def WordsAgainCardSaid : Prop := Claim7.holds Tryd.pinned (.plain (OpenSpec.ofChange wordsAgainSpec)) wordsAgainCard

/-- THE TIED CARD OF 'outriderlaw17.WordsLines'. -/
def wordsLinesCard : Claim7 := { stood := { row := wordsLinesRow, standIns := [], harness := (true, "fb29d5e1b4e47381554a1b876515700a3210eaa8cde7814af465c542fe10e6d6"), looks := false }, kinds := [], alts := [], laidByText := true, laidKinds := [.data, .pinned], laidTests := true, laidLooks := .later }
def WordsLinesCardSaid : Prop := Claim7.holds Tryd.pinned (.plain (OpenSpec.ofChange wordsLinesSpec)) wordsLinesCard

/-- THE TIED CARD OF 'outriderlaw17.WordsNumbers'. -/
def wordsNumbersCard : Claim7 := { stood := { row := wordsNumbersRow, standIns := [], harness := (true, "fb29d5e1b4e47381554a1b876515700a3210eaa8cde7814af465c542fe10e6d6"), looks := false }, kinds := [], alts := [], laidByText := true, laidKinds := [.data, .pinned], laidTests := true, laidLooks := .later }
def WordsNumbersCardSaid : Prop := Claim7.holds Tryd.pinned (.plain (OpenSpec.ofChange wordsNumbersSpec)) wordsNumbersCard

/-- THE TIED CARD OF 'outriderlaw17.WordsReads'. -/
def wordsReadsCard : Claim7 := { stood := { row := wordsReadsRow, standIns := [], harness := (true, "fb29d5e1b4e47381554a1b876515700a3210eaa8cde7814af465c542fe10e6d6"), looks := false }, kinds := [], alts := [], laidByText := true, laidKinds := [.data, .pinned], laidTests := true, laidLooks := .later }
def WordsReadsCardSaid : Prop := Claim7.holds Tryd.pinned (.plain (OpenSpec.ofChange wordsReadsSpec)) wordsReadsCard

/-- THE TIED CARD OF 'outriderlaw17.WordsWrites'. -/
def wordsWritesCard : Claim7 := { stood := { row := wordsWritesRow, standIns := [], harness := (true, "fb29d5e1b4e47381554a1b876515700a3210eaa8cde7814af465c542fe10e6d6"), looks := false }, kinds := [], alts := [], laidByText := true, laidKinds := [.data, .data, .data, .data, .pinned], laidTests := true, laidLooks := .later }
def WordsWritesCardSaid : Prop := Claim7.holds Tryd.pinned (.plain (OpenSpec.ofChange wordsWritesSpec)) wordsWritesCard

/-- THE SECOND FORM's CARD OF 'outriderlaw17.WordsAgain'. -/
def wordsAgainUptoCard : Claim7 := { stood := { row := wordsAgainUptoRow, standIns := [], harness := (true, "fb29d5e1b4e47381554a1b876515700a3210eaa8cde7814af465c542fe10e6d6"), looks := false }, kinds := [], alts := [], laidByText := true, laidKinds := [.data, .pinned], laidTests := true, laidLooks := .later }
def WordsAgainUptoCardSaid : Prop := Claim7.holds Tryd.pinned (.plain (OpenSpec.upto wordsAgainSpec)) wordsAgainUptoCard

/-- THE SECOND FORM's CARD OF 'outriderlaw17.WordsLines'. -/
def wordsLinesUptoCard : Claim7 := { stood := { row := wordsLinesUptoRow, standIns := [], harness := (true, "fb29d5e1b4e47381554a1b876515700a3210eaa8cde7814af465c542fe10e6d6"), looks := false }, kinds := [], alts := [], laidByText := true, laidKinds := [.data, .pinned], laidTests := true, laidLooks := .later }
def WordsLinesUptoCardSaid : Prop := Claim7.holds Tryd.pinned (.plain (OpenSpec.upto wordsLinesSpec)) wordsLinesUptoCard

/-- THE SECOND FORM's CARD OF 'outriderlaw17.WordsNumbers'. -/
def wordsNumbersUptoCard : Claim7 := { stood := { row := wordsNumbersUptoRow, standIns := [], harness := (true, "fb29d5e1b4e47381554a1b876515700a3210eaa8cde7814af465c542fe10e6d6"), looks := false }, kinds := [], alts := [], laidByText := true, laidKinds := [.data, .pinned], laidTests := true, laidLooks := .later }
def WordsNumbersUptoCardSaid : Prop := Claim7.holds Tryd.pinned (.plain (OpenSpec.upto wordsNumbersSpec)) wordsNumbersUptoCard

/-- THE SECOND FORM's CARD OF 'outriderlaw17.WordsReads'. -/
def wordsReadsUptoCard : Claim7 := { stood := { row := wordsReadsUptoRow, standIns := [], harness := (true, "fb29d5e1b4e47381554a1b876515700a3210eaa8cde7814af465c542fe10e6d6"), looks := false }, kinds := [], alts := [], laidByText := true, laidKinds := [.data, .pinned], laidTests := true, laidLooks := .later }
def WordsReadsUptoCardSaid : Prop := Claim7.holds Tryd.pinned (.plain (OpenSpec.upto wordsReadsSpec)) wordsReadsUptoCard

/-- THE SECOND FORM's CARD OF 'outriderlaw17.WordsWrites'. -/
def wordsWritesUptoCard : Claim7 := { stood := { row := wordsWritesUptoRow, standIns := [], harness := (true, "fb29d5e1b4e47381554a1b876515700a3210eaa8cde7814af465c542fe10e6d6"), looks := false }, kinds := [], alts := [], laidByText := true, laidKinds := [.data, .data, .data, .data, .pinned], laidTests := true, laidLooks := .later }
def WordsWritesUptoCardSaid : Prop := Claim7.holds Tryd.pinned (.plain (OpenSpec.upto wordsWritesSpec)) wordsWritesUptoCard
end Rows
end Go.Proofs.YtkikfnpanlcajaaDoor
