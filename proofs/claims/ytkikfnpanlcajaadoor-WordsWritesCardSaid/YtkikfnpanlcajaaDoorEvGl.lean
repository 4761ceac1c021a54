/- The package's variables that are looked at: their numbers in the program, and which blocks they are (the first rows). Printed for a seat. -/
namespace Go.Ev
def glTab : List (Nat × Nat) := [(0, 0), (3, 1)]
/-- is it kept in mind that draws are but counted up? (sorts want it; the kit's 'Below' does not tell it) -/
def drawnB : Bool := false
end Go.Ev
