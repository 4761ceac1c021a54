/- The laws of chapter 07, in plain Lean: what the printed functions compute is true. -/
import Derived.Test.YtgaflglknjjalaaFw1
set_option linter.all false
namespace Go.Ev.Try
open Go.Proofs
set_option maxRecDepth 10000

theorem byte_wf {x : Int} (h : (Lit.int .u8 x).wf = true) : byte x := by
  simp [Lit.wf, IntKind.min, IntKind.max, IntKind.signed, IntKind.bits] at h
  exact ⟨h.1, by omega⟩

abbrev ks16 : List FK := [.int .u8, .int .u8, .int .u8, .int .u8, .int .u8, .int .u8, .int .u8, .int .u8, .int .u8, .int .u8, .int .u8, .int .u8, .int .u8, .int .u8, .int .u8, .int .u8]

theorem key_of {c : List AV} (h : Fits ks16 c) : ∃ key : List Int, c = u8s key ∧ key.length = 16 ∧ Bytes key := by
  obtain ⟨l, h1, h2, h3⟩ := fits_ints (n := 16) (k := .u8) h
  exact ⟨l, h1, h2, fun x hx => byte_wf (h3 x hx)⟩

end Go.Ev.Try
