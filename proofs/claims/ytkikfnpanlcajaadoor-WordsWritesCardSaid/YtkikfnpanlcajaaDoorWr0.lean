/- The trailing zeros of sixteen, by the table of math/bits. -/
import Derived.Test.YtkikfnpanlcajaaDoorQ17t
set_option maxRecDepth 100000
set_option linter.all false
namespace Go.Ev.Tryd
open Go.Proofs
theorem bits_TrailingZeros64_16 (n : Nat) (h : H) : ca (n + 1) i_bits_TrailingZeros64 [(.int .u64 16)] h = cellK h 1 15 fun v1 => asInt .u8 v1 fun x2 => some ((.int .i64 (IntKind.i64.wrap x2)), h) := by kernel_rfl
end Go.Ev.Tryd
