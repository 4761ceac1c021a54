/- What the rest of the given package 'sip', and the laws' own check, compute. -/
import Derived.Test.YtlodaclifccchaaMg1
set_option linter.all false
namespace Go.Ev.Try
open Go.Proofs
set_option maxRecDepth 10000

def dig (x : Int) (i : Nat) : Int := x / 256 ^ i % 256
def digits (x : Int) (n : Nat) : List Int := (List.range n).map (dig x)
def keyOf (x : Int) : List Int := digits x 8 ++ List.replicate 8 0

theorem dig_byte (x : Int) (i : Nat) : byte (dig x i) := by unfold dig byte; omega

theorem shr_dig {x : Int} {i : Nat} (hi : i < 8) : IntKind.u8.wrap (ishr .u64 x (IntKind.i64.wrap (8 * i))) = dig x i := by
  rw [wrapi (by omega) (by omega)]
  unfold ishr dig
  rw [show min (8 * (i : Int)).toNat IntKind.u64.bits = 8 * i by show min (8 * (i : Int)).toNat 64 = _; omega, pow256, Int.fdiv_eq_ediv_of_nonneg _ (Int.le_of_lt (Int.pow_pos (by decide)))]
  simp [IntKind.wrap, IntKind.bits, IntKind.signed]

/-! ### the laws' own check -/

def key0 : List Int := [0, 1, 2, 3, 4, 5, 6, 7, 8, 9, 10, 11, 12, 13, 14, 15]

theorem bytes_key0 : Bytes key0 := by unfold Bytes key0 byte; decide

theorem sum_key0_nil : sum key0 [] = 8246050544436514353 := by decide +kernel
theorem sum_key0_one : sum key0 [0] = 8428550223375919101 := by decide +kernel


theorem len_keyOf (x : Int) : (keyOf x).length = 16 := by simp [keyOf, digits]

/-! ### the law SipNumbers -/

theorem dig_split {x : Int} (k : Nat) : x / 256 ^ k = dig x k + 256 * (x / 256 ^ (k + 1)) := by
  unfold dig
  rw [Int.pow_succ, ← Int.ediv_ediv_of_nonneg (Int.le_of_lt (Int.pow_pos (by decide)))]
  omega

theorem dig_inj {x y : Int} : ∀ (k : Nat), (∀ i, i < k → dig x i = dig y i) → x / 256 ^ k = y / 256 ^ k → x = y
  | 0, _, h => by simpa using h
  | k + 1, h, hk => dig_inj k (fun i hi => h i (by omega)) (by rw [dig_split, dig_split (x := y), h k (by omega), hk])

theorem keyOf_inj {x y : Int} (hx : u64 x) (hy : u64 y) (h : keyOf x = keyOf y) : x = y := by
  refine dig_inj 8 (fun i hi => ?_) ?_
  · have := congrArg (fun l => l[i]?) h
    simp only [keyOf, digits] at this
    rw [List.getElem?_append_left (by simpa using hi), List.getElem?_append_left (by simpa using hi)] at this
    simpa [hi] using this
  · have := hx.1; have := hx.2; have := hy.1; have := hy.2
    have e : (256 : Int) ^ 8 = 18446744073709551616 := by decide
    rw [e]; omega

theorem u64_wf {x : Int} (h : (Lit.int .u64 x).wf = true) : u64 x := by
  simp [Lit.wf, IntKind.min, IntKind.max, IntKind.signed, IntKind.bits] at h
  exact ⟨h.1, by omega⟩

end Go.Ev.Try
