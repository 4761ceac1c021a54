/- Numbers as digits: the document's inBase; strconv.FormatInt at sixteen. -/
import Derived.Test.YtkikfnpanlcajaaDoorWr6
import Derived.Test.YtkikfnpanlcajaaDoorWr0
set_option linter.all false
namespace Go.Ev.Tryd
set_option maxRecDepth 10000
open Go.Proofs

/-! ### digits -/

def dig (d : Nat) : UInt8 := (bs HEX).getD d 0
/-- the digits of a number, of which there are at most k -/
def dg (b : Nat) : Nat → Nat → List UInt8
  | 0, _ => []
  | k + 1, u => if u < b then [dig u] else dg b k (u / b) ++ [dig (u % b)]

theorem ext1 {d : Nat} (h : d < 16) : HEX.extract d (d + 1) = mk [dig d] := by
  have : ∀ k : Fin 16, bs (HEX.extract k.val (k.val + 1)) = [dig k.val] := by decide +kernel
  exact bs_inj (by rw [bs_mk]; exact this ⟨d, h⟩)

theorem dg_len (b : Nat) : ∀ (k u : Nat), (dg b k u).length ≤ k
  | 0, _ => by simp [dg]
  | k + 1, u => by
    unfold dg
    split
    · simp
    · have := dg_len b k (u / b); simp; omega

theorem wrap_nat {q : Nat} (h : q < 2000000) : IntKind.i64.wrap (q : Int) = q := wrap_i64 (by omega) (by omega)
theorem inBase_ret {b : Nat} (hb : b = 10 ∨ b = 16) : ∀ (k u n : Nat) (h : H), 0 < k → u < b ^ k → u < 1000000 → k < n → k ≤ 20 → ca n i_outriderref17_inBase [.int .i64 u, .int .i64 b] h = some (.str (mk (dg b k u)), h)
  | 0, u, n, h, h0, _, _, _, _ => by cases h0
  | k + 1, u, n, h, _, hu, hu2, hn, hk => by
    obtain ⟨n, rfl⟩ : ∃ m, n = m + 1 := ⟨n - 1, by omega⟩
    have hb0 : 0 < b := by omega
    rw [outriderref17_inBase_eq]
    unfold dg
    by_cases h1 : u < b
    · rw [show decide (((u : Nat) : Int) < (b : Nat)) = true by simpa using h1, cond_true, if_pos h1, wrap_i64 (by omega) (by omega), bnd_both (s := HEX) (by omega) (by omega) (by show (u : Int) + 1 ≤ 16; omega)]
      rw [show ((u : Nat) : Int).toNat = u from rfl, show ((u : Nat) + 1 : Int).toNat = u + 1 by omega, ext1 (by omega)]
    · rw [show decide (((u : Nat) : Int) < (b : Nat)) = false by simpa using h1, cond_false, if_neg h1, if_neg (by omega)]
      have e1 : IntKind.i64.wrap (Int.tdiv (u : Nat) (b : Nat)) = ((u / b : Nat) : Int) := by
        rw [show Int.tdiv (u : Nat) (b : Nat) = ((u / b : Nat) : Int) from rfl]
        have := Nat.div_le_self u b
        exact wrap_nat (by omega)
      have hlt : u / b < b ^ k := by
        rw [Nat.div_lt_iff_lt_mul hb0]; rw [Nat.pow_succ] at hu; exact hu
      have hle := Nat.div_le_self u b
      have hk0 : 0 < k := by
        rcases Nat.eq_zero_or_pos k with e | e
        · subst e
          have : 1 ≤ u / b := (Nat.le_div_iff_mul_le hb0).2 (by omega)
          simp at hlt; omega
        · exact e
      rw [e1, inBase_ret hb k (u / b) n h hk0 hlt (by omega) (by omega) (by omega), Option.bind_some]
      simp only [asStr_str]
      have hm : u % b < b := Nat.mod_lt _ hb0
      rw [if_neg (by omega), if_neg (by omega), show Int.tmod (u : Nat) (b : Nat) = ((u % b : Nat) : Int) from rfl, wrap_i64 (by omega) (by omega), bnd_both (s := HEX) (by omega) (by omega) (by show ((u % b : Nat) : Int) + 1 ≤ 16; omega)]
      rw [show ((u % b : Nat) : Int).toNat = u % b from rfl, show ((u % b : Nat) + 1 : Int).toNat = u % b + 1 by omega, ext1 (by omega)]
      have hl := dg_len b k (u / b)
      unfold catK
      rw [if_neg (by rw [size_mk, size_mk]; simp; omega)]
      congr 3
end Go.Ev.Tryd
