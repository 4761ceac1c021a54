/- AddressText: what it writes. -/
import Derived.Test.YtkikfnpanlcajaaDoorWr8
set_option linter.all false
namespace Go.Ev.Tryd
set_option maxRecDepth 10000
open Go.Proofs

/-! ### small laws -/

theorem join_le (c : UInt8) (l : List (List UInt8)) : (Lib.join l [c]).length ≤ l.flatten.length + l.length := by
  unfold Lib.join
  induction l with
  | nil => simp
  | cons x l ih =>
    cases l with
    | nil => simp
    | cons y l =>
      rw [List.intercalate_cons_cons]
      simp only [List.length_append, List.flatten_cons, List.length_cons, List.length_nil] at ih ⊢
      omega
theorem flat_le {k : Nat} : ∀ {xs : List ByteArray}, (∀ x ∈ xs, x.size ≤ k) → (xs.map (·.data.toList)).flatten.length ≤ k * xs.length
  | [], _ => by simp
  | x :: xs, h => by
    have h1 := flat_le (k := k) (xs := xs) fun y hy => h y (by simp [hy])
    have h2 : x.data.toList.length ≤ k := by have := h x (by simp); simpa using this
    simp only [List.map_cons, List.flatten_cons, List.length_append, List.length_cons, Nat.mul_add]
    omega
theorem join_small {c : UInt8} {xs : List ByteArray} (h : ∀ x ∈ xs, x.size ≤ 100) (hl : xs.length ≤ 1000) : (Lib.join (xs.map (·.data.toList)) (mk [c]).data.toList).length ≤ 140737488355328 := by
  have h1 := join_le c (xs.map (·.data.toList))
  have h2 := flat_le h
  simp only [List.length_map] at h1
  have : (mk [c]).data.toList = [c] := rfl
  rw [this]
  omega

def dT (c : UInt8) : ByteArray := itoaS c.toNat
theorem dT_dg (c : UInt8) : dT c = mk (dg 10 3 c.toNat) := by
  have : ∀ k : Fin 256, Lib.itoa ((k.val : Nat) : Int) = dg 10 3 k.val := by decide +kernel
  refine bs_inj ?_
  rw [bs_mk]
  have := this ⟨c.toNat, c.toNat_lt⟩
  simp only at this
  rw [← this]
  rfl
theorem dT_size (c : UInt8) : (dT c).size ≤ 100 := by
  rw [dT_dg, size_mk]
  have := dg_len 10 3 c.toNat
  omega

theorem Itoa_eq {n : Nat} {h : H} (ht : h.get 0 = some (.tab pow10AV)) (c : UInt8) : ca (n + 1) i_strconv_Itoa [.int .i64 (c.toNat : Nat)] h = some (.str (dT c), h) := by
  have := c.toNat_lt
  rw [strconv_Itoa_eq, strconv_Itoa_31_eq, itoaF_of ht (by omega) (by omega), Option.bind_some]
  rfl

/-! ### four bytes -/

theorem AT4_loop {a : H} {n : Nat} (hn : 2 ≤ n) {bl : List UInt8} {p : Option (Nat × Nat)} {c : Cap} (row : Row a 1 p bl.length c (bl.map fun x => AV.int .u8 x.toNat)) (hmax : bl.length ≤ 100) (ht : a.get 0 = some (.tab pow10AV)) (h0 : 0 < a.next) :
    ∀ (ts pre : List UInt8) (m : Nat) (h : H) (q : Option (Nat × Nat)) (d : Cap), bl = pre ++ ts → ts.length < m → Mod [] a h → Grow a h 1 q pre.length d ((pre.map dT).map AV.str) →
      Ret (words_AddressText_L0 n m q pre.length d p bl.length c bl.length pre.length h) fun r h' => Mod [] a h' ∧ r = .str (joinS (bl.map dT) (mk [46]))
  | [], pre, m + 1, h, q, d, hx, _, hm, g => by
    obtain ⟨n, rfl⟩ : ∃ k, n = k + 1 := ⟨n - 1, by omega⟩
    rw [List.append_nil] at hx
    subst hx
    rw [words_AddressText_L0_eq, cast_not_lt (by omega), cond_false, strings_Join_eq, strings_Join_32_eq]
    change Ret (Option.bind (Option.bind (joinF q bl.length d (mk [46]) h) _) _) _
    rw [joinF_of g.row (by simp; omega) (join_small (fun x hx => by obtain ⟨y, _, rfl⟩ := List.mem_map.1 hx; exact dT_size y) (by simp; omega)), Option.bind_some, Option.bind_some]
    simp only [asStr_str]
    exact .pure ⟨hm, rfl⟩
  | t :: ts, pre, m + 1, h, q, d, hx, hl, hm, g => by
    obtain ⟨n, rfl⟩ : ∃ k, n = k + 1 := ⟨n - 1, by omega⟩
    have hpl : pre.length < bl.length := by rw [hx]; simp
    have htn := t.toNat_lt
    rw [words_AddressText_L0_eq, cast_lt hpl, cond_true, (row.mod0 hm).ix1 (x := t) (by rw [hx]; simp), asInt_int, wrap_i64 (by omega) (by omega), Itoa_eq ((hm.get 0 h0 (by simp)).trans ht), Option.bind_some]
    simp only [asStr_str, newK_eq]
    refine g.push hm.next rfl rfl (by decide) (by omega) (by omega) fun q' d' h' g' m' => ?_
    rw [wrap_succ (by omega), show pre.length + 1 = (pre ++ [t]).length by simp]
    exact AT4_loop hn row hmax ht h0 ts (pre ++ [t]) m h' q' d' (by rw [hx]; simp) (by simp at hl; omega) (hm.push g m') (by simpa using g')

/-! ### sixteen bytes -/

theorem ior8 {a b : Nat} (ha : a < 256) (hb : b < 256) : ior .i64 (ishl .i64 (a : Int) 8) (b : Int) = ((256 * a + b : Nat) : Int) := by
  have h1 : ishl .i64 (a : Int) 8 = ((a * 256 : Nat) : Int) := by
    unfold ishl
    rw [show min (8 : Int).toNat IntKind.i64.bits = 8 from rfl, wrap_i64 (by omega) (by omega)]
    omega
  rw [h1]
  have h4 : (BitVec.ofInt 64 ((a * 256 : Nat) : Int) ||| BitVec.ofInt 64 (b : Int)).toNat = a * 256 + b := by
    rw [BitVec.toNat_or, BitVec.ofInt_natCast, BitVec.ofInt_natCast, BitVec.toNat_ofNat, BitVec.toNat_ofNat, Nat.mod_eq_of_lt (by omega), Nat.mod_eq_of_lt (by omega)]
    rw [Nat.mul_comm, show (256 : Nat) = 2 ^ 8 from rfl, ← Nat.two_pow_add_eq_or_of_lt (by omega)]
  show IntKind.i64.wrap ((BitVec.ofInt 64 ((a * 256 : Nat) : Int) ||| BitVec.ofInt 64 (b : Int)).toNat : Nat) = _
  rw [h4, wrap_i64 (by omega) (by omega)]
  omega

def hT (u : Nat) : ByteArray := mk (dg 16 4 u)
theorem hT_size (u : Nat) : (hT u).size ≤ 100 := by
  have := dg_len 16 4 u
  unfold hT; rw [size_mk]; omega
/-- the pairs of bytes, as numbers -/
def prs : List UInt8 → List Nat
  | x :: y :: l => (256 * x.toNat + y.toNat) :: prs l
  | _ => []

theorem AT16_loop {a : H} {n : Nat} (hn : 22 ≤ n) (h1a : 1 < a.next) {s : ByteArray} (hs : s.size = 16) (ht : a.get 1 = some (.cells tz64 true)) :
    ∀ (ts : List UInt8) (j m : Nat) (pre : List Nat) (h : H) (q : Option (Nat × Nat)) (d : Cap), (bs s).drop (2 * j) = ts → j ≤ 8 → ts.length + 2 * j = 16 → ts.length < m → pre.length = j → Mod [] a h → Grow a h 1 q j d ((pre.map hT).map AV.str) →
      Ret (words_AddressText_L1 n m s q j d ((2 * j : Nat) : Int) h) fun r h' => Mod [] a h' ∧ r = .str (joinS ((pre ++ prs ts).map hT) (mk [58]))
  | [], j, m + 1, pre, h, q, d, hd, hj, hl, _, hp, hm, g => by
    obtain ⟨n, rfl⟩ : ∃ k, n = k + 1 := ⟨n - 1, by omega⟩
    simp only [List.length_nil] at hl
    subst hp
    rw [words_AddressText_L1_eq, show decide (((2 * pre.length : Nat) : Int) < 16) = false by simp; omega, cond_false, strings_Join_eq, strings_Join_32_eq]
    change Ret (Option.bind (Option.bind (joinF q pre.length d (mk [58]) h) _) _) _
    rw [joinF_of g.row (by simp; omega) (join_small (fun x hx => by obtain ⟨y, _, rfl⟩ := List.mem_map.1 hx; exact hT_size y) (by simp; omega)), Option.bind_some, Option.bind_some]
    simp only [asStr_str]
    exact .pure ⟨hm, by simp [prs]⟩
  | [_], j, _, _, _, _, _, _, _, hl, _, _, _, _ => by simp at hl; omega
  | x :: y :: ts, j, m + 1, pre, h, q, d, hd, hj, hl, hlm, hp, hm, g => by
    simp only [List.length_cons] at hl hlm
    have hx : (bs s)[2 * j]? = some x := by have := congrArg (·[0]?) hd; simpa using this
    have hy : (bs s)[2 * j + 1]? = some y := by have := congrArg (·[1]?) hd; simpa using this
    have hd' : (bs s).drop (2 * (j + 1)) = ts := by rw [show 2 * (j + 1) = 2 * j + 2 by omega, ← List.drop_drop, hd]; rfl
    have hxn := x.toNat_lt
    have hyn := y.toNat_lt
    rw [words_AddressText_L1_eq, show decide (((2 * j : Nat) : Int) < 16) = true by simp; omega, cond_true, byteK_of hx, wrap_succ (by omega), byteK_of hy, wrap_i64 (x := (x.toNat : Int)) (by omega) (by omega), wrap_i64 (x := (y.toNat : Int)) (by omega) (by omega), ior8 (by omega) (by omega)]
    refine (hexT_ret (u := 256 * x.toNat + y.toNat) (by omega) (by omega) (hm.lt h1a) ((hm.get 1 h1a (by simp)).trans ht)).bind ?_
    rintro _ h1 ⟨m1, rfl⟩
    simp only [asStr_str, newK_eq]
    have hm1 := hm.trans m1
    have g1 := g.mod0 m1
    refine g1.push hm1.next rfl rfl (by decide) (by omega) (by omega) fun q' d' h' g' m' => ?_
    rw [wrap_i64 (by omega) (by omega), show (((2 * j : Nat) : Int) + 2) = ((2 * (j + 1) : Nat) : Int) by omega]
    have := AT16_loop hn h1a hs ht ts (j + 1) m (pre ++ [256 * x.toNat + y.toNat]) h' q' d' hd' (by omega) (by omega) (by omega) (by simp [hp]) (hm1.push g1 m') (by simpa [hT] using g')
    simpa [prs] using this

def pT (s : ByteArray) : ByteArray := if s.size = 4 then joinS ((bs s).map dT) (mk [46]) else if s.size = 16 then joinS ((prs (bs s)).map hT) (mk [58]) else ⟨#[]⟩

theorem AddressText_ret (s : ByteArray) {n : Nat} (hn : 40 ≤ n) {h : H} (h1 : 1 < h.next) (ht0 : h.get 0 = some (.tab pow10AV)) (ht1 : h.get 1 = some (.cells tz64 true)) : Ret (ca n i_words_AddressText [.str s] h) fun r h' => Mod [] h h' ∧ r = .str (pT s) := by
  obtain ⟨n, rfl⟩ : ∃ k, n = k + 1 := ⟨n - 1, by omega⟩
  rw [words_AddressText_eq]
  unfold pT
  by_cases h4 : s.size = 4
  · rw [show (((s.size : Nat) : Int) == 4) = true by simp; omega, cond_true, if_pos h4]
    simp only [newK_eq]
    have m1 : Mod [] h (h.new (.cells (s.data.toList.map fun c => AV.int .u8 c.toNat) false)) := (Mod.refl _ _).new _
    have row : Row (h.new (.cells (s.data.toList.map fun c => AV.int .u8 c.toNat) false)) 1 (some (h.next, 0)) (bs s).length (.rest 1) ((bs s).map fun x => AV.int .u8 x.toNat) :=
      .row (by simp) (get_new_self _ _) (by rw [List.drop_zero, List.take_of_length_le (by simp [bs])]; rfl) (by simp [bs]) (.inl rfl)
    have hl : (bs s).length = s.size := bs_len s
    rw [← hl]
    exact (AT4_loop (by omega) row (by omega) ((m1.get 0 (by omega) (by simp)).trans ht0) (by simp) (bs s) [] n _ none (.known 0) rfl (by omega) (.refl _ _) .nil).mono fun r h' ⟨q1, q2⟩ => ⟨m1.trans q1, q2⟩
  · rw [show (((s.size : Nat) : Int) == 4) = false by simp; omega, cond_false, if_neg h4]
    by_cases h16 : s.size = 16
    · rw [show (((s.size : Nat) : Int) == 16) = true by simp; omega, cond_true, if_pos h16]
      have := AT16_loop (n := n) (by omega) h1 h16 ht1 (bs s) 0 n [] h none (.known 0) rfl (by omega) (by rw [bs_len]; omega) (by rw [bs_len]; omega) rfl (.refl _ _) .nil
      simpa using this
    · rw [show (((s.size : Nat) : Int) == 16) = false by simp; omega, cond_false, if_neg h16]
      exact .pure ⟨.refl _ _, rfl⟩
end Go.Ev.Tryd
