/- strconv.FormatInt at sixteen. -/
import Derived.Test.YtkikfnpanlcajaaDoorWr7
set_option linter.all false
namespace Go.Ev.Tryd
set_option maxRecDepth 10000
open Go.Proofs

abbrev b8 (l : List UInt8) : List AV := l.map fun c => .int .u8 c.toNat
theorem digA {d : Nat} (h : d < 16) : (bs s_fdb5537d)[d]? = some (dig d) := by
  have : ∀ k : Fin 16, (bs s_fdb5537d)[k.val]? = some (dig k.val) := by decide +kernel
  exact this ⟨d, h⟩
theorem str_b8 (l : List UInt8) : strOfNums (l.map fun c => (c.toNat : Int)) = mk l := by
  refine bs_inj ?_
  rw [bs_mk]
  unfold bs strOfNums
  simp [Function.comp_def]
theorem b8_set {i : Nat} (l : List UInt8) (c : UInt8) (hi : 0 < i) : (List.replicate i (AV.int .u8 0) ++ b8 l).set (i - 1) (.int .u8 c.toNat) = List.replicate (i - 1) (AV.int .u8 0) ++ b8 (c :: l) := by
  obtain ⟨j, rfl⟩ : ∃ j, i = j + 1 := ⟨i - 1, by omega⟩
  simp only [Nat.add_sub_cancel]
  rw [List.set_append_left _ _ (by simp), List.replicate_succ', List.set_append_right _ _ (by simp)]
  simp [b8]

/-- the text of the last places -/
theorem fb_end {n b i : Nat} {l : List UInt8} {h : H} (hi : i + l.length = 65) (hl : 0 < l.length) (hb : b < h.next) (hg : h.get b = some (.cells (List.replicate i (AV.int .u8 0) ++ b8 l) false)) :
    strconv_formatBits_J5 n none 0 (.known 0) false false none 0 (.known 0) ⟨#[]⟩ (some (b, 0)) i h = some (.tup [.slice none 0 (.known 0), .str (mk l)], h) := by
  rw [strconv_formatBits_J5_eq, cond_false, strconv_formatBits_J6_eq, cond_false]
  simp only [nnK_some', Nat.zero_add, Nat.mul_one]
  have e1 : ∀ f : Nat → Nat → Nat → R, bndK 65 65 0 (some (.int .i64 (i : Nat))) none none f = f i 65 65 := fun f => by
    have : (i : Int) ≤ 65 := by omega
    simp [bndK, evBounds, evBound, this, show i ≤ 65 by omega]
  rw [e1, if_neg (by omega)]
  have row : Row h 1 (some (b, i)) (65 - i) (.known (65 - i)) ((l.map fun c => (c.toNat : Int)).map (.int .u8)) := by
    refine .row hb hg ?_ (by simp; omega) (.inr ⟨_, rfl, Nat.le_refl _⟩)
    rw [List.drop_append_of_le_length (by simp)]
    simp only [List.drop_replicate, Nat.sub_self, List.replicate_zero, List.nil_append]
    rw [List.take_of_length_le (by simp; omega)]
    simp [b8, Function.comp_def]
  rw [bsK_of row.sl, str_b8]

theorem shr4 {u : Nat} (h : u < 65536) : ishr .u64 (u : Nat) 4 = ((u / 16 : Nat) : Int) := by
  unfold ishr
  rw [show (min (4 : Int).toNat IntKind.u64.bits) = 4 from rfl]
  rw [show ((2 : Int) ^ 4) = ((16 : Nat) : Int) from rfl, Int.fdiv_eq_ediv_of_nonneg _ (by omega)]
  rfl
theorem and15 {u : Nat} (h : u < 65536) : iand .u64 (u : Nat) 15 = ((u % 16 : Nat) : Int) := by
  unfold iand
  have e : (BitVec.ofInt IntKind.u64.bits (u : Nat) &&& BitVec.ofInt IntKind.u64.bits 15).toNat = u % 16 := by
    rw [BitVec.toNat_and]
    rw [show (BitVec.ofInt IntKind.u64.bits (u : Nat)).toNat = u by simp [IntKind.bits]; omega, show (BitVec.ofInt IntKind.u64.bits 15).toNat = 2 ^ 4 - 1 from rfl, Nat.and_two_pow_sub_one_eq_mod]
  rw [e]
  exact wrap_u64 (by omega) (by omega)

theorem fb_loop {b n : Nat} : ∀ (k u i m : Nat) (l : List UInt8) (h : H), 0 < k → u < 16 ^ k → u < 65536 → k ≤ i → i + l.length = 65 → k < m → b < h.next → h.get b = some (.cells (List.replicate i (AV.int .u8 0) ++ b8 l) false) →
    Ret (strconv_formatBits_L3 n m none 0 (.known 0) u false false none 0 (.known 0) ⟨#[]⟩ (some (b, 0)) i 4 16 15 h) fun r h' => Mod [b] h h' ∧ r = .tup [.slice none 0 (.known 0), .str (mk (dg 16 k u ++ l))]
  | 0, _, _, _, _, _, h0, _, _, _, _, _, _, _ => by cases h0
  | k + 1, u, i, m + 1, l, h, _, hu, hu2, hki, hi, hm, hb, hg => by
    rw [strconv_formatBits_L3_eq]
    have ei : IntKind.i64.wrap ((i : Nat) - 1 : Int) = ((i - 1 : Nat) : Int) := by rw [wrap_i64 (by omega) (by omega)]; omega
    have hlen : i - 1 < (List.replicate i (AV.int .u8 0) ++ b8 l).length := by simp; omega
    unfold dg
    by_cases h1 : u < 16
    · rw [show decide (((u : Nat) : Int) ≥ 16) = false by simp; omega, cond_false, byteK_of (digA h1), if_pos h1]
      simp only [nnK_some', Nat.zero_add]
      rw [ei, if_pos ⟨by omega, by omega⟩, show ((i - 1 : Nat) : Int).toNat = i - 1 from rfl, wrK_one hg hlen rfl, b8_set l _ (by omega)]
      rw [fb_end (i := i - 1) (l := dig u :: l) (by simp; omega) (by simp) (by simpa using hb) (get_set_self _ _ _)]
      exact .pure ⟨(Mod.refl _ _).set (.inr (by simp)) _, rfl⟩
    · rw [show decide (((u : Nat) : Int) ≥ 16) = true by simp; omega, cond_true, and15 hu2, byteK_of (digA (Nat.mod_lt _ (by omega))), if_neg h1]
      simp only [nnK_some', Nat.zero_add]
      rw [ei, if_pos ⟨by omega, by omega⟩, show ((i - 1 : Nat) : Int).toNat = i - 1 from rfl, wrK_one hg hlen rfl, b8_set l _ (by omega), if_neg (by omega), shr4 hu2]
      have hlt : u / 16 < 16 ^ k := by
        rw [Nat.div_lt_iff_lt_mul (by omega)]; rw [Nat.pow_succ] at hu; exact hu
      have hk0 : 0 < k := by
        rcases Nat.eq_zero_or_pos k with e | e
        · subst e
          simp at hlt; omega
        · exact e
      have m1 : Mod [b] h (h.set b (.cells (List.replicate (i - 1) (AV.int .u8 0) ++ b8 (dig (u % 16) :: l)) false)) := (Mod.refl _ _).set (.inr (by simp)) _
      refine (fb_loop k (u / 16) (i - 1) m (dig (u % 16) :: l) _ hk0 hlt (by omega) (by omega) (by simp; omega) (by omega) (by simpa using hb) (get_set_self _ _ _)).mono fun r h' ⟨q1, q2⟩ => ⟨m1.trans q1, ?_⟩
      rw [q2, List.append_assoc]
      rfl

/-- the table of math/bits lies where it is looked for -/
def tzs : List Int := [0, 1, 56, 2, 57, 49, 28, 3, 61, 58, 42, 50, 38, 29, 17, 4, 62, 47, 59, 36, 45, 43, 51, 22, 53, 39, 33, 30, 24, 18, 12, 5, 63, 55, 48, 27, 60, 41, 37, 16, 46, 35, 44, 21, 52, 32, 23, 11, 54, 26, 40, 15, 34, 20, 31, 10, 25, 14, 19, 9, 13, 8, 7, 6]
def tz64 : List AV := tzs.map (.int .u8)

theorem hexT_ret {u : Nat} (hu : u < 65536) {n : Nat} (hn : 20 ≤ n) {h : H} (h1n : 1 < h.next) (ht : h.get 1 = some (.cells tz64 true)) : Ret (ca n i_strconv_FormatInt [.int .i64 u, .int .i64 16] h) fun r h' => Mod [] h h' ∧ r = .str (mk (dg 16 4 u)) := by
  obtain ⟨n, rfl⟩ : ∃ m, n = m + 6 := ⟨n - 6, by omega⟩
  rw [strconv_FormatInt_eq, strconv_FormatInt_2_eq, show ((16 : Int) == 10) = false by decide, cond_false, strconv_formatBits_eq]
  rw [show decide ((16 : Int) < 2) = false by decide, cond_false, show ((16 : Int) == 10) = false by decide, cond_false, show decide ((16 : Int) > 36) = false by decide, strconv_formatBits_J0_eq, cond_false, strconv_formatBits_J1_eq]
  rw [show decide (((u : Nat) : Int) < 0) = false by simp]
  simp only [newK_eq, cond_false]
  rw [strconv_formatBits_J2_eq, strconv_isPowerOfTwo_eq, show ((iand .i64 16 (IntKind.i64.wrap (16 - 1)) : Int) == 0) = true by decide +kernel]
  simp only [Option.bind_some, asBool_bool, cond_true]
  rw [bits_TrailingZeros_eq, show IntKind.u64.wrap 16 = 16 by decide, bits_TrailingZeros64_16]
  have m1 : Mod [] h (h.new (.cells (List.replicate 65 (AV.int .u8 0)) false)) := (Mod.refl _ _).new _
  change Ret (Option.bind (Option.bind (Option.bind (Option.bind (cellK (h.new (.cells (List.replicate 65 (AV.int .u8 0)) false)) 1 15 _) _) _) _) _) _
  rw [cellK_of ((m1.get 1 h1n (by simp)).trans ht) (o := 15) rfl]
  simp only [asInt_int, Option.bind_some]
  rw [show IntKind.i64.wrap 4 = 4 by decide]
  rw [show IntKind.u64.wrap 4 = 4 by decide, show IntKind.u64.wrap (16 - 1) = 15 by decide, show IntKind.u64.wrap ((u : Nat) : Int) = (u : Nat) from wrap_u64 (by omega) (by omega)]
  have k := fb_loop (n := n + 3) (b := h.next) 4 u 65 (n + 3) [] (h.new (.cells (List.replicate 65 (AV.int .u8 0)) false)) (by omega) (by omega) hu (by omega) rfl (by omega) (by simp) (by simpa [b8] using get_new_self h _)
  refine Ret.bind (P := fun r h' => Mod [] h h' ∧ r = .str (mk (dg 16 4 u))) (k.bind ?_) ?_
  · rintro _ h1 ⟨q1, rfl⟩
    simp only [asTup_tup, lL_of, lS_of, l0_nil, List.append_nil]
    exact .pure ⟨m1.trans' q1 fun i hi hl => by simp at hi; omega, rfl⟩
  · rintro _ h1 ⟨q1, rfl⟩
    simp only [asStr_str]
    exact .pure ⟨q1, rfl⟩
end Go.Ev.Tryd
