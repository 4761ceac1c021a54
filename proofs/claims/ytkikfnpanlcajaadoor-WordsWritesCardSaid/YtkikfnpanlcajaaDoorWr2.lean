/- What the functions of chapter 17 compute, in plain lists: numbers, hexadecimal numbers, groups of them. -/
import Derived.Test.YtkikfnpanlcajaaDoorWr1
set_option linter.all false
namespace Go.Ev.Tryd
set_option maxRecDepth 10000
open Go.Proofs

/-! ### a range over a text -/

theorem nextK_end {β : Type} {h : H} {b : Nat} {s : ByteArray} {pos : Nat} (hg : h.get b = some (.siter s pos)) (hp : s.size ≤ pos) (f : Int → Int → H → Option β) (g : Option β) : nextK h b f g = g := by
  simp only [nextK, hg]; rw [if_neg (by omega)]
theorem nextK_ascii {β : Type} {h : H} {b : Nat} {s : ByteArray} {pos : Nat} {x : UInt8} (hg : h.get b = some (.siter s pos)) (hx : (bs s)[pos]? = some x) (ha : x.toNat < 128) (f : Int → Int → H → Option β) (g : Option β) : nextK h b f g = f pos x.toNat (h.set b (.siter s (pos + 1))) := by
  have hl : pos < s.size := by have := (List.getElem?_eq_some_iff.1 hx).1; rw [bs_len] at this; exact this
  rw [bs_get hl] at hx
  cases hx
  simp only [nextK, hg]
  rw [if_pos hl, decode_ascii s pos hl ha]
theorem nextK_other {β : Type} {h : H} {b : Nat} {s : ByteArray} {pos : Nat} {x : UInt8} (hg : h.get b = some (.siter s pos)) (hx : (bs s)[pos]? = some x) (ha : ¬ x.toNat < 128) : ∃ (c : Nat) (w : Nat), 128 ≤ c ∧ ∀ (f : Int → Int → H → Option β) (g : Option β), nextK h b f g = f pos c (h.set b (.siter s (pos + w))) := by
  have hl : pos < s.size := by have := (List.getElem?_eq_some_iff.1 hx).1; rw [bs_len] at this; exact this
  rw [bs_get hl] at hx
  cases hx
  refine ⟨(Utf8.decode s pos).1, (Utf8.decode s pos).2, decode_ge hl (by omega), fun f g => ?_⟩
  simp only [nextK, hg]
  rw [if_pos hl]

/-! ### numbers -/

/-- an answer of a number and a truth value -/
def enIB (r : Int × Bool) : AV := .tup [.int .i64 r.1, .bool r.2]

def isDig (x : UInt8) : Bool := decide (48 ≤ x.toNat) && decide (x.toNat ≤ 57)
def numL : Int → List UInt8 → Int × Bool
  | n, [] => (n, true)
  | n, x :: l => if isDig x = true then numL (10 * n + ((x.toNat : Int) - 48)) l else (0, false)
/-- what a text is as a number -/
def numP (l : List UInt8) : Int × Bool := if l = [] ∨ 9 < l.length ∨ (l.head? = some 48 ∧ l ≠ [48]) then (0, false) else numL 0 l

theorem pow10_le {k : Nat} (h : k ≤ 9) : (10 : Int) ^ k ≤ 1000000000 := by
  have : ∀ k : Fin 10, (10 : Int) ^ k.val ≤ 1000000000 := by decide
  exact this ⟨k, by omega⟩

theorem wrap_i32 {x : Int} (h0 : -2147483648 ≤ x) (h1 : x < 2147483648) : IntKind.i32.wrap x = x := by
  simp only [IntKind.wrap, IntKind.bits, IntKind.signed]
  simp; split <;> omega

theorem Number_loop {a : H} {b : Nat} (hb : a.next ≤ b) {s : ByteArray} (n : Nat) : ∀ (l : List UInt8) (pos m : Nat) (acc : Int) (h : H), (bs s).drop pos = l → pos ≤ 9 → s.size ≤ 9 → l.length < m → 0 ≤ acc → acc < 10 ^ pos → Mod [] a h → h.get b = some (.siter s pos) →
    Ret (words_Number_L1 n m acc (some (b, 0)) h) fun r h' => Mod [] a h' ∧ r = enIB (numL acc l)
  | [], pos, m + 1, acc, h, hd, _, h9, _, _, _, hm, hg => by
    rw [words_Number_L1_eq]
    simp only [nnK_some']
    have := List.drop_eq_nil_iff.1 hd
    rw [bs_len] at this
    rw [nextK_end hg this]
    exact .pure ⟨hm, rfl⟩
  | x :: l, pos, m + 1, acc, h, hd, hp9, h9, hl, h0, h1, hm, hg => by
    have hx : (bs s)[pos]? = some x := by have := congrArg (·[0]?) hd; simpa using this
    have hpl : pos < s.size := by have := (List.getElem?_eq_some_iff.1 hx).1; rw [bs_len] at this; exact this
    have hd' : (bs s).drop (pos + 1) = l := by rw [← List.drop_drop, hd]; rfl
    have h10 := pow10_le hp9
    rw [words_Number_L1_eq]
    simp only [nnK_some']
    by_cases ha : x.toNat < 128
    · rw [nextK_ascii hg hx ha]
      have hm' : Mod [] a (h.set b (.siter s (pos + 1))) := hm.set (.inl hb) _
      unfold numL isDig
      by_cases h48 : 48 ≤ x.toNat
      · rw [show decide (((x.toNat : Nat) : Int) < 48) = false by simp; omega, cond_false, words_Number_J2_eq]
        by_cases h57 : x.toNat ≤ 57
        · rw [show decide (((x.toNat : Nat) : Int) > 57) = false by simp; omega, cond_false, decide_eq_true h48, decide_eq_true h57]
          simp only [Bool.and_self, if_true]
          rw [wrap_i64 (x := 10 * acc) (by omega) (by omega), wrap_i32 (by omega) (by omega), wrap_i64 (x := (x.toNat : Int) - 48) (by omega) (by omega), wrap_i64 (by omega) (by omega)]
          refine Number_loop hb n l (pos + 1) m _ _ hd' (by omega) h9 (by simp at hl; omega) (by omega) ?_ hm' (get_set_self _ _ _)
          rw [Int.pow_succ]; omega
        · rw [show decide (((x.toNat : Nat) : Int) > 57) = true by simp; omega, cond_true, decide_eq_false h57, Bool.and_false]
          exact .pure ⟨hm', rfl⟩
      · rw [show decide (((x.toNat : Nat) : Int) < 48) = true by simp; omega, cond_true, words_Number_J2_eq, cond_true, decide_eq_false h48, Bool.false_and]
        exact .pure ⟨hm', rfl⟩
    · obtain ⟨c, w, hc, e⟩ := nextK_other (β := AV × H) hg hx ha
      rw [e, show decide (((c : Nat) : Int) < 48) = false by simp; omega, cond_false, words_Number_J2_eq, show decide (((c : Nat) : Int) > 57) = true by simp; omega, cond_true]
      refine .pure ⟨hm.set (.inl hb) _, ?_⟩
      unfold numL isDig
      rw [decide_eq_false (show ¬ x.toNat ≤ 57 by omega), Bool.and_false]
      rfl

theorem Number_ret (s : ByteArray) {n : Nat} (hn : 20 ≤ n) (h : H) : Ret (ca n i_words_Number [.str s] h) fun r h' => Mod [] h h' ∧ r = enIB (numP (bs s)) := by
  obtain ⟨n, rfl⟩ : ∃ m, n = m + 1 := ⟨n - 1, by omega⟩
  rw [words_Number_eq, str_eq]
  by_cases h0 : s = ⟨#[]⟩
  · rw [decide_eq_true h0, cond_true, words_Number_J0_eq, cond_true]
    exact .pure ⟨.refl _ _, by subst h0; rfl⟩
  · have hne : bs s ≠ [] := fun e => h0 (bs_inj (by rw [e]; rfl))
    rw [decide_eq_false h0, cond_false]
    by_cases h9 : s.size ≤ 9
    · rw [show decide ((s.size : Int) > 9) = false by simp; omega, cond_false]
      obtain ⟨x, l, hxl⟩ := List.exists_cons_of_ne_nil hne
      rw [show (0 : Int) = ((0 : Nat) : Int) from rfl, byteK_of (i := 0) (b := x) (by rw [hxl]; rfl)]
      have go : ¬ (bs s = [] ∨ 9 < (bs s).length ∨ ((bs s).head? = some 48 ∧ bs s ≠ [48])) → Ret (words_Number_J0 n s false h) fun r h' => Mod [] h h' ∧ r = enIB (numP (bs s)) := fun hc => by
        rw [words_Number_J0_eq, cond_false]
        simp only [newK_eq]
        rw [numP, if_neg hc]
        exact Number_loop (Nat.le_refl _) n (bs s) 0 n 0 _ rfl (by omega) h9 (by rw [bs_len]; omega) (by omega) (by decide) ((Mod.refl _ _).new _) (get_new_self _ _)
      by_cases h48 : x = 48
      · subst h48
        rw [show ((((48 : UInt8).toNat : Nat) : Int) == 48) = true by decide, cond_true, str_eq]
        by_cases hs : s = ⟨#[48]⟩
        · rw [decide_eq_true hs, Bool.not_true]
          refine go ?_
          subst hs
          decide
        · rw [decide_eq_false hs, Bool.not_false, words_Number_J0_eq, cond_true]
          refine .pure ⟨.refl _ _, ?_⟩
          rw [numP, if_pos (.inr (.inr ⟨by rw [hxl]; rfl, fun e => hs (bs_inj (by rw [e]; rfl))⟩))]; rfl
      · rw [show ((x.toNat : Int) == 48) = false by
          rw [beq_eq_false_iff_ne]
          intro e
          exact h48 (UInt8.toNat_inj.1 (by have : x.toNat = 48 := by omega
                                           simpa using this)), cond_false]
        refine go ?_
        rw [hxl]
        simp
        exact ⟨by have := bs_len s; rw [hxl] at this; simp at this; omega, fun e => absurd e h48⟩
    · rw [show decide ((s.size : Int) > 9) = true by simp; omega, cond_true, words_Number_J0_eq, cond_true]
      refine .pure ⟨.refl _ _, ?_⟩
      rw [numP, if_pos (.inr (.inl (by rw [bs_len]; omega)))]; rfl

/-! ### hexadecimal numbers -/

def hexD (x : UInt8) : Option Int := if isDig x = true then some ((x.toNat : Int) - 48) else if 97 ≤ x.toNat ∧ x.toNat ≤ 102 then some ((x.toNat : Int) - 87) else none
def hexL : Int → List UInt8 → Option Int
  | n, [] => some n
  | n, x :: l => match hexD x with | none => none | some d => if 65535 < 16 * n + d then none else hexL (16 * n + d) l

theorem ior_hex {x d : Int} (hx : 0 ≤ x) (hx2 : x < 1099511627776) (hd : 0 ≤ d) (hd2 : d < 16) : ior .i64 (ishl .i64 x 4) d = 16 * x + d := by
  obtain ⟨a, rfl⟩ := Int.eq_ofNat_of_zero_le hx
  obtain ⟨b, rfl⟩ := Int.eq_ofNat_of_zero_le hd
  have h1 : ishl .i64 (a : Int) 4 = ((a * 16 : Nat) : Int) := by
    unfold ishl
    rw [show min (4 : Int).toNat IntKind.i64.bits = 4 from rfl, wrap_i64 (by omega) (by omega)]
    omega
  rw [h1]
  have h4 : (BitVec.ofInt 64 ((a * 16 : Nat) : Int) ||| BitVec.ofInt 64 (b : Int)).toNat = a * 16 + b := by
    rw [BitVec.toNat_or, BitVec.ofInt_natCast, BitVec.ofInt_natCast, BitVec.toNat_ofNat, BitVec.toNat_ofNat, Nat.mod_eq_of_lt (by omega), Nat.mod_eq_of_lt (by omega)]
    rw [Nat.mul_comm, show (16 : Nat) = 2 ^ 4 from rfl, ← Nat.two_pow_add_eq_or_of_lt (by omega)]
  show IntKind.i64.wrap ((BitVec.ofInt 64 ((a * 16 : Nat) : Int) ||| BitVec.ofInt 64 (b : Int)).toNat : Nat) = _
  rw [h4, wrap_i64 (by omega) (by omega)]
  omega

def hexR (least most : Int) (s : ByteArray) : Int × Bool := match hexL 0 (bs s) with | none => (0, false) | some v => (v, decide (least ≤ s.size) && decide ((s.size : Int) ≤ most))

theorem hexD_range {x : UInt8} {d : Int} (h : hexD x = some d) : 0 ≤ d ∧ d < 16 := by
  unfold hexD isDig at h
  split at h
  · rename_i hh; cases h; simp at hh; omega
  · split at h
    · rename_i hh; cases h; omega
    · cases h

theorem hex_loop {a : H} {b : Nat} (hb : a.next ≤ b) {s : ByteArray} (least most : Int) (n : Nat) : ∀ (l : List UInt8) (pos m : Nat) (acc : Int) (h : H), (bs s).drop pos = l → l.length < m → 0 ≤ acc → acc ≤ 65535 → Mod [] a h → h.get b = some (.siter s pos) →
    Ret (words_hex_L0 n m s least most acc (some (b, 0)) h) fun r h' => Mod [] a h' ∧ r = enIB (match hexL acc l with | none => (0, false) | some v => (v, decide (least ≤ s.size) && decide ((s.size : Int) ≤ most)))
  | [], pos, m + 1, acc, h, hd, _, _, _, hm, hg => by
    rw [words_hex_L0_eq]
    simp only [nnK_some']
    have := List.drop_eq_nil_iff.1 hd
    rw [bs_len] at this
    rw [nextK_end hg this]
    by_cases h1 : (s.size : Int) ≥ least
    · rw [decide_eq_true h1, cond_true]
      exact .pure ⟨hm, by simp [enIB, hexL, show least ≤ (s.size : Int) from h1]⟩
    · rw [decide_eq_false h1, cond_false]
      exact .pure ⟨hm, by simp [enIB, hexL, show ¬ least ≤ (s.size : Int) from h1]⟩
  | x :: l, pos, m + 1, acc, h, hd, hl, h0, h1, hm, hg => by
    have hx : (bs s)[pos]? = some x := by have := congrArg (·[0]?) hd; simpa using this
    have hd' : (bs s).drop (pos + 1) = l := by rw [← List.drop_drop, hd]; rfl
    rw [words_hex_L0_eq]
    simp only [nnK_some']
    by_cases ha : x.toNat < 128
    · rw [nextK_ascii hg hx ha]
      have hm' : Mod [] a (h.set b (.siter s (pos + 1))) := hm.set (.inl hb) _
      have hg' : (h.set b (.siter s (pos + 1))).get b = some (.siter s (pos + 1)) := get_set_self _ _ _
      generalize h.set b (.siter s (pos + 1)) = h' at *
      have j3 : ∀ d : Int, hexD x = some d → Ret (words_hex_J3 n m s least most (ior .i64 (ishl .i64 acc 4) d) (some (b, 0)) h') fun r h' => Mod [] a h' ∧ r = enIB (match hexL acc (x :: l) with | none => (0, false) | some v => (v, decide (least ≤ s.size) && decide ((s.size : Int) ≤ most))) := by
        intro d hd
        have hr := hexD_range hd
        rw [words_hex_J3_eq, ior_hex h0 (by omega) hr.1 hr.2]
        unfold hexL
        simp only [hd]
        by_cases hov : 65535 < 16 * acc + d
        · rw [show decide (16 * acc + d > 65535) = true by simpa using hov, cond_true, if_pos hov]
          exact .pure ⟨hm', rfl⟩
        · rw [show decide (16 * acc + d > 65535) = false by simpa using hov, cond_false, if_neg hov]
          exact hex_loop hb least most n l (pos + 1) m _ h' hd' (by simp at hl; omega) (by omega) (by omega) hm' hg'
      have bad : hexD x = none → Ret (some (.tup [.int .i64 0, .bool false], h')) fun r h' => Mod [] a h' ∧ r = enIB (match hexL acc (x :: l) with | none => (0, false) | some v => (v, decide (least ≤ s.size) && decide ((s.size : Int) ≤ most))) := fun hn => by
        refine .pure ⟨hm', ?_⟩
        unfold hexL
        simp only [hn, enIB]
      have j1f : ¬ isDig x = true → Ret (words_hex_J1 n m s least most acc x.toNat (some (b, 0)) false h') fun r h' => Mod [] a h' ∧ r = enIB (match hexL acc (x :: l) with | none => (0, false) | some v => (v, decide (least ≤ s.size) && decide ((s.size : Int) ≤ most))) := by
        intro hnd
        rw [words_hex_J1_eq, cond_false]
        by_cases h97 : 97 ≤ x.toNat
        · rw [show decide (((x.toNat : Nat) : Int) ≥ 97) = true by simp; omega, cond_true, words_hex_J2_eq]
          by_cases h102 : x.toNat ≤ 102
          · rw [show decide (((x.toNat : Nat) : Int) ≤ 102) = true by simp; omega, cond_true, wrap_i32 (x := (x.toNat : Int) - 97) (by omega) (by omega), wrap_i32 (by omega) (by omega), wrap_i64 (by omega) (by omega)]
            exact j3 _ (by unfold hexD; rw [if_neg hnd, if_pos ⟨h97, h102⟩]; congr 1; omega)
          · rw [show decide (((x.toNat : Nat) : Int) ≤ 102) = false by simp; omega, cond_false]
            exact bad (by unfold hexD; rw [if_neg hnd, if_neg (by omega)])
        · rw [show decide (((x.toNat : Nat) : Int) ≥ 97) = false by simp; omega, cond_false, words_hex_J2_eq, cond_false]
          exact bad (by unfold hexD; rw [if_neg hnd, if_neg (by omega)])
      by_cases h48 : 48 ≤ x.toNat
      · rw [show decide (((x.toNat : Nat) : Int) ≥ 48) = true by simp; omega, cond_true]
        by_cases h57 : x.toNat ≤ 57
        · rw [show decide (((x.toNat : Nat) : Int) ≤ 57) = true by simp; omega, words_hex_J1_eq, cond_true, wrap_i32 (by omega) (by omega), wrap_i64 (by omega) (by omega)]
          exact j3 _ (by unfold hexD isDig; rw [decide_eq_true h48, decide_eq_true h57]; rfl)
        · rw [show decide (((x.toNat : Nat) : Int) ≤ 57) = false by simp; omega]
          exact j1f (by unfold isDig; rw [decide_eq_false h57]; simp)
      · rw [show decide (((x.toNat : Nat) : Int) ≥ 48) = false by simp; omega, cond_false]
        exact j1f (by unfold isDig; rw [decide_eq_false h48]; simp)
    · obtain ⟨c, w, hc, e⟩ := nextK_other (β := AV × H) hg hx ha
      rw [e, show decide (((c : Nat) : Int) ≥ 48) = true by simp; omega, cond_true, show decide (((c : Nat) : Int) ≤ 57) = false by simp; omega, words_hex_J1_eq, cond_false, show decide (((c : Nat) : Int) ≥ 97) = true by simp; omega, cond_true, words_hex_J2_eq, show decide (((c : Nat) : Int) ≤ 102) = false by simp; omega, cond_false]
      refine .pure ⟨hm.set (.inl hb) _, ?_⟩
      have : hexD x = none := by unfold hexD isDig; rw [decide_eq_false (show ¬ x.toNat ≤ 57 by omega)]; simp; omega
      unfold hexL
      simp only [this, enIB]

theorem hex_ret (s : ByteArray) (least most : Int) {n : Nat} (hn : s.size + 1 < n) (h : H) : Ret (ca n i_words_hex [.str s, .int .i64 least, .int .i64 most] h) fun r h' => Mod [] h h' ∧ r = enIB (hexR least most s) := by
  obtain ⟨n, rfl⟩ : ∃ m, n = m + 1 := ⟨n - 1, by omega⟩
  rw [words_hex_eq]
  simp only [newK_eq]
  exact hex_loop (Nat.le_refl _) least most n (bs s) 0 n 0 _ rfl (by rw [bs_len]; omega) (by omega) (by omega) ((Mod.refl _ _).new _) (get_new_self _ _)

end Go.Ev.Tryd
