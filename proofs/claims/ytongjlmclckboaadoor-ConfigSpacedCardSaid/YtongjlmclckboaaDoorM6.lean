/- Own texts, joined: Wc1 Wc2 Wc3 Wc4 Wc5 Wc6 Wc7 Wc8 Wc9 Cf1 Cf2 Cf3 Cf4 Cf5 Cf6 Cf7 Cf8 Cf9. -/
import Derived.Test.YtongjlmclckboaaDoorM3
import Derived.Test.YtongjlmclckboaaDoorM5
import Derived.KernelRfl
set_option linter.all false
/- What the functions of chapter 17 compute, in plain lists: strings.Split at one byte; numbers, digits. -/
namespace Go.Ev.Tryd
set_option maxRecDepth 10000
open Go.Proofs

/-! ### parts of a list -/

def parts (c : UInt8) : List UInt8 → List (List UInt8)
  | [] => [[]]
  | b :: l => if b = c then [] :: parts c l else match parts c l with | p :: ps => (b :: p) :: ps | [] => [[b]]

theorem parts_ne (c : UInt8) : ∀ l, parts c l ≠ []
  | [] => by simp [parts]
  | b :: l => by
    unfold parts
    split
    · simp
    · split <;> simp
theorem parts_none {c : UInt8} : ∀ {l : List UInt8}, c ∉ l → parts c l = [l]
  | [], _ => rfl
  | b :: l, h => by
    simp only [List.mem_cons, not_or] at h
    unfold parts
    rw [if_neg (fun e => h.1 e.symm), parts_none h.2]
theorem parts_split {c : UInt8} : ∀ {a : List UInt8} (l : List UInt8), c ∉ a → parts c (a ++ c :: l) = a :: parts c l
  | [], l, _ => by simp [parts]
  | b :: a, l, h => by
    simp only [List.mem_cons, not_or] at h
    rw [List.cons_append, parts, if_neg (fun e => h.1 e.symm), parts_split l h.2]
theorem parts_len (c : UInt8) : ∀ l : List UInt8, (parts c l).length = l.count c + 1
  | [] => rfl
  | b :: l => by
    have ih := parts_len c l
    unfold parts
    split
    · rename_i h; subst h; simp [ih]
    · rename_i h
      rw [List.count_cons_of_ne h]
      split
      · rename_i p ps hp; rw [hp] at ih; simpa using ih
      · rename_i hp; exact absurd hp (parts_ne c l)
theorem mem_split {c : UInt8} : ∀ {l : List UInt8}, c ∈ l → ∃ a b, l = a ++ c :: b ∧ c ∉ a
  | x :: l, h => by
    by_cases e : c = x
    · subst e; exact ⟨[], l, rfl, by simp⟩
    · obtain ⟨a, b, rfl, hn⟩ := mem_split ((List.mem_cons.1 h).resolve_left e)
      exact ⟨x :: a, b, rfl, by simp [e, hn]⟩
theorem index_split {c : UInt8} : ∀ {a : List UInt8} (b : List UInt8), c ∉ a → Lib.indexByte (a ++ c :: b) c = a.length
  | [], b, _ => by simp [Lib.indexByte]
  | x :: a, b, h => by
    simp only [List.mem_cons, not_or] at h
    rw [List.cons_append, Lib.indexByte, index_split b h.2, if_neg (by simpa using fun e => h.1 e.symm), if_neg (by simp)]
    simp

/-! ### strings.Index, Count at one byte -/

theorem u8_of (c : UInt8) : ((c.toNat : Nat) : Int).toNat.toUInt8 = c := by simp

theorem Index_eq (n : Nat) {s : ByteArray} {c : UInt8} (hs : bs s ≠ [c] ) (h : H) : ca (n + 4) i_strings_Index [.str s, .str (mk [c])] h = some (.int .i64 (Lib.indexByte (bs s) c), h) := by
  rw [strings_Index_eq, stringslite_Index_eq]
  rw [show (((mk [c]).size : Nat) : Int) = 1 from rfl, show ((1 : Int) == 0) = false by decide, cond_false, str_eq, decide_eq_false (fun e => hs (by rw [← e, bs_mk])), stringslite_Index_J0_eq, cond_false, show ((1 : Int) == 1) = true by decide, cond_true]
  rw [show (0 : Int) = ((0 : Nat) : Int) from rfl, byteK_of (i := 0) (b := c) rfl, stringslite_IndexByte_eq, bytealg_IndexByteString_eq, bytealg_IndexByteString_99_eq]
  simp only [Option.bind_some, indexF, u8_of, asInt_int]
  rfl

theorem Index_one (n : Nat) (c : UInt8) (h : H) : ca (n + 4) i_strings_Index [.str (mk [c]), .str (mk [c])] h = some (.int .i64 0, h) := by
  rw [strings_Index_eq, stringslite_Index_eq]
  rw [show (((mk [c]).size : Nat) : Int) = 1 from rfl, show ((1 : Int) == 0) = false by decide, cond_false, str_eq, decide_eq_true rfl, stringslite_Index_J0_eq, cond_true]
  simp only [Option.bind_some, asInt_int]

theorem Count_eq (n : Nat) (s : ByteArray) (c : UInt8) (h : H) : ca (n + 2) i_strings_Count [.str s, .str (mk [c])] h = some (.int .i64 (((bs s).count c : Nat) : Int), h) := by
  rw [strings_Count_eq]
  rw [show (((mk [c]).size : Nat) : Int) = 1 from rfl, show ((1 : Int) == 0) = false by decide, cond_false, show ((1 : Int) == 1) = true by decide, cond_true]
  rw [show (0 : Int) = ((0 : Nat) : Int) from rfl, byteK_of (i := 0) (b := c) rfl, bytealg_CountString_eq, bytealg_CountString_92_eq]
  simp only [Option.bind_some, countF, u8_of, Lib.countByte, asInt_int]
  rfl

/-! ### strings.Split -/

theorem bnd_from {β : Type} {s : ByteArray} {lo : Int} (h0 : 0 ≤ lo) (h1 : lo ≤ s.size) (f : Nat → Nat → Nat → Option β) : bndK s.size s.size 0 (some (.int .i64 lo)) none none f = f lo.toNat s.size s.size := by
  simp [bndK, evBounds, evBound, h0, h1]
theorem bnd_upto {β : Type} {s : ByteArray} {hi : Int} (h0 : 0 ≤ hi) (h1 : hi ≤ s.size) (f : Nat → Nat → Nat → Option β) : bndK s.size s.size 0 none (some (.int .i64 hi)) none f = f 0 hi.toNat s.size := by
  simp [bndK, evBounds, evBound, h0, h1]
theorem bnd_both {β : Type} {s : ByteArray} {k k' : IntKind} {lo hi : Int} (h0 : 0 ≤ lo) (h1 : lo ≤ hi) (h2 : hi ≤ s.size) (f : Nat → Nat → Nat → Option β) : bndK s.size s.size 0 (some (.int k lo)) (some (.int k' hi)) none f = f lo.toNat hi.toNat s.size := by
  have : 0 ≤ hi := by omega
  have h3 : lo ≤ ((hi.toNat : Nat) : Int) := by omega
  simp only [bndK, evBounds, evBound, Option.bind_some]
  rw [if_pos ⟨this, h2⟩]
  simp only [Option.bind_some]
  rw [if_pos ⟨h0, h3⟩]
  rfl

theorem Split_loop {b N : Nat} (c : UInt8) (n : Nat) (hn : 4 ≤ n) (hN : N < 100000) : ∀ (k : Nat) (s : ByteArray) (ps : List ByteArray) (m : Nat) (h : H), (bs s).count c = k → ps.length + k + 1 = N → k < m → s.size < 100000 → b < h.next → h.get b = some (.cells (ps.map AV.str ++ List.replicate (k + 1) (.str .empty)) false) →
    ∃ p' c', strings_genSplit_L1 n m s (mk [c]) 0 ((N - 1 : Nat) : Int) (some (b, 0)) N (.known N) ps.length h = some (.slice p' N c', h.set b (.cells ((ps ++ (parts c (bs s)).map mk).map AV.str) false)) ∧
      Row (h.set b (.cells ((ps ++ (parts c (bs s)).map mk).map AV.str) false)) 1 p' N c' ((ps ++ (parts c (bs s)).map mk).map AV.str)
  | 0, s, ps, m + 1, h, hk, hl, _, hs, hb, hg => by
    have hno : c ∉ bs s := List.count_eq_zero.1 hk
    have hp : ps ++ (parts c (bs s)).map mk = ps ++ [s] := by rw [parts_none hno]; simp [mk_bs]
    rw [hp, strings_genSplit_L1_eq, cast_not_lt (by omega), cond_false, strings_genSplit_J2_eq, if_pos ⟨by omega, by omega⟩]
    simp only [nnK_some', Nat.zero_add]
    rw [show ((ps.length : Nat) : Int).toNat = ps.length from rfl, wrK_one hg (by simp) rfl]
    have hset : ((ps.map AV.str ++ List.replicate (0 + 1) (AV.str .empty)).set ps.length (.str s)) = (ps ++ [s]).map AV.str := by
      rw [List.set_append_right _ _ (by simp)]; simp
    rw [hset]
    have hrow : Row (h.set b (.cells ((ps ++ [s]).map AV.str) false)) 1 (some (b, 0)) N (.known N) ((ps ++ [s]).map AV.str) :=
      .row hb (get_set_self _ _ _) (by rw [List.drop_zero, List.take_of_length_le (by simp; omega)]) (by simp; omega) (.inr ⟨N, rfl, Nat.le_refl _⟩)
    obtain ⟨p', c', r', _, e⟩ := hrow.upto (β := AV × H) (k := .i64) (hi := ((ps.length + 1 : Nat) : Int)) (by omega) (by omega)
    rw [wrap_succ (by omega), e]
    refine ⟨p', c', by rw [show ((ps.length + 1 : Nat) : Int).toNat = N by omega], ?_⟩
    rw [show ((ps.length + 1 : Nat) : Int).toNat = N by omega] at r'
    rwa [List.take_of_length_le (by simp; omega)] at r'
  | k + 1, s, ps, m + 1, h, hk, hl, hm, hs, hb, hg => by
    have hmem : c ∈ bs s := List.count_pos_iff.1 (by omega)
    obtain ⟨a, r, hsp, hna⟩ := mem_split hmem
    have hidx : ca n i_strings_Index [.str s, .str (mk [c])] h = some (.int .i64 ((a.length : Nat) : Int), h) := by
      obtain ⟨n, rfl⟩ : ∃ m, n = m + 4 := ⟨n - 4, by omega⟩
      by_cases h1 : bs s = [c]
      · have : s = mk [c] := by rw [← mk_bs s, h1]
        rw [this, Index_one]
        have ha : a = [] := by
          rw [h1] at hsp
          cases a with
          | nil => rfl
          | cons x a => have := congrArg List.length hsp; simp at this
        rw [ha]; rfl
      · rw [Index_eq n h1, hsp, index_split r hna]
    have hsz : s.size = a.length + 1 + r.length := by rw [← bs_len, hsp]; simp; omega
    rw [strings_genSplit_L1_eq, cast_lt (by omega), cond_true, hidx, Option.bind_some]
    simp only [asInt_int]
    rw [show decide (((a.length : Nat) : Int) < 0) = false by simp, cond_false, show IntKind.i64.wrap (((a.length : Nat) : Int) + 0) = ((a.length : Nat) : Int) by rw [wrap_i64 (by omega) (by omega)]; simp, bnd_upto (by omega) (by omega), if_pos ⟨by omega, by omega⟩]
    simp only [nnK_some', Nat.zero_add]
    rw [show ((ps.length : Nat) : Int).toNat = ps.length from rfl, show ((a.length : Nat) : Int).toNat = a.length from rfl, wrK_one hg (by simp) rfl, show (((mk [c]).size : Nat) : Int) = 1 from rfl, wrap_succ (by omega), bnd_from (by omega) (by omega), wrap_succ (by omega)]
    have hx1 : s.extract 0 a.length = mk a := bs_inj (by rw [bs_extract, bs_mk, hsp]; simp)
    have hx2 : s.extract ((a.length + 1 : Nat) : Int).toNat s.size = mk r := bs_inj (by
      rw [bs_extract, bs_mk, hsp, show ((a.length + 1 : Nat) : Int).toNat = a.length + 1 from rfl, hsz, show a.length + 1 + r.length - (a.length + 1) = r.length by omega]
      rw [List.drop_append, List.drop_of_length_le (by omega), show a.length + 1 - a.length = 1 by omega]; simp)
    have hset : ((ps.map AV.str ++ List.replicate (k + 1 + 1) (AV.str .empty)).set ps.length (.str (s.extract 0 a.length))) = (ps ++ [mk a]).map AV.str ++ List.replicate (k + 1) (.str .empty) := by
      rw [hx1, List.set_append_right _ _ (by simp)]
      simp [List.replicate_succ]
    have hcount : (bs (mk r)).count c = k := by
      rw [bs_mk]
      rw [hsp, List.count_append, List.count_eq_zero.2 hna, List.count_cons_self] at hk
      omega
    rw [hset, hx2, show ps.length + 1 = (ps ++ [mk a]).length by simp]
    obtain ⟨p', c', e, r'⟩ := Split_loop (b := b) (N := N) c n hn hN k (mk r) (ps ++ [mk a]) m (h.set b (.cells ((ps ++ [mk a]).map AV.str ++ List.replicate (k + 1) (.str .empty)) false)) hcount (by simp; omega) (by omega) (by rw [size_mk]; omega) hb (get_set_self _ _ _)
    rw [set_set] at e r'
    rw [bs_mk] at e r'
    have hfin : ps ++ [mk a] ++ (parts c r).map mk = ps ++ (parts c (bs s)).map mk := by rw [hsp, parts_split r hna]; simp
    rw [hfin] at e r'
    exact ⟨p', c', e, r'⟩

theorem Split_ret {s : ByteArray} (hs : s.size < 90000) (c : UInt8) {n : Nat} (hn : s.size + 10 ≤ n) (h : H) :
    Ret (ca n i_strings_Split [.str s, .str (mk [c])] h) fun v h' => Mod [] h h' ∧ ∃ p d, v = .slice p (parts c (bs s)).length d ∧ Row h' 1 p (parts c (bs s)).length d (((parts c (bs s)).map mk).map AV.str) := by
  obtain ⟨n, rfl⟩ : ∃ m, n = m + 4 := ⟨n - 4, by omega⟩
  rw [strings_Split_eq, strings_genSplit_eq, show ((-1 : Int) == 0) = false by decide, cond_false, str_eq, decide_eq_false (fun e => by have := congrArg ByteArray.size e; rw [size_mk] at this; cases this), cond_false, show decide ((-1 : Int) < 0) = true by decide, cond_true, Count_eq, Option.bind_some]
  simp only [asInt_int]
  have hc : (bs s).count c ≤ s.size := by rw [← bs_len]; exact List.count_le_length
  rw [wrap_succ (by omega), strings_genSplit_J0_eq, wrap_succ (by omega)]
  rw [if_neg (by omega), mkSlK_of h (by omega) (by decide), wrap_i64 (by omega) (by omega), Nat.mul_one, evTile_one]
  obtain ⟨p', c', e, r'⟩ := Split_loop (b := h.next) (N := (bs s).count c + 1) c (n + 2) (by omega) (by omega) ((bs s).count c) s [] (n + 2) (h.new (.cells (List.replicate ((bs s).count c + 1) (.str .empty)) false)) rfl (by simp) (by omega) (by omega) (by simp) (get_new_self _ _)
  rw [show (((bs s).count c + 1 : Nat) : Int) - 1 = (((bs s).count c + 1 - 1 : Nat) : Int) by omega]
  rw [show ((([] : List ByteArray).length : Nat) : Int) = 0 from rfl] at e
  rw [e, Option.bind_some]
  simp only [asSlice_slice]
  rw [← parts_len] at r' ⊢
  refine .pure ⟨?_, p', c', rfl, by simpa using r'⟩
  exact ((Mod.refl _ _).new _).set (.inl (Nat.le_refl _)) _

end Go.Ev.Tryd

/- What the functions of chapter 17 compute, in plain lists: numbers, hexadecimal numbers, groups of them. -/
namespace Go.Ev.Tryd
set_option maxRecDepth 10000
open Go.Proofs

/-! ### a range over a text -/

theorem nextK_end {β : Type} {h : H} {b : Nat} {s : ByteArray} {pos : Nat} (hg : h.get b = some (.siter s pos)) (hp : s.size ≤ pos) (f : Int → Int → H → Option β) (g : Option β) : nextK h b f g = g := by
  simp only [nextK, hg]; rw [if_neg (by omega)]
theorem nextK_ascii {β : Type} {h : H} {b : Nat} {s : ByteArray} {pos : Nat} {x : UInt8} (hg : h.get b = some (.siter s pos)) (hx : (bs s)[pos]? = some x) (ha : x.toNat < 128) (f : Int → Int → H → Option β) (g : Option β) : nextK h b f g = f pos x.toNat (h.set b (.siter s (pos + 1))) := by
  have hl : pos < s.size := by have := (List.getElem?_eq_some_iff.1 hx).1; rw [bs_len] at this; exact this
  rw [bs_get hl] at hx
  cases hx
  simp only [nextK, hg]
  rw [if_pos hl, decode_ascii s pos hl ha]
theorem nextK_other {β : Type} {h : H} {b : Nat} {s : ByteArray} {pos : Nat} {x : UInt8} (hg : h.get b = some (.siter s pos)) (hx : (bs s)[pos]? = some x) (ha : ¬ x.toNat < 128) : ∃ (c : Nat) (w : Nat), 128 ≤ c ∧ ∀ (f : Int → Int → H → Option β) (g : Option β), nextK h b f g = f pos c (h.set b (.siter s (pos + w))) := by
  have hl : pos < s.size := by have := (List.getElem?_eq_some_iff.1 hx).1; rw [bs_len] at this; exact this
  rw [bs_get hl] at hx
  cases hx
  refine ⟨(Utf8.decode s pos).1, (Utf8.decode s pos).2, decode_ge hl (by omega), fun f g => ?_⟩
  simp only [nextK, hg]
  rw [if_pos hl]

/-! ### numbers -/

/-- an answer of a number and a truth value -/
def enIB (r : Int × Bool) : AV := .tup [.int .i64 r.1, .bool r.2]

def isDig (x : UInt8) : Bool := decide (48 ≤ x.toNat) && decide (x.toNat ≤ 57)
def numL : Int → List UInt8 → Int × Bool
  | n, [] => (n, true)
  | n, x :: l => if isDig x = true then numL (10 * n + ((x.toNat : Int) - 48)) l else (0, false)
/-- what a text is as a number -/
def numP (l : List UInt8) : Int × Bool := if l = [] ∨ 9 < l.length ∨ (l.head? = some 48 ∧ l ≠ [48]) then (0, false) else numL 0 l

theorem pow10_le {k : Nat} (h : k ≤ 9) : (10 : Int) ^ k ≤ 1000000000 := by
  have : ∀ k : Fin 10, (10 : Int) ^ k.val ≤ 1000000000 := by decide
  exact this ⟨k, by omega⟩

theorem wrap_i32 {x : Int} (h0 : -2147483648 ≤ x) (h1 : x < 2147483648) : IntKind.i32.wrap x = x := by
  simp only [IntKind.wrap, IntKind.bits, IntKind.signed]
  simp; split <;> omega

theorem Number_loop {a : H} {b : Nat} (hb : a.next ≤ b) {s : ByteArray} (n : Nat) : ∀ (l : List UInt8) (pos m : Nat) (acc : Int) (h : H), (bs s).drop pos = l → pos ≤ 9 → s.size ≤ 9 → l.length < m → 0 ≤ acc → acc < 10 ^ pos → Mod [] a h → h.get b = some (.siter s pos) →
    Ret (words_Number_L1 n m acc (some (b, 0)) h) fun r h' => Mod [] a h' ∧ r = enIB (numL acc l)
  | [], pos, m + 1, acc, h, hd, _, h9, _, _, _, hm, hg => by
    rw [words_Number_L1_eq]
    simp only [nnK_some']
    have := List.drop_eq_nil_iff.1 hd
    rw [bs_len] at this
    rw [nextK_end hg this]
    exact .pure ⟨hm, rfl⟩
  | x :: l, pos, m + 1, acc, h, hd, hp9, h9, hl, h0, h1, hm, hg => by
    have hx : (bs s)[pos]? = some x := by have := congrArg (·[0]?) hd; simpa using this
    have hpl : pos < s.size := by have := (List.getElem?_eq_some_iff.1 hx).1; rw [bs_len] at this; exact this
    have hd' : (bs s).drop (pos + 1) = l := by rw [← List.drop_drop, hd]; rfl
    have h10 := pow10_le hp9
    rw [words_Number_L1_eq]
    simp only [nnK_some']
    by_cases ha : x.toNat < 128
    · rw [nextK_ascii hg hx ha]
      have hm' : Mod [] a (h.set b (.siter s (pos + 1))) := hm.set (.inl hb) _
      unfold numL isDig
      by_cases h48 : 48 ≤ x.toNat
      · rw [show decide (((x.toNat : Nat) : Int) < 48) = false by simp; omega, cond_false, words_Number_J2_eq]
        by_cases h57 : x.toNat ≤ 57
        · rw [show decide (((x.toNat : Nat) : Int) > 57) = false by simp; omega, cond_false, decide_eq_true h48, decide_eq_true h57]
          simp only [Bool.and_self, if_true]
          rw [wrap_i64 (x := 10 * acc) (by omega) (by omega), wrap_i32 (by omega) (by omega), wrap_i64 (x := (x.toNat : Int) - 48) (by omega) (by omega), wrap_i64 (by omega) (by omega)]
          refine Number_loop hb n l (pos + 1) m _ _ hd' (by omega) h9 (by simp at hl; omega) (by omega) ?_ hm' (get_set_self _ _ _)
          rw [Int.pow_succ]; omega
        · rw [show decide (((x.toNat : Nat) : Int) > 57) = true by simp; omega, cond_true, decide_eq_false h57, Bool.and_false]
          exact .pure ⟨hm', rfl⟩
      · rw [show decide (((x.toNat : Nat) : Int) < 48) = true by simp; omega, cond_true, words_Number_J2_eq, cond_true, decide_eq_false h48, Bool.false_and]
        exact .pure ⟨hm', rfl⟩
    · obtain ⟨c, w, hc, e⟩ := nextK_other (β := AV × H) hg hx ha
      rw [e, show decide (((c : Nat) : Int) < 48) = false by simp; omega, cond_false, words_Number_J2_eq, show decide (((c : Nat) : Int) > 57) = true by simp; omega, cond_true]
      refine .pure ⟨hm.set (.inl hb) _, ?_⟩
      unfold numL isDig
      rw [decide_eq_false (show ¬ x.toNat ≤ 57 by omega), Bool.and_false]
      rfl

theorem Number_ret (s : ByteArray) {n : Nat} (hn : 20 ≤ n) (h : H) : Ret (ca n i_words_Number [.str s] h) fun r h' => Mod [] h h' ∧ r = enIB (numP (bs s)) := by
  obtain ⟨n, rfl⟩ : ∃ m, n = m + 1 := ⟨n - 1, by omega⟩
  rw [words_Number_eq, str_eq]
  by_cases h0 : s = ⟨#[]⟩
  · rw [decide_eq_true h0, cond_true, words_Number_J0_eq, cond_true]
    exact .pure ⟨.refl _ _, by subst h0; rfl⟩
  · have hne : bs s ≠ [] := fun e => h0 (bs_inj (by rw [e]; rfl))
    rw [decide_eq_false h0, cond_false]
    by_cases h9 : s.size ≤ 9
    · rw [show decide ((s.size : Int) > 9) = false by simp; omega, cond_false]
      obtain ⟨x, l, hxl⟩ := List.exists_cons_of_ne_nil hne
      rw [show (0 : Int) = ((0 : Nat) : Int) from rfl, byteK_of (i := 0) (b := x) (by rw [hxl]; rfl)]
      have go : ¬ (bs s = [] ∨ 9 < (bs s).length ∨ ((bs s).head? = some 48 ∧ bs s ≠ [48])) → Ret (words_Number_J0 n s false h) fun r h' => Mod [] h h' ∧ r = enIB (numP (bs s)) := fun hc => by
        rw [words_Number_J0_eq, cond_false]
        simp only [newK_eq]
        rw [numP, if_neg hc]
        exact Number_loop (Nat.le_refl _) n (bs s) 0 n 0 _ rfl (by omega) h9 (by rw [bs_len]; omega) (by omega) (by decide) ((Mod.refl _ _).new _) (get_new_self _ _)
      by_cases h48 : x = 48
      · subst h48
        rw [show ((((48 : UInt8).toNat : Nat) : Int) == 48) = true by decide, cond_true, str_eq]
        by_cases hs : s = ⟨#[48]⟩
        · rw [decide_eq_true hs, Bool.not_true]
          refine go ?_
          subst hs
          decide
        · rw [decide_eq_false hs, Bool.not_false, words_Number_J0_eq, cond_true]
          refine .pure ⟨.refl _ _, ?_⟩
          rw [numP, if_pos (.inr (.inr ⟨by rw [hxl]; rfl, fun e => hs (bs_inj (by rw [e]; rfl))⟩))]; rfl
      · rw [show ((x.toNat : Int) == 48) = false by
          rw [beq_eq_false_iff_ne]
          intro e
          exact h48 (UInt8.toNat_inj.1 (by have : x.toNat = 48 := by omega
                                           simpa using this)), cond_false]
        refine go ?_
        rw [hxl]
        simp
        exact ⟨by have := bs_len s; rw [hxl] at this; simp at this; omega, fun e => absurd e h48⟩
    · rw [show decide ((s.size : Int) > 9) = true by simp; omega, cond_true, words_Number_J0_eq, cond_true]
      refine .pure ⟨.refl _ _, ?_⟩
      rw [numP, if_pos (.inr (.inl (by rw [bs_len]; omega)))]; rfl

/-! ### hexadecimal numbers -/

def hexD (x : UInt8) : Option Int := if isDig x = true then some ((x.toNat : Int) - 48) else if 97 ≤ x.toNat ∧ x.toNat ≤ 102 then some ((x.toNat : Int) - 87) else none
def hexL : Int → List UInt8 → Option Int
  | n, [] => some n
  | n, x :: l => match hexD x with | none => none | some d => if 65535 < 16 * n + d then none else hexL (16 * n + d) l

theorem ior_hex {x d : Int} (hx : 0 ≤ x) (hx2 : x < 1099511627776) (hd : 0 ≤ d) (hd2 : d < 16) : ior .i64 (ishl .i64 x 4) d = 16 * x + d := by
  obtain ⟨a, rfl⟩ := Int.eq_ofNat_of_zero_le hx
  obtain ⟨b, rfl⟩ := Int.eq_ofNat_of_zero_le hd
  have h1 : ishl .i64 (a : Int) 4 = ((a * 16 : Nat) : Int) := by
    unfold ishl
    rw [show min (4 : Int).toNat IntKind.i64.bits = 4 from rfl, wrap_i64 (by omega) (by omega)]
    omega
  rw [h1]
  have h4 : (BitVec.ofInt 64 ((a * 16 : Nat) : Int) ||| BitVec.ofInt 64 (b : Int)).toNat = a * 16 + b := by
    rw [BitVec.toNat_or, BitVec.ofInt_natCast, BitVec.ofInt_natCast, BitVec.toNat_ofNat, BitVec.toNat_ofNat, Nat.mod_eq_of_lt (by omega), Nat.mod_eq_of_lt (by omega)]
    rw [Nat.mul_comm, show (16 : Nat) = 2 ^ 4 from rfl, ← Nat.two_pow_add_eq_or_of_lt (by omega)]
  show IntKind.i64.wrap ((BitVec.ofInt 64 ((a * 16 : Nat) : Int) ||| BitVec.ofInt 64 (b : Int)).toNat : Nat) = _
  rw [h4, wrap_i64 (by omega) (by omega)]
  omega

def hexR (least most : Int) (s : ByteArray) : Int × Bool := match hexL 0 (bs s) with | none => (0, false) | some v => (v, decide (least ≤ s.size) && decide ((s.size : Int) ≤ most))

theorem hexD_range {x : UInt8} {d : Int} (h : hexD x = some d) : 0 ≤ d ∧ d < 16 := by
  unfold hexD isDig at h
  split at h
  · rename_i hh; cases h; simp at hh; omega
  · split at h
    · rename_i hh; cases h; omega
    · cases h

theorem hex_loop {a : H} {b : Nat} (hb : a.next ≤ b) {s : ByteArray} (least most : Int) (n : Nat) : ∀ (l : List UInt8) (pos m : Nat) (acc : Int) (h : H), (bs s).drop pos = l → l.length < m → 0 ≤ acc → acc ≤ 65535 → Mod [] a h → h.get b = some (.siter s pos) →
    Ret (words_hex_L0 n m s least most acc (some (b, 0)) h) fun r h' => Mod [] a h' ∧ r = enIB (match hexL acc l with | none => (0, false) | some v => (v, decide (least ≤ s.size) && decide ((s.size : Int) ≤ most)))
  | [], pos, m + 1, acc, h, hd, _, _, _, hm, hg => by
    rw [words_hex_L0_eq]
    simp only [nnK_some']
    have := List.drop_eq_nil_iff.1 hd
    rw [bs_len] at this
    rw [nextK_end hg this]
    by_cases h1 : (s.size : Int) ≥ least
    · rw [decide_eq_true h1, cond_true]
      exact .pure ⟨hm, by simp [enIB, hexL, show least ≤ (s.size : Int) from h1]⟩
    · rw [decide_eq_false h1, cond_false]
      exact .pure ⟨hm, by simp [enIB, hexL, show ¬ least ≤ (s.size : Int) from h1]⟩
  | x :: l, pos, m + 1, acc, h, hd, hl, h0, h1, hm, hg => by
    have hx : (bs s)[pos]? = some x := by have := congrArg (·[0]?) hd; simpa using this
    have hd' : (bs s).drop (pos + 1) = l := by rw [← List.drop_drop, hd]; rfl
    rw [words_hex_L0_eq]
    simp only [nnK_some']
    by_cases ha : x.toNat < 128
    · rw [nextK_ascii hg hx ha]
      have hm' : Mod [] a (h.set b (.siter s (pos + 1))) := hm.set (.inl hb) _
      have hg' : (h.set b (.siter s (pos + 1))).get b = some (.siter s (pos + 1)) := get_set_self _ _ _
      generalize h.set b (.siter s (pos + 1)) = h' at *
      have j3 : ∀ d : Int, hexD x = some d → Ret (words_hex_J3 n m s least most (ior .i64 (ishl .i64 acc 4) d) (some (b, 0)) h') fun r h' => Mod [] a h' ∧ r = enIB (match hexL acc (x :: l) with | none => (0, false) | some v => (v, decide (least ≤ s.size) && decide ((s.size : Int) ≤ most))) := by
        intro d hd
        have hr := hexD_range hd
        rw [words_hex_J3_eq, ior_hex h0 (by omega) hr.1 hr.2]
        unfold hexL
        simp only [hd]
        by_cases hov : 65535 < 16 * acc + d
        · rw [show decide (16 * acc + d > 65535) = true by simpa using hov, cond_true, if_pos hov]
          exact .pure ⟨hm', rfl⟩
        · rw [show decide (16 * acc + d > 65535) = false by simpa using hov, cond_false, if_neg hov]
          exact hex_loop hb least most n l (pos + 1) m _ h' hd' (by simp at hl; omega) (by omega) (by omega) hm' hg'
      have bad : hexD x = none → Ret (some (.tup [.int .i64 0, .bool false], h')) fun r h' => Mod [] a h' ∧ r = enIB (match hexL acc (x :: l) with | none => (0, false) | some v => (v, decide (least ≤ s.size) && decide ((s.size : Int) ≤ most))) := fun hn => by
        refine .pure ⟨hm', ?_⟩
        unfold hexL
        simp only [hn, enIB]
      have j1f : ¬ isDig x = true → Ret (words_hex_J1 n m s least most acc x.toNat (some (b, 0)) false h') fun r h' => Mod [] a h' ∧ r = enIB (match hexL acc (x :: l) with | none => (0, false) | some v => (v, decide (least ≤ s.size) && decide ((s.size : Int) ≤ most))) := by
        intro hnd
        rw [words_hex_J1_eq, cond_false]
        by_cases h97 : 97 ≤ x.toNat
        · rw [show decide (((x.toNat : Nat) : Int) ≥ 97) = true by simp; omega, cond_true, words_hex_J2_eq]
          by_cases h102 : x.toNat ≤ 102
          · rw [show decide (((x.toNat : Nat) : Int) ≤ 102) = true by simp; omega, cond_true, wrap_i32 (x := (x.toNat : Int) - 97) (by omega) (by omega), wrap_i32 (by omega) (by omega), wrap_i64 (by omega) (by omega)]
            exact j3 _ (by unfold hexD; rw [if_neg hnd, if_pos ⟨h97, h102⟩]; congr 1; omega)
          · rw [show decide (((x.toNat : Nat) : Int) ≤ 102) = false by simp; omega, cond_false]
            exact bad (by unfold hexD; rw [if_neg hnd, if_neg (by omega)])
        · rw [show decide (((x.toNat : Nat) : Int) ≥ 97) = false by simp; omega, cond_false, words_hex_J2_eq, cond_false]
          exact bad (by unfold hexD; rw [if_neg hnd, if_neg (by omega)])
      by_cases h48 : 48 ≤ x.toNat
      · rw [show decide (((x.toNat : Nat) : Int) ≥ 48) = true by simp; omega, cond_true]
        by_cases h57 : x.toNat ≤ 57
        · rw [show decide (((x.toNat : Nat) : Int) ≤ 57) = true by simp; omega, words_hex_J1_eq, cond_true, wrap_i32 (by omega) (by omega), wrap_i64 (by omega) (by omega)]
          exact j3 _ (by unfold hexD isDig; rw [decide_eq_true h48, decide_eq_true h57]; rfl)
        · rw [show decide (((x.toNat : Nat) : Int) ≤ 57) = false by simp; omega]
          exact j1f (by unfold isDig; rw [decide_eq_false h57]; simp)
      · rw [show decide (((x.toNat : Nat) : Int) ≥ 48) = false by simp; omega, cond_false]
        exact j1f (by unfold isDig; rw [decide_eq_false h48]; simp)
    · obtain ⟨c, w, hc, e⟩ := nextK_other (β := AV × H) hg hx ha
      rw [e, show decide (((c : Nat) : Int) ≥ 48) = true by simp; omega, cond_true, show decide (((c : Nat) : Int) ≤ 57) = false by simp; omega, words_hex_J1_eq, cond_false, show decide (((c : Nat) : Int) ≥ 97) = true by simp; omega, cond_true, words_hex_J2_eq, show decide (((c : Nat) : Int) ≤ 102) = false by simp; omega, cond_false]
      refine .pure ⟨hm.set (.inl hb) _, ?_⟩
      have : hexD x = none := by unfold hexD isDig; rw [decide_eq_false (show ¬ x.toNat ≤ 57 by omega)]; simp; omega
      unfold hexL
      simp only [this, enIB]

theorem hex_ret (s : ByteArray) (least most : Int) {n : Nat} (hn : s.size + 1 < n) (h : H) : Ret (ca n i_words_hex [.str s, .int .i64 least, .int .i64 most] h) fun r h' => Mod [] h h' ∧ r = enIB (hexR least most s) := by
  obtain ⟨n, rfl⟩ : ∃ m, n = m + 1 := ⟨n - 1, by omega⟩
  rw [words_hex_eq]
  simp only [newK_eq]
  exact hex_loop (Nat.le_refl _) least most n (bs s) 0 n 0 _ rfl (by rw [bs_len]; omega) (by omega) (by omega) ((Mod.refl _ _).new _) (get_new_self _ _)

end Go.Ev.Tryd

/- What the functions of chapter 17 compute, in plain lists: groups, Address, Card, CardText. -/
namespace Go.Ev.Tryd
set_option maxRecDepth 10000
open Go.Proofs

/-! ### groups -/

abbrev Sli := Option (Nat × Nat) × Nat × Cap
abbrev Grp := Option (Nat × Nat) × Nat × Cap × Bool
def byt (w : Nat) (v : Int) : List Int := if w = 1 then [IntKind.u8.wrap (ishr .i64 v 0)] else [IntKind.u8.wrap (ishr .i64 v 8), IntKind.u8.wrap (ishr .i64 v 0)]
/-- the bytes of all parts; none: one of them can't be read -/
def gout (rd : ByteArray → Int × Bool) (w : Nat) : List ByteArray → Option (List Int)
  | [] => some []
  | p :: ps => if (rd p).2 = true then (gout rd w ps).map (byt w (rd p).1 ++ ·) else none

abbrev u8s (l : List Int) : List AV := l.map (.int .u8)

theorem groups_gen {f : Nat} (hcr : ∀ (x : Int) (b : Bool) (k : AV → R), crF T.toTab f (.tup [.int .i64 x, .bool b]) k = k (.tup [.int .i64 x, .bool b]))
    {rd : ByteArray → Int × Bool} {n : Nat} {ss : List ByteArray} (hR : ∀ s ∈ ss, ∀ h, Ret (ca n f [.str s] h) fun r h' => Mod [] h h' ∧ r = enIB (rd s)) (hn : 10 ≤ n) {w : Nat} (hw : w = 1 ∨ w = 2)
    {a : H} {p : Option (Nat × Nat)} {c : Cap} (row : Row a 1 p ss.length c (ss.map AV.str)) (hmax : ss.length < 100000) :
    ∀ (ts pre : List ByteArray) (m : Nat) (acc : List Int) (h : H) (q : Option (Nat × Nat)) (l : Nat) (d : Cap), ss = pre ++ ts → ts.length < m → acc.length ≤ 2 * pre.length → Mod [] a h → Grow a h 1 q l d (u8s acc) →
      Ret (words_groups_L0 n m w (.func f [] []) q l d p ss.length c ss.length pre.length h) fun r h' => Mod [] a h' ∧ match gout rd w ts with | none => ∃ q l d, r = .tup [.slice q l d, .bool false] | some x => ∃ q l d, r = .tup [.slice q l d, .bool true] ∧ Grow a h' 1 q l d (u8s (acc ++ x))
  | [], pre, m + 1, acc, h, q, l, d, hx, _, _, hm, g => by
    rw [words_groups_L0_eq, cast_not_lt (by rw [hx]; simp), cond_false]
    exact .pure ⟨hm, by simp only [gout]; exact ⟨q, l, d, rfl, by simpa using g⟩⟩
  | t :: ts, pre, m + 1, acc, h, q, l, d, hx, hl, hacc, hm, g => by
    have hpl : pre.length < ss.length := by rw [hx]; simp
    rw [words_groups_L0_eq, cast_lt hpl, cond_true, (row.mod0 hm).ix1 (x := t) (by rw [hx]; simp), asStr_str, asFn_of, List.nil_append, List.append_nil]
    refine (hR t (by rw [hx]; simp) h).bind ?_
    rintro _ h1 ⟨m1, rfl⟩
    dsimp only [enIB]
    rw [hcr, extK_of rfl, asInt_int, extK_of rfl, asBool_bool]
    cases ht : (rd t).2 with
    | false =>
      rw [Bool.not_false, cond_true]
      refine .pure ⟨hm.trans m1, ?_⟩
      simp only [gout, ht, Bool.false_eq_true, if_false]
      exact ⟨_, _, _, rfl⟩
    | true =>
      rw [Bool.not_true, cond_false]
      obtain ⟨n', rfl⟩ : ∃ k, n = k + 1 + 1 + 1 := ⟨n - 3, by omega⟩
      have push : ∀ (m2 : Nat) (k : Nat) (acc : List Int) (h : H) (q : Option (Nat × Nat)) (l : Nat) (d : Cap) (Q : AV → H → Prop), k ≤ 1 → acc.length ≤ 2 * pre.length + 1 → Mod [] a h → Grow a h 1 q l d (u8s acc) →
          (∀ (q' : Option (Nat × Nat)) (l' : Nat) (d' : Cap) (h' : H), Mod [] a h' → Grow a h' 1 q' l' d' (u8s (acc ++ [IntKind.u8.wrap (ishr .i64 (rd t).1 (8 * k : Nat))])) → Ret (words_groups_L1 (n' + 1 + 1 + 1) m m2 w (.func f [] []) q' l' d' (rd t).1 (IntKind.i64.wrap ((k : Int) - 1)) p ss.length c ss.length pre.length h') Q) →
          Ret (words_groups_L1 (n' + 1 + 1 + 1) m (m2 + 1) w (.func f [] []) q l d (rd t).1 k p ss.length c ss.length pre.length h) Q := by
        intro m2 k acc h q l d Q hk hacc hm g go
        have hgl := g.row.len1
        rw [words_groups_L1_eq, show decide (((k : Nat) : Int) ≥ 0) = true by simp, cond_true, show IntKind.i64.wrap (8 * (k : Int)) = ((8 * k : Nat) : Int) by rw [wrap_i64 (by omega) (by omega)]; omega, if_neg (by omega), newK_eq]
        refine g.push hm.next rfl rfl (by decide) (by omega) (by omega) fun q' d' h' g' m' => ?_
        exact go q' _ d' h' (hm.push g m') (by simpa [u8s] using g')
      have fin : ∀ (m2 : Nat) (acc' : List Int) (h : H) (q : Option (Nat × Nat)) (l : Nat) (d : Cap), acc' = acc ++ byt w (rd t).1 → Mod [] a h → Grow a h 1 q l d (u8s acc') →
          Ret (words_groups_L1 (n' + 1 + 1 + 1) m (m2 + 1) w (.func f [] []) q l d (rd t).1 (IntKind.i64.wrap (((0 : Nat) : Int) - 1)) p ss.length c ss.length pre.length h) fun r h' => Mod [] a h' ∧ match gout rd w (t :: ts) with | none => ∃ q l d, r = .tup [.slice q l d, .bool false] | some x => ∃ q l d, r = .tup [.slice q l d, .bool true] ∧ Grow a h' 1 q l d (u8s (acc ++ x)) := by
        intro m2 acc' h q l d hacc' hm g
        rw [words_groups_L1_eq, show IntKind.i64.wrap (((0 : Nat) : Int) - 1) = -1 by decide, show decide ((-1 : Int) ≥ 0) = false by decide, cond_false, wrap_succ (by omega), show pre.length + 1 = (pre ++ [t]).length by simp]
        have hb : (byt w (rd t).1).length ≤ 2 := by unfold byt; split <;> simp
        refine (groups_gen hcr hR hn hw row hmax ts (pre ++ [t]) m acc' h q l d (by rw [hx]; simp) (by simp at hl; omega) (by rw [hacc']; simp; omega) hm g).mono fun r h' ⟨q1, q2⟩ => ⟨q1, ?_⟩
        simp only [gout, ht, if_true]
        cases hgo : gout rd w ts with
        | none => rw [hgo] at q2; exact q2
        | some x =>
          rw [hgo] at q2
          obtain ⟨q', l', d', e, q2⟩ := q2
          refine ⟨q', l', d', e, ?_⟩
          rw [hacc', List.append_assoc] at q2
          exact q2
      rcases hw with rfl | rfl
      · rw [show IntKind.i64.wrap (((1 : Nat) : Int) - 1) = ((0 : Nat) : Int) by decide]
        refine push _ 0 acc h1 q l d _ (by omega) (by omega) (hm.trans m1) (g.mod0 m1) fun q' l' d' h' m' g' => ?_
        exact fin _ _ h' q' l' d' rfl m' g'
      · rw [show IntKind.i64.wrap (((2 : Nat) : Int) - 1) = ((1 : Nat) : Int) by decide]
        refine push _ 1 acc h1 q l d _ (by omega) (by omega) (hm.trans m1) (g.mod0 m1) fun q' l' d' h' m' g' => ?_
        rw [show IntKind.i64.wrap (((1 : Nat) : Int) - 1) = ((0 : Nat) : Int) by decide]
        refine push _ 0 _ h' q' l' d' _ (by omega) (by simp; omega) m' g' fun q2 l2 d2 h2 m2 g2 => ?_
        exact fin _ _ h2 q2 l2 d2 (by rw [List.append_assoc]; rfl) m2 g2

def rd10 (s : ByteArray) : Int × Bool := if (numP (bs s)).2 = true then ((numP (bs s)).1, decide ((numP (bs s)).1 ≤ 255)) else ((numP (bs s)).1, false)

theorem read10 (s : ByteArray) {n : Nat} (hn : 21 ≤ n) (h : H) : Ret (ca n i_words_Address_1 [.str s] h) fun r h' => Mod [] h h' ∧ r = enIB (rd10 s) := by
  obtain ⟨n, rfl⟩ : ∃ m, n = m + 1 := ⟨n - 1, by omega⟩
  rw [words_Address_1_eq]
  refine (Number_ret s (by omega) h).bind ?_
  rintro _ h1 ⟨m1, rfl⟩
  simp only [enIB, asTup_tup, lI_of, lB_of, l0_nil]
  unfold rd10
  cases hn : (numP (bs s)).2 with
  | true => rw [cond_true]; exact .pure ⟨m1, by simp⟩
  | false => rw [cond_false]; exact .pure ⟨m1, by simp⟩
theorem read16 (s : ByteArray) {n : Nat} (hn : s.size + 2 < n) (h : H) : Ret (ca n i_words_Address_2 [.str s] h) fun r h' => Mod [] h h' ∧ r = enIB (hexR 1 4 s) := by
  obtain ⟨n, rfl⟩ : ∃ m, n = m + 1 := ⟨n - 1, by omega⟩
  rw [words_Address_2_eq]
  refine (hex_ret s 1 4 (by omega) h).bind ?_
  rintro _ h1 ⟨m1, rfl⟩
  simp only [enIB, asTup_tup, lI_of, lB_of, l0_nil]
  exact .pure ⟨m1, rfl⟩
theorem read2 (s : ByteArray) {n : Nat} (hn : s.size + 2 < n) (h : H) : Ret (ca n i_words_Card_1 [.str s] h) fun r h' => Mod [] h h' ∧ r = enIB (hexR 2 2 s) := by
  obtain ⟨n, rfl⟩ : ∃ m, n = m + 1 := ⟨n - 1, by omega⟩
  rw [words_Card_1_eq]
  refine (hex_ret s 2 2 (by omega) h).bind ?_
  rintro _ h1 ⟨m1, rfl⟩
  simp only [enIB, asTup_tup, lI_of, lB_of, l0_nil]
  exact .pure ⟨m1, rfl⟩

def partsB (c : UInt8) (s : ByteArray) : List ByteArray := (parts c (bs s)).map mk

theorem parts_size {c : UInt8} : ∀ {l p : List UInt8}, p ∈ parts c l → p.length ≤ l.length
  | [], p, h => by simp [parts] at h; subst h; simp
  | b :: l, p, h => by
    unfold parts at h
    split at h
    · rcases List.mem_cons.1 h with rfl | h
      · simp
      · have := parts_size h; simp; omega
    · split at h
      · rename_i q qs hq
        rcases List.mem_cons.1 h with rfl | h
        · have := parts_size (c := c) (l := l) (p := q) (by rw [hq]; simp)
          simp; omega
        · have := parts_size (c := c) (l := l) (p := p) (by rw [hq]; simp [h])
          simp; omega
      · simp at h; subst h; simp

def GrpOk (a h' : H) (r : AV) : Option (List Int) → Prop
  | none => ∃ q l d, r = .tup [.slice q l d, .bool false]
  | some x => ∃ q l d, r = .tup [.slice q l d, .bool true] ∧ Grow a h' 1 q l d (u8s x)

theorem groups_ret {f : Nat} (hcr : ∀ (x : Int) (b : Bool) (k : AV → R), crF T.toTab f (.tup [.int .i64 x, .bool b]) k = k (.tup [.int .i64 x, .bool b])) {rd : ByteArray → Int × Bool} {s : ByteArray} (hs : s.size < 90000) (c : UInt8) {w : Nat} (hw : w = 1 ∨ w = 2)
    (hR : ∀ t : ByteArray, t.size ≤ s.size → ∀ (n : Nat) (h : H), s.size + 59 ≤ n → Ret (ca n f [.str t] h) fun r h' => Mod [] h h' ∧ r = enIB (rd t)) {n : Nat} (hn : s.size + 60 ≤ n) (h : H) :
    Ret (ca n i_words_groups [.str s, .str (mk [c]), .int .i64 w, .func f [] []] h) fun r h' => Mod [] h h' ∧ GrpOk h h' r (gout rd w (partsB c s)) := by
  obtain ⟨n, rfl⟩ : ∃ m, n = m + 1 := ⟨n - 1, by omega⟩
  rw [words_groups_eq]
  refine (Split_ret hs c (by omega) h).bind ?_
  rintro _ h1 ⟨m1, p, d, rfl, row⟩
  simp only [asSlice_slice]
  have hlen : (partsB c s).length = (parts c (bs s)).length := by simp [partsB]
  have hle : (parts c (bs s)).length ≤ s.size + 1 := by rw [parts_len, ← bs_len]; have := List.count_le_length (a := c) (l := bs s); omega
  rw [← hlen] at row ⊢
  refine (groups_gen hcr (rd := rd) (ss := partsB c s) (fun t ht h => hR t (by
    obtain ⟨q, hq, rfl⟩ := List.mem_map.1 ht
    have := parts_size hq; rw [bs_len] at this; rw [size_mk]; omega) n h (by omega)) (by omega) hw row (by omega) (partsB c s) [] n [] h1 none 0 (.known 0) rfl (by omega) (by simp) (.refl _ _) .nil).mono fun r h' ⟨q1, q2⟩ => ⟨m1.trans q1, ?_⟩
  cases hg : gout rd w (partsB c s) with
  | none => rw [hg] at q2; exact q2
  | some x => rw [hg] at q2; obtain ⟨q, l, d, e, q2⟩ := q2; exact ⟨q, l, d, e, q2.base m1.next⟩
theorem groups10 {s : ByteArray} (hs : s.size < 90000) (c : UInt8) {n : Nat} (hn : s.size + 60 ≤ n) (h : H) : Ret (ca n i_words_groups [.str s, .str (mk [c]), .int .i64 1, .func i_words_Address_1 [] []] h) fun r h' => Mod [] h h' ∧ GrpOk h h' r (gout rd10 1 (partsB c s)) :=
  groups_ret (f := i_words_Address_1) (by intro x b k; kernel_rfl) (rd := rd10) hs c (w := 1) (.inl rfl) (fun t ht n h hn => read10 t (by omega) h) hn h
theorem groups16 {s : ByteArray} (hs : s.size < 90000) (c : UInt8) {n : Nat} (hn : s.size + 60 ≤ n) (h : H) : Ret (ca n i_words_groups [.str s, .str (mk [c]), .int .i64 2, .func i_words_Address_2 [] []] h) fun r h' => Mod [] h h' ∧ GrpOk h h' r (gout (hexR 1 4) 2 (partsB c s)) :=
  groups_ret (f := i_words_Address_2) (by intro x b k; kernel_rfl) (rd := (hexR 1 4)) hs c (w := 2) (.inr rfl) (fun t ht n h hn => read16 t (by omega) h) hn h
theorem groups2 {s : ByteArray} (hs : s.size < 90000) (c : UInt8) {n : Nat} (hn : s.size + 60 ≤ n) (h : H) : Ret (ca n i_words_groups [.str s, .str (mk [c]), .int .i64 1, .func i_words_Card_1 [] []] h) fun r h' => Mod [] h h' ∧ GrpOk h h' r (gout (hexR 2 2) 1 (partsB c s)) :=
  groups_ret (f := i_words_Card_1) (by intro x b k; kernel_rfl) (rd := (hexR 2 2)) hs c (w := 1) (.inl rfl) (fun t ht n h hn => read2 t (by omega) h) hn h

end Go.Ev.Tryd

/- What the functions of chapter 17 compute, in plain lists: Address, Card, CardText, All; the law's alive. -/
namespace Go.Ev.Tryd
set_option maxRecDepth 10000
open Go.Proofs

/-! ### Address, Card -/

def GrpO (a h' : H) (q : Option (Nat × Nat)) (l : Nat) (d : Cap) (ok : Bool) : Option (List Int) → Prop
  | none => ok = false
  | some x => ok = true ∧ Grow a h' 1 q l d (u8s x)
theorem GrpOk.open {a h' : H} {r : AV} {o : Option (List Int)} (g : GrpOk a h' r o) : ∃ q l d ok, r = .tup [.slice q l d, .bool ok] ∧ GrpO a h' q l d ok o := by
  cases o with
  | none => obtain ⟨q, l, d, e⟩ := g; exact ⟨q, l, d, _, e, rfl⟩
  | some x => obtain ⟨q, l, d, e, g⟩ := g; exact ⟨q, l, d, _, e, rfl, g⟩
def enSB (r : ByteArray × Bool) : AV := .tup [.str r.1, .bool r.2]
def enRB (r : List AV × Bool) : AV := .tup [.agg r.1, .bool r.2]

def sixP (s : ByteArray) : ByteArray × Bool := match gout (hexR 1 4) 2 (partsB 58 s) with | some y => if y.length = 16 then (strOfNums y, true) else (⟨#[]⟩, false) | none => (⟨#[]⟩, false)
def adrP (s : ByteArray) : ByteArray × Bool := match gout rd10 1 (partsB 46 s) with | some x => if x.length = 4 then (strOfNums x, true) else sixP s | none => sixP s

theorem Address_ret {s : ByteArray} (hs : s.size < 90000) {n : Nat} (hn : s.size + 61 ≤ n) (h : H) : Ret (ca n i_words_Address [.str s] h) fun r h' => Mod [] h h' ∧ r = enSB (adrP s) := by
  obtain ⟨n, rfl⟩ : ∃ m, n = m + 1 := ⟨n - 1, by omega⟩
  rw [words_Address_eq]
  refine (groups10 hs 46 (by omega) h).bind ?_
  rintro _ h1 ⟨m1, g1⟩
  replace g1 := g1.open
  obtain ⟨p, l, c, ok, rfl, g1⟩ := g1
  simp only [asTup_tup, lL_of, lB_of, l0_nil]
  have six : Ret (words_Address_J0 n s p l c false h1) fun r h' => Mod [] h h' ∧ r = enSB (sixP s) := by
    rw [words_Address_J0_eq, cond_false]
    refine (groups16 hs 58 (by omega) h1).bind ?_
    rintro _ h2 ⟨m2, g2⟩
    replace g2 := g2.open
    obtain ⟨p2, l2, c2, ok2, rfl, g2⟩ := g2
    simp only [asTup_tup, lL_of, lB_of, l0_nil]
    unfold sixP
    cases hg : gout (hexR 1 4) 2 (partsB 58 s) with
    | none =>
      rw [hg] at g2
      obtain rfl : ok2 = false := g2
      rw [cond_false, words_Address_J1_eq, cond_false]
      exact .pure ⟨m1.trans m2, rfl⟩
    | some y =>
      rw [hg] at g2
      obtain ⟨h3, g3⟩ := g2
      skip
      subst h3
      obtain rfl := g3.row.len1
      rw [cond_true, words_Address_J1_eq]
      by_cases h16 : y.length = 16
      · rw [h16, show ((Nat.cast 16 : Int) == 16) = true by decide, cond_true, bsK_of (by rw [h16] at g3; exact g3.row.sl)]
        exact .pure ⟨m1.trans m2, by simp [enSB, h16]⟩
      · rw [show (((y.length : Nat) : Int) == 16) = false by simp; omega, cond_false]
        exact .pure ⟨m1.trans m2, by simp [enSB, h16]⟩
  unfold adrP
  cases hg : gout rd10 1 (partsB 46 s) with
  | none =>
    rw [hg] at g1
    obtain rfl : ok = false := g1
    rw [cond_false]
    exact six
  | some x =>
    rw [hg] at g1
    obtain ⟨h3, g3⟩ := g1
    skip
    subst h3
    obtain rfl := g3.row.len1
    rw [cond_true]
    by_cases h4 : x.length = 4
    · rw [h4, show ((Nat.cast 4 : Int) == 4) = true by decide, words_Address_J0_eq, cond_true, bsK_of (by rw [h4] at g3; exact g3.row.sl)]
      exact .pure ⟨m1, by simp [enSB, h4]⟩
    · rw [show (((x.length : Nat) : Int) == 4) = false by simp; omega]
      simp only [h4, if_false]
      exact six

def cardP (s : ByteArray) : List Int × Bool := match gout (hexR 2 2) 1 (partsB 58 s) with | some x => if x.length = 6 then (x, true) else ([0, 0, 0, 0, 0, 0], false) | none => ([0, 0, 0, 0, 0, 0], false)

theorem u8s_cell (l : List Int) : (u8s l).all isCell = true := by simp [u8s, isCell]

theorem Card_ret {s : ByteArray} (hs : s.size < 90000) {n : Nat} (hn : s.size + 61 ≤ n) (h : H) : Ret (ca n i_words_Card [.str s] h) fun r h' => Mod [] h h' ∧ r = enRB (u8s (cardP s).1, (cardP s).2) := by
  obtain ⟨n, rfl⟩ : ∃ m, n = m + 1 := ⟨n - 1, by omega⟩
  rw [words_Card_eq]
  simp only [newK_eq]
  have m0 : Mod [] h (h.new (.cells (u8s [0, 0, 0, 0, 0, 0]) false)) := (Mod.refl _ _).new _
  have g0 : (h.new (.cells (u8s [0, 0, 0, 0, 0, 0]) false)).get h.next = some (.cells (u8s [0, 0, 0, 0, 0, 0]) false) := get_new_self _ _
  have l0 : h.next < (h.new (.cells (u8s [0, 0, 0, 0, 0, 0]) false)).next := by simp
  change Ret (Option.bind (ca n i_words_groups [.str s, .str (mk [58]), .int .i64 1, .func i_words_Card_1 [] []] (h.new (.cells (u8s [0, 0, 0, 0, 0, 0]) false))) _) _
  generalize h.new (.cells (u8s [0, 0, 0, 0, 0, 0]) false) = h0 at *
  refine (groups2 hs 58 (by omega) h0).bind ?_
  rintro _ h1 ⟨m1, g1⟩
  replace g1 := g1.open
  obtain ⟨p, l, c, ok, rfl, g1⟩ := g1
  simp only [asTup_tup, lL_of, lB_of, l0_nil]
  have gb := (m1.get _ l0 (by simp)).trans g0
  have bad : Ret (words_Card_J0 n (some (h.next, 0)) p l c true h1) fun r h' => Mod [] h h' ∧ r = enRB (u8s [0, 0, 0, 0, 0, 0], false) := by
    rw [words_Card_J0_eq, cond_true]
    simp only [nnK_some']
    rw [wrK_of (n := 6) gb rfl (by simp) rfl, spl_all _ _ (by simp), aggK_all (n := 6) (get_set_self _ _ _) rfl]
    exact .pure ⟨(m0.trans m1).set (.inl (Nat.le_refl _)) _, rfl⟩
  unfold cardP
  cases hg : gout (hexR 2 2) 1 (partsB 58 s) with
  | none =>
    rw [hg] at g1
    obtain rfl : ok = false := g1
    rw [Bool.not_false, cond_true]
    exact bad
  | some x =>
    rw [hg] at g1
    obtain ⟨h3, g3⟩ := g1
    skip
    subst h3
    obtain rfl := g3.row.len1
    rw [Bool.not_true, cond_false]
    by_cases h6 : x.length = 6
    · rw [h6, show ((Nat.cast 6 : Int) != 6) = false by decide, words_Card_J0_eq, cond_false, if_pos ⟨by omega, by omega⟩]
      rw [h6] at g3
      rcases g3.look with ⟨_, h0', _⟩ | ⟨b, rfl, hb1, hb2, hb3, hb4, hb5⟩
      · cases h0'
      · simp only [nnK_some']
        rw [aggK_all (n := 6) hb3 (by simpa using h6), wrK_of (n := 6) gb (by simpa using h6) (by simp) (u8s_cell x), spl_all _ _ (by simpa using h6), aggK_all (n := 6) (get_set_self _ _ _) (by simpa using h6)]
        exact .pure ⟨(m0.trans m1).set (.inl (Nat.le_refl _)) _, by simp [enRB, h6]⟩
    · rw [show (((x.length : Nat) : Int) != 6) = true by simp; omega]
      simp only [h6, if_false]
      exact bad

/-! ### CardText -/

abbrev HEX : ByteArray := s_68c4f033
def hx2 (x : Int) : ByteArray := HEX.extract (x / 16).toNat (x / 16 + 1).toNat ++ HEX.extract (x % 16).toNat (x % 16 + 1).toNat
theorem nibbles {x : Int} (h0 : 0 ≤ x) (h1 : x < 256) : ishr .u8 x 4 = x / 16 ∧ iand .u8 x 15 = x % 16 := by
  have : ∀ k : Fin 256, ishr .u8 (k.val : Int) 4 = (k.val : Int) / 16 ∧ iand .u8 (k.val : Int) 15 = (k.val : Int) % 16 := by decide +kernel
  obtain ⟨m, rfl⟩ := Int.eq_ofNat_of_zero_le h0
  exact this ⟨m, by omega⟩

theorem size_extract_le (s : ByteArray) (a b : Nat) : (s.extract a b).size ≤ s.size := by
  rw [← bs_len, bs_extract, ← bs_len]; simp; omega

theorem CardText_loop {a : H} {m : List Int} (hm6 : m.length = 6) (hb : ∀ x ∈ m, 0 ≤ x ∧ x < 256) (n : Nat) (hn1 : 1 ≤ n) : ∀ (ts pre : List Int) (k : Nat) (h : H) (p : Option (Nat × Nat)) (c : Cap), m = pre ++ ts → ts.length < k → Mod [] a h → Grow a h 1 p pre.length c ((pre.map hx2).map AV.str) →
    Ret (words_CardText_L0 n k p pre.length c (u8s m) pre.length h) fun r h' => Mod [] a h' ∧ r = .str (joinS (m.map hx2) (mk [58]))
  | [], pre, k + 1, h, p, c, hx, _, hm, g => by
    have : pre.length = 6 := by rw [← hm6, hx]; simp
    rw [words_CardText_L0_eq, show decide (((pre.length : Nat) : Int) < 6) = false by simp; omega, cond_false]
    obtain ⟨n, rfl⟩ : ∃ k, n = k + 1 := ⟨n - 1, by omega⟩
    rw [strings_Join_eq, strings_Join_32_eq]
    rw [List.append_nil] at hx
    subst hx
    change Ret (Option.bind (Option.bind (joinF p m.length c (mk [58]) h) _) _) _
    have hlen : (Lib.join ((m.map hx2).map (·.data.toList)) (mk [58]).data.toList).length ≤ 140737488355328 := by
      have h1 : ∀ l : List Int, l.length ≤ 6 → ((l.map hx2).map (·.data.toList)).flatten.length ≤ 32 * l.length := by
        intro l
        induction l with
        | nil => simp
        | cons x l ih =>
          intro hl
          have h2 : (hx2 x).data.toList.length ≤ 32 := by
            show (bs (hx2 x)).length ≤ 32
            unfold hx2
            rw [bs_append, List.length_append, bs_len, bs_len]
            have h3 := size_extract_le HEX (x / 16).toNat (x / 16 + 1).toNat
            have h4 := size_extract_le HEX (x % 16).toNat (x % 16 + 1).toNat
            have h5 : HEX.size = 16 := rfl
            omega
          have := ih (by simp at hl; omega)
          simp only [List.map_cons, List.flatten_cons, List.length_append, List.length_cons]
          omega
      have h2 : ∀ l : List (List UInt8), (Lib.join l [58]).length ≤ l.flatten.length + l.length := by
        intro l
        unfold Lib.join
        induction l with
        | nil => simp
        | cons x l ih =>
          cases l with
          | nil => simp
          | cons y l =>
            rw [List.intercalate_cons_cons]
            simp only [List.length_append, List.flatten_cons, List.length_cons, List.length_nil] at ih ⊢
            omega
      have h3 := h1 m (by omega)
      have h4 := h2 ((m.map hx2).map (·.data.toList))
      have h5 : (mk [58]).data.toList = [58] := rfl
      rw [h5]
      simp only [List.length_map] at h4
      omega
    rw [joinF_of g.row (by simp; omega) hlen, Option.bind_some, Option.bind_some]
    simp only [asStr_str]
    exact .pure ⟨hm, rfl⟩
  | t :: ts, pre, k + 1, h, p, c, hx, hl, hm, g => by
    have hpl : pre.length < 6 := by rw [← hm6, hx]; simp
    have ht := hb t (by rw [hx]; simp)
    have hn := nibbles ht.1 ht.2
    rw [words_CardText_L0_eq, show decide (((pre.length : Nat) : Int) < 6) = true by simp; omega, cond_true, if_pos ⟨by omega, by omega⟩, Nat.zero_add, atK_of (v := .int .u8 t) (by rw [List.getElem?_map, hx]; simp), asInt_int, hn.1, hn.2]
    rw [wrap_u8 (x := t / 16 + 1) (by omega) (by omega), wrap_u8 (x := t % 16 + 1) (by omega) (by omega)]
    rw [bnd_both (s := HEX) (by omega) (by omega) (by show t / 16 + 1 ≤ 16; omega), bnd_both (s := HEX) (by omega) (by omega) (by show t % 16 + 1 ≤ 16; omega)]
    have hcat : ∀ f : ByteArray → R, catK (HEX.extract (t / 16).toNat (t / 16 + 1).toNat) (HEX.extract (t % 16).toNat (t % 16 + 1).toNat) f = f (hx2 t) := fun f => by
      unfold catK
      have h3 := size_extract_le HEX (t / 16).toNat (t / 16 + 1).toNat
      have h4 := size_extract_le HEX (t % 16).toNat (t % 16 + 1).toNat
      have h5 : HEX.size = 16 := rfl
      rw [if_neg (by omega)]
      rfl
    rw [hcat]
    simp only [newK_eq]
    refine g.push hm.next rfl rfl (by decide) (by omega) (by omega) fun p' c' h' g' m' => ?_
    rw [wrap_succ (by omega), show pre.length + 1 = (pre ++ [t]).length by simp]
    refine CardText_loop hm6 hb n hn1 ts (pre ++ [t]) k h' p' c' (by rw [hx]; simp) (by simp at hl; omega) (hm.push g m') (by simpa using g')

theorem CardText_ret {m : List Int} (hm6 : m.length = 6) (hb : ∀ x ∈ m, 0 ≤ x ∧ x < 256) {n : Nat} (hn : 11 ≤ n) (h : H) : Ret (ca n i_words_CardText [.agg (u8s m)] h) fun r h' => Mod [] h h' ∧ r = .str (joinS (m.map hx2) (mk [58])) := by
  obtain ⟨n, rfl⟩ : ∃ m, n = m + 1 := ⟨n - 1, by omega⟩
  rw [words_CardText_eq]
  simp only [newK_eq]
  have m0 : Mod [] h (h.new (.cells (u8s m) false)) := (Mod.refl _ _).new _
  rw [aggK_all (n := 6) (get_new_self _ _) (by simpa using hm6)]
  exact (CardText_loop hm6 hb n (by omega) m [] n _ none (.known 0) rfl (by omega) (.refl _ _) .nil).mono fun r h' ⟨q1, q2⟩ => ⟨m0.trans q1, q2⟩

end Go.Ev.Tryd

/- What the functions of chapter 17 compute, in plain lists: All; the law's alive; the law WordsNumbers. -/
namespace Go.Ev.Tryd
set_option maxRecDepth 10000
open Go.Proofs

/-! ### the reader -/

abbrev Wd := ByteArray × Int × Int
def encW (w : Wd) : List AV := [.str w.1, .int .i64 w.2.1, .int .i64 w.2.2]
theorem encW_len : ∀ x, (encW x).length = 3 := fun _ => rfl

structure Rd where
  l : List Wd
  line : Int
  from' : Int
  some' : Bool
  note : Bool

structure RdRep (a h : H) (b : Nat) (s : ByteArray) (st : Rd) : Prop where
  lb : b < a.next
  m : Mod [b] a h
  obj : ∃ p n c, h.get b = some (.cells [.str s, .slice p n c, .int .i64 st.line, .int .i64 st.from', .bool st.some', .bool st.note] false) ∧ Grow a h 3 p n c (st.l.flatMap encW)

def cut (s : ByteArray) (x y : Int) : ByteArray := mk (((bs s).drop x.toNat).take (y.toNat - x.toNat))
def endP (s : ByteArray) (st : Rd) (k : Int) : Rd × Bool :=
  if st.from' < 0 then (st, true) else ({ st with l := st.l ++ [(cut s st.from' k, st.from', st.line)], some' := true, from' := -1 }, decide ((cut s st.from' k).size ≤ 60))
def stopP (st : Rd) (k : Int) : Rd := { st with l := if st.some' = true then st.l ++ [(mk [10], k, st.line)] else st.l, some' := false, note := false, line := st.line + 1 }
def takeP (s : ByteArray) (st : Rd) (c : Int) (k : Int) : Rd × Bool :=
  if c = 10 then (stopP (endP s st k).1 k, (endP s st k).2)
  else if st.note = true then (st, true)
  else if c = 35 then ({ (endP s st k).1 with note := true }, (endP s st k).2)
  else if c = 32 ∨ c = 9 ∨ c = 13 then endP s st k
  else if c = 123 ∨ c = 125 then ((endP s { (endP s st k).1 with from' := k } (k + 1)).1, (endP s st k).2)
  else if st.from' < 0 then ({ st with from' := k }, true)
  else (st, true)
def mayP (c : Int) : Bool := decide (c = 9) || decide (c = 10) || decide (c = 13) || (decide (32 ≤ c) && decide (c ≤ 126))

theorem extract_cut {s : ByteArray} {x y : Int} : s.extract x.toNat y.toNat = cut s x y := bs_inj (by rw [bs_extract]; unfold cut; rw [bs_mk])

theorem push_word {a h : H} {b : Nat} {s : ByteArray} {line from' : Int} {some' note : Bool} {p : Option (Nat × Nat)} {nn : Nat} {c : Cap} {l : List Wd} (lb : b < a.next) (m : Mod [b] a h) (hg : h.get b = some (.cells [.str s, .slice p nn c, .int .i64 line, .int .i64 from', .bool some', .bool note] false)) (g : Grow a h 3 p nn c (l.flatMap encW)) (hl : l.length < 1000000000) (w : Wd)
    {α : Type} {f : Option (Nat × Nat) → Nat → Cap → H → Option (α × H)} {Q : α → H → Prop}
    (k : ∀ p' n' c' h', Mod [b] a h' → Mod (own p) h h' → h'.get b = some (.cells [.str s, .slice p nn c, .int .i64 line, .int .i64 from', .bool some', .bool note] false) → Grow a h' 3 p' n' c' ((l ++ [w]).flatMap encW) → Ret (f p' n' c' h') Q) :
    Ret (appK 3 32 p nn c (evSrc 3 (.slice (some (h.next, 0)) 1 (.known 1)) (h.new (.cells (encW w) false))) (h.new (.cells (encW w) false)) f) Q := by
  have hlen := g.row.len encW_len (by decide)
  refine g.push m.next rfl rfl (by decide) (by omega) (by omega) fun p' c' h' g' m' => ?_
  refine k p' _ c' h' (m.push g m') m' ((m'.get _ (m.lt lb) fun hi => ?_).trans hg) (by rw [List.flatMap_append]; simpa using g')
  have := (g.own_ge b hi).1; omega

theorem end_ret {a h : H} {b : Nat} {s : ByteArray} {st : Rd} (r : RdRep a h b s st) {k : Int} (h1 : -1 ≤ st.from') (h2 : st.from' ≤ k) (h3 : k ≤ s.size) (h4 : st.l.length < 1000000000) (n : Nat) :
    Ret (ca (n + 1) i_words_reader_end [.ptr (some (b, 0)), .int .i64 k] h) fun x h' => x = .bool (endP s st k).2 ∧ RdRep a h' b s (endP s st k).1 := by
  obtain ⟨lb, hm, p, nn, c, hg, g⟩ := r
  rw [words_reader_end_eq]
  simp only [nnK_some', Nat.zero_add]
  rw [cellK_of hg (o := 3) rfl, asInt_int]
  unfold endP
  by_cases h0 : st.from' < 0
  · rw [decide_eq_true h0, cond_true, if_pos h0]
    exact .pure ⟨rfl, lb, hm, p, nn, c, hg, g⟩
  · rw [decide_eq_false h0, cond_false, if_neg h0, cellK_of hg (o := 0) rfl, asStr_str, cellK_of hg (o := 3) rfl, asInt_int, bnd_both (by omega) h2 h3, cellK_of hg (o := 3) rfl, asInt_int, cellK_of hg (o := 2) rfl, asInt_int, extract_cut, newK_eq, box_wr (n := 3) rfl rfl rfl]
    have m1 : Mod [] h (h.new (.cells [.str (cut s st.from' k), .int .i64 st.from', .int .i64 st.line] false)) := (Mod.refl _ _).new _
    have gx : (h.new (.cells [.str (cut s st.from' k), .int .i64 st.from', .int .i64 st.line] false)).get h.next = some (.cells [.str (cut s st.from' k), .int .i64 st.from', .int .i64 st.line] false) := get_new_self _ _
    have lx : h.next < (h.new (.cells [.str (cut s st.from' k), .int .i64 st.from', .int .i64 st.line] false)).next := by simp
    have hbn := hm.lt lb
    have hg1 := (m1.get _ hbn (by simp)).trans hg
    have g1 := g.mod0 m1
    have hm1 : Mod [b] a _ := hm.trans m1.of_nil
    have hno : h.next ∉ own p := fun hi => by have := (g.own_ge _ hi).2; omega
    generalize h.new (.cells [.str (cut s st.from' k), .int .i64 st.from', .int .i64 st.line] false) = h5 at *
    rw [cellK_of hg1 (o := 1) rfl, asSlice_slice, aggK_all (n := 3) gx rfl]
    simp only [lS_of, lI_of, l0_nil, newK_eq]
    refine push_word lb hm1 hg1 g1 h4 (cut s st.from' k, st.from', st.line) fun p' n' c' h' hm' m' hg' g' => ?_
    have gx' := (m'.get _ lx hno).trans gx
    have hb' : b ∉ own p' := fun hi => by have := (g'.own_ge b hi).1; omega
    rw [wrK_one hg' (by simp) rfl, wrK_one (get_set_self _ _ _) (by simp) rfl, wrK_one (get_set_self _ _ _) (by simp) rfl]
    simp only [List.set_cons_succ, List.set_cons_zero, set_set]
    rw [cellK_of ((get_set_ne (by omega)).trans gx') (o := 0) rfl, asStr_str]
    have m2 : Mod [b] h' (h'.set b (.cells [.str s, .slice p' n' c', .int .i64 st.line, .int .i64 (-1), .bool true, .bool st.note] false)) := (Mod.refl _ _).set (.inr (by simp)) _
    refine .pure ⟨?_, lb, hm'.trans m2, p', n', c', get_set_self _ _ _, g'.mod m2 fun i hi => by simp; exact fun e => hb' (e ▸ hi)⟩
    congr 1
    rw [decide_eq_decide]
    omega

theorem stop_ret {a h : H} {b : Nat} {s : ByteArray} {st : Rd} (r : RdRep a h b s st) {k : Int} (h4 : st.l.length < 1000000000) (h5 : 0 ≤ st.line) (h6 : st.line < 1000000000) (n : Nat) :
    Ret (ca (n + 1) i_words_reader_stop [.ptr (some (b, 0)), .int .i64 k] h) fun r h' => r = .tup [] ∧ RdRep a h' b s (stopP st k) := by
  obtain ⟨lb, hm, p, nn, c, hg, g⟩ := r
  have fin : ∀ (h' : H) (p' : Option (Nat × Nat)) (n' : Nat) (c' : Cap) (l : List Wd) (sm : Bool), Mod [b] a h' → h'.get b = some (.cells [.str s, .slice p' n' c', .int .i64 st.line, .int .i64 st.from', .bool sm, .bool st.note] false) → Grow a h' 3 p' n' c' (l.flatMap encW) →
      Ret (words_reader_stop_J0 n (some (b, 0)) h') fun r h' => r = .tup [] ∧ RdRep a h' b s { st with l := l, some' := false, note := false, line := st.line + 1 } := by
    intro h' p' n' c' l sm hm' hg' g'
    have hb' : b ∉ own p' := fun hi => by have := (g'.own_ge b hi).1; omega
    rw [words_reader_stop_J0_eq]
    simp only [nnK_some', Nat.zero_add]
    rw [wrK_one hg' (by simp) rfl, wrK_one (get_set_self _ _ _) (by simp) rfl]
    simp only [List.set_cons_succ, List.set_cons_zero, set_set]
    rw [cellK_of (get_set_self _ _ _) (o := 2) rfl, asInt_int, wrK_one (get_set_self _ _ _) (by simp) rfl, wrap_i64 (by omega) (by omega)]
    simp only [List.set_cons_succ, List.set_cons_zero, set_set]
    have m2 : Mod [b] h' (h'.set b (.cells [.str s, .slice p' n' c', .int .i64 (st.line + 1), .int .i64 st.from', .bool false, .bool false] false)) := (Mod.refl _ _).set (.inr (by simp)) _
    exact .pure ⟨rfl, lb, hm'.trans m2, p', n', c', get_set_self _ _ _, g'.mod m2 fun i hi => by simp; exact fun e => hb' (e ▸ hi)⟩
  rw [words_reader_stop_eq]
  simp only [nnK_some', Nat.zero_add]
  rw [cellK_of hg (o := 4) rfl, asBool_bool]
  unfold stopP
  cases hs : st.some' with
  | false =>
    rw [cond_false]
    rw [hs] at hg
    simpa using fin h p nn c st.l false hm hg g
  | true =>
    rw [cond_true, cellK_of hg (o := 1) rfl, asSlice_slice, cellK_of hg (o := 2) rfl, asInt_int, newK_eq]
    refine push_word lb hm hg g h4 (mk [10], k, st.line) fun p' n' c' h' hm' m' hg' g' => ?_
    have hb' : b ∉ own p' := fun hi => by have := (g'.own_ge b hi).1; omega
    rw [wrK_one hg' (by simp) rfl]
    simp only [List.set_cons_succ, List.set_cons_zero]
    have m2 : Mod [b] h' (h'.set b (.cells [.str s, .slice p' n' c', .int .i64 st.line, .int .i64 st.from', .bool st.some', .bool st.note] false)) := (Mod.refl _ _).set (.inr (by simp)) _
    simpa using fin _ p' n' c' (st.l ++ [(mk [10], k, st.line)]) st.some' (hm'.trans m2) (get_set_self _ _ _) (g'.mod m2 fun i hi => by simp; exact fun e => hb' (e ▸ hi))

theorem RdRep.from {a h : H} {b : Nat} {s : ByteArray} {st : Rd} (r : RdRep a h b s st) (k : Int) {β : Type} (f : H → Option β) :
    ∃ h', wrK h b 3 1 [.int .i64 k] f = f h' ∧ RdRep a h' b s { st with from' := k } := by
  obtain ⟨lb, hm, p, nn, c, hg, g⟩ := r
  refine ⟨_, wrK_one hg (by simp) rfl f, ?_⟩
  simp only [List.set_cons_succ, List.set_cons_zero]
  have hb' : b ∉ own p := fun hi => by have := (g.own_ge b hi).1; omega
  have m2 : Mod [b] h (h.set b (.cells [.str s, .slice p nn c, .int .i64 st.line, .int .i64 k, .bool st.some', .bool st.note] false)) := (Mod.refl _ _).set (.inr (by simp)) _
  exact ⟨lb, hm.trans m2, p, nn, c, get_set_self _ _ _, g.mod m2 fun i hi => by simp; exact fun e => hb' (e ▸ hi)⟩
theorem RdRep.setNote {a h : H} {b : Nat} {s : ByteArray} {st : Rd} (r : RdRep a h b s st) (k : Bool) {β : Type} (f : H → Option β) :
    ∃ h', wrK h b 5 1 [.bool k] f = f h' ∧ RdRep a h' b s { st with note := k } := by
  obtain ⟨lb, hm, p, nn, c, hg, g⟩ := r
  refine ⟨_, wrK_one hg (by simp) rfl f, ?_⟩
  simp only [List.set_cons_succ, List.set_cons_zero]
  have hb' : b ∉ own p := fun hi => by have := (g.own_ge b hi).1; omega
  have m2 : Mod [b] h (h.set b (.cells [.str s, .slice p nn c, .int .i64 st.line, .int .i64 st.from', .bool st.some', .bool k] false)) := (Mod.refl _ _).set (.inr (by simp)) _
  exact ⟨lb, hm.trans m2, p, nn, c, get_set_self _ _ _, g.mod m2 fun i hi => by simp; exact fun e => hb' (e ▸ hi)⟩

end Go.Ev.Tryd

/- What the functions of chapter 17 compute, in plain lists: All whole; the law's alive; the law WordsNumbers. -/
namespace Go.Ev.Tryd
set_option maxRecDepth 10000
open Go.Proofs

theorem cond_of_true {α : Type} {b : Bool} (h : b = true) (x y : α) : cond b x y = x := by rw [h]; rfl
theorem cond_of_false {α : Type} {b : Bool} (h : b = false) (x y : α) : cond b x y = y := by rw [h]; rfl

theorem endP_len (s : ByteArray) (st : Rd) (k : Int) : (endP s st k).1.l.length ≤ st.l.length + 1 ∧ (endP s st k).1.line = st.line := by
  unfold endP; split <;> simp
theorem endP_from (s : ByteArray) (st : Rd) (k : Int) : (endP s st k).1.from' = st.from' ∨ (endP s st k).1.from' = -1 := by
  unfold endP; split <;> simp

theorem take_ret {a h : H} {b : Nat} {s : ByteArray} {st : Rd} (r : RdRep a h b s st) {k : Int} (h1 : -1 ≤ st.from') (h2 : st.from' ≤ k) (h0 : 0 ≤ k) (h3 : k + 1 ≤ s.size) (h4 : st.l.length < 900000000) (h5 : 0 ≤ st.line) (h6 : st.line < 100000000) (hs : s.size < 100000000) (c : Int) (n : Nat) :
    Ret (ca (n + 2) i_words_reader_take [.ptr (some (b, 0)), .int .u8 c, .int .i64 k] h) fun x h' => x = .bool (takeP s st c k).2 ∧ RdRep a h' b s (takeP s st c k).1 := by
  have hl := endP_len s st k
  have e1 := end_ret r h1 h2 (by omega) (by omega) n
  rw [words_reader_take_eq]
  unfold takeP
  by_cases c10 : c = 10
  · rw [show (c == 10) = true by simpa using c10, cond_true, if_pos c10]
    refine e1.bind ?_
    rintro _ h1' ⟨rfl, r1⟩
    simp only [asBool_bool]
    refine (stop_ret r1 (k := k) (by omega) (by omega) (by omega) n).bind ?_
    rintro _ h2' ⟨rfl, r2⟩
    simp only [asTup_tup, l0_nil]
    exact .pure ⟨rfl, r2⟩
  rw [show (c == 10) = false by simpa using c10, cond_false, if_neg c10]
  obtain ⟨lb, hm, p, nn, cc, hg, g⟩ := r
  have r : RdRep a h b s st := ⟨lb, hm, p, nn, cc, hg, g⟩
  simp only [nnK_some', Nat.zero_add]
  rw [cellK_of hg (o := 5) rfl, asBool_bool]
  by_cases hnote : st.note = true
  · rw [cond_of_true hnote, if_pos hnote]
    exact .pure ⟨rfl, r⟩
  · rw [cond_of_false (by simpa using hnote), if_neg hnote]
    by_cases c35 : c = 35
    · rw [show (c == 35) = true by simpa using c35, cond_true, if_pos c35]
      refine e1.bind ?_
      rintro _ h1' ⟨rfl, r1⟩
      obtain ⟨h2', e, r2⟩ := r1.setNote true (fun h10 => (some (.bool (endP s st k).2, h10) : R))
      simp only [asBool_bool]
      rw [e]
      exact .pure ⟨rfl, r2⟩
    rw [show (c == 35) = false by simpa using c35, cond_false, if_neg c35]
    have j0t : Ret (words_reader_take_J0 (n + 1) (some (b, 0)) c k true true h) fun x h' => x = .bool (endP s st k).2 ∧ RdRep a h' b s (endP s st k).1 := by
      rw [words_reader_take_J0_eq, cond_true]
      refine e1.bind ?_
      rintro _ h1' ⟨rfl, r1⟩
      simp only [asBool_bool]
      exact .pure ⟨rfl, r1⟩
    by_cases c32 : c = 32
    · rw [show (c == 32) = true by simpa using c32, cond_true, if_pos (.inl c32)]
      exact j0t
    rw [show (c == 32) = false by simpa using c32, cond_false]
    by_cases c9 : c = 9
    · rw [show (c == 9) = true by simpa using c9, cond_true, if_pos (.inr (.inl c9))]
      exact j0t
    rw [show (c == 9) = false by simpa using c9, cond_false]
    by_cases c13 : c = 13
    · rw [show (c == 13) = true by simpa using c13, if_pos (.inr (.inr c13))]
      exact j0t
    rw [show (c == 13) = false by simpa using c13, if_neg (by simp [c32, c9, c13]), words_reader_take_J0_eq, cond_false]
    have j1t : Ret (words_reader_take_J1 (n + 1) (some (b, 0)) k true true h) fun x h' => x = .bool (endP s st k).2 ∧ RdRep a h' b s (endP s { (endP s st k).1 with from' := k } (k + 1)).1 := by
      rw [words_reader_take_J1_eq, cond_true]
      refine e1.bind ?_
      rintro _ h1' ⟨rfl, r1⟩
      simp only [nnK_some', Nat.zero_add, asBool_bool]
      obtain ⟨h2', e, r2⟩ := r1.from k (fun h15 => ((ca (n + 1) i_words_reader_end [.ptr (some (b, 0)), .int .i64 (IntKind.i64.wrap (k + 1))] h15).bind fun q => asBool q.1 fun x22 => some (.bool (endP s st k).2, q.2) : R))
      rw [e, wrap_i64 (by omega) (by omega)]
      refine (end_ret r2 (k := k + 1) (by first | omega | (simp only; omega)) (by first | omega | (simp only; omega)) h3 (by first | omega | (simp only; omega)) n).bind ?_
      rintro _ h3' ⟨rfl, r3⟩
      simp only [asBool_bool]
      exact .pure ⟨rfl, r3⟩
    by_cases c123 : c = 123
    · rw [show (c == 123) = true by simpa using c123, cond_true, if_pos (.inl c123)]
      exact j1t
    rw [show (c == 123) = false by simpa using c123, cond_false]
    by_cases c125 : c = 125
    · rw [show (c == 125) = true by simpa using c125, if_pos (.inr c125)]
      exact j1t
    rw [show (c == 125) = false by simpa using c125, if_neg (by simp [c123, c125]), words_reader_take_J1_eq, cond_false]
    simp only [nnK_some', Nat.zero_add]
    rw [cellK_of hg (o := 3) rfl, asInt_int]
    by_cases hf : st.from' < 0
    · rw [decide_eq_true hf, cond_true, if_pos hf]
      obtain ⟨h2', e, r2⟩ := r.from k (fun h23 => (some (.bool true, h23) : R))
      rw [e]
      exact .pure ⟨rfl, r2⟩
    · rw [decide_eq_false hf, cond_false, if_neg hf]
      exact .pure ⟨rfl, r⟩

/-! ### All -/

def allL (s : ByteArray) (st : Rd) (k : Int) : List UInt8 → (List Wd) ⊕ Int
  | [] => if (endP s st k).2 = true then .inl (stopP (endP s st k).1 k).l else .inr st.from'
  | c :: l => if 0 ≤ st.from' ∧ 60 < k - st.from' then .inr st.from'
    else if mayP c.toNat = true then (if (takeP s st c.toNat k).2 = true then allL s (takeP s st c.toNat k).1 (k + 1) l else .inr st.from') else .inr k
def rd0 : Rd := ⟨[], 1, -1, false, false⟩
def allP (s : ByteArray) : (List Wd) ⊕ Int := allL s rd0 0 (bs s)

theorem may_eq (n : Nat) (c : Int) (h : H) : ca (n + 1) i_words_may [.int .u8 c] h = some (.bool (mayP c), h) := by
  rw [words_may_eq]
  unfold mayP
  by_cases c9 : c = 9
  · simp [c9]
  by_cases c10 : c = 10
  · simp [c10]
  by_cases c13 : c = 13
  · simp [c13]
  rw [show (c == 9) = false by simpa using c9, show (c == 10) = false by simpa using c10, show (c == 13) = false by simpa using c13, cond_false, cond_false, cond_false, decide_eq_false c9, decide_eq_false c10, decide_eq_false c13]
  by_cases h32 : 32 ≤ c
  · rw [decide_eq_true (show c ≥ 32 from h32), cond_true]; rfl
  · rw [decide_eq_false (show ¬ c ≥ 32 from h32), cond_false]; rfl

def AllOk (a h' : H) (r : AV) : (List Wd) ⊕ Int → Prop
  | .inl l => ∃ p c, r = .tup [.slice p l.length c, .int .i64 0, .int .i64 0] ∧ Grow a h' 3 p l.length c (l.flatMap encW)
  | .inr k => r = .tup [.slice none 0 (.known 0), .int .i64 k, .int .i64 170]

structure StOk (st : Rd) (k : Int) : Prop where
  f0 : -1 ≤ st.from'
  fk : st.from' ≤ k
  len : (st.l.length : Int) ≤ 4 * k
  line : 0 ≤ st.line
  line2 : st.line ≤ k + 1

theorem endP_ok {s : ByteArray} {st : Rd} {k : Int} (h : StOk st k) (j : Int) : -1 ≤ (endP s st j).1.from' ∧ (endP s st j).1.from' ≤ k := by
  have := h.f0; have := h.fk
  rcases endP_from s st j with e | e <;> rw [e] <;> omega

theorem takeP_ok {s : ByteArray} {st : Rd} {k : Int} (h0 : 0 ≤ k) (h : StOk st k) (c : Int) : StOk (takeP s st c k).1 (k + 1) := by
  obtain ⟨f0, fk, hl, l1, l2⟩ := h
  have he := endP_len s st k
  have hf := endP_ok (s := s) ⟨f0, fk, hl, l1, l2⟩ k
  have he2 := endP_len s { (endP s st k).1 with from' := k } (k + 1)
  have hf2 := endP_from s { (endP s st k).1 with from' := k } (k + 1)
  simp only at he2 hf2
  unfold takeP
  split
  · unfold stopP
    refine ⟨hf.1, by first | omega | (simp only; omega), ?_, by first | omega | (simp only; omega), by first | omega | (simp only; omega)⟩
    simp only
    split
    · simp; omega
    · omega
  split
  · exact ⟨f0, by first | omega | (simp only; omega), by first | omega | (simp only; omega), l1, by first | omega | (simp only; omega)⟩
  split
  · exact ⟨hf.1, by first | omega | (simp only; omega), by first | omega | (simp only; omega), by first | omega | (simp only; omega), by first | omega | (simp only; omega)⟩
  split
  · exact ⟨hf.1, by first | omega | (simp only; omega), by first | omega | (simp only; omega), by first | omega | (simp only; omega), by first | omega | (simp only; omega)⟩
  split
  · refine ⟨?_, ?_, by first | omega | (simp only; omega), by first | omega | (simp only; omega), by first | omega | (simp only; omega)⟩
    · rcases hf2 with e | e <;> simp only [e] <;> omega
    · rcases hf2 with e | e <;> simp only [e] <;> omega
  split
  · exact ⟨by first | omega | (simp only; omega), by first | omega | (simp only; omega), by first | omega | (simp only; omega), l1, by first | omega | (simp only; omega)⟩
  · exact ⟨f0, by first | omega | (simp only; omega), by first | omega | (simp only; omega), l1, by first | omega | (simp only; omega)⟩

theorem All_loop {a : H} {b : Nat} {s : ByteArray} (hs : s.size < 20000000) (n : Nat) : ∀ (l : List UInt8) (k m : Nat) (h : H) (st : Rd), (bs s).drop k = l → k + l.length = s.size → l.length + 1 < m → RdRep a h b s st → StOk st k →
    Ret (words_All_L0 (n + 2) m s (some (b, 0)) ((s.size + 1 : Nat) : Int) k h) fun r h' => Mod [b] a h' ∧ AllOk a h' r (allL s st k l)
  | [], k, m + 1 + 1, h, st, hd, hk, _, r, ok => by
    obtain ⟨f0, fk, hl, l1, l2⟩ := ok
    simp only [List.length_nil, Nat.add_zero] at hk
    obtain ⟨lb, hm, p, nn, cc, hg, g⟩ := r
    have r : RdRep a h b s st := ⟨lb, hm, p, nn, cc, hg, g⟩
    rw [words_All_L0_eq, cast_lt (by omega), cond_true]
    simp only [nnK_some', Nat.zero_add]
    rw [cellK_of hg (o := 3) rfl, asInt_int, show (((k : Nat) : Int) == (s.size : Nat)) = true by simp; omega, cond_true]
    refine (end_ret r f0 fk (by omega) (by omega) (n + 1)).bind ?_
    rintro _ h1 ⟨rfl, r1⟩
    simp only [asBool_bool]
    unfold allL
    cases hok : (endP s st k).2 with
    | false =>
      rw [Bool.not_false, cond_true]
      exact .pure ⟨r1.m, rfl⟩
    | true =>
      rw [Bool.not_true, cond_false]
      have he := endP_len s st k
      refine (stop_ret r1 (k := k) (by omega) (by omega) (by omega) (n + 1)).bind ?_
      rintro _ h2 ⟨rfl, r2⟩
      simp only [asTup_tup, l0_nil]
      obtain ⟨lb2, hm2, p2, n2, c2, hg2, g2⟩ := r2
      rw [wrap_succ (by omega), words_All_L0_eq, cast_not_lt (by omega), cond_false]
      simp only [nnK_some', Nat.zero_add]
      rw [cellK_of hg2 (o := 1) rfl, asSlice_slice]
      have hlen := g2.row.len encW_len (by decide)
      obtain rfl := hlen
      exact .pure ⟨hm2, p2, c2, rfl, g2⟩
  | c :: l, k, m + 1, h, st, hd, hk, hlm, r, ok => by
    obtain ⟨f0, fk, hl, l1, l2⟩ := ok
    simp only [List.length_cons] at hk hlm
    have hx : (bs s)[k]? = some c := by have := congrArg (·[0]?) hd; simpa using this
    have hd' : (bs s).drop (k + 1) = l := by rw [← List.drop_drop, hd]; rfl
    obtain ⟨lb, hm, p, nn, cc, hg, g⟩ := r
    have r : RdRep a h b s st := ⟨lb, hm, p, nn, cc, hg, g⟩
    rw [words_All_L0_eq, cast_lt (by omega), cond_true]
    simp only [nnK_some', Nat.zero_add]
    rw [cellK_of hg (o := 3) rfl, asInt_int, show (((k : Nat) : Int) == (s.size : Nat)) = false by simp; omega, cond_false]
    have j1 : ∀ d : Bool, d = decide (0 ≤ st.from' ∧ 60 < (k : Int) - st.from') → Ret (words_All_J1 (n + 2) m s (some (b, 0)) k st.from' ((s.size + 1 : Nat) : Int) k d h) fun r h' => Mod [b] a h' ∧ AllOk a h' r (allL s st k (c :: l)) := by
      intro d hd0
      rw [words_All_J1_eq]
      unfold allL
      by_cases hc : 0 ≤ st.from' ∧ 60 < (k : Int) - st.from'
      · rw [hd0, decide_eq_true hc, cond_true, if_pos hc]
        exact .pure ⟨hm, rfl⟩
      · rw [hd0, decide_eq_false hc, cond_false, if_neg hc, byteK_of hx, may_eq, Option.bind_some]
        simp only [asBool_bool]
        cases hmay : mayP c.toNat with
        | false =>
          rw [Bool.not_false, cond_true]
          exact .pure ⟨hm, rfl⟩
        | true =>
          rw [Bool.not_true, cond_false, byteK_of hx]
          refine (take_ret r f0 fk (by omega) (by omega) (by omega) l1 (by omega) (by omega) c.toNat n).bind ?_
          rintro _ h1 ⟨rfl, r1⟩
          simp only [asBool_bool]
          cases htk : (takeP s st c.toNat k).2 with
          | false =>
            rw [Bool.not_false, cond_true]
            exact .pure ⟨r1.m, rfl⟩
          | true =>
            rw [Bool.not_true, cond_false, wrap_succ (by omega)]
            have := All_loop hs n l (k + 1) m h1 _ hd' (by omega) (by omega) r1 (takeP_ok (by omega) ⟨f0, fk, hl, l1, l2⟩ c.toNat)
            simpa using this
    by_cases hf : st.from' ≥ 0
    · rw [decide_eq_true hf, cond_true]
      refine j1 _ ?_
      rw [wrap_i64 (by omega) (by omega), decide_eq_decide]
      exact ⟨fun h => ⟨hf, h⟩, fun h => h.2⟩
    · rw [decide_eq_false hf, cond_false]
      refine j1 _ ?_
      rw [eq_comm, decide_eq_false_iff_not]
      exact fun h => hf h.1

theorem All_ret {s : ByteArray} (hs : s.size < 20000000) {n : Nat} (hn : s.size + 11 ≤ n) (h : H) : Ret (ca n i_words_All [.str s] h) fun r h' => Mod [] h h' ∧ AllOk h h' r (allP s) := by
  obtain ⟨n, rfl⟩ : ∃ m, n = m + 2 + 1 := ⟨n - 3, by omega⟩
  rw [words_All_eq]
  simp only [newK_eq]
  rw [wrap_succ (by omega)]
  have m1 : Mod [] h (h.new (.cells [.str s, .slice none 0 (.known 0), .int .i64 1, .int .i64 (-1), .bool false, .bool false] false)) := (Mod.refl _ _).new _
  refine (All_loop (a := h.new (.cells [.str s, .slice none 0 (.known 0), .int .i64 1, .int .i64 (-1), .bool false, .bool false] false)) (b := h.next) hs n (bs s) 0 (n + 2) _ rd0 rfl (by rw [bs_len]; omega) (by rw [bs_len]; omega) ⟨by simp, .refl _ _, none, 0, .known 0, get_new_self _ _, .nil⟩ ⟨by decide, by decide, by decide, by decide, by decide⟩).mono fun r h' ⟨q1, q2⟩ => ⟨m1.trans' q1 fun i hi hl => by simp at hi; omega, ?_⟩
  change AllOk h h' r (allL s rd0 ((0 : Nat) : Int) (bs s))
  cases hall : allL s rd0 ((0 : Nat) : Int) (bs s) with
  | inl l => rw [hall] at q2; obtain ⟨p, c, e, q2⟩ := q2; exact ⟨p, c, e, q2.base m1.next⟩
  | inr k => rw [hall] at q2; exact q2

/-! ### alive -/


end Go.Ev.Tryd

/- Numbers as digits: the document's inBase; strconv.FormatInt at sixteen. -/
namespace Go.Ev.Tryd
set_option maxRecDepth 10000
open Go.Proofs

/-! ### digits -/

def dig (d : Nat) : UInt8 := (bs HEX).getD d 0
/-- the digits of a number, of which there are at most k -/
def dg (b : Nat) : Nat → Nat → List UInt8
  | 0, _ => []
  | k + 1, u => if u < b then [dig u] else dg b k (u / b) ++ [dig (u % b)]

theorem dg_len (b : Nat) : ∀ (k u : Nat), (dg b k u).length ≤ k
  | 0, _ => by simp [dg]
  | k + 1, u => by
    unfold dg
    split
    · simp
    · have := dg_len b k (u / b); simp; omega

end Go.Ev.Tryd

/- strconv.FormatInt at sixteen. -/
namespace Go.Ev.Tryd
set_option maxRecDepth 10000
open Go.Proofs

abbrev b8 (l : List UInt8) : List AV := l.map fun c => .int .u8 c.toNat
theorem digA {d : Nat} (h : d < 16) : (bs s_fdb5537d)[d]? = some (dig d) := by
  have : ∀ k : Fin 16, (bs s_fdb5537d)[k.val]? = some (dig k.val) := by decide +kernel
  exact this ⟨d, h⟩
theorem str_b8 (l : List UInt8) : strOfNums (l.map fun c => (c.toNat : Int)) = mk l := by
  refine bs_inj ?_
  rw [bs_mk]
  unfold bs strOfNums
  simp [Function.comp_def]
theorem b8_set {i : Nat} (l : List UInt8) (c : UInt8) (hi : 0 < i) : (List.replicate i (AV.int .u8 0) ++ b8 l).set (i - 1) (.int .u8 c.toNat) = List.replicate (i - 1) (AV.int .u8 0) ++ b8 (c :: l) := by
  obtain ⟨j, rfl⟩ : ∃ j, i = j + 1 := ⟨i - 1, by omega⟩
  simp only [Nat.add_sub_cancel]
  rw [List.set_append_left _ _ (by simp), List.replicate_succ', List.set_append_right _ _ (by simp)]
  simp [b8]

/-- the text of the last places -/
theorem fb_end {n b i : Nat} {l : List UInt8} {h : H} (hi : i + l.length = 65) (hl : 0 < l.length) (hb : b < h.next) (hg : h.get b = some (.cells (List.replicate i (AV.int .u8 0) ++ b8 l) false)) :
    strconv_formatBits_J5 n none 0 (.known 0) false false none 0 (.known 0) ⟨#[]⟩ (some (b, 0)) i h = some (.tup [.slice none 0 (.known 0), .str (mk l)], h) := by
  rw [strconv_formatBits_J5_eq, cond_false, strconv_formatBits_J6_eq, cond_false]
  simp only [nnK_some', Nat.zero_add, Nat.mul_one]
  have e1 : ∀ f : Nat → Nat → Nat → R, bndK 65 65 0 (some (.int .i64 (i : Nat))) none none f = f i 65 65 := fun f => by
    have : (i : Int) ≤ 65 := by omega
    simp [bndK, evBounds, evBound, this, show i ≤ 65 by omega]
  rw [e1, if_neg (by omega)]
  have row : Row h 1 (some (b, i)) (65 - i) (.known (65 - i)) ((l.map fun c => (c.toNat : Int)).map (.int .u8)) := by
    refine .row hb hg ?_ (by simp; omega) (.inr ⟨_, rfl, Nat.le_refl _⟩)
    rw [List.drop_append_of_le_length (by simp)]
    simp only [List.drop_replicate, Nat.sub_self, List.replicate_zero, List.nil_append]
    rw [List.take_of_length_le (by simp; omega)]
    simp [b8, Function.comp_def]
  rw [bsK_of row.sl, str_b8]

theorem shr4 {u : Nat} (h : u < 65536) : ishr .u64 (u : Nat) 4 = ((u / 16 : Nat) : Int) := by
  unfold ishr
  rw [show (min (4 : Int).toNat IntKind.u64.bits) = 4 from rfl]
  rw [show ((2 : Int) ^ 4) = ((16 : Nat) : Int) from rfl, Int.fdiv_eq_ediv_of_nonneg _ (by omega)]
  rfl
theorem and15 {u : Nat} (h : u < 65536) : iand .u64 (u : Nat) 15 = ((u % 16 : Nat) : Int) := by
  unfold iand
  have e : (BitVec.ofInt IntKind.u64.bits (u : Nat) &&& BitVec.ofInt IntKind.u64.bits 15).toNat = u % 16 := by
    rw [BitVec.toNat_and]
    rw [show (BitVec.ofInt IntKind.u64.bits (u : Nat)).toNat = u by simp [IntKind.bits]; omega, show (BitVec.ofInt IntKind.u64.bits 15).toNat = 2 ^ 4 - 1 from rfl, Nat.and_two_pow_sub_one_eq_mod]
  rw [e]
  exact wrap_u64 (by omega) (by omega)

theorem fb_loop {b n : Nat} : ∀ (k u i m : Nat) (l : List UInt8) (h : H), 0 < k → u < 16 ^ k → u < 65536 → k ≤ i → i + l.length = 65 → k < m → b < h.next → h.get b = some (.cells (List.replicate i (AV.int .u8 0) ++ b8 l) false) →
    Ret (strconv_formatBits_L3 n m none 0 (.known 0) u false false none 0 (.known 0) ⟨#[]⟩ (some (b, 0)) i 4 16 15 h) fun r h' => Mod [b] h h' ∧ r = .tup [.slice none 0 (.known 0), .str (mk (dg 16 k u ++ l))]
  | 0, _, _, _, _, _, h0, _, _, _, _, _, _, _ => by cases h0
  | k + 1, u, i, m + 1, l, h, _, hu, hu2, hki, hi, hm, hb, hg => by
    rw [strconv_formatBits_L3_eq]
    have ei : IntKind.i64.wrap ((i : Nat) - 1 : Int) = ((i - 1 : Nat) : Int) := by rw [wrap_i64 (by omega) (by omega)]; omega
    have hlen : i - 1 < (List.replicate i (AV.int .u8 0) ++ b8 l).length := by simp; omega
    unfold dg
    by_cases h1 : u < 16
    · rw [show decide (((u : Nat) : Int) ≥ 16) = false by simp; omega, cond_false, byteK_of (digA h1), if_pos h1]
      simp only [nnK_some', Nat.zero_add]
      rw [ei, if_pos ⟨by omega, by omega⟩, show ((i - 1 : Nat) : Int).toNat = i - 1 from rfl, wrK_one hg hlen rfl, b8_set l _ (by omega)]
      rw [fb_end (i := i - 1) (l := dig u :: l) (by simp; omega) (by simp) (by simpa using hb) (get_set_self _ _ _)]
      exact .pure ⟨(Mod.refl _ _).set (.inr (by simp)) _, rfl⟩
    · rw [show decide (((u : Nat) : Int) ≥ 16) = true by simp; omega, cond_true, and15 hu2, byteK_of (digA (Nat.mod_lt _ (by omega))), if_neg h1]
      simp only [nnK_some', Nat.zero_add]
      rw [ei, if_pos ⟨by omega, by omega⟩, show ((i - 1 : Nat) : Int).toNat = i - 1 from rfl, wrK_one hg hlen rfl, b8_set l _ (by omega), if_neg (by omega), shr4 hu2]
      have hlt : u / 16 < 16 ^ k := by
        rw [Nat.div_lt_iff_lt_mul (by omega)]; rw [Nat.pow_succ] at hu; exact hu
      have hk0 : 0 < k := by
        rcases Nat.eq_zero_or_pos k with e | e
        · subst e
          simp at hlt; omega
        · exact e
      have m1 : Mod [b] h (h.set b (.cells (List.replicate (i - 1) (AV.int .u8 0) ++ b8 (dig (u % 16) :: l)) false)) := (Mod.refl _ _).set (.inr (by simp)) _
      refine (fb_loop k (u / 16) (i - 1) m (dig (u % 16) :: l) _ hk0 hlt (by omega) (by omega) (by simp; omega) (by omega) (by simpa using hb) (get_set_self _ _ _)).mono fun r h' ⟨q1, q2⟩ => ⟨m1.trans q1, ?_⟩
      rw [q2, List.append_assoc]
      rfl

/-- the table of math/bits lies where it is looked for -/
def tzs : List Int := [0, 1, 56, 2, 57, 49, 28, 3, 61, 58, 42, 50, 38, 29, 17, 4, 62, 47, 59, 36, 45, 43, 51, 22, 53, 39, 33, 30, 24, 18, 12, 5, 63, 55, 48, 27, 60, 41, 37, 16, 46, 35, 44, 21, 52, 32, 23, 11, 54, 26, 40, 15, 34, 20, 31, 10, 25, 14, 19, 9, 13, 8, 7, 6]
def tz64 : List AV := tzs.map (.int .u8)

theorem hexT_ret {u : Nat} (hu : u < 65536) {n : Nat} (hn : 20 ≤ n) {h : H} (h1n : 1 < h.next) (ht : h.get 1 = some (.cells tz64 true)) : Ret (ca n i_strconv_FormatInt [.int .i64 u, .int .i64 16] h) fun r h' => Mod [] h h' ∧ r = .str (mk (dg 16 4 u)) := by
  obtain ⟨n, rfl⟩ : ∃ m, n = m + 6 := ⟨n - 6, by omega⟩
  rw [strconv_FormatInt_eq, strconv_FormatInt_2_eq, show ((16 : Int) == 10) = false by decide, cond_false, strconv_formatBits_eq]
  rw [show decide ((16 : Int) < 2) = false by decide, cond_false, show ((16 : Int) == 10) = false by decide, cond_false, show decide ((16 : Int) > 36) = false by decide, strconv_formatBits_J0_eq, cond_false, strconv_formatBits_J1_eq]
  rw [show decide (((u : Nat) : Int) < 0) = false by simp]
  simp only [newK_eq, cond_false]
  rw [strconv_formatBits_J2_eq, strconv_isPowerOfTwo_eq, show ((iand .i64 16 (IntKind.i64.wrap (16 - 1)) : Int) == 0) = true by decide +kernel]
  simp only [Option.bind_some, asBool_bool, cond_true]
  rw [bits_TrailingZeros_eq, show IntKind.u64.wrap 16 = 16 by decide, bits_TrailingZeros64_16]
  have m1 : Mod [] h (h.new (.cells (List.replicate 65 (AV.int .u8 0)) false)) := (Mod.refl _ _).new _
  change Ret (Option.bind (Option.bind (Option.bind (Option.bind (cellK (h.new (.cells (List.replicate 65 (AV.int .u8 0)) false)) 1 15 _) _) _) _) _) _
  rw [cellK_of ((m1.get 1 h1n (by simp)).trans ht) (o := 15) rfl]
  simp only [asInt_int, Option.bind_some]
  rw [show IntKind.i64.wrap 4 = 4 by decide]
  rw [show IntKind.u64.wrap 4 = 4 by decide, show IntKind.u64.wrap (16 - 1) = 15 by decide, show IntKind.u64.wrap ((u : Nat) : Int) = (u : Nat) from wrap_u64 (by omega) (by omega)]
  have k := fb_loop (n := n + 3) (b := h.next) 4 u 65 (n + 3) [] (h.new (.cells (List.replicate 65 (AV.int .u8 0)) false)) (by omega) (by omega) hu (by omega) rfl (by omega) (by simp) (by simpa [b8] using get_new_self h _)
  refine Ret.bind (P := fun r h' => Mod [] h h' ∧ r = .str (mk (dg 16 4 u))) (k.bind ?_) ?_
  · rintro _ h1 ⟨q1, rfl⟩
    simp only [asTup_tup, lL_of, lS_of, l0_nil, List.append_nil]
    exact .pure ⟨m1.trans' q1 fun i hi hl => by simp at hi; omega, rfl⟩
  · rintro _ h1 ⟨q1, rfl⟩
    simp only [asStr_str]
    exact .pure ⟨q1, rfl⟩
end Go.Ev.Tryd

/- AddressText: what it writes. -/
namespace Go.Ev.Tryd
set_option maxRecDepth 10000
open Go.Proofs

/-! ### small laws -/

theorem join_le (c : UInt8) (l : List (List UInt8)) : (Lib.join l [c]).length ≤ l.flatten.length + l.length := by
  unfold Lib.join
  induction l with
  | nil => simp
  | cons x l ih =>
    cases l with
    | nil => simp
    | cons y l =>
      rw [List.intercalate_cons_cons]
      simp only [List.length_append, List.flatten_cons, List.length_cons, List.length_nil] at ih ⊢
      omega
theorem flat_le {k : Nat} : ∀ {xs : List ByteArray}, (∀ x ∈ xs, x.size ≤ k) → (xs.map (·.data.toList)).flatten.length ≤ k * xs.length
  | [], _ => by simp
  | x :: xs, h => by
    have h1 := flat_le (k := k) (xs := xs) fun y hy => h y (by simp [hy])
    have h2 : x.data.toList.length ≤ k := by have := h x (by simp); simpa using this
    simp only [List.map_cons, List.flatten_cons, List.length_append, List.length_cons, Nat.mul_add]
    omega
theorem join_small {c : UInt8} {xs : List ByteArray} (h : ∀ x ∈ xs, x.size ≤ 100) (hl : xs.length ≤ 1000) : (Lib.join (xs.map (·.data.toList)) (mk [c]).data.toList).length ≤ 140737488355328 := by
  have h1 := join_le c (xs.map (·.data.toList))
  have h2 := flat_le h
  simp only [List.length_map] at h1
  have : (mk [c]).data.toList = [c] := rfl
  rw [this]
  omega

def dT (c : UInt8) : ByteArray := itoaS c.toNat
theorem dT_dg (c : UInt8) : dT c = mk (dg 10 3 c.toNat) := by
  have : ∀ k : Fin 256, Lib.itoa ((k.val : Nat) : Int) = dg 10 3 k.val := by decide +kernel
  refine bs_inj ?_
  rw [bs_mk]
  have := this ⟨c.toNat, c.toNat_lt⟩
  simp only at this
  rw [← this]
  rfl
theorem dT_size (c : UInt8) : (dT c).size ≤ 100 := by
  rw [dT_dg, size_mk]
  have := dg_len 10 3 c.toNat
  omega

theorem Itoa_eq {n : Nat} {h : H} (ht : h.get 0 = some (.tab pow10AV)) (c : UInt8) : ca (n + 1) i_strconv_Itoa [.int .i64 (c.toNat : Nat)] h = some (.str (dT c), h) := by
  have := c.toNat_lt
  rw [strconv_Itoa_eq, strconv_Itoa_16_eq, itoaF_of ht (by omega) (by omega), Option.bind_some]
  rfl

/-! ### four bytes -/

theorem AT4_loop {a : H} {n : Nat} (hn : 2 ≤ n) {bl : List UInt8} {p : Option (Nat × Nat)} {c : Cap} (row : Row a 1 p bl.length c (bl.map fun x => AV.int .u8 x.toNat)) (hmax : bl.length ≤ 100) (ht : a.get 0 = some (.tab pow10AV)) (h0 : 0 < a.next) :
    ∀ (ts pre : List UInt8) (m : Nat) (h : H) (q : Option (Nat × Nat)) (d : Cap), bl = pre ++ ts → ts.length < m → Mod [] a h → Grow a h 1 q pre.length d ((pre.map dT).map AV.str) →
      Ret (words_AddressText_L0 n m q pre.length d p bl.length c bl.length pre.length h) fun r h' => Mod [] a h' ∧ r = .str (joinS (bl.map dT) (mk [46]))
  | [], pre, m + 1, h, q, d, hx, _, hm, g => by
    obtain ⟨n, rfl⟩ : ∃ k, n = k + 1 := ⟨n - 1, by omega⟩
    rw [List.append_nil] at hx
    subst hx
    rw [words_AddressText_L0_eq, cast_not_lt (by omega), cond_false, strings_Join_eq, strings_Join_32_eq]
    change Ret (Option.bind (Option.bind (joinF q bl.length d (mk [46]) h) _) _) _
    rw [joinF_of g.row (by simp; omega) (join_small (fun x hx => by obtain ⟨y, _, rfl⟩ := List.mem_map.1 hx; exact dT_size y) (by simp; omega)), Option.bind_some, Option.bind_some]
    simp only [asStr_str]
    exact .pure ⟨hm, rfl⟩
  | t :: ts, pre, m + 1, h, q, d, hx, hl, hm, g => by
    obtain ⟨n, rfl⟩ : ∃ k, n = k + 1 := ⟨n - 1, by omega⟩
    have hpl : pre.length < bl.length := by rw [hx]; simp
    have htn := t.toNat_lt
    rw [words_AddressText_L0_eq, cast_lt hpl, cond_true, (row.mod0 hm).ix1 (x := t) (by rw [hx]; simp), asInt_int, wrap_i64 (by omega) (by omega), Itoa_eq ((hm.get 0 h0 (by simp)).trans ht), Option.bind_some]
    simp only [asStr_str, newK_eq]
    refine g.push hm.next rfl rfl (by decide) (by omega) (by omega) fun q' d' h' g' m' => ?_
    rw [wrap_succ (by omega), show pre.length + 1 = (pre ++ [t]).length by simp]
    exact AT4_loop hn row hmax ht h0 ts (pre ++ [t]) m h' q' d' (by rw [hx]; simp) (by simp at hl; omega) (hm.push g m') (by simpa using g')

/-! ### sixteen bytes -/

theorem ior8 {a b : Nat} (ha : a < 256) (hb : b < 256) : ior .i64 (ishl .i64 (a : Int) 8) (b : Int) = ((256 * a + b : Nat) : Int) := by
  have h1 : ishl .i64 (a : Int) 8 = ((a * 256 : Nat) : Int) := by
    unfold ishl
    rw [show min (8 : Int).toNat IntKind.i64.bits = 8 from rfl, wrap_i64 (by omega) (by omega)]
    omega
  rw [h1]
  have h4 : (BitVec.ofInt 64 ((a * 256 : Nat) : Int) ||| BitVec.ofInt 64 (b : Int)).toNat = a * 256 + b := by
    rw [BitVec.toNat_or, BitVec.ofInt_natCast, BitVec.ofInt_natCast, BitVec.toNat_ofNat, BitVec.toNat_ofNat, Nat.mod_eq_of_lt (by omega), Nat.mod_eq_of_lt (by omega)]
    rw [Nat.mul_comm, show (256 : Nat) = 2 ^ 8 from rfl, ← Nat.two_pow_add_eq_or_of_lt (by omega)]
  show IntKind.i64.wrap ((BitVec.ofInt 64 ((a * 256 : Nat) : Int) ||| BitVec.ofInt 64 (b : Int)).toNat : Nat) = _
  rw [h4, wrap_i64 (by omega) (by omega)]
  omega

def hT (u : Nat) : ByteArray := mk (dg 16 4 u)
theorem hT_size (u : Nat) : (hT u).size ≤ 100 := by
  have := dg_len 16 4 u
  unfold hT; rw [size_mk]; omega
/-- the pairs of bytes, as numbers -/
def prs : List UInt8 → List Nat
  | x :: y :: l => (256 * x.toNat + y.toNat) :: prs l
  | _ => []

theorem AT16_loop {a : H} {n : Nat} (hn : 22 ≤ n) (h1a : 1 < a.next) {s : ByteArray} (hs : s.size = 16) (ht : a.get 1 = some (.cells tz64 true)) :
    ∀ (ts : List UInt8) (j m : Nat) (pre : List Nat) (h : H) (q : Option (Nat × Nat)) (d : Cap), (bs s).drop (2 * j) = ts → j ≤ 8 → ts.length + 2 * j = 16 → ts.length < m → pre.length = j → Mod [] a h → Grow a h 1 q j d ((pre.map hT).map AV.str) →
      Ret (words_AddressText_L1 n m s q j d ((2 * j : Nat) : Int) h) fun r h' => Mod [] a h' ∧ r = .str (joinS ((pre ++ prs ts).map hT) (mk [58]))
  | [], j, m + 1, pre, h, q, d, hd, hj, hl, _, hp, hm, g => by
    obtain ⟨n, rfl⟩ : ∃ k, n = k + 1 := ⟨n - 1, by omega⟩
    simp only [List.length_nil] at hl
    subst hp
    rw [words_AddressText_L1_eq, show decide (((2 * pre.length : Nat) : Int) < 16) = false by simp; omega, cond_false, strings_Join_eq, strings_Join_32_eq]
    change Ret (Option.bind (Option.bind (joinF q pre.length d (mk [58]) h) _) _) _
    rw [joinF_of g.row (by simp; omega) (join_small (fun x hx => by obtain ⟨y, _, rfl⟩ := List.mem_map.1 hx; exact hT_size y) (by simp; omega)), Option.bind_some, Option.bind_some]
    simp only [asStr_str]
    exact .pure ⟨hm, by simp [prs]⟩
  | [_], j, _, _, _, _, _, _, _, hl, _, _, _, _ => by simp at hl; omega
  | x :: y :: ts, j, m + 1, pre, h, q, d, hd, hj, hl, hlm, hp, hm, g => by
    simp only [List.length_cons] at hl hlm
    have hx : (bs s)[2 * j]? = some x := by have := congrArg (·[0]?) hd; simpa using this
    have hy : (bs s)[2 * j + 1]? = some y := by have := congrArg (·[1]?) hd; simpa using this
    have hd' : (bs s).drop (2 * (j + 1)) = ts := by rw [show 2 * (j + 1) = 2 * j + 2 by omega, ← List.drop_drop, hd]; rfl
    have hxn := x.toNat_lt
    have hyn := y.toNat_lt
    rw [words_AddressText_L1_eq, show decide (((2 * j : Nat) : Int) < 16) = true by simp; omega, cond_true, byteK_of hx, wrap_succ (by omega), byteK_of hy, wrap_i64 (x := (x.toNat : Int)) (by omega) (by omega), wrap_i64 (x := (y.toNat : Int)) (by omega) (by omega), ior8 (by omega) (by omega)]
    refine (hexT_ret (u := 256 * x.toNat + y.toNat) (by omega) (by omega) (hm.lt h1a) ((hm.get 1 h1a (by simp)).trans ht)).bind ?_
    rintro _ h1 ⟨m1, rfl⟩
    simp only [asStr_str, newK_eq]
    have hm1 := hm.trans m1
    have g1 := g.mod0 m1
    refine g1.push hm1.next rfl rfl (by decide) (by omega) (by omega) fun q' d' h' g' m' => ?_
    rw [wrap_i64 (by omega) (by omega), show (((2 * j : Nat) : Int) + 2) = ((2 * (j + 1) : Nat) : Int) by omega]
    have := AT16_loop hn h1a hs ht ts (j + 1) m (pre ++ [256 * x.toNat + y.toNat]) h' q' d' hd' (by omega) (by omega) (by omega) (by simp [hp]) (hm1.push g1 m') (by simpa [hT] using g')
    simpa [prs] using this

def pT (s : ByteArray) : ByteArray := if s.size = 4 then joinS ((bs s).map dT) (mk [46]) else if s.size = 16 then joinS ((prs (bs s)).map hT) (mk [58]) else ⟨#[]⟩

theorem AddressText_ret (s : ByteArray) {n : Nat} (hn : 40 ≤ n) {h : H} (h1 : 1 < h.next) (ht0 : h.get 0 = some (.tab pow10AV)) (ht1 : h.get 1 = some (.cells tz64 true)) : Ret (ca n i_words_AddressText [.str s] h) fun r h' => Mod [] h h' ∧ r = .str (pT s) := by
  obtain ⟨n, rfl⟩ : ∃ k, n = k + 1 := ⟨n - 1, by omega⟩
  rw [words_AddressText_eq]
  unfold pT
  by_cases h4 : s.size = 4
  · rw [show (((s.size : Nat) : Int) == 4) = true by simp; omega, cond_true, if_pos h4]
    simp only [newK_eq]
    have m1 : Mod [] h (h.new (.cells (s.data.toList.map fun c => AV.int .u8 c.toNat) false)) := (Mod.refl _ _).new _
    have row : Row (h.new (.cells (s.data.toList.map fun c => AV.int .u8 c.toNat) false)) 1 (some (h.next, 0)) (bs s).length (.rest 1) ((bs s).map fun x => AV.int .u8 x.toNat) :=
      .row (by simp) (get_new_self _ _) (by rw [List.drop_zero, List.take_of_length_le (by simp [bs])]; rfl) (by simp [bs]) (.inl rfl)
    have hl : (bs s).length = s.size := bs_len s
    rw [← hl]
    exact (AT4_loop (by omega) row (by omega) ((m1.get 0 (by omega) (by simp)).trans ht0) (by simp) (bs s) [] n _ none (.known 0) rfl (by omega) (.refl _ _) .nil).mono fun r h' ⟨q1, q2⟩ => ⟨m1.trans q1, q2⟩
  · rw [show (((s.size : Nat) : Int) == 4) = false by simp; omega, cond_false, if_neg h4]
    by_cases h16 : s.size = 16
    · rw [show (((s.size : Nat) : Int) == 16) = true by simp; omega, cond_true, if_pos h16]
      have := AT16_loop (n := n) (by omega) h1 h16 ht1 (bs s) 0 n [] h none (.known 0) rfl (by omega) (by rw [bs_len]; omega) (by rw [bs_len]; omega) rfl (.refl _ _) .nil
      simpa using this
    · rw [show (((s.size : Nat) : Int) == 16) = false by simp; omega, cond_false, if_neg h16]
      exact .pure ⟨.refl _ _, rfl⟩
end Go.Ev.Tryd

/- The configuration's reader: what it owns, and how that changes. -/
namespace Go.Ev.Tryd
set_option maxRecDepth 10000
open Go.Proofs

structure Cd where
  (a b c d e f : Int)
def enCd (x : Cd) : List AV := [.int .u8 x.a, .int .u8 x.b, .int .u8 x.c, .int .u8 x.d, .int .u8 x.e, .int .u8 x.f]
def cd0 : Cd := ⟨0, 0, 0, 0, 0, 0⟩
def cdOf : List Int → Cd
  | [a, b, c, d, e, f] => ⟨a, b, c, d, e, f⟩
  | _ => cd0
structure Bk where
  (name addr : Bs) (card : Cd) (port weight : Int)
structure Sv where
  (name vip : Bs) (proto port mode sched rise fall probe : Int) (bks : List Bk)
structure Ps where
  (k : Nat) (card : Cd) (addr peer : Bs) (id prio every : Int) (pre : Bool) (vips : List Bs) (trs : List (Bs × Int)) (svs : List Sv) (spots : List (Bs × Int × Bool)) (bad code : Int)
structure St where
  (p : Ps) (yes : Int) (sv : Sv) (bk : Bk)

def encB (x : Bk) : List AV := [.str x.name, .str x.addr, .int .u8 x.card.a, .int .u8 x.card.b, .int .u8 x.card.c, .int .u8 x.card.d, .int .u8 x.card.e, .int .u8 x.card.f, .int .i64 x.port, .int .i64 x.weight]
def encS (x : Sv) (v : AV) : List AV := [.str x.name, .str x.vip, .int .i64 x.proto, .int .i64 x.port, .int .i64 x.mode, .int .i64 x.sched, .int .i64 x.rise, .int .i64 x.fall, .int .i64 x.probe, v]
abbrev SvR := Sv × Pt × Cap
def encR (x : SvR) : List AV := encS x.1 (.slice x.2.1 x.1.bks.length x.2.2)
def encSp (x : Bs × Int × Bool) : List AV := [.str x.1, .int .i64 x.2.1, .bool x.2.2]
def encT (x : Bs × Int) : List AV := [.str x.1, .int .i64 x.2]
theorem encB_len : ∀ x, (encB x).length = 10 := fun _ => rfl
theorem encR_len : ∀ x, (encR x).length = 10 := fun _ => rfl
theorem encSp_len : ∀ x, (encSp x).length = 3 := fun _ => rfl
theorem encT_len : ∀ x, (encT x).length = 2 := fun _ => rfl

/-- where the reader stands, what it reads, and the blocks of what it fills besides -/
structure En where
  (a : H) (b : Nat) (s : Bs) (l : List Wd) (yes sv bk : Option Nat)
structure Gh where
  (f : Nat → Option Nat) (c : Nat → List AV) (lp : Pt) (lc sc vc tc gc bc : Cap) (svr : List SvR)

def encP (e : En) (g : Gh) (p : Ps) : List AV :=
  [.str e.s, .slice g.lp e.l.length g.lc, .int .i64 p.k, .int .u8 p.card.a, .int .u8 p.card.b, .int .u8 p.card.c, .int .u8 p.card.d, .int .u8 p.card.e, .int .u8 p.card.f,
    .str p.addr, .str p.peer, .int .i64 p.id, .int .i64 p.prio, .int .i64 p.every, .bool p.pre,
    .slice (slP g.f 2) p.vips.length g.vc, .slice (slP g.f 3) p.trs.length g.tc, .slice (slP g.f 4) p.svs.length g.gc, .slice (slP g.f 1) p.spots.length g.sc, .int .i64 p.bad, .int .i64 p.code]

structure Okp (e : En) (st : St) : Prop where
  k : st.p.k ≤ e.l.length
  spots : st.p.spots.length ≤ st.p.k
  vips : st.p.vips.length ≤ st.p.k
  trs : st.p.trs.length ≤ st.p.k
  svs : st.p.svs.length ≤ st.p.k
  bks : st.sv.bks.length ≤ st.p.k
  len : e.l.length ≤ 400000

structure InvG (e : En) (g : Gh) (h : H) (st : St) : Prop where
  ow : Own e.a g.f g.c h
  fb : g.f 0 = some e.b
  cb : g.c 0 = encP e g st.p
  lrow : Row h 3 g.lp e.l.length g.lc (e.l.flatMap encW)
  sp : Arr g.f g.c 1 3 st.p.spots.length g.sc (st.p.spots.flatMap encSp)
  vp : Arr g.f g.c 2 1 st.p.vips.length g.vc (st.p.vips.map .str)
  tp : Arr g.f g.c 3 2 st.p.trs.length g.tc (st.p.trs.flatMap encT)
  gp : Arr g.f g.c 4 10 st.p.svs.length g.gc (g.svr.flatMap encR)
  esv : g.svr.map (·.1) = st.p.svs
  rows : ∀ x ∈ g.svr, Row h 10 x.2.1 x.1.bks.length x.2.2 (x.1.bks.flatMap encB)
  rge : ∀ x ∈ g.svr, ∀ i ∈ own x.2.1, e.a.next ≤ i
  fy : g.f 5 = e.yes
  cy : g.c 5 = [.int .i64 st.yes]
  fv : g.f 6 = e.sv
  cv : g.c 6 = encS st.sv (.slice (slP g.f 7) st.sv.bks.length g.bc)
  bp : Arr g.f g.c 7 10 st.sv.bks.length g.bc (st.sv.bks.flatMap encB)
  fk : g.f 8 = e.bk
  ck : g.c 8 = encB st.bk
  kl : ∀ i, (i ∈ own g.lp ∨ ∃ x ∈ g.svr, i ∈ own x.2.1) → ∀ j, g.f j ≠ some i
  ok : Okp e st

def Inv (e : En) (h : H) (st : St) (S : List Nat) : Prop := ∃ g, S = foot g.f ∧ InvG e g h st

section
variable {e : En} {g : Gh} {h : H} {st : St} {S : List Nat}

theorem InvG.nin (i : InvG e g h st) {x : Nat} (hx : x ∈ own g.lp ∨ ∃ y ∈ g.svr, x ∈ own y.2.1) : x ∉ foot g.f := fun hm => by
  obtain ⟨j, ej⟩ := i.ow.mem.1 hm
  exact i.kl x hx j ej

theorem InvG.cell {β : Type} (i : InvG e g h st) {o : Nat} {v : AV} (hv : (encP e g st.p)[o]? = some v) (k : AV → Option β) : cellK h e.b o k = k v := i.ow.cell i.fb (by rw [i.cb]; exact hv) k

theorem Inv.frame {h' : H} (i : Inv e h st S) (m : Mod [] h h') : Inv e h' st S := by
  obtain ⟨g, rfl, i⟩ := i
  exact ⟨g, rfl, i.ow.mod0 m, i.fb, i.cb, i.lrow.mod0 m, i.sp, i.vp, i.tp, i.gp, i.esv, fun x hx => (i.rows x hx).mod0 m, i.rge, i.fy, i.cy, i.fv, i.cv, i.bp, i.fk, i.ck, i.kl, i.ok⟩

/-- the reader's own cells are written -/
theorem Inv.wrP (i : Inv e h st S) {p' : Ps} {o n : Nat} {xs : List AV} (hn : xs.length = n) (hl : o + n ≤ 21) (hc : xs.all isCell = true) (hv : ∀ g, spl (encP e g st.p) o xs = encP e g p')
    (h1 : p'.spots = st.p.spots) (h2 : p'.vips = st.p.vips) (h3 : p'.trs = st.p.trs) (h4 : p'.svs = st.p.svs) (ok : Okp e { st with p := p' }) :
    ∃ h', (∀ (β : Type) (k : H → Option β), wrK h e.b o n xs k = k h') ∧ Fr S h S h' ∧ Inv e h' { st with p := p' } S := by
  obtain ⟨g, rfl, i⟩ := i
  obtain ⟨ow, fr⟩ := i.ow.wr i.fb (encP e g p')
  refine ⟨_, fun β k => i.ow.wrK i.fb hn (by rw [i.cb]; exact hl) hc (by rw [i.cb]; exact hv g) k, fr, { g with c := up g.c 0 (encP e g p') }, rfl, ow, i.fb, up_self g.c 0 (encP e g p'), i.lrow.mod fr.mod fun b hb => i.nin (.inl hb), ?_, ?_, ?_, ?_, ?_, fun x hx => (i.rows x hx).mod fr.mod fun b hb => i.nin (.inr ⟨x, hx, hb⟩), i.rge, i.fy, i.cy, i.fv, i.cv, i.bp.neC (by decide), i.fk, i.ck, i.kl, ok⟩
  · rw [show ({ st with p := p' } : St).p.spots = st.p.spots from h1]; exact i.sp.neC (by decide)
  · rw [show ({ st with p := p' } : St).p.vips = st.p.vips from h2]; exact i.vp.neC (by decide)
  · rw [show ({ st with p := p' } : St).p.trs = st.p.trs from h3]; exact i.tp.neC (by decide)
  · rw [show ({ st with p := p' } : St).p.svs = st.p.svs from h4]; exact i.gp.neC (by decide)
  · exact i.esv.trans h4.symm

/-- a variable of one's own is written -/
theorem Inv.wrY (i : Inv e h st S) {b : Nat} (hb : e.yes = some b) (y : Int) :
    ∃ h', (∀ (β : Type) (k : H → Option β), wrK h b 0 1 [.int .i64 y] k = k h') ∧ Fr S h S h' ∧ Inv e h' { st with yes := y } S := by
  obtain ⟨g, rfl, i⟩ := i
  have hf := i.fy.trans hb
  obtain ⟨ow, fr⟩ := i.ow.wr hf [.int .i64 y]
  refine ⟨_, fun β k => i.ow.wrK hf rfl (by rw [i.cy]; exact Nat.le_refl 1) rfl (by rw [i.cy]; rfl) k, fr, { g with c := up g.c 5 [.int .i64 y] }, rfl, ow, i.fb, i.cb, i.lrow.mod fr.mod fun b hb => i.nin (.inl hb), i.sp.neC (by decide), i.vp.neC (by decide), i.tp.neC (by decide), i.gp.neC (by decide), i.esv, fun x hx => (i.rows x hx).mod fr.mod fun b hb => i.nin (.inr ⟨x, hx, hb⟩), i.rge, i.fy, up_self g.c 5 [.int .i64 y], i.fv, i.cv, i.bp.neC (by decide), i.fk, i.ck, i.kl, ⟨i.ok.k, i.ok.spots, i.ok.vips, i.ok.trs, i.ok.svs, i.ok.bks, i.ok.len⟩⟩
theorem Inv.wrS (i : Inv e h st S) {b : Nat} (hb : e.sv = some b) {x' : Sv} {o n : Nat} {xs : List AV} (hn : xs.length = n) (hl : o + n ≤ 10) (hc : xs.all isCell = true) (hv : ∀ v, spl (encS st.sv v) o xs = encS x' v) (h1 : x'.bks = st.sv.bks) :
    ∃ h', (∀ (β : Type) (k : H → Option β), wrK h b o n xs k = k h') ∧ Fr S h S h' ∧ Inv e h' { st with sv := x' } S := by
  obtain ⟨g, rfl, i⟩ := i
  have hf := i.fv.trans hb
  obtain ⟨ow, fr⟩ := i.ow.wr hf (encS x' (.slice (slP g.f 7) st.sv.bks.length g.bc))
  refine ⟨_, fun β k => i.ow.wrK hf hn (by rw [i.cv]; exact hl) hc (by rw [i.cv]; exact hv _) k, fr, { g with c := up g.c 6 (encS x' (.slice (slP g.f 7) st.sv.bks.length g.bc)) }, rfl, ow, i.fb, i.cb, i.lrow.mod fr.mod fun b hb => i.nin (.inl hb), i.sp.neC (by decide), i.vp.neC (by decide), i.tp.neC (by decide), i.gp.neC (by decide), i.esv, fun x hx => (i.rows x hx).mod fr.mod fun b hb => i.nin (.inr ⟨x, hx, hb⟩), i.rge, i.fy, i.cy, i.fv, ?_, ?_, i.fk, i.ck, i.kl, ⟨i.ok.k, i.ok.spots, i.ok.vips, i.ok.trs, i.ok.svs, ?_, i.ok.len⟩⟩
  · show up g.c 6 (encS x' (.slice (slP g.f 7) st.sv.bks.length g.bc)) 6 = encS x' (.slice (slP g.f 7) x'.bks.length g.bc)
    rw [up_self, h1]
  · rw [show ({ st with sv := x' } : St).sv.bks = st.sv.bks from h1]; exact i.bp.neC (by decide)
  · rw [show ({ st with sv := x' } : St).sv.bks = st.sv.bks from h1]; exact i.ok.bks
theorem Inv.wrB (i : Inv e h st S) {b : Nat} (hb : e.bk = some b) {x' : Bk} {o n : Nat} {xs : List AV} (hn : xs.length = n) (hl : o + n ≤ 10) (hc : xs.all isCell = true) (hv : spl (encB st.bk) o xs = encB x') :
    ∃ h', (∀ (β : Type) (k : H → Option β), wrK h b o n xs k = k h') ∧ Fr S h S h' ∧ Inv e h' { st with bk := x' } S := by
  obtain ⟨g, rfl, i⟩ := i
  have hf := i.fk.trans hb
  obtain ⟨ow, fr⟩ := i.ow.wr hf (encB x')
  refine ⟨_, fun β k => i.ow.wrK hf hn (by rw [i.ck]; exact hl) hc (by rw [i.ck]; exact hv) k, fr, { g with c := up g.c 8 (encB x') }, rfl, ow, i.fb, i.cb, i.lrow.mod fr.mod fun b hb => i.nin (.inl hb), i.sp.neC (by decide), i.vp.neC (by decide), i.tp.neC (by decide), i.gp.neC (by decide), i.esv, fun x hx => (i.rows x hx).mod fr.mod fun b hb => i.nin (.inr ⟨x, hx, hb⟩), i.rge, i.fy, i.cy, i.fv, i.cv, i.bp.neC (by decide), i.fk, up_self g.c 8 (encB x'), i.kl, ⟨i.ok.k, i.ok.spots, i.ok.vips, i.ok.trs, i.ok.svs, i.ok.bks, i.ok.len⟩⟩

end
end Go.Ev.Tryd

/- The configuration's reader: what grows. -/
namespace Go.Ev
theorem Own.neC {a h : H} {f : Nat → Option Nat} {c : Nat → List AV} {i : Nat} (o : Own a f c h) (hi : f i = none) (v : List AV) : Own a f (up c i v) h :=
  ⟨o.le, fun j y e => by
    by_cases hj : j = i
    · rw [hj, hi] at e; cases e
    · rw [up_ne hj]; exact o.get j y e, o.lt, o.ge, o.inj, o.top⟩
end Go.Ev
namespace Go.Ev.Tryd
set_option maxRecDepth 10000
open Go.Proofs

section
variable {e : En} {g : Gh} {h : H} {st : St} {S : List Nat}

theorem InvG.nin' {f' : Nat → Option Nat} {y : Nat} (i : InvG e g h st) (hn : h.next ≤ y) (ho : ∀ k, f' k = some y ∨ f' k = g.f k ∨ f' k = none) : ∀ x, (x ∈ own g.lp ∨ ∃ z ∈ g.svr, x ∈ own z.2.1) → ∀ k, f' k ≠ some x := by
  intro x hx k hk
  have hl : x < h.next := by
    rcases hx with hx | ⟨z, hz, hx⟩
    · exact i.lrow.lt x hx
    · exact (i.rows z hz).lt x hx
  rcases ho k with e' | e' | e'
  · rw [hk] at e'; have := Option.some.inj e'; omega
  · rw [hk] at e'; exact i.kl x hx k e'.symm
  · rw [hk] at e'; cases e'
theorem up_cases (f : Nat → Option Nat) (j y k : Nat) : up f j (some y) k = some y ∨ up f j (some y) k = f k ∨ up f j (some y) k = none := by
  by_cases h : k = j
  · rw [h, up_self]; exact .inl rfl
  · rw [up_ne h]; exact .inr (.inl rfl)

/-- what an element more brings -/
def PushP (e : En) (g : Gh) (h : H) (st : St) (j size bytes len o : Nat) (cap : Cap) (xs : List AV) (st' : St) : Prop :=
  ∃ y cap' h1 h2 S', (∀ (β : Type) (k : Option (Nat × Nat) → Nat → Cap → H → Option β), appK size bytes (slP g.f j) len cap (evSrc size (.slice (some (h.next, 0)) 1 (.known 1)) (h.new (.cells xs false))) (h.new (.cells xs false)) k = k (some (y, 0)) (len + 1) cap' h1) ∧
    Fr (foot g.f) h S' h1 ∧ (∀ (β : Type) (k : H → Option β), wrK h1 e.b o 1 [.slice (some (y, 0)) (len + 1) cap'] k = k h2) ∧ Fr (foot g.f) h S' h2 ∧ Inv e h2 st' S'

theorem InvG.pushSpot (i : InvG e g h st) (x : Bs × Int × Bool) (hk : st.p.spots.length + 1 ≤ st.p.k) : PushP e g h st 1 3 32 st.p.spots.length 18 g.sc (encSp x) { st with p := { st.p with spots := st.p.spots ++ [x] } } := by
  have hl := i.ok.k; have hl2 := i.ok.len
  obtain ⟨y, cap', h1, e1, hn, ow1, ar1, fr1, m1⟩ := i.ow.push (bytes := 32) (by decide : 1 < 12) i.sp (xs := encSp x) rfl rfl (by decide) (by omega) (by omega)
  have hf0 : up g.f 1 (some y) 0 = some e.b := (up_ne (by decide)).trans i.fb
  obtain ⟨ow2, fr2⟩ := ow1.wr hf0 (encP e { g with f := up g.f 1 (some y), sc := cap' } { st.p with spots := st.p.spots ++ [x] })
  have hc0 : up g.c 1 (st.p.spots.flatMap encSp ++ encSp x) 0 = encP e g st.p := (up_ne (by decide)).trans i.cb
  refine ⟨y, cap', h1, _, _, e1, fr1, fun β k => ow1.wrK hf0 rfl (by rw [hc0]; exact (by decide : 19 ≤ 21)) rfl ?_ k, fr1.trans fr2, ?_⟩
  · rw [hc0]
    simp only [encP, slP_up, slP_ne (f := g.f) (i := 1) (j := 2) (v := some y) (by decide), slP_ne (f := g.f) (i := 1) (j := 3) (v := some y) (by decide), slP_ne (f := g.f) (i := 1) (j := 4) (v := some y) (by decide), List.length_append]
    rfl
  · have fr := fr1.trans fr2
    refine ⟨{ g with f := up g.f 1 (some y), sc := cap', c := up (up g.c 1 (st.p.spots.flatMap encSp ++ encSp x)) 0 (encP e { g with f := up g.f 1 (some y), sc := cap' } { st.p with spots := st.p.spots ++ [x] }) }, rfl, ow2, hf0, by simp only [up_self]; rfl, i.lrow.mod fr.mod fun b hb => i.nin (.inl hb), ?_, (i.vp.ne (by decide)).neC (by decide), (i.tp.ne (by decide)).neC (by decide), (i.gp.ne (by decide)).neC (by decide), i.esv, fun x hx => (i.rows x hx).mod fr.mod fun b hb => i.nin (.inr ⟨x, hx, hb⟩), i.rge, i.fy, i.cy, i.fv, ?_, (i.bp.ne (by decide)).neC (by decide), i.fk, i.ck, i.nin' (f' := up g.f 1 (some y)) hn (up_cases g.f 1 y), ⟨i.ok.k, ?_, i.ok.vips, i.ok.trs, i.ok.svs, i.ok.bks, i.ok.len⟩⟩
    · have := ar1.neC (j := 0) (v := encP e { g with f := up g.f 1 (some y), sc := cap' } { st.p with spots := st.p.spots ++ [x] }) (by decide)
      simpa using this
    · exact i.cv
    · simpa using hk

theorem InvG.pushVip (i : InvG e g h st) (x : Bs) (hk : st.p.vips.length + 1 ≤ st.p.k) : PushP e g h st 2 1 16 st.p.vips.length 15 g.vc [.str x] { st with p := { st.p with vips := st.p.vips ++ [x] } } := by
  have hl := i.ok.k; have hl2 := i.ok.len
  obtain ⟨y, cap', h1, e1, hn, ow1, ar1, fr1, m1⟩ := i.ow.push (bytes := 16) (by decide : 2 < 12) i.vp (xs := [.str x]) rfl rfl (by decide) (by omega) (by omega)
  have hf0 : up g.f 2 (some y) 0 = some e.b := (up_ne (by decide)).trans i.fb
  obtain ⟨ow2, fr2⟩ := ow1.wr hf0 (encP e { g with f := up g.f 2 (some y), vc := cap' } { st.p with vips := st.p.vips ++ [x] })
  have hc0 : up g.c 2 (st.p.vips.map .str ++ [.str x]) 0 = encP e g st.p := (up_ne (by decide)).trans i.cb
  refine ⟨y, cap', h1, _, _, e1, fr1, fun β k => ow1.wrK hf0 rfl (by rw [hc0]; exact (by decide : 16 ≤ 21)) rfl ?_ k, fr1.trans fr2, ?_⟩
  · rw [hc0]
    simp only [encP, slP_up, slP_ne (f := g.f) (i := 2) (j := 1) (v := some y) (by decide), slP_ne (f := g.f) (i := 2) (j := 3) (v := some y) (by decide), slP_ne (f := g.f) (i := 2) (j := 4) (v := some y) (by decide), List.length_append]
    rfl
  · have fr := fr1.trans fr2
    refine ⟨{ g with f := up g.f 2 (some y), vc := cap', c := up (up g.c 2 (st.p.vips.map .str ++ [.str x])) 0 (encP e { g with f := up g.f 2 (some y), vc := cap' } { st.p with vips := st.p.vips ++ [x] }) }, rfl, ow2, hf0, by simp only [up_self]; rfl, i.lrow.mod fr.mod fun b hb => i.nin (.inl hb), (i.sp.ne (by decide)).neC (by decide), ?_, (i.tp.ne (by decide)).neC (by decide), (i.gp.ne (by decide)).neC (by decide), i.esv, fun x hx => (i.rows x hx).mod fr.mod fun b hb => i.nin (.inr ⟨x, hx, hb⟩), i.rge, i.fy, i.cy, i.fv, ?_, (i.bp.ne (by decide)).neC (by decide), i.fk, i.ck, i.nin' (f' := up g.f 2 (some y)) hn (up_cases g.f 2 y), ⟨i.ok.k, i.ok.spots, ?_, i.ok.trs, i.ok.svs, i.ok.bks, i.ok.len⟩⟩
    · have := ar1.neC (j := 0) (v := encP e { g with f := up g.f 2 (some y), vc := cap' } { st.p with vips := st.p.vips ++ [x] }) (by decide)
      simpa using this
    · exact i.cv
    · simpa using hk

theorem InvG.pushTr (i : InvG e g h st) (x : Bs × Int) (hk : st.p.trs.length + 1 ≤ st.p.k) : PushP e g h st 3 2 24 st.p.trs.length 16 g.tc (encT x) { st with p := { st.p with trs := st.p.trs ++ [x] } } := by
  have hl := i.ok.k; have hl2 := i.ok.len
  obtain ⟨y, cap', h1, e1, hn, ow1, ar1, fr1, m1⟩ := i.ow.push (bytes := 24) (by decide : 3 < 12) i.tp (xs := encT x) rfl rfl (by decide) (by omega) (by omega)
  have hf0 : up g.f 3 (some y) 0 = some e.b := (up_ne (by decide)).trans i.fb
  obtain ⟨ow2, fr2⟩ := ow1.wr hf0 (encP e { g with f := up g.f 3 (some y), tc := cap' } { st.p with trs := st.p.trs ++ [x] })
  have hc0 : up g.c 3 (st.p.trs.flatMap encT ++ encT x) 0 = encP e g st.p := (up_ne (by decide)).trans i.cb
  refine ⟨y, cap', h1, _, _, e1, fr1, fun β k => ow1.wrK hf0 rfl (by rw [hc0]; exact (by decide : 17 ≤ 21)) rfl ?_ k, fr1.trans fr2, ?_⟩
  · rw [hc0]
    simp only [encP, slP_up, slP_ne (f := g.f) (i := 3) (j := 1) (v := some y) (by decide), slP_ne (f := g.f) (i := 3) (j := 2) (v := some y) (by decide), slP_ne (f := g.f) (i := 3) (j := 4) (v := some y) (by decide), List.length_append]
    rfl
  · have fr := fr1.trans fr2
    refine ⟨{ g with f := up g.f 3 (some y), tc := cap', c := up (up g.c 3 (st.p.trs.flatMap encT ++ encT x)) 0 (encP e { g with f := up g.f 3 (some y), tc := cap' } { st.p with trs := st.p.trs ++ [x] }) }, rfl, ow2, hf0, by simp only [up_self]; rfl, i.lrow.mod fr.mod fun b hb => i.nin (.inl hb), (i.sp.ne (by decide)).neC (by decide), (i.vp.ne (by decide)).neC (by decide), ?_, (i.gp.ne (by decide)).neC (by decide), i.esv, fun x hx => (i.rows x hx).mod fr.mod fun b hb => i.nin (.inr ⟨x, hx, hb⟩), i.rge, i.fy, i.cy, i.fv, ?_, (i.bp.ne (by decide)).neC (by decide), i.fk, i.ck, i.nin' (f' := up g.f 3 (some y)) hn (up_cases g.f 3 y), ⟨i.ok.k, i.ok.spots, i.ok.vips, ?_, i.ok.svs, i.ok.bks, i.ok.len⟩⟩
    · have := ar1.neC (j := 0) (v := encP e { g with f := up g.f 3 (some y), tc := cap' } { st.p with trs := st.p.trs ++ [x] }) (by decide)
      simpa using this
    · exact i.cv
    · simpa using hk

/-- one who serves joins the service -/
theorem InvG.pushBk (i : InvG e g h st) {b : Nat} (hb : e.sv = some b) (x : Bk) (hk : st.sv.bks.length + 1 ≤ st.p.k) :
    ∃ y cap' h1 h2 S', (∀ (β : Type) (k : Option (Nat × Nat) → Nat → Cap → H → Option β), appK 10 56 (slP g.f 7) st.sv.bks.length g.bc (evSrc 10 (.slice (some (h.next, 0)) 1 (.known 1)) (h.new (.cells (encB x) false))) (h.new (.cells (encB x) false)) k = k (some (y, 0)) (st.sv.bks.length + 1) cap' h1) ∧
    Fr (foot g.f) h S' h1 ∧ (∀ (β : Type) (k : H → Option β), wrK h1 b 9 1 [.slice (some (y, 0)) (st.sv.bks.length + 1) cap'] k = k h2) ∧ Fr (foot g.f) h S' h2 ∧ Inv e h2 { st with sv := { st.sv with bks := st.sv.bks ++ [x] } } S' := by
  have hl := i.ok.k; have hl2 := i.ok.len
  obtain ⟨y, cap', h1, e1, hn, ow1, ar1, fr1, m1⟩ := i.ow.push (bytes := 56) (by decide : 7 < 12) i.bp (xs := encB x) rfl rfl (by decide) (by omega) (by omega)
  have hf0 : up g.f 7 (some y) 6 = some b := (up_ne (by decide)).trans (i.fv.trans hb)
  obtain ⟨ow2, fr2⟩ := ow1.wr hf0 (encS st.sv (.slice (some (y, 0)) (st.sv.bks.length + 1) cap'))
  have hc0 : up g.c 7 (st.sv.bks.flatMap encB ++ encB x) 6 = encS st.sv (.slice (slP g.f 7) st.sv.bks.length g.bc) := (up_ne (by decide)).trans i.cv
  refine ⟨y, cap', h1, _, _, e1, fr1, fun β k => ow1.wrK hf0 rfl (by rw [hc0]; exact (by decide : 10 ≤ 10)) rfl (by rw [hc0]; rfl) k, fr1.trans fr2, ?_⟩
  have fr := fr1.trans fr2
  refine ⟨{ g with f := up g.f 7 (some y), bc := cap', c := up (up g.c 7 (st.sv.bks.flatMap encB ++ encB x)) 6 (encS st.sv (.slice (some (y, 0)) (st.sv.bks.length + 1) cap')) }, rfl, ow2, i.fb, i.cb.trans ?_, i.lrow.mod fr.mod fun b hb => i.nin (.inl hb), (i.sp.ne (by decide)).neC (by decide), (i.vp.ne (by decide)).neC (by decide), (i.tp.ne (by decide)).neC (by decide), (i.gp.ne (by decide)).neC (by decide), i.esv, fun x hx => (i.rows x hx).mod fr.mod fun b hb => i.nin (.inr ⟨x, hx, hb⟩), i.rge, i.fy, i.cy, i.fv, ?_, ?_, i.fk, i.ck, i.nin' (f' := up g.f 7 (some y)) hn (up_cases g.f 7 y), ⟨i.ok.k, i.ok.spots, i.ok.vips, i.ok.trs, i.ok.svs, ?_, i.ok.len⟩⟩
  · rfl
  · show up (up g.c 7 (st.sv.bks.flatMap encB ++ encB x)) 6 (encS st.sv (.slice (some (y, 0)) (st.sv.bks.length + 1) cap')) 6 = encS { st.sv with bks := st.sv.bks ++ [x] } (.slice (slP (up g.f 7 (some y)) 7) (st.sv.bks ++ [x]).length cap')
    rw [up_self, slP_up, List.length_append]
    rfl
  · have := ar1.neC (j := 6) (v := encS st.sv (.slice (some (y, 0)) (st.sv.bks.length + 1) cap')) (by decide)
    simpa using this
  · simpa using hk

end
end Go.Ev.Tryd

/- The configuration's reader: variables come and go. -/
namespace Go.Ev.Tryd
set_option maxRecDepth 10000
open Go.Proofs

section
variable {e : En} {h h' : H} {st : St} {S : List Nat}

theorem Inv.openY (i : Inv e h st S) (he : e.yes = none) {b : Nat} {y : Int} (hb : h.next ≤ b) (ha : At h' b (.cells [.int .i64 y] false)) (m : Mod [] h h') :
    ∃ S', Fr S h S' h' ∧ Inv { e with yes := some b } h' { st with yes := y } S' := by
  obtain ⟨g, rfl, i⟩ := i
  have hf := i.fy.trans he
  obtain ⟨ow, fr⟩ := i.ow.put (i := 5) (by decide) hb ha m.of_nil
  exact ⟨_, fr, { g with f := up g.f 5 (some b), c := up g.c 5 [.int .i64 y] }, rfl, ow, i.fb, i.cb, i.lrow.mod0 m, i.sp.ne (by decide), i.vp.ne (by decide), i.tp.ne (by decide), i.gp.ne (by decide), i.esv, fun x hx => (i.rows x hx).mod0 m, i.rge, up_self g.f 5 _, up_self g.c 5 _, i.fv, i.cv, i.bp.ne (by decide), i.fk, i.ck, i.nin' (f' := up g.f 5 (some b)) hb (up_cases g.f 5 b), ⟨i.ok.k, i.ok.spots, i.ok.vips, i.ok.trs, i.ok.svs, i.ok.bks, i.ok.len⟩⟩
theorem Inv.closeY {b : Nat} (he : e.yes = none) (i : Inv { e with yes := some b } h st S) : ∃ S', Fr S h S' h ∧ Inv e h st S' := by
  obtain ⟨g, rfl, i⟩ := i
  refine ⟨_, i.ow.dropF 5, { g with f := up g.f 5 none }, rfl, i.ow.drop 5, i.fb, i.cb, i.lrow, i.sp.neF (by decide), i.vp.neF (by decide), i.tp.neF (by decide), i.gp.neF (by decide), i.esv, i.rows, i.rge, (up_self g.f 5 none).trans he.symm, i.cy, i.fv, i.cv, i.bp.neF (by decide), i.fk, i.ck, fun x hx j => ?_, ⟨i.ok.k, i.ok.spots, i.ok.vips, i.ok.trs, i.ok.svs, i.ok.bks, i.ok.len⟩⟩
  show up g.f 5 none j ≠ some x
  by_cases hj : j = 5
  · rw [hj, up_self]; simp
  · rw [up_ne hj]; exact i.kl x hx j

theorem Inv.openB (i : Inv e h st S) (he : e.bk = none) {b : Nat} {y : Bk} (hb : h.next ≤ b) (ha : At h' b (.cells (encB y) false)) (m : Mod [] h h') :
    ∃ S', Fr S h S' h' ∧ Inv { e with bk := some b } h' { st with bk := y } S' := by
  obtain ⟨g, rfl, i⟩ := i
  have hf := i.fk.trans he
  obtain ⟨ow, fr⟩ := i.ow.put (i := 8) (by decide) hb ha m.of_nil
  exact ⟨_, fr, { g with f := up g.f 8 (some b), c := up g.c 8 (encB y) }, rfl, ow, i.fb, i.cb, i.lrow.mod0 m, i.sp.ne (by decide), i.vp.ne (by decide), i.tp.ne (by decide), i.gp.ne (by decide), i.esv, fun x hx => (i.rows x hx).mod0 m, i.rge, i.fy, i.cy, i.fv, i.cv, i.bp.ne (by decide), up_self g.f 8 _, up_self g.c 8 _, i.nin' (f' := up g.f 8 (some b)) hb (up_cases g.f 8 b), ⟨i.ok.k, i.ok.spots, i.ok.vips, i.ok.trs, i.ok.svs, i.ok.bks, i.ok.len⟩⟩
theorem Inv.closeB {b : Nat} (he : e.bk = none) (i : Inv { e with bk := some b } h st S) : ∃ S', Fr S h S' h ∧ Inv e h st S' := by
  obtain ⟨g, rfl, i⟩ := i
  refine ⟨_, i.ow.dropF 8, { g with f := up g.f 8 none }, rfl, i.ow.drop 8, i.fb, i.cb, i.lrow, i.sp.neF (by decide), i.vp.neF (by decide), i.tp.neF (by decide), i.gp.neF (by decide), i.esv, i.rows, i.rge, i.fy, i.cy, i.fv, i.cv, i.bp.neF (by decide), (up_self g.f 8 none).trans he.symm, i.ck, fun x hx j => ?_, ⟨i.ok.k, i.ok.spots, i.ok.vips, i.ok.trs, i.ok.svs, i.ok.bks, i.ok.len⟩⟩
  show up g.f 8 none j ≠ some x
  by_cases hj : j = 8
  · rw [hj, up_self]; simp
  · rw [up_ne hj]; exact i.kl x hx j

theorem Inv.openS (i : Inv e h st S) (he : e.sv = none) {b : Nat} {y : Sv} (hy : y.bks = []) (hb : h.next ≤ b) (ha : At h' b (.cells (encS y (.slice none 0 (.known 0))) false)) (m : Mod [] h h') :
    ∃ S', Fr S h S' h' ∧ Inv { e with sv := some b } h' { st with sv := y } S' := by
  obtain ⟨g, rfl, i⟩ := i
  have hf := i.fv.trans he
  obtain ⟨ow, fr⟩ := (i.ow.drop 7).put (i := 6) (by decide) hb ha m.of_nil
  have hf7 : up (up g.f 7 none) 6 (some b) 7 = none := by rw [up_ne (by decide), up_self]
  refine ⟨_, (i.ow.dropF 7).trans fr, { g with f := up (up g.f 7 none) 6 (some b), c := up g.c 6 (encS y (.slice none 0 (.known 0))), bc := .known 0 }, rfl, ow, i.fb, i.cb, i.lrow.mod0 m, (i.sp.neF (by decide)).ne (by decide), (i.vp.neF (by decide)).ne (by decide), (i.tp.neF (by decide)).ne (by decide), (i.gp.neF (by decide)).ne (by decide), i.esv, fun x hx => (i.rows x hx).mod0 m, i.rge, i.fy, i.cy, up_self (up g.f 7 none) 6 (some b), ?_, ?_, i.fk, i.ck, i.nin' (f' := up (up g.f 7 none) 6 (some b)) hb fun k => ?_, ⟨i.ok.k, i.ok.spots, i.ok.vips, i.ok.trs, i.ok.svs, ?_, i.ok.len⟩⟩
  · show up g.c 6 (encS y (.slice none 0 (.known 0))) 6 = encS y (.slice (slP (up (up g.f 7 none) 6 (some b)) 7) y.bks.length (.known 0))
    rw [up_self, hy]
    unfold slP
    rw [hf7]; rfl
  · show Arr _ _ 7 10 y.bks.length _ (y.bks.flatMap encB)
    rw [hy]
    exact .nil hf7
  · rcases up_cases (up g.f 7 none) 6 b k with e' | e' | e'
    · exact .inl e'
    · by_cases hk : k = 7
      · rw [hk]; exact .inr (.inr hf7)
      · rw [up_ne hk] at e'; exact .inr (.inl e')
    · exact .inr (.inr e')
  · show y.bks.length ≤ _
    rw [hy]; exact Nat.zero_le _

def sv0 : Sv := ⟨⟨#[]⟩, ⟨#[]⟩, 0, 0, 0, 0, 0, 0, 0, []⟩
/-- a service joins the services, and is no variable any more -/
theorem InvG.pushSv {g : Gh} {b : Nat} (he : e.sv = none) (i : InvG { e with sv := some b } g h st) (hk : st.p.svs.length + 1 ≤ st.p.k) :
    ∃ y cap' h1 h2 S', (∀ (β : Type) (k : Option (Nat × Nat) → Nat → Cap → H → Option β), appK 10 112 (slP g.f 4) st.p.svs.length g.gc (evSrc 10 (.slice (some (h.next, 0)) 1 (.known 1)) (h.new (.cells (encS st.sv (.slice (slP g.f 7) st.sv.bks.length g.bc)) false))) (h.new (.cells (encS st.sv (.slice (slP g.f 7) st.sv.bks.length g.bc)) false)) k = k (some (y, 0)) (st.p.svs.length + 1) cap' h1) ∧
    Mod (own (slP g.f 4)) h h1 ∧ (∀ (β : Type) (k : H → Option β), wrK h1 e.b 17 1 [.slice (some (y, 0)) (st.p.svs.length + 1) cap'] k = k h2) ∧ Fr (foot g.f) h S' h2 ∧ Inv e h2 { st with p := { st.p with svs := st.p.svs ++ [st.sv] }, sv := sv0 } S' := by
  have hl : st.p.k ≤ e.l.length := i.ok.k
  have hl2 : e.l.length ≤ 400000 := i.ok.len
  obtain ⟨y, cap', h1, e1, hn, ow1, ar1, fr1, m1⟩ := i.ow.push (bytes := 112) (by decide : 4 < 12) i.gp (xs := encS st.sv (.slice (slP g.f 7) st.sv.bks.length g.bc)) rfl rfl (by decide) (by omega) (by omega)
  have hf0 : up g.f 4 (some y) 0 = some e.b := (up_ne (by decide)).trans i.fb
  have hc0 : up g.c 4 (g.svr.flatMap encR ++ encS st.sv (.slice (slP g.f 7) st.sv.bks.length g.bc)) 0 = encP e g st.p := (up_ne (by decide)).trans i.cb
  obtain ⟨v, hv⟩ : ∃ v, v = encP e { g with f := up g.f 4 (some y), gc := cap' } { st.p with svs := st.p.svs ++ [st.sv] } := ⟨_, rfl⟩
  obtain ⟨ow2, fr2⟩ := ow1.wr hf0 v
  have fr := fr1.trans fr2
  have hr : Row h 10 (slP g.f 7) st.sv.bks.length g.bc (st.sv.bks.flatMap encB) := (i.bp.grow i.ow).row
  have hr7 : ∀ x, x ∈ own (slP g.f 7) → g.f 7 = some x := by
    intro x hx
    cases h7 : g.f 7 with
    | none => rw [slP, h7] at hx; simp at hx
    | some z => rw [slP, h7] at hx; obtain rfl : x = z := by simpa using hx
                rfl
  refine ⟨y, cap', h1, _, _, e1, m1, fun β k => ow1.wrK hf0 rfl (by rw [hc0]; exact (by decide : 18 ≤ 21)) rfl ?_ k, (fr.trans (ow2.dropF 6)).trans ((ow2.drop 6).dropF 7), ?_⟩
  · rw [hc0, hv]
    simp only [encP, slP_up, slP_ne (f := g.f) (i := 4) (j := 1) (v := some y) (by decide), slP_ne (f := g.f) (i := 4) (j := 2) (v := some y) (by decide), slP_ne (f := g.f) (i := 4) (j := 3) (v := some y) (by decide), List.length_append]
    rfl
  · have hff : up (up (up g.f 4 (some y)) 6 none) 7 none 6 = none := by rw [up_ne (by decide), up_self]
    have ow3 := ((ow2.drop 6).drop 7).neC hff (encS sv0 (.slice none 0 (.known 0)))
    refine ⟨{ g with f := up (up (up g.f 4 (some y)) 6 none) 7 none, c := up (up (up g.c 4 (g.svr.flatMap encR ++ encS st.sv (.slice (slP g.f 7) st.sv.bks.length g.bc))) 0 v) 6 (encS sv0 (.slice none 0 (.known 0))), gc := cap', bc := .known 0, svr := g.svr ++ [(st.sv, slP g.f 7, g.bc)] }, rfl, ow3, ?_, ?_, i.lrow.mod fr.mod fun b hb => i.nin (.inl hb),
      ((((i.sp.ne (by decide)).neC (by decide)).neF (by decide)).neF (by decide)).neC (by decide), ((((i.vp.ne (by decide)).neC (by decide)).neF (by decide)).neF (by decide)).neC (by decide), ((((i.tp.ne (by decide)).neC (by decide)).neF (by decide)).neF (by decide)).neC (by decide), ?_, ?_, ?_, ?_, i.fy, i.cy, ?_, ?_, ?_, i.fk, i.ck, ?_, ⟨i.ok.k, i.ok.spots, i.ok.vips, i.ok.trs, ?_, Nat.zero_le _, i.ok.len⟩⟩
    · exact i.fb
    · exact hv
    · have := ((((ar1.neC (j := 0) (v := v) (by decide)).neF (j := 6) (w := none) (by decide)).neF (j := 7) (w := none) (by decide)).neC (j := 6) (v := encS sv0 (.slice none 0 (.known 0))) (by decide))
      simpa [encR] using this
    · show (g.svr ++ [(st.sv, slP g.f 7, g.bc)]).map (·.1) = st.p.svs ++ [st.sv]
      rw [List.map_append, i.esv]; rfl
    · intro x hx
      rcases List.mem_append.1 hx with hx | hx
      · exact (i.rows x hx).mod fr.mod fun b hb => i.nin (.inr ⟨x, hx, hb⟩)
      · obtain rfl := List.mem_singleton.1 hx
        refine (hr.mod m1 fun b hb hb4 => ?_).mod (S := [e.b]) ((Mod.refl _ _).set (.inr (by simp)) _) fun b hb he' => ?_
        · have h7 := hr7 b hb
          cases h4 : g.f 4 with
          | none => rw [slP, h4] at hb4; simp at hb4
          | some z => rw [slP, h4] at hb4; obtain rfl : b = z := by simpa using hb4
                      exact absurd (i.ow.inj _ _ _ h7 h4) (by decide)
        · have h7 := hr7 b hb
          obtain rfl : b = e.b := by simpa using he'
          exact absurd (i.ow.inj _ _ _ h7 i.fb) (by decide)
    · intro x hx
      rcases List.mem_append.1 hx with hx | hx
      · exact i.rge x hx
      · obtain rfl := List.mem_singleton.1 hx
        intro z hz
        exact i.ow.ge 7 z (hr7 z hz)
    · exact (show up (up (up g.f 4 (some y)) 6 none) 7 none 6 = none from hff).trans he.symm
    · show up (up (up g.c 4 (g.svr.flatMap encR ++ encS st.sv (.slice (slP g.f 7) st.sv.bks.length g.bc))) 0 v) 6 (encS sv0 (.slice none 0 (.known 0))) 6 = encS sv0 (.slice (slP (up (up (up g.f 4 (some y)) 6 none) 7 none) 7) 0 (.known 0))
      rw [up_self]
      unfold slP
      rw [up_self]; rfl
    · exact .nil (up_self (up (up g.f 4 (some y)) 6 none) 7 none)
    · intro x hx j
      show up (up (up g.f 4 (some y)) 6 none) 7 none j ≠ some x
      have hx' : x < h.next ∧ ((∀ k, g.f k ≠ some x) ∨ g.f 7 = some x) := by
        rcases hx with hx | ⟨z, hz, hx⟩
        · exact ⟨i.lrow.lt x hx, .inl (i.kl x (.inl hx))⟩
        · rcases List.mem_append.1 hz with hz | hz
          · exact ⟨(i.rows z hz).lt x hx, .inl (i.kl x (.inr ⟨z, hz, hx⟩))⟩
          · obtain rfl := List.mem_singleton.1 hz
            exact ⟨hr.lt x hx, .inr (hr7 x hx)⟩
      by_cases h7 : j = 7
      · rw [h7, up_self]; simp
      · rw [up_ne h7]
        by_cases h6 : j = 6
        · rw [h6, up_self]; simp
        · rw [up_ne h6]
          by_cases h4 : j = 4
          · rw [h4, up_self]; intro e'; have := Option.some.inj e'; omega
          · rw [up_ne h4]
            rcases hx'.2 with hx2 | hx2
            · exact hx2 j
            · intro e'; exact h7 (i.ow.inj _ _ _ e' hx2)
    · simpa using hk
end
end Go.Ev.Tryd

/- The configuration's reader: its small steps. -/
namespace Go.Ev.Tryd
set_option maxRecDepth 10000
open Go.Proofs

def peekP (l : List Wd) (k : Nat) : Bs := match l[k]? with | some w => w.1 | none => ⟨#[]⟩
def placeP (s : Bs) (l : List Wd) (k : Nat) : Int := match l[k]? with | some w => w.2.1 | none => s.size
def failP (p : Ps) (at' c : Int) : Ps := if p.code = 0 then { p with bad := at', code := c } else p
def mustP (s : Bs) (l : List Wd) (w : Bs) (p : Ps) : Ps × Bool := if peekP l p.k = w then ({ p with k := p.k + 1 }, true) else (failP p (placeP s l p.k) 180, false)
def stopW (w : Bs) : Bool := decide (w = ⟨#[]⟩) || decide (w = ⟨#[10]⟩) || decide (w = ⟨#[123]⟩) || decide (w = ⟨#[125]⟩)
def valueP (s : Bs) (l : List Wd) (p : Ps) : Ps × Bs × Int × Bool := if stopW (peekP l p.k) = true then (failP p (placeP s l p.k) 180, ⟨#[]⟩, placeP s l p.k, false) else ({ p with k := p.k + 1 }, peekP l p.k, placeP s l p.k, true)

theorem peekP_lt {l : List Wd} {k : Nat} (h : peekP l k ≠ ⟨#[]⟩) : k < l.length := by
  unfold peekP at h
  split at h
  · next w hw => exact (List.getElem?_eq_some_iff.1 hw).1
  · exact absurd rfl h
theorem stopW_ne {w : Bs} (h : stopW w = false) : w ≠ ⟨#[]⟩ := by
  rintro rfl; simp [stopW] at h
theorem failP_k (p : Ps) (a c : Int) : (failP p a c).k = p.k ∧ (failP p a c).spots = p.spots ∧ (failP p a c).vips = p.vips ∧ (failP p a c).trs = p.trs ∧ (failP p a c).svs = p.svs := by
  unfold failP; split <;> exact ⟨rfl, rfl, rfl, rfl, rfl⟩

section
variable {e : En} {h : H} {st : St} {S : List Nat}

theorem Inv.okp (i : Inv e h st S) : Okp e st := by obtain ⟨_, _, i⟩ := i; exact i.ok
theorem Okp.fail (o : Okp e st) (a c : Int) : Okp e { st with p := failP st.p a c } := by
  obtain ⟨h1, h2, h3, h4, h5⟩ := failP_k st.p a c
  exact ⟨h1 ▸ o.k, by rw [h1, h2]; exact o.spots, by rw [h1, h3]; exact o.vips, by rw [h1, h4]; exact o.trs, by rw [h1, h5]; exact o.svs, by rw [h1]; exact o.bks, o.len⟩
theorem Okp.step (o : Okp e st) (hk : st.p.k < e.l.length) : Okp e { st with p := { st.p with k := st.p.k + 1 } } :=
  ⟨hk, Nat.le_succ_of_le o.spots, Nat.le_succ_of_le o.vips, Nat.le_succ_of_le o.trs, Nat.le_succ_of_le o.svs, Nat.le_succ_of_le o.bks, o.len⟩

theorem peek_eq (i : Inv e h st S) (n : Nat) : ca (n + 1) i_config_parser_peek [.ptr (some (e.b, 0))] h = some (.str (peekP e.l st.p.k), h) := by
  obtain ⟨g, rfl, i⟩ := i
  rw [config_parser_peek_eq]
  simp only [nnK_some', Nat.zero_add]
  rw [i.cell (o := 2) rfl, asInt_int, i.cell (o := 1) rfl, asSlice_slice]
  unfold peekP
  cases hw : e.l[st.p.k]? with
  | none =>
    have : e.l.length ≤ st.p.k := List.getElem?_eq_none_iff.1 hw
    rw [show decide ((st.p.k : Int) ≥ (Nat.cast e.l.length)) = true by simp; omega, cond_true]
  | some w =>
    have : st.p.k < e.l.length := (List.getElem?_eq_some_iff.1 hw).1
    rw [show decide ((st.p.k : Int) ≥ (Nat.cast e.l.length)) = false by simp; omega, cond_false, i.cell (o := 1) rfl, asSlice_slice, i.cell (o := 2) rfl, asInt_int, i.lrow.ix20 encW_len hw (v := .str w.1) rfl, asStr_str]

theorem place_eq (i : Inv e h st S) (n : Nat) : ca (n + 1) i_config_parser_place [.ptr (some (e.b, 0))] h = some (.int .i64 (placeP e.s e.l st.p.k), h) := by
  obtain ⟨g, rfl, i⟩ := i
  rw [config_parser_place_eq]
  simp only [nnK_some', Nat.zero_add]
  rw [i.cell (o := 2) rfl, asInt_int, i.cell (o := 1) rfl, asSlice_slice]
  unfold placeP
  cases hw : e.l[st.p.k]? with
  | none =>
    have : e.l.length ≤ st.p.k := List.getElem?_eq_none_iff.1 hw
    rw [show decide ((st.p.k : Int) ≥ (Nat.cast e.l.length)) = true by simp; omega, cond_true, i.cell (o := 0) rfl, asStr_str]
  | some w =>
    have : st.p.k < e.l.length := (List.getElem?_eq_some_iff.1 hw).1
    rw [show decide ((st.p.k : Int) ≥ (Nat.cast e.l.length)) = false by simp; omega, cond_false, i.cell (o := 1) rfl, asSlice_slice, i.cell (o := 2) rfl, asInt_int, i.lrow.ix2 encW_len hw 1 (v := .int .i64 w.2.1) rfl, asInt_int]

theorem fail_ret (i : Inv e h st S) (n : Nat) (a c : Int) : Ret (ca (n + 1) i_config_parser_fail [.ptr (some (e.b, 0)), .int .i64 a, .int .i64 c] h) fun r h' => r = .bool false ∧ Fr S h S h' ∧ Inv e h' { st with p := failP st.p a c } S := by
  have ok := i.okp.fail a c
  have i0 := i
  obtain ⟨g, rfl, i⟩ := i
  rw [config_parser_fail_eq]
  simp only [nnK_some', Nat.zero_add]
  rw [i.cell (o := 20) rfl, asInt_int]
  unfold failP at ok ⊢
  by_cases hc : st.p.code = 0
  · rw [if_pos hc] at ok ⊢
    rw [hc, show ((0 : Int) == 0) = true from rfl, cond_true]
    obtain ⟨h1, e1, f1, i1⟩ := i0.wrP (p' := { st.p with bad := a }) (o := 19) (n := 1) (xs := [.int .i64 a]) rfl (by decide) rfl (fun _ => rfl) rfl rfl rfl rfl ⟨ok.k, ok.spots, ok.vips, ok.trs, ok.svs, ok.bks, ok.len⟩
    obtain ⟨h2, e2, f2, i2⟩ := i1.wrP (p' := { st.p with bad := a, code := c }) (o := 20) (n := 1) (xs := [.int .i64 c]) rfl (by decide) rfl (fun _ => rfl) rfl rfl rfl rfl ok
    rw [e1, e2]
    exact .pure ⟨rfl, f1.trans f2, i2⟩
  · rw [if_neg hc] at ok ⊢
    rw [show (st.p.code == 0) = false by simpa using hc, cond_false]
    exact .pure ⟨rfl, .refl _ _, i0⟩

/-- a word is taken -/
theorem Inv.step (i : Inv e h st S) (hk : st.p.k < e.l.length) : ∃ h', (∀ (β : Type) (k : H → Option β), (cellK h e.b 2 fun v => asInt .i64 v fun x => wrK h e.b 2 1 [.int .i64 (IntKind.i64.wrap (x + 1))] k) = k h') ∧ Fr S h S h' ∧ Inv e h' { st with p := { st.p with k := st.p.k + 1 } } S := by
  have ok := i.okp
  have i0 := i
  obtain ⟨g, rfl, i⟩ := i
  obtain ⟨h1, e1, f1, i1⟩ := i0.wrP (p' := { st.p with k := st.p.k + 1 }) (o := 2) (n := 1) (xs := [.int .i64 ((st.p.k + 1 : Nat) : Int)]) rfl (by decide) rfl (fun _ => rfl) rfl rfl rfl rfl (ok.step hk)
  refine ⟨h1, fun β k => ?_, f1, i1⟩
  rw [i.cell (o := 2) rfl, asInt_int, wrap_succ (by have := ok.len; omega), e1]

theorem must_ret (i : Inv e h st S) (n : Nat) {w : Bs} (hw : w ≠ ⟨#[]⟩) : Ret (ca (n + 2) i_config_parser_must [.ptr (some (e.b, 0)), .str w] h) fun r h' => r = .bool (mustP e.s e.l w st.p).2 ∧ Fr S h S h' ∧ Inv e h' { st with p := (mustP e.s e.l w st.p).1 } S := by
  rw [config_parser_must_eq, peek_eq i, Option.bind_some, asStr_str, str_eq]
  unfold mustP
  by_cases hp : peekP e.l st.p.k = w
  · rw [decide_eq_true hp, Bool.not_true, cond_false, if_pos hp]
    simp only [nnK_some', Nat.zero_add]
    obtain ⟨h1, e1, f1, i1⟩ := i.step (peekP_lt (by rw [hp]; exact hw))
    rw [e1]
    exact .pure ⟨rfl, f1, i1⟩
  · rw [decide_eq_false hp, Bool.not_false, cond_true, if_neg hp, place_eq i, Option.bind_some, asInt_int]
    refine (fail_ret i n _ _).bind ?_
    rintro _ h1 ⟨rfl, f1, i1⟩
    simp only [asBool_bool]
    exact .pure ⟨rfl, f1, i1⟩

theorem value_ret (i : Inv e h st S) (n : Nat) : Ret (ca (n + 2) i_config_parser_value [.ptr (some (e.b, 0))] h) fun r h' => r = .tup [.str (valueP e.s e.l st.p).2.1, .int .i64 (valueP e.s e.l st.p).2.2.1, .bool (valueP e.s e.l st.p).2.2.2] ∧ Fr S h S h' ∧ Inv e h' { st with p := (valueP e.s e.l st.p).1 } S := by
  rw [config_parser_value_eq, peek_eq i, Option.bind_some, asStr_str, place_eq i, Option.bind_some, asInt_int]
  have key : ∀ b : Bool, b = stopW (peekP e.l st.p.k) → Ret (config_parser_value_J0 (n + 1) (some (e.b, 0)) (peekP e.l st.p.k) (placeP e.s e.l st.p.k) b h) fun r h' => r = .tup [.str (valueP e.s e.l st.p).2.1, .int .i64 (valueP e.s e.l st.p).2.2.1, .bool (valueP e.s e.l st.p).2.2.2] ∧ Fr S h S h' ∧ Inv e h' { st with p := (valueP e.s e.l st.p).1 } S := by
    rintro _ rfl
    rw [config_parser_value_J0_eq]
    unfold valueP
    cases hs : stopW (peekP e.l st.p.k) with
    | true =>
      rw [cond_true, if_pos rfl]
      refine (fail_ret i n _ _).bind ?_
      rintro _ h1 ⟨rfl, f1, i1⟩
      simp only [asBool_bool]
      exact .pure ⟨rfl, f1, i1⟩
    | false =>
      rw [cond_false, if_neg (by decide)]
      simp only [nnK_some', Nat.zero_add]
      obtain ⟨h1, e1, f1, i1⟩ := i.step (peekP_lt (stopW_ne hs))
      rw [e1]
      exact .pure ⟨rfl, f1, i1⟩
  simp only [str_eq]
  unfold stopW at key
  by_cases h1 : peekP e.l st.p.k = ⟨#[]⟩
  · rw [decide_eq_true h1, cond_true]
    exact key _ (by rw [decide_eq_true h1]; rfl)
  rw [decide_eq_false h1, cond_false]
  by_cases h2 : peekP e.l st.p.k = ⟨#[10]⟩
  · rw [decide_eq_true h2, cond_true]
    exact key _ (by rw [decide_eq_true h2]; simp)
  rw [decide_eq_false h2, cond_false]
  by_cases h3 : peekP e.l st.p.k = ⟨#[123]⟩
  · rw [decide_eq_true h3, cond_true]
    exact key _ (by rw [decide_eq_true h3]; simp)
  rw [decide_eq_false h3, cond_false]
  exact key _ (by rw [decide_eq_false h1, decide_eq_false h2, decide_eq_false h3]; simp)
end
end Go.Ev.Tryd

/- The configuration's reader: what is in a list; what stands behind a dash. -/
namespace Go.Ev.Tryd
set_option maxRecDepth 10000
open Go.Proofs

def memB (w : Bs) (xs : List Bs) : Bool := xs.any fun t => decide (w = t)
theorem memB_iff {w : Bs} {xs : List Bs} : memB w xs = true ↔ w ∈ xs := by simp [memB]
theorem memB_not {w : Bs} {xs : List Bs} (h : w ∉ xs) : memB w xs = false := by
  cases hm : memB w xs with
  | false => rfl
  | true => exact absurd (memB_iff.1 hm) h

theorem addrs_loop {h : H} {p : Pt} {c : Cap} {xs : List Bs} (r : Row h 1 p xs.length c (xs.map .str)) (hx : xs.length ≤ 400000) (w : Bs) (n : Nat) : ∀ (rest pre : List Bs) (m : Nat), xs = pre ++ rest → w ∉ pre → rest.length < m →
    ∃ q : Int, api_Addr_2_L0 n m p xs.length c w (Nat.cast xs.length) (pre.length : Nat) h = some (.int .i64 q, h) ∧ decide (q ≥ 0) = memB w xs
  | [], pre, m + 1, e, hw, _ => by
    rw [api_Addr_2_L0_eq, cast_not_lt (by rw [e]; simp), cond_false]
    exact ⟨-1, rfl, by rw [e, List.append_nil, memB_not hw]; rfl⟩
  | t :: ts, pre, m + 1, e, hw, hm => by
    have hget : xs[pre.length]? = some t := by rw [e]; simp
    have hlt : pre.length < xs.length := (List.getElem?_eq_some_iff.1 hget).1
    rw [api_Addr_2_L0_eq, cast_lt hlt, cond_true, r.ix1 hget, asStr_str, str_eq]
    by_cases ht : w = t
    · rw [decide_eq_true ht, cond_true]
      exact ⟨_, rfl, by rw [decide_eq_true (show ((pre.length : Nat) : Int) ≥ 0 by omega), memB_iff.2 (by rw [e, ht]; simp)]⟩
    · rw [decide_eq_false ht, cond_false, wrap_succ (by omega)]
      have := addrs_loop r hx w n ts (pre ++ [t]) m (by rw [e]; simp) (by simp [hw, ht]) (by simp at hm; omega)
      simpa using this
theorem addrs_eq {h : H} {p : Pt} {c : Cap} {xs : List Bs} (r : Row h 1 p xs.length c (xs.map .str)) (hx : xs.length ≤ 400000) (w : Bs) {n : Nat} (hn : xs.length + 4 ≤ n) : ca n i_api_Addr [.slice p xs.length c, .str w] h = some (.bool (memB w xs), h) := by
  obtain ⟨n, rfl⟩ : ∃ m, n = m + 2 := ⟨n - 2, by omega⟩
  obtain ⟨q, e1, e2⟩ := addrs_loop r hx w n xs [] n rfl (by simp) (by omega)
  rw [api_Addr_eq, api_Addr_2_eq]
  rw [show api_Addr_2_L0 n n p xs.length c w (Nat.cast xs.length) 0 h = some (.int .i64 q, h) from e1, Option.bind_some, asInt_int, e2]

theorem names_loop {h : H} {p : Pt} {c : Cap} {xs : List Bs} (r : Row h 1 p xs.length c (xs.map .str)) (hx : xs.length ≤ 400000) (w : Bs) (n : Nat) : ∀ (rest pre : List Bs) (m : Nat), xs = pre ++ rest → w ∉ pre → rest.length < m →
    ∃ q : Int, slices_Index_string_string_L0 n m p xs.length c w (Nat.cast xs.length) (pre.length : Nat) h = some (.int .i64 q, h) ∧ decide (q ≥ 0) = memB w xs
  | [], pre, m + 1, e, hw, _ => by
    rw [slices_Index_string_string_L0_eq, cast_not_lt (by rw [e]; simp), cond_false]
    exact ⟨-1, rfl, by rw [e, List.append_nil, memB_not hw]; rfl⟩
  | t :: ts, pre, m + 1, e, hw, hm => by
    have hget : xs[pre.length]? = some t := by rw [e]; simp
    have hlt : pre.length < xs.length := (List.getElem?_eq_some_iff.1 hget).1
    rw [slices_Index_string_string_L0_eq, cast_lt hlt, cond_true, r.ix1 hget, asStr_str, str_eq]
    by_cases ht : w = t
    · rw [decide_eq_true ht, cond_true]
      exact ⟨_, rfl, by rw [decide_eq_true (show ((pre.length : Nat) : Int) ≥ 0 by omega), memB_iff.2 (by rw [e, ht]; simp)]⟩
    · rw [decide_eq_false ht, cond_false, wrap_succ (by omega)]
      have := names_loop r hx w n ts (pre ++ [t]) m (by rw [e]; simp) (by simp [hw, ht]) (by simp at hm; omega)
      simpa using this
theorem names_eq {h : H} {p : Pt} {c : Cap} {xs : List Bs} (r : Row h 1 p xs.length c (xs.map .str)) (hx : xs.length ≤ 400000) (w : Bs) {n : Nat} (hn : xs.length + 4 ≤ n) : ca n i_slices_Contains_string_string [.slice p xs.length c, .str w] h = some (.bool (memB w xs), h) := by
  obtain ⟨n, rfl⟩ : ∃ m, n = m + 2 := ⟨n - 2, by omega⟩
  obtain ⟨q, e1, e2⟩ := names_loop r hx w n xs [] n rfl (by simp) (by omega)
  rw [slices_Contains_string_string_eq, slices_Index_string_string_eq]
  rw [show slices_Index_string_string_L0 n n p xs.length c w (Nat.cast xs.length) 0 h = some (.int .i64 q, h) from e1, Option.bind_some, asInt_int, e2]

/-- what stands behind a dash -/
def dashP (w : Bs) : Bs × Bool := if (bs w).head? = some 45 then (mk ((bs w).drop 1), true) else (w, false)
theorem dash_eq (w : Bs) (n : Nat) (h : H) : ca (n + 3) i_strings_CutPrefix [.str w, .str (⟨#[45]⟩ : ByteArray)] h = some (.tup [.str (dashP w).1, .bool (dashP w).2], h) := by
  rw [strings_CutPrefix_eq, stringslite_CutPrefix_eq, stringslite_HasPrefix_eq]
  unfold dashP
  have e1 : (Nat.cast (⟨#[45]⟩ : ByteArray).size : Int) = 1 := rfl
  rw [e1]
  by_cases h0 : 1 ≤ w.size
  · rw [show decide (((Nat.cast w.size) : Int) ≥ 1) = true by simp; omega, cond_true, bnd_upto (by omega) (by omega), Option.bind_some, asBool_bool, str_eq]
    have hx : (w.extract 0 1 = (⟨#[45]⟩ : ByteArray)) ↔ (bs w).head? = some 45 := by
      constructor
      · intro e
        have := congrArg bs e
        rw [bs_extract] at this
        cases hb : bs w with
        | nil => rw [← bs_len, hb] at h0; simp at h0
        | cons x l =>
          rw [hb] at this
          have : [x] = [45] := this
          simpa using this
      · intro e
        refine bs_inj ?_
        rw [bs_extract]
        cases hb : bs w with
        | nil => rw [hb] at e; simp at e
        | cons x l =>
          rw [hb] at e
          obtain rfl : x = 45 := by simpa using e
          rfl
    rw [show (1 : Int).toNat = 1 from rfl]
    by_cases hc : (bs w).head? = some 45
    · rw [decide_eq_true (hx.2 hc), Bool.not_true, cond_false, bnd_from (by omega) (by omega), if_pos hc, Option.bind_some, asTup_tup, lS_of, lB_of, l0_nil]
      have : w.extract 1 w.size = mk ((bs w).drop 1) := bs_inj (by rw [bs_extract, bs_mk, ← bs_len, List.take_of_length_le (by simp)])
      rw [← this]
      rfl
    · rw [decide_eq_false (fun e => hc (hx.1 e)), Bool.not_false, cond_true, if_neg hc, Option.bind_some, asTup_tup, lS_of, lB_of, l0_nil]
  · rw [show decide (((Nat.cast w.size) : Int) ≥ 1) = false by simp; omega, cond_false, Option.bind_some, asBool_bool, Bool.not_false, cond_true]
    have hb : bs w = [] := List.length_eq_zero_iff.1 (by rw [bs_len]; omega)
    rw [hb]
    simp
end Go.Ev.Tryd

/- The configuration's reader: what reads a key. -/
namespace Go.Ev.Tryd
set_option maxRecDepth 10000
open Go.Proofs

abbrev nl : Bs := ⟨#[10]⟩

/-- a block that the reader does not own -/
structure Kept (S : List Nat) (h : H) (i : Nat) (o : AObj) : Prop where
  at_ : At h i o
  out : i ∉ S
theorem Kept.fr {S S' : List Nat} {h h' : H} {i : Nat} {o : AObj} (k : Kept S h i o) (f : Fr S h S' h') : Kept S' h' i o := by
  obtain ⟨h1, h2, h3⟩ := f.keep k.at_.lt k.out
  exact ⟨⟨h2, h1.trans k.at_.get⟩, h3⟩
theorem Kept.cell {β : Type} {S : List Nat} {h : H} {i : Nat} {v : AV} {cs : List AV} {ro : Bool} (k : Kept S h i (.cells (v :: cs) ro)) (f : AV → Option β) : cellK h i 0 f = f v := cellK_of k.at_.get rfl f

theorem callU_det {f : Nat} (hf : (fnd T.tblR f).isSome = false) (n : Nat) (args : List AV) (h : H) (k : AV → H → Option Unit) : callU T n f args h k = (ca n f args h).bind fun q => k q.1 q.2 := by
  unfold callU; rw [hf]
theorem detK {f : Nat} (hf : (fnd T.tblR f).isSome = false) {n : Nat} {args : List AV} {h : H} {Q : AV → H → Prop} (r : Ret (ca n f args h) Q) : RetK (fun kk => callU T n f args h kk) Q := by
  intro kk hk
  show callU T n f args h kk = some ()
  rw [callU_det hf]
  obtain ⟨v, h', e, q⟩ := r
  rw [e, Option.bind_some]
  exact hk v h' q

def GivesB (f : Nat) : Prop := ∀ (b : Bool) (k : AV → Option Unit), crF T.toTab f (.bool b) k = k (.bool b)
def GivesB' (f : Nat) : Prop := ∀ (b : Bool) (k : AV → R), crF T.toTab f (.bool b) k = k (.bool b)

/-- what reads a key -/
structure RdOk (e : En) (S0 : List Nat) (h0 : H) (N : Nat) (f : Nat) (x y : List AV) (sem : St → St × Bool) : Prop where
  gives : GivesB f
  run : ∀ n, N ≤ n → ∀ h S st, Fr S0 h0 S h → Inv e h st S → RetK (fun kk => callU T n f (x ++ [] ++ y) h kk) fun r h' => ∃ S', r = .bool (sem st).2 ∧ Fr S h S' h' ∧ Inv e h' (sem st).1 S'
theorem RdOk.fr {e : En} {S0 S1 : List Nat} {h0 h1 : H} {N f : Nat} {x y : List AV} {sem : St → St × Bool} (r : RdOk e S0 h0 N f x y sem) (fr : Fr S0 h0 S1 h1) : RdOk e S1 h1 N f x y sem :=
  ⟨r.gives, fun n hn h S st f' i => r.run n hn h S st (fr.trans f') i⟩

/-- where a value is laid -/
def PutOk {α : Type} (e : En) (q : Nat × Nat) (n : Nat) (enc : α → List AV) (put : St → α → St) : Prop :=
  ∀ h st S v, Inv e h st S → ∃ h', (∀ (β : Type) (k : H → Option β), wrK h q.1 q.2 n (enc v) k = k h') ∧ Fr S h S h' ∧ Inv e h' (put st v) S

def setP (st : St) (p : Ps) : St := { st with p := p }
def endL (s : Bs) (l : List Wd) (st : St) : St × Bool := (setP st (mustP s l nl st.p).1, (mustP s l nl st.p).2)
def numberV (s : Bs) (l : List Wd) (put : St → Int → St) (lo hi : Int) (st : St) : Ps × Bs × Int × Bool → St × Bool
  | (p, _, _, false) => (setP st p, false)
  | (p, w, at', true) => if (numP (bs w)).2 = true ∧ lo ≤ (numP (bs w)).1 ∧ (numP (bs w)).1 ≤ hi then endL s l (put (setP st p) (numP (bs w)).1) else (setP st (failP p at' 182), false)
def numberS (s : Bs) (l : List Wd) (put : St → Int → St) (lo hi : Int) (st : St) : St × Bool := numberV s l put lo hi st (valueP s l st.p)

section
variable {e : En} {S0 : List Nat} {h0 : H}

theorem line_ret {h : H} {S : List Nat} {st : St} (i : Inv e h st S) (n : Nat) : Ret ((ca (n + 2) i_config_parser_must [.ptr (some (e.b, 0)), .str nl] h).bind fun q => asBool q.1 fun x => some (AV.bool x, q.2) : R) fun r h' => r = .bool (endL e.s e.l st).2 ∧ Fr S h S h' ∧ Inv e h' (endL e.s e.l st).1 S := by
  refine (must_ret i n (by decide)).bind ?_
  rintro _ h1 ⟨rfl, f1, i1⟩
  simp only [asBool_bool]
  exact .pure ⟨rfl, f1, i1⟩

theorem number_rd {i1 i2 i3 i4 : Nat} {q : Nat × Nat} {lo hi : Int} {put : St → Int → St} (hp : PutOk e q 1 (fun v => [.int .i64 v]) put)
    (k1 : Kept S0 h0 i1 (.cells [.ptr (some (e.b, 0))] false)) (k2 : Kept S0 h0 i2 (.cells [.int .i64 lo] false)) (k3 : Kept S0 h0 i3 (.cells [.int .i64 hi] false)) (k4 : Kept S0 h0 i4 (.cells [.ptr (some q)] false)) :
    RdOk e S0 h0 30 i_config_parser_number_1 [] [.ptr (some (i1, 0)), .ptr (some (i2, 0)), .ptr (some (i3, 0)), .ptr (some (i4, 0))] (numberS e.s e.l put lo hi) := by
  refine ⟨fun b k => by kernel_rfl, fun n hn h S st fr i => detK (by kernel_rfl) ?_⟩
  obtain ⟨n, rfl⟩ : ∃ m, n = m + 3 := ⟨n - 3, by omega⟩
  show Ret (ca (n + 2 + 1) i_config_parser_number_1 [.ptr (some (i1, 0)), .ptr (some (i2, 0)), .ptr (some (i3, 0)), .ptr (some (i4, 0))] h) _
  rw [config_parser_number_1_eq]
  simp only [nnK_some', Nat.zero_add]
  rw [(k1.fr fr).cell, asPtr_ptr]
  refine (value_ret i n).bind ?_
  unfold numberS
  generalize valueP e.s e.l st.p = v
  obtain ⟨p1, w, a1, is⟩ := v
  rintro _ h1 ⟨rfl, f1, j1⟩
  simp only [asTup_tup, lS_of, lI_of, lB_of, l0_nil]
  refine (Number_ret w (by omega) h1).bind ?_
  rintro _ h2 ⟨m2, rfl⟩
  unfold enIB
  simp only [asTup_tup, lI_of, lB_of, l0_nil]
  have g1 : Fr S h S h2 := f1.trans (.mod0 m2)
  replace j1 := j1.frame m2
  cases is with
  | false =>
    rw [Bool.not_false, cond_true]
    exact .pure ⟨S, rfl, g1, j1⟩
  | true =>
    rw [Bool.not_true, cond_false]
    rw [show numberV e.s e.l put lo hi st (p1, w, a1, true) = if (numP (bs w)).2 = true ∧ lo ≤ (numP (bs w)).1 ∧ (numP (bs w)).1 ≤ hi then endL e.s e.l (put (setP st p1) (numP (bs w)).1) else (setP st (failP p1 a1 182), false) from rfl]
    have key : ∀ b : Bool, b = !(decide ((numP (bs w)).2 = true ∧ lo ≤ (numP (bs w)).1 ∧ (numP (bs w)).1 ≤ hi)) →
        Ret (config_parser_number_1_J0 (n + 2) (some (i1, 0)) (some (i4, 0)) a1 (numP (bs w)).1 b h2) fun r h' => ∃ S', r = .bool (if (numP (bs w)).2 = true ∧ lo ≤ (numP (bs w)).1 ∧ (numP (bs w)).1 ≤ hi then endL e.s e.l (put (setP st p1) (numP (bs w)).1)
    else (setP st (failP p1 a1 182), false)).2 ∧ Fr S h S' h' ∧ Inv e h' (if (numP (bs w)).2 = true ∧ lo ≤ (numP (bs w)).1 ∧ (numP (bs w)).1 ≤ hi then endL e.s e.l (put (setP st p1) (numP (bs w)).1)
    else (setP st (failP p1 a1 182), false)).1 S' := by
      rintro b hb
      rw [config_parser_number_1_J0_eq]
      simp only [nnK_some', Nat.zero_add]
      by_cases hc : (numP (bs w)).2 = true ∧ lo ≤ (numP (bs w)).1 ∧ (numP (bs w)).1 ≤ hi
      · rw [decide_eq_true hc] at hb
        rw [hb, Bool.not_true, cond_false, if_pos hc, ((k4.fr fr).fr g1).cell, asPtr_ptr]
        obtain ⟨h3, e3, f3, j3⟩ := hp h2 _ S (numP (bs w)).1 j1
        rw [nnK_some', e3, (((k1.fr fr).fr g1).fr f3).cell, asPtr_ptr]
        refine (line_ret j3 n).mono ?_
        rintro _ h4 ⟨rfl, f4, j4⟩
        exact ⟨S, rfl, (g1.trans f3).trans f4, j4⟩
      · rw [decide_eq_false hc] at hb
        rw [hb, Bool.not_false, cond_true, if_neg hc, ((k1.fr fr).fr g1).cell, asPtr_ptr]
        refine (fail_ret j1 (n + 1) _ _).bind ?_
        rintro _ h3 ⟨rfl, f3, j3⟩
        simp only [asBool_bool]
        exact .pure ⟨S, rfl, g1.trans f3, j3⟩
    cases hg : (numP (bs w)).2 with
    | false =>
      rw [Bool.not_false, cond_true]
      rw [hg] at key
      exact key _ (by simp)
    | true =>
      rw [Bool.not_true, cond_false, ((k2.fr fr).fr g1).cell, asInt_int]
      rw [hg] at key
      by_cases h1 : (numP (bs w)).1 < lo
      · rw [decide_eq_true h1, cond_true]
        exact key _ (by simp; omega)
      · rw [decide_eq_false h1, cond_false, ((k3.fr fr).fr g1).cell, asInt_int]
        refine key _ ?_
        by_cases h2 : hi < (numP (bs w)).1
        · rw [decide_eq_true h2, decide_eq_false (by rintro ⟨_, _, h⟩; omega)]; rfl
        · rw [decide_eq_false h2, decide_eq_true ⟨rfl, by omega, by omega⟩]; rfl
end
end Go.Ev.Tryd

/- The configuration's reader: what reads a choice, a card, an address. -/
namespace Go.Ev.Tryd
set_option maxRecDepth 10000
open Go.Proofs

def choiceV (s : Bs) (l : List Wd) (put : St → Int → St) (L : List (Bs × Int)) (st : St) : Ps × Bs × Int × Bool → St × Bool
  | (p, _, _, false) => (setP st p, false)
  | (p, w, at', true) => match lk L w with | some v => endL s l (put (setP st p) v) | none => (setP st (failP p at' 182), false)
def choiceS (s : Bs) (l : List Wd) (put : St → Int → St) (L : List (Bs × Int)) (st : St) : St × Bool := choiceV s l put L st (valueP s l st.p)
def cardV (s : Bs) (l : List Wd) (put : St → Cd → St) (st : St) : Ps × Bs × Int × Bool → St × Bool
  | (p, _, _, false) => (setP st p, false)
  | (p, w, at', true) => if (cardP w).2 = true then endL s l (put (setP st p) (cdOf (cardP w).1)) else (setP st (failP p at' 182), false)
def cardS (s : Bs) (l : List Wd) (put : St → Cd → St) (st : St) : St × Bool := cardV s l put st (valueP s l st.p)
def thenEnd (s : Bs) (l : List Wd) (r : St × Bool) : St × Bool := if r.2 = true then endL s l r.1 else (r.1, false)
def addressV (s : Bs) (l : List Wd) (svc : Bool) (tk : St → Bs → Int → St × Bool) (st : St) : Ps × Bs × Int × Bool → St × Bool
  | (p, _, _, false) => (setP st p, false)
  | (p, w, at', true) => if (adrP w).2 = true then thenEnd s l (tk (setP st { p with spots := p.spots ++ [((adrP w).1, at', svc)] }) (adrP w).1 at') else (setP st (failP p at' 182), false)
def addressS (s : Bs) (l : List Wd) (svc : Bool) (tk : St → Bs → Int → St × Bool) (st : St) : St × Bool := addressV s l svc tk st (valueP s l st.p)

/-- who takes an address -/
structure TkOk (e : En) (S0 : List Nat) (h0 : H) (N : Nat) (f : Nat) (x y : List AV) (tk : St → Bs → Int → St × Bool) : Prop where
  gives : GivesB' f
  run : ∀ n, N ≤ n → ∀ h S st a at', Fr S0 h0 S h → Inv e h st S → st.p.vips.length + 1 ≤ st.p.k → Ret (ca n f (x ++ [.str a, .int .i64 at'] ++ y) h) fun r h' => ∃ S', r = .bool (tk st a at').2 ∧ Fr S h S' h' ∧ Inv e h' (tk st a at').1 S'

def intoS (put : St → Bs → St) (st : St) (a : Bs) (_ : Int) : St × Bool := (put st a, true)
def vipS (st : St) (a : Bs) (at' : Int) : St × Bool := if memB a st.p.vips = true then (setP st (failP st.p at' 181), false) else (setP st { st.p with vips := st.p.vips ++ [a] }, true)

theorem valueP_k (s : Bs) (l : List Wd) (p : Ps) : (valueP s l p).2.2.2 = true → (valueP s l p).1 = { p with k := p.k + 1 } := by
  unfold valueP
  split
  · intro h; cases h
  · intro _; rfl
theorem valueP_w (s : Bs) (l : List Wd) (p : Ps) : (valueP s l p).2.1 = ⟨#[]⟩ ∨ ∃ w ∈ l, (valueP s l p).2.1 = w.1 := by
  unfold valueP
  split
  · exact .inl rfl
  · unfold peekP
    cases hw : l[p.k]? with
    | none => exact .inl rfl
    | some w => exact .inr ⟨w, List.mem_of_getElem? hw, rfl⟩
theorem cardP_len (w : Bs) : (cardP w).1.length = 6 := by
  unfold cardP
  split
  · split
    · assumption
    · rfl
  · rfl
theorem cdOf_enc : ∀ {l : List Int}, l.length = 6 → u8s l = enCd (cdOf l)
  | [a, b, c, d, e, f], _ => rfl

section
variable {e : En} {S0 : List Nat} {h0 : H}

theorem choice_rd {i1 i2 i3 m : Nat} {o : AObj} {q : Nat × Nat} {L : List (Bs × Int)} {put : St → Int → St} (hp : PutOk e q 1 (fun v => [.int .i64 v]) put)
    (k1 : Kept S0 h0 i1 (.cells [.ptr (some (e.b, 0))] false)) (k2 : Kept S0 h0 i2 (.cells [.map (some m)] false)) (k3 : Kept S0 h0 i3 (.cells [.ptr (some q)] false)) (km : Kept S0 h0 m o) (hm : MObj AV.str (fun v => .int .i64 v) L o) :
    RdOk e S0 h0 30 i_config_parser_choice_1 [] [.ptr (some (i1, 0)), .ptr (some (i2, 0)), .ptr (some (i3, 0))] (choiceS e.s e.l put L) := by
  refine ⟨fun b k => by kernel_rfl, fun n hn h S st fr i => detK (by kernel_rfl) ?_⟩
  obtain ⟨n, rfl⟩ : ∃ m, n = m + 3 := ⟨n - 3, by omega⟩
  show Ret (ca (n + 2 + 1) i_config_parser_choice_1 [.ptr (some (i1, 0)), .ptr (some (i2, 0)), .ptr (some (i3, 0))] h) _
  rw [config_parser_choice_1_eq]
  simp only [nnK_some']
  rw [(k1.fr fr).cell, asPtr_ptr]
  refine (value_ret i n).bind ?_
  unfold choiceS
  generalize valueP e.s e.l st.p = v
  obtain ⟨p1, w, a1, is⟩ := v
  rintro _ h1 ⟨rfl, g1, j1⟩
  simp only [asTup_tup, lS_of, lI_of, lB_of, l0_nil]
  rw [((k2.fr fr).fr g1).cell, asMap_map, lookK_of keys_str ((km.fr fr).fr g1).at_.get hm]
  cases is with
  | false =>
    rw [show choiceV e.s e.l put L st (p1, w, a1, false) = (setP st p1, false) from rfl]
    cases lk L w with
    | none => rw [asInt_int, Bool.not_false, cond_true]; exact .pure ⟨S, rfl, g1, j1⟩
    | some v => rw [asInt_int, Bool.not_false, cond_true]; exact .pure ⟨S, rfl, g1, j1⟩
  | true =>
    rw [show choiceV e.s e.l put L st (p1, w, a1, true) = (match lk L w with | some v => endL e.s e.l (put (setP st p1) v) | none => (setP st (failP p1 a1 182), false)) from rfl]
    cases lk L w with
    | none =>
      simp only
      rw [asInt_int, Bool.not_true, cond_false, Bool.not_false, cond_true, ((k1.fr fr).fr g1).cell, asPtr_ptr]
      refine (fail_ret j1 (n + 1) _ _).bind ?_
      rintro _ h3 ⟨rfl, f3, j3⟩
      simp only [asBool_bool]
      exact .pure ⟨S, rfl, g1.trans f3, j3⟩
    | some v =>
      simp only
      rw [asInt_int, Bool.not_true, cond_false, cond_false, ((k3.fr fr).fr g1).cell, asPtr_ptr]
      obtain ⟨h3, e3, f3, j3⟩ := hp h1 _ S v j1
      rw [nnK_some', e3, (((k1.fr fr).fr g1).fr f3).cell, asPtr_ptr]
      refine (line_ret j3 n).mono ?_
      rintro _ h4 ⟨rfl, f4, j4⟩
      exact ⟨S, rfl, (g1.trans f3).trans f4, j4⟩

theorem card_rd {i1 i2 : Nat} {q : Nat × Nat} {N : Nat} {put : St → Cd → St} (hp : PutOk e q 6 enCd put) (hw : ∀ w ∈ e.l, w.1.size < 90000 ∧ w.1.size + 70 ≤ N) (hN : 70 ≤ N)
    (k1 : Kept S0 h0 i1 (.cells [.ptr (some (e.b, 0))] false)) (k2 : Kept S0 h0 i2 (.cells [.ptr (some q)] false)) :
    RdOk e S0 h0 N i_config_parser_card_1 [] [.ptr (some (i1, 0)), .ptr (some (i2, 0))] (cardS e.s e.l put) := by
  refine ⟨fun b k => by kernel_rfl, fun n hn h S st fr i => detK (by kernel_rfl) ?_⟩
  obtain ⟨n, rfl⟩ : ∃ m, n = m + 3 := ⟨n - 3, by omega⟩
  show Ret (ca (n + 2 + 1) i_config_parser_card_1 [.ptr (some (i1, 0)), .ptr (some (i2, 0))] h) _
  rw [config_parser_card_1_eq]
  simp only [nnK_some']
  rw [(k1.fr fr).cell, asPtr_ptr]
  refine (value_ret i n).bind ?_
  unfold cardS
  have hws := valueP_w e.s e.l st.p
  generalize valueP e.s e.l st.p = v at hws
  obtain ⟨p1, w, a1, is⟩ := v
  have hsz : w.size < 90000 ∧ w.size + 70 ≤ N := by
    rcases hws with e' | ⟨x, hx, e'⟩
    · obtain rfl : w = ⟨#[]⟩ := e'
      exact ⟨by decide, hN⟩
    · obtain rfl : w = x.1 := e'
      exact hw x hx
  rintro _ h1 ⟨rfl, g1, j1⟩
  simp only [asTup_tup, lS_of, lI_of, lB_of, l0_nil]
  refine (Card_ret hsz.1 (by omega) h1).bind ?_
  rintro _ h2 ⟨m2, rfl⟩
  unfold enRB
  simp only [asTup_tup, lA_of, lB_of, l0_nil]
  rw [cdOf_enc (cardP_len w), newK_eq, box_wr (n := 6) rfl rfl rfl]
  have m3 : Mod [] h1 (h2.new (.cells (enCd (cdOf (cardP w).1)) false)) := m2.new _
  have g2 : Fr S h S (h2.new (.cells (enCd (cdOf (cardP w).1)) false)) := g1.trans (.mod0 m3)
  replace j1 := j1.frame m3
  have hg : (h2.new (.cells (enCd (cdOf (cardP w).1)) false)).get h2.next = some (.cells (enCd (cdOf (cardP w).1)) false) := get_new_self _ _
  generalize h2.new (.cells (enCd (cdOf (cardP w).1)) false) = h3 at *
  cases is with
  | false =>
    rw [Bool.not_false, cond_true]
    exact .pure ⟨S, rfl, g2, j1⟩
  | true =>
    rw [Bool.not_true, cond_false, show cardV e.s e.l put st (p1, w, a1, true) = if (cardP w).2 = true then endL e.s e.l (put (setP st p1) (cdOf (cardP w).1)) else (setP st (failP p1 a1 182), false) from rfl]
    cases hc : (cardP w).2 with
    | false =>
      rw [Bool.not_false, cond_true, if_neg (by decide), ((k1.fr fr).fr g2).cell, asPtr_ptr]
      refine (fail_ret j1 (n + 1) _ _).bind ?_
      rintro _ h4 ⟨rfl, f3, j3⟩
      simp only [asBool_bool]
      exact .pure ⟨S, rfl, g2.trans f3, j3⟩
    | true =>
      rw [Bool.not_true, cond_false, if_pos rfl, ((k2.fr fr).fr g2).cell, asPtr_ptr, aggK_all (n := 6) hg rfl]
      obtain ⟨h4, e3, f3, j3⟩ := hp h3 _ S (cdOf (cardP w).1) j1
      rw [nnK_some', e3, (((k1.fr fr).fr g2).fr f3).cell, asPtr_ptr]
      refine (line_ret j3 n).mono ?_
      rintro _ h5 ⟨rfl, f4, j4⟩
      exact ⟨S, rfl, (g2.trans f3).trans f4, j4⟩

theorem into_tk {i1 : Nat} {q : Nat × Nat} {put : St → Bs → St} (hp : PutOk e q 1 (fun a => [.str a]) put) (k1 : Kept S0 h0 i1 (.cells [.ptr (some q)] false)) :
    TkOk e S0 h0 1 i_config_into_1 [] [.ptr (some (i1, 0))] (intoS put) := by
  refine ⟨fun b k => by kernel_rfl, fun n hn h S st a at' fr i _ => ?_⟩
  obtain ⟨n, rfl⟩ : ∃ m, n = m + 1 := ⟨n - 1, by omega⟩
  show Ret (ca (n + 1) i_config_into_1 [.str a, .int .i64 at', .ptr (some (i1, 0))] h) _
  rw [config_into_1_eq, nnK_some', (k1.fr fr).cell, asPtr_ptr, nnK_some']
  obtain ⟨h3, e3, f3, j3⟩ := hp h _ S a i
  rw [e3]
  exact .pure ⟨S, rfl, f3, j3⟩

theorem vip_tk {N : Nat} (hN : e.l.length + 10 ≤ N) : TkOk e S0 h0 N i_config_parser_vip [.ptr (some (e.b, 0))] [] vipS := by
  refine ⟨fun b k => by kernel_rfl, fun n hn h S st a at' fr i hk => ?_⟩
  obtain ⟨n, rfl⟩ : ∃ m, n = m + 2 := ⟨n - 2, by omega⟩
  show Ret (ca (n + 1 + 1) i_config_parser_vip [.ptr (some (e.b, 0)), .str a, .int .i64 at'] h) _
  have i0 := i
  have ok := i.okp
  obtain ⟨g, rfl, i⟩ := i
  rw [config_parser_vip_eq]
  simp only [nnK_some', Nat.zero_add]
  rw [i.cell (o := 15) rfl, asSlice_slice, addrs_eq (i.vp.grow i.ow).row (by have := ok.vips; have := ok.k; have := ok.len; omega) a (by have := ok.vips; have := ok.k; omega), Option.bind_some, asBool_bool]
  unfold vipS
  cases hm : memB a st.p.vips with
  | true =>
    rw [cond_true, if_pos rfl]
    refine (fail_ret i0 n _ _).bind ?_
    rintro _ h4 ⟨rfl, f3, j3⟩
    simp only [asBool_bool]
    exact .pure ⟨_, rfl, f3, j3⟩
  | false =>
    rw [cond_false, if_neg (by decide), i.cell (o := 15) rfl, asSlice_slice]
    obtain ⟨y, cap', h1, h2, S', e1, f1, e2, f2, j⟩ := i.pushVip a hk
    rw [newK_eq, e1, e2]
    exact .pure ⟨S', rfl, f2, j⟩

theorem address_rd {i1 i2 i3 : Nat} {N f : Nat} {x y : List AV} {svc : Bool} {tk : St → Bs → Int → St × Bool} (hw : ∀ w ∈ e.l, w.1.size < 90000 ∧ w.1.size + 70 ≤ N) (hN : 70 ≤ N) (ht : TkOk e S0 h0 (N - 1) f x y tk)
    (k1 : Kept S0 h0 i1 (.cells [.ptr (some (e.b, 0))] false)) (k2 : Kept S0 h0 i2 (.cells [.bool svc] false)) (k3 : Kept S0 h0 i3 (.cells [.func f x y] false)) :
    RdOk e S0 h0 N i_config_parser_address_1 [] [.ptr (some (i1, 0)), .ptr (some (i2, 0)), .ptr (some (i3, 0))] (addressS e.s e.l svc tk) := by
  refine ⟨fun b k => by kernel_rfl, fun n hn h S st fr i => detK (by kernel_rfl) ?_⟩
  obtain ⟨n, rfl⟩ : ∃ m, n = m + 3 := ⟨n - 3, by omega⟩
  show Ret (ca (n + 2 + 1) i_config_parser_address_1 [.ptr (some (i1, 0)), .ptr (some (i2, 0)), .ptr (some (i3, 0))] h) _
  rw [config_parser_address_1_eq]
  simp only [nnK_some']
  rw [(k1.fr fr).cell, asPtr_ptr]
  refine (value_ret i n).bind ?_
  unfold addressS
  have hws := valueP_w e.s e.l st.p
  have hvk := valueP_k e.s e.l st.p
  generalize valueP e.s e.l st.p = v at hws hvk
  obtain ⟨p1, w, a1, is⟩ := v
  have hsz : w.size < 90000 ∧ w.size + 70 ≤ N := by
    rcases hws with e' | ⟨x, hx, e'⟩
    · obtain rfl : w = ⟨#[]⟩ := e'
      exact ⟨by decide, hN⟩
    · obtain rfl : w = x.1 := e'
      exact hw x hx
  rintro _ h1 ⟨rfl, g1, j1⟩
  simp only [asTup_tup, lS_of, lI_of, lB_of, l0_nil]
  refine (Address_ret hsz.1 (by omega) h1).bind ?_
  rintro _ h2 ⟨m2, rfl⟩
  unfold enSB
  simp only [asTup_tup, lS_of, lB_of, l0_nil]
  have g2 : Fr S h S h2 := g1.trans (.mod0 m2)
  replace j1 := j1.frame m2
  cases is with
  | false =>
    rw [Bool.not_false, cond_true]
    exact .pure ⟨S, rfl, g2, j1⟩
  | true =>
    rw [Bool.not_true, cond_false, show addressV e.s e.l svc tk st (p1, w, a1, true) = if (adrP w).2 = true then thenEnd e.s e.l (tk (setP st { p1 with spots := p1.spots ++ [((adrP w).1, a1, svc)] }) (adrP w).1 a1) else (setP st (failP p1 a1 182), false) from rfl]
    cases hc : (adrP w).2 with
    | false =>
      rw [Bool.not_false, cond_true, if_neg (by decide), ((k1.fr fr).fr g2).cell, asPtr_ptr]
      refine (fail_ret j1 (n + 1) _ _).bind ?_
      rintro _ h4 ⟨rfl, f3, j3⟩
      simp only [asBool_bool]
      exact .pure ⟨S, rfl, g2.trans f3, j3⟩
    | true =>
      obtain rfl : p1 = { st.p with k := st.p.k + 1 } := hvk rfl
      have ok := i.okp
      obtain ⟨g, rfl, j1⟩ := j1
      rw [Bool.not_true, cond_false, if_pos rfl, ((k1.fr fr).fr g2).cell, asPtr_ptr, ((k1.fr fr).fr g2).cell, asPtr_ptr]
      simp only [nnK_some', Nat.zero_add]
      rw [j1.cell (o := 18) rfl, asSlice_slice, ((k2.fr fr).fr g2).cell, asBool_bool]
      obtain ⟨y', cap', h3, h4, S', e1, f1, e2, f2, j⟩ := j1.pushSpot ((adrP w).1, a1, svc) (Nat.succ_le_succ ok.spots)
      have hk1 := ((k1.fr fr).fr g2)
      dsimp only [encSp] at e1 e2 ⊢
      rw [newK_eq, e1, show blkP (some (i1, 0)) = some i1 from rfl, sameK_of (by rw [(hk1.fr f1).at_.get, get_new_lt hk1.at_.lt, hk1.at_.get])]
      rw [e2, (((k3.fr fr).fr g2).fr f2).cell, asFn_of]
      refine (ht.run (n + 2) (by omega) h4 S' _ (adrP w).1 a1 ((fr.trans g2).trans f2) j (Nat.succ_le_succ ok.vips)).bind ?_
      rintro _ h5 ⟨S5, rfl, f5, j5⟩
      rw [ht.gives, asBool_bool]
      unfold thenEnd
      unfold setP at *
      generalize tk { st with p := { { st.p with k := st.p.k + 1 } with spots := st.p.spots ++ [((adrP w).1, a1, svc)] } } (adrP w).1 a1 = r at *
      obtain ⟨st5, b5⟩ := r
      cases b5 with
      | false => exact .pure ⟨S5, rfl, (g2.trans f2).trans f5, j5⟩
      | true =>
        rw [cond_true, ((((k1.fr fr).fr g2).fr f2).fr f5).cell, asPtr_ptr]
        refine (line_ret j5 n).mono ?_
        rintro _ h6 ⟨rfl, f6, j6⟩
        exact ⟨S5, rfl, ((g2.trans f2).trans f5).trans f6, j6⟩
end
end Go.Ev.Tryd

/- The configuration's reader: names, tracks. -/
namespace Go.Ev.Tryd
set_option maxRecDepth 10000
open Go.Proofs

def namedV (xs : List Bs) : Ps × Bs × Int × Bool → Ps × Bs × Bool
  | (p, _, _, false) => (p, ⟨#[]⟩, false)
  | (p, w, at', true) => if 40 < w.size then (failP p at' 182, ⟨#[]⟩, false) else if memB w xs = true then (failP p at' 181, ⟨#[]⟩, false) else (p, w, true)
def namedP (s : Bs) (l : List Wd) (xs : List Bs) (p : Ps) : Ps × Bs × Bool := namedV xs (valueP s l p)

def weightV (s : Bs) (l : List Wd) (nm : Bs) (st : St) : Ps × Bs × Int × Bool → St × Bool
  | (p, _, _, false) => (setP st p, false)
  | (p, w, at', true) =>
    if (numP (bs (dashP w).1)).2 = true ∧ 1 ≤ (numP (bs (dashP w).1)).1 ∧ (numP (bs (dashP w).1)).1 ≤ 254 then
      endL s l (setP st { p with trs := p.trs ++ [(nm, if (dashP w).2 = true then - (numP (bs (dashP w).1)).1 else (numP (bs (dashP w).1)).1)] })
    else (setP st (failP p at' 182), false)
def trackV (s : Bs) (l : List Wd) (st : St) : Ps × Bs × Bool → St × Bool
  | (p, _, false) => (setP st p, false)
  | (p, nm, true) => weightV s l nm st (valueP s l p)
def trackS (s : Bs) (l : List Wd) (st : St) : St × Bool := trackV s l st (namedP s l (st.p.trs.map (·.1)) st.p)

theorem namedP_k (s : Bs) (l : List Wd) (xs : List Bs) (p : Ps) : (namedP s l xs p).2.2 = true → (namedP s l xs p).1 = { p with k := p.k + 1 } := by
  unfold namedP
  have hk := valueP_k s l p
  generalize valueP s l p = v at hk
  obtain ⟨p1, w, a1, is⟩ := v
  cases is with
  | false => intro h; cases h
  | true =>
    rw [show namedV xs (p1, w, a1, true) = if 40 < w.size then (failP p1 a1 182, ⟨#[]⟩, false) else if memB w xs = true then (failP p1 a1 181, ⟨#[]⟩, false) else (p1, w, true) from rfl]
    split
    · intro h; cases h
    · split
      · intro h; cases h
      · intro _; exact hk rfl

section
variable {e : En} {S : List Nat} {h : H} {st : St}

theorem Inv.ltS (i : Inv e h st S) : ∀ x ∈ S, x < h.next := by
  obtain ⟨g, rfl, i⟩ := i
  intro x hx
  obtain ⟨j, e⟩ := i.ow.mem.1 hx
  exact i.ow.lt j x e

theorem named_ret (i : Inv e h st S) {q : Pt} {c : Cap} {xs : List Bs} (r : Row h 1 q xs.length c (xs.map .str)) (hx : xs.length ≤ 400000) (hq : ∀ b ∈ own q, b ∉ S) {n : Nat} (hn : xs.length + 10 ≤ n) :
    Ret (ca n i_config_parser_named [.ptr (some (e.b, 0)), .slice q xs.length c] h) fun r h' => r = .tup [.str (namedP e.s e.l xs st.p).2.1, .bool (namedP e.s e.l xs st.p).2.2] ∧ Fr S h S h' ∧ Inv e h' (setP st (namedP e.s e.l xs st.p).1) S := by
  obtain ⟨n, rfl⟩ : ∃ m, n = m + 3 := ⟨n - 3, by omega⟩
  rw [config_parser_named_eq]
  refine (value_ret i n).bind ?_
  unfold namedP
  generalize valueP e.s e.l st.p = v
  obtain ⟨p1, w, a1, is⟩ := v
  rintro _ h1 ⟨rfl, g1, j1⟩
  simp only [asTup_tup, lS_of, lI_of, lB_of, l0_nil]
  cases is with
  | false =>
    rw [Bool.not_false, cond_true]
    exact .pure ⟨rfl, g1, j1⟩
  | true =>
    rw [Bool.not_true, cond_false, show namedV xs (p1, w, a1, true) = if 40 < w.size then (failP p1 a1 182, ⟨#[]⟩, false) else if memB w xs = true then (failP p1 a1 181, ⟨#[]⟩, false) else (p1, w, true) from rfl]
    by_cases h40 : 40 < w.size
    · rw [show decide ((Nat.cast w.size : Int) > 40) = true by simp; omega, cond_true, if_pos h40]
      refine (fail_ret j1 (n + 1) _ _).bind ?_
      rintro _ h4 ⟨rfl, f3, j3⟩
      simp only [asBool_bool]
      exact .pure ⟨rfl, g1.trans f3, j3⟩
    · rw [show decide ((Nat.cast w.size : Int) > 40) = false by simp; omega, cond_false, if_neg h40, names_eq (r.mod g1.mod hq) hx w (by omega), Option.bind_some, asBool_bool]
      cases memB w xs with
      | true =>
        rw [cond_true, if_pos rfl]
        refine (fail_ret j1 (n + 1) _ _).bind ?_
        rintro _ h4 ⟨rfl, f3, j3⟩
        simp only [asBool_bool]
        exact .pure ⟨rfl, g1.trans f3, j3⟩
      | false =>
        rw [cond_false, if_neg (by decide)]
        exact .pure ⟨rfl, g1, j1⟩

/-- the names of what is there -/
theorem track_names {a : H} {q : Pt} {c : Cap} {xs : List (Bs × Int)} (r : Row a 2 q xs.length c (xs.flatMap encT)) (hx : xs.length ≤ 400000) (a0 : Pt) (n : Nat) : ∀ (rest pre : List (Bs × Int)) (m : Nat) (h : H) (p : Pt) (d : Cap), xs = pre ++ rest → rest.length < m → Mod [] a h → Grow a h 1 p pre.length d ((pre.map (·.1)).map .str) →
    ∃ m' p' d' h', config_parser_track_L0 n m a0 p pre.length d q xs.length c (Nat.cast xs.length) (pre.length : Nat) h = config_parser_track_L0 n (m' + 1) a0 p' xs.length d' q xs.length c (Nat.cast xs.length) (Nat.cast xs.length) h' ∧ Mod [] a h' ∧ Grow a h' 1 p' xs.length d' ((xs.map (·.1)).map .str)
  | [], pre, m + 1, h, p, d, e, _, hm, g => by
    rw [List.append_nil] at e
    subst e
    exact ⟨m, p, d, h, rfl, hm, g⟩
  | t :: ts, pre, m + 1, h, p, d, e, hl, hm, g => by
    have hget : xs[pre.length]? = some t := by rw [e]; simp
    have hlt : pre.length < xs.length := (List.getElem?_eq_some_iff.1 hget).1
    rw [config_parser_track_L0_eq, cast_lt hlt, cond_true, (r.mod0 hm).ix encT_len (by decide) hget]
    simp only [encT, lS_of, lI_of, l0_nil]
    rw [newK_eq, box_wr (n := 2) rfl rfl rfl, cellK_of (get_new_self _ _) rfl, asStr_str, newK_eq]
    have m1 : Mod [] h (h.new (.cells [.str t.1, .int .i64 t.2] false)) := (Mod.refl _ _).new _
    obtain ⟨p', d', h', e1, g', m', hn⟩ := (g.mod0 m1).pushE (bytes := 16) (hm.trans m1).next (xs := [.str t.1]) rfl rfl (by decide) (by omega) (by omega)
    rw [e1, wrap_succ (by omega)]
    have hm' : Mod [] a h' := (hm.trans m1).trans' m' fun x hx hl => by have := (g.own_ge x hx).1; omega
    have := track_names r hx a0 n ts (pre ++ [t]) m h' p' d' (by rw [e]; simp) (by simp at hl; omega) hm' (by simpa using g')
    simpa using this

theorem track_rd (e : En) (S0 : List Nat) (h0 : H) {N : Nat} (hN : e.l.length + 40 ≤ N) : RdOk e S0 h0 N i_config_parser_track [.ptr (some (e.b, 0))] [] (trackS e.s e.l) := by
  refine ⟨fun b k => by kernel_rfl, fun n hn h S st fr i => detK (by kernel_rfl) ?_⟩
  obtain ⟨n, rfl⟩ : ∃ m, n = m + 5 := ⟨n - 5, by omega⟩
  show Ret (ca (n + 4 + 1) i_config_parser_track [.ptr (some (e.b, 0))] h) _
  have ok := i.okp
  have hk := ok.k
  have hll := ok.len
  have htr := ok.trs
  have i0 := i
  obtain ⟨g, rfl, i⟩ := i
  rw [config_parser_track_eq]
  simp only [nnK_some', Nat.zero_add]
  rw [i.cell (o := 16) rfl, asSlice_slice]
  obtain ⟨m', p', d', h1, e1, m1, g1⟩ := track_names (i.tp.grow i.ow).row (by omega) (some (e.b, 0)) (n + 4) st.p.trs [] (n + 4) h none (.known 0) rfl (by omega) (.refl _ _) .nil
  rw [show config_parser_track_L0 (n + 4) (n + 4) (some (e.b, 0)) none 0 (.known 0) (slP g.f 3) st.p.trs.length g.tc (Nat.cast st.p.trs.length) 0 h = _ from e1]
  rw [config_parser_track_L0_eq, cast_not_lt (Nat.le_refl _), cond_false]
  have i1 := i0.frame m1
  have f1 : Fr (foot g.f) h (foot g.f) h1 := .mod0 m1
  have hS : ∀ b ∈ own p', b ∉ foot g.f := fun b hb hm => by
    have := (g1.own_ge b hb).1
    have := i0.ltS b hm
    omega
  have hr : Row h1 1 p' (st.p.trs.map (·.1)).length d' ((st.p.trs.map (·.1)).map .str) := by rw [List.length_map]; exact g1.row
  have hnm := named_ret i1 hr (by rw [List.length_map]; omega) hS (n := n + 4) (by rw [List.length_map]; omega)
  rw [List.length_map] at hnm
  refine hnm.bind ?_
  unfold trackS
  have hvk := namedP_k e.s e.l (st.p.trs.map (·.1)) st.p
  generalize namedP e.s e.l (st.p.trs.map (·.1)) st.p = v at hvk
  obtain ⟨p1, nm, is⟩ := v
  rintro _ h2 ⟨rfl, f2, j2⟩
  simp only [asTup_tup, lS_of, lI_of, lB_of, l0_nil]
  cases is with
  | false =>
    rw [Bool.not_false, cond_true]
    exact .pure ⟨_, rfl, f1.trans f2, j2⟩
  | true =>
    obtain rfl : p1 = { st.p with k := st.p.k + 1 } := hvk rfl
    rw [Bool.not_true, cond_false]
    have hv := value_ret j2 (n + 2)
    rw [show (setP st ({ st.p with k := st.p.k + 1 }, nm, true).1).p = { st.p with k := st.p.k + 1 } from rfl] at hv
    have hvk := valueP_k e.s e.l { st.p with k := st.p.k + 1 }
    rw [show trackV e.s e.l st ({ st.p with k := st.p.k + 1 }, nm, true) = weightV e.s e.l nm st (valueP e.s e.l { st.p with k := st.p.k + 1 }) from rfl]
    generalize valueP e.s e.l { st.p with k := st.p.k + 1 } = v at hvk hv ⊢
    obtain ⟨p1, w, a1, is⟩ := v
    refine hv.bind ?_
    rintro _ h3 ⟨rfl, f3, j3⟩
    simp only [asTup_tup, lS_of, lI_of, lB_of, l0_nil]
    have f13 := (f1.trans f2).trans f3
    cases is with
    | false =>
      rw [Bool.not_false, cond_true]
      exact .pure ⟨_, rfl, f13, j3⟩
    | true =>
      obtain rfl : p1 = { st.p with k := st.p.k + 1 + 1 } := hvk rfl
      rw [Bool.not_true, cond_false, dash_eq, Option.bind_some, asTup_tup, lS_of, lB_of, l0_nil]
      refine (Number_ret _ (by omega) h3).bind ?_
      rintro _ h4 ⟨m4, rfl⟩
      unfold enIB
      simp only [asTup_tup, lI_of, lB_of, l0_nil]
      replace j3 := j3.frame m4
      replace f13 := f13.trans (.mod0 m4)
      rw [show weightV e.s e.l nm st ({ st.p with k := st.p.k + 1 + 1 }, w, a1, true) = if (numP (bs (dashP w).1)).2 = true ∧ 1 ≤ (numP (bs (dashP w).1)).1 ∧ (numP (bs (dashP w).1)).1 ≤ 254 then
      endL e.s e.l (setP st { st.p with k := st.p.k + 1 + 1, trs := st.p.trs ++ [(nm, if (dashP w).2 = true then - (numP (bs (dashP w).1)).1 else (numP (bs (dashP w).1)).1)] })
    else (setP st (failP { st.p with k := st.p.k + 1 + 1 } a1 182), false) from rfl]
      have key : ∀ b : Bool, b = !(decide ((numP (bs (dashP w).1)).2 = true ∧ 1 ≤ (numP (bs (dashP w).1)).1 ∧ (numP (bs (dashP w).1)).1 ≤ 254)) →
          Ret (config_parser_track_J1 (n + 4) (some (e.b, 0)) nm a1 (dashP w).2 (numP (bs (dashP w).1)).1 b h4) fun r h' => ∃ S', r = .bool (if (numP (bs (dashP w).1)).2 = true ∧ 1 ≤ (numP (bs (dashP w).1)).1 ∧ (numP (bs (dashP w).1)).1 ≤ 254 then
      endL e.s e.l (setP st { st.p with k := st.p.k + 1 + 1, trs := st.p.trs ++ [(nm, if (dashP w).2 = true then - (numP (bs (dashP w).1)).1 else (numP (bs (dashP w).1)).1)] })
    else (setP st (failP { st.p with k := st.p.k + 1 + 1 } a1 182), false)).2 ∧ Fr (foot g.f) h S' h' ∧ Inv e h' (if (numP (bs (dashP w).1)).2 = true ∧ 1 ≤ (numP (bs (dashP w).1)).1 ∧ (numP (bs (dashP w).1)).1 ≤ 254 then
      endL e.s e.l (setP st { st.p with k := st.p.k + 1 + 1, trs := st.p.trs ++ [(nm, if (dashP w).2 = true then - (numP (bs (dashP w).1)).1 else (numP (bs (dashP w).1)).1)] })
    else (setP st (failP { st.p with k := st.p.k + 1 + 1 } a1 182), false)).1 S' := by
        intro b hb
        rw [config_parser_track_J1_eq]
        by_cases hc : (numP (bs (dashP w).1)).2 = true ∧ 1 ≤ (numP (bs (dashP w).1)).1 ∧ (numP (bs (dashP w).1)).1 ≤ 254
        · rw [decide_eq_true hc] at hb
          rw [hb, Bool.not_true, cond_false, if_pos hc]
          have push : ∀ x : Int, Ret (config_parser_track_J2 (n + 4) (some (e.b, 0)) nm x h4) fun r h' => ∃ S', r = .bool (endL e.s e.l (setP st { st.p with k := st.p.k + 1 + 1, trs := st.p.trs ++ [(nm, x)] })).2 ∧ Fr (foot g.f) h S' h' ∧ Inv e h' (endL e.s e.l (setP st { st.p with k := st.p.k + 1 + 1, trs := st.p.trs ++ [(nm, x)] })).1 S' := by
            intro x
            obtain ⟨g3, hg3, j3⟩ := j3
            rw [config_parser_track_J2_eq]
            simp only [nnK_some', Nat.zero_add]
            rw [j3.cell (o := 16) rfl, asSlice_slice]
            obtain ⟨y', cap', h5, h6, S', e5, f5, e6, f6, j6⟩ := j3.pushTr (nm, x) (by show st.p.trs.length + 1 ≤ st.p.k + 1 + 1; omega)
            dsimp only [encT, setP] at e5 e6 ⊢
            rw [newK_eq, e5, e6]
            refine (line_ret j6 (n + 2)).mono ?_
            rintro _ h7 ⟨rfl, f7, j7⟩
            rw [← hg3] at f6
            exact ⟨_, rfl, (f13.trans f6).trans f7, j7⟩
          cases (dashP w).2 with
          | true =>
            rw [cond_true, wrap_i64 (by omega) (by omega), if_pos rfl, Int.zero_sub]
            exact push _
          | false =>
            rw [cond_false, if_neg (by decide)]
            exact push _
        · rw [decide_eq_false hc] at hb
          rw [hb, Bool.not_false, cond_true, if_neg hc]
          refine (fail_ret j3 (n + 3) _ _).bind ?_
          rintro _ h5 ⟨rfl, f5, j5⟩
          simp only [asBool_bool]
          exact .pure ⟨_, rfl, f13.trans f5, j5⟩
      cases hg : (numP (bs (dashP w).1)).2 with
      | false =>
        rw [Bool.not_false, cond_true]
        rw [hg] at key
        exact key _ (by simp)
      | true =>
        rw [Bool.not_true, cond_false]
        rw [hg] at key
        by_cases h1 : (numP (bs (dashP w).1)).1 < 1
        · rw [decide_eq_true h1, cond_true]
          exact key _ (by simp; omega)
        · rw [decide_eq_false h1, cond_false]
          refine key _ ?_
          by_cases h2 : 254 < (numP (bs (dashP w).1)).1
          · rw [decide_eq_true h2, decide_eq_false (by rintro ⟨_, _, h⟩; omega)]; rfl
          · rw [decide_eq_false h2, decide_eq_true ⟨rfl, by omega, by omega⟩]; rfl
end
end Go.Ev.Tryd

/- The configuration's reader: a block. -/
namespace Go.Ev
section
variable {K V : Type}
theorem perm_map_inv {α β : Type} {f : α → β} {l : List β} {L : List α} (h : l.Perm (L.map f)) : ∃ L' : List α, L'.Perm L ∧ l = L'.map f := by
  generalize hM : L.map f = M at h
  induction h generalizing L with
  | nil => exact ⟨[], by rw [List.map_eq_nil_iff] at hM; rw [hM], rfl⟩
  | cons x p ih =>
    cases L with
    | nil => cases hM
    | cons y L =>
      simp only [List.map_cons, List.cons.injEq] at hM
      obtain ⟨L', h1, rfl⟩ := ih hM.2
      exact ⟨y :: L', h1.cons y, by rw [List.map_cons, hM.1]⟩
  | swap x y l =>
    match L, hM with
    | a :: b :: L, hM =>
      simp only [List.map_cons, List.cons.injEq] at hM
      obtain ⟨rfl, rfl, rfl⟩ := hM
      exact ⟨b :: a :: L, .swap _ _ _, rfl⟩
  | trans p q ih1 ih2 =>
    obtain ⟨L1, h1, e1⟩ := ih2 hM
    obtain ⟨L2, h2, e2⟩ := ih1 e1.symm
    exact ⟨L2, h2.trans h1, e2⟩
theorem born_of {ek : K → AV} {ev : V → AV} : ∀ {es : List (AV × AV × Nat)} {L : List (K × V)}, (es.map fun e => (e.1, e.2.1)) = L.map (fun e => (ek e.1, ev e.2)) → ∃ LL : List (K × V × Nat), es = LL.map (fun x => (ek x.1, ev x.2.1, x.2.2)) ∧ LL.map (fun x => (x.1, x.2.1)) = L
  | [], [], _ => ⟨[], rfl, rfl⟩
  | [], _ :: _, h => by cases h
  | _ :: _, [], h => by cases h
  | (a, b, c) :: es, (k, v) :: L, h => by
    simp only [List.map_cons, List.cons.injEq, Prod.mk.injEq] at h
    obtain ⟨⟨rfl, rfl⟩, h⟩ := h
    obtain ⟨LL, rfl, rfl⟩ := born_of h
    exact ⟨(k, v, c) :: LL, rfl, rfl⟩
theorem MObj.of_perm {ek : K → AV} {ev : V → AV} {es : List (AV × AV × Nat)} {clk : Nat} {L : List (K × V)} (hp : (es.map fun e => (e.1, e.2.1)).Perm (L.map fun e => (ek e.1, ev e.2))) (hn : (es.map (·.2.2)).Nodup) (hb : ∀ e ∈ es, e.2.2 < clk) :
    ∃ L', L'.Perm L ∧ MObj ek ev L' (.map es clk) := by
  obtain ⟨L', h1, e1⟩ := perm_map_inv hp
  obtain ⟨LL, rfl, e2⟩ := born_of e1
  refine ⟨L', h1, LL, clk, rfl, e2, ?_, ?_⟩
  · simpa [List.map_map, Function.comp_def] using hn
  · intro x hx
    exact hb _ (List.mem_map_of_mem hx)
theorem lk_perm [DecidableEq K] {L L' : List (K × V)} (hp : L'.Perm L) (hn : (L.map (·.1)).Nodup) (k : K) : lk L' k = lk L k := by
  induction hp with
  | nil => rfl
  | cons x p ih =>
    rw [lk_cons, lk_cons]
    simp only [List.map_cons, List.nodup_cons] at hn
    rw [ih hn.2]
  | swap x y l =>
    simp only [List.map_cons, List.nodup_cons, List.mem_cons, not_or] at hn
    rw [lk_cons, lk_cons, lk_cons, lk_cons]
    by_cases h1 : k = x.1 <;> by_cases h2 : k = y.1
    · exact absurd (h1.symm.trans h2) hn.1.1
    · simp only [if_pos h1, if_neg h2]
    · simp only [if_neg h1, if_pos h2]
    · simp only [if_neg h1, if_neg h2]
  | trans p q ih1 ih2 => rw [ih1 ((q.map _).nodup_iff.2 hn), ih2 hn]
theorem lk_mem [DecidableEq K] {L : List (K × V)} {k : K} {v : V} (h : lk L k = some v) : (k, v) ∈ L := by
  unfold lk at h
  cases hf : L.find? fun e => decide (k = e.1) with
  | none => rw [hf] at h; cases h
  | some e =>
    rw [hf] at h
    obtain rfl : e.2 = v := by simpa using h
    have h1 := List.find?_some hf
    have h2 := List.mem_of_find?_eq_some hf
    obtain rfl : k = e.1 := by simpa using h1
    exact h2
end
end Go.Ev

namespace Go.Ev.Tryd
set_option maxRecDepth 10000
open Go.Proofs

structure Key where
  (most : Int) (need : Bool) (f : Nat) (x y : List AV) (sem : St → St × Bool)
def encK (k : Key) : AV := .agg [.int .i64 k.most, .bool k.need, .func k.f k.x k.y]
def encN (v : Int) : AV := .int .i64 v
def cnt (M : List (Bs × Int)) (w : Bs) : Int := (lk M w).getD 0
def lackB (L : List (Bs × Key)) (M : List (Bs × Int)) : Bool := L.any fun x => x.2.need && decide (cnt M x.1 = 0)
def closeS (s : Bs) (l : List Wd) (L : List (Bs × Key)) (M : List (Bs × Int)) (st : St) : St × Bool :=
  if lackB L M = true then (setP st (failP st.p (placeP s l st.p.k) 183), false) else endL s l (setP st { st.p with k := st.p.k + 1 })
def bodyS (s : Bs) (l : List Wd) (L : List (Bs × Key)) : Nat → List (Bs × Int) → St → St × Bool
  | 0, _, st => (st, false)
  | F + 1, M, st =>
    if peekP l st.p.k = ⟨#[125]⟩ then closeS s l L M st
    else match lk L (peekP l st.p.k) with
      | none => (setP st (failP st.p (placeP s l st.p.k) 180), false)
      | some key =>
        if key.most ≤ cnt M (peekP l st.p.k) then (setP st (failP st.p (placeP s l st.p.k) (if key.most = 1 then 181 else 184)), false)
        else if (key.sem (setP st { st.p with k := st.p.k + 1 })).2 = true then bodyS s l L F (pt M (peekP l st.p.k) (cnt M (peekP l st.p.k) + 1)) (key.sem (setP st { st.p with k := st.p.k + 1 })).1
        else ((key.sem (setP st { st.p with k := st.p.k + 1 })).1, false)
def blockS (s : Bs) (l : List Wd) (L : List (Bs × Key)) (st : St) : St × Bool :=
  if (mustP s l ⟨#[123]⟩ st.p).2 = true then
    if (mustP s l nl (mustP s l ⟨#[123]⟩ st.p).1).2 = true then bodyS s l L (l.length + 1) [] (setP st (mustP s l nl (mustP s l ⟨#[123]⟩ st.p).1).1)
    else (setP st (mustP s l nl (mustP s l ⟨#[123]⟩ st.p).1).1, false)
  else (setP st (mustP s l ⟨#[123]⟩ st.p).1, false)

theorem lackB_perm {L L' : List (Bs × Key)} (hp : L'.Perm L) (M : List (Bs × Int)) : lackB L' M = lackB L M := by
  unfold lackB
  rw [Bool.eq_iff_iff, List.any_eq_true, List.any_eq_true]
  exact ⟨fun ⟨x, h, k⟩ => ⟨x, hp.mem_iff.1 h, k⟩, fun ⟨x, h, k⟩ => ⟨x, hp.mem_iff.2 h, k⟩⟩
theorem cnt_look {β : Type} {h : H} {m : Nat} {o : AObj} {M : List (Bs × Int)} (hg : h.get m = some o) (ho : MObj AV.str encN M o) (w : Bs) (f : Int → Option β) : (lookK (.int .i64 0) (some m) (.str w) h fun v _ => asInt .i64 v f) = f (cnt M w) := by
  rw [lookK_of keys_str hg ho]
  unfold cnt
  cases lk M w <;> rfl

section
variable {e : En} {S0 S : List Nat} {h0 h hb : H} {st : St}

/-- each key is looked at, in whatever order -/
theorem block_range (i : Inv e hb st S) {im mm it n : Nat} {M : List (Bs × Int)} {oM : AObj} (kM : At hb mm oM) (hM : MObj AV.str encN M oM) {LL : List (Bs × Key × Nat)} {clk : Nat} (hn : 6 ≤ n) (him : im < hb.next) (hit : hb.next ≤ it) (hk : st.p.k < e.l.length)
    {kk : AV → H → Option Unit} (hkk : ∀ r h', (r = .bool (closeS e.s e.l (LL.map fun x => (x.1, x.2.1)) M st).2 ∧ Fr S hb S h' ∧ Inv e h' (closeS e.s e.l (LL.map fun x => (x.1, x.2.1)) M st).1 S) → kk r h' = some ()) :
    ∀ (c m : Nat) (h : H) (done rest : List (Bs × Key × Nat)), rest.length = c → c < m → Mod [] hb h → it < h.next → Iter h it im AV.str encK LL clk done rest → (∀ x ∈ done, (x.2.1.need && decide (cnt M x.1 = 0)) = false) → config_parser_block_L3 n m (some (e.b, 0)) (some mm) (some (it, 0)) h kk = some () := by
  classical
  intro c
  induction c with
  | zero =>
    intro m h done rest hr hm md hi itr hd
    obtain ⟨m, rfl⟩ : ∃ k, m = k + 1 := ⟨m - 1, by omega⟩
    obtain rfl : rest = [] := List.length_eq_zero_iff.1 hr
    rw [config_parser_block_L3_eq]
    simp only [nnK_some']
    refine itr.next (fun x rest' h' hp => absurd hp.length_eq (by simp)) fun _ => ?_
    have hl : lackB (LL.map fun x => (x.1, x.2.1)) M = false := by
      cases hq : lackB (LL.map fun x => (x.1, x.2.1)) M with
      | false => rfl
      | true =>
        obtain ⟨x, hx, hx2⟩ := List.any_eq_true.1 hq
        obtain ⟨y, hy, rfl⟩ := List.mem_map.1 hx
        have := itr.perm.mem_iff.2 hy
        rw [List.append_nil] at this
        rw [hd y this] at hx2; cases hx2
    have j := i.frame md
    unfold closeS at hkk
    rw [if_neg (by rw [hl]; decide)] at hkk
    obtain ⟨h1, e1, f1, j1⟩ := j.step hk
    simp only [Nat.zero_add]
    rw [e1]
    obtain ⟨n, rfl⟩ : ∃ k, n = k + 2 := ⟨n - 2, by omega⟩
    obtain ⟨r, h2, e2, rfl, f2, j2⟩ := must_ret j1 n (w := nl) (by decide)
    rw [e2, Option.bind_some, asBool_bool]
    exact hkk _ _ ⟨rfl, ((Fr.mod0 md).trans f1).trans f2, j2⟩
  | succ c ih =>
    intro m h done rest hr hm md hi itr hd
    obtain ⟨m, rfl⟩ : ∃ k, m = k + 1 := ⟨m - 1, by omega⟩
    rw [config_parser_block_L3_eq]
    simp only [nnK_some']
    refine itr.next (fun x rest' h' hp h1 h2 it' => ?_) fun hr' => by rw [hr'] at hr; cases hr
    have md' : Mod [] hb h' := ⟨by rw [h1]; exact md.next, fun j hj _ => by rw [h2 j (by omega)]; exact md.get j hj (by simp)⟩
    rw [it'.entry, asStr_str]
    simp only [encK, asAgg_agg, lI_of, lB_of, lc_cons, l0_nil]
    rw [newK_eq, box_wr (n := 3) rfl rfl rfl, cellK_of (get_new_self _ _) rfl, asBool_bool]
    have md2 : Mod [] hb (h'.new (.cells [.int .i64 x.2.1.most, .bool x.2.1.need, .func x.2.1.f x.2.1.x x.2.1.y] false)) := md'.new _
    have hx : x ∈ rest := hp.mem_iff.2 (by simp)
    have key : ∀ b : Bool, b = (x.2.1.need && decide (cnt M x.1 = 0)) → config_parser_block_J4 n m (some (e.b, 0)) (some mm) (some (it, 0)) b (h'.new (.cells [.int .i64 x.2.1.most, .bool x.2.1.need, .func x.2.1.f x.2.1.x x.2.1.y] false)) kk = some () := by
      intro b hb'
      rw [config_parser_block_J4_eq]
      cases b with
      | true =>
        have hl : lackB (LL.map fun x => (x.1, x.2.1)) M = true := List.any_eq_true.2 ⟨(x.1, x.2.1), List.mem_map.2 ⟨x, itr.perm.mem_iff.1 (by simp [hx]), rfl⟩, hb'.symm⟩
        unfold closeS at hkk
        rw [if_pos hl] at hkk
        have j := i.frame md2
        obtain ⟨n, rfl⟩ : ∃ k, n = k + 1 := ⟨n - 1, by omega⟩
        rw [cond_true, place_eq j, Option.bind_some, asInt_int]
        obtain ⟨r, h3, e3, rfl, f3, j3⟩ := fail_ret j n (placeP e.s e.l st.p.k) 183
        rw [e3, Option.bind_some, asBool_bool]
        exact hkk _ _ ⟨rfl, (Fr.mod0 md2).trans f3, j3⟩
      | false =>
        rw [cond_false]
        refine ih m _ (done ++ [x]) rest' (by have := hp.length_eq; simp at this; omega) (by omega) md2 (by show it < h'.next + 1; omega) (it'.move (get_new_lt (md'.lt him)) (get_new_lt (by omega))) fun y hy => ?_
        · rcases List.mem_append.1 hy with hy | hy
          · exact hd y hy
          · obtain rfl := List.mem_singleton.1 hy
            exact hb'.symm
    generalize h'.new (.cells [.int .i64 x.2.1.most, .bool x.2.1.need, .func x.2.1.f x.2.1.x x.2.1.y] false) = h2 at md2 key ⊢
    cases hnd : x.2.1.need with
    | true =>
      rw [cond_true, cnt_look ((md2.get _ kM.lt (by simp)).trans kM.get) hM]
      rw [hnd] at key
      exact key _ (by by_cases hq : cnt M x.1 = 0 <;> simp [hq])
    | false =>
      rw [cond_false]
      rw [hnd] at key
      exact key _ rfl

theorem Row.cellsAt {h : H} {size : Nat} {p : Option (Nat × Nat)} {len : Nat} {c : Cap} {vs : List AV} (s : Row h size p len c vs) : ∀ b ∈ own p, ∃ cs ro, h.get b = some (.cells cs ro) := by
  cases s with
  | nil => simp
  | row _ hg => intro b hb; obtain rfl := by simpa using hb
                exact ⟨_, _, hg⟩
/-- a map is no part of the reader -/
theorem Inv.setMap (i : Inv e h st S) {mm : Nat} {es : List (AV × AV × Nat)} {clk : Nat} (k : Kept S h mm (.map es clk)) (o' : AObj) : Inv e (h.set mm o') st S := by
  obtain ⟨g, rfl, i⟩ := i
  have m : Mod [mm] h (h.set mm o') := (Mod.refl _ _).set (.inr (by simp)) _
  have hr : ∀ {size : Nat} {p : Option (Nat × Nat)} {len : Nat} {c : Cap} {vs : List AV}, Row h size p len c vs → Row (h.set mm o') size p len c vs := fun r => r.mod m fun b hb hm => by
    obtain rfl : b = mm := by simpa using hm
    obtain ⟨cs, ro, e1⟩ := Row.cellsAt r b hb
    rw [k.at_.get] at e1; cases e1
  exact ⟨g, rfl, ⟨i.ow.le, fun j x e1 => (m.get x (i.ow.lt j x e1) (by
    simp only [List.mem_singleton]
    rintro rfl
    exact k.out (i.ow.mem.2 ⟨j, e1⟩))).trans (i.ow.get j x e1), i.ow.lt, i.ow.ge, i.ow.inj, i.ow.top⟩, i.fb, i.cb, hr i.lrow, i.sp, i.vp, i.tp, i.gp, i.esv, fun x hx => hr (i.rows x hx), i.rge, i.fy, i.cy, i.fv, i.cv, i.bp, i.fk, i.ck, i.kl, i.ok⟩
theorem Kept.set {i mm : Nat} {o : AObj} (k : Kept S h i o) (hi : i ≠ mm) (o' : AObj) : Kept S (h.set mm o') i o := ⟨⟨k.at_.lt, (get_set_ne hi).trans k.at_.get⟩, k.out⟩
theorem setNewF (f : Fr S0 h0 S h) {mm : Nat} (hm : h0.next ≤ mm) (o' : AObj) : Fr S0 h0 S (h.set mm o') := ⟨f.mod.set (.inl hm) _, f.own⟩
theorem cnt_pt (M : List (Bs × Int)) (w w' : Bs) (v : Int) : cnt (pt M w v) w' = if w' = w then v else cnt M w' := by
  unfold cnt
  rw [lk_pt]
  split <;> rfl

/-- the keys of a block -/
structure KeysOk (e : En) (S0 : List Nat) (h0 : H) (N : Nat) (L : List (Bs × Key)) : Prop where
  rd : ∀ x ∈ L, RdOk e S0 h0 N x.2.f x.2.x x.2.y x.2.sem
  mono : ∀ x ∈ L, ∀ st : St, st.p.k ≤ (x.2.sem st).1.p.k
  none : lk L ⟨#[]⟩ = none
  most : ∀ x ∈ L, x.2.most ≤ 1000
  few : L.length ≤ 1000

theorem block_loop {N n : Nat} {L : List (Bs × Key)} (ks : KeysOk e S0 h0 N L) (hN : N ≤ n) (hn : 1100 ≤ n) {im mm : Nat} {oL : AObj} (kL : Kept S0 h0 im oL) (hL : MObj AV.str encK L oL)
    (kk : AV → H → Option Unit) : ∀ (F m : Nat) (M : List (Bs × Int)) (oM : AObj) (h : H) (S : List Nat) (st : St), Inv e h st S → Fr S0 h0 S h → Kept S h mm oM → MObj AV.str encN M oM → h0.next ≤ mm → (∀ w, 0 ≤ cnt M w ∧ cnt M w ≤ 1000) → e.l.length < st.p.k + F → F ≤ m →
      (∀ r h', (∃ S', r = .bool (bodyS e.s e.l L F M st).2 ∧ Fr S0 h0 S' h' ∧ Inv e h' (bodyS e.s e.l L F M st).1 S') → kk r h' = some ()) →
      config_parser_block_L1 n m (some (e.b, 0)) (some im) (some mm) h kk = some () := by
  intro F
  induction F with
  | zero =>
    intro m M oM h S st i fr km hM hne hcn hF _ _
    have := i.okp.k
    omega
  | succ F ih =>
    intro m M oM h S st i fr km hM hne hcn hF hm hkk
    obtain ⟨m, rfl⟩ : ∃ k, m = k + 1 := ⟨m - 1, by omega⟩
    obtain ⟨n', rfl⟩ : ∃ k, n = k + 1 := ⟨n - 1, by omega⟩
    have kim := kL.fr fr
    rw [config_parser_block_L1_eq, place_eq i, Option.bind_some, asInt_int, peek_eq i, Option.bind_some, asStr_str, lookK_of keys_str kim.at_.get hL, str_eq]
    unfold bodyS at hkk
    by_cases hsh : peekP e.l st.p.k = ⟨#[125]⟩
    · rw [if_pos hsh] at hkk
      rw [decide_eq_true hsh]
      have hk : st.p.k < e.l.length := peekP_lt (by rw [hsh]; decide)
      have fin : ∀ h2 : H, Mod [] h h2 → (rangeMK (some im) h2 fun i23 h24 => config_parser_block_L3 (n' + 1) (n' + 1) (some (e.b, 0)) (some mm) (some (i23, 0)) h24 kk) = some () := by
        intro h2 md
        have kim2 : Kept S h2 im oL := kim.fr (.mod0 md)
        obtain ⟨LL, clk, hLL, it, e1, itr⟩ := Iter.begin kim2.at_.get hL kim2.at_.lt
        rw [e1]
        have km2 : Kept S h2 mm oM := km.fr (.mod0 md)
        have hlen : LL.length ≤ 1000 := by have := ks.few; rw [← hLL, List.length_map] at this; exact this
        refine block_range (i.frame md) km2.at_ hM (by omega) kim2.at_.lt (Nat.le_refl _) hk (fun r h' hq => ?_) LL.length (n' + 1) _ [] LL rfl (by omega) ((Mod.refl _ _).new _) (Nat.lt_succ_self _) itr (by simp)
        rw [hLL] at hq
        obtain ⟨h3, h4, h5⟩ := hq
        exact hkk r h' ⟨S, h3, (fr.trans (Fr.mod0 md)).trans h4, h5⟩
      cases lk L (peekP e.l st.p.k) with
      | none =>
        simp only [asAgg_agg, lI_of, lB_of, lc_cons, l0_nil]
        rw [newK_eq, box_wr (n := 3) rfl rfl rfl, cond_true]
        exact fin _ ((Mod.refl _ _).new _)
      | some key =>
        simp only [encK, asAgg_agg, lI_of, lB_of, lc_cons, l0_nil]
        rw [newK_eq, box_wr (n := 3) rfl rfl rfl, cond_true]
        exact fin _ ((Mod.refl _ _).new _)
    · rw [if_neg hsh] at hkk
      rw [decide_eq_false hsh]
      cases hlk : lk L (peekP e.l st.p.k) with
      | none =>
        rw [hlk] at hkk
        simp only [asAgg_agg, lI_of, lB_of, lc_cons, l0_nil]
        rw [newK_eq, box_wr (n := 3) rfl rfl rfl, cond_false, Bool.not_false, cond_true]
        obtain ⟨r, h2, e2, rfl, f2, j2⟩ := fail_ret (i.frame (((Mod.refl [] h).new (.cells [.int .i64 0, .bool false, .nilFunc] false)))) n' (placeP e.s e.l st.p.k) 180
        rw [e2, Option.bind_some, asBool_bool]
        exact hkk _ _ ⟨S, rfl, (fr.trans (Fr.mod0 ((Mod.refl [] h).new _))).trans f2, j2⟩
      | some key =>
        rw [hlk] at hkk
        have hmem : (peekP e.l st.p.k, key) ∈ L := lk_mem hlk
        have hne0 : peekP e.l st.p.k ≠ ⟨#[]⟩ := fun e' => by rw [e', ks.none] at hlk; cases hlk
        have hk := peekP_lt hne0
        generalize hw : peekP e.l st.p.k = w at hkk hmem hsh hlk hne0 ⊢
        simp only [encK, asAgg_agg, lI_of, lB_of, lc_cons, l0_nil]
        rw [newK_eq, box_wr (n := 3) rfl rfl rfl, cond_false, Bool.not_true, cond_false]
        have md : Mod [] h (h.new (.cells [.int .i64 key.most, .bool key.need, .func key.f key.x key.y] false)) := (Mod.refl _ _).new _
        have kb : Kept S (h.new (.cells [.int .i64 key.most, .bool key.need, .func key.f key.x key.y] false)) h.next (.cells [.int .i64 key.most, .bool key.need, .func key.f key.x key.y] false) := ⟨.new _ _, fun hx => by have := i.ltS _ hx; omega⟩
        have hbn : mm ≠ h.next := fun e' => by have := km.at_.lt; omega
        generalize h.next = b at kb hbn ⊢
        generalize h.new (.cells [.int .i64 key.most, .bool key.need, .func key.f key.x key.y] false) = h1 at md kb ⊢
        have i1 := i.frame md
        have km1 := km.fr (.mod0 md)
        rw [cnt_look km1.at_.get hM, kb.cell, asInt_int]
        have key1 : ∀ d : Bool, d = decide (key.most ≤ cnt M w ∧ key.most = 1) → config_parser_block_J2 (n' + 1) m (some (e.b, 0)) (some im) (some mm) (placeP e.s e.l st.p.k) w (some (b, 0)) d h1 kk = some () := by
          intro d hd
          rw [config_parser_block_J2_eq]
          cases d with
          | true =>
            have hd' := of_decide_eq_true hd.symm
            rw [cond_true]
            obtain ⟨r, h2, e2, rfl, f2, j2⟩ := fail_ret i1 n' (placeP e.s e.l st.p.k) 181
            rw [e2, Option.bind_some, asBool_bool]
            refine hkk _ _ ⟨S, ?_, (fr.trans (Fr.mod0 md)).trans f2, ?_⟩
            · simp only [if_pos hd'.1]
            · simp only [if_pos hd'.1, if_pos hd'.2]; exact j2
          | false =>
            have hd' := of_decide_eq_false hd.symm
            rw [cond_false, cnt_look km1.at_.get hM, nnK_some', kb.cell, asInt_int]
            by_cases hmo : key.most ≤ cnt M w
            · have h1' : key.most ≠ 1 := fun e' => hd' ⟨hmo, e'⟩
              rw [decide_eq_true (show cnt M w ≥ key.most from hmo), cond_true]
              obtain ⟨r, h2, e2, rfl, f2, j2⟩ := fail_ret i1 n' (placeP e.s e.l st.p.k) 184
              rw [e2, Option.bind_some, asBool_bool]
              refine hkk _ _ ⟨S, ?_, (fr.trans (Fr.mod0 md)).trans f2, ?_⟩
              · simp only [if_pos hmo]
              · simp only [if_pos hmo, if_neg h1']; exact j2
            · rw [decide_eq_false (show ¬ cnt M w ≥ key.most from hmo), cond_false, cnt_look km1.at_.get hM]
              obtain ⟨o', hM', e3⟩ := putK_of (β := Unit) keys_str km1.at_.get hM w (cnt M w + 1)
              have hwr : IntKind.i64.wrap (cnt M w + 1) = cnt M w + 1 := by have := hcn w; exact wrap_i64 (by omega) (by omega)
              rw [hwr, show (AV.int .i64 (cnt M w + 1)) = encN (cnt M w + 1) from rfl, e3, nnK_some']
              simp only [Nat.zero_add, nnK_some']
              obtain ⟨LM, clkM, hoM, _⟩ := hM
              have i2 : Inv e (h1.set mm o') st S := i1.setMap (hoM ▸ km1) o'
              obtain ⟨h3, e4, f4, i3⟩ := i2.step hk
              rw [e4]
              have kb3 := (kb.set hbn.symm o').fr f4
              rw [cellK_of kb3.at_.get rfl, asFn_of]
              have fr3 : Fr S0 h0 S h3 := (setNewF (fr.trans (.mod0 md)) hne o').trans f4
              have rd := ks.rd _ hmem
              have mono := ks.mono _ hmem (setP st { st.p with k := st.p.k + 1 })
              have hmost := ks.most _ hmem
              have km3 : Kept S h3 mm o' := Kept.fr (h := h1.set mm o') ⟨⟨km1.at_.lt, get_set_self _ _ _⟩, km1.out⟩ f4
              refine rd.run (n' + 1) hN h3 S _ fr3 i3 _ fun r h4 hq => ?_
              obtain ⟨S4, rfl, f5, i5⟩ := hq
              rw [rd.gives, asBool_bool]
              simp only [if_neg hmo] at hkk
              change ∀ r h', (∃ S', r = .bool (if (key.sem (setP st { st.p with k := st.p.k + 1 })).2 = true then bodyS e.s e.l L F (pt M w (cnt M w + 1)) (key.sem (setP st { st.p with k := st.p.k + 1 })).1 else ((key.sem (setP st { st.p with k := st.p.k + 1 })).1, false)).2 ∧ Fr S0 h0 S' h' ∧ Inv e h' (if (key.sem (setP st { st.p with k := st.p.k + 1 })).2 = true then bodyS e.s e.l L F (pt M w (cnt M w + 1)) (key.sem (setP st { st.p with k := st.p.k + 1 })).1 else ((key.sem (setP st { st.p with k := st.p.k + 1 })).1, false)).1 S') → kk r h' = some () at hkk
              change Inv e h4 (key.sem (setP st { st.p with k := st.p.k + 1 })).1 S4 at i5
              change st.p.k + 1 ≤ (key.sem (setP st { st.p with k := st.p.k + 1 })).1.p.k at mono
              show (bif !(key.sem (setP st { st.p with k := st.p.k + 1 })).2 then kk (.bool false) h4 else config_parser_block_L1 (n' + 1) m (some (e.b, 0)) (some im) (some mm) h4 kk) = some ()
              cases hsem : (key.sem (setP st { st.p with k := st.p.k + 1 })).2 with
              | false =>
                rw [Bool.not_false, cond_true]
                rw [hsem] at hkk
                exact hkk _ _ ⟨S4, rfl, fr3.trans f5, i5⟩
              | true =>
                rw [Bool.not_true, cond_false]
                rw [hsem] at hkk
                refine ih m (pt M w (cnt M w + 1)) o' h4 S4 _ i5 (fr3.trans f5) (km3.fr f5) hM' hne (fun w' => ?_) (by omega) (by omega) fun r h' hq => hkk r h' ?_
                · rw [cnt_pt]
                  have := hcn w
                  split
                  · simp only at hmost; omega
                  · exact hcn w'
                · simpa using hq
        by_cases hmo : cnt M w ≥ key.most
        · rw [decide_eq_true hmo, cond_true, kb.cell, asInt_int]
          refine key1 _ ?_
          by_cases h1' : key.most = 1
          · rw [decide_eq_true (show key.most ≤ cnt M w ∧ key.most = 1 from ⟨hmo, h1'⟩), h1']; rfl
          · rw [decide_eq_false (fun q => h1' q.2)]; simpa using h1'
        · rw [decide_eq_false hmo, cond_false]
          exact key1 _ (decide_eq_false fun q => hmo q.1).symm
end
end Go.Ev.Tryd
