/- What the functions of chapter 17 compute, in plain lists: strings.Split at one byte; numbers, digits. -/
import Derived.Test.YtkikfnpanlcajaaDoorEvV
import Derived.Test.YtkikfnpanlcajaaDoorQ171
import Derived.Test.YtkikfnpanlcajaaDoorQ172
import Derived.Test.YtkikfnpanlcajaaDoorQ173
import Derived.Test.YtkikfnpanlcajaaDoorQ174
set_option linter.all false
namespace Go.Ev.Tryd
set_option maxRecDepth 10000
open Go.Proofs

/-! ### parts of a list -/

def parts (c : UInt8) : List UInt8 → List (List UInt8)
  | [] => [[]]
  | b :: l => if b = c then [] :: parts c l else match parts c l with | p :: ps => (b :: p) :: ps | [] => [[b]]

theorem parts_ne (c : UInt8) : ∀ l, parts c l ≠ []
  | [] => by simp [parts]
  | b :: l => by
    unfold parts
    split
    · simp
    · split <;> simp
theorem parts_none {c : UInt8} : ∀ {l : List UInt8}, c ∉ l → parts c l = [l]
  | [], _ => rfl
  | b :: l, h => by
    simp only [List.mem_cons, not_or] at h
    unfold parts
    rw [if_neg (fun e => h.1 e.symm), parts_none h.2]
theorem parts_split {c : UInt8} : ∀ {a : List UInt8} (l : List UInt8), c ∉ a → parts c (a ++ c :: l) = a :: parts c l
  | [], l, _ => by simp [parts]
  | b :: a, l, h => by
    simp only [List.mem_cons, not_or] at h
    rw [List.cons_append, parts, if_neg (fun e => h.1 e.symm), parts_split l h.2]
theorem parts_len (c : UInt8) : ∀ l : List UInt8, (parts c l).length = l.count c + 1
  | [] => rfl
  | b :: l => by
    have ih := parts_len c l
    unfold parts
    split
    · rename_i h; subst h; simp [ih]
    · rename_i h
      rw [List.count_cons_of_ne h]
      split
      · rename_i p ps hp; rw [hp] at ih; simpa using ih
      · rename_i hp; exact absurd hp (parts_ne c l)
theorem mem_split {c : UInt8} : ∀ {l : List UInt8}, c ∈ l → ∃ a b, l = a ++ c :: b ∧ c ∉ a
  | x :: l, h => by
    by_cases e : c = x
    · subst e; exact ⟨[], l, rfl, by simp⟩
    · obtain ⟨a, b, rfl, hn⟩ := mem_split ((List.mem_cons.1 h).resolve_left e)
      exact ⟨x :: a, b, rfl, by simp [e, hn]⟩
theorem index_split {c : UInt8} : ∀ {a : List UInt8} (b : List UInt8), c ∉ a → Lib.indexByte (a ++ c :: b) c = a.length
  | [], b, _ => by simp [Lib.indexByte]
  | x :: a, b, h => by
    simp only [List.mem_cons, not_or] at h
    rw [List.cons_append, Lib.indexByte, index_split b h.2, if_neg (by simpa using fun e => h.1 e.symm), if_neg (by simp)]
    simp

/-! ### strings.Index, Count at one byte -/

theorem u8_of (c : UInt8) : ((c.toNat : Nat) : Int).toNat.toUInt8 = c := by simp

theorem Index_eq (n : Nat) {s : ByteArray} {c : UInt8} (hs : bs s ≠ [c] ) (h : H) : ca (n + 4) i_strings_Index [.str s, .str (mk [c])] h = some (.int .i64 (Lib.indexByte (bs s) c), h) := by
  rw [strings_Index_eq, stringslite_Index_eq]
  rw [show (((mk [c]).size : Nat) : Int) = 1 from rfl, show ((1 : Int) == 0) = false by decide, cond_false, str_eq, decide_eq_false (fun e => hs (by rw [← e, bs_mk])), stringslite_Index_J0_eq, cond_false, show ((1 : Int) == 1) = true by decide, cond_true]
  rw [show (0 : Int) = ((0 : Nat) : Int) from rfl, byteK_of (i := 0) (b := c) rfl, stringslite_IndexByte_eq, bytealg_IndexByteString_eq, bytealg_IndexByteString_69_eq]
  simp only [Option.bind_some, indexF, u8_of, asInt_int]
  rfl

theorem Index_one (n : Nat) (c : UInt8) (h : H) : ca (n + 4) i_strings_Index [.str (mk [c]), .str (mk [c])] h = some (.int .i64 0, h) := by
  rw [strings_Index_eq, stringslite_Index_eq]
  rw [show (((mk [c]).size : Nat) : Int) = 1 from rfl, show ((1 : Int) == 0) = false by decide, cond_false, str_eq, decide_eq_true rfl, stringslite_Index_J0_eq, cond_true]
  simp only [Option.bind_some, asInt_int]

theorem Count_eq (n : Nat) (s : ByteArray) (c : UInt8) (h : H) : ca (n + 2) i_strings_Count [.str s, .str (mk [c])] h = some (.int .i64 (((bs s).count c : Nat) : Int), h) := by
  rw [strings_Count_eq]
  rw [show (((mk [c]).size : Nat) : Int) = 1 from rfl, show ((1 : Int) == 0) = false by decide, cond_false, show ((1 : Int) == 1) = true by decide, cond_true]
  rw [show (0 : Int) = ((0 : Nat) : Int) from rfl, byteK_of (i := 0) (b := c) rfl, bytealg_CountString_eq, bytealg_CountString_60_eq]
  simp only [Option.bind_some, countF, u8_of, Lib.countByte, asInt_int]
  rfl

/-! ### strings.Split -/

theorem bnd_from {β : Type} {s : ByteArray} {lo : Int} (h0 : 0 ≤ lo) (h1 : lo ≤ s.size) (f : Nat → Nat → Nat → Option β) : bndK s.size s.size 0 (some (.int .i64 lo)) none none f = f lo.toNat s.size s.size := by
  simp [bndK, evBounds, evBound, h0, h1]
theorem bnd_upto {β : Type} {s : ByteArray} {hi : Int} (h0 : 0 ≤ hi) (h1 : hi ≤ s.size) (f : Nat → Nat → Nat → Option β) : bndK s.size s.size 0 none (some (.int .i64 hi)) none f = f 0 hi.toNat s.size := by
  simp [bndK, evBounds, evBound, h0, h1]
theorem bnd_both {β : Type} {s : ByteArray} {k k' : IntKind} {lo hi : Int} (h0 : 0 ≤ lo) (h1 : lo ≤ hi) (h2 : hi ≤ s.size) (f : Nat → Nat → Nat → Option β) : bndK s.size s.size 0 (some (.int k lo)) (some (.int k' hi)) none f = f lo.toNat hi.toNat s.size := by
  have : 0 ≤ hi := by omega
  have h3 : lo ≤ ((hi.toNat : Nat) : Int) := by omega
  simp only [bndK, evBounds, evBound, Option.bind_some]
  rw [if_pos ⟨this, h2⟩]
  simp only [Option.bind_some]
  rw [if_pos ⟨h0, h3⟩]
  rfl

theorem Split_loop {b N : Nat} (c : UInt8) (n : Nat) (hn : 4 ≤ n) (hN : N < 100000) : ∀ (k : Nat) (s : ByteArray) (ps : List ByteArray) (m : Nat) (h : H), (bs s).count c = k → ps.length + k + 1 = N → k < m → s.size < 100000 → b < h.next → h.get b = some (.cells (ps.map AV.str ++ List.replicate (k + 1) (.str .empty)) false) →
    ∃ p' c', strings_genSplit_L1 n m s (mk [c]) 0 ((N - 1 : Nat) : Int) (some (b, 0)) N (.known N) ps.length h = some (.slice p' N c', h.set b (.cells ((ps ++ (parts c (bs s)).map mk).map AV.str) false)) ∧
      Row (h.set b (.cells ((ps ++ (parts c (bs s)).map mk).map AV.str) false)) 1 p' N c' ((ps ++ (parts c (bs s)).map mk).map AV.str)
  | 0, s, ps, m + 1, h, hk, hl, _, hs, hb, hg => by
    have hno : c ∉ bs s := List.count_eq_zero.1 hk
    have hp : ps ++ (parts c (bs s)).map mk = ps ++ [s] := by rw [parts_none hno]; simp [mk_bs]
    rw [hp, strings_genSplit_L1_eq, cast_not_lt (by omega), cond_false, strings_genSplit_J2_eq, if_pos ⟨by omega, by omega⟩]
    simp only [nnK_some', Nat.zero_add]
    rw [show ((ps.length : Nat) : Int).toNat = ps.length from rfl, wrK_one hg (by simp) rfl]
    have hset : ((ps.map AV.str ++ List.replicate (0 + 1) (AV.str .empty)).set ps.length (.str s)) = (ps ++ [s]).map AV.str := by
      rw [List.set_append_right _ _ (by simp)]; simp
    rw [hset]
    have hrow : Row (h.set b (.cells ((ps ++ [s]).map AV.str) false)) 1 (some (b, 0)) N (.known N) ((ps ++ [s]).map AV.str) :=
      .row hb (get_set_self _ _ _) (by rw [List.drop_zero, List.take_of_length_le (by simp; omega)]) (by simp; omega) (.inr ⟨N, rfl, Nat.le_refl _⟩)
    obtain ⟨p', c', r', _, e⟩ := hrow.upto (β := AV × H) (k := .i64) (hi := ((ps.length + 1 : Nat) : Int)) (by omega) (by omega)
    rw [wrap_succ (by omega), e]
    refine ⟨p', c', by rw [show ((ps.length + 1 : Nat) : Int).toNat = N by omega], ?_⟩
    rw [show ((ps.length + 1 : Nat) : Int).toNat = N by omega] at r'
    rwa [List.take_of_length_le (by simp; omega)] at r'
  | k + 1, s, ps, m + 1, h, hk, hl, hm, hs, hb, hg => by
    have hmem : c ∈ bs s := List.count_pos_iff.1 (by omega)
    obtain ⟨a, r, hsp, hna⟩ := mem_split hmem
    have hidx : ca n i_strings_Index [.str s, .str (mk [c])] h = some (.int .i64 ((a.length : Nat) : Int), h) := by
      obtain ⟨n, rfl⟩ : ∃ m, n = m + 4 := ⟨n - 4, by omega⟩
      by_cases h1 : bs s = [c]
      · have : s = mk [c] := by rw [← mk_bs s, h1]
        rw [this, Index_one]
        have ha : a = [] := by
          rw [h1] at hsp
          cases a with
          | nil => rfl
          | cons x a => have := congrArg List.length hsp; simp at this
        rw [ha]; rfl
      · rw [Index_eq n h1, hsp, index_split r hna]
    have hsz : s.size = a.length + 1 + r.length := by rw [← bs_len, hsp]; simp; omega
    rw [strings_genSplit_L1_eq, cast_lt (by omega), cond_true, hidx, Option.bind_some]
    simp only [asInt_int]
    rw [show decide (((a.length : Nat) : Int) < 0) = false by simp, cond_false, show IntKind.i64.wrap (((a.length : Nat) : Int) + 0) = ((a.length : Nat) : Int) by rw [wrap_i64 (by omega) (by omega)]; simp, bnd_upto (by omega) (by omega), if_pos ⟨by omega, by omega⟩]
    simp only [nnK_some', Nat.zero_add]
    rw [show ((ps.length : Nat) : Int).toNat = ps.length from rfl, show ((a.length : Nat) : Int).toNat = a.length from rfl, wrK_one hg (by simp) rfl, show (((mk [c]).size : Nat) : Int) = 1 from rfl, wrap_succ (by omega), bnd_from (by omega) (by omega), wrap_succ (by omega)]
    have hx1 : s.extract 0 a.length = mk a := bs_inj (by rw [bs_extract, bs_mk, hsp]; simp)
    have hx2 : s.extract ((a.length + 1 : Nat) : Int).toNat s.size = mk r := bs_inj (by
      rw [bs_extract, bs_mk, hsp, show ((a.length + 1 : Nat) : Int).toNat = a.length + 1 from rfl, hsz, show a.length + 1 + r.length - (a.length + 1) = r.length by omega]
      rw [List.drop_append, List.drop_of_length_le (by omega), show a.length + 1 - a.length = 1 by omega]; simp)
    have hset : ((ps.map AV.str ++ List.replicate (k + 1 + 1) (AV.str .empty)).set ps.length (.str (s.extract 0 a.length))) = (ps ++ [mk a]).map AV.str ++ List.replicate (k + 1) (.str .empty) := by
      rw [hx1, List.set_append_right _ _ (by simp)]
      simp [List.replicate_succ]
    have hcount : (bs (mk r)).count c = k := by
      rw [bs_mk]
      rw [hsp, List.count_append, List.count_eq_zero.2 hna, List.count_cons_self] at hk
      omega
    rw [hset, hx2, show ps.length + 1 = (ps ++ [mk a]).length by simp]
    obtain ⟨p', c', e, r'⟩ := Split_loop (b := b) (N := N) c n hn hN k (mk r) (ps ++ [mk a]) m (h.set b (.cells ((ps ++ [mk a]).map AV.str ++ List.replicate (k + 1) (.str .empty)) false)) hcount (by simp; omega) (by omega) (by rw [size_mk]; omega) hb (get_set_self _ _ _)
    rw [set_set] at e r'
    rw [bs_mk] at e r'
    have hfin : ps ++ [mk a] ++ (parts c r).map mk = ps ++ (parts c (bs s)).map mk := by rw [hsp, parts_split r hna]; simp
    rw [hfin] at e r'
    exact ⟨p', c', e, r'⟩

theorem Split_ret {s : ByteArray} (hs : s.size < 90000) (c : UInt8) {n : Nat} (hn : s.size + 10 ≤ n) (h : H) :
    Ret (ca n i_strings_Split [.str s, .str (mk [c])] h) fun v h' => Mod [] h h' ∧ ∃ p d, v = .slice p (parts c (bs s)).length d ∧ Row h' 1 p (parts c (bs s)).length d (((parts c (bs s)).map mk).map AV.str) := by
  obtain ⟨n, rfl⟩ : ∃ m, n = m + 4 := ⟨n - 4, by omega⟩
  rw [strings_Split_eq, strings_genSplit_eq, show ((-1 : Int) == 0) = false by decide, cond_false, str_eq, decide_eq_false (fun e => by have := congrArg ByteArray.size e; rw [size_mk] at this; cases this), cond_false, show decide ((-1 : Int) < 0) = true by decide, cond_true, Count_eq, Option.bind_some]
  simp only [asInt_int]
  have hc : (bs s).count c ≤ s.size := by rw [← bs_len]; exact List.count_le_length
  rw [wrap_succ (by omega), strings_genSplit_J0_eq, wrap_succ (by omega)]
  rw [if_neg (by omega), mkSlK_of h (by omega) (by decide), wrap_i64 (by omega) (by omega), Nat.mul_one, evTile_one]
  obtain ⟨p', c', e, r'⟩ := Split_loop (b := h.next) (N := (bs s).count c + 1) c (n + 2) (by omega) (by omega) ((bs s).count c) s [] (n + 2) (h.new (.cells (List.replicate ((bs s).count c + 1) (.str .empty)) false)) rfl (by simp) (by omega) (by omega) (by simp) (get_new_self _ _)
  rw [show (((bs s).count c + 1 : Nat) : Int) - 1 = (((bs s).count c + 1 - 1 : Nat) : Int) by omega]
  rw [show ((([] : List ByteArray).length : Nat) : Int) = 0 from rfl] at e
  rw [e, Option.bind_some]
  simp only [asSlice_slice]
  rw [← parts_len] at r' ⊢
  refine .pure ⟨?_, p', c', rfl, by simpa using r'⟩
  exact ((Mod.refl _ _).new _).set (.inl (Nat.le_refl _)) _

end Go.Ev.Tryd
