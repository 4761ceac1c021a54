/- Chapter 08: which backends may be. -/
import Derived.Test.YtlodaclifccchaaMg6
set_option linter.all false
namespace Go.Ev.Try
set_option maxRecDepth 10000
open Go.Proofs

abbrev i64 (x : Int) : AV := .int .i64 x
abbrev Bk := ByteArray × Int
def encK (b : Bk) : List AV := [.str b.1, i64 b.2]
theorem encK_len : ∀ b : Bk, (encK b).length = 2 := fun _ => rfl
def okK (b : Bk) : Prop := 1 ≤ b.1.size ∧ b.1.size ≤ 40 ∧ 1 ≤ b.2 ∧ b.2 ≤ 100
instance (b : Bk) : Decidable (okK b) := by unfold okK; exact inferInstance
/-- no name twice -/
def uniq (L : List Bk) : Prop := ∀ i k : Nat, k < i → ∀ x y, L[i]? = some x → L[k]? = some y → y.1 ≠ x.1
def okL (L : List Bk) : Prop := 1 ≤ L.length ∧ L.length ≤ 16 ∧ (∀ b ∈ L, okK b) ∧ uniq L
noncomputable instance (L : List Bk) : Decidable (okL L) := Classical.propDecidable _
abbrev KRow (h : H) (p : Option (Nat × Nat)) (len : Nat) (c : Cap) (L : List Bk) : Prop := Row h 2 p len c (L.flatMap encK)

theorem bad_ret (b : Bk) (n : Nat) (h : H) : Ret (maglev_right_1_34 n b.1 b.2 h) fun r h' => r = !decide (okK b) ∧ Mod [] h h' := by
  rw [maglev_right_1_34_eq, newK_eq]
  have g := get_new_self h (.cells [.str b.1, .int .i64 b.2] false)
  have m : Mod [] h (h.new (.cells [.str b.1, .int .i64 b.2] false)) := (Mod.refl _ _).new _
  generalize h.new (.cells [.str b.1, .int .i64 b.2] false) = h2 at *
  rw [cellK_of (o := 0) g rfl]
  simp only [asStr_str]
  rw [str_eq]
  by_cases h1 : b.1 = ⟨#[]⟩
  · rw [decide_eq_true h1, cond_true]
    refine .pure ⟨?_, m⟩
    rw [decide_eq_false, Bool.not_false]
    exact fun hk => by have := size_zero.2 h1; have := hk.1; omega
  have hs : 1 ≤ b.1.size := by
    rcases Nat.eq_zero_or_pos b.1.size with h | h
    · exact absurd (size_zero.1 h) h1
    · exact h
  rw [decide_eq_false h1, cond_false, cellK_of (o := 0) g rfl]
  simp only [asStr_str]
  by_cases h2' : ((b.1.size : Nat) : Int) > 40
  · rw [decide_eq_true h2', cond_true]
    exact .pure ⟨by rw [decide_eq_false, Bool.not_false]; exact fun hk => by have := hk.2.1; omega, m⟩
  rw [decide_eq_false h2', cond_false, cellK_of (o := 1) g rfl, asInt_int]
  by_cases h3 : b.2 < 1
  · rw [decide_eq_true h3, cond_true]
    exact .pure ⟨by rw [decide_eq_false, Bool.not_false]; exact fun hk => by have := hk.2.2.1; omega, m⟩
  rw [decide_eq_false h3, cond_false, cellK_of (o := 1) g rfl, asInt_int]
  refine .pure ⟨?_, m⟩
  by_cases h4 : b.2 > 100
  · rw [decide_eq_true h4, decide_eq_false, Bool.not_false]; exact fun hk => by have := hk.2.2.2; omega
  · rw [decide_eq_false h4, decide_eq_true, Bool.not_true]; exact ⟨hs, by omega, by omega, by omega⟩

theorem anyBad_loop {a : H} {p : Option (Nat × Nat)} {len : Nat} {c : Cap} {L : List Bk} (hs : KRow a p len c L) (hl : L.length < 1000000) (n : Nat) : ∀ (ts pre : List Bk) (m : Nat) (h : H), L = pre ++ ts → ts.length < m → Mod [] a h → (∀ b ∈ pre, okK b) →
    Ret (maglev_Backend_43_f34_L0 n m p len c len pre.length h) fun r h' => (0 ≤ r ↔ ¬ ∀ b ∈ L, okK b) ∧ Mod [] a h'
  | [], pre, m + 1, h, hx, _, hm, hpre => by
    have hlen := Row.len hs encK_len (by omega)
    rw [maglev_Backend_43_f34_L0_eq, cast_not_lt (by rw [← hlen, hx]; simp), cond_false]
    refine .pure ⟨⟨fun h => by omega, fun h => absurd (fun b hb => hpre b (by rw [hx] at hb; simpa using hb)) h⟩, hm⟩
  | t :: ts, pre, m + 1, h, hx, hf, hm, hpre => by
    have hlen := Row.len hs encK_len (by omega)
    have ht : L[pre.length]? = some t := by rw [hx]; simp
    have hlt : pre.length < L.length := by rw [hx]; simp
    rw [maglev_Backend_43_f34_L0_eq, cast_lt (by omega), cond_true, Row.ix (Row.mod0 hs hm) encK_len (by omega) ht]
    simp only [encK, lc_cons, l0_nil, asInt_int, asStr_str]
    refine (bad_ret t n h).bind fun r h' ⟨e, m'⟩ => ?_
    subst e
    simp only
    by_cases hk : okK t
    · rw [decide_eq_true hk, Bool.not_true, cond_false, wrap_succ (by omega)]
      have := anyBad_loop hs hl n ts (pre ++ [t]) m h' (by rw [hx]; simp) (by simp at hf; omega) (hm.trans m') (fun b hb => by
        rcases List.mem_append.1 hb with hb | hb
        · exact hpre b hb
        · simp at hb; exact hb ▸ hk)
      rw [List.length_append, List.length_singleton] at this
      exact this
    · rw [decide_eq_false hk, Bool.not_false, cond_true]
      refine .pure ⟨⟨fun _ h => hk (h t (List.mem_of_getElem? ht)), fun _ => by omega⟩, hm.trans m'⟩

theorem anyBad_ret {h : H} {p : Option (Nat × Nat)} {len : Nat} {c : Cap} {L : List Bk} (hs : KRow h p len c L) (hl : L.length < 1000000) {n : Nat} (hn : L.length < n) :
    Ret (maglev_Backend_35_f34 n p len c h) fun r h' => r = !decide (∀ b ∈ L, okK b) ∧ Mod [] h h' := by
  rw [maglev_Backend_35_f34_eq, maglev_Backend_43_f34_eq]
  refine (anyBad_loop hs hl n L [] n h rfl hn (Mod.refl _ _) (by simp)).bind fun r h' ⟨e, m⟩ => ?_
  refine .pure ⟨?_, m⟩
  by_cases hk : ∀ b ∈ L, okK b
  · rw [decide_eq_true hk, decide_eq_false (fun h => e.1 h hk)]; rfl
  · rw [decide_eq_false hk, decide_eq_true (e.2 hk)]; rfl

/-! ### a name that is there -/

theorem sameName_ret (b : Bk) (n : Nat) {h : H} {ib : Nat} {s : ByteArray} {v : AV} (hib : ib < h.next) (g : h.get ib = some (.cells [.str s, v] false)) : Ret (maglev_right_2_36 n b.1 b.2 (some (ib, 0)) h) fun r h' => r = decide (b.1 = s) ∧ Mod [] h h' := by
  rw [maglev_right_2_36_eq, newK_eq]
  have g2 := get_new_self h (.cells [.str b.1, .int .i64 b.2] false)
  have m : Mod [] h (h.new (.cells [.str b.1, .int .i64 b.2] false)) := (Mod.refl _ _).new _
  generalize h.new (.cells [.str b.1, .int .i64 b.2] false) = h2 at *
  rw [cellK_of (o := 0) g2 rfl]
  simp only [asStr_str, nnK_some']
  rw [cellK_of (o := 0) ((m.get _ hib (by simp)).trans g) rfl]
  simp only [asStr_str]
  rw [str_eq]
  exact .pure ⟨rfl, m⟩

theorem anyName_loop {a : H} {p : Option (Nat × Nat)} {len : Nat} {c : Cap} {L : List Bk} (hs : KRow a p len c L) (hl : L.length < 1000000) (n : Nat) {ib : Nat} {s : ByteArray} {v : AV} (hib : ib < a.next) (g : a.get ib = some (.cells [.str s, v] false)) : ∀ (ts pre : List Bk) (m : Nat) (h : H), L = pre ++ ts → ts.length < m → Mod [] a h → (∀ b ∈ pre, b.1 ≠ s) →
    Ret (maglev_Backend_43_f36_L0 n m p len c (some (ib, 0)) len pre.length h) fun r h' => (0 ≤ r ↔ ¬ ∀ b ∈ L, b.1 ≠ s) ∧ Mod [] a h'
  | [], pre, m + 1, h, hx, _, hm, hpre => by
    have hlen := Row.len hs encK_len (by omega)
    rw [maglev_Backend_43_f36_L0_eq, cast_not_lt (by rw [← hlen, hx]; simp), cond_false]
    refine .pure ⟨⟨fun h => by omega, fun h => absurd (fun b hb => hpre b (by rw [hx] at hb; simpa using hb)) h⟩, hm⟩
  | t :: ts, pre, m + 1, h, hx, hf, hm, hpre => by
    have hlen := Row.len hs encK_len (by omega)
    have ht : L[pre.length]? = some t := by rw [hx]; simp
    have hlt : pre.length < L.length := by rw [hx]; simp
    rw [maglev_Backend_43_f36_L0_eq, cast_lt (by omega), cond_true, Row.ix (Row.mod0 hs hm) encK_len (by omega) ht]
    simp only [encK, lc_cons, l0_nil, asInt_int, asStr_str]
    refine (sameName_ret t n (hm.lt hib) ((hm.get _ hib (by simp)).trans g)).bind fun r h' ⟨e, m'⟩ => ?_
    subst e
    simp only
    by_cases hk : t.1 = s
    · rw [decide_eq_true hk, cond_true]
      refine .pure ⟨⟨fun _ h => h t (List.mem_of_getElem? ht) hk, fun _ => by omega⟩, hm.trans m'⟩
    · rw [decide_eq_false hk, cond_false, wrap_succ (by omega)]
      have := anyName_loop hs hl n hib g ts (pre ++ [t]) m h' (by rw [hx]; simp) (by simp at hf; omega) (hm.trans m') (fun b hb => by
        rcases List.mem_append.1 hb with hb | hb
        · exact hpre b hb
        · simp at hb; exact hb ▸ hk)
      rw [List.length_append, List.length_singleton] at this
      exact this

theorem anyName_ret {h : H} {p : Option (Nat × Nat)} {len : Nat} {c : Cap} {L : List Bk} (hs : KRow h p len c L) (hl : L.length < 1000000) {n : Nat} (hn : L.length < n) {ib : Nat} {s : ByteArray} {v : AV} (hib : ib < h.next) (g : h.get ib = some (.cells [.str s, v] false)) :
    Ret (maglev_Backend_35_f36 n p len c (some (ib, 0)) h) fun r h' => r = !decide (∀ b ∈ L, b.1 ≠ s) ∧ Mod [] h h' := by
  rw [maglev_Backend_35_f36_eq, maglev_Backend_43_f36_eq]
  refine (anyName_loop hs hl n hib g L [] n h rfl hn (Mod.refl _ _) (by simp)).bind fun r h' ⟨e, m⟩ => ?_
  refine .pure ⟨?_, m⟩
  by_cases hk : ∀ b ∈ L, b.1 ≠ s
  · rw [decide_eq_true hk, decide_eq_false (fun h => e.1 h hk)]; rfl
  · rw [decide_eq_false hk, decide_eq_true (e.2 hk)]; rfl

/-- no name of a row's beginning twice -/
def uniqTo (L : List Bk) (m : Nat) : Prop := ∀ i k : Nat, k < i → i < m → ∀ x y, L[i]? = some x → L[k]? = some y → y.1 ≠ x.1
theorem uniqTo_all {L : List Bk} {m : Nat} (h : uniqTo L m) (hm : L.length ≤ m) : uniq L := fun i k hk x y h1 h2 => h i k hk (by have := (List.getElem?_eq_some_iff.1 h1).1; omega) x y h1 h2
theorem uniqTo_succ {L : List Bk} {m : Nat} (h : uniqTo L m) {t : Bk} (ht : L[m]? = some t) (hn : ∀ b ∈ L.take m, b.1 ≠ t.1) : uniqTo L (m + 1) := by
  intro i k hk hi x y h1 h2
  by_cases hm : i = m
  · subst hm
    rw [ht] at h1
    cases h1
    exact hn y (List.mem_of_getElem? (i := k) (by rw [List.getElem?_take_of_lt hk]; exact h2))
  · exact h i k hk (by omega) x y h1 h2

theorem right_L1 {a : H} {p : Option (Nat × Nat)} {len : Nat} {c : Cap} {L : List Bk} (hs : KRow a p len c L) (hl : 1 ≤ L.length ∧ L.length ≤ 16) (hall : ∀ b ∈ L, okK b) {n : Nat} (hn : 100 ≤ n) : ∀ (d i m : Nat) (h : H), i + d = L.length → d < m → Mod [] a h → uniqTo L i →
    Ret (maglev_right_23_L1 n m p len c p len c len i h) fun r h' => r = decide (okL L) ∧ Mod [] a h'
  | 0, i, m + 1, h, hi, _, hm, hu => by
    have hlen := Row.len hs encK_len (by omega)
    rw [maglev_right_23_L1_eq, cast_not_lt (by omega), cond_false]
    exact .pure ⟨by rw [decide_eq_true]; exact ⟨hl.1, hl.2, hall, uniqTo_all hu (by omega)⟩, hm⟩
  | d + 1, i, m + 1, h, hi, hf, hm, hu => by
    have hlen := Row.len hs encK_len (by omega)
    have hlt : i < L.length := by omega
    have ht : L[i]? = some L[i] := List.getElem?_eq_getElem hlt
    generalize hte : L[i] = t at ht
    rw [maglev_right_23_L1_eq, cast_lt (by omega), cond_true, Row.ix (Row.mod0 hs hm) encK_len (by omega) ht]
    simp only [encK, lc_cons, l0_nil, asInt_int, asStr_str, newK_eq]
    rw [wrK_of (n := 2) (get_new_self _ _) rfl (by simp) rfl, spl_all _ _ (by simp), set_new]
    have m1 : Mod [] h (h.new (.cells [.str t.1, .int .i64 t.2] false)) := (Mod.refl _ _).new _
    have g1 := get_new_self h (.cells [.str t.1, .int .i64 t.2] false)
    have n1 : (h.new (.cells [.str t.1, .int .i64 t.2] false)).next = h.next + 1 := rfl
    generalize h.new (.cells [.str t.1, .int .i64 t.2] false) = h1 at *
    obtain ⟨p', c', hs', _, e⟩ := Row.upto (Row.mod0 hs (hm.trans m1)) (k := .i64) (hi := (i : Int)) (by omega) (by omega)
    rw [e]
    rw [Int.toNat_natCast, take_flat encK_len] at hs'
    rw [Int.toNat_natCast]
    have htl : (L.take i).length = i := by simp; omega
    refine (anyName_ret hs' (by omega) (n := n) (by omega) (by omega) g1).bind fun r h2 ⟨e2, m2⟩ => ?_
    subst e2
    simp only
    by_cases hk : ∀ b ∈ L.take i, b.1 ≠ t.1
    · rw [decide_eq_true hk, Bool.not_true, cond_false, wrap_succ (by omega)]
      exact right_L1 hs hl hall hn d (i + 1) m h2 (by omega) (by omega) ((hm.trans m1).trans m2) (uniqTo_succ hu ht hk)
    · rw [decide_eq_false hk, Bool.not_false, cond_true]
      refine .pure ⟨?_, (hm.trans m1).trans m2⟩
      rw [decide_eq_false]
      intro hok
      refine hk fun b hb => ?_
      obtain ⟨k, hkb⟩ := List.getElem?_of_mem hb
      have hki : k < i := by have := (List.getElem?_eq_some_iff.1 hkb).1; omega
      rw [List.getElem?_take_of_lt hki] at hkb
      exact hok.2.2.2 i k hki t b ht hkb

theorem right_ret {h : H} {p : Option (Nat × Nat)} {len : Nat} {c : Cap} {L : List Bk} (hs : KRow h p len c L) {n : Nat} (hn : 100 ≤ n) :
    Ret (maglev_right_23 n p len c h) fun r h' => r = decide (okL L) ∧ Mod [] h h' := by
  have hlen := Row.len hs encK_len (by omega)
  rw [maglev_right_23_eq]
  have bad : ∀ h', ¬ okL L → Mod [] h h' → Ret (maglev_right_23_J0 n p len c true h') fun r h' => r = decide (okL L) ∧ Mod [] h h' := fun h' hb m => by
    rw [maglev_right_23_J0_eq, cond_true]
    exact .pure ⟨by rw [decide_eq_false hb], m⟩
  by_cases h0 : len = 0
  · rw [show (((len : Nat) : Int) == 0) = true by simp [h0], cond_true]
    exact bad h (fun hk => by have := hk.1; omega) (Mod.refl _ _)
  rw [show (((len : Nat) : Int) == 0) = false by simp; omega, cond_false]
  by_cases h1 : ((len : Nat) : Int) > 16
  · rw [decide_eq_true h1, cond_true]
    exact bad h (fun hk => by have := hk.2.1; omega) (Mod.refl _ _)
  rw [decide_eq_false h1, cond_false]
  refine (anyBad_ret hs (by omega) (n := n) (by omega)).bind fun r h' ⟨e, m⟩ => ?_
  subst e
  simp only
  by_cases hk : ∀ b ∈ L, okK b
  · rw [decide_eq_true hk, Bool.not_true, maglev_right_23_J0_eq, cond_false]
    exact (right_L1 (Row.mod0 hs m) ⟨by omega, by omega⟩ hk hn L.length 0 n h' (by omega) (by omega) (Mod.refl _ _) (fun i k _ hi => by omega)).mono fun r h'' ⟨e, m'⟩ => ⟨e, m.trans m'⟩
  · rw [decide_eq_false hk, Bool.not_false]
    exact bad h' (fun h => hk h.2.2.1) m

/-! ### the document's Right -/

theorem refRight_L2 {h : H} {p : Option (Nat × Nat)} {len : Nat} {c : Cap} {L : List Bk} (hs : KRow h p len c L) (hl : L.length < 4611686018427387904) {i : Nat} {t : Bk} (ht : L[i]? = some t) (n m1 : Nat) : ∀ (d k m : Nat), k + d = i → d < m → (∀ b ∈ L.take k, b.1 ≠ t.1) →
    outriderref08_Right_16_L2 n m1 m p len c i k h = if (∀ b ∈ L.take i, b.1 ≠ t.1) then outriderref08_Right_16_L0 n m1 p len c (IntKind.i64.wrap ((i : Int) + 1)) h else some (false, h)
  | 0, k, m + 1, hk, _, hu => by
    obtain rfl : k = i := by omega
    rw [outriderref08_Right_16_L2_eq, cast_not_lt (by omega), cond_false, if_pos hu]
  | d + 1, k, m + 1, hk, hf, hu => by
    have hil := (List.getElem?_eq_some_iff.1 ht).1
    have hx : L[k]? = some L[k] := List.getElem?_eq_getElem (by omega)
    rw [outriderref08_Right_16_L2_eq, cast_lt (by omega), cond_true, Row.ix20 hs encK_len hx (v := .str (L[k]).1) rfl]
    simp only [asStr_str]
    rw [Row.ix20 hs encK_len ht (v := .str t.1) rfl]
    simp only [asStr_str]
    rw [str_eq]
    by_cases he : L[k].1 = t.1
    · rw [decide_eq_true he, cond_true, if_neg fun h => h L[k] (List.mem_of_getElem? (i := k) (by rw [List.getElem?_take_of_lt (by omega)]; exact hx)) he]
    · rw [decide_eq_false he, cond_false, wrap_succ (by omega)]
      refine refRight_L2 hs hl ht n m1 d (k + 1) m (by omega) (by omega) fun b hb => ?_
      rw [List.take_add_one, hx] at hb
      rcases List.mem_append.1 hb with hb | hb
      · exact hu b hb
      · simp at hb; exact hb ▸ he

theorem refRight_L0 {h : H} {p : Option (Nat × Nat)} {len : Nat} {c : Cap} {L : List Bk} (hs : KRow h p len c L) (hl : L.length < 4611686018427387904) {n : Nat} (hn : L.length < n) : ∀ (d i m : Nat), i + d = L.length → d < m → uniqTo L i → (∀ b ∈ L.take i, okK b) →
    outriderref08_Right_16_L0 n m p len c i h = some (decide (okL L), h)
  | 0, i, m + 1, hi, _, hu, ha => by
    have hlen := Row.len hs encK_len (by omega)
    rw [outriderref08_Right_16_L0_eq, cast_not_lt (by omega), cond_false]
    rw [List.take_of_length_le (by omega)] at ha
    by_cases h1 : ((len : Nat) : Int) ≥ 1
    · rw [decide_eq_true h1, cond_true]
      by_cases h2 : ((len : Nat) : Int) ≤ 16
      · rw [decide_eq_true h2, decide_eq_true]; exact ⟨by omega, by omega, ha, uniqTo_all hu (by omega)⟩
      · rw [decide_eq_false h2, decide_eq_false]; exact fun h => by have := h.2.1; omega
    · rw [decide_eq_false h1, cond_false, decide_eq_false]; exact fun h => by have := h.1; omega
  | d + 1, i, m + 1, hi, hf, hu, ha => by
    have hlen := Row.len hs encK_len (by omega)
    have hlt : i < L.length := by omega
    have ht : L[i]? = some L[i] := List.getElem?_eq_getElem hlt
    generalize hte : L[i] = t at ht
    have hmem := List.mem_of_getElem? ht
    have bad : ∀ {b : Bool}, b = true → ¬ okK t → outriderref08_Right_16_J1 n m p len c i b h = some (decide (okL L), h) := fun {b} hb hk => by
      rw [hb, outriderref08_Right_16_J1_eq, cond_true, decide_eq_false]
      exact fun h => hk (h.2.2.1 t hmem)
    rw [outriderref08_Right_16_L0_eq, cast_lt (by omega), cond_true, Row.ix20 hs encK_len ht (v := .str t.1) rfl]
    simp only [asStr_str]
    by_cases h1 : ((t.1.size : Nat) : Int) < 1
    · rw [decide_eq_true h1, cond_true]; exact bad rfl fun hk => by have := hk.1; omega
    rw [decide_eq_false h1, cond_false, Row.ix20 hs encK_len ht (v := .str t.1) rfl]
    simp only [asStr_str]
    by_cases h2 : ((t.1.size : Nat) : Int) > 40
    · rw [decide_eq_true h2, cond_true]; exact bad rfl fun hk => by have := hk.2.1; omega
    rw [decide_eq_false h2, cond_false, Row.ix2 hs encK_len ht 1 (v := .int .i64 t.2) rfl, asInt_int]
    by_cases h3 : t.2 < 1
    · rw [decide_eq_true h3, cond_true]; exact bad rfl fun hk => by have := hk.2.2.1; omega
    rw [decide_eq_false h3, cond_false, Row.ix2 hs encK_len ht 1 (v := .int .i64 t.2) rfl, asInt_int]
    by_cases h4 : t.2 > 100
    · exact bad (decide_eq_true h4) fun hk => by have := hk.2.2.2; omega
    rw [decide_eq_false h4, outriderref08_Right_16_J1_eq, cond_false]
    have := refRight_L2 hs hl ht n m i 0 n (by omega) (by omega) (by simp)
    refine this.trans ?_
    have hk : okK t := ⟨by omega, by omega, by omega, by omega⟩
    by_cases hun : ∀ b ∈ L.take i, b.1 ≠ t.1
    · rw [if_pos hun, wrap_succ (by omega)]
      refine refRight_L0 hs hl hn d (i + 1) m (by omega) (by omega) (uniqTo_succ hu ht hun) fun b hb => ?_
      rw [List.take_add_one, ht] at hb
      rcases List.mem_append.1 hb with hb | hb
      · exact ha b hb
      · simp at hb; exact hb ▸ hk
    · rw [if_neg hun, decide_eq_false]
      intro hok
      refine hun fun b hb => ?_
      obtain ⟨k, hkb⟩ := List.getElem?_of_mem hb
      have hki : k < i := by have := (List.getElem?_eq_some_iff.1 hkb).1; simp at this; omega
      rw [List.getElem?_take_of_lt hki] at hkb
      exact hok.2.2.2 i k hki t b ht hkb

theorem refRight_eq {h : H} {p : Option (Nat × Nat)} {len : Nat} {c : Cap} {L : List Bk} (hs : KRow h p len c L) (hl : L.length < 4611686018427387904) {n : Nat} (hn : L.length < n) : outriderref08_Right_16 n p len c h = some (decide (okL L), h) := by
  rw [outriderref08_Right_16_eq]
  exact refRight_L0 hs hl hn L.length 0 n (by omega) hn (fun i k _ hi => by omega) (by simp)

/-! ### own -/

theorem own_loop {a : H} {p : Option (Nat × Nat)} {len : Nat} {c : Cap} {L : List Bk} (hs : KRow a p len c L) (hl : L.length * 24 ≤ 140737488355328) (n : Nat) : ∀ (d i m : Nat) (q : Option (Nat × Nat)) (ql : Nat) (qc : Cap) (h : H), i + d = L.length → d < m → Grow a h 2 q ql qc ((L.take i).flatMap encK) → Mod [] a h →
    Ret (outriderlaw08_own_11_L0 n m q ql qc p len c len i h) fun z h' => KRow h' z.1 z.2.1 z.2.2 L ∧ (∀ x ∈ own z.1, a.next ≤ x) ∧ Mod [] a h'
  | 0, i, m + 1, q, ql, qc, h, hi, _, g, hm => by
    have hlen := Row.len hs encK_len (by omega)
    rw [outriderlaw08_own_11_L0_eq, cast_not_lt (by omega), cond_false]
    rw [List.take_of_length_le (by omega)] at g
    exact .pure ⟨g.row, fun x hx => (g.own_ge x hx).1, hm⟩
  | d + 1, i, m + 1, q, ql, qc, h, hi, hf, g, hm => by
    have hlen := Row.len hs encK_len (by omega)
    have hlt : i < L.length := by omega
    have ht : L[i]? = some L[i] := List.getElem?_eq_getElem hlt
    have hql : ql = i := by
      have := Row.len g.row encK_len (by omega)
      simp at this; omega
    rw [outriderlaw08_own_11_L0_eq, cast_lt (by omega), cond_true, Row.ix (Row.mod0 hs hm) encK_len (by omega) ht]
    generalize hte : L[i] = t at ht
    simp only [encK, lc_cons, l0_nil, asInt_int, asStr_str, newK_eq]
    rw [wrK_of (n := 2) (get_new_self _ _) rfl (by simp) rfl, spl_all _ _ (by simp), set_new]
    have m1 : Mod [] h (h.new (.cells [.str t.1, .int .i64 t.2] false)) := (Mod.refl _ _).new _
    have g1 := get_new_self h (.cells [.str t.1, .int .i64 t.2] false)
    generalize h.new (.cells [.str t.1, .int .i64 t.2] false) = h1 at *
    rw [aggK_all (n := 2) g1 rfl]
    simp only [lc_cons, l0_nil, asInt_int, asStr_str]
    rw [wrap_succ (by omega)]
    have hm1 := hm.trans m1
    have hg1 := g.mod0 m1
    refine Grow.push (size := 2) (bytes := 24) hg1 hm1.next (xs := [.str t.1, .int .i64 t.2]) rfl rfl (by omega) (by omega) (by omega) fun p' c' h' g' m' => ?_
    refine own_loop hs hl n d (i + 1) m p' (ql + 1) c' h' (by omega) (by omega) ?_ (hm1.push hg1 m')
    rw [List.take_add_one, ht, List.flatMap_append]
    exact g'

theorem own_ret {h : H} {p : Option (Nat × Nat)} {len : Nat} {c : Cap} {L : List Bk} (hs : KRow h p len c L) (hl : L.length * 24 ≤ 140737488355328) {n : Nat} (hn : L.length < n) :
    Ret (outriderlaw08_own_11 n p len c h) fun z h' => KRow h' z.1 z.2.1 z.2.2 L ∧ (∀ x ∈ own z.1, h.next ≤ x) ∧ Mod [] h h' := by
  rw [outriderlaw08_own_11_eq]
  exact own_loop hs hl n L.length 0 n none 0 (.known 0) h (by omega) hn .nil (Mod.refl _ _)

end Go.Ev.Try
