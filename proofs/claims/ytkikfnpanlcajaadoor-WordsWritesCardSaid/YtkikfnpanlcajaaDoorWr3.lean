/- What the functions of chapter 17 compute, in plain lists: groups, Address, Card, CardText. -/
import Derived.Test.YtkikfnpanlcajaaDoorWr2
import Derived.KernelRfl
set_option linter.all false
namespace Go.Ev.Tryd
set_option maxRecDepth 10000
open Go.Proofs

/-! ### groups -/

abbrev Sli := Option (Nat × Nat) × Nat × Cap
abbrev Grp := Option (Nat × Nat) × Nat × Cap × Bool
def byt (w : Nat) (v : Int) : List Int := if w = 1 then [IntKind.u8.wrap (ishr .i64 v 0)] else [IntKind.u8.wrap (ishr .i64 v 8), IntKind.u8.wrap (ishr .i64 v 0)]
/-- the bytes of all parts; none: one of them can't be read -/
def gout (rd : ByteArray → Int × Bool) (w : Nat) : List ByteArray → Option (List Int)
  | [] => some []
  | p :: ps => if (rd p).2 = true then (gout rd w ps).map (byt w (rd p).1 ++ ·) else none

abbrev u8s (l : List Int) : List AV := l.map (.int .u8)

theorem groups_gen {f : Nat} (hcr : ∀ (x : Int) (b : Bool) (k : AV → R), crF T f (.tup [.int .i64 x, .bool b]) k = k (.tup [.int .i64 x, .bool b]))
    {rd : ByteArray → Int × Bool} {n : Nat} {ss : List ByteArray} (hR : ∀ s ∈ ss, ∀ h, Ret (ca n f [.str s] h) fun r h' => Mod [] h h' ∧ r = enIB (rd s)) (hn : 10 ≤ n) {w : Nat} (hw : w = 1 ∨ w = 2)
    {a : H} {p : Option (Nat × Nat)} {c : Cap} (row : Row a 1 p ss.length c (ss.map AV.str)) (hmax : ss.length < 100000) :
    ∀ (ts pre : List ByteArray) (m : Nat) (acc : List Int) (h : H) (q : Option (Nat × Nat)) (l : Nat) (d : Cap), ss = pre ++ ts → ts.length < m → acc.length ≤ 2 * pre.length → Mod [] a h → Grow a h 1 q l d (u8s acc) →
      Ret (words_groups_L0 n m w (.func f [] []) q l d p ss.length c ss.length pre.length h) fun r h' => Mod [] a h' ∧ match gout rd w ts with | none => ∃ q l d, r = .tup [.slice q l d, .bool false] | some x => ∃ q l d, r = .tup [.slice q l d, .bool true] ∧ Grow a h' 1 q l d (u8s (acc ++ x))
  | [], pre, m + 1, acc, h, q, l, d, hx, _, _, hm, g => by
    rw [words_groups_L0_eq, cast_not_lt (by rw [hx]; simp), cond_false]
    exact .pure ⟨hm, by simp only [gout]; exact ⟨q, l, d, rfl, by simpa using g⟩⟩
  | t :: ts, pre, m + 1, acc, h, q, l, d, hx, hl, hacc, hm, g => by
    have hpl : pre.length < ss.length := by rw [hx]; simp
    rw [words_groups_L0_eq, cast_lt hpl, cond_true, (row.mod0 hm).ix1 (x := t) (by rw [hx]; simp), asStr_str, asFn_of, List.nil_append, List.append_nil]
    refine (hR t (by rw [hx]; simp) h).bind ?_
    rintro _ h1 ⟨m1, rfl⟩
    dsimp only [enIB]
    rw [hcr, extK_of rfl, asInt_int, extK_of rfl, asBool_bool]
    cases ht : (rd t).2 with
    | false =>
      rw [Bool.not_false, cond_true]
      refine .pure ⟨hm.trans m1, ?_⟩
      simp only [gout, ht, Bool.false_eq_true, if_false]
      exact ⟨_, _, _, rfl⟩
    | true =>
      rw [Bool.not_true, cond_false]
      obtain ⟨n', rfl⟩ : ∃ k, n = k + 1 + 1 + 1 := ⟨n - 3, by omega⟩
      have push : ∀ (m2 : Nat) (k : Nat) (acc : List Int) (h : H) (q : Option (Nat × Nat)) (l : Nat) (d : Cap) (Q : AV → H → Prop), k ≤ 1 → acc.length ≤ 2 * pre.length + 1 → Mod [] a h → Grow a h 1 q l d (u8s acc) →
          (∀ (q' : Option (Nat × Nat)) (l' : Nat) (d' : Cap) (h' : H), Mod [] a h' → Grow a h' 1 q' l' d' (u8s (acc ++ [IntKind.u8.wrap (ishr .i64 (rd t).1 (8 * k : Nat))])) → Ret (words_groups_L1 (n' + 1 + 1 + 1) m m2 w (.func f [] []) q' l' d' (rd t).1 (IntKind.i64.wrap ((k : Int) - 1)) p ss.length c ss.length pre.length h') Q) →
          Ret (words_groups_L1 (n' + 1 + 1 + 1) m (m2 + 1) w (.func f [] []) q l d (rd t).1 k p ss.length c ss.length pre.length h) Q := by
        intro m2 k acc h q l d Q hk hacc hm g go
        have hgl := g.row.len1
        rw [words_groups_L1_eq, show decide (((k : Nat) : Int) ≥ 0) = true by simp, cond_true, show IntKind.i64.wrap (8 * (k : Int)) = ((8 * k : Nat) : Int) by rw [wrap_i64 (by omega) (by omega)]; omega, if_neg (by omega), newK_eq]
        refine g.push hm.next rfl rfl (by decide) (by omega) (by omega) fun q' d' h' g' m' => ?_
        exact go q' _ d' h' (hm.push g m') (by simpa [u8s] using g')
      have fin : ∀ (m2 : Nat) (acc' : List Int) (h : H) (q : Option (Nat × Nat)) (l : Nat) (d : Cap), acc' = acc ++ byt w (rd t).1 → Mod [] a h → Grow a h 1 q l d (u8s acc') →
          Ret (words_groups_L1 (n' + 1 + 1 + 1) m (m2 + 1) w (.func f [] []) q l d (rd t).1 (IntKind.i64.wrap (((0 : Nat) : Int) - 1)) p ss.length c ss.length pre.length h) fun r h' => Mod [] a h' ∧ match gout rd w (t :: ts) with | none => ∃ q l d, r = .tup [.slice q l d, .bool false] | some x => ∃ q l d, r = .tup [.slice q l d, .bool true] ∧ Grow a h' 1 q l d (u8s (acc ++ x)) := by
        intro m2 acc' h q l d hacc' hm g
        rw [words_groups_L1_eq, show IntKind.i64.wrap (((0 : Nat) : Int) - 1) = -1 by decide, show decide ((-1 : Int) ≥ 0) = false by decide, cond_false, wrap_succ (by omega), show pre.length + 1 = (pre ++ [t]).length by simp]
        have hb : (byt w (rd t).1).length ≤ 2 := by unfold byt; split <;> simp
        refine (groups_gen hcr hR hn hw row hmax ts (pre ++ [t]) m acc' h q l d (by rw [hx]; simp) (by simp at hl; omega) (by rw [hacc']; simp; omega) hm g).mono fun r h' ⟨q1, q2⟩ => ⟨q1, ?_⟩
        simp only [gout, ht, if_true]
        cases hgo : gout rd w ts with
        | none => rw [hgo] at q2; exact q2
        | some x =>
          rw [hgo] at q2
          obtain ⟨q', l', d', e, q2⟩ := q2
          refine ⟨q', l', d', e, ?_⟩
          rw [hacc', List.append_assoc] at q2
          exact q2
      rcases hw with rfl | rfl
      · rw [show IntKind.i64.wrap (((1 : Nat) : Int) - 1) = ((0 : Nat) : Int) by decide]
        refine push _ 0 acc h1 q l d _ (by omega) (by omega) (hm.trans m1) (g.mod0 m1) fun q' l' d' h' m' g' => ?_
        exact fin _ _ h' q' l' d' rfl m' g'
      · rw [show IntKind.i64.wrap (((2 : Nat) : Int) - 1) = ((1 : Nat) : Int) by decide]
        refine push _ 1 acc h1 q l d _ (by omega) (by omega) (hm.trans m1) (g.mod0 m1) fun q' l' d' h' m' g' => ?_
        rw [show IntKind.i64.wrap (((1 : Nat) : Int) - 1) = ((0 : Nat) : Int) by decide]
        refine push _ 0 _ h' q' l' d' _ (by omega) (by simp; omega) m' g' fun q2 l2 d2 h2 m2 g2 => ?_
        exact fin _ _ h2 q2 l2 d2 (by rw [List.append_assoc]; rfl) m2 g2

def rd10 (s : ByteArray) : Int × Bool := if (numP (bs s)).2 = true then ((numP (bs s)).1, decide ((numP (bs s)).1 ≤ 255)) else ((numP (bs s)).1, false)

theorem read10 (s : ByteArray) {n : Nat} (hn : 21 ≤ n) (h : H) : Ret (ca n i_words_Address_1 [.str s] h) fun r h' => Mod [] h h' ∧ r = enIB (rd10 s) := by
  obtain ⟨n, rfl⟩ : ∃ m, n = m + 1 := ⟨n - 1, by omega⟩
  rw [words_Address_1_eq]
  refine (Number_ret s (by omega) h).bind ?_
  rintro _ h1 ⟨m1, rfl⟩
  simp only [enIB, asTup_tup, lI_of, lB_of, l0_nil]
  unfold rd10
  cases hn : (numP (bs s)).2 with
  | true => rw [cond_true]; exact .pure ⟨m1, by simp⟩
  | false => rw [cond_false]; exact .pure ⟨m1, by simp⟩
theorem read16 (s : ByteArray) {n : Nat} (hn : s.size + 2 < n) (h : H) : Ret (ca n i_words_Address_2 [.str s] h) fun r h' => Mod [] h h' ∧ r = enIB (hexR 1 4 s) := by
  obtain ⟨n, rfl⟩ : ∃ m, n = m + 1 := ⟨n - 1, by omega⟩
  rw [words_Address_2_eq]
  refine (hex_ret s 1 4 (by omega) h).bind ?_
  rintro _ h1 ⟨m1, rfl⟩
  simp only [enIB, asTup_tup, lI_of, lB_of, l0_nil]
  exact .pure ⟨m1, rfl⟩
theorem read2 (s : ByteArray) {n : Nat} (hn : s.size + 2 < n) (h : H) : Ret (ca n i_words_Card_1 [.str s] h) fun r h' => Mod [] h h' ∧ r = enIB (hexR 2 2 s) := by
  obtain ⟨n, rfl⟩ : ∃ m, n = m + 1 := ⟨n - 1, by omega⟩
  rw [words_Card_1_eq]
  refine (hex_ret s 2 2 (by omega) h).bind ?_
  rintro _ h1 ⟨m1, rfl⟩
  simp only [enIB, asTup_tup, lI_of, lB_of, l0_nil]
  exact .pure ⟨m1, rfl⟩

def partsB (c : UInt8) (s : ByteArray) : List ByteArray := (parts c (bs s)).map mk

theorem parts_size {c : UInt8} : ∀ {l p : List UInt8}, p ∈ parts c l → p.length ≤ l.length
  | [], p, h => by simp [parts] at h; subst h; simp
  | b :: l, p, h => by
    unfold parts at h
    split at h
    · rcases List.mem_cons.1 h with rfl | h
      · simp
      · have := parts_size h; simp; omega
    · split at h
      · rename_i q qs hq
        rcases List.mem_cons.1 h with rfl | h
        · have := parts_size (c := c) (l := l) (p := q) (by rw [hq]; simp)
          simp; omega
        · have := parts_size (c := c) (l := l) (p := p) (by rw [hq]; simp [h])
          simp; omega
      · simp at h; subst h; simp

def GrpOk (a h' : H) (r : AV) : Option (List Int) → Prop
  | none => ∃ q l d, r = .tup [.slice q l d, .bool false]
  | some x => ∃ q l d, r = .tup [.slice q l d, .bool true] ∧ Grow a h' 1 q l d (u8s x)

theorem groups_ret {f : Nat} (hcr : ∀ (x : Int) (b : Bool) (k : AV → R), crF T f (.tup [.int .i64 x, .bool b]) k = k (.tup [.int .i64 x, .bool b])) {rd : ByteArray → Int × Bool} {s : ByteArray} (hs : s.size < 90000) (c : UInt8) {w : Nat} (hw : w = 1 ∨ w = 2)
    (hR : ∀ t : ByteArray, t.size ≤ s.size → ∀ (n : Nat) (h : H), s.size + 59 ≤ n → Ret (ca n f [.str t] h) fun r h' => Mod [] h h' ∧ r = enIB (rd t)) {n : Nat} (hn : s.size + 60 ≤ n) (h : H) :
    Ret (ca n i_words_groups [.str s, .str (mk [c]), .int .i64 w, .func f [] []] h) fun r h' => Mod [] h h' ∧ GrpOk h h' r (gout rd w (partsB c s)) := by
  obtain ⟨n, rfl⟩ : ∃ m, n = m + 1 := ⟨n - 1, by omega⟩
  rw [words_groups_eq]
  refine (Split_ret hs c (by omega) h).bind ?_
  rintro _ h1 ⟨m1, p, d, rfl, row⟩
  simp only [asSlice_slice]
  have hlen : (partsB c s).length = (parts c (bs s)).length := by simp [partsB]
  have hle : (parts c (bs s)).length ≤ s.size + 1 := by rw [parts_len, ← bs_len]; have := List.count_le_length (a := c) (l := bs s); omega
  rw [← hlen] at row ⊢
  refine (groups_gen hcr (rd := rd) (ss := partsB c s) (fun t ht h => hR t (by
    obtain ⟨q, hq, rfl⟩ := List.mem_map.1 ht
    have := parts_size hq; rw [bs_len] at this; rw [size_mk]; omega) n h (by omega)) (by omega) hw row (by omega) (partsB c s) [] n [] h1 none 0 (.known 0) rfl (by omega) (by simp) (.refl _ _) .nil).mono fun r h' ⟨q1, q2⟩ => ⟨m1.trans q1, ?_⟩
  cases hg : gout rd w (partsB c s) with
  | none => rw [hg] at q2; exact q2
  | some x => rw [hg] at q2; obtain ⟨q, l, d, e, q2⟩ := q2; exact ⟨q, l, d, e, q2.base m1.next⟩
theorem groups10 {s : ByteArray} (hs : s.size < 90000) (c : UInt8) {n : Nat} (hn : s.size + 60 ≤ n) (h : H) : Ret (ca n i_words_groups [.str s, .str (mk [c]), .int .i64 1, .func i_words_Address_1 [] []] h) fun r h' => Mod [] h h' ∧ GrpOk h h' r (gout rd10 1 (partsB c s)) :=
  groups_ret (f := i_words_Address_1) (by intro x b k; kernel_rfl) (rd := rd10) hs c (w := 1) (.inl rfl) (fun t ht n h hn => read10 t (by omega) h) hn h
theorem groups16 {s : ByteArray} (hs : s.size < 90000) (c : UInt8) {n : Nat} (hn : s.size + 60 ≤ n) (h : H) : Ret (ca n i_words_groups [.str s, .str (mk [c]), .int .i64 2, .func i_words_Address_2 [] []] h) fun r h' => Mod [] h h' ∧ GrpOk h h' r (gout (hexR 1 4) 2 (partsB c s)) :=
  groups_ret (f := i_words_Address_2) (by intro x b k; kernel_rfl) (rd := (hexR 1 4)) hs c (w := 2) (.inr rfl) (fun t ht n h hn => read16 t (by omega) h) hn h
theorem groups2 {s : ByteArray} (hs : s.size < 90000) (c : UInt8) {n : Nat} (hn : s.size + 60 ≤ n) (h : H) : Ret (ca n i_words_groups [.str s, .str (mk [c]), .int .i64 1, .func i_words_Card_1 [] []] h) fun r h' => Mod [] h h' ∧ GrpOk h h' r (gout (hexR 2 2) 1 (partsB c s)) :=
  groups_ret (f := i_words_Card_1) (by intro x b k; kernel_rfl) (rd := (hexR 2 2)) hs c (w := 1) (.inl rfl) (fun t ht n h hn => read2 t (by omega) h) hn h

end Go.Ev.Tryd
