/- What the functions of chapter 17 compute, in plain lists: groups, Address, Card, CardText. -/
import Derived.Test.YtkikfnpanlcajaaDoorWd2
set_option linter.all false
namespace Go.Ev.Tryd
set_option maxRecDepth 10000
open Go.Proofs

/-! ### groups -/

abbrev Sli := Option (Nat × Nat) × Nat × Cap
abbrev Grp := Option (Nat × Nat) × Nat × Cap × Bool
def byt (w : Nat) (v : Int) : List Int := if w = 1 then [IntKind.u8.wrap (ishr .i64 v 0)] else [IntKind.u8.wrap (ishr .i64 v 8), IntKind.u8.wrap (ishr .i64 v 0)]
/-- the bytes of all parts; none: one of them can't be read -/
def gout (rd : ByteArray → Int × Bool) (w : Nat) : List ByteArray → Option (List Int)
  | [] => some []
  | p :: ps => if (rd p).2 = true then (gout rd w ps).map (byt w (rd p).1 ++ ·) else none

abbrev u8s (l : List Int) : List AV := l.map (.int .u8)

theorem groups_gen {R : Nat → ByteArray → H → Option ((Int × Bool) × H)}
    {L0 : Nat → Nat → Int → Option (Nat × Nat) → Nat → Cap → Option (Nat × Nat) → Nat → Cap → Int → Int → H → Option (Grp × H)}
    {L1 : Nat → Nat → Nat → Int → Option (Nat × Nat) → Nat → Cap → Int → Int → Option (Nat × Nat) → Nat → Cap → Int → Int → H → Option (Grp × H)}
    (e0 : ∀ (n m1 : Nat) (a2 : Int) (a10_0 : Option (Nat × Nat)) (a10_1 : Nat) (a10_2 : Cap) (a18_0 : Option (Nat × Nat)) (a18_1 : Nat) (a18_2 : Cap) (a19 a20 : Int) (h : H), L0 n (m1 + 1) a2 a10_0 a10_1 a10_2 a18_0 a18_1 a18_2 a19 a20 h =
      cond (decide (a20 < a19)) (if 0 ≤ (a20 : Int) ∧ a20 < (Nat.cast (a18_1) : Int) then nnK a18_0 fun b2 o3 => cellK h b2 (o3 + a20.toNat) fun v4 => asStr v4 fun x5 => (R n x5 h).bind fun r6 => cond (!r6.1.2) (some ((none, 0, (.known 0), false), r6.2)) (L1 n m1 n a2 a10_0 a10_1 a10_2 r6.1.1 (IntKind.i64.wrap (a2 - 1)) a18_0 a18_1 a18_2 a19 a20 r6.2) else none) (some ((a10_0, a10_1, a10_2, true), h)))
    (e1 : ∀ (n m1 m2 : Nat) (a2 : Int) (a10_0 : Option (Nat × Nat)) (a10_1 : Nat) (a10_2 : Cap) (a13 a15 : Int) (a18_0 : Option (Nat × Nat)) (a18_1 : Nat) (a18_2 : Cap) (a19 a20 : Int) (h : H), L1 n m1 (m2 + 1) a2 a10_0 a10_1 a10_2 a13 a15 a18_0 a18_1 a18_2 a19 a20 h =
      cond (decide (a15 ≥ (0 : Int))) (if (IntKind.i64.wrap (8 * a15)) < 0 then none else newK (.cells [(.int .u8 (IntKind.u8.wrap (ishr .i64 a13 (IntKind.i64.wrap (8 * a15)))))] false) h fun i7 h8 => appK 1 1 a10_0 a10_1 a10_2 (evSrc 1 (.slice (some (i7, 0)) 1 (.known 1)) h8) h8 fun p9 n10 c11 h12 => L1 n m1 m2 a2 p9 n10 c11 a13 (IntKind.i64.wrap (a15 - 1)) a18_0 a18_1 a18_2 a19 a20 h12) (L0 n m1 a2 a10_0 a10_1 a10_2 a18_0 a18_1 a18_2 a19 (IntKind.i64.wrap (a20 + 1)) h))
    {rd : ByteArray → Int × Bool} {n : Nat} {ss : List ByteArray} (hR : ∀ s ∈ ss, ∀ h, Ret (R n s h) fun r h' => Mod [] h h' ∧ r = rd s) (hn : 10 ≤ n) {w : Nat} (hw : w = 1 ∨ w = 2)
    {a : H} {p : Option (Nat × Nat)} {c : Cap} (row : Row a 1 p ss.length c (ss.map AV.str)) (hmax : ss.length < 100000) {a0 : H} (ha0 : a0.next ≤ a.next) :
    ∀ (ts pre : List ByteArray) (m : Nat) (acc : List Int) (h : H) (q : Option (Nat × Nat)) (l : Nat) (d : Cap), ss = pre ++ ts → ts.length < m → acc.length ≤ 2 * pre.length → Mod [] a h → Grow a h 1 q l d (u8s acc) →
      Ret (L0 n m w q l d p ss.length c ss.length pre.length h) fun r h' => Mod [] a h' ∧ match gout rd w ts with | none => r.2.2.2 = false | some x => r.2.2.2 = true ∧ Grow a h' 1 r.1 r.2.1 r.2.2.1 (u8s (acc ++ x))
  | [], pre, m + 1, acc, h, q, l, d, hx, _, _, hm, g => by
    rw [e0, cast_not_lt (by rw [hx]; simp), cond_false]
    exact .pure ⟨hm, by simp only [gout]; exact ⟨trivial, by simpa using g⟩⟩
  | t :: ts, pre, m + 1, acc, h, q, l, d, hx, hl, hacc, hm, g => by
    have hpl : pre.length < ss.length := by rw [hx]; simp
    rw [e0, cast_lt hpl, cond_true, (row.mod0 hm).ix1 (x := t) (by rw [hx]; simp), asStr_str]
    refine (hR t (by rw [hx]; simp) h).bind ?_
    rintro _ h1 ⟨m1, rfl⟩
    dsimp only
    cases ht : (rd t).2 with
    | false =>
      rw [Bool.not_false, cond_true]
      refine .pure ⟨hm.trans m1, ?_⟩
      simp only [gout, ht, Bool.false_eq_true, if_false]
    | true =>
      rw [Bool.not_true, cond_false]
      obtain ⟨n', rfl⟩ : ∃ k, n = k + 1 + 1 + 1 := ⟨n - 3, by omega⟩
      have push : ∀ (m2 : Nat) (k : Nat) (acc : List Int) (h : H) (q : Option (Nat × Nat)) (l : Nat) (d : Cap) (Q : Grp → H → Prop), k ≤ 1 → acc.length ≤ 2 * pre.length + 1 → Mod [] a h → Grow a h 1 q l d (u8s acc) →
          (∀ (q' : Option (Nat × Nat)) (l' : Nat) (d' : Cap) (h' : H), Mod [] a h' → Grow a h' 1 q' l' d' (u8s (acc ++ [IntKind.u8.wrap (ishr .i64 (rd t).1 (8 * k : Nat))])) → Ret (L1 (n' + 1 + 1 + 1) m m2 w q' l' d' (rd t).1 (IntKind.i64.wrap ((k : Int) - 1)) p ss.length c ss.length pre.length h') Q) →
          Ret (L1 (n' + 1 + 1 + 1) m (m2 + 1) w q l d (rd t).1 k p ss.length c ss.length pre.length h) Q := by
        intro m2 k acc h q l d Q hk hacc hm g go
        have hgl := g.row.len1
        rw [e1, show decide (((k : Nat) : Int) ≥ 0) = true by simp, cond_true, show IntKind.i64.wrap (8 * (k : Int)) = ((8 * k : Nat) : Int) by rw [wrap_i64 (by omega) (by omega)]; omega, if_neg (by omega), newK_eq]
        refine g.push hm.next rfl rfl (by decide) (by omega) (by omega) fun q' d' h' g' m' => ?_
        exact go q' _ d' h' (hm.push g m') (by simpa [u8s] using g')
      have fin : ∀ (m2 : Nat) (acc' : List Int) (h : H) (q : Option (Nat × Nat)) (l : Nat) (d : Cap), acc' = acc ++ byt w (rd t).1 → Mod [] a h → Grow a h 1 q l d (u8s acc') →
          Ret (L1 (n' + 1 + 1 + 1) m (m2 + 1) w q l d (rd t).1 (IntKind.i64.wrap (((0 : Nat) : Int) - 1)) p ss.length c ss.length pre.length h) fun r h' => Mod [] a h' ∧ match gout rd w (t :: ts) with | none => r.2.2.2 = false | some x => r.2.2.2 = true ∧ Grow a h' 1 r.1 r.2.1 r.2.2.1 (u8s (acc ++ x)) := by
        intro m2 acc' h q l d hacc' hm g
        rw [e1, show IntKind.i64.wrap (((0 : Nat) : Int) - 1) = -1 by decide, show decide ((-1 : Int) ≥ 0) = false by decide, cond_false, wrap_succ (by omega), show pre.length + 1 = (pre ++ [t]).length by simp]
        have hb : (byt w (rd t).1).length ≤ 2 := by unfold byt; split <;> simp
        refine (groups_gen e0 e1 hR hn hw row hmax ha0 ts (pre ++ [t]) m acc' h q l d (by rw [hx]; simp) (by simp at hl; omega) (by rw [hacc']; simp; omega) hm g).mono fun r h' ⟨q1, q2⟩ => ⟨q1, ?_⟩
        simp only [gout, ht, if_true]
        cases hgo : gout rd w ts with
        | none => rw [hgo] at q2; exact q2
        | some x =>
          rw [hgo] at q2
          refine ⟨q2.1, ?_⟩
          have := q2.2
          rw [hacc', List.append_assoc] at this
          exact this
      rcases hw with rfl | rfl
      · rw [show IntKind.i64.wrap (((1 : Nat) : Int) - 1) = ((0 : Nat) : Int) by decide]
        refine push _ 0 acc h1 q l d _ (by omega) (by omega) (hm.trans m1) (g.mod0 m1) fun q' l' d' h' m' g' => ?_
        exact fin _ _ h' q' l' d' rfl m' g'
      · rw [show IntKind.i64.wrap (((2 : Nat) : Int) - 1) = ((1 : Nat) : Int) by decide]
        refine push _ 1 acc h1 q l d _ (by omega) (by omega) (hm.trans m1) (g.mod0 m1) fun q' l' d' h' m' g' => ?_
        rw [show IntKind.i64.wrap (((1 : Nat) : Int) - 1) = ((0 : Nat) : Int) by decide]
        refine push _ 0 _ h' q' l' d' _ (by omega) (by simp; omega) m' g' fun q2 l2 d2 h2 m2 g2 => ?_
        exact fin _ _ h2 q2 l2 d2 (by rw [List.append_assoc]; rfl) m2 g2

def rd10 (s : ByteArray) : Int × Bool := if (numP (bs s)).2 = true then ((numP (bs s)).1, decide ((numP (bs s)).1 ≤ 255)) else ((numP (bs s)).1, false)

theorem read10 (s : ByteArray) {n : Nat} (hn : 20 ≤ n) (h : H) : Ret (words_Address_1_25 n s h) fun r h' => Mod [] h h' ∧ r = rd10 s := by
  rw [words_Address_1_25_eq]
  refine (Number_ret s hn h).bind ?_
  rintro _ h1 ⟨m1, rfl⟩
  dsimp only
  unfold rd10
  cases hn : (numP (bs s)).2 with
  | true => rw [cond_true]; exact .pure ⟨m1, by simp⟩
  | false => rw [cond_false]; exact .pure ⟨m1, by simp⟩
theorem read16 (s : ByteArray) {n : Nat} (hn : s.size < n) (h : H) : Ret (words_Address_2_26 n s h) fun r h' => Mod [] h h' ∧ r = hexR 1 4 s := by
  rw [words_Address_2_26_eq]
  refine (hex_ret s 1 4 hn h).bind ?_
  rintro _ h1 ⟨m1, rfl⟩
  exact .pure ⟨m1, rfl⟩
theorem read2 (s : ByteArray) {n : Nat} (hn : s.size < n) (h : H) : Ret (words_Card_1_30 n s h) fun r h' => Mod [] h h' ∧ r = hexR 2 2 s := by
  rw [words_Card_1_30_eq]
  refine (hex_ret s 2 2 hn h).bind ?_
  rintro _ h1 ⟨m1, rfl⟩
  exact .pure ⟨m1, rfl⟩

def partsB (c : UInt8) (s : ByteArray) : List ByteArray := (parts c (bs s)).map mk

theorem parts_size {c : UInt8} : ∀ {l p : List UInt8}, p ∈ parts c l → p.length ≤ l.length
  | [], p, h => by simp [parts] at h; subst h; simp
  | b :: l, p, h => by
    unfold parts at h
    split at h
    · rcases List.mem_cons.1 h with rfl | h
      · simp
      · have := parts_size h; simp; omega
    · split at h
      · rename_i q qs hq
        rcases List.mem_cons.1 h with rfl | h
        · have := parts_size (c := c) (l := l) (p := q) (by rw [hq]; simp)
          simp; omega
        · have := parts_size (c := c) (l := l) (p := p) (by rw [hq]; simp [h])
          simp; omega
      · simp at h; subst h; simp

def GrpOk (a h' : H) (r : Grp) : Option (List Int) → Prop
  | none => r.2.2.2 = false
  | some x => r.2.2.2 = true ∧ Grow a h' 1 r.1 r.2.1 r.2.2.1 (u8s x)

theorem groups10 {s : ByteArray} (hs : s.size < 90000) (c : UInt8) {n : Nat} (hn : s.size + 50 ≤ n) (h : H) : Ret (words_groups_24_f25 n s (mk [c]) 1 h) fun r h' => Mod [] h h' ∧ GrpOk h h' r (gout rd10 1 (partsB c s)) := by
  rw [words_groups_24_f25_eq]
  refine (Split_ret hs c (by omega) h).bind ?_
  rintro ⟨p, l, d⟩ h1 ⟨m1, hl, row⟩
  simp only at hl row
  subst hl
  dsimp only
  have hlen : (partsB c s).length = (parts c (bs s)).length := by simp [partsB]
  have hle : (parts c (bs s)).length ≤ s.size + 1 := by rw [parts_len, ← bs_len]; have := List.count_le_length (a := c) (l := bs s); omega
  rw [← hlen] at row ⊢
  refine (groups_gen (L0 := words_groups_24_f25_L0) (L1 := words_groups_24_f25_L1) (R := words_Address_1_25) words_groups_24_f25_L0_eq words_groups_24_f25_L1_eq (rd := rd10) (ss := partsB c s) (fun s _ h => read10 s (by omega) h) (by omega) (w := 1) (.inl rfl) row (by omega) (Nat.le_refl h1.next) (partsB c s) [] n [] h1 none 0 (.known 0) rfl (by omega) (by simp) (.refl _ _) .nil).mono fun r h' ⟨q1, q2⟩ => ⟨m1.trans q1, ?_⟩
  cases hg : gout rd10 1 (partsB c s) with
  | none => rw [hg] at q2; exact q2
  | some x => rw [hg] at q2; exact ⟨q2.1, q2.2.base m1.next⟩
theorem groups16 {s : ByteArray} (hs : s.size < 90000) (c : UInt8) {n : Nat} (hn : s.size + 50 ≤ n) (h : H) : Ret (words_groups_24_f26 n s (mk [c]) 2 h) fun r h' => Mod [] h h' ∧ GrpOk h h' r (gout (hexR 1 4) 2 (partsB c s)) := by
  rw [words_groups_24_f26_eq]
  refine (Split_ret hs c (by omega) h).bind ?_
  rintro ⟨p, l, d⟩ h1 ⟨m1, hl, row⟩
  simp only at hl row
  subst hl
  dsimp only
  have hlen : (partsB c s).length = (parts c (bs s)).length := by simp [partsB]
  have hle : (parts c (bs s)).length ≤ s.size + 1 := by rw [parts_len, ← bs_len]; have := List.count_le_length (a := c) (l := bs s); omega
  rw [← hlen] at row ⊢
  refine (groups_gen (L0 := words_groups_24_f26_L0) (L1 := words_groups_24_f26_L1) (R := words_Address_2_26) words_groups_24_f26_L0_eq words_groups_24_f26_L1_eq (rd := hexR 1 4) (ss := partsB c s) (fun t ht h => read16 t (by
    obtain ⟨q, hq, rfl⟩ := List.mem_map.1 ht
    have := parts_size hq; rw [bs_len] at this; rw [size_mk]; omega) h) (by omega) (w := 2) (.inr rfl) row (by omega) (Nat.le_refl h1.next) (partsB c s) [] n [] h1 none 0 (.known 0) rfl (by omega) (by simp) (.refl _ _) .nil).mono fun r h' ⟨q1, q2⟩ => ⟨m1.trans q1, ?_⟩
  cases hg : gout (hexR 1 4) 2 (partsB c s) with
  | none => rw [hg] at q2; exact q2
  | some x => rw [hg] at q2; exact ⟨q2.1, q2.2.base m1.next⟩
theorem groups2 {s : ByteArray} (hs : s.size < 90000) (c : UInt8) {n : Nat} (hn : s.size + 50 ≤ n) (h : H) : Ret (words_groups_24_f30 n s (mk [c]) 1 h) fun r h' => Mod [] h h' ∧ GrpOk h h' r (gout (hexR 2 2) 1 (partsB c s)) := by
  rw [words_groups_24_f30_eq]
  refine (Split_ret hs c (by omega) h).bind ?_
  rintro ⟨p, l, d⟩ h1 ⟨m1, hl, row⟩
  simp only at hl row
  subst hl
  dsimp only
  have hlen : (partsB c s).length = (parts c (bs s)).length := by simp [partsB]
  have hle : (parts c (bs s)).length ≤ s.size + 1 := by rw [parts_len, ← bs_len]; have := List.count_le_length (a := c) (l := bs s); omega
  rw [← hlen] at row ⊢
  refine (groups_gen (L0 := words_groups_24_f30_L0) (L1 := words_groups_24_f30_L1) (R := words_Card_1_30) words_groups_24_f30_L0_eq words_groups_24_f30_L1_eq (rd := hexR 2 2) (ss := partsB c s) (fun t ht h => read2 t (by
    obtain ⟨q, hq, rfl⟩ := List.mem_map.1 ht
    have := parts_size hq; rw [bs_len] at this; rw [size_mk]; omega) h) (by omega) (w := 1) (.inl rfl) row (by omega) (Nat.le_refl h1.next) (partsB c s) [] n [] h1 none 0 (.known 0) rfl (by omega) (by simp) (.refl _ _) .nil).mono fun r h' ⟨q1, q2⟩ => ⟨m1.trans q1, ?_⟩
  cases hg : gout (hexR 2 2) 1 (partsB c s) with
  | none => rw [hg] at q2; exact q2
  | some x => rw [hg] at q2; exact ⟨q2.1, q2.2.base m1.next⟩

end Go.Ev.Tryd
