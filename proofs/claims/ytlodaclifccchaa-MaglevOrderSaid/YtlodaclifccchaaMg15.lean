/- Chapter 08: the document's Order, Ring, Places. -/
import Derived.Test.YtlodaclifccchaaMg14
set_option linter.all false
namespace Go.Ev.Try
set_option maxRecDepth 10000
open Go.Proofs

abbrev iN (i : Nat) : AV := .int .i64 i

/-! ### Order -/

theorem nm_map (L : List Bk) : (List.range L.length).map (nm L) = L.map (·.1) := by
  apply List.ext_getElem?
  intro i
  rw [List.getElem?_map, List.getElem?_map]
  by_cases hi : i < L.length
  · have hk : L[i]? = some L[i] := List.getElem?_eq_getElem hi
    rw [List.getElem?_range hi, hk, Option.map_some, Option.map_some, nm_of hk]
  · rw [List.getElem?_eq_none (l := List.range L.length) (by simp; omega), List.getElem?_eq_none (l := L) (by omega)]; rfl
theorem filter_sorted {f : Nat → ByteArray} : ∀ {ys : List Nat} {r i : Nat}, (ys.Pairwise fun i j => sLt (f i) (f j) = true) → ys[r]? = some i → (ys.filter fun k => sLt (f k) (f i)).length = r
  | y :: ys, 0, i, h, hi => by
    simp at hi
    subst hi
    obtain ⟨h1, h2⟩ := List.pairwise_cons.1 h
    rw [List.filter_cons, if_neg (by rw [sLt_irrefl]; simp), List.filter_eq_nil_iff.2 fun k hk => by rw [sLt_asymm (h1 k hk)]; simp]
    rfl
  | y :: ys, r + 1, i, h, hi => by
    rw [List.getElem?_cons_succ] at hi
    obtain ⟨h1, h2⟩ := List.pairwise_cons.1 h
    rw [List.filter_cons, if_pos (h1 i (List.mem_of_getElem? hi)), List.length_cons, filter_sorted h2 hi]
def ahead (L : List Bk) (i : Nat) : Nat := (L.filter fun b => sLt b.1 (nm L i)).length
theorem ahead_eq {L : List Bk} {ys : List Nat} (hy : IsOrd L ys) {r i : Nat} (h : ys[r]? = some i) : ahead L i = r := by
  have h1 : ahead L i = ((L.map (·.1)).filter fun s => sLt s (nm L i)).length := by
    unfold ahead
    rw [List.filter_map, List.length_map]; rfl
  rw [h1, ← nm_map, List.filter_map, List.length_map, (hy.perm.symm.filter _).length_eq]
  exact filter_sorted hy.sorted h
theorem ahead_iff {L : List Bk} {ys : List Nat} (hy : IsOrd L ys) {n i j : Nat} (hn : ys[n]? = some j) (hi : i < L.length) : ahead L i = n ↔ i = j := by
  constructor
  · intro e
    obtain ⟨r, hr⟩ := List.getElem?_of_mem ((hy.mem i).2 hi)
    have := ahead_eq hy hr
    rw [e] at this
    subst this
    rw [hr] at hn
    exact Option.some.inj hn
  · rintro rfl
    exact ahead_eq hy hn

section
variable {a : H} {p : Option (Nat × Nat)} {c : Cap} {L : List Bk} {ys : List Nat}

theorem Order_L2 {h : H} (row : KRow h p L.length c L) (hl : L.length < 1000000) {i : Nat} (hi : i < L.length) {q : Option (Nat × Nat)} {ql : Nat} {qc : Cap} (n m1 m2 : Nat) (nn : Nat) : ∀ (d k m : Nat), k + d = L.length → d < m →
    outriderref08_Order_31_L2 n m1 m2 m p L.length c q ql qc nn i (((L.take k).filter fun b => sLt b.1 (nm L i)).length : Nat) k h =
      cond (((ahead L i : Nat) : Int) == (nn : Int)) (newK (.cells [(.int .i64 i)] false) h fun i9 h10 => appK 1 8 q ql qc (evSrc 1 (.slice (some (i9, 0)) 1 (.known 1)) h10) h10 fun p11 n12 c13 h14 => outriderref08_Order_31_L1 n m1 m2 p L.length c p11 n12 c13 nn (IntKind.i64.wrap ((i : Int) + 1)) h14) (outriderref08_Order_31_L1 n m1 m2 p L.length c q ql qc nn (IntKind.i64.wrap ((i : Int) + 1)) h)
  | 0, k, m + 1, hk, _ => by
    rw [outriderref08_Order_31_L2_eq, cast_not_lt (by omega), cond_false, List.take_of_length_le (by omega)]
    rfl
  | d + 1, k, m + 1, hk, hf => by
    have hx : L[k]? = some L[k] := List.getElem?_eq_getElem (by omega)
    have hxi : L[i]? = some L[i] := List.getElem?_eq_getElem hi
    have hfl : ((L.take k).filter fun b => sLt b.1 (nm L i)).length ≤ 1000000 := Nat.le_trans (List.length_filter_le _ _) (by simp; omega)
    have ih := Order_L2 row hl hi (q := q) (ql := ql) (qc := qc) n m1 m2 nn d (k + 1) m (by omega) (by omega)
    rw [outriderref08_Order_31_L2_eq, cast_lt (by omega), cond_true, Row.ix20 row encK_len hx (v := .str (L[k]).1) rfl]
    simp only [asStr_str]
    rw [Row.ix20 row encK_len hxi (v := .str (L[i]).1) rfl]
    simp only [asStr_str]
    rw [show Op.bytesLess (L[k]).1.toList (L[i]).1.toList = sLt (L[k]).1 (nm L i) by rw [nm_of hxi]; rfl]
    rw [List.take_add_one, hx, List.filter_append, List.length_append] at ih
    cases hs : sLt (L[k]).1 (nm L i) with
    | true =>
      rw [show ((some L[k]).toList.filter fun b : Bk => sLt b.1 (nm L i)) = [L[k]] by simp [hs]] at ih
      rw [cond_true, wrap_succ (by omega), wrap_succ (by omega)]
      exact ih
    | false =>
      rw [show ((some L[k]).toList.filter fun b : Bk => sLt b.1 (nm L i)) = [] by simp [hs]] at ih
      rw [cond_false, wrap_succ (by omega)]
      exact ih

theorem Order_L1 (row : KRow a p L.length c L) (hl : L.length ≤ 16) (hy : IsOrd L ys) {nn j : Nat} (hj : ys[nn]? = some j) {n : Nat} (hn : 100 ≤ n) {m1 : Nat} {Q : Option (Nat × Nat) × Nat × Cap → H → Prop}
    (k : ∀ q ql qc h, Grow a h 1 q ql qc ((ys.take (nn + 1)).map iN) → Mod [] a h → Ret (outriderref08_Order_31_L0 n m1 p L.length c q ql qc (IntKind.i64.wrap ((nn : Int) + 1)) h) Q) :
    ∀ (d i m : Nat) (q : Option (Nat × Nat)) (ql : Nat) (qc : Cap) (h : H), i + d = L.length → d < m → Grow a h 1 q ql qc ((ys.take nn ++ if j < i then [j] else []).map iN) → Mod [] a h → Ret (outriderref08_Order_31_L1 n m1 m p L.length c q ql qc nn i h) Q
  | 0, i, m + 1, q, ql, qc, h, hi, _, g, hm => by
    rw [outriderref08_Order_31_L1_eq, cast_not_lt (by omega), cond_false]
    have hjl := (hy.mem j).1 (List.mem_of_getElem? hj)
    rw [if_pos (by omega)] at g
    refine k q ql qc h ?_ hm
    rw [List.take_add_one, hj]
    exact g
  | d + 1, i, m + 1, q, ql, qc, h, hi, hf, g, hm => by
    have hlt : i < L.length := by omega
    have hnl := (List.getElem?_eq_some_iff.1 hj).1
    have hyl : ys.length = L.length := by rw [hy.perm.length_eq, List.length_range]
    have hql : ql ≤ 17 := by
      have := g.row.length
      simp only [Nat.mul_one] at this
      rw [← this]
      simp only [List.length_map, List.length_append, List.length_take]
      split <;> simp <;> omega
    rw [outriderref08_Order_31_L1_eq, cast_lt hlt, cond_true]
    have e2 := Order_L2 (Row.mod0 row hm) (by omega) hlt (q := q) (ql := ql) (qc := qc) n m1 m nn L.length 0 n (by omega) (by omega)
    simp only [List.take_zero, List.filter_nil, List.length_nil, Int.natCast_zero] at e2
    rw [e2]
    by_cases he : i = j
    · subst he
      rw [(ahead_iff hy hj hlt).2 rfl, show (((nn : Nat) : Int) == (nn : Int)) = true by simp, cond_true, newK_eq, wrap_succ (by omega)]
      rw [if_neg (by omega), List.append_nil] at g
      refine Grow.push (size := 1) (bytes := 8) g hm.next (xs := [.int .i64 i]) rfl rfl (by omega) (by omega) (by omega) fun p' c' h' g' m' => ?_
      refine Order_L1 row hl hy hj hn k d (i + 1) m p' (ql + 1) c' h' (by omega) (by omega) ?_ (hm.push g m')
      rw [if_pos (by omega), List.map_append]
      exact g'
    · rw [show (((ahead L i : Nat) : Int) == (nn : Int)) = false from beq_eq_false_iff_ne.2 fun e => he ((ahead_iff hy hj hlt).1 (by omega)), cond_false, wrap_succ (by omega)]
      refine Order_L1 row hl hy hj hn k d (i + 1) m q ql qc h (by omega) (by omega) ?_ hm
      rw [show (if j < i + 1 then [j] else []) = if j < i then [j] else [] by
        by_cases h1 : j < i
        · rw [if_pos h1, if_pos (by omega)]
        · rw [if_neg h1, if_neg (by omega)]]
      exact g

theorem Order_L0 (row : KRow a p L.length c L) (hl : L.length ≤ 16) (hy : IsOrd L ys) {n : Nat} (hn : 100 ≤ n) :
    ∀ (d i m : Nat) (q : Option (Nat × Nat)) (ql : Nat) (qc : Cap) (h : H), i + d = L.length → d < m → Grow a h 1 q ql qc ((ys.take i).map iN) → Mod [] a h →
      Ret (outriderref08_Order_31_L0 n m p L.length c q ql qc i h) fun z h' => Row h' 1 z.1 z.2.1 z.2.2 (ys.map iN) ∧ (∀ x ∈ own z.1, a.next ≤ x) ∧ Mod [] a h'
  | 0, i, m + 1, q, ql, qc, h, hi, _, g, hm => by
    have hyl : ys.length = L.length := by rw [hy.perm.length_eq, List.length_range]
    rw [outriderref08_Order_31_L0_eq, cast_not_lt (by omega), cond_false]
    rw [List.take_of_length_le (by omega)] at g
    exact .pure ⟨g.row, fun x hx => (g.own_ge x hx).1, hm⟩
  | d + 1, i, m + 1, q, ql, qc, h, hi, hf, g, hm => by
    have hyl : ys.length = L.length := by rw [hy.perm.length_eq, List.length_range]
    have hj : ys[i]? = some ys[i] := List.getElem?_eq_getElem (by omega)
    rw [outriderref08_Order_31_L0_eq, cast_lt (by omega), cond_true]
    refine Order_L1 row hl hy hj hn (fun q ql qc h' g' m' => ?_) L.length 0 n q ql qc h (by omega) (by omega) ?_ hm
    · rw [wrap_succ (by omega)]
      exact Order_L0 row hl hy hn d (i + 1) m q ql qc h' (by omega) (by omega) g' m'
    · rw [if_neg (by omega), List.append_nil]
      exact g

theorem Order_ret (row : KRow a p L.length c L) (hl : L.length ≤ 16) (hy : IsOrd L ys) {n : Nat} (hn : 100 ≤ n) :
    Ret (outriderref08_Order_31 n p L.length c a) fun z h' => Row h' 1 z.1 z.2.1 z.2.2 (ys.map iN) ∧ (∀ x ∈ own z.1, a.next ≤ x) ∧ Mod [] a h' := by
  rw [outriderref08_Order_31_eq]
  exact Order_L0 row hl hy hn L.length 0 n none 0 (.known 0) a (by omega) (by omega) .nil (Mod.refl _ _)

/-! ### Ring -/

theorem Ring_L0 (row : KRow a p L.length c L) (ho : okL L) (hy : IsOrd L ys) {op : Option (Nat × Nat)} {ol : Nat} {oc : Cap} (orow : Row a 1 op ol oc (ys.map iN)) {n : Nat} (hn : 5000 ≤ n) :
    ∀ (d i m : Nat) (q : Option (Nat × Nat)) (ql : Nat) (qc : Cap) (h : H), i + d = L.length → d < m → Grow a h 1 q ql qc ((ringOf L (ys.take i)).map i64) → Mod [] a h →
      Ret (outriderref08_Ring_20_L0 n m p L.length c q ql qc op ol oc i h) fun z h' => Row h' 1 z.1 z.2.1 z.2.2 ((ringOf L ys).map i64) ∧ Mod [] a h' := by
  intro d
  have hyl : ys.length = L.length := by rw [hy.perm.length_eq, List.length_range]
  have hol := orow.len1
  induction d with
  | zero =>
    intro i m q ql qc h hi hf g hm
    obtain ⟨m, rfl⟩ : ∃ m', m = m' + 1 := ⟨m - 1, by omega⟩
    rw [outriderref08_Ring_20_L0_eq, cast_not_lt (by omega), cond_false]
    rw [List.take_of_length_le (by omega)] at g
    exact .pure ⟨g.row, hm⟩
  | succ d ih =>
    intro i m q ql qc h hi hf g hm
    obtain ⟨m, rfl⟩ : ∃ m', m = m' + 1 := ⟨m - 1, by omega⟩
    have hj : ys[i]? = some ys[i] := List.getElem?_eq_getElem (by omega)
    generalize hye : ys[i] = j at hj
    have hjl := (hy.mem j).1 (List.mem_of_getElem? hj)
    have hk : L[j]? = some L[j] := List.getElem?_eq_getElem hjl
    have hw0 := wt_ge ho hjl
    have hw1 := wt_le ho j
    have hL := ho.2.1
    have hrl := ringOf_len (wt_le ho) (ys.take i)
    have hti : (ys.take i).length = i := by simp; omega
    rw [outriderref08_Ring_20_L0_eq, cast_lt (by omega), cond_true]
    -- the inner loop
    have inner : ∀ (d' k m' : Nat) (q : Option (Nat × Nat)) (ql : Nat) (qc : Cap) (h : H), k + d' = (wt L j).toNat → d' < m' → Grow a h 1 q ql qc ((ringOf L (ys.take i) ++ List.replicate k (j : Int)).map i64) → Mod [] a h →
        Ret (outriderref08_Ring_20_L1 n m m' p L.length c q ql qc op ol oc i k h) fun z h' => Row h' 1 z.1 z.2.1 z.2.2 ((ringOf L ys).map i64) ∧ Mod [] a h' := by
      intro d'
      induction d' with
      | zero =>
        intro k m' q ql qc h hk' hf' g hm
        obtain ⟨m', rfl⟩ : ∃ x, m' = x + 1 := ⟨m' - 1, by omega⟩
        rw [outriderref08_Ring_20_L1_eq, (Row.mod0 orow hm).ix1 hj, asInt_int, Row.ix2 (Row.mod0 row hm) encK_len hk 1 (v := .int .i64 (L[j]).2) rfl, asInt_int, ← wt_of hk, decide_eq_false (by omega), cond_false, wrap_succ (by omega)]
        refine ih (i + 1) m q ql qc h (by omega) (by omega) ?_ hm
        rw [List.take_add_one, hj]
        show Grow a h 1 q ql qc ((ringOf L (ys.take i ++ [j])).map i64)
        rw [ringOf_snoc, ← hk', Nat.add_zero]
        exact g
      | succ d' ih' =>
        intro k m' q ql qc h hk' hf' g hm
        obtain ⟨m', rfl⟩ : ∃ x, m' = x + 1 := ⟨m' - 1, by omega⟩
        have hql : ql ≤ 10000 := by
          have := g.row.length
          simp at this; omega
        rw [outriderref08_Ring_20_L1_eq, (Row.mod0 orow hm).ix1 hj, asInt_int, Row.ix2 (Row.mod0 row hm) encK_len hk 1 (v := .int .i64 (L[j]).2) rfl, asInt_int, ← wt_of hk, decide_eq_true (by omega), cond_true, (Row.mod0 orow hm).ix1 hj, asInt_int, newK_eq, wrap_succ (by omega)]
        refine Grow.push (size := 1) (bytes := 8) g hm.next (xs := [.int .i64 j]) rfl rfl (by omega) (by omega) (by omega) fun p' c' h' g' m'' => ?_
        refine ih' (k + 1) m' p' (ql + 1) c' h' (by omega) (by omega) ?_ (hm.push g m'')
        rw [List.replicate_succ', ← List.append_assoc, List.map_append]
        exact g'
    exact inner (wt L j).toNat 0 n q ql qc h (by omega) (by omega) (by simpa using g) hm

theorem Ring_ret (row : KRow a p L.length c L) (ho : okL L) (hy : IsOrd L ys) {n : Nat} (hn : 5000 ≤ n) :
    Ret (outriderref08_Ring_20 n p L.length c a) fun z h' => Row h' 1 z.1 z.2.1 z.2.2 ((ringOf L ys).map i64) ∧ Mod [] a h' := by
  have hL := ho.2.1
  rw [outriderref08_Ring_20_eq]
  refine (Order_ret row hL hy (n := n) (by omega)).bind fun z h' ⟨r, _, m⟩ => ?_
  simp only
  refine (Ring_L0 (Row.mod0 row m) ho hy r hn L.length 0 n none 0 (.known 0) h' (by omega) (by omega) .nil (Mod.refl _ _)).mono fun z h'' ⟨r', m'⟩ => ⟨r', m.trans m'⟩
end

end Go.Ev.Try
