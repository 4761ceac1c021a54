/- Chapter 08: the law MaglevFills in plain Lean. -/
import Derived.Test.YtlodaclifccchaaMg16
set_option linter.all false
namespace Go.Ev.Try
set_option maxRecDepth 10000
open Go.Proofs

section
variable {a : H} {tb kb : Nat} {L : List Bk} {P R : List Int} {p np q : Option (Nat × Nat)} {c nc qc kc : Cap} {nl : Nat}

theorem fills_L2 (T : Tab a tb L P R) (hl : L.length ≤ 16) (row : KRow a p L.length c L) (nrow : Row a 1 np nl nc ((L.map (·.1)).map AV.str)) {n : Nat} (hn : 5000 ≤ n) (hkb : kb < a.next) (gg : a.get kb = some (.cells ((got L.length P).map i64) false)) : ∀ (d i m : Nat), i + d = L.length → d < m →
    Ret (outriderlaw08_MaglevFills_8_L2 n m p L.length c (some (tb, 0)) np nl nc (some (kb, 0)) L.length kc L.length i a) TT
  | 0, i, m + 1, hi, _ => by
    rw [outriderlaw08_MaglevFills_8_L2_eq, cast_not_lt (by omega), cond_false]
    exact alive_TT a hn
  | d + 1, i, m + 1, hi, hf => by
    have hlt : i < L.length := by omega
    have ht : L[i]? = some L[i] := List.getElem?_eq_getElem hlt
    have htn : (L.map (·.1))[i]? = some (L[i]).1 := by rw [List.getElem?_map, ht]; rfl
    rw [outriderlaw08_MaglevFills_8_L2_eq, cast_lt hlt, cond_true, if_pos ⟨by omega, by omega⟩]
    simp only [nnK_some', Nat.zero_add]
    rw [cellK_of (o := (i : Int).toNat) gg (by rw [Int.toNat_natCast, List.getElem?_map, got_get _ hlt]; rfl), asInt_int, T.count (i : Int) (n := n) (by omega), Option.bind_some]
    simp only
    rw [show ((((P.count (i : Int) : Nat) : Int)) != ((P.count (i : Int) : Nat) : Int)) = false by simp, cond_false, nrow.ix1 htn]
    simp only [asStr_str]
    rw [Row.ix20 row encK_len ht (v := .str (L[i]).1) rfl]
    simp only [asStr_str]
    rw [str_eq, decide_eq_true rfl, Bool.not_true, outriderlaw08_MaglevFills_8_J3_eq, cond_false, wrap_succ (by omega)]
    exact fills_L2 T hl row nrow hn hkb gg d (i + 1) m (by omega) (by omega)

theorem fills_L1 (T : Tab a tb L P R) (hP : P.length = 251) (hmem : ∀ x ∈ P, ∃ i, i < L.length ∧ x = ((i : Nat) : Int)) (hl : L.length ≤ 16) (row : KRow a p L.length c L) (prow : Row a 1 q 251 qc (P.map i64)) {n : Nat} (hn : 5000 ≤ n) (hkb : a.next ≤ kb) :
    ∀ (d i m : Nat) (h : H), i + d = 251 → d < m → Mod [] a h → kb < h.next → h.get kb = some (.cells ((got L.length (P.take i)).map i64) false) →
    Ret (outriderlaw08_MaglevFills_8_L1 n m p L.length c (some (tb, 0)) (some (kb, 0)) L.length kc q 251 qc 251 i h) TT
  | 0, i, m + 1, h, hi, _, hm, lkb, gg => by
    rw [outriderlaw08_MaglevFills_8_L1_eq, decide_eq_false (by omega), cond_false]
    rw [List.take_of_length_le (by omega)] at gg
    refine ((T.mod0 hm).names (by omega) (n := n) (by omega)).bind fun z h' ⟨nr, m'⟩ => ?_
    simp only
    exact fills_L2 ((T.mod0 hm).mod0 m') hl (Row.mod0 (Row.mod0 row hm) m') nr hn (m'.lt lkb) ((m'.get _ lkb (by simp)).trans gg) L.length 0 n (by omega) (by omega)
  | d + 1, i, m + 1, h, hi, hf, hm, lkb, gg => by
    have hx : P[i]? = some P[i] := List.getElem?_eq_getElem (by omega)
    obtain ⟨k, hk, hxk⟩ := hmem _ (List.getElem_mem (show i < P.length by omega))
    rw [hxk] at hx
    have hcl : (P.take i).count (k : Int) ≤ 251 := Nat.le_trans List.count_le_length (by simp; omega)
    rw [outriderlaw08_MaglevFills_8_L1_eq, decide_eq_true (by omega), cond_true, (Row.mod0 prow hm).ix1 hx, asInt_int, (T.mod0 hm).at' hx n, Option.bind_some]
    simp only
    rw [show (((k : Nat) : Int) != (k : Int)) = false by simp, cond_false, if_pos ⟨by omega, by omega⟩]
    simp only [nnK_some', Nat.zero_add]
    rw [Int.toNat_natCast, cellK_of (o := k) gg (by rw [List.getElem?_map, got_get _ hk]; rfl), asInt_int, if_pos ⟨by omega, by omega⟩, wrK_one (o := k) gg (by rw [List.length_map, got_len]; exact hk) rfl, wrap_i64 (x := (((P.take i).count (k : Int) : Nat) : Int) + 1) (by omega) (by omega), wrap_succ (by omega)]
    refine fills_L1 T hP hmem hl row prow hn hkb d (i + 1) m _ (by omega) (by omega) (hm.set (.inl hkb) _) lkb ?_
    rw [get_set_self, List.take_add_one, hx]
    show _ = some (AObj.cells ((got L.length (P.take i ++ [(k : Int)])).map i64) false)
    rw [got_snoc _ hk, List.map_set]
end

section
variable {c0 : List AV} {p : Option (Nat × Nat)} {l : Nat} {c : Cap} {tg : Option Tgt} {cs : List AV}

theorem maglevFills_true (w0 : Fits ks16 c0) (w1 : Arg 0 [.str, .int .i64] 24 p l c cs) : ∃ n h', outriderlaw08_MaglevFills_8 n c0 p l c (H0 [(tg, cs)]) = some (true, h') := by
  obtain ⟨key, rfl, hk2, hk⟩ := key_of w0
  obtain ⟨L, rfl, hlb, row⟩ := open_bks (rows := [(tg, cs)]) rfl w1
  refine ⟨6000 + L.length, law_true (Q := fun _ => True) ?_⟩
  have hn : 5000 ≤ 6000 + L.length := by omega
  have hn2 : L.length < 6000 + L.length := by omega
  generalize 6000 + L.length = n at hn hn2 ⊢
  generalize H0 [(tg, cs)] = h0 at *
  rw [outriderlaw08_MaglevFills_8_eq, newK_eq]
  have m0 : Mod [] h0 (h0.new (.cells (u8s key) false)) := (Mod.refl _ _).new _
  have g0 := get_new_self h0 (.cells (u8s key) false)
  have n0 : (h0.new (.cells (u8s key) false)).next = h0.next + 1 := rfl
  generalize h0.new (.cells (u8s key) false) = h1 at *
  by_cases h100 : ((L.length : Nat) : Int) > 100
  · rw [decide_eq_true h100, cond_true]
    exact alive_TT h1 hn
  rw [decide_eq_false h100, cond_false, aggK_all (n := 16) g0 (by simp [hk2])]
  refine table_ret hk hk2 (Row.mod0 row m0) hlb hn hn2 fun z h2 m2 d2 => ?_
  simp only
  have row2 := Row.mod0 row (m0.trans m2)
  rw [refRight_eq row2 (by omega) hn2, Option.bind_some]
  simp only
  by_cases ho : okL L
  · rw [if_pos ho] at d2
    obtain ⟨tb, ys, rfl, hy, T⟩ := d2
    have hL := ho.2.1
    rw [decide_eq_true ho, Bool.not_true, cond_false, show ((0 : Int) != 0) = false by decide, cond_false, eqVK_ptr Try.underlying24, Option.isNone_some, cond_false, T.len n, Option.bind_some]
    simp only
    rw [show (((L.length : Nat) : Int) != (L.length : Int)) = false by simp, cond_false, T.atBad (i := -1) (by omega) n, Option.bind_some]
    simp only
    rw [show ((-1 : Int) != -1) = false by decide, outriderlaw08_MaglevFills_8_J0_eq, cond_false]
    simp only [nnK_some', Nat.zero_add]
    rw [aggK_all (n := 16) ((m2.get _ (by omega) (by simp)).trans g0) (by simp [hk2])]
    refine (Places_ret hk hk2 ho row2 hy hn).bind fun z h3 ⟨pr, pfr, e251, m3⟩ => ?_
    obtain ⟨q, ql, qc⟩ := z
    simp only at pr pfr e251 ⊢
    subst e251
    rw [mkSlK_of h3 (by omega) (by omega), Nat.mul_one, tile_one]
    have m4 : Mod [] h3 (h3.new (.cells (List.replicate L.length (.int .i64 0)) false)) := (Mod.refl _ _).new _
    have g4 := get_new_self h3 (.cells (List.replicate L.length (.int .i64 0)) false)
    have n4 : (h3.new (.cells (List.replicate L.length (.int .i64 0)) false)).next = h3.next + 1 := rfl
    generalize h3.new (.cells (List.replicate L.length (.int .i64 0)) false) = h4 at *
    refine fills_L1 (a := h3) (T.mod0 m3) (placesOf_len _ _ _) (fun x hx => placesOf_mem ho hy hx) hL (Row.mod0 row2 m3) pr hn (Nat.le_refl _) 251 0 n h4 (by omega) (by omega) m4 (by omega) ?_
    rw [List.take_zero, got_nil, List.map_replicate]
    exact g4
  · rw [if_neg ho] at d2
    subst d2
    rw [decide_eq_false ho, Bool.not_false, cond_true]
    refine (alive_ret h2 hn).bind fun r h' ⟨e, _⟩ => ?_
    subst e
    simp only
    rw [cond_true, show ((80 : Int) == 80) = true by decide, cond_true, eqVK_ptr Try.underlying24]
    exact .pure ⟨rfl, trivial⟩
end

end Go.Ev.Try
