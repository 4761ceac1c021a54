/- Chapter 08: the law MaglevShares in plain Lean. -/
import Derived.Test.YtlodaclifccchaaMg14
set_option linter.all false
namespace Go.Ev.Try
set_option maxRecDepth 10000
open Go.Proofs

def cnt (P : List Int) (k : Int) : Int := ((P.count k : Nat) : Int)
/-- who has the greatest weight has no fewer than any other, but one -/
def Sh (top : Int) (P : List Int) (T : List Tk) : Prop := ∃ t : Int, ∀ x ∈ T, cnt P x.k ≤ t + 1 ∧ (x.w = top → t ≤ cnt P x.k)
def Uni (top t : Int) (P : List Int) (xs : List (Tk × Int)) : Prop := ∀ x ∈ xs, top * cnt P x.1.k + x.2 = t * x.1.w
def Good (top : Int) (s : List Int × List (Tk × Int)) : Prop := (0 < free s.1 ∧ ∃ t, 0 ≤ t ∧ Uni top t s.1 s.2) ∨ (free s.1 = 0 ∧ Sh top s.1 (s.2.map (·.1)))

theorem share_of {top t n c w : Int} (ht : 0 ≤ t) (hw : w ≤ top) (hw1 : 1 ≤ w) (h0 : 0 ≤ c) (h1 : c < top) (e : top * n + c = t * w) : n ≤ t ∧ (w = top → t ≤ n) := by
  constructor
  · have h2 : t * w ≤ t * top := Int.mul_le_mul_of_nonneg_left hw ht
    refine Int.le_of_mul_le_mul_left (a := top) ?_ (by omega)
    rw [Int.mul_comm top t]
    omega
  · rintro rfl
    rcases Int.lt_or_le n t with h | h
    · have h3 : w * (n + 1) ≤ w * t := Int.mul_le_mul_of_nonneg_left (by omega) (by omega)
      rw [Int.mul_add, Int.mul_one, Int.mul_comm w t] at h3
      omega
    · exact h

theorem cnt_put {P : List Int} {t : Tk} {s : Nat} (h : slot P t = some s) (hk : 0 ≤ t.k) {k : Int} (hk' : 0 ≤ k) : cnt (put P t) k = cnt P k + if k = t.k then 1 else 0 := by
  unfold cnt
  rw [count_put h, if_neg (by omega)]
  split <;> simp

theorem turn_good {top : Int} : ∀ (rest pre : List (Tk × Int)) (P : List Int) (t : Int), 0 ≤ t → P.length = 251 → 0 < free P → OkT top (pre ++ rest) → ((pre ++ rest).map (·.1.k)).Nodup → Uni top (t + 1) P pre → Uni top t P rest → Good top ((turnT top P rest).1, pre ++ (turnT top P rest).2)
  | [], pre, P, t, ht, _, hf, _, _, h1, _ => by
    simp only [turnT, List.append_nil]
    exact .inl ⟨hf, t + 1, by omega, h1⟩
  | x :: rest, pre, P, t, ht, hP, hf, hok, hnd, h1, h2 => by
    have hx := h2 x (by simp)
    obtain ⟨hxo, hx0, hx1⟩ := hok x (by simp)
    have hturn : turnT top P (x :: rest) = ((turnT top (step1 top P x).1 rest).1, (x.1, (step1 top P x).2) :: (turnT top (step1 top P x).1 rest).2) := rfl
    rw [hturn]
    simp only
    rw [show pre ++ (x.1, (step1 top P x).2) :: (turnT top (step1 top P x).1 rest).2 = (pre ++ [(x.1, (step1 top P x).2)]) ++ (turnT top (step1 top P x).1 rest).2 by rw [List.append_assoc, List.singleton_append]]
    have hok' : OkT top ((pre ++ [(x.1, (step1 top P x).2)]) ++ rest) := by
      intro y hy
      simp only [List.append_assoc, List.singleton_append, List.mem_append, List.mem_cons] at hy
      rcases hy with hy | rfl | hy
      · exact hok y (by simp [hy])
      · exact ⟨hxo, step1_credit hxo hx0 hx1⟩
      · exact hok y (by simp [hy])
    have hnd' : (((pre ++ [(x.1, (step1 top P x).2)]) ++ rest).map (·.1.k)).Nodup := by
      have : ((pre ++ [(x.1, (step1 top P x).2)]) ++ rest).map (·.1.k) = (pre ++ x :: rest).map (·.1.k) := by simp
      rw [this]; exact hnd
    have hdis : ∀ y, (y ∈ pre ∨ y ∈ rest) → y.1.k ≠ x.1.k := by
      intro y hy
      rw [List.map_append, List.map_cons, List.nodup_append] at hnd
      obtain ⟨_, n2, n3⟩ := hnd
      rcases hy with hy | hy
      · exact n3 _ (List.mem_map.2 ⟨y, hy, rfl⟩) _ (by simp)
      · intro e
        exact (List.nodup_cons.1 n2).1 (List.mem_map.2 ⟨y, hy, e⟩)
    by_cases hlt : x.2 + x.1.w < top
    · have hs : step1 top P x = (P, x.2 + x.1.w) := by unfold step1; rw [if_neg (by omega)]
      rw [hs] at hok' hnd' ⊢
      refine turn_good rest (pre ++ [(x.1, x.2 + x.1.w)]) P t ht hP hf hok' hnd' (fun y hy => ?_) (fun y hy => h2 y (by simp [hy]))
      rcases List.mem_append.1 hy with hy | hy
      · exact h1 y hy
      · simp at hy
        subst hy
        simp only
        rw [Int.add_mul, Int.one_mul]
        omega
    · have hs : step1 top P x = (put P x.1, x.2 + x.1.w - top) := by unfold step1; rw [if_pos (by omega)]
      rw [hs] at hok' hnd' ⊢
      obtain ⟨s, hsl⟩ := slot_ex hxo hP hf
      have hk0 := hxo.k0
      have hfp := free_put hsl hk0
      have u1 : Uni top (t + 1) (put P x.1) (pre ++ [(x.1, x.2 + x.1.w - top)]) := by
        intro y hy
        rcases List.mem_append.1 hy with hy | hy
        · rw [cnt_put hsl hk0 (hok y (by simp [hy])).1.k0, if_neg (hdis y (.inl hy)), Int.add_zero]
          exact h1 y hy
        · simp at hy
          subst hy
          simp only
          rw [cnt_put hsl hk0 hk0, if_pos rfl, Int.mul_add, Int.mul_one, Int.add_mul, Int.one_mul]
          omega
      have u2 : Uni top t (put P x.1) rest := by
        intro y hy
        rw [cnt_put hsl hk0 (hok y (by simp [hy])).1.k0, if_neg (hdis y (.inr hy)), Int.add_zero]
        exact h2 y (by simp [hy])
      by_cases h0 : free (put P x.1) = 0
      · rw [turn_full rest h0]
        refine .inr ⟨h0, t, fun y hy => ?_⟩
        simp only at hy
        rw [List.map_append, turn_tk, ← List.map_append] at hy
        obtain ⟨z, hz, rfl⟩ := List.mem_map.1 hy
        obtain ⟨zo, z0, z1⟩ := hok' z hz
        show cnt (put P x.1) z.1.k ≤ t + 1 ∧ (z.1.w = top → t ≤ cnt (put P x.1) z.1.k)
        rcases List.mem_append.1 hz with hz | hz
        · have := share_of (t := t + 1) (by omega) zo.w1 zo.w0 z0 z1 (u1 z hz)
          exact ⟨this.1, fun e => by have := this.2 e; omega⟩
        · have := share_of ht zo.w1 zo.w0 z0 z1 (u2 z hz)
          exact ⟨by omega, this.2⟩
      · exact turn_good rest (pre ++ [(x.1, x.2 + x.1.w - top)]) (put P x.1) t ht (by rw [put_len]; exact hP) (by omega) hok' hnd' u1 u2

theorem runs_good {top : Int} : ∀ (n : Nat) (s : List Int × List (Tk × Int)), StT top s → (s.2.map (·.1.k)).Nodup → Good top s → Good top (runs top n s) ∧ (runs top n s).2.map (·.1) = s.2.map (·.1)
  | 0, s, _, _, h => ⟨h, rfl⟩
  | n + 1, s, hs, hn, h => by
    have hk : (turnT top s.1 s.2).2.map (·.1) = s.2.map (·.1) := turn_tk top s.2 s.1
    have hn' : ((turnT top s.1 s.2).2.map (·.1.k)).Nodup := by
      have : (turnT top s.1 s.2).2.map (·.1.k) = s.2.map (·.1.k) := by
        have := congrArg (List.map Tk.k) hk
        simpa [List.map_map, Function.comp_def] using this
      rw [this]; exact hn
    have g : Good top (turnT top s.1 s.2) := by
      rcases h with ⟨hf, t, ht, hu⟩ | ⟨hf, hsh⟩
      · exact turn_good s.2 [] s.1 t ht hs.len hf hs.ok hn (fun x hx => by simp at hx) hu
      · refine .inr ⟨by rw [turn_full _ hf]; exact hf, ?_⟩
        rw [turn_full _ hf, hk]; exact hsh
    obtain ⟨g1, g2⟩ := runs_good n _ hs.turn hn' g
    exact ⟨by rw [runs]; exact g1, by rw [runs, g2, hk]⟩

theorem placesOf_sh {key : List Int} {L : List Bk} (ho : okL L) {ys : List Nat} (hy : IsOrd L ys) : ∃ t : Int, ∀ j, j < L.length → cnt (placesOf key L ys) (j : Int) ≤ t + 1 ∧ (wt L j = topTo L → t ≤ cnt (placesOf key L ys) (j : Int)) := by
  have hst := tks_st (key := key) ho hy
  have hkk : (tks key L ys).map (·.1.k) = ys.map fun i : Nat => (i : Int) := by unfold tks; rw [List.map_map]; rfl
  have hnd : ((tks key L ys).map (·.1.k)).Nodup := by
    rw [hkk]
    refine (List.pairwise_map.2 (hy.nodup.imp fun {a b} h e => h ?_))
    omega
  have hg : Good (topTo L) (List.replicate 251 (-1), tks key L ys) := by
    refine .inl ⟨by unfold free; rw [List.count_replicate_self]; omega, 0, Int.le_refl _, fun x hx => ?_⟩
    have hk0 := (hst.ok x hx).1.k0
    unfold tks at hx
    obtain ⟨j, _, rfl⟩ := List.mem_map.1 hx
    unfold cnt
    rw [List.count_eq_zero_of_not_mem fun hm => by have := List.eq_of_mem_replicate hm; omega]
    simp
  obtain ⟨g, e⟩ := runs_good 251 _ hst hnd hg
  have hfr := placesOf_free (key := key) ho hy
  have hp : placesOf key L ys = (runs (topTo L) 251 (List.replicate 251 (-1), tks key L ys)).1 := by unfold placesOf finP; rfl
  rw [hp] at hfr ⊢
  generalize runs (topTo L) 251 (List.replicate 251 (-1), tks key L ys) = s at g e hfr ⊢
  rcases g with ⟨hf, _⟩ | ⟨_, t, hsh⟩
  · omega
  · refine ⟨t, fun j hj => ?_⟩
    have hm : tkOf key L j ∈ s.2.map (·.1) := by
      rw [e]
      exact List.mem_map.2 ⟨(tkOf key L j, 0), List.mem_map.2 ⟨j, (hy.mem j).2 hj, rfl⟩, rfl⟩
    exact hsh _ hm

/-- the sum of the first numbers' counts -/
def cntSum (P : List Int) (m : Nat) : Int := ((List.range m).map fun i : Nat => cnt P (i : Int)).sum
theorem cntSum_succ (P : List Int) (m : Nat) : cntSum P (m + 1) = cntSum P m + cnt P (m : Int) := by
  unfold cntSum; rw [List.range_succ, List.map_append, List.sum_append]; simp
theorem cntSum_cons {P : List Int} {k : Nat} : ∀ {m : Nat}, cntSum ((k : Int) :: P) m = cntSum P m + if k < m then 1 else 0
  | 0 => by unfold cntSum; simp
  | m + 1 => by
    rw [cntSum_succ, cntSum_succ, cntSum_cons]
    unfold cnt
    rw [List.count_cons]
    by_cases h : k = m
    · subst h
      rw [if_neg (by omega), if_pos (by simp), if_pos (by omega)]
      push_cast; omega
    · rw [if_neg (c := ((k : Int) == (m : Int)) = true) (by simp; omega)]
      by_cases h2 : k < m
      · rw [if_pos h2, if_pos (by omega)]; omega
      · rw [if_neg h2, if_neg (by omega)]; omega
theorem sum_rep0 : ∀ m, (List.replicate m (0 : Int)).sum = 0
  | 0 => rfl
  | m + 1 => by rw [List.replicate_succ, List.sum_cons, sum_rep0 m]; rfl
theorem cntSum_all {m : Nat} : ∀ {P : List Int}, (∀ x ∈ P, ∃ i, i < m ∧ x = ((i : Nat) : Int)) → cntSum P m = P.length
  | [], _ => by
    unfold cntSum cnt
    rw [show ((List.range m).map fun i : Nat => ((([] : List Int).count (i : Int) : Nat) : Int)) = List.replicate m 0 by simp [List.map_const']]
    rw [sum_rep0]; rfl
  | x :: P, h => by
    obtain ⟨i, hi, rfl⟩ := h x (by simp)
    rw [cntSum_cons, if_pos hi, cntSum_all fun y hy => h y (by simp [hy])]
    simp

section
variable {a : H} {tb : Nat} {L : List Bk} {P R : List Int} {p : Option (Nat × Nat)} {c : Cap}

theorem shares_L3 (hsh : ∃ t : Int, ∀ j, j < L.length → cnt P (j : Int) ≤ t + 1 ∧ (wt L j = topTo L → t ≤ cnt P (j : Int))) (hl : L.length ≤ 16) {h : H} (T : Tab h tb L P R) {ib i : Nat} (hi : i < L.length) {v : AV} (gi : h.get ib = some (.cells [v, .int .i64 (wt L i)] false)) {n : Nat} (hn : 5000 ≤ n) {m1 : Nat} {all : Int} {Q : Bool → H → Prop}
    (k : Ret (outriderlaw08_MaglevShares_3_L2 n m1 p L.length c (some (tb, 0)) (topTo L) all p L.length c L.length (IntKind.i64.wrap ((i : Int) + 1)) h) Q) : ∀ (d j m : Nat), j + d = L.length → d < m →
    Ret (outriderlaw08_MaglevShares_3_L3 n m1 m p L.length c (some (tb, 0)) (topTo L) all i (some (ib, 0)) p L.length c L.length i L.length j h) Q
  | 0, j, m + 1, hj, _ => by
    rw [outriderlaw08_MaglevShares_3_L3_eq, cast_not_lt (by omega), cond_false]
    exact k
  | d + 1, j, m + 1, hj, hf => by
    obtain ⟨t, ht⟩ := hsh
    have h1 := ht i hi
    have h2 := ht j (by omega)
    have hP := T.plen
    have hcj : P.count (j : Int) ≤ 251 := by rw [← hP]; exact List.count_le_length
    have ih := shares_L3 ⟨t, ht⟩ hl T hi gi hn k d (j + 1) m (by omega) (by omega)
    rw [outriderlaw08_MaglevShares_3_L3_eq, cast_lt (by omega), cond_true]
    simp only [nnK_some', Nat.zero_add]
    rw [cellK_of (o := 1) gi rfl, asInt_int]
    by_cases he : wt L i = topTo L
    · rw [show ((wt L i : Int) == topTo L) = true by simpa using he, cond_true, T.count (i : Int) (n := n) (by omega), Option.bind_some]
      simp only
      rw [T.count (j : Int) (n := n) (by omega), Option.bind_some]
      simp only
      rw [wrap_i64 (by omega) (by omega), decide_eq_false (by have h3 := h1.2 he; have h4 := h2.1; unfold cnt at h3 h4; omega), outriderlaw08_MaglevShares_3_J4_eq, cond_false, wrap_succ (by omega)]
      exact ih
    · rw [show ((wt L i : Int) == topTo L) = false by simpa using he, cond_false, outriderlaw08_MaglevShares_3_J4_eq, cond_false, wrap_succ (by omega)]
      exact ih

theorem shares_L2 (hsh : ∃ t : Int, ∀ j, j < L.length → cnt P (j : Int) ≤ t + 1 ∧ (wt L j = topTo L → t ≤ cnt P (j : Int))) (hl : L.length ≤ 16) (T : Tab a tb L P R) (row : KRow a p L.length c L) {n : Nat} (hn : 5000 ≤ n) {all : Int} (hall : all = 251) : ∀ (d i m : Nat) (h : H), i + d = L.length → d < m → Mod [] a h →
    Ret (outriderlaw08_MaglevShares_3_L2 n m p L.length c (some (tb, 0)) (topTo L) all p L.length c L.length i h) TT
  | 0, i, m + 1, h, hi, _, hm => by
    rw [outriderlaw08_MaglevShares_3_L2_eq, cast_not_lt (by omega), cond_false]
    refine (alive_ret h hn).bind fun r h' ⟨e, _⟩ => ?_
    subst e hall
    exact .pure ⟨rfl, trivial⟩
  | d + 1, i, m + 1, h, hi, hf, hm => by
    have hlt : i < L.length := by omega
    have ht : L[i]? = some L[i] := List.getElem?_eq_getElem hlt
    generalize hte : L[i] = t at ht
    rw [outriderlaw08_MaglevShares_3_L2_eq, cast_lt hlt, cond_true, Row.ix (Row.mod0 row hm) encK_len (by omega) ht]
    simp only [encK, lc_cons, l0_nil, asInt_int, asStr_str, newK_eq]
    rw [wrK_of (n := 2) (get_new_self _ _) rfl (by simp) rfl, spl_all _ _ (by simp), set_new]
    have m1 : Mod [] h (h.new (.cells [.str t.1, .int .i64 t.2] false)) := (Mod.refl _ _).new _
    have g1 := get_new_self h (.cells [.str t.1, .int .i64 t.2] false)
    generalize h.new (.cells [.str t.1, .int .i64 t.2] false) = h1 at *
    refine shares_L3 hsh hl ((T.mod0 hm).mod0 m1) hlt (v := .str t.1) (by rw [g1, wt_of ht]) hn ?_ L.length 0 n (by omega) (by omega)
    rw [wrap_succ (by omega)]
    exact shares_L2 hsh hl T row hn hall d (i + 1) m h1 (by omega) (by omega) (hm.trans m1)

theorem cntSum_bound {P : List Int} (hP : P.length = 251) : ∀ m, 0 ≤ cntSum P m ∧ cntSum P m ≤ 251 * m
  | 0 => ⟨Int.le_refl _, Int.le_refl _⟩
  | m + 1 => by
    obtain ⟨h1, h2⟩ := cntSum_bound hP m
    have h3 : P.count (m : Int) ≤ 251 := by rw [← hP]; exact List.count_le_length
    rw [cntSum_succ]
    unfold cnt
    omega

theorem shares_L1 (hsh : ∃ t : Int, ∀ j, j < L.length → cnt P (j : Int) ≤ t + 1 ∧ (wt L j = topTo L → t ≤ cnt P (j : Int))) (hl : L.length ≤ 16) (hall : cntSum P L.length = 251) (T : Tab a tb L P R) (row : KRow a p L.length c L) {n : Nat} (hn : 5000 ≤ n) : ∀ (d i m : Nat) (h : H), i + d = L.length → d < m → Mod [] a h →
    Ret (outriderlaw08_MaglevShares_3_L1 n m p L.length c (some (tb, 0)) (topTo (L.take i)) (cntSum P i) p L.length c L.length i h) TT
  | 0, i, m + 1, h, hi, _, hm => by
    rw [outriderlaw08_MaglevShares_3_L1_eq, cast_not_lt (by omega), cond_false, List.take_of_length_le (by omega)]
    obtain rfl : i = L.length := by omega
    exact shares_L2 hsh hl (T.mod0 hm) (Row.mod0 row hm) hn hall L.length 0 n h (by omega) (by omega) (Mod.refl _ _)
  | d + 1, i, m + 1, h, hi, hf, hm => by
    have hlt : i < L.length := by omega
    have ht : L[i]? = some L[i] := List.getElem?_eq_getElem hlt
    have htop : topTo (L.take (i + 1)) = if L[i].2 > topTo (L.take i) then L[i].2 else topTo (L.take i) := by rw [List.take_add_one, ht]; exact topTo_snoc _ _
    generalize hte : L[i] = t at ht htop
    obtain ⟨b1, b2⟩ := cntSum_bound T.plen i
    obtain ⟨b3, b4⟩ := cntSum_bound T.plen (i + 1)
    have hs := cntSum_succ P i
    unfold cnt at hs
    rw [outriderlaw08_MaglevShares_3_L1_eq, cast_lt hlt, cond_true, Row.ix (Row.mod0 row hm) encK_len (by omega) ht]
    simp only [encK, lc_cons, l0_nil, asInt_int, asStr_str, newK_eq]
    rw [wrK_of (n := 2) (get_new_self _ _) rfl (by simp) rfl, spl_all _ _ (by simp), set_new]
    have m1 : Mod [] h (h.new (.cells [.str t.1, .int .i64 t.2] false)) := (Mod.refl _ _).new _
    have g1 := get_new_self h (.cells [.str t.1, .int .i64 t.2] false)
    generalize h.new (.cells [.str t.1, .int .i64 t.2] false) = h1 at *
    rw [cellK_of (o := 1) g1 rfl, asInt_int, ((T.mod0 hm).mod0 m1).count (i : Int) (n := n) (by omega), Option.bind_some]
    simp only
    rw [← htop, wrap_i64 (x := cntSum P i + _) (by omega) (by omega), wrap_succ (by omega), ← hs]
    exact shares_L1 hsh hl hall T row hn d (i + 1) m h1 (by omega) (by omega) (hm.trans m1)
end

section
variable {c0 : List AV} {p : Option (Nat × Nat)} {l : Nat} {c : Cap} {tg : Option Tgt} {cs : List AV}

theorem maglevShares_true (w0 : Fits ks16 c0) (w1 : Arg 0 [.str, .int .i64] 24 p l c cs) : ∃ n h', outriderlaw08_MaglevShares_3 n c0 p l c (H0 [(tg, cs)]) = some (true, h') := by
  obtain ⟨key, rfl, hk2, hk⟩ := key_of w0
  obtain ⟨L, rfl, hlb, row⟩ := open_bks (rows := [(tg, cs)]) rfl w1
  refine ⟨6000 + L.length, law_true (Q := fun _ => True) ?_⟩
  have hn : 5000 ≤ 6000 + L.length := by omega
  have hn2 : L.length < 6000 + L.length := by omega
  generalize 6000 + L.length = n at hn hn2 ⊢
  generalize H0 [(tg, cs)] = h0 at *
  rw [outriderlaw08_MaglevShares_3_eq, newK_eq]
  have m0 : Mod [] h0 (h0.new (.cells (u8s key) false)) := (Mod.refl _ _).new _
  have g0 := get_new_self h0 (.cells (u8s key) false)
  have n0 : (h0.new (.cells (u8s key) false)).next = h0.next + 1 := rfl
  generalize h0.new (.cells (u8s key) false) = h1 at *
  rw [aggK_all (n := 16) g0 (by simp [hk2])]
  refine table_ret hk hk2 (Row.mod0 row m0) hlb hn hn2 fun z h2 m2 d2 => ?_
  simp only
  by_cases ho : okL L
  · rw [if_pos ho] at d2
    obtain ⟨tb, ys, rfl, hy, T⟩ := d2
    rw [show ((0 : Int) != 0) = false by decide, cond_false, eqVK_ptr Try.underlying24, Option.isNone_some, outriderlaw08_MaglevShares_3_J0_eq, cond_false]
    have := shares_L1 (placesOf_sh ho hy) ho.2.1 (by rw [cntSum_all fun x hx => placesOf_mem ho hy hx, placesOf_len]; rfl) T (Row.mod0 row (m0.trans m2)) hn L.length 0 n h2 (by omega) (by omega) (Mod.refl _ _)
    exact this
  · rw [if_neg ho] at d2
    subst d2
    simp only
    rw [show ((80 : Int) != 0) = true by decide, cond_true, outriderlaw08_MaglevShares_3_J0_eq, cond_true]
    exact alive_TT h2 hn
end

end Go.Ev.Try
