/- Chapter 08: what a table is asked; alive. -/
import Derived.Test.YtlodaclifccchaaMg11
set_option linter.all false
namespace Go.Ev.Try
set_option maxRecDepth 10000
open Go.Proofs

/-! ### whose the places are -/

def Vals (ts : List (Tk × Int)) (P : List Int) : Prop := ∀ x ∈ P, x = -1 ∨ ∃ t ∈ ts.map (·.1), x = t.k
theorem put_vals {P : List Int} {t : Tk} {S : List Tk} (h : ∀ x ∈ P, x = -1 ∨ ∃ t ∈ S, x = t.k) (ht : t ∈ S) : ∀ x ∈ put P t, x = -1 ∨ ∃ t ∈ S, x = t.k := by
  unfold put
  split
  · exact h
  · intro x hx
    rcases List.mem_or_eq_of_mem_set hx with hx | rfl
    · exact h x hx
    · exact .inr ⟨t, ht, rfl⟩
theorem turn_vals {top : Int} {S : List Tk} : ∀ {xs : List (Tk × Int)} {P : List Int}, (∀ x ∈ xs, x.1 ∈ S) → (∀ x ∈ P, x = -1 ∨ ∃ t ∈ S, x = t.k) → ∀ x ∈ (turnT top P xs).1, x = -1 ∨ ∃ t ∈ S, x = t.k
  | [], _, _, h => h
  | y :: xs, P, hS, h => by
    rw [turnT]
    refine turn_vals (fun z hz => hS z (List.mem_cons_of_mem _ hz)) ?_
    unfold step1
    split
    · exact put_vals h (hS y (by simp))
    · exact h
theorem runs_vals {top : Int} {S : List Tk} : ∀ (n : Nat) (s : List Int × List (Tk × Int)), s.2.map (·.1) = S → (∀ x ∈ s.1, x = -1 ∨ ∃ t ∈ S, x = t.k) → ∀ x ∈ (runs top n s).1, x = -1 ∨ ∃ t ∈ S, x = t.k
  | 0, _, _, h => h
  | n + 1, s, hS, h => by
    rw [runs]
    refine runs_vals n _ ((turn_tk top s.2 s.1).trans hS) (turn_vals (fun x hx => ?_) h)
    rw [← hS]
    exact List.mem_map.2 ⟨x, hx, rfl⟩
theorem placesOf_len (key : List Int) (L : List Bk) (ys : List Nat) : (placesOf key L ys).length = 251 := by unfold placesOf finP; rw [runs_len]; simp
theorem placesOf_free {key : List Int} {L : List Bk} (ho : okL L) {ys : List Nat} (hy : IsOrd L ys) : free (placesOf key L ys) = 0 := fin_free (tks_st ho hy)
theorem placesOf_mem {key : List Int} {L : List Bk} (ho : okL L) {ys : List Nat} (hy : IsOrd L ys) {x : Int} (hx : x ∈ placesOf key L ys) : ∃ i, i < L.length ∧ x = ((i : Nat) : Int) := by
  have h1 := runs_vals (top := topTo L) (S := (tks key L ys).map (·.1)) 251 (List.replicate 251 (-1), tks key L ys) rfl (fun x hx => .inl (List.eq_of_mem_replicate hx)) x hx
  rcases h1 with rfl | ⟨t, ht, rfl⟩
  · have := List.count_pos_iff.2 hx
    have h0 := placesOf_free (key := key) ho hy
    unfold free at h0
    omega
  · unfold tks at ht
    rw [List.map_map] at ht
    obtain ⟨j, hj, rfl⟩ := List.mem_map.1 ht
    exact ⟨j, (hy.mem j).1 hj, rfl⟩
theorem ringOf_mem {L : List Bk} {ys : List Nat} (hy : IsOrd L ys) {x : Int} (hx : x ∈ ringOf L ys) : ∃ i, i < L.length ∧ x = ((i : Nat) : Int) := by
  unfold ringOf at hx
  obtain ⟨i, hi, hx⟩ := List.mem_flatMap.1 hx
  exact ⟨i, (hy.mem i).1 hi, List.eq_of_mem_replicate hx⟩
theorem wt_ge {L : List Bk} (ho : okL L) {i : Nat} (hi : i < L.length) : 1 ≤ wt L i := by
  have hk : L[i]? = some L[i] := List.getElem?_eq_getElem hi
  rw [wt_of hk]
  exact (ho.2.2.1 _ (List.getElem_mem hi)).2.2.1
theorem ringOf_pos {L : List Bk} (ho : okL L) {ys : List Nat} (hy : IsOrd L ys) : 0 < (ringOf L ys).length := by
  have h0 : 0 ∈ ys := (hy.mem 0).2 ho.1
  have : (0 : Int) ∈ ringOf L ys := by
    unfold ringOf
    refine List.mem_flatMap.2 ⟨0, h0, ?_⟩
    rw [List.mem_replicate]
    have := wt_ge ho ho.1
    exact ⟨by omega, rfl⟩
  exact List.length_pos_of_mem this

/-! ### from -/

def isUp (up : List Bool) (k : Int) : Bool := (up[k.toNat]?).getD false
def fromF (R : List Int) (up : List Bool) : Nat → Nat → Int × Bool
  | 0, _ => (-1, false)
  | d + 1, at' => if isUp up ((R[at' % R.length]?).getD 0) then ((R[at' % R.length]?).getD 0, true) else fromF R up d (at' + 1)

section
variable {h : H} {p u : Option (Nat × Nat)} {c uc : Cap} {ul : Nat} {R : List Int} {up : List Bool}

theorem upAt (ur : Row h 1 u ul uc (up.map AV.bool)) {k : Int} (hk : 0 ≤ k) {β : Type} (f : Bool → Option β) : (cond (decide (k < (ul : Int))) (if 0 ≤ k ∧ k < (ul : Int) then nnK u fun b o => cellK h b (o + k.toNat) fun v => asBool v fun x => f x else none) (f false)) = f (isUp up k) := by
  have hl := ur.len1
  by_cases hlt : k < (ul : Int)
  · rw [decide_eq_true hlt, cond_true]
    obtain ⟨j, rfl⟩ : ∃ j : Nat, k = j := ⟨k.toNat, by omega⟩
    have hx : up[j]? = some up[j] := List.getElem?_eq_getElem (by omega)
    rw [ur.ix1 hx, asBool_bool]
    unfold isUp
    rw [Int.toNat_natCast, hx]; rfl
  · rw [decide_eq_false hlt, cond_false]
    unfold isUp
    rw [List.getElem?_eq_none (by omega)]; rfl

theorem from_loop (hR : ∀ x ∈ R, 0 ≤ x) (h0 : 0 < R.length) (hl : R.length < 1000000) (row : Row h 1 p R.length c (R.map i64)) (ur : Row h 1 u ul uc (up.map AV.bool)) {at' : Nat} (hat : at' < R.length) (n : Nat) : ∀ (d i m : Nat), i + d = R.length → d < m →
    maglev_from_30_L0 n m p R.length c at' u ul uc R.length i h = some (fromF R up d (at' + i), h)
  | 0, i, m + 1, hi, _ => by
    rw [maglev_from_30_L0_eq, cast_not_lt (by omega), cond_false]; rfl
  | d + 1, i, m + 1, hi, hf => by
    have hmod : (at' + i) % R.length < R.length := Nat.mod_lt _ h0
    have hx : R[(at' + i) % R.length]? = some R[(at' + i) % R.length] := List.getElem?_eq_getElem hmod
    have hx0 := hR _ (List.getElem_mem hmod)
    have e : Int.tmod (IntKind.i64.wrap ((at' : Int) + i)) (R.length : Int) = (((at' + i) % R.length : Nat) : Int) := by
      rw [wrap_i64 (by omega) (by omega), Int.tmod_eq_emod_of_nonneg (by omega)]
      push_cast; rfl
    rw [maglev_from_30_L0_eq, cast_lt (by omega), cond_true, if_neg (show ¬ ((R.length : Nat) : Int) = 0 by omega), e, row.ix1 hx, asInt_int, upAt ur hx0, maglev_from_30_J1_eq]
    unfold fromF
    rw [hx, Option.getD_some]
    by_cases hu : isUp up R[(at' + i) % R.length] = true
    · rw [hu, cond_true, if_pos rfl]
    · rw [Bool.not_eq_true] at hu
      rw [hu, cond_false, if_neg (by simp), wrap_succ (by omega)]
      exact from_loop hR h0 hl row ur hat n d (i + 1) m (by omega) (by omega)
theorem from_eq (hR : ∀ x ∈ R, 0 ≤ x) (h0 : 0 < R.length) (hl : R.length < 1000000) (row : Row h 1 p R.length c (R.map i64)) (ur : Row h 1 u ul uc (up.map AV.bool)) {at' : Nat} (hat : at' < R.length) {n : Nat} (hn : R.length < n) :
    maglev_from_30 n p R.length c at' u ul uc h = some (fromF R up R.length at', h) := by
  rw [maglev_from_30_eq]
  exact from_loop hR h0 hl row ur hat n R.length 0 n (by omega) hn

theorem refFrom_loop (hR : ∀ x ∈ R, 0 ≤ x) (h0 : 0 < R.length) (hl : R.length < 1000000) (row : Row h 1 p R.length c (R.map i64)) (ur : Row h 1 u ul uc (up.map AV.bool)) {at' : Nat} (n : Nat) : ∀ (d i m : Nat), i + d = R.length → d < m →
    outriderref08_From_17_L0 n m p R.length c u ul uc ((at' + i) % R.length : Nat) i h = some (fromF R up d (at' + i), h)
  | 0, i, m + 1, hi, _ => by
    rw [outriderref08_From_17_L0_eq, cast_not_lt (by omega), cond_false]; rfl
  | d + 1, i, m + 1, hi, hf => by
    have hmod : (at' + i) % R.length < R.length := Nat.mod_lt _ h0
    have hx : R[(at' + i) % R.length]? = some R[(at' + i) % R.length] := List.getElem?_eq_getElem hmod
    have hx0 := hR _ (List.getElem_mem hmod)
    rw [outriderref08_From_17_L0_eq, cast_lt (by omega), cond_true, row.ix1 hx, asInt_int, upAt ur hx0, outriderref08_From_17_J1_eq]
    unfold fromF
    rw [hx, Option.getD_some]
    by_cases hu : isUp up R[(at' + i) % R.length] = true
    · rw [hu, cond_true, if_pos rfl]
    · rw [Bool.not_eq_true] at hu
      rw [hu, cond_false, if_neg (by simp), wrap_succ (by omega), wrap_succ (by omega)]
      have ih := refFrom_loop (at' := at') hR h0 hl row ur n d (i + 1) m (by omega) (by omega)
      have hs : (at' + (i + 1)) % R.length = if (at' + i) % R.length + 1 = R.length then 0 else (at' + i) % R.length + 1 := by
        rw [show at' + (i + 1) = (at' + i) + 1 by omega, Nat.add_mod]
        by_cases h1 : R.length = 1
        · rw [h1]; simp [Nat.mod_one]
        · rw [Nat.mod_eq_of_lt (show 1 < R.length by omega)]
          split
          · rename_i e; rw [e, Nat.mod_self]
          · rw [Nat.mod_eq_of_lt (by omega)]
      rw [hs] at ih
      by_cases he : (at' + i) % R.length + 1 = R.length
      · rw [if_pos he] at ih
        rw [show (((((at' + i) % R.length + 1 : Nat)) : Int) == (R.length : Int)) = true from beq_iff_eq.2 (congrArg Int.ofNat he), cond_true]
        exact ih
      · rw [if_neg he] at ih
        rw [show (((((at' + i) % R.length + 1 : Nat)) : Int) == (R.length : Int)) = false from beq_eq_false_iff_ne.2 fun e => he (Int.ofNat.inj e), cond_false]
        exact ih
theorem refFrom_eq (hR : ∀ x ∈ R, 0 ≤ x) (h0 : 0 < R.length) (hl : R.length < 1000000) (row : Row h 1 p R.length c (R.map i64)) (ur : Row h 1 u ul uc (up.map AV.bool)) {x : Int} (hx : u64 x) {n : Nat} (hn : R.length < n) :
    outriderref08_From_17 n p R.length c x u ul uc h = some (fromF R up R.length (x % (R.length : Int)).toNat, h) := by
  have hw : IntKind.u64.wrap ((R.length : Nat) : Int) = R.length := wrap64 ⟨by omega, by omega⟩
  have hx0 := hx.1
  have h1 : 0 ≤ x % (R.length : Int) := Int.emod_nonneg _ (by omega)
  have h2 : x % (R.length : Int) < R.length := Int.emod_lt_of_pos _ (by omega)
  rw [outriderref08_From_17_eq, hw, if_neg (by omega), Int.tmod_eq_emod_of_nonneg hx0, wrap_i64 (by omega) (by omega)]
  have := refFrom_loop (at' := (x % (R.length : Int)).toNat) hR h0 hl row ur n R.length 0 n (by omega) hn
  rw [Nat.add_zero, Nat.mod_eq_of_lt (by omega)] at this
  rw [show (x % (R.length : Int)) = (((x % (R.length : Int)).toNat : Nat) : Int) by omega]
  exact this
end

/-! ### a table is asked -/

section
variable {h : H} {tb : Nat} {L : List Bk} {P R : List Int}

theorem Tab.prow (t : Tab h tb L P R) : Row h 1 (some (tb, 1)) 251 (.known 251) (P.map i64) := by
  obtain ⟨lp, lc, rp, rl, rc, g, _, _⟩ := t.ex
  have hp := t.plen
  refine .row t.lt g ?_ (by rw [tcs_len hp]; omega) (.inr ⟨251, rfl, Nat.le_refl _⟩)
  unfold tcs
  rw [List.drop_succ_cons, List.drop_zero, List.take_append_of_le_length (by simp [hp]), List.take_of_length_le (by simp [hp])]

theorem Tab.at' (t : Tab h tb L P R) {i : Nat} {x : Int} (hx : P[i]? = some x) (n : Nat) : maglev_Table_At_14 n (some (tb, 0)) i h = some (x, h) := by
  obtain ⟨lp, lc, rp, rl, rc, g, _, _⟩ := t.ex
  have hp := t.plen
  have hi := (List.getElem?_eq_some_iff.1 hx).1
  rw [maglev_Table_At_14_eq, decide_eq_false (by omega), cond_false, decide_eq_false (by omega), maglev_Table_At_14_J0_eq, cond_false]
  simp only [nnK_some', Nat.zero_add]
  rw [if_pos ⟨by omega, by omega⟩, Int.toNat_natCast, cellK_of g (tcs_get hx), asInt_int]
theorem Tab.atBad (_ : Tab h tb L P R) {i : Int} (hi : ¬ (0 ≤ i ∧ i < 251)) (n : Nat) : maglev_Table_At_14 n (some (tb, 0)) i h = some (-1, h) := by
  rw [maglev_Table_At_14_eq]
  by_cases h0 : i < 0
  · rw [decide_eq_true h0, cond_true, maglev_Table_At_14_J0_eq, cond_true]
  · rw [decide_eq_false h0, cond_false, decide_eq_true (by omega), maglev_Table_At_14_J0_eq, cond_true]

theorem count_loop {P : List Int} (hP : P.length = 251) {x : Int} (n : Nat) : ∀ (d i m : Nat), i + d = 251 → d < m → maglev_Table_Count_13_L0 n m x ((P.take i).count x : Nat) (P.map i64) i h = some (((P.count x : Nat) : Int), h)
  | 0, i, m + 1, hi, _ => by
    rw [maglev_Table_Count_13_L0_eq, decide_eq_false (by omega), cond_false, List.take_of_length_le (by omega)]
  | d + 1, i, m + 1, hi, hf => by
    have hx : P[i]? = some P[i] := List.getElem?_eq_getElem (by omega)
    have hc : (P.take (i + 1)).count x = (P.take i).count x + if P[i] == x then 1 else 0 := by
      rw [List.take_add_one, hx, List.count_append]
      simp [List.count_singleton]
    have hcl : (P.take i).count x ≤ 251 := Nat.le_trans List.count_le_length (by simp; omega)
    have ih := count_loop hP (x := x) n d (i + 1) m (by omega) (by omega)
    rw [maglev_Table_Count_13_L0_eq, decide_eq_true (by omega), cond_true, if_pos ⟨by omega, by omega⟩, Nat.zero_add, Int.toNat_natCast]
    rw [atK_of (v := .int .i64 P[i]) (by rw [List.getElem?_map, hx]; rfl), asInt_int]
    rw [hc] at ih
    by_cases he : P[i] = x
    · rw [if_pos (by simpa using he)] at ih
      rw [show (P[i] == x) = true by simpa using he, cond_true, wrap_succ (by omega), wrap_succ (by omega)]
      exact ih
    · rw [if_neg (by simpa using he)] at ih
      rw [show (P[i] == x) = false by simpa using he, cond_false, wrap_succ (by omega)]
      exact ih
theorem Tab.count (t : Tab h tb L P R) (x : Int) {n : Nat} (hn : 300 ≤ n) : maglev_Table_Count_13 n (some (tb, 0)) x h = some (((P.count x : Nat) : Int), h) := by
  obtain ⟨lp, lc, rp, rl, rc, g, _, _⟩ := t.ex
  have hp := t.plen
  rw [maglev_Table_Count_13_eq]
  simp only [nnK_some', Nat.zero_add]
  rw [aggK_of (n := 251) (o := 1) g (by rw [tcs_len hp]; omega)]
  have e : ((tcs lp L.length lc P rp rl rc).drop 1).take 251 = P.map i64 := by
    unfold tcs
    rw [List.drop_succ_cons, List.drop_zero, List.take_append_of_le_length (by simp [hp]), List.take_of_length_le (by simp [hp])]
  rw [e]
  exact count_loop hp n 251 0 n (by omega) (by omega)

theorem Tab.len (t : Tab h tb L P R) (n : Nat) : maglev_Table_Len_21 n (some (tb, 0)) h = some ((L.length : Int), h) := by
  obtain ⟨lp, lc, rp, rl, rc, g, _, _⟩ := t.ex
  rw [maglev_Table_Len_21_eq]
  simp only [nnK_some']
  rw [cellK_of (o := 0) g rfl, asSlice_slice]

theorem Tab.find (t : Tab h tb L P R) (hP : ∀ x ∈ P, 0 ≤ x) {x : Int} (hx : u64 x) {u : Option (Nat × Nat)} {ul : Nat} {uc : Cap} {up : List Bool} (ur : Row h 1 u ul uc (up.map AV.bool)) {n : Nat} (hn : 300 ≤ n) :
    maglev_Table_Find_15 n (some (tb, 0)) x u ul uc h = some (fromF P up 251 (x % 251).toNat, h) := by
  have hp := t.plen
  have hx0 := hx.1
  rw [maglev_Table_Find_15_eq]
  simp only [nnK_some', Nat.zero_add]
  rw [Int.tmod_eq_emod_of_nonneg hx0, wrap_i64 (by omega) (by omega), show (x % 251) = (((x % 251).toNat : Nat) : Int) by omega]
  have hr := t.prow
  rw [← hp] at hr
  have e := from_eq (c := .known 251) (p := some (tb, 1)) hP (by omega) (by omega) (by rw [hp]; rw [hp] at hr; exact hr) ur (at' := (x % 251).toNat) (by omega) (n := n) (by omega)
  rw [hp] at e
  rw [e, Option.bind_some, Int.toNat_natCast]

theorem Tab.turn (t : Tab h tb L P R) (hR : ∀ x ∈ R, 0 ≤ x) (h0 : 0 < R.length) (hl : R.length < 1000000) {x : Int} (hx : u64 x) {u : Option (Nat × Nat)} {ul : Nat} {uc : Cap} {up : List Bool} (ur : Row h 1 u ul uc (up.map AV.bool)) {n : Nat} (hn : R.length < n) :
    maglev_Table_Turn_19 n (some (tb, 0)) x u ul uc h = some (fromF R up R.length (x % (R.length : Int)).toNat, h) := by
  obtain ⟨lp, lc, rp, rl, rc, g, _, rr⟩ := t.ex
  have hp := t.plen
  have hx0 := hx.1
  have hrl := rr.len1
  subst hrl
  have hw : IntKind.u64.wrap ((R.length : Nat) : Int) = R.length := wrap64 ⟨by omega, by omega⟩
  have h1 : 0 ≤ x % (R.length : Int) := Int.emod_nonneg _ (by omega)
  have h2 : x % (R.length : Int) < R.length := Int.emod_lt_of_pos _ (by omega)
  rw [maglev_Table_Turn_19_eq]
  simp only [nnK_some', Nat.zero_add]
  rw [cellK_of (o := 252) g (tcs_ring hp), asSlice_slice]
  rw [cellK_of (o := 252) g (tcs_ring hp), asSlice_slice, hw, if_neg (by omega), Int.tmod_eq_emod_of_nonneg hx0, wrap_i64 (by omega) (by omega), show (x % (R.length : Int)) = (((x % (R.length : Int)).toNat : Nat) : Int) by omega]
  rw [from_eq hR h0 hl rr ur (at' := (x % (R.length : Int)).toNat) (by omega) hn, Option.bind_some, Int.toNat_natCast]
end

end Go.Ev.Try
