/- Chapter 08: the laws MaglevAgain, MaglevTurns in plain Lean. -/
import Derived.Test.YtlodaclifccchaaMg13
set_option linter.all false
namespace Go.Ev.Try
set_option maxRecDepth 10000
open Go.Proofs

theorem tile_one {x : AV} (n : Nat) : evTile n [x] = List.replicate n x := by
  unfold evTile
  rw [List.map_congr_left (g := fun _ => x) fun i _ => by simp [Nat.mod_one], List.map_const', List.length_range]

theorem law_true {F : Option (Bool × H)} {Q : H → Prop} (h : Ret F fun r h' => r = true ∧ Q h') : ∃ h', F = some (true, h') := by
  obtain ⟨r, h', e, hr, _⟩ := h
  exact ⟨h', by rw [e, hr]⟩
abbrev TT : Bool → H → Prop := fun r _ => r = true ∧ True
theorem alive_TT (h : H) {n : Nat} (hn : 5000 ≤ n) : Ret ((outriderlaw08_alive_12 n h).bind fun r7 => some (r7.1, r7.2)) TT := by
  refine (alive_ret h hn).bind fun r h' ⟨e, _⟩ => ?_
  exact .pure ⟨e, trivial⟩

section
variable {h : H} {t1 t2 : Nat} {L : List Bk} {P R : List Int} {p : Option (Nat × Nat)} {l : Nat} {c : Cap}

theorem again_L1 (hL : L.length = l) (hone : l = 1 → P = List.replicate 251 0) (hl : 1 ≤ l) {n : Nat} (hn : 5000 ≤ n) (T1 : Tab h t1 L P R) (T2 : Tab h t2 L P R) : ∀ (d i m : Nat), i + d = 251 → d < m → Ret (outriderlaw08_MaglevAgain_5_L1 n m p l c (some (t1, 0)) (some (t2, 0)) i h) TT
  | 0, i, m + 1, hi, _ => by
    rw [outriderlaw08_MaglevAgain_5_L1_eq, decide_eq_false (by omega), cond_false]
    refine (alive_ret h hn).bind fun r h' ⟨e, m'⟩ => ?_
    subst e
    simp only
    rw [cond_true]
    by_cases h1 : ((l : Nat) : Int) > 1
    · rw [decide_eq_true h1, cond_true]; exact .pure ⟨rfl, trivial⟩
    · rw [decide_eq_false h1, cond_false, (T1.mod0 m').count 0 (n := n) (by omega), Option.bind_some, hone (by omega), List.count_replicate_self]
      exact .pure ⟨rfl, trivial⟩
  | d + 1, i, m + 1, hi, hf => by
    have hp := T1.plen
    have hx : P[i]? = some P[i] := List.getElem?_eq_getElem (by omega)
    rw [outriderlaw08_MaglevAgain_5_L1_eq, decide_eq_true (by omega), cond_true, T1.at' hx n, Option.bind_some]
    simp only
    rw [T2.at' hx n, Option.bind_some]
    simp only
    rw [show (P[i] != P[i]) = false by simp, cond_false, wrap_succ (by omega)]
    exact again_L1 hL hone hl hn T1 T2 d (i + 1) m (by omega) (by omega)
end

section
variable {c0 : List AV} {p : Option (Nat × Nat)} {l : Nat} {c : Cap} {tg : Option Tgt} {cs : List AV}

theorem maglevAgain_true (w0 : Fits ks16 c0) (w1 : Arg 0 [.str, .int .i64] 24 p l c cs) : ∃ n h', outriderlaw08_MaglevAgain_5 n c0 p l c (H0 [(tg, cs)]) = some (true, h') := by
  obtain ⟨key, rfl, hk2, hk⟩ := key_of w0
  obtain ⟨L, rfl, hlb, row⟩ := open_bks (rows := [(tg, cs)]) rfl w1
  refine ⟨6000 + L.length, law_true (Q := fun _ => True) ?_⟩
  have hn : 5000 ≤ 6000 + L.length := by omega
  have hn2 : L.length < 6000 + L.length := by omega
  generalize 6000 + L.length = n at hn hn2 ⊢
  generalize H0 [(tg, cs)] = h0 at *
  rw [outriderlaw08_MaglevAgain_5_eq, newK_eq]
  have m0 : Mod [] h0 (h0.new (.cells (u8s key) false)) := (Mod.refl _ _).new _
  have g0 := get_new_self h0 (.cells (u8s key) false)
  have n0 : (h0.new (.cells (u8s key) false)).next = h0.next + 1 := rfl
  generalize h0.new (.cells (u8s key) false) = h1 at *
  rw [aggK_all (n := 16) g0 (by simp [hk2])]
  refine table_ret hk hk2 (Row.mod0 row m0) hlb hn hn2 fun z h2 m2 d2 => ?_
  simp only
  rw [aggK_all (n := 16) ((m2.get _ (by omega) (by simp)).trans g0) (by simp [hk2])]
  refine table_ret hk hk2 (Row.mod0 row (m0.trans m2)) hlb hn hn2 fun z' h3 m3 d3 => ?_
  simp only
  by_cases ho : okL L
  · rw [if_pos ho] at d2 d3
    obtain ⟨t1, ys, rfl, hy, T1⟩ := d2
    obtain ⟨t2, zs, rfl, hz, T2⟩ := d3
    have e := hy.unique hz
    subst e
    rw [show ((0 : Int) != 0) = false by decide, cond_false, cond_false, eqVK_ptr Try.underlying24, Option.isNone_some, cond_false, eqVK_ptr Try.underlying24, Option.isNone_some, outriderlaw08_MaglevAgain_5_J0_eq, cond_false]
    exact again_L1 rfl (fun h => one_all ho hy h) ho.1 hn (T1.mod0 m3) T2 251 0 n (by omega) (by omega)
  · rw [if_neg ho] at d2 d3
    subst d2 d3
    simp only
    rw [show ((80 : Int) != 80) = false by decide, cond_false, show ((80 : Int) != 0) = true by decide, cond_true, outriderlaw08_MaglevAgain_5_J0_eq, cond_true]
    refine (alive_ret h3 hn).bind fun r h' ⟨e, _⟩ => ?_
    subst e
    exact .pure ⟨rfl, trivial⟩
end

/-! ### MaglevTurns -/

/-- the sum of the weights -/
def allW (L : List Bk) : Int := (L.map (·.2)).sum
theorem allW_snoc (L : List Bk) (b : Bk) : allW (L ++ [b]) = allW L + b.2 := by unfold allW; simp
theorem ringOf_lenI {L : List Bk} (hw : ∀ i, i < L.length → 0 ≤ wt L i) : ∀ {ys : List Nat}, (∀ i ∈ ys, i < L.length) → ((ringOf L ys).length : Int) = (ys.map (wt L)).sum
  | [], _ => rfl
  | y :: ys, h => by
    have h1 := ringOf_lenI hw (ys := ys) fun i hi => h i (by simp [hi])
    have h2 := hw y (h y (by simp))
    unfold ringOf at *
    rw [List.flatMap_cons, List.length_append, List.length_replicate, List.map_cons, List.sum_cons, ← h1]
    omega
theorem wt_map (L : List Bk) : (List.range L.length).map (wt L) = L.map (·.2) := by
  apply List.ext_getElem?
  intro i
  rw [List.getElem?_map, List.getElem?_map]
  by_cases hi : i < L.length
  · have hk : L[i]? = some L[i] := List.getElem?_eq_getElem hi
    rw [List.getElem?_range hi, hk, Option.map_some, Option.map_some, wt_of hk]
  · rw [List.getElem?_eq_none (l := List.range L.length) (by simp; omega), List.getElem?_eq_none (l := L) (by omega)]; rfl
theorem perm_sum {l m : List Int} (h : l.Perm m) : l.sum = m.sum := by
  induction h with
  | nil => rfl
  | cons x _ ih => simp [ih]
  | swap x y l => simp; omega
  | trans _ _ a b => exact a.trans b
theorem ring_all {L : List Bk} (ho : okL L) {ys : List Nat} (hy : IsOrd L ys) : ((ringOf L ys).length : Int) = allW L := by
  rw [ringOf_lenI (fun i hi => by have := wt_ge ho hi; omega) fun i hi => (hy.mem i).1 hi]
  unfold allW
  rw [← wt_map]
  exact perm_sum (hy.perm.map (wt L))
theorem ring_count {L : List Bk} : ∀ {ys : List Nat}, ys.Nodup → ∀ {i : Nat}, i ∈ ys → (ringOf L ys).count (i : Int) = (wt L i).toNat
  | y :: ys, hn, i, hi => by
    obtain ⟨h1, h2⟩ := List.nodup_cons.1 hn
    unfold ringOf
    rw [List.flatMap_cons, List.count_append, List.count_replicate]
    by_cases he : y = i
    · subst he
      rw [if_pos (by simp), List.count_eq_zero_of_not_mem]
      · simp
      · intro hm
        obtain ⟨j, hj, hm⟩ := List.mem_flatMap.1 hm
        have := List.eq_of_mem_replicate hm
        have : j = y := by omega
        exact h1 (this ▸ hj)
    · rw [if_neg (by simp; omega), Nat.zero_add]
      rcases List.mem_cons.1 hi with hi | hi
      · exact absurd hi.symm he
      · exact ring_count h2 hi
theorem IsOrd.nodup {L : List Bk} {ys : List Nat} (h : IsOrd L ys) : ys.Nodup := h.perm.nodup_iff.2 List.nodup_range

theorem fromF_up {R : List Int} {up : List Bool} {d at' : Nat} {k : Int} (h : R[at' % R.length]? = some k) (hu : isUp up k = true) : fromF R up (d + 1) at' = (k, true) := by
  rw [fromF, h, Option.getD_some, if_pos hu]
/-- how often each number stands there -/
def got (len : Nat) (R : List Int) : List Int := (List.range len).map fun i : Nat => ((R.count (i : Int) : Nat) : Int)
theorem got_get {len : Nat} (R : List Int) {i : Nat} (hi : i < len) : (got len R)[i]? = some ((R.count (i : Int) : Nat) : Int) := by
  unfold got; rw [List.getElem?_map, List.getElem?_range hi]; rfl
theorem got_nil (len : Nat) : got len [] = List.replicate len 0 := by
  unfold got; simp [List.map_const']
theorem got_len (len : Nat) (R : List Int) : (got len R).length = len := by simp [got]
theorem got_snoc {len k : Nat} (R : List Int) (hk : k < len) : got len (R ++ [(k : Int)]) = (got len R).set k (((R.count (k : Int) : Nat) : Int) + 1) := by
  apply List.ext_getElem?
  intro i
  by_cases hi : i < len
  · rw [got_get _ hi, List.count_append, List.count_singleton, List.getElem?_set]
    by_cases he : k = i
    · subst he
      rw [if_pos (by simp), if_pos rfl, if_pos (by rw [got_len]; exact hk)]
      simp
    · rw [if_neg (by simp; omega), if_neg he, got_get _ hi]
      simp
  · rw [List.getElem?_eq_none (by rw [got_len]; omega), List.getElem?_eq_none (by rw [List.length_set, got_len]; omega)]

section
variable {a h : H} {tb ub gb : Nat} {L : List Bk} {P R : List Int} {p : Option (Nat × Nat)} {l : Nat} {c : Cap} {uc gc : Cap}

theorem turns_L4 (hR : ∀ i, i < L.length → ((R.count (i : Int) : Nat) : Int) = wt L i) (hl : L.length ≤ 16) (row : KRow a p L.length c L) {n : Nat} (hn : 5000 ≤ n) (hgb : gb < a.next) (gg : a.get gb = some (.cells ((got L.length R).map i64) false)) : ∀ (d i m : Nat) (h : H), i + d = L.length → d < m → Mod [] a h →
    Ret (outriderlaw08_MaglevTurns_7_L4 n m (some (gb, 0)) L.length gc p L.length c L.length i h) TT
  | 0, i, m + 1, h, hi, _, hm => by
    rw [outriderlaw08_MaglevTurns_7_L4_eq, cast_not_lt (by omega), cond_false]
    exact alive_TT h hn
  | d + 1, i, m + 1, h, hi, hf, hm => by
    have hlt : i < L.length := by omega
    have ht : L[i]? = some L[i] := List.getElem?_eq_getElem hlt
    generalize hte : L[i] = t at ht
    rw [outriderlaw08_MaglevTurns_7_L4_eq, cast_lt hlt, cond_true, Row.ix (Row.mod0 row hm) encK_len (by omega) ht]
    simp only [encK, lc_cons, l0_nil, asInt_int, asStr_str, newK_eq]
    rw [wrK_of (n := 2) (get_new_self _ _) rfl (by simp) rfl, spl_all _ _ (by simp), set_new]
    have m1 : Mod [] h (h.new (.cells [.str t.1, .int .i64 t.2] false)) := (Mod.refl _ _).new _
    have g1 := get_new_self h (.cells [.str t.1, .int .i64 t.2] false)
    generalize h.new (.cells [.str t.1, .int .i64 t.2] false) = h1 at *
    have hm1 := hm.trans m1
    rw [if_pos ⟨by omega, by omega⟩]
    simp only [nnK_some', Nat.zero_add]
    rw [Int.toNat_natCast, cellK_of (o := i) ((hm1.get _ hgb (by simp)).trans gg) (by rw [List.getElem?_map, got_get _ hlt]; rfl), asInt_int, cellK_of (o := 1) g1 rfl, asInt_int, hR i hlt, wt_of ht, show (t.2 != t.2) = false by simp, cond_false, wrap_succ (by omega)]
    exact turns_L4 hR hl row hn hgb gg d (i + 1) m h1 (by omega) (by omega) hm1

theorem turns_L2 (T : Tab a tb L P R) (hmem : ∀ x ∈ R, ∃ i, i < L.length ∧ x = ((i : Nat) : Int)) (hR : ∀ i, i < L.length → ((R.count (i : Int) : Nat) : Int) = wt L i) (hl : L.length ≤ 16) (hrl : R.length ≤ 1600) (row : KRow a p L.length c L) {n : Nat} (hn : 5000 ≤ n) (hub : ub < a.next) (hgb : gb < a.next) (hne : ub ≠ gb) (hgt : gb ≠ tb) (gu : a.get ub = some (.cells ((List.replicate L.length true).map AV.bool) false)) (hp : ∀ x ∈ own p, x ≠ gb) (hrp : ∀ lp lc rp rl rc, a.get tb = some (.cells (tcs lp L.length lc P rp rl rc) false) → (∀ x ∈ own lp, x ≠ gb) ∧ ∀ x ∈ own rp, x ≠ gb) :
    ∀ (d j m : Nat) (h : H), j + d = R.length → d < m → Mod [gb] a h → h.get gb = some (.cells ((got L.length (R.take j)).map i64) false) →
    Ret (outriderlaw08_MaglevTurns_7_L2 n m p L.length c (some (tb, 0)) (some (ub, 0)) L.length (.known L.length) (some (gb, 0)) L.length gc R.length j h) TT
  | 0, j, m + 1, h, hj, _, hm, gg => by
    rw [outriderlaw08_MaglevTurns_7_L2_eq, cast_not_lt (by omega), cond_false]
    rw [List.take_of_length_le (by omega)] at gg
    exact turns_L4 hR hl (Row.mod row hm fun x hx hx' => by have := hp x hx; simp at hx'; exact this hx') hn (hm.lt hgb) gg L.length 0 n h (by omega) (by omega) (Mod.refl _ _)
  | d + 1, j, m + 1, h, hj, hf, hm, gg => by
    have hlt : j < R.length := by omega
    have hx : R[j]? = some R[j] := List.getElem?_eq_getElem hlt
    obtain ⟨k, hk, hxk⟩ := hmem _ (List.getElem_mem hlt)
    rw [hxk] at hx
    have T' : Tab h tb L P R := by
      obtain ⟨lp, lc, rp, rl, rc, g, r1, r2⟩ := T.ex
      obtain ⟨o1, o2⟩ := hrp _ _ _ _ _ g
      exact ⟨⟨lp, lc, rp, rl, rc, (hm.get _ T.lt (by simp; omega)).trans g, Row.mod r1 hm fun x hx hx' => by simp at hx'; exact o1 x hx hx', Row.mod r2 hm fun x hx hx' => by simp at hx'; exact o2 x hx hx'⟩, T.plen, hm.lt T.lt⟩
    have ur : Row h 1 (some (ub, 0)) L.length (.known L.length) ((List.replicate L.length true).map AV.bool) := .row (hm.lt hub) ((hm.get _ hub (by simp; omega)).trans gu) (by rw [List.drop_zero, List.take_of_length_le (by simp)]) (by simp) (.inr ⟨_, rfl, Nat.le_refl _⟩)
    have hu : u64 (j : Int) := ⟨by omega, by omega⟩
    rw [outriderlaw08_MaglevTurns_7_L2_eq, cast_lt hlt, cond_true, wrap64 hu]
    rw [T'.turn (fun x hx => by obtain ⟨i, _, rfl⟩ := hmem x hx; omega) (by omega) (by omega) hu ur (n := n) (by omega), Option.bind_some]
    have hmod : (j : Int) % (R.length : Int) = j := Int.emod_eq_of_lt (by omega) (by omega)
    obtain ⟨r', hr'⟩ : ∃ r', R.length = r' + 1 := ⟨R.length - 1, by omega⟩
    have hfr : fromF R (List.replicate L.length true) R.length ((j : Int) % (R.length : Int)).toNat = ((k : Int), true) := by
      rw [hmod, Int.toNat_natCast]
      conv => lhs; arg 3; rw [hr']
      exact fromF_up (by rw [Nat.mod_eq_of_lt hlt]; exact hx) (by unfold isUp; rw [Int.toNat_natCast, List.getElem?_replicate, if_pos hk]; rfl)
    rw [hfr]
    simp only
    rw [Bool.not_true, cond_false, decide_eq_false (by omega), cond_false, decide_eq_false (by omega), outriderlaw08_MaglevTurns_7_J3_eq, cond_false, if_pos ⟨by omega, by omega⟩]
    simp only [nnK_some', Nat.zero_add]
    have hcl : (R.take j).count (k : Int) ≤ 1600 := Nat.le_trans List.count_le_length (by simp; omega)
    rw [Int.toNat_natCast, cellK_of (o := k) gg (by rw [List.getElem?_map, got_get _ hk]; rfl), asInt_int, if_pos ⟨by omega, by omega⟩, wrK_one (o := k) gg (by simp [got_len]; omega) rfl, wrap_i64 (x := (((R.take j).count (k : Int) : Nat) : Int) + 1) (by omega) (by omega), wrap_succ (by omega)]
    refine turns_L2 T hmem hR hl hrl row hn hub hgb hne hgt gu hp hrp d (j + 1) m _ (by omega) (by omega) (hm.set (.inr (by simp)) _) ?_
    rw [get_set_self, List.take_add_one, hx]
    show _ = some (AObj.cells ((got L.length (R.take j ++ [(k : Int)])).map i64) false)
    rw [got_snoc _ hk, List.map_set]

theorem turns_L1 (hl : L.length ≤ 16) (hok : ∀ b ∈ L, okK b) (row : KRow a p L.length c L) {n : Nat} (hub : ub < a.next) (hp : ∀ x ∈ own p, x ≠ ub)
    (k : ∀ h, Mod [ub] a h → h.get ub = some (.cells ((List.replicate L.length true).map AV.bool) false) → Ret (outriderlaw08_MaglevTurns_7_L2 n n p L.length c (some (tb, 0)) (some (ub, 0)) L.length uc (some (gb, 0)) L.length gc (allW L) 0 h) TT) :
    ∀ (d i m : Nat) (h : H), i + d = L.length → d < m → Mod [ub] a h → h.get ub = some (.cells ((List.replicate i true ++ List.replicate d false).map AV.bool) false) →
    Ret (outriderlaw08_MaglevTurns_7_L1 n m p L.length c (some (tb, 0)) (allW (L.take i)) (some (ub, 0)) L.length uc (some (gb, 0)) L.length gc p L.length c L.length i h) TT
  | 0, i, m + 1, h, hi, _, hm, gu => by
    rw [outriderlaw08_MaglevTurns_7_L1_eq, cast_not_lt (by omega), cond_false, List.take_of_length_le (by omega)]
    refine k h hm ?_
    obtain rfl : i = L.length := by omega
    simpa using gu
  | d + 1, i, m + 1, h, hi, hf, hm, gu => by
    have hlt : i < L.length := by omega
    have ht : L[i]? = some L[i] := List.getElem?_eq_getElem hlt
    have hki := hok _ (List.getElem_mem hlt)
    have hsum : allW (L.take (i + 1)) = allW (L.take i) + L[i].2 := by rw [List.take_add_one, ht]; exact allW_snoc _ _
    generalize hte : L[i] = t at ht hki hsum
    have hb : ∀ (xs : List Bk), (∀ b ∈ xs, okK b) → 0 ≤ allW xs ∧ allW xs ≤ 100 * xs.length := by
      intro xs
      induction xs with
      | nil => intro _; exact ⟨by decide, by decide⟩
      | cons x xs ih =>
        intro hx
        obtain ⟨h1, h2⟩ := ih fun b hb => hx b (by simp [hb])
        have := hx x (by simp)
        have h3 := this.2.2.1
        have h4 := this.2.2.2
        have e : allW (x :: xs) = x.2 + allW xs := by unfold allW; simp
        rw [e, List.length_cons]
        push_cast
        omega
    obtain ⟨w1, w2⟩ := hb (L.take i) fun b hb => hok b (List.mem_of_mem_take hb)
    have hti : (L.take i).length = i := by simp; omega
    have w3 := hki.2.2.1
    have w4 := hki.2.2.2
    rw [outriderlaw08_MaglevTurns_7_L1_eq, cast_lt hlt, cond_true, Row.ix (Row.mod row hm fun x hx hx' => by simp at hx'; exact hp x hx hx') encK_len (by omega) ht]
    simp only [encK, lc_cons, l0_nil, asInt_int, asStr_str, newK_eq]
    rw [wrK_of (n := 2) (get_new_self _ _) rfl (by simp) rfl, spl_all _ _ (by simp), set_new]
    have m1 : Mod [] h (h.new (.cells [.str t.1, .int .i64 t.2] false)) := (Mod.refl _ _).new _
    have g1 := get_new_self h (.cells [.str t.1, .int .i64 t.2] false)
    have gu1 := (m1.get _ (hm.lt hub) (by simp)).trans gu
    generalize h.new (.cells [.str t.1, .int .i64 t.2] false) = h1 at *
    rw [cellK_of (o := 1) g1 rfl, asInt_int, if_pos ⟨by omega, by omega⟩]
    simp only [nnK_some', Nat.zero_add]
    rw [Int.toNat_natCast, wrK_one (o := i) gu1 (by simp <;> omega) rfl, wrap_i64 (x := allW (L.take i) + t.2) (by omega) (by omega), wrap_succ (by omega), ← hsum]
    refine turns_L1 hl hok row hub hp k d (i + 1) m _ (by omega) (by omega) ((hm.trans m1.of_nil).set (.inr (by simp)) _) ?_
    rw [get_set_self]
    congr 2
    rw [List.map_append, List.map_append, List.set_append_right _ _ (by simp), List.length_map, List.length_replicate, Nat.sub_self, List.replicate_succ (n := d), List.map_cons, List.set_cons_zero, List.replicate_succ' (n := i), List.map_append, List.append_assoc]
    rfl
end

section
variable {c0 : List AV} {p : Option (Nat × Nat)} {l : Nat} {c : Cap} {tg : Option Tgt} {cs : List AV}

theorem maglevTurns_true (w0 : Fits ks16 c0) (w1 : Arg 0 [.str, .int .i64] 24 p l c cs) : ∃ n h', outriderlaw08_MaglevTurns_7 n c0 p l c (H0 [(tg, cs)]) = some (true, h') := by
  obtain ⟨key, rfl, hk2, hk⟩ := key_of w0
  obtain ⟨L, rfl, hlb, row⟩ := open_bks (rows := [(tg, cs)]) rfl w1
  refine ⟨6000 + L.length, law_true (Q := fun _ => True) ?_⟩
  have hn : 5000 ≤ 6000 + L.length := by omega
  have hn2 : L.length < 6000 + L.length := by omega
  generalize 6000 + L.length = n at hn hn2 ⊢
  generalize H0 [(tg, cs)] = h0 at *
  rw [outriderlaw08_MaglevTurns_7_eq, newK_eq]
  have m0 : Mod [] h0 (h0.new (.cells (u8s key) false)) := (Mod.refl _ _).new _
  have g0 := get_new_self h0 (.cells (u8s key) false)
  have n0 : (h0.new (.cells (u8s key) false)).next = h0.next + 1 := rfl
  generalize h0.new (.cells (u8s key) false) = h1 at *
  rw [aggK_all (n := 16) g0 (by simp [hk2])]
  refine table_ret hk hk2 (Row.mod0 row m0) hlb hn hn2 fun z h2 m2 d2 => ?_
  simp only
  have hplt : ∀ x ∈ own p, x < h0.next := fun x hx => Row.lt row x hx
  have hn2' := m2.next
  by_cases ho : okL L
  · rw [if_pos ho] at d2
    obtain ⟨tb, ys, rfl, hy, T⟩ := d2
    have hL := ho.2.1
    have hmem : ∀ x ∈ ringOf L ys, ∃ i, i < L.length ∧ x = ((i : Nat) : Int) := fun x hx => ringOf_mem hy hx
    have hcnt : ∀ i, i < L.length → (((ringOf L ys).count (i : Int) : Nat) : Int) = wt L i := fun i hi => by
      rw [ring_count hy.nodup ((hy.mem i).2 hi)]
      have := wt_ge ho hi
      omega
    have hyl : ys.length = L.length := by rw [hy.perm.length_eq, List.length_range]
    have hrl : (ringOf L ys).length ≤ 1600 := by have := ringOf_len (wt_le ho) ys; omega
    have hall := ring_all ho hy
    rw [show ((0 : Int) != 0) = false by decide, cond_false, eqVK_ptr Try.underlying24, Option.isNone_some, outriderlaw08_MaglevTurns_7_J0_eq, cond_false, mkSlK_of h2 (by omega) (by omega), mkSlK_of _ (by omega) (by omega)]
    rw [Nat.mul_one, tile_one, tile_one]
    have m4 : Mod [] h2 ((h2.new (.cells (List.replicate L.length (.bool false)) false)).new (.cells (List.replicate L.length (.int .i64 0)) false)) := ((Mod.refl _ _).new _).new _
    have gu : ((h2.new (.cells (List.replicate L.length (.bool false)) false)).new (.cells (List.replicate L.length (.int .i64 0)) false)).get h2.next = some (.cells (List.replicate L.length (.bool false)) false) := (get_new_lt (Nat.lt_succ_self _)).trans (get_new_self _ _)
    have gg : ((h2.new (.cells (List.replicate L.length (.bool false)) false)).new (.cells (List.replicate L.length (.int .i64 0)) false)).get (h2.next + 1) = some (.cells (List.replicate L.length (.int .i64 0)) false) := get_new_self _ _
    have n4 : ((h2.new (.cells (List.replicate L.length (.bool false)) false)).new (.cells (List.replicate L.length (.int .i64 0)) false)).next = h2.next + 2 := rfl
    rw [show (h2.new (.cells (List.replicate L.length (.bool false)) false)).next = h2.next + 1 from rfl]
    generalize (h2.new (.cells (List.replicate L.length (.bool false)) false)).new (.cells (List.replicate L.length (.int .i64 0)) false) = h4 at *
    have T4 := T.mod0 m4
    have hTlt := T.lt
    have row4 := Row.mod0 row ((m0.trans m2).trans m4)
    refine turns_L1 (a := h4) hL ho.2.2.1 row4 (ub := h2.next) (by omega) (fun x hx => by have := hplt x hx; omega) (fun h5 m5 gu5 => ?_) L.length 0 n h4 (by omega) (by omega) (Mod.refl _ _) (by rw [gu, List.replicate_zero, List.nil_append, List.map_replicate])
    have hn5 := m5.next
    rw [← hall]
    obtain ⟨lp, lc, rp, rl, rc, g, r1, r2⟩ := T.ex
    have hlp : ∀ x ∈ own lp, x < h2.next := fun x hx => Row.lt r1 x hx
    have hrp : ∀ x ∈ own rp, x < h2.next := fun x hx => Row.lt r2 x hx
    have g5 : h5.get tb = some (.cells (tcs lp L.length lc (placesOf key L ys) rp rl rc) false) := (m5.get _ (by omega) (by simp; omega)).trans ((m4.get _ hTlt (by simp)).trans g)
    have T5 : Tab h5 tb L (placesOf key L ys) (ringOf L ys) := ⟨⟨lp, lc, rp, rl, rc, g5, Row.mod (Row.mod0 r1 m4) m5 fun x hx hx' => by have := hlp x hx; simp at hx'; omega, Row.mod (Row.mod0 r2 m4) m5 fun x hx hx' => by have := hrp x hx; simp at hx'; omega⟩, T.plen, by omega⟩
    refine turns_L2 T5 hmem hcnt hL hrl (Row.mod row4 m5 fun x hx hx' => by have := hplt x hx; simp at hx'; omega) hn (ub := h2.next) (gb := h2.next + 1) (by omega) (by omega) (by omega) (by omega) gu5 (fun x hx => by have := hplt x hx; omega) (fun lp' lc' rp' rl' rc' g' => ?_) (ringOf L ys).length 0 n h5 (by omega) (by omega) (Mod.refl _ _) ?_
    · rw [g5] at g'
      unfold tcs at g'
      simp only [Option.some.injEq, AObj.cells.injEq, List.cons.injEq, AV.slice.injEq, and_true, List.append_cancel_left_eq] at g'
      obtain ⟨⟨rfl, _⟩, rfl, _⟩ := g'
      exact ⟨fun x hx => by have := hlp x hx; omega, fun x hx => by have := hrp x hx; omega⟩
    · rw [List.take_zero, got_nil, List.map_replicate]
      exact (m5.get _ (by omega) (by simp)).trans gg
  · rw [if_neg ho] at d2
    subst d2
    simp only
    rw [show ((80 : Int) != 0) = true by decide, cond_true, outriderlaw08_MaglevTurns_7_J0_eq, cond_true]
    exact alive_TT h2 hn
end

end Go.Ev.Try
