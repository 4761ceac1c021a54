/- Chapter 10: the document's own: Step, Life, ahead, Find, Without, With, Expire. -/
import Derived.Test.YtgaflglknjjalaaFw11
set_option linter.all false
namespace Go.Ev.Try
set_option maxRecDepth 10000
open Go.Proofs

abbrev ERow (h : H) (p : Option (Nat × Nat)) (len : Nat) (c : Cap) (l : List En) : Prop := Row h 8 p len c (l.flatMap encE)
abbrev EGrow (a h : H) (p : Option (Nat × Nat)) (len : Nat) (c : Cap) (l : List En) : Prop := Grow a h 8 p len c (l.flatMap encE)

theorem refStep_eq (st fl : Int) (n : Nat) (h : H) : outriderref10_Step_12 n st fl h = some (stepI st fl, h) := by
  rw [outriderref10_Step_12_eq]
  unfold stepI
  by_cases h4 : st = 4
  · subst h4; rfl
  · rw [show (st == 4) = false by simpa using h4, cond_false, if_neg h4]
    by_cases h5 : iand .i64 fl 5 = 0
    · rw [h5, show ((0 : Int) != 0) = false from rfl, cond_false, if_neg (by simp)]
      by_cases h1 : st = 1
      · subst h1
        rw [show ((1 : Int) == 1) = true from rfl, cond_true, outriderref10_Step_12_J0_eq]
        by_cases h6 : iand .i64 fl 18 = 16
        · rw [h6]; rfl
        · rw [show (iand .i64 fl 18 == 16) = false by simpa using h6, cond_false, show ((1 : Int) == 3) = false from rfl, cond_false, outriderref10_Step_12_J1_eq, cond_false, if_neg (by simp [h6]), if_neg (by simp)]
      · rw [show (st == 1) = false by simpa using h1, cond_false, outriderref10_Step_12_J0_eq, cond_false, if_neg (by simp [h1])]
        by_cases h3 : st = 3
        · subst h3
          rw [show ((3 : Int) == 3) = true from rfl, cond_true, outriderref10_Step_12_J1_eq]
          by_cases h6 : iand .i64 fl 18 = 2
          · rw [h6]; rfl
          · rw [show (iand .i64 fl 18 == 2) = false by simpa using h6, cond_false, if_neg (by simp [h6])]
        · rw [show (st == 3) = false by simpa using h3, cond_false, outriderref10_Step_12_J1_eq, cond_false, if_neg (by simp [h3])]
    · rw [show (iand .i64 fl 5 != 0) = true by simpa using h5, cond_true, if_pos h5]

theorem refLife_ret (st : Int) (n : Nat) (h : H) : Ret (outriderref10_Life_14 n st h) fun r h' => r = lifeI st ∧ Mod [] h h' := by
  rw [outriderref10_Life_14_eq]
  refine newK_ret fun i1 h1 g1 e1 n1 m1 => ?_
  by_cases h0 : st < 0
  · rw [decide_eq_true h0, cond_true, outriderref10_Life_14_J0_eq, cond_true]
    exact .pure ⟨(lifeI_zero.2 (by omega)).symm, m1⟩
  · rw [decide_eq_false h0, cond_false, outriderref10_Life_14_J0_eq]
    by_cases h4 : st > 4
    · rw [decide_eq_true h4, cond_true]
      exact .pure ⟨(lifeI_zero.2 (by omega)).symm, m1⟩
    · have : st = 0 ∨ st = 1 ∨ st = 2 ∨ st = 3 ∨ st = 4 := by omega
      rw [decide_eq_false h4, cond_false, if_pos ⟨by omega, by omega⟩, nnK_some', Nat.zero_add]
      rcases this with rfl | rfl | rfl | rfl | rfl
      · rw [g1.cell (v := .int .i64 0) rfl, asInt_int]; exact .pure ⟨rfl, m1⟩
      · rw [g1.cell (v := .int .i64 60) rfl, asInt_int]; exact .pure ⟨rfl, m1⟩
      · rw [g1.cell (v := .int .i64 900) rfl, asInt_int]; exact .pure ⟨rfl, m1⟩
      · rw [g1.cell (v := .int .i64 30) rfl, asInt_int]; exact .pure ⟨rfl, m1⟩
      · rw [g1.cell (v := .int .i64 120) rfl, asInt_int]; exact .pure ⟨rfl, m1⟩

theorem wrong_eq (ba now : Int) (n : Nat) (h : H) : outriderref10_wrong_65 n ba now h = some (decide (Wrong ba now), h) := by
  rw [outriderref10_wrong_65_eq]
  by_cases h1 : ba < 0
  · rw [decide_eq_true h1, cond_true, decide_eq_true (show Wrong ba now from .inl h1)]
  · rw [decide_eq_false h1, cond_false]
    by_cases h2 : ba > 15
    · rw [decide_eq_true h2, cond_true, decide_eq_true (show Wrong ba now by unfold Wrong; omega)]
    · rw [decide_eq_false h2, cond_false]
      by_cases h3 : now < 0
      · rw [decide_eq_true h3, cond_true, decide_eq_true (show Wrong ba now by unfold Wrong; omega)]
      · rw [decide_eq_false h3, cond_false, show decide (now > 1099511626776) = decide (Wrong ba now) by rw [Bool.eq_iff_iff]; simp [Wrong]; omega]

theorem aheadF_spec (a b : Fl) : aheadF a b = if a.pr ≠ b.pr then decide (a.pr < b.pr) else if a.fr ≠ b.fr then sLt a.fr b.fr else if a.po ≠ b.po then decide (a.po < b.po) else if a.to ≠ b.to then sLt a.to b.to else decide (a.de < b.de) := by
  have key : (aheadF a b = true) ↔ (if a.pr ≠ b.pr then a.pr < b.pr else if a.fr ≠ b.fr then sLt a.fr b.fr = true else if a.po ≠ b.po then a.po < b.po else if a.to ≠ b.to then sLt a.to b.to = true else a.de < b.de) := by
    rw [aheadF_iff]
    unfold cmpF
    by_cases h1 : a.pr = b.pr
    · rw [if_neg (by simpa using h1), cmpI_zero.2 h1]
      by_cases h2 : a.fr = b.fr
      · rw [if_neg (by simpa using h2), cmpB_zero.2 h2]
        by_cases h3 : a.po = b.po
        · rw [if_neg (by simpa using h3), cmpI_zero.2 h3]
          by_cases h4 : a.to = b.to
          · rw [if_neg (by simpa using h4), cmpB_zero.2 h4]
            simp only [orI, ne_eq, not_true_eq_false, if_false]
            exact cmpI_neg
          · have : cmpB a.to b.to ≠ 0 := fun e => h4 (cmpB_zero.1 e)
            rw [if_pos h4]
            simp only [orI, ne_eq, not_true_eq_false, if_false]
            rw [if_pos this]
            exact cmpB_neg
        · have : cmpI a.po b.po ≠ 0 := fun e => h3 (cmpI_zero.1 e)
          rw [if_pos h3]
          simp only [orI, ne_eq, not_true_eq_false, if_false]
          rw [if_pos this]
          exact cmpI_neg
      · have : cmpB a.fr b.fr ≠ 0 := fun e => h2 (cmpB_zero.1 e)
        rw [if_pos h2]
        simp only [orI, ne_eq, not_true_eq_false, if_false]
        rw [if_pos this]
        exact cmpB_neg
    · have : cmpI a.pr b.pr ≠ 0 := fun e => h1 (cmpI_zero.1 e)
      rw [if_pos h1]
      simp only [orI]
      rw [if_pos this]
      exact cmpI_neg
  rw [Bool.eq_iff_iff, key]
  repeat' split
  all_goals simp

theorem ahead_ret (a b : Fl) (n : Nat) (h : H) : Ret (outriderref10_ahead_78 n a.pr a.fr a.to a.po a.de b.pr b.fr b.to b.po b.de h) fun r h' => r = aheadF a b ∧ Mod [] h h' := by
  rw [outriderref10_ahead_78_eq, aheadF_spec]
  refine newK_ret fun i1 h1 g1 e1 n1 m1 => ?_
  refine newK_ret fun i3 h3 g3 e3 n3 m3 => ?_
  have g1' := g1.mod0 m3
  have mm := m1.trans m3
  have hb : ∀ x y : ByteArray, (!(x.toList == y.toList)) = !decide (x = y) := fun x y => by rw [str_eq]
  rw [g1'.cell (o := 0) rfl, asInt_int, g3.cell (o := 0) rfl, asInt_int]
  by_cases c1 : a.pr = b.pr
  · rw [show (a.pr != b.pr) = false by simpa using c1, cond_false, if_neg (by simpa using c1), g1'.cell (o := 1) rfl, asStr_str, g3.cell (o := 1) rfl, asStr_str, hb]
    by_cases c2 : a.fr = b.fr
    · rw [decide_eq_true c2, Bool.not_true, cond_false, if_neg (by simpa using c2), g1'.cell (o := 3) rfl, asInt_int, g3.cell (o := 3) rfl, asInt_int]
      by_cases c3 : a.po = b.po
      · rw [show (a.po != b.po) = false by simpa using c3, cond_false, if_neg (by simpa using c3), g1'.cell (o := 2) rfl, asStr_str, g3.cell (o := 2) rfl, asStr_str, hb]
        by_cases c4 : a.to = b.to
        · rw [decide_eq_true c4, Bool.not_true, cond_false, if_neg (by simpa using c4), g1'.cell (o := 4) rfl, asInt_int, g3.cell (o := 4) rfl, asInt_int]
          exact .pure ⟨rfl, mm⟩
        · rw [decide_eq_false c4, Bool.not_false, cond_true, if_pos c4, g1'.cell (o := 2) rfl, asStr_str, g3.cell (o := 2) rfl, asStr_str]
          exact .pure ⟨rfl, mm⟩
      · rw [show (a.po != b.po) = true by simpa using c3, cond_true, if_pos c3, g1'.cell (o := 3) rfl, asInt_int, g3.cell (o := 3) rfl, asInt_int]
        exact .pure ⟨rfl, mm⟩
    · rw [decide_eq_false c2, Bool.not_false, cond_true, if_pos c2, g1'.cell (o := 1) rfl, asStr_str, g3.cell (o := 1) rfl, asStr_str]
      exact .pure ⟨rfl, mm⟩
  · rw [show (a.pr != b.pr) = true by simpa using c1, cond_true, if_pos c1, g1'.cell (o := 0) rfl, asInt_int, g3.cell (o := 0) rfl, asInt_int]
    exact .pure ⟨rfl, mm⟩

/-! ### Find -/

theorem ERow.head {h : H} {p : Option (Nat × Nat)} {len : Nat} {c : Cap} {l : List En} (r : ERow h p len c l) {k : Nat} {e : En} (he : l[k]? = some e) {β : Type} (f : List AV → Option β) :
    (if 0 ≤ (k : Int) ∧ (k : Int) < (Nat.cast len : Int) then nnK p fun b o => aggK h b (o + (k : Int).toNat * 8) 5 f else none) = f (encF e.f) := by
  have hlen := Row.len r encE_len (by omega)
  have hk := (List.getElem?_eq_some_iff.1 he).1
  rw [if_pos ⟨by omega, by omega⟩, Int.toNat_natCast]
  have hf := flat_at encE_len he
  unfold ERow at r
  generalize l.flatMap encE = vs at r hf
  cases r with
  | nil => omega
  | row hb hg hv hl hc =>
    rename_i b o cs ro
    rw [nnK_some', aggK_of hg (by omega)]
    congr 1
    rw [← hv, List.drop_take, List.drop_drop, List.take_take, Nat.min_eq_left (by omega)] at hf
    have := congrArg (List.take 5) hf
    rw [List.take_take, Nat.min_eq_left (by omega)] at this
    exact this

theorem Find_loop {h : H} {p : Option (Nat × Nat)} {len : Nat} {c : Cap} {l : List En} (r : ERow h p len c l) (hl : len < 100000) {i1 : Nat} {f : Fl} (g1 : At h i1 (.cells (encF f) false)) (n : Nat) : ∀ (d i m : Nat), i + d = len → d < m →
    outriderref10_Find_43_L0 n m p len c (some (i1, 0)) i h = some (findI (l.drop i) f i, h)
  | 0, i, m + 1, hi, _ => by
    have hlen := Row.len r encE_len (by omega)
    rw [outriderref10_Find_43_L0_eq, cast_not_lt (by omega), cond_false, List.drop_of_length_le (by omega)]
    rfl
  | d + 1, i, m + 1, hi, hm => by
    have hlen := Row.len r encE_len (by omega)
    have hx : l[i]? = some (l[i]'(by omega)) := List.getElem?_eq_getElem _
    rw [outriderref10_Find_43_L0_eq, cast_lt (by omega), cond_true, List.drop_eq_getElem_cons (by omega)]
    generalize l[i]'(by omega) = e at hx
    rw [ERow.head r hx, rdF, nnK_some', g1.all (encF_len f), rdF, eqF_dec]
    unfold findI
    by_cases he : e.f = f
    · rw [decide_eq_true he, cond_true, if_pos he]
    · rw [decide_eq_false he, cond_false, if_neg he, wrap_succ (by omega)]
      exact Find_loop r hl g1 n d (i + 1) m (by omega) (by omega)
theorem Find_ret {h : H} {p : Option (Nat × Nat)} {len : Nat} {c : Cap} {l : List En} (r : ERow h p len c l) (hl : len < 100000) (f : Fl) {n : Nat} (hn : 10000000 ≤ n) : Ret (outriderref10_Find_43 n p len c f.pr f.fr f.to f.po f.de h) fun z h' => z = findI l f 0 ∧ Mod [] h h' := by
  rw [outriderref10_Find_43_eq]
  refine newK_ret fun i1 h1 g1 e1 n1 m1 => ?_
  have := Find_loop (f := f) (r.mod0 m1) hl g1 n len 0 n (by omega) (by omega)
  rw [List.drop_zero] at this
  rw [show (0 : Int) = ((0 : Nat) : Int) from rfl, this]
  exact .pure ⟨rfl, m1⟩
theorem findI_cases (f : Fl) : ∀ (l : List En) (i : Nat), (getE l f = none ∧ findI l f i = -1) ∨ ∃ (k : Nat) (e : En), getE l f = some e ∧ l[k]? = some e ∧ findI l f i = ((i + k : Nat) : Int)
  | [], i => .inl ⟨rfl, rfl⟩
  | x :: l, i => by
    unfold findI
    by_cases h : x.f = f
    · exact .inr ⟨0, x, by simp [getE, h], rfl, by rw [if_pos h]; rfl⟩
    · have hg : getE (x :: l) f = getE l f := by unfold getE; rw [List.find?_cons]; simp [h]
      rw [if_neg h, hg]
      rcases findI_cases f l (i + 1) with ⟨h1, h2⟩ | ⟨k, e, h1, h2, h3⟩
      · exact .inl ⟨h1, h2⟩
      · exact .inr ⟨k + 1, e, h1, h2, by rw [h3]; congr 1; omega⟩

/-! ### Without, With -/

theorem without_snoc (l : List En) (e : En) (f : Fl) : without (l ++ [e]) f = without l f ++ if e.f = f then [] else [e] := by
  unfold without
  rw [List.filter_append]
  congr 1
  by_cases h : e.f = f <;> simp [h]

theorem Without_loop {a : H} {p : Option (Nat × Nat)} {len : Nat} {c : Cap} {l : List En} (r : ERow a p len c l) (hl : len < 100000) {i1 : Nat} {f : Fl} (g1 : At a i1 (.cells (encF f) false)) (n : Nat) : ∀ (d i m : Nat) (q : Option (Nat × Nat)) (ql : Nat) (qc : Cap) (h : H), i + d = len → d < m → EGrow a h q ql qc (without (l.take i) f) → Mod [] a h →
    Ret (outriderref10_Without_57_L0 n m p len c (some (i1, 0)) q ql qc i h) fun z h' => EGrow a h' z.1 z.2.1 z.2.2 (without l f) ∧ Mod [] a h'
  | 0, i, m + 1, q, ql, qc, h, hi, _, g, hm => by
    have hlen := Row.len r encE_len (by omega)
    rw [outriderref10_Without_57_L0_eq, cast_not_lt (by omega), cond_false]
    rw [List.take_of_length_le (by omega)] at g
    exact .pure ⟨g, hm⟩
  | d + 1, i, m + 1, q, ql, qc, h, hi, hm', g, hm => by
    have hlen := Row.len r encE_len (by omega)
    have hx : l[i]? = some (l[i]'(by omega)) := List.getElem?_eq_getElem _
    generalize l[i]'(by omega) = e at hx
    have hql : (without (l.take i) f).length = ql := Row.len g.row encE_len (by omega)
    have hwl : (without (l.take i) f).length ≤ i := Nat.le_trans (List.length_filter_le _ _) (by simp; omega)
    have hs : without (l.take (i + 1)) f = without (l.take i) f ++ if e.f = f then [] else [e] := by rw [List.take_add_one, hx, Option.toList_some, without_snoc]
    have r' := Row.mod0 r hm
    rw [outriderref10_Without_57_L0_eq, cast_lt (by omega), cond_true, ERow.head r' hx, rdF, nnK_some', (g1.mod0 hm).all (encF_len f), rdF, eqF_dec]
    by_cases he : e.f = f
    · rw [decide_eq_true he, Bool.not_true, cond_false, wrap_succ (by omega)]
      rw [if_pos he, List.append_nil] at hs
      exact Without_loop r hl g1 n d (i + 1) m q ql qc h (by omega) (by omega) (by rw [hs]; exact g) hm
    · rw [decide_eq_false he, Bool.not_false, cond_true, Row.ix r' encE_len (by omega) hx, rdE, newK_eq]
      rw [if_neg he] at hs
      refine Grow.push (size := 8) (bytes := 80) g hm.next (xs := encE e) rfl rfl (by omega) (by omega) (by omega) fun p' c' h' g' m' => ?_
      rw [wrap_succ (by omega)]
      refine Without_loop r hl g1 n d (i + 1) m p' (ql + 1) c' h' (by omega) (by omega) ?_ (hm.push g m')
      rw [hs]
      show Grow a h' 8 p' (ql + 1) c' ((without (l.take i) f ++ [e]).flatMap encE)
      rw [List.flatMap_append]
      simpa using g'
theorem Without_ret {h : H} {p : Option (Nat × Nat)} {len : Nat} {c : Cap} {l : List En} (r : ERow h p len c l) (hl : len < 100000) (f : Fl) {n : Nat} (hn : 10000000 ≤ n) : Ret (outriderref10_Without_57 n p len c f.pr f.fr f.to f.po f.de h) fun z h' => EGrow h h' z.1 z.2.1 z.2.2 (without l f) ∧ Mod [] h h' := by
  rw [outriderref10_Without_57_eq]
  refine newK_ret fun i1 h1 g1 e1 n1 m1 => ?_
  exact (Without_loop (f := f) (Row.mod0 r m1) hl g1 n len 0 n none 0 (.known 0) h1 (by omega) (by omega) .nil (Mod.refl _ _)).mono fun z h' ⟨q1, q2⟩ => ⟨Grow.base q1 m1.next, m1.trans q2⟩

theorem With_loop {a : H} {p : Option (Nat × Nat)} {len : Nat} {c : Cap} {l : List En} (r : ERow a p len c l) (hl : len < 100000) {i1 : Nat} {e : En} (g1 : At a i1 (.cells (encE e) false)) (n : Nat) : ∀ (d i m : Nat) (acc : List En) (dn : Bool) (q : Option (Nat × Nat)) (ql : Nat) (qc : Cap) (h : H), i + d = len → d < m → EGrow a h q ql qc acc → acc.length ≤ i + (if dn then 1 else 0) → Mod [] a h →
    Ret (outriderref10_With_66_L0 n m p len c (some (i1, 0)) q ql qc dn i h) fun z h' => EGrow a h' z.1 z.2.1 z.2.2 (acc ++ if dn then l.drop i else ins e (l.drop i)) ∧ Mod [] a h'
  | 0, i, m + 1, acc, dn, q, ql, qc, h, hi, _, g, ha, hm => by
    have hlen := Row.len r encE_len (by omega)
    have hql : acc.length = ql := Row.len g.row encE_len (by omega)
    have hal : acc.length ≤ i + 1 := by revert ha; split <;> omega
    rw [outriderref10_With_66_L0_eq, cast_not_lt (by omega), cond_false, List.drop_of_length_le (by omega)]
    cases dn with
    | true =>
      rw [Bool.not_true, cond_false]
      refine .pure ⟨?_, hm⟩
      simpa using g
    | false =>
      rw [Bool.not_false, cond_true, nnK_some', (g1.mod0 hm).all (encE_len e), rdE, newK_eq]
      refine Grow.push (size := 8) (bytes := 80) g hm.next (xs := encE e) rfl rfl (by omega) (by omega) (by omega) fun p' c' h' g' m' => ?_
      refine .pure ⟨?_, hm.push g m'⟩
      show Grow a h' 8 p' (ql + 1) c' ((acc ++ [e]).flatMap encE)
      rw [List.flatMap_append]
      simpa using g'
  | d + 1, i, m + 1, acc, dn, q, ql, qc, h, hi, hm', g, ha, hm => by
    have hlen := Row.len r encE_len (by omega)
    have hx : l[i]? = some (l[i]'(by omega)) := List.getElem?_eq_getElem _
    have hdr : l.drop i = l[i]'(by omega) :: l.drop (i + 1) := List.drop_eq_getElem_cons (by omega)
    generalize l[i]'(by omega) = x at hx hdr
    -- the entry at i is laid behind
    have J2 : ∀ (acc : List En) (dn : Bool) (q : Option (Nat × Nat)) (ql : Nat) (qc : Cap) (h : H), EGrow a h q ql qc acc → acc.length ≤ i + (if dn then 1 else 0) → Mod [] a h →
        Ret (outriderref10_With_66_J2 n m p len c (some (i1, 0)) q ql qc dn i h) fun z h' => EGrow a h' z.1 z.2.1 z.2.2 (acc ++ x :: if dn then l.drop (i + 1) else ins e (l.drop (i + 1))) ∧ Mod [] a h' := by
      intro acc dn q ql qc h g ha hm
      have hql : acc.length = ql := Row.len g.row encE_len (by omega)
      have hal : acc.length ≤ i + 1 := by revert ha; split <;> omega
      rw [outriderref10_With_66_J2_eq, Row.ix (Row.mod0 r hm) encE_len (by omega) hx, rdE, newK_eq]
      refine Grow.push (size := 8) (bytes := 80) g hm.next (xs := encE x) rfl rfl (by omega) (by omega) (by omega) fun p' c' h' g' m' => ?_
      rw [wrap_succ (by omega)]
      have g2 : EGrow a h' p' (ql + 1) c' (acc ++ [x]) := by
        show Grow a h' 8 p' (ql + 1) c' ((acc ++ [x]).flatMap encE)
        rw [List.flatMap_append]
        simpa using g'
      have := With_loop r hl g1 n d (i + 1) m (acc ++ [x]) dn p' (ql + 1) c' h' (by omega) (by omega) g2 (by simp; omega) (hm.push g m')
      simpa using this
    have hql : acc.length = ql := Row.len g.row encE_len (by omega)
    have hal : acc.length ≤ i + 1 := by revert ha; split <;> omega
    rw [outriderref10_With_66_L0_eq, cast_lt (by omega), cond_true, hdr]
    cases dn with
    | true =>
      rw [Bool.not_true, cond_false, outriderref10_With_66_J1_eq, cond_false]
      exact J2 acc true q ql qc h g ha hm
    | false =>
      rw [Bool.not_false, cond_true, nnK_some', (g1.mod0 hm).agg (vs := encF e.f) rfl (by simp [encE]), rdF, ERow.head (Row.mod0 r hm) hx, rdF]
      refine (ahead_ret e.f x.f n h).bind fun z h1 ⟨q1, q2⟩ => ?_
      dsimp only
      have hm1 := hm.trans q2
      have gg := g.mod0 q2
      rw [q1, outriderref10_With_66_J1_eq]
      unfold ins
      cases hah : aheadF e.f x.f with
      | true =>
        rw [cond_true, nnK_some', (g1.mod0 hm1).all (encE_len e), rdE, newK_eq]
        refine Grow.push (size := 8) (bytes := 80) gg hm1.next (xs := encE e) rfl rfl (by omega) (by omega) (by omega) fun p' c' h' g' m' => ?_
        have g2 : EGrow a h' p' (ql + 1) c' (acc ++ [e]) := by
          show Grow a h' 8 p' (ql + 1) c' ((acc ++ [e]).flatMap encE)
          rw [List.flatMap_append]
          simpa using g'
        have := J2 (acc ++ [e]) true p' (ql + 1) c' h' g2 (by simp at ha ⊢; omega) (hm1.push gg m')
        simpa using this
      | false =>
        rw [cond_false]
        exact J2 acc false q ql qc h1 gg ha hm1

end Go.Ev.Try
