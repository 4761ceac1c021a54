/- Chapter 11: the document's boards. -/
import Derived.Test.YtjbojcdmfkmkiaaHp6
set_option linter.all false
namespace Go.Ev.Try
set_option maxRecDepth 10000
open Go.Proofs

def encP (s : Bool × Int) : List AV := [.bool s.1, i64 s.2]
theorem encP_len : ∀ s : Bool × Int, (encP s).length = 2 := fun _ => rfl
abbrev PRow (h : H) (p : Option (Nat × Nat)) (len : Nat) (c : Cap) (st : List (Bool × Int)) : Prop := Row h 2 p len c (st.flatMap encP)
abbrev PGrow (a h : H) (p : Option (Nat × Nat)) (len : Nat) (c : Cap) (st : List (Bool × Int)) : Prop := Grow a h 2 p len c (st.flatMap encP)

/-- a document's board's cells -/
def bcells (r : Rul) (p : Option (Nat × Nat)) (pl : Nat) (pc : Cap) (now : Int) (q : Option (Nat × Nat)) (ql : Nat) (qc : Cap) : List AV := [.int .i64 r.rise, .int .i64 r.fall, .int .i64 r.every, .slice p pl pc, .int .i64 now, .slice q ql qc]

theorem spl_flat {st : List (Bool × Int)} {k : Nat} (hk : k < st.length) (s : Bool × Int) : spl (st.flatMap encP) (k * 2) (encP s) = (st.set k s).flatMap encP := by
  apply List.ext_getElem?
  intro i
  have hlen : (st.flatMap encP).length = st.length * 2 := length_flat encP_len st
  rw [spl_get _ _ _ (by rw [hlen, encP_len]; omega), encP_len]
  have hi : i = (i / 2) * 2 + i % 2 := by omega
  by_cases hq : i / 2 < st.length
  · have h1 : (st.flatMap encP)[i]? = (encP st[i / 2])[i % 2]? := by
      have := flat_get encP_len (List.getElem?_eq_getElem hq) (show i % 2 < 2 by omega)
      rwa [← hi] at this
    have hq' : i / 2 < (st.set k s).length := by rw [List.length_set]; exact hq
    have h2 : ((st.set k s).flatMap encP)[i]? = (encP (st.set k s)[i / 2])[i % 2]? := by
      have := flat_get encP_len (List.getElem?_eq_getElem hq') (show i % 2 < 2 by omega)
      rwa [← hi] at this
    rw [h2, List.getElem_set]
    by_cases hik : k = i / 2
    · rw [if_pos (by omega), if_pos hik]
      congr 1; omega
    · rw [if_neg (by omega), if_neg hik, h1]
  · rw [if_neg (by omega), List.getElem?_eq_none (by rw [hlen]; omega), List.getElem?_eq_none (by rw [length_flat encP_len, List.length_set]; omega)]

/-! ### Up, SameUp -/

theorem refUp_loop {a : H} {b : Nat} {r : Rul} {p : Option (Nat × Nat)} {pl : Nat} {pc : Cap} {now : Int} {q : Option (Nat × Nat)} {ql : Nat} {qc : Cap} {st : List (Bool × Int)} (hb : b < a.next) (g : a.get b = some (.cells (bcells r p pl pc now q ql qc) false)) (hs : PRow a p pl pc st) (hl : st.length < 1000000) (n : Nat) : ∀ (d k m : Nat) (u : Option (Nat × Nat)) (ul : Nat) (uc : Cap) (h : H), k + d = st.length → d < m → Grow a h 1 u ul uc ((st.take k).map fun s => AV.bool s.1) → Mod [] a h →
    Ret (outriderref11_Up_25_L0 n m (some (b, 0)) u ul uc k h) fun z h' => Grow a h' 1 z.1 z.2.1 z.2.2 (st.map fun s => AV.bool s.1) ∧ Mod [] a h'
  | 0, k, m + 1, u, ul, uc, h, hk, _, gu, hm => by
    have hlen := Row.len hs encP_len (by omega)
    rw [outriderref11_Up_25_L0_eq]
    simp only [nnK_some', Nat.zero_add]
    rw [cellK_of (o := 3) ((hm.get _ hb (by simp)).trans g) rfl, asSlice_slice, cast_not_lt (by omega), cond_false]
    rw [List.take_of_length_le (by omega)] at gu
    exact .pure ⟨gu, hm⟩
  | d + 1, k, m + 1, u, ul, uc, h, hk, hf, gu, hm => by
    have hlen := Row.len hs encP_len (by omega)
    have hx : st[k]? = some st[k] := List.getElem?_eq_getElem (by omega)
    have hul : ul = k := by have := gu.row.length; simp at this; omega
    have g' := (hm.get _ hb (by simp)).trans g
    rw [outriderref11_Up_25_L0_eq]
    simp only [nnK_some', Nat.zero_add]
    rw [cellK_of (o := 3) g' rfl, asSlice_slice, cast_lt (by omega), cond_true, cellK_of (o := 3) g' rfl, asSlice_slice, Row.ix20 (Row.mod0 hs hm) encP_len hx (v := .bool (st[k]).1) rfl, asBool_bool, newK_eq, wrap_succ (by omega)]
    refine Grow.push (size := 1) (bytes := 1) gu hm.next (xs := [.bool (st[k]).1]) rfl rfl (by omega) (by omega) (by omega) fun p' c' h' g' m' => ?_
    refine refUp_loop hb g hs hl n d (k + 1) m p' (ul + 1) c' h' (by omega) (by omega) ?_ (hm.push gu m')
    rw [List.take_add_one, hx, List.map_append]
    exact g'

theorem refUp {h : H} {r : Rul} {p : Option (Nat × Nat)} {pl : Nat} {pc : Cap} {now : Int} {q : Option (Nat × Nat)} {ql : Nat} {qc : Cap} {st : List (Bool × Int)} (hs : PRow h p pl pc st) (hl : st.length < 1000000) {n : Nat} (hn : st.length < n) :
    Ret (outriderref11_Up_25 n r.rise r.fall r.every p pl pc now q ql qc h) fun z h' => Row h' 1 z.1 z.2.1 z.2.2 (st.map fun s => AV.bool s.1) ∧ Mod [] h h' := by
  rw [outriderref11_Up_25_eq, newK_eq]
  have m0 : Mod [] h (h.new (.cells (bcells r p pl pc now q ql qc) false)) := (Mod.refl _ _).new _
  exact (refUp_loop (Nat.lt_succ_self _) (get_new_self h (.cells (bcells r p pl pc now q ql qc) false)) (Row.mod0 hs m0) hl n st.length 0 n none 0 (.known 0) _ (by omega) hn .nil (Mod.refl _ _)).mono fun z h' ⟨g, m⟩ => ⟨g.row, m0.trans m⟩

theorem SameUp_loop {h : H} {p q : Option (Nat × Nat)} {pl ql : Nat} {pc qc : Cap} {xs : List Bool} (hp : Row h 1 p pl pc (xs.map AV.bool)) (hq : Row h 1 q ql qc (xs.map AV.bool)) (hl : xs.length < 1000000) (n : Nat) : ∀ (d j m : Nat), j + d = xs.length → d < m → outriderref11_SameUp_23_L0 n m p pl pc q ql qc j h = some (true, h)
  | 0, j, m + 1, hj, _ => by
    have h1 := hp.len1
    rw [outriderref11_SameUp_23_L0_eq, cast_not_lt (by omega), cond_false]
  | d + 1, j, m + 1, hj, hf => by
    have h1 := hp.len1
    have hx : xs[j]? = some xs[j] := List.getElem?_eq_getElem (by omega)
    rw [outriderref11_SameUp_23_L0_eq, cast_lt (by omega), cond_true, hp.ix1 hx, asBool_bool, hq.ix1 hx, asBool_bool, show (xs[j] == xs[j]) = true by simp, Bool.not_true, cond_false, wrap_succ (by omega)]
    exact SameUp_loop hp hq hl n d (j + 1) m (by omega) (by omega)
theorem SameUp_eq {h : H} {p q : Option (Nat × Nat)} {pl ql : Nat} {pc qc : Cap} {xs : List Bool} (hp : Row h 1 p pl pc (xs.map AV.bool)) (hq : Row h 1 q ql qc (xs.map AV.bool)) (hl : xs.length < 1000000) {n : Nat} (hn : xs.length < n) : outriderref11_SameUp_23 n p pl pc q ql qc h = some (true, h) := by
  have h1 := hp.len1
  have h2 := hq.len1
  rw [outriderref11_SameUp_23_eq, show (((pl : Nat) : Int) != (ql : Nat)) = false by rw [← h1, ← h2]; simp, cond_false]
  exact SameUp_loop hp hq hl n xs.length 0 n (by omega) hn

/-! ### Lay -/

theorem refLay_L1 {r : Rul} {many : Nat} (hm16 : many ≤ 16) {a : H} {b4 b6 : Nat} (h46 : b4 ≠ b6) {n : Nat} (hn : 100 ≤ n) : ∀ (d k m : Nat) (h : H) (p : Option (Nat × Nat)) (pc : Cap) (q : Option (Nat × Nat)) (ql : Nat) (qc : Cap), k + d = many → d < m → b4 < h.next → b6 < h.next → a.next ≤ b4 → a.next ≤ b6 → Mod [] a h → (∃ cs, h.get b4 = some (.cells cs false) ∧ cs.length = 6) → h.get b6 = some (.cells (bcells r p k pc 0 q ql qc) false) → PGrow a h p k pc (List.replicate k (false, 0)) → TGrow a h q ql qc (layT k) → (∀ x ∈ own q, x ∉ own p) → b4 ∉ own p → b4 ∉ own q → b6 ∉ own p → b6 ∉ own q →
    Ret (outriderref11_Lay_18_L1 n m many (some (b4, 0)) (some (b6, 0)) k h) fun z h' => Mod [] a h' ∧ ∃ p pc q ql qc, z = (r.rise, r.fall, r.every, p, many, pc, 0, q, ql, qc, true) ∧ PRow h' p many pc (List.replicate many (false, 0)) ∧ TRow h' q ql qc (layT many) ∧ (∀ x ∈ own p ++ own q, a.next ≤ x)
  | 0, k, m + 1, h, p, pc, q, ql, qc, hk, _, l4, l6, a4, a6, hm, g4, g6, gp, gq, hqp, n4p, n4q, n6p, n6q => by
    obtain rfl : k = many := by omega
    obtain ⟨cs, g4, hcs⟩ := g4
    rw [outriderref11_Lay_18_L1_eq, cast_not_lt (by omega), cond_false]
    simp only [nnK_some', Nat.zero_add]
    rw [aggK_all (n := 6) g6 rfl]
    simp only [bcells, lc_cons, l0_nil, asInt_int, asSlice_slice]
    rw [wrK_of (n := 6) g4 rfl (by omega) rfl, spl_all _ _ (by simp [hcs]), aggK_all (n := 6) (get_set_self _ _ _) rfl]
    simp only [lc_cons, l0_nil, asInt_int, asSlice_slice]
    have m1 : ∀ o, Mod [b4] h (h.set b4 o) := fun o => (Mod.refl _ _).set (.inr (by simp)) _
    refine .pure ⟨hm.set (.inl a4) _, p, pc, q, ql, qc, rfl, Row.mod gp.row (m1 _) fun x hx hx' => ?_, Row.mod gq.row (m1 _) fun x hx hx' => ?_, fun x hx => ?_⟩
    · simp at hx'; subst hx'; exact n4p hx
    · simp at hx'; subst hx'; exact n4q hx
    · rcases List.mem_append.1 hx with hx | hx
      · exact (gp.own_ge x hx).1
      · exact (gq.own_ge x hx).1
  | d + 1, k, m + 1, h, p, pc, q, ql, qc, hk, hf, l4, l6, a4, a6, hm, g4, g6, gp, gq, hqp, n4p, n4q, n6p, n6q => by
    rw [outriderref11_Lay_18_L1_eq, cast_lt (by omega), cond_true]
    simp only [nnK_some', Nat.zero_add]
    rw [cellK_of (o := 3) g6 rfl, asSlice_slice, newK_eq, wrap_succ (by omega)]
    refine Grow.push' (size := 2) (bytes := 16) gp hm.next (xs := [.bool false, .int .i64 0]) rfl rfl (by omega) (by omega) (by omega) fun p' c' h1 gp1 m1 hfr => ?_
    have hn1 := m1.next
    have g61 := (m1.get _ l6 n6p).trans g6
    rw [wrK_one (o := 3) g61 (by simp [bcells]) rfl]
    have m2 : Mod [b6] h1 (h1.set b6 (.cells ((bcells r p k pc 0 q ql qc).set 3 (.slice p' (k + 1) c')) false)) := (Mod.refl _ _).set (.inr (by simp)) _
    have g62 := get_set_self h1 b6 (.cells ((bcells r p k pc 0 q ql qc).set 3 (.slice p' (k + 1) c')) false)
    have n2 : (h1.set b6 (.cells ((bcells r p k pc 0 q ql qc).set 3 (.slice p' (k + 1) c')) false)).next = h1.next := rfl
    generalize h1.set b6 (.cells ((bcells r p k pc 0 q ql qc).set 3 (.slice p' (k + 1) c')) false) = h2 at *
    rw [aggK_of (n := 2) (o := 4) g62 (by simp [bcells])]
    simp only [bcells, List.set, List.drop, List.take, lc_cons, l0_nil, asInt_int, asSlice_slice]
    have hqlt : ∀ x ∈ own q, x < h.next := fun x hx => (gq.own_ge x hx).2
    have tr2 : TRow h2 q ql qc (layT k) := Row.mod (Row.mod gq.row m1 fun x hx hp => hqp x hx hp) m2 fun x hx hx' => by simp at hx'; subst hx'; exact n6q hx
    have gp2 : PGrow a h2 p' (k + 1) c' (List.replicate (k + 1) (false, 0)) := by
      unfold PGrow
      rw [List.replicate_succ', List.flatMap_append]
      exact Grow.mod gp1 m2 fun x hx hx' => by have := hfr x hx; simp at hx'; omega
    refine (refSet (nw := 0) tr2 (by rw [layT_len]; omega) (n := n) (by rw [layT_len]; omega) (id := (k : Int)) (at' := ((k + 1 : Nat) : Int)) ⟨by omega, by omega, by omega, by omega⟩).bind fun z h3 ⟨e1, e2, e3, m3⟩ => ?_
    have hn3 := m3.next
    simp only
    rw [e1, wrK_of (n := 2) (o := 4) ((m3.get _ (by omega) (by simp)).trans g62) rfl (by simp [bcells]) rfl]
    have hL : ins ((k : Int), ((k + 1 : Nat) : Int)) (wo (layT k) k) = layT (k + 1) := layT_succ k
    rw [hL] at e3
    have m4 : ∀ o, Mod [b6] h3 (h3.set b6 o) := fun o => (Mod.refl _ _).set (.inr (by simp)) _
    have hown' : ∀ x ∈ own z.2.1, h2.next ≤ x := fun x hx => (e3.own_ge x hx).1
    have hp'lt : ∀ x ∈ own p', x < h1.next := fun x hx => (gp1.own_ge x hx).2
    refine refLay_L1 hm16 h46 hn d (k + 1) m _ p' c' z.2.1 z.2.2.1 z.2.2.2.1 (by omega) (by omega) (by show b4 < h3.next; omega) (by show b6 < h3.next; omega) a4 a6 ?_ ?_ (get_set_self _ _ _) ?_ ?_ ?_ ?_ ?_ ?_ ?_
    · refine ((hm.trans' (S := []) m1 fun i hi hl => ?_).trans' (S := []) m2 fun i hi hl => ?_).trans m3 |>.set (.inl a6) _
      · have := (gp.own_ge i hi).1; omega
      · simp at hi; omega
    · obtain ⟨cs, g4, hcs⟩ := g4
      refine ⟨cs, (get_set_ne h46).trans ((m3.get _ (by omega) (by simp)).trans ((m2.get _ (by omega) (by simpa using h46)).trans ((m1.get _ l4 n4p).trans g4))), hcs⟩
    · exact Grow.mod (Grow.mod gp2 m3 fun x hx => by simp) (m4 _) fun x hx hx' => by have := hfr x hx; simp at hx'; omega
    · exact (Grow.mod e3 (m4 _) fun x hx hx' => by have := hown' x hx; simp at hx'; omega).base (by have := hm.next; omega)
    · exact fun x hx hx' => by have := hown' x hx; have := hp'lt x hx'; omega
    · exact fun hx => by have := hfr _ hx; omega
    · exact fun hx => by have := hown' _ hx; omega
    · exact fun hx => by have := hfr _ hx; omega
    · exact fun hx => by have := hown' _ hx; omega

theorem refLay (r : Rul) (many : Int) (h : H) {n : Nat} (hn : 100 ≤ n) :
    Ret (outriderref11_Lay_18 n r.rise r.fall r.every many h) fun z h' => Mod [] h h' ∧ if okR r ∧ 1 ≤ many ∧ many ≤ 16 then ∃ p pc q ql qc, z = (r.rise, r.fall, r.every, p, many.toNat, pc, 0, q, ql, qc, true) ∧ PRow h' p many.toNat pc (List.replicate many.toNat (false, 0)) ∧ TRow h' q ql qc (layT many.toNat) ∧ (∀ x ∈ own p ++ own q, h.next ≤ x)
      else z.2.2.2.2.2.2.2.2.2.2 = false := by
  rw [outriderref11_Lay_18_eq]
  simp only [newK_eq]
  rw [show (AObj.cells [.int .i64 r.rise, .int .i64 r.fall, .int .i64 r.every] false) = .cells (rcells r) false from rfl]
  have m0 : Mod [] h ((h.new (.cells (rcells r) false)).new (.cells [(.int .i64 0), (.int .i64 0), (.int .i64 0), (.slice none 0 (.known 0)), (.int .i64 0), (.slice none 0 (.known 0))] false)) := ((Mod.refl _ _).new _).new _
  have g1 : ((h.new (.cells (rcells r) false)).new (.cells [(.int .i64 0), (.int .i64 0), (.int .i64 0), (.slice none 0 (.known 0)), (.int .i64 0), (.slice none 0 (.known 0))] false)).get h.next = some (.cells (rcells r) false) := (get_new_lt (Nat.lt_succ_self _)).trans (get_new_self _ _)
  have g2 : ((h.new (.cells (rcells r) false)).new (.cells [(.int .i64 0), (.int .i64 0), (.int .i64 0), (.slice none 0 (.known 0)), (.int .i64 0), (.slice none 0 (.known 0))] false)).get (h.next + 1) = some (.cells [(.int .i64 0), (.int .i64 0), (.int .i64 0), (.slice none 0 (.known 0)), (.int .i64 0), (.slice none 0 (.known 0))] false) := get_new_self _ _
  have n2 : ((h.new (.cells (rcells r) false)).new (.cells [(.int .i64 0), (.int .i64 0), (.int .i64 0), (.slice none 0 (.known 0)), (.int .i64 0), (.slice none 0 (.known 0))] false)).next = h.next + 2 := rfl
  rw [show (h.new (.cells (rcells r) false)).next = h.next + 1 from rfl]
  generalize (h.new (.cells (rcells r) false)).new (.cells [(.int .i64 0), (.int .i64 0), (.int .i64 0), (.slice none 0 (.known 0)), (.int .i64 0), (.slice none 0 (.known 0))] false) = h4 at *
  rw [aggK_all (n := 3) g1 rfl]
  simp only [rcells, lc_cons, l0_nil, asInt_int]
  rw [wrK_of (n := 6) (get_new_self _ _) rfl (by simp) rfl, spl_all _ _ (by simp), set_new]
  rw [show (AObj.cells [.int .i64 r.rise, .int .i64 r.fall, .int .i64 r.every, .slice none 0 (.known 0), .int .i64 0, .slice none 0 (.known 0)] false) = .cells (bcells r none 0 (.known 0) 0 none 0 (.known 0)) false from rfl]
  have m5 : Mod [] h4 (h4.new (.cells (bcells r none 0 (.known 0) 0 none 0 (.known 0)) false)) := (Mod.refl _ _).new _
  have g5 := get_new_self h4 (.cells (bcells r none 0 (.known 0) 0 none 0 (.known 0)) false)
  have n5 : (h4.new (.cells (bcells r none 0 (.known 0) 0 none 0 (.known 0)) false)).next = h4.next + 1 := rfl
  generalize h4.new (.cells (bcells r none 0 (.known 0) 0 none 0 (.known 0)) false) = h5 at *
  rw [aggK_all (n := 3) ((m5.get _ (by omega) (by simp)).trans g1) rfl]
  simp only [rcells, lc_cons, l0_nil, asInt_int]
  refine (Right_ret r n h5).bind fun bo h6 ⟨e, m6⟩ => ?_
  simp only
  subst e
  have hn6 := m6.next
  have m06 := (m0.trans m5).trans m6
  have g26 := (m6.get _ (by omega) (by simp)).trans ((m5.get _ (by omega) (by simp)).trans g2)
  have g56 := (m6.get _ (by omega) (by simp)).trans g5
  rw [n2] at g56 ⊢
  have bad : ¬ (okR r ∧ 1 ≤ many ∧ many ≤ 16) → Ret (outriderref11_Lay_18_J0 n many (some (h.next + 1, 0)) (some (h.next + 2, 0)) true h6) fun z h' => Mod [] h h' ∧ if okR r ∧ 1 ≤ many ∧ many ≤ 16 then ∃ p pc q ql qc, z = (r.rise, r.fall, r.every, p, many.toNat, pc, 0, q, ql, qc, true) ∧ PRow h' p many.toNat pc (List.replicate many.toNat (false, 0)) ∧ TRow h' q ql qc (layT many.toNat) ∧ (∀ x ∈ own p ++ own q, h.next ≤ x) else z.2.2.2.2.2.2.2.2.2.2 = false := by
    intro hb
    rw [outriderref11_Lay_18_J0_eq, cond_true]
    simp only [nnK_some', Nat.zero_add]
    rw [aggK_all (n := 6) g56 rfl]
    simp only [bcells, lc_cons, l0_nil, asInt_int, asSlice_slice]
    rw [wrK_of (n := 6) g26 rfl (by simp) rfl, spl_all _ _ (by simp), aggK_all (n := 6) (get_set_self _ _ _) rfl]
    simp only [lc_cons, l0_nil, asInt_int, asSlice_slice]
    refine .pure ⟨m06.set (.inl (by omega)) _, ?_⟩
    rw [if_neg hb]
  by_cases ho : okR r
  · rw [decide_eq_true ho, Bool.not_true, cond_false]
    by_cases h1' : many < 1
    · rw [decide_eq_true h1', cond_true]; exact bad fun h => by omega
    · rw [decide_eq_false h1', cond_false]
      by_cases h2' : many > 16
      · rw [decide_eq_true h2']; exact bad fun h => by omega
      · rw [decide_eq_false h2', outriderref11_Lay_18_J0_eq, cond_false]
        have := refLay_L1 (r := r) (many := many.toNat) (by omega) (a := h) (b4 := h.next + 1) (b6 := h.next + 2) (by omega) hn many.toNat 0 n h6 none (.known 0) none 0 (.known 0) (by omega) (by omega) (by omega) (by omega) (by omega) (by omega) m06 ⟨_, g26, rfl⟩ g56 .nil .nil (by simp) (by simp) (by simp) (by simp) (by simp)
        rw [show ((many.toNat : Nat) : Int) = many by omega] at this
        refine this.mono fun z h7 ⟨m7, d⟩ => ⟨m7, ?_⟩
        rw [if_pos ⟨ho, by omega, by omega⟩]
        exact d
  · rw [decide_eq_false ho, Bool.not_false, cond_true]
    exact bad fun h => ho h.1

/-! ### TellOne -/

theorem refTellOne {r : Rul} (ho : okR r) {h : H} {p : Option (Nat × Nat)} {pl : Nat} {pc : Cap} {now : Int} {q : Option (Nat × Nat)} {ql : Nat} {qc : Cap} {st : List (Bool × Int)} (hs : PRow h p pl pc st) (hl : st.length ≤ 16) (hst : ∀ s ∈ st, okP r s) (k : Int) (good : Bool) (n : Nat) :
    Ret (outriderref11_TellOne_19 n r.rise r.fall r.every p pl pc now q ql qc k good h) fun z h' => Mod [] h h' ∧ if 0 ≤ k ∧ k < st.length then ∃ p' pc' s, st[k.toNat]? = some s ∧ z = (r.rise, r.fall, r.every, p', pl, pc', now, q, ql, qc, (tellP r s good).2, true) ∧ PRow h' p' pl pc' (st.set k.toNat (tellP r s good).1) ∧ (∀ x ∈ own p', h.next ≤ x)
      else z = (r.rise, r.fall, r.every, p, pl, pc, now, q, ql, qc, false, false) := by
  have hlen := Row.len hs encP_len (by omega)
  rw [outriderref11_TellOne_19_eq]
  simp only [newK_eq]
  rw [show (AObj.cells [.int .i64 r.rise, .int .i64 r.fall, .int .i64 r.every, .slice p pl pc, .int .i64 now, .slice q ql qc] false) = .cells (bcells r p pl pc now q ql qc) false from rfl]
  have m0 : Mod [] h ((h.new (.cells (bcells r p pl pc now q ql qc) false)).new (.cells [(.int .i64 0), (.int .i64 0), (.int .i64 0), (.slice none 0 (.known 0)), (.int .i64 0), (.slice none 0 (.known 0))] false)) := ((Mod.refl _ _).new _).new _
  have g1 : ((h.new (.cells (bcells r p pl pc now q ql qc) false)).new (.cells [(.int .i64 0), (.int .i64 0), (.int .i64 0), (.slice none 0 (.known 0)), (.int .i64 0), (.slice none 0 (.known 0))] false)).get h.next = some (.cells (bcells r p pl pc now q ql qc) false) := (get_new_lt (Nat.lt_succ_self _)).trans (get_new_self _ _)
  have g2 : ((h.new (.cells (bcells r p pl pc now q ql qc) false)).new (.cells [(.int .i64 0), (.int .i64 0), (.int .i64 0), (.slice none 0 (.known 0)), (.int .i64 0), (.slice none 0 (.known 0))] false)).get (h.next + 1) = some (.cells [(.int .i64 0), (.int .i64 0), (.int .i64 0), (.slice none 0 (.known 0)), (.int .i64 0), (.slice none 0 (.known 0))] false) := get_new_self _ _
  have n2 : ((h.new (.cells (bcells r p pl pc now q ql qc) false)).new (.cells [(.int .i64 0), (.int .i64 0), (.int .i64 0), (.slice none 0 (.known 0)), (.int .i64 0), (.slice none 0 (.known 0))] false)).next = h.next + 2 := rfl
  rw [show (h.new (.cells (bcells r p pl pc now q ql qc) false)).next = h.next + 1 from rfl]
  generalize (h.new (.cells (bcells r p pl pc now q ql qc) false)).new (.cells [(.int .i64 0), (.int .i64 0), (.int .i64 0), (.slice none 0 (.known 0)), (.int .i64 0), (.slice none 0 (.known 0))] false) = h4 at *
  have bad : ¬ (0 ≤ k ∧ k < st.length) → Ret (outriderref11_TellOne_19_J0 n k good (some (h.next, 0)) (some (h.next + 1, 0)) true h4) fun z h' => Mod [] h h' ∧ if 0 ≤ k ∧ k < st.length then ∃ p' pc' s, st[k.toNat]? = some s ∧ z = (r.rise, r.fall, r.every, p', pl, pc', now, q, ql, qc, (tellP r s good).2, true) ∧ PRow h' p' pl pc' (st.set k.toNat (tellP r s good).1) ∧ (∀ x ∈ own p', h.next ≤ x) else z = (r.rise, r.fall, r.every, p, pl, pc, now, q, ql, qc, false, false) := by
    intro hb
    rw [outriderref11_TellOne_19_J0_eq, cond_true]
    simp only [nnK_some', Nat.zero_add]
    rw [aggK_all (n := 6) g1 rfl]
    simp only [bcells, lc_cons, l0_nil, asInt_int, asSlice_slice]
    rw [wrK_of (n := 6) g2 rfl (by simp) rfl, spl_all _ _ (by simp), aggK_all (n := 6) (get_set_self _ _ _) rfl]
    simp only [lc_cons, l0_nil, asInt_int, asSlice_slice]
    refine .pure ⟨m0.set (.inl (by omega)) _, ?_⟩
    rw [if_neg hb]
  by_cases h0 : k < 0
  · rw [decide_eq_true h0, cond_true]; exact bad fun h => by omega
  rw [decide_eq_false h0, cond_false, cellK_of (o := 3) g1 rfl, asSlice_slice]
  by_cases h1 : k ≥ pl
  · rw [decide_eq_true h1]; exact bad fun h => by omega
  rw [decide_eq_false h1, outriderref11_TellOne_19_J0_eq, cond_false]
  obtain ⟨j, rfl⟩ : ∃ j : Nat, k = j := ⟨k.toNat, by omega⟩
  have hj : j < st.length := by omega
  have hx : st[j]? = some st[j] := List.getElem?_eq_getElem hj
  have hs4 := Row.mod0 hs m0
  simp only [nnK_some', Nat.zero_add]
  rw [aggK_of (n := 3) g1 (by simp [bcells])]
  simp only [bcells, List.drop, List.take, lc_cons, l0_nil, asInt_int]
  rw [cellK_of (o := 3) g1 rfl, asSlice_slice, Row.ix hs4 encP_len (by omega) hx]
  simp only [encP, lc_cons, l0_nil, asInt_int, asBool_bool]
  refine (refTell_ret ho (hst _ (List.getElem_mem hj)) good n h4).bind fun z h5 ⟨e5, m5⟩ => ?_
  subst e5
  simp only [newK_eq]
  have hn5 := m5.next
  rw [wrK_of (n := 2) (get_new_self _ _) rfl (by simp) rfl, spl_all _ _ (by simp), set_new]
  rw [show (AObj.cells [.bool (tellP r st[j] good).1.1, .int .i64 (tellP r st[j] good).1.2] false) = .cells (encP (tellP r st[j] good).1) false from rfl]
  have m6 : Mod [] h5 (h5.new (.cells (encP (tellP r st[j] good).1) false)) := (Mod.refl _ _).new _
  have g6 := get_new_self h5 (.cells (encP (tellP r st[j] good).1) false)
  have n6 : (h5.new (.cells (encP (tellP r st[j] good).1) false)).next = h5.next + 1 := rfl
  generalize h5.new (.cells (encP (tellP r st[j] good).1) false) = h6 at *
  have m7 : Mod [] h6 (h6.new (.cells [] false)) := (Mod.refl _ _).new _
  have g7 := get_new_self h6 (.cells [] false)
  have n7 : (h6.new (.cells [] false)).next = h6.next + 1 := rfl
  generalize h6.new (.cells [] false) = h7 at *
  have m47 := (m5.trans m6).trans m7
  rw [cellK_of (o := 3) ((m47.get _ (by omega) (by simp)).trans g1) rfl, asSlice_slice]
  have g0 : Grow h4 h7 2 (some (h6.next, 0)) 0 (.known 0) [] := ⟨.inr ⟨h6.next, rfl, by omega, by omega, g7, rfl, .inr rfl⟩⟩
  have hs7 := Row.mod0 hs4 m47
  have hsl := hs7.length
  have hce : (st.flatMap encP).all isCell = true := by
    rw [List.all_flatMap, List.all_eq_true]
    intro s _; rfl
  refine Grow.ret (bytes := 16) g0 (by omega) hs7.src hsl hce (by omega) (by omega) (fun h0 => by
    have := hs7.length; rw [h0] at this; exact List.eq_nil_of_length_eq_zero (by simpa using this)) fun p' c' h8 g8 m8 => ?_
  rw [List.nil_append, Nat.zero_add] at g8
  rw [Nat.zero_add]
  have hn8 := m8.next
  have g68 : h8.get h5.next = some (.cells (encP (tellP r st[j] good).1) false) := (m8.get _ (by omega) (by simp; omega)).trans ((m7.get _ (by omega) (by simp)).trans g6)
  rw [aggK_all (n := 2) g68 rfl]
  simp only [encP, lc_cons, l0_nil, asInt_int, asBool_bool]
  rw [if_pos ⟨by omega, by omega⟩]
  rcases g8.look with ⟨_, e2, _, _⟩ | ⟨b8, rfl, l1, l2, l3, l4, l5⟩
  · omega
  simp only [nnK_some', Nat.zero_add]
  have hb8 : b8 ≠ h.next ∧ b8 ≠ h.next + 1 := by omega
  have hfl : (st.flatMap encP).length = st.length * 2 := length_flat encP_len st
  have hspl : spl (st.flatMap encP) (j * 2) [.bool (tellP r st[j] good).1.1, .int .i64 (tellP r st[j] good).1.2] = (st.set j (tellP r st[j] good).1).flatMap encP := spl_flat hj (tellP r st[j] good).1
  try rw [show (j : Int).toNat * 2 = j * 2 by omega]
  rw [wrK_of (n := 2) (xs := [.bool (tellP r st[j] good).1.1, .int .i64 (tellP r st[j] good).1.2]) l3 rfl (by rw [hfl]; omega) rfl, hspl]
  have m9 : Mod [b8] h8 (h8.set b8 (.cells ((st.set j (tellP r st[j] good).1).flatMap encP) false)) := (Mod.refl _ _).set (.inr (by simp)) _
  have g9 := get_set_self h8 b8 (.cells ((st.set j (tellP r st[j] good).1).flatMap encP) false)
  have n9 : (h8.set b8 (.cells ((st.set j (tellP r st[j] good).1).flatMap encP) false)).next = h8.next := rfl
  have k9 : ∀ x, x < h4.next → x ≠ b8 → (h8.set b8 (.cells ((st.set j (tellP r st[j] good).1).flatMap encP) false)).get x = h4.get x := fun x hx hne => (get_set_ne hne).trans ((m8.get _ (by omega) (by simp; omega)).trans (m47.get _ hx (by simp)))
  generalize h8.set b8 (.cells ((st.set j (tellP r st[j] good).1).flatMap encP) false) = h9 at *
  rw [wrK_one (o := 3) ((k9 _ (by omega) (Ne.symm hb8.1)).trans g1) (by simp [bcells]) rfl, aggK_all (n := 6) (get_set_self _ _ _) rfl]
  simp only [bcells, List.set, lc_cons, l0_nil, asInt_int, asSlice_slice]
  have m10 : ∀ o, Mod [h.next] h9 (h9.set h.next o) := fun o => (Mod.refl _ _).set (.inr (by simp)) _
  rw [wrK_of (n := 6) ((get_set_ne (by omega)).trans ((k9 _ (by omega) (Ne.symm hb8.2)).trans g2)) rfl (by simp) rfl, spl_all _ _ (by simp), aggK_all (n := 6) (get_set_self _ _ _) rfl]
  simp only [lc_cons, l0_nil, asInt_int, asSlice_slice]
  refine .pure ⟨?_, ?_⟩
  · refine Mod.set (Mod.set ⟨by have := m0.next; omega, fun x hx _ => ?_⟩ (.inl (Nat.le_refl _)) _) (.inl (by omega)) _
    rw [k9 x (by omega) (by omega)]
    exact m0.get x hx (by simp)
  · rw [if_pos ⟨by omega, by omega⟩]
    refine ⟨some (b8, 0), c', st[j], by simpa using hx, rfl, ?_, fun x hx' => ?_⟩
    · refine Row.mod (Row.mod (.row (b := b8) (cs := (st.set j (tellP r st[j] good).1).flatMap encP) (by omega) g9 ?_ ?_ (l5.elim .inl fun h => .inr ⟨_, h, Nat.le_refl _⟩)) (m10 _) fun x hx' hm => ?_) ((Mod.refl [h.next + 1] _).set (.inr (by simp)) _) fun x hx' hm => ?_
      · simp only [Int.toNat_natCast, List.drop_zero]
        exact List.take_of_length_le (by rw [length_flat encP_len, List.length_set]; omega)
      · rw [length_flat encP_len, List.length_set]; omega
      · simp at hx' hm; omega
      · simp at hx' hm; omega
    · simp at hx'; omega

end Go.Ev.Try
