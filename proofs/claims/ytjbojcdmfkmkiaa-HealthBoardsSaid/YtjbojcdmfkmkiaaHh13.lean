/- Chapter 09: the document's Move and Do; two rows of ids the same. -/
import Derived.Test.YtjbojcdmfkmkiaaHh12
set_option linter.all false
namespace Go.Ev.Try
set_option maxRecDepth 10000

/-- one element more: its row is new -/
theorem Grow.push' {α : Type} {a h : H} {size bytes : Nat} {p : Option (Nat × Nat)} {len : Nat} {c : Cap} {vs : List AV} (g : Grow a h size p len c vs) (ha : a.next ≤ h.next) {xs : List AV} (hx : xs.length = size) (hc : xs.all isCell = true) (h0 : 0 < size) (hb : (len + 1) * bytes ≤ 140737488355328) (h63 : len + 1 ≤ 9223372036854775807)
    {f : Option (Nat × Nat) → Nat → Cap → H → Option (α × H)} {Q : α → H → Prop} (k : ∀ p' c' h', Grow a h' size p' (len + 1) c' (vs ++ xs) → Mod (own p) h h' → (∀ x ∈ own p', h.next ≤ x) → Ret (f p' (len + 1) c' h') Q) :
    Ret (appK size bytes p len c (evSrc size (.slice (some (h.next, 0)) 1 (.known 1)) (h.new (.cells xs false))) (h.new (.cells xs false)) f) Q := by
  have m2 : Mod [] h (h.new (.cells xs false)) := (Mod.refl _ _).new _
  have r2 : Row (h.new (.cells xs false)) size (some (h.next, 0)) 1 (.known 1) xs := .row (by simp) (get_new_self _ _) (by rw [List.drop_zero, Nat.one_mul, ← hx, List.take_length]) (by omega) (.inr ⟨1, rfl, Nat.le_refl _⟩)
  rw [r2.src]
  rcases (g.mod0 m2).look with ⟨rfl, rfl, rfl, rfl⟩ | ⟨b, rfl, h1, h2, h3, h4, h5⟩
  · simp only [appK, evApp]
    rw [if_neg (by omega), if_pos ⟨by simpa using hb, by omega⟩]
    refine k _ _ _ ?_ ((m2.new _).sub fun i h => by cases h) (by simp)
    rw [List.nil_append]
    exact Grow.fresh (Nat.le_trans ha m2.next) (by rw [hx]; simp) (.inl rfl)
  · rcases h5 with rfl | rfl
    · simp only [appK, evApp]
      rw [if_neg (by omega), if_pos ⟨trivial, hb, h63⟩, h3]
      simp only [Nat.zero_add]
      rw [if_pos ⟨h4.symm, hc⟩, List.drop_zero]
      exact k _ _ _ (Grow.fresh (h := (h.new (.cells xs false)).kill b) (Nat.le_trans ha m2.next) (by rw [List.length_append, h4, hx, Nat.add_mul, Nat.one_mul]) (.inl rfl)) ((m2.of_nil.kill (.inr (by simp))).new _) (by simp)
    · simp only [appK, evApp]
      rw [if_neg (show ¬ len + 1 ≤ len by omega), if_pos ⟨hb, h63⟩, h3]
      simp only [Nat.zero_add]
      rw [if_pos (Nat.le_of_eq h4.symm), List.drop_zero, ← h4, List.take_length]
      exact k _ _ _ (Grow.fresh (Nat.le_trans ha m2.next) (by rw [List.length_append, h4, hx, Nat.add_mul, Nat.one_mul]) (.inl rfl)) ((m2.of_nil).new _) (by simp)

theorem refMove_L1 {a : H} {b2 b4 : Nat} {u : AV} {p : Option (Nat × Nat)} {len : Nat} {c : Cap} {L : List (Int × Int)} (hs : TRow a p len c L) (hl : L.length < 500000) (n : Nat) (upto : Int) (h2 : b2 < a.next) (h4 : b4 < a.next)
    (g2 : a.get b2 = some (.cells [u, .slice p len c] false)) (g4 : ∃ u v, a.get b4 = some (.cells [u, v] false)) :
    ∀ (ts pre : List (Int × Int)) (m : Nat) (dp : Option (Nat × Nat)) (dn : Nat) (dc : Cap) (q : Option (Nat × Nat)) (ql : Nat) (qc : Cap) (h : H), L = pre ++ ts → ts.length < m → Grow a h 1 dp dn dc ((told upto pre).map i64) → TGrow a h q ql qc (left upto pre) → (∀ x ∈ own dp, x ∉ own q) → Mod [] a h →
      Ret (outriderref09_Move_31_L1 n m upto (some (b2, 0)) (some (b4, 0)) dp dn dc q ql qc pre.length h) fun r h' => r.1 = upto ∧ TGrow a h' r.2.1 r.2.2.1 r.2.2.2.1 (left upto L) ∧ Grow a h' 1 r.2.2.2.2.1 r.2.2.2.2.2.1 r.2.2.2.2.2.2 ((told upto L).map i64) ∧ Mod [b4] a h'
  | [], pre, m + 1, dp, dn, dc, q, ql, qc, h, hx, _, gd, gq, hdq, hm => by
    have hlen := hs.len
    have g2' := (hm.get _ h2 (by simp)).trans g2
    obtain ⟨u4, v4, g4⟩ := g4
    have g4' := (hm.get _ h4 (by simp)).trans g4
    rw [outriderref09_Move_31_L1_eq]
    simp only [nnK_some', Nat.zero_add]
    rw [cellK_of g2' rfl, asSlice_slice, cast_not_lt (by rw [← hlen, hx]; simp), cond_false]
    rw [List.append_nil] at hx
    subst hx
    rw [wrK_of (n := 2) g4' rfl (by simp) rfl, spl_all _ _ (by simp), aggK_all (n := 2) (get_set_self _ _ _) rfl]
    simp only [lc_cons, l0_nil, asInt_int, asSlice_slice]
    have m1 : Mod [b4] h (h.set b4 (.cells [i64 upto, .slice q ql qc] false)) := (Mod.refl _ _).set (.inr (by simp)) _
    refine .pure ⟨rfl, gq.mod m1 fun x hx hm' => ?_, gd.mod m1 fun x hx hm' => ?_, hm.of_nil.trans m1⟩
    · have := (gq.own_ge x hx).1
      simp at hm'; omega
    · have := (gd.own_ge x hx).1
      simp at hm'; omega
  | t :: ts, pre, m + 1, dp, dn, dc, q, ql, qc, h, hx, hf, gd, gq, hdq, hm => by
    have hlen := hs.len
    have ht : L[pre.length]? = some t := by rw [hx]; simp
    have hlt : pre.length < L.length := by rw [hx]; simp
    have hs' := Row.mod0 hs hm
    have g2' := (hm.get _ h2 (by simp)).trans g2
    have ih := fun dp dn dc q ql qc h => refMove_L1 hs hl n upto h2 h4 g2 g4 ts (pre ++ [t]) m dp dn dc q ql qc h (by rw [hx]; simp) (by simp at hf; omega)
    rw [List.length_append, List.length_singleton] at ih
    have hdl : dn ≤ pre.length := by
      have h1 := gd.row.len1
      have h2 : (told upto pre).length ≤ pre.length := by unfold told; rw [List.length_map]; exact List.length_filter_le _ _
      omega
    have hql : ql ≤ pre.length := by
      have h1 := gq.len
      have h2 : (left upto pre).length ≤ pre.length := List.length_filter_le _ _
      omega
    rw [outriderref09_Move_31_L1_eq]
    simp only [nnK_some', Nat.zero_add]
    rw [cellK_of g2' rfl, asSlice_slice, cast_lt (by omega), cond_true, cellK_of g2' rfl, asSlice_slice, Row.ix2 hs' encT_len ht 1 (v := i64 t.2) rfl, asInt_int]
    by_cases hle : t.2 ≤ upto
    · rw [decide_eq_true hle, cond_true, cellK_of g2' rfl, asSlice_slice, Row.ix20 hs' encT_len ht (v := i64 t.1) rfl, asInt_int, newK_eq, wrap_succ (by omega)]
      have e1 : told upto (pre ++ [t]) = told upto pre ++ [t.1] := by simp [told, hle]
      have e2 : left upto (pre ++ [t]) = left upto pre := by
        have : ¬ upto < t.2 := by omega
        simp [left, this]
      refine Grow.push' (bytes := 8) gd hm.next (xs := [.int .i64 t.1]) rfl rfl (by omega) (by omega) (by omega) fun p' c' h' g' m' hfr => ?_
      refine ih _ _ _ _ _ _ _ (by rw [e1, List.map_append]; exact g') (by rw [e2]; exact gq.mod m' fun x hx hxd => hdq x hxd hx) (fun x hx hxq => ?_) (hm.push gd m')
      have := hfr x hx
      have := (gq.own_ge x hxq).2
      omega
    · rw [decide_eq_false hle, cond_false, cellK_of g2' rfl, asSlice_slice, Row.ix hs' encT_len (by omega) ht]
      simp only [encT, lc_cons, l0_nil, asInt_int]
      rw [newK_eq, wrap_succ (by omega)]
      have e1 : told upto (pre ++ [t]) = told upto pre := by simp [told, hle]
      have e2 : left upto (pre ++ [t]) = left upto pre ++ [t] := by
        have : upto < t.2 := by omega
        simp [left, this]
      refine Grow.push' (bytes := 16) gq hm.next (xs := [.int .i64 t.1, .int .i64 t.2]) rfl rfl (by omega) (by omega) (by omega) fun p' c' h' g' m' hfr => ?_
      refine ih _ _ _ _ _ _ _ (by rw [e1]; exact gd.mod m' hdq) (by unfold TGrow; rw [e2, List.flatMap_append]; exact g') (fun x hx hxq => ?_) (hm.push gq m')
      have := hfr x hxq
      have := (gd.own_ge x hx).2
      omega

theorem refMove {h : H} {nw : Int} {p : Option (Nat × Nat)} {len : Nat} {c : Cap} {L : List (Int × Int)} (hs : TRow h p len c L) (hl : L.length < 100000) {n : Nat} (hn : L.length < n) (upto : Int) :
    Ret (outriderref09_Move_31 n nw p len c upto h) fun r h' => Mod [] h h' ∧ if moves nw upto then r.1 = upto ∧ TGrow h h' r.2.1 r.2.2.1 r.2.2.2.1 (left upto L) ∧ Grow h h' 1 r.2.2.2.2.1 r.2.2.2.2.2.1 r.2.2.2.2.2.2 ((told upto L).map i64)
      else r = (nw, p, len, c, none, 0, .known 0) := by
  have m0 : Mod [] h ((h.new (.cells [.int .i64 nw, .slice p len c] false)).new (.cells [.int .i64 0, .slice none 0 (.known 0)] false)) := ((Mod.refl _ _).new _).new _
  have g1 : ((h.new (.cells [.int .i64 nw, .slice p len c] false)).new (.cells [.int .i64 0, .slice none 0 (.known 0)] false)).get h.next = some (.cells [.int .i64 nw, .slice p len c] false) := (get_new_lt (Nat.lt_succ_self _)).trans (get_new_self _ _)
  have g2 : ((h.new (.cells [.int .i64 nw, .slice p len c] false)).new (.cells [.int .i64 0, .slice none 0 (.known 0)] false)).get (h.next + 1) = some (.cells [.int .i64 0, .slice none 0 (.known 0)] false) := get_new_self _ _
  have hn4 : ((h.new (.cells [.int .i64 nw, .slice p len c] false)).new (.cells [.int .i64 0, .slice none 0 (.known 0)] false)).next = h.next + 2 := rfl
  rw [outriderref09_Move_31_eq]
  simp only [newK_eq]
  rw [show (h.new (.cells [.int .i64 nw, .slice p len c] false)).next = h.next + 1 from rfl]
  generalize (h.new (.cells [.int .i64 nw, .slice p len c] false)).new (.cells [.int .i64 0, .slice none 0 (.known 0)] false) = h4 at *
  rw [cellK_of g1 rfl, asInt_int]
  have bad : ¬ moves nw upto → Ret (outriderref09_Move_31_J0 n upto (some (h.next, 0)) (some (h.next + 1, 0)) true h4) fun r h' => Mod [] h h' ∧ if moves nw upto then r.1 = upto ∧ TGrow h h' r.2.1 r.2.2.1 r.2.2.2.1 (left upto L) ∧ Grow h h' 1 r.2.2.2.2.1 r.2.2.2.2.2.1 r.2.2.2.2.2.2 ((told upto L).map i64) else r = (nw, p, len, c, none, 0, .known 0) := by
    intro hb
    rw [outriderref09_Move_31_J0_eq, cond_true]
    simp only [nnK_some']
    rw [aggK_all (n := 2) g1 rfl]
    simp only [lc_cons, l0_nil, asInt_int, asSlice_slice]
    rw [wrK_of (n := 2) g2 rfl (by simp) rfl, spl_all _ _ (by simp), aggK_all (n := 2) (get_set_self _ _ _) rfl]
    simp only [lc_cons, l0_nil, asInt_int, asSlice_slice]
    exact .pure ⟨m0.set (.inl (by omega)) _, by rw [if_neg hb]⟩
  by_cases h1 : upto < nw
  · rw [decide_eq_true h1, cond_true]
    exact bad fun h => by have := h.1; omega
  · rw [decide_eq_false h1, cond_false]
    by_cases h2 : upto > 1099511627776
    · rw [decide_eq_true h2]
      exact bad fun h => by have := h.2; omega
    · rw [decide_eq_false h2, outriderref09_Move_31_J0_eq, cond_false]
      refine (refMove_L1 (a := h4) (Row.mod0 hs m0) (by omega) n upto (by omega) (by omega) g1 ⟨_, _, g2⟩ L [] n none 0 (.known 0) none 0 (.known 0) h4 rfl hn .nil .nil (by simp) (Mod.refl _ _)).mono fun r h5 ⟨e1, e2, e3, e4⟩ => ⟨?_, ?_⟩
      · exact m0.trans' e4 fun i hi hl => by simp at hi; omega
      · rw [if_pos ⟨by omega, by omega⟩]
        exact ⟨e1, e2.base (by omega), e3.base (by omega)⟩

/-! ### two rows the same -/

theorem Same_loop {h : H} {p q : Option (Nat × Nat)} {pl ql : Nat} {pc qc : Cap} {xs ys : List Int} (hp : Row h 1 p pl pc (xs.map i64)) (hq : Row h 1 q ql qc (ys.map i64)) (hlen : xs.length = ys.length) (hl : xs.length < 1000000) (n : Nat) : ∀ (d j m : Nat), j + d = xs.length → d < m → xs.take j = ys.take j →
    outriderref09_Same_22_L0 n m p pl pc q ql qc j h = some (decide (xs = ys), h)
  | 0, j, m + 1, hj, _, ht => by
    have h1 := hp.len1
    rw [outriderref09_Same_22_L0_eq, cast_not_lt (by omega), cond_false]
    rw [List.take_of_length_le (by omega), List.take_of_length_le (by omega)] at ht
    rw [decide_eq_true ht]
  | d + 1, j, m + 1, hj, hf, ht => by
    have h1 := hp.len1
    have h2 := hq.len1
    have hx : xs[j]? = some xs[j] := List.getElem?_eq_getElem (by omega)
    have hy : ys[j]? = some ys[j] := List.getElem?_eq_getElem (by omega)
    rw [outriderref09_Same_22_L0_eq, cast_lt (by omega), cond_true, hp.ix1 hx, asInt_int, hq.ix1 hy, asInt_int]
    by_cases he : xs[j] = ys[j]
    · rw [show ((xs[j] : Int) != ys[j]) = false by simpa using he, cond_false, wrap_succ (by omega)]
      refine Same_loop hp hq hlen hl n d (j + 1) m (by omega) (by omega) ?_
      rw [List.take_add_one, List.take_add_one, ht, hx, hy, he]
    · rw [show ((xs[j] : Int) != ys[j]) = true by simpa using he, cond_true]
      rw [decide_eq_false]
      rintro rfl
      exact he rfl

theorem Same_eq {h : H} {p q : Option (Nat × Nat)} {pl ql : Nat} {pc qc : Cap} {xs ys : List Int} (hp : Row h 1 p pl pc (xs.map i64)) (hq : Row h 1 q ql qc (ys.map i64)) (hl : xs.length < 1000000) {n : Nat} (hn : xs.length < n) :
    outriderref09_Same_22 n p pl pc q ql qc h = some (decide (xs = ys), h) := by
  have h1 := hp.len1
  have h2 := hq.len1
  rw [outriderref09_Same_22_eq]
  by_cases he : pl = ql
  · rw [show (((pl : Nat) : Int) != (ql : Nat)) = false by simp [he], cond_false]
    exact Same_loop hp hq (by omega) hl n xs.length 0 n (by omega) hn (by simp)
  · rw [show (((pl : Nat) : Int) != (ql : Nat)) = true by simp; omega, cond_true, decide_eq_false]
    rintro rfl
    omega

end Go.Ev.Try
