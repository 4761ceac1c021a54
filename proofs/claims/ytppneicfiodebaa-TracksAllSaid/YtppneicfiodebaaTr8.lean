/- What the reference of chapter 12 computes, in plain lists: Down, New; the law TracksAll. -/
import Derived.Test.YtppneicfiodebaaTr7
set_option linter.all false
namespace Go.Ev.Try
set_option maxRecDepth 10000
open Go.Proofs

/-! ### Down -/

def insB (x : ByteArray) : List ByteArray → List ByteArray
  | [] => [x]
  | y :: l => if sLt x y = true then x :: y :: l else y :: insB x l
theorem insB_perm (x : ByteArray) : ∀ l, (insB x l).Perm (x :: l)
  | [] => .refl _
  | y :: l => by
    unfold insB
    split
    · exact .refl _
    · exact (List.Perm.cons y (insB_perm x l)).trans (.swap x y l)
theorem insB_sorted (x : ByteArray) : ∀ l : List ByteArray, l.Pairwise sLe → (insB x l).Pairwise sLe
  | [], _ => List.pairwise_singleton _ _
  | y :: l, h => by
    rw [List.pairwise_cons] at h
    unfold insB
    split
    · rename_i hxy
      refine List.pairwise_cons.2 ⟨fun b hb => ?_, List.pairwise_cons.2 h⟩
      rcases List.mem_cons.1 hb with rfl | hb
      · exact sLe_of_lt hxy
      · exact sLe_trans (sLe_of_lt hxy) (h.1 b hb)
    · rename_i hxy
      refine List.pairwise_cons.2 ⟨fun b hb => ?_, insB_sorted x l h.2⟩
      rcases List.mem_cons.1 ((insB_perm x l).mem_iff.1 hb) with rfl | hb
      · unfold sLe; simpa using hxy
      · exact h.1 b hb
/-- those that are down, put in one by one -/
def downZ (z : Zs) : List ByteArray := z.foldl (fun out y => if y.2 = true then out else insB y.1.1 out) []
theorem downZ_snoc (z : Zs) (y : Tr × Bool) : downZ (z ++ [y]) = if y.2 = true then downZ z else insB y.1.1 (downZ z) := by
  simp [downZ, List.foldl_append]
def dnames (z : Zs) : List ByteArray := (z.filter fun y => !y.2).map fun y => y.1.1
theorem downZ_fold (z : Zs) : ∀ out : List ByteArray, out.Pairwise sLe → (z.foldl (fun out y => if y.2 = true then out else insB y.1.1 out) out).Perm (out ++ dnames z) ∧ (z.foldl (fun out y => if y.2 = true then out else insB y.1.1 out) out).Pairwise sLe := by
  induction z with
  | nil => intro out h; exact ⟨by simp [dnames], h⟩
  | cons y z ih =>
    intro out h
    rw [List.foldl_cons]
    cases hy : y.2 with
    | true =>
      obtain ⟨h1, h2⟩ := ih out h
      exact ⟨by simpa [dnames, hy] using h1, by simpa using h2⟩
    | false =>
      obtain ⟨h1, h2⟩ := ih (insB y.1.1 out) (insB_sorted _ _ h)
      refine ⟨?_, by simpa using h2⟩
      simp only [Bool.false_eq_true, if_false]
      refine h1.trans ?_
      refine (List.Perm.append_right _ (insB_perm _ _)).trans ?_
      rw [show dnames (y :: z) = y.1.1 :: dnames z by simp [dnames, hy]]
      exact List.perm_middle.symm
theorem downZ_eq (z : Zs) : downZ z = srt (dnames z) := by
  obtain ⟨h1, h2⟩ := downZ_fold z [] .nil
  exact sorted_unique h2 (srt_sorted _) (h1.trans (by simpa using (srt_perm (dnames z)).symm))
theorem downZ_len (z : Zs) : (downZ z).length ≤ z.length := by
  rw [downZ_eq, (srt_perm _).length_eq, dnames, List.length_map]
  exact List.length_filter_le _ _

theorem sgt_eq (a b : ByteArray) : (!(Op.bytesLess a.toList b.toList || a.toList == b.toList)) = sLt b a := by
  rw [str_eq]
  change (!(sLt a b || decide (a = b))) = sLt b a
  by_cases e : a = b
  · subst e; simp [sLt_irrefl]
  · rw [decide_eq_false e, Bool.or_false]
    rcases sLt_total e with h | h
    · rw [h, sLt_asymm h]; rfl
    · rw [h, sLt_asymm h]; rfl

theorem down_inner {h0 : H} {κ : Rk} {z : Zs} (s0 : RefRep h0 κ z) {b : Nat} (lb : b < h0.next) {bs : AV} (hb : h0.get b = some (.cells [bs, .slice κ.p1 z.length κ.c1, .slice κ.p2 z.length κ.c2] false)) {i : Nat} {y : Tr × Bool} (hi : z[i]? = some y)
    {po : Option (Nat × Nat)} {co : Cap} {ss : List ByteArray} (ro : Row h0 1 po ss.length co (ss.map AV.str)) (hmax : ss.length < 100) (n m1 : Nat) {Q : (Option (Nat × Nat)) × Nat × Cap → H → Prop}
    (fin : ∀ p' len' c' h', Mod [] h0 h' → Grow h0 h' 1 p' len' c' ((insB y.1.1 ss).map AV.str) → Ret (outriderref12_Down_21_L0 n m1 (some (b, 0)) p' len' c' (IntKind.i64.wrap ((i : Int) + 1)) h') Q) :
    ∀ (rest pre : List ByteArray) (done : Bool) (acc : List ByteArray) (m2 : Nat) (h : H) (p : Option (Nat × Nat)) (len : Nat) (c : Cap), ss = pre ++ rest → rest.length < m2 → acc.length ≤ pre.length + 1 → Mod [] h0 h → Grow h0 h 1 p len c (acc.map AV.str) →
      insB y.1.1 ss = acc ++ (if done = true then rest else insB y.1.1 rest) →
      Ret (outriderref12_Down_21_L1 n m1 m2 (some (b, 0)) po ss.length co i p len c done pre.length h) Q
  | [], pre, done, acc, m2 + 1, h, p, len, c, hx, _, ha, hm, g, hr => by
    have s := s0.mod0 hm
    have gb := (hm.get _ lb (by simp)).trans hb
    rw [outriderref12_Down_21_L1_eq, cast_not_lt (by rw [hx]; simp), cond_false]
    cases done with
    | true =>
      rw [Bool.not_true, cond_false]
      exact fin p len c h hm (by rw [hr]; simpa using g)
    | false =>
      rw [Bool.not_false, cond_true]
      simp only [nnK_some', Nat.zero_add, cellK_of gb (o := 1) rfl, asSlice_slice]
      rw [s.l.ix20 encZ_len hi (v := .str y.1.1) rfl, asStr_str]
      simp only [newK_eq]
      have : pre.length ≤ ss.length := by rw [hx]; simp
      have hgl := g.row.len1
      refine g.push hm.next rfl rfl (by decide) (by omega) (by omega) fun p' c' h' g' m' => ?_
      exact fin p' _ c' h' (hm.push g m') (by rw [hr]; simpa [insB] using g')
  | x :: rest, pre, done, acc, m2 + 1, h, p, len, c, hx, hl, ha, hm, g, hr => by
    have s := s0.mod0 hm
    have gb := (hm.get _ lb (by simp)).trans hb
    have hpl : pre.length < ss.length := by rw [hx]; simp
    have hxk : ss[pre.length]? = some x := by rw [hx]; simp
    have j3 : ∀ (d : Bool) (acc : List ByteArray) (h : H) (p : Option (Nat × Nat)) (len : Nat) (c : Cap), acc.length ≤ pre.length + 1 → (d = false → acc.length ≤ pre.length) → Mod [] h0 h → Grow h0 h 1 p len c (acc.map AV.str) → insB y.1.1 ss = acc ++ x :: (if d = true then rest else insB y.1.1 rest) →
        Ret (outriderref12_Down_21_J3 n m1 m2 (some (b, 0)) po ss.length co i p len c d pre.length h) Q := by
      intro d acc h p len c ha ha2 hm g hr
      rw [outriderref12_Down_21_J3_eq, (ro.mod0 hm).ix1 hxk, asStr_str]
      simp only [newK_eq]
      have hgl := g.row.len1
      refine g.push hm.next rfl rfl (by decide) (by omega) (by omega) fun p' c' h' g' m' => ?_
      rw [wrap_succ (by omega), show pre.length + 1 = (pre ++ [x]).length by simp]
      exact down_inner s0 lb hb hi ro hmax n m1 fin rest (pre ++ [x]) d (acc ++ [x]) m2 h' p' _ c' (by rw [hx]; simp) (by simp at hl; omega) (by simp; omega) (hm.push g m') (by simpa using g') (by rw [hr]; simp)
    have j2 : ∀ d : Bool, (done = true → d = false) → (done = false → d = sLt y.1.1 x) → Ret (outriderref12_Down_21_J2 n m1 m2 (some (b, 0)) po ss.length co i p len c done pre.length d h) Q := by
      intro d hd1 hd2
      rw [outriderref12_Down_21_J2_eq]
      cases hdn : done with
      | true =>
        rw [hd1 hdn, cond_false]
        rw [hdn] at hr
        exact j3 true acc h p len c ha (fun h => by cases h) hm g hr
      | false =>
        rw [hdn] at hr
        rw [hd2 hdn]
        cases hlt : sLt y.1.1 x with
        | false =>
          rw [cond_false]
          simp only [Bool.false_eq_true, if_false, insB, hlt] at hr
          refine j3 false acc h p len c ha (fun _ => ?_) hm g hr
          have h1 := congrArg List.length hr
          rw [(insB_perm _ _).length_eq, List.length_append, List.length_cons, List.length_cons, (insB_perm _ _).length_eq, hx, List.length_append, List.length_cons, List.length_cons] at h1
          omega
        | true =>
          rw [cond_true]
          simp only [Bool.false_eq_true, if_false, insB, hlt, if_true] at hr
          simp only [nnK_some', Nat.zero_add, cellK_of gb (o := 1) rfl, asSlice_slice]
          rw [s.l.ix20 encZ_len hi (v := .str y.1.1) rfl, asStr_str]
          simp only [newK_eq]
          have h1 := congrArg List.length hr
          rw [(insB_perm _ _).length_eq, List.length_append, List.length_cons, List.length_cons, List.length_cons, hx, List.length_append, List.length_cons] at h1
          have hgl := g.row.len1
          refine g.push hm.next rfl rfl (by decide) (by omega) (by omega) fun p' c' h' g' m' => ?_
          exact j3 true (acc ++ [y.1.1]) h' p' _ c' (by simp; omega) (fun h => by cases h) (hm.push g m') (by simpa using g') (by rw [hr]; simp)
    rw [outriderref12_Down_21_L1_eq, cast_lt hpl, cond_true]
    cases hdn : done with
    | true =>
      rw [hdn] at j2
      rw [Bool.not_true, cond_false]
      exact j2 false (fun _ => rfl) (fun h => by cases h)
    | false =>
      rw [hdn] at j2
      rw [Bool.not_false, cond_true, (ro.mod0 hm).ix1 hxk, asStr_str]
      simp only [nnK_some', Nat.zero_add, cellK_of gb (o := 1) rfl, asSlice_slice]
      rw [s.l.ix20 encZ_len hi (v := .str y.1.1) rfl, asStr_str, sgt_eq]
      exact j2 _ (fun h => by cases h) (fun _ => rfl)

theorem down_outer {a : H} {κ : Rk} {z : Zs} (s0 : RefRep a κ z) (hlen : z.length ≤ 8) {b : Nat} (lb : b < a.next) {bs : AV} (hb : a.get b = some (.cells [bs, .slice κ.p1 z.length κ.c1, .slice κ.p2 z.length κ.c2] false)) {n : Nat} (hn : 100 ≤ n) :
    ∀ (ts pre : Zs) (m : Nat) (h : H) (p : Option (Nat × Nat)) (c : Cap), z = pre ++ ts → ts.length < m → Mod [] a h → Grow a h 1 p (downZ pre).length c ((downZ pre).map AV.str) →
      Ret (outriderref12_Down_21_L0 n m (some (b, 0)) p (downZ pre).length c pre.length h) fun r h' => Mod [] a h' ∧ Grow a h' 1 r.1 r.2.1 r.2.2 ((downZ z).map AV.str)
  | [], pre, m + 1, h, p, c, hx, _, hm, g => by
    have gb := (hm.get _ lb (by simp)).trans hb
    rw [outriderref12_Down_21_L0_eq]
    simp only [nnK_some', Nat.zero_add, cellK_of gb (o := 1) rfl, asSlice_slice]
    rw [cast_not_lt (by rw [hx]; simp), cond_false]
    rw [List.append_nil] at hx
    subst hx
    exact .pure ⟨hm, g⟩
  | t :: ts, pre, m + 1, h, p, c, hx, hl, hm, g => by
    have gb := (hm.get _ lb (by simp)).trans hb
    have s := s0.mod0 hm
    have hpl : pre.length < z.length := by rw [hx]; simp
    have ht : z[pre.length]? = some t := by rw [hx]; simp
    rw [outriderref12_Down_21_L0_eq]
    simp only [nnK_some', Nat.zero_add, cellK_of gb (o := 1) rfl, cellK_of gb (o := 2) rfl, asSlice_slice]
    rw [cast_lt hpl, cond_true, s.u.ix1 ht, asBool_bool]
    have hds := downZ_snoc pre t
    have hdl := downZ_len pre
    have ih := fun (h : H) (p : Option (Nat × Nat)) (c : Cap) => down_outer s0 hlen lb hb hn ts (pre ++ [t]) m h p c (by rw [hx]; simp) (by simp at hl; omega)
    rw [hds, List.length_append, List.length_singleton] at ih
    cases hu : t.2 with
    | true =>
      rw [hu] at ih
      rw [cond_true, wrap_succ (by omega)]
      exact ih h p c hm g
    | false =>
      rw [hu] at ih
      simp only [Bool.false_eq_true, if_false] at ih
      rw [cond_false]
      refine down_inner s (hm.lt lb) gb ht g.row (by omega) n m (fun p' len' c' h' m' g' => ?_) (downZ pre) [] false [] n h none 0 (.known 0) rfl (by omega) (by simp) (.refl _ _) .nil (by simp)
      obtain rfl := g'.row.len1
      rw [wrap_succ (by omega)]
      exact ih h' p' c' (hm.trans m') (g'.base hm.next)

theorem refDown_ret {h : H} {κ : Rk} {z : Zs} (s : RefRep h κ z) (hlen : z.length ≤ 8) {n : Nat} (hn : 100 ≤ n) (base : Int) :
    Ret (outriderref12_Down_21 n base κ.p1 z.length κ.c1 κ.p2 z.length κ.c2 h) fun r h' => Mod [] h h' ∧ Grow h h' 1 r.1 r.2.1 r.2.2 ((downZ z).map AV.str) := by
  rw [outriderref12_Down_21_eq]
  have m1 : Mod [] h (h.new (.cells [.int .i64 base, .slice κ.p1 z.length κ.c1, .slice κ.p2 z.length κ.c2] false)) := (Mod.refl _ _).new _
  simp only [newK_eq]
  exact (down_outer (s.mod0 m1) hlen (by simp) (get_new_self _ _) hn z [] n _ none (.known 0) rfl (by omega) (.refl _ _) .nil).mono fun r h' ⟨q1, q2⟩ => ⟨m1.trans q1, q2.base m1.next⟩

/-! ### New -/

theorem mkSlK_of {β : Type} {size bytes : Nat} {zs : List AV} {l : Nat} (h : H) (hl : l < 1000000) (hb : bytes ≤ 1000) (f : Nat → Nat → Nat → H → Option β) : mkSlK size bytes zs (l : Int) (l : Int) h f = f h.next l l (h.new (.cells (evTile (l * size) zs) false)) := by
  unfold mkSlK
  have hw : IntKind.i64.wrap (l : Int) = l := wrap_i64 (by omega) (by omega)
  have hm : (bytes : Int) * (l : Int) ≤ 2 ^ 48 := by
    have : bytes * l ≤ 1000 * 1000000 := Nat.mul_le_mul hb (by omega)
    have h2 : ((bytes * l : Nat) : Int) ≤ 1000000000 := by omega
    rw [← Int.natCast_mul]
    omega
  rw [hw, if_pos ⟨by omega, Int.le_refl _, by omega⟩, newK_eq]
  rfl
theorem evTile_one (n : Nat) (v : AV) : evTile n [v] = List.replicate n v := by
  apply List.ext_getElem?
  intro k
  unfold evTile
  rw [List.getElem?_map, List.getElem?_replicate]
  by_cases h : k < n
  · rw [List.getElem?_range h, if_pos h]; simp [Nat.mod_one]
  · rw [List.getElem?_eq_none (by simp; omega), if_neg h]; rfl

abbrev noSet : List AV := [.int .i64 0, .slice none 0 (.known 0), .slice none 0 (.known 0)]
abbrev NewR := Int × Option (Nat × Nat) × Nat × Cap × Option (Nat × Nat) × Nat × Cap × Bool
def none8 : NewR := (0, none, 0, .known 0, none, 0, .known 0, false)

theorem refNew_inner {h : H} {p : Option (Nat × Nat)} {c : Cap} {xs : List Tr} (r : Row h 2 p xs.length c (xs.flatMap encT)) (hmax : xs.length ≤ 8) {b : Nat} (hb : h.get b = some (.cells noSet false)) {base : Int} {i : Nat} {t : Tr} (hi : xs[i]? = some t) (n m1 : Nat) {Q : NewR → H → Prop}
    (bad : (xs.take i).any (fun s => decide (t.1 = s.1)) = true → ∀ h', (∃ o, h' = h.set b o) → Q none8 h') :
    ∀ (ts pre : List Tr) (m2 : Nat), xs.take i = pre ++ ts → (pre.any fun s => decide (t.1 = s.1)) = false → ts.length < m2 →
      ((xs.take i).any (fun s => decide (t.1 = s.1)) = false → Ret (outriderref12_New_17_L1 n m1 base p xs.length c (some (b, 0)) (IntKind.i64.wrap ((i : Int) + 1)) h) Q) →
      Ret (outriderref12_New_17_L3 n m1 m2 base p xs.length c (some (b, 0)) i pre.length h) Q
  | [], pre, m2 + 1, hx, hp, _, go => by
    have hl := congrArg List.length hx
    have hi' := (List.getElem?_eq_some_iff.1 hi).1
    simp only [List.length_take, List.append_nil] at hl
    rw [outriderref12_New_17_L3_eq, cast_not_lt (by omega), cond_false]
    rw [List.append_nil] at hx
    exact go (by rw [hx]; exact hp)
  | s :: ts, pre, m2 + 1, hx, hp, hl, go => by
    have hl2 := congrArg List.length hx
    have hi' := (List.getElem?_eq_some_iff.1 hi).1
    simp only [List.length_take, List.length_append, List.length_cons] at hl2
    have hs : xs[pre.length]? = some s := by
      have : (xs.take i)[pre.length]? = some s := by rw [hx]; simp
      rw [List.getElem?_take, if_pos (by omega)] at this
      exact this
    rw [outriderref12_New_17_L3_eq, cast_lt (by omega), cond_true, r.ix20 encT_len hs (v := .str s.1) rfl, asStr_str, r.ix20 encT_len hi (v := .str t.1) rfl, asStr_str, str_eq]
    by_cases e : s.1 = t.1
    · rw [decide_eq_true e, cond_true]
      simp only [nnK_some']
      rw [wrK_of (n := 3) hb rfl (by simp) rfl, spl_all _ _ (by simp), aggK_all (n := 3) (get_set_self _ _ _) rfl]
      simp only [lc_cons, l0_nil, asInt_int, asSlice_slice]
      exact .pure (bad (by rw [hx]; simp [e]) _ ⟨_, rfl⟩)
    · rw [decide_eq_false e, cond_false, wrap_succ (by omega), show pre.length + 1 = (pre ++ [s]).length by simp]
      refine refNew_inner r hmax hb hi n m1 bad ts (pre ++ [s]) m2 (by rw [hx]; simp) ?_ (by simp at hl; omega) go
      rw [List.any_append, hp]
      simpa using fun h => e h.symm

theorem refNew_loop {h : H} {p : Option (Nat × Nat)} {c : Cap} {xs : List Tr} (r : Row h 2 p xs.length c (xs.flatMap encT)) (hmax : xs.length ≤ 8) {b : Nat} (lb : b < h.next) (hb : h.get b = some (.cells noSet false)) (base : Int) {n : Nat} (hn : 100 ≤ n) :
    ∀ (ts pre : List Tr) (m : Nat), xs = pre ++ ts → ts.length < m → Ret (outriderref12_New_17_L1 n m base p xs.length c (some (b, 0)) pre.length h) fun r' h' => Mod [b] h h' ∧
      (if ok pre ts = true then r' = (base, p, xs.length, c, some (h.next, 0), xs.length, .known xs.length, true) ∧ h'.get h.next = some (.cells (List.replicate xs.length (.bool false)) false) ∧ h.next < h'.next else r' = none8)
  | [], pre, m + 1, hx, _ => by
    rw [outriderref12_New_17_L1_eq, cast_not_lt (by rw [hx]; simp), cond_false, mkSlK_of h (by omega) (by decide)]
    have m1 : Mod [b] h (h.new (.cells (evTile (xs.length * 1) [.bool false]) false)) := (Mod.refl _ _).new _
    simp only [nnK_some']
    rw [wrK_of (n := 3) ((get_new_lt lb).trans hb) rfl (by simp) rfl, spl_all _ _ (by simp), aggK_all (n := 3) (get_set_self _ _ _) rfl]
    simp only [lc_cons, l0_nil, asInt_int, asSlice_slice]
    refine .pure ⟨m1.set (.inr (by simp)) _, ?_⟩
    rw [if_pos (show ok pre [] = true from rfl)]
    refine ⟨rfl, ?_, by simp⟩
    rw [get_set_ne (by omega), get_new_self, Nat.mul_one, evTile_one]
  | t :: ts, pre, m + 1, hx, hl => by
    have hlen : pre.length < xs.length := by rw [hx]; simp
    have ht : xs[pre.length]? = some t := by rw [hx]; simp
    have htk : xs.take pre.length = pre := by rw [hx]; simp
    have j2 : ∀ d : Bool, d = !right t → Ret (outriderref12_New_17_J2 n m base p xs.length c (some (b, 0)) pre.length d h) fun r' h' => Mod [b] h h' ∧
      (if ok pre (t :: ts) = true then r' = (base, p, xs.length, c, some (h.next, 0), xs.length, .known xs.length, true) ∧ h'.get h.next = some (.cells (List.replicate xs.length (.bool false)) false) ∧ h.next < h'.next else r' = none8) := by
      intro d hd
      rw [outriderref12_New_17_J2_eq, hd]
      cases hr : right t with
      | false =>
        rw [Bool.not_false, cond_true]
        simp only [nnK_some']
        rw [wrK_of (n := 3) hb rfl (by simp) rfl, spl_all _ _ (by simp), aggK_all (n := 3) (get_set_self _ _ _) rfl]
        simp only [lc_cons, l0_nil, asInt_int, asSlice_slice]
        refine .pure ⟨(Mod.refl _ _).set (.inr (by simp)) _, ?_⟩
        rw [if_neg (by simp [ok, hr])]
        rfl
      | true =>
        rw [Bool.not_true, cond_false]
        refine refNew_inner r hmax hb ht n m (fun hany h' hh => ?_) pre [] n (by rw [htk]; rfl) rfl (by omega) (fun hany => ?_)
        · obtain ⟨o, ho⟩ := hh
          rw [htk] at hany
          refine ⟨by rw [ho]; exact (Mod.refl _ _).set (.inr (by simp)) _, ?_⟩
          rw [if_neg (by simp only [ok, hany]; simp)]
        · rw [htk] at hany
          rw [wrap_succ (by omega), show pre.length + 1 = (pre ++ [t]).length by simp]
          refine (refNew_loop r hmax lb hb base hn ts (pre ++ [t]) m (by rw [hx]; simp) (by simp at hl; omega)).mono fun r' h' ⟨q1, q2⟩ => ⟨q1, ?_⟩
          rw [ok, hany, hr]
          exact q2
    rw [outriderref12_New_17_L1_eq, cast_lt hlen, cond_true, r.ix20 encT_len ht (v := .str t.1) rfl, asStr_str]
    by_cases h1 : t.1.size < 1
    · rw [show decide ((t.1.size : Int) < 1) = true by simp; omega, cond_true]
      exact j2 true (by have : right t = false := by { unfold right; rw [decide_eq_false (show ¬ 1 ≤ t.1.size by omega)]; rfl }; rw [this]; rfl)
    rw [show decide ((t.1.size : Int) < 1) = false by simp; omega, cond_false, r.ix20 encT_len ht (v := .str t.1) rfl, asStr_str]
    by_cases h2 : t.1.size > 40
    · rw [show decide ((t.1.size : Int) > 40) = true by simp; omega, cond_true]
      exact j2 true (by have : right t = false := by { unfold right; rw [decide_eq_false (show ¬ t.1.size ≤ 40 by omega), Bool.and_false]; rfl }; rw [this]; rfl)
    rw [show decide ((t.1.size : Int) > 40) = false by simp; omega, cond_false, r.ix2 encT_len ht 1 (v := .int .i64 t.2) rfl, asInt_int]
    by_cases h3 : t.2 = 0
    · rw [show (t.2 == 0) = true by simpa using h3, cond_true]
      exact j2 true (by have : right t = false := by { unfold right; rw [decide_eq_true h3]; simp }; rw [this]; rfl)
    rw [show (t.2 == 0) = false by simpa using h3, cond_false, r.ix2 encT_len ht 1 (v := .int .i64 t.2) rfl, asInt_int]
    by_cases h4 : t.2 < -254
    · rw [decide_eq_true h4, cond_true]
      exact j2 true (by have : right t = false := by { unfold right; rw [decide_eq_false (show ¬ -254 ≤ t.2 by omega)]; simp }; rw [this]; rfl)
    rw [decide_eq_false h4, cond_false, r.ix2 encT_len ht 1 (v := .int .i64 t.2) rfl, asInt_int]
    refine j2 _ ?_
    unfold right
    rw [decide_eq_true (show 1 ≤ t.1.size by omega), decide_eq_true (show t.1.size ≤ 40 by omega), decide_eq_false h3, decide_eq_true (show -254 ≤ t.2 by omega)]
    simp only [Bool.true_and, Bool.not_false]
    by_cases h5 : t.2 ≤ 254
    · rw [decide_eq_true h5, decide_eq_false (show ¬ t.2 > 254 by omega)]; rfl
    · rw [decide_eq_false h5, decide_eq_true (show t.2 > 254 by omega)]; rfl

theorem refNew_ret {h : H} {p : Option (Nat × Nat)} {c : Cap} {xs : List Tr} (r : Row h 2 p xs.length c (xs.flatMap encT)) {n : Nat} (hn : 100 ≤ n) (base : Int) :
    Ret (outriderref12_New_17 n base p xs.length c h) fun r' h' => Mod [] h h' ∧
      (if valid base xs = true then ∃ q, r' = (base, p, xs.length, c, some (q, 0), xs.length, .known xs.length, true) ∧ h'.get q = some (.cells (List.replicate xs.length (.bool false)) false) ∧ h.next ≤ q ∧ q < h'.next else r' = none8) := by
  rw [outriderref12_New_17_eq]
  simp only [newK_eq]
  have m1 : Mod [] h (h.new (.cells noSet false)) := (Mod.refl _ _).new _
  have g1 : (h.new (.cells noSet false)).get h.next = some (.cells noSet false) := get_new_self _ _
  have l1 : h.next < (h.new (.cells noSet false)).next := by simp
  have r1 := r.mod0 m1
  have hnext := m1.next
  change Ret (cond (decide (base < 1)) (outriderref12_New_17_J0 n base p xs.length c (some (h.next, 0)) true (h.new (.cells noSet false))) (cond (decide (base > 255)) (outriderref12_New_17_J0 n base p xs.length c (some (h.next, 0)) true (h.new (.cells noSet false))) (outriderref12_New_17_J0 n base p xs.length c (some (h.next, 0)) (decide ((Nat.cast xs.length : Int) > 8)) (h.new (.cells noSet false))))) _
  generalize h.new (.cells noSet false) = h1 at *
  have bad : Ret (outriderref12_New_17_J0 n base p xs.length c (some (h.next, 0)) true h1) fun r' h' => Mod [] h h' ∧ r' = none8 := by
    rw [outriderref12_New_17_J0_eq, cond_true]
    simp only [nnK_some']
    rw [wrK_of (n := 3) g1 rfl (by simp) rfl, spl_all _ _ (by simp), aggK_all (n := 3) (get_set_self _ _ _) rfl]
    simp only [lc_cons, l0_nil, asInt_int, asSlice_slice]
    exact .pure ⟨m1.set (.inl (Nat.le_refl _)) _, rfl⟩
  have key : Ret (outriderref12_New_17_J0 n base p xs.length c (some (h.next, 0)) (decide ((Nat.cast xs.length : Int) > 8)) h1) fun r' h' => Mod [] h h' ∧
      (if (decide (xs.length ≤ 8) && ok [] xs) = true then ∃ q, r' = (base, p, xs.length, c, some (q, 0), xs.length, .known xs.length, true) ∧ h'.get q = some (.cells (List.replicate xs.length (.bool false)) false) ∧ h.next ≤ q ∧ q < h'.next else r' = none8) := by
    by_cases h8 : xs.length ≤ 8
    · rw [outriderref12_New_17_J0_eq, show decide ((xs.length : Int) > 8) = false by simp; omega, cond_false, decide_eq_true h8, Bool.true_and]
      refine (refNew_loop r1 h8 l1 g1 base hn xs [] n rfl (by omega)).mono fun r' h' ⟨q1, q2⟩ => ⟨m1.trans' q1 fun i hi hl => by simp at hi; omega, ?_⟩
      split at q2
      · rename_i hok; rw [if_pos hok]; exact ⟨h1.next, q2.1, q2.2.1, hnext, q2.2.2⟩
      · rename_i hok; rw [if_neg hok]; exact q2
    · rw [show decide ((xs.length : Int) > 8) = true by simp; omega]
      refine bad.mono fun r' h' ⟨q1, q2⟩ => ⟨q1, ?_⟩
      rw [if_neg (by simp [h8])]; exact q2
  by_cases h1 : 1 ≤ base
  · rw [show decide (base < 1) = false by simp; omega, cond_false]
    by_cases h2 : base ≤ 255
    · rw [show decide (base > 255) = false by simp; omega, cond_false]
      refine key.mono fun r h' ⟨q1, q2⟩ => ⟨q1, ?_⟩
      simpa [valid, h1, h2] using q2
    · rw [show decide (base > 255) = true by simp; omega, cond_true]
      refine bad.mono fun r h' ⟨q1, q2⟩ => ⟨q1, ?_⟩
      simpa [valid, h1, h2] using q2
  · rw [show decide (base < 1) = true by simp; omega, cond_true]
    refine bad.mono fun r h' ⟨q1, q2⟩ => ⟨q1, ?_⟩
    simpa [valid, h1] using q2

end Go.Ev.Try
