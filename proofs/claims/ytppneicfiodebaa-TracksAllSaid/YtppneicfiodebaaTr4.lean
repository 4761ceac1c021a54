/- What the given package 'tracks' computes, in plain lists: Down; the laws' same, alive; the laws TracksRise, TracksOwner. -/
import Derived.Test.YtppneicfiodebaaTr3
set_option linter.all false
namespace Go.Ev.Try
set_option maxRecDepth 10000
open Go.Proofs

/-! ### Down -/

def downs (u : List (ByteArray × Bool)) (xs : List Tr) : List ByteArray := (xs.filter fun t => !upOf u t.1).map (·.1)

theorem Down_loop {a : H} {σ : Sk} {base : Int} {xs : List Tr} {u : List (ByteArray × Bool)} (s0 : SetRep a σ base xs u) (hg : Good base xs) {n : Nat} (hn : 100 ≤ n) :
    ∀ (ts pre : List Tr) (m : Nat) (h : H) (p : Option (Nat × Nat)) (len : Nat) (c : Cap), xs = pre ++ ts → ts.length < m → Mod [] a h → Grow a h 1 p len c ((downs u pre).map AV.str) →
      Ret (tracks_Set_Down_14_L0 n m σ.ptr p len c σ.p xs.length σ.c xs.length pre.length h) fun r h' => Mod [] a h' ∧ Grow a h' 1 r.1 r.2.1 r.2.2 ((srt (downs u xs)).map AV.str)
  | [], pre, m + 1, h, p, len, c, hx, _, hm, g => by
    rw [tracks_Set_Down_14_L0_eq, cast_not_lt (by rw [hx]; simp), cond_false]
    rw [List.append_nil] at hx
    subst hx
    have hlen : (downs u xs).length ≤ 8 := by
      rw [downs, List.length_map]
      exact Nat.le_trans (List.length_filter_le _ _) hg.len
    refine (Sort_ret g (by omega) (by omega)).bind ?_
    rintro _ h1 ⟨g1, m1⟩
    exact .pure ⟨hm.trans' m1 fun i hi hl => by have := (g.own_ge i hi).1; omega, g1⟩
  | t :: ts, pre, m + 1, h, p, len, c, hx, hl, hm, g => by
    have hlen : pre.length < xs.length := by rw [hx]; simp
    have s := s0.mod0 hm
    rw [tracks_Set_Down_14_L0_eq, cast_lt hlen, cond_true, s.row.ix encT_len (by decide) (x := t) (by rw [hx]; simp)]
    simp only [encT, lc_cons, l0_nil, asStr_str, asInt_int, newK_eq]
    rw [box_wr (n := 2) rfl rfl rfl]
    have m1 : Mod [] h (h.new (.cells [.str t.1, .int .i64 t.2] false)) := (Mod.refl _ _).new _
    have s1 := s.mod0 m1
    have g1 : (h.new (.cells [.str t.1, .int .i64 t.2] false)).get h.next = some (.cells [.str t.1, .int .i64 t.2] false) := get_new_self _ _
    have n1 := (hm.trans m1)
    have gr1 := g.mod0 m1
    generalize h.new (.cells [.str t.1, .int .i64 t.2] false) = h1 at *
    simp only [Sk.ptr, nnK_some', cellK, s1.obj, g1, Nat.zero_add, List.getElem?_cons_zero, List.getElem?_cons_succ, asMap_map, asStr_str]
    rw [look_up s1]
    simp only [asBool_bool]
    have hnext : pre.length + 1 = (pre ++ [t]).length := by simp
    have hdown : downs u (pre ++ [t]) = downs u pre ++ (if upOf u t.1 = true then [] else [t.1]) := by
      rw [downs, List.filter_append, List.map_append]
      congr 1
      cases hu : upOf u t.1 <;> simp [hu]
    have hg1 := gr1.row.len1
    have hle : (downs u pre).length ≤ 8 := by
      rw [downs, List.length_map]
      exact Nat.le_trans (List.length_filter_le _ _) (by have := hg.len; omega)
    rw [wrap_succ (by have := hg.len; omega), hnext]
    cases hu : upOf u t.1 with
    | false =>
      rw [hu] at hdown
      simp only [Bool.not_false, cond_true]
      have m2 : Mod [] h1 (h1.new (.cells [.str t.1] false)) := (Mod.refl _ _).new _
      have r2 : Row (h1.new (.cells [.str t.1] false)) 1 (some (h1.next, 0)) 1 (.known 1) [.str t.1] := .row (by simp) (get_new_self _ _) rfl (by simp) (.inr ⟨1, rfl, Nat.le_refl _⟩)
      refine (gr1.mod0 m2).ret ((n1.trans m2).next) r2.src rfl rfl (by omega) (by omega) (fun h => by cases h) fun p' c' h' g' m' => ?_
      refine Down_loop s0 hg hn ts (pre ++ [t]) m h' p' _ c' (by rw [hx]; simp) (by simp at hl; omega) ((n1.trans m2).trans' m' fun i hi hl => ?_) ?_
      · have := (g.own_ge i hi).1; omega
      · rw [hdown]; simpa using g'
    | true =>
      rw [hu] at hdown
      simp only [Bool.not_true, cond_false]
      exact Down_loop s0 hg hn ts (pre ++ [t]) m h1 p _ c (by rw [hx]; simp) (by simp at hl; omega) n1 (by rw [hdown]; simpa using gr1)

theorem Down_ret {a : H} {σ : Sk} {base : Int} {xs : List Tr} {u : List (ByteArray × Bool)} (s : SetRep a σ base xs u) (hg : Good base xs) {n : Nat} (hn : 100 ≤ n) :
    Ret (tracks_Set_Down_14 n σ.ptr a) fun r h' => Mod [] a h' ∧ Grow a h' 1 r.1 r.2.1 r.2.2 ((srt (downs u xs)).map AV.str) := by
  rw [tracks_Set_Down_14_eq]
  simp only [Sk.ptr, nnK_some', cellK, s.obj, List.getElem?_cons_zero, List.getElem?_cons_succ, asSlice_slice, Nat.zero_add]
  exact Down_loop s hg hn xs [] n a none 0 (.known 0) rfl (by have := hg.len; omega) (.refl _ _) .nil

/-! ### same -/

theorem same_loop {h : H} {p q : Option (Nat × Nat)} {c d : Cap} {us ws : List ByteArray} (ra : Row h 1 p us.length c (us.map AV.str)) (rb : Row h 1 q ws.length d (ws.map AV.str)) (he : us.length = ws.length) (hmax : us.length < 1000000) (n : Nat) :
    ∀ (k i m : Nat), i + k = us.length → k < m → outriderlaw12_same_13_L0 n m p us.length c q ws.length d us.length i h = some (decide (us.drop i = ws.drop i), h)
  | 0, i, m + 1, hx, _ => by
    rw [outriderlaw12_same_13_L0_eq, cast_not_lt (by omega), cond_false, List.drop_of_length_le (by omega), List.drop_of_length_le (by omega)]
    simp
  | k + 1, i, m + 1, hx, hl => by
    have h1 : i < us.length := by omega
    have h2 : i < ws.length := by omega
    rw [outriderlaw12_same_13_L0_eq, cast_lt (by omega), cond_true, ra.ix1 (List.getElem?_eq_getElem h1), asStr_str, rb.ix1 (List.getElem?_eq_getElem h2), asStr_str, str_eq, wrap_succ (by omega),
      same_loop ra rb he hmax n k (i + 1) m (by omega) (by omega), List.drop_eq_getElem_cons h1, List.drop_eq_getElem_cons h2]
    by_cases e : us[i] = ws[i]
    · rw [decide_eq_true e, Bool.not_true, cond_false, e]
      congr 2
      rw [decide_eq_decide]
      simp only [List.cons.injEq, true_and]
    · rw [decide_eq_false e, Bool.not_false, cond_true]
      congr 2
      rw [eq_comm, decide_eq_false_iff_not]
      simp only [List.cons.injEq, e, false_and, not_false_eq_true]

theorem same_eq {h : H} {p q : Option (Nat × Nat)} {la lb : Nat} {c d : Cap} {us ws : List ByteArray} (ra : Row h 1 p la c (us.map AV.str)) (rb : Row h 1 q lb d (ws.map AV.str)) (hmax : us.length < 1000000) {n : Nat} (hn : us.length < n) :
    outriderlaw12_same_13 n p la c q lb d h = some (decide (us = ws), h) := by
  obtain rfl := ra.len1
  obtain rfl := rb.len1
  rw [outriderlaw12_same_13_eq]
  by_cases he : us.length = ws.length
  · rw [show (((us.length : Nat) : Int) != (ws.length : Nat)) = false by simp [he], cond_false]
    exact same_loop ra rb he hmax n us.length 0 n (by omega) hn
  · rw [show (((us.length : Nat) : Int) != (ws.length : Nat)) = true by simp; omega, cond_true, decide_eq_false fun e => he (by rw [e])]

/-! ### alive -/

abbrev nmA : ByteArray := ⟨#[97]⟩
abbrev nmB : ByteArray := ⟨#[98]⟩

theorem alive_ret (h : H) {n : Nat} (hn : 100 ≤ n) : Ret (outriderlaw12_alive_10 n h) fun r h' => r = true ∧ Mod [] h h' := by
  rw [outriderlaw12_alive_10_eq]
  simp only [newK_eq]
  have m1 : Mod [] h (h.new (.cells [.str nmA, .int .i64 20, .str nmB, .int .i64 (-30)] false)) := (Mod.refl _ _).new _
  have r1 : Row (h.new (.cells [.str nmA, .int .i64 20, .str nmB, .int .i64 (-30)] false)) 2 (some (h.next, 0)) 2 (.known 2) ([(nmA, 20), (nmB, -30)].flatMap encT) := .row (by simp) (get_new_self _ _) rfl (by simp) (.inr ⟨2, rfl, Nat.le_refl _⟩)
  generalize h.new (.cells [.str nmA, .int .i64 20, .str nmB, .int .i64 (-30)] false) = h1 at *
  have hv : valid 100 [(nmA, 20), (nmB, -30)] = true := by decide +kernel
  refine (New_ret (xs := [(nmA, 20), (nmB, -30)]) r1 (by simp) (by simp; omega) 100).bind ?_
  rintro ⟨r, e⟩ h2 ⟨m2, hr⟩
  rw [if_pos hv] at hr
  obtain ⟨σ, hr, s, hσ⟩ := hr
  cases hr
  dsimp only
  rw [show ((0 : Int) != 0) = false by decide, cond_false, eqVK_ptr Try.underlying24, outriderlaw12_alive_10_J0_eq]
  simp only [Sk.ptr, Option.isNone_some, cond_false]
  refine (Priority_ret s (good_of hv) hn).bind ?_
  rintro _ h3 ⟨m3, rfl⟩
  refine (Tell_ret (s.mod0 m3) (good_of hv) hn nmB true).bind ?_
  rintro _ h4 ⟨m4, rfl, s4⟩
  dsimp only
  rw [show (prio 100 (downMap [(nmA, 20), (nmB, -30)]) [(nmA, 20), (nmB, -30)] == 70) = true by decide +kernel, cond_true,
    show (prio 100 (tell (downMap [(nmA, 20), (nmB, -30)]) nmB true) [(nmA, 20), (nmB, -30)] != prio 100 (downMap [(nmA, 20), (nmB, -30)]) [(nmA, 20), (nmB, -30)]) = true by decide +kernel, cond_true,
    show (lk (downMap [(nmA, 20), (nmB, -30)]) nmB).isSome = true by decide +kernel, cond_true]
  refine (Priority_ret s4 (good_of hv) hn).bind ?_
  rintro _ h5 ⟨m5, rfl⟩
  dsimp only
  rw [show (prio 100 (tell (downMap [(nmA, 20), (nmB, -30)]) nmB true) [(nmA, 20), (nmB, -30)] == 100) = true by decide +kernel, cond_true]
  refine (Down_ret (s4.mod0 m5) (good_of hv) hn).bind ?_
  rintro ⟨p, len, c⟩ h6 ⟨m6, g⟩
  have hl := g.row.len1
  dsimp only at hl ⊢
  rw [show (srt (downs (tell (downMap [(nmA, 20), (nmB, -30)]) nmB true) [(nmA, 20), (nmB, -30)])).length = 1 by decide +kernel] at hl
  subst hl
  refine .pure ⟨by decide, ?_⟩
  have n2 := m1.trans m2
  exact ((n2.trans m3).trans' m4 fun i hi hl => by have := hσ i hi; have := m1.next; omega).trans (m5.trans m6)

/-! ### the scripts -/

structure Sop where
  kind : Int
  num : Int
  name : ByteArray
  up : Bool
def encO (o : Sop) : List AV := [.int .i64 o.kind, .int .i64 o.num, .str o.name, .bool o.up]
theorem encO_len : ∀ x, (encO x).length = 4 := fun _ => rfl

/-- when all that comes of it is good -/
def True' (r : Bool) (_ : H) : Prop := r = true
theorem alive_true (h : H) {n : Nat} (hn : 100 ≤ n) : Ret ((outriderlaw12_alive_10 n h).bind fun r => some (r.1, r.2)) True' :=
  (alive_ret h hn).bind fun _ _ h => .pure h.1

/-! ### TracksRise -/

def gain (b : Bool) (w : Int) : Int := if b = decide (w > 0) then w else 0
theorem isum_adds (u : List (ByteArray × Bool)) : ∀ xs : List Tr, isum (adds u xs) = isum (xs.map fun t => gain (upOf u t.1) t.2)
  | [] => rfl
  | t :: xs => by
    have ih := isum_adds u xs
    simp only [adds, List.filterMap_cons, List.map_cons, isum, gain] at ih ⊢
    by_cases h : upOf u t.1 = decide (t.2 > 0)
    · simp only [if_pos h, isum]; rw [ih]
    · simp only [if_neg h]; rw [ih]; simp
theorem isum_mono {α : Type} {f g : α → Int} : ∀ {l : List α}, (∀ x ∈ l, f x ≤ g x) → isum (l.map f) ≤ isum (l.map g)
  | [], _ => Int.le_refl _
  | x :: l, h => by
    have h1 := isum_mono (l := l) fun y hy => h y (by simp [hy])
    have h2 := h x (by simp)
    simp only [List.map_cons, isum]; omega
theorem gain_mono {a b : Bool} (h : a = true → b = true) (w : Int) : gain a w ≤ gain b w := by
  unfold gain
  cases a <;> cases b <;> simp_all
  by_cases hw : 0 < w <;> simp [hw] <;> omega
theorem clamp_mono {x y : Int} (h : x ≤ y) : clamp x ≤ clamp y := by
  unfold clamp; split <;> split <;> (try split) <;> (try split) <;> omega
theorem clamp_range (x : Int) : 1 ≤ clamp x ∧ clamp x ≤ 254 := by
  unfold clamp; split <;> (try split) <;> omega
theorem prio_mono {base : Int} {u v : List (ByteArray × Bool)} {xs : List Tr} (h : ∀ n, upOf u n = true → upOf v n = true) : prio base u xs ≤ prio base v xs := by
  unfold prio
  split
  · exact Int.le_refl _
  · apply clamp_mono
    rw [isum_adds, isum_adds]
    have := isum_mono (l := xs) (f := fun t => gain (upOf u t.1) t.2) (g := fun t => gain (upOf v t.1) t.2) fun t _ => gain_mono (h t.1) t.2
    omega
theorem prio_range (base : Int) (u : List (ByteArray × Bool)) (xs : List Tr) : 1 ≤ prio base u xs ∧ prio base u xs ≤ 255 ∧ (prio base u xs = 255 ↔ base = 255) := by
  unfold prio
  split
  · rename_i h; simp [h]
  · rename_i h
    have := clamp_range (base + isum (adds u xs))
    refine ⟨this.1, by omega, ⟨fun e => by omega, fun e => absurd e h⟩⟩
theorem upOf_tell (u : List (ByteArray × Bool)) (nm : ByteArray) (up : Bool) (n : ByteArray) : upOf (tell u nm up) n = if n = nm ∧ (lk u nm).isSome = true then up else upOf u n := by
  unfold tell
  by_cases h : (lk u nm).isSome = true
  · rw [if_pos h]
    unfold upOf
    rw [lk_pt]
    by_cases hn : n = nm
    · subst hn; simp [h]
    · simp [hn]
  · rw [if_neg h, if_neg (by simp [h])]

theorem Rise_loop {a : H} {p0 : Option (Nat × Nat)} {c0 : Cap} {os : List Sop} (r0 : Row a 4 p0 os.length c0 (os.flatMap encO)) (hmax : os.length < 1000000) {n : Nat} (hn : 100 ≤ n) {σ : Sk} {base : Int} {xs : List Tr} (hg : Good base xs) (hσ : ∀ i ∈ σ.all, a.next ≤ i) :
    ∀ (ts pre : List Sop) (m : Nat) (h : H) (u : List (ByteArray × Bool)), os = pre ++ ts → ts.length < m → Mod [] a h → SetRep h σ base xs u →
      Ret (outriderlaw12_TracksRise_4_L1 n m base σ.ptr p0 os.length c0 os.length pre.length h) True'
  | [], pre, m + 1, h, u, hx, _, hm, s => by
    rw [outriderlaw12_TracksRise_4_L1_eq, cast_not_lt (by rw [hx]; simp), cond_false]
    exact alive_true h hn
  | t :: ts, pre, m + 1, h, u, hx, hl, hm, s => by
    have hlen : pre.length < os.length := by rw [hx]; simp
    rw [outriderlaw12_TracksRise_4_L1_eq, cast_lt hlen, cond_true, (r0.mod0 hm).ix encO_len (by decide) (x := t) (by rw [hx]; simp)]
    simp only [encO, lc_cons, l0_nil, asStr_str, asInt_int, asBool_bool, newK_eq]
    rw [box_wr (n := 4) rfl rfl rfl]
    have m1 : Mod [] h (h.new (.cells (encO t) false)) := (Mod.refl _ _).new _
    have s1 := s.mod0 m1
    have g1 : (h.new (.cells (encO t) false)).get h.next = some (.cells (encO t) false) := get_new_self _ _
    have l1 : h.next < (h.new (.cells (encO t) false)).next := by simp
    have ne1 : ∀ i ∈ σ.all, i ≠ h.next := fun i hi e => by
      have := s.row.lt; have := s.lb; have := s.lm
      simp only [Sk.all, List.mem_cons] at hi
      rcases hi with rfl | rfl | hi
      · omega
      · omega
      · have := s.row.lt i hi; omega
    have n1 := hm.trans m1
    simp only [encO] at g1 m1 s1 l1 n1
    generalize h.new (.cells [.int .i64 t.kind, .int .i64 t.num, .str t.name, .bool t.up] false) = h1 at *
    refine (Priority_ret s1 hg hn).bind ?_
    rintro _ h2 ⟨m2, rfl⟩
    have g2 := (m2.get _ l1 (by simp)).trans g1
    simp only [cellK, g2, List.getElem?_cons_zero, List.getElem?_cons_succ, asStr_str, asBool_bool]
    refine (Tell_ret (s1.mod0 m2) hg hn t.name t.up).bind ?_
    rintro _ h3 ⟨m3, rfl, s3⟩
    dsimp only
    refine (Priority_ret s3 hg hn).bind ?_
    rintro _ h4 ⟨m4, rfl⟩
    have g4 := (m4.get _ (m3.lt (m2.lt l1)) (by simp)).trans ((m3.get _ (m2.lt l1) (fun hi => ne1 _ hi rfl)).trans g2)
    have n4 : Mod [] a h4 := ((n1.trans m2).trans' m3 fun i hi hl => by have := hσ i hi; omega).trans m4
    simp only [g4, List.getElem?_cons_zero, List.getElem?_cons_succ, asStr_str, asBool_bool]
    have hr := prio_range base (tell u t.name t.up) xs
    have hlast : outriderlaw12_TracksRise_4_J2 n m base σ.ptr p0 os.length c0 os.length pre.length (!(((prio base (tell u t.name t.up) xs : Int) == (255 : Int)) == ((base : Int) == (255 : Int)))) h4 = outriderlaw12_TracksRise_4_L1 n m base σ.ptr p0 os.length c0 os.length (pre ++ [t]).length h4 := by
      rw [show (!(((prio base (tell u t.name t.up) xs : Int) == (255 : Int)) == ((base : Int) == (255 : Int)))) = false by
        rw [Bool.not_eq_false', beq_iff_eq, Bool.eq_iff_iff, beq_iff_eq, beq_iff_eq]; exact hr.2.2, outriderlaw12_TracksRise_4_J2_eq, cond_false, wrap_succ (by omega)]
      simp
    have ih := Rise_loop r0 hmax hn hg hσ ts (pre ++ [t]) m h4 (tell u t.name t.up) (by rw [hx]; simp) (by simp at hl; omega) n4 (s3.mod0 m4)
    have d1 : decide (prio base (tell u t.name t.up) xs < 1) = false := by simp; omega
    have d2 : decide (prio base (tell u t.name t.up) xs > 255) = false := by simp; omega
    cases hu : t.up with
    | true =>
      rw [hu] at d1 d2 hlast
      have hm : prio base u xs ≤ prio base (tell u t.name true) xs := prio_mono fun n hn => by rw [upOf_tell]; split <;> simp_all
      have d0 : decide (prio base (tell u t.name true) xs < prio base u xs) = false := by simp; omega
      simp only [cond_true, d0, cond_false, Bool.not_true, d1, d2, hlast]
      exact ih
    | false =>
      rw [hu] at d1 d2 hlast
      have hm : prio base (tell u t.name false) xs ≤ prio base u xs := prio_mono fun n hn => by rw [upOf_tell] at hn; split at hn <;> simp_all
      have d0 : decide (prio base (tell u t.name false) xs > prio base u xs) = false := by simp; omega
      simp only [cond_true, d0, cond_false, Bool.not_false, d1, d2, hlast]
      exact ih

end Go.Ev.Try
