/- What the given package 'tracks' computes, in plain lists: own, bounded, Priority, Tell, Up, Base. -/
import Derived.Test.YtppneicfiodebaaTr1
set_option linter.all false
namespace Go.Ev.Try
set_option maxRecDepth 10000
open Go.Proofs

/-! ### own -/

theorem own_loop {a : H} {p0 : Option (Nat × Nat)} {c0 : Cap} {xs : List Tr} (r0 : Row a 2 p0 xs.length c0 (xs.flatMap encT)) (hb : xs.length * 24 ≤ 140737488355328) (n : Nat) :
    ∀ (ts pre : List Tr) (m : Nat) (h : H) (p : Option (Nat × Nat)) (c : Cap), xs = pre ++ ts → ts.length < m → Mod [] a h → Grow a h 2 p pre.length c (pre.flatMap encT) →
      Ret (outriderlaw12_own_9_L0 n m p pre.length c p0 xs.length c0 xs.length pre.length h) fun r h' => Mod [] a h' ∧ r.2.1 = xs.length ∧ Grow a h' 2 r.1 r.2.1 r.2.2 (xs.flatMap encT)
  | [], pre, m + 1, h, p, c, hx, _, hm, g => by
    rw [outriderlaw12_own_9_L0_eq, cast_not_lt (by rw [hx]; simp), cond_false]
    rw [List.append_nil] at hx
    subst hx
    exact .pure ⟨hm, rfl, g⟩
  | t :: ts, pre, m + 1, h, p, c, hx, hl, hm, g => by
    have hlen : pre.length < xs.length := by rw [hx]; simp
    rw [outriderlaw12_own_9_L0_eq, cast_lt hlen, cond_true, (r0.mod0 hm).ix encT_len (by decide) (x := t) (by rw [hx]; simp)]
    simp only [encT, lc_cons, l0_nil, asStr_str, asInt_int, newK_eq]
    rw [box_wr (n := 2) rfl rfl rfl, aggK_all (n := 2) (get_new_self _ _) rfl]
    simp only [lc_cons, l0_nil, asStr_str, asInt_int]
    have m1 : Mod [] h (h.new (.cells [.str t.1, .int .i64 t.2] false)) := (Mod.refl _ _).new _
    generalize h.new (.cells [.str t.1, .int .i64 t.2] false) = h1 at *
    have m2 : Mod [] h1 (h1.new (.cells [.str t.1, .int .i64 t.2] false)) := (Mod.refl _ _).new _
    have r2 : Row (h1.new (.cells [.str t.1, .int .i64 t.2] false)) 2 (some (h1.next, 0)) 1 (.known 1) ([t].flatMap encT) := .row (by simp) (get_new_self _ _) rfl (by simp) (.inr ⟨1, rfl, Nat.le_refl _⟩)
    refine (g.mod0 (m1.trans m2)).ret ((hm.trans (m1.trans m2)).next) r2.src rfl (encT_cell _) (by omega) (by omega) (fun h => by cases h) fun p' c' h' g' m' => ?_
    rw [wrap_succ (by omega), show pre.length + 1 = (pre ++ [t]).length by simp]
    refine own_loop r0 hb n ts (pre ++ [t]) m h' p' c' (by rw [hx]; simp) (by simp at hl; omega) ((hm.trans (m1.trans m2)).trans' m' fun i hi hl => ?_) ?_
    · have := (g.own_ge i hi).1; omega
    · rw [List.flatMap_append]; simpa using g'

theorem own_ret {a : H} {p0 : Option (Nat × Nat)} {c0 : Cap} {xs : List Tr} (r0 : Row a 2 p0 xs.length c0 (xs.flatMap encT)) (hb : xs.length * 24 ≤ 140737488355328) {n : Nat} (hn : xs.length < n) :
    Ret (outriderlaw12_own_9 n p0 xs.length c0 a) fun r h' => Mod [] a h' ∧ r.2.1 = xs.length ∧ Row h' 2 r.1 r.2.1 r.2.2 (xs.flatMap encT) := by
  rw [outriderlaw12_own_9_eq]
  exact (own_loop r0 hb n xs [] n a none (.known 0) rfl hn (.refl _ _) .nil).mono fun r h' ⟨q1, q2, q3⟩ => ⟨q1, q2, q3.row⟩

/-! ### bounded -/

def clamp (x : Int) : Int := if x < 1 then 1 else if 254 < x then 254 else x
def isum : List Int → Int
  | [] => 0
  | x :: l => x + isum l
theorem isum_append : ∀ l l' : List Int, isum (l ++ l') = isum l + isum l'
  | [], l' => by simp [isum]
  | x :: l, l' => by simp [isum, isum_append l l', Int.add_assoc]
theorem isum_bound {B : Int} : ∀ {l : List Int}, (∀ x ∈ l, -B ≤ x ∧ x ≤ B) → -(B * l.length) ≤ isum l ∧ isum l ≤ B * l.length
  | [], _ => by simp [isum]
  | x :: l, h => by
    have h1 := isum_bound (l := l) fun y hy => h y (by simp [hy])
    have h2 := h x (by simp)
    simp only [isum, List.length_cons, Int.natCast_add, Int.mul_add]
    omega

theorem bounded_loop {h : H} {p : Option (Nat × Nat)} {c : Cap} {xs : List Int} (r0 : Row h 1 p xs.length c (xs.map (.int .i64))) (hmax : xs.length < 1000000) (hb : ∀ x ∈ xs, -1000 ≤ x ∧ x ≤ 1000) (n : Nat) :
    ∀ (ts pre : List Int) (m : Nat), xs = pre ++ ts → ts.length < m → tracks_bounded_24_L0 n m (isum pre) p xs.length c xs.length pre.length h = some (clamp (isum xs), h)
  | [], pre, m + 1, hx, _ => by
    rw [tracks_bounded_24_L0_eq, cast_not_lt (by rw [hx]; simp), cond_false]
    rw [List.append_nil] at hx
    subst hx
    congr 2
    unfold clamp
    generalize isum xs = s
    split <;> split <;> (try split) <;> omega
  | t :: ts, pre, m + 1, hx, hl => by
    have hlen : pre.length < xs.length := by rw [hx]; simp
    rw [tracks_bounded_24_L0_eq, cast_lt hlen, cond_true, r0.ix1 (x := t) (by rw [hx]; simp), asInt_int]
    have h1 := isum_bound (B := 1000) (l := pre) fun x h => hb x (by rw [hx]; simp [h])
    have h2 := hb t (by rw [hx]; simp)
    rw [wrap_i64 (by omega) (by omega), wrap_succ (by omega), show pre.length + 1 = (pre ++ [t]).length by simp, show isum pre + t = isum (pre ++ [t]) by simp [isum_append, isum]]
    exact bounded_loop r0 hmax hb n ts (pre ++ [t]) m (by rw [hx]; simp) (by simp at hl; omega)

theorem bounded_eq {h : H} {p : Option (Nat × Nat)} {len : Nat} {c : Cap} {xs : List Int} (r0 : Row h 1 p len c (xs.map (.int .i64))) (hmax : xs.length < 1000000) (hb : ∀ x ∈ xs, -1000 ≤ x ∧ x ≤ 1000) {n : Nat} (hn : xs.length < n) : tracks_bounded_24 n p len c h = some (clamp (isum xs), h) := by
  obtain rfl := r0.len1
  rw [tracks_bounded_24_eq]
  exact bounded_loop r0 hmax hb n xs [] n rfl hn

/-! ### Priority -/

def upOf (u : List (ByteArray × Bool)) (n : ByteArray) : Bool := (lk u n).getD false
/-- what counts -/
def adds (u : List (ByteArray × Bool)) (xs : List Tr) : List Int := xs.filterMap fun t => if upOf u t.1 = decide (t.2 > 0) then some t.2 else none
def prio (base : Int) (u : List (ByteArray × Bool)) (xs : List Tr) : Int := if base = 255 then 255 else clamp (base + isum (adds u xs))

/-- all is as it may be -/
structure Good (base : Int) (xs : List Tr) : Prop where
  b1 : 1 ≤ base
  b2 : base ≤ 255
  len : xs.length ≤ 8
  w : ∀ t ∈ xs, -254 ≤ t.2 ∧ t.2 ≤ 254

theorem ok_right : ∀ {ts pre : List Tr}, ok pre ts = true → ∀ t ∈ ts, right t = true
  | [], _, _ => by simp
  | t :: ts, pre, h => by
    simp only [ok, Bool.and_eq_true] at h
    intro s hs
    rcases List.mem_cons.1 hs with rfl | hs
    · exact h.1.2
    · exact ok_right h.2 s hs
theorem good_of {base : Int} {xs : List Tr} (h : valid base xs = true) : Good base xs := by
  simp only [valid, Bool.and_eq_true, decide_eq_true_eq] at h
  refine ⟨h.1.1.1, h.1.1.2, h.1.2, fun t ht => ?_⟩
  have := ok_right h.2 t ht
  simp only [right, Bool.and_eq_true, decide_eq_true_eq] at this
  exact ⟨this.1.2, this.2⟩

theorem look_up {β : Type} {h : H} {σ : Sk} {base : Int} {xs : List Tr} {u : List (ByteArray × Bool)} (s : SetRep h σ base xs u) (n : ByteArray) (f : AV → Bool → Option β) : lookK (.bool false) (some σ.m) (.str n) h f = f (.bool (upOf u n)) (lk u n).isSome := by
  rw [lookK_of keys_str s.map]
  unfold upOf
  cases lk u n <;> rfl

theorem Priority_loop {a : H} {σ : Sk} {base : Int} {xs : List Tr} {u : List (ByteArray × Bool)} (s0 : SetRep a σ base xs u) (hg : Good base xs) {n : Nat} (hn : 100 ≤ n) :
    ∀ (ts pre : List Tr) (m : Nat) (h : H) (p : Option (Nat × Nat)) (len : Nat) (c : Cap), xs = pre ++ ts → ts.length < m → Mod [] a h → Grow a h 1 p len c ((base :: adds u pre).map (.int .i64)) →
      Ret (tracks_Set_Priority_12_L0 n m σ.ptr p len c σ.p xs.length σ.c xs.length pre.length h) fun r h' => Mod [] a h' ∧ r = clamp (base + isum (adds u xs))
  | [], pre, m + 1, h, p, len, c, hx, _, hm, g => by
    rw [tracks_Set_Priority_12_L0_eq, cast_not_lt (by rw [hx]; simp), cond_false]
    rw [List.append_nil] at hx
    subst hx
    have hlen : (adds u xs).length ≤ 8 := Nat.le_trans (List.length_filterMap_le _ _) hg.len
    rw [bounded_eq g.row (by simp; omega) (fun x hx => ?_) (by simp; omega), Option.bind_some]
    · exact .pure ⟨hm, rfl⟩
    · rcases List.mem_cons.1 hx with rfl | hx
      · have := hg.b1; have := hg.b2; omega
      · obtain ⟨t, ht, h1⟩ := List.mem_filterMap.1 hx
        have := hg.w t ht
        split at h1
        · cases h1; omega
        · cases h1
  | t :: ts, pre, m + 1, h, p, len, c, hx, hl, hm, g => by
    have hlen : pre.length < xs.length := by rw [hx]; simp
    have s := s0.mod0 hm
    rw [tracks_Set_Priority_12_L0_eq, cast_lt hlen, cond_true, s.row.ix encT_len (by decide) (x := t) (by rw [hx]; simp)]
    simp only [encT, lc_cons, l0_nil, asStr_str, asInt_int, newK_eq]
    rw [box_wr (n := 2) rfl rfl rfl]
    have m1 : Mod [] h (h.new (.cells [.str t.1, .int .i64 t.2] false)) := (Mod.refl _ _).new _
    have s1 := s.mod0 m1
    have g1 : (h.new (.cells [.str t.1, .int .i64 t.2] false)).get h.next = some (.cells [.str t.1, .int .i64 t.2] false) := get_new_self _ _
    have l1 : h.next < (h.new (.cells [.str t.1, .int .i64 t.2] false)).next := by simp
    have n1 := (hm.trans m1)
    have gr1 := g.mod0 m1
    generalize h.new (.cells [.str t.1, .int .i64 t.2] false) = h1 at *
    simp only [Sk.ptr, nnK_some', cellK, s1.obj, g1, Nat.zero_add, List.getElem?_cons_zero, List.getElem?_cons_succ, asMap_map, asStr_str]
    rw [look_up s1]
    simp only [asBool_bool, asInt_int]
    have hnext : pre.length + 1 = (pre ++ [t]).length := by simp
    have hadds : adds u (pre ++ [t]) = adds u pre ++ (if upOf u t.1 = decide (t.2 > 0) then [t.2] else []) := by
      rw [adds, List.filterMap_append]
      congr 1
      simp only [List.filterMap_cons, List.filterMap_nil]
      by_cases hh : upOf u t.1 = decide (t.2 > 0)
      · rw [if_pos hh, if_pos hh]
      · rw [if_neg hh, if_neg hh]
    have hg1 := gr1.row.len1
    have hle : (adds u pre).length ≤ 8 := Nat.le_trans (List.length_filterMap_le _ _) (by have := hg.len; omega)
    rw [wrap_succ (by have := hg.len; omega), hnext]
    by_cases hu : upOf u t.1 = decide (t.2 > 0)
    · rw [show (upOf u t.1 == decide (t.2 > 0)) = true by simpa using hu, cond_true]
      rw [if_pos hu] at hadds
      have m2 : Mod [] h1 (h1.new (.cells [.int .i64 t.2] false)) := (Mod.refl _ _).new _
      have r2 : Row (h1.new (.cells [.int .i64 t.2] false)) 1 (some (h1.next, 0)) 1 (.known 1) [.int .i64 t.2] := .row (by simp) (get_new_self _ _) rfl (by simp) (.inr ⟨1, rfl, Nat.le_refl _⟩)
      refine (gr1.mod0 m2).ret ((n1.trans m2).next) r2.src rfl rfl (by simp at hg1; omega) (by simp at hg1; omega) (fun h => by cases h) fun p' c' h' g' m' => ?_
      refine Priority_loop s0 hg hn ts (pre ++ [t]) m h' p' _ c' (by rw [hx]; simp) (by simp at hl; omega) ((n1.trans m2).trans' m' fun i hi hl => ?_) ?_
      · have := (g.own_ge i hi).1; omega
      · rw [hadds]; simpa using g'
    · rw [show (upOf u t.1 == decide (t.2 > 0)) = false by simpa using hu, cond_false]
      rw [if_neg hu, List.append_nil] at hadds
      exact Priority_loop s0 hg hn ts (pre ++ [t]) m h1 p _ c (by rw [hx]; simp) (by simp at hl; omega) n1 (by rw [hadds]; exact gr1)

theorem Priority_ret {a : H} {σ : Sk} {base : Int} {xs : List Tr} {u : List (ByteArray × Bool)} (s : SetRep a σ base xs u) (hg : Good base xs) {n : Nat} (hn : 100 ≤ n) :
    Ret (tracks_Set_Priority_12 n σ.ptr a) fun r h' => Mod [] a h' ∧ r = prio base u xs := by
  rw [tracks_Set_Priority_12_eq]
  simp only [Sk.ptr, nnK_some', cellK, s.obj, List.getElem?_cons_zero, List.getElem?_cons_succ, asInt_int, newK_eq, Nat.zero_add]
  by_cases h255 : base = 255
  · subst h255
    exact .pure ⟨.refl _ _, rfl⟩
  · rw [show (base == 255) = false by simpa using h255, cond_false]
    have m1 : Mod [] a (a.new (.cells [.int .i64 base] false)) := (Mod.refl _ _).new _
    rw [m1.get _ s.lb (by simp), s.obj]
    simp only [List.getElem?_cons_zero, List.getElem?_cons_succ, asSlice_slice]
    refine (Priority_loop s hg hn xs [] n _ _ 1 (.known 1) rfl (by have := hg.len; omega) m1 (Grow.fresh (Nat.le_refl _) rfl (.inr rfl))).mono fun r h' ⟨q1, q2⟩ => ⟨q1, ?_⟩
    rw [q2, prio, if_neg h255]

/-! ### Up, Base, Tell -/

theorem Up_eq {h : H} {σ : Sk} {base : Int} {xs : List Tr} {u : List (ByteArray × Bool)} (s : SetRep h σ base xs u) (n : Nat) (nm : ByteArray) : tracks_Set_Up_15 n σ.ptr nm h = some ((upOf u nm, (lk u nm).isSome), h) := by
  rw [tracks_Set_Up_15_eq]
  simp only [Sk.ptr, nnK_some', cellK, s.obj, List.getElem?_cons_zero, List.getElem?_cons_succ, Nat.zero_add, asMap_map]
  rw [look_up s]
  rfl

theorem Base_ret {h : H} {σ : Sk} {base : Int} {xs : List Tr} {u : List (ByteArray × Bool)} (s : SetRep h σ base xs u) (n : Nat) (x : Int) :
    Ret (tracks_Set_Base_16 n σ.ptr x h) fun r h' => Mod σ.all h h' ∧ r = (decide (1 ≤ x) && decide (x ≤ 255)) ∧ SetRep h' σ (if 1 ≤ x ∧ x ≤ 255 then x else base) xs u := by
  rw [tracks_Set_Base_16_eq, tracks_Set_Base_16_J0_eq, tracks_Set_Base_16_J0_eq]
  by_cases h1 : 1 ≤ x
  · rw [show decide (x < 1) = false by simp; omega, cond_false]
    by_cases h2 : x ≤ 255
    · rw [show decide (x > 255) = false by simp; omega, cond_false]
      simp only [Sk.ptr, nnK_some']
      rw [wrK_one s.obj (by simp) rfl, List.set_cons_zero]
      refine .pure ⟨(Mod.refl _ _).set (.inr (by simp [Sk.all])) _, by simp [h1, h2], ?_⟩
      rw [if_pos ⟨h1, h2⟩]
      exact s.setBase x
    · rw [show decide (x > 255) = true by simp; omega, cond_true]
      exact .pure ⟨.refl _ _, by simp [h2], by rw [if_neg (by omega)]; exact s⟩
  · rw [show decide (x < 1) = true by simp; omega, cond_true, cond_true]
    exact .pure ⟨.refl _ _, by simp [h1], by rw [if_neg (by omega)]; exact s⟩

def tell (u : List (ByteArray × Bool)) (nm : ByteArray) (up : Bool) : List (ByteArray × Bool) := if (lk u nm).isSome = true then pt u nm up else u

theorem Tell_ret {h : H} {σ : Sk} {base : Int} {xs : List Tr} {u : List (ByteArray × Bool)} (s : SetRep h σ base xs u) (hg : Good base xs) {n : Nat} (hn : 100 ≤ n) (nm : ByteArray) (up : Bool) :
    Ret (tracks_Set_Tell_11 n σ.ptr nm up h) fun r h' => Mod σ.all h h' ∧ r = (prio base (tell u nm up) xs != prio base u xs, (lk u nm).isSome) ∧ SetRep h' σ base xs (tell u nm up) := by
  rw [tracks_Set_Tell_11_eq]
  simp only [Sk.ptr, nnK_some', cellK, s.obj, List.getElem?_cons_zero, List.getElem?_cons_succ, Nat.zero_add, asMap_map]
  rw [look_up s, asBool_bool]
  unfold tell
  cases hl : (lk u nm).isSome with
  | false =>
    simp only [Bool.not_false, cond_true, Bool.false_eq_true, if_false]
    exact .pure ⟨.refl _ _, by simp, s⟩
  | true =>
    simp only [Bool.not_true, cond_false, if_true]
    refine (Priority_ret s hg hn).bind ?_
    rintro _ h1 ⟨m1, rfl⟩
    have s1 := s.mod0 m1
    simp only [s1.obj, List.getElem?_cons_zero, List.getElem?_cons_succ, asMap_map]
    rw [putK_of keys_str s1.map]
    refine (Priority_ret (s1.put _) hg hn).bind ?_
    rintro _ h2 ⟨m2, rfl⟩
    exact .pure ⟨(m1.of_nil.set (.inr (by simp [Sk.all])) _).trans m2.of_nil, rfl, (s1.put _).mod0 m2⟩

end Go.Ev.Try
