/- What the reference of chapter 12 computes, in plain lists; for every heap. -/
import Derived.Test.YtppneicfiodebaaTr6
set_option linter.all false
namespace Go.Ev.Try
set_option maxRecDepth 10000
open Go.Proofs

/-! ### the reference's set -/

abbrev Zs := List (Tr × Bool)
structure Rk where
  p1 : Option (Nat × Nat)
  c1 : Cap
  p2 : Option (Nat × Nat)
  c2 : Cap
/-- the two rows of it -/
structure RefRep (h : H) (κ : Rk) (z : Zs) : Prop where
  l : Row h 2 κ.p1 z.length κ.c1 (z.flatMap fun y => encT y.1)
  u : Row h 1 κ.p2 z.length κ.c2 (z.map fun y => .bool y.2)
theorem RefRep.mod {h h' : H} {S : List Nat} {κ : Rk} {z : Zs} (s : RefRep h κ z) (m : Mod S h h') (h1 : ∀ i ∈ own κ.p1, i ∉ S) (h2 : ∀ i ∈ own κ.p2, i ∉ S) : RefRep h' κ z := ⟨s.l.mod m h1, s.u.mod m h2⟩
theorem RefRep.mod0 {h h' : H} {κ : Rk} {z : Zs} (s : RefRep h κ z) (m : Mod [] h h') : RefRep h' κ z := s.mod m (fun i _ => by simp) (fun i _ => by simp)
theorem encZ_len : ∀ y : Tr × Bool, (encT y.1).length = 2 := fun _ => rfl

def gsum (z : Zs) : Int := isum (z.map fun y => gain y.2 y.1.2)
def prioZ (base : Int) (z : Zs) : Int := if base = 255 then 255 else clamp (base + gsum z)
theorem gain_range {b : Bool} {w : Int} (h : -254 ≤ w ∧ w ≤ 254) : -254 ≤ gain b w ∧ gain b w ≤ 254 := by
  unfold gain; split <;> omega
/-- all is as it may be -/
structure GoodZ (base : Int) (z : Zs) : Prop where
  b1 : 1 ≤ base
  b2 : base ≤ 255
  len : z.length ≤ 8
  w : ∀ y ∈ z, -254 ≤ y.1.2 ∧ y.1.2 ≤ 254

theorem gain_true (w : Int) : gain true w = if w > 0 then w else 0 := by unfold gain; by_cases h : w > 0 <;> simp [h]
theorem gain_false (w : Int) : gain false w = if w < 0 then w else 0 := by
  unfold gain
  by_cases h : w > 0
  · simp [h]; omega
  · by_cases h2 : w < 0
    · simp [h, h2]
    · have : w = 0 := by omega
      subst this; simp

theorem refPrio_loop {h : H} {κ : Rk} {z : Zs} (s : RefRep h κ z) {base : Int} (hg : GoodZ base z) {b : Nat} (hb : h.get b = some (.cells [.int .i64 base, .slice κ.p1 z.length κ.c1, .slice κ.p2 z.length κ.c2] false)) (n : Nat) :
    ∀ (ts pre : Zs) (m : Nat), z = pre ++ ts → ts.length < m → outriderref12_Priority_20_L0 n m (some (b, 0)) (base + gsum pre) pre.length h = some (clamp (base + gsum z), h)
  | [], pre, m + 1, hx, _ => by
    rw [outriderref12_Priority_20_L0_eq]
    simp only [nnK_some', cellK, hb, Nat.zero_add, List.getElem?_cons_zero, List.getElem?_cons_succ, asSlice_slice]
    rw [cast_not_lt (by rw [hx]; simp), cond_false]
    rw [List.append_nil] at hx
    subst hx
    unfold clamp
    generalize base + gsum z = x
    by_cases h1 : x < 1
    · rw [decide_eq_true h1, cond_true, if_pos h1]
    · rw [decide_eq_false h1, cond_false, if_neg h1]
      by_cases h2 : x > 254
      · rw [decide_eq_true h2, cond_true, if_pos h2]
      · rw [decide_eq_false h2, cond_false, if_neg h2]
  | t :: ts, pre, m + 1, hx, hl => by
    have hlen : pre.length < z.length := by rw [hx]; simp
    have ht : z[pre.length]? = some t := by rw [hx]; simp
    have h1 : gsum (pre ++ [t]) = gsum pre + gain t.2 t.1.2 := by simp [gsum, isum_append, isum]
    have hw := hg.w t (by rw [hx]; simp)
    have hb1 := isum_bound (B := 254) (l := pre.map fun y => gain y.2 y.1.2) fun x hx' => by
      obtain ⟨y, hy, rfl⟩ := List.mem_map.1 hx'
      exact gain_range (hg.w y (by rw [hx]; simp [hy]))
    have hle := hg.len; have := hg.b1; have := hg.b2
    rw [List.length_map] at hb1
    change -(254 * (pre.length : Int)) ≤ gsum pre ∧ gsum pre ≤ 254 * (pre.length : Int) at hb1
    have ih := refPrio_loop s hg hb n ts (pre ++ [t]) m (by rw [hx]; simp) (by simp at hl; omega)
    rw [h1, List.length_append, List.length_singleton] at ih
    have hj : ∀ d : Bool, (if d = true then t.1.2 else 0) = gain t.2 t.1.2 → outriderref12_Priority_20_J1 n m (some (b, 0)) (base + gsum pre) pre.length d h = some (clamp (base + gsum z), h) := by
      intro d hd
      rw [outriderref12_Priority_20_J1_eq]
      cases d with
      | true =>
        simp only [cond_true, nnK_some', cellK_of hb (o := 0 + 1) rfl, asSlice_slice]
        rw [s.l.ix2 encZ_len ht 1 (v := .int .i64 t.1.2) rfl, asInt_int, wrap_i64 (by omega) (by omega), wrap_succ (by omega)]
        simp only [if_true] at hd
        rw [← hd, ← Int.add_assoc] at ih
        exact ih
      | false =>
        simp only [cond_false]
        rw [wrap_succ (by omega)]
        simp only [Bool.false_eq_true, if_false] at hd
        rw [← hd, Int.add_zero] at ih
        exact ih
    rw [outriderref12_Priority_20_L0_eq]
    simp only [nnK_some', cellK_of hb (o := 0 + 1) rfl, cellK_of hb (o := 0 + 2) rfl, asSlice_slice]
    rw [cast_lt hlen, cond_true, s.u.ix1 ht, asBool_bool]
    cases hu : t.2 with
    | true =>
      rw [hu] at hj
      rw [cond_true, s.l.ix2 encZ_len ht 1 (v := .int .i64 t.1.2) rfl, asInt_int]
      by_cases hw0 : t.1.2 > 0
      · rw [decide_eq_true hw0, cond_true]
        exact hj true (by rw [gain_true, if_pos hw0]; rfl)
      · rw [decide_eq_false hw0, cond_false, s.u.ix1 ht, asBool_bool, hu, Bool.not_true, cond_false]
        exact hj false (by rw [gain_true, if_neg hw0]; rfl)
    | false =>
      rw [hu] at hj
      rw [cond_false, s.u.ix1 ht, asBool_bool, hu, Bool.not_false, cond_true, s.l.ix2 encZ_len ht 1 (v := .int .i64 t.1.2) rfl, asInt_int]
      exact hj _ (by rw [gain_false]; by_cases h : t.1.2 < 0 <;> simp [h])

theorem refPrio_ret {h : H} {κ : Rk} {z : Zs} (s : RefRep h κ z) {base : Int} (hg : GoodZ base z) {n : Nat} (hn : 100 ≤ n) :
    Ret (outriderref12_Priority_20 n base κ.p1 z.length κ.c1 κ.p2 z.length κ.c2 h) fun r h' => r = prioZ base z ∧ Mod [] h h' := by
  rw [outriderref12_Priority_20_eq]
  have m1 : Mod [] h (h.new (.cells [.int .i64 base, .slice κ.p1 z.length κ.c1, .slice κ.p2 z.length κ.c2] false)) := (Mod.refl _ _).new _
  simp only [newK_eq, cellK, get_new_self, List.getElem?_cons_zero, asInt_int]
  unfold prioZ
  by_cases h255 : base = 255
  · rw [show (base == 255) = true by simpa using h255, cond_true, if_pos h255]
    exact .pure ⟨rfl, m1⟩
  · rw [show (base == 255) = false by simpa using h255, cond_false, if_neg h255]
    have := refPrio_loop (s.mod0 m1) hg (get_new_self _ _) n z [] n rfl (by have := hg.len; omega)
    rw [show base + gsum [] = base from Int.add_zero _] at this
    exact ⟨_, _, this, rfl, m1⟩

/-! ### find -/

def Found (z : Zs) (nm : ByteArray) (r : Int) : Prop := (r = -1 ∧ ∀ y ∈ z, y.1.1 ≠ nm) ∨ ∃ (k : Nat) (y : Tr × Bool), r = k ∧ z[k]? = some y ∧ y.1.1 = nm

theorem find_loop {h : H} {κ : Rk} {z : Zs} (s : RefRep h κ z) (hmax : z.length ≤ 8) {b : Nat} {x y : AV} (hb : h.get b = some (.cells [x, .slice κ.p1 z.length κ.c1, y] false)) (n : Nat) (nm : ByteArray) :
    ∀ (ts pre : Zs) (m : Nat), z = pre ++ ts → (∀ y ∈ pre, y.1.1 ≠ nm) → ts.length < m → Ret (outriderref12_find_26_L0 n m nm (some (b, 0)) pre.length h) fun r h' => Found z nm r ∧ h' = h
  | [], pre, m + 1, hx, hp, _ => by
    rw [outriderref12_find_26_L0_eq]
    simp only [nnK_some', cellK_of hb (o := 0 + 1) rfl, asSlice_slice]
    rw [cast_not_lt (by rw [hx]; simp), cond_false]
    rw [List.append_nil] at hx
    subst hx
    exact .pure ⟨.inl ⟨rfl, hp⟩, rfl⟩
  | t :: ts, pre, m + 1, hx, hp, hl => by
    have hlen : pre.length < z.length := by rw [hx]; simp
    have ht : z[pre.length]? = some t := by rw [hx]; simp
    rw [outriderref12_find_26_L0_eq]
    simp only [nnK_some', cellK_of hb (o := 0 + 1) rfl, asSlice_slice]
    rw [cast_lt hlen, cond_true, s.l.ix20 encZ_len ht (v := .str t.1.1) rfl, asStr_str, str_eq]
    by_cases e : t.1.1 = nm
    · rw [decide_eq_true e, cond_true]
      exact .pure ⟨.inr ⟨pre.length, t, rfl, ht, e⟩, rfl⟩
    · rw [decide_eq_false e, cond_false, wrap_succ (by omega), show pre.length + 1 = (pre ++ [t]).length by simp]
      exact find_loop s hmax hb n nm ts (pre ++ [t]) m (by rw [hx]; simp) (fun y hy => (List.mem_append.1 hy).elim (hp y) fun h => by rw [List.mem_singleton.1 h]; exact e) (by simp at hl; omega)

theorem find_ret {h : H} {κ : Rk} {z : Zs} (s : RefRep h κ z) (hmax : z.length ≤ 8) {n : Nat} (hn : 100 ≤ n) (base : Int) (nm : ByteArray) :
    Ret (outriderref12_find_26 n base κ.p1 z.length κ.c1 κ.p2 z.length κ.c2 nm h) fun r h' => Found z nm r ∧ Mod [] h h' := by
  rw [outriderref12_find_26_eq]
  have m1 : Mod [] h (h.new (.cells [.int .i64 base, .slice κ.p1 z.length κ.c1, .slice κ.p2 z.length κ.c2] false)) := (Mod.refl _ _).new _
  simp only [newK_eq]
  exact (find_loop (s.mod0 m1) hmax (get_new_self _ _) n nm z [] n rfl (by simp) (by omega)).mono fun r h' ⟨q1, q2⟩ => ⟨q1, by rw [q2]; exact m1⟩

/-! ### Tell, Up -/

def zmap (z : Zs) : List (ByteArray × Bool) := z.map fun y => (y.1.1, y.2)
def tellZ (z : Zs) (nm : ByteArray) (up : Bool) : Zs := z.map fun y => if y.1.1 = nm then (y.1, up) else y
def NoDup (z : Zs) : Prop := (z.map fun y => y.1.1).Nodup

theorem z_inj {z : Zs} (hn : NoDup z) {i j : Nat} {a b : Tr × Bool} (hi : z[i]? = some a) (hj : z[j]? = some b) (e : a.1.1 = b.1.1) : i = j := by
  obtain ⟨h1, rfl⟩ := List.getElem?_eq_some_iff.1 hi
  obtain ⟨h2, rfl⟩ := List.getElem?_eq_some_iff.1 hj
  have hp := List.pairwise_iff_getElem.1 hn
  rcases Nat.lt_trichotomy i j with h | h | h
  · have := hp i j (by simpa using h1) (by simpa using h2) h
    rw [List.getElem_map, List.getElem_map] at this
    exact absurd e this
  · exact h
  · have := hp j i (by simpa using h2) (by simpa using h1) h
    rw [List.getElem_map, List.getElem_map] at this
    exact absurd e.symm this

theorem tellZ_none {z : Zs} {nm : ByteArray} (h : ∀ y ∈ z, y.1.1 ≠ nm) (up : Bool) : tellZ z nm up = z := by
  unfold tellZ
  conv => rhs; rw [← List.map_id z]
  exact List.map_congr_left fun y hy => by rw [if_neg (h y hy)]; rfl
theorem tellZ_some {z : Zs} (hn : NoDup z) {nm : ByteArray} {k : Nat} {y : Tr × Bool} (hk : z[k]? = some y) (e : y.1.1 = nm) (up : Bool) : tellZ z nm up = z.set k (y.1, up) := by
  apply List.ext_getElem?
  intro j
  unfold tellZ
  rw [List.getElem?_map, List.getElem?_set]
  by_cases hj : k = j
  · subst hj
    rw [if_pos rfl, if_pos (List.getElem?_eq_some_iff.1 hk).1, hk]
    simp [e]
  · rw [if_neg hj]
    cases hz : z[j]? with
    | none => rfl
    | some x =>
      have : x.1.1 ≠ nm := fun h => hj (z_inj hn hk hz (e.trans h.symm))
      simp [this]
theorem lk_zmap {z : Zs} (hn : NoDup z) {k : Nat} {y : Tr × Bool} (hk : z[k]? = some y) : lk (zmap z) y.1.1 = some y.2 := by
  induction z generalizing k with
  | nil => simp at hk
  | cons x z ih =>
    rw [zmap, List.map_cons, lk_cons]
    cases k with
    | zero => simp at hk; subst hk; simp
    | succ k =>
      have hne : y.1.1 ≠ x.1.1 := fun e => by
        have := z_inj hn hk (show (x :: z)[0]? = some x from rfl) e
        omega
      rw [if_neg hne]
      exact ih (List.nodup_cons.1 hn).2 (by simpa using hk)
theorem lk_zmap_none {z : Zs} {nm : ByteArray} (h : ∀ y ∈ z, y.1.1 ≠ nm) : lk (zmap z) nm = none := lk_none.2 fun e he => by
  obtain ⟨y, hy, rfl⟩ := List.mem_map.1 he
  exact fun e => h y hy e.symm

theorem tellZ_len (z : Zs) (nm : ByteArray) (up : Bool) : (tellZ z nm up).length = z.length := by simp [tellZ]
theorem tellZ_good {base : Int} {z : Zs} (h : GoodZ base z) (nm : ByteArray) (up : Bool) : GoodZ base (tellZ z nm up) := ⟨h.b1, h.b2, by rw [tellZ_len]; exact h.len, fun y hy => by
  obtain ⟨x, hx, rfl⟩ := List.mem_map.1 hy
  split <;> exact h.w x hx⟩
theorem tellZ_nodup {z : Zs} (h : NoDup z) (nm : ByteArray) (up : Bool) : NoDup (tellZ z nm up) := by
  unfold NoDup tellZ
  rw [List.map_map, show ((fun y : Tr × Bool => y.1.1) ∘ fun y => if y.1.1 = nm then (y.1, up) else y) = fun y => y.1.1 by funext y; simp only [Function.comp]; split <;> rfl]
  exact h
theorem tellZ_enc (z : Zs) (nm : ByteArray) (up : Bool) : ((tellZ z nm up).flatMap fun y => encT y.1) = z.flatMap fun y => encT y.1 := by
  unfold tellZ
  rw [List.flatMap_map]
  congr 1
  funext y
  split <;> rfl

theorem refTell_ret {h : H} {κ : Rk} {z : Zs} (s : RefRep h κ z) {base : Int} (hg : GoodZ base z) (hnd : NoDup z) {n : Nat} (hn : 100 ≤ n) (nm : ByteArray) (up : Bool) :
    Ret (outriderref12_Tell_18 n base κ.p1 z.length κ.c1 κ.p2 z.length κ.c2 nm up h) fun r h' => Mod [] h h' ∧ ∃ p2 c2, r = (base, κ.p1, z.length, κ.c1, p2, z.length, c2, prioZ base (tellZ z nm up) != prioZ base z, (lk (zmap z) nm).isSome) ∧
      RefRep h' ⟨κ.p1, κ.c1, p2, c2⟩ (tellZ z nm up) ∧ ∀ i ∈ own p2, i ∈ own κ.p2 ∨ h.next ≤ i := by
  rw [outriderref12_Tell_18_eq]
  simp only [newK_eq, next_new]
  have m1 : Mod [] h (h.new (.cells [.int .i64 base, .slice κ.p1 z.length κ.c1, .slice κ.p2 z.length κ.c2] false)) := (Mod.refl _ _).new _
  have m2 := m1.new (.cells [.int .i64 0, .slice none 0 (.known 0), .slice none 0 (.known 0)] false)
  have g1 : ((h.new (.cells [.int .i64 base, .slice κ.p1 z.length κ.c1, .slice κ.p2 z.length κ.c2] false)).new (.cells [.int .i64 0, .slice none 0 (.known 0), .slice none 0 (.known 0)] false)).get h.next = some (.cells [.int .i64 base, .slice κ.p1 z.length κ.c1, .slice κ.p2 z.length κ.c2] false) := by
    rw [get_new_lt (by simp)]; exact get_new_self _ _
  have g3 : ((h.new (.cells [.int .i64 base, .slice κ.p1 z.length κ.c1, .slice κ.p2 z.length κ.c2] false)).new (.cells [.int .i64 0, .slice none 0 (.known 0), .slice none 0 (.known 0)] false)).get (h.next + 1) = some (.cells [.int .i64 0, .slice none 0 (.known 0), .slice none 0 (.known 0)] false) := get_new_self (h.new _) _
  have l1 : h.next + 1 < ((h.new (.cells [.int .i64 base, .slice κ.p1 z.length κ.c1, .slice κ.p2 z.length κ.c2] false)).new (.cells [.int .i64 0, .slice none 0 (.known 0), .slice none 0 (.known 0)] false)).next := by simp
  have s2 := s.mod0 m2
  generalize (h.new (.cells [.int .i64 base, .slice κ.p1 z.length κ.c1, .slice κ.p2 z.length κ.c2] false)).new (.cells [.int .i64 0, .slice none 0 (.known 0), .slice none 0 (.known 0)] false) = h2 at *
  rw [aggK_all (n := 3) g1 rfl]
  simp only [lc_cons, l0_nil, asInt_int, asSlice_slice]
  refine (find_ret s2 hg.len hn base nm).bind ?_
  rintro r h3 ⟨hf, m3⟩
  dsimp only
  have g1' := (m3.get _ (by omega) (by simp)).trans g1
  have g3' := (m3.get _ l1 (by simp)).trans g3
  have l3 := m3.lt l1
  have n3 := m2.trans m3
  have s3 := s2.mod0 m3
  rcases hf with ⟨rfl, hno⟩ | ⟨k, y, rfl, hk, hy⟩
  · rw [show decide ((-1 : Int) < 0) = true by decide, cond_true, aggK_all (n := 3) g1' rfl]
    simp only [lc_cons, l0_nil, asInt_int, asSlice_slice]
    rw [wrK_of (n := 3) g3' rfl (by simp) rfl, spl_all _ _ (by simp), aggK_all (n := 3) (get_set_self _ _ _) rfl]
    simp only [lc_cons, l0_nil, asInt_int, asSlice_slice]
    have m4 : Mod [] h (h3.set (h.next + 1) (.cells [.int .i64 base, .slice κ.p1 z.length κ.c1, .slice κ.p2 z.length κ.c2] false)) := n3.set (.inl (by omega)) _
    refine .pure ⟨m4, κ.p2, κ.c2, ?_, ?_, fun i hi => .inl hi⟩
    · rw [tellZ_none hno, lk_zmap_none hno]; simp
    · rw [tellZ_none hno]; exact s.mod0 m4
  · have hkl := (List.getElem?_eq_some_iff.1 hk).1
    rw [show decide (((k : Nat) : Int) < 0) = false by simp, cond_false, aggK_all (n := 3) g1' rfl]
    simp only [lc_cons, l0_nil, asInt_int, asSlice_slice]
    refine (refPrio_ret s3 hg hn).bind ?_
    rintro _ h4 ⟨rfl, m4⟩
    dsimp only
    have m5 : Mod [] h4 (h4.new (.cells [] false)) := (Mod.refl _ _).new _
    have g1'' := (m5.get _ (m4.lt (by omega)) (by simp)).trans ((m4.get _ (by omega) (by simp)).trans g1')
    have g3'' := (m5.get _ (m4.lt l3) (by simp)).trans ((m4.get _ l3 (by simp)).trans g3')
    have l5 := m5.lt (m4.lt l3)
    have s5 := (s3.mod0 m4).mod0 m5
    have n5 := n3.trans (m4.trans m5)
    rw [cellK_of g1'' (o := 2) rfl, asSlice_slice]
    refine (Grow.fresh (a := h4) (h := h4) (size := 1) (len := 0) (vs := []) (c := .known 0) (Nat.le_refl _) rfl (.inr rfl)).ret m5.next s5.u.src (by simp) (by simp [isCell]) (by have := hg.len; omega) (by have := hg.len; omega) (fun h0 => by rw [List.eq_nil_of_length_eq_zero h0]; rfl) fun p' c' h6 g6 m6 => ?_
    rw [List.nil_append, Nat.zero_add] at g6
    rw [Nat.zero_add]
    have n6 : Mod [] h h6 := n5.trans' m6 fun i hi hl => by simp at hi; have := n3.next; have := m4.next; omega
    have gb : h6.get h.next = _ := (m6.get _ (by omega) (by simp; have := m4.next; omega)).trans g1''
    have gc : h6.get (h.next + 1) = _ := (m6.get _ l5 (by simp; have := m4.next; omega)).trans g3''
    have l6 : h.next + 1 < h6.next := Nat.lt_of_lt_of_le l5 m6.next
    rw [if_pos ⟨by omega, by omega⟩]
    rcases g6.look with ⟨_, h0, _⟩ | ⟨b, rfl, hb1, hb2, hb3, hb4, hb5⟩
    · omega
    · have hbn : h.next + 1 < b := by have := m4.next; omega
      simp only [nnK_some', Nat.zero_add]
      rw [show ((k : Nat) : Int).toNat = k from rfl, wrK_one hb3 (by simpa using hkl) rfl]
      have gb' : (h6.set b (.cells ((z.map fun y => AV.bool y.2).set k (.bool up)) false)).get h.next = some (.cells [.int .i64 base, .slice κ.p1 z.length κ.c1, .slice κ.p2 z.length κ.c2] false) := by rw [get_set_ne (by omega)]; exact gb
      have gc' : (h6.set b (.cells ((z.map fun y => AV.bool y.2).set k (.bool up)) false)).get (h.next + 1) = some (.cells [.int .i64 0, .slice none 0 (.known 0), .slice none 0 (.known 0)] false) := by rw [get_set_ne (by omega)]; exact gc
      have n7 : Mod [] h (h6.set b (.cells ((z.map fun y => AV.bool y.2).set k (.bool up)) false)) := n6.set (.inl (by omega)) _
      have hz : tellZ z nm up = z.set k (y.1, up) := tellZ_some hnd hk hy up
      have r7 : Row (h6.set b (.cells ((z.map fun y => AV.bool y.2).set k (.bool up)) false)) 1 (some (b, 0)) z.length c' ((tellZ z nm up).map fun y => .bool y.2) := by
        refine .row hb2 (get_set_self _ _ _) ?_ (by simp) (hb5.elim .inl fun h => .inr ⟨_, h, Nat.le_refl _⟩)
        rw [hz, List.map_set, List.drop_zero, List.take_of_length_le (by simp)]
      have s7 : RefRep (h6.set b (.cells ((z.map fun y => AV.bool y.2).set k (.bool up)) false)) ⟨κ.p1, κ.c1, some (b, 0), c'⟩ (tellZ z nm up) := ⟨by rw [tellZ_len, tellZ_enc]; exact s.l.mod0 n7, by rw [tellZ_len]; exact r7⟩
      have l7 : h.next + 1 < (h6.set b (.cells ((z.map fun y => AV.bool y.2).set k (.bool up)) false)).next := l6
      have b7 : b < (h6.set b (.cells ((z.map fun y => AV.bool y.2).set k (.bool up)) false)).next := hb2
      generalize h6.set b (.cells ((z.map fun y => AV.bool y.2).set k (.bool up)) false) = h7 at *
      rw [wrK_one gb' (by simp) rfl]
      simp only [List.set_cons_succ, List.set_cons_zero]
      have g8 : (h7.set h.next (.cells [.int .i64 base, .slice κ.p1 z.length κ.c1, .slice (some (b, 0)) z.length c'] false)).get h.next = some (.cells [.int .i64 base, .slice κ.p1 z.length κ.c1, .slice (some (b, 0)) z.length c'] false) := get_set_self _ _ _
      have m8 : Mod [h.next] h7 (h7.set h.next (.cells [.int .i64 base, .slice κ.p1 z.length κ.c1, .slice (some (b, 0)) z.length c'] false)) := (Mod.refl _ _).set (.inr (by simp)) _
      have ne1 : ∀ i ∈ own κ.p1, i ∉ [h.next] := fun i hi => by have := s.l.lt i hi; simp; omega
      have s8 := s7.mod m8 ne1 (fun i hi => by simp at hi; simp; omega)
      have n8 := n7.trans' m8 fun i hi hl => by simp at hi; omega
      have gc8 := (m8.get _ l7 (by simp)).trans gc'
      have l8 := m8.lt l7
      have b8 := m8.lt b7
      generalize h7.set h.next (.cells [.int .i64 base, .slice κ.p1 z.length κ.c1, .slice (some (b, 0)) z.length c'] false) = h8 at *
      rw [aggK_all (n := 3) g8 rfl]
      simp only [lc_cons, l0_nil, asInt_int, asSlice_slice]
      rw [aggK_all (n := 3) g8 rfl]
      simp only [lc_cons, l0_nil, asInt_int, asSlice_slice]
      have hp := refPrio_ret s8 (tellZ_good hg nm up) hn
      rw [tellZ_len] at hp
      refine hp.bind ?_
      rintro _ h9 ⟨rfl, m9⟩
      dsimp only
      rw [quietK_mod m9, wrK_of (n := 3) ((m9.get _ l8 (by simp)).trans gc8) rfl (by simp) rfl, spl_all _ _ (by simp), aggK_all (n := 3) (get_set_self _ _ _) rfl]
      simp only [lc_cons, l0_nil, asInt_int, asSlice_slice]
      have m10 : Mod [h.next + 1] h9 (h9.set (h.next + 1) (.cells [.int .i64 base, .slice κ.p1 z.length κ.c1, .slice (some (b, 0)) z.length c'] false)) := (Mod.refl _ _).set (.inr (by simp)) _
      refine .pure ⟨(n8.trans m9).trans' m10 fun i hi hl => by simp at hi; omega, some (b, 0), c', ?_, (s8.mod0 m9).mod m10 (fun i hi => by have := s.l.lt i hi; simp; omega) (fun i hi => by simp at hi; simp; omega), fun i hi => by simp at hi; exact .inr (by omega)⟩
      rw [← hy, lk_zmap hnd hk]
      rfl

theorem refUp_ret {h : H} {κ : Rk} {z : Zs} (s : RefRep h κ z) (hlen : z.length ≤ 8) (hnd : NoDup z) {n : Nat} (hn : 100 ≤ n) (base : Int) (nm : ByteArray) :
    Ret (outriderref12_Up_19 n base κ.p1 z.length κ.c1 κ.p2 z.length κ.c2 nm h) fun r h' => r = (upOf (zmap z) nm, (lk (zmap z) nm).isSome) ∧ Mod [] h h' := by
  rw [outriderref12_Up_19_eq]
  have m1 : Mod [] h (h.new (.cells [.int .i64 base, .slice κ.p1 z.length κ.c1, .slice κ.p2 z.length κ.c2] false)) := (Mod.refl _ _).new _
  have g1 : (h.new (.cells [.int .i64 base, .slice κ.p1 z.length κ.c1, .slice κ.p2 z.length κ.c2] false)).get h.next = some (.cells [.int .i64 base, .slice κ.p1 z.length κ.c1, .slice κ.p2 z.length κ.c2] false) := get_new_self _ _
  have l1 : h.next < (h.new (.cells [.int .i64 base, .slice κ.p1 z.length κ.c1, .slice κ.p2 z.length κ.c2] false)).next := by simp
  simp only [newK_eq]
  have s1 := s.mod0 m1
  generalize h.new (.cells [.int .i64 base, .slice κ.p1 z.length κ.c1, .slice κ.p2 z.length κ.c2] false) = h1 at *
  rw [aggK_all (n := 3) g1 rfl]
  simp only [lc_cons, l0_nil, asInt_int, asSlice_slice]
  refine (find_ret s1 hlen hn base nm).bind ?_
  rintro r h2 ⟨hf, m2⟩
  dsimp only
  rcases hf with ⟨rfl, hno⟩ | ⟨k, y, rfl, hk, hy⟩
  · rw [show decide ((-1 : Int) < 0) = true by decide, cond_true]
    exact .pure ⟨by simp [upOf, lk_zmap_none hno], m1.trans m2⟩
  · rw [show decide (((k : Nat) : Int) < 0) = false by simp, cond_false, cellK_of ((m2.get _ l1 (by simp)).trans g1) (o := 2) rfl, asSlice_slice, (s1.mod0 m2).u.ix1 hk, asBool_bool]
    refine .pure ⟨?_, m1.trans m2⟩
    rw [← hy]
    simp [upOf, lk_zmap hnd hk]

end Go.Ev.Try
