/- What the given package 'tracks' computes, in plain lists; for every heap: slices.Clone, right, New. -/
import Derived.Test.YtppneicfiodebaaEvU
import Derived.Test.YtppneicfiodebaaEvP12
set_option linter.all false
namespace Go.Ev.Try
set_option maxRecDepth 10000
open Go.Proofs

abbrev Tr := ByteArray × Int
def encT (t : Tr) : List AV := [.str t.1, .int .i64 t.2]
theorem encT_len : ∀ x, (encT x).length = 2 := fun _ => rfl
theorem encT_cell : ∀ xs : List Tr, (xs.flatMap encT).all isCell = true := fun xs => by
  simp [encT, isCell]

def right (t : Tr) : Bool := decide (1 ≤ t.1.size) && decide (t.1.size ≤ 40) && !decide (t.2 = 0) && decide (-254 ≤ t.2) && decide (t.2 ≤ 254)

/-- no name twice, and each may be; 'pre': those ahead -/
def ok : List Tr → List Tr → Bool
  | _, [] => true
  | pre, t :: ts => !(pre.any fun s => decide (t.1 = s.1)) && right t && ok (pre ++ [t]) ts

def valid (base : Int) (xs : List Tr) : Bool := decide (1 ≤ base) && decide (base ≤ 255) && decide (xs.length ≤ 8) && ok [] xs

def downMap (xs : List Tr) : List (ByteArray × Bool) := xs.map fun t => (t.1, false)

theorem lk_downMap (n : ByteArray) : ∀ xs : List Tr, lk (downMap xs) n = if (xs.any fun s => decide (n = s.1)) = true then some false else none
  | [] => rfl
  | x :: xs => by
    rw [downMap, List.map_cons, lk_cons]
    have := lk_downMap n xs
    rw [downMap] at this
    rw [this, List.any_cons]
    by_cases h : n = x.1
    · rw [decide_eq_true h, if_pos h]; rfl
    · rw [decide_eq_false h, Bool.false_or, if_neg h]
theorem pt_downMap {n : ByteArray} {xs : List Tr} {w : Int} (h : (xs.any fun s => decide (n = s.1)) = false) : pt (downMap xs) n false = downMap (xs ++ [(n, w)]) := by
  unfold pt
  rw [if_neg]
  · simp [downMap]
  · rw [downMap, List.any_map, show ((fun e : ByteArray × Bool => decide (n = e.1)) ∘ fun t : Tr => (t.1, false)) = fun s => decide (n = s.1) from rfl, h]
    exact Bool.false_ne_true

/-! ### slices.Clone -/

theorem Clone_ret {h : H} {p : Option (Nat × Nat)} {len : Nat} {c : Cap} {xs : List Tr} (r : Row h 2 p len c (xs.flatMap encT)) (hb : len * 24 ≤ 140737488355328) (n : Nat) :
    Ret (tracks_Track_22 n p len c h) fun x h' => x.2.1 = len ∧ Grow h h' 2 x.1 x.2.1 x.2.2 (xs.flatMap encT) ∧ Mod [] h h' := by
  rw [tracks_Track_22_eq, eqVK_slice Try.underlying28 r]
  cases p with
  | none =>
    have hl := r.length
    generalize xs.flatMap encT = vs at r
    cases r
    exact .pure ⟨rfl, .nil, .refl _ _⟩
  | some q =>
    simp only [Option.isNone_some, cond_false, newK_eq]
    have m1 : Mod [] h (h.new (.cells [] false)) := (Mod.refl _ _).new _
    refine (Grow.fresh (a := h) (h := h) (size := 2) (len := 0) (vs := []) (c := .known 0) (Nat.le_refl _) rfl (.inr rfl)).ret m1.next (r.mod0 m1).src r.length (encT_cell xs) (by omega) (by omega) (fun h0 => ?_) fun p' c' h' g m => .pure ⟨?_, ?_, ?_⟩
    · exact List.eq_nil_of_length_eq_zero (by rw [r.length, h0, Nat.zero_mul])
    · simp
    · simpa using g
    · exact m1.trans' m (by simp)

/-! ### right -/

theorem right_ret (n : Nat) (t : Tr) (h : H) : Ret (tracks_Track_right_23 n t.1 t.2 h) fun r h' => r = right t ∧ Mod [] h h' := by
  rw [tracks_Track_right_23_eq]
  have m1 : Mod [] h (h.new (.cells [.str t.1, .int .i64 t.2] false)) := (Mod.refl _ _).new _
  have e : (t.1.toList == (⟨#[]⟩ : ByteArray).toList) = !decide (1 ≤ t.1.size) := by
    rw [str_eq]
    by_cases h : t.1 = ⟨#[]⟩
    · rw [h]; rfl
    · rw [decide_eq_false h]
      have : t.1.size ≠ 0 := fun e => h (size_zero.1 e)
      simp; omega
  refine ⟨right t, _, ?_, rfl, m1⟩
  simp only [newK_eq, cellK, get_new_self, List.getElem?_cons_zero, List.getElem?_cons_succ, asStr_str, asInt_int, e, Bool.not_not, right]
  cases decide (1 ≤ t.1.size) <;> simp only [cond_true, cond_false, Bool.false_and, Bool.true_and]
  by_cases h1 : t.1.size ≤ 40
  · rw [show decide ((t.1.size : Int) ≤ 40) = true by simp; omega, decide_eq_true h1, cond_true, Bool.true_and]
    by_cases h2 : t.2 = 0
    · simp [h2]
    · rw [decide_eq_false h2, show (t.2 != 0) = true by simpa using h2, cond_true, Bool.not_false, Bool.true_and]
      by_cases h3 : -254 ≤ t.2
      · rw [decide_eq_true h3, cond_true, Bool.true_and]
      · rw [decide_eq_false h3, cond_false, Bool.false_and]
  · rw [show decide ((t.1.size : Int) ≤ 40) = false by simp; omega, decide_eq_false h1, cond_false]
    rfl

/-! ### sets -/

structure Sk where
  b : Nat
  m : Nat
  p : Option (Nat × Nat)
  c : Cap
def Sk.all (σ : Sk) : List Nat := σ.b :: σ.m :: own σ.p
def Sk.ptr (σ : Sk) : Option (Nat × Nat) := some (σ.b, 0)

structure SetRep (h : H) (σ : Sk) (base : Int) (xs : List Tr) (u : List (ByteArray × Bool)) : Prop where
  lb : σ.b < h.next
  lm : σ.m < h.next
  bm : σ.b ≠ σ.m
  bp : σ.b ∉ own σ.p
  mp : σ.m ∉ own σ.p
  obj : h.get σ.b = some (.cells [.int .i64 base, .slice σ.p xs.length σ.c, .map (some σ.m)] false)
  row : Row h 2 σ.p xs.length σ.c (xs.flatMap encT)
  map : h.get σ.m = some (MapOf AV.str AV.bool u)

theorem SetRep.mod {h h' : H} {S : List Nat} {σ : Sk} {base : Int} {xs : List Tr} {u : List (ByteArray × Bool)} (s : SetRep h σ base xs u) (m : Mod S h h') (hS : ∀ i ∈ σ.all, i ∉ S) : SetRep h' σ base xs u where
  lb := m.lt s.lb
  lm := m.lt s.lm
  bm := s.bm
  bp := s.bp
  mp := s.mp
  obj := (m.get _ s.lb (hS _ (by simp [Sk.all]))).trans s.obj
  row := s.row.mod m fun b hb => hS b (by simp [Sk.all, hb])
  map := (m.get _ s.lm (hS _ (by simp [Sk.all]))).trans s.map
theorem SetRep.mod0 {h h' : H} {σ : Sk} {base : Int} {xs : List Tr} {u : List (ByteArray × Bool)} (s : SetRep h σ base xs u) (m : Mod [] h h') : SetRep h' σ base xs u := s.mod m fun i _ => by simp
theorem SetRep.put {h : H} {σ : Sk} {base : Int} {xs : List Tr} {u : List (ByteArray × Bool)} (s : SetRep h σ base xs u) (u' : List (ByteArray × Bool)) : SetRep (h.set σ.m (MapOf AV.str AV.bool u')) σ base xs u' where
  lb := s.lb
  lm := s.lm
  bm := s.bm
  bp := s.bp
  mp := s.mp
  obj := (get_set_ne s.bm).trans s.obj
  row := s.row.mod ((Mod.refl [σ.m] h).set (.inr (by simp)) _) fun b hb => by
    simp only [List.mem_singleton]; rintro rfl; exact s.mp hb
  map := get_set_self _ _ _
theorem SetRep.setBase {h : H} {σ : Sk} {base : Int} {xs : List Tr} {u : List (ByteArray × Bool)} (s : SetRep h σ base xs u) (base' : Int) : SetRep (h.set σ.b (.cells [.int .i64 base', .slice σ.p xs.length σ.c, .map (some σ.m)] false)) σ base' xs u where
  lb := s.lb
  lm := s.lm
  bm := s.bm
  bp := s.bp
  mp := s.mp
  obj := get_set_self _ _ _
  row := s.row.mod ((Mod.refl [σ.b] h).set (.inr (by simp)) _) fun b hb => by
    simp only [List.mem_singleton]; rintro rfl; exact s.bp hb
  map := (get_set_ne s.bm.symm).trans s.map

theorem set_new (h : H) (o o' : AObj) : (h.new o).set h.next o' = h.new o' := by
  simp only [H.new, H.set, H.mk.injEq, true_and]
  funext j
  split <;> rfl
theorem box_wr {β : Type} {h : H} {cs xs : List AV} {n : Nat} (hl : xs.length = n) (hc : cs.length = n) (ha : xs.all isCell = true) (f : H → Option β) : wrK (h.new (.cells cs false)) h.next 0 n xs f = f (h.new (.cells xs false)) := by
  rw [wrK_of (get_new_self _ _) hl (by omega) ha, spl_all _ _ (by omega), set_new]

theorem New_loop {a : H} {p0 : Option (Nat × Nat)} {c0 : Cap} {xs : List Tr} (r0 : Row a 2 p0 xs.length c0 (xs.flatMap encT)) (hmax : xs.length < 9223372036854775807) (n : Nat) {σ : Sk} {base : Int} (hσ : ∀ i ∈ σ.all, a.next ≤ i) :
    ∀ (ts pre : List Tr) (m : Nat) (h : H), xs = pre ++ ts → ts.length < m → Mod [] a h → SetRep h σ base xs (downMap pre) →
      Ret (tracks_New_8_L1 n m σ.ptr p0 xs.length c0 xs.length pre.length h) fun r h' => Mod [] a h' ∧ (if ok pre ts = true then r = (σ.ptr, 0) ∧ SetRep h' σ base xs (downMap xs) else r = (none, 1))
  | [], pre, m + 1, h, hx, _, hm, s => by
    rw [tracks_New_8_L1_eq, cast_not_lt (by rw [hx]; simp), cond_false]
    rw [List.append_nil] at hx
    subst hx
    exact .pure ⟨hm, by rw [if_pos (show ok xs [] = true from rfl)]; exact ⟨rfl, s⟩⟩
  | t :: ts, pre, m + 1, h, hx, hl, hm, s => by
    have hlen : pre.length < xs.length := by rw [hx]; simp
    rw [tracks_New_8_L1_eq, cast_lt hlen, cond_true, (r0.mod0 hm).ix encT_len (by decide) (x := t) (by rw [hx]; simp)]
    simp only [encT, lc_cons, l0_nil, asStr_str, asInt_int, newK_eq]
    rw [box_wr (n := 2) rfl rfl rfl]
    have m1 : Mod [] h (h.new (.cells [.str t.1, .int .i64 t.2] false)) := (Mod.refl _ _).new _
    have s1 := s.mod0 m1
    have g1 : (h.new (.cells [.str t.1, .int .i64 t.2] false)).get h.next = some (.cells [.str t.1, .int .i64 t.2] false) := get_new_self _ _
    have l1 : h.next < (h.new (.cells [.str t.1, .int .i64 t.2] false)).next := by simp
    have n1 := (hm.trans m1)
    generalize h.new (.cells [.str t.1, .int .i64 t.2] false) = h1 at *
    simp only [Sk.ptr, nnK_some', cellK, s1.obj, g1, Nat.zero_add, List.getElem?_cons_zero, List.getElem?_cons_succ, asMap_map, asStr_str]
    rw [lookK_of keys_str s1.map, lk_downMap]
    cases hany : pre.any fun s => decide (t.1 = s.1) with
    | true =>
      simp only [if_true, asBool_bool, cond_true]
      rw [tracks_New_8_J2_eq, cond_true]
      exact .pure ⟨n1, by simp [ok, hany]⟩
    | false =>
      simp only [Bool.false_eq_true, if_false, asBool_bool, cond_false]
      rw [aggK_all (n := 2) g1 rfl]
      simp only [lc_cons, l0_nil, asStr_str, asInt_int]
      refine (right_ret n t h1).bind ?_
      rintro _ h2 ⟨rfl, m2⟩
      dsimp only
      rw [tracks_New_8_J2_eq]
      cases hr : right t with
      | false =>
        rw [Bool.not_false, cond_true]
        exact .pure ⟨n1.trans m2, by simp [ok, hr]⟩
      | true =>
        have s2 := s1.mod0 m2
        have g2 := (m2.get _ l1 (by simp)).trans g1
        rw [Bool.not_true, cond_false]
        simp only [nnK_some', cellK, s2.obj, g2, Nat.zero_add, List.getElem?_cons_zero, List.getElem?_cons_succ, asMap_map, asStr_str]
        rw [putK_of keys_str s2.map, pt_downMap (w := t.2) hany, wrap_succ (by omega), show pre.length + 1 = (pre ++ [t]).length by simp]
        have := New_loop r0 hmax n hσ ts (pre ++ [t]) m _ (by rw [hx]; simp) (by simp at hl; omega) ((n1.trans m2).set (.inl (hσ _ (by simp [Sk.all]))) _) (s2.put _)
        refine this.mono fun r h' ⟨q1, q2⟩ => ⟨q1, ?_⟩
        rw [ok, hany, hr]
        exact q2

theorem New_ret {a : H} {p0 : Option (Nat × Nat)} {c0 : Cap} {xs : List Tr} (r0 : Row a 2 p0 xs.length c0 (xs.flatMap encT)) (hb : xs.length * 24 ≤ 140737488355328) {n : Nat} (hn : xs.length < n) (base : Int) :
    Ret (tracks_New_8 n base p0 xs.length c0 a) fun r h' => Mod [] a h' ∧ (if valid base xs = true then ∃ σ : Sk, r = (σ.ptr, 0) ∧ SetRep h' σ base xs (downMap xs) ∧ ∀ i ∈ σ.all, a.next ≤ i else r = (none, 1)) := by
  rw [tracks_New_8_eq]
  refine (Clone_ret r0 hb n).bind ?_
  rintro ⟨p, len, c⟩ h1 ⟨hl, g, m1⟩
  simp only at hl g
  subst hl
  simp only [newK_eq]
  have m2 : Mod [] h1 (h1.new (.map [])) := (Mod.refl _ _).new _
  have m3 := m2.new (.cells [.int .i64 base, .slice p xs.length c, .map (some h1.next)] false)
  have s3 : SetRep ((h1.new (.map [])).new (.cells [.int .i64 base, .slice p xs.length c, .map (some h1.next)] false)) ⟨(h1.new (.map [])).next, h1.next, p, c⟩ base xs (downMap []) := {
    lb := by simp
    lm := by simp only [next_new]; omega
    bm := by simp
    bp := fun h => by have := (g.own_ge _ h).2; simp only [next_new] at this; omega
    mp := fun h => by have := (g.own_ge _ h).2; simp only [Nat.lt_irrefl] at this
    obj := get_new_self _ _
    row := g.row.mod0 m3
    map := by rw [get_new_lt (by simp)]; exact get_new_self _ _ }
  have hσ : ∀ i ∈ Sk.all ⟨(h1.new (.map [])).next, h1.next, p, c⟩, a.next ≤ i := by
    intro i hi
    simp only [Sk.all, List.mem_cons] at hi
    have := m1.next
    rcases hi with rfl | rfl | hi
    · simp; omega
    · omega
    · exact (g.own_ge _ hi).1
  have n3 := m1.trans m3
  generalize (h1.new (.map [])).new (.cells [.int .i64 base, .slice p xs.length c, .map (some h1.next)] false) = h3 at *
  have key : Ret (tracks_New_8_J0 n p0 xs.length c0 (some ((h1.new (.map [])).next, 0)) (decide ((Nat.cast xs.length : Int) > 8)) h3) fun r h' => Mod [] a h' ∧ (if (decide (xs.length ≤ 8) && ok [] xs) = true then ∃ σ : Sk, r = (σ.ptr, 0) ∧ SetRep h' σ base xs (downMap xs) ∧ ∀ i ∈ σ.all, a.next ≤ i else r = (none, 1)) := by
    rw [tracks_New_8_J0_eq]
    by_cases h8 : xs.length ≤ 8
    · rw [show decide ((xs.length : Int) > 8) = false by simp; omega, cond_false, decide_eq_true h8, Bool.true_and]
      refine (New_loop r0 (by omega) n hσ xs [] n h3 rfl hn n3 s3).mono fun r h' ⟨q1, q2⟩ => ⟨q1, ?_⟩
      split at q2
      · rename_i hok; rw [if_pos hok]; exact ⟨_, q2.1, q2.2, hσ⟩
      · rename_i hok; rw [if_neg hok]; exact q2
    · rw [show decide ((xs.length : Int) > 8) = true by simp; omega, cond_true]
      exact .pure ⟨n3, by simp [h8]⟩
  have bad : Ret (tracks_New_8_J0 n p0 xs.length c0 (some ((h1.new (.map [])).next, 0)) true h3) fun r h' => Mod [] a h' ∧ r = (none, 1) := by
    rw [tracks_New_8_J0_eq, cond_true]
    exact .pure ⟨n3, rfl⟩
  by_cases h1 : 1 ≤ base
  · rw [show decide (base < 1) = false by simp; omega, cond_false]
    by_cases h2 : base ≤ 255
    · rw [show decide (base > 255) = false by simp; omega, cond_false]
      refine key.mono fun r h' ⟨q1, q2⟩ => ⟨q1, ?_⟩
      simpa [valid, h1, h2] using q2
    · rw [show decide (base > 255) = true by simp; omega, cond_true]
      refine bad.mono fun r h' ⟨q1, q2⟩ => ⟨q1, ?_⟩
      simpa [valid, h1, h2] using q2
  · rw [show decide (base < 1) = true by simp; omega, cond_true]
    refine bad.mono fun r h' ⟨q1, q2⟩ => ⟨q1, ?_⟩
    simpa [valid, h1] using q2

end Go.Ev.Try
