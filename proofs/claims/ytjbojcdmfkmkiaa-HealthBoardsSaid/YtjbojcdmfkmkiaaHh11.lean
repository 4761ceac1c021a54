/- Chapter 09: the document's wheel: what its functions compute, in plain lists. -/
import Derived.Test.YtjbojcdmfkmkiaaHh10
set_option linter.all false
namespace Go.Ev.Try
set_option maxRecDepth 10000

def encT (e : Int × Int) : List AV := [i64 e.1, i64 e.2]
theorem encT_len : ∀ e : Int × Int, (encT e).length = 2 := fun _ => rfl
/-- a row of timers -/
abbrev TRow (h : H) (p : Option (Nat × Nat)) (len : Nat) (c : Cap) (L : List (Int × Int)) : Prop := Row h 2 p len c (L.flatMap encT)
abbrev TGrow (a h : H) (p : Option (Nat × Nat)) (len : Nat) (c : Cap) (L : List (Int × Int)) : Prop := Grow a h 2 p len c (L.flatMap encT)

/-- one timer more -/
theorem TGrow.push {α : Type} {a h : H} {p : Option (Nat × Nat)} {len : Nat} {c : Cap} {L : List (Int × Int)} (g : TGrow a h p len c L) (ha : a.next ≤ h.next) (hb : len < 1000000) (e : Int × Int)
    {f : Option (Nat × Nat) → Nat → Cap → H → Option (α × H)} {Q : α → H → Prop} (k : ∀ p' c' h', TGrow a h' p' (len + 1) c' (L ++ [e]) → Mod (own p) h h' → Ret (f p' (len + 1) c' h') Q) :
    Ret (newK (.cells [.int .i64 e.1, .int .i64 e.2] false) h fun i h15 => appK 2 16 p len c (evSrc 2 (.slice (some (i, 0)) 1 (.known 1)) h15) h15 f) Q := by
  rw [newK_eq]
  refine Grow.push (size := 2) (bytes := 16) g ha (xs := [.int .i64 e.1, .int .i64 e.2]) rfl rfl (by omega) (by omega) (by omega) fun p' c' h' g' m => k p' c' h' ?_ m
  unfold TGrow
  rw [List.flatMap_append]
  exact g'
theorem TRow.len {h : H} {p : Option (Nat × Nat)} {len : Nat} {c : Cap} {L : List (Int × Int)} (s : TRow h p len c L) : L.length = len := Row.len s encT_len (by omega)
theorem TGrow.len {a h : H} {p : Option (Nat × Nat)} {len : Nat} {c : Cap} {L : List (Int × Int)} (g : TGrow a h p len c L) : L.length = len := TRow.len g.row

def wo (L : List (Int × Int)) (id : Int) : List (Int × Int) := L.filter fun e => !decide (id = e.1)

theorem without_loop {a : H} {p : Option (Nat × Nat)} {len : Nat} {c : Cap} {L : List (Int × Int)} (hs : TRow a p len c L) (hl : L.length < 1000000) (n : Nat) (id : Int) : ∀ (ts pre : List (Int × Int)) (m : Nat) (q : Option (Nat × Nat)) (ql : Nat) (qc : Cap) (h : H), L = pre ++ ts → ts.length < m → TGrow a h q ql qc (wo pre id) → Mod [] a h →
    Ret (outriderref09_without_37_L0 n m p len c id q ql qc pre.length h) fun r h' => TGrow a h' r.1 r.2.1 r.2.2 (wo L id) ∧ Mod [] a h'
  | [], pre, m + 1, q, ql, qc, h, hx, _, g, hm => by
    have hlen := hs.len
    rw [outriderref09_without_37_L0_eq, cast_not_lt (by rw [← hlen, hx]; simp), cond_false]
    rw [List.append_nil] at hx
    subst hx
    exact .pure ⟨g, hm⟩
  | t :: ts, pre, m + 1, q, ql, qc, h, hx, hf, g, hm => by
    have hlen := hs.len
    have ht : L[pre.length]? = some t := by rw [hx]; simp
    have hlt : pre.length < L.length := by rw [hx]; simp
    have hs' := Row.mod0 hs hm
    have hw : wo (pre ++ [t]) id = wo pre id ++ if id = t.1 then [] else [t] := by
      unfold wo
      rw [List.filter_append]
      congr 1
      by_cases h : id = t.1 <;> simp [h]
    rw [outriderref09_without_37_L0_eq, cast_lt (by omega), cond_true, Row.ix20 hs' encT_len ht (v := i64 t.1) rfl, asInt_int, wrap_succ (by omega)]
    have ih := fun q ql qc h => without_loop hs hl n id ts (pre ++ [t]) m q ql qc h (by rw [hx]; simp) (by simp at hf; omega)
    rw [List.length_append, List.length_singleton] at ih
    by_cases he : t.1 = id
    · rw [show ((t.1 : Int) != id) = false by simpa using he, cond_false]
      exact ih _ _ _ _ (by rw [hw, if_pos he.symm, List.append_nil]; exact g) hm
    · rw [show ((t.1 : Int) != id) = true by simpa using he, cond_true, Row.ix hs' encT_len (by omega) ht]
      simp only [encT, lc_cons, l0_nil, asInt_int]
      have hgl := g.len
      have : (wo pre id).length ≤ pre.length := List.length_filter_le _ _
      refine g.push hm.next (by omega) t fun p' c' h' g' m' => ?_
      refine ih _ _ _ _ (by rw [hw, if_neg (fun h => he h.symm)]; exact g') (hm.push g m')

theorem refWithout {h : H} {p : Option (Nat × Nat)} {len : Nat} {c : Cap} {L : List (Int × Int)} (hs : TRow h p len c L) (hl : L.length < 1000000) {n : Nat} (hn : L.length < n) (id : Int) :
    Ret (outriderref09_without_37 n p len c id h) fun r h' => TGrow h h' r.1 r.2.1 r.2.2 (wo L id) ∧ Mod [] h h' := by
  rw [outriderref09_without_37_eq]
  exact without_loop hs hl n id L [] n none 0 (.known 0) h rfl hn .nil (Mod.refl _ _)

/-! ### Set -/

/-- a's place in the rows is ahead of e -/
def goes (a e : Int × Int) : Bool := decide (e.2 > a.2) || (decide (e.2 = a.2) && decide (e.1 > a.1))
def ins (a : Int × Int) : List (Int × Int) → List (Int × Int)
  | [] => [a]
  | e :: l => if goes a e then a :: e :: l else e :: ins a l

theorem Set_L1 {b3 b6 : Nat} {a : H} {nw : Int} {p : Option (Nat × Nat)} {len : Nat} {c : Cap} {L : List (Int × Int)} (hs : TRow a p len c L) (hl : L.length < 500000) (n : Nat) (x : Int × Int) (h3 : b3 < a.next) (h6 : b6 < a.next) (h36 : b3 ≠ b6)
    {p0 : Option (Nat × Nat)} {l0' : Nat} {c0 : Cap} (g3 : a.get b3 = some (.cells [i64 nw, .slice p0 l0' c0] false)) (g6 : ∃ u v, a.get b6 = some (.cells [u, v] false)) :
    ∀ (ts pre : List (Int × Int)) (done : Bool) (out : List (Int × Int)) (m : Nat) (q : Option (Nat × Nat)) (ql : Nat) (qc : Cap) (h : H), L = pre ++ ts → ts.length < m → TGrow a h q ql qc out → Mod [] a h → out.length + (if done then 0 else 1) ≤ pre.length + 1 →
      Ret (outriderref09_Set_30_L1 n m x.1 x.2 (some (b3, 0)) (some (b6, 0)) p len c q ql qc done pre.length h) fun r h' => r.1 = nw ∧ r.2.2.2.2 = true ∧ TGrow a h' r.2.1 r.2.2.1 r.2.2.2.1 (out ++ if done then ts else ins x ts) ∧ Mod [b3, b6] a h'
  | [], pre, done, out, m + 1, q, ql, qc, h, hx, _, g, hm, hol => by
    have hlen := hs.len
    rw [outriderref09_Set_30_L1_eq, cast_not_lt (by rw [← hlen, hx]; simp), cond_false]
    have hpl : pre.length ≤ L.length := by rw [hx]; simp
    have fin : ∀ (q : Option (Nat × Nat)) (ql : Nat) (qc : Cap) (h : H) (out : List (Int × Int)), TGrow a h q ql qc out → Mod [] a h → Ret (outriderref09_Set_30_J4 n (some (b3, 0)) (some (b6, 0)) q ql qc h) fun r h' => r.1 = nw ∧ r.2.2.2.2 = true ∧ TGrow a h' r.2.1 r.2.2.1 r.2.2.2.1 out ∧ Mod [b3, b6] a h' := by
      intro q ql qc h out g hm
      have g3' := (hm.get _ h3 (by simp)).trans g3
      obtain ⟨u, v, g6⟩ := g6
      have g6' := (hm.get _ h6 (by simp)).trans g6
      rw [outriderref09_Set_30_J4_eq]
      simp only [nnK_some', Nat.zero_add]
      rw [wrK_one g3' (by simp) rfl, aggK_all (n := 2) (get_set_self _ _ _) rfl]
      simp only [List.set, lc_cons, l0_nil, asInt_int, asSlice_slice]
      have g6'' := (get_set_ne (h := h) (o := .cells [i64 nw, .slice q ql qc] false) (Ne.symm h36)).trans g6'
      rw [wrK_of (n := 2) g6'' rfl (by simp) rfl, spl_all _ _ (by simp), aggK_all (n := 2) (get_set_self _ _ _) rfl]
      simp only [lc_cons, l0_nil, asInt_int, asSlice_slice]
      have m1 : Mod [b3, b6] h ((h.set b3 (.cells [i64 nw, .slice q ql qc] false)).set b6 (.cells [i64 nw, .slice q ql qc] false)) := ((Mod.refl _ _).set (.inr (by simp)) _).set (.inr (by simp)) _
      refine .pure ⟨rfl, rfl, g.mod m1 fun x hx hm' => ?_, hm.of_nil.trans m1⟩
      have := (g.own_ge x hx).1
      simp at hm'
      omega
    have hgl := g.len
    cases done with
    | true =>
      rw [Bool.not_true, cond_false]
      simp only [if_true, List.append_nil]
      exact fin _ _ _ _ _ g hm
    | false =>
      rw [Bool.not_false, cond_true]
      refine g.push hm.next (by omega) x fun p' c' h' g' m' => ?_
      exact fin _ _ _ _ _ g' (hm.push g m')
  | t :: ts, pre, done, out, m + 1, q, ql, qc, h, hx, hf, g, hm, hol => by
    have hlen := hs.len
    have ht : L[pre.length]? = some t := by rw [hx]; simp
    have hlt : pre.length < L.length := by rw [hx]; simp
    have hs' := Row.mod0 hs hm
    have hgl := g.len
    have ih := fun done out q ql qc h => Set_L1 hs hl n x h3 h6 h36 g3 g6 ts (pre ++ [t]) done out m q ql qc h (by rw [hx]; simp) (by simp at hf; omega)
    rw [List.length_append, List.length_singleton] at ih
    -- the timer itself
    have j3 : ∀ (done : Bool) (out : List (Int × Int)) (q : Option (Nat × Nat)) (ql : Nat) (qc : Cap) (h : H), TGrow a h q ql qc out → Mod [] a h → out.length + (if done then 0 else 1) ≤ pre.length + 1 →
        Ret (outriderref09_Set_30_J3 n m x.1 x.2 (some (b3, 0)) (some (b6, 0)) p len c q ql qc done pre.length h) fun r h' => r.1 = nw ∧ r.2.2.2.2 = true ∧ TGrow a h' r.2.1 r.2.2.1 r.2.2.2.1 (out ++ [t] ++ if done then ts else ins x ts) ∧ Mod [b3, b6] a h' := by
      intro done out q ql qc h g hm hol
      have hs' := Row.mod0 hs hm
      have hgl := g.len
      rw [outriderref09_Set_30_J3_eq, Row.ix hs' encT_len (by omega) ht]
      simp only [encT, lc_cons, l0_nil, asInt_int]
      rw [wrap_succ (by omega)]
      refine g.push hm.next (by omega) t fun p' c' h' g' m' => ?_
      exact ih done (out ++ [t]) _ _ _ _ g' (hm.push g m') (by simp; omega)
    have j2 : ∀ (hd : done = false) (put : Bool), put = goes x t → Ret (outriderref09_Set_30_J2 n m x.1 x.2 (some (b3, 0)) (some (b6, 0)) p len c q ql qc done pre.length put h) fun r h' => r.1 = nw ∧ r.2.2.2.2 = true ∧ TGrow a h' r.2.1 r.2.2.1 r.2.2.2.1 (out ++ ins x (t :: ts)) ∧ Mod [b3, b6] a h' := by
      intro hd put hput
      subst hd
      rw [outriderref09_Set_30_J2_eq]
      unfold ins
      rw [← hput]
      cases put with
      | true =>
        rw [cond_true]
        refine g.push hm.next (by omega) x fun p' c' h' g' m' => ?_
        have := j3 true (out ++ [x]) p' _ c' h' g' (hm.push g m') (by simp at hol ⊢; omega)
        simpa using this
      | false =>
        rw [cond_false]
        have := j3 false out q ql qc h g hm hol
        simpa using this
    rw [outriderref09_Set_30_L1_eq, cast_lt (by omega), cond_true]
    cases done with
    | true =>
      rw [Bool.not_true, cond_false, outriderref09_Set_30_J2_eq, cond_false]
      have := j3 true out q ql qc h g hm hol
      simpa using this
    | false =>
      rw [Bool.not_false, cond_true, Row.ix2 hs' encT_len ht 1 (v := i64 t.2) rfl, asInt_int]
      simp only [Bool.false_eq_true, if_false]
      by_cases h1 : t.2 > x.2
      · rw [decide_eq_true h1, cond_true]
        exact j2 rfl _ (by unfold goes; rw [decide_eq_true h1]; rfl)
      · rw [decide_eq_false h1, cond_false, Row.ix2 hs' encT_len ht 1 (v := i64 t.2) rfl, asInt_int]
        by_cases h2 : t.2 = x.2
        · rw [show ((t.2 : Int) == x.2) = true by simpa using h2, cond_true, Row.ix20 hs' encT_len ht (v := i64 t.1) rfl, asInt_int]
          exact j2 rfl _ (by unfold goes; rw [decide_eq_false h1, decide_eq_true h2]; rfl)
        · rw [show ((t.2 : Int) == x.2) = false by simpa using h2, cond_false]
          exact j2 rfl _ (by unfold goes; rw [decide_eq_false h1, decide_eq_false h2]; rfl)

theorem refSet_bad {h : H} {nw : Int} {p : Option (Nat × Nat)} {len : Nat} {c : Cap} (n : Nat) {id at' : Int} (hb : ¬ may id at') :
    Ret (outriderref09_Set_30 n nw p len c id at' h) fun r h' => r = (nw, p, len, c, false) ∧ Mod [] h h' := by
  have m0 : Mod [] h ((h.new (.cells [.int .i64 nw, .slice p len c] false)).new (.cells [.int .i64 0, .slice none 0 (.known 0)] false)) := ((Mod.refl _ _).new _).new _
  have g1 : ((h.new (.cells [.int .i64 nw, .slice p len c] false)).new (.cells [.int .i64 0, .slice none 0 (.known 0)] false)).get h.next = some (.cells [.int .i64 nw, .slice p len c] false) := (get_new_lt (Nat.lt_succ_self _)).trans (get_new_self _ _)
  have g2 : ((h.new (.cells [.int .i64 nw, .slice p len c] false)).new (.cells [.int .i64 0, .slice none 0 (.known 0)] false)).get (h.next + 1) = some (.cells [.int .i64 0, .slice none 0 (.known 0)] false) := get_new_self _ _
  have j : Ret (outriderref09_Set_30_J0 n id at' (some (h.next, 0)) (some (h.next + 1, 0)) true ((h.new (.cells [.int .i64 nw, .slice p len c] false)).new (.cells [.int .i64 0, .slice none 0 (.known 0)] false))) fun r h' => r = (nw, p, len, c, false) ∧ Mod [] h h' := by
    generalize (h.new (.cells [.int .i64 nw, .slice p len c] false)).new (.cells [.int .i64 0, .slice none 0 (.known 0)] false) = h4 at m0 g1 g2
    rw [outriderref09_Set_30_J0_eq, cond_true]
    simp only [nnK_some']
    rw [aggK_all (n := 2) g1 rfl]
    simp only [lc_cons, l0_nil, asInt_int, asSlice_slice]
    rw [wrK_of (n := 2) g2 rfl (by simp) rfl, spl_all _ _ (by simp), aggK_all (n := 2) (get_set_self _ _ _) rfl]
    simp only [lc_cons, l0_nil, asInt_int, asSlice_slice]
    exact .pure ⟨rfl, m0.set (.inl (by omega)) _⟩
  rw [outriderref09_Set_30_eq]
  simp only [newK_eq]
  unfold may at hb
  by_cases h1 : id < 0
  · rw [decide_eq_true h1, cond_true]; exact j
  rw [decide_eq_false h1, cond_false]
  by_cases h2 : id > 65535
  · rw [decide_eq_true h2, cond_true]; exact j
  rw [decide_eq_false h2, cond_false]
  by_cases h3 : at' < 0
  · rw [decide_eq_true h3, cond_true]; exact j
  rw [decide_eq_false h3, cond_false, decide_eq_true (show at' > 1099511627776 by omega)]
  exact j

theorem refSet {h : H} {nw : Int} {p : Option (Nat × Nat)} {len : Nat} {c : Cap} {L : List (Int × Int)} (hs : TRow h p len c L) (hl : L.length < 100000) {n : Nat} (hn : L.length < n) {id at' : Int} (hm : may id at') :
    Ret (outriderref09_Set_30 n nw p len c id at' h) fun r h' => r.1 = nw ∧ r.2.2.2.2 = true ∧ TGrow h h' r.2.1 r.2.2.1 r.2.2.2.1 (ins (id, at') (wo L id)) ∧ Mod [] h h' := by
  obtain ⟨m1, m2, m3, m4⟩ := hm
  have m0 : Mod [] h ((h.new (.cells [.int .i64 nw, .slice p len c] false)).new (.cells [.int .i64 0, .slice none 0 (.known 0)] false)) := ((Mod.refl _ _).new _).new _
  have g1 : ((h.new (.cells [.int .i64 nw, .slice p len c] false)).new (.cells [.int .i64 0, .slice none 0 (.known 0)] false)).get h.next = some (.cells [.int .i64 nw, .slice p len c] false) := (get_new_lt (Nat.lt_succ_self _)).trans (get_new_self _ _)
  have g2 : ((h.new (.cells [.int .i64 nw, .slice p len c] false)).new (.cells [.int .i64 0, .slice none 0 (.known 0)] false)).get (h.next + 1) = some (.cells [.int .i64 0, .slice none 0 (.known 0)] false) := get_new_self _ _
  have hn4 : ((h.new (.cells [.int .i64 nw, .slice p len c] false)).new (.cells [.int .i64 0, .slice none 0 (.known 0)] false)).next = h.next + 2 := rfl
  rw [outriderref09_Set_30_eq]
  simp only [newK_eq]
  rw [decide_eq_false (show ¬ id < 0 by omega), cond_false, decide_eq_false (show ¬ id > 65535 by omega), cond_false, decide_eq_false (show ¬ at' < 0 by omega), cond_false, decide_eq_false (show ¬ at' > 1099511627776 by omega), outriderref09_Set_30_J0_eq, cond_false]
  rw [show (h.new (.cells [.int .i64 nw, .slice p len c] false)).next = h.next + 1 from rfl]
  generalize (h.new (.cells [.int .i64 nw, .slice p len c] false)).new (.cells [.int .i64 0, .slice none 0 (.known 0)] false) = h4 at *
  simp only [nnK_some', Nat.zero_add]
  rw [cellK_of g1 rfl, asSlice_slice]
  refine (refWithout (Row.mod0 hs m0) (by omega) hn id).bind fun r h5 ⟨q1, q2⟩ => ?_
  have hle : (wo L id).length ≤ L.length := List.length_filter_le _ _
  have := Set_L1 (a := h5) (nw := nw) (b3 := h.next) (b6 := h.next + 1) q1.row (by omega) n (id, at') (by have := q2.next; omega) (by have := q2.next; omega) (by omega) ((q2.get _ (by omega) (by simp)).trans g1) ⟨_, _, (q2.get _ (by omega) (by simp)).trans g2⟩ (wo L id) [] false [] n none 0 (.known 0) h5 rfl (by omega) .nil (Mod.refl _ _) (by simp)
  refine this.mono fun r h6 ⟨e1, e2, e3, e4⟩ => ⟨e1, e2, ?_, ?_⟩
  · have e3' := e3.base (a' := h) (by have := q2.next; have := m0.next; omega)
    simpa using e3'
  · exact (m0.trans q2).trans' e4 fun i hi hl => by simp at hi; omega

/-! ### When, Cancel, Next -/

def headT : List (Int × Int) → Int × Bool
  | [] => (0, false)
  | e :: _ => (e.2, true)
def whenT : Option Int → Int × Bool
  | some a => (a, true)
  | none => (0, false)

end Go.Ev.Try
