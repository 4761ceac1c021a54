/- Chapter 11: the document's Move. -/
import Derived.Test.YtjbojcdmfkmkiaaHp7
set_option linter.all false
namespace Go.Ev.Try
set_option maxRecDepth 10000
open Go.Proofs

theorem resets_take {u : Int} {ids : List Int} {j : Nat} {x : Int} (hx : ids[j]? = some x) (L : List (Int × Int)) : resets u (ids.take (j + 1)) L = ins (x, u) (wo (resets u (ids.take j) L) x) := by
  have htake : ids.take (j + 1) = ids.take j ++ [x] := by rw [List.take_add_one, hx]; rfl
  rw [htake]; unfold resets; rw [List.foldl_append]; rfl

theorem refMoveB_L0 {r : Rul} (ho : okR r) {upto : Int} (hu : upto ≤ latest) {ids : List Int} {a0 b1 b3 b6 : Nat} (h136 : b1 ≠ b3 ∧ b1 ≠ b6 ∧ b3 ≠ b6) {t : Option (Nat × Nat)} {tc : Cap} (ht : ∀ x ∈ own t, x ≠ b1 ∧ x ≠ b3 ∧ x ≠ b6) (hid : ∀ k ∈ ids, may k (upto + r.every)) {L0 : List (Int × Int)} (hL0 : L0.length < 2000) (hlen : ids.length < 2000)
    {p : Option (Nat × Nat)} {pl : Nat} {pc : Cap} {now nw : Int} {q0 : Option (Nat × Nat)} {ql0 : Nat} {qc0 : Cap} {n : Nat} (hn : 5000 ≤ n) {q : Option (Nat × Nat)} :
    ∀ (d j m : Nat) (h : H) (tp : Option (Nat × Nat)) (tl : Nat) (tpc : Cap), j + d = ids.length → d < m → b1 < h.next → b3 < h.next → b6 < h.next → a0 ≤ h.next → Row h 1 t ids.length tc (ids.map i64) → h.get b1 = some (.cells (bcells r p pl pc now q0 ql0 qc0) false) → (∃ cs, h.get b3 = some (.cells cs false) ∧ cs.length = 6) → h.get b6 = some (.cells [.int .i64 nw, .slice tp tl tpc] false) → TRow h tp tl tpc (resets (upto + r.every) (ids.take j) L0) → (∀ x ∈ own tp, x ≠ b1 ∧ x ≠ b3 ∧ x ≠ b6 ∧ (x ∈ own q ∨ a0 ≤ x)) →
      Ret (outriderref11_Move_21_L0 n m upto (some (b1, 0)) (some (b3, 0)) (some (b6, 0)) t ids.length tc j h) fun z h' => Mod [b1, b3, b6] h h' ∧ ∃ q' ql' qc', z = (r.rise, r.fall, r.every, p, pl, pc, nw, q', ql', qc', t, ids.length, tc) ∧ TRow h' q' ql' qc' (resets (upto + r.every) ids L0) ∧ Row h' 1 t ids.length tc (ids.map i64) ∧ (∀ x ∈ own q', x ∈ own q ∨ a0 ≤ x)
  | 0, j, m + 1, h, tp, tl, tpc, hj, _, l1, l3, l6, ha, hr, g1, ⟨cs, g3, hcs⟩, g6, tr, hown => by
    rw [outriderref11_Move_21_L0_eq, cast_not_lt (by omega), cond_false]
    rw [List.take_of_length_le (by omega)] at tr
    simp only [nnK_some', Nat.zero_add]
    rw [aggK_all (n := 2) g6 rfl]
    simp only [lc_cons, l0_nil, asInt_int, asSlice_slice]
    have hsp : spl (bcells r p pl pc now q0 ql0 qc0) 4 [.int .i64 nw, .slice tp tl tpc] = bcells r p pl pc nw tp tl tpc := rfl
    rw [wrK_of (n := 2) (o := 4) g1 rfl (by simp [bcells]) rfl, hsp, aggK_all (n := 6) (get_set_self _ _ _) rfl]
    simp only [bcells, lc_cons, l0_nil, asInt_int, asSlice_slice]
    rw [wrK_of (n := 6) ((get_set_ne h136.1.symm).trans g3) rfl (by omega) rfl, spl_all _ _ (by simp [hcs]), aggK_all (n := 6) (get_set_self _ _ _) rfl]
    simp only [lc_cons, l0_nil, asInt_int, asSlice_slice]
    have m : ∀ o1 o2, Mod [b1, b3, b6] h ((h.set b1 o1).set b3 o2) := fun o1 o2 => (((Mod.refl _ _).set (.inr (by simp)) _).set (.inr (by simp)) _)
    refine .pure ⟨m _ _, tp, tl, tpc, rfl, Row.mod tr (m _ _) fun x hx hx' => ?_, Row.mod hr (m _ _) fun x hx hx' => ?_, fun x hx => (hown x hx).2.2.2⟩
    · have := hown x hx
      simp at hx'; omega
    · have := ht x hx
      simp at hx'; omega
  | d + 1, j, m + 1, h, tp, tl, tpc, hj, hf, l1, l3, l6, ha, hr, g1, ⟨cs, g3, hcs⟩, g6, tr, hown => by
    have hlt : j < ids.length := by omega
    have hx : ids[j]? = some ids[j] := List.getElem?_eq_getElem hlt
    have hmay := hid _ (List.getElem_mem hlt)
    have hev : 1 ≤ r.every ∧ r.every ≤ 10000 := ⟨ho.2.2.2.2.1, ho.2.2.2.2.2⟩
    have hm3 := hmay.2.2.1
    have hm4 := hmay.2.2.2
    unfold latest at hu
    have hrl := resets_len (upto + r.every) (ids.take j) L0
    rw [List.length_take] at hrl
    rw [outriderref11_Move_21_L0_eq, cast_lt hlt, cond_true]
    simp only [nnK_some', Nat.zero_add]
    rw [aggK_all (n := 2) g6 rfl]
    simp only [lc_cons, l0_nil, asInt_int, asSlice_slice]
    rw [hr.ix1 hx, asInt_int, cellK_of (o := 2) g1 rfl, asInt_int, wrap_i64 (by omega) (by omega)]
    refine (refSet (nw := nw) tr (by omega) (n := n) (by omega) hmay).bind fun z h1 ⟨e1, e2, e3, m1⟩ => ?_
    rw [e1]
    have hn1 := m1.next
    rw [wrK_of (n := 2) ((m1.get _ l6 (by simp)).trans g6) rfl (by simp) rfl, spl_all _ _ (by simp), wrap_succ (by omega)]
    have m2 : Mod [b6] h1 (h1.set b6 (.cells [.int .i64 nw, .slice z.2.1 z.2.2.1 z.2.2.2.1] false)) := (Mod.refl _ _).set (.inr (by simp)) _
    have hz : ∀ x ∈ own z.2.1, h.next ≤ x := fun x hx => (e3.own_ge x hx).1
    refine (refMoveB_L0 ho hu (a0 := a0) h136 ht hid hL0 hlen (now := now) (q0 := q0) (ql0 := ql0) (qc0 := qc0) hn (q := q) d (j + 1) m _ z.2.1 z.2.2.1 z.2.2.2.1 (by omega) (by omega) (by show b1 < h1.next; omega) (by show b3 < h1.next; omega) (by show b6 < h1.next; omega) (by show a0 ≤ h1.next; omega) ?_ ?_ ?_ (get_set_self _ _ _) ?_ ?_).mono fun z' h' ⟨m', d'⟩ => ⟨?_, d'⟩
    · exact Row.mod (Row.mod0 hr m1) m2 fun x hx hx' => by have := ht x hx; simp at hx'; omega
    · exact (get_set_ne h136.2.1).trans ((m1.get _ l1 (by simp)).trans g1)
    · exact ⟨cs, (get_set_ne h136.2.2).trans ((m1.get _ l3 (by simp)).trans g3), hcs⟩
    · rw [resets_take hx]
      exact Row.mod e3.row m2 fun x hx hx' => by have := hz x hx; simp at hx'; omega
    · exact fun x hx => by have := hz x hx; omega
    · exact (m1.of_nil.trans (m2.sub fun i hi _ => by simp at hi; simp [hi])).trans m'

theorem refMoveB {r : Rul} (ho : okR r) {h : H} {p : Option (Nat × Nat)} {pl : Nat} {pc : Cap} {now : Int} {q : Option (Nat × Nat)} {ql : Nat} {qc : Cap} {L : List (Int × Int)} (d : Doc now L) (tr : TRow h q ql qc L) (hL : L.length < 1000) (upto : Int) {n : Nat} (hn : 5000 ≤ n) :
    Ret (outriderref11_Move_21 n r.rise r.fall r.every p pl pc now q ql qc upto h) fun z h' => Mod [] h h' ∧ ∃ q' ql' qc' t tl tc, z = (r.rise, r.fall, r.every, p, pl, pc, (bMove r.every now L upto).1, q', ql', qc', t, tl, tc) ∧ TRow h' q' ql' qc' (bMove r.every now L upto).2 ∧ Row h' 1 t tl tc ((bTold now L upto).map i64) ∧ (∀ x ∈ own q', x ∈ own q ∨ h.next ≤ x) ∧ (∀ x ∈ own t, h.next ≤ x) := by
  rw [outriderref11_Move_21_eq]
  simp only [newK_eq]
  rw [show (AObj.cells [.int .i64 r.rise, .int .i64 r.fall, .int .i64 r.every, .slice p pl pc, .int .i64 now, .slice q ql qc] false) = .cells (bcells r p pl pc now q ql qc) false from rfl]
  have m0 : Mod [] h ((h.new (.cells (bcells r p pl pc now q ql qc) false)).new (.cells [(.int .i64 0), (.int .i64 0), (.int .i64 0), (.slice none 0 (.known 0)), (.int .i64 0), (.slice none 0 (.known 0))] false)) := ((Mod.refl _ _).new _).new _
  have g1 : ((h.new (.cells (bcells r p pl pc now q ql qc) false)).new (.cells [(.int .i64 0), (.int .i64 0), (.int .i64 0), (.slice none 0 (.known 0)), (.int .i64 0), (.slice none 0 (.known 0))] false)).get h.next = some (.cells (bcells r p pl pc now q ql qc) false) := (get_new_lt (Nat.lt_succ_self _)).trans (get_new_self _ _)
  have g2 : ((h.new (.cells (bcells r p pl pc now q ql qc) false)).new (.cells [(.int .i64 0), (.int .i64 0), (.int .i64 0), (.slice none 0 (.known 0)), (.int .i64 0), (.slice none 0 (.known 0))] false)).get (h.next + 1) = some (.cells [(.int .i64 0), (.int .i64 0), (.int .i64 0), (.slice none 0 (.known 0)), (.int .i64 0), (.slice none 0 (.known 0))] false) := get_new_self _ _
  have n2 : ((h.new (.cells (bcells r p pl pc now q ql qc) false)).new (.cells [(.int .i64 0), (.int .i64 0), (.int .i64 0), (.slice none 0 (.known 0)), (.int .i64 0), (.slice none 0 (.known 0))] false)).next = h.next + 2 := rfl
  rw [show (h.new (.cells (bcells r p pl pc now q ql qc) false)).next = h.next + 1 from rfl]
  generalize (h.new (.cells (bcells r p pl pc now q ql qc) false)).new (.cells [(.int .i64 0), (.int .i64 0), (.int .i64 0), (.slice none 0 (.known 0)), (.int .i64 0), (.slice none 0 (.known 0))] false) = h4 at *
  have hqlt : ∀ x ∈ own q, x < h.next := fun x hx => Row.lt tr x hx
  unfold bMove bTold
  by_cases hl : upto > latest
  · rw [decide_eq_true (show upto > 1099511617776 from hl), cond_true]
    simp only [if_pos hl]
    rw [aggK_all (n := 6) g1 rfl]
    simp only [bcells, lc_cons, l0_nil, asInt_int, asSlice_slice]
    rw [wrK_of (n := 6) g2 rfl (by simp) rfl, spl_all _ _ (by simp), aggK_all (n := 6) (get_set_self _ _ _) rfl]
    simp only [lc_cons, l0_nil, asInt_int, asSlice_slice]
    have m1 : ∀ o, Mod [] h (h4.set (h.next + 1) o) := fun o => m0.set (.inl (by omega)) _
    exact .pure ⟨m1 _, q, ql, qc, none, 0, .known 0, rfl, Row.mod0 tr (m1 _), .nil, fun x hx => .inl hx, fun x hx => by simp at hx⟩
  · rw [decide_eq_false (show ¬ upto > 1099511617776 from hl), cond_false]
    simp only [if_neg hl]
    rw [aggK_of (n := 2) (o := 4) g1 (by simp [bcells])]
    simp only [bcells, List.drop, List.take, lc_cons, l0_nil, asInt_int, asSlice_slice]
    refine (refMove (nw := now) (Row.mod0 tr m0) (by omega) (n := n) (by omega) upto).bind fun z h5 ⟨m5, d5⟩ => ?_
    have hn5 := m5.next
    have htl : (moveTold now L upto).length ≤ L.length := by
      unfold moveTold
      split
      · exact told_lt
      · simp
    have hll : (moveT now L upto).2.length ≤ L.length := by
      unfold moveT
      split
      · exact left_lt
      · simp
    have hid : ∀ k ∈ moveTold now L upto, may k (upto + r.every) := by
      have hev : 1 ≤ r.every ∧ r.every ≤ 10000 := ⟨ho.2.2.2.2.1, ho.2.2.2.2.2⟩
      intro k hk'
      unfold moveTold at hk'
      split at hk'
      · rename_i hmv
        unfold told at hk'
        obtain ⟨e, he, rfl⟩ := List.mem_map.1 hk'
        have hm := d.may e (List.mem_filter.1 he).1
        have n0 := d.n0
        have hm0 := hmv.1
        unfold latest at hl
        exact ⟨hm.1, hm.2.1, by omega, by omega⟩
      · simp at hk'
    have main : ∃ q1 ql1 qc1 t tl tc, z = ((moveT now L upto).1, q1, ql1, qc1, t, tl, tc) ∧ TRow h5 q1 ql1 qc1 (moveT now L upto).2 ∧ Row h5 1 t tl tc ((moveTold now L upto).map i64) ∧ (∀ x ∈ own q1, x ∈ own q ∨ h4.next ≤ x) ∧ (∀ x ∈ own t, h4.next ≤ x) := by
      unfold moveT moveTold
      by_cases hmv : moves now upto
      · rw [if_pos hmv] at d5 ⊢
        obtain ⟨e1, e2, e3⟩ := d5
        refine ⟨z.2.1, z.2.2.1, z.2.2.2.1, z.2.2.2.2.1, z.2.2.2.2.2.1, z.2.2.2.2.2.2, ?_, e2.row, ?_, fun x hx => .inr (e2.own_ge x hx).1, fun x hx => (e3.own_ge x hx).1⟩
        · rw [← e1]
        · rw [if_pos hmv]; exact e3.row
      · rw [if_neg hmv] at d5 ⊢
        rw [if_neg hmv]
        subst d5
        exact ⟨q, ql, qc, none, 0, .known 0, rfl, Row.mod0 (Row.mod0 tr m0) m5, .nil, fun x hx => .inl hx, fun x hx => by simp at hx⟩
    obtain ⟨q1, ql1, qc1, t, tl, tc, rfl, tr1, rw1, ho1, ho2⟩ := main
    simp only
    have htl1 := rw1.len1
    rw [← htl1] at rw1 ⊢
    rw [wrK_of (n := 2) (get_new_self _ _) rfl (by simp) rfl, spl_all _ _ (by simp), set_new]
    have m6 : Mod [] h5 (h5.new (.cells [.int .i64 (moveT now L upto).1, .slice q1 ql1 qc1] false)) := (Mod.refl _ _).new _
    have g6 := get_new_self h5 (.cells [.int .i64 (moveT now L upto).1, .slice q1 ql1 qc1] false)
    have n6 : (h5.new (.cells [.int .i64 (moveT now L upto).1, .slice q1 ql1 qc1] false)).next = h5.next + 1 := rfl
    generalize h5.new (.cells [.int .i64 (moveT now L upto).1, .slice q1 ql1 qc1] false) = h6 at *
    have m46 := m5.trans m6
    have hq1 : ∀ x ∈ own q1, x < h5.next := fun x hx => Row.lt tr1 x hx
    have ht1 : ∀ x ∈ own t, x < h5.next := fun x hx => Row.lt rw1 x hx
    have fin := refMoveB_L0 (r := r) ho (upto := upto) (by omega) (ids := moveTold now L upto) (a0 := h.next) (b1 := h.next) (b3 := h.next + 1) (b6 := h5.next) ⟨by omega, by omega, by omega⟩ (t := t) (tc := tc) (fun x hx => by have := ho2 x hx; have := ht1 x hx; omega) hid (L0 := (moveT now L upto).2) (by omega) (by omega) (p := p) (pl := pl) (pc := pc) (now := now) (nw := (moveT now L upto).1) (q0 := q) (ql0 := ql) (qc0 := qc) hn (q := q) (moveTold now L upto).length 0 n h6 q1 ql1 qc1 (by omega) (by omega) (by omega) (by omega) (by omega) (by omega) (Row.mod0 rw1 m6) ((m46.get _ (by omega) (by simp)).trans g1) ⟨_, (m46.get _ (by omega) (by simp)).trans g2, rfl⟩ g6 (Row.mod0 tr1 m6) (fun x hx => by
      have h1 := hq1 x hx
      rcases ho1 x hx with h2 | h2
      · have := hqlt x h2
        exact ⟨by omega, by omega, by omega, .inl h2⟩
      · exact ⟨by omega, by omega, by omega, .inr (by omega)⟩)
    refine fin.mono fun z' h' ⟨m', q', ql', qc', e, tr', rw', hw'⟩ => ⟨?_, q', ql', qc', t, _, tc, e, tr', rw', hw', fun x hx => by have := ho2 x hx; omega⟩
    exact (m0.trans m46).trans' m' fun i hi hl => by simp at hi; omega

end Go.Ev.Try
