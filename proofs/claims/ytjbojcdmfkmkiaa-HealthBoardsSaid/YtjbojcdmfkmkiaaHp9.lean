/- Chapter 11: the law HealthBoards in plain Lean. -/
import Derived.Test.YtjbojcdmfkmkiaaHp8
set_option linter.all false
namespace Go.Ev.Try
set_option maxRecDepth 10000
open Go.Proofs

structure BSt (a h : H) (bb : Nat) (r : Rul) (bp : Option (Nat × Nat)) (bc : Cap) (ps : List Nat) (wb : Nat) (WB : List Nat) (iq : Nat) (st : List (Bool × Int)) (now : Int) (L : List (Int × Int)) : Prop where
  b : BRep h bb r bp bc ps st wb WB now L
  box : ∃ p pc q ql qc, h.get iq = some (.cells (bcells r p ps.length pc now q ql qc) false) ∧ PRow h p ps.length pc st ∧ TRow h q ql qc L ∧ ∀ x ∈ own p ++ own q, x ∉ iq :: bblocks bb bp ps WB
  hst : ∀ s ∈ st, okP r s
  len : L.length ≤ 16
  nq : iq ∉ bblocks bb bp ps WB
  lq : iq < h.next
  m : Mod (iq :: bblocks bb bp ps WB) a h

section
variable {a h : H} {bb : Nat} {r : Rul} {bp : Option (Nat × Nat)} {bc : Cap} {ps : List Nat} {wb : Nat} {WB : List Nat} {iq : Nat} {st : List (Bool × Int)} {now : Int} {L : List (Int × Int)}

theorem BSt.mod0 {h' : H} (s : BSt a h bb r bp bc ps wb WB iq st now L) (m : Mod [] h h') : BSt a h' bb r bp bc ps wb WB iq st now L := by
  obtain ⟨p, pc, q, ql, qc, g, pr, tr, hf⟩ := s.box
  exact ⟨s.b.mod0 m, ⟨p, pc, q, ql, qc, (m.get _ s.lq (by simp)).trans g, Row.mod0 pr m, Row.mod0 tr m, hf⟩, s.hst, s.len, s.nq, m.lt s.lq, s.m.trans m.of_nil⟩

/-- another document in the box -/
theorem BSt.put {h2 : H} {st' : List (Bool × Int)} {now' : Int} {L' : List (Int × Int)} (s : BSt a h bb r bp bc ps wb WB iq st now L) (m : Mod [] h h2) {p : Option (Nat × Nat)} {pc : Cap} {q : Option (Nat × Nat)} {ql : Nat} {qc : Cap} (pr : PRow h2 p ps.length pc st') (tr : TRow h2 q ql qc L') (hf : ∀ x ∈ own p ++ own q, x ∉ iq :: bblocks bb bp ps WB) {S : List Nat} (hS : ∀ x ∈ S, x ∈ bblocks bb bp ps WB) {h4 : H} (b4 : BRep h4 bb r bp bc ps st' wb WB now' L') (m4 : Mod S (h2.set iq (.cells (bcells r p ps.length pc now' q ql qc) false)) h4) (hst' : ∀ s ∈ st', okP r s) (hL : L'.length ≤ 16) : BSt a h4 bb r bp bc ps wb WB iq st' now' L' := by
  have m3 : Mod [iq] h2 (h2.set iq (.cells (bcells r p ps.length pc now' q ql qc) false)) := (Mod.refl _ _).set (.inr (by simp)) _
  have hp : ∀ x ∈ own p, x ∉ iq :: bblocks bb bp ps WB := fun x hx => hf x (List.mem_append.2 (.inl hx))
  have hq : ∀ x ∈ own q, x ∉ iq :: bblocks bb bp ps WB := fun x hx => hf x (List.mem_append.2 (.inr hx))
  have hl := m.lt s.lq
  have hl3 := m3.lt hl
  refine ⟨b4, ⟨p, pc, q, ql, qc, (m4.get _ hl3 fun hx => s.nq (hS _ hx)).trans (get_set_self _ _ _), Row.mod (Row.mod pr m3 fun x hx hx' => ?_) m4 fun x hx hx' => ?_, Row.mod (Row.mod tr m3 fun x hx hx' => ?_) m4 fun x hx hx' => ?_, hf⟩, hst', hL, s.nq, m4.lt hl3, ?_⟩
  · simp at hx'; exact hp x hx (by simp [hx'])
  · exact hp x hx (List.mem_cons_of_mem _ (hS x hx'))
  · simp at hx'; exact hq x hx (by simp [hx'])
  · exact hq x hx (List.mem_cons_of_mem _ (hS x hx'))
  · exact ((s.m.trans m.of_nil).trans (m3.sub fun i hi _ => by simp at hi; simp [hi])).trans (m4.sub fun i hi _ => List.mem_cons_of_mem _ (hS i hi))

theorem boards_J3 (s : BSt a h bb r bp bc ps wb WB iq st now L) (hps : ps.length ≤ 16) {n : Nat} (hn : 5000 ≤ n) {kk : Bool → H → Option Unit} {m1 : Nat} {zp : Option (Nat × Nat)} {zl : Nat} {zc : Cap} {zm zj : Int} (hj : -1000 ≤ zj ∧ zj ≤ 1000)
    (hk : ∀ h', BSt a h' bb r bp bc ps wb WB iq st now L → outriderlaw11_HealthBoards_7_L1 n kk m1 (some (bb, 0)) (some (iq, 0)) zp zl zc zm (zj + 1) h' = some ()) :
    outriderlaw11_HealthBoards_7_J3 n kk m1 (some (bb, 0)) (some (iq, 0)) zp zl zc zm zj h = some () := by
  rw [outriderlaw11_HealthBoards_7_J3_eq]
  obtain ⟨q1, h1, e1, gu1, m1'⟩ := UpB_ret s.b (by omega) (n := n) (by omega)
  have s1 := s.mod0 m1'
  obtain ⟨p, pc, q, ql, qc, g, pr, tr, hf⟩ := s1.box
  rw [e1, Option.bind_some]
  simp only [nnK_some', Nat.zero_add]
  rw [minus_quiet m1', minus_none, aggK_all (n := 6) g rfl]
  simp only [bcells, lc_cons, l0_nil, asInt_int, asSlice_slice]
  have hlen := s.b.len
  obtain ⟨q2, h2, e2, gu2, m2⟩ := refUp (r := r) (now := now) (q := q) (ql := ql) (qc := qc) pr (by omega) (n := n) (by omega)
  rw [e2, Option.bind_some]
  have r1 : Row h2 1 q1.1 q1.2.1 q1.2.2 ((st.map fun s => s.1).map AV.bool) := by
    have := gu1.row.mod0 m2
    rw [List.map_map]; exact this
  have r2 : Row h2 1 q2.1 q2.2.1 q2.2.2 ((st.map fun s => s.1).map AV.bool) := by
    rw [List.map_map]; exact gu2
  rw [SameUp_eq r1 r2 (by simp; omega) (by simp; omega), Option.bind_some]
  simp only [Bool.not_true]
  rw [cond_false, wrap_i64 (by omega) (by omega)]
  exact hk _ (s1.mod0 m2)

theorem boards_L1 (ho : okR r) (hps : ps.length ≤ 16) {zp : Option (Nat × Nat)} {zl : Nat} {zc : Cap} {os : List Bop} (hrow : Row a 3 zp zl zc (os.flatMap encB)) (hown : ∀ x ∈ own zp, x ∉ iq :: bblocks bb bp ps WB) (hl : os.length ≤ 500) {n : Nat} (hn : 5000 ≤ n) {kk : Bool → H → Option Unit} (hk : ∀ h, kk true h = some ()) :
    ∀ (ts pre : List Bop) (m : Nat) (h : H) (st : List (Bool × Int)) (now : Int) (L : List (Int × Int)), os = pre ++ ts → ts.length < m → BSt a h bb r bp bc ps wb WB iq st now L →
      outriderlaw11_HealthBoards_7_L1 n kk m (some (bb, 0)) (some (iq, 0)) zp zl zc zl pre.length h = some ()
  | [], pre, m + 1, h, st, now, L, hx, _, _ => by
    have hlen := hrow.len encB_len (by omega)
    rw [outriderlaw11_HealthBoards_7_L1_eq, cast_not_lt (by rw [← hlen, hx]; simp), cond_false]
    exact alive_ret h (by omega) _ fun q h' ⟨e, _⟩ => by rw [e]; exact hk _
  | t :: ts, pre, m + 1, h, st, now, L, hx, hf, s => by
    have hlen := hrow.len encB_len (by omega)
    have ht : os[pre.length]? = some t := by rw [hx]; simp
    have hlt : pre.length < os.length := by rw [hx]; simp
    have hle := s.m.next
    have next : ∀ {h' : H} {st' now' L'}, BSt a h' bb r bp bc ps wb WB iq st' now' L' → outriderlaw11_HealthBoards_7_J3 n kk m (some (bb, 0)) (some (iq, 0)) zp zl zc zl pre.length h' = some () := fun s' =>
      boards_J3 s' hps hn (by omega) fun h'' s'' => by
        have ih := boards_L1 ho hps hrow hown hl hn hk ts (pre ++ [t]) m h'' _ _ _ (by rw [hx]; simp) (by simp at hf; omega) s''
        rw [List.length_append, List.length_singleton] at ih
        exact ih
    rw [outriderlaw11_HealthBoards_7_L1_eq, cast_lt (by omega), cond_true, (hrow.mod s.m hown).ix encB_len (by omega) ht]
    simp only [encB, lc_cons, l0_nil, asInt_int, asBool_bool, newK_eq]
    rw [wrK_of (n := 3) (get_new_self _ _) rfl (by simp) rfl, spl_all _ _ (by simp), set_new]
    have m1 : Mod [] h (h.new (.cells [.int .i64 t.kind, .int .i64 t.k, .bool t.good] false)) := (Mod.refl _ _).new _
    have g1 := get_new_self h (.cells [.int .i64 t.kind, .int .i64 t.k, .bool t.good] false)
    have n1 : (h.new (.cells [.int .i64 t.kind, .int .i64 t.k, .bool t.good] false)).next = h.next + 1 := rfl
    generalize h.new (.cells [.int .i64 t.kind, .int .i64 t.k, .bool t.good] false) = h1 at *
    have s1 := s.mod0 m1
    have hbl := s.b.lt
    have hlq := s.lq
    obtain ⟨p, pc, q, ql, qc, gq, pr, tr, hfr⟩ := s1.box
    have hstl := s.b.len
    have hopb : h.next ∉ bblocks bb bp ps WB := fun hx => by have := hbl _ hx; omega
    have hq' : ∀ x ∈ own q, x ∉ iq :: bblocks bb bp ps WB := fun x hx => hfr x (List.mem_append.2 (.inr hx))
    have hp' : ∀ x ∈ own p, x ∉ iq :: bblocks bb bp ps WB := fun x hx => hfr x (List.mem_append.2 (.inl hx))
    have fresh : ∀ x, h1.next ≤ x → x ∉ iq :: bblocks bb bp ps WB := fun x hx hm => by
      rcases List.mem_cons.1 hm with rfl | hm
      · omega
      · have := hbl _ hm; omega
    rw [cellK_of (o := 0) g1 rfl, asInt_int]
    by_cases hk0 : t.kind = 0
    · rw [show ((t.kind : Int) == 0) = true by simpa using hk0, cond_true]
      simp only [nnK_some', Nat.zero_add]
      rw [aggK_all (n := 6) gq rfl]
      simp only [bcells, lc_cons, l0_nil, asInt_int, asSlice_slice]
      rw [cellK_of (o := 1) g1 rfl, asInt_int, cellK_of (o := 2) g1 rfl, asBool_bool]
      obtain ⟨z, h2, e2, m2, d2⟩ := refTellOne ho (now := now) (q := q) (ql := ql) (qc := qc) pr (by omega) s.hst t.k t.good n
      rw [e2, Option.bind_some]
      have hn2 := m2.next
      -- what the document answers, and the program
      obtain ⟨p2, pc2, st2, ch, okk, rfl, pr2, hf2, hst2, hset⟩ : ∃ p2 pc2 st2 ch okk, z = (r.rise, r.fall, r.every, p2, ps.length, pc2, now, q, ql, qc, ch, okk) ∧ PRow h2 p2 ps.length pc2 st2 ∧ (∀ x ∈ own p2, x ∉ iq :: bblocks bb bp ps WB) ∧ (∀ s ∈ st2, okP r s) ∧
          ∀ h4, BRep h4 bb r bp bc ps st wb WB now L → ∃ h5, health_Board_Tell_20 n (some (bb, 0)) t.k t.good h4 = some ((ch, okk), h5) ∧ BRep h5 bb r bp bc ps st2 wb WB now L ∧ Mod ps h4 h5 := by
        by_cases hk' : 0 ≤ t.k ∧ t.k < (ps.length : Int)
        · rw [if_pos ⟨hk'.1, by omega⟩] at d2
          obtain ⟨p2, pc2, sk, hsk, rfl, pr2, hf2⟩ := d2
          refine ⟨p2, pc2, _, _, _, rfl, pr2, fun x hx => fresh x (hf2 x hx), fun s' hs => ?_, fun h4 b4 => ?_⟩
          · rcases List.mem_or_eq_of_mem_set hs with hs | rfl
            · exact s.hst s' hs
            · exact (s.hst _ (List.mem_of_getElem? hsk)).tell ho _
          · obtain ⟨h5, e5, b5, m5⟩ := TellB_ret b4 ho s.hst hsk t.good n
            rw [show ((t.k.toNat : Nat) : Int) = t.k by omega] at e5
            exact ⟨h5, e5, b5, m5⟩
        · rw [if_neg (by omega)] at d2
          subst d2
          exact ⟨p, pc, st, false, false, rfl, Row.mod0 pr m2, hp', s.hst, fun h4 b4 => ⟨h4, TellB_bad b4 hk' t.good n, b4, Mod.refl _ _⟩⟩
      simp only
      rw [wrK_of (n := 6) (get_new_self _ _) rfl (by simp) rfl, spl_all _ _ (by simp), set_new]
      have m3 : Mod [] h2 (h2.new (.cells [.int .i64 r.rise, .int .i64 r.fall, .int .i64 r.every, .slice p2 ps.length pc2, .int .i64 now, .slice q ql qc] false)) := (Mod.refl _ _).new _
      have g3 := get_new_self h2 (.cells [.int .i64 r.rise, .int .i64 r.fall, .int .i64 r.every, .slice p2 ps.length pc2, .int .i64 now, .slice q ql qc] false)
      generalize h2.new (.cells [.int .i64 r.rise, .int .i64 r.fall, .int .i64 r.every, .slice p2 ps.length pc2, .int .i64 now, .slice q ql qc] false) = h3 at *
      have hn3 := m3.next
      have m13 := m2.trans m3
      rw [aggK_all (n := 6) g3 rfl]
      simp only [lc_cons, l0_nil, asInt_int, asSlice_slice]
      rw [wrK_of (n := 6) ((m13.get _ (by omega) (by simp)).trans gq) rfl (by simp [bcells]) rfl, spl_all _ _ (by simp [bcells])]
      rw [show (AObj.cells [.int .i64 r.rise, .int .i64 r.fall, .int .i64 r.every, .slice p2 ps.length pc2, .int .i64 now, .slice q ql qc] false) = .cells (bcells r p2 ps.length pc2 now q ql qc) false from rfl]
      have m4 : Mod [iq] h3 (h3.set iq (.cells (bcells r p2 ps.length pc2 now q ql qc) false)) := (Mod.refl _ _).set (.inr (by simp)) _
      have g4 : (h3.set iq (.cells (bcells r p2 ps.length pc2 now q ql qc) false)).get h.next = _ := (get_set_ne (by omega)).trans ((m13.get _ (by omega) (by simp)).trans g1)
      rw [cellK_of (o := 1) g4 rfl, asInt_int, cellK_of (o := 2) g4 rfl, asBool_bool]
      have b4 := (s1.b.mod0 m13).mod m4 fun x hx hx' => by simp at hx'; exact s.nq (hx' ▸ hx)
      obtain ⟨h5, e5, b5, m5⟩ := hset _ b4
      rw [e5, Option.bind_some]
      simp only
      have s5 := s1.put m13 (Row.mod0 pr2 m3) (Row.mod0 (Row.mod0 tr m2) m3) (fun x hx => (List.mem_append.1 hx).elim (hf2 x) (hq' x)) (S := ps) (fun x hx => by simp [bblocks, hx]) b5 m5 hst2 s.len
      rw [show (ch == ch) = true by simp, Bool.not_true, cond_false, show (okk == okk) = true by simp, Bool.not_true, outriderlaw11_HealthBoards_7_J2_eq, cond_false]
      exact next s5
    · rw [show ((t.kind : Int) == 0) = false by simpa using hk0, cond_false]
      by_cases hk1 : t.kind = 1
      · rw [show ((t.kind : Int) == 1) = true by simpa using hk1, cond_true]
        simp only [nnK_some', Nat.zero_add]
        rw [aggK_all (n := 6) gq rfl]
        simp only [bcells, lc_cons, l0_nil, asInt_int, asSlice_slice]
        rw [cellK_of (o := 1) g1 rfl, asInt_int]
        have hL := s.len
        obtain ⟨z, h2, e2, m2, q2, ql2, qc2, tt, tl, tc, rfl, tr2, rt2, hf2, hf3⟩ := refMoveB ho (p := p) (pl := ps.length) (pc := pc) s.b.wheel.doc tr (by omega) t.k (n := n) hn
        rw [e2, Option.bind_some]
        have hn2 := m2.next
        simp only
        rw [wrK_of (n := 6) (get_new_self _ _) rfl (by simp) rfl, spl_all _ _ (by simp), set_new]
        have m3 : Mod [] h2 (h2.new (.cells [.int .i64 r.rise, .int .i64 r.fall, .int .i64 r.every, .slice p ps.length pc, .int .i64 (bMove r.every now L t.k).1, .slice q2 ql2 qc2] false)) := (Mod.refl _ _).new _
        have g3 := get_new_self h2 (.cells [.int .i64 r.rise, .int .i64 r.fall, .int .i64 r.every, .slice p ps.length pc, .int .i64 (bMove r.every now L t.k).1, .slice q2 ql2 qc2] false)
        generalize h2.new (.cells [.int .i64 r.rise, .int .i64 r.fall, .int .i64 r.every, .slice p ps.length pc, .int .i64 (bMove r.every now L t.k).1, .slice q2 ql2 qc2] false) = h3 at *
        have hn3 := m3.next
        have m13 := m2.trans m3
        rw [aggK_all (n := 6) g3 rfl]
        simp only [lc_cons, l0_nil, asInt_int, asSlice_slice]
        rw [wrK_of (n := 6) ((m13.get _ (by omega) (by simp)).trans gq) rfl (by simp [bcells]) rfl, spl_all _ _ (by simp [bcells])]
        rw [show (AObj.cells [.int .i64 r.rise, .int .i64 r.fall, .int .i64 r.every, .slice p ps.length pc, .int .i64 (bMove r.every now L t.k).1, .slice q2 ql2 qc2] false) = .cells (bcells r p ps.length pc (bMove r.every now L t.k).1 q2 ql2 qc2) false from rfl]
        have m4 : Mod [iq] h3 (h3.set iq (.cells (bcells r p ps.length pc (bMove r.every now L t.k).1 q2 ql2 qc2) false)) := (Mod.refl _ _).set (.inr (by simp)) _
        have g4 : (h3.set iq (.cells (bcells r p ps.length pc (bMove r.every now L t.k).1 q2 ql2 qc2) false)).get h.next = _ := (get_set_ne (by omega)).trans ((m13.get _ (by omega) (by simp)).trans g1)
        rw [cellK_of (o := 1) g4 rfl, asInt_int]
        have b4 := (s1.b.mod0 m13).mod m4 fun x hx hx' => by simp at hx'; exact s.nq (hx' ▸ hx)
        have hWB : ∀ x ∈ WB, x ∈ bblocks bb bp ps WB := fun x hx => by simp [bblocks, hx]
        refine MoveB_ret b4 ho t.k (by omega) (n := n) (by omega) _ fun q5 h5 ⟨m5, gr5, b5⟩ => ?_
        have hbl4 : ∀ x ∈ WB, x < h.next := fun x hx => hbl x (hWB x hx)
        have r5 : Row h5 1 q5.1 q5.2.1 q5.2.2 ((bTold now L t.k).map i64) := gr5.row
        have t5 : Row h5 1 tt tl tc ((bTold now L t.k).map i64) := Row.mod (Row.mod (Row.mod0 rt2 m3) m4 fun x hx hx' => by have := hf3 x hx; simp at hx'; omega) m5 fun x hx hx' => by have := hf3 x hx; have := hbl4 x hx'; omega
        have htl := bTold_len now L t.k
        rw [Same_eq r5 t5 (by omega) (by omega), Option.bind_some, decide_eq_true rfl, Bool.not_true, cond_false]
        have s5 := s1.put m13 (Row.mod0 (Row.mod0 pr m2) m3) (Row.mod0 tr2 m3) (fun x hx => (List.mem_append.1 hx).elim (hp' x) fun hx => (hf2 x hx).elim (hq' x) (fresh x)) (S := WB) hWB b5 m5 s.hst (by have := bMove_len r.every now L t.k; omega)
        exact next s5
      · rw [show ((t.kind : Int) == 1) = false by simpa using hk1, cond_false]
        exact next s1
end

section
variable {p : Option (Nat × Nat)} {l : Nat} {c : Cap} {tg : Option Tgt} {cs : List AV} {B : Nat}

theorem healthBoards_true {x y z : Int} (_ : (Lit.int .i64 x).wf = true) (_ : (Lit.int .i64 y).wf = true) (_ : (Lit.int .i64 z).wf = true) {many : Int} (_ : (Lit.int .i64 many).wf = true) (w : Arg 0 [.int .i64, .int .i64, .bool] B p l c cs) : ∃ n, RetK (fun kk => outriderlaw11_HealthBoards_7 n x y z many p l c (H0 [(tg, cs)]) kk) True' := by
  obtain ⟨os, rfl, row⟩ := open_bops (rows := [(tg, cs)]) rfl w
  refine ⟨6000, fun kk hk0 => ?_⟩
  have hk : ∀ h, kk true h = some () := fun h => hk0 _ _ rfl
  show outriderlaw11_HealthBoards_7 6000 x y z many p os.length c (H0 [(tg, cs)]) kk = some ()
  obtain ⟨r, hr1, hr2, hr3⟩ : ∃ r : Rul, r.rise = x ∧ r.fall = y ∧ r.every = z := ⟨⟨x, y, z⟩, rfl, rfl, rfl⟩
  rw [← hr1, ← hr2, ← hr3, outriderlaw11_HealthBoards_7_eq, newK_eq]
  generalize H0 [(tg, cs)] = h0 at *
  have m0 : Mod [] h0 (h0.new (.cells (rcells r) false)) := (Mod.refl _ _).new _
  have g0 := get_new_self h0 (.cells (rcells r) false)
  have n0 : (h0.new (.cells (rcells r) false)).next = h0.next + 1 := rfl
  rw [show (AObj.cells [.int .i64 r.rise, .int .i64 r.fall, .int .i64 r.every] false) = .cells (rcells r) false from rfl]
  generalize h0.new (.cells (rcells r) false) = h1 at *
  rw [aggK_all (n := 3) g0 rfl]
  simp only [rcells, lc_cons, l0_nil, asInt_int]
  obtain ⟨q, h2, e2, m2, d2⟩ := Lay_ret r many h1 (n := 6000) (by omega)
  rw [e2, Option.bind_some]
  have hn2 := m2.next
  have g2 := (m2.get _ (by omega) (by simp)).trans g0
  rw [aggK_all (n := 3) g2 rfl]
  simp only [rcells, lc_cons, l0_nil, asInt_int]
  obtain ⟨z, h3, e3, m3, d3⟩ := refLay r many h2 (n := 6000) (by omega)
  rw [e3, Option.bind_some]
  simp only [newK_eq]
  rw [wrK_of (n := 6) (get_new_self _ _) rfl (by simp) rfl, spl_all _ _ (by simp), set_new]
  have hn3 := m3.next
  by_cases ho : okR r ∧ 1 ≤ many ∧ many ≤ 16
  · rw [if_pos ho] at d2 d3
    obtain ⟨bb, bp, bc, ps, wb, WB, rfl, hpl, b, hfr⟩ := d2
    obtain ⟨dp, dpc, dq, dql, dqc, rfl, dpr, dtr, dfr⟩ := d3
    simp only
    rw [← hpl] at dpr dtr b ⊢
    rw [Bool.not_true, cond_false, show ((0 : Int) != 0) = false by decide, cond_false, eqVK_ptr Try.underlying33, Option.isNone_some, cond_false]
    rw [show (AObj.cells [.int .i64 r.rise, .int .i64 r.fall, .int .i64 r.every, .slice dp ps.length dpc, .int .i64 0, .slice dq dql dqc] false) = .cells (bcells r dp ps.length dpc 0 dq dql dqc) false from rfl]
    have m4 : Mod [] h3 (h3.new (.cells (bcells r dp ps.length dpc 0 dq dql dqc) false)) := (Mod.refl _ _).new _
    have g4 := get_new_self h3 (.cells (bcells r dp ps.length dpc 0 dq dql dqc) false)
    have n4 : (h3.new (.cells (bcells r dp ps.length dpc 0 dq dql dqc) false)).next = h3.next + 1 := rfl
    generalize h3.new (.cells (bcells r dp ps.length dpc 0 dq dql dqc) false) = h4 at *
    have hblt := b.lt
    by_cases hl : os.length ≤ 500
    · rw [show decide ((os.length : Int) > 500) = false by simp; omega, outriderlaw11_HealthBoards_7_J0_eq, cond_false]
      have hiq : h3.next ∉ bblocks bb bp ps WB := fun hx => by have := hblt _ hx; omega
      have st0 : BSt h4 h4 bb r bp bc ps wb WB h3.next (List.replicate ps.length (false, 0)) 0 (layT ps.length) := by
        refine ⟨(b.mod0 m3).mod0 m4, ⟨dp, dpc, dq, dql, dqc, g4, Row.mod0 dpr m4, Row.mod0 dtr m4, fun x hx hx' => ?_⟩, fun s hs => ?_, by rw [layT_len]; omega, hiq, by omega, Mod.refl _ _⟩
        · have h1' := dfr x hx
          have h2' : x < h3.next := (List.mem_append.1 hx).elim (fun hx => Row.lt dpr x hx) fun hx => Row.lt dtr x hx
          rcases List.mem_cons.1 hx' with rfl | hx'
          · omega
          · have := hblt _ hx'; omega
        · rw [List.eq_of_mem_replicate hs]; exact okP.start ho.1 false
      refine boards_L1 ho.1 (by omega) ((((row.mod0 m0).mod0 m2).mod0 m3).mod0 m4) (fun v hv hvp => ?_) hl (by omega) hk os [] 6000 h4 _ _ _ rfl (by omega) st0
      have := row.lt v hv
      rcases List.mem_cons.1 hvp with rfl | hvp
      · omega
      · have := hfr v hvp
        omega
    · rw [show decide ((os.length : Int) > 500) = true by simp; omega, outriderlaw11_HealthBoards_7_J0_eq, cond_true, show ((0 : Int) == 0) = true by decide, cond_true, eqVK_ptr Try.underlying33, Option.isNone_some, Bool.not_false, cond_true]
      exact alive_ret _ (by omega) _ fun q h' ⟨e, _⟩ => by rw [e]; exact hk _
  · rw [if_neg ho] at d2 d3
    subst d2
    rw [d3]
    simp only
    rw [Bool.not_false, cond_true]
    refine alive_ret _ (by omega) _ fun q h' ⟨e, _⟩ => ?_
    rw [e, cond_true, show ((1 : Int) == 1) = true by decide, cond_true, eqVK_ptr Try.underlying33]
    exact hk _
end

end Go.Ev.Try
