/- Chapter 10: FlowsKeys, FlowsEnds are true. -/
import Derived.Test.YtgaflglknjjalaaFw17
set_option linter.all false
namespace Go.Ev.Try
set_option maxRecDepth 10000
open Go.Proofs

theorem gl_len {h : H} {b : Nat} {key : List Int} {l : List En} (t : Tab h b key l) (o : Opx) : (doS l o).gl.length ≤ 64 := by
  unfold doS
  repeat' split
  all_goals first | (simp; done) | exact Nat.le_trans (goneR_len _ _ t.srt) t.len

theorem Keys_loop {a : H} {b1 b2 : Nat} {k1 k2 : List Int} (hne : b1 ≠ b2) {sp : Option (Nat × Nat)} {sl : Nat} {sc : Cap} {os : List Opx} (hs : ORow a sp sl sc os) (hsl : os.length < 100000) (hsb : ∀ x ∈ own sp, x ≠ b1 ∧ x ≠ b2) (hok : ∀ o ∈ os, okO o) {n : Nat} (hn : 10000000 ≤ n) : ∀ (d i m : Nat) (h : H), i + d = sl → d < m →
    Tab h b1 k1 (run [] (os.take i)) → Tab h b2 k2 (run [] (os.take i)) → Mod [b1, b2] a h →
    Ret (outriderlaw10_FlowsKeys_8_L1 n m (some (b1, 0)) (some (b2, 0)) sp sl sc sl i h) True'
  | 0, i, m + 1, h, hi, _, t, u, hm => by
    have hlen := Row.len hs encO_len (by omega)
    rw [outriderlaw10_FlowsKeys_8_L1_eq, cast_not_lt (by omega), cond_false]
    refine (alive_ret h hn).bind fun z h2 ⟨z1, m2⟩ => ?_
    subst z1
    dsimp only
    rw [cond_true]
    have hl := t.len
    refine ((t.mod0 m2).All (by omega)).bind fun y h3 ⟨y1, y2⟩ => ?_
    dsimp only
    have hy := Row.len y1.row encE_len (by omega)
    refine (plain_ret (l := run [] (os.take i)) y1.row (by omega) hn).bind fun x h4 ⟨x1, x2⟩ => ?_
    dsimp only
    refine ((((u.mod0 m2).mod0 y2).mod0 x2).All (by omega)).bind fun y' h5 ⟨y3, y4⟩ => ?_
    dsimp only
    have hy' := Row.len y3.row encE_len (by omega)
    refine (plain_ret (l := run [] (os.take i)) y3.row (by omega) hn).bind fun x' h6 ⟨x3, x4⟩ => ?_
    dsimp only
    have hx := Row.len x1.row encE_len (by omega)
    rw [Same_eq (l := run [] (os.take i)) (m := run [] (os.take i)) (Row.mod0 x1.row (y4.trans x4)) x3.row (by omega) hn, Option.bind_some]
    refine .pure ?_
    show decide _ = true
    simp
  | d + 1, i, m + 1, h, hi, hf, t, u, hm => by
    have hlen := Row.len hs encO_len (by omega)
    have hx : os[i]? = some (os[i]'(by omega)) := List.getElem?_eq_getElem _
    generalize os[i]'(by omega) = o at hx
    have ht : run [] (os.take (i + 1)) = (doS (run [] (os.take i)) o).l := by rw [List.take_add_one, hx, Option.toList_some, run_snoc]
    have ho := hok o (List.mem_of_getElem? hx)
    rw [outriderlaw10_FlowsKeys_8_L1_eq, cast_lt (by omega), cond_true, Row.ix (Row.mod hs hm fun x hx => by have := hsb x hx; simp [this.1, this.2]) encO_len (by omega) hx, rdO]
    refine boxK_ret rfl rfl rfl fun i50 h3 g3 e3 n3 m3 => ?_
    have g3' : At h3 i50 (.cells (encO o) false) := g3
    have hb1 := t.lt
    have hb2 := u.lt
    rw [g3'.all (encO_len o), rdO]
    refine (does_ret (t.mod0 m3) o ho hn).bind fun z h4 ⟨gp, gn, gc, q0, q1, q2, q3, q4⟩ => ?_
    subst q0
    dsimp only [tupA]
    have g4 := g3'.mod q4 (by simp; omega)
    rw [aggK_all (minus_of g4.get (not_addT (not_noT _) (q4.get _ g3'.lt (by simp; omega)))) (encO_len o), rdO]
    have u4 := (u.mod0 m3).mod q4 (by simpa using hne.symm)
    refine (does_ret u4 o ho hn).bind fun z h5 ⟨dp, dn, dc, d0, d1, d2, d3, d4⟩ => ?_
    subst d0
    dsimp only [tupA]
    refine newK_ret fun i6 h6 g6 e6 n6 m6 => ?_
    refine newK_ret fun i7 h7 g7 e7 n7 m7 => ?_
    refine (g6.mod0 m7).wr (n := 10) rfl (by simp) rfl fun h8 g8 n8 m8 => ?_
    refine (g7.mod m8 (by simp; omega)).wr (n := 10) rfl (by simp) rfl fun h9 g9 n9 m9 => ?_
    have g8' : At h9 i6 (.cells (encA (doS (run [] (os.take i)) o).ec (doS (run [] (os.take i)) o).sn gp gn gc) false) := g8.mod m9 (by simp; omega)
    have g9' : At h9 i7 (.cells (encA (doS (run [] (os.take i)) o).ec (doS (run [] (os.take i)) o).sn dp dn dc) false) := g9
    -- what is left as it was behind both
    have l34 := (m3.of_nil (S := [b1])).trans q4 |>.next
    have l45 := d4.next
    have m59 : Mod [] h5 h9 := Mod.own1 (Mod.own1 (m6.trans m7) m8 (by omega)) m9 (by have := m6.next; omega)
    have ltg : ∀ x ∈ own gp, x ≠ b2 := fun x hx => by have := q3 x hx; have := m3.next; omega
    have rg : ERow h9 gp gn gc (doS (run [] (os.take i)) o).gl := Row.mod0 (Row.mod q2 d4 fun x hx => by simpa using ltg x hx) m59
    have rd : ERow h9 dp dn dc (doS (run [] (os.take i)) o).gl := Row.mod0 d2 m59
    have t9 : Tab h9 b1 k1 (doS (run [] (os.take i)) o).l := (q1.mod d4 (by simpa using hne)).mod0 m59
    have u9 : Tab h9 b2 k2 (doS (run [] (os.take i)) o).l := d1.mod0 m59
    have hgl := gl_len t o
    have hgn : (doS (run [] (os.take i)) o).gl.length = gn := Row.len rg encE_len (by omega)
    rw [g8'.cell (o := 0) rfl, asInt_int, g9'.cell (o := 0) rfl, asInt_int, show ((doS (run [] (os.take i)) o).ec != (doS (run [] (os.take i)) o).ec) = false by simp, cond_false, g8'.agg (vs := encE (doS (run [] (os.take i)) o).sn) rfl (by simp [encA]), rdE, g9'.agg (vs := encE (doS (run [] (os.take i)) o).sn) rfl (by simp [encA]), rdE, eqE_dec, decide_eq_true rfl, Bool.not_true, cond_false, g8'.cell (o := 9) rfl, asSlice_slice, g9'.cell (o := 9) rfl, asSlice_slice, Same_eq rg rd (by omega) hn, Option.bind_some, decide_eq_true rfl, Bool.not_true, outriderlaw10_FlowsKeys_8_J2_eq, cond_false, wrap_succ (by omega)]
    have sub : ∀ {x y : H} {c : Nat}, (c = b1 ∨ c = b2) → Mod [c] x y → Mod [b1, b2] x y := fun {x y c} hc k => k.sub fun j hj _ => by
      have : j = c := by simpa using hj
      rcases hc with rfl | rfl <;> simp [this]
    have hm9 : Mod [b1, b2] a h9 := (((hm.trans m3.of_nil).trans (sub (.inl rfl) q4)).trans (sub (.inr rfl) d4)).trans m59.of_nil
    exact Keys_loop hne hs hsl hsb hok hn d (i + 1) m h9 (by omega) (by omega) (by rw [ht]; exact t9) (by rw [ht]; exact u9) hm9

theorem FlowsKeys_ret {h : H} {k1 k2 : List Int} (hk : Bytes k1) (hk2 : k1.length = 16) (hk' : Bytes k2) (hk2' : k2.length = 16) {p : Option (Nat × Nat)} {l : Nat} {c : Cap} {os : List Opx} (r : ORow h p l c os) (hl : os.length = l) (ho : ∀ o ∈ os, okO o) {n : Nat} (hn : 10000000 ≤ n) :
    Ret (outriderlaw10_FlowsKeys_8 n (u8s k1) (u8s k2) p l c h) True' := by
  rw [outriderlaw10_FlowsKeys_8_eq]
  refine newK_ret fun i1 h1 g1 e1 n1 m1 => ?_
  refine newK_ret fun i3 h3 g3 e3 n3 m3 => ?_
  rw [(g1.mod0 m3).all (by simp [hk2])]
  refine (New_ret h3 hk hk2 n).bind fun z h4 ⟨b1, z1, z2, t, m4⟩ => ?_
  subst z1
  dsimp only
  rw [minus_quiet m4, minus_none, (g3.mod0 m4).all (by simp [hk2'])]
  refine (New_ret h4 hk' hk2' n).bind fun z h5 ⟨b2, z3, z4, u, m5⟩ => ?_
  subst z3
  dsimp only
  have hb := t.lt
  have mm := ((m1.trans m3).trans m4).trans m5
  rw [eqVK_ptr Try.underlying33, Option.isNone_some, cond_false, eqVK_ptr Try.underlying33, Option.isNone_some, cond_false, outriderlaw10_FlowsKeys_8_J0_eq]
  by_cases hl6 : (l : Int) > 400
  · rw [decide_eq_true hl6, cond_true, eqVK_ptr Try.underlying33, Option.isNone_some, Bool.not_false, cond_true, eqVK_ptr Try.underlying33, Option.isNone_some, Bool.not_false, cond_true]
    exact alive_end hn
  · rw [decide_eq_false hl6, cond_false]
    exact Keys_loop (by omega) (Row.mod0 r mm) (by omega) (fun x hx => by have := Row.lt r x hx; have := (m1.trans m3).next; have := m4.next; exact ⟨by omega, by omega⟩) ho hn l 0 n h5 (by omega) (by omega) (t.mod0 m5) u (Mod.refl _ _)

theorem flowsKeys_true {rows : Rows0} {c0 c1 cs : List AV} {p : Option (Nat × Nat)} {l : Nat} {c : Cap} {tg : Option Tgt} (w0 : Fits ks16 c0 ∧ Strs 1048576 c0) (w1 : Fits ks16 c1 ∧ Strs 1048576 c1) (w2 : Arg 0 ksO 104 p l c cs ∧ Strs 1048576 cs) :
    ∃ n h', outriderlaw10_FlowsKeys_8 n c0 c1 p l c (H0 ((tg, cs) :: rows)) = some (true, h') := by
  obtain ⟨key, rfl, hk2, hk⟩ := key_of w0.1
  obtain ⟨key', rfl, hk2', hk'⟩ := key_of w1.1
  obtain ⟨os, hl, r, ho⟩ := open_script (rows := (tg, cs) :: rows) rfl w2
  obtain ⟨h', e⟩ := (FlowsKeys_ret hk hk2 hk' hk2' r hl ho (n := 10000000) (by omega)).true
  exact ⟨_, h', e⟩

/-! ### Ends -/

theorem Ends3_loop {a : H} {b : Nat} {key : List Int} {l : List En} {now : Int} (t : Tab a b key (lasting now l)) {p10 p11 : Option (Nat × Nat)} {l10 l11 : Nat} {c10 c11 : Cap} {g : List En} (r : ERow a p11 l11 c11 g) (hg : ∀ e ∈ g, e.en ≤ now) (hl : l11 < 1000) (h10 : l10 = l11 + (lasting now l).length) {n : Nat} (hn : 10000000 ≤ n) : ∀ (d i m : Nat) (h : H), i + d = l11 → d < m → Mod [] a h →
    Ret (outriderlaw10_FlowsEnds_9_L3 n m now (some (b, 0)) p10 l10 c10 p11 l11 c11 p11 l11 c11 l11 i h) True'
  | 0, i, m + 1, h, hi, _, hm => by
    have hlen := Row.len r encE_len (by omega)
    have hll := t.len
    rw [outriderlaw10_FlowsEnds_9_L3_eq, cast_not_lt (by omega), cond_false]
    refine (alive_ret h hn).bind fun z h2 ⟨z1, m2⟩ => ?_
    subst z1
    dsimp only
    rw [cond_true, ((t.mod0 hm).mod0 m2).Len_eq, Option.bind_some]
    refine .pure ?_
    show ((l10 : Int) == IntKind.i64.wrap ((l11 : Int) + ((lasting now l).length : Int))) = true
    rw [wrapi (by omega) (by omega)]
    simp; omega
  | d + 1, i, m + 1, h, hi, hf, hm => by
    have hlen := Row.len r encE_len (by omega)
    have hx : g[i]? = some (g[i]'(by omega)) := List.getElem?_eq_getElem _
    generalize g[i]'(by omega) = e at hx
    have he := hg e (List.mem_of_getElem? hx)
    rw [outriderlaw10_FlowsEnds_9_L3_eq, cast_lt (by omega), cond_true, Row.ix (Row.mod0 r hm) encE_len (by omega) hx, rdE]
    refine boxK_ret rfl rfl rfl fun i4 h3 g3 e3 n3 m3 => ?_
    rw [g3.cell (o := 7) rfl, asInt_int, decide_eq_false (by omega), cond_false, wrap_succ (by omega)]
    exact Ends3_loop t r hg hl h10 hn d (i + 1) m h3 (by omega) (by omega) (hm.trans m3)

theorem Ends2_loop {a : H} {b : Nat} {key : List Int} {l : List En} {now : Int} (t : Tab a b key (lasting now l)) {p10 p11 p12 : Option (Nat × Nat)} {l10 l11 l12 : Nat} {c10 c11 c12 : Cap} {g : List En} (r : ERow a p11 l11 c11 g) (hg : ∀ e ∈ g, e.en ≤ now) (hl : l11 < 1000) (h10 : l10 = l11 + (lasting now l).length) (r12 : ERow a p12 l12 c12 (lasting now l)) {n : Nat} (hn : 10000000 ≤ n) : ∀ (d i m : Nat) (h : H), i + d = l12 → d < m → Mod [] a h →
    Ret (outriderlaw10_FlowsEnds_9_L2 n m now (some (b, 0)) p10 l10 c10 p11 l11 c11 p12 l12 c12 l12 i h) True'
  | 0, i, m + 1, h, hi, _, hm => by
    rw [outriderlaw10_FlowsEnds_9_L2_eq, cast_not_lt (by omega), cond_false]
    exact Ends3_loop (t.mod0 hm) (Row.mod0 r hm) hg hl h10 hn l11 0 n h (by omega) (by omega) (Mod.refl _ _)
  | d + 1, i, m + 1, h, hi, hf, hm => by
    have hlen := Row.len r12 encE_len (by omega)
    have hll := t.len
    have hx : (lasting now l)[i]? = some ((lasting now l)[i]'(by omega)) := List.getElem?_eq_getElem _
    generalize (lasting now l)[i]'(by omega) = e at hx
    have he : ¬ e.en ≤ now := by
      have := List.mem_of_getElem? hx
      unfold lasting at this
      simpa using (List.mem_filter.1 this).2
    rw [outriderlaw10_FlowsEnds_9_L2_eq, cast_lt (by omega), cond_true, Row.ix (Row.mod0 r12 hm) encE_len (by omega) hx, rdE]
    refine boxK_ret rfl rfl rfl fun i4 h3 g3 e3 n3 m3 => ?_
    rw [g3.cell (o := 7) rfl, asInt_int, decide_eq_false he, cond_false, wrap_succ (by omega)]
    exact Ends2_loop t r hg hl h10 r12 hn d (i + 1) m h3 (by omega) (by omega) (hm.trans m3)

theorem ends_len (now : Int) (l : List En) : l.length = (ended now l).length + (lasting now l).length := by
  induction l with
  | nil => rfl
  | cons e l ih =>
    unfold ended lasting at *
    rw [List.filter_cons, List.filter_cons]
    by_cases h : e.en ≤ now
    · rw [if_pos (decide_eq_true h), if_neg (by simp [h])]
      simp only [List.length_cons]; omega
    · rw [if_neg (by simp [h]), if_pos (by simp [h])]
      simp only [List.length_cons]; omega

theorem Ends1_loop {a : H} {b : Nat} {key : List Int} {now : Int} {sp : Option (Nat × Nat)} {sl : Nat} {sc : Cap} {os : List Opx} (hs : ORow a sp sl sc os) (hsl : os.length < 100000) (hsb : ∀ x ∈ own sp, x ≠ b) (hok : ∀ o ∈ os, okO o) {n : Nat} (hn : 10000000 ≤ n) : ∀ (d i m : Nat) (h : H), i + d = sl → d < m →
    Tab h b key (run [] (os.take i)) → Mod [b] a h →
    Ret (outriderlaw10_FlowsEnds_9_L1 n m now (some (b, 0)) sp sl sc sl i h) True'
  | 0, i, m + 1, h, hi, _, t, hm => by
    have hlen := Row.len hs encO_len (by omega)
    rw [outriderlaw10_FlowsEnds_9_L1_eq, cast_not_lt (by omega), cond_false]
    have hl := t.len
    refine (t.All (by omega)).bind fun y h3 ⟨y1, y2⟩ => ?_
    dsimp only
    have hy := Row.len y1.row encE_len (by omega)
    refine ((t.mod0 y2).Expire now hn).bind fun z h4 ⟨ys, q1, q2, q3, q4, q5⟩ => ?_
    dsimp only
    refine (q4.All (by omega)).bind fun x h5 ⟨x1, x2⟩ => ?_
    dsimp only
    have hz := Row.len q2 encE_len (by omega)
    have hx := Row.len x1.row encE_len (by omega)
    have hel := ends_len now (run [] (os.take i))
    have hyl := q1.perm.length_eq
    exact Ends2_loop (q4.mod0 x2) (Row.mod0 q2 x2) (fun e he => by
      have := q1.perm.mem_iff.1 he
      unfold ended at this
      simpa using (List.mem_filter.1 this).2) (by omega) (by omega) x1.row hn x.2.1 0 n h5 (by omega) (by have := q4.len; omega) (Mod.refl _ _)
  | d + 1, i, m + 1, h, hi, hf, t, hm => by
    have hlen := Row.len hs encO_len (by omega)
    have hx : os[i]? = some (os[i]'(by omega)) := List.getElem?_eq_getElem _
    generalize os[i]'(by omega) = o at hx
    have ht : run [] (os.take (i + 1)) = (doS (run [] (os.take i)) o).l := by rw [List.take_add_one, hx, Option.toList_some, run_snoc]
    rw [outriderlaw10_FlowsEnds_9_L1_eq, cast_lt (by omega), cond_true, Row.ix (Row.mod hs hm fun x hx => by simpa using hsb x hx) encO_len (by omega) hx, rdO]
    refine boxK_ret rfl rfl rfl fun i50 h3 g3 e3 n3 m3 => ?_
    have g3' : At h3 i50 (.cells (encO o) false) := g3
    rw [g3'.all (encO_len o), rdO]
    refine (does_ret (t.mod0 m3) o (hok o (List.mem_of_getElem? hx)) hn).bind fun z h4 ⟨gp, gn, gc, q0, q1, q2, q3, q4⟩ => ?_
    dsimp only
    rw [wrap_succ (by omega)]
    exact Ends1_loop hs hsl hsb hok hn d (i + 1) m h4 (by omega) (by omega) (by rw [ht]; exact q1) ((hm.trans m3.of_nil).trans q4)

theorem FlowsEnds_ret {h : H} {key : List Int} (hk : Bytes key) (hk2 : key.length = 16) {p : Option (Nat × Nat)} {l : Nat} {c : Cap} {os : List Opx} (r : ORow h p l c os) (hl : os.length = l) (ho : ∀ o ∈ os, okO o) (now : Int) {n : Nat} (hn : 10000000 ≤ n) :
    Ret (outriderlaw10_FlowsEnds_9 n (u8s key) p l c now h) True' := by
  rw [outriderlaw10_FlowsEnds_9_eq]
  refine begin_ret hk hk2 fun b h2 hb t m => ?_
  dsimp only
  rw [eqVK_ptr Try.underlying33, Option.isNone_some, cond_false, outriderlaw10_FlowsEnds_9_J0_eq]
  by_cases hl6 : (l : Int) > 400
  · rw [decide_eq_true hl6, cond_true, eqVK_ptr Try.underlying33, Option.isNone_some, Bool.not_false, cond_true]
    exact alive_end hn
  · rw [decide_eq_false hl6, cond_false]
    exact Ends1_loop (Row.mod0 r m) (by omega) (fun x hx => by have := Row.lt r x hx; omega) ho hn l 0 n h2 (by omega) (by omega) t (Mod.refl _ _)

theorem flowsEnds_true {rows : Rows0} {c0 cs : List AV} {p : Option (Nat × Nat)} {l : Nat} {c : Cap} {tg : Option Tgt} {now : Int} (w0 : Fits ks16 c0 ∧ Strs 1048576 c0) (w1 : Arg 0 ksO 104 p l c cs ∧ Strs 1048576 cs) (_ : (Lit.int .i64 now).wf = true) :
    ∃ n h', outriderlaw10_FlowsEnds_9 n c0 p l c now (H0 ((tg, cs) :: rows)) = some (true, h') := by
  obtain ⟨key, rfl, hk2, hk⟩ := key_of w0.1
  obtain ⟨os, hl, r, ho⟩ := open_script (rows := (tg, cs) :: rows) rfl w1
  obtain ⟨h', e⟩ := (FlowsEnds_ret hk hk2 r hl ho now (n := 10000000) (by omega)).true
  exact ⟨_, h', e⟩

end Go.Ev.Try
