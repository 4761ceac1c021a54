/- Chapter 10: FlowsFull, FlowsStay are true. -/
import Derived.Test.YtgaflglknjjalaaFw18
set_option linter.all false
namespace Go.Ev.Try
set_option maxRecDepth 10000
open Go.Proofs

/-! ### Full -/

def fl (i : Int) : Fl := ⟨17, ⟨#[102]⟩, ⟨#[116]⟩, i, 0⟩
theorem fl_ok (i : Int) : okF (fl i) := ⟨show (1 : Nat) ≤ 1048576 by decide, show (1 : Nat) ≤ 1048576 by decide⟩
theorem fl_inj {i j : Int} (h : fl i = fl j) : i = j := by unfold fl at h; simpa using h
theorem flow_ret (h : H) (i : Int) (n : Nat) : Ret (outriderlaw10_FlowsFull_1_18 n i h) fun z h' => z = (17, (⟨#[102]⟩ : ByteArray), (⟨#[116]⟩ : ByteArray), i, 0) ∧ Mod [] h h' := by
  rw [outriderlaw10_FlowsFull_1_18_eq]
  refine boxK_ret rfl rfl rfl fun i1 h1 g1 e1 n1 m1 => ?_
  rw [At.all (cs := encF (fl i)) g1 (encF_len _), rdF]
  exact .pure ⟨rfl, m1⟩

/-- so many flows were opened -/
structure Opened (l : List En) (k : Nat) : Prop where
  len : l.length = min k 64
  mem : ∀ e ∈ l, ∃ j : Nat, j < min k 64 ∧ e.f = fl j
  has : ∀ j : Nat, j < min k 64 → ∃ e ∈ l, e.f = fl j

theorem openS_zero (l : List En) (i ba : Int) (hba : ba = 0 ∨ ba = 1) : openS l (fl i) ba 0 0 = if getE l (fl i) = none ∧ 64 ≤ l.length then (l, 100) else (withE l ⟨fl i, ba, 4, 120⟩, 0) := by
  unfold openS
  have h6 : ¬ (fl i).pr = 6 := show ¬ (17 : Int) = 6 by decide
  rw [if_neg (by unfold Wrong; omega)]
  simp only [if_neg h6]
  rfl
theorem Opened.none {l : List En} {k : Nat} (o : Opened l k) {i : Int} (hi : (k : Int) ≤ i) : getE l (fl i) = none := by
  rw [getE_none]
  intro e he e2
  obtain ⟨j, hj, e3⟩ := o.mem e he
  have := fl_inj (e2.symm.trans e3)
  omega
theorem Opened.step {l : List En} {k : Nat} (o : Opened l k) (hs : Srt l) : Opened (openS l (fl k) 0 0 0).1 (k + 1) ∧ (openS l (fl k) 0 0 0).2 = if k < 64 then 0 else 100 := by
  rw [openS_zero l k 0 (.inl rfl)]
  have hn := o.none (i := k) (by omega)
  have hl := o.len
  by_cases h : k < 64
  · rw [if_neg (by omega), if_pos h]
    refine ⟨⟨?_, fun e he => ?_, fun j hj => ?_⟩, rfl⟩
    · have := withE_len hs ⟨fl k, 0, 4, 120⟩
      rw [hn] at this
      simp at this
      show (withE l _).length = _
      omega
    · rcases withE_mem.1 he with rfl | ⟨h1, _⟩
      · exact ⟨k, by omega, rfl⟩
      · obtain ⟨j, hj, e1⟩ := o.mem e h1
        exact ⟨j, by omega, e1⟩
    · by_cases hjk : j = k
      · subst hjk; exact ⟨_, withE_mem.2 (.inl rfl), rfl⟩
      · obtain ⟨e, he, e1⟩ := o.has j (by omega)
        refine ⟨e, withE_mem.2 (.inr ⟨he, fun e2 => ?_⟩), e1⟩
        have := fl_inj (e1.symm.trans e2); omega
  · rw [if_pos ⟨hn, by omega⟩, if_neg h]
    refine ⟨⟨by show l.length = _; omega, fun e he => ?_, fun j hj => o.has j (by omega)⟩, rfl⟩
    obtain ⟨j, hj, e1⟩ := o.mem e he
    exact ⟨j, by omega, e1⟩

theorem Full_loop {a : H} {b : Nat} {key : List Int} {many gone : Int} (hm0 : 0 ≤ many) (hm1 : many ≤ 200) (hg0 : 0 ≤ gone) (hg1 : gone ≤ 63) {n : Nat} (hn : 10000000 ≤ n) : ∀ (d k m : Nat) (l : List En) (h : H), k + d = many.toNat → d < m → Tab h b key l → Opened l k →
    Ret (outriderlaw10_FlowsFull_4_L1 n m many gone (some (b, 0)) many k h) True'
  | 0, k, m + 1, l, h, hk, _, t, o => by
    have hkm : many = (k : Int) := by omega
    rw [outriderlaw10_FlowsFull_4_L1_eq, show decide ((k : Int) < many) = false by simp; omega, cond_false]
    have hl := o.len
    -- the end
    have fin : ∀ (l' : List En) (h' : H), Tab h' b key l' → l'.length = min k 64 → Ret (outriderlaw10_FlowsFull_4_J3 n many (some (b, 0)) h') True' := by
      intro l' h' t' hl'
      rw [outriderlaw10_FlowsFull_4_J3_eq]
      refine (alive_ret h' hn).bind fun z h2 ⟨z1, m2⟩ => ?_
      subst z1
      dsimp only
      rw [cond_true, (t'.mod0 m2).Len_eq, Option.bind_some]
      refine .pure ?_
      show ((l'.length : Int) == if 64 < many then 64 else many) = true
      split <;> simp <;> omega
    by_cases hg : many > gone
    · rw [decide_eq_true hg, cond_true]
      refine (flow_ret h gone n).bind fun z h2 ⟨z1, m2⟩ => ?_
      subst z1
      dsimp only
      obtain ⟨e, he, hef⟩ := o.has gone.toNat (by omega)
      rw [show ((gone.toNat : Nat) : Int) = gone by omega] at hef
      have hge : getE l (fl gone) = some e := by rw [← hef]; exact t.srt.getE he
      refine ((t.mod0 m2).Drop (fl gone) (fl_ok _) hn).bind fun z h3 ⟨q1, q2, q3⟩ => ?_
      rw [hge] at q1
      subst q1
      dsimp only
      rw [Option.isSome_some, Bool.not_true, cond_false]
      have hwl := without_len t.srt (fl gone)
      rw [hge] at hwl
      simp at hwl
      refine (flow_ret h3 1000 n).bind fun z h4 ⟨z1, m4⟩ => ?_
      subst z1
      dsimp only
      have hn1 : getE (without l (fl gone)) (fl 1000) = none := by
        rw [getE_none]
        intro x hx e2
        obtain ⟨j, hj, e3⟩ := o.mem x (mem_without.1 hx).1
        have := fl_inj (e2.symm.trans e3)
        omega
      refine ((q2.mod0 m4).Open (fl 1000) (fl_ok _) 1 0 0 hn).bind fun z h5 ⟨q4, q5, q6⟩ => ?_
      rw [openS_zero _ _ _ (.inr rfl), if_neg (by omega)] at q4 q5
      dsimp only at q4 q5
      subst q4
      dsimp only
      rw [show ((0 : Int) != 0) = false from rfl, outriderlaw10_FlowsFull_4_J2_eq, cond_false]
      refine fin _ h5 q5 ?_
      have hww := withE_len (t.srt.without (fl gone)) ⟨fl 1000, 1, 4, 120⟩
      rw [hn1] at hww
      simp at hww
      have hpos : 0 < l.length := List.length_pos_of_mem he
      omega
    · rw [decide_eq_false hg, cond_false]
      exact fin l h t hl
  | d + 1, k, m + 1, l, h, hk, hf, t, o => by
    rw [outriderlaw10_FlowsFull_4_L1_eq, show decide ((k : Int) < many) = true by simp; omega, cond_true]
    refine (flow_ret h k n).bind fun z h2 ⟨z1, m2⟩ => ?_
    subst z1
    dsimp only
    obtain ⟨o1, o2⟩ := o.step t.srt
    refine ((t.mod0 m2).Open (fl k) (fl_ok _) 0 0 0 hn).bind fun z h3 ⟨q1, q2, q3⟩ => ?_
    rw [o2] at q1
    subst q1
    dsimp only
    have e : (((if k < 64 then (0 : Int) else 100) == 0) == decide ((k : Int) < 64)) = true := by
      by_cases h : k < 64
      · rw [if_pos h, decide_eq_true (by omega)]; rfl
      · rw [if_neg h, decide_eq_false (by omega)]; rfl
    rw [e, Bool.not_true, cond_false, wrap_succ (by omega)]
    exact Full_loop (a := a) hm0 hm1 hg0 hg1 hn d (k + 1) m _ h3 (by omega) (by omega) q2 o1

theorem FlowsFull_ret {h : H} {key : List Int} (hk : Bytes key) (hk2 : key.length = 16) (many gone : Int) {n : Nat} (hn : 10000000 ≤ n) : Ret (outriderlaw10_FlowsFull_4 n (u8s key) many gone h) True' := by
  rw [outriderlaw10_FlowsFull_4_eq]
  refine begin_ret hk hk2 fun b h2 hb t m => ?_
  dsimp only
  rw [eqVK_ptr Try.underlying33, Option.isNone_some, cond_false]
  have tr : Ret (outriderlaw10_FlowsFull_4_J0 n many gone (some (b, 0)) true h2) True' := by
    rw [outriderlaw10_FlowsFull_4_J0_eq, cond_true, eqVK_ptr Try.underlying33, Option.isNone_some, Bool.not_false, cond_true]
    exact alive_end hn
  by_cases h1 : many < 0
  · rw [decide_eq_true h1, cond_true]; exact tr
  · rw [decide_eq_false h1, cond_false]
    by_cases h3 : many > 200
    · rw [decide_eq_true h3, cond_true]; exact tr
    · rw [decide_eq_false h3, cond_false]
      by_cases h4 : gone < 0
      · rw [decide_eq_true h4, cond_true]; exact tr
      · rw [decide_eq_false h4, cond_false]
        by_cases h5 : gone > 63
        · rw [decide_eq_true h5]; exact tr
        · rw [decide_eq_false h5, outriderlaw10_FlowsFull_4_J0_eq, cond_false]
          exact Full_loop (a := h) (by omega) (by omega) (by omega) (by omega) hn many.toNat 0 n [] h2 (by omega) (by omega) t ⟨by simp, by simp, fun j hj => by omega⟩

theorem flowsFull_true {c0 : List AV} {many gone : Int} (w0 : Fits ks16 c0) (_ : (Lit.int .i64 many).wf = true) (_ : (Lit.int .i64 gone).wf = true) :
    ∃ n h', outriderlaw10_FlowsFull_4 n c0 many gone (H0 []) = some (true, h') := by
  obtain ⟨key, rfl, hk2, hk⟩ := key_of w0
  obtain ⟨h', e⟩ := (FlowsFull_ret (h := H0 []) hk hk2 many gone (n := 10000000) (by omega)).true
  exact ⟨_, h', e⟩

/-! ### Stay -/

theorem with_has {l : List En} {x e : En} (he : e ∈ l) (h : getE (withE l x) e.f = none) : False := by
  have := getE_none.1 h
  by_cases hf : e.f = x.f
  · exact this x (withE_mem.2 (.inl rfl)) hf.symm
  · exact this e (withE_mem.2 (.inr ⟨he, hf⟩)) rfl
theorem without_has {l : List En} {f : Fl} {e : En} (he : e ∈ l) (h : getE (without l f) e.f = none) : e.f = f := by
  apply Classical.byContradiction
  intro hne
  exact getE_none.1 h e (mem_without.2 ⟨he, hne⟩) rfl
theorem stay {l : List En} {o : Opx} {e : En} (he : e ∈ l) (h : getE (doS l o).l e.f = none) : (o.kd = 4 ∧ e.en ≤ o.now) ∨ ((o.kd = 3 ∨ o.kd = 2) ∧ e.f = o.e.f) := by
  have hsame : getE l e.f = none → False := fun h => getE_none.1 h e he rfl
  unfold doS at h
  split at h
  · exfalso
    unfold openS at h
    split at h
    · exact hsame h
    · split at h
      · exact hsame h
      · exact with_has he h
  · split at h
    · exfalso
      unfold seeS at h
      split at h
      · exact hsame h
      · split at h
        · exact hsame h
        · exact with_has he h
    · split at h
      · rename_i k2
        unfold putS at h
        split at h
        · exact absurd h hsame
        · split at h
          · exact absurd h hsame
          · split at h
            · exact .inr ⟨.inr k2, without_has he h⟩
            · exact absurd (with_has he h) id
      · split at h
        · rename_i k3
          exact .inr ⟨.inl k3, without_has he h⟩
        · split at h
          · rename_i k4
            refine .inl ⟨k4, ?_⟩
            apply Classical.byContradiction
            intro hne
            exact getE_none.1 h e (by unfold lasting; rw [List.mem_filter]; exact ⟨he, by simpa using hne⟩) rfl
          · exact absurd h hsame

theorem Stay2_loop {a : H} {b : Nat} {key : List Int} {l : List En} {o : Opx} (t : Tab a b key (doS l o).l) (hlo : ∀ e ∈ l, okF e.f) (hll : l.length ≤ 64) {i44 : Nat} (g44 : At a i44 (.cells (encO o) false)) {sp : Option (Nat × Nat)} {sl : Nat} {sc : Cap} {si m1 : Nat} {p : Option (Nat × Nat)} {len : Nat} {c : Cap} (r : ERow a p len c l) {n : Nat} (hn : 10000000 ≤ n)
    (K : ∀ h, Mod [] a h → Ret (outriderlaw10_FlowsStay_7_L1 n m1 (some (b, 0)) sp sl sc sl ((si + 1 : Nat) : Int) h) True') (hsi : si < 1000000) : ∀ (d i m : Nat) (h : H), i + d = len → d < m → Mod [] a h →
    Ret (outriderlaw10_FlowsStay_7_L2 n m1 m (some (b, 0)) (some (i44, 0)) sp sl sc sl si p len c len i h) True'
  | 0, i, m + 1, h, hi, _, hm => by
    rw [outriderlaw10_FlowsStay_7_L2_eq, cast_not_lt (by omega), cond_false, wrap_succ (by omega)]
    exact K h hm
  | d + 1, i, m + 1, h, hi, hf, hm => by
    have hlen := Row.len r encE_len (by omega)
    have hx : l[i]? = some (l[i]'(by omega)) := List.getElem?_eq_getElem _
    generalize l[i]'(by omega) = e at hx
    have hel := List.mem_of_getElem? hx
    rw [outriderlaw10_FlowsStay_7_L2_eq, cast_lt (by omega), cond_true, Row.ix (Row.mod0 r hm) encE_len (by omega) hx, rdE]
    refine boxK_ret rfl rfl rfl fun i2 h3 g3 e3 n3 m3 => ?_
    have g3' : At h3 i2 (.cells (encE e) false) := g3
    rw [rd_at5 g3', rdF]
    refine (((t.mod0 hm).mod0 m3).Get e.f (hlo e hel) hn).bind fun z h4 ⟨z1, m4⟩ => ?_
    subst z1
    dsimp only [tupE]
    refine boxK_ret rfl rfl rfl fun i5 h5 g5 e5 n5 m5 => ?_
    have k5 := ((hm.trans m3).trans m4).trans m5
    have g25 := (g3'.mod0 m4).mod0 m5
    have g45 := g44.mod0 k5
    have ok : Ret (outriderlaw10_FlowsStay_7_J3 n m1 m (some (b, 0)) (some (i44, 0)) sp sl sc sl si p len c len i false h5) True' := by
      rw [outriderlaw10_FlowsStay_7_J3_eq, cond_false, wrap_succ (by omega)]
      exact Stay2_loop t hlo hll g44 r hn K hsi d (i + 1) m h5 (by omega) (by omega) k5
    cases hg : getE (doS l o).l e.f with
    | some y =>
      rw [Option.isSome_some, Bool.not_true, cond_false]
      exact ok
    | none =>
      rw [Option.isSome_none, Bool.not_false, cond_true, nnK_some', g45.cell (o := 0) rfl, asInt_int]
      rcases stay hel hg with ⟨k4, hen⟩ | ⟨hk, hf⟩
      · rw [k4, show ((4 : Int) == 4) = true from rfl, cond_true, g25.cell (o := 7) rfl, asInt_int, nnK_some', g45.cell (o := 2) rfl, asInt_int, decide_eq_true hen, Bool.not_true, cond_false]
        exact ok
      · have hk4 : (o.kd == 4) = false := by rcases hk with h | h <;> rw [h] <;> rfl
        rw [hk4, cond_false, nnK_some', g45.cell (o := 0) rfl, asInt_int]
        rcases hk with h3 | h2
        · rw [h3, show ((3 : Int) == 3) = true from rfl, cond_true, rd_at5 g25, rdF, nnK_some', g45.agg (vs := encF o.e.f) rfl (by simp [encO]), rdF, eqF_dec, decide_eq_true hf, Bool.not_true]
          exact ok
        · rw [h2, show ((2 : Int) == 3) = false from rfl, cond_false, nnK_some', g45.cell (o := 0) rfl, asInt_int, h2, show ((2 : Int) == 2) = true from rfl, cond_true, rd_at5 g25, rdF, nnK_some', g45.agg (vs := encF o.e.f) rfl (by simp [encO]), rdF, eqF_dec, decide_eq_true hf, Bool.not_true]
          exact ok

theorem Stay1_loop {a : H} {b : Nat} {key : List Int} {sp : Option (Nat × Nat)} {sl : Nat} {sc : Cap} {os : List Opx} (hs : ORow a sp sl sc os) (hsl : os.length < 100000) (hsb : ∀ x ∈ own sp, x ≠ b) (hok : ∀ o ∈ os, okO o) {n : Nat} (hn : 10000000 ≤ n) : ∀ (d i m : Nat) (h : H), i + d = sl → d < m →
    Tab h b key (run [] (os.take i)) → Mod [b] a h →
    Ret (outriderlaw10_FlowsStay_7_L1 n m (some (b, 0)) sp sl sc sl i h) True'
  | 0, i, m + 1, h, hi, _, t, hm => by
    have hlen := Row.len hs encO_len (by omega)
    rw [outriderlaw10_FlowsStay_7_L1_eq, cast_not_lt (by omega), cond_false]
    exact alive_end hn
  | d + 1, i, m + 1, h, hi, hf, t, hm => by
    have hlen := Row.len hs encO_len (by omega)
    have hx : os[i]? = some (os[i]'(by omega)) := List.getElem?_eq_getElem _
    generalize os[i]'(by omega) = o at hx
    have ht : run [] (os.take (i + 1)) = (doS (run [] (os.take i)) o).l := by rw [List.take_add_one, hx, Option.toList_some, run_snoc]
    rw [outriderlaw10_FlowsStay_7_L1_eq, cast_lt (by omega), cond_true, Row.ix (Row.mod hs hm fun x hx => by simpa using hsb x hx) encO_len (by omega) hx, rdO]
    refine boxK_ret rfl rfl rfl fun i50 h3 g3 e3 n3 m3 => ?_
    have g3' : At h3 i50 (.cells (encO o) false) := g3
    have hb := t.lt
    have hl64 := t.len
    refine ((t.mod0 m3).All (by omega)).bind fun y h4 ⟨y1, y2⟩ => ?_
    dsimp only
    have hy := Row.len y1.row encE_len (by omega)
    rw [(g3'.mod0 y2).all (encO_len o), rdO]
    refine (does_ret ((t.mod0 m3).mod0 y2) o (hok o (List.mem_of_getElem? hx)) hn).bind fun z h5 ⟨gp, gn, gc, q0, q1, q2, q3, q4⟩ => ?_
    dsimp only
    rw [q1.Len_eq, Option.bind_some]
    dsimp only
    have hq := q1.len
    rw [show decide (((doS (run [] (os.take i)) o).l.length : Int) > 64) = false by simp; omega, cond_false]
    have g5 := (g3'.mod0 y2).mod q4 (by simp; omega)
    have ry : ERow h5 y.1 y.2.1 y.2.2 (run [] (os.take i)) := Row.mod y1.row q4 fun x hx => by
      have := (y1.own_ge x hx).1
      have := m3.next
      simp; omega
    exact Stay2_loop q1 t.ok hl64 g5 ry hn (fun h6 m6 => Stay1_loop hs hsl hsb hok hn d (i + 1) m h6 (by omega) (by omega) (by rw [ht]; exact q1.mod0 m6) ((((hm.trans m3.of_nil).trans y2.of_nil).trans q4).trans m6.of_nil)) (by omega) y.2.1 0 n h5 (by omega) (by omega) (Mod.refl _ _)

theorem FlowsStay_ret {h : H} {key : List Int} (hk : Bytes key) (hk2 : key.length = 16) {p : Option (Nat × Nat)} {l : Nat} {c : Cap} {os : List Opx} (r : ORow h p l c os) (hl : os.length = l) (ho : ∀ o ∈ os, okO o) {n : Nat} (hn : 10000000 ≤ n) :
    Ret (outriderlaw10_FlowsStay_7 n (u8s key) p l c h) True' := by
  rw [outriderlaw10_FlowsStay_7_eq]
  refine begin_ret hk hk2 fun b h2 hb t m => ?_
  dsimp only
  rw [eqVK_ptr Try.underlying33, Option.isNone_some, cond_false, outriderlaw10_FlowsStay_7_J0_eq]
  by_cases hl6 : (l : Int) > 400
  · rw [decide_eq_true hl6, cond_true, eqVK_ptr Try.underlying33, Option.isNone_some, Bool.not_false, cond_true]
    exact alive_end hn
  · rw [decide_eq_false hl6, cond_false]
    exact Stay1_loop (Row.mod0 r m) (by omega) (fun x hx => by have := Row.lt r x hx; omega) ho hn l 0 n h2 (by omega) (by omega) t (Mod.refl _ _)

theorem flowsStay_true {rows : Rows0} {c0 cs : List AV} {p : Option (Nat × Nat)} {l : Nat} {c : Cap} {tg : Option Tgt} (w0 : Fits ks16 c0 ∧ Strs 1048576 c0) (w1 : Arg 0 ksO 104 p l c cs ∧ Strs 1048576 cs) :
    ∃ n h', outriderlaw10_FlowsStay_7 n c0 p l c (H0 ((tg, cs) :: rows)) = some (true, h') := by
  obtain ⟨key, rfl, hk2, hk⟩ := key_of w0.1
  obtain ⟨os, hl, r, ho⟩ := open_script (rows := (tg, cs) :: rows) rfl w1
  obtain ⟨h', e⟩ := (FlowsStay_ret hk hk2 r hl ho (n := 10000000) (by omega)).true
  exact ⟨_, h', e⟩

end Go.Ev.Try
