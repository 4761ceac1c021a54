/- The law TracksAll in plain Lean. -/
import Derived.Test.YtppneicfiodebaaTr8
set_option linter.all false
namespace Go.Ev.Try
set_option maxRecDepth 10000
open Go.Proofs

theorem tell_zmap (z : Zs) (nm : ByteArray) (up : Bool) : tell (zmap z) nm up = zmap (tellZ z nm up) := by
  unfold tell
  split
  · rename_i h
    unfold pt
    rw [if_pos]
    · unfold zmap tellZ
      rw [List.map_map, List.map_map]
      apply List.map_congr_left
      intro y _
      simp only [Function.comp]
      by_cases e : nm = y.1.1
      · rw [if_pos e, if_pos e.symm, e]
      · rw [if_neg e, if_neg (fun h => e h.symm)]
    · apply Classical.byContradiction
      intro hn
      have : lk (zmap z) nm = none := lk_none.2 fun e he hk => hn (List.any_eq_true.2 ⟨e, he, by simp [hk]⟩)
      rw [this] at h; cases h
  · rename_i h
    rw [tellZ_none]
    intro y hy e
    apply h
    obtain ⟨e', he⟩ := Option.isSome_iff_exists.1 (show ((zmap z).find? fun e => decide (nm = e.1)).isSome = true by
      rw [List.find?_isSome]
      exact ⟨(y.1.1, y.2), List.mem_map.2 ⟨y, hy, rfl⟩, by simp [e]⟩)
    unfold lk
    rw [he]; rfl

theorem upOf_zmap {z : Zs} (hn : NoDup z) {y : Tr × Bool} (hy : y ∈ z) : upOf (zmap z) y.1.1 = y.2 := by
  obtain ⟨k, hk⟩ := List.getElem?_of_mem hy
  unfold upOf
  rw [lk_zmap hn hk]; rfl
theorem prio_zmap {z : Zs} (hn : NoDup z) (base : Int) : prio base (zmap z) (z.map (·.1)) = prioZ base z := by
  unfold prio prioZ gsum
  rw [isum_adds, List.map_map]
  rw [List.map_congr_left (g := fun y => gain y.2 y.1.2) fun y hy => by simp only [Function.comp]; rw [upOf_zmap hn hy]]
theorem downs_zmap {z : Zs} (hn : NoDup z) : downs (zmap z) (z.map (·.1)) = dnames z := by
  unfold downs dnames
  rw [List.filter_map, List.map_map]
  rw [List.filter_congr (q := fun y => !y.2) fun y hy => by simp only [Function.comp]; rw [upOf_zmap hn hy]]
  rfl
theorem good_z {base : Int} {z : Zs} (h : Good base (z.map (·.1))) : GoodZ base z := ⟨h.b1, h.b2, by simpa using h.len, fun y hy => h.w y.1 (List.mem_map_of_mem hy)⟩
theorem tellZ_fst (z : Zs) (nm : ByteArray) (up : Bool) : (tellZ z nm up).map (·.1) = z.map (·.1) := by
  unfold tellZ
  rw [List.map_map]
  apply List.map_congr_left
  intro y _
  simp only [Function.comp]; split <;> rfl

structure AllSt (a h : H) (σ : Sk) (κ : Rk) (q : Nat) (base : Int) (z : Zs) : Prop where
  m : Mod [] a h
  s : SetRep h σ base (z.map (·.1)) (zmap z)
  lq : q < h.next
  gq : h.get q = some (.cells [.int .i64 base, .slice κ.p1 z.length κ.c1, .slice κ.p2 z.length κ.c2] false)
  r : RefRep h κ z
  sq : q ∉ σ.all
  q1 : q ∉ own κ.p1
  q2 : q ∉ own κ.p2
  s1 : ∀ i ∈ own κ.p1, i ∉ σ.all
  s2 : ∀ i ∈ own κ.p2, i ∉ σ.all
  aq : a.next ≤ q
  as' : ∀ i ∈ σ.all, a.next ≤ i
  g : Good base (z.map (·.1))
  nd : NoDup z

theorem AllSt.mod0 {a h h' : H} {σ : Sk} {κ : Rk} {q : Nat} {base : Int} {z : Zs} (t : AllSt a h σ κ q base z) (m : Mod [] h h') : AllSt a h' σ κ q base z :=
  { t with m := t.m.trans m, s := t.s.mod0 m, lq := m.lt t.lq, gq := (m.get _ t.lq (by simp)).trans t.gq, r := t.r.mod0 m }
theorem SetRep.all_lt {h : H} {σ : Sk} {base : Int} {xs : List Tr} {u : List (ByteArray × Bool)} (s : SetRep h σ base xs u) : ∀ i ∈ σ.all, i < h.next := fun i hi => by
  simp only [Sk.all, List.mem_cons] at hi
  rcases hi with rfl | rfl | hi
  · exact s.lb
  · exact s.lm
  · exact s.row.lt i hi

theorem All_J4 {a h : H} {σ : Sk} {κ : Rk} {q : Nat} {base : Int} {z : Zs} (t : AllSt a h σ κ q base z) {w : Nat} (lw : w < h.next) {o : Sop} (gw : h.get w = some (.cells (encO o) false)) {n m : Nat} (hn : 100 ≤ n) {p0 : Option (Nat × Nat)} {l0 : Nat} {c0 : Cap} {N i : Int}
    (go : ∀ h', AllSt a h' σ κ q base z → Ret (outriderlaw12_TracksAll_7_L1 n m σ.ptr (some (q, 0)) p0 l0 c0 N (IntKind.i64.wrap (i + 1)) h') True') :
    Ret (outriderlaw12_TracksAll_7_J4 n m σ.ptr (some (q, 0)) (some (w, 0)) p0 l0 c0 N i h) True' := by
  rw [outriderlaw12_TracksAll_7_J4_eq]
  simp only [nnK_some', Nat.zero_add]
  rw [cellK_of gw (o := 2) rfl, asStr_str, Up_eq t.s, Option.bind_some, aggK_all (n := 3) t.gq rfl]
  simp only [lc_cons, l0_nil, asInt_int, asSlice_slice]
  rw [cellK_of gw (o := 2) rfl, asStr_str]
  have hl8 : z.length ≤ 8 := (good_z t.g).len
  refine (refUp_ret t.r hl8 t.nd hn base o.name).bind ?_
  rintro _ h1 ⟨rfl, m1⟩
  have t1 := t.mod0 m1
  dsimp only
  refine (Priority_ret t1.s t1.g hn).bind ?_
  rintro _ h2 ⟨m2, rfl⟩
  have t2 := t1.mod0 m2
  dsimp only
  rw [quietK_mod m2, aggK_all (n := 3) t2.gq rfl]
  simp only [lc_cons, l0_nil, asInt_int, asSlice_slice]
  refine (refPrio_ret t2.r (good_z t.g) hn).bind ?_
  rintro _ h3 ⟨rfl, m3⟩
  have t3 := t2.mod0 m3
  dsimp only
  rw [prio_zmap t.nd, show (prioZ base z != prioZ base z) = false by simp, cond_false, beq_self_eq_true, Bool.not_true, cond_false, beq_self_eq_true, Bool.not_true, cond_false]
  refine (Down_ret t3.s t3.g hn).bind ?_
  rintro ⟨q1, ld, cd⟩ h4 ⟨m4, g4⟩
  have t4 := t3.mod0 m4
  dsimp only at g4 ⊢
  rw [quietK_mod m4, aggK_all (n := 3) t4.gq rfl]
  simp only [lc_cons, l0_nil, asInt_int, asSlice_slice]
  refine (refDown_ret t4.r hl8 hn base).bind ?_
  rintro ⟨q2, ld2, cd2⟩ h5 ⟨m5, g5⟩
  dsimp only at g5 ⊢
  rw [downZ_eq] at g5
  rw [downs_zmap t.nd] at g4
  have hlen : (srt (dnames z)).length ≤ 8 := by
    rw [← downZ_eq]; exact Nat.le_trans (downZ_len z) hl8
  rw [same_eq (g4.row.mod0 m5) g5.row (by omega) (by omega), Option.bind_some, outriderlaw12_TracksAll_7_J5_eq, decide_eq_true rfl, Bool.not_true, cond_false]
  exact go h5 (t4.mod0 m5)

theorem All_step {a : H} {p0 : Option (Nat × Nat)} {c0 : Cap} {os : List Sop} (r0 : Row a 4 p0 os.length c0 (os.flatMap encO)) {n : Nat} (hn : 100 ≤ n) {σ : Sk} {q : Nat} {i : Nat} {o : Sop} (hlen : i < os.length) (ho : os[i]? = some o) {m : Nat} {h : H} {κ : Rk} {base : Int} {z : Zs} (t : AllSt a h σ κ q base z)
    (next : ∀ (h' : H) (κ' : Rk) (base' : Int) (z' : Zs), AllSt a h' σ κ' q base' z' → Ret (outriderlaw12_TracksAll_7_L1 n m σ.ptr (some (q, 0)) p0 os.length c0 os.length (IntKind.i64.wrap ((i : Int) + 1)) h') True') :
    Ret (outriderlaw12_TracksAll_7_L1 n (m + 1) σ.ptr (some (q, 0)) p0 os.length c0 os.length i h) True' := by
  rw [outriderlaw12_TracksAll_7_L1_eq, cast_lt hlen, cond_true, (r0.mod0 t.m).ix encO_len (by decide) (x := o) ho]
  simp only [encO, lc_cons, l0_nil, asStr_str, asInt_int, asBool_bool, newK_eq]
  rw [box_wr (n := 4) rfl rfl rfl]
  have m1 : Mod [] h (h.new (.cells (encO o) false)) := (Mod.refl _ _).new _
  have t1 := t.mod0 m1
  have gw : (h.new (.cells (encO o) false)).get h.next = some (.cells (encO o) false) := get_new_self _ _
  have lw : h.next < (h.new (.cells (encO o) false)).next := by simp
  have nw : ∀ i ∈ σ.all, i ≠ h.next := fun i hi e => by have := t.s.all_lt i hi; omega
  have nq : q ≠ h.next := fun e => by have := t.lq; omega
  simp only [encO] at m1 t1 gw lw
  generalize h.new (.cells [.int .i64 o.kind, .int .i64 o.num, .str o.name, .bool o.up] false) = h1 at *
  rw [cellK_of gw (o := 0) rfl, asInt_int]
  by_cases hk : o.kind = 1
  · rw [show (o.kind == 1) = true by simpa using hk, cond_true]
    have j2 : ∀ d : Bool, d = (decide (1 ≤ o.num) && decide (o.num ≤ 255)) → Ret (outriderlaw12_TracksAll_7_J2 n m σ.ptr (some (q, 0)) (some (h.next, 0)) d p0 os.length c0 os.length i h1) True' := by
      intro d hd
      rw [outriderlaw12_TracksAll_7_J2_eq]
      simp only [nnK_some', Nat.zero_add]
      rw [cellK_of gw (o := 1) rfl, asInt_int]
      refine (Base_ret t1.s n o.num).bind ?_
      rintro _ h2 ⟨m2, rfl, s2⟩
      dsimp only
      have gw2 := (m2.get _ lw fun hi => nw _ hi rfl).trans gw
      have gq2 := (m2.get _ t1.lq t1.sq).trans t1.gq
      have r2 := t1.r.mod m2 t1.s1 t1.s2
      have n2 := t1.m.trans' m2 fun i hi hl => by have := t.as' i hi; omega
      rw [← hd, beq_self_eq_true, Bool.not_true, cond_false]
      cases hd' : d with
      | false =>
        rw [cond_false]
        rw [hd'] at hd
        have hb : ¬ (1 ≤ o.num ∧ o.num ≤ 255) := fun h => by simp [h.1, h.2] at hd
        rw [if_neg hb] at s2
        exact All_J4 { t1 with m := n2, s := s2, lq := m2.lt t1.lq, gq := gq2, r := r2 } (m2.lt lw) gw2 hn fun h' t' => next h' _ _ _ t'
      | true =>
        rw [cond_true]
        rw [hd'] at hd
        have hb : 1 ≤ o.num ∧ o.num ≤ 255 := by simpa using hd.symm
        rw [if_pos hb] at s2
        rw [cellK_of gw2 (o := 1) rfl, asInt_int, wrK_one gq2 (by simp) rfl, List.set_cons_zero]
        have m3 : Mod [q] h2 (h2.set q (.cells [.int .i64 o.num, .slice κ.p1 z.length κ.c1, .slice κ.p2 z.length κ.c2] false)) := (Mod.refl _ _).set (.inr (by simp)) _
        refine All_J4 (κ := κ) (base := o.num) (z := z) (a := a) ?_ (m3.lt (m2.lt lw)) ((m3.get _ (m2.lt lw) (by simp; exact fun e => nq e.symm)).trans gw2) hn fun h' t' => next h' _ _ _ t'
        exact { t1 with
          m := n2.trans' m3 fun i hi hl => by simp at hi; have := t.aq; omega
          s := s2.mod m3 fun i hi => by simp; exact fun e => t.sq (e ▸ hi)
          lq := m3.lt (m2.lt t1.lq)
          gq := get_set_self _ _ _
          r := r2.mod m3 (fun i hi => by simp; exact fun e => t.q1 (e ▸ hi)) (fun i hi => by simp; exact fun e => t.q2 (e ▸ hi))
          g := ⟨hb.1, hb.2, t.g.len, t.g.w⟩ }
    rw [cellK_of gw (o := 1) rfl, asInt_int]
    by_cases h1' : o.num ≥ 1
    · rw [decide_eq_true h1', cond_true, cellK_of gw (o := 1) rfl, asInt_int]
      exact j2 _ (by rw [decide_eq_true (show 1 ≤ o.num from h1'), Bool.true_and])
    · rw [decide_eq_false h1', cond_false]
      exact j2 _ (by rw [decide_eq_false (show ¬ 1 ≤ o.num from h1'), Bool.false_and])
  · rw [show (o.kind == 1) = false by simpa using hk, cond_false]
    simp only [nnK_some', Nat.zero_add]
    rw [aggK_all (n := 3) t1.gq rfl]
    simp only [lc_cons, l0_nil, asInt_int, asSlice_slice]
    rw [cellK_of gw (o := 2) rfl, asStr_str, cellK_of gw (o := 3) rfl, asBool_bool]
    refine (refTell_ret t1.r (good_z t.g) t.nd hn o.name o.up).bind ?_
    rintro _ h2 ⟨m2, p2, c2, rfl, r2, hp2⟩
    dsimp only
    have m3 : Mod [] h2 (h2.new (.cells noSet false)) := (Mod.refl _ _).new _
    rw [box_wr (n := 3) rfl rfl rfl, aggK_all (n := 3) (get_new_self _ _) rfl]
    simp only [lc_cons, l0_nil, asInt_int, asSlice_slice]
    have m4 : Mod [] h2 (h2.new (.cells [.int .i64 base, .slice κ.p1 z.length κ.c1, .slice p2 z.length c2] false)) := (Mod.refl _ _).new _
    have t4 := (t1.mod0 m2).mod0 m4
    have r4 := r2.mod0 m4
    have gw4 := ((m2.trans m4).get _ lw (by simp)).trans gw
    have lw4 := (m2.trans m4).lt lw
    generalize h2.new (.cells [.int .i64 base, .slice κ.p1 z.length κ.c1, .slice p2 z.length c2] false) = h4 at *
    have m5 : Mod [q] h4 (h4.set q (.cells [.int .i64 base, .slice κ.p1 z.length κ.c1, .slice p2 z.length c2] false)) := (Mod.refl _ _).set (.inr (by simp)) _
    rw [wrK_of (n := 3) t4.gq rfl (by simp) rfl, spl_all _ _ (by simp)]
    have gq5 : (h4.set q (.cells [.int .i64 base, .slice κ.p1 z.length κ.c1, .slice p2 z.length c2] false)).get q = some (.cells [.int .i64 base, .slice κ.p1 z.length κ.c1, .slice p2 z.length c2] false) := get_set_self _ _ _
    have hq2 : q ∉ own p2 := fun hi => (hp2 q hi).elim t.q2 fun h => by have := t1.lq; omega
    have hs2 : ∀ i ∈ own p2, i ∉ σ.all := fun i hi hs => (hp2 i hi).elim (fun h => t.s2 i h hs) fun h => by have := t1.s.all_lt i hs; omega
    have s5 := t4.s.mod m5 fun i hi => by simp; exact fun e => t.sq (e ▸ hi)
    have r5 := r4.mod m5 (fun i hi => by simp; exact fun e => t.q1 (e ▸ hi)) (fun i hi => by simp; exact fun e => hq2 (e ▸ hi))
    have gw5 := (m5.get _ lw4 (by simp; exact fun e => nq e.symm)).trans gw4
    have n5 := t4.m.trans' m5 fun i hi hl => by simp at hi; have := t.aq; omega
    have lq5 := m5.lt t4.lq
    have lw5 := m5.lt lw4
    generalize h4.set q (.cells [.int .i64 base, .slice κ.p1 z.length κ.c1, .slice p2 z.length c2] false) = h5 at *
    rw [cellK_of gw5 (o := 2) rfl, asStr_str, cellK_of gw5 (o := 3) rfl, asBool_bool]
    refine (Tell_ret s5 t.g hn o.name o.up).bind ?_
    rintro _ h6 ⟨m6, rfl, s6⟩
    dsimp only
    rw [tell_zmap] at s6 ⊢
    have nd' := tellZ_nodup t.nd o.name o.up
    have e1 : prio base (zmap (tellZ z o.name o.up)) (z.map (·.1)) = prioZ base (tellZ z o.name o.up) := by
      rw [← prio_zmap nd', tellZ_fst]
    rw [e1, prio_zmap t.nd, beq_self_eq_true, Bool.not_true, cond_false, beq_self_eq_true, Bool.not_true, outriderlaw12_TracksAll_7_J3_eq, cond_false]
    refine All_J4 (κ := ⟨κ.p1, κ.c1, p2, c2⟩) (base := base) (z := tellZ z o.name o.up) (a := a) ?_ (m6.lt lw5) ((m6.get _ lw5 fun hi => nw _ hi rfl).trans gw5) hn fun h' t' => next h' _ _ _ t'
    exact {
      m := n5.trans' m6 fun i hi hl => by have := t.as' i hi; omega
      s := by rw [tellZ_fst]; exact s6
      lq := m6.lt lq5
      gq := by rw [tellZ_len]; exact (m6.get _ lq5 t.sq).trans gq5
      r := r5.mod m6 t.s1 hs2
      sq := t.sq
      q1 := t.q1
      q2 := hq2
      s1 := t.s1
      s2 := hs2
      aq := t.aq
      as' := t.as'
      g := by rw [tellZ_fst]; exact t.g
      nd := nd' }


theorem All_loop {a : H} {p0 : Option (Nat × Nat)} {c0 : Cap} {os : List Sop} (r0 : Row a 4 p0 os.length c0 (os.flatMap encO)) (hmax : os.length < 1000000) {n : Nat} (hn : 100 ≤ n) {σ : Sk} {q : Nat} :
    ∀ (ts pre : List Sop) (m : Nat) (h : H) (κ : Rk) (base : Int) (z : Zs), os = pre ++ ts → ts.length < m → AllSt a h σ κ q base z →
      Ret (outriderlaw12_TracksAll_7_L1 n m σ.ptr (some (q, 0)) p0 os.length c0 os.length pre.length h) True'
  | [], pre, m + 1, h, κ, base, z, hx, _, t => by
    rw [outriderlaw12_TracksAll_7_L1_eq, cast_not_lt (by rw [hx]; simp), cond_false]
    exact alive_true h hn
  | o :: ts, pre, m + 1, h, κ, base, z, hx, hl, t => by
    have hlen : pre.length < os.length := by rw [hx]; simp
    refine All_step r0 hn hlen (o := o) (by rw [hx]; simp) t fun h' κ' base' z' t' => ?_
    rw [wrap_succ (by omega), show pre.length + 1 = (pre ++ [o]).length by simp]
    exact All_loop r0 hmax hn ts (pre ++ [o]) m h' κ' base' z' (by rw [hx]; simp) (by simp at hl; omega) t'

theorem tracksAll_true {base : Int} {p : Option (Nat × Nat)} {l : Nat} {c : Cap} {tg : Option Tgt} {cs : List AV} {p2 : Option (Nat × Nat)} {l2 : Nat} {c2 : Cap} {tg2 : Option Tgt} {cs2 : List AV} {B : Nat}
    (_ : (Lit.int .i64 base).wf = true) (w1 : Arg 0 [.str, .int .i64] 24 p l c cs) (w2 : Arg 1 [.int .i64, .int .i64, .str, .bool] B p2 l2 c2 cs2) :
    ∃ n h', outriderlaw12_TracksAll_7 n base p l c p2 l2 c2 (H0 [(tg, cs), (tg2, cs2)]) = some (true, h') := by
  obtain ⟨xs, rfl, hb, r0⟩ := open_trs (rows := [(tg, cs), (tg2, cs2)]) rfl w1
  obtain ⟨os, rfl, ro⟩ := open_ops (rows := [(tg, cs), (tg2, cs2)]) rfl w2
  refine ⟨1000 + xs.length, Ret.true ?_⟩
  rw [outriderlaw12_TracksAll_7_eq]
  generalize H0 [(tg, cs), (tg2, cs2)] = a at *
  refine (own_ret r0 (by omega) (by omega)).bind ?_
  rintro ⟨q, l, d⟩ h1 ⟨m1, hl, q1⟩
  simp only at hl q1
  subst hl
  dsimp only
  refine (New_ret q1 (by omega) (by omega) base).bind ?_
  rintro ⟨s, e⟩ h2 ⟨m2, hs⟩
  dsimp only
  refine (refNew_ret (r0.mod0 (m1.trans m2)) (by omega) base).bind ?_
  rintro ⟨x, pa, la, ca, pb, lb, cb, may⟩ h3 ⟨m3, hr⟩
  dsimp only
  rw [newK_eq, box_wr (n := 3) rfl rfl rfl]
  have m4 : Mod [] h3 (h3.new (.cells [.int .i64 x, .slice pa la ca, .slice pb lb cb] false)) := (Mod.refl _ _).new _
  have n4 := (m1.trans m2).trans (m3.trans m4)
  split at hs
  · rename_i hv
    rw [if_pos hv] at hr
    obtain ⟨σ, hs, s2, hσ⟩ := hs
    obtain ⟨w, hr, gw, hw1, hw2⟩ := hr
    cases hs
    cases hr
    rw [Bool.not_true, cond_false, show ((0 : Int) != 0) = false by decide, cond_false, eqVK_ptr Try.underlying24]
    simp only [Sk.ptr, Option.isNone_some, cond_false]
    rw [outriderlaw12_TracksAll_7_J0_eq]
    by_cases h5 : os.length ≤ 500
    · rw [show decide ((os.length : Int) > 500) = false by simp; omega, cond_false]
      have hn1 := m1.next; have hn2 := m2.next; have hn3 := m3.next
      have hz : (xs.map fun t => (t, false)).map (·.1) = xs := by rw [List.map_map]; exact (List.map_congr_left fun _ _ => rfl).trans (List.map_id xs)
      refine All_loop ro (by omega) (by omega) os [] _ _ ⟨p, c, some (w, 0), .known xs.length⟩ base (xs.map fun t => (t, false)) rfl (by omega) ?_
      have hmem : ∀ i ∈ own p, i < a.next := r0.lt
      exact {
        m := n4
        s := by
          rw [hz, show zmap (xs.map fun t => (t, false)) = downMap xs by rw [zmap, List.map_map]; rfl]
          exact (s2.mod0 m3).mod0 m4
        lq := by simp
        gq := by rw [List.length_map]; exact get_new_self _ _
        r := by
          refine ⟨?_, ?_⟩
          · rw [List.length_map, List.flatMap_map]; exact r0.mod0 n4
          · rw [List.length_map, List.map_map]
            refine .row (m4.lt hw2) ((m4.get _ hw2 (by simp)).trans gw) ?_ (by simp) (.inr ⟨_, rfl, Nat.le_refl _⟩)
            rw [List.drop_zero, Nat.mul_one, List.take_of_length_le (by simp)]
            exact (List.map_const' ..).symm.trans (List.map_congr_left fun _ _ => rfl)
        sq := fun hi => by have := s2.all_lt _ hi; omega
        q1 := fun hi => by have := hmem _ hi; omega
        q2 := fun hi => by simp at hi; omega
        s1 := fun i hi hi' => by have := hmem i hi; have := hσ i hi'; omega
        s2 := fun i hi hi' => by simp at hi; have := s2.all_lt i hi'; omega
        aq := by omega
        as' := fun i hi => by have := hσ i hi; omega
        g := by rw [hz]; exact good_of hv
        nd := by
          have := valid_nodup hv
          unfold NoDup
          rw [List.map_map]; exact this }
    · rw [show decide ((os.length : Int) > 500) = true by simp; omega, cond_true, show ((0 : Int) == 0) = true by decide, cond_true, eqVK_ptr Try.underlying24, Option.isNone_some, Bool.not_false, cond_true]
      exact alive_true _ (by omega)
  · rename_i hv
    rw [if_neg hv] at hr
    cases hs
    cases hr
    rw [Bool.not_false, cond_true]
    refine (alive_ret _ (by omega)).bind ?_
    rintro _ h5 ⟨rfl, m5⟩
    dsimp only
    rw [cond_true, show ((1 : Int) == 1) = true by decide, cond_true, eqVK_ptr Try.underlying24]
    exact .pure rfl

end Go.Ev.Try
