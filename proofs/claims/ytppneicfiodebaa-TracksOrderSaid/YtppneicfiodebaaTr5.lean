/- The laws TracksRise, TracksOwner, TracksParts in plain Lean. -/
import Derived.Test.YtppneicfiodebaaTr4
set_option linter.all false
namespace Go.Ev.Try
set_option maxRecDepth 10000
open Go.Proofs

/-! ### what comes in -/

theorem open_trs {rows : Rows0} {i : Nat} {p : Option (Nat × Nat)} {l : Nat} {c : Cap} {tg : Option Tgt} {cs : List AV} (hi : rows[i]? = some (tg, cs)) (w : Arg i [.str, .int .i64] 24 p l c cs) :
    ∃ xs : List Tr, xs.length = l ∧ l * 24 ≤ 140737488351232 ∧ Row (H0 rows) 2 p l c (xs.flatMap encT) := by
  obtain ⟨xs, h1, h2, h3, _⟩ := Row.of_arg (enc := encT) (P := fun _ => True) hi w encT_len fun vs hv => by
    cases hv with
    | cons a b =>
      cases b with
      | cons b d =>
        cases d
        obtain ⟨s, rfl, _⟩ := a
        obtain ⟨x, rfl, _⟩ := b
        exact ⟨(s, x), rfl, trivial⟩
  exact ⟨xs, h1, h2, h3⟩
theorem open_ops {rows : Rows0} {i : Nat} {p : Option (Nat × Nat)} {l : Nat} {c : Cap} {tg : Option Tgt} {cs : List AV} {B : Nat} (hi : rows[i]? = some (tg, cs)) (w : Arg i [.int .i64, .int .i64, .str, .bool] B p l c cs) :
    ∃ xs : List Sop, xs.length = l ∧ Row (H0 rows) 4 p l c (xs.flatMap encO) := by
  obtain ⟨xs, h1, h2, h3, _⟩ := Row.of_arg (enc := encO) (P := fun _ => True) hi w encO_len fun vs hv => by
    cases hv with
    | cons a b =>
      cases b with
      | cons b d =>
        cases d with
        | cons d e =>
          cases e with
          | cons e f =>
            cases f
            obtain ⟨x, rfl, _⟩ := a
            obtain ⟨y, rfl, _⟩ := b
            obtain ⟨s, rfl, _⟩ := d
            obtain ⟨z, rfl⟩ := e
            exact ⟨⟨x, y, s, z⟩, rfl, trivial⟩
  exact ⟨xs, h1, h3⟩

/-! ### how such a law begins -/

theorem start {a : H} {p0 : Option (Nat × Nat)} {c0 : Cap} {xs : List Tr} (r0 : Row a 2 p0 xs.length c0 (xs.flatMap encT)) (hb : xs.length * 24 ≤ 140737488351232) {n : Nat} (hn : xs.length < n) (base : Int) (J : Option (Nat × Nat) → Bool → H → Option (Bool × H)) (len : Nat)
    (hT : ∀ p h, Ret (J p true h) True') (hF : valid base xs = true → len ≤ 500 → ∀ σ h, Mod [] a h → SetRep h σ base xs (downMap xs) → (∀ i ∈ σ.all, a.next ≤ i) → Ret (J σ.ptr false h) True') :
    Ret ((outriderlaw12_own_9 n p0 xs.length c0 a).bind fun r1 => (tracks_New_8 n base r1.1.1 r1.1.2.1 r1.1.2.2 r1.2).bind fun r2 => cond ((r2.1.2 : Int) != (0 : Int)) (J r2.1.1 true r2.2) (eqVK Try.prog 24 (.ptr r2.1.1) (.ptr none) fun z3 => cond z3 (J r2.1.1 true r2.2) (J r2.1.1 (decide ((Nat.cast len : Int) > (500 : Int))) r2.2))) True' := by
  refine (own_ret r0 (by omega) hn).bind ?_
  rintro ⟨p, l, c⟩ h1 ⟨m1, hl, r1⟩
  simp only at hl r1
  subst hl
  dsimp only
  refine (New_ret r1 (by omega) hn base).bind ?_
  rintro ⟨q, e⟩ h2 ⟨m2, hr⟩
  dsimp only
  split at hr
  · rename_i hv
    obtain ⟨σ, hr, s, hσ⟩ := hr
    cases hr
    rw [show ((0 : Int) != 0) = false by decide, cond_false, eqVK_ptr Try.underlying24]
    simp only [Sk.ptr, Option.isNone_some, cond_false]
    by_cases h5 : len ≤ 500
    · rw [show decide ((len : Int) > 500) = false by simp; omega]
      exact hF hv h5 σ h2 (m1.trans m2) s fun i hi => by have := hσ i hi; have := m1.next; omega
    · rw [show decide ((len : Int) > 500) = true by simp; omega]
      exact hT _ _
  · cases hr
    rw [show ((1 : Int) != 0) = true by decide, cond_true]
    exact hT _ _

theorem Ret.true {c : Option (Bool × H)} (h : Ret c True') : ∃ h', c = some (true, h') := by
  obtain ⟨r, h', e, hr⟩ := h
  subst hr
  exact ⟨h', e⟩

/-! ### TracksRise -/

theorem tracksRise_true {base : Int} {p : Option (Nat × Nat)} {l : Nat} {c : Cap} {tg : Option Tgt} {cs : List AV} {p2 : Option (Nat × Nat)} {l2 : Nat} {c2 : Cap} {tg2 : Option Tgt} {cs2 : List AV} {B : Nat}
    (_ : (Lit.int .i64 base).wf = true) (w1 : Arg 0 [.str, .int .i64] 24 p l c cs) (w2 : Arg 1 [.int .i64, .int .i64, .str, .bool] B p2 l2 c2 cs2) :
    ∃ n h', outriderlaw12_TracksRise_4 n base p l c p2 l2 c2 (H0 [(tg, cs), (tg2, cs2)]) = some (true, h') := by
  obtain ⟨xs, rfl, hb, r0⟩ := open_trs (rows := [(tg, cs), (tg2, cs2)]) rfl w1
  obtain ⟨os, rfl, ro⟩ := open_ops (rows := [(tg, cs), (tg2, cs2)]) rfl w2
  refine ⟨1000 + xs.length, Ret.true ?_⟩
  rw [outriderlaw12_TracksRise_4_eq]
  refine start r0 hb (by omega) base (fun q b h => outriderlaw12_TracksRise_4_J0 (1000 + xs.length) base p2 os.length c2 q b h) os.length (fun q h => ?_) fun hv h5 σ h m s hσ => ?_
  · rw [outriderlaw12_TracksRise_4_J0_eq, cond_true]
    exact alive_true h (by omega)
  · rw [outriderlaw12_TracksRise_4_J0_eq, cond_false]
    exact Rise_loop ro (by omega) (by omega) (good_of hv) hσ os [] _ h _ rfl (by omega) m s

/-! ### TracksOwner -/

theorem Owner_loop {a : H} {p0 : Option (Nat × Nat)} {c0 : Cap} {os : List Sop} (r0 : Row a 4 p0 os.length c0 (os.flatMap encO)) (hmax : os.length < 1000000) {n : Nat} (hn : 100 ≤ n) {σ : Sk} {xs : List Tr} (hg : Good 255 xs) (hσ : ∀ i ∈ σ.all, a.next ≤ i) :
    ∀ (ts pre : List Sop) (m : Nat) (h : H) (u : List (ByteArray × Bool)), os = pre ++ ts → ts.length < m → Mod [] a h → SetRep h σ 255 xs u →
      Ret (outriderlaw12_TracksOwner_6_L2 n m σ.ptr p0 os.length c0 os.length pre.length h) True'
  | [], pre, m + 1, h, u, hx, _, hm, s => by
    rw [outriderlaw12_TracksOwner_6_L2_eq, cast_not_lt (by rw [hx]; simp), cond_false]
    refine (alive_ret h hn).bind ?_
    rintro _ h1 ⟨rfl, m1⟩
    dsimp only
    rw [cond_true]
    refine (Base_ret (s.mod0 m1) n 254).bind ?_
    rintro _ h2 ⟨m2, rfl, s2⟩
    rw [if_pos (by decide)] at s2
    have hg2 : Good 254 xs := ⟨by decide, by decide, hg.len, hg.w⟩
    dsimp only
    rw [show (decide ((1 : Int) ≤ 254) && decide ((254 : Int) ≤ 255)) = true by decide, cond_true]
    refine (Priority_ret s2 hg2 hn).bind ?_
    rintro _ h3 ⟨m3, rfl⟩
    have hp : prio 254 u xs ≤ 254 := by
      have := prio_range 254 u xs
      have h1 : prio 254 u xs ≠ 255 := fun e => by have := this.2.2.1 e; omega
      omega
    dsimp only
    rw [decide_eq_true hp, cond_true]
    refine (Base_ret (s2.mod0 m3) n 256).bind ?_
    rintro _ h4 ⟨m4, rfl, s4⟩
    rw [if_neg (by decide)] at s4
    dsimp only
    rw [show (decide ((1 : Int) ≤ 256) && decide ((256 : Int) ≤ 255)) = false by decide, Bool.not_false, cond_true]
    refine (Priority_ret s4 hg2 hn).bind ?_
    rintro _ h5 ⟨m5, rfl⟩
    exact .pure (decide_eq_true hp)
  | t :: ts, pre, m + 1, h, u, hx, hl, hm, s => by
    have hlen : pre.length < os.length := by rw [hx]; simp
    rw [outriderlaw12_TracksOwner_6_L2_eq, cast_lt hlen, cond_true, (r0.mod0 hm).ix encO_len (by decide) (x := t) (by rw [hx]; simp)]
    simp only [encO, lc_cons, l0_nil, asStr_str, asInt_int, asBool_bool, newK_eq]
    rw [box_wr (n := 4) rfl rfl rfl]
    have m1 : Mod [] h (h.new (.cells (encO t) false)) := (Mod.refl _ _).new _
    have s1 := s.mod0 m1
    have g1 : (h.new (.cells (encO t) false)).get h.next = some (.cells (encO t) false) := get_new_self _ _
    have n1 := hm.trans m1
    simp only [encO] at g1 m1 s1 n1
    generalize h.new (.cells [.int .i64 t.kind, .int .i64 t.num, .str t.name, .bool t.up] false) = h1 at *
    simp only [cellK, g1, List.getElem?_cons_zero, List.getElem?_cons_succ, asStr_str, asBool_bool]
    refine (Tell_ret s1 hg hn t.name t.up).bind ?_
    rintro _ h3 ⟨m3, rfl, s3⟩
    have e : ∀ v, prio 255 v xs = 255 := fun v => if_pos rfl
    dsimp only
    rw [e, e, show ((255 : Int) != 255) = false by decide, cond_false]
    refine (Priority_ret s3 hg hn).bind ?_
    rintro _ h4 ⟨m4, rfl⟩
    dsimp only
    rw [e, show ((255 : Int) != 255) = false by decide, outriderlaw12_TracksOwner_6_J3_eq, cond_false, wrap_succ (by omega), show pre.length + 1 = (pre ++ [t]).length by simp]
    exact Owner_loop r0 hmax hn hg hσ ts (pre ++ [t]) m h4 _ (by rw [hx]; simp) (by simp at hl; omega) ((n1.trans' m3 fun i hi hl => by have := hσ i hi; omega).trans m4) (s3.mod0 m4)

theorem tracksOwner_true {base : Int} {p : Option (Nat × Nat)} {l : Nat} {c : Cap} {tg : Option Tgt} {cs : List AV} {p2 : Option (Nat × Nat)} {l2 : Nat} {c2 : Cap} {tg2 : Option Tgt} {cs2 : List AV} {B : Nat}
    (_ : (Lit.int .i64 base).wf = true) (w1 : Arg 0 [.str, .int .i64] 24 p l c cs) (w2 : Arg 1 [.int .i64, .int .i64, .str, .bool] B p2 l2 c2 cs2) :
    ∃ n h', outriderlaw12_TracksOwner_6 n base p l c p2 l2 c2 (H0 [(tg, cs), (tg2, cs2)]) = some (true, h') := by
  obtain ⟨xs, rfl, hb, r0⟩ := open_trs (rows := [(tg, cs), (tg2, cs2)]) rfl w1
  obtain ⟨os, rfl, ro⟩ := open_ops (rows := [(tg, cs), (tg2, cs2)]) rfl w2
  refine ⟨1000 + xs.length, Ret.true ?_⟩
  rw [outriderlaw12_TracksOwner_6_eq]
  refine start r0 hb (by omega) base (fun q b h => outriderlaw12_TracksOwner_6_J0 (1000 + xs.length) p2 os.length c2 q b h) os.length (fun q h => ?_) fun hv h5 σ h m s hσ => ?_
  · rw [outriderlaw12_TracksOwner_6_J0_eq, cond_true]
    exact alive_true h (by omega)
  · rw [outriderlaw12_TracksOwner_6_J0_eq, cond_false]
    refine (Base_ret s _ 255).bind ?_
    rintro _ h1 ⟨m1, rfl, s1⟩
    rw [if_pos (by decide)] at s1
    have hg : Good 255 xs := ⟨by decide, by decide, (good_of hv).len, (good_of hv).w⟩
    dsimp only
    rw [show (decide ((1 : Int) ≤ 255) && decide ((255 : Int) ≤ 255)) = true by decide, Bool.not_true, cond_false]
    refine (Priority_ret s1 hg (by omega)).bind ?_
    rintro _ h2 ⟨m2, rfl⟩
    dsimp only
    rw [show prio 255 (downMap xs) xs = 255 from if_pos rfl, show ((255 : Int) != 255) = false by decide, outriderlaw12_TracksOwner_6_J1_eq, cond_false]
    exact Owner_loop ro (by omega) (by omega) hg hσ os [] _ h2 _ rfl (by omega) ((m.trans' m1 fun i hi hl => by have := hσ i hi; omega).trans m2) (s1.mod0 m2)

/-! ### TracksParts -/

theorem ok_nodup : ∀ {ts pre : List Tr}, ok pre ts = true → (∀ t ∈ ts, ∀ s ∈ pre, t.1 ≠ s.1) ∧ (ts.map (·.1)).Nodup
  | [], pre, _ => by simp
  | t :: ts, pre, h => by
    simp only [ok, Bool.and_eq_true, Bool.not_eq_true', List.any_eq_false, decide_eq_true_eq] at h
    obtain ⟨h1, h2⟩ := ok_nodup h.2
    refine ⟨fun s hs q hq => ?_, ?_⟩
    · rcases List.mem_cons.1 hs with rfl | hs
      · exact h.1.1 q hq
      · exact h1 s hs q (by simp [hq])
    · rw [List.map_cons, List.nodup_cons]
      refine ⟨fun hm => ?_, h2⟩
      obtain ⟨s, hs, e⟩ := List.mem_map.1 hm
      exact h1 s hs t (by simp) e
theorem valid_nodup {base : Int} {xs : List Tr} (h : valid base xs = true) : (xs.map (·.1)).Nodup := by
  simp only [valid, Bool.and_eq_true] at h
  exact (ok_nodup h.2).2

def AllIn (u : List (ByteArray × Bool)) (xs : List Tr) : Prop := ∀ t ∈ xs, (lk u t.1).isSome = true
theorem allIn_down (xs : List Tr) : AllIn (downMap xs) xs := fun t ht => by
  rw [lk_downMap, if_pos]
  · rfl
  · exact List.any_eq_true.2 ⟨t, ht, by simp⟩
theorem allIn_tell {u : List (ByteArray × Bool)} {xs : List Tr} (h : AllIn u xs) (nm : ByteArray) (up : Bool) : AllIn (tell u nm up) xs := fun t ht => by
  unfold tell
  split
  · rw [lk_pt]; split
    · rfl
    · exact h t ht
  · exact h t ht

theorem Parts_tells {a : H} {p0 : Option (Nat × Nat)} {c0 : Cap} {os : List Sop} (r0 : Row a 4 p0 os.length c0 (os.flatMap encO)) (hmax : os.length < 1000000) {n : Nat} (hn : 100 ≤ n) {σ : Sk} {base : Int} {xs : List Tr} (hg : Good base xs) (hσ : ∀ i ∈ σ.all, a.next ≤ i) {p1 : Option (Nat × Nat)} {l1 : Nat} {c1 : Cap}
    (fin : ∀ h u, Mod [] a h → SetRep h σ base xs u → AllIn u xs → Ret ((tracks_Set_Down_14 n σ.ptr h).bind fun r28 => outriderlaw12_TracksParts_5_L2 n n σ.ptr r28.1.1 r28.1.2.1 r28.1.2.2 0 p1 l1 c1 (Nat.cast l1) 0 r28.2) True') :
    ∀ (ts pre : List Sop) (m : Nat) (h : H) (u : List (ByteArray × Bool)), os = pre ++ ts → ts.length < m → Mod [] a h → SetRep h σ base xs u → AllIn u xs →
      Ret (outriderlaw12_TracksParts_5_L1 n m p1 l1 c1 σ.ptr p0 os.length c0 os.length pre.length h) True'
  | [], pre, m + 1, h, u, hx, _, hm, s, hu => by
    rw [outriderlaw12_TracksParts_5_L1_eq, cast_not_lt (by rw [hx]; simp), cond_false]
    exact fin h u hm s hu
  | t :: ts, pre, m + 1, h, u, hx, hl, hm, s, hu => by
    have hlen : pre.length < os.length := by rw [hx]; simp
    rw [outriderlaw12_TracksParts_5_L1_eq, cast_lt hlen, cond_true, (r0.mod0 hm).ix encO_len (by decide) (x := t) (by rw [hx]; simp)]
    simp only [encO, lc_cons, l0_nil, asStr_str, asInt_int, asBool_bool, newK_eq]
    rw [box_wr (n := 4) rfl rfl rfl]
    have m1 : Mod [] h (h.new (.cells (encO t) false)) := (Mod.refl _ _).new _
    have s1 := s.mod0 m1
    have g1 : (h.new (.cells (encO t) false)).get h.next = some (.cells (encO t) false) := get_new_self _ _
    have n1 := hm.trans m1
    simp only [encO] at g1 m1 s1 n1
    generalize h.new (.cells [.int .i64 t.kind, .int .i64 t.num, .str t.name, .bool t.up] false) = h1 at *
    simp only [cellK, g1, List.getElem?_cons_zero, List.getElem?_cons_succ, asStr_str, asBool_bool]
    refine (Tell_ret s1 hg hn t.name t.up).bind ?_
    rintro _ h3 ⟨m3, rfl, s3⟩
    dsimp only
    rw [wrap_succ (by omega), show pre.length + 1 = (pre ++ [t]).length by simp]
    exact Parts_tells r0 hmax hn hg hσ fin ts (pre ++ [t]) m h3 _ (by rw [hx]; simp) (by simp at hl; omega) (n1.trans' m3 fun i hi hl => by have := hσ i hi; omega) s3 (allIn_tell hu _ _)

theorem Parts_count {a : H} {p1 : Option (Nat × Nat)} {c1 : Cap} {xs : List Tr} (r0 : Row a 2 p1 xs.length c1 (xs.flatMap encT)) {n : Nat} {σ : Sk} {base : Int} {u : List (ByteArray × Bool)} (s0 : SetRep a σ base xs u) (hu : AllIn u xs) (hmax : xs.length ≤ 8) {q : Option (Nat × Nat)} {ld : Nat} {cd : Cap}
    (fin : ∀ h, Mod [] a h → Ret (outriderlaw12_TracksParts_5_L3 n n σ.ptr q ld cd (downs u xs).length q ld cd (Nat.cast ld) 0 h) True') :
    ∀ (ts pre : List Tr) (m : Nat) (h : H), xs = pre ++ ts → ts.length < m → Mod [] a h →
      Ret (outriderlaw12_TracksParts_5_L2 n m σ.ptr q ld cd (downs u pre).length p1 xs.length c1 xs.length pre.length h) True'
  | [], pre, m + 1, h, hx, _, hm => by
    rw [outriderlaw12_TracksParts_5_L2_eq, cast_not_lt (by rw [hx]; simp), cond_false]
    rw [List.append_nil] at hx
    subst hx
    exact fin h hm
  | t :: ts, pre, m + 1, h, hx, hl, hm => by
    have hlen : pre.length < xs.length := by rw [hx]; simp
    rw [outriderlaw12_TracksParts_5_L2_eq, cast_lt hlen, cond_true, (r0.mod0 hm).ix encT_len (by decide) (x := t) (by rw [hx]; simp)]
    simp only [encT, lc_cons, l0_nil, asStr_str, asInt_int, newK_eq]
    rw [box_wr (n := 2) rfl rfl rfl]
    have m1 : Mod [] h (h.new (.cells [.str t.1, .int .i64 t.2] false)) := (Mod.refl _ _).new _
    have g1 : (h.new (.cells [.str t.1, .int .i64 t.2] false)).get h.next = some (.cells [.str t.1, .int .i64 t.2] false) := get_new_self _ _
    have n1 := (hm.trans m1)
    generalize h.new (.cells [.str t.1, .int .i64 t.2] false) = h1 at *
    simp only [cellK, g1, List.getElem?_cons_zero, List.getElem?_cons_succ, asStr_str]
    rw [Up_eq (s0.mod0 n1), Option.bind_some]
    simp only [hu t (by rw [hx]; simp), Bool.not_true, cond_false]
    have hle : (downs u pre).length ≤ 8 := by
      rw [downs, List.length_map]
      exact Nat.le_trans (List.length_filter_le _ _) (by omega)
    have hdown : downs u (pre ++ [t]) = downs u pre ++ (if upOf u t.1 = true then [] else [t.1]) := by
      rw [downs, List.filter_append, List.map_append]
      congr 1
      cases hu : upOf u t.1 <;> simp [hu]
    have ih := Parts_count r0 s0 hu hmax fin ts (pre ++ [t]) m h1 (by rw [hx]; simp) (by simp at hl; omega) n1
    rw [hdown, show (pre ++ [t]).length = pre.length + 1 by simp] at ih
    cases hc : upOf u t.1 with
    | false =>
      rw [hc] at ih
      rw [Bool.not_false, cond_true, wrap_succ (by omega), wrap_succ (by omega)]
      simpa using ih
    | true =>
      rw [hc] at ih
      rw [Bool.not_true, cond_false, wrap_succ (k := pre.length) (by omega)]
      simpa using ih

theorem Parts_check {a : H} {n : Nat} (hn : 100 ≤ n) {σ : Sk} {base : Int} {xs : List Tr} {u : List (ByteArray × Bool)} (s : SetRep a σ base xs u) {q : Option (Nat × Nat)} {cd : Cap} {ds : List ByteArray} (rd : Row a 1 q ds.length cd (ds.map AV.str)) (hmax : ds.length ≤ 8)
    (hin : ∀ d ∈ ds, upOf u d = false ∧ (lk u d).isSome = true) (hs : ds.Pairwise fun x y => sLt x y = true) :
    ∀ (ts pre : List ByteArray) (m : Nat), ds = pre ++ ts → ts.length < m → Ret (outriderlaw12_TracksParts_5_L3 n m σ.ptr q ds.length cd ds.length q ds.length cd ds.length pre.length a) True'
  | [], pre, m + 1, hx, _ => by
    rw [outriderlaw12_TracksParts_5_L3_eq, cast_not_lt (by rw [hx]; simp), cond_false]
    refine (alive_ret a hn).bind ?_
    rintro _ h1 ⟨rfl, m1⟩
    exact .pure (by simp [True'])
  | t :: ts, pre, m + 1, hx, hl => by
    have hlen : pre.length < ds.length := by rw [hx]; simp
    have ht := hin t (by rw [hx]; simp)
    rw [outriderlaw12_TracksParts_5_L3_eq, cast_lt hlen, cond_true, rd.ix1 (x := t) (by rw [hx]; simp), asStr_str, Up_eq s, Option.bind_some]
    simp only [ht.1, ht.2, cond_false, Bool.not_true]
    have ih := Parts_check hn s rd hmax hin hs ts (pre ++ [t]) m (by rw [hx]; simp) (by simp at hl; omega)
    rw [show (pre ++ [t]).length = pre.length + 1 by simp] at ih
    have hj : ∀ b, b = false → Ret (outriderlaw12_TracksParts_5_J4 n m σ.ptr q ds.length cd ds.length q ds.length cd ds.length pre.length b a) True' := fun b hb => by
      rw [hb, outriderlaw12_TracksParts_5_J4_eq, cond_false, wrap_succ (by omega)]
      exact ih
    by_cases h0 : pre = []
    · subst h0
      exact hj false rfl
    · obtain ⟨pre', y, rfl⟩ : ∃ p y, pre = p ++ [y] := ⟨pre.dropLast, pre.getLast h0, (List.dropLast_concat_getLast h0).symm⟩
      have e1 : IntKind.i64.wrap ((((pre' ++ [y]).length : Nat) : Int) - 1) = (pre'.length : Nat) := by rw [wrap_i64 (by simp <;> omega) (by simp at hlen ⊢; omega)]; simp
      rw [show decide ((((pre' ++ [y]).length : Nat) : Int) > 0) = true by simp <;> omega, cond_true, e1, rd.ix1 (x := y) (by rw [hx]; simp), asStr_str]
      apply hj
      have hlt : sLt y t = true := by
        rw [hx, List.append_assoc, List.pairwise_append] at hs
        have := hs.2.1
        rw [List.singleton_append, List.pairwise_cons] at this
        exact this.1 t (by simp)
      rw [Bool.or_eq_false_iff, str_eq]
      refine ⟨sLt_asymm hlt, decide_eq_false fun e => ?_⟩
      subst e
      rw [sLt_irrefl] at hlt; cases hlt

theorem strict_of {l : List ByteArray} (h : l.Pairwise sLe) (hn : l.Nodup) : l.Pairwise fun x y => sLt x y = true :=
  (h.and hn).imp fun ⟨h1, h2⟩ => by
    rcases sLt_total h2 with h | h
    · exact h
    · unfold sLe at h1; rw [h] at h1; cases h1

theorem downs_mem {u : List (ByteArray × Bool)} {xs : List Tr} {d : ByteArray} (h : d ∈ downs u xs) : upOf u d = false ∧ ∃ t ∈ xs, t.1 = d := by
  obtain ⟨t, ht, rfl⟩ := List.mem_map.1 h
  rw [List.mem_filter] at ht
  exact ⟨by simpa using ht.2, t, ht.1, rfl⟩

theorem tracksParts_true {base : Int} {p : Option (Nat × Nat)} {l : Nat} {c : Cap} {tg : Option Tgt} {cs : List AV} {p2 : Option (Nat × Nat)} {l2 : Nat} {c2 : Cap} {tg2 : Option Tgt} {cs2 : List AV} {B : Nat}
    (_ : (Lit.int .i64 base).wf = true) (w1 : Arg 0 [.str, .int .i64] 24 p l c cs) (w2 : Arg 1 [.int .i64, .int .i64, .str, .bool] B p2 l2 c2 cs2) :
    ∃ n h', outriderlaw12_TracksParts_5 n base p l c p2 l2 c2 (H0 [(tg, cs), (tg2, cs2)]) = some (true, h') := by
  obtain ⟨xs, rfl, hb, r0⟩ := open_trs (rows := [(tg, cs), (tg2, cs2)]) rfl w1
  obtain ⟨os, rfl, ro⟩ := open_ops (rows := [(tg, cs), (tg2, cs2)]) rfl w2
  refine ⟨1000 + xs.length, Ret.true ?_⟩
  rw [outriderlaw12_TracksParts_5_eq]
  refine start r0 hb (by omega) base (fun q b h => outriderlaw12_TracksParts_5_J0 (1000 + xs.length) p xs.length c p2 os.length c2 q b h) os.length (fun q h => ?_) fun hv h5 σ h m s hσ => ?_
  · rw [outriderlaw12_TracksParts_5_J0_eq, cond_true]
    exact alive_true h (by omega)
  · rw [outriderlaw12_TracksParts_5_J0_eq, cond_false]
    have hg := good_of hv
    refine Parts_tells ro (by omega) (by omega) hg hσ (fun h1 u m1 s1 hu => ?_) os [] _ h _ rfl (by omega) m s (allIn_down xs)
    refine (Down_ret s1 hg (by omega)).bind ?_
    rintro ⟨q, ld, cd⟩ h2 ⟨m2, g2⟩
    dsimp only at g2 ⊢
    have hd := g2.row.len1
    subst hd
    have hlen := (srt_perm (downs u xs)).length_eq
    have hle : (downs u xs).length ≤ 8 := by
      rw [downs, List.length_map]
      exact Nat.le_trans (List.length_filter_le _ _) hg.len
    refine Parts_count (r0.mod0 (m1.trans m2)) (s1.mod0 m2) hu hg.len (fun h3 m3 => ?_) xs [] _ h2 rfl (by omega) (.refl _ _)
    rw [← hlen]
    refine Parts_check (by omega) ((s1.mod0 m2).mod0 m3) (g2.row.mod0 m3) (by rw [hlen]; exact hle) (fun d hd => ?_) (strict_of (srt_sorted _) ?_) (srt (downs u xs)) [] (1000 + xs.length) rfl (by rw [hlen]; omega)
    · have hd := (srt_perm (downs u xs)).mem_iff.1 hd
      obtain ⟨h1, t, ht, rfl⟩ := downs_mem hd
      exact ⟨h1, hu t ht⟩
    · refine (srt_perm (downs u xs)).nodup_iff.2 ?_
      have := valid_nodup hv
      exact (List.filter_sublist.map _).nodup this

end Go.Ev.Try
