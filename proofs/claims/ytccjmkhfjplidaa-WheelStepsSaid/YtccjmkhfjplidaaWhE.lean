/- Chapter 09: the law WheelSteps in plain Lean. -/
import Derived.Test.YtccjmkhfjplidaaWhD
set_option linter.all false
namespace Go.Ev.Try
set_option maxRecDepth 10000
open Go.Proofs

/-- a script of calls on two wheels -/
theorem script_loop2 {p : Option (Nat × Nat)} {len : Nat} {c : Cap} {os : List Op} {n b b2 : Nat} {B B2 : List Nat} {a : H} (hrow : Row a 3 p len c (os.flatMap encO)) (hown : ∀ x ∈ own p, x ∉ B ++ B2) (hdis : ∀ x ∈ B, x ∉ B2) (hlt : ∀ x ∈ B ++ B2, x < a.next) (hos : os.length ≤ 500) (hn : 2000 ≤ n)
    {F : Nat → Int → H → Option Unit} {E : H → Option Unit}
    (hF : ∀ m j h, F (m + 1) j h = cond (decide (j < (len : Int))) (if 0 ≤ j ∧ j < (Nat.cast len : Int) then nnK p fun b6 o7 => aggK h b6 (o7 + j.toNat * 3) 3 fun l8 => lc l8 fun v9 l10 => asInt .i64 v9 fun x11 => lc l10 fun v12 l13 => asInt .i64 v12 fun x14 => lc l13 fun v15 l16 => asInt .i64 v15 fun x17 => l0 l16 (newK (.cells [(.int .i64 0), (.int .i64 0), (.int .i64 0)] false) h fun i18 h19 => wrK h19 i18 0 3 [(.int .i64 x11), (.int .i64 x14), (.int .i64 x17)] fun h20 => aggK h20 i18 0 3 fun l21 => lc l21 fun v22 l23 => asInt .i64 v22 fun x24 => lc l23 fun v25 l26 => asInt .i64 v25 fun x27 => lc l26 fun v28 l29 => asInt .i64 v28 fun x30 => l0 l29 (outriderlaw09_does_11 n (some (b, 0)) x24 x27 x30 h20 fun r31 h32 => aggK h32 i18 0 3 fun l36 => lc l36 fun v37 l38 => asInt .i64 v37 fun x39 => lc l38 fun v40 l41 => asInt .i64 v40 fun x42 => lc l41 fun v43 l44 => asInt .i64 v43 fun x45 => l0 l44 (outriderlaw09_does_11 n (some (b2, 0)) x39 x42 x45 h32 fun r46 h47 => F m (IntKind.i64.wrap (j + 1)) h47))) else none) (E h))
    (hE : ∀ h', Wheel h' b B (runT (0, []) os).1 (runT (0, []) os).2 → Wheel h' b2 B2 (runT (0, []) os).1 (runT (0, []) os).2 → Mod (B ++ B2) a h' → E h' = some ()) :
    ∀ (ts pre : List Op) (m : Nat) (h : H), os = pre ++ ts → ts.length < m → Wheel h b B (runT (0, []) pre).1 (runT (0, []) pre).2 → Wheel h b2 B2 (runT (0, []) pre).1 (runT (0, []) pre).2 → Mod (B ++ B2) a h → F m pre.length h = some ()
  | [], pre, m + 1, h, hx, _, w, w2, hm => by
    have hlen := hrow.len encO_len (by omega)
    rw [hF, cast_not_lt (by rw [← hlen, hx]; simp), cond_false]
    rw [List.append_nil] at hx
    subst hx
    exact hE h w w2 hm
  | t :: ts, pre, m + 1, h, hx, hf, w, w2, hm => by
    have hlen := hrow.len encO_len (by omega)
    have ht : os[pre.length]? = some t := by rw [hx]; simp
    have hlt' : pre.length < os.length := by rw [hx]; simp
    have hle := hm.next
    rw [hF, cast_lt (by omega), cond_true, (hrow.mod hm hown).ix encO_len (by omega) ht]
    simp only [encO, lc_cons, l0_nil, asInt_int, newK_eq]
    rw [wrK_of (n := 3) (get_new_self _ _) rfl (by simp) rfl, spl_all _ _ (by simp), set_new, aggK_all (n := 3) (get_new_self _ _) rfl]
    simp only [lc_cons, l0_nil, asInt_int]
    have m1 : Mod [] h (h.new (.cells [.int .i64 t.kind, .int .i64 t.id, .int .i64 t.at'] false)) := (Mod.refl _ _).new _
    have g1 := get_new_self h (.cells [.int .i64 t.kind, .int .i64 t.id, .int .i64 t.at'] false)
    have hl := runT_len pre (0, [])
    simp only [List.length_nil, Nat.zero_add] at hl
    refine does_ret (w.mod0 m1) t (by omega) (n := n) (by omega) (by omega) _ fun r h' ⟨_, _, _, m2, w3⟩ => ?_
    have hB : h.next ∉ B := fun hx => by have := hlt _ (List.mem_append_left _ hx); omega
    rw [aggK_all (n := 3) ((m2.get _ (Nat.lt_succ_self _) hB).trans g1) rfl]
    simp only [lc_cons, l0_nil, asInt_int]
    have w2' := (w2.mod0 m1).mod m2 fun x hx hxB => hdis x hxB hx
    refine does_ret w2' t (by omega) (n := n) (by omega) (by omega) _ fun r h2' ⟨_, _, _, m3, w4⟩ => ?_
    rw [wrap_succ (by omega)]
    have ih := script_loop2 hrow hown hdis hlt hos hn hF hE ts (pre ++ [t]) m h2' (by rw [hx]; simp) (by simp at hf; omega)
    rw [List.length_append, List.length_singleton] at ih
    have hr : runT (0, []) (pre ++ [t]) = doT (runT (0, []) pre).1 (runT (0, []) pre).2 t := by unfold runT; rw [List.foldl_append]; rfl
    refine ih ?_ ?_ ?_
    · rw [hr]; exact w3.mod m3 fun x hx hxB => hdis x hx hxB
    · rw [hr]; exact w4
    · exact hm.trans ((m1.of_nil.trans (m2.sub fun i hi _ => List.mem_append_left _ hi)).trans (m3.sub fun i hi _ => List.mem_append_right _ hi))

theorem told_split {s now : Int} (hs : s ≤ now) (L : List (Int × Int)) : (told s L ++ told now (left s L)).Perm (told now L) := by
  have e1 : told s L = ((L.filter fun e => decide (e.2 ≤ now)).filter fun e => decide (e.2 ≤ s)).map (·.1) := by
    unfold told
    rw [List.filter_filter]
    congr 1
    apply List.filter_congr
    intro e _
    rw [Bool.eq_iff_iff]
    simp; omega
  have e2 : told now (left s L) = ((L.filter fun e => decide (e.2 ≤ now)).filter fun e => !decide (e.2 ≤ s)).map (·.1) := by
    unfold told left
    rw [List.filter_filter, List.filter_filter]
    congr 1
    apply List.filter_congr
    intro e _
    rw [Bool.eq_iff_iff]
    simp; omega
  rw [e1, e2, ← List.map_append]
  exact (List.filter_append_perm _ _).map _
theorem left_left {s now : Int} (hs : s ≤ now) (L : List (Int × Int)) : left now (left s L) = left now L := by
  unfold left
  rw [List.filter_filter]
  apply List.filter_congr
  intro e _
  rw [Bool.eq_iff_iff]
  simp; omega

/-- what is told, a row more -/
theorem Grow.appRow {a h : H} {p : Option (Nat × Nat)} {len : Nat} {c : Cap} {xs : List Int} (g : Grow a h 1 p len c (xs.map i64)) (ha : a.next ≤ h.next) {q : Option (Nat × Nat)} {ql : Nat} {qc : Cap} {ys : List Int} (hq : Row h 1 q ql qc (ys.map i64)) (hl : len + ql < 1000000) {f : Option (Nat × Nat) → Nat → Cap → H → Option Unit}
    (k : ∀ p' c' h', Grow a h' 1 p' (len + ql) c' ((xs ++ ys).map i64) → Mod (own p) h h' → f p' (len + ql) c' h' = some ()) : appK 1 8 p len c (evSrc 1 (.slice q ql qc) h) h f = some () := by
  have hlen := hq.length
  obtain ⟨p', c', h', e, g', m⟩ := g.app (β := Unit) (bytes := 8) ha hq.src hlen (by
    rw [List.all_map]; simp [isCell]) (by omega) (by omega) (fun h0 => by
      subst h0
      rw [Nat.zero_mul] at hlen
      exact List.eq_nil_of_length_eq_zero hlen)
  rw [e]
  rw [← List.map_append] at g'
  exact k p' c' h' g' m

/-- how often an id is in a row -/
theorem steps_L5 {h : H} {q : Option (Nat × Nat)} {ql : Nat} {qc : Cap} {ids : List Int} (hrow : Row h 1 q ql qc (ids.map i64)) (hl : ids.length < 1000000) (n : Nat) (kk : Bool → H → Option Unit) (m1 : Nat) (b b2 : Nat) (id : Int) (p : Option (Nat × Nat)) (pl : Nat) (pc : Cap) (zl zj : Int) (p2 : Option (Nat × Nat)) (pl2 : Nat) (pc2 : Cap) (p3 : Option (Nat × Nat)) (pl3 : Nat) (pc3 : Cap) :
    ∀ (ts pre : List Int) (m : Nat), ids = pre ++ ts → ts.length < m →
      outriderlaw09_WheelSteps_3_L5 n kk m1 m (some (b, 0)) (some (b2, 0)) p pl pc p2 pl2 pc2 id (cnt id pre : Nat) p3 pl3 pc3 zl zj q ql qc ql pre.length h =
        cond (((cnt id ids : Nat) : Int) != 1) (kk false h) (outriderlaw09_WheelSteps_3_L4 n kk m1 (some (b, 0)) (some (b2, 0)) p pl pc p2 pl2 pc2 p3 pl3 pc3 zl (IntKind.i64.wrap (zj + 1)) h)
  | [], pre, m + 1, hx, _ => by
    have hlen := hrow.len1
    rw [outriderlaw09_WheelSteps_3_L5_eq, cast_not_lt (by rw [← hlen, hx]; simp), cond_false]
    rw [List.append_nil] at hx
    subst hx
    rfl
  | t :: ts, pre, m + 1, hx, hf => by
    have hlen := hrow.len1
    have ht : ids[pre.length]? = some t := by rw [hx]; simp
    have hlt : pre.length < ids.length := by rw [hx]; simp
    have hc := cnt_le id pre
    have ih := steps_L5 hrow hl n kk m1 b b2 id p pl pc zl zj p2 pl2 pc2 p3 pl3 pc3 ts (pre ++ [t]) m (by rw [hx]; simp) (by simp at hf; omega)
    rw [List.length_append, List.length_singleton, cnt_append, cnt_one] at ih
    rw [outriderlaw09_WheelSteps_3_L5_eq, cast_lt (by omega), cond_true, hrow.ix1 ht, asInt_int, wrap_succ (k := pre.length) (by omega)]
    by_cases h1 : t = id
    · rw [show ((t : Int) == id) = true by simpa using h1, cond_true, wrap_succ (k := cnt id pre) (by omega)]
      rw [if_pos h1] at ih
      exact ih
    · rw [show ((t : Int) == id) = false by simpa using h1, cond_false]
      rw [if_neg h1] at ih
      exact ih

theorem steps_L4 {b b2 : Nat} {B B2 : List Nat} {h : H} {now : Int} {L : List (Int × Int)} (w : Wheel h b B now L) (w2 : Wheel h b2 B2 now L) {p q : Option (Nat × Nat)} {pl ql : Nat} {pc qc : Cap} {xs ys : List Int} (hp : Row h 1 p pl pc (xs.map i64)) (hq : Row h 1 q ql qc (ys.map i64)) (hperm : ys.Perm xs) (hnd : xs.Nodup) (hl : xs.length < 1000) {n : Nat} (hn : 2000 ≤ n) {kk : Bool → H → Option Unit} (hk : ∀ h, kk true h = some ()) :
    ∀ (ts pre : List Int) (m : Nat), xs = pre ++ ts → ts.length < m → outriderlaw09_WheelSteps_3_L4 n kk m (some (b, 0)) (some (b2, 0)) p pl pc q ql qc p pl pc pl pre.length h = some ()
  | [], pre, m + 1, hx, _ => by
    have h1 := hp.len1
    have h2 := hq.len1
    have h3 := hperm.length_eq
    rw [outriderlaw09_WheelSteps_3_L4_eq, cast_not_lt (by rw [← h1, hx]; simp), cond_false]
    refine alive_ret _ (by omega) _ fun r2 h2' ⟨e2, m2⟩ => ?_
    have w' := w.mod0 m2
    have w2' := w2.mod0 m2
    rw [e2, cond_true, show (((pl : Nat) : Int) == ((ql : Nat) : Int)) = true by simp; omega, cond_true, w'.len n, Option.bind_some, w2'.len n, Option.bind_some]
    simp only
    rw [show (((L.length : Nat) : Int) == ((L.length : Nat) : Int)) = true by simp, cond_true, w'.nowIs n, Option.bind_some, w2'.nowIs n, Option.bind_some]
    simp only
    rw [show (now == now) = true by simp]
    exact hk _
  | t :: ts, pre, m + 1, hx, hf => by
    have h1 := hp.len1
    have h2 := hq.len1
    have h3 := hperm.length_eq
    have ht : xs[pre.length]? = some t := by rw [hx]; simp
    have hlt : pre.length < xs.length := by rw [hx]; simp
    rw [outriderlaw09_WheelSteps_3_L4_eq, cast_lt (by omega), cond_true, hp.ix1 ht, asInt_int]
    have h5 := steps_L5 hq (by omega) n kk m b b2 t p pl pc pl pre.length q ql qc p pl pc ys [] n rfl (by omega)
    refine Eq.trans h5 ?_
    have hc : cnt t ys = 1 := cnt_some (hperm.nodup_iff.2 hnd) (hperm.mem_iff.2 (by rw [hx]; simp))
    rw [hc, show (((1 : Nat) : Int) != 1) = false by decide, cond_false, wrap_succ (by omega)]
    have ih := steps_L4 w w2 hp hq hperm hnd hl hn hk ts (pre ++ [t]) m (by rw [hx]; simp) (by simp at hf; omega)
    rw [List.length_append, List.length_singleton] at ih
    exact ih

/-- time goes on in steps on the second wheel -/
theorem steps_L3 {b b2 : Nat} {B B2 : List Nat} {a : H} {now : Int} {L0 : List (Int × Int)} (hdis : ∀ x ∈ B, x ∉ B2) (hlt : ∀ x ∈ B ++ B2, x < a.next) (hnow : now ≤ 1099511627776) (hL0 : L0.length ≤ 500) (hnd : (told now L0).Nodup)
    {p : Option (Nat × Nat)} {pl : Nat} {pc : Cap} (hp : Row a 1 p pl pc ((told now L0).map i64)) (hpo : ∀ x ∈ own p, x ∉ B2)
    {zp : Option (Nat × Nat)} {zl : Nat} {zc : Cap} {zs : List Int} (hz : Row a 1 zp zl zc (zs.map i64)) (hzo : ∀ x ∈ own zp, x ∉ B2) (hzl : zs.length ≤ 300) {n : Nat} (hn : 2000 ≤ n) {kk : Bool → H → Option Unit} (hk : ∀ h, kk true h = some ()) :
    ∀ (ts pre : List Int) (m : Nat) (h : H) (q : Option (Nat × Nat)) (ql : Nat) (qc : Cap) (ms : List Int) (now2 : Int) (L2 : List (Int × Int)), zs = pre ++ ts → ts.length < m → Wheel h b B now (left now L0) → Wheel h b2 B2 now2 L2 → Mod B2 a h → Grow a h 1 q ql qc (ms.map i64) → now2 ≤ now → (ms ++ told now L2).Perm (told now L0) → left now L2 = left now L0 → L2.length ≤ 500 →
      outriderlaw09_WheelSteps_3_L3 n kk m now (some (b, 0)) (some (b2, 0)) p pl pc q ql qc zp zl zc zl pre.length h = some ()
  | [], pre, m + 1, h, q, ql, qc, ms, now2, L2, hx, _, w, w2, hm, g, hle, hperm, hleft, hl2 => by
    have h1 := hz.len1
    rw [outriderlaw09_WheelSteps_3_L3_eq, cast_not_lt (by rw [← h1, hx]; simp), cond_false]
    have hgl := g.row.len1
    have hpl := hperm.length_eq
    rw [List.length_append] at hpl
    have htl := told_lt (upto := now) (L := L0)
    refine w2.move hle hnow (by omega) (n := n) (by omega) (by omega) _ fun r h2 ⟨m2, g2, w3⟩ => ?_
    have gq : Grow a h2 1 q ql qc (ms.map i64) := g.mod m2 fun x hx hxB => by have := (g.own_ge x hx).1; have := hlt x (List.mem_append_right _ hxB); omega
    have hrl := g2.row.len1
    refine Grow.appRow gq (by have := hm.next; have := m2.next; omega) g2.row (by omega) fun p' c' h3 g3 m3 => ?_
    have hle3 := m3.next
    have keep : ∀ x ∈ B ++ B2, x ∉ own q := fun x hx hxq => by have := (g.own_ge x hxq).1; have := hlt x hx; omega
    have w5 : Wheel h3 b B now (left now L0) := (w.mod m2 fun x hx hxB => hdis x hx hxB).mod m3 fun x hx hxq => keep x (List.mem_append_left _ hx) hxq
    have w6 : Wheel h3 b2 B2 now (left now L2) := w3.mod m3 fun x hx hxq => keep x (List.mem_append_right _ hx) hxq
    rw [hleft] at w6
    have hrow : Row h3 1 p pl pc ((told now L0).map i64) := ((hp.mod hm hpo).mod m2 hpo).mod m3 fun x hx hxq => by
      have := hp.lt x hx
      have := (g.own_ge x hxq).1
      omega
    exact steps_L4 w5 w6 hrow g3.row hperm hnd (by omega) hn hk (told now L0) [] n rfl (by omega)
  | t :: ts, pre, m + 1, h, q, ql, qc, ms, now2, L2, hx, hf, w, w2, hm, g, hle, hperm, hleft, hl2 => by
    have h1 := hz.len1
    have ht : zs[pre.length]? = some t := by rw [hx]; simp
    have hlt' : pre.length < zs.length := by rw [hx]; simp
    have hgl := g.row.len1
    have hpl := hperm.length_eq
    rw [List.length_append] at hpl
    have htl := told_lt (upto := now) (L := L0)
    have ih := fun h q ql qc ms now2 L2 => steps_L3 (b := b) (b2 := b2) (B := B) hdis hlt hnow hL0 hnd hp hpo hz hzo hzl hn hk ts (pre ++ [t]) m h q ql qc ms now2 L2 (by rw [hx]; simp) (by simp at hf; omega)
    rw [List.length_append, List.length_singleton] at ih
    rw [outriderlaw09_WheelSteps_3_L3_eq, cast_lt (by omega), cond_true, (hz.mod hm hzo).ix1 ht, asInt_int, wrap_succ (by omega)]
    by_cases hle' : t ≤ now
    · rw [decide_eq_true hle', cond_true]
      refine w2.moveAny t (by omega) (n := n) (by omega) (by omega) _ fun r h2 ⟨m2, g2, w3⟩ => ?_
      have gq : Grow a h2 1 q ql qc (ms.map i64) := g.mod m2 fun x hx hxB => by have := (g.own_ge x hx).1; have := hlt x (List.mem_append_right _ hxB); omega
      have hrl := g2.row.len1
      have hml := moveTold_len (now := now2) (L := L2) (upto := t)
      refine Grow.appRow gq (by have := hm.next; have := m2.next; omega) g2.row (by omega) fun p' c' h3 g3 m3 => ?_
      have keep : ∀ x ∈ B ++ B2, x ∉ own q := fun x hx hxq => by have := (g.own_ge x hxq).1; have := hlt x hx; omega
      have hL2' := moveT_len (now := now2) (L := L2) (upto := t)
      refine ih h3 p' _ c' (ms ++ moveTold now2 L2 t) (moveT now2 L2 t).1 (moveT now2 L2 t).2 ((w.mod m2 fun x hx hxB => hdis x hx hxB).mod m3 fun x hx hxq => keep x (List.mem_append_left _ hx) hxq) (w3.mod m3 fun x hx hxq => keep x (List.mem_append_right _ hx) hxq) ?_ g3 ?_ ?_ ?_ (by omega)
      · exact (hm.trans m2).trans' m3 fun i hi hlt'' => by have := (g.own_ge i hi).1; omega
      · unfold moveT
        split
        · exact hle'
        · exact hle
      · unfold moveT moveTold
        split
        · rw [List.append_assoc]
          exact (List.Perm.append_left ms (told_split hle' L2)).trans hperm
        · rw [List.append_nil]; exact hperm
      · unfold moveT
        split
        · rw [← hleft]; exact left_left hle' L2
        · exact hleft
    · rw [decide_eq_false hle', cond_false]
      exact ih h q ql qc ms now2 L2 w w2 hm g hle hperm hleft hl2

section
variable {p : Option (Nat × Nat)} {l : Nat} {c : Cap} {tg : Option Tgt} {cs : List AV} {B : Nat} {p2 : Option (Nat × Nat)} {l2 : Nat} {c2 : Cap} {tg2 : Option Tgt} {cs2 : List AV} {B2 : Nat}

theorem wheelSteps_true (w0 : Arg 0 [.int .i64, .int .i64, .int .i64] B p l c cs) {now : Int} (_ : (Lit.int .i64 now).wf = true) (w2 : Arg 1 [.int .i64] B2 p2 l2 c2 cs2) : ∃ n, RetK (fun kk => outriderlaw09_WheelSteps_3 n p l c now p2 l2 c2 (H0 [(tg, cs), (tg2, cs2)]) kk) True' := by
  obtain ⟨os, rfl, _, row⟩ := open_ops (rows := [(tg, cs), (tg2, cs2)]) rfl w0
  obtain ⟨zs, rfl, _, sz, _⟩ := sl_ints (rows := [(tg, cs), (tg2, cs2)]) rfl w2
  have row2 := Row.of_sl sz (WF_H0 _)
  refine ⟨2000, fun kk hk0 => ?_⟩
  have hk : ∀ h, kk true h = some () := fun h => hk0 _ _ rfl
  show outriderlaw09_WheelSteps_3 2000 p os.length c now p2 zs.length c2 (H0 [(tg, cs), (tg2, cs2)]) kk = some ()
  rw [outriderlaw09_WheelSteps_3_eq]
  generalize H0 [(tg, cs), (tg2, cs2)] = a at *
  obtain ⟨r, h1, e1, m1, b, B1, rfl, w1, hB⟩ := Wheel.new a (n := 2000) (by omega)
  rw [e1, Option.bind_some]
  obtain ⟨r, h2, e2, m2, b2, B2', rfl, w2, hB2⟩ := Wheel.new h1 (n := 2000) (by omega)
  simp only
  rw [e2, Option.bind_some, eqVK_ptr Try.underlying24, Option.isNone_some, cond_false, eqVK_ptr Try.underlying24, Option.isNone_some, cond_false]
  have hlt1 := w1.lt
  have w1' := w1.mod0 m2
  have early : outriderlaw09_WheelSteps_3_J0 2000 kk p os.length c now p2 zs.length c2 (some (b, 0)) (some (b2, 0)) true h2 = some () := by
    rw [outriderlaw09_WheelSteps_3_J0_eq, cond_true, eqVK_ptr Try.underlying24, Option.isNone_some, Bool.not_false, cond_true, eqVK_ptr Try.underlying24, Option.isNone_some, Bool.not_false, cond_true]
    exact alive_ret _ (by omega) _ fun r2 h3 ⟨e, _⟩ => by rw [e]; exact hk _
  by_cases ho1 : os.length ≤ 300
  · rw [show decide ((os.length : Int) > 300) = false by simp; omega, cond_false]
    by_cases ho2 : zs.length ≤ 300
    · rw [show decide ((zs.length : Int) > 300) = false by simp; omega, outriderlaw09_WheelSteps_3_J0_eq, cond_false]
      have hn1 := m1.next
      have hno : ∀ {q : Option (Nat × Nat)}, (∀ x ∈ own q, x < a.next) → ∀ x ∈ own q, x ∉ B1 ++ B2' := fun hq x hx hxB => by
        have := hq x hx
        rcases List.mem_append.1 hxB with h | h
        · have := hB x h; omega
        · have := hB2 x h; omega
      have hdis : ∀ x ∈ B1, x ∉ B2' := fun x hx hx2 => by have := hlt1 x hx; have := hB2 x hx2; omega
      have m12 := m1.trans m2
      refine script_loop2 (a := h2) (b := b) (b2 := b2) (B := B1) (B2 := B2') (os := os) (row.mod0 m12) (hno fun x hx => Row.lt row x hx) hdis (fun x hx => (List.mem_append.1 hx).elim (w1'.lt x) (w2.lt x)) (by omega) (Nat.le_refl _) (F := fun m j h => outriderlaw09_WheelSteps_3_L1 2000 kk m now p2 zs.length c2 (some (b, 0)) (some (b2, 0)) p os.length c os.length j h) (fun m j h => outriderlaw09_WheelSteps_3_L1_eq ..) (fun h3 u1 u2 m3 => ?_) os [] 2000 h2 rfl (by omega) w1' w2 (Mod.refl _ _)
      have hl := runT_len os (0, [])
      simp only [List.length_nil, Nat.zero_add] at hl
      generalize runT (0, []) os = s at *
      obtain ⟨nw, L⟩ := s
      simp only at *
      have d := u1.doc
      rw [u1.nowIs 2000, Option.bind_some]
      have badJ : outriderlaw09_WheelSteps_3_J2 2000 kk now p2 zs.length c2 (some (b, 0)) (some (b2, 0)) true h3 = some () := by
        rw [outriderlaw09_WheelSteps_3_J2_eq, cond_true]
        exact alive_ret _ (by omega) _ fun r2 h3 ⟨e, _⟩ => by rw [e]; exact hk _
      by_cases k1 : now < nw
      · rw [decide_eq_true k1, cond_true]; exact badJ
      rw [decide_eq_false k1, cond_false]
      by_cases k2 : now > 1099511627776
      · rw [decide_eq_true k2]; exact badJ
      rw [decide_eq_false k2, outriderlaw09_WheelSteps_3_J2_eq, cond_false]
      refine u1.move (by omega) (by omega) (by omega) (n := 2000) (by omega) (by omega) _ fun r h4 ⟨m4, g4, u3⟩ => ?_
      have u4 := u2.mod m4 fun x hx hxB => hdis x hxB hx
      have hh4 : ∀ x ∈ B1 ++ B2', x < h4.next := fun x hx => (List.mem_append.1 hx).elim (u3.lt x) (u4.lt x)
      refine steps_L3 (a := h4) (b := b) (b2 := b2) (B := B1) (B2 := B2') (L0 := L) hdis hh4 (by omega) (by omega) (told_nodup d now) g4.row (fun x hx hxB => ?_) (((row2.mod0 m12).mod m3 (hno fun x hx => Row.lt row2 x hx)).mod m4 fun x hx hxB => hno (fun x hx => Row.lt row2 x hx) x hx (List.mem_append_left _ hxB)) (fun x hx hxB => hno (fun x hx => Row.lt row2 x hx) x hx (List.mem_append_right _ hxB)) ho2 (Nat.le_refl _) hk zs [] 2000 h4 none 0 (.known 0) [] nw L rfl (by omega) u3 u4 (Mod.refl _ _) .nil (by omega) (.refl _) rfl (by omega)
      have := (g4.own_ge x hx).1
      have := u2.lt x hxB
      omega
    · rw [show decide ((zs.length : Int) > 300) = true by simp; omega]
      exact early
  · rw [show decide ((os.length : Int) > 300) = true by simp; omega, cond_true]
    exact early
end

end Go.Ev.Try
