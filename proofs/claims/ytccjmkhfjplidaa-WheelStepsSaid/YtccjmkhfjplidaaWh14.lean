/- Chapter 09: alive; scripts; calls on a wheel, and on the document's. -/
import Derived.Test.YtccjmkhfjplidaaWh13
set_option linter.all false
namespace Go.Ev.Try
set_option maxRecDepth 10000
open Go.Proofs

def encO (o : Op) : List AV := [i64 o.kind, i64 o.id, i64 o.at']
theorem encO_len : ∀ o : Op, (encO o).length = 3 := fun _ => rfl
theorem open_ops {rows : Rows0} {i : Nat} {p : Option (Nat × Nat)} {l : Nat} {c : Cap} {tg : Option Tgt} {cs : List AV} {B : Nat} (hi : rows[i]? = some (tg, cs)) (w : Arg i [.int .i64, .int .i64, .int .i64] B p l c cs) :
    ∃ xs : List Op, xs.length = l ∧ l * B ≤ reachBytes ∧ Row (H0 rows) 3 p l c (xs.flatMap encO) := by
  obtain ⟨xs, h1, h2, h3, _⟩ := Row.of_arg (enc := encO) (P := fun _ => True) hi w encO_len fun vs hv => by
    cases hv with
    | cons a b =>
      cases b with
      | cons b d =>
        cases d with
        | cons d e =>
          cases e
          obtain ⟨x, rfl, _⟩ := a
          obtain ⟨y, rfl, _⟩ := b
          obtain ⟨z, rfl, _⟩ := d
          exact ⟨⟨x, y, z⟩, rfl, trivial⟩
  exact ⟨xs, h1, h2, h3⟩

/-- a run by its steps -/
theorem RetK.then {α : Type} {c : (α → H → Option Unit) → Option Unit} {P : α → H → Prop} (d : RetK c P) {kk : α → H → Option Unit} (hk : ∀ r h', P r h' → kk r h' = some ()) : c kk = some () := d kk hk

theorem told_lt {upto : Int} {L : List (Int × Int)} : (told upto L).length ≤ L.length := by unfold told; rw [List.length_map]; exact List.length_filter_le _ _
theorem left_lt {upto : Int} {L : List (Int × Int)} : (left upto L).length ≤ L.length := List.length_filter_le _ _

theorem alive_ret (h : H) {n : Nat} (hn : 600 ≤ n) : RetK (fun kk => outriderlaw09_alive_10 n h kk) fun r h' => r = true ∧ Mod [] h h' := by
  intro kk hk
  show outriderlaw09_alive_10 n h kk = some ()
  rw [outriderlaw09_alive_10_eq]
  obtain ⟨r, h1, e1, m1, b, B, rfl, w1, hB⟩ := Wheel.new h (n := n) (by omega)
  rw [e1, Option.bind_some, eqVK_ptr Try.underlying24]
  simp only [Option.isNone_some]
  rw [cond_false]
  obtain ⟨h2, e2, m2, w2⟩ := w1.set n (show may 7 5 by decide)
  rw [e2, Option.bind_some]
  obtain ⟨h3, e3, m3, w3⟩ := w2.set n (show may 3 5 by decide)
  rw [e3, Option.bind_some]
  obtain ⟨h4, e4, m4, w4⟩ := w3.set n (show may 9 2 by decide)
  rw [e4, Option.bind_some]
  rw [show ins (9, 2) (wo (ins (3, 5) (wo (ins (7, 5) (wo [] 7)) 3)) 9) = [(9, 2), (3, 5), (7, 5)] from by decide] at w4
  have mm : Mod B h1 h4 := (m2.trans m3).trans m4
  refine w4.move (upto := 4) (by omega) (by omega) (by simp) hn (by simp; omega) _ fun r5 h5 ⟨m5, g5, w5⟩ => ?_
  rw [show left 4 [(9, 2), (3, 5), (7, 5)] = [((3 : Int), (5 : Int)), (7, 5)] from by decide] at w5
  rw [show told 4 [(9, 2), (3, 5), (7, 5)] = [9] from by decide] at g5
  refine w5.move (upto := 100) (by omega) (by omega) (by simp) hn (by simp; omega) _ fun r6 h6 ⟨m6, g6, w6⟩ => ?_
  rw [show left 100 [((3 : Int), (5 : Int)), (7, 5)] = [] from by decide] at w6
  rw [show told 100 [((3 : Int), (5 : Int)), (7, 5)] = [3, 7] from by decide] at g6
  simp only [newK_eq]
  have m7 : Mod [] h6 (h6.new (.cells [.int .i64 9] false)) := (Mod.refl _ _).new _
  have row5 : Row h6 1 r5.1 r5.2.1 r5.2.2 ([9].map i64) := g5.row.mod m6 fun x hx hxB => by have := (g5.own_ge x hx).1; have := w4.lt x hxB; omega
  have r9 : Row (h6.new (.cells [.int .i64 9] false)) 1 (some (h6.next, 0)) 1 (.known 1) ([9].map i64) := .row (by simp) (get_new_self _ _) rfl (by simp) (.inr ⟨1, rfl, Nat.le_refl _⟩)
  rw [Same_eq (row5.mod0 m7) r9 (by simp) (by simp; omega), Option.bind_some]
  simp only [decide_true]
  rw [cond_true]
  have m8 := m7.new (.cells [.int .i64 3, .int .i64 7] false)
  have r37 : Row ((h6.new (.cells [.int .i64 9] false)).new (.cells [.int .i64 3, .int .i64 7] false)) 1 (some ((h6.new (.cells [.int .i64 9] false)).next, 0)) 2 (.known 2) ([3, 7].map i64) := .row (by simp) (get_new_self _ _) rfl (by simp) (.inr ⟨2, rfl, Nat.le_refl _⟩)
  rw [Same_eq (g6.row.mod0 m8) r37 (by simp) (by simp; omega), Option.bind_some]
  simp only [decide_true]
  have w8 := w6.mod0 m8
  rw [cond_true, w8.nowIs n, Option.bind_some]
  simp only
  rw [show ((100 : Int) == 100) = true by decide, cond_true, w8.len n, Option.bind_some]
  refine hk _ _ ⟨rfl, ?_⟩
  exact (m1.trans' ((mm.trans m5).trans m6) fun i hi hl => by have := hB i hi; omega).trans m8

/-- behind calls -/
def runT (s : Int × List (Int × Int)) (os : List Op) : Int × List (Int × Int) := os.foldl (fun s o => doT s.1 s.2 o) s
theorem runT_len (os : List Op) : ∀ s : Int × List (Int × Int), (runT s os).2.length ≤ s.2.length + os.length := by
  induction os with
  | nil => intro s; exact Nat.le_refl _
  | cons o os ih =>
    intro s
    have h1 := ih (doT s.1 s.2 o)
    have h2 := doT_len s.1 s.2 o
    simp only [List.length_cons]
    unfold runT at h1 ⊢
    rw [List.foldl_cons]
    omega

/-- a script of calls on a wheel, in a law's loop -/
theorem script_loop {p : Option (Nat × Nat)} {len : Nat} {c : Cap} {os : List Op} {n b : Nat} {B : List Nat} {a : H} (hrow : Row a 3 p len c (os.flatMap encO)) (hown : ∀ x ∈ own p, x ∉ B) (hos : os.length ≤ 500) (hn : 2000 ≤ n)
    {F : Nat → Int → H → Option Unit} {E : H → Option Unit}
    (hF : ∀ m j h, F (m + 1) j h = cond (decide (j < (len : Int))) (if 0 ≤ j ∧ j < (Nat.cast len : Int) then nnK p fun b6 o7 => aggK h b6 (o7 + j.toNat * 3) 3 fun l8 => lc l8 fun v9 l10 => asInt .i64 v9 fun x11 => lc l10 fun v12 l13 => asInt .i64 v12 fun x14 => lc l13 fun v15 l16 => asInt .i64 v15 fun x17 => l0 l16 (newK (.cells [(.int .i64 0), (.int .i64 0), (.int .i64 0)] false) h fun i18 h19 => wrK h19 i18 0 3 [(.int .i64 x11), (.int .i64 x14), (.int .i64 x17)] fun h20 => aggK h20 i18 0 3 fun l21 => lc l21 fun v22 l23 => asInt .i64 v22 fun x24 => lc l23 fun v25 l26 => asInt .i64 v25 fun x27 => lc l26 fun v28 l29 => asInt .i64 v28 fun x30 => l0 l29 (outriderlaw09_does_11 n (some (b, 0)) x24 x27 x30 h20 fun r31 h32 => F m (IntKind.i64.wrap (j + 1)) h32)) else none) (E h))
    {s0 : Int × List (Int × Int)} (hs0 : s0.2.length ≤ 500) (hE : ∀ h', Wheel h' b B (runT s0 os).1 (runT s0 os).2 → Mod B a h' → E h' = some ()) :
    ∀ (ts pre : List Op) (m : Nat) (h : H), os = pre ++ ts → ts.length < m → Wheel h b B (runT s0 pre).1 (runT s0 pre).2 → Mod B a h → F m pre.length h = some ()
  | [], pre, m + 1, h, hx, _, w, hm => by
    have hlen := hrow.len encO_len (by omega)
    rw [hF, cast_not_lt (by rw [← hlen, hx]; simp), cond_false]
    rw [List.append_nil] at hx
    subst hx
    exact hE h w hm
  | t :: ts, pre, m + 1, h, hx, hf, w, hm => by
    have hlen := hrow.len encO_len (by omega)
    have ht : os[pre.length]? = some t := by rw [hx]; simp
    have hlt : pre.length < os.length := by rw [hx]; simp
    rw [hF, cast_lt (by omega), cond_true, (hrow.mod hm hown).ix encO_len (by omega) ht]
    simp only [encO, lc_cons, l0_nil, asInt_int, newK_eq]
    rw [wrK_of (n := 3) (get_new_self _ _) rfl (by simp) rfl, spl_all _ _ (by simp), set_new, aggK_all (n := 3) (get_new_self _ _) rfl]
    simp only [lc_cons, l0_nil, asInt_int]
    have m1 : Mod [] h (h.new (.cells [.int .i64 t.kind, .int .i64 t.id, .int .i64 t.at'] false)) := (Mod.refl _ _).new _
    have hl := runT_len pre s0
    refine does_ret (w.mod0 m1) t (by omega) (n := n) (by omega) (by omega) _ fun r h' ⟨_, _, _, m2, w2⟩ => ?_
    rw [wrap_succ (by omega)]
    have ih := script_loop hrow hown hos hn hF hs0 hE ts (pre ++ [t]) m h' (by rw [hx]; simp) (by simp at hf; omega)
    rw [List.length_append, List.length_singleton] at ih
    have hr : runT s0 (pre ++ [t]) = doT (runT s0 pre).1 (runT s0 pre).2 t := by unfold runT; rw [List.foldl_append]; rfl
    refine ih ?_ (hm.trans (m1.of_nil.trans m2))
    rw [hr]; exact w2

/-- the same calls on a wheel, and on the document's: all answers are the same -/
theorem plays_loop {p : Option (Nat × Nat)} {len : Nat} {c : Cap} {os : List Op} {n b b4 b6 : Nat} {B : List Nat} {a : H} (hrow : Row a 3 p len c (os.flatMap encO)) (hown : ∀ x ∈ own p, x ∉ b4 :: b6 :: B) (hB : ∀ x ∈ B, x < a.next) (h4 : b4 < a.next ∧ b4 ∉ B) (h6 : b6 < a.next ∧ b6 ∉ B) (h46 : b4 ≠ b6) (g6 : a.get b6 = some (.cells [.int .i64 0, .slice none 0 (.known 0)] false)) (hos : os.length ≤ 500) (hn : 2000 ≤ n)
    {kk : Int × Option (Nat × Nat) × Nat × Cap × Bool → H → Option Unit} (hk : ∀ q ql qc h', TRow h' q ql qc (runT (0, []) os).2 → Wheel h' b B (runT (0, []) os).1 (runT (0, []) os).2 → Mod (b4 :: b6 :: B) a h' → kk ((runT (0, []) os).1, q, ql, qc, true) h' = some ()) :
    ∀ (ts pre : List Op) (m : Nat) (h : H) (q : Option (Nat × Nat)) (ql : Nat) (qc : Cap), os = pre ++ ts → ts.length < m → Wheel h b B (runT (0, []) pre).1 (runT (0, []) pre).2 → Mod (b4 :: b6 :: B) a h → h.get b6 = a.get b6 → TRow h q ql qc (runT (0, []) pre).2 → (∀ x ∈ own q, a.next ≤ x) → h.get b4 = some (.cells [i64 (runT (0, []) pre).1, .slice q ql qc] false) →
      outriderlaw09_plays_18_L0 n kk m (some (b, 0)) (some (b4, 0)) (some (b6, 0)) p len c len pre.length h = some ()
  | [], pre, m + 1, h, q, ql, qc, hx, _, w, hm, e6, hq, hoq, g4 => by
    have hlen := hrow.len encO_len (by omega)
    rw [outriderlaw09_plays_18_L0_eq, cast_not_lt (by rw [← hlen, hx]; simp), cond_false]
    rw [List.append_nil] at hx
    subst hx
    simp only [nnK_some']
    rw [aggK_all (n := 2) g4 rfl]
    simp only [lc_cons, l0_nil, asInt_int, asSlice_slice]
    rw [wrK_of (n := 2) (e6.trans g6) rfl (by simp) rfl, spl_all _ _ (by simp), aggK_all (n := 2) (get_set_self _ _ _) rfl]
    simp only [lc_cons, l0_nil, asInt_int, asSlice_slice]
    have m1 : Mod [b6] h (h.set b6 (.cells [i64 (runT (0, []) os).1, .slice q ql qc] false)) := (Mod.refl _ _).set (.inr (by simp)) _
    refine hk _ _ _ _ (Row.mod hq m1 fun x hx hm' => ?_) (w.mod m1 fun x hx hm' => ?_) (hm.set (.inr (by simp)) _)
    · have := hoq x hx; simp at hm'; omega
    · simp at hm'; subst hm'; exact h6.2 hx
  | t :: ts, pre, m + 1, h, q, ql, qc, hx, hf, w, hm, e6, hq, hoq, g4 => by
    have hlen := hrow.len encO_len (by omega)
    have ht : os[pre.length]? = some t := by rw [hx]; simp
    have hlt : pre.length < os.length := by rw [hx]; simp
    have hl := runT_len pre (0, [])
    have hle := hm.next
    generalize hs : runT (0, []) pre = s at *
    obtain ⟨nw, L⟩ := s
    simp only at *
    have hL : L.length ≤ 500 := by simp only [List.length_nil] at hl; omega
    rw [outriderlaw09_plays_18_L0_eq, cast_lt (by omega), cond_true, (hrow.mod hm hown).ix encO_len (by omega) ht]
    simp only [encO, lc_cons, l0_nil, asInt_int, newK_eq, nnK_some']
    rw [wrK_of (n := 3) (get_new_self _ _) rfl (by simp) rfl, spl_all _ _ (by simp), set_new]
    have m1 : Mod [] h (h.new (.cells [.int .i64 t.kind, .int .i64 t.id, .int .i64 t.at'] false)) := (Mod.refl _ _).new _
    have g1 := get_new_self h (.cells [.int .i64 t.kind, .int .i64 t.id, .int .i64 t.at'] false)
    have n1 : (h.new (.cells [.int .i64 t.kind, .int .i64 t.id, .int .i64 t.at'] false)).next = h.next + 1 := rfl
    generalize h.new (.cells [.int .i64 t.kind, .int .i64 t.id, .int .i64 t.at'] false) = h1 at *
    rw [aggK_all (n := 2) ((m1.get _ (by omega) (by simp)).trans g4) rfl]
    simp only [lc_cons, l0_nil, asInt_int, asSlice_slice]
    rw [aggK_all (n := 3) g1 rfl]
    simp only [lc_cons, l0_nil, asInt_int]
    obtain ⟨r, h2, e2, d1, d2, d3, d4, d5, m2⟩ := refDo (Row.mod0 hq m1) (by omega) (n := n) (by omega) t
    rw [e2, Option.bind_some]
    simp only
    have hn2 := m2.next
    have m3 : Mod [] h2 (h2.new (.cells [.int .i64 0, .slice none 0 (.known 0)] false)) := (Mod.refl _ _).new _
    rw [wrK_of (n := 2) (get_new_self _ _) rfl (by simp) rfl, spl_all _ _ (by simp), set_new, aggK_all (n := 2) (get_new_self _ _) rfl]
    simp only [lc_cons, l0_nil, asInt_int, asSlice_slice]
    have m3 : Mod [] h2 (h2.new (.cells [.int .i64 r.1, .slice r.2.1 r.2.2.1 r.2.2.2.1] false)) := (Mod.refl _ _).new _
    have n3 : (h2.new (.cells [.int .i64 r.1, .slice r.2.1 r.2.2.1 r.2.2.2.1] false)).next = h2.next + 1 := rfl
    generalize h2.new (.cells [.int .i64 r.1, .slice r.2.1 r.2.2.1 r.2.2.2.1] false) = h3 at *
    have m13 := (m1.trans m2).trans m3
    rw [wrK_of (n := 2) ((m13.get _ (by omega) (by simp)).trans g4) rfl (by simp) rfl, spl_all _ _ (by simp)]
    have m4 : Mod [b4] h3 (h3.set b4 (.cells [.int .i64 r.1, .slice r.2.1 r.2.2.1 r.2.2.2.1] false)) := (Mod.refl _ _).set (.inr (by simp)) _
    have g4' := get_set_self h3 b4 (.cells [.int .i64 r.1, .slice r.2.1 r.2.2.1 r.2.2.2.1] false)
    have gop : (h3.set b4 (.cells [.int .i64 r.1, .slice r.2.1 r.2.2.1 r.2.2.2.1] false)).get h.next = some (.cells [.int .i64 t.kind, .int .i64 t.id, .int .i64 t.at'] false) := (get_set_ne (by omega)).trans ((m3.get _ (by omega) (by simp)).trans ((m2.get _ (by omega) (by simp)).trans g1))
    have n4 : (h3.set b4 (.cells [.int .i64 r.1, .slice r.2.1 r.2.2.1 r.2.2.2.1] false)).next = h3.next := rfl
    have hpq : ∀ x ∈ own r.2.1, a.next ≤ x := fun x hx => by
      rcases (d5 x).1 hx with h1 | h1
      · omega
      · exact hoq x h1
    have hpd : ∀ x ∈ own r.2.2.2.2.2.1, h.next ≤ x := fun x hx => by have := (d5 x).2 hx; omega
    have R4 : TRow (h3.set b4 (.cells [.int .i64 r.1, .slice r.2.1 r.2.2.1 r.2.2.2.1] false)) r.2.1 r.2.2.1 r.2.2.2.1 (doT nw L t).2 := Row.mod (Row.mod0 d2 m3) m4 fun x hx hm' => by have := hpq x hx; simp at hm'; omega
    have D4 : Row (h3.set b4 (.cells [.int .i64 r.1, .slice r.2.1 r.2.2.1 r.2.2.2.1] false)) 1 r.2.2.2.2.2.1 r.2.2.2.2.2.2.1 r.2.2.2.2.2.2.2 ((doTold nw L t).map i64) := (d4.mod0 m3).mod m4 fun x hx hm' => by have := hpd x hx; simp at hm'; omega
    have w4 : Wheel (h3.set b4 (.cells [.int .i64 r.1, .slice r.2.1 r.2.2.1 r.2.2.2.1] false)) b B nw L := (w.mod0 m13).mod m4 fun x hx hm' => by simp at hm'; subst hm'; exact h4.2 hx
    have mA : Mod (b4 :: b6 :: B) a (h3.set b4 (.cells [.int .i64 r.1, .slice r.2.1 r.2.2.1 r.2.2.2.1] false)) := (hm.trans m13.of_nil).set (.inr (by simp)) _
    have e64 : (h3.set b4 (.cells [.int .i64 r.1, .slice r.2.1 r.2.2.1 r.2.2.2.1] false)).get b6 = a.get b6 := (get_set_ne (Ne.symm h46)).trans ((m13.get _ (by omega) (by simp)).trans e6)
    generalize h3.set b4 (.cells [.int .i64 r.1, .slice r.2.1 r.2.2.1 r.2.2.2.1] false) = h4x at *
    rw [aggK_all (n := 3) gop rfl]
    simp only [lc_cons, l0_nil, asInt_int]
    refine does_ret w4 t (by omega) (n := n) (by omega) (by omega) _ fun r5 h5 ⟨f1, f2, f3, m5, w5⟩ => ?_
    have hdl := doT_len nw L t
    refine w5.next (n := n) (by omega) _ fun r7 h7 ⟨f7, m7⟩ => ?_
    have w7 := w5.mod0 m7
    have hn5 := m5.next
    have hn7 := m7.next
    have hbB : b4 ∉ B := h4.2
    have g47 : h7.get b4 = some (.cells [.int .i64 r.1, .slice r.2.1 r.2.2.1 r.2.2.2.1] false) := (m7.get _ (by omega) (by simp)).trans ((m5.get _ (by omega) hbB).trans g4')
    rw [aggK_all (n := 2) g47 rfl]
    simp only [lc_cons, l0_nil, asInt_int, asSlice_slice]
    have R7 : TRow h7 r.2.1 r.2.2.1 r.2.2.2.1 (doT nw L t).2 := Row.mod0 (Row.mod R4 m5 fun x hx hxB => by have := hpq x hx; have := hB x hxB; omega) m7
    have D7 : Row h7 1 r.2.2.2.2.2.1 r.2.2.2.2.2.2.1 r.2.2.2.2.2.2.2 ((doTold nw L t).map i64) := (D4.mod m5 fun x hx hxB => by have := hpd x hx; have := hB x hxB; omega).mod0 m7
    have F7 := f2.mod0 m7
    obtain ⟨r8, h8, e8, f8, m8⟩ := refNext (nw := r.1) R7 n
    rw [e8, Option.bind_some]
    simp only [quietK_same]
    rw [show (r.2.2.2.2.1 == r5.1) = true by rw [d3, f1]; simp, Bool.not_true, cond_false]
    have hdt : (doTold nw L t).length < 1000000 := by
      unfold doTold
      split
      · have := told_lt (upto := t.at') (L := L); omega
      · simp
    have hdt2 : (doTold nw L t).length < n := by
      unfold doTold
      split
      · have := told_lt (upto := t.at') (L := L); omega
      · simp; omega
    rw [Same_eq (D7.mod0 m8) (F7.mod0 m8) hdt hdt2, Option.bind_some]
    simp only [decide_true, Bool.not_true]
    have h78 : r7 = r8 := by rw [f7, f8]
    have w8 := w7.mod0 m8
    have g48 := (m8.get _ (by omega) (by simp)).trans g47
    have hl8 := (Row.mod0 R7 m8).len encT_len (by omega)
    rw [cond_false, w8.len n, Option.bind_some]
    simp only [quietK_same]
    rw [cellK_of g48 rfl, asSlice_slice, show ((((doT nw L t).2.length : Nat) : Int) != ((r.2.2.1 : Nat) : Int)) = false by rw [hl8]; simp, cond_false, w8.nowIs n, Option.bind_some]
    simp only [quietK_same]
    rw [cellK_of g48 rfl, asInt_int, d1, show ((doT nw L t).1 != (doT nw L t).1) = false by simp, cond_false, show (r7.1 != r8.1) = false by rw [h78]; simp, cond_false, show (r7.2 == r8.2) = true by rw [h78]; simp, Bool.not_true, outriderlaw09_plays_18_J1_eq, cond_false, wrap_succ (by omega)]
    have hr : runT (0, []) (pre ++ [t]) = doT nw L t := by
      have : runT (0, []) (pre ++ [t]) = doT (runT (0, []) pre).1 (runT (0, []) pre).2 t := by unfold runT; rw [List.foldl_append]; rfl
      rw [this, hs]
    have ih := plays_loop hrow hown hB h4 h6 h46 g6 hos hn hk ts (pre ++ [t]) m h8 r.2.1 r.2.2.1 r.2.2.2.1 (by rw [hx]; simp) (by simp at hf; omega)
    rw [List.length_append, List.length_singleton, hr] at ih
    refine ih w8 (mA.trans (((m5.sub fun i hi _ => List.mem_cons_of_mem _ (List.mem_cons_of_mem _ hi)).trans m7.of_nil).trans m8.of_nil)) ?_ (Row.mod0 R7 m8) hpq ?_
    · exact (m8.get _ (by omega) (by simp)).trans ((m7.get _ (by omega) (by simp)).trans ((m5.get _ (by omega) h6.2).trans e64))
    · rw [← d1]; exact g48

theorem plays_ret {h : H} {p : Option (Nat × Nat)} {len : Nat} {c : Cap} {os : List Op} {n b : Nat} {B : List Nat} (hrow : Row h 3 p len c (os.flatMap encO)) (hown : ∀ x ∈ own p, x ∉ B) (w : Wheel h b B 0 []) (hos : os.length ≤ 500) (hn : 2000 ≤ n) :
    RetK (fun kk => outriderlaw09_plays_18 n (some (b, 0)) 0 none 0 (.known 0) p len c h kk) fun r h' => r.1 = (runT (0, []) os).1 ∧ r.2.2.2.2 = true ∧ TRow h' r.2.1 r.2.2.1 r.2.2.2.1 (runT (0, []) os).2 ∧ Wheel h' b B (runT (0, []) os).1 (runT (0, []) os).2 ∧ Mod B h h' := by
  intro kk hk
  show outriderlaw09_plays_18 n (some (b, 0)) 0 none 0 (.known 0) p len c h kk = some ()
  rw [outriderlaw09_plays_18_eq]
  simp only [newK_eq]
  have m0 : Mod [] h ((h.new (.cells [.int .i64 0, .slice none 0 (.known 0)] false)).new (.cells [.int .i64 0, .slice none 0 (.known 0)] false)) := ((Mod.refl _ _).new _).new _
  have g1 : ((h.new (.cells [.int .i64 0, .slice none 0 (.known 0)] false)).new (.cells [.int .i64 0, .slice none 0 (.known 0)] false)).get h.next = some (.cells [.int .i64 0, .slice none 0 (.known 0)] false) := (get_new_lt (Nat.lt_succ_self _)).trans (get_new_self _ _)
  have g2 : ((h.new (.cells [.int .i64 0, .slice none 0 (.known 0)] false)).new (.cells [.int .i64 0, .slice none 0 (.known 0)] false)).get (h.next + 1) = some (.cells [.int .i64 0, .slice none 0 (.known 0)] false) := get_new_self _ _
  have hn4 : ((h.new (.cells [.int .i64 0, .slice none 0 (.known 0)] false)).new (.cells [.int .i64 0, .slice none 0 (.known 0)] false)).next = h.next + 2 := rfl
  rw [show (h.new (.cells [.int .i64 0, .slice none 0 (.known 0)] false)).next = h.next + 1 from rfl]
  have w0 := w.mod0 m0
  have hlt := w.lt
  have hpl := fun x hx => Row.lt hrow x hx
  generalize (h.new (.cells [.int .i64 0, .slice none 0 (.known 0)] false)).new (.cells [.int .i64 0, .slice none 0 (.known 0)] false) = a at *
  have hno : ∀ k, h.next + k ∉ B := fun k hx => by have := hlt _ hx; omega
  refine plays_loop (a := a) (b := b) (B := B) (b4 := h.next) (b6 := h.next + 1) (os := os) (hrow.mod0 m0) (fun x hx hm => ?_) (fun x hx => by have := hlt x hx; omega) ⟨by omega, hno 0⟩ ⟨by omega, hno 1⟩ (by omega) g2 hos hn (fun q ql qc h' k1 k2 k3 => hk _ _ ⟨rfl, rfl, k1, k2, ?_⟩) os [] n a none 0 (.known 0) rfl (by omega) w0 (Mod.refl _ _) rfl .nil (by simp) g1
  · have := hpl x hx
    simp only [List.mem_cons] at hm
    rcases hm with h1 | h1 | h1
    · omega
    · omega
    · exact hown x hx h1
  · refine (m0.of_nil (S := B)).trans' k3 fun i hi hl => ?_
    simp only [List.mem_cons] at hi
    rcases hi with h1 | h1 | h1
    · omega
    · omega
    · exact h1

end Go.Ev.Try
