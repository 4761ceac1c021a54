/- Chapter 11: the laws HealthRises, HealthProbes, HealthSteady in plain Lean. -/
import Derived.Test.YtjbojcdmfkmkiaaHp3
set_option linter.all false
namespace Go.Ev.Try
set_option maxRecDepth 10000
open Go.Proofs

def rcells (r : Rul) : List AV := [.int .i64 r.rise, .int .i64 r.fall, .int .i64 r.every]

theorem tellP_more {r : Rul} {up : Bool} {run : Int} (h : run + 1 < need r up) : tellP r (up, run) (!up) = ((up, run + 1), false) := by
  unfold tellP
  rw [if_neg (by simp), if_pos h]
theorem tellP_turn {r : Rul} {up : Bool} {run : Int} (h : ¬ run + 1 < need r up) : tellP r (up, run) (!up) = ((!up, 0), true) := by
  unfold tellP
  rw [if_neg (by simp), if_neg h]

/-! ### HealthRises -/

theorem rises_L2 {r : Rul} (ho : okR r) {b ib : Nat} (hne : ib ≠ b) {n : Nat} (hn : 1000 ≤ n) {kk : Bool → H → Option Unit} (hk : ∀ h, kk true h = some ()) : ∀ (d k fuel : Nat) (h : H), 1 ≤ k → (k : Int) + d = r.fall + 1 → d < fuel → b < h.next → h.get ib = some (.cells (rcells r) false) → h.get b = some (.cells (pcells r (if d = 0 then (false, 0) else (true, (k : Int) - 1))) false) →
    outriderlaw11_HealthRises_6_L2 n kk fuel (some (ib, 0)) (some (b, 0)) k h = some ()
  | 0, k, fuel + 1, h, h1, hd, _, hb, gi, g => by
    rw [outriderlaw11_HealthRises_6_L2_eq]
    simp only [nnK_some', Nat.zero_add]
    rw [cellK_of (o := 1) gi rfl, asInt_int, decide_eq_false (by omega), cond_false]
    rw [if_pos rfl] at g
    refine alive_ret h hn _ fun q h' ⟨e, m⟩ => ?_
    have g' := (m.get _ hb (by simp)).trans g
    rw [e, cond_true, UpP_eq g', Option.bind_some]
    simp only [Bool.not_false]
    rw [cond_true, RunP_eq g', Option.bind_some]
    exact hk _
  | d + 1, k, fuel + 1, h, h1, hd, hf, hb, gi, g => by
    rw [if_neg (by omega)] at g
    have hr := ho
    unfold okR at hr
    rw [outriderlaw11_HealthRises_6_L2_eq]
    simp only [nnK_some', Nat.zero_add]
    rw [cellK_of (o := 1) gi rfl, asInt_int, decide_eq_true (by omega), cond_true]
    have hnd : need r true = r.fall := rfl
    obtain ⟨h', e, g', hn', hk'⟩ := TellP_ret ho (s := (true, (k : Int) - 1)) ⟨by simp only; omega, by simp only; omega⟩ g false n
    rw [e, Option.bind_some]
    simp only
    have gi' : h'.get ib = some (.cells (rcells r) false) := (hk' _ hne).trans gi
    rw [cellK_of (o := 1) (minus_of gi' (not_addT (not_noT _) (hk' _ hne))) rfl, asInt_int, wrap_succ (by omega)]
    by_cases hl : (k : Int) = r.fall
    · have ht : tellP r (true, (k : Int) - 1) false = ((false, 0), true) := tellP_turn (up := true) (by rw [hnd]; omega)
      rw [ht] at g' ⊢
      simp only
      rw [show ((k : Int) == r.fall) = true by simpa using hl]
      simp only [beq_self_eq_true, Bool.not_true]
      rw [cond_false]
      have hd0 : d = 0 := by omega
      exact rises_L2 ho hne hn hk d (k + 1) fuel h' (by omega) (by omega) (by omega) (by omega) gi' (by rw [if_pos hd0]; exact g')
    · have ht : tellP r (true, (k : Int) - 1) false = ((true, (k : Int) - 1 + 1), false) := tellP_more (up := true) (by rw [hnd]; omega)
      rw [ht] at g' ⊢
      simp only
      rw [show ((k : Int) == r.fall) = false by simpa using hl]
      simp only [beq_self_eq_true, Bool.not_true]
      rw [cond_false]
      refine rises_L2 ho hne hn hk d (k + 1) fuel h' (by omega) (by omega) (by omega) (by omega) gi' ?_
      rw [if_neg (by omega), show (((k + 1 : Nat) : Int) - 1) = (k : Int) - 1 + 1 by omega]
      exact g'

theorem rises_L1 {r : Rul} (ho : okR r) {b ib : Nat} (hne : ib ≠ b) {n : Nat} (hn : 1000 ≤ n) {kk : Bool → H → Option Unit} (hk : ∀ h, kk true h = some ()) : ∀ (d k fuel : Nat) (h : H), 1 ≤ k → (k : Int) + d = r.rise + 1 → d < fuel → b < h.next → h.get ib = some (.cells (rcells r) false) → h.get b = some (.cells (pcells r (if d = 0 then (true, 0) else (false, (k : Int) - 1))) false) →
    outriderlaw11_HealthRises_6_L1 n kk fuel (some (ib, 0)) (some (b, 0)) k h = some ()
  | 0, k, fuel + 1, h, h1, hd, _, hb, gi, g => by
    have hr := ho
    unfold okR at hr
    rw [outriderlaw11_HealthRises_6_L1_eq]
    simp only [nnK_some', Nat.zero_add]
    rw [cellK_of (o := 0) gi rfl, asInt_int, decide_eq_false (by omega), cond_false]
    rw [if_pos rfl] at g
    refine rises_L2 ho hne hn hk r.fall.toNat 1 n h (Nat.le_refl _) (by omega) (by omega) hb gi ?_
    rw [if_neg (by omega)]
    exact g
  | d + 1, k, fuel + 1, h, h1, hd, hf, hb, gi, g => by
    rw [if_neg (by omega)] at g
    have hr := ho
    unfold okR at hr
    rw [outriderlaw11_HealthRises_6_L1_eq]
    simp only [nnK_some', Nat.zero_add]
    rw [cellK_of (o := 0) gi rfl, asInt_int, decide_eq_true (by omega), cond_true]
    have hnd : need r false = r.rise := rfl
    obtain ⟨h', e, g', hn', hk'⟩ := TellP_ret ho (s := (false, (k : Int) - 1)) ⟨by simp only; omega, by simp only; omega⟩ g true n
    rw [e, Option.bind_some]
    simp only
    have gi' : h'.get ib = some (.cells (rcells r) false) := (hk' _ hne).trans gi
    rw [cellK_of (o := 0) (minus_of gi' (not_addT (not_noT _) (hk' _ hne))) rfl, asInt_int, wrap_succ (by omega)]
    by_cases hl : (k : Int) = r.rise
    · have ht : tellP r (false, (k : Int) - 1) true = ((true, 0), true) := tellP_turn (up := false) (by rw [hnd]; omega)
      rw [ht] at g' ⊢
      simp only
      rw [show ((k : Int) == r.rise) = true by simpa using hl]
      simp only [beq_self_eq_true, Bool.not_true]
      rw [cond_false]
      have hd0 : d = 0 := by omega
      exact rises_L1 ho hne hn hk d (k + 1) fuel h' (by omega) (by omega) (by omega) (by omega) gi' (by rw [if_pos hd0]; exact g')
    · have ht : tellP r (false, (k : Int) - 1) true = ((false, (k : Int) - 1 + 1), false) := tellP_more (up := false) (by rw [hnd]; omega)
      rw [ht] at g' ⊢
      simp only
      rw [show ((k : Int) == r.rise) = false by simpa using hl]
      simp only [beq_self_eq_true, Bool.not_true]
      rw [cond_false]
      refine rises_L1 ho hne hn hk d (k + 1) fuel h' (by omega) (by omega) (by omega) (by omega) gi' ?_
      rw [if_neg (by omega), show (((k + 1 : Nat) : Int) - 1) = (k : Int) - 1 + 1 by omega]
      exact g'

theorem healthRises_true {a b c : Int} (_ : (Lit.int .i64 a).wf = true) (_ : (Lit.int .i64 b).wf = true) (_ : (Lit.int .i64 c).wf = true) : ∃ n, RetK (fun kk => outriderlaw11_HealthRises_6 n a b c (H0 []) kk) True' := by
  refine ⟨2000, fun kk hk0 => ?_⟩
  have hk : ∀ h, kk true h = some () := fun h => hk0 _ _ rfl
  show outriderlaw11_HealthRises_6 2000 a b c (H0 []) kk = some ()
  obtain ⟨r, hr1, hr2, hr3⟩ : ∃ r : Rul, r.rise = a ∧ r.fall = b ∧ r.every = c := ⟨⟨a, b, c⟩, rfl, rfl, rfl⟩
  rw [← hr1, ← hr2, ← hr3, outriderlaw11_HealthRises_6_eq, newK_eq]
  generalize H0 [] = h0
  have g0 := get_new_self h0 (.cells (rcells r) false)
  have n0 : (h0.new (.cells (rcells r) false)).next = h0.next + 1 := rfl
  rw [show (AObj.cells [.int .i64 r.rise, .int .i64 r.fall, .int .i64 r.every] false) = .cells (rcells r) false from rfl]
  generalize h0.new (.cells (rcells r) false) = h1 at *
  rw [aggK_all (n := 3) g0 rfl]
  simp only [rcells, lc_cons, l0_nil, asInt_int]
  obtain ⟨q, h2, e2, m2, d2⟩ := NewP_ret r false 2000 h1
  rw [e2, Option.bind_some]
  have g2 := (m2.get _ (by omega) (by simp)).trans g0
  have hn2 := m2.next
  by_cases ho : okR r
  · rw [if_pos ho] at d2
    obtain ⟨b', rfl, b1, b2, gb⟩ := d2
    have hr := ho
    unfold okR at hr
    simp only
    rw [show ((0 : Int) != 0) = false by decide, cond_false, eqVK_ptr Try.underlying25, Option.isNone_some, outriderlaw11_HealthRises_6_J0_eq, cond_false]
    refine rises_L1 ho (b := b') (ib := h0.next) (by omega) (by omega) hk r.rise.toNat 1 2000 h2 (Nat.le_refl _) (by omega) (by omega) b2 g2 ?_
    rw [if_neg (by omega)]
    exact gb
  · rw [if_neg ho] at d2
    subst d2
    simp only
    rw [show ((1 : Int) != 0) = true by decide, cond_true, outriderlaw11_HealthRises_6_J0_eq, cond_true]
    refine alive_ret h2 (by omega) _ fun q h' ⟨e, m⟩ => ?_
    rw [e, cond_true]
    simp only [nnK_some']
    rw [aggK_all (n := 3) ((m.get _ (by omega) (by simp)).trans g2) rfl]
    simp only [rcells, lc_cons, l0_nil, asInt_int]
    obtain ⟨bo, h3, e3, f3, _⟩ := Right_ret r 2000 h'
    rw [e3, Option.bind_some, f3, decide_eq_false ho]
    exact hk _

/-! ### HealthProbes -/

theorem open_bools {rows : Rows0} {i : Nat} {p : Option (Nat × Nat)} {l : Nat} {c : Cap} {tg : Option Tgt} {cs : List AV} {B : Nat} (hi : rows[i]? = some (tg, cs)) (w : Arg i [.bool] B p l c cs) :
    ∃ xs : List Bool, xs.length = l ∧ Row (H0 rows) 1 p l c (xs.map AV.bool) := by
  obtain ⟨xs, h1, _, h3, _⟩ := Row.of_arg1 (enc := AV.bool) (P := fun _ => True) hi w fun v hv => by
    obtain ⟨x, rfl⟩ := hv
    exact ⟨x, rfl, trivial⟩
  exact ⟨xs, h1, h3⟩

theorem probes_L1 {r : Rul} (ho : okR r) {b ib iq : Nat} {a : H} {p : Option (Nat × Nat)} {c : Cap} {xs : List Bool} (hrow : Row a 1 p xs.length c (xs.map AV.bool)) (hown : ∀ x ∈ own p, x ≠ b ∧ x ≠ iq) (hib : ib < a.next ∧ ib ≠ b ∧ ib ≠ iq) (hiq : iq < a.next ∧ iq ≠ b) (hb : b < a.next) (hl : xs.length ≤ 2000) {n : Nat} (hn : 3000 ≤ n) (gi : a.get ib = some (.cells (rcells r) false)) {kk : Bool → H → Option Unit} (hk : ∀ h, kk true h = some ()) :
    ∀ (ts pre : List Bool) (m : Nat) (h : H) (s : Bool × Int), xs = pre ++ ts → ts.length < m → okP r s → Mod [b, iq] a h → h.get b = some (.cells (pcells r s) false) → h.get iq = some (.cells [.bool s.1, i64 s.2] false) →
      outriderlaw11_HealthProbes_5_L1 n kk m (some (ib, 0)) (some (b, 0)) (some (iq, 0)) p xs.length c xs.length pre.length h = some ()
  | [], pre, m + 1, h, s, hx, _, _, hm, _, _ => by
    rw [outriderlaw11_HealthProbes_5_L1_eq, cast_not_lt (by rw [hx]; simp), cond_false]
    exact alive_ret h (by omega) _ fun q h' ⟨e, _⟩ => by rw [e]; exact hk _
  | t :: ts, pre, m + 1, h, s, hx, hf, hs, hm, gb, gq => by
    have ht : xs[pre.length]? = some t := by rw [hx]; simp
    have hlt : pre.length < xs.length := by rw [hx]; simp
    have hle := hm.next
    rw [outriderlaw11_HealthProbes_5_L1_eq, cast_lt hlt, cond_true, (hrow.mod hm fun x hx hx' => by have := hown x hx; simp at hx'; omega).ix1 ht, asBool_bool]
    simp only [nnK_some', Nat.zero_add]
    rw [aggK_all (n := 3) ((hm.get _ hib.1 (by simp; omega)).trans gi) rfl]
    simp only [rcells, lc_cons, l0_nil, asInt_int]
    rw [aggK_all (n := 2) gq rfl]
    simp only [lc_cons, l0_nil, asInt_int, asBool_bool]
    obtain ⟨q, h2, e2, f2, m2⟩ := refTell_ret ho hs t n h
    rw [e2, Option.bind_some, f2]
    simp only [newK_eq]
    rw [wrK_of (n := 2) (get_new_self _ _) rfl (by simp) rfl, spl_all _ _ (by simp), set_new, aggK_all (n := 2) (get_new_self _ _) rfl]
    simp only [lc_cons, l0_nil, asInt_int, asBool_bool]
    have m3 := m2.new (.cells [.bool (tellP r s t).1.1, .int .i64 (tellP r s t).1.2] false)
    generalize h2.new (.cells [.bool (tellP r s t).1.1, .int .i64 (tellP r s t).1.2] false) = h3 at *
    have hn3 := m3.next
    rw [wrK_of (n := 2) ((m3.get _ (by omega) (by simp)).trans gq) rfl (by simp) rfl, spl_all _ _ (by simp)]
    have gq4 := get_set_self h3 iq (.cells [.bool (tellP r s t).1.1, .int .i64 (tellP r s t).1.2] false)
    have gb4 : (h3.set iq (.cells [.bool (tellP r s t).1.1, .int .i64 (tellP r s t).1.2] false)).get b = some (.cells (pcells r s) false) := (get_set_ne (Ne.symm hiq.2)).trans ((m3.get _ (by omega) (by simp)).trans gb)
    have m4 : Mod [b, iq] a (h3.set iq (.cells [.bool (tellP r s t).1.1, .int .i64 (tellP r s t).1.2] false)) := (hm.trans m3.of_nil).set (.inr (by simp)) _
    have n4 : (h3.set iq (.cells [.bool (tellP r s t).1.1, .int .i64 (tellP r s t).1.2] false)).next = h3.next := rfl
    generalize h3.set iq (.cells [.bool (tellP r s t).1.1, .int .i64 (tellP r s t).1.2] false) = h4 at *
    obtain ⟨h5, e5, g5, n5, k5⟩ := TellP_ret ho hs gb4 t n
    rw [e5, Option.bind_some]
    have gq5 := (k5 _ hiq.2).trans gq4
    have m5 : Mod [b, iq] a h5 := m4.trans ⟨by omega, fun j _ hj => k5 j fun e => hj (by simp [e])⟩
    simp only [beq_self_eq_true, Bool.not_true]
    rw [cond_false, UpP_eq g5, Option.bind_some]
    simp only [minus_self]
    rw [cellK_of (minus_of gq5 (not_noT _)) rfl, asBool_bool]
    simp only [beq_self_eq_true, Bool.not_true]
    rw [cond_false, RunP_eq g5, Option.bind_some]
    simp only [minus_self]
    rw [cellK_of (o := 1) (minus_of gq5 (not_noT _)) rfl, asInt_int, outriderlaw11_HealthProbes_5_J2_eq]
    simp only [bne_self_eq_false]
    rw [cond_false, wrap_succ (by omega)]
    have ih := probes_L1 ho hrow hown hib hiq hb hl hn gi hk ts (pre ++ [t]) m h5 (tellP r s t).1 (by rw [hx]; simp) (by simp at hf; omega) (hs.tell ho t) m5 g5 gq5
    rw [List.length_append, List.length_singleton] at ih
    exact ih

section
variable {p : Option (Nat × Nat)} {l : Nat} {c : Cap} {tg : Option Tgt} {cs : List AV} {B : Nat}

theorem healthProbes_true {x y z : Int} (_ : (Lit.int .i64 x).wf = true) (_ : (Lit.int .i64 y).wf = true) (_ : (Lit.int .i64 z).wf = true) (w : Arg 0 [.bool] B p l c cs) {up : Bool} : ∃ n, RetK (fun kk => outriderlaw11_HealthProbes_5 n x y z up p l c (H0 [(tg, cs)]) kk) True' := by
  obtain ⟨xs, rfl, row⟩ := open_bools (rows := [(tg, cs)]) rfl w
  refine ⟨3000, fun kk hk0 => ?_⟩
  have hk : ∀ h, kk true h = some () := fun h => hk0 _ _ rfl
  show outriderlaw11_HealthProbes_5 3000 x y z up p xs.length c (H0 [(tg, cs)]) kk = some ()
  obtain ⟨r, hr1, hr2, hr3⟩ : ∃ r : Rul, r.rise = x ∧ r.fall = y ∧ r.every = z := ⟨⟨x, y, z⟩, rfl, rfl, rfl⟩
  rw [← hr1, ← hr2, ← hr3, outriderlaw11_HealthProbes_5_eq, newK_eq]
  generalize H0 [(tg, cs)] = h0 at *
  have m0 : Mod [] h0 (h0.new (.cells (rcells r) false)) := (Mod.refl _ _).new _
  have g0 := get_new_self h0 (.cells (rcells r) false)
  have n0 : (h0.new (.cells (rcells r) false)).next = h0.next + 1 := rfl
  rw [show (AObj.cells [.int .i64 r.rise, .int .i64 r.fall, .int .i64 r.every] false) = .cells (rcells r) false from rfl]
  generalize h0.new (.cells (rcells r) false) = h1 at *
  rw [aggK_all (n := 3) g0 rfl]
  simp only [rcells, lc_cons, l0_nil, asInt_int]
  obtain ⟨q, h2, e2, m2, d2⟩ := NewP_ret r up 3000 h1
  rw [e2, Option.bind_some]
  have g2 := (m2.get _ (by omega) (by simp)).trans g0
  have hn2 := m2.next
  rw [aggK_all (n := 3) g2 rfl]
  simp only [rcells, lc_cons, l0_nil, asInt_int]
  obtain ⟨bo, h3, e3, f3, m3⟩ := Right_ret r 3000 h2
  rw [e3, Option.bind_some, f3]
  have hn3 := m3.next
  by_cases ho : okR r
  · rw [if_pos ho] at d2
    obtain ⟨b', rfl, b1, b2, gb⟩ := d2
    simp only
    rw [decide_eq_true ho, Bool.not_true, cond_false, show ((0 : Int) != 0) = false by decide, cond_false, eqVK_ptr Try.underlying25, Option.isNone_some, cond_false, outriderlaw11_HealthProbes_5_J0_eq]
    by_cases hl : xs.length ≤ 2000
    · rw [show decide ((xs.length : Int) > 2000) = false by simp; omega, cond_false, newK_eq, wrK_of (n := 2) (get_new_self _ _) rfl (by simp) rfl, spl_all _ _ (by simp), set_new]
      have m4 : Mod [] h3 (h3.new (.cells [.bool up, .int .i64 0] false)) := (Mod.refl _ _).new _
      have m04 := (((m0.trans m2).trans m3).trans m4)
      refine probes_L1 ho (a := h3.new (.cells [.bool up, .int .i64 0] false)) (b := b') (ib := h0.next) (iq := h3.next) (xs := xs) (row.mod0 m04) (fun v hv => ?_) (by have := m4.next; omega) (by have := m4.next; exact ⟨Nat.lt_succ_self _, by omega⟩) (by have := m4.next; omega) hl (Nat.le_refl _) ?_ hk xs [] 3000 _ (up, 0) rfl (by omega) (okP.start ho up) (Mod.refl _ _) ?_ (get_new_self _ _)
      · have := row.lt v hv; omega
      · exact (m4.get _ (by omega) (by simp)).trans ((m3.get _ (by omega) (by simp)).trans g2)
      · exact (m4.get _ (by omega) (by simp)).trans ((m3.get _ (by omega) (by simp)).trans gb)
    · rw [show decide ((xs.length : Int) > 2000) = true by simp; omega, cond_true, show ((0 : Int) == 0) = true by decide, cond_true, eqVK_ptr Try.underlying25, Option.isNone_some, Bool.not_false, cond_true]
      exact alive_ret h3 (by omega) _ fun q h' ⟨e, _⟩ => by rw [e]; exact hk _
  · rw [if_neg ho] at d2
    subst d2
    simp only
    rw [decide_eq_false ho, Bool.not_false, cond_true]
    refine alive_ret h3 (by omega) _ fun q h' ⟨e, m⟩ => ?_
    rw [e, cond_true, show ((1 : Int) == 1) = true by decide, cond_true, eqVK_ptr Try.underlying25]
    exact hk _

/-! ### HealthSteady -/

theorem steady_L3 {r : Rul} (ho : okR r) {b : Nat} (last : Bool) {n : Nat} (hn : 3000 ≤ n) {kk : Bool → H → Option Unit} (hk : ∀ h, kk true h = some ()) : ∀ (d j fuel ch : Nat) (h : H) (s : Bool × Int), j + d = 50 → d < fuel → b < h.next → okP r s → h.get b = some (.cells (pcells r s) false) → (s.1 = last ∧ ch ≤ 1 ∨ s.1 = (!last) ∧ ch = 0 ∧ (j : Int) ≤ s.2) →
    outriderlaw11_HealthSteady_3_L3 n kk fuel last (some (b, 0)) ch j h = some ()
  | 0, j, fuel + 1, ch, h, s, hj, _, hb, hs, g, inv => by
    rw [outriderlaw11_HealthSteady_3_L3_eq, decide_eq_false (by omega), cond_false]
    have hnd := ho.need s.1
    have hs2 := hs.2
    have hfin : s.1 = last ∧ ch ≤ 1 := by
      rcases inv with h1 | ⟨_, _, h3⟩
      · exact h1
      · omega
    refine alive_ret h (by omega) _ fun q h' ⟨e, m⟩ => ?_
    rw [e, cond_true, decide_eq_true (by omega), cond_true, UpP_eq ((m.get _ hb (by simp)).trans g), Option.bind_some]
    simp only
    rw [hfin.1, show (last == last) = true by simp]
    exact hk _
  | d + 1, j, fuel + 1, ch, h, s, hj, hf, hb, hs, g, inv => by
    rw [outriderlaw11_HealthSteady_3_L3_eq, decide_eq_true (by omega), cond_true]
    obtain ⟨h', e, g', hn', _⟩ := TellP_ret ho hs g last n
    rw [e, Option.bind_some, wrap_succ (by omega), wrap_succ (by omega)]
    have hs' := hs.tell ho last
    rcases inv with ⟨h1, h2⟩ | ⟨h1, h2, h3⟩
    · have ht : tellP r s last = ((s.1, 0), false) := by unfold tellP; rw [if_pos h1.symm]
      rw [ht] at g' hs' ⊢
      simp only
      rw [cond_false]
      exact steady_L3 ho last hn hk d (j + 1) fuel ch h' _ (by omega) (by omega) (by omega) hs' g' (.inl ⟨h1, h2⟩)
    · obtain ⟨up, run⟩ := s
      simp only at h1 h3
      subst h1
      by_cases hlt : run + 1 < need r (!last)
      · have ht : tellP r ((!last), run) last = (((!last), run + 1), false) := by have := tellP_more hlt; rwa [Bool.not_not] at this
        rw [ht] at g' hs' ⊢
        simp only
        rw [cond_false]
        exact steady_L3 ho last hn hk d (j + 1) fuel ch h' _ (by omega) (by omega) (by omega) hs' g' (.inr ⟨rfl, h2, by simp only; omega⟩)
      · have ht : tellP r ((!last), run) last = ((last, 0), true) := by have := tellP_turn hlt; rwa [Bool.not_not] at this
        rw [ht] at g' hs' ⊢
        simp only
        rw [cond_true]
        exact steady_L3 ho last hn hk d (j + 1) fuel (ch + 1) h' _ (by omega) (by omega) (by omega) hs' g' (.inl ⟨rfl, by omega⟩)

theorem steady_L1 {r : Rul} (ho : okR r) {b ib : Nat} (last : Bool) {a : H} {p : Option (Nat × Nat)} {c : Cap} {xs : List Bool} (hrow : Row a 1 p xs.length c (xs.map AV.bool)) (hown : ∀ x ∈ own p, x ≠ b) (hib : ib < a.next ∧ ib ≠ b) (hb : b < a.next) (hl : xs.length ≤ 2000) {n : Nat} (hn : 3000 ≤ n) (gi : a.get ib = some (.cells (rcells r) false)) {kk : Bool → H → Option Unit} (hk : ∀ h, kk true h = some ()) :
    ∀ (ts pre : List Bool) (m since : Nat) (h : H) (s : Bool × Int), xs = pre ++ ts → ts.length < m → okP r s → Mod [b] a h → h.get b = some (.cells (pcells r s) false) → s.2 ≤ since → since ≤ pre.length →
      outriderlaw11_HealthSteady_3_L1 n kk m last (some (ib, 0)) (some (b, 0)) since p xs.length c xs.length pre.length h = some ()
  | [], pre, m + 1, since, h, s, hx, _, hs, hm, g, _, _ => by
    rw [outriderlaw11_HealthSteady_3_L1_eq, cast_not_lt (by rw [hx]; simp), cond_false]
    refine steady_L3 ho last hn hk 50 0 n 0 h s (by omega) (by omega) (by have := hm.next; omega) hs g ?_
    by_cases he : s.1 = last
    · exact .inl ⟨he, by omega⟩
    · exact .inr ⟨by cases h1 : s.1 <;> cases h2 : last <;> simp_all, rfl, hs.1⟩
  | t :: ts, pre, m + 1, since, h, s, hx, hf, hs, hm, g, h1, h2 => by
    have ht : xs[pre.length]? = some t := by rw [hx]; simp
    have hlt : pre.length < xs.length := by rw [hx]; simp
    have hle := hm.next
    rw [outriderlaw11_HealthSteady_3_L1_eq, cast_lt hlt, cond_true, (hrow.mod hm fun x hx hx' => by have := hown x hx; simp at hx'; omega).ix1 ht, asBool_bool, UpP_eq g, Option.bind_some]
    simp only
    obtain ⟨h', e, g', hn', hk'⟩ := TellP_ret ho hs g t n
    rw [e, Option.bind_some]
    have m' : Mod [b] a h' := hm.trans ⟨by omega, fun j _ hj => hk' j (by simpa using hj)⟩
    have gi' : h'.get ib = some (.cells (rcells r) false) := (m'.get _ hib.1 (by simpa using hib.2)).trans gi
    have hs' := hs.tell ho t
    simp only [nnK_some', Nat.zero_add]
    have ih := fun since h s => steady_L1 ho last hrow hown hib hb hl hn gi hk ts (pre ++ [t]) m since h s (by rw [hx]; simp) (by simp at hf; omega)
    rw [List.length_append, List.length_singleton] at ih
    obtain ⟨up, run⟩ := s
    simp only at h1
    by_cases hg : t = up
    · have htl : tellP r (up, run) t = ((up, 0), false) := by unfold tellP; rw [if_pos hg]
      rw [htl] at g' hs' ⊢
      simp only
      rw [cond_false, wrap_succ (by omega), wrap_succ (by omega)]
      exact ih (since + 1) h' _ hs' m' g' (by simp only; omega) (by omega)
    · by_cases hl' : run + 1 < need r up
      · have htl : tellP r (up, run) t = ((up, run + 1), false) := by unfold tellP; rw [if_neg hg, if_pos hl']
        rw [htl] at g' hs' ⊢
        simp only
        rw [cond_false, wrap_succ (by omega), wrap_succ (by omega)]
        exact ih (since + 1) h' _ hs' m' g' (by simp only; omega) (by omega)
      · have htl : tellP r (up, run) t = ((!up, 0), true) := by unfold tellP; rw [if_neg hg, if_neg hl']
        rw [htl] at g' hs' ⊢
        simp only
        have hnt : t = !up := by cases t <;> cases up <;> simp_all
        have fin : outriderlaw11_HealthSteady_3_J2 n kk m last (some (ib, 0)) (some (b, 0)) p xs.length c xs.length pre.length (!((!up) == t)) h' = some () := by
          rw [hnt, show ((!up) == (!up)) = true by simp, Bool.not_true, outriderlaw11_HealthSteady_3_J2_eq, cond_false, wrap_succ (by omega)]
          exact ih 0 h' _ hs' m' g' (by simp) (by omega)
        rw [cond_true, wrap_succ (by omega), UpP_eq g']
        simp only [Option.bind_some]
        rw [show ((!up) == up) = false by cases up <;> rfl, UpP_eq g']
        simp only [Option.bind_some]
        have hnd : need r up = if up then r.fall else r.rise := rfl
        cases up with
        | true =>
          have hnd : need r true = r.fall := rfl
          rw [cond_true, cellK_of (o := 1) gi' rfl, asInt_int, decide_eq_false (by omega), cond_false, Bool.not_true, cond_false, cond_false]
          exact fin
        | false =>
          have hnd : need r false = r.rise := rfl
          rw [cond_false, Bool.not_false, cond_true, cellK_of (o := 0) gi' rfl, asInt_int, decide_eq_false (by omega), cond_false, cond_false]
          exact fin

theorem healthSteady_true {x y z : Int} (_ : (Lit.int .i64 x).wf = true) (_ : (Lit.int .i64 y).wf = true) (_ : (Lit.int .i64 z).wf = true) (w : Arg 0 [.bool] B p l c cs) {last : Bool} : ∃ n, RetK (fun kk => outriderlaw11_HealthSteady_3 n x y z p l c last (H0 [(tg, cs)]) kk) True' := by
  obtain ⟨xs, rfl, row⟩ := open_bools (rows := [(tg, cs)]) rfl w
  refine ⟨3000, fun kk hk0 => ?_⟩
  have hk : ∀ h, kk true h = some () := fun h => hk0 _ _ rfl
  show outriderlaw11_HealthSteady_3 3000 x y z p xs.length c last (H0 [(tg, cs)]) kk = some ()
  obtain ⟨r, hr1, hr2, hr3⟩ : ∃ r : Rul, r.rise = x ∧ r.fall = y ∧ r.every = z := ⟨⟨x, y, z⟩, rfl, rfl, rfl⟩
  rw [← hr1, ← hr2, ← hr3, outriderlaw11_HealthSteady_3_eq, newK_eq]
  generalize H0 [(tg, cs)] = h0 at *
  have m0 : Mod [] h0 (h0.new (.cells (rcells r) false)) := (Mod.refl _ _).new _
  have g0 := get_new_self h0 (.cells (rcells r) false)
  have n0 : (h0.new (.cells (rcells r) false)).next = h0.next + 1 := rfl
  rw [show (AObj.cells [.int .i64 r.rise, .int .i64 r.fall, .int .i64 r.every] false) = .cells (rcells r) false from rfl]
  generalize h0.new (.cells (rcells r) false) = h1 at *
  rw [aggK_all (n := 3) g0 rfl]
  simp only [rcells, lc_cons, l0_nil, asInt_int]
  obtain ⟨q, h2, e2, m2, d2⟩ := NewP_ret r false 3000 h1
  rw [e2, Option.bind_some]
  have g2 := (m2.get _ (by omega) (by simp)).trans g0
  have hn2 := m2.next
  have early : ∀ ptr, outriderlaw11_HealthSteady_3_J0 3000 kk p xs.length c last (some (h0.next, 0)) ptr true h2 = some () := fun ptr => by
    rw [outriderlaw11_HealthSteady_3_J0_eq, cond_true]
    exact alive_ret h2 (by omega) _ fun q h' ⟨e, _⟩ => by rw [e]; exact hk _
  by_cases ho : okR r
  · rw [if_pos ho] at d2
    obtain ⟨b', rfl, b1, b2, gb⟩ := d2
    simp only
    rw [show ((0 : Int) != 0) = false by decide, cond_false, eqVK_ptr Try.underlying25, Option.isNone_some, cond_false]
    by_cases hl : xs.length ≤ 2000
    · rw [show decide ((xs.length : Int) > 2000) = false by simp; omega, outriderlaw11_HealthSteady_3_J0_eq, cond_false]
      refine steady_L1 ho (a := h2) (b := b') (ib := h0.next) last (xs := xs) (row.mod0 (m0.trans m2)) (fun v hv => ?_) (by omega) b2 hl (Nat.le_refl _) g2 hk xs [] 3000 0 h2 (false, 0) rfl (by omega) (okP.start ho false) (Mod.refl _ _) gb (by simp) (by simp)
      have := row.lt v hv; omega
    · rw [show decide ((xs.length : Int) > 2000) = true by simp; omega]
      exact early _
  · rw [if_neg ho] at d2
    subst d2
    simp only
    rw [show ((1 : Int) != 0) = true by decide, cond_true]
    exact early _
end

end Go.Ev.Try
