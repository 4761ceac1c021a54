/- Chapter 11: rules and probes. -/
import Derived.Test.YtjbojcdmfkmkiaaHh13
set_option linter.all false
namespace Go.Ev.Try
set_option maxRecDepth 10000
open Go.Proofs

structure Rul where
  rise : Int
  fall : Int
  every : Int
def okR (r : Rul) : Prop := r.rise ≥ 1 ∧ r.rise ≤ 20 ∧ r.fall ≥ 1 ∧ r.fall ≤ 20 ∧ r.every ≥ 1 ∧ r.every ≤ 10000
instance (r : Rul) : Decidable (okR r) := by unfold okR; exact inferInstance

theorem okR_cond (r : Rul) (f : Bool → Option (Bool × H)) : (cond (decide (r.rise ≥ 1)) (cond (decide (r.rise ≤ 20)) (cond (decide (r.fall ≥ 1)) (cond (decide (r.fall ≤ 20)) (cond (decide (r.every ≥ 1)) (f (decide (r.every ≤ 10000))) (f false)) (f false)) (f false)) (f false)) (f false)) = f (decide (okR r)) := by
  unfold okR
  by_cases h1 : r.rise ≥ 1
  · by_cases h2 : r.rise ≤ 20
    · by_cases h3 : r.fall ≥ 1
      · by_cases h4 : r.fall ≤ 20
        · by_cases h5 : r.every ≥ 1
          · simp [h1, h2, h3, h4, h5]
          · simp [h1, h2, h3, h4, h5]
        · simp [h1, h2, h3, h4]
      · simp [h1, h2, h3]
    · simp [h1, h2]
  · simp [h1]

theorem right_ret (r : Rul) (n : Nat) (h : H) : Ret (health_Rule_right_26 n r.rise r.fall r.every h) fun b h' => b = decide (okR r) ∧ Mod [] h h' := by
  rw [health_Rule_right_26_eq, newK_eq]
  have g0 := get_new_self h (.cells [.int .i64 r.rise, .int .i64 r.fall, .int .i64 r.every] false)
  have m0 : Mod [] h (h.new (.cells [.int .i64 r.rise, .int .i64 r.fall, .int .i64 r.every] false)) := (Mod.refl _ _).new _
  simp only [cellK_of g0 (o := 0) rfl, cellK_of g0 (o := 1) rfl, cellK_of g0 (o := 2) rfl, asInt_int]
  refine Ret.of_eq (okR_cond r fun b => some (b, _)) (.pure ⟨rfl, m0⟩)

theorem Right_ret (r : Rul) (n : Nat) (h : H) : Ret (outriderref11_Right_15 n r.rise r.fall r.every h) fun b h' => b = decide (okR r) ∧ Mod [] h h' := by
  rw [outriderref11_Right_15_eq, newK_eq]
  have g0 := get_new_self h (.cells [.int .i64 r.rise, .int .i64 r.fall, .int .i64 r.every] false)
  have m0 : Mod [] h (h.new (.cells [.int .i64 r.rise, .int .i64 r.fall, .int .i64 r.every] false)) := (Mod.refl _ _).new _
  simp only [cellK_of g0 (o := 0) rfl, cellK_of g0 (o := 1) rfl, cellK_of g0 (o := 2) rfl, asInt_int]
  refine Ret.of_eq (okR_cond r fun b => some (b, _)) (.pure ⟨rfl, m0⟩)

/-- a probe's cells -/
def pcells (r : Rul) (s : Bool × Int) : List AV := [i64 r.rise, i64 r.fall, i64 r.every, .bool s.1, i64 s.2]

theorem NewP_ret (r : Rul) (up : Bool) (n : Nat) (h : H) : Ret (health_New_9 n r.rise r.fall r.every up h) fun q h' => Mod [] h h' ∧ if okR r then ∃ b, q = (some (b, 0), 0) ∧ h.next ≤ b ∧ b < h'.next ∧ h'.get b = some (.cells (pcells r (up, 0)) false) else q = (none, 1) := by
  rw [health_New_9_eq, newK_eq]
  have g0 := get_new_self h (.cells [.int .i64 r.rise, .int .i64 r.fall, .int .i64 r.every] false)
  have m0 : Mod [] h (h.new (.cells [.int .i64 r.rise, .int .i64 r.fall, .int .i64 r.every] false)) := (Mod.refl _ _).new _
  have n0 : (h.new (.cells [.int .i64 r.rise, .int .i64 r.fall, .int .i64 r.every] false)).next = h.next + 1 := rfl
  generalize h.new (.cells [.int .i64 r.rise, .int .i64 r.fall, .int .i64 r.every] false) = h1 at *
  rw [aggK_all (n := 3) g0 rfl]
  simp only [lc_cons, l0_nil, asInt_int]
  refine (right_ret r n h1).bind fun b h2 ⟨e, m2⟩ => ?_
  simp only
  subst e
  by_cases ho : okR r
  · rw [decide_eq_true ho, Bool.not_true, cond_false, aggK_all (n := 3) ((m2.get _ (by omega) (by simp)).trans g0) rfl]
    simp only [lc_cons, l0_nil, asInt_int, newK_eq]
    refine .pure ⟨(m0.trans m2).new _, ?_⟩
    rw [if_pos ho]
    exact ⟨h2.next, rfl, by have := m2.next; omega, Nat.lt_succ_self _, get_new_self _ _⟩
  · rw [decide_eq_false ho, Bool.not_false, cond_true]
    refine .pure ⟨m0.trans m2, ?_⟩
    rw [if_neg ho]

/-! ### Tell -/

def need (r : Rul) (up : Bool) : Int := if up then r.fall else r.rise
def tellP (r : Rul) (s : Bool × Int) (good : Bool) : (Bool × Int) × Bool :=
  if good = s.1 then ((s.1, 0), false) else if s.2 + 1 < need r s.1 then ((s.1, s.2 + 1), false) else ((!s.1, 0), true)
/-- a probe as it may be -/
def okP (r : Rul) (s : Bool × Int) : Prop := 0 ≤ s.2 ∧ s.2 + 1 ≤ need r s.1
theorem okR.need {r : Rul} (h : okR r) (up : Bool) : 1 ≤ need r up ∧ need r up ≤ 20 := by
  unfold okR at h
  unfold Go.Ev.Try.need
  cases up <;> simp <;> omega
theorem okP.start {r : Rul} (h : okR r) (up : Bool) : okP r (up, 0) := ⟨Int.le_refl _, by have := (h.need up).1; simp only; omega⟩
theorem okP.tell {r : Rul} (ho : okR r) {s : Bool × Int} (h : okP r s) (good : Bool) : okP r (tellP r s good).1 := by
  obtain ⟨h1, h2⟩ := h
  unfold tellP
  split
  · exact okP.start ho _
  · split
    · exact ⟨by simp only; omega, by simp only; omega⟩
    · exact okP.start ho _

theorem TellP_ret {r : Rul} (ho : okR r) {s : Bool × Int} (hs : okP r s) {h : H} {b : Nat} (hb : h.get b = some (.cells (pcells r s) false)) (good : Bool) (n : Nat) :
    ∃ h', health_Probe_Tell_12 n (some (b, 0)) good h = some ((tellP r s good).2, h') ∧ h'.get b = some (.cells (pcells r (tellP r s good).1) false) ∧ h'.next = h.next ∧ ∀ j, j ≠ b → h'.get j = h.get j := by
  obtain ⟨up, run⟩ := s
  have hn := ho.need up
  obtain ⟨h1, h2⟩ := hs
  simp only at h1 h2
  have j : health_Probe_Tell_12 n (some (b, 0)) good h = health_Probe_Tell_12_J0 n (some (b, 0)) good (need r up) h := by
    rw [health_Probe_Tell_12_eq]
    simp only [nnK_some', Nat.zero_add]
    rw [cellK_of hb rfl, asInt_int, cellK_of (o := 3) hb rfl, asBool_bool]
    cases up with
    | true => rw [cond_true, cellK_of (o := 1) hb rfl, asInt_int]; rfl
    | false => rw [cond_false]; rfl
  rw [j, health_Probe_Tell_12_J0_eq]
  simp only [nnK_some', Nat.zero_add]
  rw [cellK_of (o := 3) hb rfl, asBool_bool]
  unfold tellP
  by_cases hg : good = up
  · subst hg
    rw [show (good == good) = true by simp, cond_true, wrK_one (o := 4) hb (by simp [pcells]) rfl]
    simp only [if_true]
    exact ⟨_, rfl, get_set_self _ _ _, rfl, fun j hj => get_set_ne hj⟩
  · rw [show (good == up) = false by simpa using hg, cond_false, cellK_of (o := 4) hb rfl, asInt_int, wrap_i64 (by omega) (by omega)]
    simp only [if_neg hg]
    by_cases hlt : run + 1 < need r up
    · rw [decide_eq_true hlt, cond_true, cellK_of (o := 4) hb rfl, asInt_int, wrK_one (o := 4) hb (by simp [pcells]) rfl, wrap_i64 (by omega) (by omega)]
      rw [if_pos hlt]
      exact ⟨_, rfl, get_set_self _ _ _, rfl, fun j hj => get_set_ne hj⟩
    · rw [decide_eq_false hlt, cond_false, cellK_of (o := 3) hb rfl, asBool_bool, wrK_one (o := 4) hb (by simp [pcells]) rfl, wrK_one (o := 3) (get_set_self _ _ _) (by simp [pcells]) rfl, if_neg hlt]
      exact ⟨_, rfl, get_set_self _ _ _, rfl, fun j hj => (get_set_ne hj).trans (get_set_ne hj)⟩

theorem UpP_eq {r : Rul} {s : Bool × Int} {h : H} {b : Nat} (hb : h.get b = some (.cells (pcells r s) false)) (n : Nat) : health_Probe_Up_11 n (some (b, 0)) h = some (s.1, h) := by
  rw [health_Probe_Up_11_eq]
  simp only [nnK_some', Nat.zero_add]
  rw [cellK_of (o := 3) hb rfl, asBool_bool]
theorem RunP_eq {r : Rul} {s : Bool × Int} {h : H} {b : Nat} (hb : h.get b = some (.cells (pcells r s) false)) (n : Nat) : health_Probe_Run_17 n (some (b, 0)) h = some (s.2, h) := by
  rw [health_Probe_Run_17_eq]
  simp only [nnK_some', Nat.zero_add]
  rw [cellK_of (o := 4) hb rfl, asInt_int]

/-- the document's Tell -/
theorem refTell_ret {r : Rul} (ho : okR r) {s : Bool × Int} (hs : okP r s) (good : Bool) (n : Nat) (h : H) :
    Ret (outriderref11_Tell_16 n r.rise r.fall r.every s.1 s.2 good h) fun q h' => q = ((tellP r s good).1.1, (tellP r s good).1.2, (tellP r s good).2) ∧ Mod [] h h' := by
  obtain ⟨up, run⟩ := s
  have hn := ho.need up
  obtain ⟨h1, h2⟩ := hs
  simp only at h1 h2
  rw [outriderref11_Tell_16_eq]
  simp only [newK_eq]
  have m0 : Mod [] h (((h.new (.cells [.int .i64 r.rise, .int .i64 r.fall, .int .i64 r.every] false)).new (.cells [.bool up, .int .i64 run] false)).new (.cells [.bool false, .int .i64 0] false)) := (((Mod.refl _ _).new _).new _).new _
  have g1 : (((h.new (.cells [.int .i64 r.rise, .int .i64 r.fall, .int .i64 r.every] false)).new (.cells [.bool up, .int .i64 run] false)).new (.cells [.bool false, .int .i64 0] false)).get h.next = some (.cells [.int .i64 r.rise, .int .i64 r.fall, .int .i64 r.every] false) := (get_new_lt (by simp; omega)).trans ((get_new_lt (Nat.lt_succ_self _)).trans (get_new_self _ _))
  have g2 : (((h.new (.cells [.int .i64 r.rise, .int .i64 r.fall, .int .i64 r.every] false)).new (.cells [.bool up, .int .i64 run] false)).new (.cells [.bool false, .int .i64 0] false)).get (h.next + 1) = some (.cells [.bool up, .int .i64 run] false) := (get_new_lt (Nat.lt_succ_self _)).trans (get_new_self _ _)
  have g3 : (((h.new (.cells [.int .i64 r.rise, .int .i64 r.fall, .int .i64 r.every] false)).new (.cells [.bool up, .int .i64 run] false)).new (.cells [.bool false, .int .i64 0] false)).get (h.next + 2) = some (.cells [.bool false, .int .i64 0] false) := get_new_self _ _
  rw [show (h.new (.cells [.int .i64 r.rise, .int .i64 r.fall, .int .i64 r.every] false)).next = h.next + 1 from rfl, show ((h.new (.cells [.int .i64 r.rise, .int .i64 r.fall, .int .i64 r.every] false)).new (.cells [.bool up, .int .i64 run] false)).next = h.next + 2 from rfl]
  generalize ((h.new (.cells [.int .i64 r.rise, .int .i64 r.fall, .int .i64 r.every] false)).new (.cells [.bool up, .int .i64 run] false)).new (.cells [.bool false, .int .i64 0] false) = h6 at *
  rw [cellK_of g2 rfl, asBool_bool]
  unfold tellP
  by_cases hg : good = up
  · subst hg
    rw [show (good == good) = true by simp, cond_true, cellK_of g2 rfl, asBool_bool, wrK_of (n := 2) g3 rfl (by simp) rfl, spl_all _ _ (by simp), aggK_all (n := 2) (get_set_self _ _ _) rfl]
    simp only [lc_cons, l0_nil, asInt_int, asBool_bool, if_true]
    exact .pure ⟨rfl, m0.set (.inl (by omega)) _⟩
  · rw [show (good == up) = false by simpa using hg, cond_false, cellK_of (o := 1) g2 rfl, asInt_int, wrK_one (o := 1) g2 (by simp) rfl, wrap_i64 (by omega) (by omega)]
    have g2' := get_set_self h6 (h.next + 1) (.cells ([AV.bool up, .int .i64 run].set 1 (.int .i64 (run + 1))) false)
    have g1' : (h6.set (h.next + 1) (.cells ([AV.bool up, .int .i64 run].set 1 (.int .i64 (run + 1))) false)).get h.next = _ := (get_set_ne (by omega)).trans g1
    have g3' : (h6.set (h.next + 1) (.cells ([AV.bool up, .int .i64 run].set 1 (.int .i64 (run + 1))) false)).get (h.next + 2) = _ := (get_set_ne (by omega)).trans g3
    have m1 := m0.set (b := h.next + 1) (.inl (by omega)) (.cells ([AV.bool up, .int .i64 run].set 1 (.int .i64 (run + 1))) false)
    generalize h6.set (h.next + 1) (.cells ([AV.bool up, .int .i64 run].set 1 (.int .i64 (run + 1))) false) = h7 at *
    simp only [if_neg hg]
    have yes : ¬ run + 1 < need r up → Ret (outriderref11_Tell_16_J0 n (some (h.next + 1, 0)) (some (h.next + 2, 0)) true h7) fun q h' => q = ((if run + 1 < need r up then ((up, run + 1), false) else ((!up, 0), true)).1.1, (if run + 1 < need r up then ((up, run + 1), false) else ((!up, 0), true)).1.2, (if run + 1 < need r up then ((up, run + 1), false) else ((!up, 0), true)).2) ∧ Mod [] h h' := by
      intro hl
      rw [outriderref11_Tell_16_J0_eq, cond_true]
      simp only [nnK_some']
      rw [cellK_of g2' rfl, asBool_bool, wrK_of (n := 2) g3' rfl (by simp) rfl, spl_all _ _ (by simp), aggK_all (n := 2) (get_set_self _ _ _) rfl]
      simp only [lc_cons, l0_nil, asInt_int, asBool_bool]
      refine .pure ⟨?_, m1.set (.inl (by omega)) _⟩
      rw [if_neg hl]
    have no : run + 1 < need r up → Ret (outriderref11_Tell_16_J0 n (some (h.next + 1, 0)) (some (h.next + 2, 0)) false h7) fun q h' => q = ((if run + 1 < need r up then ((up, run + 1), false) else ((!up, 0), true)).1.1, (if run + 1 < need r up then ((up, run + 1), false) else ((!up, 0), true)).1.2, (if run + 1 < need r up then ((up, run + 1), false) else ((!up, 0), true)).2) ∧ Mod [] h h' := by
      intro hl
      rw [outriderref11_Tell_16_J0_eq, cond_false]
      simp only [nnK_some']
      rw [aggK_all (n := 2) g2' rfl]
      simp only [List.set, lc_cons, l0_nil, asInt_int, asBool_bool]
      rw [wrK_of (n := 2) g3' rfl (by simp) rfl, spl_all _ _ (by simp), aggK_all (n := 2) (get_set_self _ _ _) rfl]
      simp only [lc_cons, l0_nil, asInt_int, asBool_bool]
      refine .pure ⟨?_, m1.set (.inl (by omega)) _⟩
      rw [if_pos hl]
    rw [cellK_of g2' rfl, asBool_bool]
    cases up with
    | true =>
      have hnd : need r true = r.fall := rfl
      rw [cond_true, cellK_of (o := 1) g2' rfl, asInt_int, cellK_of (o := 1) g1' rfl, asInt_int]
      by_cases he : run + 1 = r.fall
      · rw [show ((run + 1 : Int) == r.fall) = true by simpa using he, cond_true]
        exact yes (by omega)
      · rw [show ((run + 1 : Int) == r.fall) = false by simpa using he, cond_false, cellK_of g2' rfl, asBool_bool, Bool.not_true, cond_false]
        exact no (by omega)
    | false =>
      have hnd : need r false = r.rise := rfl
      rw [cond_false, cellK_of g2' rfl, asBool_bool, Bool.not_false, cond_true, cellK_of (o := 1) g2' rfl, asInt_int, cellK_of (o := 0) g1' rfl, asInt_int]
      by_cases he : run + 1 = r.rise
      · rw [show ((run + 1 : Int) == r.rise) = true by simpa using he]
        exact yes (by omega)
      · rw [show ((run + 1 : Int) == r.rise) = false by simpa using he]
        exact no (by omega)

end Go.Ev.Try
