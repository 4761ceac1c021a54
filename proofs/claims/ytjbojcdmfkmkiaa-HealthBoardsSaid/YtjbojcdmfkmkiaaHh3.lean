/- Chapter 09: Cancel and Set. -/
import Derived.Test.YtjbojcdmfkmkiaaHh2
set_option linter.all false
namespace Go.Ev.Try
set_option maxRecDepth 10000

section
variable {h : H} {b : Nat} {now : Int} {sl : List Nat} {fm tm : Nat} {S : Nat → List (Int × Bool)} {F : List (Int × Bool)} {T : List (Int × Int)}

theorem WRep.setSlot (w : WRep h b now sl fm tm S F T) {k m : Nat} (hk : sl[k]? = some m) {l : List (Int × Bool)} {o : AObj} (ho : MObj i64 AV.bool l o) : WRep (h.set m o) b now sl fm tm (fun j => if j = k then l else S j) F T := by
  have hn := w.nodup
  simp only [List.nodup_cons, List.mem_cons, not_or] at hn
  have hm := List.mem_of_getElem? hk
  have hmb : b ≠ m := fun e => hn.1.2.2 (e ▸ hm)
  have hmf : fm ≠ m := fun e => hn.2.1.2 (e ▸ hm)
  have hmt : tm ≠ m := fun e => hn.2.2.1 (e ▸ hm)
  refine ⟨(get_set_ne hmb).trans w.obj, w.len, fun j x hj => ?_, ?_, ?_, w.nodup, w.lt⟩
  · by_cases hjk : j = k
    · subst hjk
      rw [hk] at hj
      cases hj
      exact ⟨o, get_set_self _ _ _, by rw [if_pos rfl]; exact ho⟩
    · obtain ⟨o', h1, h2⟩ := w.slots j x hj
      have hne : x ≠ m := fun e => hjk (by
        subst e
        have l1 := (List.getElem?_eq_some_iff.1 hj).1
        exact (List.getElem?_inj l1 hn.2.2.2).1 (hj.trans hk.symm))
      exact ⟨o', (get_set_ne hne).trans h1, by rw [if_neg hjk]; exact h2⟩
  · obtain ⟨o', h1, h2⟩ := w.far
    exact ⟨o', (get_set_ne hmf).trans h1, h2⟩
  · obtain ⟨o', h1, h2⟩ := w.tim
    exact ⟨o', (get_set_ne hmt).trans h1, h2⟩

theorem WRep.setFar (w : WRep h b now sl fm tm S F T) {l : List (Int × Bool)} {o : AObj} (ho : MObj i64 AV.bool l o) : WRep (h.set fm o) b now sl fm tm S l T := by
  have hn := w.nodup
  simp only [List.nodup_cons, List.mem_cons, not_or] at hn
  refine ⟨(get_set_ne hn.1.1).trans w.obj, w.len, fun j x hj => ?_, ⟨o, get_set_self _ _ _, ho⟩, ?_, w.nodup, w.lt⟩
  · obtain ⟨o', h1, h2⟩ := w.slots j x hj
    exact ⟨o', (get_set_ne fun e : x = fm => hn.2.1.2 (by rw [← e]; exact List.mem_of_getElem? hj)).trans h1, h2⟩
  · obtain ⟨o', h1, h2⟩ := w.tim
    exact ⟨o', (get_set_ne fun e => hn.2.1.1 e.symm).trans h1, h2⟩

theorem WRep.setTim (w : WRep h b now sl fm tm S F T) {l : List (Int × Int)} {o : AObj} (ho : MObj i64 i64 l o) : WRep (h.set tm o) b now sl fm tm S F l := by
  have hn := w.nodup
  simp only [List.nodup_cons, List.mem_cons, not_or] at hn
  refine ⟨(get_set_ne hn.1.2.1).trans w.obj, w.len, fun j x hj => ?_, ?_, ⟨o, get_set_self _ _ _, ho⟩, w.nodup, w.lt⟩
  · obtain ⟨o', h1, h2⟩ := w.slots j x hj
    exact ⟨o', (get_set_ne fun e : x = tm => hn.2.2.1 (by rw [← e]; exact List.mem_of_getElem? hj)).trans h1, h2⟩
  · obtain ⟨o', h1, h2⟩ := w.far
    exact ⟨o', (get_set_ne hn.2.1.1).trans h1, h2⟩

def slotOf (at' : Int) : Nat := (at' % 256).toNat

theorem Cancel_eq (w : WRep h b now sl fm tm S F T) (n : Nat) (id : Int) (hT : ∀ at', lk T id = some at' → 0 ≤ at') :
    match lk T id with
    | none => wheel_Wheel_Cancel_32 n (some (b, 0)) id h = some (false, h)
    | some at' => ∃ h', wheel_Wheel_Cancel_32 n (some (b, 0)) id h = some (true, h') ∧ Mod (fm :: tm :: sl) h h' ∧ WRep h' b now sl fm tm (fun j => if j = slotOf at' then dl (S j) id else S j) (dl F id) (dl T id) := by
  obtain ⟨o, h1, h2⟩ := w.tim
  have hlook := fun f => lookK_of (β := Bool × H) (keys_int .i64) h1 h2 (.int .i64 0) id f
  have start := wheel_Wheel_Cancel_32_eq n (some (b, 0)) id h
  simp only [nnK_some', Nat.zero_add] at start
  rw [cellK_of w.obj w.cell258, asMap_map, hlook] at start
  cases hl : lk T id with
  | none =>
    rw [hl] at start
    simp only [asInt_int] at start
    rw [Bool.not_false, cond_true] at start
    exact start
  | some at' =>
    have h0 := hT at' hl
    rw [hl] at start
    simp only [asInt_int] at start
    have ht : Int.tmod at' 256 = at' % 256 := Int.tmod_eq_emod_of_nonneg h0
    have hk : (at' % 256).toNat < sl.length := by rw [w.len]; omega
    have hs : sl[(at' % 256).toNat]? = some sl[(at' % 256).toNat] := List.getElem?_eq_getElem hk
    rw [Bool.not_true, cond_false, ht, if_pos ⟨by omega, by omega⟩, cellK_of w.obj (w.cellS hs), asMap_map] at start
    generalize hmm : sl[(at' % 256).toNat] = m at hs start
    obtain ⟨o1, g1, g2⟩ := w.slots _ _ hs
    obtain ⟨o1', ho1, e1⟩ := delK_of (β := Bool × H) (keys_int .i64) g1 g2 id
    rw [e1] at start
    have w1 := w.setSlot hs ho1
    obtain ⟨o2, k1, k2⟩ := w1.far
    obtain ⟨o2', ho2, e2⟩ := delK_of (β := Bool × H) (keys_int .i64) k1 k2 id
    rw [cellK_of w1.obj w1.cell257, asMap_map, e2] at start
    have w2 := w1.setFar ho2
    obtain ⟨o3, l1, l2⟩ := w2.tim
    obtain ⟨o3', ho3, e3⟩ := delK_of (β := Bool × H) (keys_int .i64) l1 l2 id
    rw [cellK_of w2.obj w2.cell258, asMap_map, e3] at start
    have w3 := w2.setTim ho3
    have hS : (fun j => if j = slotOf at' then dl (S j) id else S j) = fun j => if j = (at' % 256).toNat then dl (S (at' % 256).toNat) id else S j := by
      funext j
      unfold slotOf
      by_cases hj : j = (at' % 256).toNat
      · rw [if_pos hj, if_pos hj, hj]
      · rw [if_neg hj, if_neg hj]
    refine ⟨_, start, ?_, by rw [hS]; exact w3⟩
    exact (((Mod.refl _ _).set (.inr (by simp [List.mem_of_getElem? hs])) _).set (.inr (by simp)) _).set (.inr (by simp)) _

def may (id at' : Int) : Prop := 0 ≤ id ∧ id < 65536 ∧ 0 ≤ at' ∧ at' ≤ 1099511627776
instance (id at' : Int) : Decidable (may id at') := by unfold may; exact inferInstance

/-- the timers of slots and of the heap without one -/
def cutS (S : Nat → List (Int × Bool)) (T : List (Int × Int)) (id : Int) : Nat → List (Int × Bool) := match lk T id with | none => S | some at' => fun j => if j = slotOf at' then dl (S j) id else S j
def cutF (F : List (Int × Bool)) (T : List (Int × Int)) (id : Int) : List (Int × Bool) := match lk T id with | none => F | some _ => dl F id
def cutT (T : List (Int × Int)) (id : Int) : List (Int × Int) := match lk T id with | none => T | some _ => dl T id
def near (now at' : Int) : Prop := at' > now ∧ at' < now + 256
instance (now at' : Int) : Decidable (near now at') := by unfold near; exact inferInstance

theorem Cancel_ret (w : WRep h b now sl fm tm S F T) (n : Nat) (id : Int) (hT : ∀ at', lk T id = some at' → 0 ≤ at') :
    ∃ h', wheel_Wheel_Cancel_32 n (some (b, 0)) id h = some ((lk T id).isSome, h') ∧ Mod (fm :: tm :: sl) h h' ∧ WRep h' b now sl fm tm (cutS S T id) (cutF F T id) (cutT T id) := by
  have := Cancel_eq w n id hT
  unfold cutS cutF cutT
  cases hl : lk T id with
  | none => rw [hl] at this; exact ⟨h, this, Mod.refl _ _, w⟩
  | some at' => rw [hl] at this; exact this

theorem Set_bad (n : Nat) {id at' : Int} (hb : ¬ may id at') (p : Option (Nat × Nat)) : wheel_Wheel_Set_28 n p id at' h = some (false, h) := by
  have j : wheel_Wheel_Set_28_J0 n p id at' true h = some (false, h) := by rw [wheel_Wheel_Set_28_J0_eq, cond_true]
  rw [wheel_Wheel_Set_28_eq]
  unfold may at hb
  by_cases h1 : id < 0
  · rw [decide_eq_true h1, cond_true]; exact j
  rw [decide_eq_false h1, cond_false]
  by_cases h2 : id ≥ 65536
  · rw [decide_eq_true h2, cond_true]; exact j
  rw [decide_eq_false h2, cond_false]
  by_cases h3 : at' < 0
  · rw [decide_eq_true h3, cond_true]; exact j
  rw [decide_eq_false h3, cond_false, decide_eq_true (show at' > 1099511627776 by omega)]
  exact j

theorem Set_ret (w : WRep h b now sl fm tm S F T) (h0 : 0 ≤ now) (h1 : now ≤ 1099511627776) (n : Nat) {id at' : Int} (hm : may id at') (hT : ∀ x, lk T id = some x → 0 ≤ x) :
    ∃ h', wheel_Wheel_Set_28 n (some (b, 0)) id at' h = some (true, h') ∧ Mod (fm :: tm :: sl) h h' ∧
      WRep h' b now sl fm tm (if near now at' then fun j => if j = slotOf at' then pt (cutS S T id j) id true else cutS S T id j else cutS S T id) (if near now at' then cutF F T id else pt (cutF F T id) id true) (pt (cutT T id) id at') := by
  obtain ⟨m1, m2, m3, m4⟩ := hm
  obtain ⟨hc, e0, mod0, w0⟩ := Cancel_ret w n id hT
  have start := wheel_Wheel_Set_28_eq n (some (b, 0)) id at' h
  rw [decide_eq_false (show ¬ id < 0 by omega), cond_false, decide_eq_false (show ¬ id ≥ 65536 by omega), cond_false, decide_eq_false (show ¬ at' < 0 by omega), cond_false, decide_eq_false (show ¬ at' > 1099511627776 by omega), wheel_Wheel_Set_28_J0_eq, cond_false, e0, Option.bind_some] at start
  simp only [nnK_some', Nat.zero_add] at start
  obtain ⟨o1, g1, g2⟩ := w0.tim
  obtain ⟨o1', ho1, e1⟩ := putK_of (β := Bool × H) (keys_int .i64) g1 g2 id at'
  rw [cellK_of w0.obj w0.cell258, asMap_map] at start
  rw [e1] at start
  have w1 := w0.setTim ho1
  rw [place_eq w1 h0 h1 m3 n, Option.bind_some] at start
  simp only at start
  unfold placeOf at start
  by_cases hn : near now at'
  · rw [if_pos (show at' > now ∧ at' < now + 256 from hn)] at start
    rw [if_pos hn, if_pos hn]
    have hk : (at' % 256).toNat < sl.length := by rw [w.len]; omega
    have hs : sl[(at' % 256).toNat]? = some sl[(at' % 256).toNat] := List.getElem?_eq_getElem hk
    rw [List.getD_eq_getElem?_getD, hs, Option.getD_some] at start
    generalize sl[(at' % 256).toNat] = m at hs start
    obtain ⟨o2, k1, k2⟩ := w1.slots _ _ hs
    obtain ⟨o2', ho2, e2⟩ := putK_of (β := Bool × H) (keys_int .i64) k1 k2 id true
    rw [e2] at start
    have w2 := w1.setSlot hs ho2
    have hS : (fun j => if j = slotOf at' then pt (cutS S T id j) id true else cutS S T id j) = fun j => if j = (at' % 256).toNat then pt (cutS S T id (at' % 256).toNat) id true else cutS S T id j := by
      funext j
      unfold slotOf
      by_cases hj : j = (at' % 256).toNat
      · rw [if_pos hj, if_pos hj, hj]
      · rw [if_neg hj, if_neg hj]
    exact ⟨_, start, (mod0.set (.inr (by simp)) _).set (.inr (by simp [List.mem_of_getElem? hs])) _, by rw [hS]; exact w2⟩
  · rw [if_neg (show ¬ (at' > now ∧ at' < now + 256) from hn)] at start
    rw [if_neg hn, if_neg hn]
    obtain ⟨o2, k1, k2⟩ := w1.far
    obtain ⟨o2', ho2, e2⟩ := putK_of (β := Bool × H) (keys_int .i64) k1 k2 id true
    rw [e2] at start
    exact ⟨_, start, (mod0.set (.inr (by simp)) _).set (.inr (by simp)) _, w1.setFar ho2⟩
end

end Go.Ev.Try
