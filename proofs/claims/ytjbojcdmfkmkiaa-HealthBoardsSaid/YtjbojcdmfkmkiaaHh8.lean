/- Chapter 09: what holds of a wheel's maps: each timer lies once where its time says. -/
import Derived.Test.YtjbojcdmfkmkiaaHh7
set_option linter.all false
namespace Go.Ev.Try
set_option maxRecDepth 10000

def keys (l : List (Int × Bool)) : List Int := l.map (·.1)
def idsOf (p : Int → Bool) (T : List (Int × Int)) : List Int := (T.filter fun e => p e.2).map (·.1)
def inSlot (now : Int) (k : Nat) (at' : Int) : Bool := decide (near now at' ∧ slotOf at' = k)
def isFar (now at' : Int) : Bool := decide (¬ near now at')

structure WOk (now : Int) (S : Nat → List (Int × Bool)) (F : List (Int × Bool)) (T : List (Int × Int)) : Prop where
  n0 : 0 ≤ now
  n1 : now ≤ 1099511627776
  nd : (T.map (·.1)).Nodup
  may : ∀ e ∈ T, may e.1 e.2
  slot : ∀ k, (keys (S k)).Perm (idsOf (inSlot now k) T)
  far : (keys F).Perm (idsOf (isFar now) T)

section
variable {V : Type}
theorem lk_mem {l : List (Int × V)} {k : Int} {v : V} (h : lk l k = some v) : (k, v) ∈ l := by
  unfold lk at h
  obtain ⟨e, he, rfl⟩ := Option.map_eq_some_iff.1 h
  have h1 := List.mem_of_find?_eq_some he
  have h2 := List.find?_some he
  have h2 : k = e.1 := by simpa using h2
  rw [h2]; exact h1
theorem lk_none {l : List (Int × V)} {k : Int} (h : lk l k = none) : ∀ e ∈ l, e.1 ≠ k := by
  unfold lk at h
  intro e he hk
  have := List.find?_eq_none.1 (Option.map_eq_none_iff.1 h) e he
  exact this (by simpa using hk.symm)
theorem lk_of_mem {l : List (Int × V)} (hn : (l.map (·.1)).Nodup) {k : Int} {v : V} (h : (k, v) ∈ l) : lk l k = some v := by
  cases hl : lk l k with
  | none => exact absurd rfl (lk_none hl _ h)
  | some u =>
    have h2 := lk_mem hl
    have : ∀ {l : List (Int × V)}, (l.map (·.1)).Nodup → (k, v) ∈ l → (k, u) ∈ l → u = v := by
      intro l
      induction l with
      | nil => intro _ h; cases h
      | cons e l ih =>
        intro hn h1 h2
        rw [List.map_cons, List.nodup_cons] at hn
        rcases List.mem_cons.1 h1 with h3 | h3
        · subst h3
          rcases List.mem_cons.1 h2 with h4 | h4
          · cases h4; rfl
          · exact absurd (List.mem_map.2 ⟨(k, u), h4, rfl⟩ : k ∈ l.map (·.1)) hn.1
        · rcases List.mem_cons.1 h2 with h4 | h4
          · subst h4
            exact absurd (List.mem_map.2 ⟨(k, v), h3, rfl⟩ : k ∈ l.map (·.1)) hn.1
          · exact ih hn.2 h3 h4
    rw [this hn h h2]
theorem pt_new {l : List (Int × V)} {k : Int} (h : ∀ e ∈ l, e.1 ≠ k) (v : V) : pt l k v = l ++ [(k, v)] := by
  unfold pt
  rw [if_neg]
  intro ha
  obtain ⟨e, he, hk⟩ := List.any_eq_true.1 ha
  exact h e he (by simpa using (of_decide_eq_true hk).symm)
theorem dl_map (l : List (Int × V)) (k : Int) : (dl l k).map (·.1) = (l.map (·.1)).filter fun x => !decide (k = x) := by
  unfold dl
  rw [List.filter_map]; rfl
theorem dl_none {l : List (Int × V)} {k : Int} (h : ∀ e ∈ l, e.1 ≠ k) : dl l k = l := by
  unfold dl
  rw [List.filter_eq_self]
  intro e he
  simp [Ne.symm (h e he)]
end

theorem idsOf_dl (p : Int → Bool) (T : List (Int × Int)) (id : Int) : idsOf p (dl T id) = (idsOf p T).filter fun x => !decide (id = x) := by
  unfold idsOf dl
  rw [List.filter_map, List.filter_filter, List.filter_filter]
  congr 1
  apply List.filter_congr
  intro e _
  simp [Bool.and_comm]
theorem mem_idsOf {p : Int → Bool} {T : List (Int × Int)} {id : Int} : id ∈ idsOf p T ↔ ∃ at', (id, at') ∈ T ∧ p at' = true := by
  unfold idsOf
  rw [List.mem_map]
  constructor
  · rintro ⟨e, he, rfl⟩
    rw [List.mem_filter] at he
    exact ⟨e.2, he.1, he.2⟩
  · rintro ⟨a, h1, h2⟩
    exact ⟨(id, a), List.mem_filter.2 ⟨h1, h2⟩, rfl⟩
theorem idsOf_congr {p q : Int → Bool} {T : List (Int × Int)} (h : ∀ e ∈ T, p e.2 = q e.2) : idsOf p T = idsOf q T := by
  unfold idsOf
  rw [List.filter_congr h]
theorem idsOf_split (p q : Int → Bool) (T : List (Int × Int)) : (idsOf p T).Perm (idsOf (fun x => p x && q x) T ++ idsOf (fun x => p x && !q x) T) := by
  unfold idsOf
  rw [← List.map_append]
  refine List.Perm.map _ ?_
  have h1 : (T.filter fun e => p e.2 && q e.2) = (T.filter fun e => p e.2).filter fun e => q e.2 := by rw [List.filter_filter]; apply List.filter_congr; intro e _; exact Bool.and_comm _ _
  have h2 : (T.filter fun e => p e.2 && !q e.2) = (T.filter fun e => p e.2).filter fun e => !q e.2 := by rw [List.filter_filter]; apply List.filter_congr; intro e _; exact Bool.and_comm _ _
  rw [h1, h2]
  exact (List.filter_append_perm _ _).symm
theorem idsOf_nodup {p : Int → Bool} {T : List (Int × Int)} (hn : (T.map (·.1)).Nodup) : (idsOf p T).Nodup := hn.sublist (List.filter_sublist.map _)
theorem idsOf_map {T : List (Int × Int)} (hn : (T.map (·.1)).Nodup) (p q : Int → Bool) : ((idsOf p T).filter fun id => q (timeOf T id)) = idsOf (fun x => p x && q x) T := by
  unfold idsOf
  rw [List.filter_map, List.filter_filter]
  congr 1
  apply List.filter_congr
  intro e he
  have : lk T e.1 = some e.2 := lk_of_mem hn he
  simp only [Function.comp, timeOf, this, Option.getD_some]
  exact Bool.and_comm _ _

section
variable {now : Int} {S : Nat → List (Int × Bool)} {F : List (Int × Bool)} {T : List (Int × Int)}

theorem WOk.times (w : WOk now S F T) : TimesOk T := fun id at' h => w.may _ (lk_mem h)
theorem WOk.time0 (w : WOk now S F T) {id : Int} : ∀ x, lk T id = some x → 0 ≤ x := fun x h => (w.times id x h).2.2.1
theorem WOk.new : WOk 0 (fun _ => []) [] [] := ⟨by omega, by omega, by simp, fun e h => (by cases h), fun k => .nil, .nil⟩
theorem WOk.mem_slot (w : WOk now S F T) {k : Nat} {id : Int} (h : id ∈ keys (S k)) : ∃ at', (id, at') ∈ T ∧ near now at' ∧ slotOf at' = k := by
  obtain ⟨a, h1, h2⟩ := mem_idsOf.1 ((w.slot k).mem_iff.1 h)
  exact ⟨a, h1, of_decide_eq_true h2⟩
theorem WOk.mem_far (w : WOk now S F T) {id : Int} (h : id ∈ keys F) : ∃ at', (id, at') ∈ T ∧ ¬ near now at' := by
  obtain ⟨a, h1, h2⟩ := mem_idsOf.1 (w.far.mem_iff.1 h)
  exact ⟨a, h1, of_decide_eq_true h2⟩

theorem WOk.cut (w : WOk now S F T) (id : Int) : WOk now (cutS S T id) (cutF F T id) (cutT T id) := by
  unfold cutS cutF cutT
  cases hl : lk T id with
  | none => exact w
  | some a =>
    refine ⟨w.n0, w.n1, ?_, fun e he => w.may e (List.mem_filter.1 he).1, fun j => ?_, ?_⟩
    · rw [dl_map]; exact w.nd.filter _
    · rw [idsOf_dl]
      simp only
      by_cases hj : j = slotOf a
      · rw [if_pos hj, keys, dl_map]
        exact (w.slot j).filter _
      · rw [if_neg hj]
        have : ((idsOf (inSlot now j) T).filter fun x => !decide (id = x)) = idsOf (inSlot now j) T := by
          rw [List.filter_eq_self]
          intro x hx
          obtain ⟨a', h1, h2⟩ := mem_idsOf.1 hx
          have h2 := of_decide_eq_true h2
          suffices id ≠ x by simp [this]
          rintro rfl
          rw [lk_of_mem w.nd h1] at hl
          cases hl
          exact hj h2.2.symm
        rw [this]
        exact w.slot j
    · rw [idsOf_dl, keys, dl_map]
      exact w.far.filter _

theorem cutT_eq (T : List (Int × Int)) (id : Int) : cutT T id = dl T id := by
  unfold cutT
  cases hl : lk T id with
  | none => exact (dl_none (lk_none hl)).symm
  | some a => rfl
theorem dl_not {V : Type} (T : List (Int × V)) (id : Int) : ∀ e ∈ dl T id, e.1 ≠ id := fun e he hk => by
  have := (List.mem_filter.1 he).2
  simp [hk] at this

theorem WOk.add (w : WOk now S F T) {id at' : Int} (hm : Go.Ev.Try.may id at') (hid : ∀ e ∈ T, e.1 ≠ id) :
    WOk now (if near now at' then fun j => if j = slotOf at' then pt (S j) id true else S j else S) (if near now at' then F else pt F id true) (pt T id at') := by
  have hs : ∀ k, ∀ e ∈ S k, e.1 ≠ id := fun k e he hk => by
    obtain ⟨a, h1, _⟩ := w.mem_slot (k := k) (id := id) (by rw [← hk]; exact List.mem_map_of_mem he)
    exact hid _ h1 rfl
  have hf : ∀ e ∈ F, e.1 ≠ id := fun e he hk => by
    obtain ⟨a, h1, _⟩ := w.mem_far (id := id) (by rw [← hk]; exact List.mem_map_of_mem he)
    exact hid _ h1 rfl
  rw [pt_new hid, pt_new hf]
  refine ⟨w.n0, w.n1, ?_, fun e he => ?_, fun j => ?_, ?_⟩
  · rw [List.map_append, List.nodup_append]
    refine ⟨w.nd, by simp, fun x hx y hy => ?_⟩
    obtain ⟨e, he, rfl⟩ := List.mem_map.1 hx
    simp at hy; subst hy
    exact hid e he
  · rcases List.mem_append.1 he with he | he
    · exact w.may e he
    · simp at he; subst he; exact hm
  · have : idsOf (inSlot now j) (T ++ [(id, at')]) = idsOf (inSlot now j) T ++ if near now at' ∧ slotOf at' = j then [id] else [] := by
      unfold idsOf
      rw [List.filter_append, List.map_append]
      congr 1
      by_cases hc : near now at' ∧ slotOf at' = j
      · rw [if_pos hc]
        have : inSlot now j at' = true := decide_eq_true hc
        simp [this]
      · rw [if_neg hc]
        have : inSlot now j at' = false := decide_eq_false hc
        simp [this]
    rw [this]
    by_cases hn : near now at'
    · rw [if_pos hn]
      by_cases hj : j = slotOf at'
      · rw [if_pos hj, if_pos ⟨hn, hj.symm⟩, pt_new (hs j), keys, List.map_append]
        exact (w.slot j).append_right _
      · rw [if_neg hj, if_neg (fun h => hj h.2.symm), List.append_nil]
        exact w.slot j
    · rw [if_neg hn, if_neg (fun h => hn h.1), List.append_nil]
      exact w.slot j
  · have : idsOf (isFar now) (T ++ [(id, at')]) = idsOf (isFar now) T ++ if near now at' then [] else [id] := by
      unfold idsOf
      rw [List.filter_append, List.map_append]
      congr 1
      by_cases hc : near now at'
      · rw [if_pos hc]
        have : isFar now at' = false := decide_eq_false (by simpa using hc)
        simp [this]
      · rw [if_neg hc]
        have : isFar now at' = true := decide_eq_true hc
        simp [this]
    rw [this]
    by_cases hn : near now at'
    · rw [if_pos hn, if_pos hn, List.append_nil]; exact w.far
    · rw [if_neg hn, if_neg hn, keys, List.map_append]
      exact w.far.append_right _

/-- ids left out of a row of timers -/
def without (T : List (Int × Int)) (ids : List Int) : List (Int × Int) := ids.foldl dl T

theorem without_filter : ∀ (ids : List Int) (T : List (Int × Int)), without T ids = T.filter fun e => !decide (e.1 ∈ ids)
  | [], T => (List.filter_eq_self.2 fun e _ => by simp).symm
  | id :: ids, T => by
    have := without_filter ids (dl T id)
    unfold without at this ⊢
    rw [List.foldl_cons, this]
    unfold dl
    rw [List.filter_filter]
    apply List.filter_congr
    intro e _
    by_cases h : e.1 = id
    · simp [h]
    · by_cases h2 : e.1 ∈ ids
      · simp [h2]
      · simp [h, h2, Ne.symm h]
end

end Go.Ev.Try
