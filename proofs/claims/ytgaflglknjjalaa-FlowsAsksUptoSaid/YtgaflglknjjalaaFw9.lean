/- Chapter 10: remove, Drop, Open, Put, See, Get, Len: what a table's calls come to, in the list's words. -/
import Derived.Test.YtgaflglknjjalaaFw8
set_option linter.all false
namespace Go.Ev.Try
set_option maxRecDepth 10000
open Go.Proofs

/-! ### states -/

def stepI (st fl : Int) : Int :=
  if st = 4 then 4 else if iand .i64 fl 5 ≠ 0 then 3 else if st = 1 ∧ iand .i64 fl 18 = 16 then 2 else if st = 3 ∧ iand .i64 fl 18 = 2 then 1 else st
def lifeI (st : Int) : Int := if st = 1 then 60 else if st = 2 then 900 else if st = 3 then 30 else if st = 4 then 120 else 0

theorem Step_eq (st fl : Int) (n : Nat) (h : H) : flows_Step_11 n st fl h = some (stepI st fl, h) := by
  rw [flows_Step_11_eq]
  unfold stepI
  by_cases h4 : st = 4
  · subst h4; rfl
  · rw [show (st == 4) = false by simpa using h4, cond_false, if_neg h4]
    by_cases h5 : iand .i64 fl 5 = 0
    · rw [h5, show ((0 : Int) != 0) = false from rfl, cond_false, if_neg (by simp)]
      by_cases h1 : st = 1
      · subst h1
        rw [show ((1 : Int) == 1) = true from rfl, cond_true, flows_Step_11_J0_eq]
        by_cases h6 : iand .i64 fl 18 = 16
        · rw [h6]; rfl
        · rw [show (iand .i64 fl 18 == 16) = false by simpa using h6, cond_false, show ((1 : Int) == 3) = false from rfl, cond_false, flows_Step_11_J1_eq, cond_false, if_neg (by simp [h6]), if_neg (by simp)]
      · rw [show (st == 1) = false by simpa using h1, cond_false, flows_Step_11_J0_eq, cond_false, if_neg (by simp [h1])]
        by_cases h3 : st = 3
        · subst h3
          rw [show ((3 : Int) == 3) = true from rfl, cond_true, flows_Step_11_J1_eq]
          by_cases h6 : iand .i64 fl 18 = 2
          · rw [h6]; rfl
          · rw [show (iand .i64 fl 18 == 2) = false by simpa using h6, cond_false, if_neg (by simp [h6])]
        · rw [show (st == 3) = false by simpa using h3, cond_false, flows_Step_11_J1_eq, cond_false, if_neg (by simp [h3])]
    · rw [show (iand .i64 fl 5 != 0) = true by simpa using h5, cond_true, if_pos h5]
theorem Life_eq (st : Int) (n : Nat) (h : H) : flows_Life_13 n st h = some (lifeI st, h) := by
  rw [flows_Life_13_eq]
  unfold lifeI
  by_cases h1 : st = 1
  · subst h1; rfl
  · by_cases h2 : st = 2
    · subst h2; rfl
    · by_cases h3 : st = 3
      · subst h3; rfl
      · by_cases h4 : st = 4
        · subst h4; rfl
        · rw [show (st == 1) = false by simpa using h1, show (st == 2) = false by simpa using h2, show (st == 3) = false by simpa using h3, show (st == 4) = false by simpa using h4, if_neg h1, if_neg h2, if_neg h3, if_neg h4]; rfl
theorem lifeI_zero {st : Int} : lifeI st = 0 ↔ st < 1 ∨ 4 < st := by
  unfold lifeI
  repeat' split
  all_goals omega

theorem served_eq (x : Int) (n : Nat) (h : H) : flows_served_35 n x h = some (decide (0 ≤ x ∧ x < 16), h) := by
  rw [flows_served_35_eq]
  by_cases h0 : 0 ≤ x <;> simp [h0]
theorem timely_eq (x : Int) (n : Nat) (h : H) : flows_timely_36 n x h = some (decide (0 ≤ x ∧ x ≤ 1099511626776), h) := by
  rw [flows_timely_36_eq]
  by_cases h0 : 0 ≤ x <;> simp [h0]

abbrev Wrong (ba now : Int) : Prop := ba < 0 ∨ 15 < ba ∨ now < 0 ∨ 1099511626776 < now

/-! ### the calls, by the list -/

def openS (l : List En) (f : Fl) (ba fl now : Int) : List En × Int :=
  if Wrong ba now then (l, 1) else if getE l f = none ∧ 64 ≤ l.length then (l, 100) else
  (withE l ⟨f, ba, if f.pr = 6 then stepI 1 fl else 4, IntKind.i64.wrap (now + lifeI (if f.pr = 6 then stepI 1 fl else 4))⟩, 0)
def seen (e : En) (fl now : Int) : En := ⟨e.f, e.ba, stepI e.st fl, IntKind.i64.wrap (now + lifeI (stepI e.st fl))⟩
def seeS (l : List En) (f : Fl) (fl now : Int) : List En × En × Bool :=
  match getE l f with
  | none => (l, z0, false)
  | some e => if now < 0 ∨ 1099511626776 < now then (l, z0, false) else (withE l (seen e fl now), seen e fl now, true)
def putS (l : List En) (e : En) (now : Int) : List En × Int :=
  if Wrong e.ba now ∨ e.st < 1 ∨ 4 < e.st ∨ e.en < 0 ∨ 1099511627776 < e.en then (l, 1) else if getE l e.f = none ∧ 64 ≤ l.length then (l, 100) else
  if e.en ≤ now then (without l e.f, 101) else (withE l e, 0)

theorem without_none {l : List En} {f : Fl} (h : getE l f = none) : without l f = l := by
  unfold without
  rw [List.filter_eq_self]
  intro e he
  have := getE_none.1 h e he
  simpa using this
theorem okF_with {l : List En} (h : ∀ e ∈ l, okF e.f) {e : En} (he : okF e.f) : ∀ x ∈ withE l e, okF x.f := fun x hx => by
  rcases withE_mem.1 hx with rfl | ⟨h1, _⟩
  · exact he
  · exact h x h1

section
variable {h : H} {b : Nat} {key : List Int} {l : List En} {n : Nat}

theorem Tab.mod {h' : H} {S : List Nat} (t : Tab h b key l) (m : Mod S h h') (hS : b ∉ S) : Tab h' b key l := by
  obtain ⟨P, t1, t2⟩ := t.ex
  exact ⟨P, t1.mod m hS, t2⟩
theorem Tab.mod0 {h' : H} (t : Tab h b key l) (m : Mod [] h h') : Tab h' b key l := t.mod m (by simp)
theorem Tab.lt (t : Tab h b key l) : b < h.next := by
  obtain ⟨P, t1, _⟩ := t.ex
  exact t1.at'.lt
theorem Tab.srt (t : Tab h b key l) : Srt l := by
  obtain ⟨P, _, r, _⟩ := t.ex
  exact r.srt
theorem Tab.len (t : Tab h b key l) : l.length ≤ 64 := by
  obtain ⟨P, _, _, _, h, _⟩ := t.ex
  exact h
theorem Tab.ok (t : Tab h b key l) : ∀ e ∈ l, okF e.f := by
  obtain ⟨P, _, _, _, _, h⟩ := t.ex
  exact h

theorem Tab.Len_eq (t : Tab h b key l) : flows_Table_Len_21 n (some (b, 0)) h = some ((l.length : Int), h) := by
  obtain ⟨P, t1, _⟩ := t.ex
  rw [flows_Table_Len_21_eq, nnK_some', t1.many', asInt_int]
theorem Tab.All (t : Tab h b key l) (hn : 1000 ≤ n) : Ret (flows_Table_All_25 n (some (b, 0)) h) fun z h' => Grow h h' 8 z.1 z.2.1 z.2.2 (l.flatMap encE) ∧ Mod [] h h' := by
  obtain ⟨P, t1, r, _⟩ := t.ex
  exact All_ret t1 r hn

theorem remove_ret {P : List Pl} (t : Tb h b key P l.length (marks P)) (r : Rep (sOf key) P l) (hm : marks P ≤ 32) (hl : l.length ≤ 64) (ho : ∀ e ∈ l, okF e.f) {i : Nat} {e0 : En} (hp : P[i]? = some (1, e0)) (hn : 10000000 ≤ n) :
    Ret (flows_Table_remove_38 n (some (b, 0)) i h) fun _ h' => Tab h' b key (without l e0.f) ∧ Mod [b] h h' := by
  have hi : i < 128 := by have := (List.getElem?_eq_some_iff.1 hp).1; rw [t.plen] at this; exact this
  have hg : getE l e0.f = some e0 := r.srt.getE ((r.mem e0).2 (mem_used.2 ⟨i, hp⟩))
  have hwl := without_len r.srt e0.f
  rw [hg, Option.isSome_some, if_pos rfl] at hwl
  have hpos : 0 < l.length := List.length_pos_of_mem ((r.mem e0).2 (mem_used.2 ⟨i, hp⟩))
  have hmk : marks (P.set i (2, z0)) = marks P + 1 := by
    have := marks_set (q := ((2, z0) : Pl)) hp
    simpa using this
  have r' := r.remove hp z0
  have ho' : ∀ e ∈ without l e0.f, okF e.f := fun e he => ho e (mem_without.1 he).1
  rw [flows_Table_remove_38_eq, nnK_some', if_pos ⟨by omega, by omega⟩, Int.toNat_natCast]
  refine t.set hi (2, z0) rfl fun h1 t1 n1 m1 => ?_
  rw [nnK_some', t1.many', asInt_int, nnK_some', show IntKind.i64.wrap ((l.length : Int) - 1) = ((l.length - 1 : Nat) : Int) by rw [wrapi (by omega) (by omega)]; omega]
  refine t1.setMany (l.length - 1) rfl fun h2 t2 n2 m2 => ?_
  rw [nnK_some', t2.marks', asInt_int, nnK_some', wrap_succ (by omega)]
  refine t2.setMarks (marks P + 1) rfl fun h3 t3 n3 m3 => ?_
  rw [nnK_some', t3.marks', asInt_int]
  rw [← hwl, ← hmk] at t3
  have mm := (m1.trans m2).trans m3
  by_cases hb : 32 < marks P + 1
  · rw [show decide (((marks P + 1 : Nat) : Int) > 32) = true by simp; omega, cond_true]
    exact (compact_ret t3 r' (by omega) ho' hn).bind fun _ h4 ⟨q1, q2⟩ => .pure ⟨q1, mm.trans q2⟩
  · rw [show decide (((marks P + 1 : Nat) : Int) > 32) = false by simp; omega, cond_false]
    exact .pure ⟨⟨_, t3, r', by omega, by omega, ho'⟩, mm⟩

/-- what was laid anew in its own place, or in one that was free for it -/
theorem layTab_ret {P : List Pl} (t : Tb h b key P l.length (marks P)) (r : Rep (sOf key) P l) (hm : marks P ≤ 32) (hl : l.length ≤ 64) (ho : ∀ e ∈ l, okF e.f) {e : En} (he : okF e.f) {i : Nat} {p : Pl} (hp : P[i]? = some p)
    (hc : (p.1 = 1 ∧ p.2.f = e.f ∧ getE l e.f = some p.2) ∨ (p.1 ≠ 1 ∧ getE l e.f = none ∧ path (sOf key e.f) P i ∧ l.length < 64)) :
    Ret (flows_Table_lay_37 n (some (b, 0)) i e.f.pr e.f.fr e.f.to e.f.po e.f.de e.ba e.st e.en h) fun _ h' => Tab h' b key (withE l e) ∧ Mod [b] h h' := by
  have hpos : p.1 = 2 → 0 < marks P := fun h2 => List.countP_pos_iff.2 ⟨p, List.mem_of_getElem? hp, by simpa using h2⟩
  have hwl := withE_len r.srt e
  have hmk := marks_set (q := ((1, e) : Pl)) hp
  refine (lay_ret t (by omega) hp hpos (by omega) e n).mono fun _ h' ⟨q1, q2⟩ => ⟨?_, q2⟩
  rcases hc with ⟨h1, h2, h3⟩ | ⟨h1, h2, h3, h4⟩
  · have h12 : p.1 ≠ 2 := by omega
    rw [if_pos h1, if_neg h12] at q1
    rw [if_neg h12] at hmk
    rw [h3, Option.isSome_some, if_pos rfl] at hwl
    simp at hmk
    have hp' : P[i]? = some (1, p.2) := by rw [hp, ← h1]
    rw [← hmk] at q1 hm
    rw [← hwl] at q1
    exact ⟨_, q1, r.layOld hp' h2, hm, by omega, okF_with ho he⟩
  · rw [h2, if_neg (by simp)] at hwl
    rw [if_neg h1, ← hwl] at q1
    have hmk2 : (if p.1 = 2 then marks P - 1 else marks P) = marks (P.set i (1, e)) := by
      by_cases h5 : p.1 = 2
      · have := hpos h5
        rw [if_pos h5] at hmk ⊢
        simp at hmk; omega
      · rw [if_neg h5] at hmk ⊢
        simp at hmk; omega
    rw [hmk2] at q1
    refine ⟨_, q1, r.layNew h2 hp h1 h3, ?_, by omega, okF_with ho he⟩
    rw [← hmk2]; split <;> omega

theorem Tab.Drop (t : Tab h b key l) (f : Fl) (hf : okF f) (hn : 10000000 ≤ n) : Ret (flows_Table_Drop_20 n (some (b, 0)) f.pr f.fr f.to f.po f.de h) fun r h' => r = (getE l f).isSome ∧ Tab h' b key (without l f) ∧ Mod [b] h h' := by
  obtain ⟨P, tb, r, hmk, hl, ho⟩ := t.ex
  rw [flows_Table_Drop_20_eq]
  refine newK_ret fun i1 h1 g1 e1 n1 m1 => ?_
  rw [At.all (cs := encF f) g1 (encF_len f), rdF]
  refine (find_ret (tb.mod0 m1) f hf hn).bind fun z h2 ⟨q1, q2⟩ => ?_
  dsimp only
  have mm := m1.trans q2
  rcases r.find f (sOf_lt key f) (by omega) with ⟨i, e, k1, k2, k3, k4, k5⟩ | ⟨i, p, k1, k2, k3, k4, k5, k6⟩
  · rw [q1, k1, cond_true, k5]
    subst k4
    exact (remove_ret (tb.mod0 mm) r hmk hl ho k3 hn).bind fun _ h3 ⟨q3, q4⟩ => .pure ⟨rfl, q3, mm.of_nil.trans q4⟩
  · rw [q1, k1, cond_false, k3, without_none k3]
    exact .pure ⟨rfl, t.mod0 mm, mm.of_nil⟩

theorem Tab.Open (t : Tab h b key l) (f : Fl) (hf : okF f) (ba fl now : Int) (hn : 10000000 ≤ n) : Ret (flows_Table_Open_19 n (some (b, 0)) f.pr f.fr f.to f.po f.de ba fl now h) fun r h' => r = (openS l f ba fl now).2 ∧ Tab h' b key (openS l f ba fl now).1 ∧ Mod [b] h h' := by
  obtain ⟨P, tb, r, hmk, hl, ho⟩ := t.ex
  rw [flows_Table_Open_19_eq]
  refine newK_ret fun i1 h1 g1 e1 n1 m1 => ?_
  rw [At.all (cs := encF f) g1 (encF_len f), rdF]
  refine (find_ret (tb.mod0 m1) f hf hn).bind fun z h2 ⟨q1, q2⟩ => ?_
  dsimp only
  have mm := m1.trans q2
  have t2 := tb.mod0 mm
  have g2 := At.mod0 (o := .cells (encF f) false) g1 q2
  have hw : Ret (flows_Table_Open_19_J0 n (some (b, 0)) ba fl now (some (i1, 0)) z.1 z.2 (decide (Wrong ba now)) h2) fun r h' => r = (openS l f ba fl now).2 ∧ Tab h' b key (openS l f ba fl now).1 ∧ Mod [b] h h' := by
    rw [flows_Table_Open_19_J0_eq]
    unfold openS
    by_cases w : Wrong ba now
    · rw [decide_eq_true w, cond_true, if_pos w]
      exact .pure ⟨rfl, t.mod0 mm, mm.of_nil⟩
    · rw [decide_eq_false w, cond_false, if_neg w]
      -- the entry is laid
      have fin : ∀ (i : Nat) (p : Pl), P[i]? = some p → ((p.1 = 1 ∧ p.2.f = f ∧ getE l f = some p.2) ∨ (p.1 ≠ 1 ∧ getE l f = none ∧ path (sOf key f) P i ∧ l.length < 64)) →
          Ret (flows_Table_Open_19_J1 n (some (b, 0)) ba fl now (some (i1, 0)) i false h2) fun r h' => r = 0 ∧ Tab h' b key (withE l ⟨f, ba, if f.pr = 6 then stepI 1 fl else 4, IntKind.i64.wrap (now + lifeI (if f.pr = 6 then stepI 1 fl else 4))⟩) ∧ Mod [b] h h' := by
        intro i p hp hc
        have last : ∀ st : Int, Ret (flows_Table_Open_19_J2 n (some (b, 0)) ba now (some (i1, 0)) i st h2) fun r h' => r = 0 ∧ Tab h' b key (withE l ⟨f, ba, st, IntKind.i64.wrap (now + lifeI st)⟩) ∧ Mod [b] h h' := by
          intro st
          rw [flows_Table_Open_19_J2_eq, nnK_some', g2.all (encF_len f), rdF, Life_eq, Option.bind_some]
          dsimp only
          rw [sameK_same]
          exact (layTab_ret (e := ⟨f, ba, st, IntKind.i64.wrap (now + lifeI st)⟩) t2 r hmk hl ho hf hp hc).bind fun _ h3 ⟨q3, q4⟩ => .pure ⟨rfl, q3, mm.of_nil.trans q4⟩
        rw [flows_Table_Open_19_J1_eq, cond_false, nnK_some', g2.cell (o := 0) rfl, asInt_int]
        by_cases h6 : f.pr = 6
        · rw [show (f.pr == 6) = true by simpa using h6, cond_true, Step_eq, Option.bind_some, if_pos h6]
          exact last _
        · rw [show (f.pr == 6) = false by simpa using h6, cond_false, if_neg h6]
          exact last _
      rcases r.find f (sOf_lt key f) (by omega) with ⟨i, e, k1, k2, k3, k4, k5⟩ | ⟨i, p, k1, k2, k3, k4, k5, k6⟩
      · rw [q1, k1, Bool.not_true, cond_false, if_neg (by rw [k5]; simp)]
        exact fin i (1, e) k3 (.inl ⟨rfl, k4, k5⟩)
      · rw [q1, k1, Bool.not_false, cond_true, nnK_some', t2.many', asInt_int]
        by_cases hfull : 64 ≤ l.length
        · rw [show decide ((l.length : Int) ≥ 64) = true by simp; omega, flows_Table_Open_19_J1_eq, cond_true, if_pos ⟨k3, hfull⟩]
          exact .pure ⟨rfl, t.mod0 mm, mm.of_nil⟩
        · rw [show decide ((l.length : Int) ≥ 64) = false by simp; omega, if_neg (by simp [hfull])]
          exact fin i p k4 (.inr ⟨k5, k3, k6, by omega⟩)
  rw [served_eq, Option.bind_some]
  dsimp only
  by_cases hs : 0 ≤ ba ∧ ba < 16
  · rw [decide_eq_true hs, Bool.not_true, cond_false, timely_eq, Option.bind_some]
    dsimp only
    rw [show (!decide (0 ≤ now ∧ now ≤ 1099511626776)) = decide (Wrong ba now) by rw [Bool.eq_iff_iff]; simp [Wrong]; omega]
    exact hw
  · rw [decide_eq_false hs, Bool.not_false, cond_true]
    rw [decide_eq_true (show Wrong ba now by unfold Wrong; omega)] at hw
    exact hw

theorem Tab.Put (t : Tab h b key l) (e : En) (hf : okF e.f) (now : Int) (hn : 10000000 ≤ n) : Ret (flows_Table_Put_44 n (some (b, 0)) e.f.pr e.f.fr e.f.to e.f.po e.f.de e.ba e.st e.en now h) fun r h' => r = (putS l e now).2 ∧ Tab h' b key (putS l e now).1 ∧ Mod [b] h h' := by
  obtain ⟨P, tb, r, hmk, hl, ho⟩ := t.ex
  rw [flows_Table_Put_44_eq]
  refine newK_ret fun i1 h1 g1 e1 n1 m1 => ?_
  rw [g1.agg (vs := encF e.f) rfl (by simp), rdF]
  refine (find_ret (tb.mod0 m1) e.f hf hn).bind fun z h2 ⟨q1, q2⟩ => ?_
  dsimp only
  have mm := m1.trans q2
  have t2 := tb.mod0 mm
  have g2 := At.mod0 (o := .cells (encE e) false) g1 q2
  have hw : ∀ w : Bool, w = decide (Wrong e.ba now ∨ e.st < 1 ∨ 4 < e.st ∨ e.en < 0 ∨ 1099511627776 < e.en) → Ret (flows_Table_Put_44_J0 n (some (b, 0)) now (some (i1, 0)) z.1 z.2 w h2) fun r h' => r = (putS l e now).2 ∧ Tab h' b key (putS l e now).1 ∧ Mod [b] h h' := by
    rintro _ rfl
    rw [flows_Table_Put_44_J0_eq]
    unfold putS
    by_cases w : Wrong e.ba now ∨ e.st < 1 ∨ 4 < e.st ∨ e.en < 0 ∨ 1099511627776 < e.en
    · rw [decide_eq_true w, cond_true, if_pos w]
      exact .pure ⟨rfl, t.mod0 mm, mm.of_nil⟩
    · rw [decide_eq_false w, cond_false, if_neg w]
      rcases r.find e.f (sOf_lt key e.f) (by omega) with ⟨i, x, k1, k2, k3, k4, k5⟩ | ⟨i, p, k1, k2, k3, k4, k5, k6⟩
      · rw [q1, k1, Bool.not_true, cond_false, if_neg (by rw [k5]; simp), flows_Table_Put_44_J1_eq, cond_false, nnK_some', Nat.zero_add, g2.cell (o := 7) rfl, asInt_int]
        by_cases h7 : e.en ≤ now
        · rw [decide_eq_true h7, cond_true, cond_true, if_pos h7]
          have := remove_ret t2 r hmk hl ho k3 hn
          rw [k4] at this
          exact this.bind fun _ h3 ⟨q3, q4⟩ => .pure ⟨rfl, q3, mm.of_nil.trans q4⟩
        · rw [decide_eq_false h7, cond_false, nnK_some', g2.all (encE_len e), rdE, if_neg h7]
          exact (layTab_ret t2 r hmk hl ho hf k3 (.inl ⟨rfl, k4, k5⟩)).bind fun _ h3 ⟨q3, q4⟩ => .pure ⟨rfl, q3, mm.of_nil.trans q4⟩
      · rw [q1, k1, Bool.not_false, cond_true, nnK_some', t2.many', asInt_int, flows_Table_Put_44_J1_eq]
        by_cases hfull : 64 ≤ l.length
        · rw [show decide ((l.length : Int) ≥ 64) = true by simp; omega, cond_true, if_pos ⟨k3, hfull⟩]
          exact .pure ⟨rfl, t.mod0 mm, mm.of_nil⟩
        · rw [show decide ((l.length : Int) ≥ 64) = false by simp; omega, cond_false, if_neg (by simp [hfull]), nnK_some', Nat.zero_add, g2.cell (o := 7) rfl, asInt_int]
          by_cases h7 : e.en ≤ now
          · rw [decide_eq_true h7, cond_true, cond_false, if_pos h7, without_none k3]
            exact .pure ⟨rfl, t.mod0 mm, mm.of_nil⟩
          · rw [decide_eq_false h7, cond_false, nnK_some', g2.all (encE_len e), rdE, if_neg h7]
            exact (layTab_ret t2 r hmk hl ho hf k4 (.inr ⟨k5, k3, k6, by omega⟩)).bind fun _ h3 ⟨q3, q4⟩ => .pure ⟨rfl, q3, mm.of_nil.trans q4⟩
  rw [g2.cell (o := 5) rfl, asInt_int, served_eq, Option.bind_some]
  dsimp only
  by_cases hs : 0 ≤ e.ba ∧ e.ba < 16
  · rw [decide_eq_true hs, Bool.not_true, cond_false, g2.cell (o := 6) rfl, asInt_int, Life_eq, Option.bind_some]
    dsimp only
    by_cases hL : lifeI e.st = 0
    · rw [hL, show ((0 : Int) == 0) = true from rfl, cond_true]
      exact hw _ (Eq.symm (decide_eq_true (by have := lifeI_zero.1 hL; omega)))
    · have hL' : ¬ (e.st < 1 ∨ 4 < e.st) := fun h => hL (lifeI_zero.2 h)
      rw [show (lifeI e.st == 0) = false by simpa using hL, cond_false, g2.cell (o := 7) rfl, asInt_int]
      by_cases h1 : e.en < 0
      · rw [decide_eq_true h1, cond_true]
        exact hw _ (Eq.symm (decide_eq_true (by omega)))
      · rw [decide_eq_false h1, cond_false, g2.cell (o := 7) rfl, asInt_int]
        by_cases h3 : e.en > 1099511627776
        · rw [decide_eq_true h3, cond_true]
          exact hw _ (Eq.symm (decide_eq_true (by omega)))
        · rw [decide_eq_false h3, cond_false, timely_eq, Option.bind_some]
          dsimp only
          exact hw _ (by rw [Bool.eq_iff_iff]; simp [Wrong]; omega)
  · rw [decide_eq_false hs, Bool.not_false, cond_true]
    exact hw _ (Eq.symm (decide_eq_true (by unfold Wrong; omega)))

end

end Go.Ev.Try
