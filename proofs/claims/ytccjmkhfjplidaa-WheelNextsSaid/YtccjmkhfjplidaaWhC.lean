/- Chapter 09: the law WheelCancelled in plain Lean. -/
import Derived.Test.YtccjmkhfjplidaaWhB
set_option linter.all false
namespace Go.Ev.Try
set_option maxRecDepth 10000
open Go.Proofs

theorem told_nodup {now : Int} {L : List (Int × Int)} (d : Doc now L) (upto : Int) : (told upto L).Nodup := d.nd.sublist (List.filter_sublist.map _)
theorem moveTold_nodup {now : Int} {L : List (Int × Int)} (d : Doc now L) (upto : Int) : (moveTold now L upto).Nodup := by
  unfold moveTold
  split
  · exact told_nodup d upto
  · exact .nil
theorem Doc.moveAny {now : Int} {L : List (Int × Int)} (d : Doc now L) (upto : Int) : Doc (moveT now L upto).1 (moveT now L upto).2 := by
  unfold moveT
  split
  · rename_i h; exact d.move h.1 h.2
  · exact d

def cnt (id : Int) (l : List Int) : Nat := (l.filter fun x => decide (x = id)).length
theorem cnt_append (id : Int) (l r : List Int) : cnt id (l ++ r) = cnt id l + cnt id r := by unfold cnt; rw [List.filter_append, List.length_append]
theorem cnt_one (id x : Int) : cnt id [x] = if x = id then 1 else 0 := by
  unfold cnt
  by_cases h : x = id <;> simp [h]
theorem cnt_le (id : Int) (l : List Int) : cnt id l ≤ l.length := List.length_filter_le _ _
theorem cnt_none {id : Int} {l : List Int} (h : id ∉ l) : cnt id l = 0 := by
  unfold cnt
  rw [List.length_eq_zero_iff, List.filter_eq_nil_iff]
  intro x hx e
  have e := of_decide_eq_true e
  subst e; exact h hx
theorem cnt_some {id : Int} : ∀ {l : List Int}, l.Nodup → id ∈ l → cnt id l = 1
  | x :: l, hn, hm => by
    rw [List.nodup_cons] at hn
    have h1 := cnt_append id [x] l
    rw [List.singleton_append, cnt_one] at h1
    rw [h1]
    rcases List.mem_cons.1 hm with rfl | hm
    · rw [if_pos rfl, cnt_none hn.1]
    · rw [if_neg (fun h : x = id => hn.1 (by rw [h]; exact hm)), cnt_some hn.2 hm]

/-- the told ones are gone through -/
theorem canc_L4 {h : H} {b : Nat} {B : List Nat} {now : Int} {L : List (Int × Int)} (w : Wheel h b B now L) {q : Option (Nat × Nat)} {ql : Nat} {qc : Cap} {ids : List Int} (hrow : Row h 1 q ql qc (ids.map i64)) (hl : ids.length < 1000000) (n : Nat) (kk : Bool → H → Option Unit) (m1 : Nat) (again : Int) (one two : Nat) (h1 : one < 1000000) (h2 : two < 1000000) (p : Option (Nat × Nat)) (pl : Nat) (pc : Cap) (zl zj : Int) (h2n : 2 ∈ ids → again ≤ now) :
    ∀ (ts pre : List Int) (m : Nat), ids = pre ++ ts → ts.length < m →
      outriderlaw09_WheelCancelled_4_L4 n kk m1 m again (some (b, 0)) ((one + cnt 1 pre : Nat) : Int) ((two + cnt 2 pre : Nat) : Int) p pl pc zl zj q ql qc ql pre.length h =
        outriderlaw09_WheelCancelled_4_L3 n kk m1 again (some (b, 0)) ((one + cnt 1 ids : Nat) : Int) ((two + cnt 2 ids : Nat) : Int) p pl pc zl (IntKind.i64.wrap (zj + 1)) h
  | [], pre, m + 1, hx, _ => by
    have hlen := hrow.len1
    rw [outriderlaw09_WheelCancelled_4_L4_eq, cast_not_lt (by rw [← hlen, hx]; simp), cond_false]
    rw [List.append_nil] at hx
    subst hx
    rfl
  | t :: ts, pre, m + 1, hx, hf => by
    have hlen := hrow.len1
    have ht : ids[pre.length]? = some t := by rw [hx]; simp
    have hlt : pre.length < ids.length := by rw [hx]; simp
    have hmem : t ∈ ids := by rw [hx]; simp
    have hc1 := cnt_le 1 pre
    have hc2 := cnt_le 2 pre
    have ih := canc_L4 w hrow hl n kk m1 again one two h1 h2 p pl pc zl zj h2n ts (pre ++ [t]) m (by rw [hx]; simp) (by simp at hf; omega)
    rw [List.length_append, List.length_singleton, cnt_append, cnt_append, cnt_one, cnt_one] at ih
    rw [outriderlaw09_WheelCancelled_4_L4_eq, cast_lt (by omega), cond_true, hrow.ix1 ht, asInt_int]
    have j5 : ∀ (one' : Nat), outriderlaw09_WheelCancelled_4_J5 n kk m1 m again (some (b, 0)) (one' : Int) ((two + cnt 2 pre : Nat) : Int) t p pl pc zl zj q ql qc ql pre.length h =
        outriderlaw09_WheelCancelled_4_L4 n kk m1 m again (some (b, 0)) (one' : Int) ((two + (cnt 2 pre + if t = 2 then 1 else 0) : Nat) : Int) p pl pc zl zj q ql qc ql ((pre.length + 1 : Nat) : Int) h := by
      intro one'
      rw [outriderlaw09_WheelCancelled_4_J5_eq]
      by_cases h2 : t = 2
      · rw [show ((t : Int) == 2) = true by simpa using h2, cond_true, w.nowIs n, Option.bind_some, decide_eq_false (by have := h2n (h2 ▸ hmem); simp only; omega), cond_false, wrap_succ (by omega), wrap_succ (by omega), if_pos h2]
        rfl
      · rw [show ((t : Int) == 2) = false by simpa using h2, cond_false, wrap_succ (by omega), if_neg h2]
        rfl
    by_cases h1' : t = 1
    · rw [show ((t : Int) == 1) = true by simpa using h1', cond_true, wrap_succ (by omega), j5]
      rw [if_pos h1'] at ih
      exact ih
    · rw [show ((t : Int) == 1) = false by simpa using h1', cond_false, j5]
      rw [if_neg h1'] at ih
      exact ih

/-- timer 1 is unset, timer 2 is set, or was told -/
structure CancSt (L : List (Int × Int)) (again : Int) (two : Nat) : Prop where
  one : ∀ a, (1, a) ∉ L
  two : two = 0 ∧ (2, again) ∈ L ∨ two = 1 ∧ ∀ a, (2, a) ∉ L

theorem CancSt.move {now : Int} {L : List (Int × Int)} (d : Doc now L) {again : Int} {two : Nat} (s : CancSt L again two) (upto : Int) : CancSt (moveT now L upto).2 again (two + cnt 2 (moveTold now L upto)) ∧ cnt 1 (moveTold now L upto) = 0 ∧ (2 ∈ moveTold now L upto → again ≤ (moveT now L upto).1) := by
  by_cases hm : moves now upto
  · have e1 : moveT now L upto = (upto, left upto L) := by unfold moveT; rw [if_pos hm]
    have e2 : moveTold now L upto = told upto L := by unfold moveTold; rw [if_pos hm]
    rw [e1, e2]
    refine ⟨⟨fun a ha => s.one a (mem_left.1 ha).1, ?_⟩, cnt_none fun h => ?_, fun h => ?_⟩
    · rcases s.two with ⟨h1, h2⟩ | ⟨h1, h2⟩
      · by_cases hle : again ≤ upto
        · rw [cnt_some (told_nodup d upto) (mem_told.2 ⟨_, h2, hle⟩), h1]
          refine .inr ⟨rfl, fun a ha => ?_⟩
          obtain ⟨h3, h4⟩ := mem_left.1 ha
          have := d.one h3 h2
          simp only at h4
          omega
        · rw [cnt_none (fun h => ?_), h1]
          · exact .inl ⟨rfl, mem_left.2 ⟨h2, by simp only; omega⟩⟩
          · obtain ⟨a, h3, h4⟩ := mem_told.1 h
            have := d.one h3 h2
            omega
      · rw [cnt_none (fun h => ?_), h1]
        · exact .inr ⟨rfl, fun a ha => h2 a (mem_left.1 ha).1⟩
        · obtain ⟨a, h3, _⟩ := mem_told.1 h
          exact h2 a h3
    · obtain ⟨a, h3, _⟩ := mem_told.1 h
      exact s.one a h3
    · obtain ⟨a, h3, h4⟩ := mem_told.1 h
      rcases s.two with ⟨_, h2⟩ | ⟨_, h2⟩
      · have := d.one h3 h2
        simp only; omega
      · exact absurd h3 (h2 a)
  · have e1 : moveT now L upto = (now, L) := by unfold moveT; rw [if_neg hm]
    have e2 : moveTold now L upto = [] := by unfold moveTold; rw [if_neg hm]
    rw [e1, e2]
    exact ⟨s, rfl, fun h => by cases h⟩

theorem canc_L3 {p : Option (Nat × Nat)} {len : Nat} {c : Cap} {zs : List Int} {b : Nat} {B : List Nat} {a : H} (hrow : Row a 1 p len c (zs.map i64)) (hown : ∀ x ∈ own p, x ∉ B) (hz : zs.length ≤ 10) {n : Nat} (hn : 2000 ≤ n) (again : Int) {kk : Bool → H → Option Unit} (hk : ∀ h, kk true h = some ()) :
    ∀ (ts pre : List Int) (m : Nat) (h : H) (now : Int) (L : List (Int × Int)) (two : Nat), zs = pre ++ ts → ts.length < m → Wheel h b B now L → Mod B a h → L.length ≤ 500 → CancSt L again two → (ts = [] → L = []) → (ts ≠ [] → ts.getLast? = some 1099511627776) →
      outriderlaw09_WheelCancelled_4_L3 n kk m again (some (b, 0)) 0 (two : Int) p len c len pre.length h = some ()
  | [], pre, m + 1, h, now, L, two, hx, _, w, hm, hl, s, he, _ => by
    have hlen := hrow.len1
    rw [outriderlaw09_WheelCancelled_4_L3_eq, cast_not_lt (by rw [← hlen, hx]; simp), cond_false]
    refine alive_ret h (by omega) _ fun r h' ⟨e, m'⟩ => ?_
    have hL := he rfl
    subst hL
    have : two = 1 := by
      rcases s.two with ⟨_, h2⟩ | ⟨h1, _⟩
      · simp at h2
      · exact h1
    subst this
    rw [e, cond_true, show ((0 : Int) == 0) = true by decide, cond_true, show (((1 : Nat) : Int) == 1) = true by decide, cond_true, (w.mod0 m').len n, Option.bind_some]
    exact hk _
  | t :: ts, pre, m + 1, h, now, L, two, hx, hf, w, hm, hl, s, he, hlast => by
    have hlen := hrow.len1
    have d := w.doc
    have ht : zs[pre.length]? = some t := by rw [hx]; simp
    have hlt : pre.length < zs.length := by rw [hx]; simp
    rw [outriderlaw09_WheelCancelled_4_L3_eq, cast_lt (by omega), cond_true, (hrow.mod hm hown).ix1 ht, asInt_int]
    refine w.moveAny t (by omega) (n := n) (by omega) (by omega) _ fun r h2 ⟨m2, g2, w2⟩ => ?_
    obtain ⟨s2, c1, c2⟩ := s.move d t
    have hml := moveTold_len (now := now) (L := L) (upto := t)
    have hL2 := moveT_len (now := now) (L := L) (upto := t)
    have htwo : two < 1000000 := by rcases s.two with ⟨h, _⟩ | ⟨h, _⟩ <;> omega
    have := canc_L4 w2 g2.row (by omega) n kk m again 0 two (by omega) htwo p len c len pre.length c2 (moveTold now L t) [] n rfl (by omega)
    rw [show cnt 1 [] = 0 from rfl, show cnt 2 [] = 0 from rfl, c1] at this
    refine Eq.trans this ?_
    rw [wrap_succ (by omega)]
    have ih := canc_L3 (b := b) hrow hown hz hn again hk ts (pre ++ [t]) m h2 (moveT now L t).1 (moveT now L t).2 (two + cnt 2 (moveTold now L t)) (by rw [hx]; simp) (by simp at hf; omega) w2 (hm.trans m2) (by omega) s2
    rw [List.length_append, List.length_singleton] at ih
    refine ih (fun hts => ?_) (fun hts => ?_)
    · subst hts
      have : t = 1099511627776 := by simpa using hlast (by simp)
      subst this
      unfold moveT
      rw [if_pos ⟨d.n1, Int.le_refl _⟩]
      unfold left
      rw [List.filter_eq_nil_iff]
      intro e he' hlt'
      have := (d.may e he').2.2.2
      have := of_decide_eq_true hlt'
      omega
    · have := hlast (by simp)
      rwa [List.getLast?_cons, Option.some.injEq, List.getLast?_eq_some_getLast hts, Option.getD_some, ← Option.some.injEq, ← List.getLast?_eq_some_getLast hts] at this

section
variable {p : Option (Nat × Nat)} {l : Nat} {c : Cap} {tg : Option Tgt} {cs : List AV} {B : Nat}

theorem ins_mem {a : Int × Int} {l : List (Int × Int)} {e : Int × Int} : e ∈ ins a l ↔ e = a ∨ e ∈ l := by rw [(ins_perm a l).mem_iff, List.mem_cons]
theorem wo_mem {L : List (Int × Int)} {id : Int} {e : Int × Int} : e ∈ wo L id ↔ e ∈ L ∧ e.1 ≠ id := by
  unfold wo
  rw [List.mem_filter, Bool.not_eq_true', decide_eq_false_iff_not]
  exact ⟨fun h => ⟨h.1, fun e => h.2 e.symm⟩, fun h => ⟨h.1, fun e => h.2 e.symm⟩⟩
theorem ins_wo_len (a : Int × Int) (L : List (Int × Int)) (id : Int) : (ins a (wo L id)).length ≤ L.length + 1 := by
  have h4 := (ins_perm a (wo L id)).length_eq
  have h5 : (wo L id).length ≤ L.length := List.length_filter_le _ _
  simp only [List.length_cons] at h4
  omega

theorem wheelCancelled_true (w0 : Arg 0 [.int .i64, .int .i64, .int .i64] B p l c cs) {at' : Int} (_ : (Lit.int .i64 at').wf = true) {again : Int} (_ : (Lit.int .i64 again).wf = true) : ∃ n, RetK (fun kk => outriderlaw09_WheelCancelled_4 n p l c at' again (H0 [(tg, cs)]) kk) True' := by
  obtain ⟨os, rfl, _, row⟩ := open_ops (rows := [(tg, cs)]) rfl w0
  refine ⟨2000, fun kk hk0 => ?_⟩
  have hk : ∀ h, kk true h = some () := fun h => hk0 _ _ rfl
  show outriderlaw09_WheelCancelled_4 2000 p os.length c at' again (H0 [(tg, cs)]) kk = some ()
  rw [outriderlaw09_WheelCancelled_4_eq]
  generalize H0 [(tg, cs)] = a at *
  obtain ⟨r, h1, e1, m1, b, B', rfl, w1, hB⟩ := Wheel.new a (n := 2000) (by omega)
  rw [e1, Option.bind_some, eqVK_ptr Try.underlying24, Option.isNone_some, cond_false]
  by_cases ho1 : os.length ≤ 300
  · rw [show decide ((os.length : Int) > 300) = false by simp; omega, outriderlaw09_WheelCancelled_4_J0_eq, cond_false]
    have hno : ∀ {q : Option (Nat × Nat)}, (∀ x ∈ own q, x < a.next) → ∀ x ∈ own q, x ∉ B' := fun hq x hx hxB => by have := hq x hx; have := hB x hxB; omega
    refine script_loop (a := h1) (b := b) (B := B') (os := os) (s0 := (0, [])) (row.mod0 m1) (hno fun x hx => Row.lt row x hx) (by omega) (Nat.le_refl _) (F := fun m j h => outriderlaw09_WheelCancelled_4_L1 2000 kk m at' again (some (b, 0)) p os.length c os.length j h) (fun m j h => outriderlaw09_WheelCancelled_4_L1_eq ..) (by simp) (fun h2 w2 m2 => ?_) os [] 2000 h1 rfl (by omega) w1 (Mod.refl _ _)
    have hl := runT_len os (0, [])
    simp only [List.length_nil, Nat.zero_add] at hl
    generalize runT (0, []) os = s at *
    obtain ⟨now, L⟩ := s
    simp only at *
    have badJ : ∀ h, ¬ may 1 at' ∨ ¬ may 2 again → outriderlaw09_WheelCancelled_4_J2 2000 kk at' again (some (b, 0)) true h = some () := by
      intro h hb
      rw [outriderlaw09_WheelCancelled_4_J2_eq, cond_true]
      refine alive_ret _ (by omega) _ fun r2 h3 ⟨e, _⟩ => ?_
      rw [e, cond_true]
      unfold may at hb
      by_cases k1 : at' < 0
      · rw [decide_eq_true k1, cond_true]; exact hk _
      rw [decide_eq_false k1, cond_false]
      by_cases k2 : at' > 1099511627776
      · rw [decide_eq_true k2, cond_true]; exact hk _
      rw [decide_eq_false k2, cond_false]
      by_cases k3 : again < 0
      · rw [decide_eq_true k3, cond_true]; exact hk _
      rw [decide_eq_false k3, cond_false, decide_eq_true (show again > 1099511627776 by omega)]
      exact hk _
    by_cases hm1 : may 1 at'
    · have hm2 : may 2 at' := ⟨by omega, by omega, hm1.2.2.1, hm1.2.2.2⟩
      obtain ⟨h3, e3, m3, w3⟩ := w2.set 2000 hm1
      rw [e3, Option.bind_some]
      simp only [Bool.not_true]
      obtain ⟨h4, e4, m4, w4⟩ := w3.set 2000 hm2
      rw [cond_false, e4, Option.bind_some]
      simp only [Bool.not_true]
      rw [cond_false]
      by_cases hm3 : may 2 again
      · obtain ⟨h5, e5, m5, w5⟩ := w4.set 2000 hm3
        rw [e5, Option.bind_some]
        simp only [Bool.not_true]
        rw [cond_false]
        obtain ⟨h6, e6, m6, w6⟩ := w5.cancel 2000 1
        have d5 := w5.doc
        have h1in : (1, at') ∈ ins (2, again) (wo (ins (2, at') (wo (ins (1, at') (wo L 1)) 2)) 2) := by
          rw [ins_mem, wo_mem, ins_mem, wo_mem, ins_mem]
          simp
        rw [e6, Option.bind_some, lk_of_mem d5.nd h1in]
        simp only [Option.isSome_some, Bool.not_true]
        have hlen : (ins (2, again) (wo (ins (2, at') (wo (ins (1, at') (wo L 1)) 2)) 2)).length ≤ L.length + 3 := by
          have q1 := ins_wo_len (1, at') L 1
          have q2 := ins_wo_len (2, at') (ins (1, at') (wo L 1)) 2
          have q3 := ins_wo_len (2, again) (ins (2, at') (wo (ins (1, at') (wo L 1)) 2)) 2
          omega
        have hst : CancSt (wo (ins (2, again) (wo (ins (2, at') (wo (ins (1, at') (wo L 1)) 2)) 2)) 1) again 0 := by
          refine ⟨fun x hx => (wo_mem.1 hx).2 rfl, .inl ⟨rfl, wo_mem.2 ⟨ins_mem.2 (.inl rfl), show (2 : Int) ≠ 1 by decide⟩⟩⟩
        have hlen2 : (wo (ins (2, again) (wo (ins (2, at') (wo (ins (1, at') (wo L 1)) 2)) 2)) 1).length ≤ L.length + 3 := Nat.le_trans (List.length_filter_le _ _) hlen
        generalize wo (ins (2, again) (wo (ins (2, at') (wo (ins (1, at') (wo L 1)) 2)) 2)) 1 = L6 at *
        rw [outriderlaw09_WheelCancelled_4_J2_eq, cond_false, w6.nowIs 2000, Option.bind_some]
        simp only [newK_eq]
        have m7 : Mod [] h6 (h6.new (.cells [.int .i64 now, .int .i64 at', .int .i64 again, .int .i64 1099511627776] false)) := (Mod.refl _ _).new _
        have hB6 := w6.lt
        refine canc_L3 (a := h6.new (.cells [.int .i64 now, .int .i64 at', .int .i64 again, .int .i64 1099511627776] false)) (zs := [now, at', again, 1099511627776]) (b := b) (B := B') (.row (by simp) (get_new_self _ _) rfl (by simp) (.inr ⟨4, rfl, Nat.le_refl _⟩)) (fun x hx hxB => ?_) (by simp) (Nat.le_refl _) again hk [now, at', again, 1099511627776] [] 2000 _ now L6 0 rfl (by simp) (w6.mod0 m7) (Mod.refl _ _) (by omega) hst (by simp) (by simp)
        have := hB6 x hxB
        simp at hx
        omega
      · rw [Set_bad 2000 hm3, Option.bind_some]
        simp only [Bool.not_false]
        rw [cond_true]
        exact badJ _ (.inr hm3)
    · rw [Set_bad 2000 hm1, Option.bind_some]
      simp only [Bool.not_false]
      rw [cond_true]
      exact badJ _ (.inl hm1)
  · rw [show decide ((os.length : Int) > 300) = true by simp; omega, outriderlaw09_WheelCancelled_4_J0_eq, cond_true, eqVK_ptr Try.underlying24, Option.isNone_some, Bool.not_false, cond_true]
    exact alive_ret _ (by omega) _ fun r2 h3 ⟨e, _⟩ => by rw [e]; exact hk _
end

end Go.Ev.Try
