/- The abstract machine Ev, part Y: ranges over maps, whose order is drawn: functions whose runs may end in unlike ways. -/
import Derived.Test.YtlodaclifccchaaEvV
set_option linter.all false
namespace Go.Ev

/-! ### an iterator over a map -/

theorem VR_ptr0 {r : Ren} {i b row : Nat} (h : r i = some ⟨b, 0, row⟩) : VR r (.ptr (some (i, 0))) (.pointer (some ⟨b, 0, none⟩)) := .ptr (o := 0) h

/-- the iterator that a range over a map begins with -/
def evRangeM (m : Option Nat) (h : H) : Option AObj :=
  match m with
  | none => some (.miter none 0 [] 0)
  | some i => match h.get i with | some (.map _ clk) => some (.miter (some i) clk [] clk) | _ => none

theorem evRangeM_sim {P : Program} {r : Ren} {h : H} {w : World} (hrel : Rel r h w) (hfree : r h.next = none) {t kt e : TypeId} (hu : P.underlying t = some (.map kt e)) {m : Option Nat} {m' : Value} {o : AObj}
    (hs : evRangeM m h = some o) (hm : VR r (.map m) m') : ∃ w' r', (Instr.range t m').run P w = .ok (.pointer (some ⟨w.heap.size, 0, none⟩)) w' ∧ VR r' (.ptr (some (h.next, 0))) (.pointer (some ⟨w.heap.size, 0, none⟩)) ∧ Post r h w r' (h.new o) w' := by
  have go : ∀ (it : Obj), (∀ r' : Ren, r.le r' → OR r' (w.alloc it) ⟨w.heap.size, 0, 0⟩ o) → Post r h w (r.put h.next ⟨w.heap.size, 0, 0⟩) (h.new o) (w.alloc it) ∧ VR (r.put h.next ⟨w.heap.size, 0, 0⟩) (.ptr (some (h.next, 0))) (.pointer (some ⟨w.heap.size, 0, none⟩)) := by
    intro it hor
    refine ⟨Post.of_new hrel hfree (World.size_alloc ..) ⟨rfl, rfl, rfl, Nat.le_refl _⟩ (fun b hb => alloc_old hb) hor, VR_ptr0 (row := 0) ?_⟩
    simp [Ren.put]
  cases hm with
  | nilMap =>
    simp only [evRangeM, Option.some.injEq] at hs
    subst hs
    obtain ⟨p, v⟩ := go (.mapIter none 0 #[] 0) (fun r' hr => ⟨none, alloc_new w _, rfl, .nilMap⟩)
    refine ⟨_, _, ?_, v, p⟩
    simp only [Instr.range, Sem.run_bind, run_underlying hu, Result.andThen_ok, Sem.run_pure, run_newObj, World.alloc_eq]
  | map ht =>
    simp only [evRangeM] at hs
    split at hs
    · rename_i es clk hg
      cases hs
      obtain ⟨E, hb, hrest⟩ := hrel.obj _ _ _ ht hg
      rename_i j0 t0 x0
      obtain ⟨p, v⟩ := go (.mapIter (some t0.blk) clk #[] clk) (fun r' hr => ⟨some t0.blk, alloc_new w _, rfl, .map (hr _ _ ht)⟩)
      refine ⟨_, _, ?_, v, p⟩
      simp only [Instr.range, Sem.run_bind, run_underlying hu, Result.andThen_ok, Sem.run_pure, run_getObj hb, run_newObj, World.alloc_eq]
    · cases hs

/-- what an iterator may tell next; 'none': it ends -/
def Nexts (h : H) (i : Nat) (c : Option (AV × AV × H)) : Prop :=
  match h.get i with
  | some (.miter none _ _ _) => c = none
  | some (.miter (some m) since seen _) =>
    match h.get m with
    | some (.map es clk) =>
      (match c with
       | none => ∀ e ∈ es, e.2.2 ∉ seen → since ≤ e.2.2
       | some (k, v, h') => ∃ e ∈ es, e.2.2 ∉ seen ∧ k = e.1 ∧ v = e.2.1 ∧ h' = h.set i (.miter (some m) since (seen ++ [e.2.2]) clk))
    | _ => False
  | _ => False

/-- an iterator that may be asked -/
def Asked (h : H) (i : Nat) : Prop :=
  match h.get i with
  | some (.miter none _ _ _) => True
  | some (.miter (some m) _ seen last) => match h.get m with | some (.map es _) => ¬ (seen ≠ [] ∧ es ≠ [] ∧ ∀ e ∈ es, last ≤ e.2.2) | _ => False
  | _ => False

/-- the model's candidates -/
def candOf (E : Array MapEntry) (seen : Array Nat) (since : Nat) : Array (Option MapEntry) :=
  let left := E.filter fun e => !seen.contains e.born
  let old := left.filter (·.born < since)
  let new := left.filter (·.born ≥ since)
  (if old.isEmpty then #[none] else #[]) ++ (old ++ new).map some

theorem cand_pos (E : Array MapEntry) (seen : Array Nat) (since : Nat) : 0 < (candOf E seen since).size := by
  unfold candOf
  simp only
  generalize (E.filter fun e => !seen.contains e.born).filter (·.born < since) = old
  by_cases ho : old.isEmpty = true
  · rw [if_pos ho]; simp; omega
  · rw [if_neg ho]
    have : 0 < old.size := by rw [Array.isEmpty_iff_size_eq_zero] at ho; omega
    simp; omega

theorem cand_mem {E : Array MapEntry} {seen : List Nat} {since : Nat} {c : Option MapEntry} (h : c ∈ candOf E seen.toArray since) :
    (c = none ∧ ∀ e ∈ E.toList, e.born ∉ seen → since ≤ e.born) ∨ ∃ e, c = some e ∧ e ∈ E.toList ∧ e.born ∉ seen := by
  unfold candOf at h
  simp only at h
  rcases Array.mem_append.1 h with h | h
  · left
    split at h
    · rename_i ho
      refine ⟨by simpa using h, fun e he hs => Nat.le_of_not_lt fun hlt => ?_⟩
      rw [Array.isEmpty_iff] at ho
      have : e ∈ (E.filter fun e => !seen.toArray.contains e.born).filter (·.born < since) := Array.mem_filter.2 ⟨Array.mem_filter.2 ⟨by simpa using he, by simpa using hs⟩, by simpa using hlt⟩
      rw [ho] at this
      simp at this
    · simp at h
  · right
    obtain ⟨e, he, rfl⟩ := Array.mem_map.1 h
    refine ⟨e, rfl, ?_⟩
    have : e ∈ E.filter fun e => !seen.toArray.contains e.born := by
      rcases Array.mem_append.1 he with he | he
      · exact (Array.mem_filter.1 he).1
      · exact (Array.mem_filter.1 he).1
    have := Array.mem_filter.1 this
    exact ⟨by simpa using this.1, by simpa using this.2⟩

theorem run_mapNext {P : Program} {w : World} {n : Nat} (hn : 0 < n) : ∃ (j : Nat) (w1 : World), j < n ∧ w1.heap = w.heap ∧ Env w w1 ∧ (choose (.mapNext n)).run P w = .ok j w1 := by
  by_cases hf : (Question.mapNext n).forced = true
  · refine ⟨0, w, hn, rfl, Env.refl w, ?_⟩
    unfold choose
    simp only [Sem.run]
    rw [if_pos hf]
  · refine ⟨w.tape w.drawn (.mapNext n) % n, { w with drawn := w.drawn + 1 }, Nat.mod_lt _ hn, rfl, ⟨rfl, rfl, rfl, Nat.le_succ _⟩, ?_⟩
    unfold choose
    simp only [Sem.run]
    rw [if_neg hf]
    rfl

theorem Nexts_sim {P : Program} {r : Ren} {h : H} {w : World} (hrel : Rel r h w) {i : Nat} {it' : Value} {ty : TypeId} (ha : Asked h i) (hx : VR r (.ptr (some (i, 0))) it') :
    ∃ c v' w', Nexts h i c ∧ (Instr.next it' false ty).run P w = .ok v' w' ∧
      match c with
      | none => VR r (.tup [.bool false]) v' ∧ Post r h w r h w'
      | some (k, v, h') => VR r (.tup [.bool true, k, v]) v' ∧ Post r h w r h' w' := by
  unfold Asked at ha
  cases hx with
  | ptr ht =>
  rename_i t
  split at ha
  · rename_i a b c hg
    obtain ⟨m', hb, h0, hm⟩ := hrel.obj _ _ _ ht hg
    cases hm
    have hget : (getObj t.blk).run P w = .ok (.mapIter none a b.toArray c) w := by simp [getObj, Sem.run, hb]
    refine ⟨none, _, w, by unfold Nexts; rw [hg], ?_, VR_tup (vs := [.bool false]) (.cons (.bool _) .nil), Post.refl hrel⟩
    simp only [Instr.next, h0, Nat.add_zero, Sem.run_bind, hget, Result.andThen_ok]
    rfl
  · rename_i m since seen last hg
    obtain ⟨m', hb, h0, hm⟩ := hrel.obj _ _ _ ht hg
    cases hm with
    | map htm =>
    rename_i tm
    have hget : (getObj t.blk).run P w = .ok (.mapIter (some tm.blk) since seen.toArray last) w := by simp [getObj, Sem.run, hb]
    split at ha
    · rename_i es clk hgm
      obtain ⟨E, hbm, hE, hp⟩ := hrel.obj _ _ _ htm hgm
      have hgetm := run_getObj (P := P) hbm
      obtain ⟨E', hperm, hl, hpt⟩ := hE
      -- the entries on both sides
      have toE : ∀ x ∈ es, ∃ e ∈ E.toList, VR r x.1 e.key ∧ VR r x.2.1 e.val ∧ x.2.2 = e.born := by
        intro x hx
        obtain ⟨j, hj⟩ := List.getElem?_of_mem hx
        have hlt : j < E'.length := by rw [← hl]; exact (List.getElem?_eq_some_iff.1 hj).1
        exact ⟨E'[j], hperm.mem_iff.1 (List.getElem_mem hlt), hpt j x _ hj (List.getElem?_eq_getElem hlt)⟩
      have ofE : ∀ e ∈ E.toList, ∃ x ∈ es, VR r x.1 e.key ∧ VR r x.2.1 e.val ∧ x.2.2 = e.born := by
        intro e he
        obtain ⟨j, x, h1, h2, h3⟩ := mem_pair hl hpt (hperm.mem_iff.2 he)
        exact ⟨x, List.mem_of_getElem? h1, h3⟩
      have hguard : (!seen.toArray.isEmpty && !E.isEmpty && E.all (·.born ≥ last)) = false := by
        rw [← Bool.not_eq_true]
        intro hq
        simp only [Bool.and_eq_true, Bool.not_eq_true', Array.all_eq_true_iff_forall_mem, decide_eq_true_eq] at hq
        obtain ⟨⟨q1, q2⟩, q3⟩ := hq
        refine ha ⟨?_, ?_, ?_⟩
        · rintro rfl; simp at q1
        · rintro rfl
          have : E' = [] := List.length_eq_zero_iff.1 hl.symm
          subst this
          have := hperm.nil_eq
          have hE0 : E = #[] := by rw [← Array.toList_eq_nil_iff]; exact this.symm
          subst hE0; simp at q2
        · intro x hx
          obtain ⟨e, he, _, _, hb'⟩ := toE x hx
          rw [hb']; exact q3 e (by simpa using he)
      -- the draw
      obtain ⟨j, w1, hj, hw1, henv, hrun⟩ := run_mapNext (P := P) (w := w) (cand_pos E seen.toArray since)
      have hb1 : w1.heap[t.blk]? = some (.mapIter (some tm.blk) since seen.toArray last) := by rw [hw1]; exact hb
      have hp1 : Post r h w r h w1 := Post.same hrel hw1 henv
      have hcj : (candOf E seen.toArray since)[j]? = some ((candOf E seen.toArray since)[j]) := Array.getElem?_eq_getElem hj
      have hcs := cand_mem (Array.getElem_mem hj)
      generalize (candOf E seen.toArray since)[j] = cj at hcj hcs
      have hnext : (Instr.next (.pointer (some ⟨t.blk, t.base + 0, none⟩)) false ty).run P w = (match (candOf E seen.toArray since)[j]? with
          | some (some e) => (do setObj t.blk (.mapIter (some tm.blk) since (seen.toArray.push e.born) clk); pure (.tuple #[.bool true, e.key, e.val]) : Sem Value)
          | some none => pure (.tuple #[.bool false])
          | none => stuck "Next: no such candidate").run P w1 := by
        simp only [Instr.next, h0, Nat.add_zero, Sem.run_bind, hget, Result.andThen_ok, hgetm, hguard, Bool.false_eq_true, if_false]
        change Result.andThen (Sem.run P (choose (.mapNext (candOf E seen.toArray since).size)) w) _ = _
        rw [hrun]
        rfl
      rcases hcs with ⟨rfl, hno⟩ | ⟨e, rfl, he, hns⟩
      · refine ⟨none, .tuple #[.bool false], w1, ?_, ?_, VR_tup (vs := [.bool false]) (.cons (.bool _) .nil), hp1⟩
        · unfold Nexts
          rw [hg]
          simp only [hgm]
          intro x hx hns
          obtain ⟨e, he, _, _, hbn⟩ := toE x hx
          rw [hbn] at hns ⊢
          exact hno e he hns
        · rw [hnext, hcj]
          rfl
      · obtain ⟨x, hx, hv1, hv2, hbn⟩ := ofE e he
        have hlt := World.block_lt hb1
        refine ⟨some (x.1, x.2.1, h.set i (.miter (some m) since (seen ++ [x.2.2]) clk)), .tuple #[.bool true, e.key, e.val], { w1 with heap := w1.heap.setIfInBounds t.blk (.mapIter (some tm.blk) since (seen.toArray.push e.born) clk) }, ?_, ?_, VR_tup (vs := [.bool true, e.key, e.val]) (.cons (.bool _) (.cons hv1 (.cons hv2 .nil))), ?_⟩
        · unfold Nexts
          rw [hg]
          simp only [hgm]
          exact ⟨x, hx, by rw [hbn]; exact hns, rfl, rfl, rfl⟩
        · rw [hnext, hcj]
          simp only [Sem.run_bind, setObj, Sem.run, hb1, Result.andThen_ok]
          rfl
        · refine hp1.trans (Post.of_set (o' := .miter (some m) since (seen ++ [x.2.2]) clk) hp1.rel ht hg rfl rfl (by simp) ⟨rfl, rfl, rfl, Nat.le_refl _⟩ (fun b hbb => by simp [Array.getElem?_setIfInBounds_ne (Ne.symm hbb)]) ⟨some tm.blk, ?_, h0, .map htm⟩)
          simp only [hbn]
          rw [show (seen ++ [e.born]).toArray = seen.toArray.push e.born by simp]
          simp [hlt]
    · exact absurd ha id
  · exact absurd ha id

end Go.Ev
