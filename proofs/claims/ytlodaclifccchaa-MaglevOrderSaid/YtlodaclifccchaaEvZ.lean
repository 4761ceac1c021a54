/- The abstract machine Ev, part Z: regions, functions and tables of those whose runs may end in unlike ways. -/
import Derived.Test.YtlodaclifccchaaEvY
set_option linter.all false
namespace Go.Ev
open Go.RowKit

/-! ### the next entry, whichever it is -/

theorem Nexts_ex {h : H} {i : Nat} (ha : Asked h i) : ∃ c, Nexts h i c := by
  unfold Asked at ha
  split at ha
  · rename_i hg; exact ⟨none, by unfold Nexts; rw [hg]⟩
  · rename_i m since seen last hg
    split at ha
    · rename_i es clk hgm
      by_cases hx : ∃ e ∈ es, e.2.2 ∉ seen
      · obtain ⟨e, he, hs⟩ := hx
        exact ⟨some (e.1, e.2.1, _), by unfold Nexts; rw [hg]; simp only [hgm]; exact ⟨e, he, hs, rfl, rfl, rfl⟩⟩
      · exact ⟨none, by unfold Nexts; rw [hg]; simp only [hgm]; exact fun e he hs => absurd ⟨e, he, hs⟩ hx⟩
    · exact absurd ha id
  · exact absurd ha id

theorem Nexts_grows {h h' : H} {i : Nat} {k v : AV} (hn : Nexts h i (some (k, v, h'))) : h.next ≤ h'.next ∧ (h.WF → h'.WF) := by
  unfold Nexts at hn
  split at hn
  · cases hn
  · rename_i hg
    split at hn
    · obtain ⟨e, _, _, _, _, rfl⟩ := hn
      exact ⟨Nat.le_refl _, fun hw => WF_set hw hg⟩
    · exact absurd hn id
  · exact absurd hn id

open Classical in
noncomputable def nextMK (h : H) (i : Nat) (f : AV → AV → H → Option Unit) (g : Option Unit) : Option Unit :=
  if Asked h i ∧ ∀ c, Nexts h i c → (match c with | none => g | some (k, v, h') => f k v h') = some () then some () else none

theorem nextMK_some {h : H} {i : Nat} {f : AV → AV → H → Option Unit} {g : Option Unit} (e : nextMK h i f g = some ()) : Asked h i ∧ ∀ c, Nexts h i c → (match c with | none => g | some (k, v, h') => f k v h') = some () := by
  unfold nextMK at e
  split at e
  · assumption
  · cases e

noncomputable def rangeMK {β : Type} (m : Option Nat) (h : H) (k : Nat → H → Option β) : Option β := match evRangeM m h with | some o => k h.next (h.new o) | none => none

/-- the entry that an iterator has come to -/
def evEntry (h : H) (i : Nat) : Option (AV × AV) :=
  match h.get i with
  | some (.miter (some m) _ seen last) =>
    match h.get m, seen.getLast? with
    | some (.map es clk), some stamp => if clk = last then (match es.filter fun e => e.2.2 == stamp with | [e] => some (e.1, e.2.1) | _ => none) else none
    | _, _ => none
  | _ => none

theorem find_only {α : Type} {p : α → Bool} : ∀ {l : List α} {x : α}, l.filter p = [x] → l.find? p = some x
  | y :: l, x, h => by
    rw [List.filter_cons] at h
    rw [List.find?_cons]
    cases hp : p y with
    | true =>
      rw [hp] at h
      simp only [if_true, List.cons.injEq] at h
      rw [h.1]
    | false =>
      rw [hp] at h
      simp only [Bool.false_eq_true, if_false] at h
      exact find_only h

theorem evEntry_sim {P : Program} {r : Ren} {h : H} {w : World} (hrel : Rel r h w) {i : Nat} {a b : AV} {it' : Value} (hs : evEntry h i = some (a, b)) (hx : VR r (.ptr (some (i, 0))) it') :
    ∃ v', (Instr.entry it').run P w = .ok v' w ∧ VR r (.tup [a, b]) v' := by
  unfold evEntry at hs
  cases hx with
  | ptr ht =>
  rename_i t
  split at hs
  · rename_i m since seen last hg
    obtain ⟨m', hb, h0, hm⟩ := hrel.obj _ _ _ ht hg
    cases hm with
    | map htm =>
    rename_i tm
    have hget : (getObj t.blk).run P w = .ok (.mapIter (some tm.blk) since seen.toArray last) w := by simp [getObj, Sem.run, hb]
    split at hs
    · rename_i es clk stamp hgm hst
      obtain ⟨E, hbm, ⟨E', hperm, hl, hpt⟩, hp⟩ := hrel.obj _ _ _ htm hgm
      have hgetm := run_getObj (P := P) hbm
      split at hs
      · rename_i hclk
        split at hs
        · rename_i e hf
          cases hs
          have hmem : e ∈ es ∧ (e.2.2 == stamp) = true := by
            have : e ∈ es.filter fun e => e.2.2 == stamp := by rw [hf]; simp
            exact List.mem_filter.1 this
          obtain ⟨j, hj⟩ := List.getElem?_of_mem hmem.1
          have hlt : j < E'.length := by rw [← hl]; exact (List.getElem?_eq_some_iff.1 hj).1
          have hv := hpt j e _ hj (List.getElem?_eq_getElem hlt)
          -- one entry alone has that stamp
          have hlen : (E.toList.filter fun e => e.born == stamp).length = 1 := by
            rw [← (hperm.filter _).length_eq]
            have e1 : (es.filter fun e => e.2.2 == stamp).length = 1 := by rw [hf]; rfl
            rw [← e1, ← List.countP_eq_length_filter, ← List.countP_eq_length_filter]
            have hmap : E'.map (·.born) = es.map (·.2.2) := by
              apply List.ext_getElem?
              intro q
              rw [List.getElem?_map, List.getElem?_map]
              cases hq : es[q]? with
              | none =>
                have : E'[q]? = none := by
                  rw [List.getElem?_eq_none_iff] at hq ⊢
                  omega
                rw [this]; rfl
              | some x =>
                have hq2 : q < E'.length := by rw [← hl]; exact (List.getElem?_eq_some_iff.1 hq).1
                rw [List.getElem?_eq_getElem hq2]
                simp only [Option.map_some]
                rw [(hpt q x _ hq (List.getElem?_eq_getElem hq2)).2.2]
            have c1 : E'.countP (fun e => e.born == stamp) = (E'.map (·.born)).countP (· == stamp) := by rw [List.countP_map]; rfl
            have c2 : es.countP (fun e => e.2.2 == stamp) = (es.map (·.2.2)).countP (· == stamp) := by rw [List.countP_map]; rfl
            rw [c1, c2, hmap]
          obtain ⟨y, hy⟩ : ∃ y, E.toList.filter (fun e => e.born == stamp) = [y] := List.length_eq_one_iff.1 hlen
          have hye : y = E'[j] := by
            have : E'[j] ∈ E.toList.filter fun e => e.born == stamp := List.mem_filter.2 ⟨hperm.mem_iff.1 (List.getElem_mem hlt), by rw [← hv.2.2]; exact hmem.2⟩
            rw [hy] at this
            exact (List.mem_singleton.1 this).symm
          have hfind : E.find? (fun e => e.born == stamp) = some E'[j] := by
            rw [← Array.find?_toList, find_only hy, hye]
          refine ⟨.tuple #[E'[j].key, E'[j].val], ?_, VR_pair hv.1 hv.2.1⟩
          have hback : seen.toArray.back? = some stamp := by rw [List.back?_toArray]; exact hst
          have hne : (clk != last) = false := by simp [hclk]
          simp only [Instr.entry, h0, Nat.add_zero, Sem.run_bind, hget, Result.andThen_ok, hback, hgetm, hne, Bool.false_eq_true, if_false, hfind, Sem.run_pure]
        · cases hs
      · cases hs
    · cases hs
  · cases hs

noncomputable def entryK {β : Type} (h : H) (i : Nat) (f : AV → AV → Option β) : Option β := match evEntry h i with | some (a, b) => f a b | none => none

/-- the shape of a tuple's part, as the operation that takes it out has it -/
def partShape (P : Program) (ops : Array Oper) (d : Option Tmp) (j : Nat) : Shape :=
  match d, ops.toList.find? fun q => match q.op with | .extract (.tmp t) i => some t == d && i == j | _ => false with
  | some _, some q => cellShape P q.type
  | _, _ => .any

/-! ### functions whose runs may end in unlike ways -/

structure EntryR (P : Program) where
  id : FuncId
  run : List AV → H → (AV → H → Option Unit) → Option Unit
  there : ∃ fn, P.funcs[id]? = some fn ∧ fn.body.isNone = false ∧ (fn.name == "runtime.NumGoroutine") = false
  ends : ∀ args h k, run args h k = some () → ∃ v h', k v h' = some () ∧ h.next ≤ h'.next ∧ (h.WF → h'.WF)
  sim : ∀ args h k (r : Ren) (w : World) (args' : Array Value), run args h k = some () → Rel r h w → (∀ i, h.next ≤ i → r i = none) → VRL r args args'.toList →
    Calls P id args' w fun e w' => ∃ r' v v' h', e = .returned v' ∧ VR r' v v' ∧ Post r h w r' h' w' ∧ k v h' = some ()
  fits : List AV → Bool := fun _ => true

def findR {P : Program} : List (EntryR P) → FuncId → List AV → Option (EntryR P)
  | [], _, _ => none
  | e :: l, f, args => cond (Nat.beq e.id f && e.fits args) (some e) (findR l f args)
theorem findR_id {P : Program} {f : FuncId} {args : List AV} {e : EntryR P} : ∀ {l : List (EntryR P)}, findR l f args = some e → e.id = f
  | x :: l, h => by
    unfold findR at h
    cases hb : Nat.beq x.id f && x.fits args with
    | true =>
      rw [hb] at h
      cases h
      exact Nat.eq_of_beq_eq_true (Bool.and_eq_true_iff.1 hb).1
    | false => rw [hb] at h; exact findR_id h

noncomputable def evOperR (P : Program) (ck : CK) (rt : List (EntryR P)) (ops : Array Oper) (dst : Option Tmp) (ρ : Operand → AV) (op : Op) (h : H) (k : AV → H → Option Unit) : Option Unit :=
  match op with
  | .next it false => asPtr (ρ it) fun p => nnK p fun i off => (match off with | 0 => nextMK h i (fun a b h' => k (.tup [.bool true, a, b]) h') (k (.tup [.bool false]) h) | _ => none)
  | .entry it => asPtr (ρ it) fun p => nnK p fun i off => (match off with | 0 => entryK h i fun a b => shapeK (partShape P ops dst 0) a fun a' => shapeK (partShape P ops dst 1) b fun b' => k (.tup [a', b']) h | _ => none)
  | .range t x => (match mapD P t with | true => asMap (ρ x) fun m => rangeMK m h fun i h' => k (.ptr (some (i, 0))) h' | false => evOperK P ck ρ (.range t x) h k)
  | .call c =>
    (match c.callee with
     | .value x =>
       (match ρ x with
        | .func f first caps =>
          (match findR rt f (first ++ c.args.toList.map ρ ++ caps) with
           | some e => e.run (first ++ c.args.toList.map ρ ++ caps) h k
           | none => evOperK P ck ρ (.call c) h k)
        | _ => evOperK P ck ρ (.call c) h k)
     | _ => evOperK P ck ρ (.call c) h k)
  | op => evOperK P ck ρ op h k

noncomputable def evStepR (P : Program) (ck : CK) (rt : List (EntryR P)) (ops : Array Oper) (N : Nat) (A : KF) (o : Oper) (h : H) (k : KF → AV → H → Option Unit) : Option Unit :=
  match o.guard with
  | none => evOperR P ck rt ops o.dst (kopd N A) o.op h fun v h' => k A v h'
  | some (j, want) =>
    match (ops[j]?).bind (·.dst) with
    | none => k A (.tup []) h
    | some t =>
      match kopd N A (.tmp t) with
      | .tup [] => k A (.tup []) h
      | v => asBool v fun b => cond b
          (match want with | true => evOperR P ck rt ops o.dst (kopd N (kput N A (some t) (.bool true))) o.op h fun v h' => k (kput N A (some t) (.bool true)) v h' | false => k (kput N A (some t) (.bool true)) (.tup []) h)
          (match want with | true => k (kput N A (some t) (.bool false)) (.tup []) h | false => evOperR P ck rt ops o.dst (kopd N (kput N A (some t) (.bool false))) o.op h fun v h' => k (kput N A (some t) (.bool false)) v h')

noncomputable def evOpsR (P : Program) (ck : CK) (rt : List (EntryR P)) (ops : Array Oper) (N : Nat) : List Oper → KF → H → (KF → H → Option Unit) → Option Unit
  | [], A, h, k => k A h
  | o :: l, A, h, k => evStepR P ck rt ops N A o h fun A' v h' => evOpsR P ck rt ops N l (kput N A' o.dst v) h' k

noncomputable def regR (P : Program) (ck : CK) (rt : List (EntryR P)) (N : Nat) (ops : Array Oper) : KC Unit := fun A h kn _ _ => evOpsR P ck rt ops N ops.toList A h kn

section
variable {P : Program} {ck : CK} {rt : List (EntryR P)} {ops : Array Oper} {N : Nat} {o : Oper}

theorem stepR_cases {A : KF} {h : H} {k : KF → AV → H → Option Unit} (e : evStepR P ck rt ops N A o h k = some ()) :
    ∃ A' b, kopd N A' = kopd N A ∧ evWanted ops (kopd N A) o = some b ∧ (if b = true then evOperR P ck rt ops o.dst (kopd N A) o.op h (fun v h' => k A' v h') = some () else k A' (.tup []) h = some ()) := by
  unfold evStepR at e
  split at e
  · rename_i hg
    exact ⟨A, true, rfl, by simp [evWanted, hg], e⟩
  · rename_i j want hg
    split at e
    · rename_i hd
      exact ⟨A, false, rfl, by simp only [evWanted, hg, hd], e⟩
    · rename_i t hd
      split at e
      · rename_i hv
        exact ⟨A, false, rfl, by simp only [evWanted, hg, hd, hv], e⟩
      · obtain ⟨b, hb, e'⟩ := asBool_some e
        clear e; have e := e'; clear e'
        have hsame := kopd_put_same hb (by intro e; cases e)
        cases b <;> cases want <;> simp only [cond_true, cond_false] at e
        · rw [hsame] at e
          exact ⟨_, true, hsame, by simp [evWanted, hg, hd, hb], e⟩
        · exact ⟨_, false, hsame, by simp only [evWanted, hg, hd, hb]; rfl, e⟩
        · exact ⟨_, false, hsame, by simp only [evWanted, hg, hd, hb]; rfl, e⟩
        · rw [hsame] at e
          exact ⟨_, true, hsame, by simp [evWanted, hg, hd, hb], e⟩

theorem operK_ends (hck : ck.call.Sound P) {ρ : Operand → AV} {op : Op} {h : H} {k : AV → H → Option Unit} (e : evOperK P ck ρ op h k = some ()) : ∃ v h', k v h' = some () ∧ h.next ≤ h'.next ∧ (h.WF → h'.WF) := by
  obtain ⟨v, h', h1, h2⟩ := evOperK_some e
  exact ⟨v, h', h2, evOper_grows hck h1⟩

theorem operR_ends (hck : ck.call.Sound P) {dst : Option Tmp} {ρ : Operand → AV} {op : Op} {h : H} {k : AV → H → Option Unit} (e : evOperR P ck rt ops dst ρ op h k = some ()) : ∃ v h', k v h' = some () ∧ h.next ≤ h'.next ∧ (h.WF → h'.WF) := by
  unfold evOperR at e
  split at e
  · obtain ⟨p, hp, e⟩ := asPtr_some e
    cases p with
    | none => cases e
    | some q =>
      obtain ⟨i, off⟩ := q
      simp only [nnK] at e
      split at e
      · obtain ⟨ha, hn⟩ := nextMK_some e
        obtain ⟨c, hc⟩ := Nexts_ex ha
        have := hn c hc
        match c, hc, this with
        | none, _, h2 => exact ⟨_, _, h2, Nat.le_refl _, id⟩
        | some (a, b, h'), hc, h2 => exact ⟨_, _, h2, Nexts_grows hc⟩
      · cases e
  · obtain ⟨p, hp, e⟩ := asPtr_some e
    cases p with
    | none => cases e
    | some q =>
      obtain ⟨i, off⟩ := q
      simp only [nnK] at e
      split at e
      · unfold entryK at e
        split at e
        · have e1 := shapeK_some _ e
          have e2 := shapeK_some _ e1
          exact ⟨_, _, e2, Nat.le_refl _, id⟩
        · cases e
      · cases e
  · split at e
    · obtain ⟨m, hm, e⟩ := asMap_some e
      unfold rangeMK at e
      split at e
      · exact ⟨_, _, e, Nat.le_succ _, WF_new⟩
      · cases e
    · exact operK_ends hck e
  · split at e
    · split at e
      · split at e
        · rename_i en hf
          exact en.ends _ _ _ e
        · exact operK_ends hck e
      · exact operK_ends hck e
    · exact operK_ends hck e
  · exact operK_ends hck e

theorem stepR_ends (hck : ck.call.Sound P) {A : KF} {h : H} {k : KF → AV → H → Option Unit} (e : evStepR P ck rt ops N A o h k = some ()) : ∃ A' v h', k A' v h' = some () ∧ h.next ≤ h'.next ∧ (h.WF → h'.WF) := by
  obtain ⟨A', b, _, _, e⟩ := stepR_cases e
  split at e
  · obtain ⟨v, h', h1, h2⟩ := operR_ends hck e
    exact ⟨A', v, h', h1, h2⟩
  · exact ⟨A', _, h, e, Nat.le_refl _, id⟩

theorem FRk.same {r : Ren} {A A' : KF} {a : Act} (h : FRk r A a) (hsz : a.tmps.size = N) (hs : kopd N A' = kopd N A) : FRk r A' a := by
  intro t ht
  have := congrFun hs (.tmp t)
  simp only [kopd, blt_of (show t < N by omega)] at this
  rw [this]; exact h t ht
theorem FRk.mono {r r' : Ren} (hr : r.le r') {A : KF} {a : Act} (h : FRk r A a) : FRk r' A a := fun t ht => (h t ht).mono hr
theorem size_put (a : Act) (d : Option Tmp) (v : Value) : (a.put d v).tmps.size = a.tmps.size := by cases d <;> simp [Act.put]
theorem FRk.put {r : Ren} {A : KF} {a : Act} (h : FRk r A a) (hsz : a.tmps.size = N) (d : Option Tmp) {x : AV} {v : Value} (hv : VR r x v) : FRk r (kput N A d x) (a.put d v) := by
  intro t ht
  rw [size_put] at ht
  cases d with
  | none => exact h t ht
  | some d =>
    by_cases hd : d < N
    · rw [look_put hd]
      by_cases e : d = t
      · subst e
        rw [if_pos rfl]
        simp only [Act.eval, Act.put]
        rw [Array.getD_eq_getD_getElem?, Array.getElem?_setIfInBounds_self, if_pos ht]
        exact hv
      · rw [if_neg e]
        have := h t ht
        simp only [Act.eval, Act.put] at this ⊢
        rw [Array.getD_eq_getD_getElem?, Array.getElem?_setIfInBounds_ne e, ← Array.getD_eq_getD_getElem?]
        exact this
    · have hb : Nat.blt d N = false := by rw [← Bool.not_eq_true]; intro h; exact hd (of_blt h)
      simp only [kput, hb]
      have := h t ht
      have hne : d ≠ t := fun e => hd (by rw [e, ← hsz]; exact ht)
      simp only [Act.eval, Act.put] at this ⊢
      rw [Array.getD_eq_getD_getElem?, Array.getElem?_setIfInBounds_ne hne, ← Array.getD_eq_getD_getElem?]
      exact this

theorem free_all {r r' : Ren} {h h' : H} {w w' : World} (p : Post r h w r' h' w') (hfree : ∀ i, h.next ≤ i → r i = none) : ∀ i, h'.next ≤ i → r' i = none := by
  intro i hi
  cases hr : r' i with
  | none => rfl
  | some t =>
    have := p.dom i t hr (hfree i (Nat.le_trans p.next hi))
    omega

theorem operK_wp (hck : ck.call.Sound P) {ρ : Operand → AV} {h : H} {k : AV → H → Option Unit} (e : evOperK P ck ρ o.op h k = some ()) {r : Ren} {a : Act} {w : World} (hρ : ∀ x, VR r (ρ x) (a.eval x)) (hrel : Rel r h w) (hfree : ∀ i, h.next ≤ i → r i = none)
    (Q : Exit → Act → World → Prop) (K : Act → World → Prop) (hK : ∀ r' v v' h' w', VR r' v v' → Post r h w r' h' w' → k v h' = some () → K (a.put o.dst v') w') : o.wp P a w K Q := by
  obtain ⟨v, h', h1, h2⟩ := evOperK_some e
  exact oper_leads hck hρ hrel (fun i a _ => hfree i a) h1 Q K fun v' w' ⟨r', hv, hp⟩ => hK r' v v' h' w' hv hp h2

theorem operR_wp (hck : ck.call.Sound P) {ρ : Operand → AV} {h : H} {k : AV → H → Option Unit} (e : evOperR P ck rt ops o.dst ρ o.op h k = some ()) {r : Ren} {a : Act} {w : World} (hρ : ∀ x, VR r (ρ x) (a.eval x)) (hrel : Rel r h w) (hfree : ∀ i, h.next ≤ i → r i = none)
    (Q : Exit → Act → World → Prop) (K : Act → World → Prop) (hK : ∀ r' v v' h' w', VR r' v v' → Post r h w r' h' w' → k v h' = some () → K (a.put o.dst v') w') : o.wp P a w K Q := by
  unfold evOperR at e
  split at e
  · rename_i it hop
    obtain ⟨p, hp, e⟩ := asPtr_some e
    cases p with
    | none => cases e
    | some q =>
      obtain ⟨i, off⟩ := q
      simp only [nnK] at e
      split at e
      · obtain ⟨ha, hn⟩ := nextMK_some e
        have hx := hρ it
        rw [hp] at hx
        obtain ⟨c, v', w', hc, hrun, hres⟩ := Nexts_sim (P := P) (ty := o.type) hrel ha hx
        have hr : (execOp a.eval o).run P w = .ok (.value v') w' := by simp [execOp, hop, hrun]
        have hk := hn c hc
        match c, hc, hres, hk with
        | none, _, hres, hk => exact Leads.of_run (Φ := fun v'' w'' => v'' = v' ∧ w'' = w') hr (.inl rfl) ⟨rfl, rfl⟩ Q K fun v'' w'' ⟨e1, e2⟩ => by subst e1; subst e2; exact hK r _ _ h _ hres.1 hres.2 hk
        | some (x, y, h'), _, hres, hk => exact Leads.of_run (Φ := fun v'' w'' => v'' = v' ∧ w'' = w') hr (.inl rfl) ⟨rfl, rfl⟩ Q K fun v'' w'' ⟨e1, e2⟩ => by subst e1; subst e2; exact hK r _ _ h' _ hres.1 hres.2 hk
      · cases e
  · rename_i it hop
    obtain ⟨p, hp, e⟩ := asPtr_some e
    cases p with
    | none => cases e
    | some q =>
      obtain ⟨i, off⟩ := q
      simp only [nnK] at e
      split at e
      · unfold entryK at e
        split at e
        · rename_i x y hxy
          have e1 := shapeK_some _ e
          have e2 := shapeK_some _ e1
          have hx := hρ it
          rw [hp] at hx
          obtain ⟨v', hrun, hv⟩ := evEntry_sim (P := P) hrel hxy hx
          have hr : (execOp a.eval o).run P w = .ok (.value v') w := by simp [execOp, hop, hrun]
          exact Leads.of_run (Φ := fun v'' w'' => v'' = v' ∧ w'' = w) hr (.inl rfl) ⟨rfl, rfl⟩ Q K fun v'' w'' ⟨e1, e3⟩ => by subst e1; subst e3; exact hK r _ _ h _ hv (Post.refl hrel) e2
        · cases e
      · cases e
  · rename_i t x hop
    split at e
    · rename_i hd
      obtain ⟨m, hm, e⟩ := asMap_some e
      unfold rangeMK at e
      split at e
      · rename_i ob hob
        have hx := hρ x
        rw [hm] at hx
        obtain ⟨kt, el, hu⟩ : ∃ kt el, P.underlying t = some (.map kt el) := by
          unfold mapD at hd
          split at hd
          · rename_i kt el hu; exact ⟨kt, el, hu⟩
          · cases hd
        obtain ⟨w', r', hrun, hv, hp⟩ := evRangeM_sim (P := P) hrel (hfree _ (Nat.le_refl _)) hu hob hx
        have hr : (execOp a.eval o).run P w = .ok (.value (.pointer (some ⟨w.heap.size, 0, none⟩))) w' := by simp [execOp, hop, hrun]
        exact Leads.of_run (Φ := fun v'' w'' => v'' = .pointer (some ⟨w.heap.size, 0, none⟩) ∧ w'' = w') hr (.inl rfl) ⟨rfl, rfl⟩ Q K fun v'' w'' ⟨e1, e2⟩ => by subst e1; subst e2; exact hK r' _ _ _ _ hv hp e
      · cases e
    · rw [← hop] at e; exact operK_wp hck e hρ hrel hfree Q K hK
  · rename_i c hop
    split at e
    · rename_i x hx
      split at e
      · rename_i f first caps hfx
        split at e
        · rename_i en hfind
          have hid := findR_id hfind
          have hxv := hρ x
          rw [hfx] at hxv
          generalize hq : a.eval x = q at hxv
          cases hxv with
          | func _ _ _ first' caps' h1 h2 h3 h4 =>
          have hargs : VRL r (first ++ c.args.toList.map ρ ++ caps) (first' ++ c.args.map a.eval ++ caps').toList := by
            rw [Array.toList_append, Array.toList_append]
            have e1 : VRL r first first'.toList := ⟨by simpa using h1, fun i x v hx hv => h3 i x v hx (by simpa using hv)⟩
            have e2 : VRL r caps caps'.toList := ⟨by simpa using h2, fun i x v hx hv => h4 i x v hx (by simpa using hv)⟩
            exact (e1.append (VRL_ops hρ c.args)).append e2
          obtain ⟨fn, hfn, hbody, hname⟩ := en.there
          have hsim := en.sim _ _ _ r w _ e hrel hfree hargs
          rw [hid] at hfn hsim
          unfold Oper.wp
          have hr : (execOp a.eval o).run P w = .ok (.enter f (first' ++ c.args.map a.eval ++ caps')) w := by
            have hn1 : ¬ fn.name = "runtime.NumGoroutine" := by simpa using hname
            have hb1 : ¬ fn.body = none := fun e => by rw [e] at hbody; cases hbody
            simp [execOp, hop, resolve, hx, hq, Deferred.ofValue, invoke, callFunc, hfn, hb1, hn1]
          rw [hr, Oper.upon_enter]
          refine hsim.mono fun e w' he => ?_
          obtain ⟨r', v, v', h', rfl, hv', hp, hk⟩ := he
          exact hK r' v v' h' w' hv' hp hk
        · rw [← hop] at e; exact operK_wp hck e hρ hrel hfree Q K hK
      · rw [← hop] at e; exact operK_wp hck e hρ hrel hfree Q K hK
    · rw [← hop] at e; exact operK_wp hck e hρ hrel hfree Q K hK
  · exact operK_wp hck e hρ hrel hfree Q K hK

theorem stepR_wp (hck : ck.call.Sound P) {A : KF} {h : H} {k : KF → AV → H → Option Unit} (e : evStepR P ck rt ops N A o h k = some ()) {r : Ren} {a : Act} {w : World} (hfr : FRk r A a) (hsz : a.tmps.size = N) (hrel : Rel r h w) (hfree : ∀ i, h.next ≤ i → r i = none)
    (Q : Exit → Act → World → Prop) (K : Act → World → Prop) (hK : ∀ r' v v' A' h' w', VR r' v v' → FRk r A' a → Post r h w r' h' w' → k A' v h' = some () → K (a.put o.dst v') w') :
    if Region.wanted o (yielded ops a.tmps) then o.wp P a w K Q ∨ (o.asks P a w ∧ LetsOut Q) else K (a.put o.dst undef) w := by
  have hρ : ∀ x, VR r (kopd N A x) (a.eval x) := fun x => eval_slot hfr hsz x
  obtain ⟨A', b, hs, hb, e⟩ := stepR_cases e
  have hw := wanted_sim hb (fun t _ => hρ _)
  rw [hw]
  cases b with
  | false =>
    simp only [Bool.false_eq_true, if_false] at e ⊢
    exact hK r _ undef A' h w (VR_tup (vs := []) .nil) (hfr.same hsz hs) (Post.refl hrel) e
  | true =>
    simp only [if_true] at e ⊢
    exact .inl (operR_wp hck e hρ hrel hfree Q K fun r' v v' h' w' h1 h2 h3 => hK r' v v' A' h' w' h1 (hfr.same hsz hs) h2 h3)

theorem opsR_ends (hck : ck.call.Sound P) {k : KF → H → Option Unit} : ∀ (l : List Oper) (A : KF) (h : H), evOpsR P ck rt ops N l A h k = some () → ∃ A' h', k A' h' = some () ∧ h.next ≤ h'.next ∧ (h.WF → h'.WF)
  | [], A, h, e => ⟨A, h, e, Nat.le_refl _, id⟩
  | o :: l, A, h, e => by
    obtain ⟨A1, v, h1, e1, g1, w1⟩ := stepR_ends hck e
    obtain ⟨A2, h2, e2, g2, w2⟩ := opsR_ends hck l _ _ e1
    exact ⟨A2, h2, e2, Nat.le_trans g1 g2, fun hw => w2 (w1 hw)⟩

theorem opsR_wp (hck : ck.call.Sound P) {k : KF → H → Option Unit} {Q : Exit → Act → World → Prop} : ∀ (l : List Oper) (A : KF) (h : H) (r : Ren) (a : Act) (w : World), evOpsR P ck rt ops N l A h k = some () → FRk r A a → a.tmps.size = N → Rel r h w → (∀ i, h.next ≤ i → r i = none) →
    (∀ r' a' w' A' h', FRk r' A' a' → a'.tmps.size = N → a'.defers = a.defers → Post r h w r' h' w' → k A' h' = some () → Q .normal a' w') → wpList P ops Q l a w
  | [], A, h, r, a, w, e, hfr, hsz, hrel, _, hQ => hQ r a w A h hfr hsz rfl (Post.refl hrel) e
  | o :: l, A, h, r, a, w, e, hfr, hsz, hrel, hfree, hQ => by
    unfold wpList
    refine stepR_wp hck e hfr hsz hrel hfree Q (wpList P ops Q l) fun r' v v' A' h' w' hv hA hp hk => ?_
    refine opsR_wp hck l _ h' r' (a.put o.dst v') w' hk ((hA.mono hp.le).put hsz o.dst hv) (by rw [size_put]; exact hsz) hp.rel (free_all hp hfree) fun r'' a'' w'' A'' h'' q1 q2 q3 q4 q5 => ?_
    exact hQ r'' a'' w'' A'' h'' q1 q2 (by rw [q3]; cases o.dst <;> rfl) (hp.trans q4) q5
end

theorem DenG.regionR {P : Program} {ck : CK} (hck : ck.call.Sound P) {rt : List (EntryR P)} {N id : Nat} {ops : Array Oper} : DenG true P N (.region id ops false) (regR P ck rt N ops) where
  ends := fun A h kn ke kr x e => by
    cases x
    obtain ⟨A', h', h1, h2, h3⟩ := opsR_ends hck _ _ _ e
    exact ⟨.normal, A', h', h1, h2, h3⟩
  sim := fun r a w A h kn ke kr x B e hfr hsz hrel hfree hB Q hQ => by
    cases x
    exact wp_region_list (opsR_wp hck _ A h r a w e hfr hsz hrel (fun i hi => hfree i hi (B.all rfl i)) fun r' a' w' A' h' q1 q2 q3 q4 q5 => hQ r' a' w' A' h' .normal q1 q2 q3 q4 q5)

theorem denRegionR {P : Program} {N i : Nat} {c : Code} {ops : Array Oper} {ck : CK} {rt : List (EntryR P)} (h : c = .region i ops false) (hck : ck.call.Sound P) : DenG true P N c (regR P ck rt N ops) := h ▸ DenG.regionR hck

/-! ### functions -/

theorem resK_ex {P : Program} {N : Nat} {A' : KF} {h' : H} {x : Unit} : ∀ (xs : List ResultVar) (k' : List AV → Option Unit), resK P N A' h' xs k' = some x → ∃ vs, k' vs = some x
  | [], k', e => ⟨[], e⟩
  | .tmp t :: ys, k', e => by
    simp only [resK] at e
    obtain ⟨vs, hv⟩ := resK_ex ys _ e
    exact ⟨_, hv⟩
  | .cell ad t :: ys, k', e => by
    simp only [resK] at e
    obtain ⟨v, _, e⟩ := loadK_some e
    obtain ⟨vs, hv⟩ := resK_ex ys _ e
    exact ⟨_, hv⟩

/-- **What a function's body computes, each of the function's runs comes to.** -/
def EntryR.of {P : Program} {N : Nat} {c : Code} {X : KC Unit} (d : DenG true P N c X) {f : FuncId} {fn : Func} (hfn : P.funcs[f]? = some fn) (hbody : fn.body = some c) (hname : (fn.name == "runtime.NumGoroutine") = false) (hN : fn.ntmps = N)
    (run : List AV → H → (AV → H → Option Unit) → Option Unit) (hrun : ∀ args h k, run args h k = some () → args.length ≤ N ∧ ∃ dec : AV → H → Option Unit, (∀ v h, dec v h = some () → k v h = some ()) ∧ bodyK P N fn.results X args h dec = some ()) (fits : List AV → Bool := fun _ => true) : EntryR P where
  id := f
  run := run
  fits := fits
  there := ⟨fn, hfn, by rw [hbody]; rfl, hname⟩
  ends := fun args h k e => by
    obtain ⟨_, dec, hdec, e⟩ := hrun args h k e
    obtain ⟨e1, A1, h1, l1, g1, w1⟩ := d.ends _ h _ _ _ _ e
    cases e1 with
    | normal => obtain ⟨vs, hv⟩ := resK_ex _ _ l1; exact ⟨_, h1, hdec _ _ hv, g1, w1⟩
    | ret => obtain ⟨vs, hv⟩ := resK_ex _ _ l1; exact ⟨_, h1, hdec _ _ hv, g1, w1⟩
    | exit i => cases l1
  sim := fun args h k r w args' e hrel hfree hargs => by
    obtain ⟨hlen, dec, hdec, e⟩ := hrun args h k e
    refine calls_of_wp hfn hbody ?_
    have hl : args.length = args'.size := by simpa using hargs.1
    have hsz : (args' ++ Array.replicate (fn.ntmps - args'.size) undef).size = N := by simp [hN]; omega
    refine d.sim r _ w _ h _ _ _ () ⟨fun _ => True, fun _ _ => trivial⟩ e (fun t ht => ?_) hsz hrel (fun i hi _ => hfree i hi) (fun _ _ _ _ _ _ => trivial) _ fun r' a' w' A' h' e' g1 g2 g3 g4 g5 => ?_
    · rw [look_argsF]
      simp only [Nat.zero_le, true_and, Nat.zero_add, Nat.sub_zero]
      split
      · rename_i hlt
        have h1 : args[t]? = some args[t] := List.getElem?_eq_getElem hlt
        have h2 : args'.toList[t]? = some (args'.toList[t]'(by simpa [← hl] using hlt)) := List.getElem?_eq_getElem _
        have := hargs.2 t _ _ h1 h2
        rw [List.getD_eq_getElem?_getD, h1]
        simp only [Act.eval, Array.getD_eq_getD_getElem?]
        rw [Array.getElem?_append_left (by omega), ← Array.getElem?_toList, h2]
        exact this
      · exact .junk _
    · have fin : ∀ A' h', FRk r' A' a' → Post r h w r' h' w' → resK P N A' h' fn.results.toList (fun vs => dec (oneOf vs) h') = some () →
          a'.defers = [] ∧ ∃ v, (results fn a'.tmps).run P w' = .ok v w' ∧ ∃ r' u v' h', Ending.returned v = .returned v' ∧ VR r' u v' ∧ Post r h w r' h' w' ∧ k u h' = some () := by
        intro A' h' g1 g4 g5
        obtain ⟨vs, vs', q1, q2, q3⟩ := resK_some g1 g2 g4.rel g5
        refine ⟨g3, (if h : vs'.toArray.size = 1 then vs'.toArray[0] else .tuple vs'.toArray), ?_, r', _, _, h', rfl, VR_oneOf q2, g4, hdec _ _ q1⟩
        show Sem.run P (do let vs ← fn.results.mapM (resSem a'.tmps); pure (if h : vs.size = 1 then vs[0] else .tuple vs)) w' = _
        rw [Array.mapM_eq_mapM_toList]
        simp only [Sem.run_bind, Sem.run_map, q3, Result.andThen_ok, Sem.run_pure]
      cases e' with
      | normal => exact fin A' h' g1 g4 g5
      | ret => exact fin A' h' g1 g4 g5
      | exit i => cases g5

/-- a law: every run of it comes to true, and turns nothing that was there -/
theorem EntryR.run_true {P : Program} (en : EntryR P) {args : List AV} {rows : Rows0} (c : en.run args (H0 rows) (fun v _ => match v with | .bool true => some () | _ => none) = some ()) {w : World} {args' : Array Value}
    (h : ∀ x ∈ rows, ∀ t, x.1 = some t → RowOK (r0 rows) w t x.2) (ha : VRL (r0 rows) args args'.toList) :
    Calls P en.id args' w fun e w' => e = .returned (.bool true) ∧ Below w.heap.size w w' := by
  refine (en.sim args _ _ (r0 rows) w args' c (rel0 h) (fun i hi => ?_) ha).mono fun e w' ⟨r', v, v', h', he, hv, hp, hk⟩ => ⟨?_, ⟨hp.env.1, hp.env.2.1, hp.env.2.2.1, hp.size, fun b hb => hp.keep b hb fun i t o _ _ ho => ?_⟩⟩
  · simp only [H0] at hi
    simp [r0, List.getElem?_eq_none hi]
  · split at hk
    · cases hv; exact he
    · cases hk
  · simp only [H0, Option.map_eq_some_iff] at ho
    obtain ⟨x, _, rfl⟩ := ho
    rfl

end Go.Ev
