/- The abstract machine Ev, part I: a row of operations in the text's order. -/
import Derived.Test.YtkikfnpanlcajaaDoorEvH
set_option linter.all false
namespace Go.Ev

def putD (fr : List AV) (d : Option Tmp) (v : AV) : List AV := match d with | some d => fr.set d v | none => fr

theorem FR.putD {r : Ren} {fr : List AV} {a : Act} (h : FR r fr a) (d : Option Tmp) {x : AV} {v : Value} (hv : VR r x v) : FR r (putD fr d x) (a.put d v) := FR.put h d hv

theorem FR.mono {r r' : Ren} (hr : r.le r') {fr : List AV} {a : Act} (h : FR r fr a) : FR r' fr a := VRL.mono hr h

def evWanted (ops : Array Oper) (ρ : Operand → AV) (o : Oper) : Option Bool :=
  match o.guard with
  | none => some true
  | some (j, want) =>
    match (ops[j]?).bind (·.dst) with
    | none => some false
    | some t => match ρ (.tmp t) with | .bool b => some (b == want) | .tup [] => some false | _ => none

theorem wanted_sim {r : Ren} {ops : Array Oper} {ρ : Operand → AV} {a : Act} {o : Oper} {b : Bool} (h : evWanted ops ρ o = some b)
    (hρ : ∀ t, (∃ j w, o.guard = some (j, w) ∧ (ops[j]?).bind (·.dst) = some t) → VR r (ρ (.tmp t)) (a.eval (.tmp t))) : Region.wanted o (yielded ops a.tmps) = b := by
  unfold evWanted at h
  unfold Region.wanted
  split at h
  · rename_i hg; rw [hg]; cases h; rfl
  · rename_i j want hg
    rw [hg]
    simp only
    split at h
    · rename_i hd
      cases h
      simp [yielded, hd]
    · rename_i t hd
      have hv := hρ t ⟨j, want, hg, hd⟩
      have hy : ∀ v, a.eval (.tmp t) = v → v ≠ undef → a.tmps[t]? = some v := by
        intro v hv hne
        simp only [Act.eval] at hv
        cases hq : a.tmps[t]? with
        | none => rw [Array.getD_eq_getD_getElem?, hq] at hv; exact absurd hv.symm hne
        | some u => rw [Array.getD_eq_getD_getElem?, hq] at hv; simp at hv; rw [hv]
      split at h
      · rename_i c hc
        cases h
        rw [hc] at hv
        generalize hq : a.eval (.tmp t) = q at hv
        cases hv
        have := hy _ hq (by intro e; cases e)
        simp only [yielded, hd, Option.bind_some, this]
        cases c <;> cases want <;> rfl
      · rename_i hc
        cases h
        rw [hc] at hv
        generalize hq : a.eval (.tmp t) = q at hv
        cases hv with
        | tup _ vs h1 h2 =>
        have hvs : vs = #[] := Array.eq_empty_of_size_eq_zero (by simpa using h1.symm)
        subst hvs
        have : ∀ b, a.tmps[t]? ≠ some (.bool b) := by
          intro b hb
          simp only [Act.eval] at hq
          rw [Array.getD_eq_getD_getElem?, hb] at hq
          simp at hq
        have hn : yielded ops a.tmps j = none := by
          unfold yielded
          rw [hd]
          cases hq2 : a.tmps[t]? with
          | none => simp [hq2]
          | some u => cases u <;> first | (simp [hq2]; done) | exact absurd hq2 (this _)
        rw [hn]; rfl
      · cases h

def evStep (P : Program) (call : CallFn) (ops : Array Oper) (o : Oper) (ρ : Operand → AV) (h : H) : Option (AV × H) :=
  (evWanted ops ρ o).bind fun b => if b then evOper P call ρ o.op h else some (.tup [], h)

def evOps (P : Program) (call : CallFn) (ops : Array Oper) : List Oper → List AV → H → Option (List AV × H)
  | [], fr, h => some (fr, h)
  | o :: rest, fr, h => (evStep P call ops o (opd fr) h).bind fun q => evOps P call ops rest (putD fr o.dst q.1) q.2

/-! ### what every operation leaves of a heap -/

def H.WF (h : H) : Prop := ∀ i o, h.get i = some o → i < h.next

theorem WF_set {h : H} {i : Nat} {o o' : AObj} (hw : h.WF) (hg : h.get i = some o) : (h.set i o').WF := by
  intro j oj hj
  simp only [H.set] at hj ⊢
  split at hj
  · rename_i e; subst e; exact hw _ _ hg
  · exact hw _ _ hj

theorem WF_new {h : H} {o : AObj} (hw : h.WF) : (h.new o).WF := by
  intro j oj hj
  simp only [H.new] at hj ⊢
  split at hj
  · omega
  · have := hw _ _ hj; omega

theorem WF_kill {h : H} {i : Nat} (hw : h.WF) : (h.kill i).WF := by
  intro j oj hj
  simp only [H.kill] at hj ⊢
  split at hj
  · cases hj
  · exact hw _ _ hj

theorem evPutM_grows {P : Program} {t : TypeId} {m k v : AV} {h h' : H} (hs : evPutM P t m k v h = some h') : h.next ≤ h'.next ∧ (h.WF → h'.WF) := by
  unfold evPutM at hs
  split at hs
  · split at hs
    · split at hs
      · unfold evMapPut at hs
        split at hs
        · cases hs
        · split at hs
          · rename_i hg
            obtain ⟨es, _, rfl⟩ := Option.map_eq_some_iff.1 hs
            exact ⟨Nat.le_refl _, fun hw => WF_set hw hg⟩
          · cases hs
      · cases hs
    · cases hs
  · cases hs

theorem evDelM_grows {P : Program} {ts : List TypeId} {xs : List AV} {v : AV} {h h' : H} (hs : evDelM P ts xs h = some (v, h')) : h.next ≤ h'.next ∧ (h.WF → h'.WF) := by
  unfold evDelM at hs
  split at hs
  · split at hs
    · split at hs
      · split at hs
        · obtain ⟨h2, hd, hs⟩ := Option.map_eq_some_iff.1 hs
          cases hs
          unfold evMapDel at hd
          split at hd
          · cases hd; exact ⟨Nat.le_refl _, id⟩
          · split at hd
            · rename_i hg
              obtain ⟨es, _, rfl⟩ := Option.map_eq_some_iff.1 hd
              exact ⟨Nat.le_refl _, fun hw => WF_set hw hg⟩
            · cases hd
        · cases hs
      · cases hs
    · cases hs
  · cases hs

theorem evClearM_grows {P : Program} {ts : List TypeId} {xs : List AV} {v : AV} {h h' : H} (hs : evClearM P ts xs h = some (v, h')) : h.next ≤ h'.next ∧ (h.WF → h'.WF) := by
  unfold evClearM at hs
  split at hs
  · split at hs
    · obtain ⟨h2, hd, hs⟩ := Option.map_eq_some_iff.1 hs
      cases hs
      unfold evMapClear at hd
      split at hd
      · cases hd; exact ⟨Nat.le_refl _, id⟩
      · split at hd
        · rename_i hg
          cases hd
          exact ⟨Nat.le_refl _, fun hw => WF_set hw hg⟩
        · cases hd
    · cases hs
  · cases hs

theorem evFull_grows {P : Program} {ρ : Operand → AV} {op : Op} {h h' : H} {v : AV} (hs : evFull P ρ op h = some (v, h')) : h.next ≤ h'.next ∧ (h.WF → h'.WF) := by
  unfold evFull at hs
  split at hs
  · obtain ⟨h'', hst, hs⟩ := Option.map_eq_some_iff.1 hs
    cases hs
    unfold evStore at hst
    split at hst
    · split at hst
      · rename_i hg
        split at hst
        · cases hst; exact ⟨Nat.le_refl _, fun hw => WF_set hw hg⟩
        · cases hst
      · cases hst
    · cases hst
  · unfold evNext at hs
    split at hs
    · split at hs
      · rename_i hg
        split at hs
        · cases hs; exact ⟨Nat.le_refl _, fun hw => WF_set hw hg⟩
        · cases hs; exact ⟨Nat.le_refl _, id⟩
      · cases hs
    · cases hs
  · obtain ⟨h'', hst, hs⟩ := Option.map_eq_some_iff.1 hs
    cases hs; exact evPutM_grows hst
  · obtain ⟨h'', hst, hs⟩ := Option.map_eq_some_iff.1 hs
    cases hs; exact evPutM_grows hst
  · split at hs
    · unfold evAppend at hs
      split at hs
      · split at hs
        · split at hs
          · cases hs
          · obtain ⟨inf, _, hs⟩ := Option.bind_eq_some_iff.1 hs
            obtain ⟨zs, _, hs⟩ := Option.bind_eq_some_iff.1 hs
            obtain ⟨q, _, hs⟩ := Option.bind_eq_some_iff.1 hs
            split at hs
            · unfold evApp at hs
              repeat' split at hs
              all_goals first
                | (cases hs; done)
                | (cases hs; exact ⟨Nat.le_refl _, id⟩)
                | (cases hs; exact ⟨by simp [H.new, H.kill], fun hw => WF_new hw⟩)
                | (cases hs; exact ⟨by simp [H.new, H.kill], fun hw => WF_new (WF_kill hw)⟩)
                | (rename_i hg _; cases hs; exact ⟨Nat.le_refl _, fun hw => WF_set hw hg⟩)
            · cases hs
        · cases hs
      · cases hs
    · unfold evCopy at hs
      split at hs
      · split at hs
        · obtain ⟨inf, _, hs⟩ := Option.bind_eq_some_iff.1 hs
          obtain ⟨q, _, hs⟩ := Option.bind_eq_some_iff.1 hs
          repeat' split at hs
          all_goals first
            | (cases hs; done)
            | (cases hs; exact ⟨Nat.le_refl _, id⟩)
            | (rename_i hg _; cases hs; exact ⟨Nat.le_refl _, fun hw => WF_set hw hg⟩)
        · cases hs
      · cases hs
    · exact evDelM_grows hs
    · exact evClearM_grows hs
    · cases hs
  · cases hs

theorem evOper_grows {P : Program} {call : CallFn} (hcall : call.Sound P) {ρ : Operand → AV} {op : Op} {h h' : H} {v : AV} (hs : evOper P call ρ op h = some (v, h')) : h.next ≤ h'.next ∧ (h.WF → h'.WF) := by
  unfold evOper at hs
  split at hs
  · obtain ⟨x, _, hs⟩ := Option.map_eq_some_iff.1 hs; cases hs; exact ⟨Nat.le_refl _, id⟩
  · obtain ⟨x, _, hs⟩ := Option.map_eq_some_iff.1 hs; cases hs; exact ⟨by simp [H.new], fun hw => WF_new hw⟩
  · obtain ⟨x, _, hs⟩ := Option.map_eq_some_iff.1 hs; cases hs; exact ⟨Nat.le_refl _, id⟩
  · split at hs
    · split at hs
      · split at hs
        · have := hcall _ _ _ _ _ hs; exact ⟨this.next, this.wf⟩
        · cases hs
      · exact evFull_grows hs
    · exact evFull_grows hs

theorem evStep_grows {P : Program} {call : CallFn} (hcall : call.Sound P) {ops : Array Oper} {o : Oper} {ρ : Operand → AV} {h h' : H} {v : AV} (hs : evStep P call ops o ρ h = some (v, h')) : h.next ≤ h'.next ∧ (h.WF → h'.WF) := by
  unfold evStep at hs
  obtain ⟨b, _, hs⟩ := Option.bind_eq_some_iff.1 hs
  split at hs
  · exact evOper_grows hcall hs
  · cases hs; exact ⟨Nat.le_refl _, id⟩

theorem evOps_grows {P : Program} {call : CallFn} (hcall : call.Sound P) {ops : Array Oper} : ∀ {l : List Oper} {fr fr' : List AV} {h h' : H}, evOps P call ops l fr h = some (fr', h') → h.next ≤ h'.next ∧ (h.WF → h'.WF)
  | [], fr, fr', h, h', hs => by simp only [evOps] at hs; cases hs; exact ⟨Nat.le_refl _, id⟩
  | o :: rest, fr, fr', h, h', hs => by
    simp only [evOps] at hs
    obtain ⟨⟨v, h1⟩, h2, hs⟩ := Option.bind_eq_some_iff.1 hs
    have g1 := evStep_grows hcall h2
    have g2 := evOps_grows hcall hs
    exact ⟨Nat.le_trans g1.1 g2.1, fun hw => g2.2 (g1.2 hw)⟩

/-! ### one operation, of whatever kind -/

theorem oper_leads {P : Program} {call : CallFn} (hcall : call.Sound P) {r : Ren} {ρ : Operand → AV} {o : Oper} {a : Act} (hρ : ∀ x, VR r (ρ x) (a.eval x)) {v : AV} {h h' : H} {w : World} (hrel : Rel r h w)
    (hfree : ∀ i, h.next ≤ i → i < h'.next → r i = none) (hv : evOper P call ρ o.op h = some (v, h')) :
    Leads P o a w fun v' w' => ∃ r', VR r' v v' ∧ Post r h w r' h' w' := by
  cases hc : cls P o.op with
  | full => exact full_leads hcall hρ hrel hfree hc hv
  | pure =>
    unfold evOper at hv
    rw [hc] at hv
    obtain ⟨x, hx, hv⟩ := Option.map_eq_some_iff.1 hv
    cases hv
    intro Q K hK
    exact pure_leads hρ hx w Q K fun v' w' ⟨h1, h2⟩ => hK _ _ ⟨r, h1, by rw [h2]; exact Post.refl hrel⟩
  | read =>
    unfold evOper at hv
    rw [hc] at hv
    obtain ⟨x, hx, hv⟩ := Option.map_eq_some_iff.1 hv
    cases hv
    intro Q K hK
    exact read_leads hρ hrel hx Q K fun v' w' ⟨h1, h2⟩ => hK _ _ ⟨r, h1, by rw [h2]; exact Post.refl hrel⟩
  | alloc =>
    unfold evOper at hv
    rw [hc] at hv
    obtain ⟨⟨ob, mk⟩, hx, hv⟩ := Option.map_eq_some_iff.1 hv
    cases hv
    obtain ⟨hro, hl⟩ := alloc_leads hρ hx w
    intro Q K hK
    refine hl Q K fun v' w' ⟨row, h1, he, h2, h3, h4⟩ => hK _ _ ⟨r.put h.next ⟨w.heap.size, 0, row⟩, ?_, ?_⟩
    · exact h4 _ _ (Ren.le_refl _) (by simp [Ren.put])
    · exact Post.of_new (base := 0) (row := row) hrel (hfree _ (Nat.le_refl _) (by simp [H.new])) h1 he h2 h3

theorem step_wp {P : Program} {call : CallFn} (hcall : call.Sound P) {r : Ren} {ops : Array Oper} {ρ : Operand → AV} {o : Oper} {a : Act} (hρ : ∀ x, VR r (ρ x) (a.eval x)) {v : AV} {h h' : H} {w : World} (hrel : Rel r h w)
    (hfree : ∀ i, h.next ≤ i → i < h'.next → r i = none) (hv : evStep P call ops o ρ h = some (v, h')) (Q : Exit → Act → World → Prop) (K : Act → World → Prop)
    (hK : ∀ v' w', (∃ r', VR r' v v' ∧ Post r h w r' h' w') → K (a.put o.dst v') w') :
    if Region.wanted o (yielded ops a.tmps) then o.wp P a w K Q ∨ (o.asks P a w ∧ LetsOut Q) else K (a.put o.dst undef) w := by
  unfold evStep at hv
  obtain ⟨b, hb, hv⟩ := Option.bind_eq_some_iff.1 hv
  have hw := wanted_sim hb (fun t _ => hρ _)
  rw [hw]
  cases b
  · simp at hv
    obtain ⟨rfl, rfl⟩ := hv
    exact hK undef w ⟨r, VR_tup (vs := []) .nil, Post.refl hrel⟩
  · simp at hv
    exact .inl (oper_leads hcall hρ hrel hfree hv Q K hK)

theorem evOps_wp {P : Program} {call : CallFn} (hcall : call.Sound P) {ops : Array Oper} {Q : Exit → Act → World → Prop} : ∀ {l : List Oper} {fr fr' : List AV} {h h' : H} {r : Ren} {a : Act} {w : World},
    evOps P call ops l fr h = some (fr', h') → FR r fr a → Rel r h w → (∀ i, h.next ≤ i → i < h'.next → r i = none) →
    (∀ r' a' w', FR r' fr' a' → a'.defers = a.defers → Post r h w r' h' w' → Q .normal a' w') → wpList P ops Q l a w
  | [], fr, fr', h, h', r, a, w, hs, hfr, hrel, hfree, hQ => by
    simp only [evOps] at hs
    cases hs
    exact hQ r a w hfr rfl (Post.refl hrel)
  | o :: rest, fr, fr', h, h', r, a, w, hs, hfr, hrel, hfree, hQ => by
    simp only [evOps] at hs
    obtain ⟨⟨v, h1⟩, h2, hs⟩ := Option.bind_eq_some_iff.1 hs
    have g1 := evStep_grows hcall h2
    have g2 := evOps_grows hcall hs
    have hf1 : ∀ i, h.next ≤ i → i < h1.next → r i = none := fun i a b => hfree i a (Nat.lt_of_lt_of_le b g2.1)
    have := step_wp (ops := ops) (o := o) (a := a) hcall (opd_VR hfr hrel.glob) hrel hf1 h2 Q (wpList P ops Q rest) (fun v' w' ⟨r', hv', hp⟩ => by
      refine evOps_wp hcall hs ((hfr.mono hp.le).putD o.dst hv') hp.rel (fun i hi1 hi2 => ?_) fun r'' a'' w'' hfr'' hd'' hp'' => hQ r'' a'' w'' hfr'' (by rw [hd'']; cases o.dst <;> rfl) (hp.trans hp'')
      cases hr : r' i with
      | none => rfl
      | some t =>
        have hn := hfree i (Nat.le_trans hp.next hi1) hi2
        have := hp.dom i t hr hn
        simp only at hi1
        omega)
    unfold wpList
    exact this

end Go.Ev
