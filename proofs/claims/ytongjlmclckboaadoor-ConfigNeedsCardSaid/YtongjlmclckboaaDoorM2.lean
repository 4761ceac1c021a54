/- Own texts, joined: EvI EvJ EvK EvL EvM EvN EvP EvQ EvR EvS EvT. -/
import Derived.Test.YtongjlmclckboaaDoorM1
import Derived.LoopN
import Derived.Scope
import Derived.ProofKit
import Derived.OpenShut
import Derived.ShutString
import Derived.ChangeOld
import Derived.Below
import Derived.Carry
import Derived.SizedLaws
set_option linter.all false
/- The abstract machine Ev, part I: a row of operations in the text's order. -/
namespace Go.Ev
def putD (fr : List AV) (d : Option Tmp) (v : AV) : List AV := match d with | some d => fr.set d v | none => fr
theorem FR.putD {r : Ren} {fr : List AV} {a : Act} (h : FR r fr a) (d : Option Tmp) {x : AV} {v : Value} (hv : VR r x v) : FR r (putD fr d x) (a.put d v) := FR.put h d hv
theorem FR.mono {r r' : Ren} (hr : r.le r') {fr : List AV} {a : Act} (h : FR r fr a) : FR r' fr a := VRL.mono hr h
def evWanted (ops : Array Oper) (ρ : Operand → AV) (o : Oper) : Option Bool :=
 match o.guard with
 | none => some true
 | some (j, want) =>
  match (ops[j]?).bind (·.dst) with
  | none => some false
  | some t => match ρ (.tmp t) with | .bool b => some (b == want) | .tup [] => some false | _ => none
theorem wanted_sim {r : Ren} {ops : Array Oper} {ρ : Operand → AV} {a : Act} {o : Oper} {b : Bool} (h : evWanted ops ρ o = some b)
  (hρ : ∀ t, (∃ j w, o.guard = some (j, w) ∧ (ops[j]?).bind (·.dst) = some t) → VR r (ρ (.tmp t)) (a.eval (.tmp t))) : Region.wanted o (yielded ops a.tmps) = b := by
 unfold evWanted at h
 unfold Region.wanted
 split at h
 ·rename_i hg; rw [hg]; cases h; rfl
 ·rename_i j want hg
  rw [hg]
  simp only
  split at h
  ·rename_i hd
   cases h
   simp [yielded, hd]
  ·rename_i t hd
   have hv := hρ t ⟨j, want, hg, hd⟩
   have hy : ∀ v, a.eval (.tmp t) = v → v ≠ undef → a.tmps[t]? = some v := by
    intro v hv hne
    simp only [Act.eval] at hv
    cases hq : a.tmps[t]? with
    | none => rw [Array.getD_eq_getD_getElem?, hq] at hv; exact absurd hv.symm hne
    | some u => rw [Array.getD_eq_getD_getElem?, hq] at hv; simp at hv; rw [hv]
   split at h
   ·rename_i c hc
    cases h
    rw [hc] at hv
    generalize hq : a.eval (.tmp t) = q at hv
    cases hv
    have := hy _ hq (by intro e; cases e)
    simp only [yielded, hd, Option.bind_some, this]
    cases c <;> cases want <;> rfl
   ·rename_i hc
    cases h
    rw [hc] at hv
    generalize hq : a.eval (.tmp t) = q at hv
    cases hv with
    | tup _ vs h1 h2 =>
    have hvs : vs = #[] := Array.eq_empty_of_size_eq_zero (by simpa using h1.symm)
    subst hvs
    have : ∀ b, a.tmps[t]? ≠ some (.bool b) := by
     intro b hb
     simp only [Act.eval] at hq
     rw [Array.getD_eq_getD_getElem?, hb] at hq
     simp at hq
    have hn : yielded ops a.tmps j = none := by
     unfold yielded
     rw [hd]
     cases hq2 : a.tmps[t]? with
     | none => simp [hq2]
     | some u => cases u <;> first | (simp [hq2]; done) | exact absurd hq2 (this _)
    rw [hn]; rfl
   ·cases h
def evStep (P : Program) (call : CallFn) (ops : Array Oper) (o : Oper) (ρ : Operand → AV) (h : H) : Option (AV × H) :=
 (evWanted ops ρ o).bind fun b => if b then evOper P call ρ o.op h else some (.tup [], h)
def evOps (P : Program) (call : CallFn) (ops : Array Oper) : List Oper → List AV → H → Option (List AV × H)
 | [], fr, h => some (fr, h)
 | o :: rest, fr, h => (evStep P call ops o (opd fr) h).bind fun q => evOps P call ops rest (putD fr o.dst q.1) q.2
def H.WF (h : H) : Prop := ∀ i o, h.get i = some o → i < h.next
theorem WF_set {h : H} {i : Nat} {o o' : AObj} (hw : h.WF) (hg : h.get i = some o) : (h.set i o').WF := by
 intro j oj hj
 simp only [H.set] at hj ⊢
 split at hj
 ·rename_i e; subst e; exact hw _ _ hg
 ·exact hw _ _ hj
theorem WF_new {h : H} {o : AObj} (hw : h.WF) : (h.new o).WF := by
 intro j oj hj
 simp only [H.new] at hj ⊢
 split at hj
 ·omega
 ·have := hw _ _ hj; omega
theorem WF_newO {h : H} {o : Option AObj} (hw : h.WF) : (h.newO o).WF := by
 cases o with
 | some o => exact WF_new hw
 | none => exact fun i x hi => Nat.lt_succ_of_lt (hw i x hi)
theorem WF_kill {h : H} {i : Nat} (hw : h.WF) : (h.kill i).WF := by
 intro j oj hj
 simp only [H.kill] at hj ⊢
 split at hj
 ·cases hj
 ·exact hw _ _ hj
theorem evPutM_grows {P : Program} {t : TypeId} {m k v : AV} {h h' : H} (hs : evPutM P t m k v h = some h') : h.next ≤ h'.next ∧ (h.WF → h'.WF) := by
 unfold evPutM at hs
 split at hs
 ·split at hs
  ·split at hs
   ·unfold evMapPut at hs
    split at hs
    ·cases hs
    ·split at hs
     ·rename_i hg
      obtain ⟨es, _, rfl⟩ := Option.map_eq_some_iff.1 hs
      exact ⟨Nat.le_refl _, fun hw => WF_set hw hg⟩
     ·cases hs
   ·cases hs
  ·cases hs
 ·cases hs
theorem evDelM_grows {P : Program} {ts : List TypeId} {xs : List AV} {v : AV} {h h' : H} (hs : evDelM P ts xs h = some (v, h')) : h.next ≤ h'.next ∧ (h.WF → h'.WF) := by
 unfold evDelM at hs
 split at hs
 ·split at hs
  ·split at hs
   ·split at hs
    ·obtain ⟨h2, hd, hs⟩ := Option.map_eq_some_iff.1 hs
     cases hs
     unfold evMapDel at hd
     split at hd
     ·cases hd; exact ⟨Nat.le_refl _, id⟩
     ·split at hd
      ·rename_i hg
       obtain ⟨es, _, rfl⟩ := Option.map_eq_some_iff.1 hd
       exact ⟨Nat.le_refl _, fun hw => WF_set hw hg⟩
      ·cases hd
    ·cases hs
   ·cases hs
  ·cases hs
 ·cases hs
theorem evClearM_grows {P : Program} {ts : List TypeId} {xs : List AV} {v : AV} {h h' : H} (hs : evClearM P ts xs h = some (v, h')) : h.next ≤ h'.next ∧ (h.WF → h'.WF) := by
 unfold evClearM at hs
 split at hs
 ·split at hs
  ·obtain ⟨h2, hd, hs⟩ := Option.map_eq_some_iff.1 hs
   cases hs
   unfold evMapClear at hd
   split at hd
   ·cases hd; exact ⟨Nat.le_refl _, id⟩
   ·split at hd
    ·rename_i hg
     cases hd
     exact ⟨Nat.le_refl _, fun hw => WF_set hw hg⟩
    ·cases hd
  ·cases hs
 ·cases hs
theorem evFull_grows {P : Program} {ρ : Operand → AV} {op : Op} {h h' : H} {v : AV} (hs : evFull P ρ op h = some (v, h')) : h.next ≤ h'.next ∧ (h.WF → h'.WF) := by
 unfold evFull at hs
 split at hs
 ·obtain ⟨h'', hst, hs⟩ := Option.map_eq_some_iff.1 hs
  cases hs
  unfold evStore at hst
  split at hst
  ·split at hst
   ·rename_i hg
    split at hst
    ·cases hst; exact ⟨Nat.le_refl _, fun hw => WF_set hw hg⟩
    ·cases hst
   ·cases hst
  ·cases hst
 ·unfold evNext at hs
  split at hs
  ·split at hs
   ·rename_i hg
    split at hs
    ·cases hs; exact ⟨Nat.le_refl _, fun hw => WF_set hw hg⟩
    ·cases hs; exact ⟨Nat.le_refl _, id⟩
   ·cases hs
  ·cases hs
 ·obtain ⟨h'', hst, hs⟩ := Option.map_eq_some_iff.1 hs
  cases hs; exact evPutM_grows hst
 ·obtain ⟨h'', hst, hs⟩ := Option.map_eq_some_iff.1 hs
  cases hs; exact evPutM_grows hst
 ·split at hs
  ·unfold evAppend at hs
   split at hs
   ·split at hs
    ·split at hs
     ·cases hs
     ·obtain ⟨inf, _, hs⟩ := Option.bind_eq_some_iff.1 hs
      obtain ⟨zs, _, hs⟩ := Option.bind_eq_some_iff.1 hs
      obtain ⟨q, _, hs⟩ := Option.bind_eq_some_iff.1 hs
      split at hs
      ·unfold evApp at hs
       repeat' split at hs
       all_goals first
        | (cases hs; done)
        | (cases hs; exact ⟨Nat.le_refl _, id⟩)
        | (cases hs; exact ⟨by simp [H.new, H.kill], fun hw => WF_new hw⟩)
        | (cases hs; exact ⟨by simp [H.new, H.kill], fun hw => WF_new (WF_kill hw)⟩)
        | (rename_i hg _; cases hs; exact ⟨Nat.le_refl _, fun hw => WF_set hw hg⟩)
      ·cases hs
    ·cases hs
   ·cases hs
  ·unfold evCopy at hs
   split at hs
   ·split at hs
    ·obtain ⟨inf, _, hs⟩ := Option.bind_eq_some_iff.1 hs
     obtain ⟨q, _, hs⟩ := Option.bind_eq_some_iff.1 hs
     repeat' split at hs
     all_goals first
      | (cases hs; done)
      | (cases hs; exact ⟨Nat.le_refl _, id⟩)
      | (rename_i hg _; cases hs; exact ⟨Nat.le_refl _, fun hw => WF_set hw hg⟩)
    ·cases hs
   ·cases hs
  ·exact evDelM_grows hs
  ·exact evClearM_grows hs
  ·cases hs
 ·cases hs
theorem evOper_grows {P : Program} {call : CallFn} (hcall : call.Sound P) {ρ : Operand → AV} {op : Op} {h h' : H} {v : AV} (hs : evOper P call ρ op h = some (v, h')) : h.next ≤ h'.next ∧ (h.WF → h'.WF) := by
 unfold evOper at hs
 split at hs
 ·obtain ⟨x, _, hs⟩ := Option.map_eq_some_iff.1 hs; cases hs; exact ⟨Nat.le_refl _, id⟩
 ·obtain ⟨x, _, hs⟩ := Option.map_eq_some_iff.1 hs; cases hs; exact ⟨by rw [next_newO]; omega, fun hw => WF_newO hw⟩
 ·obtain ⟨x, _, hs⟩ := Option.map_eq_some_iff.1 hs; cases hs; exact ⟨Nat.le_refl _, id⟩
 ·split at hs
  ·split at hs
   ·split at hs
    ·have := hcall _ _ _ _ _ hs; exact ⟨this.next, this.wf⟩
    ·cases hs
   ·exact evFull_grows hs
  ·exact evFull_grows hs
theorem evStep_grows {P : Program} {call : CallFn} (hcall : call.Sound P) {ops : Array Oper} {o : Oper} {ρ : Operand → AV} {h h' : H} {v : AV} (hs : evStep P call ops o ρ h = some (v, h')) : h.next ≤ h'.next ∧ (h.WF → h'.WF) := by
 unfold evStep at hs
 obtain ⟨b, _, hs⟩ := Option.bind_eq_some_iff.1 hs
 split at hs
 ·exact evOper_grows hcall hs
 ·cases hs; exact ⟨Nat.le_refl _, id⟩
theorem evOps_grows {P : Program} {call : CallFn} (hcall : call.Sound P) {ops : Array Oper} : ∀ {l : List Oper} {fr fr' : List AV} {h h' : H}, evOps P call ops l fr h = some (fr', h') → h.next ≤ h'.next ∧ (h.WF → h'.WF)
 | [], fr, fr', h, h', hs => by simp only [evOps] at hs; cases hs; exact ⟨Nat.le_refl _, id⟩
 | o :: rest, fr, fr', h, h', hs => by
  simp only [evOps] at hs
  obtain ⟨⟨v, h1⟩, h2, hs⟩ := Option.bind_eq_some_iff.1 hs
  have g1 := evStep_grows hcall h2
  have g2 := evOps_grows hcall hs
  exact ⟨Nat.le_trans g1.1 g2.1, fun hw => g2.2 (g1.2 hw)⟩
theorem oper_leads {P : Program} {call : CallFn} (hcall : call.Sound P) {r : Ren} {ρ : Operand → AV} {o : Oper} {a : Act} (hρ : ∀ x, VR r (ρ x) (a.eval x)) {v : AV} {h h' : H} {w : World} (hrel : Rel r h w)
  (hfree : ∀ i, h.next ≤ i → i < h'.next → r i = none) (hv : evOper P call ρ o.op h = some (v, h')) :
  Leads P o a w fun v' w' => ∃ r', VR r' v v' ∧ Post r h w r' h' w' := by
 cases hc : cls P o.op with
 | full => exact full_leads hcall hρ hrel hfree hc hv
 | pure =>
  unfold evOper at hv
  rw [hc] at hv
  obtain ⟨x, hx, hv⟩ := Option.map_eq_some_iff.1 hv
  cases hv
  intro Q K hK
  exact pure_leads hρ hx w Q K fun v' w' ⟨h1, h2⟩ => hK _ _ ⟨r, h1, by rw [h2]; exact Post.refl hrel⟩
 | read =>
  unfold evOper at hv
  rw [hc] at hv
  obtain ⟨x, hx, hv⟩ := Option.map_eq_some_iff.1 hv
  cases hv
  intro Q K hK
  exact read_leads hρ hrel hx Q K fun v' w' ⟨h1, h2⟩ => hK _ _ ⟨r, h1, by rw [h2]; exact Post.refl hrel⟩
 | alloc =>
  unfold evOper at hv
  rw [hc] at hv
  obtain ⟨⟨ob, mk⟩, hx, hv⟩ := Option.map_eq_some_iff.1 hv
  cases hv
  have hl := alloc_leads hρ hx w
  intro Q K hK
  refine hl Q K fun v' w' ⟨row, h1, he, h2, h3, h4⟩ => hK _ _ ⟨r.put h.next ⟨w.heap.size, 0, row⟩, ?_, ?_⟩
  ·exact h4 _ _ (Ren.le_refl _) (by simp [Ren.put])
  ·exact Post.of_newO (base := 0) (row := row) hrel (hfree _ (Nat.le_refl _) (by simp [next_newO])) h1 he h2 h3
theorem step_wp {P : Program} {call : CallFn} (hcall : call.Sound P) {r : Ren} {ops : Array Oper} {ρ : Operand → AV} {o : Oper} {a : Act} (hρ : ∀ x, VR r (ρ x) (a.eval x)) {v : AV} {h h' : H} {w : World} (hrel : Rel r h w)
  (hfree : ∀ i, h.next ≤ i → i < h'.next → r i = none) (hv : evStep P call ops o ρ h = some (v, h')) (Q : Exit → Act → World → Prop) (K : Act → World → Prop)
  (hK : ∀ v' w', (∃ r', VR r' v v' ∧ Post r h w r' h' w') → K (a.put o.dst v') w') :
  if Region.wanted o (yielded ops a.tmps) then o.wp P a w K Q ∨ (o.asks P a w ∧ LetsOut Q) else K (a.put o.dst undef) w := by
 unfold evStep at hv
 obtain ⟨b, hb, hv⟩ := Option.bind_eq_some_iff.1 hv
 have hw := wanted_sim hb (fun t _ => hρ _)
 rw [hw]
 cases b
 ·simp at hv
  obtain ⟨rfl, rfl⟩ := hv
  exact hK undef w ⟨r, VR_tup (vs := []) .nil, Post.refl hrel⟩
 ·simp at hv
  exact .inl (oper_leads hcall hρ hrel hfree hv Q K hK)
theorem evOps_wp {P : Program} {call : CallFn} (hcall : call.Sound P) {ops : Array Oper} {Q : Exit → Act → World → Prop} : ∀ {l : List Oper} {fr fr' : List AV} {h h' : H} {r : Ren} {a : Act} {w : World},
  evOps P call ops l fr h = some (fr', h') → FR r fr a → Rel r h w → (∀ i, h.next ≤ i → i < h'.next → r i = none) →
  (∀ r' a' w', FR r' fr' a' → a'.defers = a.defers → Post r h w r' h' w' → Q .normal a' w') → wpList P ops Q l a w
 | [], fr, fr', h, h', r, a, w, hs, hfr, hrel, hfree, hQ => by
  simp only [evOps] at hs
  cases hs
  exact hQ r a w hfr rfl (Post.refl hrel)
 | o :: rest, fr, fr', h, h', r, a, w, hs, hfr, hrel, hfree, hQ => by
  simp only [evOps] at hs
  obtain ⟨⟨v, h1⟩, h2, hs⟩ := Option.bind_eq_some_iff.1 hs
  have g1 := evStep_grows hcall h2
  have g2 := evOps_grows hcall hs
  have hf1 : ∀ i, h.next ≤ i → i < h1.next → r i = none := fun i a b => hfree i a (Nat.lt_of_lt_of_le b g2.1)
  have := step_wp (ops := ops) (o := o) (a := a) hcall (opd_VR hfr hrel.glob) hrel hf1 h2 Q (wpList P ops Q rest) (fun v' w' ⟨r', hv', hp⟩ => by
   refine evOps_wp hcall hs ((hfr.mono hp.le).putD o.dst hv') hp.rel (fun i hi1 hi2 => ?_) fun r'' a'' w'' hfr'' hd'' hp'' => hQ r'' a'' w'' hfr'' (by rw [hd'']; cases o.dst <;> rfl) (hp.trans hp'')
   cases hr : r' i with
   | none => rfl
   | some t =>
    have hn := hfree i (Nat.le_trans hp.next hi1) hi2
    have := hp.dom i t hr hn
    simp only at hi1
    omega)
  unfold wpList
  exact this
end Go.Ev

/- The abstract machine Ev, part J: a region that draws its order: whatever order is drawn, it comes to what the text's order comes to. -/
namespace Go.Ev
open Classical in
noncomputable def pr {α : Type} (init : α) (val : Nat → α) (W : Nat → Prop) : Nat → α
 | 0 => init
 | m + 1 => if W m then val m else pr init val W m
theorem pr_congr {α : Type} {init : α} {val : Nat → α} {W W' : Nat → Prop} : ∀ {n : Nat}, (∀ m, m < n → (W m ↔ W' m)) → pr init val W n = pr init val W' n
 | 0, _ => rfl
 | n + 1, h => by
  have ih := pr_congr (init := init) (val := val) (n := n) fun m hm => h m (by omega)
  have hn := h n (by omega)
  simp only [pr, ih]
  by_cases hw : W n
  ·rw [if_pos hw, if_pos (hn.1 hw)]
  ·rw [if_neg hw, if_neg fun e => hw (hn.2 e)]
theorem pr_none {α : Type} {init : α} {val : Nat → α} {W : Nat → Prop} {j : Nat} : ∀ {n : Nat}, j ≤ n → (∀ m, m < n → W m → m < j) → pr init val W n = pr init val W j
 | 0, hj, _ => by
  have e : j = 0 := by omega
  subst e; rfl
 | n + 1, hj, h => by
  rcases Nat.lt_or_ge n j with hlt | hge
  ·have e : j = n + 1 := by omega
   subst e; rfl
  ·have hw : ¬ W n := fun e => by have := h n (by omega) e; omega
   simp only [pr]
   rw [if_neg hw, pr_none hge fun m hm => h m (by omega)]
def okM (ops : Array Oper) (M : Nat → Nat) : Bool :=
 (List.range ops.size).all fun j => match ops[j]? with
  | none => false
  | some o => o.after.all (fun e => !Region.binds .any e || decide (e.on < j)) &&
    (List.range j).all fun i => !(M j).testBit i || o.after.any fun e => Region.binds .any e && (e.on == i || (decide (i < e.on) && (M e.on).testBit i))
def okCls (x y : Class) : Bool :=
 match x, y with
 | .full, .full => false
 | _, _ => true
/-- an operation of the greatest kind, of which some that read are independent: it may change nothing that was there -/
def needQuiet (P : Program) (ops : Array Oper) (M : Nat → Nat) (k : Nat) : Bool :=
 match ops[k]? with
 | none => false
 | some o => cls P o.op == .full && (List.range ops.size).any fun j => match ops[j]? with
  | none => false
  | some oj => cls P oj.op == .read && !((M k).testBit j || (M j).testBit k)
/-- neither waits for the other -/
def indepB (M : Nat → Nat) (k j : Nat) : Bool := !((M k).testBit j || (M j).testBit k)
/-- the operand by which an operation that reads finds what it reads -/
def mainV (ρ : Operand → AV) : Op → AV
 | .load _ a => ρ a
 | .convert _ _ x => ρ x
 | .lookup _ m _ _ => ρ m
 | .call c => (match c.args.toList with | x :: _ => ρ x | [] => .junk)
 | _ => .junk
def refOf : AV → Option Nat
 | .ptr (some (b, _)) => some b
 | .slice (some (b, _)) _ _ => some b
 | .map (some b) => some b
 | _ => none
/-- an operation that reads, independent of one of the greatest kind ahead of it in the text -/
def shyB (P : Program) (ops : Array Oper) (M : Nat → Nat) (j : Nat) : Bool :=
 match ops[j]? with
 | none => false
 | some o => cls P o.op == .read && (List.range j).any fun k => match ops[k]? with
  | none => false
  | some ok => cls P ok.op == .full && !((M k).testBit j || (M j).testBit k)
def okPairs (P : Program) (ops : Array Oper) (M : Nat → Nat) : Bool :=
 (List.range ops.size).all fun j => (List.range j).all fun i =>
  (M j).testBit i || match ops[i]?, ops[j]? with
   | some oi, some oj => oi.apart ops oj && oj.apart ops oi && okCls (cls P oi.op) (cls P oj.op)
   | _, _ => false
def masks (ops : Array Oper) (k : Nat) : Nat := (Region.before ops).getD k 0
/-- the masks say nothing of a number that is not below -/
def okHigh (ops : Array Oper) (M : Nat → Nat) : Bool := (List.range ops.size).all fun j => decide (M j < 2 ^ j)
def okRegion (P : Program) (ops : Array Oper) : Bool := okM ops (masks ops) && okHigh ops (masks ops) && okPairs P ops (masks ops)
/-- a heap without some objects -/
noncomputable def H.minus (h : H) (S : Nat → Prop) : H := ⟨h.next, fun i => open Classical in if S i then none else h.get i⟩
def noT : Nat → Prop := fun _ => False
/-- what an operation touched, too -/
def addT (S : Nat → Prop) (h h' : H) : Nat → Prop := fun i => S i ∨ (i < h.next ∧ h'.get i ≠ h.get i)
/-- a part of a heap -/
structure Sub (h1 h : H) : Prop where
 next : h1.next = h.next
 get : ∀ i o, h1.get i = some o → h.get i = some o
theorem minus_sub (h : H) (S : Nat → Prop) : Sub (h.minus S) h := ⟨rfl, fun i o e => by
 simp only [H.minus] at e
 split at e
 ·cases e
 ·exact e⟩
theorem minus_get {h : H} {S : Nat → Prop} {i : Nat} (hi : ¬ S i) : (h.minus S).get i = h.get i := by simp only [H.minus]; rw [if_neg hi]
theorem minus_noT (h : H) : h.minus noT = h := by
 cases h
 unfold H.minus
 congr 1
 funext i
 rw [if_neg (show ¬ noT i from fun h => h)]
theorem addT_same {S : Nat → Prop} {h h' : H} (hq : ∀ i, i < h.next → h'.get i = h.get i) : addT S h h' = S := by
 funext i
 exact propext ⟨fun h => h.elim id fun ⟨h1, h2⟩ => absurd (hq i h1) h2, .inl⟩
theorem evLook_sub {z : AV} {m : Option Nat} {k : AV} {h1 h : H} (s : Sub h1 h) {q : AV × Bool} (hq : evLook z m k h1 = some q) : evLook z m k h = some q := by
 unfold evLook at hq ⊢
 split at hq
 ·exact hq
 ·split at hq
  ·rename_i hg; rw [s.get _ _ hg]; exact hq
  ·rename_i hg; rw [s.get _ _ hg]; exact hq
  ·cases hq
theorem evMapLen_sub {m : Option Nat} {h1 h : H} (s : Sub h1 h) {n : Nat} (hn : evMapLen m h1 = some n) : evMapLen m h = some n := by
 unfold evMapLen at hn ⊢
 split at hn
 ·exact hn
 ·split at hn
  ·rename_i hg; rw [s.get _ _ hg]; exact hn
  ·cases hn
theorem evRead_sub {P : Program} {ρ : Operand → AV} {op : Op} {h1 h : H} (s : Sub h1 h) {v : AV} (hv : evRead P ρ op h1 = some v) : evRead P ρ op h = some v := by
 unfold evRead at hv ⊢
 split at hv
 ·rename_i t a
  unfold evLoad at hv ⊢
  split at hv
  ·split at hv
   ·rename_i hg
    rw [s.get _ _ hg]
    exact hv
   ·cases hv
  ·cases hv
 ·unfold evConvR at hv ⊢
  split at hv
  ·split at hv
   ·rename_i hu
    unfold evBytesStr at hv ⊢
    split at hv
    ·exact hv
    ·split at hv
     ·rename_i h0; rw [if_pos h0]; exact hv
     ·rename_i h0
      rw [if_neg h0]
      split at hv
      ·rename_i hg
       rw [s.get _ _ hg]
       exact hv
      ·cases hv
    ·cases hv
   ·cases hv
  ·cases hv
 ·unfold evLookup at hv ⊢
  split at hv
  ·split at hv
   ·split at hv
    ·rename_i hkk
     obtain ⟨z, hz, hv⟩ := Option.bind_eq_some_iff.1 hv
     obtain ⟨q, hq, rfl⟩ := Option.map_eq_some_iff.1 hv
     rw [if_pos hkk, hz, Option.bind_some, evLook_sub s hq]; rfl
    ·cases hv
   ·cases hv
  ·cases hv
 ·split at hv
  ·unfold evLenM at hv ⊢
   split at hv
   ·split at hv
    ·obtain ⟨n, hn, rfl⟩ := Option.map_eq_some_iff.1 hv
     rw [evMapLen_sub s hn]; rfl
    ·cases hv
   ·cases hv
  ·cases hv
 ·cases hv
/-- an operation that reads a part of a heap, reads the heap -/
theorem evStep_sub {P : Program} {call : CallFn} {ops : Array Oper} {o : Oper} {ρ : Operand → AV} {h1 h h2 : H} (s : Sub h1 h) (hc : cls P o.op = .read) {v : AV} (hv : evStep P call ops o ρ h1 = some (v, h2)) : h2 = h1 ∧ evStep P call ops o ρ h = some (v, h) := by
 unfold evStep at hv ⊢
 obtain ⟨b, hb, hv⟩ := Option.bind_eq_some_iff.1 hv
 rw [hb]
 cases b with
 | false =>
  simp only [Bool.false_eq_true, if_false, Option.some.injEq, Prod.mk.injEq] at hv
  obtain ⟨rfl, rfl⟩ := hv
  exact ⟨rfl, rfl⟩
 | true =>
  simp only [if_true] at hv
  unfold evOper at hv
  rw [hc] at hv
  obtain ⟨x, hx, hv⟩ := Option.map_eq_some_iff.1 hv
  cases hv
  refine ⟨rfl, ?_⟩
  simp only [Option.bind_some, if_true]
  unfold evOper
  rw [hc]
  simp only
  rw [evRead_sub s hx]; rfl
theorem minus_minus (h : H) (S T : Nat → Prop) : (h.minus S).minus T = h.minus fun i => S i ∨ T i := by
 unfold H.minus
 congr 1
 funext i
 by_cases h1 : T i
 ·rw [if_pos h1, if_pos (.inr h1)]
 ·rw [if_neg h1]
  by_cases h2 : S i
  ·simp only; rw [if_pos h2, if_pos (.inl h2)]
  ·simp only; rw [if_neg h2, if_neg (fun h => h.elim h2 h1)]
theorem evRead_local {P : Program} {ρ : Operand → AV} {op : Op} {h : H} {S : Nat → Prop} {v : AV} (hv : evRead P ρ op h = some v) (hb : ∀ b, refOf (mainV ρ op) = some b → ¬ S b) : evRead P ρ op (h.minus S) = some v := by
 unfold evRead at hv ⊢
 split at hv
 ·rename_i t a
  unfold evLoad at hv ⊢
  split at hv
  ·rename_i i o h1 h2
   rw [minus_get (hb i (by simp [mainV, refOf, h2]))]
   exact hv
  ·cases hv
 ·rename_i s d x
  unfold evConvR at hv ⊢
  split at hv
  ·split at hv
   ·unfold evBytesStr at hv ⊢
    split at hv
    ·exact hv
    ·rename_i i o len c h2
     split at hv
     ·rename_i h0; rw [if_pos h0]; exact hv
     ·rename_i h0
      rw [if_neg h0, minus_get (hb i (by simp [mainV, refOf, h2]))]
      exact hv
    ·cases hv
   ·cases hv
  ·cases hv
 ·rename_i t m k ok
  unfold evLookup at hv ⊢
  split at hv
  ·rename_i kt e m' h1 h2
   have hl : ∀ z, evLook z m' (ρ k) (h.minus S) = evLook z m' (ρ k) h := fun z => by
    cases m' with
    | none => rfl
    | some b => unfold evLook; simp only; rw [minus_get (hb b (by simp [mainV, refOf, h2]))]
   simp only [hl]
   exact hv
  ·cases hv
 ·rename_i c
  split at hv
  ·unfold evLenM at hv ⊢
   split at hv
   ·rename_i t0 m' h1 h2
    have hl : evMapLen m' (h.minus S) = evMapLen m' h := by
     cases m' with
     | none => rfl
     | some b =>
      unfold evMapLen
      simp only
      rw [minus_get (hb b ?_)]
      cases hc : c.args.toList with
      | nil => rw [hc] at h2; cases h2
      | cons x l => rw [hc] at h2; simp only [List.map_cons, List.cons.injEq] at h2; simp [mainV, refOf, hc, h2.1]
    rw [hl]
    exact hv
   ·cases hv
  ·cases hv
 ·cases hv
/-- an operation that reads is not in need of what it doesn't look at -/
theorem evStep_local {P : Program} {call : CallFn} {ops : Array Oper} {o : Oper} {ρ : Operand → AV} {h h2 : H} (hc : cls P o.op = .read) {v : AV} (hv : evStep P call ops o ρ h = some (v, h2)) {S : Nat → Prop} (hb : ∀ b, refOf (mainV ρ o.op) = some b → ¬ S b) :
  evStep P call ops o ρ (h.minus S) = some (v, h.minus S) := by
 unfold evStep at hv ⊢
 obtain ⟨b, hbb, hv⟩ := Option.bind_eq_some_iff.1 hv
 rw [hbb]
 cases b with
 | false =>
  simp only [Bool.false_eq_true, if_false, Option.some.injEq, Prod.mk.injEq] at hv
  obtain ⟨rfl, rfl⟩ := hv
  rfl
 | true =>
  simp only [if_true] at hv
  unfold evOper at hv
  rw [hc] at hv
  obtain ⟨x, hx, hv⟩ := Option.map_eq_some_iff.1 hv
  cases hv
  simp only [Option.bind_some, if_true]
  unfold evOper
  rw [hc]
  simp only
  rw [evRead_local hx hb]; rfl
theorem shy_read {P : Program} {ops : Array Oper} {M : Nat → Nat} {j : Nat} {o : Oper} (ho : ops[j]? = some o) (h : shyB P ops M j = true) : cls P o.op = .read := by
 unfold shyB at h
 rw [ho] at h
 simp only [Bool.and_eq_true, beq_iff_eq] at h
 exact h.1
/-- reads ahead of it that are independent read what is as it was -/
def keptQ (M : Nat → Nat) (k : Nat) (h h' : H) (Js : List (Nat × AV)) : Prop := ∀ e ∈ Js, indepB M k e.1 = true → ∀ b, refOf e.2 = some b → h'.get b = h.get b
/-- the reads so far, by what they looked at -/
def pushJ (P : Program) (k : Nat) (o : Oper) (v : AV) (Js : List (Nat × AV)) : List (Nat × AV) := if cls P o.op = .read then (k, v) :: Js else Js
open Classical in
/-- the operations in the text's order; S: what those touched of which reads behind them are independent; Js: the reads so far -/
noncomputable def evOpsQ (P : Program) (call : CallFn) (ops : Array Oper) : List Oper → Nat → List AV → H → (Nat → Prop) → List (Nat × AV) → Option (List AV × H)
 | [], _, fr, h, _, _ => some (fr, h)
 | o :: rest, k, fr, h, S, Js =>
  if shyB P ops (masks ops) k = true then (evStep P call ops o (opd fr) (h.minus S)).bind fun q => evOpsQ P call ops rest (k + 1) (putD fr o.dst q.1) h S (pushJ P k o (mainV (opd fr) o.op) Js)
  else (evStep P call ops o (opd fr) h).bind fun q =>
   if needQuiet P ops (masks ops) k = true then
    (if keptQ (masks ops) k h q.2 Js then evOpsQ P call ops rest (k + 1) (putD fr o.dst q.1) q.2 (addT S h q.2) (pushJ P k o (mainV (opd fr) o.op) Js) else none)
   else evOpsQ P call ops rest (k + 1) (putD fr o.dst q.1) q.2 S (pushJ P k o (mainV (opd fr) o.op) Js)
/-- E: those of whose step nothing is told but that it grows the heap -/
structure Run (E : Nat → Prop) (P : Program) (call : CallFn) (ops : Array Oper) (n : Nat) (F : Nat → List AV) (Hs : Nat → H) (V : Nat → AV) : Prop where
 step : ∀ k, k < n → ∃ o, ops[k]? = some o ∧ (evStep P call ops o (opd (F k)) (Hs k) = some (V k, Hs (k + 1)) ∨ (E k ∧ ((Hs k).next ≤ (Hs (k + 1)).next ∧ ((Hs k).WF → (Hs (k + 1)).WF)) ∧ ((∃ i, i < (Hs k).next ∧ (Hs (k + 1)).get i ≠ (Hs k).get i) → cls P o.op = .full))) ∧ F (k + 1) = putD (F k) o.dst (V k)
 kept : ∀ k, k < n → needQuiet P ops (masks ops) k = true → ∀ j oj, j < k → ops[j]? = some oj → cls P oj.op = .read → indepB (masks ops) k j = true → ∀ b, refOf (mainV (opd (F j)) oj.op) = some b → (Hs (k + 1)).get b = (Hs k).get b
 shy : ∀ k, k < n → ¬ E k → shyB P ops (masks ops) k = true → ∃ S : Nat → Prop, (∀ m, m < k → needQuiet P ops (masks ops) m = true → indepB (masks ops) m k = true → ∀ i, i < (Hs m).next → (Hs (m + 1)).get i ≠ (Hs m).get i → S i) ∧
  ∀ o, ops[k]? = some o → evStep P call ops o (opd (F k)) ((Hs k).minus S) = some (V k, (Hs k).minus S)
theorem run_of_evOpsQ {P : Program} {call : CallFn} {ops : Array Oper} : ∀ {l : List Oper} {k : Nat} {fr fr' : List AV} {h h' : H} {S : Nat → Prop} {Js : List (Nat × AV)}, evOpsQ P call ops l k fr h S Js = some (fr', h') → (∀ j, j < l.length → l[j]? = ops[k + j]?) →
  ∃ (F : Nat → List AV) (Hs : Nat → H) (V : Nat → AV), F 0 = fr ∧ Hs 0 = h ∧ F l.length = fr' ∧ Hs l.length = h' ∧
   (∀ m, m < l.length → ∃ o, ops[k + m]? = some o ∧ evStep P call ops o (opd (F m)) (Hs m) = some (V m, Hs (m + 1)) ∧ F (m + 1) = putD (F m) o.dst (V m)) ∧
   (∀ m, m < l.length → needQuiet P ops (masks ops) (k + m) = true → (∀ e ∈ Js, indepB (masks ops) (k + m) e.1 = true → ∀ b, refOf e.2 = some b → (Hs (m + 1)).get b = (Hs m).get b) ∧
    ∀ j oj, j < m → ops[k + j]? = some oj → cls P oj.op = .read → indepB (masks ops) (k + m) (k + j) = true → ∀ b, refOf (mainV (opd (F j)) oj.op) = some b → (Hs (m + 1)).get b = (Hs m).get b) ∧
   ∀ m, m < l.length → shyB P ops (masks ops) (k + m) = true → ∃ S' : Nat → Prop, (∀ i, S i → S' i) ∧ (∀ p, p < m → needQuiet P ops (masks ops) (k + p) = true → ∀ i, i < (Hs p).next → (Hs (p + 1)).get i ≠ (Hs p).get i → S' i) ∧
    ∀ o, ops[k + m]? = some o → evStep P call ops o (opd (F m)) ((Hs m).minus S') = some (V m, (Hs m).minus S')
 | [], k, fr, fr', h, h', S, Js, hs, hl => by
  simp only [evOpsQ] at hs
  cases hs
  exact ⟨fun _ => fr, fun _ => h, fun _ => .junk, rfl, rfl, rfl, rfl, fun m hm => by simp at hm, fun m hm => by simp at hm, fun m hm => by simp at hm⟩
 | o :: rest, k, fr, fr', h, h', S, Js, hs, hl => by
  simp only [evOpsQ] at hs
  have h0 : ops[k]? = some o := by have := hl 0 (by simp); simpa using this.symm
  have hl' : ∀ j, j < rest.length → rest[j]? = ops[k + 1 + j]? := fun j hj => by have := hl (j + 1) (by simpa using hj); simpa [Nat.add_assoc, Nat.add_comm 1 j] using this
  -- one step: the value, the heap behind it, what was touched
  have key : ∃ v h1 S1, evStep P call ops o (opd fr) h = some (v, h1) ∧ evOpsQ P call ops rest (k + 1) (putD fr o.dst v) h1 S1 (pushJ P k o (mainV (opd fr) o.op) Js) = some (fr', h') ∧
    (needQuiet P ops (masks ops) k = true → keptQ (masks ops) k h h1 Js) ∧
    (∀ i, S i → S1 i) ∧ (needQuiet P ops (masks ops) k = true → ∀ i, i < h.next → h1.get i ≠ h.get i → S1 i) ∧
    (shyB P ops (masks ops) k = true → evStep P call ops o (opd fr) (h.minus S) = some (v, h.minus S)) := by
   split at hs
   ·rename_i hsh
    obtain ⟨⟨v, h1⟩, h2, hs⟩ := Option.bind_eq_some_iff.1 hs
    obtain ⟨e1, e2⟩ := evStep_sub (minus_sub h S) (shy_read h0 hsh) h2
    subst e1
    exact ⟨v, h, S, e2, hs, fun _ _ _ _ _ _ => rfl, fun _ h => h, fun _ i _ hne => absurd rfl hne, fun _ => h2⟩
   ·rename_i hsh
    obtain ⟨⟨v, h1⟩, h2, hs⟩ := Option.bind_eq_some_iff.1 hs
    simp only at hs
    split at hs
    ·split at hs
     ·rename_i hq
      exact ⟨v, h1, _, h2, hs, fun _ => hq, fun _ h => .inl h, fun _ i hi hne => .inr ⟨hi, hne⟩, fun h => absurd h hsh⟩
     ·cases hs
    ·rename_i hn
     exact ⟨v, h1, S, h2, hs, fun h => absurd h hn, fun _ h => h, fun h => absurd h hn, fun h => absurd h hsh⟩
  obtain ⟨v, h1, S1, k1, k2, k3, k4, k5, k6⟩ := key
  obtain ⟨F, Hs, V, e1, e2, e3, e4, e5, e6, e7⟩ := run_of_evOpsQ k2 hl'
  refine ⟨fun m => match m with | 0 => fr | m + 1 => F m, fun m => match m with | 0 => h | m + 1 => Hs m, fun m => match m with | 0 => v | m + 1 => V m, rfl, rfl, e3, e4, fun m hm => ?_, fun m hm hq => ?_, fun m hm hq => ?_⟩
  ·cases m with
   | zero => exact ⟨o, h0, by simp only; rw [e2]; exact k1, by simp only; rw [e1]⟩
   | succ m =>
    obtain ⟨o', q1, q2, q3⟩ := e5 m (by simpa using hm)
    exact ⟨o', by rw [← q1]; congr 1; omega, q2, q3⟩
  ·cases m with
   | zero =>
    refine ⟨fun e he hi b hb => ?_, fun j oj hj => absurd hj (by omega)⟩
    simp only
    rw [e2]
    exact k3 hq e he hi b hb
   | succ m =>
    have hq' : needQuiet P ops (masks ops) (k + 1 + m) = true := by rw [← hq]; congr 1; omega
    obtain ⟨q1, q2⟩ := e6 m (by simpa using hm) hq'
    have ek : k + (m + 1) = k + 1 + m := by omega
    refine ⟨fun e he hi b hb => q1 e ?_ (by rw [← ek]; exact hi) b hb, fun j oj hj hoj hc hi b hb => ?_⟩
    ·unfold pushJ; split
     ·exact List.mem_cons_of_mem _ he
     ·exact he
    ·cases j with
     | zero =>
      rw [Nat.add_zero, h0] at hoj
      cases hoj
      refine q1 (k, mainV (opd fr) o.op) ?_ (by rw [← ek]; exact hi) b hb
      unfold pushJ
      rw [if_pos hc]
      exact List.mem_cons_self
     | succ j => exact q2 j oj (by omega) (by rw [← hoj]; congr 1; omega) hc (by rw [← ek, show k + 1 + j = k + (j + 1) by omega]; exact hi) b hb
  ·cases m with
   | zero => exact ⟨S, fun _ h => h, fun p hp => by omega, fun o' ho' => by
     rw [Nat.add_zero, h0] at ho'
     cases ho'
     exact k6 hq⟩
   | succ m =>
    obtain ⟨S', q1, q2, q3⟩ := e7 m (by simpa using hm) (by rw [← hq]; congr 1; omega)
    refine ⟨S', fun i hi => q1 i (k4 i hi), fun p hp hnq i hi hne => ?_, fun o' ho' => q3 o' (by rw [← ho']; congr 1; omega)⟩
    cases p with
    | zero =>
     simp only at hi hne
     rw [e2] at hne
     exact q1 i (k5 hnq i hi hne)
    | succ p => exact q2 p (by omega) (by rw [← hnq]; congr 1; omega) i hi hne
section
variable {E : Nat → Prop} {P : Program} {call : CallFn} {ops : Array Oper} {n : Nat} {F : Nat → List AV} {Hs : Nat → H} {V : Nat → AV}
def Wr (ops : Array Oper) (t : Tmp) (m : Nat) : Prop := ∃ o, ops[m]? = some o ∧ o.dst = some t
def Tc (Hs : Nat → H) (i m : Nat) : Prop := (Hs (m + 1)).get i ≠ (Hs m).get i
noncomputable def slotD (ops : Array Oper) (n : Nat) (F : Nat → List AV) (V : Nat → AV) (D : Nat → Prop) (t : Tmp) : AV := pr ((F 0).getD t .junk) V (fun m => D m ∧ Wr ops t m) n
noncomputable def contD (n : Nat) (Hs : Nat → H) (D : Nat → Prop) (i : Nat) : Option AObj := pr ((Hs 0).get i) (fun m => (Hs (m + 1)).get i) (fun m => D m ∧ Tc Hs i m) n
theorem get_pr (i : Nat) : ∀ k, (Hs k).get i = pr ((Hs 0).get i) (fun m => (Hs (m + 1)).get i) (Tc Hs i) k
 | 0 => rfl
 | k + 1 => by
  simp only [pr]
  by_cases h : Tc Hs i k
  ·rw [if_pos h]
  ·rw [if_neg h, ← get_pr i k]; exact Classical.not_not.1 h
theorem contD_agree {D : Nat → Prop} {i j : Nat} (hj : j ≤ n) (h : ∀ m, m < n → Tc Hs i m → (D m ↔ m < j)) : contD n Hs D i = (Hs j).get i := by
 unfold contD
 rw [pr_congr (W' := fun m => m < j ∧ Tc Hs i m) (fun m hm => ⟨fun ⟨a, b⟩ => ⟨(h m hm b).1 a, b⟩, fun ⟨a, b⟩ => ⟨(h m hm b).2 a, b⟩⟩), pr_none hj (fun m _ h => h.1), get_pr i j]
 exact pr_congr fun m hm => ⟨fun h => h.2, fun h => ⟨hm, h⟩⟩
theorem length_F (hrun : Run E P call ops n F Hs V) : ∀ k, k ≤ n → (F k).length = (F 0).length
 | 0, _ => rfl
 | k + 1, hk => by
  obtain ⟨o, _, _, h3⟩ := hrun.step k (by omega)
  rw [h3, ← length_F hrun k (by omega)]
  unfold putD
  split <;> simp
theorem F_pr (hrun : Run E P call ops n F Hs V) {t : Tmp} (ht : t < (F 0).length) : ∀ k, k ≤ n → (F k).getD t .junk = pr ((F 0).getD t .junk) V (Wr ops t) k
 | 0, _ => rfl
 | k + 1, hk => by
  obtain ⟨o, h1, _, h3⟩ := hrun.step k (by omega)
  have ih := F_pr hrun ht k (by omega)
  have hl := length_F hrun k (by omega)
  simp only [pr]
  by_cases h : Wr ops t k
  ·rw [if_pos h, h3]
   obtain ⟨o', q1, q2⟩ := h
   rw [h1] at q1
   cases q1
   rw [q2]
   simp only [putD]
   rw [List.getD_eq_getElem?_getD, List.getElem?_set_self (by rw [hl]; exact ht)]
   rfl
  ·rw [if_neg h, ← ih, h3]
   cases hd : o.dst with
   | none => rfl
   | some d =>
    have hne : d ≠ t := fun e => h ⟨o, h1, by rw [hd, e]⟩
    simp only [putD]
    rw [List.getD_eq_getElem?_getD, List.getD_eq_getElem?_getD, List.getElem?_set_ne hne]
theorem slotD_agree (hrun : Run E P call ops n F Hs V) {D : Nat → Prop} {t : Tmp} (ht : t < (F 0).length) {j : Nat} (hj : j ≤ n) (h : ∀ m, m < n → Wr ops t m → (D m ↔ m < j)) : slotD ops n F V D t = (F j).getD t .junk := by
 unfold slotD
 rw [pr_congr (W' := fun m => m < j ∧ Wr ops t m) (fun m hm => ⟨fun ⟨a, b⟩ => ⟨(h m hm b).1 a, b⟩, fun ⟨a, b⟩ => ⟨(h m hm b).2 a, b⟩⟩), pr_none hj (fun m _ h => h.1), F_pr hrun ht j hj]
 exact pr_congr fun m hm => ⟨fun h => h.2, fun h => ⟨hm, h⟩⟩
theorem Hs_mono (hcall : call.Sound P) (hrun : Run E P call ops n F Hs V) {k : Nat} : ∀ {m : Nat}, k ≤ m → m ≤ n → (Hs k).next ≤ (Hs m).next
 | 0, hk, _ => by
  have e : k = 0 := by omega
  subst e; exact Nat.le_refl _
 | m + 1, hk, hm => by
  rcases Nat.lt_or_ge m k with h | h
  ·have e : k = m + 1 := by omega
   subst e; exact Nat.le_refl _
  ·obtain ⟨o, _, h2, _⟩ := hrun.step m (by omega)
   refine Nat.le_trans (Hs_mono hcall hrun h (by omega)) ?_
   rcases h2 with h2 | h2
   ·exact (evStep_grows hcall h2).1
   ·exact h2.2.1.1
theorem Hs_wf (hcall : call.Sound P) (hrun : Run E P call ops n F Hs V) (h0 : (Hs 0).WF) : ∀ k, k ≤ n → (Hs k).WF
 | 0, _ => h0
 | k + 1, hk => by
  obtain ⟨o, _, h2, _⟩ := hrun.step k (by omega)
  rcases h2 with h2 | h2
  ·exact (evStep_grows hcall h2).2 (Hs_wf hcall hrun h0 k (by omega))
  ·exact h2.2.1.2 (Hs_wf hcall hrun h0 k (by omega))
/-- where operations that have come up (D) stand -/
structure Inv (P : Program) (ops : Array Oper) (n : Nat) (F : Nat → List AV) (Hs : Nat → H) (V : Nat → AV) (r0 : Ren) (w0 : World) (ds : List Deferred) (D : Nat → Prop) (r : Ren) (a : Act) (w : World) : Prop where
 le : r0.le r
 dom : ∀ i t, r i = some t → r0 i = none → ∃ k, k < n ∧ D k ∧ (Hs k).next ≤ i ∧ i < (Hs (k + 1)).next
 sz : a.tmps.size = (F 0).length
 slot : ∀ t, t < (F 0).length → VR r (slotD ops n F V D t) (a.eval (.tmp t))
 obj : ∀ i t o, r i = some t → contD n Hs D i = some o → OR r w t o
 inj : ∀ i j ti tj oi oj, r i = some ti → r j = some tj → contD n Hs D i = some oi → contD n Hs D j = some oj → ti.blk = tj.blk → i = j ∨ (oi.ro = true ∧ oj.ro = true)
 bound : ∀ i t, r i = some t → t.blk < w.heap.size
 keep : Keep r0 (Hs 0) w0 w
 size : w0.heap.size ≤ w.heap.size
 env : Env w0 w
 fresh : ∀ i t, r0 i = none → r i = some t → w0.heap.size ≤ t.blk ∨ ∃ j tj o, r0 j = some tj ∧ tj.blk = t.blk ∧ (Hs 0).get j = some o ∧ o.ro = false
 touch : ∀ m, m < n → D m → ∀ i, i < (Hs m).next → Tc Hs i m → ∃ t, r i = some t
 ro : ∀ m, m < n → D m → ∀ i o, i < (Hs m).next → (Hs (m + 1)).get i = some o → ∃ o', (Hs m).get i = some o' ∧ o'.ro = o.ro
 defers : a.defers = ds
 gl : GL r0
end
end Go.Ev

/- The abstract machine Ev, part K: one more operation of a drawn region comes up. -/
namespace Go.Ev
theorem evOper_congr {P : Program} {call : CallFn} {ρ ρ' : Operand → AV} (op : Op) (h : H) (hx : ∀ x ∈ op.operands, ρ x = ρ' x) : evOper P call ρ op h = evOper P call ρ' op h := by
 have list : ∀ (xs : Array Operand), (∀ x ∈ xs, ρ x = ρ' x) → xs.toList.map ρ = xs.toList.map ρ' := fun xs hh => List.map_congr_left fun x hm => hh x (by simpa using hm)
 have parts : ∀ (ps : Array (Nat × Operand)), (∀ x ∈ (ps.toList.map (·.2)).toArray, ρ x = ρ' x) → ps.toList.map (fun p => (p.1, ρ p.2)) = ps.toList.map (fun p => (p.1, ρ' p.2)) := fun ps hh =>
  List.map_congr_left fun p hm => by rw [hh p.2 (by simp only [List.mem_toArray, List.mem_map]; exact ⟨p, hm, rfl⟩)]
 unfold evOper
 cases op <;> simp only [Op.operands] at hx <;> simp only [cls]
 case call c =>
  have hargs : c.args.toList.map ρ = c.args.toList.map ρ' := list _ fun x hm => hx x (by simp [Call.operands, hm])
  cases hc : c.callee with
  | value f =>
   have hf : ρ f = ρ' f := hx f (by simp [Call.operands, hc])
   simp only [hf, hargs]
  | invoke r m => simp only [evFull, hc]
  | builtin b => cases b <;> simp only [evPure, evRead, evAlloc, evFull, hc, hargs]
 case build t ps => simp only [evPure, parts ps hx]
 case buildSlice t l ps => simp only [evAlloc, parts ps hx]
 case makeFunc fn a b =>
  have h1 := list a fun x hm => hx x (by simp [hm])
  have h2 := list b fun x hm => hx x (by simp [hm])
  cases fn <;> simp only [evPure, h1, h2]
 case slice t x lo hi mx =>
  have h1 : ρ x = ρ' x := hx x (by simp)
  have h2 : lo.map ρ = lo.map ρ' := by cases lo with | none => rfl | some y => simp only [Option.map_some]; rw [hx y (by simp)]
  have h3 : hi.map ρ = hi.map ρ' := by cases hi with | none => rfl | some y => simp only [Option.map_some]; rw [hx y (by simp)]
  have h4 : mx.map ρ = mx.map ρ' := by cases mx with | none => rfl | some y => simp only [Option.map_some]; rw [hx y (by simp)]
  simp only [evPure, h1, h2, h3, h4]
 case convert s d x => simp only [evPure, evAlloc, evRead, evFull, hx x (by simp)]
 case makeMap t r =>
  cases r with
  | none => simp only [evAlloc]
  | some x => simp only [evAlloc, hx x (by simp)]
 case next it b => cases b <;> simp only [evFull, hx it (by simp)]
 all_goals first
  | rfl
  | (simp only [evPure, evAlloc, evRead, evFull]; done)
  | (simp only [evPure, evAlloc, evRead, evFull]; simp only [List.mem_toArray, List.mem_cons, List.not_mem_nil, or_false, forall_eq_or_imp, forall_eq] at hx; simp only [hx])
def restrict (ops : Array Oper) (o : Oper) (fr : List AV) (x : Operand) : AV :=
 match x with
 | .tmp t => if t ∈ o.looksAt ops then fr.getD t .junk else .junk
 | x => opd fr x
theorem evStep_restrict {P : Program} {call : CallFn} {ops : Array Oper} {o : Oper} {fr : List AV} {h : H} : evStep P call ops o (restrict ops o fr) h = evStep P call ops o (opd fr) h := by
 have hop : ∀ x ∈ o.op.operands, restrict ops o fr x = opd fr x := by
  intro x hx
  cases x with
  | tmp t =>
   have ht : t ∈ o.looksAt ops := List.mem_append_left _ (List.mem_filterMap.2 ⟨.tmp t, by simpa using hx, rfl⟩)
   simp [restrict, ht, opd]
  | _ => rfl
 have hw : evWanted ops (restrict ops o fr) o = evWanted ops (opd fr) o := by
  unfold evWanted
  cases hg : o.guard with
  | none => rfl
  | some q =>
   obtain ⟨j, want⟩ := q
   simp only
   cases hd : (ops[j]?).bind (·.dst) with
   | none => rfl
   | some t =>
    have ht : t ∈ o.looksAt ops := List.mem_append_right _ (by simp [hg, hd])
    simp [restrict, ht, opd]
 unfold evStep
 rw [hw]
 congr 1
 funext b
 rw [evOper_congr o.op h hop]
section
variable {P : Program} {call : CallFn} {ops : Array Oper} {F : Nat → List AV} {Hs : Nat → H} {V : Nat → AV} {r0 : Ren} {w0 : World} {ds : List Deferred}
theorem okM_spec {M : Nat → Nat} (hM : okM ops M = true) {j : Nat} {o : Oper} (ho : ops[j]? = some o) :
  (∀ e ∈ o.after, Region.binds .any e = true → e.on < j) ∧ ∀ i, i < j → (M j).testBit i = true → ∃ e ∈ o.after, Region.binds .any e = true ∧ (e.on = i ∨ (i < e.on ∧ (M e.on).testBit i = true)) := by
 have h1 := List.all_eq_true.1 hM j (List.mem_range.2 (Array.getElem?_eq_some_iff.1 ho).1)
 simp only [ho, Bool.and_eq_true] at h1
 obtain ⟨h1, h2⟩ := h1
 refine ⟨fun e he hb => ?_, fun i hi ht => ?_⟩
 ·have := Array.all_eq_true_iff_forall_mem.1 h1 e he
  simpa [hb] using this
 ·have := List.all_eq_true.1 h2 i (List.mem_range.2 hi)
  simp only [ht, Bool.not_true, Bool.false_or] at this
  obtain ⟨e, he, hb⟩ := Array.any_eq_true'.1 this
  simp only [Bool.and_eq_true, Bool.or_eq_true, beq_iff_eq, decide_eq_true_eq] at hb
  exact ⟨e, he, hb.1, hb.2⟩
theorem bits_closed {M : Nat → Nat} (hM : okM ops M = true) {D : Nat → Prop} (closed : ∀ m o, ops[m]? = some o → D m → ∀ e ∈ o.after, Region.binds .any e = true → D e.on) :
  ∀ (m : Nat), D m → m < ops.size → ∀ i, i < m → (M m).testBit i = true → D i := by
 intro m
 induction m using Nat.strongRecOn with
 | _ m ih =>
  intro hD hm i hi ht
  have ho : ops[m]? = some ops[m] := Array.getElem?_eq_getElem hm
  obtain ⟨hlt, hspec⟩ := okM_spec hM ho
  obtain ⟨e, he, hb, hor⟩ := hspec i hi ht
  have hDe := closed m _ ho hD e he hb
  rcases hor with rfl | ⟨h1, h2⟩
  ·exact hDe
  ·have := hlt e he hb
   exact ih e.on this hDe (by omega) i h1 h2
theorem bits_ready {M : Nat → Nat} (hM : okM ops M = true) {D : Nat → Prop} (closed : ∀ m o, ops[m]? = some o → D m → ∀ e ∈ o.after, Region.binds .any e = true → D e.on) {j : Nat} {o : Oper} (ho : ops[j]? = some o)
  (ready : ∀ e ∈ o.after, Region.binds .any e = true → D e.on) : ∀ i, i < j → (M j).testBit i = true → D i := by
 intro i hi ht
 obtain ⟨hlt, hspec⟩ := okM_spec hM ho
 obtain ⟨e, he, hb, hor⟩ := hspec i hi ht
 have hj := (Array.getElem?_eq_some_iff.1 ho).1
 rcases hor with rfl | ⟨h1, h2⟩
 ·exact ready e he hb
 ·have := hlt e he hb
  exact bits_closed hM closed e.on (ready e he hb) (by omega) i h1 h2
theorem okPairs_spec {M : Nat → Nat} (hP : okPairs P ops M = true) {i j : Nat} {oi oj : Oper} (hij : i < j) (hi : ops[i]? = some oi) (hj : ops[j]? = some oj) (hb : (M j).testBit i = false) :
  oi.apart ops oj = true ∧ oj.apart ops oi = true ∧ okCls (cls P oi.op) (cls P oj.op) = true := by
 have h1 := List.all_eq_true.1 hP j (List.mem_range.2 (Array.getElem?_eq_some_iff.1 hj).1)
 have h2 := List.all_eq_true.1 h1 i (List.mem_range.2 hij)
 simp only [hb, Bool.false_or, hi, hj, Bool.and_eq_true] at h2
 exact ⟨h2.1.1, h2.1.2, h2.2⟩
/-- what is known of an operation that may come up now, and of any other one -/
structure Turn (P : Program) (ops : Array Oper) (D : Nat → Prop) (j : Nat) : Prop where
 /-- either the two wait for each other, or they are independent -/
 other : ∀ m om oj, m < ops.size → m ≠ j → ops[m]? = some om → ops[j]? = some oj →
  (D m ↔ m < j) ∨ (om.apart ops oj = true ∧ oj.apart ops om = true ∧ okCls (cls P om.op) (cls P oj.op) = true ∧ okCls (cls P oj.op) (cls P om.op) = true ∧
   (cls P om.op = .full → cls P oj.op = .read → needQuiet P ops (masks ops) m = true) ∧ indepB (masks ops) m j = true)
theorem needQuiet_of {M : Nat → Nat} {k j : Nat} {ok oj : Oper} (hk : ops[k]? = some ok) (hj : ops[j]? = some oj) (h1 : cls P ok.op = .full) (h2 : cls P oj.op = .read) (hb : ((M k).testBit j || (M j).testBit k) = false) : needQuiet P ops M k = true := by
 unfold needQuiet
 simp only [hk, h1, beq_self_eq_true, Bool.true_and]
 refine List.any_eq_true.2 ⟨j, List.mem_range.2 (Array.getElem?_eq_some_iff.1 hj).1, ?_⟩
 simp [hj, h2, hb]
theorem shy_of {M : Nat → Nat} {k j : Nat} {ok oj : Oper} (hk : ops[k]? = some ok) (hj : ops[j]? = some oj) (h1 : cls P ok.op = .full) (h2 : cls P oj.op = .read) (hb : ((M k).testBit j || (M j).testBit k) = false) (hlt : k < j) : shyB P ops M j = true := by
 unfold shyB
 simp only [hj, h2, beq_self_eq_true, Bool.true_and]
 refine List.any_eq_true.2 ⟨k, List.mem_range.2 hlt, ?_⟩
 simp [hk, h1, hb]
theorem okCls_symm {x y : Class} (h : okCls x y = true) : okCls y x = true := by cases x <;> cases y <;> first | rfl | exact h
theorem high_spec {M : Nat → Nat} (h : okHigh ops M = true) {j i : Nat} (hj : j < ops.size) (hi : j ≤ i) : (M j).testBit i = false := by
 have := List.all_eq_true.1 h j (List.mem_range.2 hj)
 simp only [decide_eq_true_eq] at this
 exact Nat.testBit_lt_two_pow (Nat.lt_of_lt_of_le this (Nat.pow_le_pow_right (by omega) hi))
theorem turn_of (hM : okM ops (masks ops) = true) (hH : okHigh ops (masks ops) = true) (hP : okPairs P ops (masks ops) = true) {D : Nat → Prop} (closed : ∀ m o, ops[m]? = some o → D m → ∀ e ∈ o.after, Region.binds .any e = true → D e.on) {j : Nat} {o : Oper} (ho : ops[j]? = some o)
  (hDj : ¬ D j) (ready : ∀ e ∈ o.after, Region.binds .any e = true → D e.on) : Turn P ops D j := by
 refine ⟨fun m om oj hm hne hom hoj => ?_⟩
 have hjs := (Array.getElem?_eq_some_iff.1 ho).1
 rcases Nat.lt_or_ge m j with hlt | hge
 ·cases hb : (masks ops j).testBit m with
  | true => exact .inl ⟨fun _ => hlt, fun _ => bits_ready hM closed ho ready m hlt hb⟩
  | false =>
   obtain ⟨h1, h2, h3⟩ := okPairs_spec hP hlt hom hoj hb
   have hb2 : (masks ops m).testBit j = false := high_spec hH hm (by omega)
   exact .inr ⟨h1, h2, h3, okCls_symm h3, fun a b => needQuiet_of hom hoj a b (by simp [hb, hb2]), by simp [indepB, hb, hb2]⟩
 ·have hlt : j < m := by omega
  cases hb : (masks ops m).testBit j with
  | true => exact .inl ⟨fun hD => absurd (bits_closed hM closed m hD hm j hlt hb) hDj, fun h => by omega⟩
  | false =>
   obtain ⟨h1, h2, h3⟩ := okPairs_spec hP hlt hoj hom hb
   have hb2 : (masks ops j).testBit m = false := high_spec hH hjs (by omega)
   exact .inr ⟨h2, h1, okCls_symm h3, h3, fun a b => needQuiet_of hom hoj a b (by simp [hb, hb2]), by simp [indepB, hb, hb2]⟩
end
end Go.Ev

/- The abstract machine Ev, part L: a drawn region, whatever order is drawn. -/
namespace Go.Ev
section
variable {E : Nat → Prop} {P : Program} {call : CallFn} {ops : Array Oper} {n : Nat} {F : Nat → List AV} {Hs : Nat → H} {V : Nat → AV} {r0 : Ren} {w0 : World} {ds : List Deferred}
/-- D and j besides -/
def With (D : Nat → Prop) (j : Nat) (m : Nat) : Prop := D m ∨ m = j
theorem with_iff {D : Nat → Prop} {j m : Nat} (h : m ≠ j → (D m ↔ m < j)) : With D j m ↔ m < j + 1 := by
 unfold With
 by_cases e : m = j
 ·subst e; simp
 ·have := h e
  constructor
  ·rintro (h1 | h1)
   ·have := this.1 h1; omega
   ·exact absurd h1 e
  ·intro h1
   exact .inl (this.2 (by omega))
theorem slot_with (hn : n = ops.size) {D : Nat → Prop} {j : Nat} (hj : j < n) {oj : Oper} (hoj : ops[j]? = some oj) (turn : Turn P ops D j) (hDj : ¬ D j) (t : Tmp) :
  (oj.dst = some t → slotD ops n F V (With D j) t = V j) ∧ (oj.dst ≠ some t → slotD ops n F V (With D j) t = slotD ops n F V D t) := by
 constructor
 ·intro hd
  have key : ∀ m, m < n → Wr ops t m → (With D j m ↔ m < j + 1) := by
   intro m hm ⟨om, hom, hdm⟩
   refine with_iff fun hne => ?_
   rcases turn.other m om oj (hn ▸ hm) hne hom hoj with h | ⟨hap, _⟩
   ·exact h
   ·exact absurd hd ((Oper.apart_spec hap).2.1 t hdm)
  unfold slotD
  rw [pr_congr (W' := fun m => m < j + 1 ∧ Wr ops t m) (fun m hm => ⟨fun ⟨a, b⟩ => ⟨(key m hm b).1 a, b⟩, fun ⟨a, b⟩ => ⟨(key m hm b).2 a, b⟩⟩), pr_none (j := j + 1) (by omega) (fun m _ h => h.1)]
  simp only [pr]
  rw [if_pos ⟨by omega, oj, hoj, hd⟩]
 ·intro hd
  unfold slotD
  refine pr_congr fun m hm => ?_
  constructor
  ·rintro ⟨h | rfl, hw⟩
   ·exact ⟨h, hw⟩
   ·obtain ⟨om, hom, hdm⟩ := hw
    rw [hoj] at hom
    cases hom
    exact absurd hdm hd
  ·rintro ⟨h, hw⟩
   exact ⟨.inl h, hw⟩
theorem cont_same {D : Nat → Prop} {j i : Nat} (h : ¬ Tc Hs i j) : contD n Hs (With D j) i = contD n Hs D i := by
 unfold contD
 refine pr_congr fun m hm => ?_
 constructor
 ·rintro ⟨h1 | rfl, hw⟩
  ·exact ⟨h1, hw⟩
  ·exact absurd hw h
 ·rintro ⟨h1, hw⟩
  exact ⟨.inl h1, hw⟩
/-- the operation's operands, where it comes up -/
theorem operands_at (hrun : Run E P call ops n F Hs V) (hn : n = ops.size) {D : Nat → Prop} {r : Ren} {a : Act} {w : World} (inv : Inv P ops n F Hs V r0 w0 ds D r a w) {j : Nat} (hj : j < n) {oj : Oper} (hoj : ops[j]? = some oj)
  (turn : Turn P ops D j) (hDj : ¬ D j) : ∀ x, VR r (restrict ops oj (F j) x) (a.eval x) := by
 intro x
 cases x with
 | tmp t =>
  simp only [restrict]
  split
  ·rename_i ht
   rcases Nat.lt_or_ge t (F 0).length with hlt | hge
   ·have := slotD_agree (D := D) hrun hlt (j := j) (by omega) (fun m hm ⟨om, hom, hdm⟩ => by
     by_cases e : m = j
     ·subst e; exact ⟨fun h => absurd h hDj, fun h => by omega⟩
     ·rcases turn.other m om oj (hn ▸ hm) e hom hoj with h | ⟨hap, _⟩
      ·exact h
      ·exact absurd ht ((Oper.apart_spec hap).1 t hdm))
    rw [← this]
    exact inv.slot t hlt
   ·rw [List.getD_eq_getElem?_getD, List.getElem?_eq_none (by rw [length_F hrun j (by omega)]; exact hge)]
    exact .junk _
  ·exact .junk _
 | const v => exact VR_ofValue r v
 | global g => exact (inv.gl.mono inv.le).vr g
 | func f => exact .func f [] [] #[] #[] rfl rfl (fun i a v h => by simp at h) (fun i a v h => by simp at h)
theorem eval_put (a : Act) (d : Option Tmp) (v : Value) (t : Tmp) (ht : t < a.tmps.size) : (a.put d v).eval (.tmp t) = if d = some t then v else a.eval (.tmp t) := by
 cases d with
 | none => simp [Act.put]
 | some d =>
  by_cases e : d = t
  ·subst e; simp [Act.put, Act.eval, ht]
  ·simp [Act.put, Act.eval, e, Array.getElem?_setIfInBounds_ne e]
/-- what the heap's part of Inv asks behind operation j -/
structure Behind (n : Nat) (Hs : Nat → H) (r0 : Ren) (w0 : World) (D : Nat → Prop) (j : Nat) (r r' : Ren) (w w' : World) : Prop where
 le : r.le r'
 /-- what stands for a block that was there stood for it before -/
 alias : ∀ i t o, r' i = some t → contD n Hs (With D j) i = some o → w.heap.size ≤ t.blk ∨ ∃ k tk ok, r k = some tk ∧ tk.blk = t.blk ∧ contD n Hs D k = some ok
 dom : ∀ i t, r' i = some t → r i = none → (Hs j).next ≤ i ∧ i < (Hs (j + 1)).next
 obj : ∀ i t o, r' i = some t → contD n Hs (With D j) i = some o → OR r' w' t o
 inj : ∀ i k ti tk oi ok, r' i = some ti → r' k = some tk → contD n Hs (With D j) i = some oi → contD n Hs (With D j) k = some ok → ti.blk = tk.blk → i = k ∨ (oi.ro = true ∧ ok.ro = true)
 bound : ∀ i t, r' i = some t → t.blk < w'.heap.size
 keep : Keep r0 (Hs 0) w0 w'
 size : w0.heap.size ≤ w'.heap.size
 env : Env w0 w'
 fresh : ∀ i t, r0 i = none → r' i = some t → w0.heap.size ≤ t.blk ∨ ∃ k tk o, r0 k = some tk ∧ tk.blk = t.blk ∧ (Hs 0).get k = some o ∧ o.ro = false
 touch : ∀ i, i < (Hs j).next → Tc Hs i j → ∃ t, r' i = some t
 ro : ∀ i o, i < (Hs j).next → (Hs (j + 1)).get i = some o → ∃ o', (Hs j).get i = some o' ∧ o'.ro = o.ro
theorem inv_behind (hrun : Run E P call ops n F Hs V) (hn : n = ops.size) {D : Nat → Prop} {r r' : Ren} {a : Act} {w w' : World} (inv : Inv P ops n F Hs V r0 w0 ds D r a w) {j : Nat} (hj : j < n) {oj : Oper} (hoj : ops[j]? = some oj)
  (turn : Turn P ops D j) (hDj : ¬ D j) (b : Behind n Hs r0 w0 D j r r' w w') {v' : Value} (hv : VR r' (V j) v') : Inv P ops n F Hs V r0 w0 ds (With D j) r' (a.put oj.dst v') w' where
 le := Ren.le_trans inv.le b.le
 dom := fun i t h1 h2 => by
  cases hr : r i with
  | none => have := b.dom i t h1 hr; exact ⟨j, hj, .inr rfl, this.1, this.2⟩
  | some t' =>
   obtain ⟨k, hk, hD, h3⟩ := inv.dom i t' hr h2
   exact ⟨k, hk, .inl hD, h3⟩
 sz := by
  rw [← inv.sz]
  cases oj.dst <;> simp [Act.put]
 slot := fun t ht => by
  have hs := slot_with (F := F) (V := V) hn hj hoj turn hDj t
  rw [eval_put _ _ _ _ (by rw [inv.sz]; exact ht)]
  by_cases hd : oj.dst = some t
  ·rw [if_pos hd, hs.1 hd]; exact hv
  ·rw [if_neg hd, hs.2 hd]; exact (inv.slot t ht).mono b.le
 obj := b.obj
 inj := b.inj
 bound := b.bound
 keep := b.keep
 size := b.size
 env := b.env
 fresh := b.fresh
 touch := fun m hm hD i hi ht => by
  rcases hD with hD | rfl
  ·obtain ⟨t, h⟩ := inv.touch m hm hD i hi ht
   exact ⟨t, b.le i t h⟩
  ·exact b.touch i hi ht
 ro := fun m hm hD i o hi ho => by
  rcases hD with hD | rfl
  ·exact inv.ro m hm hD i o hi ho
  ·exact b.ro i o hi ho
 defers := by rw [← inv.defers]; cases oj.dst <;> rfl
 gl := inv.gl
/-- an operation that changes nothing -/
theorem behind_same {D : Nat → Prop} {r : Ren} {a : Act} {w : World} (inv : Inv P ops n F Hs V r0 w0 ds D r a w) {j : Nat} (hH : Hs (j + 1) = Hs j) : Behind n Hs r0 w0 D j r r w w where
 le := Ren.le_refl _
 alias := fun i t o h1 h2 => .inr ⟨i, t, o, h1, rfl, by rwa [cont_same (by simp [Tc, hH])] at h2⟩
 dom := fun i t h1 h2 => by rw [h1] at h2; cases h2
 obj := fun i t o h1 h2 => by
  rw [cont_same (by simp [Tc, hH])] at h2
  exact inv.obj i t o h1 h2
 inj := fun i k ti tk oi ok h1 h2 h3 h4 => by
  rw [cont_same (by simp [Tc, hH])] at h3 h4
  exact inv.inj i k ti tk oi ok h1 h2 h3 h4
 bound := inv.bound
 keep := inv.keep
 size := inv.size
 env := inv.env
 fresh := inv.fresh
 touch := fun i _ h => absurd (by rw [hH]) h
 ro := fun i o _ h => ⟨o, by rw [← hH]; exact h, rfl⟩
/-- a new block -/
theorem behind_alloc (hcall : call.Sound P) (hrun : Run E P call ops n F Hs V) (wf0 : (Hs 0).WF) (free : ∀ i, (Hs 0).next ≤ i → i < (Hs n).next → r0 i = none) {D : Nat → Prop} {r : Ren} {a : Act} {w w' : World} (inv : Inv P ops n F Hs V r0 w0 ds D r a w) {j : Nat} (hj : j < n) (hDj : ¬ D j)
  {ob : Option AObj} {row : Nat} (hH : Hs (j + 1) = (Hs j).newO ob) (h1 : w'.heap.size = w.heap.size + 1) (he : Env w w') (h2 : ∀ b, b < w.heap.size → w'.heap[b]? = w.heap[b]?) (h3 : ∀ x, ob = some x → ∀ r' : Ren, r.le r' → OR r' w' ⟨w.heap.size, 0, row⟩ x) :
  Behind n Hs r0 w0 D j r (r.put (Hs j).next ⟨w.heap.size, 0, row⟩) w w' := by
 have hnew : r (Hs j).next = none := by
  cases hr : r (Hs j).next with
  | none => rfl
  | some t =>
   have hm := Hs_mono hcall hrun (Nat.zero_le j) (by omega : j ≤ n)
   have hm2 : (Hs (j + 1)).next ≤ (Hs n).next := Hs_mono hcall hrun (by omega) (Nat.le_refl _)
   have hnx : (Hs (j + 1)).next = (Hs j).next + 1 := by rw [hH, next_newO]
   obtain ⟨k, hk, hD, h4, h5⟩ := inv.dom _ t hr (free _ hm (by omega))
   exfalso
   rcases Nat.lt_trichotomy k j with h | h | h
   ·have := Hs_mono hcall hrun (show k + 1 ≤ j from h) (by omega : j ≤ n); omega
   ·subst h; exact hDj hD
   ·have := Hs_mono hcall hrun (show j + 1 ≤ k from h) (by omega : k ≤ n); omega
 have hwf := Hs_wf hcall hrun wf0 j (by omega)
 have hold : (Hs j).get (Hs j).next = none := by
  cases hg : (Hs j).get (Hs j).next with
  | none => rfl
  | some o => have := hwf _ _ hg; omega
 have hget : ∀ i, (Hs (j + 1)).get i = if i = (Hs j).next then ob else (Hs j).get i := fun i => by
  rw [hH]
  by_cases e : i = (Hs j).next
  ·rw [if_pos e, e, get_newO_self hold]
  ·rw [if_neg e, get_newO e]
 have hnt : ∀ i, i ≠ (Hs j).next → ¬ Tc Hs i j := fun i hi h => h (by rw [hget, if_neg hi])
 have hcn : contD n Hs (With D j) (Hs j).next = ob := by
  have := contD_agree (n := n) (Hs := Hs) (D := With D j) (i := (Hs j).next) (j := j + 1) (by omega) (fun m hm ht => with_iff fun hne => by
   rcases Nat.lt_or_ge m j with h | h
   ·-- nothing has touched it before
    exfalso
    have hm1 := Hs_mono hcall hrun (show m + 1 ≤ j from h) (by omega : j ≤ n)
    have g1 : (Hs (m + 1)).get (Hs j).next = none := by
     cases hg : (Hs (m + 1)).get (Hs j).next with
     | none => rfl
     | some o => have := Hs_wf hcall hrun wf0 (m + 1) (by omega) _ _ hg; omega
    have hm2 := Hs_mono hcall hrun (show m ≤ j by omega) (by omega : j ≤ n)
    have g2 : (Hs m).get (Hs j).next = none := by
     cases hg : (Hs m).get (Hs j).next with
     | none => rfl
     | some o => have := Hs_wf hcall hrun wf0 m (by omega) _ _ hg; omega
    exact ht (by rw [g1, g2])
   ·refine ⟨fun hD => ?_, fun h' => by omega⟩
    have hjm : j < m := by omega
    have hm1 := Hs_mono hcall hrun (show j + 1 ≤ m from hjm) (by omega : m ≤ n)
    have hnx : (Hs (j + 1)).next = (Hs j).next + 1 := by rw [hH, next_newO]
    obtain ⟨t, hr⟩ := inv.touch m hm hD _ (by omega) ht
    rw [hnew] at hr; cases hr)
  rw [this, hget, if_pos rfl]
 refine ⟨Ren.le_put hnew, fun i t o h4 h5 => ?_, fun i t h4 h5 => ?_, fun i t o h4 h5 => ?_, fun i k ti tk oi ok h4 h5 h6 h7 e => ?_, fun i t h4 => ?_, fun b hb hk => ?_, by have := inv.size; omega, inv.env.trans he, fun i t h4 h5 => ?_, fun i hi ht => ?_, fun i o hi ho => ?_⟩
 ·unfold Ren.put at h4
  split at h4
  ·cases h4; exact .inl (Nat.le_refl _)
  ·rename_i e
   rw [cont_same (hnt i e)] at h5
   exact .inr ⟨i, t, o, h4, rfl, h5⟩
 ·unfold Ren.put at h4
  split at h4
  ·rename_i e; subst e; rw [hH, next_newO]; exact ⟨Nat.le_refl _, Nat.lt_succ_self _⟩
  ·rw [h4] at h5; cases h5
 ·unfold Ren.put at h4
  split at h4
  ·rename_i e; subst e; cases h4
   rw [hcn] at h5
   exact h3 _ h5 _ (Ren.le_put hnew)
  ·rename_i e
   rw [cont_same (hnt i e)] at h5
   exact (inv.obj i t o h4 h5).move (Ren.le_put hnew) (h2 _ (inv.bound i t h4))
 ·unfold Ren.put at h4 h5
  split at h4 <;> split at h5
  ·left; omega
  ·rename_i e1 e2; cases h4
   have := inv.bound k tk h5; simp at e; omega
  ·rename_i e1 e2; cases h5
   have := inv.bound i ti h4; simp at e; omega
  ·rename_i e1 e2
   rw [cont_same (hnt i e1)] at h6
   rw [cont_same (hnt k e2)] at h7
   exact inv.inj i k ti tk oi ok h4 h5 h6 h7 e
 ·unfold Ren.put at h4
  split at h4
  ·cases h4; simp; omega
  ·have := inv.bound i t h4; omega
 ·have := inv.size
  rw [h2 b (by omega)]
  exact inv.keep b hb hk
 ·unfold Ren.put at h5
  split at h5
  ·cases h5; exact .inl inv.size
  ·exact inv.fresh i t h4 h5
 ·exact absurd ht (hnt i (by omega))
 ·rw [hget, if_neg (by omega)] at ho
  exact ⟨o, ho, rfl⟩
end
end Go.Ev

/- The abstract machine Ev, part M: a drawn region, whatever order is drawn: the end of its proof. -/
namespace Go.Ev
section
variable {E : Nat → Prop} {P : Program} {call : CallFn} {ops : Array Oper} {n : Nat} {F : Nat → List AV} {Hs : Nat → H} {V : Nat → AV} {r0 : Ren} {w0 : World} {ds : List Deferred}
theorem touch_full (hcall : call.Sound P) (hrun : Run E P call ops n F Hs V) {m : Nat} (hm : m < n) {om : Oper} (hom : ops[m]? = some om) {i : Nat} (hi : i < (Hs m).next) (ht : Tc Hs i m) : cls P om.op = .full := by
 obtain ⟨o, h1, h2, _⟩ := hrun.step m hm
 rw [hom] at h1
 cases h1
 rcases h2 with h2 | h2
 case inr => exact h2.2.2 ⟨i, hi, ht⟩
 unfold evStep at h2
 obtain ⟨b, _, h2⟩ := Option.bind_eq_some_iff.1 h2
 cases b
 ·simp at h2; exact absurd (by rw [h2.2]) ht
 ·simp at h2
  unfold evOper at h2
  cases hc : cls P om.op with
  | full => rfl
  | pure => rw [hc] at h2; obtain ⟨x, _, h3⟩ := Option.map_eq_some_iff.1 h2; exact absurd (by rw [(Prod.mk.inj h3).2]) ht
  | read => rw [hc] at h2; obtain ⟨x, _, h3⟩ := Option.map_eq_some_iff.1 h2; exact absurd (by rw [(Prod.mk.inj h3).2]) ht
  | alloc =>
   rw [hc] at h2
   obtain ⟨x, _, h3⟩ := Option.map_eq_some_iff.1 h2
   refine absurd ?_ ht
   rw [← (Prod.mk.inj h3).2]
   exact get_newO (by omega)
theorem same_interval (hcall : call.Sound P) (hrun : Run E P call ops n F Hs V) {k m i : Nat} (hk : k < n) (hm : m < n) (h1 : (Hs k).next ≤ i) (h2 : i < (Hs (k + 1)).next) (h3 : (Hs m).next ≤ i) (h4 : i < (Hs (m + 1)).next) : k = m := by
 rcases Nat.lt_trichotomy k m with h | h | h
 ·have := Hs_mono hcall hrun (show k + 1 ≤ m from h) (by omega : m ≤ n); omega
 ·exact h
 ·have := Hs_mono hcall hrun (show m + 1 ≤ k from h) (by omega : k ≤ n); omega
theorem made_by (hcall : call.Sound P) (hrun : Run E P call ops n F Hs V) (wf0 : (Hs 0).WF) {m i : Nat} (hm : m < n) (hi : (Hs m).next ≤ i) (ht : Tc Hs i m) : i < (Hs (m + 1)).next := by
 cases hg : (Hs (m + 1)).get i with
 | some o => exact Hs_wf hcall hrun wf0 (m + 1) hm i o hg
 | none =>
  refine absurd ?_ ht
  rw [hg]
  cases hg2 : (Hs m).get i with
  | none => rfl
  | some o => have := Hs_wf hcall hrun wf0 m (by omega) i o hg2; omega
variable (hcall : call.Sound P) (hrun : Run E P call ops n F Hs V) (wf0 : (Hs 0).WF) (hn : n = ops.size) (free : ∀ i, (Hs 0).next ≤ i → i < (Hs n).next → r0 i = none)
include hcall hrun wf0 hn free
theorem listed_of {D : Nat → Prop} {r : Ren} {a : Act} {w : World} (inv : Inv P ops n F Hs V r0 w0 ds D r a w) {m i : Nat} {t : Tgt} (hm : m < n) (h1 : (Hs m).next ≤ i) (h2 : i < (Hs (m + 1)).next) (hr : r i = some t) : D m := by
 have _ := wf0
 have hz := Hs_mono hcall hrun (Nat.zero_le m) (by omega : m ≤ n)
 have ht := Hs_mono hcall hrun (show m + 1 ≤ n from hm) (Nat.le_refl n)
 obtain ⟨k, hk, hD, h3, h4⟩ := inv.dom i t hr (free i (by omega) (by omega))
 have := same_interval hcall hrun hk hm h3 h4 h1 h2
 subst this; exact hD
theorem cont_at {D : Nat → Prop} {r : Ren} {a : Act} {w : World} (inv : Inv P ops n F Hs V r0 w0 ds D r a w) {j : Nat} (hj : j < n) {oj : Oper} (hoj : ops[j]? = some oj) (turn : Turn P ops D j) (hDj : ¬ D j)
  {S : Nat → Prop} (hc : cls P oj.op = .full ∨ (cls P oj.op = .read ∧ ∀ m om, m < n → m ≠ j → ops[m]? = some om → cls P om.op = .full → indepB (masks ops) m j = true → ∀ i, i < (Hs m).next → (Hs (m + 1)).get i ≠ (Hs m).get i → S i)) {i : Nat} {t : Tgt} (hr : r i = some t) (hi : i < (Hs j).next) (hS : ¬ S i) : contD n Hs D i = (Hs j).get i := by
 refine contD_agree (by omega) fun m hm ht => ?_
 by_cases e : m = j
 ·subst e; exact ⟨fun h => absurd h hDj, fun h => by omega⟩
 ·have hom : ops[m]? = some ops[m] := Array.getElem?_eq_getElem (by omega)
  rcases Nat.lt_or_ge i (Hs m).next with hlt | hge
  ·have hf := touch_full hcall hrun hm hom hlt ht
   rcases turn.other m _ oj (hn ▸ hm) e hom hoj with h | ⟨_, _, hcl, _, _, hq2⟩
   ·exact h
   ·rcases hc with hc | ⟨hc, hc2⟩
    ·rw [hf, hc] at hcl; cases hcl
    ·exact absurd (hc2 m _ hm e hom hf hq2 i hlt ht) hS
  ·have h2 := made_by hcall hrun wf0 hm hge ht
   have hmj : m < j := by
    rcases Nat.lt_or_ge m j with h | h
    ·exact h
    ·have := Hs_mono hcall hrun h (by omega : m ≤ n); omega
   exact ⟨fun _ => hmj, fun _ => listed_of hcall hrun wf0 hn free inv hm hge h2 hr⟩
theorem rel_minus {D : Nat → Prop} {r : Ren} {a : Act} {w : World} (inv : Inv P ops n F Hs V r0 w0 ds D r a w) {j : Nat} (hj : j < n) {oj : Oper} (hoj : ops[j]? = some oj) (turn : Turn P ops D j) (hDj : ¬ D j)
  {S : Nat → Prop} (hc : cls P oj.op = .full ∨ (cls P oj.op = .read ∧ ∀ m om, m < n → m ≠ j → ops[m]? = some om → cls P om.op = .full → indepB (masks ops) m j = true → ∀ i, i < (Hs m).next → (Hs (m + 1)).get i ≠ (Hs m).get i → S i)) : Rel r ((Hs j).minus S) w := by
 have hwf := Hs_wf hcall hrun wf0 j (by omega)
 have hcont : ∀ i t o, r i = some t → ((Hs j).minus S).get i = some o → contD n Hs D i = some o := fun i t o hr hg => by
  by_cases hS : S i
  ·simp only [H.minus] at hg
   rw [if_pos hS] at hg
   cases hg
  ·rw [minus_get hS] at hg
   rw [cont_at hcall hrun wf0 hn free inv hj hoj turn hDj hc hr (hwf i o hg) hS]; exact hg
 exact ⟨fun i o hg => hwf i o ((minus_sub _ S).get i o hg), fun i t o hr hg => inv.obj i t o hr (hcont i t o hr hg), fun i k ti tk oi ok h1 h2 h3 h4 e => inv.inj i k ti tk oi ok h1 h2 (hcont _ _ _ h1 h3) (hcont _ _ _ h2 h4) e, inv.bound, inv.gl.mono inv.le⟩
theorem rel_at {D : Nat → Prop} {r : Ren} {a : Act} {w : World} (inv : Inv P ops n F Hs V r0 w0 ds D r a w) {j : Nat} (hj : j < n) {oj : Oper} (hoj : ops[j]? = some oj) (turn : Turn P ops D j) (hDj : ¬ D j)
  (hc : cls P oj.op = .full) : Rel r (Hs j) w := by
 have := rel_minus (S := noT) hcall hrun wf0 hn free inv hj hoj turn hDj (.inl hc)
 rwa [minus_noT] at this
theorem free_at {D : Nat → Prop} {r : Ren} {a : Act} {w : World} (inv : Inv P ops n F Hs V r0 w0 ds D r a w) {j : Nat} (hj : j < n) (hDj : ¬ D j) : ∀ i, (Hs j).next ≤ i → i < (Hs (j + 1)).next → r i = none := by
 intro i h1 h2
 cases hr : r i with
 | none => rfl
 | some t => exact absurd (listed_of hcall hrun wf0 hn free inv hj h1 h2 hr) hDj
theorem old_id {i : Nat} {t : Tgt} (hr : r0 i = some t) {j : Nat} (hj : j ≤ n) {o : AObj} (hg : (Hs j).get i = some o) : i < (Hs 0).next := by
 have _ := hn
 have h1 := Hs_wf hcall hrun wf0 j hj i o hg
 have h2 := Hs_mono hcall hrun hj (Nat.le_refl n)
 rcases Nat.lt_or_ge i (Hs 0).next with h | h
 ·exact h
 ·rw [free i h (by omega)] at hr; cases hr
theorem ro_back {D : Nat → Prop} {r : Ren} {a : Act} {w : World} (inv : Inv P ops n F Hs V r0 w0 ds D r a w) {j : Nat} (hj : j < n) {oj : Oper} (hoj : ops[j]? = some oj) (turn : Turn P ops D j) (hc : cls P oj.op = .full) {i : Nat} (hi : i < (Hs 0).next) :
  ∀ k, k ≤ j → ∀ o, (Hs k).get i = some o → ∃ o0, (Hs 0).get i = some o0 ∧ o0.ro = o.ro
 | 0, _, o, h => ⟨o, h, rfl⟩
 | k + 1, hk, o, h => by
  have _ := wf0
  have _ := free
  have hkn : k < n := by omega
  have hik : i < (Hs k).next := Nat.lt_of_lt_of_le hi (Hs_mono hcall hrun (Nat.zero_le k) (by omega))
  by_cases ht : Tc Hs i k
  ·have hom : ops[k]? = some ops[k] := Array.getElem?_eq_getElem (by omega)
   have hf := touch_full hcall hrun hkn hom hik ht
   have hD : D k := by
    rcases turn.other k _ oj (hn ▸ hkn) (by omega) hom hoj with h | ⟨_, _, hcl, _⟩
    ·exact h.2 (by omega)
    ·rw [hf, hc] at hcl; cases hcl
   obtain ⟨o', h1, h2⟩ := inv.ro k hkn hD i o hik h
   obtain ⟨o0, h3, h4⟩ := ro_back inv hj hoj turn hc hi k (by omega) o' h1
   exact ⟨o0, h3, h4.trans h2⟩
  ·exact ro_back inv hj hoj turn hc hi k (by omega) o (by rw [← Classical.not_not.1 ht]; exact h)
theorem behind_full {D : Nat → Prop} {r r' : Ren} {a : Act} {w w' : World} (inv : Inv P ops n F Hs V r0 w0 ds D r a w) {j : Nat} (hj : j < n) {oj : Oper} (hoj : ops[j]? = some oj) (turn : Turn P ops D j) (hDj : ¬ D j)
  (hc : cls P oj.op = .full) (p : Post r (Hs j) w r' (Hs (j + 1)) w') : Behind n Hs r0 w0 D j r r' w w' := by
 have hwf := Hs_wf hcall hrun wf0 j (by omega)
 have hwf' := Hs_wf hcall hrun wf0 (j + 1) (by omega)
 have hcat : ∀ {i t}, r i = some t → i < (Hs j).next → contD n Hs D i = (Hs j).get i := fun hr hi => cont_at (S := noT) hcall hrun wf0 hn free inv hj hoj turn hDj (.inl hc) hr hi (fun h => h)
 have hback : ∀ {i t}, r' i = some t → i < (Hs j).next → r i = some t := by
  intro i t h1 h2
  cases hr : r i with
  | none => have := p.dom i t h1 hr; omega
  | some t' => have := p.le i t' hr; rw [h1] at this; rw [this]
 have hback2 : ∀ {i t}, r' i = some t → (Hs (j + 1)).next ≤ i → r i = some t := by
  intro i t h1 h2
  cases hr : r i with
  | none => have := p.dom i t h1 hr; omega
  | some t' => have := p.le i t' hr; rw [h1] at this; rw [this]
 have hcaft : ∀ {i t}, r' i = some t → i < (Hs (j + 1)).next → contD n Hs (With D j) i = (Hs (j + 1)).get i := by
  intro i t hr hi
  refine contD_agree (by omega) fun m hm ht => with_iff fun e => ?_
  have hom : ops[m]? = some ops[m] := Array.getElem?_eq_getElem (by omega)
  rcases Nat.lt_or_ge i (Hs m).next with hlt | hge
  ·have hf := touch_full hcall hrun hm hom hlt ht
   rcases turn.other m _ oj (hn ▸ hm) e hom hoj with h | ⟨_, _, hcl, _⟩
   ·exact h
   ·rw [hf, hc] at hcl; cases hcl
  ·have h2 := made_by hcall hrun wf0 hm hge ht
   have hmj : m < j := by
    rcases Nat.lt_or_ge m j with h | h
    ·exact h
    ·have := Hs_mono hcall hrun (show j + 1 ≤ m by omega) (by omega : m ≤ n); omega
   have hij : i < (Hs j).next := Nat.lt_of_lt_of_le h2 (Hs_mono hcall hrun (show m + 1 ≤ j from hmj) (by omega))
   exact ⟨fun _ => hmj, fun _ => listed_of hcall hrun wf0 hn free inv hm hge h2 (hback hr hij)⟩
 have hhigh : ∀ {i}, (Hs (j + 1)).next ≤ i → ¬ Tc Hs i j := by
  intro i hi ht
  have := p.next
  refine ht ?_
  have g1 : (Hs (j + 1)).get i = none := by
   cases hg : (Hs (j + 1)).get i with
   | none => rfl
   | some o => have := hwf' i o hg; omega
  have g2 : (Hs j).get i = none := by
   cases hg : (Hs j).get i with
   | none => rfl
   | some o => have := hwf i o hg; omega
  rw [g1, g2]
 -- a block that a later operation has made
 have hkeepHigh : ∀ {i t o}, r i = some t → (Hs (j + 1)).next ≤ i → contD n Hs D i = some o → w'.heap[t.blk]? = w.heap[t.blk]? := by
  intro i t o hr hi hcn
  refine p.keep _ (inv.bound i t hr) fun i2 t2 o2 h1 h2 h3 => ?_
  have hi2 := hwf i2 o2 h3
  rcases inv.inj i2 i t2 t o2 o h1 hr (by rw [hcat h1 hi2]; exact h3) hcn h2 with e | e
  ·have := p.next; omega
  ·exact e.1
 -- an id below and one above
 have hmix : ∀ {i k ti tk oi ok}, r' i = some ti → i < (Hs (j + 1)).next → (Hs (j + 1)).get i = some oi → r k = some tk → (Hs (j + 1)).next ≤ k → contD n Hs D k = some ok → ti.blk = tk.blk → oi.ro = true ∧ ok.ro = true := by
  intro i k ti tk oi ok h1 h2 h3 h4 h5 h6 e
  have hnx := p.next
  cases hr : r i with
  | none =>
   rcases p.fresh i ti hr h1 with hf | ⟨q, tq, oq, hq1, hq2, hq3, hq4⟩
   ·have := inv.bound k tk h4; omega
   ·have hq5 := hwf q oq hq3
    rcases inv.inj q k tq tk oq ok hq1 h4 (by rw [hcat hq1 hq5]; exact hq3) h6 (hq2.trans e) with e2 | e2
    ·omega
    ·rw [e2.1] at hq4; cases hq4
  | some t' =>
   have := p.le i t' hr
   rw [h1] at this
   cases this
   have hi : i < (Hs j).next := by
    rcases p.gap i _ hr with h | h
    ·exact h
    ·omega
   obtain ⟨o', ho', hro⟩ := p.roKeep i oi hi h3
   rcases inv.inj i k _ tk o' ok hr h4 (by rw [hcat hr hi]; exact ho') h6 e with e2 | e2
   ·omega
   ·exact ⟨by rw [← hro]; exact e2.1, e2.2⟩
 refine ⟨p.le, fun i t o h1 h2 => ?_, p.dom, fun i t o h4 h5 => ?_, fun i k ti tk oi ok h4 h5 h6 h7 e => ?_, p.rel.bound, fun b hb hk => ?_, Nat.le_trans inv.size p.size, inv.env.trans p.env, fun i t h4 h5 => ?_, fun i hi ht => ?_, fun i o hi ho => p.roKeep i o hi ho⟩
 ·rcases Nat.lt_or_ge i (Hs (j + 1)).next with hlt | hge
  ·rw [hcaft h1 hlt] at h2
   cases hr : r i with
   | none =>
    rcases p.fresh i t hr h1 with hf | ⟨q, tq, oq, hq1, hq2, hq3, hq4⟩
    ·exact .inl hf
    ·exact .inr ⟨q, tq, oq, hq1, hq2, by rw [hcat hq1 (hwf q oq hq3)]; exact hq3⟩
   | some t' =>
    have := p.le i t' hr
    rw [h1] at this
    cases this
    have hi : i < (Hs j).next := by
     rcases p.gap i _ hr with h | h
     ·exact h
     ·omega
    obtain ⟨o', ho', hro⟩ := p.roKeep i o hi h2
    exact .inr ⟨i, _, o', hr, rfl, by rw [hcat hr hi]; exact ho'⟩
  ·have hr := hback2 h1 hge
   rw [cont_same (hhigh hge)] at h2
   exact .inr ⟨i, t, o, hr, rfl, h2⟩
 ·rcases Nat.lt_or_ge i (Hs (j + 1)).next with hlt | hge
  ·rw [hcaft h4 hlt] at h5
   exact p.rel.obj i t o h4 h5
  ·have hr := hback2 h4 hge
   rw [cont_same (hhigh hge)] at h5
   exact (inv.obj i t o hr h5).move p.le (hkeepHigh hr hge h5)
 ·rcases Nat.lt_or_ge i (Hs (j + 1)).next with hi | hi <;> rcases Nat.lt_or_ge k (Hs (j + 1)).next with hk | hk
  ·rw [hcaft h4 hi] at h6
   rw [hcaft h5 hk] at h7
   exact p.rel.inj i k ti tk oi ok h4 h5 h6 h7 e
  ·rw [hcaft h4 hi] at h6
   rw [cont_same (hhigh hk)] at h7
   exact .inr (hmix h4 hi h6 (hback2 h5 hk) hk h7 e)
  ·rw [cont_same (hhigh hi)] at h6
   rw [hcaft h5 hk] at h7
   exact .inr (And.symm (hmix h5 hk h7 (hback2 h4 hi) hi h6 e.symm))
  ·rw [cont_same (hhigh hi)] at h6
   rw [cont_same (hhigh hk)] at h7
   exact inv.inj i k ti tk oi ok (hback2 h4 hi) (hback2 h5 hk) h6 h7 e
 ·rw [p.keep b (Nat.lt_of_lt_of_le hb inv.size) fun i t o h1 h2 h3 => ?_]
  ·exact inv.keep b hb hk
  ·cases hr0 : r0 i with
   | none =>
    rcases inv.fresh i t hr0 h1 with hf | ⟨q, tq, oq, hq1, hq2, hq3, hq4⟩
    ·omega
    ·have := hk q tq oq hq1 (hq2.trans h2) hq3
     rw [this] at hq4; cases hq4
   | some t0 =>
    have := inv.le i t0 hr0
    rw [h1] at this
    cases this
    have hi0 := old_id hcall hrun wf0 hn free hr0 (by omega : j ≤ n) h3
    obtain ⟨o0, g1, g2⟩ := ro_back hcall hrun wf0 hn free inv hj hoj turn hc hi0 j (Nat.le_refl j) o h3
    rw [← g2]
    exact hk i _ o0 hr0 h2 g1
 ·cases hr : r i with
  | some t' =>
   have := p.le i t' hr
   rw [h5] at this
   cases this
   exact inv.fresh i _ h4 hr
  | none =>
   rcases p.fresh i t hr h5 with hf | ⟨q, tq, oq, hq1, hq2, hq3, hq4⟩
   ·exact .inl (Nat.le_trans inv.size hf)
   ·cases hq0 : r0 q with
    | none =>
     rcases inv.fresh q tq hq0 hq1 with hf | ⟨q2, tq2, oq2, g1, g2, g3, g4⟩
     ·exact .inl (by omega)
     ·exact .inr ⟨q2, tq2, oq2, g1, g2.trans hq2, g3, g4⟩
    | some tq0 =>
     have := inv.le q tq0 hq0
     rw [hq1] at this
     cases this
     have hi0 := old_id hcall hrun wf0 hn free hq0 (by omega : j ≤ n) hq3
     obtain ⟨o0, g1, g2⟩ := ro_back hcall hrun wf0 hn free inv hj hoj turn hc hi0 j (Nat.le_refl j) oq hq3
     exact .inr ⟨q, _, o0, hq0, hq2, g1, by rw [g2]; exact hq4⟩
 ·obtain ⟨t, h⟩ := p.touch i hi ht
  exact ⟨t, p.le i t h⟩
end
end Go.Ev

/- The abstract machine Ev, part N: regions, code, functions: what the abstract machine computes, the model's machine comes to. -/
namespace Go.Ev
section
variable {E : Nat → Prop} {P : Program} {call : CallFn} {ops : Array Oper} {n : Nat} {F : Nat → List AV} {Hs : Nat → H} {V : Nat → AV} {r0 : Ren} {w0 : World} {ds : List Deferred}
variable (hcall : call.Sound P) (hrun : Run E P call ops n F Hs V) (wf0 : (Hs 0).WF) (hn : n = ops.size) (free : ∀ i, (Hs 0).next ≤ i → i < (Hs n).next → r0 i = none)
include hcall hrun wf0 hn free
theorem inv_step {D : Nat → Prop} {r : Ren} {a : Act} {w : World} (inv : Inv P ops n F Hs V r0 w0 ds D r a w) {j : Nat} (hj : j < n) {oj : Oper} (hoj : ops[j]? = some oj) (turn : Turn P ops D j) (hDj : ¬ D j) (hE : ¬ E j)
  (Q : Exit → Act → World → Prop) (K : Act → World → Prop) (hK : ∀ r' a' w', Inv P ops n F Hs V r0 w0 ds (With D j) r' a' w' → Behind n Hs r0 w0 D j r r' w w' → w.heap.size ≤ w'.heap.size → (∀ b, b < w.heap.size → (∀ i t o, r i = some t → t.blk = b → contD n Hs D i = some o → o.ro = true) → w'.heap[b]? = w.heap[b]?) → K a' w') : wpOp P ops Q j K a w := by
 obtain ⟨o, ho, hst, _⟩ := hrun.step j hj
 rw [hoj] at ho
 cases ho
 replace hst := hst.resolve_right fun h => hE h.1
 rw [← evStep_restrict] at hst
 have hρ := operands_at (Hs := Hs) hrun hn inv hj hoj turn hDj
 unfold wpOp
 simp only [hoj]
 unfold evStep at hst
 obtain ⟨b, hb, hst⟩ := Option.bind_eq_some_iff.1 hst
 rw [wanted_sim hb fun t _ => hρ _]
 cases b with
 | false =>
  simp at hst
  simp only [Bool.false_eq_true, if_false]
  refine hK r _ w (inv_behind hrun hn inv hj hoj turn hDj (behind_same inv hst.2.symm) ?_) (behind_same inv hst.2.symm) (Nat.le_refl _) fun _ _ _ => rfl
  rw [← hst.1]
  exact VR_tup (vs := []) .nil
 | true =>
  simp at hst
  simp only [if_true]
  refine .inl ?_
  cases hc : cls P oj.op with
  | full =>
   have hrel := rel_at hcall hrun wf0 hn free inv hj hoj turn hDj hc
   have hfr := free_at hcall hrun wf0 hn free inv hj hDj
   exact full_leads hcall hρ hrel hfr hc hst Q K fun v' w' ⟨r', hv, hp⟩ => hK r' _ w' (inv_behind hrun hn inv hj hoj turn hDj (behind_full hcall hrun wf0 hn free inv hj hoj turn hDj hc hp) hv) (behind_full hcall hrun wf0 hn free inv hj hoj turn hDj hc hp) hp.size fun b hb hk => hp.keep b hb fun i t o h1 h2 h3 => hk i t o h1 h2 (by
    rw [cont_at (S := noT) hcall hrun wf0 hn free inv hj hoj turn hDj (.inl hc) h1 (Hs_wf hcall hrun wf0 j (by omega) i o h3) (fun h => h)]; exact h3)
  | pure =>
   unfold evOper at hst
   rw [hc] at hst
   obtain ⟨x, hx, hst⟩ := Option.map_eq_some_iff.1 hst
   obtain ⟨rfl, hH⟩ := Prod.mk.inj hst
   exact pure_leads hρ hx w Q K fun v' w' ⟨hv, e⟩ => by subst e; exact hK r _ _ (inv_behind hrun hn inv hj hoj turn hDj (behind_same inv hH.symm) hv) (behind_same inv hH.symm) (Nat.le_refl _) fun _ _ _ => rfl
  | read =>
   have ⟨h0, hrel, hst0⟩ : ∃ h0, Rel r h0 w ∧ evOper P call (restrict ops oj (F j)) oj.op h0 = some (V j, h0) := by
    -- what reads behind earlier ones may not look at
    have ⟨S1, g1, g2⟩ : ∃ S1 : Nat → Prop, (∀ m om, m < j → ops[m]? = some om → cls P om.op = .full → indepB (masks ops) m j = true → ∀ i, i < (Hs m).next → (Hs (m + 1)).get i ≠ (Hs m).get i → S1 i) ∧ evStep P call ops oj (opd (F j)) ((Hs j).minus S1) = some (V j, (Hs j).minus S1) := by
     cases hsh : shyB P ops (masks ops) j with
     | false =>
      refine ⟨noT, fun m om hmj hom hf hi => ?_, ?_⟩
      ·have hi' : ((masks ops m).testBit j || (masks ops j).testBit m) = false := by simpa [indepB] using hi
       have := shy_of (M := masks ops) hom hoj hf hc hi' hmj
       rw [hsh] at this; cases this
      ·obtain ⟨o, ho, hs, _⟩ := hrun.step j hj
       rw [hoj] at ho
       cases ho
       exact evStep_local hc (hs.resolve_right fun h => hE h.1) fun b _ h => h
     | true =>
      obtain ⟨S, q1, q2⟩ := hrun.shy j hj hE hsh
      exact ⟨S, fun m om hmj hom hf hi => q1 m hmj (needQuiet_of hom hoj hf hc (by simpa [indepB] using hi)) hi, q2 oj hoj⟩
    have g3 := evStep_local (S := fun i => ∃ m om, j < m ∧ m < n ∧ ops[m]? = some om ∧ cls P om.op = .full ∧ indepB (masks ops) m j = true ∧ (Hs (m + 1)).get i ≠ (Hs m).get i) hc g2 (fun b hb ⟨m, om, k1, k2, k3, k4, k5, k6⟩ => k6 (hrun.kept m k2 (needQuiet_of k3 hoj k4 hc (by simpa [indepB] using k5)) j oj k1 hoj hc k5 b hb))
    rw [minus_minus] at g3
    rw [← evStep_restrict] at g3
    unfold evStep at g3
    rw [hb] at g3
    simp only [Option.bind_some, if_true] at g3
    refine ⟨_, rel_minus (S := fun i => S1 i ∨ ∃ m om, j < m ∧ m < n ∧ ops[m]? = some om ∧ cls P om.op = .full ∧ indepB (masks ops) m j = true ∧ (Hs (m + 1)).get i ≠ (Hs m).get i) hcall hrun wf0 hn free inv hj hoj turn hDj (.inr ⟨hc, fun m om hm hne hom hf hi i hlt ht => ?_⟩), g3⟩
    rcases Nat.lt_or_ge m j with hmj | hmj
    ·exact .inl (g1 m om hmj hom hf hi i hlt ht)
    ·exact .inr ⟨m, om, by omega, hm, hom, hf, hi, ht⟩
   unfold evOper at hst hst0
   rw [hc] at hst hst0
   obtain ⟨_, _, hst⟩ := Option.map_eq_some_iff.1 hst
   obtain ⟨_, hH⟩ := Prod.mk.inj hst
   obtain ⟨x, hx, hst0⟩ := Option.map_eq_some_iff.1 hst0
   obtain ⟨rfl, _⟩ := Prod.mk.inj hst0
   exact read_leads hρ hrel hx Q K fun v' w' ⟨hv, e⟩ => by subst e; exact hK r _ _ (inv_behind hrun hn inv hj hoj turn hDj (behind_same inv hH.symm) hv) (behind_same inv hH.symm) (Nat.le_refl _) fun _ _ _ => rfl
  | alloc =>
   unfold evOper at hst
   rw [hc] at hst
   obtain ⟨⟨ob, mk⟩, hx, hst⟩ := Option.map_eq_some_iff.1 hst
   obtain ⟨hV, hH⟩ := Prod.mk.inj hst
   have hl := alloc_leads hρ hx w
   exact hl Q K fun v' w' ⟨row, h1, he, h2, h3, h4⟩ => by
    have hb := behind_alloc hcall hrun wf0 free inv hj hDj (row := row) hH.symm h1 he h2 h3
    refine hK _ _ w' (inv_behind hrun hn inv hj hoj turn hDj hb ?_) hb (by omega) fun b hb _ => h2 b hb
    rw [← hV]
    refine h4 _ _ (Ren.le_refl _) ?_
    simp [Ren.put]
theorem inv_end {D : Nat → Prop} {r : Ren} {a : Act} {w : World} (inv : Inv P ops n F Hs V r0 w0 ds D r a w) (hD : ∀ m, m < n → D m) (hfrl : (F 0).length = a.tmps.size) : FR r (F n) a ∧ Post r0 (Hs 0) w0 r (Hs n) w := by
 have hcont : ∀ i, contD n Hs D i = (Hs n).get i := fun i => contD_agree (Nat.le_refl n) fun m hm _ => ⟨fun _ => hm, fun _ => hD m hm⟩
 refine ⟨⟨by rw [length_F hrun n (Nat.le_refl n)]; simpa using hfrl, fun t x v hx hv => ?_⟩, ⟨inv.le, fun i t h1 h2 => ?_, ⟨Hs_wf hcall hrun wf0 n (Nat.le_refl n), fun i t o h1 h2 => inv.obj i t o h1 (by rw [hcont]; exact h2), fun i k ti tk oi ok h1 h2 h3 h4 => inv.inj i k ti tk oi ok h1 h2 (by rw [hcont]; exact h3) (by rw [hcont]; exact h4), inv.bound, inv.gl.mono inv.le⟩, inv.keep, inv.env, inv.size, Hs_mono hcall hrun (Nat.zero_le n) (Nat.le_refl n), inv.fresh, fun i o hi ho => ?_, fun i t h1 => ?_, fun i hi hne => ?_⟩⟩
 ·have hlt : t < (F 0).length := by rw [← length_F hrun n (Nat.le_refl n)]; exact (List.getElem?_eq_some_iff.1 hx).1
  have h1 := inv.slot t hlt
  rw [slotD_agree hrun hlt (Nat.le_refl n) (fun m hm _ => ⟨fun _ => hm, fun _ => hD m hm⟩), List.getD_eq_getElem?_getD, hx] at h1
  simp only [Act.eval, Array.getD_eq_getD_getElem?] at h1
  rw [← Array.getElem?_toList, hv] at h1
  exact h1
 ·obtain ⟨k, hk, _, h3, h4⟩ := inv.dom i t h1 h2
  have := Hs_mono hcall hrun (Nat.zero_le k) (by omega : k ≤ n)
  have := Hs_mono hcall hrun (show k + 1 ≤ n from hk) (Nat.le_refl n)
  exact ⟨by omega, by omega⟩
 ·have : ∀ k, k ≤ n → ∀ o, (Hs k).get i = some o → ∃ o0, (Hs 0).get i = some o0 ∧ o0.ro = o.ro := by
   intro k
   induction k with
   | zero => intro _ o h; exact ⟨o, h, rfl⟩
   | succ k ih =>
    intro hk o h
    obtain ⟨o', h1, h2⟩ := inv.ro k hk (hD k hk) i o (Nat.lt_of_lt_of_le hi (Hs_mono hcall hrun (Nat.zero_le k) (by omega))) h
    obtain ⟨o0, h3, h4⟩ := ih (by omega) o' h1
    exact ⟨o0, h3, h4.trans h2⟩
  exact this n (Nat.le_refl n) o ho
 ·rcases Nat.lt_or_ge i (Hs 0).next with h | h
  ·exact .inl h
  ·rcases Nat.lt_or_ge i (Hs n).next with h' | h'
   ·rw [free i h h'] at h1; cases h1
   ·exact .inr h'
 ·have : ∃ m, m < n ∧ Tc Hs i m := by
   refine Classical.byContradiction fun hno => hne ?_
   have : ∀ k, k ≤ n → (Hs k).get i = (Hs 0).get i := by
    intro k
    induction k with
    | zero => intro _; rfl
    | succ k ih =>
     intro hk
     rw [← ih (by omega)]
     exact Classical.byContradiction fun h => hno ⟨k, hk, h⟩
   exact this n (Nat.le_refl n)
  obtain ⟨m, hm, ht⟩ := this
  obtain ⟨t, hr⟩ := inv.touch m hm (hD m hm) i (Nat.lt_of_lt_of_le hi (Hs_mono hcall hrun (Nat.zero_le m) (by omega))) ht
  cases hr0 : r0 i with
  | some t0 => exact ⟨t0, rfl⟩
  | none =>
   obtain ⟨k, hk, _, h3, h4⟩ := inv.dom i t hr hr0
   have := Hs_mono hcall hrun (Nat.zero_le k) (by omega : k ≤ n)
   omega
end
theorem filter_lt {α : Type} {p p' : α → Bool} {x : α} : ∀ {l : List α}, (∀ y, p' y = true → p y = true) → x ∈ l → p x = true → p' x = false → (l.filter p').length < (l.filter p).length
 | [], _, hx, _, _ => by cases hx
 | y :: l, h, hx, h1, h2 => by
  have hle : ∀ l : List α, (l.filter p').length ≤ (l.filter p).length := by
   intro l
   induction l with
   | nil => simp
   | cons z l ih =>
    simp only [List.filter_cons]
    by_cases hz : p' z = true
    ·rw [if_pos hz, if_pos (h z hz)]; simp; exact ih
    ·rw [if_neg hz]
     split
     ·simp; omega
     ·exact ih
  simp only [List.filter_cons]
  rcases List.mem_cons.1 hx with rfl | hm
  ·rw [if_pos h1, if_neg (by simp [h2])]
   have := hle l
   simp; omega
  ·have ih := filter_lt (l := l) h hm h1 h2
   by_cases hz : p' y = true
   ·rw [if_pos hz, if_pos (h y hz)]; simp; exact ih
   ·rw [if_neg hz]
    split
    ·simp; omega
    ·exact ih
/-- **A drawn region: whatever order is drawn.** -/
theorem region_any {E : Nat → Prop} {P : Program} {call : CallFn} (hcall : call.Sound P) {ops : Array Oper} {F : Nat → List AV} {Hs : Nat → H} {V : Nat → AV} {r0 : Ren} {w0 : World} {ds : List Deferred}
  (hok : okRegion P ops = true) (hrun : Run E P call ops ops.size F Hs V) (wf0 : (Hs 0).WF) (free : ∀ i, (Hs 0).next ≤ i → i < (Hs ops.size).next → r0 i = none) {Q : Exit → Act → World → Prop}
  (hQ : ∀ r a w, FR r (F ops.size) a → a.defers = ds → Post r0 (Hs 0) w0 r (Hs ops.size) w → Q .normal a w) :
  ∀ (fuel : Nat) (listed : Array Bool) (r : Ren) (a : Act) (w : World), listed.size = ops.size → (∀ m, m < ops.size → E m → listed.getD m false = true) → (∀ m o, ops[m]? = some o → listed.getD m false = true → ∀ e ∈ o.after, Region.binds .any e = true → listed.getD e.on false = true) →
   ((List.range ops.size).filter fun i => !listed.getD i true).length ≤ fuel → (∀ D : Nat → Prop, (∀ m, D m ↔ listed.getD m false = true) → Inv P ops ops.size F Hs V r0 w0 ds D r a w) → wpAny P .any ops Q fuel listed a w := by
 simp only [okRegion, Bool.and_eq_true] at hok
 obtain ⟨⟨hM, hH⟩, hP⟩ := hok
 have done : ∀ (listed : Array Bool) (r : Ren) (a : Act) (w : World), listed.size = ops.size → (∀ i, i < ops.size → listed.getD i true = true) →
   (∀ D : Nat → Prop, (∀ m, D m ↔ listed.getD m false = true) → Inv P ops ops.size F Hs V r0 w0 ds D r a w) → Q .normal a w := by
  intro listed r a w hsz hall hinv
  have inv := hinv (fun m => listed.getD m false = true) fun m => Iff.rfl
  have hD : ∀ m, m < ops.size → listed.getD m false = true := fun m hm => by
   have := hall m hm
   simp [hsz, hm] at this ⊢; exact this
  obtain ⟨h1, h2⟩ := inv_end hcall hrun wf0 rfl free inv hD inv.sz.symm
  exact hQ r a w h1 inv.defers h2
 have minimal : ∀ (listed : Array Bool), listed.size = ops.size → Region.ready .any ops listed = [] → ∀ i, i < ops.size → listed.getD i true = true := by
  intro listed hsz hr i
  induction i using Nat.strongRecOn with
  | _ i ih =>
   intro hi
   cases hl : listed.getD i true with
   | true => rfl
   | false =>
    have ho : ops[i]? = some ops[i] := Array.getElem?_eq_getElem hi
    have : i ∈ Region.ready .any ops listed := mem_ready.2 ⟨hl, _, ho, fun e he hb => by
     have h1 := (okM_spec hM ho).1 e he hb
     have h2 := ih e.on h1 (by omega)
     have h3 : e.on < listed.size := by omega
     simp [h3] at h2 ⊢; exact h2⟩
    rw [hr] at this; cases this
 intro fuel
 induction fuel with
 | zero =>
  intro listed r a w hsz hEl hcl hfu hinv
  have hall : ∀ i, i < ops.size → listed.getD i true = true := by
   intro i hi
   cases hl : listed.getD i true with
   | true => rfl
   | false =>
    have hm : i ∈ (List.range ops.size).filter fun i => !listed.getD i true := List.mem_filter.2 ⟨List.mem_range.2 hi, by rw [hl]; rfl⟩
    have : (List.range ops.size).filter (fun i => !listed.getD i true) = [] := List.eq_nil_of_length_eq_zero (by omega)
    rw [this] at hm; cases hm
  refine ⟨?_, done listed r a w hsz hall hinv⟩
  cases hr : Region.ready .any ops listed with
  | nil => rfl
  | cons x xs =>
   have hx : x ∈ Region.ready .any ops listed := by rw [hr]; simp
   obtain ⟨h1, o, h2, _⟩ := mem_ready.1 hx
   rw [hall x (Array.getElem?_eq_some_iff.1 h2).1] at h1; cases h1
 | succ fuel ih =>
  intro listed r a w hsz hEl hcl hfu hinv
  refine ⟨fun hr => done listed r a w hsz (minimal listed hsz hr) hinv, fun j hj => ?_⟩
  obtain ⟨hjl, oj, hoj, hready⟩ := mem_ready.1 hj
  have hjs := (Array.getElem?_eq_some_iff.1 hoj).1
  have inv := hinv (fun m => listed.getD m false = true) fun m => Iff.rfl
  have hDj : ¬ (listed.getD j false = true) := fun h => by
   have h3 : j < listed.size := by omega
   simp [h3] at h hjl; rw [h] at hjl; cases hjl
  have turn := turn_of (P := P) hM hH hP (D := fun m => listed.getD m false = true) hcl hoj hDj hready
  refine inv_step hcall hrun wf0 rfl free inv hjs hoj turn hDj (fun h => hDj (hEl j hjs h)) Q _ fun r' a' w' inv' _ _ _ => ih _ r' a' w' (by simp [hsz]) (fun m hm h => getD_set_true (hEl m hm h)) ?_ ?_ ?_
  ·intro m o ho hm e he hb
   by_cases hmj : j = m
   ·subst hmj
    rw [hoj] at ho
    cases ho
    exact getD_set_true (hready e he hb)
   ·rw [getD_set_ne false hmj] at hm
    exact getD_set_true (hcl m o ho hm e he hb)
  ·have := filter_lt (l := List.range ops.size) (p := fun i => !listed.getD i true) (p' := fun i => !(listed.setIfInBounds j true).getD i true) (x := j) (fun y hy => by
     by_cases hyj : j = y
     ·subst hyj; rw [hjl]; rfl
     ·rw [getD_set_ne true hyj] at hy; exact hy) (List.mem_range.2 hjs) (by rw [hjl]; rfl) (by
     have h3 : j < listed.size := by omega
     simp [h3])
   omega
  ·intro D hD
   have hDe : D = With (fun m => listed.getD m false = true) j := by
    funext m
    refine propext ((hD m).trans ?_)
    unfold With
    by_cases hmj : j = m
    ·subst hmj
     have h3 : j < listed.size := by omega
     simp [h3]
    ·rw [getD_set_ne false hmj]
     exact ⟨.inl, fun h => h.resolve_right fun e => hmj e.symm⟩
   rw [hDe]; exact inv'
inductive AExit where
 | normal
 | exit (id : Nat)
 | ret
 deriving DecidableEq
def AExit.to : AExit → Exit
 | .normal => .normal
 | .exit id => .exit id
 | .ret => .ret
abbrev AState := List AV × H
noncomputable def evRegion (P : Program) (call : CallFn) (ops : Array Oper) (draw : Bool) (s : AState) : Option AState :=
 if draw then evOpsQ P call ops ops.toList 0 s.1 s.2 noT [] else evOps P call ops ops.toList s.1 s.2
theorem evOpsQ_grows {P : Program} {call : CallFn} (hcall : call.Sound P) {ops : Array Oper} : ∀ {l : List Oper} {k : Nat} {fr fr' : List AV} {h h' : H} {S : Nat → Prop} {Js : List (Nat × AV)}, evOpsQ P call ops l k fr h S Js = some (fr', h') → h.next ≤ h'.next ∧ (h.WF → h'.WF)
 | [], k, fr, fr', h, h', S, Js, hs => by simp only [evOpsQ] at hs; cases hs; exact ⟨Nat.le_refl _, id⟩
 | o :: rest, k, fr, fr', h, h', S, Js, hs => by
  simp only [evOpsQ] at hs
  split at hs
  ·obtain ⟨⟨v, h1⟩, h2, hs⟩ := Option.bind_eq_some_iff.1 hs
   exact evOpsQ_grows hcall hs
  ·obtain ⟨⟨v, h1⟩, h2, hs⟩ := Option.bind_eq_some_iff.1 hs
   have g1 := evStep_grows hcall h2
   simp only at hs
   split at hs
   ·split at hs
    ·exact ⟨Nat.le_trans g1.1 (evOpsQ_grows hcall hs).1, fun hw => (evOpsQ_grows hcall hs).2 (g1.2 hw)⟩
    ·cases hs
   ·exact ⟨Nat.le_trans g1.1 (evOpsQ_grows hcall hs).1, fun hw => (evOpsQ_grows hcall hs).2 (g1.2 hw)⟩
theorem evRegion_grows {P : Program} {call : CallFn} (hcall : call.Sound P) {ops : Array Oper} {draw : Bool} {s s' : AState} (h : evRegion P call ops draw s = some s') : s.2.next ≤ s'.2.next ∧ (s.2.WF → s'.2.WF) := by
 unfold evRegion at h
 split at h
 ·exact evOpsQ_grows hcall h
 ·exact evOps_grows hcall h
/-- what a piece of code leads to -/
def Ends (P : Program) (c : Code) (r : Ren) (s : AState) (a : Act) (w : World) (e : AExit) (s' : AState) : Prop :=
 ∀ Q : Exit → Act → World → Prop, (∀ r' a' w', FR r' s'.1 a' → a'.defers = a.defers → Post r s.2 w r' s'.2 w' → Q e.to a' w') → c.wp P Q a w
theorem getD_rep (m j : Nat) : (Array.replicate m false).getD j false = false := by
 rcases Nat.lt_or_ge j m with h | h
 ·simp [h]
 ·simp [h]
theorem region_ends {P : Program} (hm : P.follows .mixedOrders = true) {call : CallFn} (hcall : call.Sound P) {id : Nat} {ops : Array Oper} {draw : Bool} (hok : (!draw || okRegion P ops) = true) {s s' : AState} (h : evRegion P call ops draw s = some s')
  {r : Ren} {a : Act} {w : World} (hfr : FR r s.1 a) (hrel : Rel r s.2 w) (hfree : ∀ i, s.2.next ≤ i → i < s'.2.next → r i = none) : Ends P (.region id ops draw) r s a w .normal s' := by
 intro Q hQ
 unfold evRegion at h
 cases draw with
 | false =>
  simp only [Bool.false_eq_true, if_false] at h
  exact wp_region_list (evOps_wp hcall h hfr hrel hfree fun r' a' w' h1 h2 h3 => hQ r' a' w' h1 h2 h3)
 | true =>
  simp only [if_true] at h
  simp only [Bool.not_true, Bool.false_or] at hok
  obtain ⟨F, Hs, V, e1, e2, e3, e4, e5, e6, e7⟩ := run_of_evOpsQ h (fun j _ => by simp)
  have hsz : ops.toList.length = ops.size := by simp
  rw [hsz] at e3 e4 e5 e6 e7
  have hrun : Run (fun _ => False) P call ops ops.size F Hs V := ⟨fun k hk => by
   obtain ⟨o, g1, g2, g3⟩ := e5 k hk
   exact ⟨o, by simpa using g1, .inl g2, g3⟩, fun k hk hq j oj hj hoj hc hi b hb => (e6 k hk (by simpa using hq)).2 j oj hj (by simpa using hoj) hc (by simpa using hi) b hb, fun k hk _ hs => by
   obtain ⟨S, _, g1, g2⟩ := e7 k hk (by simpa using hs)
   exact ⟨S, fun m hm hq _ => g1 m hm (by simpa using hq), fun o ho => g2 o (by simpa using ho)⟩⟩
  have hw : Post r s.2 w r s.2 w.drew := Post.same hrel rfl ⟨rfl, rfl, rfl, fun _ => Nat.le_succ _⟩
  refine wp_region_any hm ?_
  have hlen : (F 0).length = a.tmps.size := by rw [e1]; simpa using hfr.1
  refine region_any hcall hok hrun (r0 := r) (w0 := w.drew) (ds := a.defers) (by rw [e2]; exact hrel.wf) (by rw [e2, e4]; exact hfree) (fun r' a' w' h1 h2 h3 => ?_) ops.size _ r a w.drew (by simp) (fun _ _ h => h.elim) ?_ ?_ ?_
  ·rw [e2, e4] at h3
   rw [e3] at h1
   exact hQ r' a' w' h1 h2 (hw.trans h3)
  ·intro m o ho hm' e he hb
   rw [getD_rep] at hm'; cases hm'
  ·have := List.length_filter_le (fun i => !(Array.replicate ops.size false).getD i true) (List.range ops.size)
   simpa using this
  ·intro D hD
   have hno : ∀ m, ¬ D m := fun m h => by have := (hD m).1 h; rw [getD_rep] at this; cases this
   have hcont : ∀ i, contD ops.size Hs D i = (Hs 0).get i := fun i => contD_agree (Nat.zero_le _) fun m _ _ => ⟨fun h => absurd h (hno m), fun h => by omega⟩
   refine ⟨Ren.le_refl _, (fun i t h1 h2 => by rw [h1] at h2; cases h2), hlen.symm, fun t ht => ?_, fun i t o h1 h2 => ?_, fun i k ti tk oi ok h1 h2 h3 h4 => ?_, hw.rel.bound, fun _ _ _ => rfl, Nat.le_refl _, .refl _, (fun i t h1 h2 => by rw [h1] at h2; cases h2), fun m _ h => absurd h (hno m), fun m _ h => absurd h (hno m), rfl, hrel.glob⟩
   ·rw [slotD_agree hrun ht (Nat.zero_le _) fun m _ _ => ⟨fun h => absurd h (hno m), fun h => by omega⟩, e1]
    exact opd_VR hfr hrel.glob (.tmp t)
   ·rw [hcont, e2] at h2
    exact hw.rel.obj i t o h1 h2
   ·rw [hcont, e2] at h3 h4
    exact hw.rel.inj i k ti tk oi ok h1 h2 h3 h4
def evResult (P : Program) (s : AState) : ResultVar → Option AV
 | .tmp t => some (s.1.getD t .junk)
 | .cell a t => evLoad P t (s.1.getD a .junk) s.2
def oneOf (vs : List AV) : AV := match vs with | [v] => v | vs => .tup vs
def resSem (tmps : Array Value) (x : ResultVar) : Sem Value :=
 match x with
 | .tmp t => pure (tmps.getD t undef)
 | .cell a t => do loadVar t (← asAddr (tmps.getD a undef))
theorem VR_oneOf {r : Ren} {vs : List AV} {vs' : List Value} (h : VRL r vs vs') : VR r (oneOf vs) (if h : vs'.toArray.size = 1 then vs'.toArray[0] else .tuple vs'.toArray) := by
 match vs, vs', h with
 | [], [], h => exact VR_tup h
 | [v], [v'], h => exact h.2 0 v v' rfl rfl
 | v :: u :: vs, v' :: u' :: vs', h =>
  simp only [oneOf]
  rw [dif_neg (by simp)]
  exact VR_tup h
 | [], _ :: _, h => have := h.1; simp at this
 | _ :: _, [], h => have := h.1; simp at this
 | [_], _ :: _ :: _, h => have := h.1; simp at this
 | _ :: _ :: _, [_], h => have := h.1; simp at this
end Go.Ev

/- The abstract machine Ev, part P: the same computing, each test ahead of what follows (so that it unfolds into plain nested terms), values in their types' shapes. -/
namespace Go.Ev
abbrev KF := List (Nat × AV)
def look : KF → Nat → AV
 | [], _ => .junk
 | (d, v) :: A, t => match Nat.beq d t with | true => v | false => look A t
def kopd (N : Nat) (A : KF) : Operand → AV
 | .tmp t => match Nat.blt t N with | true => look A t | false => .junk
 | .const v => ofValue v
 | .global g => glV g
 | .func f => .func f [] []
def kput (N : Nat) (A : KF) (d : Option Tmp) (v : AV) : KF :=
 match d with
 | none => A
 | some d => match Nat.blt d N with | true => (d, v) :: A | false => A
/-- a table of functions, each test ahead of what follows -/
structure CK where
 run : ∀ {β : Type}, FuncId → List AV → H → (AV → H → Option β) → Option β
 nat : ∀ {β : Type} (f : FuncId) (args : List AV) (h : H) (k : AV → H → Option β), run f args h k = (run f args h fun v h' => some (v, h')).bind fun q => k q.1 q.2
def CK.call (c : CK) : CallFn := fun f args h => c.run f args h fun v h' => some (v, h')
section
variable {β : Type}
def nnK (p : Option (Nat × Nat)) (f : Nat → Nat → Option β) : Option β := match p with | some (b, o) => f b o | none => none
def offK (o : Nat) (n : Int) (s : Nat) : Nat := match Nat.beq s 1 with | true => o + n.toNat | false => o + n.toNat * s
def asInt (k : IntKind) (v : AV) (f : Int → Option β) : Option β := match v with | .int k' n => if k' = k then f n else none | _ => none
def asBool (v : AV) (f : Bool → Option β) : Option β := match v with | .bool b => f b | _ => none
def asStr (v : AV) (f : ByteArray → Option β) : Option β := match v with | .str s => f s | _ => none
def asPtr (v : AV) (f : Option (Nat × Nat) → Option β) : Option β := match v with | .ptr p => f p | _ => none
def asSlice (v : AV) (f : Option (Nat × Nat) → Nat → Cap → Option β) : Option β := match v with | .slice p l c => f p l c | _ => none
def asMap (v : AV) (f : Option Nat → Option β) : Option β := match v with | .map m => f m | _ => none
def asAgg (v : AV) (f : List AV → Option β) : Option β := match v with | .agg l => f l | _ => none
def l0 (l : List AV) (f : Option β) : Option β := match l with | [] => f | _ => none
def lc (l : List AV) (f : AV → List AV → Option β) : Option β := match l with | v :: vs => f v vs | _ => none
theorem l0_some {l : List AV} {f : Option β} {x : β} (h : l0 l f = some x) : l = [] ∧ f = some x := by
 unfold l0 at h; split at h
 ·exact ⟨rfl, h⟩
 ·cases h
theorem lc_some {l : List AV} {f : AV → List AV → Option β} {x : β} (h : lc l f = some x) : ∃ v vs, l = v :: vs ∧ f v vs = some x := by
 unfold lc at h; split at h
 ·exact ⟨_, _, rfl, h⟩
 ·cases h
inductive Shape where
 | int (k : IntKind)
 | bool
 | str
 | ptr
 | slice
 | map
 | any
 /-- so many cells, not looked into -/
 | row
 /-- cells of these shapes -/
 | cells (l : List Shape)
mutual
def shapeK : Shape → AV → (AV → Option β) → Option β
 | .int k, v, f => asInt k v fun n => f (.int k n)
 | .bool, v, f => asBool v fun b => f (.bool b)
 | .str, v, f => asStr v fun s => f (.str s)
 | .ptr, v, f => asPtr v fun p => f (.ptr p)
 | .slice, v, f => asSlice v fun p l c => f (.slice p l c)
 | .map, v, f => asMap v fun m => f (.map m)
 | .any, v, f => f v
 | .row, v, f => asAgg v fun l => f (.agg l)
 | .cells l, v, f => asAgg v fun vs => shapesK l vs fun us => f (.agg us)
def shapesK : List Shape → List AV → (List AV → Option β) → Option β
 | [], vs, f => l0 vs (f [])
 | s :: ss, vs, f => lc vs fun v vs => shapeK s v fun u => shapesK ss vs fun us => f (u :: us)
end
theorem asInt_some {k : IntKind} {v : AV} {f : Int → Option β} {x : β} (h : asInt k v f = some x) : ∃ n, v = .int k n ∧ f n = some x := by
 unfold asInt at h; split at h
 ·split at h
  ·rename_i e; subst e; exact ⟨_, rfl, h⟩
  ·cases h
 ·cases h
theorem asBool_some {v : AV} {f : Bool → Option β} {x : β} (h : asBool v f = some x) : ∃ b, v = .bool b ∧ f b = some x := by
 unfold asBool at h; split at h
 ·exact ⟨_, rfl, h⟩
 ·cases h
theorem asStr_some {v : AV} {f : ByteArray → Option β} {x : β} (h : asStr v f = some x) : ∃ b, v = .str b ∧ f b = some x := by
 unfold asStr at h; split at h
 ·exact ⟨_, rfl, h⟩
 ·cases h
theorem asPtr_some {v : AV} {f : Option (Nat × Nat) → Option β} {x : β} (h : asPtr v f = some x) : ∃ b, v = .ptr b ∧ f b = some x := by
 unfold asPtr at h; split at h
 ·exact ⟨_, rfl, h⟩
 ·cases h
theorem asSlice_some {v : AV} {f : Option (Nat × Nat) → Nat → Cap → Option β} {x : β} (h : asSlice v f = some x) : ∃ p l c, v = .slice p l c ∧ f p l c = some x := by
 unfold asSlice at h; split at h
 ·exact ⟨_, _, _, rfl, h⟩
 ·cases h
theorem asMap_some {v : AV} {f : Option Nat → Option β} {x : β} (h : asMap v f = some x) : ∃ b, v = .map b ∧ f b = some x := by
 unfold asMap at h; split at h
 ·exact ⟨_, rfl, h⟩
 ·cases h
theorem asAgg_some {v : AV} {f : List AV → Option β} {x : β} (h : asAgg v f = some x) : ∃ b, v = .agg b ∧ f b = some x := by
 unfold asAgg at h; split at h
 ·exact ⟨_, rfl, h⟩
 ·cases h
mutual
theorem shapeK_some : ∀ (s : Shape) {v : AV} {f : AV → Option β} {x : β}, shapeK s v f = some x → f v = some x
 | .int k, v, f, x, h => by simp only [shapeK] at h; obtain ⟨n, rfl, h2⟩ := asInt_some h; exact h2
 | .bool, v, f, x, h => by simp only [shapeK] at h; obtain ⟨n, rfl, h2⟩ := asBool_some h; exact h2
 | .str, v, f, x, h => by simp only [shapeK] at h; obtain ⟨n, rfl, h2⟩ := asStr_some h; exact h2
 | .ptr, v, f, x, h => by simp only [shapeK] at h; obtain ⟨n, rfl, h2⟩ := asPtr_some h; exact h2
 | .slice, v, f, x, h => by simp only [shapeK] at h; obtain ⟨_, _, _, rfl, h2⟩ := asSlice_some h; exact h2
 | .map, v, f, x, h => by simp only [shapeK] at h; obtain ⟨n, rfl, h2⟩ := asMap_some h; exact h2
 | .any, v, f, x, h => by simpa only [shapeK] using h
 | .row, v, f, x, h => by simp only [shapeK] at h; obtain ⟨n, rfl, h2⟩ := asAgg_some h; exact h2
 | .cells l, v, f, x, h => by simp only [shapeK] at h; obtain ⟨n, rfl, h2⟩ := asAgg_some h; exact shapesK_some l h2
theorem shapesK_some : ∀ (ss : List Shape) {vs : List AV} {f : List AV → Option β} {x : β}, shapesK ss vs f = some x → f vs = some x
 | [], vs, f, x, h => by
  simp only [shapesK] at h
  obtain ⟨rfl, h⟩ := l0_some h
  exact h
 | s :: ss, vs, f, x, h => by
  simp only [shapesK] at h
  obtain ⟨v, vs', rfl, h⟩ := lc_some h
  have h2 := shapeK_some s h; exact shapesK_some ss (f := fun us => f (_ :: us)) h2
end
/-- the shape of a cell's type -/
def cellShape (P : Program) (t : TypeId) : Shape :=
 match P.underlying t with
 | some (.int k) => .int k
 | some .bool => .bool
 | some .string => .str
 | some (.pointer _) => .ptr
 | some (.slice _) => .slice
 | some (.map _ _) => .map
 | _ => .any
/-- the cells of a struct, structs within it too -/
def flatShape (P : Program) : Nat → TypeId → Option (List Shape)
 | 0, _ => none
 | d + 1, t =>
  match P.underlying t with
  | some (.struct fs) => fs.toList.foldr (fun f acc => match flatShape P d f.type, acc with | some a, some b => some (a ++ b) | _, _ => none) (some [])
  | some (.array _ _) => none
  | _ => some [cellShape P t]
/-- a struct whose fields are cells, and not too many, is looked into; any other row is not -/
def rowShape (P : Program) (t : TypeId) : Shape :=
 match P.underlying t with
 | some (.struct _) => (match flatShape P 5 t with | some l => (match Nat.ble l.length 24 with | true => .cells l | false => .row) | none => .row)
 | some (.array _ _) => .row
 | _ => cellShape P t
def cellK (h : H) (i o : Nat) (f : AV → Option β) : Option β := match h.get i with | some (.cells cs _) => (match cs[o]? with | some v => f v | none => none) | _ => none
def aggK (h : H) (i o n : Nat) (f : List AV → Option β) : Option β := match h.get i with | some (.cells cs _) => if o + n ≤ cs.length then f ((cs.drop o).take n) else none | _ => none
def wrK (h : H) (i o n : Nat) (xs : List AV) (f : H → Option β) : Option β :=
 match h.get i with
 | some (.cells cs false) => if xs.length = n ∧ o + xs.length ≤ cs.length ∧ xs.all isCell = true then f (h.set i (.cells (spl cs o xs) false)) else none
 | _ => none
def loadK (P : Program) (t : TypeId) (p : AV) (h : H) (k : AV → Option β) : Option β :=
 match P.underlying t with
 | none => none
 | some d => asPtr p fun p => nnK p fun i o =>
  match aggB d with
  | false => cellK h i o fun v => shapeK (cellShape P t) v k
  | true => match P.info? t with | none => none | some inf => aggK h i o inf.size fun l => shapeK (rowShape P t) (.agg l) k
theorem loadK_some {P : Program} {t : TypeId} {p : AV} {h : H} {k : AV → Option β} {x : β} (e : loadK P t p h k = some x) : ∃ v, evLoad P t p h = some v ∧ k v = some x := by
 unfold loadK at e
 (try dsimp only at e); split at e
 ·cases e
 ·rename_i d hu
  obtain ⟨p, hx, e'⟩ := asPtr_some e
  clear e; subst hx; have e := e'; clear e'
  unfold nnK at e
  (try dsimp only at e); split at e
  ·rename_i i o
   (try dsimp only at e); split at e
   ·rename_i ha
    unfold cellK at e
    (try dsimp only at e); split at e
    ·rename_i cs ro hg
     (try dsimp only at e); split at e
     ·rename_i v hv
      exact ⟨v, by simp [evLoad, hu, hg, ha, hv], shapeK_some _ e⟩
     ·cases e
    ·cases e
   ·rename_i ha
    (try dsimp only at e); split at e
    ·cases e
    ·rename_i inf hi
     unfold aggK at e
     (try dsimp only at e); split at e
     ·rename_i cs ro hg
      (try dsimp only at e); split at e
      ·rename_i hb
       refine ⟨_, ?_, shapeK_some _ e⟩
       have : P.cellsOf t = inf.size := by simp [Program.cellsOf, hi]
       simp [evLoad, hu, hg, ha, hi, this, hb]
      ·cases e
     ·cases e
  ·cases e
def storeK (P : Program) (t : TypeId) (p x : AV) (h : H) (k : H → Option β) : Option β :=
 match P.info? t, acells x with
 | some inf, some xs => asPtr p fun p => nnK p fun i o => wrK h i o inf.size xs k
 | _, _ => none
theorem storeK_some {P : Program} {t : TypeId} {p y : AV} {h : H} {k : H → Option β} {x : β} (e : storeK P t p y h k = some x) : ∃ h', evStore P t p y h = some h' ∧ k h' = some x := by
 unfold storeK at e
 (try dsimp only at e); split at e
 ·rename_i inf xs hi hxs
  obtain ⟨p, hx, e'⟩ := asPtr_some e
  clear e; subst hx; have e := e'; clear e'
  unfold nnK at e
  (try dsimp only at e); split at e
  ·rename_i i o
   unfold wrK at e
   (try dsimp only at e); split at e
   ·rename_i cs hg
    (try dsimp only at e); split at e
    ·rename_i hb
     refine ⟨_, ?_, e⟩
     have : P.cellsOf t = inf.size := by simp [Program.cellsOf, hi]
     simp only [evStore, hxs, hg]
     rw [if_pos ⟨by rw [hi]; rfl, by rw [this]; exact hb.1, hb.2⟩]
    ·cases e
   ·cases e
  ·cases e
 ·cases e
def indexAddrK (P : Program) (t : TypeId) (x i : AV) (k : AV → Option β) : Option β :=
  match P.underlying t with
  | some (.array len e) =>
    (match P.info? e with
     | none => none
     | some inf => asPtr x fun p => nnK p fun b o => match i with | .int _ n => if 0 ≤ n ∧ n < len then k (.ptr (some (b, offK o n inf.size))) else none | _ => none)
  | some (.slice e) =>
    (match P.info? e with
     | none => none
     | some inf => asSlice x fun p len _ => match i with | .int _ n => if 0 ≤ n ∧ n < len then nnK p fun b o => k (.ptr (some (b, offK o n inf.size))) else none | _ => none)
  | _ => none
theorem offK_eq (o : Nat) (n : Int) (s : Nat) : offK o n s = o + n.toNat * s := by
 unfold offK
 split
 ·rename_i h; have := Nat.eq_of_beq_eq_true h; subst this; simp
 ·rfl
theorem indexAddrK_some {P : Program} {t : TypeId} {y i : AV} {k : AV → Option β} {x : β} (e : indexAddrK P t y i k = some x) : ∃ v, evIndexAddr P t y i = some v ∧ k v = some x := by
 unfold indexAddrK at e
 (try dsimp only at e); split at e
 ·rename_i len el hu
  (try dsimp only at e); split at e
  ·cases e
  ·rename_i inf hi
   have hc : P.cellsOf el = inf.size := by simp [Program.cellsOf, hi]
   obtain ⟨p, hx, e'⟩ := asPtr_some e
   clear e; subst hx; have e := e'; clear e'
   unfold nnK at e
   (try dsimp only at e); split at e
   ·(try dsimp only at e); split at e
    ·(try dsimp only at e); split at e
     ·rename_i hb
      refine ⟨_, ?_, e⟩
      simp only [evIndexAddr, hu, hi, hc, offK_eq]
      rw [if_pos ⟨hb.1, hb.2, rfl⟩]
     ·cases e
    ·cases e
   ·cases e
 ·rename_i el hu
  (try dsimp only at e); split at e
  ·cases e
  ·rename_i inf hi
   have hc : P.cellsOf el = inf.size := by simp [Program.cellsOf, hi]
   obtain ⟨p, len, c, hx, e'⟩ := asSlice_some e
   clear e; subst hx; have e := e'; clear e'
   (try dsimp only at e); split at e
   ·(try dsimp only at e); split at e
    ·rename_i hb
     unfold nnK at e
     (try dsimp only at e); split at e
     ·refine ⟨_, ?_, e⟩
      simp only [evIndexAddr, hu, hi, hc, offK_eq]
      rw [if_pos ⟨hb.1, hb.2, rfl⟩]
     ·cases e
    ·cases e
   ·cases e
 ·cases e
def atK (l : List AV) (o : Nat) (f : AV → Option β) : Option β := match l[o]? with | some v => f v | none => none
def byteK (s : ByteArray) (n : Int) (f : Int → Option β) : Option β := if 0 ≤ n then (match s[n.toNat]? with | some b => f b.toNat | none => none) else none
def partK (P : Program) (t : TypeId) (cs : List AV) (off : Nat) (k : AV → Option β) : Option β :=
 match P.underlying t with
 | none => none
 | some d =>
  match aggB d with
  | true => (match P.info? t with | none => none | some inf => shapeK (rowShape P t) (.agg ((cs.drop off).take inf.size)) k)
  | false => atK cs off fun v => shapeK (cellShape P t) v k
theorem partK_some {P : Program} {t : TypeId} {cs : List AV} {off : Nat} {k : AV → Option β} {x : β} (e : partK P t cs off k = some x) : ∃ v, evPart P t cs off = some v ∧ k v = some x := by
 unfold partK at e
 (try dsimp only at e); split at e
 ·cases e
 ·rename_i d hu
  (try dsimp only at e); split at e
  ·rename_i ha
   (try dsimp only at e); split at e
   ·cases e
   ·rename_i inf hi
    have hc : P.cellsOf t = inf.size := by simp [Program.cellsOf, hi]
    exact ⟨_, by simp [evPart, hu, ha, hi, hc], shapeK_some _ e⟩
  ·rename_i ha
   unfold atK at e
   (try dsimp only at e); split at e
   ·rename_i v hv
    exact ⟨v, by simp [evPart, hu, ha, hv], shapeK_some _ e⟩
   ·cases e
def indexK (P : Program) (t : TypeId) (x i : AV) (k : AV → Option β) : Option β :=
  match P.underlying t with
  | some (.array len e) =>
    (match P.info? e with
     | none => none
     | some inf => asAgg x fun cs => match i with | .int _ n => if 0 ≤ n ∧ n < len then partK P e cs (offK 0 n inf.size) k else none | _ => none)
  | some .string => asStr x fun s => match i with | .int _ n => byteK s n fun c => k (.int .u8 c) | _ => none
  | _ => none
theorem indexK_some {P : Program} {t : TypeId} {y i : AV} {k : AV → Option β} {x : β} (e : indexK P t y i k = some x) : ∃ v, evIndex P t y i = some v ∧ k v = some x := by
 unfold indexK at e
 (try dsimp only at e); split at e
 ·rename_i len el hu
  (try dsimp only at e); split at e
  ·cases e
  ·rename_i inf hi
   have hc : P.cellsOf el = inf.size := by simp [Program.cellsOf, hi]
   obtain ⟨cs, hx, e'⟩ := asAgg_some e
   clear e; subst hx; have e := e'; clear e'
   (try dsimp only at e); split at e
   ·(try dsimp only at e); split at e
    ·rename_i hb
     obtain ⟨v, hv, hk⟩ := partK_some e
     refine ⟨v, ?_, hk⟩
     rw [offK_eq, Nat.zero_add] at hv
     simp only [evIndex, hu, hi, hc]
     rw [if_pos hb]; simpa using hv
    ·cases e
   ·cases e
 ·rename_i hu
  obtain ⟨s, hx, e'⟩ := asStr_some e
  clear e; subst hx; have e := e'; clear e'
  (try dsimp only at e); split at e
  ·unfold byteK at e
   (try dsimp only at e); split at e
   ·rename_i hb
    (try dsimp only at e); split at e
    ·rename_i b hs
     refine ⟨_, ?_, e⟩
     simp only [evIndex, hu]
     rw [if_pos hb, hs]; rfl
    ·cases e
   ·cases e
  ·cases e
 ·cases e
def slK (size : Nat) (p : Option (Nat × Nat)) (len : Nat) (c : Cap) (lo hi mx : Option AV) (f : Option (Nat × Nat) → Nat → Cap → Option β) : Option β :=
 match evSliceS size (.slice p len c) lo hi mx with
 | some (.slice p' l' c') => f p' l' c'
 | _ => none
def bndK (n h m : Nat) (lo hi mx : Option AV) (f : Nat → Nat → Nat → Option β) : Option β := match evBounds n h lo hi mx with | some (l, hh, mm) => f l hh mm | none => none
def sliceK (P : Program) (t : TypeId) (x : AV) (lo hi mx : Option AV) (k : AV → Option β) : Option β :=
  match P.underlying t with
  | some (.array n e) =>
    (match P.info? e with
     | none => none
     | some inf => asPtr x fun p => nnK p fun b o => bndK n n 0 lo hi mx fun l h m => k (.slice (some (b, if m = l then o else o + l * inf.size)) (h - l) (.known (m - l))))
  | some .string => (match mx with | some _ => none | none => asStr x fun s => bndK s.size s.size 0 lo hi none fun l h _ => k (.str (s.extract l h)))
  | some (.slice e) => (match P.info? e with | none => none | some inf => asSlice x fun p len c => slK inf.size p len c lo hi mx fun p l c => k (.slice p l c))
  | _ => none
theorem sliceK_some {P : Program} {t : TypeId} {y : AV} {lo hi mx : Option AV} {k : AV → Option β} {x : β} (e : sliceK P t y lo hi mx k = some x) : ∃ v, evSlice P t y lo hi mx = some v ∧ k v = some x := by
 unfold sliceK at e
 (try dsimp only at e); split at e
 ·rename_i n el hu
  (try dsimp only at e); split at e
  ·cases e
  ·rename_i inf hi'
   have hc : P.cellsOf el = inf.size := by simp [Program.cellsOf, hi']
   obtain ⟨p, hx, e'⟩ := asPtr_some e
   clear e; subst hx; have e := e'; clear e'
   unfold nnK at e
   (try dsimp only at e); split at e
   ·unfold bndK at e
    (try dsimp only at e); split at e
    ·rename_i l hh mm hb
     refine ⟨_, ?_, e⟩
     simp [evSlice, hu, hi', hc, hb]
    ·cases e
   ·cases e
 ·rename_i hu
  (try dsimp only at e); split at e
  ·cases e
  ·obtain ⟨s, hx, e'⟩ := asStr_some e
   clear e; subst hx; have e := e'; clear e'
   unfold bndK at e
   (try dsimp only at e); split at e
   ·rename_i l hh mm hb
    refine ⟨_, ?_, e⟩
    simp [evSlice, hu, hb]
   ·cases e
 ·rename_i el hu
  (try dsimp only at e); split at e
  ·cases e
  ·rename_i inf hi'
   have hc : P.cellsOf el = inf.size := by simp [Program.cellsOf, hi']
   obtain ⟨p, len, c, hx, e'⟩ := asSlice_some e
   clear e; subst hx; have e := e'; clear e'
   unfold slK at e
   (try dsimp only at e); split at e
   ·rename_i hs
    refine ⟨_, ?_, e⟩
    simp [evSlice, hu, hi', hc, hs]
   ·cases e
 ·cases e
def appK (size bytes : Nat) (p : Option (Nat × Nat)) (len : Nat) (c : Cap) (src : Option (Nat × List AV)) (h : H) (f : Option (Nat × Nat) → Nat → Cap → H → Option β) : Option β :=
 match src with
 | none => none
 | some q => match evApp size bytes q.1 q.2 (.slice p len c) h with | some (.slice p' l' c', h') => f p' l' c' h' | _ => none
def appendK (P : Program) (ts : List TypeId) (xs : List AV) (h : H) (k : AV → H → Option β) : Option β :=
  match ts, xs with
  | [t1, t2], [s, x] =>
    match P.underlying t1, P.underlying t2 with
    | some (.slice e), some d2 =>
      (match isIntD d2 with
       | true => none
       | false => match P.info? e, evZero P e with
         | some inf, some zs => (match Nat.beq zs.length inf.size && Nat.blt 0 inf.size with
           | true => asSlice s fun p len c => appK inf.size inf.bytes p len c (evSrc inf.size x h) h fun p l c h' => k (.slice p l c) h'
           | false => none)
         | _, _ => none)
    | _, _ => none
  | _, _ => none
theorem appendK_some {P : Program} {ts : List TypeId} {xs : List AV} {h : H} {k : AV → H → Option β} {x : β} (e : appendK P ts xs h k = some x) : ∃ v h', evAppend P ts xs h = some (v, h') ∧ k v h' = some x := by
 unfold appendK at e
 (try dsimp only at e); split at e
 ·(try dsimp only at e); split at e
  ·rename_i el d2 hu1 hu2
   (try dsimp only at e); split at e
   ·cases e
   ·rename_i hd
    (try dsimp only at e); split at e
    ·rename_i inf zs hi hz
     (try dsimp only at e); split at e
     ·rename_i hb
      simp only [Bool.and_eq_true] at hb
      obtain ⟨hb1, hb2⟩ := hb
      have hb1 := Nat.eq_of_beq_eq_true hb1
      have hb2 : 0 < inf.size := by simpa [Nat.blt_eq] using hb2
      obtain ⟨p, len, c, hx, e'⟩ := asSlice_some e
      clear e; subst hx; have e := e'; clear e'
      unfold appK at e
      (try dsimp only at e); split at e
      ·cases e
      ·rename_i q hq
       (try dsimp only at e); split at e
       ·rename_i hap
        refine ⟨_, _, ?_, e⟩
        simp [evAppend, hu1, hu2, hd, hi, hz, hq, hb1, hb2, hap]
       ·cases e
     ·cases e
    ·cases e
  ·cases e
 ·cases e
def cpyK (size : Nat) (P : Program) (ts : List TypeId) (xs : List AV) (h : H) (f : Int → H → Option β) : Option β :=
 match evCopy P ts xs h with
 | some (.int .i64 n, h') => f n h'
 | _ => none
def catK (a b : ByteArray) (f : ByteArray → Option β) : Option β := if ((a.size + b.size : Nat) : Int) > 9223372036854775807 then none else f (a ++ b)
def bsK (h : H) (x : AV) (f : ByteArray → Option β) : Option β := match evBytesStr h x with | some (.str s) => f s | _ => none
def nextK (h : H) (i : Nat) (f : Int → Int → H → Option β) (g : Option β) : Option β :=
 match h.get i with
 | some (.siter s pos) => if pos < s.size then f pos (Utf8.decode s pos).1 (h.set i (.siter s (pos + (Utf8.decode s pos).2))) else g
 | _ => none
def binK (op : BinOp) (x y : AV) (k : AV → Option β) : Option β :=
 match x, y with
 | .int kd a, .int kd' b =>
  match op with
  | .shl => if b < 0 then none else k (.int kd (kd.wrap (a * 2 ^ min b.toNat kd.bits)))
  | .shr => if b < 0 then none else k (.int kd (a.fdiv (2 ^ min b.toNat kd.bits)))
  | .quo => if kd = kd' then (if b = 0 then none else k (.int kd (kd.wrap (a.tdiv b)))) else none
  | .rem => if kd = kd' then (if b = 0 then none else k (.int kd (a.tmod b))) else none
  | op => if kd = kd' then (match evInt op kd a b with | some v => k v | none => none) else none
 | .str a, .str b => match op with | .add => catK a b fun s => k (.str s) | op => match evStr op a b with | some v => k v | none => none
 | _, _ => none
theorem binK_some {op : BinOp} {y z : AV} {k : AV → Option β} {x : β} (e : binK op y z k = some x) : ∃ v, evBin op y z = some v ∧ k v = some x := by
 unfold binK at e
 (try dsimp only at e); split at e
 ·(try dsimp only at e); split at e
  ·(try dsimp only at e); split at e
   ·cases e
   ·rename_i hb; exact ⟨_, by simp [evBin, hb], e⟩
  ·(try dsimp only at e); split at e
   ·cases e
   ·rename_i hb; exact ⟨_, by simp [evBin, hb], e⟩
  ·(try dsimp only at e); split at e
   ·rename_i hk
    (try dsimp only at e); split at e
    ·cases e
    ·rename_i hb; exact ⟨_, by simp [evBin, hk, evInt, hb], e⟩
   ·cases e
  ·(try dsimp only at e); split at e
   ·rename_i hk
    (try dsimp only at e); split at e
    ·cases e
    ·rename_i hb; exact ⟨_, by simp [evBin, hk, evInt, hb], e⟩
   ·cases e
  ·rename_i h1 h2 h3 h4
   (try dsimp only at e); split at e
   ·rename_i hk
    (try dsimp only at e); split at e
    ·rename_i v hv
     refine ⟨v, ?_, e⟩
     unfold evBin
     cases op <;> first | exact absurd rfl h1 | exact absurd rfl h2 | (simp only [hk, if_true]; rw [← hk]; exact hv)
    ·cases e
   ·cases e
 ·(try dsimp only at e); split at e
  ·unfold catK at e
   (try dsimp only at e); split at e
   ·cases e
   ·rename_i hb; exact ⟨_, by simp only [evBin, evStr]; rw [if_neg hb], e⟩
  ·(try dsimp only at e); split at e
   ·rename_i v hv; exact ⟨v, hv, e⟩
   ·cases e
 ·cases e
def eqFieldsB (P : Program) (eq : TypeId → AV → AV → Option Bool) (xs ys : List AV) : List Field → Option Bool
 | [] => some true
 | f :: fs =>
  match f.name == "_" with
  | true => eqFieldsB P eq xs ys fs
  | false =>
   match evPart P f.type xs f.offset, evPart P f.type ys f.offset with
   | some a, some b => (match eq f.type a b, eqFieldsB P eq xs ys fs with | some r, some q => some (r && q) | _, _ => none)
   | _, _ => none
def eqItemsB (P : Program) (eq : TypeId → AV → AV → Option Bool) (e : TypeId) (c : Nat) (xs ys : List AV) : List Nat → Option Bool
 | [] => some true
 | i :: is =>
  match evPart P e xs (i * c), evPart P e ys (i * c) with
  | some a, some b => (match eq e a b, eqItemsB P eq e c xs ys is with | some r, some q => some (r && q) | _, _ => none)
  | _, _ => none
theorem eqFieldsB_some {P : Program} {eq eq' : TypeId → AV → AV → Option Bool} (he : ∀ t x y b, eq t x y = some b → eq' t x y = some b) {xs ys : List AV} : ∀ {fs : List Field} {b : Bool}, eqFieldsB P eq xs ys fs = some b → evFields P eq' xs ys fs = some b
 | [], b, h => h
 | f :: fs, b, h => by
  simp only [eqFieldsB] at h
  simp only [evFields]
  split at h
  ·rename_i hn
   rw [if_neg (by simpa using hn)]
   exact eqFieldsB_some he h
  ·rename_i hn
   rw [if_pos (by simpa using hn)]
   split at h
   ·rename_i a c ha hc
    split at h
    ·rename_i r q hr hq
     cases h
     simp only [ha, hc, he _ _ _ _ hr, Option.bind_some]
     cases r
     ·simp
     ·simp; exact eqFieldsB_some he hq
    ·cases h
   ·cases h
theorem eqItemsB_some {P : Program} {eq eq' : TypeId → AV → AV → Option Bool} (he : ∀ t x y b, eq t x y = some b → eq' t x y = some b) {e : TypeId} {c : Nat} {xs ys : List AV} : ∀ {is : List Nat} {b : Bool}, eqItemsB P eq e c xs ys is = some b → evItems P eq' e c xs ys is = some b
 | [], b, h => h
 | i :: is, b, h => by
  simp only [eqItemsB] at h
  simp only [evItems]
  split at h
  ·rename_i a c' ha hc
   split at h
   ·rename_i r q hr hq
    cases h
    simp only [ha, hc, he _ _ _ _ hr, Option.bind_some]
    cases r
    ·simp
    ·simp; exact eqItemsB_some he hq
   ·cases h
  ·cases h
def evEqB (P : Program) : Nat → TypeId → AV → AV → Option Bool
 | 0 => fun _ _ _ => none
 | d + 1 => fun t x y =>
  match P.underlying t with
  | some (.struct fs) => match x, y with | .agg xs, .agg ys => (match P.stoodInHeld t with | true => none | false => eqFieldsB P (evEqB P d) xs ys fs.toList) | _, _ => none
  | some (.array n e) => match x, y with | .agg xs, .agg ys => (match P.info? e with | some inf => eqItemsB P (evEqB P d) e inf.size xs ys (List.range n) | none => none) | _, _ => none
  | _ => evEq P 1 t x y
theorem evEq_one {P : Program} {t : TypeId} {x y : AV} {b : Bool} (hs : ∀ fs, P.underlying t ≠ some (.struct fs)) (ha : ∀ n e, P.underlying t ≠ some (.array n e)) (h : evEq P 1 t x y = some b) (d : Nat) : evEq P (d + 1) t x y = some b := by
 simp only [evEq] at h ⊢
 split at h <;> first
  | exact h
  | (rename_i hu; exact absurd hu (hs _))
  | (rename_i hu; exact absurd hu (ha _ _))
  | cases h
theorem evEqB_some {P : Program} : ∀ (d : Nat) (t : TypeId) (x y : AV) (b : Bool), evEqB P d t x y = some b → evEq P d t x y = some b
 | 0, t, x, y, b, h => by simp [evEqB] at h
 | d + 1, t, x, y, b, h => by
  simp only [evEqB] at h
  split at h
  ·rename_i fs hu
   split at h
   ·split at h
    ·cases h
    ·rename_i hp
     simp only [evEq, hu, hp]
     exact eqFieldsB_some (evEqB_some d) h
   ·cases h
  ·rename_i n e hu
   split at h
   ·split at h
    ·rename_i inf hi
     have hc : P.cellsOf e = inf.size := by simp [Program.cellsOf, hi]
     simp only [evEq, hu, hi, hc]
     exact eqItemsB_some (evEqB_some d) h
    ·cases h
   ·cases h
  ·rename_i hs ha
   exact evEq_one hs ha h d
def eqK (P : Program) (op : BinOp) (t : TypeId) (x y : AV) (k : AV → Option β) : Option β :=
 match P.eqGuardType P.depth t with
 | true => none
 | false =>
  match op with
  | .eql => (match evEqB P Op.maxDepth t x y with | some b => k (.bool b) | none => none)
  | .neq => (match evEqB P Op.maxDepth t x y with | some b => k (.bool (!b)) | none => none)
  | _ => none
theorem eqK_some {P : Program} {op : BinOp} {t : TypeId} {y z : AV} {k : AV → Option β} {x : β} (e : eqK P op t y z k = some x) : ∃ v, evEqOp P op t y z = some v ∧ k v = some x := by
 unfold eqK at e
 (try dsimp only at e); split at e
 ·cases e
 ·rename_i hg
  (try dsimp only at e); split at e
  ·(try dsimp only at e); split at e
   ·rename_i b hb; exact ⟨_, by simp [evEqOp, hg, evEqB_some _ _ _ _ _ hb], e⟩
   ·cases e
  ·(try dsimp only at e); split at e
   ·rename_i b hb; exact ⟨_, by simp [evEqOp, hg, evEqB_some _ _ _ _ _ hb], e⟩
   ·cases e
  ·cases e
end
end Go.Ev

/- The abstract machine Ev, part Q: operations, regions, code and functions, each test ahead of what follows; what they compute the model's machine comes to. -/
namespace Go.Ev
section
variable {β : Type}
def fieldAddrK (P : Program) (t : TypeId) (x : AV) (f : Nat) (k : AV → Option β) : Option β :=
  match P.underlying t with
  | some (.struct fs) =>
    (match fs[f]? with
     | none => none
     | some fd => match P.info? fd.type with
       | none => none
       | some inf => match Nat.beq inf.size 0 with | true => none | false => asPtr x fun p => nnK p fun b o => k (.ptr (some (b, o + fd.offset))))
  | _ => none
theorem fieldAddrK_some {P : Program} {t : TypeId} {y : AV} {f : Nat} {k : AV → Option β} {x : β} (e : fieldAddrK P t y f k = some x) : ∃ v, evFieldAddr P t y f = some v ∧ k v = some x := by
 unfold fieldAddrK at e
 split at e
 ·rename_i fs hu
  split at e
  ·cases e
  ·rename_i fd hf
   split at e
   ·cases e
   ·rename_i inf hi
    have hc : P.cellsOf fd.type = inf.size := by simp [Program.cellsOf, hi]
    split at e
    ·cases e
    ·rename_i hz
     obtain ⟨p, hx, e'⟩ := asPtr_some e
     clear e; subst hx; have e := e'; clear e'
     unfold nnK at e
     split at e
     ·have hne : inf.size ≠ 0 := fun h0 => by rw [h0] at hz; cases hz
      refine ⟨_, ?_, e⟩
      simp [evFieldAddr, hu, hf, hi, hc, hne]
     ·cases e
 ·cases e
def fieldK (P : Program) (t : TypeId) (x : AV) (f : Nat) (k : AV → Option β) : Option β :=
 match P.underlying t with
 | some (.struct fs) => (match fs[f]? with | none => none | some fd => asAgg x fun cs => partK P fd.type cs fd.offset k)
 | _ => none
theorem fieldK_some {P : Program} {t : TypeId} {y : AV} {f : Nat} {k : AV → Option β} {x : β} (e : fieldK P t y f k = some x) : ∃ v, evField P t y f = some v ∧ k v = some x := by
 unfold fieldK at e
 split at e
 ·rename_i fs hu
  split at e
  ·cases e
  ·rename_i fd hf
   obtain ⟨p, hx, e'⟩ := asAgg_some e
   clear e; subst hx; have e := e'; clear e'
   obtain ⟨v, hv, hk⟩ := partK_some e
   exact ⟨v, by simp [evField, hu, hf, hv], hk⟩
 ·cases e
def nilK (x : AV) (k : AV → Option β) : Option β :=
 match x with
 | .func f a b => k (.func f a b)
 | x => asPtr x fun p => nnK p fun b o => k (.ptr (some (b, o)))
theorem nilK_some {y : AV} {k : AV → Option β} {x : β} (e : nilK y k = some x) : ∃ v, evNil y = some v ∧ k v = some x := by
 unfold nilK at e
 split at e
 ·exact ⟨_, rfl, e⟩
 ·obtain ⟨p, hx, e'⟩ := asPtr_some e
  clear e; subst hx; have e := e'; clear e'
  unfold nnK at e
  split at e
  ·exact ⟨_, rfl, e⟩
  ·cases e
def arrK (P : Program) (t : TypeId) (x : AV) (k : AV → Option β) : Option β :=
 match P.underlying t with
 | some (.array n _) => asSlice x fun p len _ => if n ≤ len ∧ 0 < len then nnK p fun b o => k (.ptr (some (b, o))) else none
 | _ => none
theorem arrK_some {P : Program} {t : TypeId} {y : AV} {k : AV → Option β} {x : β} (e : arrK P t y k = some x) : ∃ v, evArr P t y = some v ∧ k v = some x := by
 unfold arrK at e
 split at e
 ·rename_i n el hu
  obtain ⟨p, l, c, hx, e'⟩ := asSlice_some e
  clear e; subst hx; have e := e'; clear e'
  split at e
  ·rename_i hb
   unfold nnK at e
   split at e
   ·exact ⟨_, by simp only [evArr, hu]; rw [if_pos hb], e⟩
   ·cases e
  ·cases e
 ·cases e
/-- what is built of parts: the parts' lengths are asked one after another -/
def fillK (place : Nat → Option (Nat × Nat)) : List (Nat × AV) → List AV → (List AV → Option β) → Option β
 | [], cells, f => f cells
 | (i, v) :: rest, cells, f =>
  match place i, acells v with
  | some (off, size), some cs => if cs.length = size ∧ off + size ≤ cells.length then fillK place rest (cells.take off ++ cs ++ cells.drop (off + size)) f else none
  | _, _ => none
theorem fillK_some {place : Nat → Option (Nat × Nat)} {f : List AV → Option β} {x : β} : ∀ {parts : List (Nat × AV)} {cells : List AV}, fillK place parts cells f = some x → ∃ out, evFill place cells parts = some out ∧ f out = some x
 | [], cells, e => ⟨cells, rfl, e⟩
 | (i, v) :: rest, cells, e => by
  unfold fillK at e
  split at e
  ·rename_i off size cs h1 h2
   split at e
   ·rename_i hc
    obtain ⟨out, h3, h4⟩ := fillK_some e
    exact ⟨out, by unfold evFill; simp only [h1, h2]; rw [if_pos hc]; exact h3, h4⟩
   ·cases e
  ·cases e
def buildK (P : Program) (t : TypeId) (parts : List (Nat × AV)) (f : AV → Option β) : Option β :=
 match evZero P t with
 | none => none
 | some zs =>
  match P.underlying t with
  | some (.struct fs) => (match fieldPlaces P fs.toList with | some ps => fillK (ps[·]?) parts zs fun out => f (.agg out) | none => none)
  | some (.array _ e) => (match P.info? e with | some i => fillK (fun j => some (j * i.size, i.size)) parts zs fun out => f (.agg out) | none => none)
  | _ => none
theorem buildK_some {P : Program} {t : TypeId} {parts : List (Nat × AV)} {f : AV → Option β} {x : β} (e : buildK P t parts f = some x) : ∃ v, evBuild P t parts = some v ∧ f v = some x := by
 unfold buildK at e
 split at e
 ·cases e
 ·rename_i zs hz
  split at e
  ·rename_i fs hu
   split at e
   ·rename_i ps hp
    obtain ⟨out, h1, h2⟩ := fillK_some e
    exact ⟨_, by unfold evBuild; simp only [hz, hu, hp, Option.bind_some, h1, Option.map_some], h2⟩
   ·cases e
  ·rename_i n el hu
   split at e
   ·rename_i i hi
    obtain ⟨out, h1, h2⟩ := fillK_some e
    exact ⟨_, by unfold evBuild; simp only [hz, hu, hi, Option.bind_some, h1, Option.map_some], h2⟩
   ·cases e
  ·cases e
/-- a row made of parts -/
def buildSliceK (P : Program) (t : TypeId) (len : Nat) (parts : List (Nat × AV)) (h : H) (k : AV → H → Option β) : Option β :=
  match P.underlying t with
  | some (.slice e) =>
    (match P.info? e with
     | some inf =>
       (match Nat.ble (len * inf.size) 16777216 with
        | true => (match evZero P e with | some zs => fillK (fun j => some (j * inf.size, inf.size)) parts (evTile (len * inf.size) zs) fun cs => k (.slice (some (h.next, 0)) len (.known len)) (h.new (.cells cs false)) | none => none)
        | false => none)
     | none => none)
  | _ => none
theorem buildSliceK_some {P : Program} {ρ : Operand → AV} {t : TypeId} {len : Nat} {parts : Array (Nat × Operand)} {h : H} {k : AV → H → Option β} {x : β} (e : buildSliceK P t len (parts.toList.map fun p => (p.1, ρ p.2)) h k = some x) :
  ∃ q, evAlloc P ρ (.buildSlice t len parts) = some q ∧ k (q.2 h.next) (h.newO q.1) = some x := by
 unfold buildSliceK at e
 split at e
 ·rename_i el hu
  split at e
  ·rename_i inf hi
   split at e
   ·rename_i hb
    split at e
    ·rename_i zs hz
     obtain ⟨out, h1, h2⟩ := fillK_some e
     have hb' : ¬ (len * inf.size > 2 ^ 24) := by have := Nat.le_of_ble_eq_true hb; omega
     refine ⟨(some (.cells out false), fun i => .slice (some (i, 0)) len (.known len)), ?_, h2⟩
     unfold evAlloc
     simp only [hu, hi, Option.bind_some, if_neg hb', hz, h1, Option.map_some]
    ·cases e
   ·cases e
  ·cases e
 ·cases e
def pickK (c a b : AV) (k : AV → Option β) : Option β :=
 match a, b with
 | .bool x, .bool y => asBool c fun t => k (.bool (cond t x y))
 | a, b => asBool c fun t => cond t (k a) (k b)
def convRK (P : Program) (s d : TypeId) (x : AV) (h : H) (k : AV → Option β) : Option β :=
 match P.underlying s, P.underlying d with
 | some (.slice e), some .string => (match P.underlying e with | some (.int .u8) => bsK h x fun s => k (.str s) | _ => none)
 | _, _ => none
theorem convRK_some {P : Program} {s d : TypeId} {y : AV} {h : H} {k : AV → Option β} {x : β} (e : convRK P s d y h k = some x) : ∃ v, evConvR P s d y h = some v ∧ k v = some x := by
 unfold convRK at e
 split at e
 ·rename_i hs hd
  split at e
  ·rename_i he
   unfold bsK at e
   split at e
   ·rename_i b hb
    exact ⟨_, by simp [evConvR, hs, hd, he, hb], e⟩
   ·cases e
  ·cases e
 ·cases e
def newK (o : AObj) (h : H) (f : Nat → H → Option β) : Option β := f h.next (h.new o)
def mkSlK (size bytes : Nat) (zs : List AV) (l c : Int) (h : H) (f : Nat → Nat → Nat → H → Option β) : Option β :=
 if 0 ≤ IntKind.i64.wrap l ∧ IntKind.i64.wrap l ≤ IntKind.i64.wrap c ∧ ¬ (bytes * IntKind.i64.wrap c > 2 ^ 48) then
  newK (.cells (evTile ((IntKind.i64.wrap c).toNat * size) zs) false) h fun i h' => f i (IntKind.i64.wrap l).toNat (IntKind.i64.wrap c).toNat h'
 else none
def makeSliceK (P : Program) (t : TypeId) (l c : AV) (h : H) (k : AV → H → Option β) : Option β :=
  match P.underlying t with
  | some (.slice e) =>
    (match P.info? e, evZero P e with
     | some inf, some zs => (match l, c with | .int _ l, .int _ c => mkSlK inf.size inf.bytes zs l c h fun i l c h' => k (.slice (some (i, 0)) l (.known c)) h' | _, _ => none)
     | _, _ => none)
  | _ => none
theorem makeSliceK_some {P : Program} {ρ : Operand → AV} {t : TypeId} {l c : Operand} {h : H} {k : AV → H → Option β} {x : β} (e : makeSliceK P t (ρ l) (ρ c) h k = some x) :
  ∃ q, evAlloc P ρ (.makeSlice t l c) = some q ∧ k (q.2 h.next) (h.newO q.1) = some x := by
 unfold makeSliceK at e
 split at e
 ·rename_i el hu
  split at e
  ·rename_i inf zs hi hz
   split at e
   ·rename_i kl ln kc cn hl hc
    unfold mkSlK at e
    split at e
    ·rename_i hb
     refine ⟨(some (.cells (evTile ((IntKind.i64.wrap cn).toNat * inf.size) zs) false), fun i => .slice (some (i, 0)) (IntKind.i64.wrap ln).toNat (.known (IntKind.i64.wrap cn).toNat)), ?_, e⟩
     simp only [evAlloc, hu, hl, hc, hi, hz, Option.bind_some]
     rw [if_pos hb]
    ·cases e
   ·cases e
  ·cases e
 ·cases e
def keyK (kd : TypeDesc) (k : AV) (x : Option β) : Option β := match keyKind kd k with | true => x | false => none
def lookK (z : AV) (m : Option Nat) (k : AV) (h : H) (f : AV → Bool → Option β) : Option β := match evLook z m k h with | some (v, b) => f v b | none => none
def putK (m : Option Nat) (k v : AV) (h : H) (f : H → Option β) : Option β := match evMapPut m k v h with | some h' => f h' | none => none
def delK (m : Option Nat) (k : AV) (h : H) (f : H → Option β) : Option β := match evMapDel m k h with | some h' => f h' | none => none
def clrK (m : Option Nat) (h : H) (f : H → Option β) : Option β := match evMapClear m h with | some h' => f h' | none => none
def lenMK (m : Option Nat) (h : H) (f : Int → Option β) : Option β := match evMapLen m h with | some n => f (Nat.cast n) | none => none
theorem keyK_some {kd : TypeDesc} {k : AV} {y : Option β} {x : β} (e : keyK kd k y = some x) : keyKind kd k = true ∧ y = some x := by
 unfold keyK at e
 split at e
 ·rename_i h; exact ⟨h, e⟩
 ·cases e
def lookupK (P : Program) (t : TypeId) (m k : AV) (ok : Bool) (h : H) (f : AV → Option β) : Option β :=
  match P.underlying t with
  | some (.map kt e) =>
    (match P.underlying kt, zeroV P e with
     | some kd, some z => asMap m fun m => keyK kd k (lookK z m k h fun v b => shapeK (rowShape P e) v fun v => f (okV ok v b))
     | _, _ => none)
  | _ => none
theorem lookupK_some {P : Program} {t : TypeId} {m k : AV} {ok : Bool} {h : H} {f : AV → Option β} {x : β} (e : lookupK P t m k ok h f = some x) : ∃ v, evLookup P t m k ok h = some v ∧ f v = some x := by
 unfold lookupK at e
 split at e
 ·rename_i kt el hu
  split at e
  ·rename_i kd z hkd hz
   obtain ⟨mm, rfl, e⟩ := asMap_some e
   obtain ⟨hk, e⟩ := keyK_some e
   unfold lookK at e
   split at e
   ·rename_i v b hl
    exact ⟨okV ok v b, by simp [evLookup, hu, hkd, hk, hz, hl], shapeK_some (rowShape P el) (f := fun v => f (okV ok v b)) e⟩
   ·cases e
  ·cases e
 ·cases e
def mapPutK (P : Program) (t : TypeId) (m k v : AV) (h : H) (f : H → Option β) : Option β :=
 match P.underlying t with
 | some (.map kt _) => (match P.underlying kt with | some kd => asMap m fun m => keyK kd k (putK m k v h f) | none => none)
 | _ => none
theorem mapPutK_some {P : Program} {t : TypeId} {m k v : AV} {h : H} {f : H → Option β} {x : β} (e : mapPutK P t m k v h f = some x) : ∃ h', evPutM P t m k v h = some h' ∧ f h' = some x := by
 unfold mapPutK at e
 split at e
 ·rename_i kt el hu
  split at e
  ·rename_i kd hkd
   obtain ⟨mm, rfl, e⟩ := asMap_some e
   obtain ⟨hk, e⟩ := keyK_some e
   unfold putK at e
   split at e
   ·rename_i h' hp
    exact ⟨h', by simp [evPutM, hu, hkd, hk, hp], e⟩
   ·cases e
  ·cases e
 ·cases e
def mapDelK (P : Program) (ts : List TypeId) (xs : List AV) (h : H) (f : AV → H → Option β) : Option β :=
 match ts, xs with
 | [t, _], [m, k] => (match P.underlying t with | some (.map kt _) => (match P.underlying kt with | some kd => asMap m fun m => keyK kd k (delK m k h fun h' => f (.tup []) h') | none => none) | _ => none)
 | _, _ => none
theorem mapDelK_some {P : Program} {ts : List TypeId} {xs : List AV} {h : H} {f : AV → H → Option β} {x : β} (e : mapDelK P ts xs h f = some x) : ∃ v h', evDelM P ts xs h = some (v, h') ∧ f v h' = some x := by
 unfold mapDelK at e
 split at e
 ·split at e
  ·rename_i kt el hu
   split at e
   ·rename_i kd hkd
    obtain ⟨mm, rfl, e⟩ := asMap_some e
    obtain ⟨hk, e⟩ := keyK_some e
    unfold delK at e
    split at e
    ·rename_i h' hp
     exact ⟨_, h', by simp [evDelM, hu, hkd, hk, hp], e⟩
    ·cases e
   ·cases e
  ·cases e
 ·cases e
def mapClrK (P : Program) (ts : List TypeId) (xs : List AV) (h : H) (f : AV → H → Option β) : Option β :=
 match ts, xs with
 | [t], [m] => (match P.underlying t with | some (.map _ _) => asMap m fun m => clrK m h fun h' => f (.tup []) h' | _ => none)
 | _, _ => none
theorem mapClrK_some {P : Program} {ts : List TypeId} {xs : List AV} {h : H} {f : AV → H → Option β} {x : β} (e : mapClrK P ts xs h f = some x) : ∃ v h', evClearM P ts xs h = some (v, h') ∧ f v h' = some x := by
 unfold mapClrK at e
 split at e
 ·split at e
  ·rename_i kt el hu
   obtain ⟨mm, rfl, e2⟩ := asMap_some e
   clear e; have e := e2; clear e2
   unfold clrK at e
   split at e
   ·rename_i h' hp
    exact ⟨_, h', by simp [evClearM, hu, hp], e⟩
   ·cases e
  ·cases e
 ·cases e
def mapLenK (P : Program) (ts : List TypeId) (xs : List AV) (h : H) (f : AV → Option β) : Option β :=
 match ts, xs with
 | [t], [m] => (match P.underlying t with | some (.map _ _) => asMap m fun m => lenMK m h fun n => f (.int .i64 n) | _ => none)
 | _, _ => none
theorem mapLenK_some {P : Program} {ts : List TypeId} {xs : List AV} {h : H} {f : AV → Option β} {x : β} (e : mapLenK P ts xs h f = some x) : ∃ v, evLenM P ts xs h = some v ∧ f v = some x := by
 unfold mapLenK at e
 split at e
 ·split at e
  ·rename_i kt el hu
   obtain ⟨mm, rfl, e2⟩ := asMap_some e
   clear e; have e := e2; clear e2
   unfold lenMK at e
   split at e
   ·rename_i n hp
    exact ⟨_, by simp [evLenM, hu, hp], e⟩
   ·cases e
  ·cases e
 ·cases e
def rest (P : Program) (ck : CK) (ρ : Operand → AV) (op : Op) (h : H) (k : AV → H → Option β) : Option β :=
 match evOper P ck.call ρ op h with
 | some q => k q.1 q.2
 | none => none
def extK (x : AV) (i : Nat) (k : AV → Option β) : Option β := match x with | .tup vs => (match vs[i]? with | some v => k v | none => none) | _ => none
theorem extK_some {y : AV} {i : Nat} {k : AV → Option β} {x : β} (e : extK y i k = some x) : ∃ v, evExtract y i = some v ∧ k v = some x := by
 unfold extK at e
 split at e
 ·split at e
  ·rename_i v hv; exact ⟨v, hv, e⟩
  ·cases e
 ·cases e
def evOperK (P : Program) (ck : CK) (ρ : Operand → AV) (op : Op) (h : H) (k : AV → H → Option β) : Option β :=
  match op with
  | .move x => k (ρ x) h
  | .assign x => k (ρ x) h
  | .build t parts => buildK P t (parts.toList.map fun p => (p.1, ρ p.2)) fun v => k v h
  | .pick c a b => pickK (ρ c) (ρ a) (ρ b) fun v => k v h
  | .nilCheck x => nilK (ρ x) fun v => k v h
  | .binOp op t x y _ => (match notIntStr (ρ x) with | true => eqK P op t (ρ x) (ρ y) fun v => k v h | false => binK op (ρ x) (ρ y) fun v => k v h)
  | .slice t x lo hi mx => sliceK P t (ρ x) (lo.map ρ) (hi.map ρ) (mx.map ρ) fun v => k v h
  | .indexAddr t x i => indexAddrK P t (ρ x) (ρ i) fun v => k v h
  | .index t x i => indexK P t (ρ x) (ρ i) fun v => k v h
  | .sliceToArrayPointer t x => arrK P t (ρ x) fun v => k v h
  | .fieldAddr t x f => fieldAddrK P t (ρ x) f fun v => k v h
  | .field t x f => fieldK P t (ρ x) f fun v => k v h
  | .extract x i => extK (ρ x) i fun v => k v h
  | .load t a => loadK P t (ρ a) h fun v => k v h
  | .store t a x => storeK P t (ρ a) (ρ x) h fun h' => k .junk h'
  | .makeSlice t l c => makeSliceK P t (ρ l) (ρ c) h k
  | .buildSlice t len parts => buildSliceK P t len (parts.toList.map fun p => (p.1, ρ p.2)) h k
  | .lookup t m i ok => lookupK P t (ρ m) (ρ i) ok h fun v => k v h
  | .mapUpdate t m i x => mapPutK P t (ρ m) (ρ i) (ρ x) h fun h' => k .junk h'
  | .insert t m i x => mapPutK P t (ρ m) (ρ i) (ρ x) h fun h' => k .junk h'
  | .convert s d x => (match sliceD P d, sliceD P s with | false, true => convRK P s d (ρ x) h fun v => k v h | _, _ => rest P ck ρ (.convert s d x) h k)
  | .next it true => asPtr (ρ it) fun p => nnK p fun i o => (match o with | 0 => nextK h i (fun pos c h' => k (.tup [.bool true, .int .i64 pos, .int .i32 c]) h') (k (.tup [.bool false]) h) | _ => none)
  | .call c =>
    (match c.callee with
     | .value x => match ρ x with | .func f first caps => ck.run f (first ++ c.args.toList.map ρ ++ caps) h k | _ => none
     | .builtin .append => appendK P c.argTypes.toList (c.args.toList.map ρ) h k
     | .builtin .copy => cpyK 0 P c.argTypes.toList (c.args.toList.map ρ) h fun n h' => k (.int .i64 n) h'
     | .builtin .delete => mapDelK P c.argTypes.toList (c.args.toList.map ρ) h k
     | .builtin .clear => mapClrK P c.argTypes.toList (c.args.toList.map ρ) h k
     | .builtin .len => (match mapD P (c.argTypes.toList.headD 0) with | true => mapLenK P c.argTypes.toList (c.args.toList.map ρ) h fun v => k v h | false => rest P ck ρ (.call c) h k)
     | _ => rest P ck ρ (.call c) h k)
  | op => rest P ck ρ op h k
theorem rest_some {P : Program} {ck : CK} {ρ : Operand → AV} {op : Op} {h : H} {k : AV → H → Option β} {x : β} (e : rest P ck ρ op h k = some x) : ∃ v h', evOper P ck.call ρ op h = some (v, h') ∧ k v h' = some x := by
 unfold rest at e
 split at e
 ·rename_i q hq; exact ⟨q.1, q.2, hq, e⟩
 ·cases e
theorem evOperK_some {P : Program} {ck : CK} {ρ : Operand → AV} {op : Op} {h : H} {k : AV → H → Option β} {x : β} (e : evOperK P ck ρ op h k = some x) : ∃ v h', evOper P ck.call ρ op h = some (v, h') ∧ k v h' = some x := by
 have pure : ∀ {v : AV}, cls P op = .pure → evPure P ρ op = some v → k v h = some x → ∃ v h', evOper P ck.call ρ op h = some (v, h') ∧ k v h' = some x := fun {v} hc hv hk => ⟨v, h, by unfold evOper; rw [hc]; simp [hv], hk⟩
 have read : ∀ {v : AV}, cls P op = .read → evRead P ρ op h = some v → k v h = some x → ∃ v h', evOper P ck.call ρ op h = some (v, h') ∧ k v h' = some x := fun {v} hc hv hk => ⟨v, h, by unfold evOper; rw [hc]; simp [hv], hk⟩
 unfold evOperK at e
 split at e
 ·exact pure rfl rfl e
 ·exact pure rfl rfl e
 ·obtain ⟨v, hv, hk⟩ := buildK_some e; exact pure rfl hv hk
 ·rename_i c a b
  unfold pickK at e
  split at e
  ·rename_i p q ha hb
   obtain ⟨t, ht, e⟩ := asBool_some e
   refine pure rfl (v := .bool (cond t p q)) ?_ e
   simp only [evPure, ht, ha, hb]
   cases t <;> rfl
  ·obtain ⟨t, ht, e⟩ := asBool_some e
   cases t
   ·exact pure rfl (v := ρ b) (by simp [evPure, ht]) e
   ·exact pure rfl (v := ρ a) (by simp [evPure, ht]) e
 ·obtain ⟨v, hv, hk⟩ := nilK_some e; exact pure rfl hv hk
 ·split at e
  ·rename_i hn
   obtain ⟨v, hv, hk⟩ := eqK_some e
   exact pure rfl (by simp only [evPure]; rw [if_pos hn]; exact hv) hk
  ·rename_i hn
   obtain ⟨v, hv, hk⟩ := binK_some e
   exact pure rfl (by simp only [evPure]; rw [if_neg (by simp [hn])]; exact hv) hk
 ·obtain ⟨v, hv, hk⟩ := sliceK_some e; exact pure rfl hv hk
 ·obtain ⟨v, hv, hk⟩ := indexAddrK_some e; exact pure rfl hv hk
 ·obtain ⟨v, hv, hk⟩ := indexK_some e; exact pure rfl hv hk
 ·obtain ⟨v, hv, hk⟩ := arrK_some e; exact pure rfl hv hk
 ·obtain ⟨v, hv, hk⟩ := fieldAddrK_some e; exact pure rfl hv hk
 ·obtain ⟨v, hv, hk⟩ := fieldK_some e; exact pure rfl hv hk
 ·obtain ⟨v, hv, hk⟩ := extK_some e; exact pure rfl hv hk
 ·obtain ⟨v, hv, hk⟩ := loadK_some e; exact read rfl hv hk
 ·rename_i t a y
  obtain ⟨h', hv, hk⟩ := storeK_some e
  exact ⟨.junk, h', by simp [evOper, cls, evFull, hv], hk⟩
 ·obtain ⟨q, hv, hk⟩ := makeSliceK_some e
  exact ⟨q.2 h.next, h.newO q.1, by simp [evOper, cls, hv], hk⟩
 ·obtain ⟨q, hv, hk⟩ := buildSliceK_some e
  exact ⟨q.2 h.next, h.newO q.1, by simp [evOper, cls, hv], hk⟩
 ·obtain ⟨v, hv, hk⟩ := lookupK_some e; exact read rfl hv hk
 ·obtain ⟨h', hv, hk⟩ := mapPutK_some e
  exact ⟨.junk, h', by simp [evOper, cls, evFull, hv], hk⟩
 ·obtain ⟨h', hv, hk⟩ := mapPutK_some e
  exact ⟨.junk, h', by simp [evOper, cls, evFull, hv], hk⟩
 ·rename_i s d y
  split at e
  ·rename_i hd hs
   obtain ⟨v, hv, hk⟩ := convRK_some e
   exact read (by simp [cls, hd, hs]) hv hk
  ·exact rest_some e
 ·rename_i it
  obtain ⟨p, hp, e⟩ := asPtr_some e
  unfold nnK at e
  split at e
  ·(try dsimp only at e); split at e
   ·rename_i i
    unfold nextK at e
    split at e
    ·rename_i s pos hg
     split at e
     ·rename_i hlt
      exact ⟨_, _, by simp [evOper, cls, evFull, evNext, hp, hg, hlt] <;> exact ⟨rfl, rfl⟩, e⟩
     ·rename_i hlt
      exact ⟨_, _, by simp [evOper, cls, evFull, evNext, hp, hg, hlt] <;> exact ⟨rfl, rfl⟩, e⟩
    ·cases e
   ·cases e
  ·cases e
 ·rename_i c
  split at e
  ·rename_i y hy
   split at e
   ·rename_i f first caps hf
    rw [ck.nat] at e
    obtain ⟨q, hq, hk⟩ := Option.bind_eq_some_iff.1 e
    refine ⟨q.1, q.2, ?_, hk⟩
    simp only [evOper, cls, hy, hf]
    exact hq
   ·cases e
  ·rename_i hb
   obtain ⟨v, h', hv, hk⟩ := appendK_some e
   exact ⟨v, h', by simp only [evOper, cls, hb, evFull]; exact hv, hk⟩
  ·rename_i hb
   unfold cpyK at e
   split at e
   ·rename_i n h' hv
    exact ⟨_, h', by simp only [evOper, cls, hb, evFull]; exact hv, e⟩
   ·cases e
  ·rename_i hb
   obtain ⟨v, h', hv, hk⟩ := mapDelK_some e
   exact ⟨v, h', by simp only [evOper, cls, hb, evFull]; exact hv, hk⟩
  ·rename_i hb
   obtain ⟨v, h', hv, hk⟩ := mapClrK_some e
   exact ⟨v, h', by simp only [evOper, cls, hb, evFull]; exact hv, hk⟩
  ·rename_i hb
   split at e
   ·rename_i hm
    obtain ⟨v, hv, hk⟩ := mapLenK_some e
    exact read (by simp only [cls, hb, hm]; rfl) (by simp only [evRead, hb]; exact hv) hk
   ·exact rest_some e
  ·exact rest_some e
 ·exact rest_some e
/-- what an operation tells is looked at in its type's shape, where nothing else tells it -/
def stepK (P : Program) (op : Op) (t : TypeId) (v : AV) (k : AV → Option β) : Option β :=
 match op with
 | .extract _ _ => shapeK (rowShape P t) v k
 | .call c => (match c.callee with | .value _ => shapeK (rowShape P t) v k | _ => k v)
 | _ => k v
theorem stepK_some {P : Program} {op : Op} {t : TypeId} {v : AV} {k : AV → Option β} {x : β} (e : stepK P op t v k = some x) : k v = some x := by
 unfold stepK at e
 split at e
 ·exact shapeK_some _ e
 ·split at e
  ·exact shapeK_some _ e
  ·exact e
 ·exact e
def evStepK (P : Program) (ck : CK) (ops : Array Oper) (N : Nat) (A : KF) (o : Oper) (h : H) (k : KF → AV → H → Option β) : Option β :=
 match o.guard with
 | none => evOperK P ck (kopd N A) o.op h fun v h' => stepK P o.op o.type v fun v => k A v h'
 | some (j, want) =>
  match (ops[j]?).bind (·.dst) with
  | none => k A (.tup []) h
  | some t =>
   match kopd N A (.tmp t) with
   | .tup [] => k A (.tup []) h
   | v => asBool v fun b => cond b
     (match want with | true => evOperK P ck (kopd N (kput N A (some t) (.bool true))) o.op h fun v h' => stepK P o.op o.type v fun v => k (kput N A (some t) (.bool true)) v h' | false => k (kput N A (some t) (.bool true)) (.tup []) h)
     (match want with | true => k (kput N A (some t) (.bool false)) (.tup []) h | false => evOperK P ck (kopd N (kput N A (some t) (.bool false))) o.op h fun v h' => stepK P o.op o.type v fun v => k (kput N A (some t) (.bool false)) v h')
theorem free_B {r r' : Ren} {h h1 : H} {w w' : World} {B : Nat → Prop} (p : Post r h w r' h1 w') (hfree : ∀ i, h.next ≤ i → B i → r i = none) : ∀ i, h1.next ≤ i → B i → r' i = none := by
 intro i hi1 hi2
 cases hr : r' i with
 | none => rfl
 | some t =>
  have hn := hfree i (Nat.le_trans p.next hi1) hi2
  have := p.dom i t hr hn
  omega
theorem blt_of {a b : Nat} (h : a < b) : Nat.blt a b = true := by simp [Nat.blt_eq, h]
theorem of_blt {a b : Nat} (h : Nat.blt a b = true) : a < b := by simpa [Nat.blt_eq] using h
theorem look_put {N : Nat} {A : KF} {d t : Nat} {v : AV} (hd : d < N) : look (kput N A (some d) v) t = if d = t then v else look A t := by
 simp only [kput, blt_of hd, look]
 by_cases e : d = t
 ·subst e; simp
 ·have : Nat.beq d t = false := by rw [← Bool.not_eq_true]; intro h; exact e (Nat.eq_of_beq_eq_true h)
  rw [this, if_neg e]
theorem kopd_put_same {N : Nat} {A : KF} {t : Nat} {v : AV} (h : kopd N A (.tmp t) = v) (hv : v ≠ .junk) : kopd N (kput N A (some t) v) = kopd N A := by
 have ht : t < N := by
  simp only [kopd] at h
  split at h
  ·rename_i hb; exact of_blt hb
  ·exact absurd h.symm hv
 funext x
 cases x with
 | tmp u =>
  simp only [kopd] at h ⊢
  rw [look_put ht]
  by_cases e : t = u
  ·subst e; rw [if_pos rfl, ← h]; simp [blt_of ht]
  ·rw [if_neg e]
 | _ => rfl
theorem evStepK_some {P : Program} {ck : CK} {ops : Array Oper} {N : Nat} {A : KF} {o : Oper} {h : H} {k : KF → AV → H → Option β} {x : β} (e : evStepK P ck ops N A o h k = some x) :
  ∃ v h' A', evStep P ck.call ops o (kopd N A) h = some (v, h') ∧ kopd N A' = kopd N A ∧ k A' v h' = some x := by
 unfold evStepK at e
 split at e
 ·rename_i hg
  obtain ⟨v, h', h1, h2⟩ := evOperK_some e
  exact ⟨v, h', A, by simp [evStep, evWanted, hg, h1], rfl, stepK_some h2⟩
 ·rename_i j want hg
  split at e
  ·rename_i hd
   exact ⟨_, _, A, by simp only [evStep, evWanted, hg, hd, Option.bind_some]; rfl, rfl, e⟩
  ·rename_i t hd
   split at e
   ·rename_i hv
    exact ⟨_, _, A, by simp only [evStep, evWanted, hg, hd, hv, Option.bind_some]; rfl, rfl, e⟩
   ·obtain ⟨b, hb, e'⟩ := asBool_some e
    clear e; have e := e'; clear e'
    have hsame := kopd_put_same hb (by intro e; cases e)
    cases b <;> cases want <;> simp only [cond_true, cond_false] at e
    ·obtain ⟨v, h', h1, h2⟩ := evOperK_some e
     rw [hsame] at h1
     exact ⟨v, h', _, by simp [evStep, evWanted, hg, hd, hb, h1], hsame, stepK_some h2⟩
    ·exact ⟨_, _, _, by simp only [evStep, evWanted, hg, hd, hb, Option.bind_some]; rfl, hsame, e⟩
    ·exact ⟨_, _, _, by simp only [evStep, evWanted, hg, hd, hb, Option.bind_some]; rfl, hsame, e⟩
    ·obtain ⟨v, h', h1, h2⟩ := evOperK_some e
     rw [hsame] at h1
     exact ⟨v, h', _, by simp [evStep, evWanted, hg, hd, hb, h1], hsame, stepK_some h2⟩
open Classical in
/-- a block is as it was -/
noncomputable def sameK (h h' : H) (b : Option Nat) (x : Option β) : Option β := match b with | none => x | some b => if h'.get b = h.get b then x else none
def blkP (p : Option (Nat × Nat)) : Option Nat := match p with | some (b, _) => some b | none => none
/-- what earlier reads looked at is as it was -/
noncomputable def keptK (M : Nat → Nat) (k : Nat) (h h' : H) : List (Nat × AV) → Option β → Option β
 | [], x => x
 | (j, v) :: l, x => match indepB M k j with
  | false => keptK M k h h' l x
  | true => match v with
   | .ptr p => sameK h h' (blkP p) (keptK M k h h' l x)
   | .slice p _ _ => sameK h h' (blkP p) (keptK M k h h' l x)
   | .map m => sameK h h' m (keptK M k h h' l x)
   | _ => keptK M k h h' l x
theorem sameK_some {h h' : H} {b : Option Nat} {x : Option β} {y : β} (e : sameK h h' b x = some y) : (∀ c, b = some c → h'.get c = h.get c) ∧ x = some y := by
 unfold sameK at e
 split at e
 ·exact ⟨fun c hc => by (cases hc), e⟩
 ·split at e
  ·rename_i hq; exact ⟨fun c hc => by cases hc; exact hq, e⟩
  ·cases e
theorem blkP_ref (p : Option (Nat × Nat)) : blkP p = refOf (.ptr p) := by cases p <;> rfl
theorem blkP_refS (p : Option (Nat × Nat)) (n : Nat) (c : Cap) : blkP p = refOf (.slice p n c) := by cases p <;> rfl
theorem mapRef (m : Option Nat) : refOf (.map m) = m := by cases m <;> rfl
theorem keptK_some {M : Nat → Nat} {k : Nat} {h h' : H} {y : β} : ∀ {l : List (Nat × AV)} {x : Option β}, keptK M k h h' l x = some y → keptQ M k h h' l ∧ x = some y
 | [], x, e => ⟨fun q hq => by (cases hq), e⟩
 | (j, v) :: l, x, e => by
  simp only [keptK] at e
  have cons : ∀ (_ : keptQ M k h h' l), (indepB M k j = true → ∀ b, refOf v = some b → h'.get b = h.get b) → keptQ M k h h' ((j, v) :: l) := fun hl hv q hq hi b hb => by
   rcases List.mem_cons.1 hq with rfl | hq
   ·exact hv hi b hb
   ·exact hl q hq hi b hb
  split at e
  ·rename_i hi
   obtain ⟨h1, h2⟩ := keptK_some e
   exact ⟨cons h1 fun h => absurd (h.symm.trans hi) (by decide), h2⟩
  ·split at e
   ·obtain ⟨h0, e⟩ := sameK_some e
    obtain ⟨h1, h2⟩ := keptK_some e
    exact ⟨cons h1 fun _ b hb => h0 b (by rw [blkP_ref]; exact hb), h2⟩
   ·obtain ⟨h0, e⟩ := sameK_some e
    obtain ⟨h1, h2⟩ := keptK_some e
    exact ⟨cons h1 fun _ b hb => h0 b (by rw [blkP_refS]; exact hb), h2⟩
   ·obtain ⟨h0, e⟩ := sameK_some e
    obtain ⟨h1, h2⟩ := keptK_some e
    exact ⟨cons h1 fun _ b hb => h0 b ((mapRef _).symm.trans hb), h2⟩
   ·obtain ⟨h1, h2⟩ := keptK_some e
    rename_i hn1 hn2 hn3
    refine ⟨cons h1 fun _ b hb => ?_, h2⟩
    unfold refOf at hb
    split at hb
    ·exact absurd rfl (hn1 _)
    ·exact absurd rfl (hn2 _ _ _)
    ·exact absurd rfl (hn3 _)
    ·cases hb
noncomputable def evOpsK (P : Program) (ck : CK) (ops : Array Oper) (N : Nat) (draw : Bool) : List Oper → Nat → KF → H → (Nat → Prop) → List (Nat × AV) → (KF → H → Option β) → Option β
 | [], _, A, h, _, _, k => k A h
 | o :: l, i, A, h, S, Js, k =>
  match draw && shyB P ops (masks ops) i with
  | true => evStepK P ck ops N A o (h.minus S) fun A' v _ => evOpsK P ck ops N draw l (i + 1) (kput N A' o.dst v) h S (pushJ P i o (mainV (kopd N A) o.op) Js) k
  | false => evStepK P ck ops N A o h fun A' v h' =>
   match draw && needQuiet P ops (masks ops) i with
   | false => evOpsK P ck ops N draw l (i + 1) (kput N A' o.dst v) h' S (pushJ P i o (mainV (kopd N A) o.op) Js) k
   | true => keptK (masks ops) i h h' Js (evOpsK P ck ops N draw l (i + 1) (kput N A' o.dst v) h' (addT S h h') (pushJ P i o (mainV (kopd N A) o.op) Js) k)
/-- the two sorts of frames -/
def AF (N : Nat) (A : KF) (fr : List AV) : Prop := fr.length = N ∧ ∀ t, t < N → look A t = fr.getD t .junk
theorem AF.opd {N : Nat} {A : KF} {fr : List AV} (h : AF N A fr) : opd fr = kopd N A := by
 funext x
 cases x with
 | tmp t =>
  simp only [Ev.opd, kopd]
  split
  ·rename_i hb; rw [h.2 t (of_blt hb)]
  ·rename_i hb
   have : ¬ t < N := fun hlt => by rw [blt_of hlt] at hb; cases hb
   rw [List.getD_eq_getElem?_getD, List.getElem?_eq_none (by rw [h.1]; exact Nat.le_of_not_lt this)]; rfl
 | _ => rfl
theorem AF.of_same {N : Nat} {A A' : KF} {fr : List AV} (h : AF N A fr) (hs : kopd N A' = kopd N A) : AF N A' fr := by
 refine ⟨h.1, fun t ht => ?_⟩
 have := congrFun hs (.tmp t)
 simp only [kopd, blt_of ht] at this
 rw [this]; exact h.2 t ht
theorem AF.put {N : Nat} {A : KF} {fr : List AV} (h : AF N A fr) (d : Option Tmp) (v : AV) : AF N (kput N A d v) (putD fr d v) := by
 cases d with
 | none => exact h
 | some d =>
  refine ⟨by simp [putD, h.1], fun t ht => ?_⟩
  by_cases hd : d < N
  ·rw [look_put hd]
   simp only [putD]
   by_cases e : d = t
   ·subst e
    rw [if_pos rfl, List.getD_eq_getElem?_getD, List.getElem?_set_self (by rw [h.1]; exact ht)]; rfl
   ·rw [if_neg e, List.getD_eq_getElem?_getD, List.getElem?_set_ne e, ← List.getD_eq_getElem?_getD]
    exact h.2 t ht
  ·have hb : Nat.blt d N = false := by rw [← Bool.not_eq_true]; intro h; exact hd (of_blt h)
   simp only [kput, hb, putD]
   have hne : d ≠ t := by intro e; rw [e] at hd; exact hd ht
   rw [List.getD_eq_getElem?_getD, List.getElem?_set_ne hne, ← List.getD_eq_getElem?_getD]
   exact h.2 t ht
theorem evOpsK_some {P : Program} {ck : CK} {ops : Array Oper} {N : Nat} {draw : Bool} {x : β} : ∀ {l : List Oper} {i : Nat} {A : KF} {h : H} {S : Nat → Prop} {Js : List (Nat × AV)} {k : KF → H → Option β} {fr : List AV}, evOpsK P ck ops N draw l i A h S Js k = some x → AF N A fr →
  ∃ fr' A' h', (if draw then evOpsQ P ck.call ops l i fr h S Js else evOps P ck.call ops l fr h) = some (fr', h') ∧ AF N A' fr' ∧ k A' h' = some x
 | [], i, A, h, S, Js, k, fr, e, hA => ⟨fr, A, h, by cases draw <;> rfl, hA, e⟩
 | o :: l, i, A, h, S, Js, k, fr, e, hA => by
  simp only [evOpsK] at e
  have hmain : mainV (kopd N A) o.op = mainV (opd fr) o.op := by rw [hA.opd]
  cases draw with
  | false =>
   simp only [Bool.false_and] at e
   obtain ⟨v, h', A', h1, h2, e⟩ := evStepK_some e
   rw [← hA.opd] at h1
   obtain ⟨fr', A'', h'', g1, g2, g3⟩ := evOpsK_some e ((hA.of_same h2).put o.dst v)
   exact ⟨fr', A'', h'', by simp only [Bool.false_eq_true, if_false] at g1 ⊢; simp only [evOps, h1, Option.bind_some]; exact g1, g2, g3⟩
  | true =>
   simp only [Bool.true_and] at e
   split at e
   ·rename_i hsh
    obtain ⟨v, h', A', h1, h2, e⟩ := evStepK_some e
    rw [← hA.opd] at h1
    obtain ⟨fr', A'', h'', g1, g2, g3⟩ := evOpsK_some e ((hA.of_same h2).put o.dst v)
    exact ⟨fr', A'', h'', by simp only [if_true] at g1 ⊢; simp only [evOpsQ]; rw [if_pos hsh, h1, Option.bind_some, ← hmain]; exact g1, g2, g3⟩
   ·rename_i hsh
    have hsh' : ¬ shyB P ops (masks ops) i = true := by rw [hsh]; simp
    obtain ⟨v, h', A', h1, h2, e⟩ := evStepK_some e
    rw [← hA.opd] at h1
    split at e
    ·rename_i hq
     obtain ⟨fr', A'', h'', g1, g2, g3⟩ := evOpsK_some e ((hA.of_same h2).put o.dst v)
     exact ⟨fr', A'', h'', by simp only [if_true] at g1 ⊢; simp only [evOpsQ]; rw [if_neg hsh', h1, Option.bind_some, ← hmain]; simp only [hq, Bool.false_eq_true, if_false]; exact g1, g2, g3⟩
    ·rename_i hq
     obtain ⟨hkept, e⟩ := keptK_some e
     obtain ⟨fr', A'', h'', g1, g2, g3⟩ := evOpsK_some e ((hA.of_same h2).put o.dst v)
     exact ⟨fr', A'', h'', by simp only [if_true] at g1 ⊢; simp only [evOpsQ]; rw [if_neg hsh', h1, Option.bind_some, ← hmain]; simp only [hq, if_true]; rw [if_pos hkept]; exact g1, g2, g3⟩
abbrev KC (β : Type) := KF → H → (KF → H → Option β) → (Nat → KF → H → Option β) → (KF → H → Option β) → Option β
def skipC : KC β := fun A h kn _ _ => kn A h
noncomputable def regC (P : Program) (ck : CK) (N : Nat) (ops : Array Oper) (draw : Bool) : KC β := fun A h kn _ _ => evOpsK P ck ops N draw ops.toList 0 A h noT [] kn
def seqC (X Y : KC β) : KC β := fun A h kn ke kr => X A h (fun A h => Y A h kn ke kr) ke kr
def condC (N : Nat) (c : Operand) (X Y : KC β) : KC β := fun A h kn ke kr => asBool (kopd N A c) fun b => cond b (X A h kn ke kr) (Y A h kn ke kr)
def blockC (id : Nat) (X : KC β) : KC β := fun A h kn ke kr => X A h kn (fun i A h => cond (Nat.beq i id) (kn A h) (ke i A h)) kr
def exitC (id : Nat) : KC β := fun A h _ ke _ => ke id A h
def retC : KC β := fun A h _ _ kr => kr A h
def norm (live : List Nat) (A : KF) : KF := live.map fun t => (t, look A t)
def normC (live : List Nat) (X : KC β) : KC β := fun A h kn ke kr => X (norm live A) h kn ke kr
def FRk (r : Ren) (A : KF) (a : Act) : Prop := ∀ t, t < a.tmps.size → VR r (look A t) (a.eval (.tmp t))
def leaves (kn : KF → H → Option β) (ke : Nat → KF → H → Option β) (kr : KF → H → Option β) : AExit → KF → H → Option β
 | .normal => kn
 | .exit i => ke i
 | .ret => kr
/-- the numbers that new blocks may get; S: all -/
structure Bnd (S : Bool) where
 set : Nat → Prop
 all : S = true → ∀ i, set i
/-- X stands for code c; S: its runs may end in unlike ways -/
structure DenG (S : Bool) (P : Program) (N : Nat) (c : Code) (X : KC β) : Prop where
 ends : ∀ A h kn ke kr x, X A h kn ke kr = some x → ∃ e A' h', leaves kn ke kr e A' h' = some x ∧ h.next ≤ h'.next ∧ (h.WF → h'.WF)
 sim : ∀ (r : Ren) (a : Act) (w : World) A h kn ke kr x (B : Bnd S), X A h kn ke kr = some x → FRk r A a → a.tmps.size = N → Rel r h w → (∀ i, h.next ≤ i → B.set i → r i = none) →
  (∀ e A' h', leaves kn ke kr e A' h' = some x → ∀ i, i < h'.next → B.set i) →
  ∀ Q : Exit → Act → World → Prop, (∀ r' a' w' A' h' e, FRk r' A' a' → a'.tmps.size = N → a'.defers = a.defers → Post r h w r' h' w' → leaves kn ke kr e A' h' = some x → Q e.to a' w') → c.wp P Q a w
theorem DenG.grows {S : Bool} {P : Program} {N : Nat} {c : Code} {X : KC β} (d : DenG S P N c X) (A : KF) (h : H) (kn : KF → H → Option β) (ke : Nat → KF → H → Option β) (kr : KF → H → Option β) (x : β) (B : Bnd S) (e : X A h kn ke kr = some x)
  (hB : ∀ e A' h', leaves kn ke kr e A' h' = some x → ∀ i, i < h'.next → B.set i) : ∀ i, i < h.next → B.set i := by
 obtain ⟨e', A', h', h1, h2, _⟩ := d.ends A h kn ke kr x e
 exact fun i hi => hB _ _ _ h1 i (Nat.lt_of_lt_of_le hi h2)
theorem DenG.skip {S : Bool} {P : Program} {N : Nat} : DenG S P N .skip (skipC : KC β) where
 ends := fun A h kn ke kr x e => ⟨.normal, A, h, e, Nat.le_refl _, fun h => h⟩
 sim := fun r a w A h kn ke kr x B e hfr hsz hrel hfree hB Q hQ => wp_skip (hQ r a w A h .normal hfr hsz rfl (Post.refl hrel) e)
theorem DenG.label {S : Bool} {P : Program} {N l : Nat} : DenG S P N (.label l) (skipC : KC β) where
 ends := fun A h kn ke kr x e => ⟨.normal, A, h, e, Nat.le_refl _, fun h => h⟩
 sim := fun r a w A h kn ke kr x B e hfr hsz hrel hfree hB Q hQ => wp_label (hQ r a w A h .normal hfr hsz rfl (Post.refl hrel) e)
/-- a scope through which the run goes without a goto -/
theorem DenG.scope {S : Bool} {P : Program} {N : Nat} {c : Code} {X : KC β} (d : DenG S P N c X) : DenG S P N (.scope c) X where
 ends := d.ends
 sim := fun r a w A h kn ke kr x B e hfr hsz hrel hfree hB Q hQ => by
  refine wp_scope_straight (d.sim r a w A h kn ke kr x B e hfr hsz hrel hfree hB _ fun r' a' w' A' h' e' g1 g2 g3 g4 g5 => ?_)
  have := hQ r' a' w' A' h' e' g1 g2 g3 g4 g5
  cases e' with
  | normal => exact this
  | exit i => exact this
  | ret => exact this
theorem DenG.exit {S : Bool} {P : Program} {N id : Nat} : DenG S P N (.exit id) (exitC id : KC β) where
 ends := fun A h kn ke kr x e => ⟨.exit id, A, h, e, Nat.le_refl _, fun h => h⟩
 sim := fun r a w A h kn ke kr x B e hfr hsz hrel hfree hB Q hQ => wp_exit (hQ r a w A h (.exit id) hfr hsz rfl (Post.refl hrel) e)
theorem DenG.ret {S : Bool} {P : Program} {N : Nat} : DenG S P N .ret (retC : KC β) where
 ends := fun A h kn ke kr x e => ⟨.ret, A, h, e, Nat.le_refl _, fun h => h⟩
 sim := fun r a w A h kn ke kr x B e hfr hsz hrel hfree hB Q hQ => wp_ret (hQ r a w A h .ret hfr hsz rfl (Post.refl hrel) e)
theorem FRk.norm {r : Ren} {A : KF} {a : Act} (h : FRk r A a) (live : List Nat) : FRk r (norm live A) a := by
 intro t ht
 have : look (Ev.norm live A) t = look A t ∨ look (Ev.norm live A) t = .junk := by
  unfold Ev.norm
  induction live with
  | nil => exact .inr rfl
  | cons u l ih =>
   simp only [List.map_cons, look]
   split
   ·rename_i hb; have := Nat.eq_of_beq_eq_true hb; subst this; exact .inl rfl
   ·exact ih
 rcases this with e | e
 ·rw [e]; exact h t ht
 ·rw [e]; exact .junk _
theorem DenG.norm {S : Bool} {P : Program} {N : Nat} {c : Code} {X : KC β} (live : List Nat) (d : DenG S P N c X) : DenG S P N c (normC live X) where
 ends := fun A h kn ke kr x e => d.ends _ h kn ke kr x e
 sim := fun r a w A h kn ke kr x B e hfr hsz hrel hfree hB Q hQ => d.sim r a w _ h kn ke kr x B e (hfr.norm live) hsz hrel hfree hB Q hQ
theorem leaves_seq {kn : KF → H → Option β} {ke : Nat → KF → H → Option β} {kr : KF → H → Option β} {Y : KC β} {S : Bool} {P : Program} {N : Nat} {c : Code} (d : DenG S P N c Y) {x : β} {B : Bnd S} (hB : ∀ e A' h', leaves kn ke kr e A' h' = some x → ∀ i, i < h'.next → B.set i) :
  ∀ e A' h', leaves (fun A h => Y A h kn ke kr) ke kr e A' h' = some x → ∀ i, i < h'.next → B.set i := by
 intro e A' h' he
 cases e with
 | normal => exact d.grows A' h' kn ke kr x B he hB
 | exit i => exact hB (.exit i) A' h' he
 | ret => exact hB .ret A' h' he
theorem DenG.seq {S : Bool} {P : Program} {N : Nat} {c1 c2 : Code} {X Y : KC β} (d1 : DenG S P N c1 X) (d2 : DenG S P N c2 Y) : DenG S P N (.seq c1 c2) (seqC X Y) where
 ends := fun A h kn ke kr x e => by
  obtain ⟨e', A', h', h1, h2, h3⟩ := d1.ends A h _ ke kr x e
  cases e' with
  | normal =>
   obtain ⟨e'', A'', h'', k1, k2, k3⟩ := d2.ends A' h' kn ke kr x h1
   exact ⟨e'', A'', h'', k1, Nat.le_trans h2 k2, fun hw => k3 (h3 hw)⟩
  | exit i => exact ⟨.exit i, A', h', h1, h2, h3⟩
  | ret => exact ⟨.ret, A', h', h1, h2, h3⟩
 sim := fun r a w A h kn ke kr x B e hfr hsz hrel hfree hB Q hQ => by
  refine wp_seq (d1.sim r a w A h _ ke kr x B e hfr hsz hrel hfree (leaves_seq d2 hB) _ fun r' a' w' A' h' e' g1 g2 g3 g4 g5 => ?_)
  cases e' with
  | normal =>
   exact d2.sim r' a' w' A' h' kn ke kr x B g5 g1 g2 g4.rel (free_B g4 hfree) hB Q fun r'' a'' w'' A'' h'' e'' k1 k2 k3 k4 k5 => hQ r'' a'' w'' A'' h'' e'' k1 k2 (k3.trans g3) (g4.trans k4) k5
  | exit i => exact hQ r' a' w' A' h' (.exit i) g1 g2 g3 g4 g5
  | ret => exact hQ r' a' w' A' h' .ret g1 g2 g3 g4 g5
theorem eval_slot {r : Ren} {N : Nat} {A : KF} {a : Act} (hfr : FRk r A a) (hsz : a.tmps.size = N) (hg : GL r) (x : Operand) : VR r (kopd N A x) (a.eval x) := by
 cases x with
 | tmp t =>
  simp only [kopd]
  split
  ·rename_i hb; exact hfr t (by rw [hsz]; exact of_blt hb)
  ·exact .junk _
 | const v => exact VR_ofValue r v
 | global g => exact hg.vr g
 | func f => exact .func f [] [] #[] #[] rfl rfl (fun i a v h => by simp at h) (fun i a v h => by simp at h)
theorem DenG.cond {S : Bool} {P : Program} {N : Nat} {c : Operand} {c1 c2 : Code} {X Y : KC β} (d1 : DenG S P N c1 X) (d2 : DenG S P N c2 Y) : DenG S P N (.cond c c1 c2) (condC N c X Y) where
 ends := fun A h kn ke kr x e => by
  obtain ⟨b, _, e⟩ := asBool_some e
  cases b
  ·exact d2.ends A h kn ke kr x e
  ·exact d1.ends A h kn ke kr x e
 sim := fun r a w A h kn ke kr x B e hfr hsz hrel hfree hB Q hQ => by
  obtain ⟨b, hb, e⟩ := asBool_some e
  have hv := eval_slot hfr hsz hrel.glob c
  rw [hb] at hv
  have hc : a.eval c = .bool b := by
   generalize hq : a.eval c = q at hv
   cases hv; rfl
  refine wp_cond hc ?_
  cases b
  ·exact d2.sim r a w A h kn ke kr x B e hfr hsz hrel hfree hB Q hQ
  ·exact d1.sim r a w A h kn ke kr x B e hfr hsz hrel hfree hB Q hQ
theorem leaves_block {kn : KF → H → Option β} {ke : Nat → KF → H → Option β} {kr : KF → H → Option β} {id : Nat} {e : AExit} {A : KF} {h : H} :
  leaves kn (fun i A h => cond (Nat.beq i id) (kn A h) (ke i A h)) kr e A h = leaves kn ke kr (if e = .exit id then .normal else e) A h := by
 cases e with
 | normal => rfl
 | ret => rfl
 | exit i =>
  simp only [leaves]
  by_cases hi : i = id
  ·subst hi; simp [leaves]
  ·have : Nat.beq i id = false := by rw [← Bool.not_eq_true]; intro h; exact hi (Nat.eq_of_beq_eq_true h)
   rw [this, if_neg (by intro e; cases e; exact hi rfl)]
   rfl
theorem DenG.block {S : Bool} {P : Program} {N id : Nat} {c : Code} {X : KC β} (d : DenG S P N c X) : DenG S P N (.block id c) (blockC id X) where
 ends := fun A h kn ke kr x e => by
  obtain ⟨e', A', h', h1, h2, h3⟩ := d.ends A h kn _ kr x e
  rw [leaves_block] at h1
  exact ⟨_, A', h', h1, h2, h3⟩
 sim := fun r a w A h kn ke kr x B e hfr hsz hrel hfree hB Q hQ => by
  refine wp_block (d.sim r a w A h kn _ kr x B e hfr hsz hrel hfree (fun e' A' h' he => by rw [leaves_block] at he; exact hB _ _ _ he) _ fun r' a' w' A' h' e' g1 g2 g3 g4 g5 => ?_)
  rw [leaves_block] at g5
  have := hQ r' a' w' A' h' _ g1 g2 g3 g4 g5
  cases e' with
  | normal => exact this
  | ret => exact this
  | exit j =>
   show Exit.inBlock id Q (.exit j) a' w'
   simp only [Exit.inBlock]
   by_cases hj : j = id
   ·subst hj
    simp only [if_true] at this ⊢; exact this
   ·rw [if_neg hj]
    rw [if_neg (by intro e; cases e; exact hj rfl)] at this
    exact this
theorem DenG.region {S : Bool} {P : Program} (hm : P.follows .mixedOrders = true) {ck : CK} (hck : ck.call.Sound P) {N id : Nat} {ops : Array Oper} {draw : Bool} (hok : (!draw || okRegion P ops) = true) : DenG S P N (.region id ops draw) (regC P ck N ops draw : KC β) := by
 have key : ∀ A h (kn : KF → H → Option β) x, evOpsK P ck ops N draw ops.toList 0 A h noT [] kn = some x → ∃ fr' A' h', evRegion P ck.call ops draw ((List.range N).map (look A), h) = some (fr', h') ∧ AF N A' fr' ∧ kn A' h' = some x := by
  intro A h kn x e
  obtain ⟨fr', A', h', h1, h2, h3⟩ := evOpsK_some (fr := (List.range N).map (look A)) e ⟨by simp, fun t ht => by rw [List.getD_eq_getElem?_getD, List.getElem?_map, List.getElem?_range ht]; rfl⟩
  exact ⟨fr', A', h', h1, h2, h3⟩
 refine ⟨fun A h kn ke kr x e => ?_, fun r a w A h kn ke kr x B e hfr hsz hrel hfree hB Q hQ => ?_⟩
 ·obtain ⟨fr', A', h', h1, h2, h3⟩ := key A h kn x e
  exact ⟨.normal, A', h', h3, evRegion_grows hck h1⟩
 ·obtain ⟨fr', A', h', h1, h2, h3⟩ := key A h kn x e
  have hb := hB .normal A' h' h3
  have hfr' : FR r ((List.range N).map (look A)) a := by
   refine ⟨by simpa using hsz.symm, fun t x v hx hv => ?_⟩
   have ht : t < N := by have := (List.getElem?_eq_some_iff.1 hx).1; simpa using this
   rw [List.getElem?_map, List.getElem?_range ht] at hx
   simp at hx
   subst hx
   have := hfr t (by rw [hsz]; exact ht)
   simp only [Act.eval, Array.getD_eq_getD_getElem?] at this
   rw [← Array.getElem?_toList, hv] at this
   exact this
  refine region_ends hm hck hok h1 hfr' hrel (fun i a b => hfree i a (hb i b)) Q fun r' a' w' g1 g2 g3 => ?_
  have hsz' : a'.tmps.size = N := by rw [← h2.1]; simpa using g1.1.symm
  refine hQ r' a' w' A' h' .normal (fun t ht => ?_) hsz' g2 g3 h3
  rw [h2.2 t (by rw [← hsz']; exact ht)]
  exact opd_VR g1 g3.rel.glob (.tmp t)
abbrev Den (P : Program) (N : Nat) (c : Code) (X : KC β) : Prop := DenG false P N c X
def resK (P : Program) (N : Nat) (A : KF) (h : H) : List ResultVar → (List AV → Option β) → Option β
 | [], k => k []
 | .tmp t :: xs, k => resK P N A h xs fun vs => k (kopd N A (.tmp t) :: vs)
 | .cell a t :: xs, k => loadK P t (kopd N A (.tmp a)) h fun v => resK P N A h xs fun vs => k (v :: vs)
def argsF : List AV → Nat → KF
 | [], _ => []
 | v :: vs, i => (i, v) :: argsF vs (i + 1)
def bodyK (P : Program) (N : Nat) (results : Array ResultVar) (X : KC β) (args : List AV) (h : H) (k : AV → H → Option β) : Option β :=
 X (argsF args 0) h (fun A h => resK P N A h results.toList fun vs => k (oneOf vs) h) (fun _ _ _ => none) (fun A h => resK P N A h results.toList fun vs => k (oneOf vs) h)
theorem resK_some {P : Program} {N : Nat} {A : KF} {h : H} {r : Ren} {a : Act} {w : World} (hfr : FRk r A a) (hsz : a.tmps.size = N) (hrel : Rel r h w) {x : β} : ∀ {xs : List ResultVar} {k : List AV → Option β}, resK P N A h xs k = some x →
  ∃ vs vs', k vs = some x ∧ VRL r vs vs' ∧ (xs.mapM (resSem a.tmps)).run P w = .ok vs' w
 | [], k, e => ⟨[], [], e, .nil, rfl⟩
 | .tmp t :: xs, k, e => by
  simp only [resK] at e
  obtain ⟨vs, vs', h1, h2, h3⟩ := resK_some hfr hsz hrel e
  refine ⟨_, a.eval (.tmp t) :: vs', h1, .cons (eval_slot hfr hsz hrel.glob _) h2, ?_⟩
  rw [List.mapM_cons]
  simp only [Sem.run_bind, resSem, Sem.run_pure, Result.andThen_ok, h3]
  rfl
 | .cell ad t :: xs, k, e => by
  simp only [resK] at e
  obtain ⟨v, hv, e⟩ := loadK_some e
  obtain ⟨vs, vs', h1, h2, h3⟩ := resK_some hfr hsz hrel e
  obtain ⟨q, v', g1, g2, g3⟩ := run_loadVar hrel hv (eval_slot hfr hsz hrel.glob (.tmp ad))
  refine ⟨_, v' :: vs', h1, .cons g2 h2, ?_⟩
  have : a.tmps.getD ad undef = .pointer (some q) := g1
  rw [List.mapM_cons]
  simp only [Sem.run_bind, resSem, this, asAddr, Sem.run_pure, Result.andThen_ok, g3, h3]
theorem look_argsF : ∀ (vs : List AV) (i t : Nat), look (argsF vs i) t = if i ≤ t ∧ t < i + vs.length then vs.getD (t - i) .junk else .junk
 | [], i, t => by rw [if_neg (by simp <;> omega)]; rfl
 | v :: vs, i, t => by
  simp only [argsF, look]
  split
  ·rename_i hb
   have := Nat.eq_of_beq_eq_true hb
   subst this
   rw [if_pos (by simp)]
   simp
  ·rename_i hb
   have hne : i ≠ t := fun e => by subst e; simp at hb
   rw [look_argsF vs (i + 1) t]
   simp only [List.length_cons]
   by_cases hc : i + 1 ≤ t ∧ t < i + 1 + vs.length
   ·rw [if_pos hc, if_pos (by omega)]
    obtain ⟨j, hj⟩ : ∃ j, t - i = j + 1 := ⟨t - i - 1, by omega⟩
    rw [hj, List.getD_cons_succ]
    congr 1; omega
   ·rw [if_neg hc, if_neg (by omega)]
/-- **What a function's body computes, the function comes to.** -/
theorem acall_of {P : Program} {N : Nat} {c : Code} {X : KC β} (d : Den P N c X) {f : FuncId} {fn : Func} (hfn : P.funcs[f]? = some fn) (hbody : fn.body = some c) (hname : (fn.name == "runtime.NumGoroutine") = false) (hN : fn.ntmps = N)
  {args : List AV} (hlen : args.length ≤ N) {h : H} {k : AV → H → Option β} {x : β} (e : bodyK P N fn.results X args h k = some x) {v0 : AV} {h0 : H} (hk : ∀ v h, k v h = some x → v = v0 ∧ h = h0) : ACall P f args h v0 h0 := by
 have main : ∀ (A' : KF) (h' : H) (xs : List ResultVar) (k' : List AV → Option β), resK P N A' h' xs k' = some x → ∃ vs, k' vs = some x := by
  intro A' h' xs
  induction xs with
  | nil => intro k' e; exact ⟨[], e⟩
  | cons y ys ih =>
   intro k' e
   cases y with
   | tmp t => simp only [resK] at e; obtain ⟨vs, hv⟩ := ih _ e; exact ⟨_, hv⟩
   | cell ad t => simp only [resK] at e; obtain ⟨v, _, e⟩ := loadK_some e; obtain ⟨vs, hv⟩ := ih _ e; exact ⟨_, hv⟩
 have hE : ∀ e A' h', leaves (fun A h => resK P N A h fn.results.toList fun vs => k (oneOf vs) h) (fun _ _ _ => none) (fun A h => resK P N A h fn.results.toList fun vs => k (oneOf vs) h) e A' h' = some x → h' = h0 := by
  intro e A' h' he
  cases e with
  | normal => obtain ⟨vs, hv⟩ := main _ _ _ _ he; exact (hk _ _ hv).2
  | ret => obtain ⟨vs, hv⟩ := main _ _ _ _ he; exact (hk _ _ hv).2
  | exit i => cases he
 have hB : ∀ e A' h', leaves (fun A h => resK P N A h fn.results.toList fun vs => k (oneOf vs) h) (fun _ _ _ => none) (fun A h => resK P N A h fn.results.toList fun vs => k (oneOf vs) h) e A' h' = some x → ∀ i, i < h'.next → i < h0.next :=
  fun e A' h' he i hi => by rw [hE e A' h' he] at hi; exact hi
 obtain ⟨e1, A1, h1, l1, g1, w1⟩ := d.ends _ h _ _ _ x e
 have h1e := hE _ _ _ l1
 subst h1e
 refine ⟨⟨fn, hfn, by rw [hbody]; rfl, hname⟩, g1, w1, fun r w args' hrel hfree hargs => ?_⟩
 refine calls_of_wp hfn hbody ?_
 have hl : args.length = args'.size := by simpa using hargs.1
 have hsz : (args' ++ Array.replicate (fn.ntmps - args'.size) undef).size = N := by simp [hN]; omega
 refine d.sim r _ w _ h _ _ _ x ⟨fun i => i < h1.next, fun h => by cases h⟩ e (fun t ht => ?_) hsz hrel hfree hB _ fun r' a' w' A' h' e' g1 g2 g3 g4 g5 => ?_
 ·rw [look_argsF]
  simp only [Nat.zero_le, true_and, Nat.zero_add, Nat.sub_zero]
  split
  ·rename_i hlt
   have h1 : args[t]? = some args[t] := List.getElem?_eq_getElem hlt
   have h2 : args'.toList[t]? = some (args'.toList[t]'(by simpa [← hl] using hlt)) := List.getElem?_eq_getElem _
   have := hargs.2 t _ _ h1 h2
   rw [List.getD_eq_getElem?_getD, h1]
   simp only [Act.eval, Array.getD_eq_getD_getElem?]
   rw [Array.getElem?_append_left (by omega), ← Array.getElem?_toList, h2]
   exact this
  ·exact .junk _
 ·have fin : ∀ A' h', FRk r' A' a' → Post r h w r' h' w' → resK P N A' h' fn.results.toList (fun vs => k (oneOf vs) h') = some x →
    a'.defers = [] ∧ ∃ v, (results fn a'.tmps).run P w' = .ok v w' ∧ ∃ r' v', Ending.returned v = .returned v' ∧ VR r' v0 v' ∧ Post r h w r' h1 w' := by
   intro A' h' g1 g4 g5
   obtain ⟨vs, vs', q1, q2, q3⟩ := resK_some g1 g2 g4.rel g5
   obtain ⟨e1, e2⟩ := hk _ _ q1
   refine ⟨g3, (if h : vs'.toArray.size = 1 then vs'.toArray[0] else .tuple vs'.toArray), ?_, r', _, rfl, ?_, by rw [← e2]; exact g4⟩
   ·show Sem.run P (do let vs ← fn.results.mapM (resSem a'.tmps); pure (if h : vs.size = 1 then vs[0] else .tuple vs)) w' = _
    rw [Array.mapM_eq_mapM_toList]
    simp only [Sem.run_bind, Sem.run_map, q3, Result.andThen_ok, Sem.run_pure]
   ·rw [← e1]; exact VR_oneOf q2
  cases e' with
  | normal => exact fin A' h' g1 g4 g5
  | ret => exact fin A' h' g1 g4 g5
  | exit i => cases g5
end
end Go.Ev

/- The abstract machine Ev, part R: loops with the slots that live on, tables of functions, and small names for what is printed. -/
namespace Go.Ev
section
variable {β : Type}
/-- a loop; at each round's head only the slots 'live' are kept -/
def loopL (live : List Nat) (X : KC β) : Nat → KC β
 | 0 => fun _ _ _ _ _ => none
 | n + 1 => fun A h kn ke kr => X A h (fun A h => loopL live X n (norm live A) h kn ke kr) ke kr
theorem DenG.loopL {S : Bool} {P : Program} {N : Nat} {c : Code} {X : KC β} (live : List Nat) (d : DenG S P N c X) (n : Nat) : DenG S P N (.loop c) (loopL live X n) where
 ends := by
  induction n with
  | zero => intro A h kn ke kr x e; cases e
  | succ n ih =>
   intro A h kn ke kr x e
   obtain ⟨e', A', h', h1, h2, h3⟩ := d.ends A h _ ke kr x e
   cases e' with
   | normal =>
    obtain ⟨e'', A'', h'', k1, k2, k3⟩ := ih _ h' kn ke kr x h1
    exact ⟨e'', A'', h'', k1, Nat.le_trans h2 k2, fun hw => k3 (h3 hw)⟩
   | exit i => exact ⟨.exit i, A', h', h1, h2, h3⟩
   | ret => exact ⟨.ret, A', h', h1, h2, h3⟩
 sim := by
  have grow : ∀ n A h kn ke kr x (B : Bnd S), (Ev.loopL live X n : KC β) A h kn ke kr = some x → (∀ e A' h', leaves kn ke kr e A' h' = some x → ∀ i, i < h'.next → B.set i) → ∀ i, i < h.next → B.set i := by
   intro n
   induction n with
   | zero => intro A h kn ke kr x B e hB; cases e
   | succ n ih =>
    intro A h kn ke kr x B e hB
    refine d.grows A h _ ke kr x B e fun e' A' h' he => ?_
    cases e' with
    | normal => exact ih _ h' kn ke kr x B he hB
    | exit i => exact hB (.exit i) A' h' he
    | ret => exact hB .ret A' h' he
  intro r a w A h kn ke kr x B e hfr hsz hrel hfree hB Q hQ
  refine wp_loop_rounds n ?_
  revert r a w A h
  induction n with
  | zero => intro r a w A h e; cases e
  | succ n ih =>
   intro r a w A h e hfr hsz hrel hfree hQ
   rw [rounds_succ]
   refine d.sim r a w A h _ ke kr x B e hfr hsz hrel hfree (fun e' A' h' he => ?_) _ fun r' a' w' A' h' e' g1 g2 g3 g4 g5 => ?_
   ·cases e' with
    | normal => exact grow n _ h' kn ke kr x B he hB
    | exit i => exact hB (.exit i) A' h' he
    | ret => exact hB .ret A' h' he
   ·cases e' with
    | normal => exact ih r' a' w' _ h' g5 (g1.norm live) g2 g4.rel (free_B g4 hfree) fun r'' a'' w'' A'' h'' e'' k1 k2 k3 k4 k5 => hQ r'' a'' w'' A'' h'' e'' k1 k2 (k3.trans g3) (g4.trans k4) k5
    | exit i => exact hQ r' a' w' A' h' (.exit i) g1 g2 g3 g4 g5
    | ret => exact hQ r' a' w' A' h' .ret g1 g2 g3 g4 g5
def asTup (v : AV) (f : List AV → Option β) : Option β := match v with | .tup vs => f vs | _ => none
def asFunc (id : FuncId) (v : AV) (f : List AV → List AV → Option β) : Option β := match v with | .func g a b => cond (Nat.beq g id) (f a b) none | _ => none
theorem asTup_some {v : AV} {f : List AV → Option β} {x : β} (h : asTup v f = some x) : ∃ vs, v = .tup vs ∧ f vs = some x := by
 unfold asTup at h; split at h
 ·exact ⟨_, rfl, h⟩
 ·cases h
section
variable {γ : Type} (g : β → Option γ)
theorem asInt_bind (k : IntKind) (v : AV) (f : Int → Option β) : (asInt k v f).bind g = asInt k v fun n => (f n).bind g := by unfold asInt; split <;> (try split) <;> rfl
theorem asBool_bind (v : AV) (f : Bool → Option β) : (asBool v f).bind g = asBool v fun n => (f n).bind g := by unfold asBool; split <;> rfl
theorem asStr_bind (v : AV) (f : ByteArray → Option β) : (asStr v f).bind g = asStr v fun n => (f n).bind g := by unfold asStr; split <;> rfl
theorem asPtr_bind (v : AV) (f : Option (Nat × Nat) → Option β) : (asPtr v f).bind g = asPtr v fun n => (f n).bind g := by unfold asPtr; split <;> rfl
theorem asSlice_bind (v : AV) (f : Option (Nat × Nat) → Nat → Cap → Option β) : (asSlice v f).bind g = asSlice v fun p l c => (f p l c).bind g := by unfold asSlice; split <;> rfl
theorem asMap_bind (v : AV) (f : Option Nat → Option β) : (asMap v f).bind g = asMap v fun n => (f n).bind g := by unfold asMap; split <;> rfl
theorem asAgg_bind (v : AV) (f : List AV → Option β) : (asAgg v f).bind g = asAgg v fun n => (f n).bind g := by unfold asAgg; split <;> rfl
theorem asTup_bind (v : AV) (f : List AV → Option β) : (asTup v f).bind g = asTup v fun n => (f n).bind g := by unfold asTup; split <;> rfl
theorem l0_bind (l : List AV) (f : Option β) : (l0 l f).bind g = l0 l (f.bind g) := by unfold l0; split <;> rfl
theorem lc_bind (l : List AV) (f : AV → List AV → Option β) : (lc l f).bind g = lc l fun v vs => (f v vs).bind g := by unfold lc; split <;> rfl
theorem asFunc_bind (id : FuncId) (v : AV) (f : List AV → List AV → Option β) : (asFunc id v f).bind g = asFunc id v fun a b => (f a b).bind g := by
 unfold asFunc; split
 ·rename_i q a b; cases Nat.beq q id <;> rfl
 ·rfl
end
end
structure Entry (P : Program) where
 id : FuncId
 run : ∀ {β : Type}, List AV → H → (AV → H → Option β) → Option β
 nat : ∀ {β : Type} (args : List AV) (h : H) (k : AV → H → Option β), run args h k = (run args h fun v h' => some (v, h')).bind fun q => k q.1 q.2
 sound : ∀ args h v h', (run args h fun v h' => some (v, h')) = some (v, h') → Called P id args h v h'
 fits : List AV → Bool := fun _ => true
def runOf {P : Program} {β : Type} : List (Entry P) → FuncId → List AV → H → (AV → H → Option β) → Option β
 | [], _, _, _, _ => none
 | e :: l, f, args, h, k => cond (Nat.beq e.id f && e.fits args) (e.run args h k) (runOf l f args h k)
theorem runOf_nat {P : Program} {β : Type} (f : FuncId) (args : List AV) (h : H) (k : AV → H → Option β) : ∀ l : List (Entry P), runOf l f args h k = (runOf l f args h fun v h' => some (v, h')).bind fun q => k q.1 q.2
 | [] => rfl
 | e :: l => by
  simp only [runOf]
  cases Nat.beq e.id f && e.fits args with
  | true => exact e.nat args h k
  | false => exact runOf_nat f args h k l
def tableOf {P : Program} (l : List (Entry P)) : CK := ⟨runOf l, fun f args h k => runOf_nat f args h k l⟩
theorem tableOf_sound {P : Program} (l : List (Entry P)) : (tableOf l).call.Sound P := by
 intro f args h v h' e
 change runOf l f args h (fun v h' => some (v, h')) = some (v, h') at e
 induction l with
 | nil => cases e
 | cons x l ih =>
  simp only [runOf] at e
  cases hb : Nat.beq x.id f && x.fits args with
  | true =>
   rw [hb] at e
   have := Nat.eq_of_beq_eq_true (Bool.and_eq_true_iff.1 hb).1
   subst this
   exact x.sound args h v h' e
  | false => rw [hb] at e; exact ih e
def bodyOf (f : Func) : Code := match f.body with | some c => c | none => .skip
def iand (k : IntKind) (a b : Int) : Int := k.wrap (BitVec.ofInt k.bits a &&& BitVec.ofInt k.bits b).toNat
def ior (k : IntKind) (a b : Int) : Int := k.wrap (BitVec.ofInt k.bits a ||| BitVec.ofInt k.bits b).toNat
def ishl (k : IntKind) (a b : Int) : Int := k.wrap (a * 2 ^ min b.toNat k.bits)
def ishr (k : IntKind) (a b : Int) : Int := a.fdiv (2 ^ min b.toNat k.bits)
end Go.Ev
namespace Go.Ev
theorem shutEx {α : Type} (x : α) : ∃ y : α, y = x := ⟨x, rfl⟩
noncomputable def shutK {α : Type} (x : α) : α := Classical.choose (shutEx x)
theorem shutK_eq {α : Type} (x : α) : shutK x = x := Classical.choose_spec (shutEx x)
theorem shutD {β : Type} {S : Bool} {P : Program} {N : Nat} {c : Code} {X : KC β} (d : DenG S P N c X) : DenG S P N c (shutK X) := by rw [shutK_eq]; exact d
end Go.Ev

/- The abstract machine Ev, part S: from a row's arguments to the abstract machine, and from what it computes to the row's call. -/
namespace Go.Ev
open Go.RowKit
abbrev Rows0 := List (Option Tgt × List AV)
def r0 (rows : Rows0) : Ren := fun i => (rows[i]?).bind fun x => x.1
section
variable {H : Type} {enc : TypeId × Value → H} {P : Program} {w : World} {base : Nat} {spare : Nat → Bool} {held : Bool}
end
theorem trodAll_behind {H : Type} {enc : TypeId × Value → H} {P : Program} (hl : laidOutB P = true) {W W' : World} (hb : Below W.heap.size W W') : ∀ (ts : List TypeId) (vs : List Value) (ds : List (DataW H)) (ps : List MemPlace),
  (∀ t ∈ ts, P.readableRec t = true ∧ t < P.types.size) → DataW.TrodAll enc P W 0 (fun _ => true) true ts vs ds ps → (∀ x ∈ ps, x.block < W.heap.size) → DataW.TrodAll enc P W' 0 (fun b => decide (b < W.heap.size)) true ts vs ds ps
 | [], vs, ds, ps, _, h, _ => by
  cases vs <;> cases ds <;> first | exact h | cases h
 | t :: ts, vs, ds, ps, hr, h, hlt => by
  cases vs with
  | nil => cases ds <;> cases h
  | cons v vs =>
   cases ds with
   | nil => cases h
   | cons d ds =>
    obtain ⟨p, q, h1, h2, rfl⟩ := h
    exact ⟨p, q, Below.trod hl (hr t (by simp)).1 (hr t (by simp)).2 h1 hb (fun x hx => hlt x (by simp [hx])), trodAll_behind hl hb ts vs ds q (fun t ht => hr t (by simp [ht])) h2 (fun x hx => hlt x (by simp [hx])), rfl⟩
end Go.Ev

/- The abstract machine Ev, part T: small laws for proofs about printed functions: heaps, cells, rows, numbers. -/
namespace Go.Ev
@[simp] theorem get_new_self (h : H) (o : AObj) : (h.new o).get h.next = some o := by simp [H.new]
theorem get_new_lt {h : H} {o : AObj} {i : Nat} (hi : i < h.next) : (h.new o).get i = h.get i := by simp only [H.new]; rw [if_neg (by omega)]
@[simp] theorem next_new (h : H) (o : AObj) : (h.new o).next = h.next + 1 := rfl
@[simp] theorem get_set_self (h : H) (i : Nat) (o : AObj) : (h.set i o).get i = some o := by simp [H.set]
theorem get_set_ne {h : H} {i j : Nat} {o : AObj} (hi : j ≠ i) : (h.set i o).get j = h.get j := by simp only [H.set]; rw [if_neg hi]
@[simp] theorem next_set (h : H) (i : Nat) (o : AObj) : (h.set i o).next = h.next := rfl
@[simp] theorem set_set (h : H) (i : Nat) (o o' : AObj) : (h.set i o).set i o' = h.set i o' := by
 simp only [H.set, H.mk.injEq, true_and]; funext j; split <;> rfl
/-- not by unfolding: what is rewritten with it is not compared -/
theorem nr {α : Sort _} {a b : α} (h : a = b) : a = b := h
section
variable {β : Type}
@[simp] theorem nnK_some' (b o : Nat) (f : Nat → Nat → Option β) : nnK (some (b, o)) f = f b o := nr rfl
@[simp] theorem asInt_int (k : IntKind) (n : Int) (f : Int → Option β) : asInt k (.int k n) f = f n := by simp [asInt]
@[simp] theorem asBool_bool (b : Bool) (f : Bool → Option β) : asBool (.bool b) f = f b := nr rfl
@[simp] theorem asStr_str (s : ByteArray) (f : ByteArray → Option β) : asStr (.str s) f = f s := nr rfl
@[simp] theorem asPtr_ptr (p : Option (Nat × Nat)) (f : Option (Nat × Nat) → Option β) : asPtr (.ptr p) f = f p := nr rfl
@[simp] theorem asSlice_slice (p : Option (Nat × Nat)) (l : Nat) (c : Cap) (f : Option (Nat × Nat) → Nat → Cap → Option β) : asSlice (.slice p l c) f = f p l c := nr rfl
@[simp] theorem asMap_map (p : Option Nat) (f : Option Nat → Option β) : asMap (.map p) f = f p := nr rfl
@[simp] theorem asAgg_agg (l : List AV) (f : List AV → Option β) : asAgg (.agg l) f = f l := nr rfl
@[simp] theorem l0_nil (f : Option β) : l0 [] f = f := nr rfl
@[simp] theorem lc_cons (v : AV) (l : List AV) (f : AV → List AV → Option β) : lc (v :: l) f = f v l := nr rfl
@[simp] theorem newK_eq (o : AObj) (h : H) (f : Nat → H → Option β) : newK o h f = f h.next (h.new o) := nr rfl
theorem atK_of {l : List AV} {o : Nat} {v : AV} (hv : l[o]? = some v) (f : AV → Option β) : atK l o f = f v := by simp [atK, hv]
theorem cellK_of {h : H} {i o : Nat} {cs : List AV} {ro : Bool} {v : AV} (hg : h.get i = some (.cells cs ro)) (hv : cs[o]? = some v) (f : AV → Option β) : cellK h i o f = f v := by simp [cellK, hg, hv]
theorem aggK_of {h : H} {i o n : Nat} {cs : List AV} {ro : Bool} (hg : h.get i = some (.cells cs ro)) (hn : o + n ≤ cs.length) (f : List AV → Option β) : aggK h i o n f = f ((cs.drop o).take n) := by simp [aggK, hg, hn]
theorem aggK_all {h : H} {i n : Nat} {cs : List AV} {ro : Bool} (hg : h.get i = some (.cells cs ro)) (hn : cs.length = n) (f : List AV → Option β) : aggK h i 0 n f = f cs := by
 rw [aggK_of hg (by omega)]; simp [← hn]
theorem wrK_of {h : H} {i o n : Nat} {cs xs : List AV} (hg : h.get i = some (.cells cs false)) (hn : xs.length = n) (hl : o + n ≤ cs.length) (hc : xs.all isCell = true) (f : H → Option β) :
  wrK h i o n xs f = f (h.set i (.cells (spl cs o xs) false)) := by
 simp only [wrK, hg]; rw [if_pos ⟨hn, by omega, hc⟩]
theorem wrK_one {h : H} {i o : Nat} {cs : List AV} {x : AV} (hg : h.get i = some (.cells cs false)) (hl : o < cs.length) (hc : isCell x = true) (f : H → Option β) :
  wrK h i o 1 [x] f = f (h.set i (.cells (cs.set o x) false)) := wrK_of hg rfl (show o + 1 ≤ cs.length from hl) (by simp [hc]) f
@[simp] theorem blkP_some (b o : Nat) : blkP (some (b, o)) = some b := rfl
@[simp] theorem blkP_none : blkP none = none := rfl
@[simp] theorem sameK_same (h : H) (b : Option Nat) (x : Option β) : sameK h h b x = x := by cases b <;> simp [sameK]
@[simp] theorem sameK_none (h h' : H) (x : Option β) : sameK h h' none x = x := nr rfl
theorem sameK_of {h h' : H} {b : Nat} (e : h'.get b = h.get b) (x : Option β) : sameK h h' (some b) x = x := by simp only [sameK]; rw [if_pos e]
end
theorem spl_all : ∀ (xs l : List AV), xs.length = l.length → spl l 0 xs = xs := by
 intro xs l h
 apply List.ext_getElem?
 intro k
 rw [spl_get xs l 0 (by omega)]
 by_cases hk : k < xs.length
 ·simp [hk]
 ·rw [if_neg (by omega), List.getElem?_eq_none (by omega), List.getElem?_eq_none (by omega)]
/-- the slice's elements are the cells vs (size cells each) -/
inductive SL (h : H) (size : Nat) : Option (Nat × Nat) → Nat → Cap → List AV → Prop
 | nil : SL h size none 0 (.known 0) []
 | row {b o len : Nat} {c : Cap} {cs : List AV} {ro : Bool} {vs : List AV} (hg : h.get b = some (.cells cs ro)) (hv : (cs.drop o).take (len * size) = vs) (hl : o + len * size ≤ cs.length) (hc : c = .rest size ∨ ∃ k, c = .known k ∧ len ≤ k) : SL h size (some (b, o)) len c vs
theorem SL.length {h : H} {size : Nat} {p : Option (Nat × Nat)} {len : Nat} {c : Cap} {vs : List AV} (s : SL h size p len c vs) : vs.length = len * size := by
 cases s with
 | nil => simp
 | row hg hv hl hc => subst hv; simp; omega
section
variable {β : Type}
end
end Go.Ev
namespace Go.Ev
end Go.Ev
namespace Go.Ev
end Go.Ev
namespace Go.Ev
theorem evNums_map : ∀ l : List Int, evNums (l.map (.int .u8)) = some l
 | [] => rfl
 | x :: l => by
  have := evNums_map l
  unfold evNums at this ⊢
  simp [this]
theorem bsK_of {β : Type} {h : H} {p : Option (Nat × Nat)} {len : Nat} {c : Cap} {bs : List Int} (s : SL h 1 p len c (bs.map (.int .u8))) (f : ByteArray → Option β) : bsK h (.slice p len c) f = f (strOfNums bs) := by
 have hlen := s.length
 simp only [List.length_map, Nat.mul_one] at hlen
 generalize hvs : bs.map (AV.int .u8) = vs at s
 cases s with
 | nil =>
  have : bs = [] := List.eq_nil_of_length_eq_zero hlen
  subst this
  rfl
 | row hg hv hl hc =>
  unfold bsK
  simp only [evBytesStr]
  by_cases h0 : len = 0
  ·subst h0
   have : bs = [] := List.eq_nil_of_length_eq_zero hlen
   subst this
   rfl
  ·rw [if_neg h0, hg]
   simp only [Nat.mul_one] at hv hl
   simp only [hl, if_true, hv, ← hvs, evNums_map, Option.map_some]
end Go.Ev
