/- The abstract machine Ev, part N: regions, code, functions: what the abstract machine computes, the model's machine comes to. -/
import Derived.Test.YtkikfnpanlcajaaDoorEvM
import Derived.LoopN
set_option linter.all false
namespace Go.Ev

section
variable {P : Program} {call : CallFn} {ops : Array Oper} {n : Nat} {F : Nat → List AV} {Hs : Nat → H} {V : Nat → AV} {r0 : Ren} {w0 : World} {ds : List Deferred}
variable (hcall : call.Sound P) (hrun : Run P call ops n F Hs V) (wf0 : (Hs 0).WF) (hn : n = ops.size) (free : ∀ i, (Hs 0).next ≤ i → i < (Hs n).next → r0 i = none)
include hcall hrun wf0 hn free

theorem inv_step {D : Nat → Prop} {r : Ren} {a : Act} {w : World} (inv : Inv P ops n F Hs V r0 w0 ds D r a w) {j : Nat} (hj : j < n) {oj : Oper} (hoj : ops[j]? = some oj) (turn : Turn P ops D j) (hDj : ¬ D j)
    (Q : Exit → Act → World → Prop) (K : Act → World → Prop) (hK : ∀ r' a' w', Inv P ops n F Hs V r0 w0 ds (With D j) r' a' w' → K a' w') : wpOp P ops Q j K a w := by
  obtain ⟨o, ho, hst, _⟩ := hrun.step j hj
  rw [hoj] at ho
  cases ho
  rw [← evStep_restrict] at hst
  have hρ := operands_at (Hs := Hs) hrun hn inv hj hoj turn hDj
  unfold wpOp
  simp only [hoj]
  unfold evStep at hst
  obtain ⟨b, hb, hst⟩ := Option.bind_eq_some_iff.1 hst
  rw [wanted_sim hb fun t _ => hρ _]
  cases b with
  | false =>
    simp at hst
    simp only [Bool.false_eq_true, if_false]
    refine hK r _ w (inv_behind hrun hn inv hj hoj turn hDj (behind_same inv hst.2.symm) ?_)
    rw [← hst.1]
    exact VR_tup (vs := []) .nil
  | true =>
    simp at hst
    simp only [if_true]
    refine .inl ?_
    cases hc : cls P oj.op with
    | full =>
      have hrel := rel_at hcall hrun wf0 hn free inv hj hoj turn hDj hc
      have hfr := free_at hcall hrun wf0 hn free inv hj hDj
      exact full_leads hcall hρ hrel hfr hc hst Q K fun v' w' ⟨r', hv, hp⟩ => hK r' _ w' (inv_behind hrun hn inv hj hoj turn hDj (behind_full hcall hrun wf0 hn free inv hj hoj turn hDj hc hp) hv)
    | pure =>
      unfold evOper at hst
      rw [hc] at hst
      obtain ⟨x, hx, hst⟩ := Option.map_eq_some_iff.1 hst
      obtain ⟨rfl, hH⟩ := Prod.mk.inj hst
      exact pure_leads hρ hx w Q K fun v' w' ⟨hv, e⟩ => by subst e; exact hK r _ _ (inv_behind hrun hn inv hj hoj turn hDj (behind_same inv hH.symm) hv)
    | read =>
      have ⟨h0, hrel, hst0⟩ : ∃ h0, Rel r h0 w ∧ evOper P call (restrict ops oj (F j)) oj.op h0 = some (V j, h0) := by
        -- what reads behind earlier ones may not look at
        have ⟨S1, g1, g2⟩ : ∃ S1 : Nat → Prop, (∀ m om, m < j → ops[m]? = some om → cls P om.op = .full → indepB (masks ops) m j = true → ∀ i, i < (Hs m).next → (Hs (m + 1)).get i ≠ (Hs m).get i → S1 i) ∧ evStep P call ops oj (opd (F j)) ((Hs j).minus S1) = some (V j, (Hs j).minus S1) := by
          cases hsh : shyB P ops (masks ops) j with
          | false =>
            refine ⟨noT, fun m om hmj hom hf hi => ?_, ?_⟩
            · have hi' : ((masks ops m).testBit j || (masks ops j).testBit m) = false := by simpa [indepB] using hi
              have := shy_of (M := masks ops) hom hoj hf hc hi' hmj
              rw [hsh] at this; cases this
            · obtain ⟨o, ho, hs, _⟩ := hrun.step j hj
              rw [hoj] at ho
              cases ho
              exact evStep_local hc hs fun b _ h => h
          | true =>
            obtain ⟨S, q1, q2⟩ := hrun.shy j hj hsh
            exact ⟨S, fun m om hmj hom hf hi => q1 m hmj (needQuiet_of hom hoj hf hc (by simpa [indepB] using hi)), q2 oj hoj⟩
        have g3 := evStep_local (S := fun i => ∃ m om, j < m ∧ m < n ∧ ops[m]? = some om ∧ cls P om.op = .full ∧ indepB (masks ops) m j = true ∧ (Hs (m + 1)).get i ≠ (Hs m).get i) hc g2 (fun b hb ⟨m, om, k1, k2, k3, k4, k5, k6⟩ => k6 (hrun.kept m k2 (needQuiet_of k3 hoj k4 hc (by simpa [indepB] using k5)) j oj k1 hoj hc k5 b hb))
        rw [minus_minus] at g3
        rw [← evStep_restrict] at g3
        unfold evStep at g3
        rw [hb] at g3
        simp only [Option.bind_some, if_true] at g3
        refine ⟨_, rel_minus (S := fun i => S1 i ∨ ∃ m om, j < m ∧ m < n ∧ ops[m]? = some om ∧ cls P om.op = .full ∧ indepB (masks ops) m j = true ∧ (Hs (m + 1)).get i ≠ (Hs m).get i) hcall hrun wf0 hn free inv hj hoj turn hDj (.inr ⟨hc, fun m om hm hne hom hf hi i hlt ht => ?_⟩), g3⟩
        rcases Nat.lt_or_ge m j with hmj | hmj
        · exact .inl (g1 m om hmj hom hf hi i hlt ht)
        · exact .inr ⟨m, om, by omega, hm, hom, hf, hi, ht⟩
      unfold evOper at hst hst0
      rw [hc] at hst hst0
      obtain ⟨_, _, hst⟩ := Option.map_eq_some_iff.1 hst
      obtain ⟨_, hH⟩ := Prod.mk.inj hst
      obtain ⟨x, hx, hst0⟩ := Option.map_eq_some_iff.1 hst0
      obtain ⟨rfl, _⟩ := Prod.mk.inj hst0
      exact read_leads hρ hrel hx Q K fun v' w' ⟨hv, e⟩ => by subst e; exact hK r _ _ (inv_behind hrun hn inv hj hoj turn hDj (behind_same inv hH.symm) hv)
    | alloc =>
      unfold evOper at hst
      rw [hc] at hst
      obtain ⟨⟨ob, mk⟩, hx, hst⟩ := Option.map_eq_some_iff.1 hst
      obtain ⟨hV, hH⟩ := Prod.mk.inj hst
      obtain ⟨hro, hl⟩ := alloc_leads hρ hx w
      exact hl Q K fun v' w' ⟨row, h1, he, h2, h3, h4⟩ => by
        refine hK _ _ w' (inv_behind hrun hn inv hj hoj turn hDj (behind_alloc hcall hrun wf0 free inv hj hDj (row := row) hH.symm h1 he h2 h3) ?_)
        rw [← hV]
        refine h4 _ _ (Ren.le_refl _) ?_
        simp [Ren.put]

theorem inv_end {D : Nat → Prop} {r : Ren} {a : Act} {w : World} (inv : Inv P ops n F Hs V r0 w0 ds D r a w) (hD : ∀ m, m < n → D m) (hfrl : (F 0).length = a.tmps.size) : FR r (F n) a ∧ Post r0 (Hs 0) w0 r (Hs n) w := by
  have hcont : ∀ i, contD n Hs D i = (Hs n).get i := fun i => contD_agree (Nat.le_refl n) fun m hm _ => ⟨fun _ => hm, fun _ => hD m hm⟩
  refine ⟨⟨by rw [length_F hrun n (Nat.le_refl n)]; simpa using hfrl, fun t x v hx hv => ?_⟩, ⟨inv.le, fun i t h1 h2 => ?_, ⟨Hs_wf hcall hrun wf0 n (Nat.le_refl n), fun i t o h1 h2 => inv.obj i t o h1 (by rw [hcont]; exact h2), fun i k ti tk oi ok h1 h2 h3 h4 => inv.inj i k ti tk oi ok h1 h2 (by rw [hcont]; exact h3) (by rw [hcont]; exact h4), inv.bound, inv.gl.mono inv.le⟩, inv.keep, inv.env, inv.size, Hs_mono hcall hrun (Nat.zero_le n) (Nat.le_refl n), inv.fresh, fun i o hi ho => ?_, fun i t h1 => ?_, fun i hi hne => ?_⟩⟩
  · have hlt : t < (F 0).length := by rw [← length_F hrun n (Nat.le_refl n)]; exact (List.getElem?_eq_some_iff.1 hx).1
    have h1 := inv.slot t hlt
    rw [slotD_agree hrun hlt (Nat.le_refl n) (fun m hm _ => ⟨fun _ => hm, fun _ => hD m hm⟩), List.getD_eq_getElem?_getD, hx] at h1
    simp only [Act.eval, Array.getD_eq_getD_getElem?] at h1
    rw [← Array.getElem?_toList, hv] at h1
    exact h1
  · obtain ⟨k, hk, _, h3, h4⟩ := inv.dom i t h1 h2
    have := Hs_mono hcall hrun (Nat.zero_le k) (by omega : k ≤ n)
    have := Hs_mono hcall hrun (show k + 1 ≤ n from hk) (Nat.le_refl n)
    exact ⟨by omega, by omega⟩
  · have : ∀ k, k ≤ n → ∀ o, (Hs k).get i = some o → ∃ o0, (Hs 0).get i = some o0 ∧ o0.ro = o.ro := by
      intro k
      induction k with
      | zero => intro _ o h; exact ⟨o, h, rfl⟩
      | succ k ih =>
        intro hk o h
        obtain ⟨o', h1, h2⟩ := inv.ro k hk (hD k hk) i o (Nat.lt_of_lt_of_le hi (Hs_mono hcall hrun (Nat.zero_le k) (by omega))) h
        obtain ⟨o0, h3, h4⟩ := ih (by omega) o' h1
        exact ⟨o0, h3, h4.trans h2⟩
    exact this n (Nat.le_refl n) o ho
  · rcases Nat.lt_or_ge i (Hs 0).next with h | h
    · exact .inl h
    · rcases Nat.lt_or_ge i (Hs n).next with h' | h'
      · rw [free i h h'] at h1; cases h1
      · exact .inr h'
  · have : ∃ m, m < n ∧ Tc Hs i m := by
      refine Classical.byContradiction fun hno => hne ?_
      have : ∀ k, k ≤ n → (Hs k).get i = (Hs 0).get i := by
        intro k
        induction k with
        | zero => intro _; rfl
        | succ k ih =>
          intro hk
          rw [← ih (by omega)]
          exact Classical.byContradiction fun h => hno ⟨k, hk, h⟩
      exact this n (Nat.le_refl n)
    obtain ⟨m, hm, ht⟩ := this
    obtain ⟨t, hr⟩ := inv.touch m hm (hD m hm) i (Nat.lt_of_lt_of_le hi (Hs_mono hcall hrun (Nat.zero_le m) (by omega))) ht
    cases hr0 : r0 i with
    | some t0 => exact ⟨t0, rfl⟩
    | none =>
      obtain ⟨k, hk, _, h3, h4⟩ := inv.dom i t hr hr0
      have := Hs_mono hcall hrun (Nat.zero_le k) (by omega : k ≤ n)
      omega

end

theorem filter_lt {α : Type} {p p' : α → Bool} {x : α} : ∀ {l : List α}, (∀ y, p' y = true → p y = true) → x ∈ l → p x = true → p' x = false → (l.filter p').length < (l.filter p).length
  | [], _, hx, _, _ => by cases hx
  | y :: l, h, hx, h1, h2 => by
    have hle : ∀ l : List α, (l.filter p').length ≤ (l.filter p).length := by
      intro l
      induction l with
      | nil => simp
      | cons z l ih =>
        simp only [List.filter_cons]
        by_cases hz : p' z = true
        · rw [if_pos hz, if_pos (h z hz)]; simp; exact ih
        · rw [if_neg hz]
          split
          · simp; omega
          · exact ih
    simp only [List.filter_cons]
    rcases List.mem_cons.1 hx with rfl | hm
    · rw [if_pos h1, if_neg (by simp [h2])]
      have := hle l
      simp; omega
    · have ih := filter_lt (l := l) h hm h1 h2
      by_cases hz : p' y = true
      · rw [if_pos hz, if_pos (h y hz)]; simp; exact ih
      · rw [if_neg hz]
        split
        · simp; omega
        · exact ih

/-- **A drawn region: whatever order is drawn.** -/
theorem region_any {P : Program} {call : CallFn} (hcall : call.Sound P) {ops : Array Oper} {F : Nat → List AV} {Hs : Nat → H} {V : Nat → AV} {r0 : Ren} {w0 : World} {ds : List Deferred}
    (hok : okRegion P ops = true) (hrun : Run P call ops ops.size F Hs V) (wf0 : (Hs 0).WF) (free : ∀ i, (Hs 0).next ≤ i → i < (Hs ops.size).next → r0 i = none) {Q : Exit → Act → World → Prop}
    (hQ : ∀ r a w, FR r (F ops.size) a → a.defers = ds → Post r0 (Hs 0) w0 r (Hs ops.size) w → Q .normal a w) :
    ∀ (fuel : Nat) (listed : Array Bool) (r : Ren) (a : Act) (w : World), listed.size = ops.size → (∀ m o, ops[m]? = some o → listed.getD m false = true → ∀ e ∈ o.after, Region.binds .any e = true → listed.getD e.on false = true) →
      ((List.range ops.size).filter fun i => !listed.getD i true).length ≤ fuel → (∀ D : Nat → Prop, (∀ m, D m ↔ listed.getD m false = true) → Inv P ops ops.size F Hs V r0 w0 ds D r a w) → wpAny P .any ops Q fuel listed a w := by
  simp only [okRegion, Bool.and_eq_true] at hok
  obtain ⟨⟨hM, hH⟩, hP⟩ := hok
  have done : ∀ (listed : Array Bool) (r : Ren) (a : Act) (w : World), listed.size = ops.size → (∀ i, i < ops.size → listed.getD i true = true) →
      (∀ D : Nat → Prop, (∀ m, D m ↔ listed.getD m false = true) → Inv P ops ops.size F Hs V r0 w0 ds D r a w) → Q .normal a w := by
    intro listed r a w hsz hall hinv
    have inv := hinv (fun m => listed.getD m false = true) fun m => Iff.rfl
    have hD : ∀ m, m < ops.size → listed.getD m false = true := fun m hm => by
      have := hall m hm
      simp [hsz, hm] at this ⊢; exact this
    obtain ⟨h1, h2⟩ := inv_end hcall hrun wf0 rfl free inv hD inv.sz.symm
    exact hQ r a w h1 inv.defers h2
  have minimal : ∀ (listed : Array Bool), listed.size = ops.size → Region.ready .any ops listed = [] → ∀ i, i < ops.size → listed.getD i true = true := by
    intro listed hsz hr i
    induction i using Nat.strongRecOn with
    | _ i ih =>
      intro hi
      cases hl : listed.getD i true with
      | true => rfl
      | false =>
        have ho : ops[i]? = some ops[i] := Array.getElem?_eq_getElem hi
        have : i ∈ Region.ready .any ops listed := mem_ready.2 ⟨hl, _, ho, fun e he hb => by
          have h1 := (okM_spec hM ho).1 e he hb
          have h2 := ih e.on h1 (by omega)
          have h3 : e.on < listed.size := by omega
          simp [h3] at h2 ⊢; exact h2⟩
        rw [hr] at this; cases this
  intro fuel
  induction fuel with
  | zero =>
    intro listed r a w hsz hcl hfu hinv
    have hall : ∀ i, i < ops.size → listed.getD i true = true := by
      intro i hi
      cases hl : listed.getD i true with
      | true => rfl
      | false =>
        have hm : i ∈ (List.range ops.size).filter fun i => !listed.getD i true := List.mem_filter.2 ⟨List.mem_range.2 hi, by rw [hl]; rfl⟩
        have : (List.range ops.size).filter (fun i => !listed.getD i true) = [] := List.eq_nil_of_length_eq_zero (by omega)
        rw [this] at hm; cases hm
    refine ⟨?_, done listed r a w hsz hall hinv⟩
    cases hr : Region.ready .any ops listed with
    | nil => rfl
    | cons x xs =>
      have hx : x ∈ Region.ready .any ops listed := by rw [hr]; simp
      obtain ⟨h1, o, h2, _⟩ := mem_ready.1 hx
      rw [hall x (Array.getElem?_eq_some_iff.1 h2).1] at h1; cases h1
  | succ fuel ih =>
    intro listed r a w hsz hcl hfu hinv
    refine ⟨fun hr => done listed r a w hsz (minimal listed hsz hr) hinv, fun j hj => ?_⟩
    obtain ⟨hjl, oj, hoj, hready⟩ := mem_ready.1 hj
    have hjs := (Array.getElem?_eq_some_iff.1 hoj).1
    have inv := hinv (fun m => listed.getD m false = true) fun m => Iff.rfl
    have hDj : ¬ (listed.getD j false = true) := fun h => by
      have h3 : j < listed.size := by omega
      simp [h3] at h hjl; rw [h] at hjl; cases hjl
    have turn := turn_of (P := P) hM hH hP (D := fun m => listed.getD m false = true) hcl hoj hDj hready
    refine inv_step hcall hrun wf0 rfl free inv hjs hoj turn hDj Q _ fun r' a' w' inv' => ih _ r' a' w' (by simp [hsz]) ?_ ?_ ?_
    · intro m o ho hm e he hb
      by_cases hmj : j = m
      · subst hmj
        rw [hoj] at ho
        cases ho
        exact getD_set_true (hready e he hb)
      · rw [getD_set_ne false hmj] at hm
        exact getD_set_true (hcl m o ho hm e he hb)
    · have := filter_lt (l := List.range ops.size) (p := fun i => !listed.getD i true) (p' := fun i => !(listed.setIfInBounds j true).getD i true) (x := j) (fun y hy => by
          by_cases hyj : j = y
          · subst hyj; rw [hjl]; rfl
          · rw [getD_set_ne true hyj] at hy; exact hy) (List.mem_range.2 hjs) (by rw [hjl]; rfl) (by
          have h3 : j < listed.size := by omega
          simp [h3])
      omega
    · intro D hD
      have hDe : D = With (fun m => listed.getD m false = true) j := by
        funext m
        refine propext ((hD m).trans ?_)
        unfold With
        by_cases hmj : j = m
        · subst hmj
          have h3 : j < listed.size := by omega
          simp [h3]
        · rw [getD_set_ne false hmj]
          exact ⟨.inl, fun h => h.resolve_right fun e => hmj e.symm⟩
      rw [hDe]; exact inv'

/-! ### code -/

inductive AExit where
  | normal
  | exit (id : Nat)
  | ret
  deriving DecidableEq

def AExit.to : AExit → Exit
  | .normal => .normal
  | .exit id => .exit id
  | .ret => .ret

abbrev AState := List AV × H

noncomputable def evRegion (P : Program) (call : CallFn) (ops : Array Oper) (draw : Bool) (s : AState) : Option AState :=
  if draw then evOpsQ P call ops ops.toList 0 s.1 s.2 noT [] else evOps P call ops ops.toList s.1 s.2

noncomputable def loopN (body : AState → Option (AExit × AState)) : Nat → AState → Option (AExit × AState)
  | 0, _ => none
  | n + 1, s => (body s).bind fun q => if q.1 = .normal then loopN body n q.2 else some q

noncomputable def evCode (P : Program) (call : CallFn) (n : Nat) : Code → AState → Option (AExit × AState)
  | .skip, s => some (.normal, s)
  | .region _ ops draw, s => (evRegion P call ops draw s).map fun s => (.normal, s)
  | .seq a b, s => (evCode P call n a s).bind fun q => if q.1 = .normal then evCode P call n b q.2 else some q
  | .cond c x y, s => match opd s.1 c with | .bool b => if b then evCode P call n x s else evCode P call n y s | _ => none
  | .block id c, s => (evCode P call n c s).map fun q => if q.1 = .exit id then (.normal, q.2) else q
  | .loop c, s => loopN (evCode P call n c) n s
  | .exit id, s => some (.exit id, s)
  | .ret, s => some (.ret, s)
  | _, _ => none

def okCode (P : Program) : Code → Bool
  | .region _ ops draw => !draw || okRegion P ops
  | .seq a b => okCode P a && okCode P b
  | .cond _ a b => okCode P a && okCode P b
  | .block _ c => okCode P c
  | .loop c => okCode P c
  | _ => true

theorem evOpsQ_grows {P : Program} {call : CallFn} (hcall : call.Sound P) {ops : Array Oper} : ∀ {l : List Oper} {k : Nat} {fr fr' : List AV} {h h' : H} {S : Nat → Prop} {Js : List (Nat × AV)}, evOpsQ P call ops l k fr h S Js = some (fr', h') → h.next ≤ h'.next ∧ (h.WF → h'.WF)
  | [], k, fr, fr', h, h', S, Js, hs => by simp only [evOpsQ] at hs; cases hs; exact ⟨Nat.le_refl _, id⟩
  | o :: rest, k, fr, fr', h, h', S, Js, hs => by
    simp only [evOpsQ] at hs
    split at hs
    · obtain ⟨⟨v, h1⟩, h2, hs⟩ := Option.bind_eq_some_iff.1 hs
      exact evOpsQ_grows hcall hs
    · obtain ⟨⟨v, h1⟩, h2, hs⟩ := Option.bind_eq_some_iff.1 hs
      have g1 := evStep_grows hcall h2
      simp only at hs
      split at hs
      · split at hs
        · exact ⟨Nat.le_trans g1.1 (evOpsQ_grows hcall hs).1, fun hw => (evOpsQ_grows hcall hs).2 (g1.2 hw)⟩
        · cases hs
      · exact ⟨Nat.le_trans g1.1 (evOpsQ_grows hcall hs).1, fun hw => (evOpsQ_grows hcall hs).2 (g1.2 hw)⟩

theorem evRegion_grows {P : Program} {call : CallFn} (hcall : call.Sound P) {ops : Array Oper} {draw : Bool} {s s' : AState} (h : evRegion P call ops draw s = some s') : s.2.next ≤ s'.2.next ∧ (s.2.WF → s'.2.WF) := by
  unfold evRegion at h
  split at h
  · exact evOpsQ_grows hcall h
  · exact evOps_grows hcall h

theorem loopN_grows {body : AState → Option (AExit × AState)} (hb : ∀ s e s', body s = some (e, s') → s.2.next ≤ s'.2.next ∧ (s.2.WF → s'.2.WF)) : ∀ (n : Nat) {s s' : AState} {e : AExit}, loopN body n s = some (e, s') → s.2.next ≤ s'.2.next ∧ (s.2.WF → s'.2.WF)
  | 0, s, s', e, h => by simp [loopN] at h
  | n + 1, s, s', e, h => by
    simp only [loopN] at h
    obtain ⟨⟨e1, s1⟩, h1, h2⟩ := Option.bind_eq_some_iff.1 h
    have := hb _ _ _ h1
    split at h2
    · exact ⟨Nat.le_trans this.1 (loopN_grows hb n h2).1, fun hw => (loopN_grows hb n h2).2 (this.2 hw)⟩
    · cases h2; exact this

theorem evCode_grows {P : Program} {call : CallFn} (hcall : call.Sound P) (n : Nat) : ∀ (c : Code) {s s' : AState} {e : AExit}, evCode P call n c s = some (e, s') → s.2.next ≤ s'.2.next ∧ (s.2.WF → s'.2.WF)
  | .skip, s, s', e, h => by simp only [evCode] at h; cases h; exact ⟨Nat.le_refl _, id⟩
  | .region _ ops draw, s, s', e, h => by
    simp only [evCode] at h
    obtain ⟨s1, h1, h⟩ := Option.map_eq_some_iff.1 h
    cases h
    exact evRegion_grows hcall h1
  | .seq a b, s, s', e, h => by
    simp only [evCode] at h
    obtain ⟨⟨e1, s1⟩, h1, h2⟩ := Option.bind_eq_some_iff.1 h
    have := evCode_grows hcall n a h1
    split at h2
    · exact ⟨Nat.le_trans this.1 (evCode_grows hcall n b h2).1, fun hw => (evCode_grows hcall n b h2).2 (this.2 hw)⟩
    · cases h2; exact this
  | .cond c x y, s, s', e, h => by
    simp only [evCode] at h
    split at h
    · split at h
      · exact evCode_grows hcall n x h
      · exact evCode_grows hcall n y h
    · cases h
  | .block id c, s, s', e, h => by
    simp only [evCode] at h
    obtain ⟨⟨e1, s1⟩, h1, h⟩ := Option.map_eq_some_iff.1 h
    have := evCode_grows hcall n c h1
    split at h <;> (cases h; exact this)
  | .loop c, s, s', e, h => by
    simp only [evCode] at h
    exact loopN_grows (fun s e s' hb => evCode_grows hcall n c hb) n h
  | .exit id, s, s', e, h => by simp only [evCode] at h; cases h; exact ⟨Nat.le_refl _, fun h => h⟩
  | .ret, s, s', e, h => by simp only [evCode] at h; cases h; exact ⟨Nat.le_refl _, id⟩
  | .rangeFunc _ _ _ _, s, s', e, h => by simp [evCode] at h
  | .scope _, s, s', e, h => by simp [evCode] at h
  | .label _, s, s', e, h => by simp [evCode] at h
  | .goto _, s, s', e, h => by simp [evCode] at h
  | .refuse _, s, s', e, h => by simp [evCode] at h

theorem free_step {r r' : Ren} {h h1 h' : H} {w w' : World} (p : Post r h w r' h1 w') (hfree : ∀ i, h.next ≤ i → i < h'.next → r i = none) : ∀ i, h1.next ≤ i → i < h'.next → r' i = none := by
  intro i hi1 hi2
  cases hr : r' i with
  | none => rfl
  | some t =>
    have hn := hfree i (Nat.le_trans p.next hi1) hi2
    have := p.dom i t hr hn
    omega

/-- what a piece of code leads to -/
def Ends (P : Program) (c : Code) (r : Ren) (s : AState) (a : Act) (w : World) (e : AExit) (s' : AState) : Prop :=
  ∀ Q : Exit → Act → World → Prop, (∀ r' a' w', FR r' s'.1 a' → a'.defers = a.defers → Post r s.2 w r' s'.2 w' → Q e.to a' w') → c.wp P Q a w

theorem getD_rep (m j : Nat) : (Array.replicate m false).getD j false = false := by
  rcases Nat.lt_or_ge j m with h | h
  · simp [h]
  · simp [h]

theorem region_ends {P : Program} (hm : P.follows .mixedOrders = true) {call : CallFn} (hcall : call.Sound P) {id : Nat} {ops : Array Oper} {draw : Bool} (hok : (!draw || okRegion P ops) = true) {s s' : AState} (h : evRegion P call ops draw s = some s')
    {r : Ren} {a : Act} {w : World} (hfr : FR r s.1 a) (hrel : Rel r s.2 w) (hfree : ∀ i, s.2.next ≤ i → i < s'.2.next → r i = none) : Ends P (.region id ops draw) r s a w .normal s' := by
  intro Q hQ
  unfold evRegion at h
  cases draw with
  | false =>
    simp only [Bool.false_eq_true, if_false] at h
    exact wp_region_list (evOps_wp hcall h hfr hrel hfree fun r' a' w' h1 h2 h3 => hQ r' a' w' h1 h2 h3)
  | true =>
    simp only [if_true] at h
    simp only [Bool.not_true, Bool.false_or] at hok
    obtain ⟨F, Hs, V, e1, e2, e3, e4, e5, e6, e7⟩ := run_of_evOpsQ h (fun j => by simp)
    have hsz : ops.toList.length = ops.size := by simp
    rw [hsz] at e3 e4 e5 e6 e7
    have hrun : Run P call ops ops.size F Hs V := ⟨fun k hk => by have := e5 k hk; simpa using this, fun k hk hq j oj hj hoj hc hi b hb => (e6 k hk (by simpa using hq)).2 j oj hj (by simpa using hoj) hc (by simpa using hi) b hb, fun k hk hs => by
      obtain ⟨S, _, g1, g2⟩ := e7 k hk (by simpa using hs)
      exact ⟨S, fun m hm hq => g1 m hm (by simpa using hq), fun o ho => g2 o (by simpa using ho)⟩⟩
    have hw : Post r s.2 w r s.2 w.drew := Post.same hrel rfl ⟨rfl, rfl, rfl, fun _ => Nat.le_succ _⟩
    refine wp_region_any hm ?_
    have hlen : (F 0).length = a.tmps.size := by rw [e1]; simpa using hfr.1
    refine region_any hcall hok hrun (r0 := r) (w0 := w.drew) (ds := a.defers) (by rw [e2]; exact hrel.wf) (by rw [e2, e4]; exact hfree) (fun r' a' w' h1 h2 h3 => ?_) ops.size _ r a w.drew (by simp) ?_ ?_ ?_
    · rw [e2, e4] at h3
      rw [e3] at h1
      exact hQ r' a' w' h1 h2 (hw.trans h3)
    · intro m o ho hm' e he hb
      rw [getD_rep] at hm'; cases hm'
    · have := List.length_filter_le (fun i => !(Array.replicate ops.size false).getD i true) (List.range ops.size)
      simpa using this
    · intro D hD
      have hno : ∀ m, ¬ D m := fun m h => by have := (hD m).1 h; rw [getD_rep] at this; cases this
      have hcont : ∀ i, contD ops.size Hs D i = (Hs 0).get i := fun i => contD_agree (Nat.zero_le _) fun m _ _ => ⟨fun h => absurd h (hno m), fun h => by omega⟩
      refine ⟨Ren.le_refl _, (fun i t h1 h2 => by rw [h1] at h2; cases h2), hlen.symm, fun t ht => ?_, fun i t o h1 h2 => ?_, fun i k ti tk oi ok h1 h2 h3 h4 => ?_, hw.rel.bound, fun _ _ _ => rfl, Nat.le_refl _, .refl _, (fun i t h1 h2 => by rw [h1] at h2; cases h2), fun m _ h => absurd h (hno m), fun m _ h => absurd h (hno m), rfl, hrel.glob⟩
      · rw [slotD_agree hrun ht (Nat.zero_le _) fun m _ _ => ⟨fun h => absurd h (hno m), fun h => by omega⟩, e1]
        exact opd_VR hfr hrel.glob (.tmp t)
      · rw [hcont, e2] at h2
        exact hw.rel.obj i t o h1 h2
      · rw [hcont, e2] at h3 h4
        exact hw.rel.inj i k ti tk oi ok h1 h2 h3 h4

theorem Ends.seq {P : Program} {x y : Code} {r : Ren} {s s1 s' : AState} {a : Act} {w : World} {e : AExit} (h : Ends P x r s a w .normal s1)
    (h2 : ∀ r' a' w', FR r' s1.1 a' → a'.defers = a.defers → Post r s.2 w r' s1.2 w' → Ends P y r' s1 a' w' e s') : Ends P (.seq x y) r s a w e s' := by
  intro Q hQ
  refine wp_seq (h _ fun r' a' w' g1 g2 g3 => ?_)
  exact h2 r' a' w' g1 g2 g3 Q fun r'' a'' w'' k1 k2 k3 => hQ r'' a'' w'' k1 (k2.trans g2) (g3.trans k3)

theorem Ends.seq_out {P : Program} {x y : Code} {r : Ren} {s s' : AState} {a : Act} {w : World} {e : AExit} (he : e ≠ .normal) (h : Ends P x r s a w e s') : Ends P (.seq x y) r s a w e s' := by
  intro Q hQ
  refine wp_seq (h _ fun r' a' w' g1 g2 g3 => ?_)
  have := hQ r' a' w' g1 g2 g3
  cases e <;> first | exact absurd rfl he | exact this

theorem Ends.block {P : Program} {id : Nat} {c : Code} {r : Ren} {s s' : AState} {a : Act} {w : World} {e : AExit} (h : Ends P c r s a w e s') : Ends P (.block id c) r s a w (if e = .exit id then .normal else e) s' := by
  intro Q hQ
  refine wp_block (h _ fun r' a' w' g1 g2 g3 => ?_)
  have := hQ r' a' w' g1 g2 g3
  cases e with
  | normal => exact this
  | ret => exact this
  | exit j =>
    show Exit.inBlock id Q (.exit j) a' w'
    simp only [Exit.inBlock]
    by_cases hj : j = id
    · subst hj
      simp only [if_true] at this ⊢; exact this
    · rw [if_neg hj]
      rw [if_neg (by intro e; cases e; exact hj rfl)] at this
      exact this

theorem loop_rounds {P : Program} {c : Code} {body : AState → Option (AExit × AState)} (hgrow : ∀ s e s', body s = some (e, s') → s.2.next ≤ s'.2.next ∧ (s.2.WF → s'.2.WF))
    (hb : ∀ r s a w e s', body s = some (e, s') → FR r s.1 a → Rel r s.2 w → (∀ i, s.2.next ≤ i → i < s'.2.next → r i = none) → Ends P c r s a w e s') :
    ∀ (n : Nat) {r : Ren} {s s' : AState} {a : Act} {w : World} {e : AExit}, loopN body n s = some (e, s') → FR r s.1 a → Rel r s.2 w → (∀ i, s.2.next ≤ i → i < s'.2.next → r i = none) →
      ∀ Q : Exit → Act → World → Prop, (∀ r' a' w', FR r' s'.1 a' → a'.defers = a.defers → Post r s.2 w r' s'.2 w' → Q e.to a' w') → Code.rounds P c Q n a w
  | 0, r, s, s', a, w, e, h, _, _, _, _, _ => by simp [loopN] at h
  | n + 1, r, s, s', a, w, e, h, hfr, hrel, hfree, Q, hQ => by
    simp only [loopN] at h
    obtain ⟨⟨e1, s1⟩, h1, h2⟩ := Option.bind_eq_some_iff.1 h
    rw [rounds_succ]
    split at h2
    · rename_i he
      simp only at he h2
      subst he
      have hg := (loopN_grows hgrow n h2).1
      refine hb r s a w _ _ h1 hfr hrel (fun i a b => hfree i a (Nat.lt_of_lt_of_le b hg)) _ fun r' a' w' g1 g2 g3 => ?_
      exact loop_rounds hgrow hb n h2 g1 g3.rel (free_step g3 hfree) Q fun r'' a'' w'' k1 k2 k3 => hQ r'' a'' w'' k1 (k2.trans g2) (g3.trans k3)
    · rename_i he
      cases h2
      refine hb r s a w _ _ h1 hfr hrel hfree _ fun r' a' w' g1 g2 g3 => ?_
      have := hQ r' a' w' g1 g2 g3
      cases e <;> first | exact absurd rfl he | exact this

theorem evCode_sim {P : Program} (hm : P.follows .mixedOrders = true) {call : CallFn} (hcall : call.Sound P) (n : Nat) : ∀ (c : Code), okCode P c = true → ∀ (r : Ren) (s : AState) (a : Act) (w : World) (e : AExit) (s' : AState),
    evCode P call n c s = some (e, s') → FR r s.1 a → Rel r s.2 w → (∀ i, s.2.next ≤ i → i < s'.2.next → r i = none) → Ends P c r s a w e s'
  | .skip, _, r, s, a, w, e, s', h, hfr, hrel, hfree => by
    simp only [evCode] at h
    cases h
    exact fun Q hQ => wp_skip (hQ r a w hfr rfl (Post.refl hrel))
  | .region id ops draw, hok, r, s, a, w, e, s', h, hfr, hrel, hfree => by
    simp only [evCode] at h
    obtain ⟨s1, h1, h⟩ := Option.map_eq_some_iff.1 h
    cases h
    exact region_ends hm hcall hok h1 hfr hrel hfree
  | .seq x y, hok, r, s, a, w, e, s', h, hfr, hrel, hfree => by
    simp only [okCode, Bool.and_eq_true] at hok
    simp only [evCode] at h
    obtain ⟨⟨e1, s1⟩, h1, h2⟩ := Option.bind_eq_some_iff.1 h
    split at h2
    · rename_i he
      simp only at he h2
      subst he
      have hg := (evCode_grows hcall n y h2).1
      refine Ends.seq (evCode_sim hm hcall n x hok.1 r s a w _ _ h1 hfr hrel fun i a b => hfree i a (Nat.lt_of_lt_of_le b hg)) fun r' a' w' g1 g2 g3 => ?_
      exact evCode_sim hm hcall n y hok.2 r' s1 a' w' _ _ h2 g1 g3.rel (free_step g3 hfree)
    · rename_i he
      cases h2
      exact Ends.seq_out he (evCode_sim hm hcall n x hok.1 r s a w _ _ h1 hfr hrel hfree)
  | .cond c x y, hok, r, s, a, w, e, s', h, hfr, hrel, hfree => by
    simp only [okCode, Bool.and_eq_true] at hok
    simp only [evCode] at h
    split at h
    · rename_i b hb
      have hv := opd_VR hfr hrel.glob c
      rw [hb] at hv
      have hc : a.eval c = .bool b := by
        generalize hq : a.eval c = q at hv
        cases hv; rfl
      intro Q hQ
      refine wp_cond hc ?_
      cases b
      · simp at h ⊢; exact evCode_sim hm hcall n y hok.2 r s a w _ _ h hfr hrel hfree Q hQ
      · simp at h ⊢; exact evCode_sim hm hcall n x hok.1 r s a w _ _ h hfr hrel hfree Q hQ
    · cases h
  | .block id c, hok, r, s, a, w, e, s', h, hfr, hrel, hfree => by
    simp only [evCode] at h
    obtain ⟨⟨e1, s1⟩, h1, h⟩ := Option.map_eq_some_iff.1 h
    have hs : s1 = s' := by split at h <;> (cases h; rfl)
    subst hs
    have := Ends.block (id := id) (evCode_sim hm hcall n c hok r s a w _ _ h1 hfr hrel hfree)
    have he : (if e1 = .exit id then AExit.normal else e1) = e := by
      split at h
      · rename_i hh; simp only at hh; rw [if_pos hh]; cases h; rfl
      · rename_i hh; simp only at hh; rw [if_neg hh]; cases h; rfl
    rw [he] at this; exact this
  | .loop c, hok, r, s, a, w, e, s', h, hfr, hrel, hfree => by
    simp only [evCode] at h
    exact fun Q hQ => wp_loop_rounds n (loop_rounds (fun s e s' hb => evCode_grows hcall n c hb) (fun r s a w e s' hb => evCode_sim hm hcall n c hok r s a w e s' hb) n h hfr hrel hfree Q hQ)
  | .exit id, _, r, s, a, w, e, s', h, hfr, hrel, hfree => by
    simp only [evCode] at h
    cases h
    exact fun Q hQ => wp_exit (hQ r a w hfr rfl (Post.refl hrel))
  | .ret, _, r, s, a, w, e, s', h, hfr, hrel, hfree => by
    simp only [evCode] at h
    cases h
    exact fun Q hQ => wp_ret (hQ r a w hfr rfl (Post.refl hrel))
  | .rangeFunc _ _ _ _, _, r, s, a, w, e, s', h, _, _, _ => by simp [evCode] at h
  | .scope _, _, r, s, a, w, e, s', h, _, _, _ => by simp [evCode] at h
  | .label _, _, r, s, a, w, e, s', h, _, _, _ => by simp [evCode] at h
  | .goto _, _, r, s, a, w, e, s', h, _, _, _ => by simp [evCode] at h
  | .refuse _, _, r, s, a, w, e, s', h, _, _, _ => by simp [evCode] at h

/-! ### functions -/

def evResult (P : Program) (s : AState) : ResultVar → Option AV
  | .tmp t => some (s.1.getD t .junk)
  | .cell a t => evLoad P t (s.1.getD a .junk) s.2

def evResults (P : Program) (s : AState) : List ResultVar → Option (List AV)
  | [] => some []
  | x :: xs => (evResult P s x).bind fun v => (evResults P s xs).map fun vs => v :: vs

def oneOf (vs : List AV) : AV := match vs with | [v] => v | vs => .tup vs

noncomputable def evBody (P : Program) (call : CallFn) (n : Nat) (fn : Func) (args : List AV) (h : H) : Option (AV × H) :=
  match fn.body with
  | none => none
  | some c =>
    (evCode P call n c (args ++ List.replicate (fn.ntmps - args.length) .junk, h)).bind fun q =>
      if q.1 = .normal ∨ q.1 = .ret then (evResults P q.2 fn.results.toList).map fun vs => (oneOf vs, q.2.2) else none

def resSem (tmps : Array Value) (x : ResultVar) : Sem Value :=
  match x with
  | .tmp t => pure (tmps.getD t undef)
  | .cell a t => do loadVar t (← asAddr (tmps.getD a undef))

theorem run_result {P : Program} {r : Ren} {s : AState} {a : Act} {w : World} (hfr : FR r s.1 a) (hrel : Rel r s.2 w) {x : ResultVar} {v : AV} (h : evResult P s x = some v) :
    ∃ v', VR r v v' ∧ (resSem a.tmps x).run P w = .ok v' w := by
  cases x with
  | tmp t =>
    simp only [evResult] at h
    cases h
    exact ⟨_, opd_VR hfr hrel.glob (.tmp t), rfl⟩
  | cell ad t =>
    simp only [evResult] at h
    obtain ⟨q, v', h1, h2, h3⟩ := run_loadVar hrel h (opd_VR hfr hrel.glob (.tmp ad))
    refine ⟨v', h2, ?_⟩
    have : a.tmps.getD ad undef = .pointer (some q) := h1
    simp only [resSem, Sem.run_bind, this, asAddr, Sem.run_pure, Result.andThen_ok, h3]

theorem run_results {P : Program} {r : Ren} {s : AState} {a : Act} {w : World} (hfr : FR r s.1 a) (hrel : Rel r s.2 w) : ∀ {xs : List ResultVar} {vs : List AV}, evResults P s xs = some vs →
    ∃ vs', VRL r vs vs' ∧ (xs.mapM (resSem a.tmps)).run P w = .ok vs' w
  | [], vs, h => by simp only [evResults] at h; cases h; exact ⟨[], .nil, rfl⟩
  | x :: xs, vs, h => by
    simp only [evResults] at h
    obtain ⟨v, h1, h⟩ := Option.bind_eq_some_iff.1 h
    obtain ⟨us, h2, h⟩ := Option.map_eq_some_iff.1 h
    cases h
    obtain ⟨v', g1, g2⟩ := run_result hfr hrel h1
    obtain ⟨us', g3, g4⟩ := run_results hfr hrel h2
    refine ⟨v' :: us', .cons g1 g3, ?_⟩
    rw [List.mapM_cons]
    simp only [Sem.run_bind, g2, Result.andThen_ok, g4, Sem.run_pure]

theorem VR_oneOf {r : Ren} {vs : List AV} {vs' : List Value} (h : VRL r vs vs') : VR r (oneOf vs) (if h : vs'.toArray.size = 1 then vs'.toArray[0] else .tuple vs'.toArray) := by
  match vs, vs', h with
  | [], [], h => exact VR_tup h
  | [v], [v'], h => exact h.2 0 v v' rfl rfl
  | v :: u :: vs, v' :: u' :: vs', h =>
    simp only [oneOf]
    rw [dif_neg (by simp)]
    exact VR_tup h
  | [], _ :: _, h => have := h.1; simp at this
  | _ :: _, [], h => have := h.1; simp at this
  | [_], _ :: _ :: _, h => have := h.1; simp at this
  | _ :: _ :: _, [_], h => have := h.1; simp at this

theorem evBody_grows {P : Program} {call : CallFn} (hcall : call.Sound P) {n : Nat} {fn : Func} {args : List AV} {h h' : H} {v : AV} (hs : evBody P call n fn args h = some (v, h')) : h.next ≤ h'.next ∧ (h.WF → h'.WF) := by
  unfold evBody at hs
  split at hs
  · cases hs
  · obtain ⟨q, h1, hs⟩ := Option.bind_eq_some_iff.1 hs
    split at hs
    · obtain ⟨vs, h2, hs⟩ := Option.map_eq_some_iff.1 hs
      cases hs
      exact evCode_grows hcall n _ (s' := q.2) (e := q.1) h1
    · cases hs

/-- **What the abstract machine computes of a function's body, the function comes to.** -/
theorem acall_of_body {P : Program} (hm : P.follows .mixedOrders = true) {call : CallFn} (hcall : call.Sound P) {f : FuncId} {fn : Func} (hfn : P.funcs[f]? = some fn) (hname : (fn.name == "runtime.NumGoroutine") = false)
    {c : Code} (hbody : fn.body = some c) (hok : okCode P c = true) (n : Nat) {args : List AV} {h h' : H} {v : AV} (hs : evBody P call n fn args h = some (v, h')) : ACall P f args h v h' := by
  refine ⟨⟨fn, hfn, by rw [hbody]; rfl, hname⟩, (evBody_grows hcall hs).1, (evBody_grows hcall hs).2, fun r w args' hrel hfree hargs => ?_⟩
  unfold evBody at hs
  rw [hbody] at hs
  simp only at hs
  obtain ⟨⟨e, s'⟩, h1, hs⟩ := Option.bind_eq_some_iff.1 hs
  simp only at hs
  split at hs
  · rename_i he
    obtain ⟨vs, h2, hs⟩ := Option.map_eq_some_iff.1 hs
    cases hs
    refine calls_of_wp hfn hbody ?_
    have hfr : FR r (args ++ List.replicate (fn.ntmps - args.length) .junk) { tmps := args' ++ Array.replicate (fn.ntmps - args'.size) undef, defers := [] } := by
      unfold FR
      rw [Array.toList_append, Array.toList_replicate]
      have hl : args.length = args'.size := by simpa using hargs.1
      rw [hl]
      exact hargs.append (VRL.replicate _ (.junk _))
    refine evCode_sim hm hcall n c hok r _ _ w e s' h1 hfr hrel hfree _ fun r' a' w' g1 g2 g3 => ?_
    obtain ⟨vs', g4, g5⟩ := run_results g1 g3.rel h2
    have hres : (results fn a'.tmps).run P w' = .ok (if h : vs'.toArray.size = 1 then vs'.toArray[0] else .tuple vs'.toArray) w' := by
      show Sem.run P (do let vs ← fn.results.mapM (resSem a'.tmps); pure (if h : vs.size = 1 then vs[0] else .tuple vs)) w' = _
      rw [Array.mapM_eq_mapM_toList]
      simp only [Sem.run_bind, Sem.run_map, g5, Result.andThen_ok, Sem.run_pure]
    have hq : a'.defers = [] ∧ ∃ v, (results fn a'.tmps).run P w' = .ok v w' ∧ ∃ r' v', Ending.returned v = .returned v' ∧ VR r' (oneOf vs) v' ∧ Post r h w r' s'.2 w' :=
      ⟨g2, _, hres, r', _, rfl, VR_oneOf g4, g3⟩
    rcases he with rfl | rfl
    · exact hq
    · exact hq
  · cases hs

end Go.Ev
