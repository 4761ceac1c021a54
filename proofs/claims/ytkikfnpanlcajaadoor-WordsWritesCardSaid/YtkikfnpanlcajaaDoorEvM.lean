/- The abstract machine Ev, part M: a drawn region, whatever order is drawn: the end of its proof. -/
import Derived.Test.YtkikfnpanlcajaaDoorEvL
set_option linter.all false
namespace Go.Ev

section
variable {P : Program} {call : CallFn} {ops : Array Oper} {n : Nat} {F : Nat → List AV} {Hs : Nat → H} {V : Nat → AV} {r0 : Ren} {w0 : World} {ds : List Deferred}

theorem touch_full (hcall : call.Sound P) (hrun : Run P call ops n F Hs V) {m : Nat} (hm : m < n) {om : Oper} (hom : ops[m]? = some om) {i : Nat} (hi : i < (Hs m).next) (ht : Tc Hs i m) : cls P om.op = .full := by
  obtain ⟨o, h1, h2, _⟩ := hrun.step m hm
  rw [hom] at h1
  cases h1
  unfold evStep at h2
  obtain ⟨b, _, h2⟩ := Option.bind_eq_some_iff.1 h2
  cases b
  · simp at h2; exact absurd (by rw [h2.2]) ht
  · simp at h2
    unfold evOper at h2
    cases hc : cls P om.op with
    | full => rfl
    | pure => rw [hc] at h2; obtain ⟨x, _, h3⟩ := Option.map_eq_some_iff.1 h2; exact absurd (by rw [(Prod.mk.inj h3).2]) ht
    | read => rw [hc] at h2; obtain ⟨x, _, h3⟩ := Option.map_eq_some_iff.1 h2; exact absurd (by rw [(Prod.mk.inj h3).2]) ht
    | alloc =>
      rw [hc] at h2
      obtain ⟨x, _, h3⟩ := Option.map_eq_some_iff.1 h2
      refine absurd ?_ ht
      rw [← (Prod.mk.inj h3).2]
      simp only [H.new]
      rw [if_neg (by omega)]

theorem same_interval (hcall : call.Sound P) (hrun : Run P call ops n F Hs V) {k m i : Nat} (hk : k < n) (hm : m < n) (h1 : (Hs k).next ≤ i) (h2 : i < (Hs (k + 1)).next) (h3 : (Hs m).next ≤ i) (h4 : i < (Hs (m + 1)).next) : k = m := by
  rcases Nat.lt_trichotomy k m with h | h | h
  · have := Hs_mono hcall hrun (show k + 1 ≤ m from h) (by omega : m ≤ n); omega
  · exact h
  · have := Hs_mono hcall hrun (show m + 1 ≤ k from h) (by omega : k ≤ n); omega

theorem made_by (hcall : call.Sound P) (hrun : Run P call ops n F Hs V) (wf0 : (Hs 0).WF) {m i : Nat} (hm : m < n) (hi : (Hs m).next ≤ i) (ht : Tc Hs i m) : i < (Hs (m + 1)).next := by
  cases hg : (Hs (m + 1)).get i with
  | some o => exact Hs_wf hcall hrun wf0 (m + 1) hm i o hg
  | none =>
    refine absurd ?_ ht
    rw [hg]
    cases hg2 : (Hs m).get i with
    | none => rfl
    | some o => have := Hs_wf hcall hrun wf0 m (by omega) i o hg2; omega

variable (hcall : call.Sound P) (hrun : Run P call ops n F Hs V) (wf0 : (Hs 0).WF) (hn : n = ops.size) (free : ∀ i, (Hs 0).next ≤ i → i < (Hs n).next → r0 i = none)
include hcall hrun wf0 hn free

theorem listed_of {D : Nat → Prop} {r : Ren} {a : Act} {w : World} (inv : Inv P ops n F Hs V r0 w0 ds D r a w) {m i : Nat} {t : Tgt} (hm : m < n) (h1 : (Hs m).next ≤ i) (h2 : i < (Hs (m + 1)).next) (hr : r i = some t) : D m := by
  have _ := wf0
  have hz := Hs_mono hcall hrun (Nat.zero_le m) (by omega : m ≤ n)
  have ht := Hs_mono hcall hrun (show m + 1 ≤ n from hm) (Nat.le_refl n)
  obtain ⟨k, hk, hD, h3, h4⟩ := inv.dom i t hr (free i (by omega) (by omega))
  have := same_interval hcall hrun hk hm h3 h4 h1 h2
  subst this; exact hD

theorem cont_at {D : Nat → Prop} {r : Ren} {a : Act} {w : World} (inv : Inv P ops n F Hs V r0 w0 ds D r a w) {j : Nat} (hj : j < n) {oj : Oper} (hoj : ops[j]? = some oj) (turn : Turn P ops D j) (hDj : ¬ D j)
    {S : Nat → Prop} (hc : cls P oj.op = .full ∨ (cls P oj.op = .read ∧ ∀ m om, m < n → m ≠ j → ops[m]? = some om → cls P om.op = .full → indepB (masks ops) m j = true → ∀ i, i < (Hs m).next → (Hs (m + 1)).get i ≠ (Hs m).get i → S i)) {i : Nat} {t : Tgt} (hr : r i = some t) (hi : i < (Hs j).next) (hS : ¬ S i) : contD n Hs D i = (Hs j).get i := by
  refine contD_agree (by omega) fun m hm ht => ?_
  by_cases e : m = j
  · subst e; exact ⟨fun h => absurd h hDj, fun h => by omega⟩
  · have hom : ops[m]? = some ops[m] := Array.getElem?_eq_getElem (by omega)
    rcases Nat.lt_or_ge i (Hs m).next with hlt | hge
    · have hf := touch_full hcall hrun hm hom hlt ht
      rcases turn.other m _ oj (hn ▸ hm) e hom hoj with h | ⟨_, _, hcl, _, _, hq2⟩
      · exact h
      · rcases hc with hc | ⟨hc, hc2⟩
        · rw [hf, hc] at hcl; cases hcl
        · exact absurd (hc2 m _ hm e hom hf hq2 i hlt ht) hS
    · have h2 := made_by hcall hrun wf0 hm hge ht
      have hmj : m < j := by
        rcases Nat.lt_or_ge m j with h | h
        · exact h
        · have := Hs_mono hcall hrun h (by omega : m ≤ n); omega
      exact ⟨fun _ => hmj, fun _ => listed_of hcall hrun wf0 hn free inv hm hge h2 hr⟩

theorem rel_minus {D : Nat → Prop} {r : Ren} {a : Act} {w : World} (inv : Inv P ops n F Hs V r0 w0 ds D r a w) {j : Nat} (hj : j < n) {oj : Oper} (hoj : ops[j]? = some oj) (turn : Turn P ops D j) (hDj : ¬ D j)
    {S : Nat → Prop} (hc : cls P oj.op = .full ∨ (cls P oj.op = .read ∧ ∀ m om, m < n → m ≠ j → ops[m]? = some om → cls P om.op = .full → indepB (masks ops) m j = true → ∀ i, i < (Hs m).next → (Hs (m + 1)).get i ≠ (Hs m).get i → S i)) : Rel r ((Hs j).minus S) w := by
  have hwf := Hs_wf hcall hrun wf0 j (by omega)
  have hcont : ∀ i t o, r i = some t → ((Hs j).minus S).get i = some o → contD n Hs D i = some o := fun i t o hr hg => by
    by_cases hS : S i
    · simp only [H.minus] at hg
      rw [if_pos hS] at hg
      cases hg
    · rw [minus_get hS] at hg
      rw [cont_at hcall hrun wf0 hn free inv hj hoj turn hDj hc hr (hwf i o hg) hS]; exact hg
  exact ⟨fun i o hg => hwf i o ((minus_sub _ S).get i o hg), fun i t o hr hg => inv.obj i t o hr (hcont i t o hr hg), fun i k ti tk oi ok h1 h2 h3 h4 e => inv.inj i k ti tk oi ok h1 h2 (hcont _ _ _ h1 h3) (hcont _ _ _ h2 h4) e, inv.bound, inv.gl.mono inv.le⟩

theorem rel_at {D : Nat → Prop} {r : Ren} {a : Act} {w : World} (inv : Inv P ops n F Hs V r0 w0 ds D r a w) {j : Nat} (hj : j < n) {oj : Oper} (hoj : ops[j]? = some oj) (turn : Turn P ops D j) (hDj : ¬ D j)
    (hc : cls P oj.op = .full) : Rel r (Hs j) w := by
  have := rel_minus (S := noT) hcall hrun wf0 hn free inv hj hoj turn hDj (.inl hc)
  rwa [minus_noT] at this

theorem free_at {D : Nat → Prop} {r : Ren} {a : Act} {w : World} (inv : Inv P ops n F Hs V r0 w0 ds D r a w) {j : Nat} (hj : j < n) (hDj : ¬ D j) : ∀ i, (Hs j).next ≤ i → i < (Hs (j + 1)).next → r i = none := by
  intro i h1 h2
  cases hr : r i with
  | none => rfl
  | some t => exact absurd (listed_of hcall hrun wf0 hn free inv hj h1 h2 hr) hDj

theorem old_id {i : Nat} {t : Tgt} (hr : r0 i = some t) {j : Nat} (hj : j ≤ n) {o : AObj} (hg : (Hs j).get i = some o) : i < (Hs 0).next := by
  have _ := hn
  have h1 := Hs_wf hcall hrun wf0 j hj i o hg
  have h2 := Hs_mono hcall hrun hj (Nat.le_refl n)
  rcases Nat.lt_or_ge i (Hs 0).next with h | h
  · exact h
  · rw [free i h (by omega)] at hr; cases hr

theorem ro_back {D : Nat → Prop} {r : Ren} {a : Act} {w : World} (inv : Inv P ops n F Hs V r0 w0 ds D r a w) {j : Nat} (hj : j < n) {oj : Oper} (hoj : ops[j]? = some oj) (turn : Turn P ops D j) (hc : cls P oj.op = .full) {i : Nat} (hi : i < (Hs 0).next) :
    ∀ k, k ≤ j → ∀ o, (Hs k).get i = some o → ∃ o0, (Hs 0).get i = some o0 ∧ o0.ro = o.ro
  | 0, _, o, h => ⟨o, h, rfl⟩
  | k + 1, hk, o, h => by
    have _ := wf0
    have _ := free
    have hkn : k < n := by omega
    have hik : i < (Hs k).next := Nat.lt_of_lt_of_le hi (Hs_mono hcall hrun (Nat.zero_le k) (by omega))
    by_cases ht : Tc Hs i k
    · have hom : ops[k]? = some ops[k] := Array.getElem?_eq_getElem (by omega)
      have hf := touch_full hcall hrun hkn hom hik ht
      have hD : D k := by
        rcases turn.other k _ oj (hn ▸ hkn) (by omega) hom hoj with h | ⟨_, _, hcl, _⟩
        · exact h.2 (by omega)
        · rw [hf, hc] at hcl; cases hcl
      obtain ⟨o', h1, h2⟩ := inv.ro k hkn hD i o hik h
      obtain ⟨o0, h3, h4⟩ := ro_back inv hj hoj turn hc hi k (by omega) o' h1
      exact ⟨o0, h3, h4.trans h2⟩
    · exact ro_back inv hj hoj turn hc hi k (by omega) o (by rw [← Classical.not_not.1 ht]; exact h)

theorem behind_full {D : Nat → Prop} {r r' : Ren} {a : Act} {w w' : World} (inv : Inv P ops n F Hs V r0 w0 ds D r a w) {j : Nat} (hj : j < n) {oj : Oper} (hoj : ops[j]? = some oj) (turn : Turn P ops D j) (hDj : ¬ D j)
    (hc : cls P oj.op = .full) (p : Post r (Hs j) w r' (Hs (j + 1)) w') : Behind n Hs r0 w0 D j r r' w' := by
  have hwf := Hs_wf hcall hrun wf0 j (by omega)
  have hwf' := Hs_wf hcall hrun wf0 (j + 1) (by omega)
  have hcat : ∀ {i t}, r i = some t → i < (Hs j).next → contD n Hs D i = (Hs j).get i := fun hr hi => cont_at (S := noT) hcall hrun wf0 hn free inv hj hoj turn hDj (.inl hc) hr hi (fun h => h)
  have hback : ∀ {i t}, r' i = some t → i < (Hs j).next → r i = some t := by
    intro i t h1 h2
    cases hr : r i with
    | none => have := p.dom i t h1 hr; omega
    | some t' => have := p.le i t' hr; rw [h1] at this; rw [this]
  have hback2 : ∀ {i t}, r' i = some t → (Hs (j + 1)).next ≤ i → r i = some t := by
    intro i t h1 h2
    cases hr : r i with
    | none => have := p.dom i t h1 hr; omega
    | some t' => have := p.le i t' hr; rw [h1] at this; rw [this]
  have hcaft : ∀ {i t}, r' i = some t → i < (Hs (j + 1)).next → contD n Hs (With D j) i = (Hs (j + 1)).get i := by
    intro i t hr hi
    refine contD_agree (by omega) fun m hm ht => with_iff fun e => ?_
    have hom : ops[m]? = some ops[m] := Array.getElem?_eq_getElem (by omega)
    rcases Nat.lt_or_ge i (Hs m).next with hlt | hge
    · have hf := touch_full hcall hrun hm hom hlt ht
      rcases turn.other m _ oj (hn ▸ hm) e hom hoj with h | ⟨_, _, hcl, _⟩
      · exact h
      · rw [hf, hc] at hcl; cases hcl
    · have h2 := made_by hcall hrun wf0 hm hge ht
      have hmj : m < j := by
        rcases Nat.lt_or_ge m j with h | h
        · exact h
        · have := Hs_mono hcall hrun (show j + 1 ≤ m by omega) (by omega : m ≤ n); omega
      have hij : i < (Hs j).next := Nat.lt_of_lt_of_le h2 (Hs_mono hcall hrun (show m + 1 ≤ j from hmj) (by omega))
      exact ⟨fun _ => hmj, fun _ => listed_of hcall hrun wf0 hn free inv hm hge h2 (hback hr hij)⟩
  have hhigh : ∀ {i}, (Hs (j + 1)).next ≤ i → ¬ Tc Hs i j := by
    intro i hi ht
    have := p.next
    refine ht ?_
    have g1 : (Hs (j + 1)).get i = none := by
      cases hg : (Hs (j + 1)).get i with
      | none => rfl
      | some o => have := hwf' i o hg; omega
    have g2 : (Hs j).get i = none := by
      cases hg : (Hs j).get i with
      | none => rfl
      | some o => have := hwf i o hg; omega
    rw [g1, g2]
  -- a block that a later operation has made
  have hkeepHigh : ∀ {i t o}, r i = some t → (Hs (j + 1)).next ≤ i → contD n Hs D i = some o → w'.heap[t.blk]? = w.heap[t.blk]? := by
    intro i t o hr hi hcn
    refine p.keep _ (inv.bound i t hr) fun i2 t2 o2 h1 h2 h3 => ?_
    have hi2 := hwf i2 o2 h3
    rcases inv.inj i2 i t2 t o2 o h1 hr (by rw [hcat h1 hi2]; exact h3) hcn h2 with e | e
    · have := p.next; omega
    · exact e.1
  -- an id below and one above
  have hmix : ∀ {i k ti tk oi ok}, r' i = some ti → i < (Hs (j + 1)).next → (Hs (j + 1)).get i = some oi → r k = some tk → (Hs (j + 1)).next ≤ k → contD n Hs D k = some ok → ti.blk = tk.blk → oi.ro = true ∧ ok.ro = true := by
    intro i k ti tk oi ok h1 h2 h3 h4 h5 h6 e
    have hnx := p.next
    cases hr : r i with
    | none =>
      rcases p.fresh i ti hr h1 with hf | ⟨q, tq, oq, hq1, hq2, hq3, hq4⟩
      · have := inv.bound k tk h4; omega
      · have hq5 := hwf q oq hq3
        rcases inv.inj q k tq tk oq ok hq1 h4 (by rw [hcat hq1 hq5]; exact hq3) h6 (hq2.trans e) with e2 | e2
        · omega
        · rw [e2.1] at hq4; cases hq4
    | some t' =>
      have := p.le i t' hr
      rw [h1] at this
      cases this
      have hi : i < (Hs j).next := by
        rcases p.gap i _ hr with h | h
        · exact h
        · omega
      obtain ⟨o', ho', hro⟩ := p.roKeep i oi hi h3
      rcases inv.inj i k _ tk o' ok hr h4 (by rw [hcat hr hi]; exact ho') h6 e with e2 | e2
      · omega
      · exact ⟨by rw [← hro]; exact e2.1, e2.2⟩
  refine ⟨p.le, p.dom, fun i t o h4 h5 => ?_, fun i k ti tk oi ok h4 h5 h6 h7 e => ?_, p.rel.bound, fun b hb hk => ?_, Nat.le_trans inv.size p.size, inv.env.trans p.env, fun i t h4 h5 => ?_, fun i hi ht => ?_, fun i o hi ho => p.roKeep i o hi ho⟩
  · rcases Nat.lt_or_ge i (Hs (j + 1)).next with hlt | hge
    · rw [hcaft h4 hlt] at h5
      exact p.rel.obj i t o h4 h5
    · have hr := hback2 h4 hge
      rw [cont_same (hhigh hge)] at h5
      exact (inv.obj i t o hr h5).move p.le (hkeepHigh hr hge h5)
  · rcases Nat.lt_or_ge i (Hs (j + 1)).next with hi | hi <;> rcases Nat.lt_or_ge k (Hs (j + 1)).next with hk | hk
    · rw [hcaft h4 hi] at h6
      rw [hcaft h5 hk] at h7
      exact p.rel.inj i k ti tk oi ok h4 h5 h6 h7 e
    · rw [hcaft h4 hi] at h6
      rw [cont_same (hhigh hk)] at h7
      exact .inr (hmix h4 hi h6 (hback2 h5 hk) hk h7 e)
    · rw [cont_same (hhigh hi)] at h6
      rw [hcaft h5 hk] at h7
      exact .inr (And.symm (hmix h5 hk h7 (hback2 h4 hi) hi h6 e.symm))
    · rw [cont_same (hhigh hi)] at h6
      rw [cont_same (hhigh hk)] at h7
      exact inv.inj i k ti tk oi ok (hback2 h4 hi) (hback2 h5 hk) h6 h7 e
  · rw [p.keep b (Nat.lt_of_lt_of_le hb inv.size) fun i t o h1 h2 h3 => ?_]
    · exact inv.keep b hb hk
    · cases hr0 : r0 i with
      | none =>
        rcases inv.fresh i t hr0 h1 with hf | ⟨q, tq, oq, hq1, hq2, hq3, hq4⟩
        · omega
        · have := hk q tq oq hq1 (hq2.trans h2) hq3
          rw [this] at hq4; cases hq4
      | some t0 =>
        have := inv.le i t0 hr0
        rw [h1] at this
        cases this
        have hi0 := old_id hcall hrun wf0 hn free hr0 (by omega : j ≤ n) h3
        obtain ⟨o0, g1, g2⟩ := ro_back hcall hrun wf0 hn free inv hj hoj turn hc hi0 j (Nat.le_refl j) o h3
        rw [← g2]
        exact hk i _ o0 hr0 h2 g1
  · cases hr : r i with
    | some t' =>
      have := p.le i t' hr
      rw [h5] at this
      cases this
      exact inv.fresh i _ h4 hr
    | none =>
      rcases p.fresh i t hr h5 with hf | ⟨q, tq, oq, hq1, hq2, hq3, hq4⟩
      · exact .inl (Nat.le_trans inv.size hf)
      · cases hq0 : r0 q with
        | none =>
          rcases inv.fresh q tq hq0 hq1 with hf | ⟨q2, tq2, oq2, g1, g2, g3, g4⟩
          · exact .inl (by omega)
          · exact .inr ⟨q2, tq2, oq2, g1, g2.trans hq2, g3, g4⟩
        | some tq0 =>
          have := inv.le q tq0 hq0
          rw [hq1] at this
          cases this
          have hi0 := old_id hcall hrun wf0 hn free hq0 (by omega : j ≤ n) hq3
          obtain ⟨o0, g1, g2⟩ := ro_back hcall hrun wf0 hn free inv hj hoj turn hc hi0 j (Nat.le_refl j) oq hq3
          exact .inr ⟨q, _, o0, hq0, hq2, g1, by rw [g2]; exact hq4⟩
  · obtain ⟨t, h⟩ := p.touch i hi ht
    exact ⟨t, p.le i t h⟩

end

end Go.Ev
