/- The abstract machine Ev, part L: a drawn region, whatever order is drawn. -/
import Derived.Test.YtkikfnpanlcajaaDoorEvK
set_option linter.all false
namespace Go.Ev

section
variable {P : Program} {call : CallFn} {ops : Array Oper} {n : Nat} {F : Nat → List AV} {Hs : Nat → H} {V : Nat → AV} {r0 : Ren} {w0 : World} {ds : List Deferred}

/-- D and j besides -/
def With (D : Nat → Prop) (j : Nat) (m : Nat) : Prop := D m ∨ m = j

theorem with_iff {D : Nat → Prop} {j m : Nat} (h : m ≠ j → (D m ↔ m < j)) : With D j m ↔ m < j + 1 := by
  unfold With
  by_cases e : m = j
  · subst e; simp
  · have := h e
    constructor
    · rintro (h1 | h1)
      · have := this.1 h1; omega
      · exact absurd h1 e
    · intro h1
      exact .inl (this.2 (by omega))

theorem slot_with (hn : n = ops.size) {D : Nat → Prop} {j : Nat} (hj : j < n) {oj : Oper} (hoj : ops[j]? = some oj) (turn : Turn P ops D j) (hDj : ¬ D j) (t : Tmp) :
    (oj.dst = some t → slotD ops n F V (With D j) t = V j) ∧ (oj.dst ≠ some t → slotD ops n F V (With D j) t = slotD ops n F V D t) := by
  constructor
  · intro hd
    have key : ∀ m, m < n → Wr ops t m → (With D j m ↔ m < j + 1) := by
      intro m hm ⟨om, hom, hdm⟩
      refine with_iff fun hne => ?_
      rcases turn.other m om oj (hn ▸ hm) hne hom hoj with h | ⟨hap, _⟩
      · exact h
      · exact absurd hd ((Oper.apart_spec hap).2.1 t hdm)
    unfold slotD
    rw [pr_congr (W' := fun m => m < j + 1 ∧ Wr ops t m) (fun m hm => ⟨fun ⟨a, b⟩ => ⟨(key m hm b).1 a, b⟩, fun ⟨a, b⟩ => ⟨(key m hm b).2 a, b⟩⟩), pr_none (j := j + 1) (by omega) (fun m _ h => h.1)]
    simp only [pr]
    rw [if_pos ⟨by omega, oj, hoj, hd⟩]
  · intro hd
    unfold slotD
    refine pr_congr fun m hm => ?_
    constructor
    · rintro ⟨h | rfl, hw⟩
      · exact ⟨h, hw⟩
      · obtain ⟨om, hom, hdm⟩ := hw
        rw [hoj] at hom
        cases hom
        exact absurd hdm hd
    · rintro ⟨h, hw⟩
      exact ⟨.inl h, hw⟩

theorem cont_same {D : Nat → Prop} {j i : Nat} (h : ¬ Tc Hs i j) : contD n Hs (With D j) i = contD n Hs D i := by
  unfold contD
  refine pr_congr fun m hm => ?_
  constructor
  · rintro ⟨h1 | rfl, hw⟩
    · exact ⟨h1, hw⟩
    · exact absurd hw h
  · rintro ⟨h1, hw⟩
    exact ⟨.inl h1, hw⟩

/-- the operation's operands, where it comes up -/
theorem operands_at (hrun : Run P call ops n F Hs V) (hn : n = ops.size) {D : Nat → Prop} {r : Ren} {a : Act} {w : World} (inv : Inv P ops n F Hs V r0 w0 ds D r a w) {j : Nat} (hj : j < n) {oj : Oper} (hoj : ops[j]? = some oj)
    (turn : Turn P ops D j) (hDj : ¬ D j) : ∀ x, VR r (restrict ops oj (F j) x) (a.eval x) := by
  intro x
  cases x with
  | tmp t =>
    simp only [restrict]
    split
    · rename_i ht
      rcases Nat.lt_or_ge t (F 0).length with hlt | hge
      · have := slotD_agree (D := D) hrun hlt (j := j) (by omega) (fun m hm ⟨om, hom, hdm⟩ => by
          by_cases e : m = j
          · subst e; exact ⟨fun h => absurd h hDj, fun h => by omega⟩
          · rcases turn.other m om oj (hn ▸ hm) e hom hoj with h | ⟨hap, _⟩
            · exact h
            · exact absurd ht ((Oper.apart_spec hap).1 t hdm))
        rw [← this]
        exact inv.slot t hlt
      · rw [List.getD_eq_getElem?_getD, List.getElem?_eq_none (by rw [length_F hrun j (by omega)]; exact hge)]
        exact .junk _
    · exact .junk _
  | const v => exact VR_ofValue r v
  | global g => exact (inv.gl.mono inv.le).vr g
  | func f => exact .func f [] [] #[] #[] rfl rfl (fun i a v h => by simp at h) (fun i a v h => by simp at h)

theorem eval_put (a : Act) (d : Option Tmp) (v : Value) (t : Tmp) (ht : t < a.tmps.size) : (a.put d v).eval (.tmp t) = if d = some t then v else a.eval (.tmp t) := by
  cases d with
  | none => simp [Act.put]
  | some d =>
    by_cases e : d = t
    · subst e; simp [Act.put, Act.eval, ht]
    · simp [Act.put, Act.eval, e, Array.getElem?_setIfInBounds_ne e]

/-- what the heap's part of Inv asks behind operation j -/
structure Behind (n : Nat) (Hs : Nat → H) (r0 : Ren) (w0 : World) (D : Nat → Prop) (j : Nat) (r r' : Ren) (w' : World) : Prop where
  le : r.le r'
  dom : ∀ i t, r' i = some t → r i = none → (Hs j).next ≤ i ∧ i < (Hs (j + 1)).next
  obj : ∀ i t o, r' i = some t → contD n Hs (With D j) i = some o → OR r' w' t o
  inj : ∀ i k ti tk oi ok, r' i = some ti → r' k = some tk → contD n Hs (With D j) i = some oi → contD n Hs (With D j) k = some ok → ti.blk = tk.blk → i = k ∨ (oi.ro = true ∧ ok.ro = true)
  bound : ∀ i t, r' i = some t → t.blk < w'.heap.size
  keep : Keep r0 (Hs 0) w0 w'
  size : w0.heap.size ≤ w'.heap.size
  env : Env w0 w'
  fresh : ∀ i t, r0 i = none → r' i = some t → w0.heap.size ≤ t.blk ∨ ∃ k tk o, r0 k = some tk ∧ tk.blk = t.blk ∧ (Hs 0).get k = some o ∧ o.ro = false
  touch : ∀ i, i < (Hs j).next → Tc Hs i j → ∃ t, r' i = some t
  ro : ∀ i o, i < (Hs j).next → (Hs (j + 1)).get i = some o → ∃ o', (Hs j).get i = some o' ∧ o'.ro = o.ro

theorem inv_behind (hrun : Run P call ops n F Hs V) (hn : n = ops.size) {D : Nat → Prop} {r r' : Ren} {a : Act} {w w' : World} (inv : Inv P ops n F Hs V r0 w0 ds D r a w) {j : Nat} (hj : j < n) {oj : Oper} (hoj : ops[j]? = some oj)
    (turn : Turn P ops D j) (hDj : ¬ D j) (b : Behind n Hs r0 w0 D j r r' w') {v' : Value} (hv : VR r' (V j) v') : Inv P ops n F Hs V r0 w0 ds (With D j) r' (a.put oj.dst v') w' where
  le := Ren.le_trans inv.le b.le
  dom := fun i t h1 h2 => by
    cases hr : r i with
    | none => have := b.dom i t h1 hr; exact ⟨j, hj, .inr rfl, this.1, this.2⟩
    | some t' =>
      obtain ⟨k, hk, hD, h3⟩ := inv.dom i t' hr h2
      exact ⟨k, hk, .inl hD, h3⟩
  sz := by
    rw [← inv.sz]
    cases oj.dst <;> simp [Act.put]
  slot := fun t ht => by
    have hs := slot_with (F := F) (V := V) hn hj hoj turn hDj t
    rw [eval_put _ _ _ _ (by rw [inv.sz]; exact ht)]
    by_cases hd : oj.dst = some t
    · rw [if_pos hd, hs.1 hd]; exact hv
    · rw [if_neg hd, hs.2 hd]; exact (inv.slot t ht).mono b.le
  obj := b.obj
  inj := b.inj
  bound := b.bound
  keep := b.keep
  size := b.size
  env := b.env
  fresh := b.fresh
  touch := fun m hm hD i hi ht => by
    rcases hD with hD | rfl
    · obtain ⟨t, h⟩ := inv.touch m hm hD i hi ht
      exact ⟨t, b.le i t h⟩
    · exact b.touch i hi ht
  ro := fun m hm hD i o hi ho => by
    rcases hD with hD | rfl
    · exact inv.ro m hm hD i o hi ho
    · exact b.ro i o hi ho
  defers := by rw [← inv.defers]; cases oj.dst <;> rfl
  gl := inv.gl

/-- an operation that changes nothing -/
theorem behind_same {D : Nat → Prop} {r : Ren} {a : Act} {w : World} (inv : Inv P ops n F Hs V r0 w0 ds D r a w) {j : Nat} (hH : Hs (j + 1) = Hs j) : Behind n Hs r0 w0 D j r r w where
  le := Ren.le_refl _
  dom := fun i t h1 h2 => by rw [h1] at h2; cases h2
  obj := fun i t o h1 h2 => by
    rw [cont_same (by simp [Tc, hH])] at h2
    exact inv.obj i t o h1 h2
  inj := fun i k ti tk oi ok h1 h2 h3 h4 => by
    rw [cont_same (by simp [Tc, hH])] at h3 h4
    exact inv.inj i k ti tk oi ok h1 h2 h3 h4
  bound := inv.bound
  keep := inv.keep
  size := inv.size
  env := inv.env
  fresh := inv.fresh
  touch := fun i _ h => absurd (by rw [hH]) h
  ro := fun i o _ h => ⟨o, by rw [← hH]; exact h, rfl⟩

theorem lt_next_of_cont (hcall : call.Sound P) (hrun : Run P call ops n F Hs V) (wf0 : (Hs 0).WF) {D : Nat → Prop} {i : Nat} {o : AObj} (h : contD n Hs D i = some o) : i < (Hs n).next := by
  unfold contD at h
  have : ∀ k, k ≤ n → pr ((Hs 0).get i) (fun m => (Hs (m + 1)).get i) (fun m => D m ∧ Tc Hs i m) k = some o → i < (Hs n).next := by
    intro k
    induction k with
    | zero => intro hk h0; exact Nat.lt_of_lt_of_le (wf0 i o h0) (Hs_mono hcall hrun (Nat.zero_le _) (Nat.le_refl _))
    | succ k ih =>
      intro hk h0
      simp only [pr] at h0
      split at h0
      · exact Nat.lt_of_lt_of_le (Hs_wf hcall hrun wf0 (k + 1) hk i o h0) (Hs_mono hcall hrun hk (Nat.le_refl _))
      · exact ih (by omega) h0
  exact this n (Nat.le_refl _) h

/-- a new block -/
theorem behind_alloc (hcall : call.Sound P) (hrun : Run P call ops n F Hs V) (wf0 : (Hs 0).WF) (free : ∀ i, (Hs 0).next ≤ i → i < (Hs n).next → r0 i = none) {D : Nat → Prop} {r : Ren} {a : Act} {w w' : World} (inv : Inv P ops n F Hs V r0 w0 ds D r a w) {j : Nat} (hj : j < n) (hDj : ¬ D j)
    {ob : AObj} {row : Nat} (hH : Hs (j + 1) = (Hs j).new ob) (h1 : w'.heap.size = w.heap.size + 1) (he : Env w w') (h2 : ∀ b, b < w.heap.size → w'.heap[b]? = w.heap[b]?) (h3 : ∀ r' : Ren, r.le r' → OR r' w' ⟨w.heap.size, 0, row⟩ ob) :
    Behind n Hs r0 w0 D j r (r.put (Hs j).next ⟨w.heap.size, 0, row⟩) w' := by
  have hnew : r (Hs j).next = none := by
    cases hr : r (Hs j).next with
    | none => rfl
    | some t =>
      have hm := Hs_mono hcall hrun (Nat.zero_le j) (by omega : j ≤ n)
      have hm2 : (Hs (j + 1)).next ≤ (Hs n).next := Hs_mono hcall hrun (by omega) (Nat.le_refl _)
      have hnx : (Hs (j + 1)).next = (Hs j).next + 1 := by rw [hH]; rfl
      obtain ⟨k, hk, hD, h4, h5⟩ := inv.dom _ t hr (free _ hm (by omega))
      exfalso
      rcases Nat.lt_trichotomy k j with h | h | h
      · have := Hs_mono hcall hrun (show k + 1 ≤ j from h) (by omega : j ≤ n); omega
      · subst h; exact hDj hD
      · have := Hs_mono hcall hrun (show j + 1 ≤ k from h) (by omega : k ≤ n); omega
  have hget : ∀ i, (Hs (j + 1)).get i = if i = (Hs j).next then some ob else (Hs j).get i := fun i => by rw [hH]; rfl
  have hwf := Hs_wf hcall hrun wf0 j (by omega)
  have hold : (Hs j).get (Hs j).next = none := by
    cases hg : (Hs j).get (Hs j).next with
    | none => rfl
    | some o => have := hwf _ _ hg; omega
  have hnt : ∀ i, i ≠ (Hs j).next → ¬ Tc Hs i j := fun i hi h => h (by rw [hget, if_neg hi])
  have hcn : contD n Hs (With D j) (Hs j).next = some ob := by
    have := contD_agree (n := n) (Hs := Hs) (D := With D j) (i := (Hs j).next) (j := j + 1) (by omega) (fun m hm ht => with_iff fun hne => by
      rcases Nat.lt_or_ge m j with h | h
      · -- nothing has touched it before
        exfalso
        have hm1 := Hs_mono hcall hrun (show m + 1 ≤ j from h) (by omega : j ≤ n)
        have g1 : (Hs (m + 1)).get (Hs j).next = none := by
          cases hg : (Hs (m + 1)).get (Hs j).next with
          | none => rfl
          | some o => have := Hs_wf hcall hrun wf0 (m + 1) (by omega) _ _ hg; omega
        have hm2 := Hs_mono hcall hrun (show m ≤ j by omega) (by omega : j ≤ n)
        have g2 : (Hs m).get (Hs j).next = none := by
          cases hg : (Hs m).get (Hs j).next with
          | none => rfl
          | some o => have := Hs_wf hcall hrun wf0 m (by omega) _ _ hg; omega
        exact ht (by rw [g1, g2])
      · refine ⟨fun hD => ?_, fun h' => by omega⟩
        have hjm : j < m := by omega
        have hm1 := Hs_mono hcall hrun (show j + 1 ≤ m from hjm) (by omega : m ≤ n)
        have hnx : (Hs (j + 1)).next = (Hs j).next + 1 := by rw [hH]; rfl
        obtain ⟨t, hr⟩ := inv.touch m hm hD _ (by omega) ht
        rw [hnew] at hr; cases hr)
    rw [this, hget, if_pos rfl]
  refine ⟨Ren.le_put hnew, fun i t h4 h5 => ?_, fun i t o h4 h5 => ?_, fun i k ti tk oi ok h4 h5 h6 h7 e => ?_, fun i t h4 => ?_, fun b hb hk => ?_, by have := inv.size; omega, inv.env.trans he, fun i t h4 h5 => ?_, fun i hi ht => ?_, fun i o hi ho => ?_⟩
  · unfold Ren.put at h4
    split at h4
    · rename_i e; subst e; rw [hH]; simp [H.new]
    · rw [h4] at h5; cases h5
  · unfold Ren.put at h4
    split at h4
    · rename_i e; subst e; cases h4
      rw [hcn] at h5; cases h5
      exact h3 _ (Ren.le_put hnew)
    · rename_i e
      rw [cont_same (hnt i e)] at h5
      exact (inv.obj i t o h4 h5).move (Ren.le_put hnew) (h2 _ (inv.bound i t h4))
  · unfold Ren.put at h4 h5
    split at h4 <;> split at h5
    · left; omega
    · rename_i e1 e2; cases h4
      have := inv.bound k tk h5; simp at e; omega
    · rename_i e1 e2; cases h5
      have := inv.bound i ti h4; simp at e; omega
    · rename_i e1 e2
      rw [cont_same (hnt i e1)] at h6
      rw [cont_same (hnt k e2)] at h7
      exact inv.inj i k ti tk oi ok h4 h5 h6 h7 e
  · unfold Ren.put at h4
    split at h4
    · cases h4; simp; omega
    · have := inv.bound i t h4; omega
  · have := inv.size
    rw [h2 b (by omega)]
    exact inv.keep b hb hk
  · unfold Ren.put at h5
    split at h5
    · cases h5; exact .inl inv.size
    · exact inv.fresh i t h4 h5
  · exact absurd ht (hnt i (by omega))
  · rw [hget, if_neg (by omega)] at ho
    exact ⟨o, ho, rfl⟩

end

end Go.Ev
