/- The abstract machine Ev, part K: one more operation of a drawn region comes up. -/
import Derived.Test.YtkikfnpanlcajaaDoorEvJ
set_option linter.all false
namespace Go.Ev

/-! ### an operation looks at its operands alone -/

theorem evOper_congr {P : Program} {call : CallFn} {ρ ρ' : Operand → AV} (op : Op) (h : H) (hx : ∀ x ∈ op.operands, ρ x = ρ' x) : evOper P call ρ op h = evOper P call ρ' op h := by
  have list : ∀ (xs : Array Operand), (∀ x ∈ xs, ρ x = ρ' x) → xs.toList.map ρ = xs.toList.map ρ' := fun xs hh => List.map_congr_left fun x hm => hh x (by simpa using hm)
  have parts : ∀ (ps : Array (Nat × Operand)), (∀ x ∈ (ps.toList.map (·.2)).toArray, ρ x = ρ' x) → ps.toList.map (fun p => (p.1, ρ p.2)) = ps.toList.map (fun p => (p.1, ρ' p.2)) := fun ps hh =>
    List.map_congr_left fun p hm => by rw [hh p.2 (by simp only [List.mem_toArray, List.mem_map]; exact ⟨p, hm, rfl⟩)]
  unfold evOper
  cases op <;> simp only [Op.operands] at hx <;> simp only [cls]
  case call c =>
    have hargs : c.args.toList.map ρ = c.args.toList.map ρ' := list _ fun x hm => hx x (by simp [Call.operands, hm])
    cases hc : c.callee with
    | value f =>
      have hf : ρ f = ρ' f := hx f (by simp [Call.operands, hc])
      simp only [hf, hargs]
    | invoke r m => simp only [evFull, hc]
    | builtin b => cases b <;> simp only [evPure, evRead, evAlloc, evFull, hc, hargs]
  case build t ps => simp only [evPure, parts ps hx]
  case buildSlice t l ps => simp only [evAlloc, parts ps hx]
  case makeFunc fn a b =>
    have h1 := list a fun x hm => hx x (by simp [hm])
    have h2 := list b fun x hm => hx x (by simp [hm])
    cases fn <;> simp only [evPure, h1, h2]
  case slice t x lo hi mx =>
    have h1 : ρ x = ρ' x := hx x (by simp)
    have h2 : lo.map ρ = lo.map ρ' := by cases lo with | none => rfl | some y => simp only [Option.map_some]; rw [hx y (by simp)]
    have h3 : hi.map ρ = hi.map ρ' := by cases hi with | none => rfl | some y => simp only [Option.map_some]; rw [hx y (by simp)]
    have h4 : mx.map ρ = mx.map ρ' := by cases mx with | none => rfl | some y => simp only [Option.map_some]; rw [hx y (by simp)]
    simp only [evPure, h1, h2, h3, h4]
  case convert s d x => simp only [evPure, evAlloc, evRead, evFull, hx x (by simp)]
  case makeMap t r => cases r <;> simp only [evAlloc]
  case next it b => cases b <;> simp only [evFull, hx it (by simp)]
  all_goals first
    | rfl
    | (simp only [evPure, evAlloc, evRead, evFull]; done)
    | (simp only [evPure, evAlloc, evRead, evFull]; simp only [List.mem_toArray, List.mem_cons, List.not_mem_nil, or_false, forall_eq_or_imp, forall_eq] at hx; simp only [hx])

def restrict (ops : Array Oper) (o : Oper) (fr : List AV) (x : Operand) : AV :=
  match x with
  | .tmp t => if t ∈ o.looksAt ops then fr.getD t .junk else .junk
  | x => opd fr x

theorem evStep_restrict {P : Program} {call : CallFn} {ops : Array Oper} {o : Oper} {fr : List AV} {h : H} : evStep P call ops o (restrict ops o fr) h = evStep P call ops o (opd fr) h := by
  have hop : ∀ x ∈ o.op.operands, restrict ops o fr x = opd fr x := by
    intro x hx
    cases x with
    | tmp t =>
      have ht : t ∈ o.looksAt ops := List.mem_append_left _ (List.mem_filterMap.2 ⟨.tmp t, by simpa using hx, rfl⟩)
      simp [restrict, ht, opd]
    | _ => rfl
  have hw : evWanted ops (restrict ops o fr) o = evWanted ops (opd fr) o := by
    unfold evWanted
    cases hg : o.guard with
    | none => rfl
    | some q =>
      obtain ⟨j, want⟩ := q
      simp only
      cases hd : (ops[j]?).bind (·.dst) with
      | none => rfl
      | some t =>
        have ht : t ∈ o.looksAt ops := List.mem_append_right _ (by simp [hg, hd])
        simp [restrict, ht, opd]
  unfold evStep
  rw [hw]
  congr 1
  funext b
  rw [evOper_congr o.op h hop]

section
variable {P : Program} {call : CallFn} {ops : Array Oper} {F : Nat → List AV} {Hs : Nat → H} {V : Nat → AV} {r0 : Ren} {w0 : World} {ds : List Deferred}

theorem okM_spec {M : Nat → Nat} (hM : okM ops M = true) {j : Nat} {o : Oper} (ho : ops[j]? = some o) :
    (∀ e ∈ o.after, Region.binds .any e = true → e.on < j) ∧ ∀ i, i < j → (M j).testBit i = true → ∃ e ∈ o.after, Region.binds .any e = true ∧ (e.on = i ∨ (i < e.on ∧ (M e.on).testBit i = true)) := by
  have h1 := List.all_eq_true.1 hM j (List.mem_range.2 (Array.getElem?_eq_some_iff.1 ho).1)
  simp only [ho, Bool.and_eq_true] at h1
  obtain ⟨h1, h2⟩ := h1
  refine ⟨fun e he hb => ?_, fun i hi ht => ?_⟩
  · have := Array.all_eq_true_iff_forall_mem.1 h1 e he
    simpa [hb] using this
  · have := List.all_eq_true.1 h2 i (List.mem_range.2 hi)
    simp only [ht, Bool.not_true, Bool.false_or] at this
    obtain ⟨e, he, hb⟩ := Array.any_eq_true'.1 this
    simp only [Bool.and_eq_true, Bool.or_eq_true, beq_iff_eq, decide_eq_true_eq] at hb
    exact ⟨e, he, hb.1, hb.2⟩

theorem bits_closed {M : Nat → Nat} (hM : okM ops M = true) {D : Nat → Prop} (closed : ∀ m o, ops[m]? = some o → D m → ∀ e ∈ o.after, Region.binds .any e = true → D e.on) :
    ∀ (m : Nat), D m → m < ops.size → ∀ i, i < m → (M m).testBit i = true → D i := by
  intro m
  induction m using Nat.strongRecOn with
  | _ m ih =>
    intro hD hm i hi ht
    have ho : ops[m]? = some ops[m] := Array.getElem?_eq_getElem hm
    obtain ⟨hlt, hspec⟩ := okM_spec hM ho
    obtain ⟨e, he, hb, hor⟩ := hspec i hi ht
    have hDe := closed m _ ho hD e he hb
    rcases hor with rfl | ⟨h1, h2⟩
    · exact hDe
    · have := hlt e he hb
      exact ih e.on this hDe (by omega) i h1 h2

theorem bits_ready {M : Nat → Nat} (hM : okM ops M = true) {D : Nat → Prop} (closed : ∀ m o, ops[m]? = some o → D m → ∀ e ∈ o.after, Region.binds .any e = true → D e.on) {j : Nat} {o : Oper} (ho : ops[j]? = some o)
    (ready : ∀ e ∈ o.after, Region.binds .any e = true → D e.on) : ∀ i, i < j → (M j).testBit i = true → D i := by
  intro i hi ht
  obtain ⟨hlt, hspec⟩ := okM_spec hM ho
  obtain ⟨e, he, hb, hor⟩ := hspec i hi ht
  have hj := (Array.getElem?_eq_some_iff.1 ho).1
  rcases hor with rfl | ⟨h1, h2⟩
  · exact ready e he hb
  · have := hlt e he hb
    exact bits_closed hM closed e.on (ready e he hb) (by omega) i h1 h2

theorem okPairs_spec {M : Nat → Nat} (hP : okPairs P ops M = true) {i j : Nat} {oi oj : Oper} (hij : i < j) (hi : ops[i]? = some oi) (hj : ops[j]? = some oj) (hb : (M j).testBit i = false) :
    oi.apart ops oj = true ∧ oj.apart ops oi = true ∧ okCls (cls P oi.op) (cls P oj.op) = true := by
  have h1 := List.all_eq_true.1 hP j (List.mem_range.2 (Array.getElem?_eq_some_iff.1 hj).1)
  have h2 := List.all_eq_true.1 h1 i (List.mem_range.2 hij)
  simp only [hb, Bool.false_or, hi, hj, Bool.and_eq_true] at h2
  exact ⟨h2.1.1, h2.1.2, h2.2⟩

/-- what is known of an operation that may come up now, and of any other one -/
structure Turn (P : Program) (ops : Array Oper) (D : Nat → Prop) (j : Nat) : Prop where
  /-- either the two wait for each other, or they are independent -/
  other : ∀ m om oj, m < ops.size → m ≠ j → ops[m]? = some om → ops[j]? = some oj →
    (D m ↔ m < j) ∨ (om.apart ops oj = true ∧ oj.apart ops om = true ∧ okCls (cls P om.op) (cls P oj.op) = true ∧ okCls (cls P oj.op) (cls P om.op) = true ∧
      (cls P om.op = .full → cls P oj.op = .read → needQuiet P ops (masks ops) m = true) ∧ indepB (masks ops) m j = true)

theorem needQuiet_of {M : Nat → Nat} {k j : Nat} {ok oj : Oper} (hk : ops[k]? = some ok) (hj : ops[j]? = some oj) (h1 : cls P ok.op = .full) (h2 : cls P oj.op = .read) (hb : ((M k).testBit j || (M j).testBit k) = false) : needQuiet P ops M k = true := by
  unfold needQuiet
  simp only [hk, h1, beq_self_eq_true, Bool.true_and]
  refine List.any_eq_true.2 ⟨j, List.mem_range.2 (Array.getElem?_eq_some_iff.1 hj).1, ?_⟩
  simp [hj, h2, hb]

theorem shy_of {M : Nat → Nat} {k j : Nat} {ok oj : Oper} (hk : ops[k]? = some ok) (hj : ops[j]? = some oj) (h1 : cls P ok.op = .full) (h2 : cls P oj.op = .read) (hb : ((M k).testBit j || (M j).testBit k) = false) (hlt : k < j) : shyB P ops M j = true := by
  unfold shyB
  simp only [hj, h2, beq_self_eq_true, Bool.true_and]
  refine List.any_eq_true.2 ⟨k, List.mem_range.2 hlt, ?_⟩
  simp [hk, h1, hb]
theorem okCls_symm {x y : Class} (h : okCls x y = true) : okCls y x = true := by cases x <;> cases y <;> first | rfl | exact h

theorem high_spec {M : Nat → Nat} (h : okHigh ops M = true) {j i : Nat} (hj : j < ops.size) (hi : j ≤ i) : (M j).testBit i = false := by
  have := List.all_eq_true.1 h j (List.mem_range.2 hj)
  simp only [decide_eq_true_eq] at this
  exact Nat.testBit_lt_two_pow (Nat.lt_of_lt_of_le this (Nat.pow_le_pow_right (by omega) hi))

theorem turn_of (hM : okM ops (masks ops) = true) (hH : okHigh ops (masks ops) = true) (hP : okPairs P ops (masks ops) = true) {D : Nat → Prop} (closed : ∀ m o, ops[m]? = some o → D m → ∀ e ∈ o.after, Region.binds .any e = true → D e.on) {j : Nat} {o : Oper} (ho : ops[j]? = some o)
    (hDj : ¬ D j) (ready : ∀ e ∈ o.after, Region.binds .any e = true → D e.on) : Turn P ops D j := by
  refine ⟨fun m om oj hm hne hom hoj => ?_⟩
  have hjs := (Array.getElem?_eq_some_iff.1 ho).1
  rcases Nat.lt_or_ge m j with hlt | hge
  · cases hb : (masks ops j).testBit m with
    | true => exact .inl ⟨fun _ => hlt, fun _ => bits_ready hM closed ho ready m hlt hb⟩
    | false =>
      obtain ⟨h1, h2, h3⟩ := okPairs_spec hP hlt hom hoj hb
      have hb2 : (masks ops m).testBit j = false := high_spec hH hm (by omega)
      exact .inr ⟨h1, h2, h3, okCls_symm h3, fun a b => needQuiet_of hom hoj a b (by simp [hb, hb2]), by simp [indepB, hb, hb2]⟩
  · have hlt : j < m := by omega
    cases hb : (masks ops m).testBit j with
    | true => exact .inl ⟨fun hD => absurd (bits_closed hM closed m hD hm j hlt hb) hDj, fun h => by omega⟩
    | false =>
      obtain ⟨h1, h2, h3⟩ := okPairs_spec hP hlt hoj hom hb
      have hb2 : (masks ops j).testBit m = false := high_spec hH hjs (by omega)
      exact .inr ⟨h2, h1, okCls_symm h3, h3, fun a b => needQuiet_of hom hoj a b (by simp [hb, hb2]), by simp [indepB, hb, hb2]⟩

end

end Go.Ev
