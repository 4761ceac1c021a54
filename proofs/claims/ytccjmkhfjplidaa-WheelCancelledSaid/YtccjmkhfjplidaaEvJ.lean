/- The abstract machine Ev, part J: a region that draws its order: whatever order is drawn, it comes to what the text's order comes to. -/
import Derived.Test.YtccjmkhfjplidaaEvI
set_option linter.all false
namespace Go.Ev

/-! ### the last one of a row that did a thing -/

open Classical in
noncomputable def pr {α : Type} (init : α) (val : Nat → α) (W : Nat → Prop) : Nat → α
  | 0 => init
  | m + 1 => if W m then val m else pr init val W m

theorem pr_congr {α : Type} {init : α} {val : Nat → α} {W W' : Nat → Prop} : ∀ {n : Nat}, (∀ m, m < n → (W m ↔ W' m)) → pr init val W n = pr init val W' n
  | 0, _ => rfl
  | n + 1, h => by
    have ih := pr_congr (init := init) (val := val) (n := n) fun m hm => h m (by omega)
    have hn := h n (by omega)
    simp only [pr, ih]
    by_cases hw : W n
    · rw [if_pos hw, if_pos (hn.1 hw)]
    · rw [if_neg hw, if_neg fun e => hw (hn.2 e)]

theorem pr_none {α : Type} {init : α} {val : Nat → α} {W : Nat → Prop} {j : Nat} : ∀ {n : Nat}, j ≤ n → (∀ m, m < n → W m → m < j) → pr init val W n = pr init val W j
  | 0, hj, _ => by
    have e : j = 0 := by omega
    subst e; rfl
  | n + 1, hj, h => by
    rcases Nat.lt_or_ge n j with hlt | hge
    · have e : j = n + 1 := by omega
      subst e; rfl
    · have hw : ¬ W n := fun e => by have := h n (by omega) e; omega
      simp only [pr]
      rw [if_neg hw, pr_none hge fun m hm => h m (by omega)]

/-! ### the static look at a region -/

def okM (ops : Array Oper) (M : Nat → Nat) : Bool :=
  (List.range ops.size).all fun j => match ops[j]? with
    | none => false
    | some o => o.after.all (fun e => !Region.binds .any e || decide (e.on < j)) &&
        (List.range j).all fun i => !(M j).testBit i || o.after.any fun e => Region.binds .any e && (e.on == i || (decide (i < e.on) && (M e.on).testBit i))

def okCls (x y : Class) : Bool :=
  match x, y with
  | .full, .full => false
  | _, _ => true

/-- an operation of the greatest kind, of which some that read are independent: it may change nothing that was there -/
def needQuiet (P : Program) (ops : Array Oper) (M : Nat → Nat) (k : Nat) : Bool :=
  match ops[k]? with
  | none => false
  | some o => cls P o.op == .full && (List.range ops.size).any fun j => match ops[j]? with
    | none => false
    | some oj => cls P oj.op == .read && !((M k).testBit j || (M j).testBit k)

def okPairs (P : Program) (ops : Array Oper) (M : Nat → Nat) : Bool :=
  (List.range ops.size).all fun j => (List.range j).all fun i =>
    (M j).testBit i || match ops[i]?, ops[j]? with
      | some oi, some oj => oi.apart ops oj && oj.apart ops oi && okCls (cls P oi.op) (cls P oj.op)
      | _, _ => false

def masks (ops : Array Oper) (k : Nat) : Nat := (Region.before ops).getD k 0

/-- the masks say nothing of a number that is not below -/
def okHigh (ops : Array Oper) (M : Nat → Nat) : Bool := (List.range ops.size).all fun j => decide (M j < 2 ^ j)

def okRegion (P : Program) (ops : Array Oper) : Bool := okM ops (masks ops) && okHigh ops (masks ops) && okPairs P ops (masks ops)

open Classical in
/-- the operations in the text's order; those that must be quiet are -/
noncomputable def evOpsQ (P : Program) (call : CallFn) (ops : Array Oper) : List Oper → Nat → List AV → H → Option (List AV × H)
  | [], _, fr, h => some (fr, h)
  | o :: rest, k, fr, h => (evStep P call ops o (opd fr) h).bind fun q =>
    if needQuiet P ops (masks ops) k = true then (if ∀ i, i < h.next → q.2.get i = h.get i then evOpsQ P call ops rest (k + 1) (putD fr o.dst q.1) q.2 else none)
    else evOpsQ P call ops rest (k + 1) (putD fr o.dst q.1) q.2

/-! ### the run in the text's order, as a row of states -/

structure Run (P : Program) (call : CallFn) (ops : Array Oper) (n : Nat) (F : Nat → List AV) (Hs : Nat → H) (V : Nat → AV) : Prop where
  step : ∀ k, k < n → ∃ o, ops[k]? = some o ∧ evStep P call ops o (opd (F k)) (Hs k) = some (V k, Hs (k + 1)) ∧ F (k + 1) = putD (F k) o.dst (V k)
  quiet : ∀ k, k < n → needQuiet P ops (masks ops) k = true → ∀ i, i < (Hs k).next → (Hs (k + 1)).get i = (Hs k).get i

theorem run_of_evOpsQ {P : Program} {call : CallFn} {ops : Array Oper} : ∀ {l : List Oper} {k : Nat} {fr fr' : List AV} {h h' : H}, evOpsQ P call ops l k fr h = some (fr', h') → (∀ j, l[j]? = ops[k + j]?) →
    ∃ (F : Nat → List AV) (Hs : Nat → H) (V : Nat → AV), F 0 = fr ∧ Hs 0 = h ∧ F l.length = fr' ∧ Hs l.length = h' ∧
      (∀ m, m < l.length → ∃ o, ops[k + m]? = some o ∧ evStep P call ops o (opd (F m)) (Hs m) = some (V m, Hs (m + 1)) ∧ F (m + 1) = putD (F m) o.dst (V m)) ∧
      ∀ m, m < l.length → needQuiet P ops (masks ops) (k + m) = true → ∀ i, i < (Hs m).next → (Hs (m + 1)).get i = (Hs m).get i
  | [], k, fr, fr', h, h', hs, hl => by
    simp only [evOpsQ] at hs
    cases hs
    exact ⟨fun _ => fr, fun _ => h, fun _ => .junk, rfl, rfl, rfl, rfl, fun m hm => by simp at hm, fun m hm => by simp at hm⟩
  | o :: rest, k, fr, fr', h, h', hs, hl => by
    simp only [evOpsQ] at hs
    obtain ⟨⟨v, h1⟩, h2, hs⟩ := Option.bind_eq_some_iff.1 hs
    have h0 : ops[k]? = some o := by have := hl 0; simpa using this.symm
    have hl' : ∀ j, rest[j]? = ops[k + 1 + j]? := fun j => by have := hl (j + 1); simpa [Nat.add_assoc, Nat.add_comm 1 j] using this
    have key : evOpsQ P call ops rest (k + 1) (putD fr o.dst v) h1 = some (fr', h') ∧ (needQuiet P ops (masks ops) k = true → ∀ i, i < h.next → h1.get i = h.get i) := by
      split at hs
      · split at hs
        · rename_i hq; exact ⟨hs, fun _ => hq⟩
        · cases hs
      · rename_i hn; exact ⟨hs, fun e => absurd e hn⟩
    obtain ⟨F, Hs, V, e1, e2, e3, e4, e5, e6⟩ := run_of_evOpsQ key.1 hl'
    refine ⟨fun m => match m with | 0 => fr | m + 1 => F m, fun m => match m with | 0 => h | m + 1 => Hs m, fun m => match m with | 0 => v | m + 1 => V m, rfl, rfl, e3, e4, fun m hm => ?_, fun m hm hq => ?_⟩
    · cases m with
      | zero => exact ⟨o, h0, by simp only; rw [e2]; exact h2, by simp only; rw [e1]⟩
      | succ m =>
        obtain ⟨o', q1, q2, q3⟩ := e5 m (by simpa using hm)
        exact ⟨o', by rw [← q1]; congr 1; omega, q2, q3⟩
    · cases m with
      | zero => simp only; rw [e2]; exact key.2 hq
      | succ m => exact e6 m (by simpa using hm) (by rw [← hq]; congr 1; omega)


section
variable {P : Program} {call : CallFn} {ops : Array Oper} {n : Nat} {F : Nat → List AV} {Hs : Nat → H} {V : Nat → AV}

def Wr (ops : Array Oper) (t : Tmp) (m : Nat) : Prop := ∃ o, ops[m]? = some o ∧ o.dst = some t
def Tc (Hs : Nat → H) (i m : Nat) : Prop := (Hs (m + 1)).get i ≠ (Hs m).get i

noncomputable def slotD (ops : Array Oper) (n : Nat) (F : Nat → List AV) (V : Nat → AV) (D : Nat → Prop) (t : Tmp) : AV := pr ((F 0).getD t .junk) V (fun m => D m ∧ Wr ops t m) n
noncomputable def contD (n : Nat) (Hs : Nat → H) (D : Nat → Prop) (i : Nat) : Option AObj := pr ((Hs 0).get i) (fun m => (Hs (m + 1)).get i) (fun m => D m ∧ Tc Hs i m) n

theorem get_pr (i : Nat) : ∀ k, (Hs k).get i = pr ((Hs 0).get i) (fun m => (Hs (m + 1)).get i) (Tc Hs i) k
  | 0 => rfl
  | k + 1 => by
    simp only [pr]
    by_cases h : Tc Hs i k
    · rw [if_pos h]
    · rw [if_neg h, ← get_pr i k]; exact Classical.not_not.1 h

theorem contD_agree {D : Nat → Prop} {i j : Nat} (hj : j ≤ n) (h : ∀ m, m < n → Tc Hs i m → (D m ↔ m < j)) : contD n Hs D i = (Hs j).get i := by
  unfold contD
  rw [pr_congr (W' := fun m => m < j ∧ Tc Hs i m) (fun m hm => ⟨fun ⟨a, b⟩ => ⟨(h m hm b).1 a, b⟩, fun ⟨a, b⟩ => ⟨(h m hm b).2 a, b⟩⟩), pr_none hj (fun m _ h => h.1), get_pr i j]
  exact pr_congr fun m hm => ⟨fun h => h.2, fun h => ⟨hm, h⟩⟩

theorem length_F (hrun : Run P call ops n F Hs V) : ∀ k, k ≤ n → (F k).length = (F 0).length
  | 0, _ => rfl
  | k + 1, hk => by
    obtain ⟨o, _, _, h3⟩ := hrun.step k (by omega)
    rw [h3, ← length_F hrun k (by omega)]
    unfold putD
    split <;> simp

theorem F_pr (hrun : Run P call ops n F Hs V) {t : Tmp} (ht : t < (F 0).length) : ∀ k, k ≤ n → (F k).getD t .junk = pr ((F 0).getD t .junk) V (Wr ops t) k
  | 0, _ => rfl
  | k + 1, hk => by
    obtain ⟨o, h1, _, h3⟩ := hrun.step k (by omega)
    have ih := F_pr hrun ht k (by omega)
    have hl := length_F hrun k (by omega)
    simp only [pr]
    by_cases h : Wr ops t k
    · rw [if_pos h, h3]
      obtain ⟨o', q1, q2⟩ := h
      rw [h1] at q1
      cases q1
      rw [q2]
      simp only [putD]
      rw [List.getD_eq_getElem?_getD, List.getElem?_set_self (by rw [hl]; exact ht)]
      rfl
    · rw [if_neg h, ← ih, h3]
      cases hd : o.dst with
      | none => rfl
      | some d =>
        have hne : d ≠ t := fun e => h ⟨o, h1, by rw [hd, e]⟩
        simp only [putD]
        rw [List.getD_eq_getElem?_getD, List.getD_eq_getElem?_getD, List.getElem?_set_ne hne]

theorem slotD_agree (hrun : Run P call ops n F Hs V) {D : Nat → Prop} {t : Tmp} (ht : t < (F 0).length) {j : Nat} (hj : j ≤ n) (h : ∀ m, m < n → Wr ops t m → (D m ↔ m < j)) : slotD ops n F V D t = (F j).getD t .junk := by
  unfold slotD
  rw [pr_congr (W' := fun m => m < j ∧ Wr ops t m) (fun m hm => ⟨fun ⟨a, b⟩ => ⟨(h m hm b).1 a, b⟩, fun ⟨a, b⟩ => ⟨(h m hm b).2 a, b⟩⟩), pr_none hj (fun m _ h => h.1), F_pr hrun ht j hj]
  exact pr_congr fun m hm => ⟨fun h => h.2, fun h => ⟨hm, h⟩⟩

theorem Hs_mono (hcall : call.Sound P) (hrun : Run P call ops n F Hs V) {k : Nat} : ∀ {m : Nat}, k ≤ m → m ≤ n → (Hs k).next ≤ (Hs m).next
  | 0, hk, _ => by
    have e : k = 0 := by omega
    subst e; exact Nat.le_refl _
  | m + 1, hk, hm => by
    rcases Nat.lt_or_ge m k with h | h
    · have e : k = m + 1 := by omega
      subst e; exact Nat.le_refl _
    · obtain ⟨o, _, h2, _⟩ := hrun.step m (by omega)
      exact Nat.le_trans (Hs_mono hcall hrun h (by omega)) (evStep_grows hcall h2).1

theorem Hs_wf (hcall : call.Sound P) (hrun : Run P call ops n F Hs V) (h0 : (Hs 0).WF) : ∀ k, k ≤ n → (Hs k).WF
  | 0, _ => h0
  | k + 1, hk => by
    obtain ⟨o, _, h2, _⟩ := hrun.step k (by omega)
    exact (evStep_grows hcall h2).2 (Hs_wf hcall hrun h0 k (by omega))

/-- where operations that have come up (D) stand -/
structure Inv (P : Program) (ops : Array Oper) (n : Nat) (F : Nat → List AV) (Hs : Nat → H) (V : Nat → AV) (r0 : Ren) (w0 : World) (ds : List Deferred) (D : Nat → Prop) (r : Ren) (a : Act) (w : World) : Prop where
  le : r0.le r
  dom : ∀ i t, r i = some t → r0 i = none → ∃ k, k < n ∧ D k ∧ (Hs k).next ≤ i ∧ i < (Hs (k + 1)).next
  sz : a.tmps.size = (F 0).length
  slot : ∀ t, t < (F 0).length → VR r (slotD ops n F V D t) (a.eval (.tmp t))
  obj : ∀ i t o, r i = some t → contD n Hs D i = some o → OR r w t o
  inj : ∀ i j ti tj oi oj, r i = some ti → r j = some tj → contD n Hs D i = some oi → contD n Hs D j = some oj → ti.blk = tj.blk → i = j ∨ (oi.ro = true ∧ oj.ro = true)
  bound : ∀ i t, r i = some t → t.blk < w.heap.size
  keep : Keep r0 (Hs 0) w0 w
  size : w0.heap.size ≤ w.heap.size
  env : Env w0 w
  fresh : ∀ i t, r0 i = none → r i = some t → w0.heap.size ≤ t.blk ∨ ∃ j tj o, r0 j = some tj ∧ tj.blk = t.blk ∧ (Hs 0).get j = some o ∧ o.ro = false
  touch : ∀ m, m < n → D m → ∀ i, i < (Hs m).next → Tc Hs i m → ∃ t, r i = some t
  ro : ∀ m, m < n → D m → ∀ i o, i < (Hs m).next → (Hs (m + 1)).get i = some o → ∃ o', (Hs m).get i = some o' ∧ o'.ro = o.ro
  defers : a.defers = ds

end

end Go.Ev
