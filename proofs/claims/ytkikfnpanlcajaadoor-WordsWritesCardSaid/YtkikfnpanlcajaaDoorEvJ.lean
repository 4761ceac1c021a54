/- The abstract machine Ev, part J: a region that draws its order: whatever order is drawn, it comes to what the text's order comes to. -/
import Derived.Test.YtkikfnpanlcajaaDoorEvI
set_option linter.all false
namespace Go.Ev

/-! ### the last one of a row that did a thing -/

open Classical in
noncomputable def pr {α : Type} (init : α) (val : Nat → α) (W : Nat → Prop) : Nat → α
  | 0 => init
  | m + 1 => if W m then val m else pr init val W m

theorem pr_congr {α : Type} {init : α} {val : Nat → α} {W W' : Nat → Prop} : ∀ {n : Nat}, (∀ m, m < n → (W m ↔ W' m)) → pr init val W n = pr init val W' n
  | 0, _ => rfl
  | n + 1, h => by
    have ih := pr_congr (init := init) (val := val) (n := n) fun m hm => h m (by omega)
    have hn := h n (by omega)
    simp only [pr, ih]
    by_cases hw : W n
    · rw [if_pos hw, if_pos (hn.1 hw)]
    · rw [if_neg hw, if_neg fun e => hw (hn.2 e)]

theorem pr_none {α : Type} {init : α} {val : Nat → α} {W : Nat → Prop} {j : Nat} : ∀ {n : Nat}, j ≤ n → (∀ m, m < n → W m → m < j) → pr init val W n = pr init val W j
  | 0, hj, _ => by
    have e : j = 0 := by omega
    subst e; rfl
  | n + 1, hj, h => by
    rcases Nat.lt_or_ge n j with hlt | hge
    · have e : j = n + 1 := by omega
      subst e; rfl
    · have hw : ¬ W n := fun e => by have := h n (by omega) e; omega
      simp only [pr]
      rw [if_neg hw, pr_none hge fun m hm => h m (by omega)]

/-! ### the static look at a region -/

def okM (ops : Array Oper) (M : Nat → Nat) : Bool :=
  (List.range ops.size).all fun j => match ops[j]? with
    | none => false
    | some o => o.after.all (fun e => !Region.binds .any e || decide (e.on < j)) &&
        (List.range j).all fun i => !(M j).testBit i || o.after.any fun e => Region.binds .any e && (e.on == i || (decide (i < e.on) && (M e.on).testBit i))

def okCls (x y : Class) : Bool :=
  match x, y with
  | .full, .full => false
  | _, _ => true

/-- an operation of the greatest kind, of which some that read are independent: it may change nothing that was there -/
def needQuiet (P : Program) (ops : Array Oper) (M : Nat → Nat) (k : Nat) : Bool :=
  match ops[k]? with
  | none => false
  | some o => cls P o.op == .full && (List.range ops.size).any fun j => match ops[j]? with
    | none => false
    | some oj => cls P oj.op == .read && !((M k).testBit j || (M j).testBit k)

/-- neither waits for the other -/
def indepB (M : Nat → Nat) (k j : Nat) : Bool := !((M k).testBit j || (M j).testBit k)

/-- the operand by which an operation that reads finds what it reads -/
def mainV (ρ : Operand → AV) : Op → AV
  | .load _ a => ρ a
  | .convert _ _ x => ρ x
  | .lookup _ m _ _ => ρ m
  | .call c => (match c.args.toList with | x :: _ => ρ x | [] => .junk)
  | _ => .junk
def refOf : AV → Option Nat
  | .ptr (some (b, _)) => some b
  | .slice (some (b, _)) _ _ => some b
  | .map (some b) => some b
  | _ => none

/-- an operation that reads, independent of one of the greatest kind ahead of it in the text -/
def shyB (P : Program) (ops : Array Oper) (M : Nat → Nat) (j : Nat) : Bool :=
  match ops[j]? with
  | none => false
  | some o => cls P o.op == .read && (List.range j).any fun k => match ops[k]? with
    | none => false
    | some ok => cls P ok.op == .full && !((M k).testBit j || (M j).testBit k)

def okPairs (P : Program) (ops : Array Oper) (M : Nat → Nat) : Bool :=
  (List.range ops.size).all fun j => (List.range j).all fun i =>
    (M j).testBit i || match ops[i]?, ops[j]? with
      | some oi, some oj => oi.apart ops oj && oj.apart ops oi && okCls (cls P oi.op) (cls P oj.op)
      | _, _ => false

def masks (ops : Array Oper) (k : Nat) : Nat := (Region.before ops).getD k 0

/-- the masks say nothing of a number that is not below -/
def okHigh (ops : Array Oper) (M : Nat → Nat) : Bool := (List.range ops.size).all fun j => decide (M j < 2 ^ j)

def okRegion (P : Program) (ops : Array Oper) : Bool := okM ops (masks ops) && okHigh ops (masks ops) && okPairs P ops (masks ops)

/-- a heap without some objects -/
noncomputable def H.minus (h : H) (S : Nat → Prop) : H := ⟨h.next, fun i => open Classical in if S i then none else h.get i⟩
def noT : Nat → Prop := fun _ => False
/-- what an operation touched, too -/
def addT (S : Nat → Prop) (h h' : H) : Nat → Prop := fun i => S i ∨ (i < h.next ∧ h'.get i ≠ h.get i)

/-- a part of a heap -/
structure Sub (h1 h : H) : Prop where
  next : h1.next = h.next
  get : ∀ i o, h1.get i = some o → h.get i = some o
theorem minus_sub (h : H) (S : Nat → Prop) : Sub (h.minus S) h := ⟨rfl, fun i o e => by
  simp only [H.minus] at e
  split at e
  · cases e
  · exact e⟩
theorem minus_get {h : H} {S : Nat → Prop} {i : Nat} (hi : ¬ S i) : (h.minus S).get i = h.get i := by simp only [H.minus]; rw [if_neg hi]
theorem minus_noT (h : H) : h.minus noT = h := by
  cases h
  unfold H.minus
  congr 1
  funext i
  rw [if_neg (show ¬ noT i from fun h => h)]
theorem addT_same {S : Nat → Prop} {h h' : H} (hq : ∀ i, i < h.next → h'.get i = h.get i) : addT S h h' = S := by
  funext i
  exact propext ⟨fun h => h.elim id fun ⟨h1, h2⟩ => absurd (hq i h1) h2, .inl⟩

theorem evLook_sub {z : AV} {m : Option Nat} {k : AV} {h1 h : H} (s : Sub h1 h) {q : AV × Bool} (hq : evLook z m k h1 = some q) : evLook z m k h = some q := by
  unfold evLook at hq ⊢
  split at hq
  · exact hq
  · split at hq
    · rename_i hg; rw [s.get _ _ hg]; exact hq
    · rename_i hg; rw [s.get _ _ hg]; exact hq
    · cases hq
theorem evMapLen_sub {m : Option Nat} {h1 h : H} (s : Sub h1 h) {n : Nat} (hn : evMapLen m h1 = some n) : evMapLen m h = some n := by
  unfold evMapLen at hn ⊢
  split at hn
  · exact hn
  · split at hn
    · rename_i hg; rw [s.get _ _ hg]; exact hn
    · cases hn

theorem evRead_sub {P : Program} {ρ : Operand → AV} {op : Op} {h1 h : H} (s : Sub h1 h) {v : AV} (hv : evRead P ρ op h1 = some v) : evRead P ρ op h = some v := by
  unfold evRead at hv ⊢
  split at hv
  · rename_i t a
    unfold evLoad at hv ⊢
    split at hv
    · split at hv
      · rename_i hg
        rw [s.get _ _ hg]
        exact hv
      · cases hv
    · cases hv
  · unfold evConvR at hv ⊢
    split at hv
    · split at hv
      · rename_i hu
        unfold evBytesStr at hv ⊢
        split at hv
        · exact hv
        · split at hv
          · rename_i h0; rw [if_pos h0]; exact hv
          · rename_i h0
            rw [if_neg h0]
            split at hv
            · rename_i hg
              rw [s.get _ _ hg]
              exact hv
            · cases hv
        · cases hv
      · cases hv
    · cases hv
  · unfold evLookup at hv ⊢
    split at hv
    · split at hv
      · split at hv
        · rename_i hkk
          obtain ⟨z, hz, hv⟩ := Option.bind_eq_some_iff.1 hv
          obtain ⟨q, hq, rfl⟩ := Option.map_eq_some_iff.1 hv
          rw [if_pos hkk, hz, Option.bind_some, evLook_sub s hq]; rfl
        · cases hv
      · cases hv
    · cases hv
  · split at hv
    · unfold evLenM at hv ⊢
      split at hv
      · split at hv
        · obtain ⟨n, hn, rfl⟩ := Option.map_eq_some_iff.1 hv
          rw [evMapLen_sub s hn]; rfl
        · cases hv
      · cases hv
    · cases hv
  · cases hv

/-- an operation that reads a part of a heap, reads the heap -/
theorem evStep_sub {P : Program} {call : CallFn} {ops : Array Oper} {o : Oper} {ρ : Operand → AV} {h1 h h2 : H} (s : Sub h1 h) (hc : cls P o.op = .read) {v : AV} (hv : evStep P call ops o ρ h1 = some (v, h2)) : h2 = h1 ∧ evStep P call ops o ρ h = some (v, h) := by
  unfold evStep at hv ⊢
  obtain ⟨b, hb, hv⟩ := Option.bind_eq_some_iff.1 hv
  rw [hb]
  cases b with
  | false =>
    simp only [Bool.false_eq_true, if_false, Option.some.injEq, Prod.mk.injEq] at hv
    obtain ⟨rfl, rfl⟩ := hv
    exact ⟨rfl, rfl⟩
  | true =>
    simp only [if_true] at hv
    unfold evOper at hv
    rw [hc] at hv
    obtain ⟨x, hx, hv⟩ := Option.map_eq_some_iff.1 hv
    cases hv
    refine ⟨rfl, ?_⟩
    simp only [Option.bind_some, if_true]
    unfold evOper
    rw [hc]
    simp only
    rw [evRead_sub s hx]; rfl

theorem minus_minus (h : H) (S T : Nat → Prop) : (h.minus S).minus T = h.minus fun i => S i ∨ T i := by
  unfold H.minus
  congr 1
  funext i
  by_cases h1 : T i
  · rw [if_pos h1, if_pos (.inr h1)]
  · rw [if_neg h1]
    by_cases h2 : S i
    · simp only; rw [if_pos h2, if_pos (.inl h2)]
    · simp only; rw [if_neg h2, if_neg (fun h => h.elim h2 h1)]

theorem evRead_local {P : Program} {ρ : Operand → AV} {op : Op} {h : H} {S : Nat → Prop} {v : AV} (hv : evRead P ρ op h = some v) (hb : ∀ b, refOf (mainV ρ op) = some b → ¬ S b) : evRead P ρ op (h.minus S) = some v := by
  unfold evRead at hv ⊢
  split at hv
  · rename_i t a
    unfold evLoad at hv ⊢
    split at hv
    · rename_i i o h1 h2
      rw [minus_get (hb i (by simp [mainV, refOf, h2]))]
      exact hv
    · cases hv
  · rename_i s d x
    unfold evConvR at hv ⊢
    split at hv
    · split at hv
      · unfold evBytesStr at hv ⊢
        split at hv
        · exact hv
        · rename_i i o len c h2
          split at hv
          · rename_i h0; rw [if_pos h0]; exact hv
          · rename_i h0
            rw [if_neg h0, minus_get (hb i (by simp [mainV, refOf, h2]))]
            exact hv
        · cases hv
      · cases hv
    · cases hv
  · rename_i t m k ok
    unfold evLookup at hv ⊢
    split at hv
    · rename_i kt e m' h1 h2
      have hl : ∀ z, evLook z m' (ρ k) (h.minus S) = evLook z m' (ρ k) h := fun z => by
        cases m' with
        | none => rfl
        | some b => unfold evLook; simp only; rw [minus_get (hb b (by simp [mainV, refOf, h2]))]
      simp only [hl]
      exact hv
    · cases hv
  · rename_i c
    split at hv
    · unfold evLenM at hv ⊢
      split at hv
      · rename_i t0 m' h1 h2
        have hl : evMapLen m' (h.minus S) = evMapLen m' h := by
          cases m' with
          | none => rfl
          | some b =>
            unfold evMapLen
            simp only
            rw [minus_get (hb b ?_)]
            cases hc : c.args.toList with
            | nil => rw [hc] at h2; cases h2
            | cons x l => rw [hc] at h2; simp only [List.map_cons, List.cons.injEq] at h2; simp [mainV, refOf, hc, h2.1]
        rw [hl]
        exact hv
      · cases hv
    · cases hv
  · cases hv

/-- an operation that reads is not in need of what it doesn't look at -/
theorem evStep_local {P : Program} {call : CallFn} {ops : Array Oper} {o : Oper} {ρ : Operand → AV} {h h2 : H} (hc : cls P o.op = .read) {v : AV} (hv : evStep P call ops o ρ h = some (v, h2)) {S : Nat → Prop} (hb : ∀ b, refOf (mainV ρ o.op) = some b → ¬ S b) :
    evStep P call ops o ρ (h.minus S) = some (v, h.minus S) := by
  unfold evStep at hv ⊢
  obtain ⟨b, hbb, hv⟩ := Option.bind_eq_some_iff.1 hv
  rw [hbb]
  cases b with
  | false =>
    simp only [Bool.false_eq_true, if_false, Option.some.injEq, Prod.mk.injEq] at hv
    obtain ⟨rfl, rfl⟩ := hv
    rfl
  | true =>
    simp only [if_true] at hv
    unfold evOper at hv
    rw [hc] at hv
    obtain ⟨x, hx, hv⟩ := Option.map_eq_some_iff.1 hv
    cases hv
    simp only [Option.bind_some, if_true]
    unfold evOper
    rw [hc]
    simp only
    rw [evRead_local hx hb]; rfl

theorem shy_read {P : Program} {ops : Array Oper} {M : Nat → Nat} {j : Nat} {o : Oper} (ho : ops[j]? = some o) (h : shyB P ops M j = true) : cls P o.op = .read := by
  unfold shyB at h
  rw [ho] at h
  simp only [Bool.and_eq_true, beq_iff_eq] at h
  exact h.1

/-- reads ahead of it that are independent read what is as it was -/
def keptQ (M : Nat → Nat) (k : Nat) (h h' : H) (Js : List (Nat × AV)) : Prop := ∀ e ∈ Js, indepB M k e.1 = true → ∀ b, refOf e.2 = some b → h'.get b = h.get b
/-- the reads so far, by what they looked at -/
def pushJ (P : Program) (k : Nat) (o : Oper) (v : AV) (Js : List (Nat × AV)) : List (Nat × AV) := if cls P o.op = .read then (k, v) :: Js else Js

open Classical in
/-- the operations in the text's order; S: what those touched of which reads behind them are independent; Js: the reads so far -/
noncomputable def evOpsQ (P : Program) (call : CallFn) (ops : Array Oper) : List Oper → Nat → List AV → H → (Nat → Prop) → List (Nat × AV) → Option (List AV × H)
  | [], _, fr, h, _, _ => some (fr, h)
  | o :: rest, k, fr, h, S, Js =>
    if shyB P ops (masks ops) k = true then (evStep P call ops o (opd fr) (h.minus S)).bind fun q => evOpsQ P call ops rest (k + 1) (putD fr o.dst q.1) h S (pushJ P k o (mainV (opd fr) o.op) Js)
    else (evStep P call ops o (opd fr) h).bind fun q =>
      if needQuiet P ops (masks ops) k = true then
        (if keptQ (masks ops) k h q.2 Js then evOpsQ P call ops rest (k + 1) (putD fr o.dst q.1) q.2 (addT S h q.2) (pushJ P k o (mainV (opd fr) o.op) Js) else none)
      else evOpsQ P call ops rest (k + 1) (putD fr o.dst q.1) q.2 S (pushJ P k o (mainV (opd fr) o.op) Js)

/-! ### the run in the text's order, as a row of states -/

structure Run (P : Program) (call : CallFn) (ops : Array Oper) (n : Nat) (F : Nat → List AV) (Hs : Nat → H) (V : Nat → AV) : Prop where
  step : ∀ k, k < n → ∃ o, ops[k]? = some o ∧ evStep P call ops o (opd (F k)) (Hs k) = some (V k, Hs (k + 1)) ∧ F (k + 1) = putD (F k) o.dst (V k)
  kept : ∀ k, k < n → needQuiet P ops (masks ops) k = true → ∀ j oj, j < k → ops[j]? = some oj → cls P oj.op = .read → indepB (masks ops) k j = true → ∀ b, refOf (mainV (opd (F j)) oj.op) = some b → (Hs (k + 1)).get b = (Hs k).get b
  shy : ∀ k, k < n → shyB P ops (masks ops) k = true → ∃ S : Nat → Prop, (∀ m, m < k → needQuiet P ops (masks ops) m = true → ∀ i, i < (Hs m).next → (Hs (m + 1)).get i ≠ (Hs m).get i → S i) ∧
    ∀ o, ops[k]? = some o → evStep P call ops o (opd (F k)) ((Hs k).minus S) = some (V k, (Hs k).minus S)

theorem run_of_evOpsQ {P : Program} {call : CallFn} {ops : Array Oper} : ∀ {l : List Oper} {k : Nat} {fr fr' : List AV} {h h' : H} {S : Nat → Prop} {Js : List (Nat × AV)}, evOpsQ P call ops l k fr h S Js = some (fr', h') → (∀ j, l[j]? = ops[k + j]?) →
    ∃ (F : Nat → List AV) (Hs : Nat → H) (V : Nat → AV), F 0 = fr ∧ Hs 0 = h ∧ F l.length = fr' ∧ Hs l.length = h' ∧
      (∀ m, m < l.length → ∃ o, ops[k + m]? = some o ∧ evStep P call ops o (opd (F m)) (Hs m) = some (V m, Hs (m + 1)) ∧ F (m + 1) = putD (F m) o.dst (V m)) ∧
      (∀ m, m < l.length → needQuiet P ops (masks ops) (k + m) = true → (∀ e ∈ Js, indepB (masks ops) (k + m) e.1 = true → ∀ b, refOf e.2 = some b → (Hs (m + 1)).get b = (Hs m).get b) ∧
        ∀ j oj, j < m → ops[k + j]? = some oj → cls P oj.op = .read → indepB (masks ops) (k + m) (k + j) = true → ∀ b, refOf (mainV (opd (F j)) oj.op) = some b → (Hs (m + 1)).get b = (Hs m).get b) ∧
      ∀ m, m < l.length → shyB P ops (masks ops) (k + m) = true → ∃ S' : Nat → Prop, (∀ i, S i → S' i) ∧ (∀ p, p < m → needQuiet P ops (masks ops) (k + p) = true → ∀ i, i < (Hs p).next → (Hs (p + 1)).get i ≠ (Hs p).get i → S' i) ∧
        ∀ o, ops[k + m]? = some o → evStep P call ops o (opd (F m)) ((Hs m).minus S') = some (V m, (Hs m).minus S')
  | [], k, fr, fr', h, h', S, Js, hs, hl => by
    simp only [evOpsQ] at hs
    cases hs
    exact ⟨fun _ => fr, fun _ => h, fun _ => .junk, rfl, rfl, rfl, rfl, fun m hm => by simp at hm, fun m hm => by simp at hm, fun m hm => by simp at hm⟩
  | o :: rest, k, fr, fr', h, h', S, Js, hs, hl => by
    simp only [evOpsQ] at hs
    have h0 : ops[k]? = some o := by have := hl 0; simpa using this.symm
    have hl' : ∀ j, rest[j]? = ops[k + 1 + j]? := fun j => by have := hl (j + 1); simpa [Nat.add_assoc, Nat.add_comm 1 j] using this
    -- one step: the value, the heap behind it, what was touched
    have key : ∃ v h1 S1, evStep P call ops o (opd fr) h = some (v, h1) ∧ evOpsQ P call ops rest (k + 1) (putD fr o.dst v) h1 S1 (pushJ P k o (mainV (opd fr) o.op) Js) = some (fr', h') ∧
        (needQuiet P ops (masks ops) k = true → keptQ (masks ops) k h h1 Js) ∧
        (∀ i, S i → S1 i) ∧ (needQuiet P ops (masks ops) k = true → ∀ i, i < h.next → h1.get i ≠ h.get i → S1 i) ∧
        (shyB P ops (masks ops) k = true → evStep P call ops o (opd fr) (h.minus S) = some (v, h.minus S)) := by
      split at hs
      · rename_i hsh
        obtain ⟨⟨v, h1⟩, h2, hs⟩ := Option.bind_eq_some_iff.1 hs
        obtain ⟨e1, e2⟩ := evStep_sub (minus_sub h S) (shy_read h0 hsh) h2
        subst e1
        exact ⟨v, h, S, e2, hs, fun _ _ _ _ _ _ => rfl, fun _ h => h, fun _ i _ hne => absurd rfl hne, fun _ => h2⟩
      · rename_i hsh
        obtain ⟨⟨v, h1⟩, h2, hs⟩ := Option.bind_eq_some_iff.1 hs
        simp only at hs
        split at hs
        · split at hs
          · rename_i hq
            exact ⟨v, h1, _, h2, hs, fun _ => hq, fun _ h => .inl h, fun _ i hi hne => .inr ⟨hi, hne⟩, fun h => absurd h hsh⟩
          · cases hs
        · rename_i hn
          exact ⟨v, h1, S, h2, hs, fun h => absurd h hn, fun _ h => h, fun h => absurd h hn, fun h => absurd h hsh⟩
    obtain ⟨v, h1, S1, k1, k2, k3, k4, k5, k6⟩ := key
    obtain ⟨F, Hs, V, e1, e2, e3, e4, e5, e6, e7⟩ := run_of_evOpsQ k2 hl'
    refine ⟨fun m => match m with | 0 => fr | m + 1 => F m, fun m => match m with | 0 => h | m + 1 => Hs m, fun m => match m with | 0 => v | m + 1 => V m, rfl, rfl, e3, e4, fun m hm => ?_, fun m hm hq => ?_, fun m hm hq => ?_⟩
    · cases m with
      | zero => exact ⟨o, h0, by simp only; rw [e2]; exact k1, by simp only; rw [e1]⟩
      | succ m =>
        obtain ⟨o', q1, q2, q3⟩ := e5 m (by simpa using hm)
        exact ⟨o', by rw [← q1]; congr 1; omega, q2, q3⟩
    · cases m with
      | zero =>
        refine ⟨fun e he hi b hb => ?_, fun j oj hj => absurd hj (by omega)⟩
        simp only
        rw [e2]
        exact k3 hq e he hi b hb
      | succ m =>
        have hq' : needQuiet P ops (masks ops) (k + 1 + m) = true := by rw [← hq]; congr 1; omega
        obtain ⟨q1, q2⟩ := e6 m (by simpa using hm) hq'
        have ek : k + (m + 1) = k + 1 + m := by omega
        refine ⟨fun e he hi b hb => q1 e ?_ (by rw [← ek]; exact hi) b hb, fun j oj hj hoj hc hi b hb => ?_⟩
        · unfold pushJ; split
          · exact List.mem_cons_of_mem _ he
          · exact he
        · cases j with
          | zero =>
            rw [Nat.add_zero, h0] at hoj
            cases hoj
            refine q1 (k, mainV (opd fr) o.op) ?_ (by rw [← ek]; exact hi) b hb
            unfold pushJ
            rw [if_pos hc]
            exact List.mem_cons_self
          | succ j => exact q2 j oj (by omega) (by rw [← hoj]; congr 1; omega) hc (by rw [← ek, show k + 1 + j = k + (j + 1) by omega]; exact hi) b hb
    · cases m with
      | zero => exact ⟨S, fun _ h => h, fun p hp => by omega, fun o' ho' => by
          rw [Nat.add_zero, h0] at ho'
          cases ho'
          exact k6 hq⟩
      | succ m =>
        obtain ⟨S', q1, q2, q3⟩ := e7 m (by simpa using hm) (by rw [← hq]; congr 1; omega)
        refine ⟨S', fun i hi => q1 i (k4 i hi), fun p hp hnq i hi hne => ?_, fun o' ho' => q3 o' (by rw [← ho']; congr 1; omega)⟩
        cases p with
        | zero =>
          simp only at hi hne
          rw [e2] at hne
          exact q1 i (k5 hnq i hi hne)
        | succ p => exact q2 p (by omega) (by rw [← hnq]; congr 1; omega) i hi hne


section
variable {P : Program} {call : CallFn} {ops : Array Oper} {n : Nat} {F : Nat → List AV} {Hs : Nat → H} {V : Nat → AV}

def Wr (ops : Array Oper) (t : Tmp) (m : Nat) : Prop := ∃ o, ops[m]? = some o ∧ o.dst = some t
def Tc (Hs : Nat → H) (i m : Nat) : Prop := (Hs (m + 1)).get i ≠ (Hs m).get i

noncomputable def slotD (ops : Array Oper) (n : Nat) (F : Nat → List AV) (V : Nat → AV) (D : Nat → Prop) (t : Tmp) : AV := pr ((F 0).getD t .junk) V (fun m => D m ∧ Wr ops t m) n
noncomputable def contD (n : Nat) (Hs : Nat → H) (D : Nat → Prop) (i : Nat) : Option AObj := pr ((Hs 0).get i) (fun m => (Hs (m + 1)).get i) (fun m => D m ∧ Tc Hs i m) n

theorem get_pr (i : Nat) : ∀ k, (Hs k).get i = pr ((Hs 0).get i) (fun m => (Hs (m + 1)).get i) (Tc Hs i) k
  | 0 => rfl
  | k + 1 => by
    simp only [pr]
    by_cases h : Tc Hs i k
    · rw [if_pos h]
    · rw [if_neg h, ← get_pr i k]; exact Classical.not_not.1 h

theorem contD_agree {D : Nat → Prop} {i j : Nat} (hj : j ≤ n) (h : ∀ m, m < n → Tc Hs i m → (D m ↔ m < j)) : contD n Hs D i = (Hs j).get i := by
  unfold contD
  rw [pr_congr (W' := fun m => m < j ∧ Tc Hs i m) (fun m hm => ⟨fun ⟨a, b⟩ => ⟨(h m hm b).1 a, b⟩, fun ⟨a, b⟩ => ⟨(h m hm b).2 a, b⟩⟩), pr_none hj (fun m _ h => h.1), get_pr i j]
  exact pr_congr fun m hm => ⟨fun h => h.2, fun h => ⟨hm, h⟩⟩

theorem length_F (hrun : Run P call ops n F Hs V) : ∀ k, k ≤ n → (F k).length = (F 0).length
  | 0, _ => rfl
  | k + 1, hk => by
    obtain ⟨o, _, _, h3⟩ := hrun.step k (by omega)
    rw [h3, ← length_F hrun k (by omega)]
    unfold putD
    split <;> simp

theorem F_pr (hrun : Run P call ops n F Hs V) {t : Tmp} (ht : t < (F 0).length) : ∀ k, k ≤ n → (F k).getD t .junk = pr ((F 0).getD t .junk) V (Wr ops t) k
  | 0, _ => rfl
  | k + 1, hk => by
    obtain ⟨o, h1, _, h3⟩ := hrun.step k (by omega)
    have ih := F_pr hrun ht k (by omega)
    have hl := length_F hrun k (by omega)
    simp only [pr]
    by_cases h : Wr ops t k
    · rw [if_pos h, h3]
      obtain ⟨o', q1, q2⟩ := h
      rw [h1] at q1
      cases q1
      rw [q2]
      simp only [putD]
      rw [List.getD_eq_getElem?_getD, List.getElem?_set_self (by rw [hl]; exact ht)]
      rfl
    · rw [if_neg h, ← ih, h3]
      cases hd : o.dst with
      | none => rfl
      | some d =>
        have hne : d ≠ t := fun e => h ⟨o, h1, by rw [hd, e]⟩
        simp only [putD]
        rw [List.getD_eq_getElem?_getD, List.getD_eq_getElem?_getD, List.getElem?_set_ne hne]

theorem slotD_agree (hrun : Run P call ops n F Hs V) {D : Nat → Prop} {t : Tmp} (ht : t < (F 0).length) {j : Nat} (hj : j ≤ n) (h : ∀ m, m < n → Wr ops t m → (D m ↔ m < j)) : slotD ops n F V D t = (F j).getD t .junk := by
  unfold slotD
  rw [pr_congr (W' := fun m => m < j ∧ Wr ops t m) (fun m hm => ⟨fun ⟨a, b⟩ => ⟨(h m hm b).1 a, b⟩, fun ⟨a, b⟩ => ⟨(h m hm b).2 a, b⟩⟩), pr_none hj (fun m _ h => h.1), F_pr hrun ht j hj]
  exact pr_congr fun m hm => ⟨fun h => h.2, fun h => ⟨hm, h⟩⟩

theorem Hs_mono (hcall : call.Sound P) (hrun : Run P call ops n F Hs V) {k : Nat} : ∀ {m : Nat}, k ≤ m → m ≤ n → (Hs k).next ≤ (Hs m).next
  | 0, hk, _ => by
    have e : k = 0 := by omega
    subst e; exact Nat.le_refl _
  | m + 1, hk, hm => by
    rcases Nat.lt_or_ge m k with h | h
    · have e : k = m + 1 := by omega
      subst e; exact Nat.le_refl _
    · obtain ⟨o, _, h2, _⟩ := hrun.step m (by omega)
      exact Nat.le_trans (Hs_mono hcall hrun h (by omega)) (evStep_grows hcall h2).1

theorem Hs_wf (hcall : call.Sound P) (hrun : Run P call ops n F Hs V) (h0 : (Hs 0).WF) : ∀ k, k ≤ n → (Hs k).WF
  | 0, _ => h0
  | k + 1, hk => by
    obtain ⟨o, _, h2, _⟩ := hrun.step k (by omega)
    exact (evStep_grows hcall h2).2 (Hs_wf hcall hrun h0 k (by omega))

/-- where operations that have come up (D) stand -/
structure Inv (P : Program) (ops : Array Oper) (n : Nat) (F : Nat → List AV) (Hs : Nat → H) (V : Nat → AV) (r0 : Ren) (w0 : World) (ds : List Deferred) (D : Nat → Prop) (r : Ren) (a : Act) (w : World) : Prop where
  le : r0.le r
  dom : ∀ i t, r i = some t → r0 i = none → ∃ k, k < n ∧ D k ∧ (Hs k).next ≤ i ∧ i < (Hs (k + 1)).next
  sz : a.tmps.size = (F 0).length
  slot : ∀ t, t < (F 0).length → VR r (slotD ops n F V D t) (a.eval (.tmp t))
  obj : ∀ i t o, r i = some t → contD n Hs D i = some o → OR r w t o
  inj : ∀ i j ti tj oi oj, r i = some ti → r j = some tj → contD n Hs D i = some oi → contD n Hs D j = some oj → ti.blk = tj.blk → i = j ∨ (oi.ro = true ∧ oj.ro = true)
  bound : ∀ i t, r i = some t → t.blk < w.heap.size
  keep : Keep r0 (Hs 0) w0 w
  size : w0.heap.size ≤ w.heap.size
  env : Env w0 w
  fresh : ∀ i t, r0 i = none → r i = some t → w0.heap.size ≤ t.blk ∨ ∃ j tj o, r0 j = some tj ∧ tj.blk = t.blk ∧ (Hs 0).get j = some o ∧ o.ro = false
  touch : ∀ m, m < n → D m → ∀ i, i < (Hs m).next → Tc Hs i m → ∃ t, r i = some t
  ro : ∀ m, m < n → D m → ∀ i o, i < (Hs m).next → (Hs (m + 1)).get i = some o → ∃ o', (Hs m).get i = some o' ∧ o'.ro = o.ro
  defers : a.defers = ds
  gl : GL r0

end

end Go.Ev
