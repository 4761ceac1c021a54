/- Own texts, joined: EvIn EvRe EvO EvXj EvHR EvDn EvDr EvBu EvBt EvBx. -/
import Derived.Test.YtongjlmclckboaaDoorM3
import Derived.Lib.Join
import Derived.Below
import Derived.Sort.Grow
import Derived.Deep.Draws
import Derived.Lib.ItoaNum
import Derived.Lib.LaidTab
import Derived.Shelf.Strings.Builder1
set_option linter.all false
/- The abstract machine Ev: a drawn region that lays entries into maps which it has made itself, in whatever order. -/
namespace Go.Ev
open Go.RowKit

/-! ### what the others see: a map of which nothing is told, and an operation that does nothing -/

def ghoOp : Op → Op
  | .makeMap t none => .makeMap t (some (.const (.int .i64 0)))
  | .insert _ m k v => .makeFunc (.func 0) #[m, k, v] #[]
  | op => op
def ghoO (o : Oper) : Oper := { o with op := ghoOp o.op }
def gho (ops : Array Oper) : Array Oper := (ops.toList.map ghoO).toArray

theorem gho_get (ops : Array Oper) (j : Nat) : (gho ops)[j]? = (ops[j]?).map ghoO := by
  simp [gho]
theorem gho_size (ops : Array Oper) : (gho ops).size = ops.size := by simp [gho]
theorem gho_yield (ops : Array Oper) (tmps : Array Value) : yielded (gho ops) tmps = yielded ops tmps := by
  funext j
  unfold yielded
  rw [gho_get]
  cases ops[j]? <;> rfl
theorem gho_same {o : Oper} (h : ghoOp o.op = o.op) : ghoO o = o := by
  unfold ghoO
  rw [h]

def isIns : Op → Bool | .insert _ _ _ _ => true | _ => false
def isMk : Op → Bool | .makeMap _ none => true | _ => false
theorem gho_other {op : Op} (h1 : isIns op = false) (h2 : isMk op = false) : ghoOp op = op := by
  unfold ghoOp
  split
  · cases h2
  · cases h1
  · rfl

/-- an insert, by what its operands are -/
def insV (ρ : Operand → AV) (o : Oper) : Option (Nat × AV × AV) :=
  match o.op with
  | .insert _ m k v => (match ρ m with | .map (some i) => some (i, ρ k, ρ v) | _ => none)
  | _ => none

section
variable {P : Program} {call : CallFn} {ops : Array Oper} {n : Nat} {F : Nat → List AV} {Hs : Nat → H} {V : Nat → AV} {r0 : Ren} {w0 : World} {ds : List Deferred}

/-- the region's own maps -/
def Hidx (ops : Array Oper) (Hs : Nat → H) (i : Nat) : Prop := ∃ j o, ops[j]? = some o ∧ isMk o.op = true ∧ i = (Hs j).next

/-- all inserts, with their places -/
def insL (ops : Array Oper) (F : Nat → List AV) : List (Nat × Nat × AV × AV) := ops.toList.zipIdx.filterMap fun x => (insV (opd (F x.2)) x.1).map fun q => (x.2, q)

open Classical in
noncomputable def insD (ops : Array Oper) (F : Nat → List AV) (D : Nat → Prop) (i : Nat) : List (AV × AV) := ((insL ops F).filter fun q => decide (D q.1 ∧ q.2.1 = i)).map (·.2.2)

theorem mem_insL {q : Nat × Nat × AV × AV} : q ∈ insL ops F ↔ ∃ o, ops[q.1]? = some o ∧ insV (opd (F q.1)) o = some q.2 := by
  unfold insL
  rw [List.mem_filterMap]
  constructor
  · rintro ⟨⟨o, j⟩, h1, h2⟩
    rw [List.mem_zipIdx_iff_getElem?] at h1
    obtain ⟨q', hq, rfl⟩ := Option.map_eq_some_iff.1 h2
    exact ⟨o, by simpa using h1, hq⟩
  · rintro ⟨o, h1, h2⟩
    exact ⟨(o, q.1), List.mem_zipIdx_iff_getElem?.2 (by simpa using h1), by simp only; rw [h2]; rfl⟩

theorem insL_nodup : ((insL ops F).map (·.1)).Nodup := by
  unfold insL
  have h : ∀ (l : List Oper) (k : Nat), ((l.zipIdx k).filterMap fun x => (insV (opd (F x.2)) x.1).map fun q => (x.2, q)).Pairwise (fun a b => a.1 < b.1) ∧ ∀ q ∈ (l.zipIdx k).filterMap (fun x => (insV (opd (F x.2)) x.1).map fun q => (x.2, q)), k ≤ q.1 := by
    intro l
    induction l with
    | nil => intro k; simp
    | cons o l ih =>
      intro k
      obtain ⟨h1, h2⟩ := ih (k + 1)
      rw [List.zipIdx_cons, List.filterMap_cons]
      cases hq : (insV (opd (F (o, k).2)) (o, k).1).map fun q => ((o, k).2, q) with
      | none => exact ⟨h1, fun q hq => by have := h2 q hq; omega⟩
      | some q =>
        obtain ⟨q', _, rfl⟩ := Option.map_eq_some_iff.1 hq
        exact ⟨List.pairwise_cons.2 ⟨fun b hb => by have := h2 b hb; simp only; omega, h1⟩, fun b hb => by
          rcases List.mem_cons.1 hb with rfl | hb
          · exact Nat.le_refl _
          · have := h2 b hb; omega⟩
  rw [List.Nodup, List.pairwise_map]
  exact (h ops.toList 0).1.imp fun h => Nat.ne_of_lt h

theorem filter_more {α : Type} {p p' : α → Prop} [DecidablePred p] [DecidablePred p'] {q : α} : ∀ {l : List α}, q ∈ l → l.Nodup → ¬ p q → p' q → (∀ x ∈ l, x ≠ q → (p' x ↔ p x)) → (l.filter fun x => decide (p' x)).Perm ((l.filter fun x => decide (p x)) ++ [q])
  | x :: l, hm, hn, h1, h2, h3 => by
    rw [List.nodup_cons] at hn
    rcases List.mem_cons.1 hm with rfl | hm
    · rw [List.filter_cons_of_pos (by simpa using h2), List.filter_cons_of_neg (by simpa using h1)]
      have : (l.filter fun x => decide (p' x)) = l.filter fun x => decide (p x) := by
        apply List.filter_congr
        intro y hy
        have := h3 y (List.mem_cons_of_mem _ hy) (fun e => hn.1 (e ▸ hy))
        simp only [decide_eq_decide]; exact this
      rw [this]
      exact (List.perm_append_singleton _ _).symm
    · have hne : x ≠ q := fun e => hn.1 (e ▸ hm)
      have ih := filter_more (p := p) (p' := p') hm hn.2 h1 h2 fun y hy => h3 y (List.mem_cons_of_mem _ hy)
      have hx := h3 x List.mem_cons_self hne
      by_cases hp : p x
      · rw [List.filter_cons_of_pos (by simpa using hx.2 hp), List.filter_cons_of_pos (by simpa using hp)]
        exact ih.cons x
      · rw [List.filter_cons_of_neg (by simpa using fun h => hp (hx.1 h)), List.filter_cons_of_neg (by simpa using hp)]
        exact ih

theorem insD_same {D D' : Nat → Prop} {i : Nat} (h : ∀ q ∈ insL ops F, q.2.1 = i → (D' q.1 ↔ D q.1)) : insD ops F D' i = insD ops F D i := by
  unfold insD
  congr 1
  apply List.filter_congr
  intro q hq
  simp only [decide_eq_decide]
  exact ⟨fun ⟨a, b⟩ => ⟨(h q hq b).1 a, b⟩, fun ⟨a, b⟩ => ⟨(h q hq b).2 a, b⟩⟩

/-- what is known of the region's own maps -/
structure XI (ops : Array Oper) (n : Nat) (F : Nat → List AV) (Hs : Nat → H) (D : Nat → Prop) (r : Ren) (w : World) : Prop where
  own : ∀ i, Hidx ops Hs i → ∀ t, r i = some t → ∃ es clk, OR r w t (.map es clk) ∧ (es.map fun e => (e.1, e.2.1)).Perm (insD ops F D i) ∧ (es.map (·.2.2)).Nodup ∧ ∀ e ∈ es, e.2.2 < clk
  alone : ∀ i, Hidx ops Hs i → ∀ t, r i = some t → ∀ i2 t2 o2, r i2 = some t2 → t2.blk = t.blk → contD n Hs D i2 = some o2 → False
  apart : ∀ i i2, Hidx ops Hs i → Hidx ops Hs i2 → ∀ t t2, r i = some t → r i2 = some t2 → t.blk = t2.blk → i = i2
  seen : ∀ q ∈ insL ops F, D q.1 → ∃ t, r q.2.1 = some t
  made : ∀ j o, ops[j]? = some o → isMk o.op = true → D j → ∃ t, r (Hs j).next = some t

/-- what the inserts have to be like -/
structure InsOk (P : Program) (ops : Array Oper) (F : Nat → List AV) (Hs : Nat → H) : Prop where
  make : ∀ (j : Nat) o, ops[j]? = some o → isMk o.op = true → o.guard = none
  ins : ∀ (j : Nat) o t m k v, ops[j]? = some o → o.op = .insert t m k v → o.guard = none ∧ o.dst = none ∧ (∃ kt e kd, P.underlying t = some (.map kt e) ∧ P.underlying kt = some kd ∧ keyKind kd (opd (F j) k) = true) ∧ ∃ i, opd (F j) m = .map (some i) ∧ Hidx ops Hs i
  dist : ∀ q ∈ insL ops F, ∀ q' ∈ insL ops F, q.1 ≠ q'.1 → q.2.1 = q'.2.1 → keyCmp q.2.2.1 q'.2.2.1 = some false

theorem cont_alloc (hcall : call.Sound P) {E : Nat → Prop} (hrun : Run E P call ops n F Hs V) (wf0 : (Hs 0).WF) {D : Nat → Prop} {j : Nat} (hj : j < n) {ob : Option AObj} (hH : Hs (j + 1) = (Hs j).newO ob) (hnew : ∀ m, m < n → D m → j < m → ¬ Tc Hs (Hs j).next m) : contD n Hs (With D j) (Hs j).next = ob := by
  have hwf := Hs_wf hcall hrun wf0 j (by omega)
  have hold : (Hs j).get (Hs j).next = none := by
    cases hg : (Hs j).get (Hs j).next with
    | none => rfl
    | some o => have := hwf _ _ hg; omega
  have := contD_agree (n := n) (Hs := Hs) (D := With D j) (i := (Hs j).next) (j := j + 1) (by omega) (fun m hm ht => with_iff fun hne => by
    rcases Nat.lt_or_ge m j with h | h
    · exfalso
      have hm1 := Hs_mono hcall hrun (show m + 1 ≤ j from h) (by omega : j ≤ n)
      have g1 : (Hs (m + 1)).get (Hs j).next = none := by
        cases hg : (Hs (m + 1)).get (Hs j).next with
        | none => rfl
        | some o => have := Hs_wf hcall hrun wf0 (m + 1) (by omega) _ _ hg; omega
      have hm2 := Hs_mono hcall hrun (show m ≤ j by omega) (by omega : j ≤ n)
      have g2 : (Hs m).get (Hs j).next = none := by
        cases hg : (Hs m).get (Hs j).next with
        | none => rfl
        | some o => have := Hs_wf hcall hrun wf0 m (by omega) _ _ hg; omega
      exact ht (by rw [g1, g2])
    · exact ⟨fun hD => absurd ht (hnew m hm hD (by omega)), fun h' => by omega⟩)
  rw [this, hH, get_newO_self hold]


variable (hcall : call.Sound P) (hrun : Run (fun _ => False) P call (gho ops) n F Hs V) (wf0 : (Hs 0).WF) (hn : n = (gho ops).size) (free : ∀ i, (Hs 0).next ≤ i → i < (Hs n).next → r0 i = none)
include hcall hrun wf0 hn free

theorem mk_step0 {j : Nat} (hj : j < n) {o : Oper} (ho : ops[j]? = some o) (hm : isMk o.op = true) (hg : o.guard = none) : V j = .map (some (Hs j).next) ∧ Hs (j + 1) = (Hs j).newO none := by
  obtain ⟨o', h1, h2, _⟩ := hrun.step j hj
  rw [gho_get, ho] at h1
  cases h1
  have _ := hcall; have _ := wf0; have _ := hn; have _ := free
  replace h2 := h2.resolve_right fun h => h.1
  unfold evStep evWanted at h2
  rw [show (ghoO o).guard = none from hg] at h2
  simp only [Option.bind_some, if_true] at h2
  unfold isMk at hm
  split at hm
  · rename_i t hop
    have : (ghoO o).op = .makeMap t (some (.const (.int .i64 0))) := by unfold ghoO; rw [hop]; rfl
    rw [this] at h2
    unfold evOper at h2
    simp only [cls] at h2
    obtain ⟨q, hq, h2⟩ := Option.map_eq_some_iff.1 h2
    unfold evAlloc at hq
    simp only at hq
    split at hq
    · cases hq
      obtain ⟨a, b⟩ := Prod.mk.inj h2
      exact ⟨a.symm, b.symm⟩
    · cases hq
  · cases hm

theorem mk_step {j : Nat} (hj : j < n) {o : Oper} (ho : ops[j]? = some o) (hm : isMk o.op = true) (hok : InsOk P ops F Hs) : V j = .map (some (Hs j).next) ∧ Hs (j + 1) = (Hs j).newO none := mk_step0 hcall hrun wf0 hn free hj ho hm (hok.make j o ho hm)

theorem mk_range {j : Nat} (hj : j < n) {o : Oper} (ho : ops[j]? = some o) (hm : isMk o.op = true) (hok : InsOk P ops F Hs) : (Hs j).next < (Hs (j + 1)).next := by
  rw [(mk_step hcall hrun wf0 hn free hj ho hm hok).2, next_newO]; omega

theorem Hidx.lt (hok : InsOk P ops F Hs) {i : Nat} (hi : Hidx ops Hs i) : ∃ j o, j < n ∧ ops[j]? = some o ∧ isMk o.op = true ∧ i = (Hs j).next ∧ i < (Hs (j + 1)).next := by
  obtain ⟨j, o, h1, h2, rfl⟩ := hi
  have hj : j < n := by rw [hn, gho_size]; exact (Array.getElem?_eq_some_iff.1 h1).1
  exact ⟨j, o, hj, h1, h2, rfl, mk_range hcall hrun wf0 hn free hj h1 h2 hok⟩

theorem XI.other {D : Nat → Prop} {r r' : Ren} {a : Act} {w w' : World} (hok : InsOk P ops F Hs) (inv : Inv P (gho ops) n F Hs V r0 w0 ds D r a w) (x : XI ops n F Hs D r w) {j : Nat} (hj : j < n) {o : Oper} (ho : ops[j]? = some o) (h1 : isIns o.op = false) (h2 : isMk o.op = false)
    (b : Behind n Hs r0 w0 D j r r' w w') (hk : ∀ b, b < w.heap.size → (∀ i t o, r i = some t → t.blk = b → contD n Hs D i = some o → o.ro = true) → w'.heap[b]? = w.heap[b]?) : XI ops n F Hs (With D j) r' w' := by
  have old : ∀ i, Hidx ops Hs i → ∀ t, r' i = some t → r i = some t := by
    intro i hi t ht
    cases hr : r i with
    | some t' => have := b.le i t' hr; rw [ht] at this; rw [this]
    | none =>
      obtain ⟨k, ok, hk1, hk2, hk3, rfl, hk5⟩ := Hidx.lt hcall hrun wf0 hn free hok hi
      obtain ⟨h3, h4⟩ := b.dom _ t ht hr
      have := same_interval hcall hrun hj hk1 h3 h4 (Nat.le_refl _) hk5
      subst this
      rw [hk2] at ho
      cases ho
      rw [h2] at hk3; cases hk3
  have hins : ∀ q ∈ insL ops F, q.1 ≠ j := by
    intro q hq e
    obtain ⟨oq, h3, h4⟩ := mem_insL.1 hq
    rw [e, ho] at h3
    cases h3
    unfold insV at h4
    unfold isIns at h1
    split at h4
    · rename_i hop; rw [hop] at h1; cases h1
    · cases h4
  refine ⟨fun i hi t ht => ?_, fun i hi t ht i2 t2 o2 g1 g2 g3 => ?_, fun i i2 hi hi2 t t2 g1 g2 g3 => x.apart i i2 hi hi2 t t2 (old i hi t g1) (old i2 hi2 t2 g2) g3, fun q hq hD => ?_, fun k ok h3 h4 hD => ?_⟩
  · have hr := old i hi t ht
    obtain ⟨es, clk, q1, q2, q3, q4⟩ := x.own i hi t hr
    refine ⟨es, clk, q1.move b.le (hk _ (inv.bound i t hr) fun i2 t2 o2 g1 g2 g3 => (x.alone i hi t hr i2 t2 o2 g1 g2 g3).elim), ?_, q3, q4⟩
    rw [insD_same (D := D) fun q hq _ => ⟨fun h => h.resolve_right (hins q hq), .inl⟩]
    exact q2
  · have hr := old i hi t ht
    rcases b.alias i2 t2 o2 g1 g3 with h | ⟨k, tk, ok, k1, k2, k3⟩
    · have := inv.bound i t hr; omega
    · exact x.alone i hi t hr k tk ok k1 (k2.trans g2) k3
  · obtain ⟨t, h⟩ := x.seen q hq (hD.resolve_right (hins q hq))
    exact ⟨t, b.le _ _ h⟩
  · rcases hD with hD | rfl
    · obtain ⟨t, h⟩ := x.made k ok h3 h4 hD
      exact ⟨t, b.le _ _ h⟩
    · rw [ho] at h3; cases h3; rw [h2] at h4; cases h4

theorem step_mk {D : Nat → Prop} {r : Ren} {a : Act} {w : World} (hok : InsOk P ops F Hs) (inv : Inv P (gho ops) n F Hs V r0 w0 ds D r a w) (x : XI ops n F Hs D r w) {j : Nat} (hj : j < n) {o : Oper} (ho : ops[j]? = some o) (hm : isMk o.op = true) (turn : Turn P (gho ops) D j) (hDj : ¬ D j)
    (Q : Exit → Act → World → Prop) (K : Act → World → Prop) (hK : ∀ r' a' w', Inv P (gho ops) n F Hs V r0 w0 ds (With D j) r' a' w' → XI ops n F Hs (With D j) r' w' → K a' w') : wpOp P ops Q j K a w := by
  obtain ⟨hV, hH⟩ := mk_step hcall hrun wf0 hn free hj ho hm hok
  have hg := hok.make j o ho hm
  have hrn := free_at hcall hrun wf0 hn free inv hj hDj
  have hlt := mk_range hcall hrun wf0 hn free hj ho hm hok
  have hnew : r (Hs j).next = none := hrn _ (Nat.le_refl _) hlt
  let w' : World := w.alloc (.map #[] 0)
  have hb : Behind n Hs r0 w0 D j r (r.put (Hs j).next ⟨w.heap.size, 0, 0⟩) w w' := behind_alloc hcall hrun wf0 free inv hj hDj (row := 0) hH (World.size_alloc ..) ⟨rfl, rfl, rfl, fun _ => Nat.le_refl _⟩ (fun b hb => alloc_old hb) fun x e => by cases e
  have hgo : (gho ops)[j]? = some (ghoO o) := by rw [gho_get, ho]; rfl
  have hvr : VR (r.put (Hs j).next ⟨w.heap.size, 0, 0⟩) (V j) (.map (some w.heap.size)) := by
    rw [hV]
    exact .map (t := ⟨w.heap.size, 0, 0⟩) (by simp [Ren.put])
  have inv' := inv_behind hrun hn inv hj hgo turn hDj hb hvr
  have hrun1 : (execOp a.eval o).run P w = .ok (.value (.map (some w.heap.size))) w' := by
    unfold isMk at hm
    split at hm
    · rename_i t hop
      simp only [execOp, hop, Option.map_none, Instr.makeMap, Sem.run_bind, Sem.run_pure, run_newObj, Result.andThen_ok, World.alloc_eq]
      rfl
    · cases hm
  unfold wpOp
  simp only [ho]
  have hw : Region.wanted o (yielded ops a.tmps) = true := by unfold Region.wanted; rw [hg]
  rw [hw]
  simp only [if_true]
  refine .inl ?_
  unfold Oper.wp
  rw [hrun1, Oper.upon_value]
  refine hK _ _ w' inv' ?_
  have hput : ∀ {i t}, (r.put (Hs j).next ⟨w.heap.size, 0, 0⟩) i = some t → (i = (Hs j).next ∧ t = ⟨w.heap.size, 0, 0⟩) ∨ (i ≠ (Hs j).next ∧ r i = some t) := by
    intro i t h
    unfold Ren.put at h
    split at h
    · rename_i e; cases h; exact .inl ⟨e, rfl⟩
    · rename_i e; exact .inr ⟨e, h⟩
  have hcn : contD n Hs (With D j) (Hs j).next = none := cont_alloc hcall hrun wf0 hj hH fun m hm' hD hjm ht => by
    have hmono := Hs_mono hcall hrun (show j + 1 ≤ m from hjm) (by omega : m ≤ n)
    obtain ⟨t, h⟩ := inv.touch m hm' hD _ (by omega) ht
    rw [hnew] at h; cases h
  have hcs : ∀ {i}, i ≠ (Hs j).next → contD n Hs (With D j) i = contD n Hs D i := fun hi => cont_same (by unfold Tc; rw [hH, get_newO hi]; simp)
  have hins : ∀ q ∈ insL ops F, q.1 ≠ j := by
    intro q hq e
    obtain ⟨oq, h3, h4⟩ := mem_insL.1 hq
    rw [e, ho] at h3
    cases h3
    unfold insV at h4
    unfold isMk at hm
    split at h4
    · rename_i hop; rw [hop] at hm; cases hm
    · cases h4
  refine ⟨fun i hi t ht => ?_, fun i hi t ht i2 t2 o2 g1 g2 g3 => ?_, fun i i2 hi hi2 t t2 g1 g2 g3 => ?_, fun q hq hD => ?_, fun k ok h3 h4 hD => ?_⟩
  · rw [insD_same (D := D) fun q hq _ => ⟨fun h => h.resolve_right (hins q hq), .inl⟩]
    rcases hput ht with ⟨rfl, rfl⟩ | ⟨hne, hr⟩
    · refine ⟨[], 0, ⟨#[], alloc_new w _, ⟨[], .nil, rfl, fun i x e hx => by simp at hx⟩, .nil⟩, ?_, List.nodup_nil, fun e he => by cases he⟩
      have : insD ops F D (Hs j).next = [] := by
        unfold insD
        rw [List.map_eq_nil_iff, List.filter_eq_nil_iff]
        intro q hq h
        simp only [decide_eq_true_eq] at h
        obtain ⟨t, h5⟩ := x.seen q hq h.1
        rw [h.2, hnew] at h5; cases h5
      rw [this]
      exact .nil
    · obtain ⟨es, clk, q1, q2⟩ := x.own i hi t hr
      exact ⟨es, clk, q1.move hb.le (alloc_old (inv.bound i t hr)), q2⟩
  · rcases hput ht with ⟨rfl, rfl⟩ | ⟨hne, hr⟩
    · rcases hput g1 with ⟨rfl, rfl⟩ | ⟨hne2, hr2⟩
      · rw [hcn] at g3; cases g3
      · have := inv.bound i2 t2 hr2
        simp only at g2; omega
    · rcases hput g1 with ⟨rfl, rfl⟩ | ⟨hne2, hr2⟩
      · rw [hcn] at g3; cases g3
      · rw [hcs hne2] at g3
        exact x.alone i hi t hr i2 t2 o2 hr2 g2 g3
  · rcases hput g1 with ⟨rfl, rfl⟩ | ⟨hne, hr⟩ <;> rcases hput g2 with ⟨rfl, rfl⟩ | ⟨hne2, hr2⟩
    · rfl
    · have := inv.bound i2 t2 hr2
      simp only at g3; omega
    · have := inv.bound i t hr
      simp only at g3; omega
    · exact x.apart i i2 hi hi2 t t2 hr hr2 g3
  · obtain ⟨t, h⟩ := x.seen q hq (hD.resolve_right (hins q hq))
    exact ⟨t, hb.le _ _ h⟩
  · rcases hD with hD | rfl
    · obtain ⟨t, h⟩ := x.made k ok h3 h4 hD
      exact ⟨t, hb.le _ _ h⟩
    · exact ⟨⟨w.heap.size, 0, 0⟩, by simp [Ren.put]⟩


theorem step_ins {D : Nat → Prop} {r : Ren} {a : Act} {w : World} (hok : InsOk P ops F Hs) (inv : Inv P (gho ops) n F Hs V r0 w0 ds D r a w) (x : XI ops n F Hs D r w) {j : Nat} (hj : j < n) {o : Oper} (ho : ops[j]? = some o) (hi : isIns o.op = true) (turn : Turn P (gho ops) D j) (hDj : ¬ D j)
    (Q : Exit → Act → World → Prop) (K : Act → World → Prop) (hK : ∀ r' a' w', Inv P (gho ops) n F Hs V r0 w0 ds (With D j) r' a' w' → XI ops n F Hs (With D j) r' w' → K a' w') : wpOp P ops Q j K a w := by
  obtain ⟨tt, m, k, v, hop⟩ : ∃ tt m k v, o.op = .insert tt m k v := by
    unfold isIns at hi
    split at hi
    · rename_i a b c d h; exact ⟨a, b, c, d, h⟩
    · cases hi
  obtain ⟨hg, hd, ⟨kt, e, kd, hu, hkd, hkk⟩, i, hm, hix⟩ := hok.ins j o tt m k v ho hop
  have hgo : (gho ops)[j]? = some (ghoO o) := by rw [gho_get, ho]; rfl
  have hgop : (ghoO o).op = .makeFunc (.func 0) #[m, k, v] #[] := by unfold ghoO; rw [hop]; rfl
  have hρ := operands_at (Hs := Hs) hrun hn inv hj hgo turn hDj
  have hop3 : ∀ y ∈ (ghoO o).op.operands, restrict (gho ops) (ghoO o) (F j) y = opd (F j) y := by
    intro y hy
    cases y with
    | tmp t =>
      have ht : t ∈ (ghoO o).looksAt (gho ops) := List.mem_append_left _ (List.mem_filterMap.2 ⟨.tmp t, by simpa using hy, rfl⟩)
      simp [restrict, ht, opd]
    | _ => rfl
  have hvm : VR r (opd (F j) m) (a.eval m) := by rw [← hop3 m (by rw [hgop]; simp [Op.operands])]; exact hρ m
  have hvk : VR r (opd (F j) k) (a.eval k) := by rw [← hop3 k (by rw [hgop]; simp [Op.operands])]; exact hρ k
  have hvv : VR r (opd (F j) v) (a.eval v) := by rw [← hop3 v (by rw [hgop]; simp [Op.operands])]; exact hρ v
  -- what it comes to for the others
  have hst : ∃ fv, V j = .func 0 [opd (F j) m, opd (F j) k, opd (F j) v] [] ∧ Hs (j + 1) = Hs j ∧ VR r (V j) fv := by
    obtain ⟨o', h1, h2, _⟩ := hrun.step j hj
    rw [hgo] at h1
    cases h1
    replace h2 := h2.resolve_right fun h => h.1
    unfold evStep evWanted at h2
    rw [show (ghoO o).guard = none from hg] at h2
    simp only [Option.bind_some, if_true, hgop] at h2
    unfold evOper at h2
    simp only [cls, evPure, Option.map_some, Option.some.injEq, Prod.mk.injEq] at h2
    refine ⟨.func (.func 0) #[a.eval m, a.eval k, a.eval v] #[], by rw [← h2.1]; rfl, h2.2.symm, ?_⟩
    rw [← h2.1]
    refine .func 0 _ _ _ _ (by simp) (by simp) (fun p y u hy hu => ?_) (fun p y u hy hu => by simp at hy)
    match p with
    | 0 => simp at hy hu; subst hy; subst hu; exact hvm
    | 1 => simp at hy hu; subst hy; subst hu; exact hvk
    | 2 => simp at hy hu; subst hy; subst hu; exact hvv
    | p + 3 => simp at hy
  obtain ⟨fv, _, hH, hVv⟩ := hst
  have hq : ((j, i, opd (F j) k, opd (F j) v) : Nat × Nat × AV × AV) ∈ insL ops F := mem_insL.2 ⟨o, ho, by unfold insV; rw [hop]; simp only [hm]⟩
  -- the map
  rw [hm] at hvm
  generalize hme : a.eval m = mv at hvm
  cases hvm with
  | map ht =>
  rename_i t
  obtain ⟨es, clk, hor, hperm, hnd, hborn⟩ := x.own i hix t ht
  let h1 : H := ⟨i + 1, fun y => if y = i then some (.map es clk) else none⟩
  have hg1 : h1.get i = some (.map es clk) := if_pos rfl
  have hg1' : ∀ y o, h1.get y = some o → y = i := fun y o h => by
    simp only [h1] at h
    split at h
    · assumption
    · cases h
  have hrel1 : Rel r h1 w := ⟨fun y o h => by rw [hg1' y o h]; exact Nat.lt_succ_self _, fun y ty o hr h => by
      obtain rfl := hg1' y o h
      rw [hg1] at h; cases h
      rw [ht] at hr; cases hr
      exact hor, fun y z ty tz oy oz _ _ h2 h3 _ => .inl ((hg1' y oy h2).trans (hg1' z oz h3).symm), inv.bound, inv.gl.mono inv.le⟩
  have hnot : ∀ e ∈ es, keyCmp (opd (F j) k) e.1 = some false := by
    intro e he
    have hmem : (e.1, e.2.1) ∈ insD ops F D i := hperm.mem_iff.1 (List.mem_map.2 ⟨e, he, rfl⟩)
    unfold insD at hmem
    obtain ⟨q, hq1, hq2⟩ := List.mem_map.1 hmem
    obtain ⟨hq3, hq4⟩ := List.mem_filter.1 hq1
    simp only [decide_eq_true_eq] at hq4
    have := hok.dist _ hq q hq3 (fun (e : j = q.1) => hDj (e ▸ hq4.1)) hq4.2.symm
    rw [hq2] at this
    exact this
  have hfind : evFind (opd (F j) k) es = some none := by
    unfold evFind
    rw [if_pos (List.all_eq_true.2 fun e he => by rw [hnot e he]; rfl)]
    congr 1
    rw [List.find?_eq_none]
    intro e he
    rw [hnot e he]; decide
  have hput : evMapPut (some i) (opd (F j) k) (opd (F j) v) h1 = some (h1.set i (.map (es ++ [(opd (F j) k, opd (F j) v, clk)]) (clk + 1))) := by
    unfold evMapPut evPutEs
    simp only [hg1, hfind, Option.map_some]
  obtain ⟨w', hrunw, p⟩ := evMapPut_sim (P := P) hrel1 hu hkd hkk hput (.map ht) hvk hvv
  have hsame : ∀ b, b < w.heap.size → b ≠ t.blk → w'.heap[b]? = w.heap[b]? := fun b hb hne => p.keep b hb fun y ty oy g1 g2 g3 => by
    obtain rfl := hg1' y oy g3
    rw [ht] at g1; cases g1
    exact absurd g2.symm hne
  have hor' : OR r w' t (.map (es ++ [(opd (F j) k, opd (F j) v, clk)]) (clk + 1)) := p.rel.obj i t _ ht (get_set_self _ _ _)
  have hri0 : r0 i = none := by
    cases hr0 : r0 i with
    | none => rfl
    | some t0 =>
      obtain ⟨k', ok', hk1, hk2, hk3, hk4, hk5⟩ := Hidx.lt hcall hrun wf0 hn free hok hix
      have q1 := Hs_mono hcall hrun (Nat.zero_le k') (by omega : k' ≤ n)
      have q2 := Hs_mono hcall hrun (show k' + 1 ≤ n from hk1) (Nat.le_refl _)
      rw [free i (by omega) (by omega)] at hr0; cases hr0
  have hcs : ∀ {y}, contD n Hs (With D j) y = contD n Hs D y := cont_same (by unfold Tc; rw [hH]; simp)
  have hb : Behind n Hs r0 w0 D j r r w w' := {
    le := r.le_refl
    alias := fun y ty oy g1 g2 => .inr ⟨y, ty, oy, g1, rfl, by rwa [hcs] at g2⟩
    dom := fun y ty g1 g2 => by rw [g1] at g2; cases g2
    obj := fun y ty oy g1 g2 => by
      rw [hcs] at g2
      refine (inv.obj y ty oy g1 g2).move r.le_refl (hsame _ (inv.bound y ty g1) fun e => ?_)
      exact (x.alone i hix t ht y ty oy g1 e g2).elim
    inj := fun y z ty tz oy oz g1 g2 g3 g4 => by
      rw [hcs] at g3 g4
      exact inv.inj y z ty tz oy oz g1 g2 g3 g4
    bound := fun y ty g1 => Nat.lt_of_lt_of_le (inv.bound y ty g1) p.size
    keep := fun b hb hk => by
      rw [hsame b (Nat.lt_of_lt_of_le hb inv.size) fun e => ?_]
      · exact inv.keep b hb hk
      · rcases inv.fresh i t hri0 ht with hf | ⟨z, tz, oz, q1, q2, q3, q4⟩
        · omega
        · have := hk z tz oz q1 (q2.trans e.symm) q3
          rw [this] at q4; cases q4
    size := Nat.le_trans inv.size p.size
    env := inv.env.trans p.env
    fresh := inv.fresh
    touch := fun y _ h => absurd (by rw [hH]) h
    ro := fun y oy _ h => ⟨oy, by rw [← hH]; exact h, rfl⟩ }
  have inv' := inv_behind hrun hn inv hj hgo turn hDj hb hVv
  have hput0 : a.put (ghoO o).dst fv = a := by
    rw [show (ghoO o).dst = none from hd]; rfl
  rw [hput0] at inv'
  unfold wpOp
  simp only [ho]
  have hw : Region.wanted o (yielded ops a.tmps) = true := by unfold Region.wanted; rw [hg]
  rw [hw]
  simp only [if_true]
  refine .inl ?_
  have hr : (execOp a.eval o).run P w = .ok .skip w' := by
    rw [← hme] at hrunw
    simp [execOp, hop, hrunw]
  unfold Oper.wp
  rw [hr, Oper.upon_skip, hd]
  have hput1 : a.put none undef = a := rfl
  rw [hput1]
  refine hK r a w' inv' ⟨fun i2 hi2 t2 ht2 => ?_, fun i2 hi2 t2 ht2 y ty oy g1 g2 g3 => x.alone i2 hi2 t2 ht2 y ty oy g1 g2 (by rwa [hcs] at g3), x.apart, fun q hq2 hD => ?_, fun z oz h3 h4 hD => ?_⟩
  · by_cases e : i2 = i
    · subst e
      rw [ht] at ht2
      cases ht2
      refine ⟨_, _, hor', ?_, ?_, ?_⟩
      · classical
        have h5 := filter_more (p := fun q : Nat × Nat × AV × AV => D q.1 ∧ q.2.1 = i2) (p' := fun q => With D j q.1 ∧ q.2.1 = i2) hq ((List.pairwise_map.1 insL_nodup).imp fun h e => h (congrArg Prod.fst e)) (fun h => hDj h.1) ⟨.inr rfl, rfl⟩ (fun q hq2 hne => ?_)
        · have h6 := h5.map (fun q : Nat × Nat × AV × AV => q.2.2)
          rw [List.map_append] at h6
          unfold insD
          refine List.Perm.trans ?_ h6.symm
          rw [List.map_append]
          exact hperm.append_right _
        · refine ⟨fun ⟨h6, h7⟩ => ⟨h6.resolve_right fun e => hne ?_, h7⟩, fun ⟨h6, h7⟩ => ⟨.inl h6, h7⟩⟩
          obtain ⟨oq, g1, g2⟩ := mem_insL.1 hq2
          obtain ⟨oq', g3, g4⟩ := mem_insL.1 hq
          rw [e] at g1 g2
          simp only at g3 g4
          rw [g1] at g3; cases g3
          rw [g2] at g4
          exact Prod.ext e (Option.some.inj g4)
      · rw [List.map_append, List.nodup_append]
        refine ⟨hnd, by simp, fun a ha b hb' e => ?_⟩
        obtain ⟨y, hy, rfl⟩ := List.mem_map.1 ha
        simp at hb'
        have := hborn y hy
        omega
      · intro y hy
        rcases List.mem_append.1 hy with hy | hy
        · have := hborn y hy; omega
        · simp at hy; subst hy; exact Nat.lt_succ_self _
    · obtain ⟨es2, clk2, q1, q2, q3⟩ := x.own i2 hi2 t2 ht2
      refine ⟨es2, clk2, q1.move r.le_refl (hsame _ (inv.bound i2 t2 ht2) fun e2 => e (x.apart i2 i hi2 hix t2 t ht2 ht e2)), ?_, q3⟩
      have hdiff : ∀ q ∈ insL ops F, q.2.1 = i2 → q.1 ≠ j := by
        intro q hq2 hqi e2
        obtain ⟨oq, g1, g2⟩ := mem_insL.1 hq2
        rw [e2, ho] at g1; cases g1
        rw [e2] at g2
        unfold insV at g2
        rw [hop] at g2
        simp only [hm, Option.some.injEq] at g2
        exact e (by rw [← hqi, ← g2])
      rw [insD_same (D := D) fun q hq2 hqi => ⟨fun h => h.resolve_right (hdiff q hq2 hqi), .inl⟩]
      exact q2
  · rcases hD with hD | e2
    · exact x.seen q hq2 hD
    · obtain ⟨oq, g1, g2⟩ := mem_insL.1 hq2
      rw [e2, ho] at g1; cases g1
      rw [e2] at g2
      unfold insV at g2
      rw [hop] at g2
      simp only [hm, Option.some.injEq] at g2
      exact ⟨t, by rw [← g2]; exact ht⟩
  · rcases hD with hD | rfl
    · exact x.made z oz h3 h4 hD
    · rw [ho] at h3; cases h3
      unfold isMk at h4; rw [hop] at h4; cases h4

end

/-- **A drawn region that lays entries into its own maps: whatever order is drawn.** -/
theorem region_ins {P : Program} {call : CallFn} (hcall : call.Sound P) {ops : Array Oper} {F : Nat → List AV} {Hs : Nat → H} {V : Nat → AV} {r0 : Ren} {w0 : World} {ds : List Deferred}
    (hokr : okRegion P (gho ops) = true) (hrun : Run (fun _ => False) P call (gho ops) (gho ops).size F Hs V) (hok : InsOk P ops F Hs) (wf0 : (Hs 0).WF) (free : ∀ i, (Hs 0).next ≤ i → i < (Hs (gho ops).size).next → r0 i = none) {Q : Exit → Act → World → Prop}
    (hQ : ∀ r a w, FR r (F (gho ops).size) a → a.defers = ds → Post r0 (Hs 0) w0 r (Hs (gho ops).size) w → XI ops (gho ops).size F Hs (fun m => m < (gho ops).size) r w → (∀ i, contD (gho ops).size Hs (fun m => m < (gho ops).size) i = (Hs (gho ops).size).get i) → Q .normal a w) :
    ∀ (fuel : Nat) (listed : Array Bool) (r : Ren) (a : Act) (w : World), listed.size = ops.size → (∀ m o, ops[m]? = some o → listed.getD m false = true → ∀ e ∈ o.after, Region.binds .any e = true → listed.getD e.on false = true) →
      ((List.range ops.size).filter fun i => !listed.getD i true).length ≤ fuel → (∀ D : Nat → Prop, (∀ m, D m ↔ listed.getD m false = true) → Inv P (gho ops) (gho ops).size F Hs V r0 w0 ds D r a w ∧ XI ops (gho ops).size F Hs D r w) → wpAny P .any ops Q fuel listed a w := by
  have hokr' := hokr
  simp only [okRegion, Bool.and_eq_true] at hokr'
  obtain ⟨⟨hM, hH⟩, hP⟩ := hokr'
  have hgs := gho_size ops
  have hgo : ∀ {j : Nat} {o : Oper}, ops[j]? = some o → (gho ops)[j]? = some (ghoO o) := fun h => by rw [gho_get, h]; rfl
  have hog : ∀ {j : Nat} {o : Oper}, (gho ops)[j]? = some o → ∃ o', ops[j]? = some o' ∧ o = ghoO o' := fun h => by
    rw [gho_get] at h
    obtain ⟨o', h1, rfl⟩ := Option.map_eq_some_iff.1 h
    exact ⟨o', h1, rfl⟩
  have done : ∀ (listed : Array Bool) (r : Ren) (a : Act) (w : World), listed.size = ops.size → (∀ i, i < ops.size → listed.getD i true = true) →
      (∀ D : Nat → Prop, (∀ m, D m ↔ listed.getD m false = true) → Inv P (gho ops) (gho ops).size F Hs V r0 w0 ds D r a w ∧ XI ops (gho ops).size F Hs D r w) → Q .normal a w := by
    intro listed r a w hsz hall hinv
    have hD : ∀ m, m < (gho ops).size ↔ listed.getD m false = true := fun m => by
      rw [hgs]
      constructor
      · intro hm
        have := hall m hm
        simp [hsz, hm] at this ⊢; exact this
      · intro h
        rcases Nat.lt_or_ge m ops.size with hm | hm
        · exact hm
        · rw [Array.getD_eq_getD_getElem?, Array.getElem?_eq_none (by omega)] at h; cases h
    obtain ⟨inv, x⟩ := hinv _ hD
    obtain ⟨h1, h2⟩ := inv_end hcall hrun wf0 rfl free inv (fun m hm => hm) inv.sz.symm
    exact hQ r a w h1 inv.defers h2 x fun i => contD_agree (Nat.le_refl _) fun m hm _ => Iff.rfl
  have minimal : ∀ (listed : Array Bool), listed.size = ops.size → Region.ready .any ops listed = [] → ∀ i, i < ops.size → listed.getD i true = true := by
    intro listed hsz hr i
    induction i using Nat.strongRecOn with
    | _ i ih =>
      intro hi
      cases hl : listed.getD i true with
      | true => rfl
      | false =>
        have ho : ops[i]? = some ops[i] := Array.getElem?_eq_getElem hi
        have : i ∈ Region.ready .any ops listed := mem_ready.2 ⟨hl, _, ho, fun e he hb => by
          have h1 := (okM_spec hM (hgo ho)).1 e he hb
          have h2 := ih e.on h1 (by omega)
          have h3 : e.on < listed.size := by omega
          simp [h3] at h2 ⊢; exact h2⟩
        rw [hr] at this; cases this
  intro fuel
  induction fuel with
  | zero =>
    intro listed r a w hsz hcl hfu hinv
    have hall : ∀ i, i < ops.size → listed.getD i true = true := by
      intro i hi
      cases hl : listed.getD i true with
      | true => rfl
      | false =>
        have hm : i ∈ (List.range ops.size).filter fun i => !listed.getD i true := List.mem_filter.2 ⟨List.mem_range.2 hi, by rw [hl]; rfl⟩
        have : (List.range ops.size).filter (fun i => !listed.getD i true) = [] := List.eq_nil_of_length_eq_zero (by omega)
        rw [this] at hm; cases hm
    refine ⟨?_, done listed r a w hsz hall hinv⟩
    cases hr : Region.ready .any ops listed with
    | nil => rfl
    | cons x xs =>
      have hx : x ∈ Region.ready .any ops listed := by rw [hr]; simp
      obtain ⟨h1, o, h2, _⟩ := mem_ready.1 hx
      rw [hall x (Array.getElem?_eq_some_iff.1 h2).1] at h1; cases h1
  | succ fuel ih =>
    intro listed r a w hsz hcl hfu hinv
    refine ⟨fun hr => done listed r a w hsz (minimal listed hsz hr) hinv, fun j hj => ?_⟩
    obtain ⟨hjl, oj, hoj, hready⟩ := mem_ready.1 hj
    have hjs := (Array.getElem?_eq_some_iff.1 hoj).1
    obtain ⟨inv, x⟩ := hinv (fun m => listed.getD m false = true) fun m => Iff.rfl
    have hDj : ¬ (listed.getD j false = true) := fun h => by
      have h3 : j < listed.size := by omega
      simp [h3] at h hjl; rw [h] at hjl; cases hjl
    have turn := turn_of (P := P) hM hH hP (D := fun m => listed.getD m false = true) (fun m o ho hm e he hb => by
      obtain ⟨o', h1, rfl⟩ := hog ho
      exact hcl m o' h1 hm e he hb) (hgo hoj) hDj hready
    have next : ∀ r' a' w', Inv P (gho ops) (gho ops).size F Hs V r0 w0 ds (With (fun m => listed.getD m false = true) j) r' a' w' → XI ops (gho ops).size F Hs (With (fun m => listed.getD m false = true) j) r' w' → wpAny P .any ops Q fuel (listed.setIfInBounds j true) a' w' := by
      intro r' a' w' inv' x'
      refine ih _ r' a' w' (by simp [hsz]) ?_ ?_ ?_
      · intro m o ho hm e he hb
        by_cases hmj : j = m
        · subst hmj
          rw [hoj] at ho
          cases ho
          exact getD_set_true (hready e he hb)
        · rw [getD_set_ne false hmj] at hm
          exact getD_set_true (hcl m o ho hm e he hb)
      · have := filter_lt (l := List.range ops.size) (p := fun i => !listed.getD i true) (p' := fun i => !(listed.setIfInBounds j true).getD i true) (x := j) (fun y hy => by
            by_cases hyj : j = y
            · subst hyj; rw [hjl]; rfl
            · rw [getD_set_ne true hyj] at hy; exact hy) (List.mem_range.2 hjs) (by rw [hjl]; rfl) (by
            have h3 : j < listed.size := by omega
            simp [h3])
        omega
      · intro D hD
        have hDe : D = With (fun m => listed.getD m false = true) j := by
          funext m
          refine propext ((hD m).trans ?_)
          unfold With
          by_cases hmj : j = m
          · subst hmj
            have h3 : j < listed.size := by omega
            simp [h3]
          · rw [getD_set_ne false hmj]
            exact ⟨.inl, fun h => h.resolve_right fun e => hmj e.symm⟩
        rw [hDe]; exact ⟨inv', x'⟩
    have hjg : j < (gho ops).size := by omega
    cases h1 : isIns oj.op with
    | true => exact step_ins hcall hrun wf0 rfl free hok inv x hjg hoj h1 turn hDj Q _ next
    | false =>
      cases h2 : isMk oj.op with
      | true => exact step_mk hcall hrun wf0 rfl free hok inv x hjg hoj h2 turn hDj Q _ next
      | false =>
        have hs := gho_same (o := oj) (gho_other h1 h2)
        have hg2 := hgo hoj
        rw [hs] at hg2
        have hw := inv_step hcall hrun wf0 rfl free inv hjg hg2 turn hDj (fun h => h) Q (wpAny P .any ops Q fuel (listed.setIfInBounds j true)) fun r' a' w' inv' b _ hk => next r' a' w' inv' (XI.other hcall hrun wf0 rfl free hok inv x hjg hoj h1 h2 b hk)
        unfold wpOp at hw ⊢
        rw [hg2, gho_yield] at hw
        rw [hoj]
        exact hw

/-! ### the same in a function's text -/

def laterB (ops : Array Oper) (j : Nat) (x : Operand) : Bool :=
  match x with
  | .tmp t => (List.range ops.size).all fun p => decide (p < j) || (match ops[p]? with | some o => (match o.dst with | some d => !(Nat.beq d t) | none => true) | none => true)
  | _ => true
def okIns1 (P : Program) (ops : Array Oper) (j : Nat) (o : Oper) : Bool :=
  match o.op with
  | .makeMap _ none => o.guard.isNone && (match o.dst with | some d => laterB ops (j + 1) (.tmp d) | none => false)
  | .insert t m k v => o.guard.isNone && o.dst.isNone && (match P.underlying t with | some (.map kt _) => (match P.underlying kt, k with | some kd, .const c => keyKind kd (ofValue c) | _, _ => false) | _ => false) && laterB ops j m && laterB ops j v
  | _ => true
def okIns (P : Program) (ops : Array Oper) : Bool := (List.range ops.size).all fun j => match ops[j]? with | some o => okIns1 P ops j o | none => true

theorem laterB_spec {ops : Array Oper} {j t : Nat} (h : laterB ops j (.tmp t) = true) {p : Nat} {o : Oper} (hp : j ≤ p) (ho : ops[p]? = some o) : o.dst ≠ some t := by
  have := List.all_eq_true.1 h p (List.mem_range.2 (Array.getElem?_eq_some_iff.1 ho).1)
  rw [ho] at this
  simp only [Bool.or_eq_true, decide_eq_true_eq] at this
  rcases this with h1 | h1
  · omega
  · intro e
    rw [e] at h1
    simp at h1

section
variable {P : Program} {call : CallFn} {ops : Array Oper} {n : Nat} {F : Nat → List AV} {Hs : Nat → H} {V : Nat → AV}

theorem F_later (hrun : Run (fun _ => False) P call (gho ops) n F Hs V) {j t : Nat} (h : laterB ops j (.tmp t) = true) : ∀ k, j + k ≤ n → (F (j + k)).getD t .junk = (F j).getD t .junk
  | 0, _ => rfl
  | k + 1, hk => by
    obtain ⟨o, h1, _, h3⟩ := hrun.step (j + k) (by omega)
    rw [gho_get] at h1
    obtain ⟨o', h4, rfl⟩ := Option.map_eq_some_iff.1 h1
    have hne := laterB_spec h (by omega : j ≤ j + k) h4
    rw [show j + (k + 1) = j + k + 1 by omega, h3, ← F_later hrun h k (by omega)]
    have hd : (ghoO o').dst = o'.dst := rfl
    rw [hd]
    cases hq : o'.dst with
    | none => rfl
    | some d =>
      simp only [putD]
      rw [List.getD_eq_getElem?_getD, List.getD_eq_getElem?_getD, List.getElem?_set_ne (fun e => hne (by rw [hq, e]))]
theorem opd_later (hrun : Run (fun _ => False) P call (gho ops) n F Hs V) {j : Nat} (hj : j ≤ n) {x : Operand} (h : laterB ops j x = true) : opd (F n) x = opd (F j) x := by
  cases x with
  | tmp t =>
    have := F_later hrun h (n - j) (by omega)
    rw [show j + (n - j) = n by omega] at this
    exact this
  | _ => rfl
end

/-- the maps are told again: in whatever order they were filled -/
def RestR (hid : List Nat) (ins : List (Nat × AV × AV)) (h h' : H) : Prop :=
  h'.next = h.next ∧ (∀ i, i ∉ hid → h'.get i = h.get i) ∧ ∀ i ∈ hid, ∃ es clk, h'.get i = some (.map es clk) ∧ (es.map fun e => (e.1, e.2.1)).Perm ((ins.filter fun q => q.1 == i).map (·.2)) ∧ (es.map (·.2.2)).Nodup ∧ ∀ e ∈ es, e.2.2 < clk
open Classical in
noncomputable def restK (hid : List Nat) (ins : List (Nat × AV × AV)) (h : H) (f : H → Option Unit) : Option Unit :=
  if ((∀ q ∈ ins, q.1 ∈ hid) ∧ (∀ i ∈ hid, i < h.next) ∧ ins.Pairwise fun a b => a.1 = b.1 → keyCmp a.2.1 b.2.1 = some false) ∧ ∀ h', RestR hid ins h h' → f h' = some () then some () else none
theorem restK_some {hid : List Nat} {ins : List (Nat × AV × AV)} {h : H} {f : H → Option Unit} (e : restK hid ins h f = some ()) : ((∀ q ∈ ins, q.1 ∈ hid) ∧ (∀ i ∈ hid, i < h.next) ∧ ins.Pairwise fun a b => a.1 = b.1 → keyCmp a.2.1 b.2.1 = some false) ∧ ∀ h', RestR hid ins h h' → f h' = some () := by
  unfold restK at e
  split at e
  · assumption
  · cases e

def gatherK (N : Nat) : List Oper → KF → (List Nat → List (Nat × AV × AV) → Option Unit) → Option Unit
  | [], _, f => f [] []
  | o :: l, A, f =>
    match o.op with
    | .makeMap _ none => (match o.dst with | some d => (match kopd N A (.tmp d) with | .map (some i) => gatherK N l A fun hs is => f (i :: hs) is | _ => none) | none => none)
    | .insert _ m k v => (match kopd N A m with | .map (some i) => gatherK N l A fun hs is => f hs ((i, kopd N A k, kopd N A v) :: is) | _ => none)
    | _ => gatherK N l A f

theorem gatherK_some {N : Nat} : ∀ {l : List Oper} {A : KF} {f : List Nat → List (Nat × AV × AV) → Option Unit}, gatherK N l A f = some () →
    ∃ hs is, f hs is = some () ∧ (∀ i, i ∈ hs ↔ ∃ o ∈ l, isMk o.op = true ∧ ∃ d, o.dst = some d ∧ kopd N A (.tmp d) = .map (some i)) ∧ (∀ o ∈ l, isMk o.op = true → ∃ d i, o.dst = some d ∧ kopd N A (.tmp d) = .map (some i)) ∧
      (∀ o ∈ l, isIns o.op = true → (insV (kopd N A) o).isSome = true) ∧ is = l.filterMap (insV (kopd N A))
  | [], A, f, e => ⟨[], [], e, fun i => by simp, fun o h => absurd h (by simp), fun o h => absurd h (by simp), rfl⟩
  | o :: l, A, f, e => by
    unfold gatherK at e
    split at e
    · rename_i t hop
      split at e
      · rename_i d hd
        split at e
        · rename_i i hi
          obtain ⟨hs, is, h1, h2, h3, h4, h5⟩ := gatherK_some e
          have hm : isMk o.op = true := by rw [hop]; rfl
          refine ⟨i :: hs, is, h1, fun y => ?_, fun q hq hqm => ?_, fun q hq hqi => ?_, ?_⟩
          · constructor
            · intro hy
              rcases List.mem_cons.1 hy with rfl | hy
              · exact ⟨o, List.mem_cons_self, hm, d, hd, hi⟩
              · obtain ⟨q, g1, g2⟩ := (h2 y).1 hy
                exact ⟨q, List.mem_cons_of_mem _ g1, g2⟩
            · rintro ⟨q, g1, g2, d', g3, g4⟩
              rcases List.mem_cons.1 g1 with rfl | g1
              · rw [hd] at g3; cases g3
                rw [hi] at g4; cases g4
                exact List.mem_cons_self
              · exact List.mem_cons_of_mem _ ((h2 y).2 ⟨q, g1, g2, d', g3, g4⟩)
          · rcases List.mem_cons.1 hq with rfl | hq
            · exact ⟨d, i, hd, hi⟩
            · exact h3 q hq hqm
          · rcases List.mem_cons.1 hq with rfl | hq
            · rw [hop] at hqi; cases hqi
            · exact h4 q hq hqi
          · rw [List.filterMap_cons]
            have : insV (kopd N A) o = none := by unfold insV; rw [hop]
            rw [this]; exact h5
        · cases e
      · cases e
    · rename_i t m k v hop
      split at e
      · rename_i i hi
        obtain ⟨hs, is, h1, h2, h3, h4, h5⟩ := gatherK_some e
        have hv : insV (kopd N A) o = some (i, kopd N A k, kopd N A v) := by unfold insV; rw [hop]; simp only [hi]
        have hnm : isMk o.op = false := by rw [hop]; rfl
        refine ⟨hs, _, h1, fun y => ?_, fun q hq hqm => ?_, fun q hq hqi => ?_, ?_⟩
        · rw [h2 y]
          constructor
          · rintro ⟨q, g1, g2⟩; exact ⟨q, List.mem_cons_of_mem _ g1, g2⟩
          · rintro ⟨q, g1, g2, g3⟩
            rcases List.mem_cons.1 g1 with rfl | g1
            · rw [hnm] at g2; cases g2
            · exact ⟨q, g1, g2, g3⟩
        · rcases List.mem_cons.1 hq with rfl | hq
          · rw [hnm] at hqm; cases hqm
          · exact h3 q hq hqm
        · rcases List.mem_cons.1 hq with rfl | hq
          · rw [hv]; rfl
          · exact h4 q hq hqi
        · rw [List.filterMap_cons, hv]; simp only; rw [← h5]
      · cases e
    · rename_i hn1 hn2
      obtain ⟨hs, is, h1, h2, h3, h4, h5⟩ := gatherK_some e
      have hnm : isMk o.op = false := by
        rw [← Bool.not_eq_true]
        intro h
        unfold isMk at h
        split at h
        · rename_i t hop; exact hn1 t hop
        · cases h
      have hni : isIns o.op = false := by
        rw [← Bool.not_eq_true]
        intro h
        unfold isIns at h
        split at h
        · rename_i a b c d hop; exact hn2 a b c d hop
        · cases h
      have hv : insV (kopd N A) o = none := by
        unfold insV
        split
        · rename_i a b c d hop; exact absurd hop (hn2 a b c d)
        · rfl
      refine ⟨hs, is, h1, fun y => ?_, fun q hq hqm => ?_, fun q hq hqi => ?_, ?_⟩
      · rw [h2 y]
        constructor
        · rintro ⟨q, g1, g2⟩; exact ⟨q, List.mem_cons_of_mem _ g1, g2⟩
        · rintro ⟨q, g1, g2, g3⟩
          rcases List.mem_cons.1 g1 with rfl | g1
          · rw [hnm] at g2; cases g2
          · exact ⟨q, g1, g2, g3⟩
      · rcases List.mem_cons.1 hq with rfl | hq
        · rw [hnm] at hqm; cases hqm
        · exact h3 q hq hqm
      · rcases List.mem_cons.1 hq with rfl | hq
        · rw [hni] at hqi; cases hqi
        · exact h4 q hq hqi
      · rw [List.filterMap_cons, hv]; exact h5

/-- such a region, with all inserts come up, as one step -/
theorem region_wpAnyI {P : Program} {call : CallFn} (hcall : call.Sound P) {ops : Array Oper} (hokr : okRegion P (gho ops) = true) (hoi : okIns P ops = true) {N : Nat} {A' : KF} {s s' : AState} (h : evOpsQ P call (gho ops) (gho ops).toList 0 s.1 s.2 noT [] = some s') (hA : AF N A' s'.1)
    {hid : List Nat} {ins : List (Nat × AV × AV)} (hhid : ∀ i, i ∈ hid ↔ ∃ o ∈ ops.toList, isMk o.op = true ∧ ∃ d, o.dst = some d ∧ kopd N A' (.tmp d) = .map (some i)) (hall : ∀ o ∈ ops.toList, isMk o.op = true → ∃ d i, o.dst = some d ∧ kopd N A' (.tmp d) = .map (some i))
    (hseen : ∀ o ∈ ops.toList, isIns o.op = true → (insV (kopd N A') o).isSome = true) (hins : ins = ops.toList.filterMap (insV (kopd N A'))) (hin : ∀ q ∈ ins, q.1 ∈ hid) (hpw : ins.Pairwise fun a b => a.1 = b.1 → keyCmp a.2.1 b.2.1 = some false)
    {r : Ren} {a : Act} {w : World} (hfr : FR r s.1 a) (hrel : Rel r s.2 w) (hfree : ∀ i, s.2.next ≤ i → i < s'.2.next → r i = none) {Q : Exit → Act → World → Prop}
    (hQ : ∀ r' a' w' h', FR r' s'.1 a' → a'.defers = a.defers → RestR hid ins s'.2 h' → Post r s.2 w r' h' w' → Q .normal a' w') :
    wpAny P .any ops Q ops.size (Array.replicate ops.size false) a w := by
  obtain ⟨F, Hs, V, e1, e2, e3, e4, e5, e6, e7⟩ := run_of_evOpsQ h (fun j _ => by simp)
  have hsz : (gho ops).toList.length = (gho ops).size := by simp
  rw [hsz] at e3 e4 e5 e6 e7
  have hrun : Run (fun _ => False) P call (gho ops) (gho ops).size F Hs V := ⟨fun k hk => by
      obtain ⟨o, g1, g2, g3⟩ := e5 k hk
      exact ⟨o, by simpa using g1, .inl g2, g3⟩, fun k hk hq j oj hj hoj hc hi b hb => (e6 k hk (by simpa using hq)).2 j oj hj (by simpa using hoj) hc (by simpa using hi) b hb, fun k hk _ hs => by
      obtain ⟨S, _, g1, g2⟩ := e7 k hk (by simpa using hs)
      exact ⟨S, fun m hm hq _ => g1 m hm (by simpa using hq), fun o ho => g2 o (by simpa using ho)⟩⟩
  have hgs := gho_size ops
  have hw : Post r s.2 w r s.2 w := Post.refl hrel
  have wf0 : (Hs 0).WF := by rw [e2]; exact hrel.wf
  have free : ∀ i, (Hs 0).next ≤ i → i < (Hs (gho ops).size).next → r i = none := by rw [e2, e4]; exact hfree
  have hopd : kopd N A' = opd (F (gho ops).size) := by rw [e3]; exact hA.opd.symm
  have hoi1 : ∀ {j : Nat} {o : Oper}, ops[j]? = some o → okIns1 P ops j o = true := fun {j o} ho => by
    have := List.all_eq_true.1 hoi j (List.mem_range.2 (Array.getElem?_eq_some_iff.1 ho).1)
    rw [ho] at this; exact this
  have hmem : ∀ {j : Nat} {o : Oper}, ops[j]? = some o → o ∈ ops.toList := fun ho => by
    rw [← Array.getElem?_toList] at ho; exact List.mem_of_getElem? ho
  have hlt : ∀ {j : Nat} {o : Oper}, ops[j]? = some o → j < (gho ops).size := fun ho => by rw [hgs]; exact (Array.getElem?_eq_some_iff.1 ho).1
  -- a map's index stays in its slot
  have hmkv : ∀ {j : Nat} {o : Oper}, ops[j]? = some o → isMk o.op = true → o.guard = none ∧ ∃ d, o.dst = some d ∧ kopd N A' (.tmp d) = .map (some (Hs j).next) := by
    intro j o ho hm
    have h1 := hoi1 ho
    obtain ⟨d, i, hd, hi⟩ := hall o (hmem ho) hm
    have hm' := hm
    unfold isMk at hm'
    split at hm'
    · rename_i t hop
      unfold okIns1 at h1
      rw [hop] at h1
      simp only [hd, Bool.and_eq_true, Option.isNone_iff_eq_none] at h1
      refine ⟨h1.1, d, hd, ?_⟩
      obtain ⟨hV, _⟩ := mk_step0 hcall hrun wf0 rfl free (hlt ho) ho hm h1.1
      have hst := F_later hrun h1.2 ((gho ops).size - (j + 1)) (by have := hlt ho; omega)
      rw [show j + 1 + ((gho ops).size - (j + 1)) = (gho ops).size by have := hlt ho; omega] at hst
      rw [hopd] at hi ⊢
      simp only [opd] at hi ⊢
      rw [hst] at hi ⊢
      obtain ⟨o', g1, _, g3⟩ := hrun.step j (hlt ho)
      rw [gho_get, ho] at g1; cases g1
      rw [g3, show (ghoO o).dst = some d from hd] at hi ⊢
      simp only [putD] at hi ⊢
      rw [List.getD_eq_getElem?_getD, List.getElem?_set] at hi ⊢
      rw [if_pos rfl] at hi ⊢
      split at hi
      · rename_i hl; rw [if_pos hl]; exact hV
      · simp at hi
    · cases hm'
  have hHidx : ∀ i, i ∈ hid ↔ Hidx ops Hs i := by
    intro i
    rw [hhid]
    constructor
    · rintro ⟨o, ho, hm, d, hd, hi⟩
      obtain ⟨j, hj⟩ := List.getElem?_of_mem ho
      rw [Array.getElem?_toList] at hj
      obtain ⟨_, d', hd', hi'⟩ := hmkv hj hm
      rw [hd] at hd'; cases hd'
      rw [hi] at hi'; cases hi'
      exact ⟨j, o, hj, hm, rfl⟩
    · rintro ⟨j, o, ho, hm, rfl⟩
      obtain ⟨_, d, hd, hi⟩ := hmkv ho hm
      exact ⟨o, hmem ho, hm, d, hd, hi⟩
  -- the inserts' operands stay in theirs
  have hiv : ∀ {j : Nat} {o : Oper}, ops[j]? = some o → insV (opd (F j)) o = insV (kopd N A') o := by
    intro j o ho
    have h1 := hoi1 ho
    unfold insV
    split
    · rename_i t m k v hop
      unfold okIns1 at h1
      rw [hop] at h1
      simp only [Bool.and_eq_true] at h1
      obtain ⟨⟨⟨⟨_, _⟩, hk⟩, hm⟩, hv⟩ := h1
      have hkc : opd (F j) k = opd (F (gho ops).size) k := by
        split at hk
        · split at hk
          · rfl
          · cases hk
        · cases hk
      rw [hopd, opd_later hrun (Nat.le_of_lt (hlt ho)) hm, opd_later hrun (Nat.le_of_lt (hlt ho)) hv, hkc]
    · rfl
  have hinsL : (insL ops F).map (·.2) = ins := by
    rw [hins]
    unfold insL
    rw [List.map_filterMap]
    have : ∀ (l : List Oper) (k : Nat), (∀ j o, l[j]? = some o → insV (opd (F (k + j))) o = insV (kopd N A') o) → ((l.zipIdx k).filterMap fun x => (((insV (opd (F x.2)) x.1).map fun q => (x.2, q)).map fun x => x.2)) = l.filterMap (insV (kopd N A')) := by
      intro l
      induction l with
      | nil => intro k _; rfl
      | cons o l ih =>
        intro k hl
        rw [List.zipIdx_cons, List.filterMap_cons, List.filterMap_cons]
        have h0 := hl 0 o rfl
        simp only [Nat.add_zero] at h0
        simp only [h0]
        have ih' := ih (k + 1) fun j o' hj => by
          have := hl (j + 1) o' (by simpa using hj)
          rw [show k + 1 + j = k + (j + 1) by omega]; exact this
        cases insV (kopd N A') o with
        | none => exact ih'
        | some q => simp only [Option.map_some]; rw [ih']
    exact this ops.toList 0 fun j o hj => by
      rw [Nat.zero_add]
      exact hiv (by rw [← Array.getElem?_toList]; exact hj)
  have hok : InsOk P ops F Hs := by
    refine ⟨fun j o ho hm => (hmkv ho hm).1, fun j o t m k v ho hop => ?_, fun q hq q' hq' hne he => ?_⟩
    · have h1 := hoi1 ho
      unfold okIns1 at h1
      rw [hop] at h1
      simp only [Bool.and_eq_true, Option.isNone_iff_eq_none] at h1
      obtain ⟨⟨⟨⟨hg, hd⟩, hk⟩, hm⟩, hv⟩ := h1
      have hs := hseen o (hmem ho) (by rw [hop]; rfl)
      rw [← hiv ho] at hs
      obtain ⟨q, hq⟩ := Option.isSome_iff_exists.1 hs
      have hq0 := hq
      unfold insV at hq
      rw [hop] at hq
      simp only at hq
      split at hq
      · rename_i i hmi
        cases hq
        refine ⟨hg, hd, ?_, i, hmi, (hHidx i).1 (hin (i, opd (F j) k, opd (F j) v) ?_)⟩
        · split at hk
          · rename_i kt e hu
            split at hk
            · rename_i kd c hkd
              exact ⟨kt, e, kd, hu, hkd, hk⟩
            · cases hk
          · cases hk
        · rw [← hinsL]
          exact List.mem_map.2 ⟨(j, i, opd (F j) k, opd (F j) v), mem_insL.2 ⟨o, ho, hq0⟩, rfl⟩
      · cases hq
    · have hp : (insL ops F).Pairwise fun a b => a.2.1 = b.2.1 → keyCmp a.2.2.1 b.2.2.1 = some false := by
        rw [← hinsL, List.pairwise_map] at hpw
        exact hpw
      obtain ⟨x, hx⟩ := List.getElem?_of_mem hq
      obtain ⟨y, hy⟩ := List.getElem?_of_mem hq'
      obtain ⟨lx, rfl⟩ := List.getElem?_eq_some_iff.1 hx
      obtain ⟨ly, rfl⟩ := List.getElem?_eq_some_iff.1 hy
      rcases Nat.lt_trichotomy x y with h1 | h1 | h1
      · exact List.pairwise_iff_getElem.1 hp x y lx ly h1 he
      · subst h1; exact absurd rfl hne
      · exact keyCmp_symm (List.pairwise_iff_getElem.1 hp y x ly lx h1 he.symm)
  have hlen : (F 0).length = a.tmps.size := by rw [e1]; simpa using hfr.1
  refine region_ins hcall hokr hrun hok (r0 := r) (w0 := w) (ds := a.defers) wf0 free (fun r' a' w' h1 h2 h3 x hc => ?_) ops.size _ r a w (by simp) ?_ ?_ ?_
  · -- the maps are told again
    have hx : ∀ y, ∃ o : Option AObj, (Hidx ops Hs y → ∃ es clk t, o = some (.map es clk) ∧ r' y = some t ∧ OR r' w' t (.map es clk) ∧ (es.map fun e => (e.1, e.2.1)).Perm (insD ops F (fun m => m < (gho ops).size) y) ∧ (es.map (·.2.2)).Nodup ∧ ∀ e ∈ es, e.2.2 < clk) ∧ (¬ Hidx ops Hs y → o = s'.2.get y) := by
      intro y
      by_cases hy : Hidx ops Hs y
      · obtain ⟨j, o, ho, hm, rfl⟩ := hy
        obtain ⟨t, ht⟩ := x.made j o ho hm (hlt ho)
        obtain ⟨es, clk, g1, g2, g3, g4⟩ := x.own _ ⟨j, o, ho, hm, rfl⟩ t ht
        exact ⟨_, fun _ => ⟨es, clk, t, rfl, ht, g1, g2, g3, g4⟩, fun h => absurd ⟨j, o, ho, hm, rfl⟩ h⟩
      · exact ⟨_, fun h => absurd h hy, fun _ => rfl⟩
    let h' : H := ⟨s'.2.next, fun y => Classical.choose (hx y)⟩
    have hin' : ∀ y, Hidx ops Hs y → ∃ es clk t, h'.get y = some (.map es clk) ∧ r' y = some t ∧ OR r' w' t (.map es clk) ∧ (es.map fun e => (e.1, e.2.1)).Perm (insD ops F (fun m => m < (gho ops).size) y) ∧ (es.map (·.2.2)).Nodup ∧ ∀ e ∈ es, e.2.2 < clk := fun y hy => (Classical.choose_spec (hx y)).1 hy
    have hout : ∀ y, ¬ Hidx ops Hs y → h'.get y = s'.2.get y := fun y hy => (Classical.choose_spec (hx y)).2 hy
    rw [e2, e4] at h3
    rw [e3] at h1
    rw [e4] at hc
    have hfresh : ∀ {y}, Hidx ops Hs y → s.2.next ≤ y ∧ y < s'.2.next := fun {y} hy => by
      obtain ⟨j, o, hj, _, _, rfl, h5⟩ := Hidx.lt hcall hrun wf0 rfl free hok hy
      have q1 := Hs_mono hcall hrun (Nat.zero_le j) (by omega : j ≤ (gho ops).size)
      have q2 := Hs_mono hcall hrun (show j + 1 ≤ (gho ops).size from hj) (Nat.le_refl _)
      rw [e2] at q1
      rw [e4] at q2
      omega
    refine hQ r' a' w' h' h1 h2 ⟨rfl, fun i hi => hout i fun h => hi ((hHidx i).2 h), fun i hi => ?_⟩ ?_
    · obtain ⟨es, clk, t, g1, _, _, g2, g3, g4⟩ := hin' i ((hHidx i).1 hi)
      refine ⟨es, clk, g1, ?_, g3, g4⟩
      have : insD ops F (fun m => m < (gho ops).size) i = (ins.filter fun q => q.1 == i).map (·.2) := by
        unfold insD
        rw [← hinsL, List.filter_map, List.map_map]
        have : (insL ops F).filter (fun q => decide (q.1 < (gho ops).size ∧ q.2.1 = i)) = (insL ops F).filter ((fun q : Nat × AV × AV => q.1 == i) ∘ fun x => x.2) := by
          apply List.filter_congr
          intro q hq
          obtain ⟨o, ho, _⟩ := mem_insL.1 hq
          have := hlt ho
          simp only [Function.comp]
          by_cases e : q.2.1 = i
          · simp [e, this]
          · simp [e]
        rw [← this]
        congr 1
        apply List.filter_congr
        intro q _
        exact decide_eq_decide.2 Iff.rfl
      rw [← this]; exact g2
    · exact ⟨h3.le, h3.dom, ⟨fun i o hi => by
        by_cases hy : Hidx ops Hs i
        · exact (hfresh hy).2
        · rw [hout i hy] at hi; exact h3.rel.wf i o hi, fun i t o hr hi => by
        by_cases hy : Hidx ops Hs i
        · obtain ⟨es, clk, t', g1, g2, g3, _⟩ := hin' i hy
          rw [g1] at hi; cases hi
          rw [hr] at g2; cases g2
          exact g3
        · rw [hout i hy] at hi; exact h3.rel.obj i t o hr hi, fun i j ti tj oi oj hi hj gi gj e => by
        by_cases hy : Hidx ops Hs i
        · by_cases hz : Hidx ops Hs j
          · exact .inl (x.apart i j hy hz ti tj hi hj e)
          · rw [hout j hz, ← hc] at gj
            exact (x.alone i hy ti hi j tj oj hj e.symm gj).elim
        · rw [hout i hy] at gi
          by_cases hz : Hidx ops Hs j
          · rw [← hc] at gi
            exact (x.alone j hz tj hj i ti oi hi e gi).elim
          · rw [hout j hz] at gj
            exact h3.rel.inj i j ti tj oi oj hi hj gi gj e, h3.rel.bound, h3.rel.glob⟩, h3.keep, h3.env, h3.size, h3.next, h3.fresh, fun i o hi ho => by
        rw [hout i fun hy => by have := (hfresh hy).1; omega] at ho
        exact h3.roKeep i o hi ho, h3.gap, fun i hi hne => h3.touch i hi (by rwa [hout i fun hy => by have := (hfresh hy).1; omega] at hne)⟩
  · intro m o ho hm' e he hb
    rw [getD_rep] at hm'; cases hm'
  · have := List.length_filter_le (fun i => !(Array.replicate ops.size false).getD i true) (List.range ops.size)
    simpa using this
  · intro D hD
    have hno : ∀ m, ¬ D m := fun m h => by have := (hD m).1 h; rw [getD_rep] at this; cases this
    have hcont : ∀ i, contD (gho ops).size Hs D i = (Hs 0).get i := fun i => contD_agree (Nat.zero_le _) fun m _ _ => ⟨fun h => absurd h (hno m), fun h => by omega⟩
    have hnone : ∀ {i}, Hidx ops Hs i → r i = none := fun {i} hy => by
      obtain ⟨j, o, hj, _, _, rfl, h5⟩ := Hidx.lt hcall hrun wf0 rfl free hok hy
      have q1 := Hs_mono hcall hrun (Nat.zero_le j) (by omega : j ≤ (gho ops).size)
      have q2 := Hs_mono hcall hrun (show j + 1 ≤ (gho ops).size from hj) (Nat.le_refl _)
      exact free _ q1 (by omega)
    refine ⟨⟨Ren.le_refl _, (fun i t h1 h2 => by rw [h1] at h2; cases h2), hlen.symm, fun t ht => ?_, fun i t o h1 h2 => ?_, fun i k ti tk oi ok h1 h2 h3 h4 => ?_, hw.rel.bound, fun _ _ _ => rfl, Nat.le_refl _, .refl _, (fun i t h1 h2 => by rw [h1] at h2; cases h2), fun m _ h => absurd h (hno m), fun m _ h => absurd h (hno m), rfl, hrel.glob⟩, ⟨fun i hy t ht => ?_, fun i hy t ht => ?_, fun i i2 hy _ t t2 ht => ?_, fun q _ h => absurd h (hno _), fun j o _ _ h => absurd h (hno _)⟩⟩
    · rw [slotD_agree hrun ht (Nat.zero_le _) fun m _ _ => ⟨fun h => absurd h (hno m), fun h => by omega⟩, e1]
      exact opd_VR hfr hrel.glob (.tmp t)
    · rw [hcont, e2] at h2
      exact hw.rel.obj i t o h1 h2
    · rw [hcont, e2] at h3 h4
      exact hw.rel.inj i k ti tk oi ok h1 h2 h3 h4
    · rw [hnone hy] at ht; cases ht
    · rw [hnone hy] at ht; cases ht
    · rw [hnone hy] at ht; cases ht

/-- a map of which nothing is told yet -/
def newHK {β : Type} (h : H) (f : Nat → H → Option β) : Option β := f h.next (h.newO none)

def okTailI (P : Program) (ops : Array Oper) (n : Nat) : Bool :=
  decide (n ≤ ops.size) && okRegion P (gho (pre ops n)) && okIns P (pre ops n) && okM ops (masks ops) && okGuards ops && ((List.range (ops.size - n)).all fun k => okCover (pre ops (n + k + 1)) (n + k))

noncomputable def regI (P : Program) (ck : CK) (cr : CR) (N : Nat) (ops : Array Oper) (n : Nat) : KC Unit := fun A h kn _ _ =>
  evOpsK P ck (gho (pre ops n)) N true (gho (pre ops n)).toList 0 A h noT [] fun A' h' => gatherK N (ops.toList.take n) A' fun hid ins => restK hid ins h' fun h'' => evOpsR P ck cr ops N (ops.toList.drop n) A' h'' kn

theorem rest_ex {hid : List Nat} {ins : List (Nat × AV × AV)} {h : H} (hl : ∀ i ∈ hid, i < h.next) : ∃ h', RestR hid ins h h' ∧ (h.WF → h'.WF) := by
  refine ⟨⟨h.next, fun i => if i ∈ hid then some (.map (((ins.filter fun q => q.1 == i).map (·.2)).zipIdx.map fun x => (x.1.1, x.1.2, x.2)) ((ins.filter fun q => q.1 == i).length)) else h.get i⟩, ⟨rfl, fun i hi => if_neg hi, fun i hi => ⟨_, _, if_pos hi, ?_, ?_, ?_⟩⟩, fun hw i o hi => ?_⟩
  · rw [List.map_map]
    have : ((fun e : AV × AV × Nat => (e.1, e.2.1)) ∘ fun x : (AV × AV) × Nat => (x.1.1, x.1.2, x.2)) = fun x => x.1 := rfl
    rw [this, List.zipIdx_map_fst]
  · rw [List.map_map]
    have : ((fun x : AV × AV × Nat => x.2.2) ∘ fun x : (AV × AV) × Nat => (x.1.1, x.1.2, x.2)) = fun x => x.2 := rfl
    rw [this, List.zipIdx_map_snd]
    exact List.nodup_range' ..
  · intro e he
    obtain ⟨x, hx, rfl⟩ := List.mem_map.1 he
    have := (List.getElem?_eq_some_iff.1 (List.mem_zipIdx_iff_getElem?.1 hx)).1
    simpa using this
  · simp only at hi
    split at hi
    · rename_i hx; exact hl i hx
    · exact hw i o hi

theorem DenG.regionI {P : Program} (hm : P.follows .mixedOrders = true) {ck : CK} (hck : ck.call.Sound P) {cr : CR} (hcr : cr.Sound P) {N id n : Nat} {ops : Array Oper} (hok : okTailI P ops n = true) : DenG true P N (.region id ops true) (regI P ck cr N ops n) := by
  simp only [okTailI, Bool.and_eq_true, decide_eq_true_eq] at hok
  obtain ⟨⟨⟨⟨⟨hn, hpre⟩, hins⟩, hM⟩, hgd⟩, hcov⟩ := hok
  have key : ∀ A h (kn : KF → H → Option Unit) kr ke, regI P ck cr N ops n A h kn ke kr = some () → ∃ fr' A' h' hid ins, evOpsQ P ck.call (gho (pre ops n)) (gho (pre ops n)).toList 0 ((List.range N).map (look A)) h noT [] = some (fr', h') ∧ AF N A' fr' ∧
      (∀ i, i ∈ hid ↔ ∃ o ∈ (pre ops n).toList, isMk o.op = true ∧ ∃ d, o.dst = some d ∧ kopd N A' (.tmp d) = .map (some i)) ∧ (∀ o ∈ (pre ops n).toList, isMk o.op = true → ∃ d i, o.dst = some d ∧ kopd N A' (.tmp d) = .map (some i)) ∧
      (∀ o ∈ (pre ops n).toList, isIns o.op = true → (insV (kopd N A') o).isSome = true) ∧ ins = (pre ops n).toList.filterMap (insV (kopd N A')) ∧ (∀ q ∈ ins, q.1 ∈ hid) ∧ (∀ i ∈ hid, i < h'.next) ∧ (ins.Pairwise fun a b => a.1 = b.1 → keyCmp a.2.1 b.2.1 = some false) ∧
      ∀ h'', RestR hid ins h' h'' → evOpsR P ck cr ops N (ops.toList.drop n) A' h'' kn = some () := by
    intro A h kn kr ke e
    unfold regI at e
    obtain ⟨fr', A', h', h1, h2, h3⟩ := evOpsK_some (fr := (List.range N).map (look A)) e ⟨by simp, fun t ht => by rw [List.getD_eq_getElem?_getD, List.getElem?_map, List.getElem?_range ht]; rfl⟩
    obtain ⟨hid, ins, g1, g2, g3, g4, g5⟩ := gatherK_some h3
    obtain ⟨⟨k1, k0, k2⟩, k3⟩ := restK_some g1
    exact ⟨fr', A', h', hid, ins, by simpa using h1, h2, g2, g3, g4, g5, k1, k0, k2, k3⟩
  have ht : Tidy ops := ⟨fun j q hq => (okM_spec hM hq).1, fun j q g b hq hg => by
    have hj := (Array.getElem?_eq_some_iff.1 hq).1
    have := List.all_eq_true.1 hgd j (List.mem_range.2 (by omega))
    rw [hq] at this
    simp only [hg, decide_eq_true_eq] at this
    exact this⟩
  refine ⟨fun A h kn ke kr x e => ?_, fun r a w A h kn ke kr x B e hfr hsz hrel hfree hB Q hQ => ?_⟩
  · cases x
    obtain ⟨fr', A', h', hid, ins, h1, h2, _, _, _, _, _, k0, _, h3⟩ := key A h kn kr ke e
    have g1 := evOpsQ_grows hck h1
    obtain ⟨h'', hR, hwf⟩ := rest_ex (ins := ins) k0
    obtain ⟨A2, h4, e2, g2, w2⟩ := opsR_ends hck hcr _ _ _ (h3 h'' hR)
    exact ⟨.normal, _, h4, e2, Nat.le_trans g1.1 (by rw [← hR.1]; exact g2), fun hw => w2 (hwf (g1.2 hw))⟩
  · cases x
    obtain ⟨fr', A', h', hid, ins, h1, h2, k1, k2, k3, k4, k5, _, k6, h3⟩ := key A h kn kr ke e
    have hfree' : ∀ i, h.next ≤ i → r i = none := fun i hi => hfree i hi (B.all rfl i)
    have hfr' : FR r ((List.range N).map (look A)) a := by
      refine ⟨by simpa using hsz.symm, fun t x v hx hv => ?_⟩
      have ht : t < N := by have := (List.getElem?_eq_some_iff.1 hx).1; simpa using this
      rw [List.getElem?_map, List.getElem?_range ht] at hx
      simp at hx
      subst hx
      have := hfr t (by rw [hsz]; exact ht)
      simp only [Act.eval, Array.getD_eq_getD_getElem?] at this
      rw [← Array.getElem?_toList, hv] at this
      exact this
    have hw0 : Post r h w r h { w with drawn := w.drawn + 1 } := Post.same hrel rfl ⟨rfl, rfl, rfl, fun _ => Nat.le_succ _⟩
    refine wp_region_any hm ?_
    have hsub : wpAny P .any (pre ops n) (endBy Q fun a w => wpList P ops Q (ops.toList.drop n) a w) (pre ops n).size (Array.replicate (pre ops n).size false) a { w with drawn := w.drawn + 1 } := by
      refine region_wpAnyI hck hpre hins (s := ((List.range N).map (look A), h)) (s' := (fr', h')) h1 h2 k1 k2 k3 k4 k5 k6 hfr' hw0.rel (fun i hi _ => hfree' i hi) fun r' a' w' h'' q1 q2 qR q3 => ?_
      have hsz' : a'.tmps.size = N := by rw [← h2.1]; simpa using q1.1.symm
      have hA' : FRk r' A' a' := fun t ht => by
        rw [h2.2 t (by rw [← hsz']; exact ht)]
        exact opd_VR q1 q3.rel.glob (.tmp t)
      show wpList P ops Q (ops.toList.drop n) a' w'
      exact opsR_wp hck hcr _ A' h'' r' a' w' (h3 h'' qR) hA' hsz' q3.rel (free_all (hw0.trans q3) hfree') fun r2 a2 w2 A2 h2 k1 k2 k3 k4 k5 => hQ r2 a2 w2 A2 h2 .normal k1 k2 (by rw [k3, q2]) ((hw0.trans q3).trans k4) k5
    rw [pre_size hn] at hsub
    have := wpAny_tail ht (fun m h1 h2 => by
      have := List.all_eq_true.1 hcov (m - n) (List.mem_range.2 (by omega))
      rwa [show n + (m - n) = m by omega] at this) hsub (ops.size - n) (by omega)
    rw [show n + (ops.size - n) = ops.size by omega, pre_all] at this
    have hd : ops.toList.drop ops.size = [] := by rw [← Array.length_toList, List.drop_length]
    rw [hd] at this
    have he : (endBy Q fun a w => wpList P ops Q [] a w) = Q := by
      funext e a w
      cases e <;> rfl
    rw [he] at this
    exact this

end Go.Ev

/- The abstract machine Ev: a drawn region one of whose calls may end in unlike ways. -/
namespace Go.Ev
open Go.RowKit

/-! ### the operations in another order of the text -/

def renO (σ : Nat → Nat) (o : Oper) : Oper := { o with after := (o.after.toList.map fun e => { e with on := σ e.on }).toArray, guard := o.guard.map fun g => (σ g.1, g.2) }

theorem binds_on (md : Region.Mode) (e : Edge) (j : Nat) : Region.binds md { e with on := j } = Region.binds md e := by
  cases e; cases md <;> rfl

section
variable {P : Program} {ops ops' : Array Oper} {σ : Nat → Nat} {Q : Exit → Act → World → Prop}

/-- ops', the operations of ops at other places -/
structure Moved (ops ops' : Array Oper) (σ : Nat → Nat) : Prop where
  size : ops'.size = ops.size
  lt : ∀ j, j < ops.size → σ j < ops.size
  inj : ∀ i j, i < ops.size → j < ops.size → σ i = σ j → i = j
  onto : ∀ i, i < ops.size → ∃ j, j < ops.size ∧ σ j = i
  get : ∀ (j : Nat) o, ops[j]? = some o → ops'[σ j]? = some (renO σ o)
  on : ∀ (j : Nat) o, ops[j]? = some o → ∀ e ∈ o.after, Region.binds .any e = true → e.on < ops.size
  guard : ∀ (j : Nat) o g b, ops[j]? = some o → o.guard = some (g, b) → g < ops.size

theorem Moved.op (m : Moved ops ops' σ) {j : Nat} {o : Oper} (ho : ops[j]? = some o) {a : Act} {w : World} {K K' : Act → World → Prop} (hK : ∀ a w, K' a w → K a w) (h : wpOp P ops' Q (σ j) K' a w) : wpOp P ops Q j K a w := by
  unfold wpOp at h ⊢
  rw [m.get j o ho] at h
  rw [ho]
  simp only at h ⊢
  have hw : Region.wanted (renO σ o) (yielded ops' a.tmps) = Region.wanted o (yielded ops a.tmps) := by
    unfold Region.wanted renO
    cases hg : o.guard with
    | none => rfl
    | some q =>
      obtain ⟨g, b⟩ := q
      have hgl := m.guard j o g b ho hg
      simp only [Option.map_some]
      have : yielded ops' a.tmps (σ g) = yielded ops a.tmps g := by
        unfold yielded
        rw [m.get g _ (Array.getElem?_eq_getElem hgl), Array.getElem?_eq_getElem hgl]
        rfl
      rw [this]
  rw [hw] at h
  split
  · rename_i hb
    rw [if_pos hb] at h
    exact h.imp (fun h => Oper.wp_mono hK h) id
  · rename_i hb
    rw [if_neg hb] at h
    exact hK _ _ h

theorem Moved.ready (m : Moved ops ops' σ) {listed listed' : Array Bool} (hs : listed.size = ops.size) (hs' : listed'.size = ops.size) (hl : ∀ j, j < ops.size → listed'.getD (σ j) true = listed.getD j true) {j : Nat} (hj : j < ops.size) :
    σ j ∈ Region.ready .any ops' listed' ↔ j ∈ Region.ready .any ops listed := by
  have ho : ops[j]? = some ops[j] := Array.getElem?_eq_getElem hj
  have hon : ∀ e ∈ ops[j].after, Region.binds .any e = true → (listed'.getD (σ e.on) false = true ↔ listed.getD e.on false = true) := fun e he hb => by
    have h1 := m.on j _ ho e he hb
    have h2 := m.lt _ h1
    rw [← getD_both (by omega), ← getD_both (by omega), hl _ h1]
  rw [mem_ready, mem_ready, hl j hj]
  refine and_congr Iff.rfl ⟨?_, ?_⟩
  · rintro ⟨o', h1, h2⟩
    rw [m.get j _ ho] at h1
    cases h1
    refine ⟨_, ho, fun e he hb => (hon e he hb).1 ?_⟩
    have := h2 { e with on := σ e.on } (by simp only [renO, List.mem_toArray, List.mem_map]; exact ⟨e, by simpa using he, rfl⟩) (by rw [binds_on]; exact hb)
    exact this
  · rintro ⟨o', h1, h2⟩
    rw [ho] at h1
    cases h1
    refine ⟨_, m.get j _ ho, fun e he hb => ?_⟩
    simp only [renO, List.mem_toArray, List.mem_map] at he
    obtain ⟨e0, he0, rfl⟩ := he
    rw [binds_on] at hb
    exact (hon e0 (by simpa using he0) hb).2 (h2 e0 (by simpa using he0) hb)

theorem Moved.any (m : Moved ops ops' σ) : ∀ (fuel : Nat) (listed listed' : Array Bool) (a : Act) (w : World), listed.size = ops.size → listed'.size = ops.size → (∀ j, j < ops.size → listed'.getD (σ j) true = listed.getD j true) → wpAny P .any ops' Q fuel listed' a w → wpAny P .any ops Q fuel listed a w := by
  have nil : ∀ {listed listed' : Array Bool}, listed.size = ops.size → listed'.size = ops.size → (∀ j, j < ops.size → listed'.getD (σ j) true = listed.getD j true) → (Region.ready .any ops listed = [] ↔ Region.ready .any ops' listed' = []) := by
    intro listed listed' hs hs' hl
    constructor
    · intro h
      rw [List.eq_nil_iff_forall_not_mem]
      intro i hi
      obtain ⟨_, o, h1, _⟩ := mem_ready.1 hi
      have := (Array.getElem?_eq_some_iff.1 h1).1
      obtain ⟨j, hj, rfl⟩ := m.onto i (by rw [← m.size]; exact this)
      have := (m.ready hs hs' hl hj).1 hi
      rw [h] at this; cases this
    · intro h
      rw [List.eq_nil_iff_forall_not_mem]
      intro j hj
      obtain ⟨_, o, h1, _⟩ := mem_ready.1 hj
      have := (m.ready hs hs' hl (Array.getElem?_eq_some_iff.1 h1).1).2 hj
      rw [h] at this; cases this
  intro fuel
  induction fuel with
  | zero => exact fun listed listed' a w hs hs' hl h => ⟨(nil hs hs' hl).2 h.1, h.2⟩
  | succ fuel ih =>
    intro listed listed' a w hs hs' hl h
    refine ⟨fun hr => h.1 ((nil hs hs' hl).1 hr), fun j hj => ?_⟩
    obtain ⟨_, o, ho, _⟩ := mem_ready.1 hj
    have hjs := (Array.getElem?_eq_some_iff.1 ho).1
    refine m.op ho (fun a w hk => ih _ (listed'.setIfInBounds (σ j) true) a w (by simp [hs]) (by simp [hs']) (fun i hi => ?_) hk) (h.2 (σ j) ((m.ready hs hs' hl hjs).2 hj))
    rw [set_getD (by have := m.lt j hjs; omega), set_getD (by omega)]
    by_cases e : i = j
    · subst e; simp
    · rw [if_neg e, if_neg fun e2 => e (m.inj i j hi hjs e2)]
      exact hl i hi
end

/-! ### a state that two runs share -/

section
variable {E : Nat → Prop} {P : Program} {call : CallFn} {ops : Array Oper} {N n : Nat} {F F' : Nat → List AV} {Hs Hs' : Nat → H} {V V' : Nat → AV} {r0 : Ren} {w0 : World} {ds : List Deferred}

theorem pr_val {α : Type} {init : α} {val val' : Nat → α} {W W' : Nat → Prop} : ∀ {k : Nat}, (∀ m, m < k → (W m ↔ W' m)) → (∀ m, m < k → W m → val m = val' m) → pr init val W k = pr init val' W' k
  | 0, _, _ => rfl
  | k + 1, h1, h2 => by
    simp only [pr]
    by_cases h : W k
    · rw [if_pos h, if_pos ((h1 k (by omega)).1 h), h2 k (by omega) h]
    · rw [if_neg h, if_neg fun h' => h ((h1 k (by omega)).2 h')]
      exact pr_val (fun m hm => h1 m (by omega)) fun m hm => h2 m (by omega)

theorem Inv.shared {D : Nat → Prop} {r : Ren} {a : Act} {w : World} (inv : Inv P ops N F Hs V r0 w0 ds D r a w) (hD : ∀ m, D m → m < n) (hF : F 0 = F' 0) (hH : ∀ k, k ≤ n → Hs k = Hs' k) (hV : ∀ k, k < n → V k = V' k) : Inv P ops N F' Hs' V' r0 w0 ds D r a w := by
  have hc : ∀ i, contD N Hs D i = contD N Hs' D i := fun i => by
    unfold contD
    rw [hH 0 (Nat.zero_le _)]
    refine pr_val (fun m hm => ?_) fun m hm h => by rw [hH (m + 1) (hD m h.1)]
    constructor
    · rintro ⟨h1, h2⟩
      have := hD m h1
      refine ⟨h1, ?_⟩
      unfold Tc at h2 ⊢
      rw [← hH (m + 1) this, ← hH m (by omega)]; exact h2
    · rintro ⟨h1, h2⟩
      have := hD m h1
      refine ⟨h1, ?_⟩
      unfold Tc at h2 ⊢
      rw [hH (m + 1) this, hH m (by omega)]; exact h2
  refine ⟨inv.le, fun i t h1 h2 => ?_, by rw [inv.sz, hF], fun t ht => ?_, fun i t o h1 h2 => inv.obj i t o h1 (by rw [hc]; exact h2), fun i j ti tj oi oj h1 h2 h3 h4 => inv.inj i j ti tj oi oj h1 h2 (by rw [hc]; exact h3) (by rw [hc]; exact h4), inv.bound, ?_, inv.size, inv.env, ?_, fun m hm hDm i hi ht => ?_, fun m hm hDm i o hi ho => ?_, inv.defers, inv.gl⟩
  · obtain ⟨k, hk, hDk, h3, h4⟩ := inv.dom i t h1 h2
    have := hD k hDk
    exact ⟨k, hk, hDk, by rw [← hH k (by omega)]; exact h3, by rw [← hH (k + 1) this]; exact h4⟩
  · rw [← hF] at ht
    have := inv.slot t ht
    have he : slotD ops N F V D t = slotD ops N F' V' D t := by
      unfold slotD
      rw [hF]
      exact pr_val (fun m _ => Iff.rfl) fun m hm h => hV m (hD m h.1)
    rw [← he]; exact this
  · rw [← hH 0 (Nat.zero_le _)]; exact inv.keep
  · rw [← hH 0 (Nat.zero_le _)]; exact inv.fresh
  · have hmn := hD m hDm
    rw [← hH m (by omega)] at hi
    refine inv.touch m hm hDm i hi ?_
    unfold Tc at ht ⊢
    rw [hH (m + 1) hmn, hH m (by omega)]; exact ht
  · have hmn := hD m hDm
    rw [← hH m (by omega)] at hi ⊢
    rw [← hH (m + 1) hmn] at ho
    exact inv.ro m hm hDm i o hi ho
end

/-! ### one call among them whose runs may end in unlike ways -/

/-- is it such a call? -/
def relOp (cr : CR) (o : Oper) : Bool := match o.op with | .call c => (match c.callee with | .value (.func f) => cr.isR f | _ => false) | _ => false

def stillB (P : Program) (o : Oper) : Bool := match cls P o.op with | .pure => true | .alloc => true | _ => false
/-- the others ahead of the n-th wait for nothing and look at nothing, or it waits for them; all behind it wait for it -/
def okE (P : Program) (cr : CR) (ops : Array Oper) (n : Nat) : Bool :=
  (match ops[n]? with | some o => relOp cr o | none => false) && okRegion P ops && okGuards ops &&
    ((List.range n).all fun k => match ops[k]? with | some o => stillB P o || (masks ops n).testBit k | none => true) &&
    ((List.range ops.size).all fun k => decide (k ≤ n) || ((masks ops k).testBit n && (List.range n).all fun j => match ops[j]? with | some o => stillB P o || (masks ops k).testBit j | none => true))

section
variable {P : Program} {ops : Array Oper}

/-- what comes behind it -/
noncomputable def sfxK (P : Program) (ck : CK) (N : Nat) (ops : Array Oper) (n : Nat) (A : KF) (o : Oper) (v : AV) (h : H) (kn : KF → H → Option Unit) : Option Unit :=
  evOpsK P ck ops N true (ops.toList.drop (n + 1)) (n + 1) (kput N A o.dst v) h noT [] kn

noncomputable def regE (P : Program) (ck : CK) (cr : CR) (N : Nat) (ops : Array Oper) (n : Nat) (A : KF) (h : H) (kn : KF → H → Option Unit) : Option Unit :=
  evOpsK P ck ops N true (ops.toList.take n) 0 A h noT [] fun A1 h1 =>
    match ops[n]? with
    | some o => evStepR P ck cr ops N A1 o h1 fun A2 v h2 => sfxK P ck N ops n A2 o v h2 kn
    | none => none

theorem regE_ends {ck : CK} (hck : ck.call.Sound P) {cr : CR} (hcr : cr.Sound P) {N n : Nat} {A : KF} {h : H} {kn : KF → H → Option Unit} (e : regE P ck cr N ops n A h kn = some ()) : ∃ A' h', kn A' h' = some () ∧ h.next ≤ h'.next ∧ (h.WF → h'.WF) := by
  unfold regE at e
  obtain ⟨fr', A', h', h1, h2, h3⟩ := evOpsK_some (fr := (List.range N).map (look A)) e ⟨by simp, fun t ht => by rw [List.getD_eq_getElem?_getD, List.getElem?_map, List.getElem?_range ht]; rfl⟩
  simp only [if_true] at h1
  have g1 := evOpsQ_grows hck h1
  split at h3
  · rename_i o ho
    obtain ⟨A2, v, h4, h5, g2, w2⟩ := stepR_ends hck hcr h3
    unfold sfxK at h5
    obtain ⟨fr3, A3, h6, h7, h8, h9⟩ := evOpsK_some (fr := (List.range N).map (look (kput N A2 o.dst v))) h5 ⟨by simp, fun t ht => by rw [List.getD_eq_getElem?_getD, List.getElem?_map, List.getElem?_range ht]; rfl⟩
    simp only [if_true] at h7
    have g3 := evOpsQ_grows hck h7
    exact ⟨A3, h6, h9, Nat.le_trans g1.1 (Nat.le_trans g2 g3.1), fun hw => g3.2 (w2 (g1.2 hw))⟩
  · cases h3

theorem indep_not {M : Nat → Nat} {k j : Nat} (h : (M k).testBit j = true ∨ (M j).testBit k = true) : indepB M k j = false := by
  unfold indepB
  rcases h with h | h <;> simp [h]

theorem regE_any {ck : CK} (hck : ck.call.Sound P) {cr : CR} (hcr : cr.Sound P) {N n : Nat} (hok : okE P cr ops n = true) {A : KF} {h : H} {kn : KF → H → Option Unit} (e : regE P ck cr N ops n A h kn = some ())
    {r : Ren} {a : Act} {w : World} (hfr : FRk r A a) (hsz : a.tmps.size = N) (hrel : Rel r h w) (hfree : ∀ i, h.next ≤ i → r i = none) {Q : Exit → Act → World → Prop}
    (hQ : ∀ r' a' w' A' h', FRk r' A' a' → a'.tmps.size = N → a'.defers = a.defers → Post r h w r' h' w' → kn A' h' = some () → Q .normal a' w') :
    wpAny P .any ops Q ops.size (Array.replicate ops.size false) a w := by
  simp only [okE, Bool.and_eq_true] at hok
  obtain ⟨⟨⟨⟨hrop, hreg⟩, hgd⟩, hpre⟩, hsuf⟩ := hok
  have hreg' := hreg
  simp only [okRegion, Bool.and_eq_true] at hreg'
  obtain ⟨⟨hM, hH⟩, hP⟩ := hreg'
  obtain ⟨o, ho, hro⟩ : ∃ o, ops[n]? = some o ∧ relOp cr o = true := by
    split at hrop
    · rename_i o ho; exact ⟨o, ho, hrop⟩
    · cases hrop
  have hns := (Array.getElem?_eq_some_iff.1 ho).1
  have ht : Tidy ops := ⟨fun j q hq => (okM_spec hM hq).1, fun j q g b hq hg => by
    have hj := (Array.getElem?_eq_some_iff.1 hq).1
    have := List.all_eq_true.1 hgd j (List.mem_range.2 (by omega))
    rw [hq] at this
    simp only [hg, decide_eq_true_eq] at this
    exact this⟩
  obtain ⟨c, f, hop, hcal, hisR⟩ : ∃ c f, o.op = .call c ∧ c.callee = .value (.func f) ∧ cr.isR f = true := by
    unfold relOp at hro
    split at hro
    · rename_i c hop
      split at hro
      · rename_i f hc; exact ⟨c, f, hop, hc, hro⟩
      · cases hro
    · cases hro
  have hclsn : cls P o.op = .full := by rw [hop]; simp only [cls, hcal]
  -- all behind n wait for it, and for what it waits for
  have hwait : ∀ k, n < k → k < ops.size → (masks ops k).testBit n = true ∧ ∀ j oj, j < n → ops[j]? = some oj → stillB P oj = true ∨ (masks ops k).testBit j = true := by
    intro k hk hks
    have := List.all_eq_true.1 hsuf k (List.mem_range.2 hks)
    simp only [Bool.or_eq_true, decide_eq_true_eq, Bool.and_eq_true] at this
    rcases this with h1 | h1
    · omega
    · refine ⟨h1.1, fun j oj hj hoj => ?_⟩
      have := List.all_eq_true.1 h1.2 j (List.mem_range.2 hj)
      rw [hoj] at this
      simpa using this
  have hpre' : ∀ j oj, j < n → ops[j]? = some oj → stillB P oj = true ∨ (masks ops n).testBit j = true := by
    intro j oj hj hoj
    have := List.all_eq_true.1 hpre j (List.mem_range.2 hj)
    rw [hoj] at this
    simpa using this
  -- ahead of it
  unfold regE at e
  obtain ⟨fr1, A1, h1, e1, hA1, e2⟩ := evOpsK_some (fr := (List.range N).map (look A)) e ⟨by simp, fun t ht => by rw [List.getD_eq_getElem?_getD, List.getElem?_map, List.getElem?_range ht]; rfl⟩
  simp only [if_true] at e1
  rw [ho] at e2
  simp only at e2
  obtain ⟨F1, Hs1, V1, q1, q2, q3, q4, q5, q6, q7⟩ := run_of_evOpsQ e1 (fun j hj => by
    rw [List.getElem?_take, if_pos (by simp at hj; omega)]; simp)
  have hlen1 : (ops.toList.take n).length = n := by simp; omega
  rw [hlen1] at q3 q4 q5 q6 q7
  have hfr' : FR r ((List.range N).map (look A)) a := by
    refine ⟨by simpa using hsz.symm, fun t x v hx hv => ?_⟩
    have ht : t < N := by have := (List.getElem?_eq_some_iff.1 hx).1; simpa using this
    rw [List.getElem?_map, List.getElem?_range ht] at hx
    simp at hx
    subst hx
    have := hfr t (by rw [hsz]; exact ht)
    simp only [Act.eval, Array.getD_eq_getD_getElem?] at this
    rw [← Array.getElem?_toList, hv] at this
    exact this
  -- a run that begins so
  have mk : ∀ (E : Nat → Prop) (F : Nat → List AV) (Hs : Nat → H) (V : Nat → AV), (∀ k, k ≤ n → F k = F1 k) → (∀ k, k ≤ n → Hs k = Hs1 k) → (∀ k, k < n → V k = V1 k) →
      (∀ k, n ≤ k → k < ops.size → ∃ o, ops[k]? = some o ∧ (evStep P ck.call ops o (opd (F k)) (Hs k) = some (V k, Hs (k + 1)) ∨ (E k ∧ ((Hs k).next ≤ (Hs (k + 1)).next ∧ ((Hs k).WF → (Hs (k + 1)).WF)) ∧ ((∃ i, i < (Hs k).next ∧ (Hs (k + 1)).get i ≠ (Hs k).get i) → cls P o.op = .full))) ∧ F (k + 1) = putD (F k) o.dst (V k)) →
      (∀ k, n < k → k < ops.size → needQuiet P ops (masks ops) k = true → ∀ j oj, n < j → j < k → ops[j]? = some oj → cls P oj.op = .read → indepB (masks ops) k j = true → ∀ b, refOf (mainV (opd (F j)) oj.op) = some b → (Hs (k + 1)).get b = (Hs k).get b) →
      (∀ k, n < k → k < ops.size → ¬ E k → shyB P ops (masks ops) k = true → ∃ S : Nat → Prop, (∀ m, n < m → m < k → needQuiet P ops (masks ops) m = true → ∀ i, i < (Hs m).next → (Hs (m + 1)).get i ≠ (Hs m).get i → S i) ∧ ∀ o, ops[k]? = some o → evStep P ck.call ops o (opd (F k)) ((Hs k).minus S) = some (V k, (Hs k).minus S)) →
      Run E P ck.call ops ops.size F Hs V := by
    intro E F Hs V hF hHs hV hst hkept hshy
    refine ⟨fun k hk => ?_, fun k hk hq j oj hj hoj hc hi b hb => ?_, fun k hk hE hs => ?_⟩
    · rcases Nat.lt_or_ge k n with hlt | hge
      · obtain ⟨o', g1, g2, g3⟩ := q5 k hlt
        rw [Nat.zero_add] at g1
        exact ⟨o', g1, .inl (by rw [hF k (by omega), hHs k (by omega), hV k hlt, hHs (k + 1) hlt]; exact g2), by rw [hF (k + 1) hlt, hF k (by omega), hV k hlt]; exact g3⟩
      · exact hst k hge hk
    · rcases Nat.lt_trichotomy k n with hlt | rfl | hgt
      · have := (q6 k hlt (by simpa using hq)).2 j oj hj (by simpa using hoj) hc (by simpa using hi) b (by rw [← hF j (by omega)]; exact hb)
        rw [hHs (k + 1) hlt, hHs k (by omega)]; exact this
      · exfalso
        rcases hpre' j oj hj hoj with h5 | h5
        · unfold stillB at h5; rw [hc] at h5; cases h5
        · rw [indep_not (.inl h5)] at hi; cases hi
      · rcases Nat.lt_trichotomy j n with hjn | rfl | hjn
        · exfalso
          rcases (hwait k hgt hk).2 j oj hjn hoj with h5 | h5
          · unfold stillB at h5; rw [hc] at h5; cases h5
          · rw [indep_not (.inl h5)] at hi; cases hi
        · exfalso
          rw [indep_not (.inl (hwait k hgt hk).1)] at hi; cases hi
        · exact hkept k hgt hk hq j oj hjn hj hoj hc hi b hb
    · rcases Nat.lt_trichotomy k n with hlt | rfl | hgt
      · obtain ⟨S, _, g1, g2⟩ := q7 k hlt (by simpa using hs)
        refine ⟨S, fun m hm hq _ i hi hne => g1 m hm (by simpa using hq) i (by rw [← hHs m (by omega)]; exact hi) (by rw [← hHs (m + 1) (by omega), ← hHs m (by omega)]; exact hne), fun o' ho' => ?_⟩
        rw [hF k (by omega), hHs k (by omega), hV k hlt]
        exact g2 o' (by simpa using ho')
      · exfalso
        have := shy_read ho hs
        rw [hclsn] at this; cases this
      · obtain ⟨S, g1, g2⟩ := hshy k hgt hk hE hs
        refine ⟨S, fun m hm hq hi i hin hne => ?_, g2⟩
        rcases Nat.lt_trichotomy m n with hmn | rfl | hmn
        · exfalso
          have hom : ops[m]? = some ops[m] := Array.getElem?_eq_getElem (by omega)
          rcases (hwait k hgt hk).2 m _ hmn hom with h5 | h5
          · unfold needQuiet at hq
            rw [hom] at hq
            simp only [Bool.and_eq_true, beq_iff_eq] at hq
            unfold stillB at h5
            rw [hq.1] at h5; cases h5
          · rw [indep_not (.inr h5)] at hi; cases hi
        · rw [indep_not (.inr (hwait k hgt hk).1)] at hi; cases hi
        · exact g1 m hmn hm hq i hin hne
  -- the run of what is ahead, with nothing behind
  let G : Nat → List AV := fun m => Nat.rec fr1 (fun m g => putD g ((ops[n + m]?).bind (·.dst)) .junk) m
  let F0 : Nat → List AV := fun k => if k ≤ n then F1 k else G (k - n)
  let Hs0 : Nat → H := fun k => if k ≤ n then Hs1 k else h1
  let V0 : Nat → AV := fun k => if k < n then V1 k else .junk
  have run0 : Run (fun k => n ≤ k) P ck.call ops ops.size F0 Hs0 V0 := by
    refine mk _ F0 Hs0 V0 (fun k hk => if_pos hk) (fun k hk => if_pos hk) (fun k hk => if_pos hk) (fun k hk hks => ?_) (fun k hk hks _ j oj hnj hjk _ _ _ b _ => ?_) (fun k hk hks hE hs => absurd (Nat.le_of_lt hk) hE)
    · have hok' : ops[k]? = some ops[k] := Array.getElem?_eq_getElem hks
      have hHk : Hs0 k = h1 := by
        simp only [Hs0]
        split
        · rw [show k = n by omega]; exact q4
        · rfl
      have hHk1 : Hs0 (k + 1) = h1 := by simp only [Hs0]; rw [if_neg (by omega)]
      refine ⟨_, hok', .inr ⟨hk, by rw [hHk, hHk1]; exact ⟨Nat.le_refl _, id⟩, fun ⟨i, _, hne⟩ => absurd (by rw [hHk, hHk1]) hne⟩, ?_⟩
      have hGk : F0 k = G (k - n) := by
        simp only [F0]
        split
        · rw [show k = n by omega, Nat.sub_self]; exact q3
        · rfl
      have hVk : V0 k = .junk := by simp only [V0]; rw [if_neg (by omega)]
      rw [hGk, hVk]
      simp only [F0]
      rw [if_neg (by omega), show k + 1 - n = (k - n) + 1 by omega]
      show putD (G (k - n)) ((ops[n + (k - n)]?).bind (·.dst)) .junk = _
      rw [show n + (k - n) = k by omega, hok']
      rfl
    · simp only [Hs0]; rw [if_neg (by omega), if_neg (by omega)]
  have wf0 : (Hs0 0).WF := by
    have : Hs0 0 = h := by simp only [Hs0]; rw [if_pos (Nat.zero_le _)]; exact q2
    rw [this]; exact hrel.wf
  have hH00 : Hs0 0 = h := by simp only [Hs0]; rw [if_pos (Nat.zero_le _)]; exact q2
  have free0 : ∀ i, (Hs0 0).next ≤ i → i < (Hs0 ops.size).next → r i = none := fun i hi _ => hfree i (by rw [← hH00]; exact hi)
  have hF0n : F0 n = fr1 := by simp only [F0]; rw [if_pos (Nat.le_refl _)]; exact q3
  have hH0n : Hs0 n = h1 := by simp only [Hs0]; rw [if_pos (Nat.le_refl _)]; exact q4
  obtain ⟨A2, b, hsame, hwant, e3⟩ := stepR_cases e2
  have hsh1 : ∀ k, k ≤ n → Hs0 k = Hs1 k := fun k hk => if_pos hk
  -- behind it
  have after : ∀ (fuel : Nat) (listed : Array Bool) (r1 r' : Ren) (a1 : Act) (w1 w' : World) (v : AV) (v' : Value) (h2 : H), listed.size = ops.size → listed.getD n true = false → (∀ m o, ops[m]? = some o → listed.getD m false = true → ∀ e ∈ o.after, Region.binds .any e = true → listed.getD e.on false = true) →
      (∀ e ∈ o.after, Region.binds .any e = true → listed.getD e.on false = true) → (∀ m, listed.getD m false = true → m < n) → ((List.range ops.size).filter fun i => !listed.getD i true).length ≤ fuel + 1 →
      Inv P ops ops.size F0 Hs0 V0 r w a.defers (fun m => listed.getD m false = true) r1 a1 w1 → VR r' v v' → Post r1 h1 w1 r' h2 w' → sfxK P ck N ops n A2 o v h2 kn = some () → wpAny P .any ops Q fuel (listed.setIfInBounds n true) (a1.put o.dst v') w' := by
    intro fuel listed r1 r' a1 w1 w' v v' h2 hls hln hcl hready hlow hfu inv hv hp hk
    unfold sfxK at hk
    obtain ⟨fr3, A3, h3, k1, k2, k3⟩ := evOpsK_some (fr := putD fr1 o.dst v) hk ((hA1.of_same hsame).put o.dst v)
    simp only [if_true] at k1
    have hL : (ops.toList.drop (n + 1)).length = ops.size - (n + 1) := by simp
    obtain ⟨F2, Hs2, V2, p1, p2, p3, p4, p5, p6, p7⟩ := run_of_evOpsQ k1 (fun j _ => by simp)
    rw [hL] at p3 p4 p5 p6 p7
    let F : Nat → List AV := fun k => if k ≤ n then F1 k else F2 (k - (n + 1))
    let Hs : Nat → H := fun k => if k ≤ n then Hs1 k else Hs2 (k - (n + 1))
    let V : Nat → AV := fun k => if k < n then V1 k else if k = n then v else V2 (k - (n + 1))
    have hFgt : ∀ k, n < k → F k = F2 (k - (n + 1)) := fun k hk => if_neg (by omega)
    have hHgt : ∀ k, n < k → Hs k = Hs2 (k - (n + 1)) := fun k hk => if_neg (by omega)
    have hVgt : ∀ k, n < k → V k = V2 (k - (n + 1)) := fun k hk => by simp only [V]; rw [if_neg (by omega), if_neg (by omega)]
    have hFn : F n = fr1 := by simp only [F]; rw [if_pos (Nat.le_refl _)]; exact q3
    have hHn : Hs n = h1 := by simp only [Hs]; rw [if_pos (Nat.le_refl _)]; exact q4
    have hHn1 : Hs (n + 1) = h2 := by rw [hHgt (n + 1) (by omega), Nat.sub_self]; exact p2
    have hVn : V n = v := by simp [V]
    have hrun : Run (fun k => k = n) P ck.call ops ops.size F Hs V := by
      refine mk _ F Hs V (fun k hk => if_pos hk) (fun k hk => if_pos hk) (fun k hk => if_pos hk) (fun k hk hks => ?_) (fun k hk hks hq j oj hnj hjk hoj hc hi b hb => ?_) (fun k hk hks hE hs => ?_)
      · rcases Nat.lt_or_ge n k with hgt | hle
        · obtain ⟨o', g1, g2, g3⟩ := p5 (k - (n + 1)) (by omega)
          rw [show n + 1 + (k - (n + 1)) = k by omega] at g1
          refine ⟨o', g1, .inl ?_, ?_⟩
          · rw [hFgt k hgt, hHgt k hgt, hVgt k hgt, hHgt (k + 1) (by omega), show k + 1 - (n + 1) = (k - (n + 1)) + 1 by omega]; exact g2
          · rw [hFgt (k + 1) (by omega), hFgt k hgt, hVgt k hgt, show k + 1 - (n + 1) = (k - (n + 1)) + 1 by omega]; exact g3
        · obtain rfl : k = n := by omega
          refine ⟨o, ho, .inr ⟨rfl, by rw [hHn, hHn1]; exact ⟨hp.next, fun _ => hp.rel.wf⟩, fun _ => hclsn⟩, ?_⟩
          rw [hFgt (k + 1) (by omega), Nat.sub_self, p1, hFn, hVn]
      · have := (p6 (k - (n + 1)) (by omega) (by rw [show n + 1 + (k - (n + 1)) = k by omega]; exact hq)).2 (j - (n + 1)) oj (by omega) (by rw [show n + 1 + (j - (n + 1)) = j by omega]; exact hoj) hc (by
          rw [show n + 1 + (k - (n + 1)) = k by omega, show n + 1 + (j - (n + 1)) = j by omega]; exact hi) b (by rw [← hFgt j hnj]; exact hb)
        rw [hHgt (k + 1) (by omega), hHgt k hk, show k + 1 - (n + 1) = (k - (n + 1)) + 1 by omega]; exact this
      · obtain ⟨S, _, g1, g2⟩ := p7 (k - (n + 1)) (by omega) (by rw [show n + 1 + (k - (n + 1)) = k by omega]; exact hs)
        refine ⟨S, fun m hm hmk hq i hi hne => ?_, fun o' ho' => ?_⟩
        · refine g1 (m - (n + 1)) (by omega) (by rw [show n + 1 + (m - (n + 1)) = m by omega]; exact hq) i (by rw [← hHgt m hm]; exact hi) ?_
          rw [hHgt (m + 1) (by omega), hHgt m hm, show m + 1 - (n + 1) = (m - (n + 1)) + 1 by omega] at hne
          exact hne
        · rw [hFgt k hk, hHgt k hk, hVgt k hk]
          exact g2 o' (by rw [show n + 1 + (k - (n + 1)) = k by omega]; exact ho')
    have hHs0 : Hs 0 = h := by simp only [Hs]; rw [if_pos (Nat.zero_le _)]; exact q2
    have hwf : (Hs 0).WF := by rw [hHs0]; exact hrel.wf
    have hfr0 : ∀ i, (Hs 0).next ≤ i → i < (Hs ops.size).next → r i = none := fun i hi _ => hfree i (by rw [← hHs0]; exact hi)
    have inv1 : Inv P ops ops.size F Hs V r w a.defers (fun m => listed.getD m false = true) r1 a1 w1 :=
      inv.shared (n := n) hlow (by simp only [F0, F]; rw [if_pos (Nat.zero_le _), if_pos (Nat.zero_le _)]) (fun k hk => by simp only [Hs0, Hs]; rw [if_pos hk, if_pos hk]) (fun k hk => by simp only [V0, V]; rw [if_pos hk, if_pos hk])
    have hDn : ¬ (listed.getD n false = true) := fun h => Nat.lt_irrefl _ (hlow n h)
    have turn := turn_of (P := P) hM hH hP (D := fun m => listed.getD m false = true) hcl ho hDn hready
    have hpp : Post r1 (Hs n) w1 r' (Hs (n + 1)) w' := by rw [hHn, hHn1]; exact hp
    have hb := behind_full hck hrun hwf rfl hfr0 inv1 hns ho turn hDn hclsn hpp
    have inv2 := inv_behind hrun rfl inv1 hns ho turn hDn hb (by rw [hVn]; exact hv)
    refine region_any hck hreg hrun (w0 := w) hwf hfr0 (ds := a.defers) (fun r3 a3 w3 g1 g2 g3 => ?_) fuel _ r' _ w' (by simp [hls]) (fun m _ hm => ?_) (fun m om hom hmm e he hb => ?_) ?_ (fun D hD => ?_)
    · have hFe : F ops.size = fr3 := by rw [hFgt _ hns]; exact p3
      have hHe : Hs ops.size = h3 := by rw [hHgt _ hns]; exact p4
      rw [hFe] at g1
      rw [hHs0, hHe] at g3
      have hsz3 : a3.tmps.size = N := by rw [← k2.1]; simpa using g1.1.symm
      exact hQ r3 a3 w3 A3 h3 (fun t ht => by
        rw [k2.2 t (by rw [← hsz3]; exact ht)]
        exact opd_VR g1 g3.rel.glob (.tmp t)) hsz3 g2 g3 k3
    · subst hm
      rw [← getD_both (by simp; omega), set_getD (by omega), if_pos rfl]
    · by_cases hmn : n = m
      · subst hmn
        rw [ho] at hom; cases hom
        exact getD_set_true (hready e he hb)
      · rw [getD_set_ne false hmn] at hmm
        exact getD_set_true (hcl m om hom hmm e he hb)
    · have := filter_lt (l := List.range ops.size) (p := fun i => !listed.getD i true) (p' := fun i => !(listed.setIfInBounds n true).getD i true) (x := n) (fun y hy => by
          by_cases hyj : n = y
          · subst hyj; rw [hln]; rfl
          · rw [getD_set_ne true hyj] at hy; exact hy) (List.mem_range.2 hns) (by rw [hln]; rfl) (by
          have h3 : n < listed.size := by omega
          simp [h3])
      omega
    · have hDe : D = With (fun m => listed.getD m false = true) n := by
        funext m
        refine propext ((hD m).trans ?_)
        unfold With
        by_cases hmn : n = m
        · subst hmn
          have h3 : n < listed.size := by omega
          simp [h3]
        · rw [getD_set_ne false hmn]
          exact ⟨.inl, fun h => h.resolve_right fun e => hmn e.symm⟩
      rw [hDe]; exact inv2
  -- ahead of it, and it
  have main : ∀ (fuel : Nat) (listed : Array Bool) (r1 : Ren) (a1 : Act) (w1 : World), listed.size = ops.size → (∀ m o, ops[m]? = some o → listed.getD m false = true → ∀ e ∈ o.after, Region.binds .any e = true → listed.getD e.on false = true) → (∀ m, listed.getD m false = true → m < n) →
      ((List.range ops.size).filter fun i => !listed.getD i true).length ≤ fuel → Inv P ops ops.size F0 Hs0 V0 r w a.defers (fun m => listed.getD m false = true) r1 a1 w1 → wpAny P .any ops Q fuel listed a1 w1 := by
    intro fuel
    induction fuel with
    | zero =>
      intro listed r1 a1 w1 hls hcl hlow hfu inv
      exfalso
      have hln : listed.getD n true = false := by
        cases hl : listed.getD n true with
        | false => rfl
        | true => rw [getD_both (by omega)] at hl; exact absurd (hlow n hl) (Nat.lt_irrefl _)
      have hm : n ∈ (List.range ops.size).filter fun i => !listed.getD i true := List.mem_filter.2 ⟨List.mem_range.2 hns, by rw [hln]; rfl⟩
      have : (List.range ops.size).filter (fun i => !listed.getD i true) = [] := List.eq_nil_of_length_eq_zero (by omega)
      rw [this] at hm; cases hm
    | succ fuel ih =>
      intro listed r1 a1 w1 hls hcl hlow hfu inv
      have hln : listed.getD n true = false := by
        cases hl : listed.getD n true with
        | false => rfl
        | true => rw [getD_both (by omega)] at hl; exact absurd (hlow n hl) (Nat.lt_irrefl _)
      refine ⟨fun hr => ?_, fun j hj => ?_⟩
      · have := none_ready ht hls hr n hns
        rw [this] at hln; cases hln
      obtain ⟨hjl, oj, hoj, hready⟩ := mem_ready.1 hj
      have hjs := (Array.getElem?_eq_some_iff.1 hoj).1
      have hDj : ¬ (listed.getD j false = true) := fun h => by
        have h3 : j < listed.size := by omega
        simp [h3] at h hjl; rw [h] at hjl; cases hjl
      have turn := turn_of (P := P) hM hH hP (D := fun m => listed.getD m false = true) hcl hoj hDj hready
      rcases Nat.lt_trichotomy j n with hlt | hjn | hgt
      · refine inv_step hck run0 wf0 rfl free0 inv hjs hoj turn hDj (by omega) Q _ fun r' a' w' inv' _ _ _ => ih _ r' a' w' (by simp [hls]) (fun m o hom hmm e he hb => ?_) (fun m hm => ?_) ?_ ?_
        · by_cases hmj : j = m
          · subst hmj
            rw [hoj] at hom
            cases hom
            exact getD_set_true (hready e he hb)
          · rw [getD_set_ne false hmj] at hmm
            exact getD_set_true (hcl m o hom hmm e he hb)
        · by_cases hmj : j = m
          · omega
          · rw [getD_set_ne false hmj] at hm; exact hlow m hm
        · have := filter_lt (l := List.range ops.size) (p := fun i => !listed.getD i true) (p' := fun i => !(listed.setIfInBounds j true).getD i true) (x := j) (fun y hy => by
              by_cases hyj : j = y
              · subst hyj; rw [hjl]; rfl
              · rw [getD_set_ne true hyj] at hy; exact hy) (List.mem_range.2 hjs) (by rw [hjl]; rfl) (by
              have h3 : j < listed.size := by omega
              simp [h3])
          omega
        · have hDe : (fun m => (listed.setIfInBounds j true).getD m false = true) = With (fun m => listed.getD m false = true) j := by
            funext m
            refine propext ?_
            unfold With
            by_cases hmj : j = m
            · subst hmj
              have h3 : j < listed.size := by omega
              simp [h3]
            · rw [getD_set_ne false hmj]
              exact ⟨.inl, fun h => h.resolve_right fun e => hmj e.symm⟩
          rw [hDe]; exact inv'
      · subst hjn
        rw [ho] at hoj; cases hoj
        have hρ := operands_at (Hs := Hs0) run0 rfl inv hjs ho turn hDj
        have hrel1 : Rel r1 h1 w1 := by
          have := rel_at hck run0 wf0 rfl free0 inv hjs ho turn hDj hclsn
          rwa [hH0n] at this
        have hfree1 : ∀ i, h1.next ≤ i → r1 i = none := by
          intro i hi
          cases hr1 : r1 i with
          | none => rfl
          | some t =>
            cases hr0 : r i with
            | some t0 =>
              have h5 := hfree i (by
                have := Hs_mono hck run0 (Nat.zero_le j) (Nat.le_of_lt hjs)
                rw [hH00, hH0n] at this; omega)
              rw [h5] at hr0; cases hr0
            | none =>
              obtain ⟨k, hk, hDk, h3, h4⟩ := inv.dom i t hr1 hr0
              have hkn := hlow k hDk
              have := Hs_mono hck run0 (show k + 1 ≤ j from hkn) (Nat.le_of_lt hjs)
              rw [hH0n] at this; omega
        have hopd : opd (F0 j) = kopd N A1 := by rw [hF0n]; exact hA1.opd
        have hlook : ∀ x, (x ∈ o.op.operands ∨ ∃ t, x = .tmp t ∧ t ∈ o.looksAt ops) → VR r1 (kopd N A1 x) (a1.eval x) := by
          intro x hx
          have := hρ x
          have he : restrict ops o (F0 j) x = opd (F0 j) x := by
            cases x with
            | tmp t =>
              have ht : t ∈ o.looksAt ops := by
                rcases hx with hx | ⟨t', e, ht⟩
                · exact List.mem_append_left _ (List.mem_filterMap.2 ⟨.tmp t, by simpa using hx, rfl⟩)
                · cases e; exact ht
              simp [restrict, ht, opd]
            | _ => rfl
          rw [he, hopd] at this
          exact this
        -- whether it is wanted
        have hw : Region.wanted o (yielded ops a1.tmps) = b := wanted_sim hwant fun t ht => hlook _ (.inr ⟨t, rfl, by
          obtain ⟨g, b', h5, h6⟩ := ht
          exact List.mem_append_right _ (by simp [h5, h6])⟩)
        unfold wpOp
        simp only [ho]
        rw [hw]
        cases b with
        | false =>
          simp only [Bool.false_eq_true, if_false] at e3 ⊢
          exact after fuel listed r1 r1 a1 w1 w1 (.tup []) undef h1 hls hln hcl hready hlow hfu inv (VR_tup (vs := []) .nil) (Post.refl hrel1) e3
        | true =>
          simp only [if_true] at e3 ⊢
          refine .inl ?_
          unfold evOperR at e3
          rw [hop] at e3
          simp only [hcal, kopd, hisR, List.nil_append, List.append_nil] at e3
          have hargs : VRL r1 (c.args.toList.map (kopd N A1)) (c.args.map a1.eval).toList := by
            rw [Array.toList_map]
            exact VRL.map _ _ _ fun x hx => hlook x (.inl (by rw [hop]; simp only [Op.operands, Call.operands, hcal]; simp; right; simpa using hx))
          obtain ⟨fn, hfn, hbody, hname⟩ := hcr.there _ hisR
          have hsim := hcr.sim f _ h1 _ r1 w1 _ hisR e3 hrel1 hfree1 hargs
          unfold Oper.wp
          have hr : (execOp a1.eval o).run P w1 = .ok (.enter f (c.args.map a1.eval)) w1 := by
            have hn1 : ¬ fn.name = "runtime.NumGoroutine" := by simpa using hname
            have hb1 : ¬ fn.body = none := fun e => by rw [e] at hbody; cases hbody
            simp [execOp, hop, resolve, hcal, Act.eval, Deferred.ofValue, invoke, callFunc, hfn, hb1, hn1]
          rw [hr, Oper.upon_enter]
          refine hsim.mono fun e w' he => ?_
          obtain ⟨r', v, v', h', rfl, hv', hp, hk⟩ := he
          exact after fuel listed r1 r' a1 w1 w' v v' h' hls hln hcl hready hlow hfu inv hv' hp (stepK_some hk)
      · exfalso
        have hb := (hwait j hgt hjs).1
        exact absurd (hlow n (bits_ready hM hcl hoj hready n hgt hb)) (Nat.lt_irrefl _)
  refine main ops.size _ r a w (by simp) (fun m o _ hm => by rw [getD_rep] at hm; cases hm) (fun m hm => by rw [getD_rep] at hm; cases hm) ?_ ?_
  · have := List.length_filter_le (fun i => !(Array.replicate ops.size false).getD i true) (List.range ops.size)
    simpa using this
  · have hno : ∀ m, ¬ ((Array.replicate ops.size false).getD m false = true) := fun m h => by rw [getD_rep] at h; cases h
    have hcont : ∀ i, contD ops.size Hs0 (fun m => (Array.replicate ops.size false).getD m false = true) i = (Hs0 0).get i := fun i => contD_agree (Nat.zero_le _) fun m _ _ => ⟨fun h => absurd h (hno m), fun h => by omega⟩
    have hF00 : F0 0 = (List.range N).map (look A) := by simp only [F0]; rw [if_pos (Nat.zero_le _)]; exact q1
    refine ⟨Ren.le_refl _, (fun i t h1 h2 => by rw [h1] at h2; cases h2), by rw [hF00]; simpa using hsz, fun t ht => ?_, fun i t o h1 h2 => ?_, fun i k ti tk oi ok h1 h2 h3 h4 => ?_, hrel.bound, fun _ _ _ => rfl, Nat.le_refl _, .refl _, (fun i t h1 h2 => by rw [h1] at h2; cases h2), fun m _ h => absurd h (hno m), fun m _ h => absurd h (hno m), rfl, hrel.glob⟩
    · rw [slotD_agree run0 ht (Nat.zero_le _) fun m _ _ => ⟨fun h => absurd h (hno m), fun h => by omega⟩, hF00]
      exact opd_VR hfr' hrel.glob (.tmp t)
    · rw [hcont, hH00] at h2
      exact hrel.obj i t o h1 h2
    · rw [hcont, hH00] at h3 h4
      exact hrel.inj i k ti tk oi ok h1 h2 h3 h4
end

/-! ### what does not wait for it, ahead of it -/

def idxE : List Nat → Nat → Nat
  | [], _ => 0
  | x :: l, j => match Nat.beq x j with | true => 0 | false => idxE l j + 1
def piE (ops : Array Oper) (n : Nat) : List Nat := ((List.range ops.size).filter fun i => !(Nat.beq i n) && !((masks ops i).testBit n)) ++ n :: ((List.range ops.size).filter fun i => (masks ops i).testBit n)
def permE (π : List Nat) (ops : Array Oper) : Array Oper := (π.map fun i => match ops[i]? with | some o => renO (idxE π) o | none => ⟨none, .move (.tmp 0), 0, "", #[], none⟩).toArray
def okPi (N : Nat) (π : List Nat) : Bool :=
  Nat.beq π.length N && ((List.range N).all fun j => Nat.blt (idxE π j) N && (match π[idxE π j]? with | some i => Nat.beq i j | none => false)) && ((List.range N).all fun i => match π[i]? with | some j => Nat.blt j N && Nat.beq (idxE π j) i | none => false)
def okPermE (P : Program) (cr : CR) (ops : Array Oper) (n : Nat) : Bool := okPi ops.size (piE ops n) && okM ops (masks ops) && okGuards ops && okE P cr (permE (piE ops n) ops) (idxE (piE ops n) n)

theorem moved_of {ops : Array Oper} {π : List Nat} (hp : okPi ops.size π = true) (hM : okM ops (masks ops) = true) (hg : okGuards ops = true) : Moved ops (permE π ops) (idxE π) := by
  simp only [okPi, Bool.and_eq_true] at hp
  obtain ⟨⟨h1, h2⟩, h3⟩ := hp
  have hl : π.length = ops.size := Nat.eq_of_beq_eq_true h1
  have hσ : ∀ j, j < ops.size → idxE π j < ops.size ∧ π[idxE π j]? = some j := fun j hj => by
    have := List.all_eq_true.1 h2 j (List.mem_range.2 hj)
    simp only [Bool.and_eq_true] at this
    refine ⟨of_blt this.1, ?_⟩
    have h := this.2
    split at h
    · rename_i i hi; rw [hi, Nat.eq_of_beq_eq_true h]
    · cases h
  refine ⟨by simp [permE, hl], fun j hj => (hσ j hj).1, fun i j hi hj e => ?_, fun i hi => ?_, fun j o ho => ?_, fun j o ho e he hb => ?_, fun j o g b ho hgd => ?_⟩
  · have := (hσ i hi).2
    rw [e, (hσ j hj).2] at this
    exact (Option.some.inj this).symm
  · have := List.all_eq_true.1 h3 i (List.mem_range.2 hi)
    split at this
    · rename_i j hj
      simp only [Bool.and_eq_true] at this
      exact ⟨j, of_blt this.1, Nat.eq_of_beq_eq_true this.2⟩
    · cases this
  · have hj := (Array.getElem?_eq_some_iff.1 ho).1
    simp only [permE, List.getElem?_toArray, List.getElem?_map, (hσ j hj).2, Option.map_some, ho]
  · have hj := (Array.getElem?_eq_some_iff.1 ho).1
    have := (okM_spec hM ho).1 e he hb
    omega
  · have hj := (Array.getElem?_eq_some_iff.1 ho).1
    have := List.all_eq_true.1 hg j (List.mem_range.2 hj)
    rw [ho] at this
    simp only [hgd, decide_eq_true_eq] at this
    omega

theorem DenG.regionE {P : Program} (hm : P.follows .mixedOrders = true) {ck : CK} (hck : ck.call.Sound P) {cr : CR} (hcr : cr.Sound P) {N id n : Nat} {ops : Array Oper} (hok : okE P cr ops n = true) : DenG true P N (.region id ops true) (fun A h kn _ _ => regE P ck cr N ops n A h kn) := by
  refine ⟨fun A h kn ke kr x e => ?_, fun r a w A h kn ke kr x B e hfr hsz hrel hfree hB Q hQ => ?_⟩
  · cases x
    obtain ⟨A', h', h1, h2, h3⟩ := regE_ends hck hcr e
    exact ⟨.normal, A', h', h1, h2, h3⟩
  · cases x
    have hw0 : Post r h w r h { w with drawn := w.drawn + 1 } := Post.same hrel rfl ⟨rfl, rfl, rfl, fun _ => Nat.le_succ _⟩
    refine wp_region_any hm ?_
    exact regE_any hck hcr hok e hfr hsz hw0.rel (fun i hi => hfree i hi (B.all rfl i)) fun r' a' w' A' h' q1 q2 q3 q4 q5 => hQ r' a' w' A' h' .normal q1 q2 q3 (hw0.trans q4) q5

theorem DenG.regionPE {P : Program} (hm : P.follows .mixedOrders = true) {ck : CK} (hck : ck.call.Sound P) {cr : CR} (hcr : cr.Sound P) {N id n : Nat} {ops : Array Oper} (hok : okPermE P cr ops n = true) : DenG true P N (.region id ops true) (fun A h kn _ _ => regE P ck cr N (permE (piE ops n) ops) (idxE (piE ops n) n) A h kn) := by
  simp only [okPermE, Bool.and_eq_true] at hok
  obtain ⟨⟨⟨hp, hM⟩, hg⟩, hE⟩ := hok
  have hmv := moved_of hp hM hg
  refine ⟨fun A h kn ke kr x e => ?_, fun r a w A h kn ke kr x B e hfr hsz hrel hfree hB Q hQ => ?_⟩
  · cases x
    obtain ⟨A', h', h1, h2, h3⟩ := regE_ends hck hcr e
    exact ⟨.normal, A', h', h1, h2, h3⟩
  · cases x
    have hw0 : Post r h w r h { w with drawn := w.drawn + 1 } := Post.same hrel rfl ⟨rfl, rfl, rfl, fun _ => Nat.le_succ _⟩
    refine wp_region_any hm ?_
    have := regE_any hck hcr hE e hfr hsz hw0.rel (fun i hi => hfree i hi (B.all rfl i)) (Q := Q) fun r' a' w' A' h' q1 q2 q3 q4 q5 => hQ r' a' w' A' h' .normal q1 q2 q3 (hw0.trans q4) q5
    rw [hmv.size] at this
    exact hmv.any _ _ _ _ _ (by simp) (by simp) (fun j hj => by have := hmv.lt j hj; simp [hj, this]) this

end Go.Ev

/- The abstract machine Ev, part O: plain rules for functions whose runs may end in unlike ways. -/
namespace Go.Ev

/-- what a call by continuation comes to, whichever way its run takes -/
def RetK {α : Type} (c : (α → H → Option Unit) → Option Unit) (P : α → H → Prop) : Prop := ∀ kk : α → H → Option Unit, (∀ r h', P r h' → kk r h' = some ()) → c kk = some ()

section
variable {α γ : Type}
theorem RetK.pure {P : α → H → Prop} {r : α} {h : H} (p : P r h) : RetK (fun kk => kk r h) P := fun _ k => k r h p
theorem RetK.mono {c : (α → H → Option Unit) → Option Unit} {P P' : α → H → Prop} (d : RetK c P) (hp : ∀ r h, P r h → P' r h) : RetK c P' := fun kk k => d kk fun r h p => k r h (hp r h p)
theorem RetK.bind {c : (α → H → Option Unit) → Option Unit} {P : α → H → Prop} (d : RetK c P) {f : α → H → (γ → H → Option Unit) → Option Unit} {P' : γ → H → Prop} (hf : ∀ r h, P r h → RetK (f r h) P') : RetK (fun kk => c fun r h => f r h kk) P' :=
  fun kk k => d _ fun r h p => hf r h p kk k
theorem RetK.of {c : Option (α × H)} {P : α → H → Prop} (d : Ret c P) {f : α → H → (γ → H → Option Unit) → Option Unit} {P' : γ → H → Prop} (hf : ∀ r h, P r h → RetK (f r h) P') : RetK (fun kk => c.bind fun r => f r.1 r.2 kk) P' := fun kk k => by
  obtain ⟨r, h', e, p⟩ := d
  rw [e]
  exact hf r h' p kk k
end

/-! ### a range over a map that is not written meanwhile -/

theorem nextMK_of {h : H} {i : Nat} {f : AV → AV → H → Option Unit} {g : Option Unit} (ha : Asked h i) (hn : Nexts h i none → g = some ()) (hs : ∀ k v h', Nexts h i (some (k, v, h')) → f k v h' = some ()) : nextMK h i f g = some () := by
  unfold nextMK
  refine if_pos ⟨ha, fun c hc => ?_⟩
  match c, hc with
  | none, hc => exact hn hc
  | some (k, v, h'), hc => exact hs k v h' hc

section
variable {K V : Type}

structure Iter (h : H) (i m : Nat) (ek : K → AV) (ev : V → AV) (L : List (K × V × Nat)) (clk : Nat) (done rest : List (K × V × Nat)) : Prop where
  gm : h.mapAt m = some (L.map fun x => (ek x.1, ev x.2.1, x.2.2), clk)
  gi : h.get i = some (.miter (some m) clk (done.map (·.2.2)) clk)
  im : i ≠ m
  perm : (done ++ rest).Perm L
  nodup : (L.map (·.2.2)).Nodup
  born : ∀ x ∈ L, x.2.2 < clk

variable {h : H} {i m : Nat} {ek : K → AV} {ev : V → AV} {L : List (K × V × Nat)} {clk : Nat} {done rest : List (K × V × Nat)}

theorem Iter.move {h' : H} (it : Iter h i m ek ev L clk done rest) (h1 : h'.get m = h.get m) (h2 : h'.get i = h.get i) : Iter h' i m ek ev L clk done rest :=
  ⟨(mapAt_congr h1).trans it.gm, h2.trans it.gi, it.im, it.perm, it.nodup, it.born⟩

theorem Iter.apart (it : Iter h i m ek ev L clk done rest) : ∀ x ∈ rest, x.2.2 ∉ done.map (·.2.2) := by
  have hn : ((done ++ rest).map (·.2.2)).Nodup := (it.perm.map _).nodup_iff.2 it.nodup
  rw [List.map_append, List.nodup_append] at hn
  intro x hx hd
  exact hn.2.2 _ hd _ (List.mem_map_of_mem hx) rfl

/-- the next entry, whichever it is of those that are left -/
theorem Iter.next [DecidableEq K] [DecidableEq V] (it : Iter h i m ek ev L clk done rest) {f : AV → AV → H → Option Unit} {g : Option Unit}
    (hf : ∀ x rest' h', rest.Perm (x :: rest') → h'.next = h.next → (∀ j, j ≠ i → h'.get j = h.get j) → Iter h' i m ek ev L clk (done ++ [x]) rest' → f (ek x.1) (ev x.2.1) h' = some ()) (hg : rest = [] → g = some ()) : nextMK h i f g = some () := by
  refine nextMK_of ?_ (fun hc => ?_) fun k v h' hc => ?_
  · unfold Asked
    rw [it.gi]
    simp only [it.gm]
    rintro ⟨_, h2, h3⟩
    cases hL : L with
    | nil => rw [hL] at h2; exact h2 rfl
    | cons x l =>
      have h4 := h3 (ek x.1, ev x.2.1, x.2.2) (List.mem_map.2 ⟨x, by rw [hL]; simp, rfl⟩)
      have := it.born x (by rw [hL]; simp)
      simp only at h4
      omega
  · unfold Nexts at hc
    rw [it.gi] at hc
    simp only [it.gm] at hc
    refine hg ?_
    cases hr : rest with
    | nil => rfl
    | cons x l =>
      have hx : x ∈ rest := by rw [hr]; simp
      have hL : x ∈ L := it.perm.mem_iff.1 (List.mem_append_right _ hx)
      have := hc (ek x.1, ev x.2.1, x.2.2) (List.mem_map.2 ⟨x, hL, rfl⟩) (it.apart x hx)
      have := it.born x hL
      simp only at *
      omega
  · unfold Nexts at hc
    rw [it.gi] at hc
    simp only [it.gm] at hc
    obtain ⟨e, he, hs, rfl, rfl, rfl⟩ := hc
    obtain ⟨x, hx, rfl⟩ := List.mem_map.1 he
    simp only at hs ⊢
    have hxr : x ∈ rest := by
      rcases List.mem_append.1 (it.perm.mem_iff.2 hx) with hd | hr
      · exact absurd (List.mem_map_of_mem hd) hs
      · exact hr
    have hp : rest.Perm (x :: rest.erase x) := List.perm_cons_erase hxr
    refine hf x (rest.erase x) _ hp rfl (fun j hj => get_set_ne hj) ⟨?_, ?_, it.im, ?_, it.nodup, it.born⟩
    · exact (mapAt_congr (get_set_ne (Ne.symm it.im))).trans it.gm
    · rw [get_set_self, List.map_append]; rfl
    · refine List.Perm.trans ?_ it.perm
      rw [List.append_assoc]
      exact (List.Perm.append_left done hp).symm

/-- the entry that was come to -/
theorem Iter.entry {x : K × V × Nat} (it : Iter h i m ek ev L clk (done ++ [x]) rest) {β : Type} (f : AV → AV → Option β) : entryK h i f = f (ek x.1) (ev x.2.1) := by
  have hx : x ∈ L := it.perm.mem_iff.1 (by simp)
  have hfil : (L.map fun y => (ek y.1, ev y.2.1, y.2.2)).filter (fun e => e.2.2 == x.2.2) = [(ek x.1, ev x.2.1, x.2.2)] := by
    rw [List.filter_map]
    have : L.filter ((fun e : AV × AV × Nat => e.2.2 == x.2.2) ∘ fun y => (ek y.1, ev y.2.1, y.2.2)) = [x] := by
      have hn := it.nodup
      clear it
      induction L with
      | nil => cases hx
      | cons y l ih =>
        rw [List.map_cons, List.nodup_cons] at hn
        rw [List.filter_cons]
        simp only [Function.comp]
        rcases List.mem_cons.1 hx with rfl | hx
        · simp only [beq_self_eq_true, if_true]
          congr 1
          rw [List.filter_eq_nil_iff]
          intro z hz e
          have e : z.2.2 = x.2.2 := by simpa using e
          exact hn.1 (List.mem_map.2 ⟨z, hz, e⟩)
        · have hne : ¬ (y.2.2 == x.2.2) = true := by
            intro e
            have e : y.2.2 = x.2.2 := by simpa using e
            exact hn.1 (List.mem_map.2 ⟨x, hx, e.symm⟩)
          rw [if_neg hne]
          exact ih hx hn.2
    rw [this]; rfl
  unfold entryK evEntry
  rw [it.gi]
  simp only [it.gm, List.map_append, List.map_cons, List.map_nil, List.getLast?_append, List.getLast?_singleton, Option.some_or, if_true, hfil]

/-- a range over a map begins -/
theorem Iter.begin0 (hg : h.mapAt m = some (L.map fun x => (ek x.1, ev x.2.1, x.2.2), clk)) (hn : (L.map (·.2.2)).Nodup) (hb : ∀ x ∈ L, x.2.2 < clk) (hm : m < h.next) :
    ∃ it : AObj, (∀ {β : Type} (k : Nat → H → Option β), rangeMK (some m) h k = k h.next (h.new it)) ∧ Iter (h.new it) h.next m ek ev L clk [] L :=
  ⟨.miter (some m) clk [] clk, fun k => by simp only [rangeMK, evRangeM, hg], ⟨(mapAt_congr (get_new_lt hm)).trans hg, get_new_self _ _, by omega, .refl _, hn, hb⟩⟩
theorem Iter.begin {o : AObj} {l : List (K × V)} (hg : h.get m = some o) (ho : MObj ek ev l o) (hm : m < h.next) :
    ∃ L clk, L.map (fun x => (x.1, x.2.1)) = l ∧ ∃ it : AObj, (∀ {β : Type} (k : Nat → H → Option β), rangeMK (some m) h k = k h.next (h.new it)) ∧ Iter (h.new it) h.next m ek ev L clk [] L := by
  obtain ⟨L, clk, rfl, hl, hn, hb⟩ := ho
  exact ⟨L, clk, hl, Iter.begin0 (mapAt_map hg) hn hb hm⟩
end

end Go.Ev

/- The abstract machine Ev, part Xj: strings.Join (where drawnB is false: the kit's Below does not tell that draws are but counted up). -/
namespace Go.Ev
open Go.RowKit

/-! ### a call that leaves all that was there -/

theorem Post.below {r : Ren} {h : H} {w w' : World} (hrel : Rel r h w) (b : Below w.heap.size w w') : Post r h w r h w' where
  le := r.le_refl
  dom := fun i t h1 h2 => by rw [h1] at h2; cases h2
  rel := ⟨hrel.wf, fun i t o h1 h2 => (hrel.obj i t o h1 h2).move r.le_refl (b.block _ (hrel.bound i t h1)), hrel.inj, fun i t h => Nat.lt_of_lt_of_le (hrel.bound i t h) b.size, hrel.glob⟩
  keep := fun k hk _ => b.block k hk
  env := ⟨b.os, b.tape, b.output, fun h => by cases h⟩
  size := b.size
  next := Nat.le_refl _
  fresh := fun i t h1 h2 => by rw [h1] at h2; cases h2
  roKeep := fun i o _ h => ⟨o, h, rfl⟩
  gap := fun i t _ => by omega
  touch := fun i _ h => absurd rfl h

theorem acall_below {P : Program} {f : FuncId} {fn : Func} (hf : P.funcs[f]? = some fn) (hb : fn.body.isNone = false) (hn : (fn.name == "runtime.NumGoroutine") = false) {args : List AV} {v : AV} {h : H}
    (hrun : ∀ (r : Ren) (w : World) (args' : Array Value), Rel r h w → VRL r args args'.toList → Calls P f args' w fun e w' => (∃ v', e = .returned v' ∧ VR r v v') ∧ Below w.heap.size w w') : ACall P f args h v h where
  there := ⟨fn, hf, hb, hn⟩
  next := Nat.le_refl _
  wf := fun h => h
  sim := fun r w args' hrel _ ha => (hrun r w args' hrel ha).mono fun e w' ⟨⟨v', he, hv⟩, b⟩ => ⟨r, v', he, hv, Post.below hrel b⟩

/-! ### strings.Join -/

def joinS (xs : List ByteArray) (sep : ByteArray) : ByteArray := ⟨(Lib.join (xs.map (·.data.toList)) sep.data.toList).toArray⟩
def JoinPre (p : Option (Nat × Nat)) (len : Nat) (c : Cap) (sep : ByteArray) (h : H) (xs : List ByteArray) : Prop :=
  Row h 1 p len c (xs.map AV.str) ∧ xs.length ≤ 140737488355328 ∧ (Lib.join (xs.map (·.data.toList)) sep.data.toList).length ≤ 140737488355328
open Classical in
noncomputable def joinF (p : Option (Nat × Nat)) (len : Nat) (c : Cap) (sep : ByteArray) (h : H) : Option (ByteArray × H) :=
  if hx : ∃ xs, JoinPre p len c sep h xs then some (joinS (Classical.choose hx) sep, h) else none

theorem map_str_inj : ∀ {xs ys : List ByteArray}, xs.map AV.str = ys.map AV.str → xs = ys
  | [], [], _ => rfl
  | x :: xs, y :: ys, h => by
    simp only [List.map_cons, List.cons.injEq, AV.str.injEq] at h
    rw [h.1, map_str_inj h.2]
  | [], _ :: _, h => by simp at h
  | _ :: _, [], h => by simp at h

theorem joinF_of {p : Option (Nat × Nat)} {len : Nat} {c : Cap} {sep : ByteArray} {h : H} {xs : List ByteArray} (r : Row h 1 p len c (xs.map AV.str)) (hN : xs.length ≤ 140737488355328) (hlen : (Lib.join (xs.map (·.data.toList)) sep.data.toList).length ≤ 140737488355328) : joinF p len c sep h = some (joinS xs sep, h) := by
  have hx : ∃ xs, JoinPre p len c sep h xs := ⟨xs, r, hN, hlen⟩
  unfold joinF
  rw [dif_pos hx]
  have := map_str_inj ((Classical.choose_spec hx).1.unique r)
  rw [this]

theorem joinF_called {P : Program} {f : FuncId} {fn : Func} (hf : P.funcs[f]? = some fn) (hb : fn.body.isNone = false) (hn : (fn.name == "runtime.NumGoroutine") = false)
    (h0 : ∀ (a : Option Addr) (c : Nat) (sep : ByteArray) (w : World), Calls P f #[.slice a 0 c, .string sep] w fun e w' => e = .returned (.string ⟨#[]⟩) ∧ w' = w)
    (h1 : ∀ (bk o c : Nat) (xs : List ByteArray) (sep : ByteArray) (w : World), (∀ (j : Nat) x, xs[j]? = some x → w.cell? ⟨bk, o + j, none⟩ = some (.string x)) → bk < w.heap.size → xs.length ≤ 140737488355328 → xs.length ≤ c → (Lib.join (xs.map (·.data.toList)) sep.data.toList).length ≤ 140737488355328 →
      Calls P f #[.slice (some ⟨bk, o, none⟩) xs.length c, .string sep] w fun e w' => e = .returned (.string ⟨(Lib.join (xs.map (·.data.toList)) sep.data.toList).toArray⟩) ∧ Below w.heap.size w w')
    {p : Option (Nat × Nat)} {len : Nat} {c : Cap} {sep : ByteArray} {h : H} {q : ByteArray × H} (e : joinF p len c sep h = some q) : Called P f [.slice p len c, .str sep] h (.str q.1) q.2 := by
  unfold joinF at e
  split at e
  · rename_i hx
    cases e
    obtain ⟨row, hN, hlen⟩ := Classical.choose_spec hx
    generalize Classical.choose hx = xs at row hN hlen
    refine .inl (acall_below hf hb hn fun r w args' hrel ha => ?_)
    obtain ⟨v, u, rfl, hv, hu⟩ := ha.two
    cases hu
    have hl := row.length
    simp only [List.length_map, Nat.mul_one] at hl
    by_cases hz : xs = []
    · subst hz
      obtain rfl : len = 0 := by simpa using hl.symm
      have : ∃ a c', v = .slice a 0 c' := by cases hv <;> exact ⟨_, _, rfl⟩
      obtain ⟨a, c', rfl⟩ := this
      exact (h0 a c' sep w).mono fun e w' ⟨he, hw⟩ => ⟨⟨_, he, .str _⟩, by rw [hw]; exact .refl _ _⟩
    · have hpos : 0 < xs.length := List.length_pos_iff.2 hz
      generalize hgx : xs.map AV.str = vs at row
      cases row with
      | nil => have := congrArg List.length hgx; simp at this; exact absurd this hz
      | row hb' hg hvs hle hc =>
        rename_i b o cs ro
        rw [← hgx] at hvs
        have go : ∀ (t : Tgt) (cap : Nat), r b = some t → xs.length ≤ cap → Calls P f #[.slice (some ⟨t.blk, t.base + o, none⟩) len cap, .string sep] w fun e w' => (∃ v', e = .returned v' ∧ VR r (.str (joinS xs sep)) v') ∧ Below w.heap.size w w' := by
          intro t cap hr hcap
          have hcell : ∀ (j : Nat) x, xs[j]? = some x → w.cell? ⟨t.blk, t.base + o + j, none⟩ = some (.string x) ∧ t.blk < w.heap.size := by
            intro j x hj
            have hj' : cs[o + j]? = some (.str x) := by
              have : (xs.map AV.str)[j]? = some (.str x) := by rw [List.getElem?_map, hj]; rfl
              rw [← hvs, List.getElem?_take] at this
              split at this
              · rwa [List.getElem?_drop] at this
              · cases this
            obtain ⟨v, h1, h2, h3⟩ := cell_str hrel hr hg hj'
            cases h2
            exact ⟨by rw [Nat.add_assoc]; exact h1, h3⟩
          have h00 := hcell 0 _ (List.getElem?_eq_getElem hpos)
          rw [← hl]
          exact (h1 t.blk (t.base + o) cap xs sep w (fun j x hj => (hcell j x hj).1) h00.2 hN hcap hlen).mono fun e w' ⟨he, hw⟩ => ⟨⟨_, he, .str _⟩, hw⟩
        cases hv with
        | slice len c hr =>
          rcases hc with hc | ⟨k, hc, hk⟩
          · cases hc
          · cases hc; exact go _ _ hr (by omega)
        | sliceRest len size cap hr hcp hlc => exact go _ _ hr (by omega)
        | sliceBare a => omega
        | sliceEnd a size hr => omega
  · cases e

end Go.Ev

/- The abstract machine Ev: objects that nobody writes, ahead of a law (rows, whole tables). -/
namespace Go.Ev
open Go.RowKit Go.Sort

abbrev Objs := List (Option Tgt × AObj)
def HR (objs : Objs) : H := ⟨objs.length, fun i => (objs[i]?).map (·.2)⟩
def rR (objs : Objs) : Ren := fun i => (objs[i]?).bind (·.1)

theorem relR {objs : Objs} {w : World} (h : ∀ x ∈ objs, ∀ t, x.1 = some t → OR (rR objs) w t x.2 ∧ t.blk < w.heap.size) (hro : ∀ x ∈ objs, x.2.ro = true) (hg : GL (rR objs)) : Rel (rR objs) (HR objs) w where
  wf := fun i o hi => by
    simp only [HR, Option.map_eq_some_iff] at hi ⊢
    obtain ⟨x, hx, _⟩ := hi
    exact (List.getElem?_eq_some_iff.1 hx).1
  obj := fun i t o hr hi => by
    simp only [HR, Option.map_eq_some_iff, rR, Option.bind_eq_some_iff] at hi hr
    obtain ⟨x, hx, rfl⟩ := hi
    obtain ⟨y, hy, ht⟩ := hr
    rw [hx] at hy; cases hy
    exact (h x (List.mem_of_getElem? hx) t ht).1
  inj := fun i j ti tj oi oj _ _ hi hj _ => by
    simp only [HR, Option.map_eq_some_iff] at hi hj
    obtain ⟨x, hx, rfl⟩ := hi
    obtain ⟨y, hy, rfl⟩ := hj
    exact .inr ⟨hro x (List.mem_of_getElem? hx), hro y (List.mem_of_getElem? hy)⟩
  bound := fun i t hr => by
    simp only [rR, Option.bind_eq_some_iff] at hr
    obtain ⟨y, hy, ht⟩ := hr
    exact (h y (List.mem_of_getElem? hy) t ht).2
  glob := hg

/-! ### strconv.Itoa, by the kit's shelf -/

theorem Post.grewT {r : Ren} {h : H} {w : World} (hrel : Rel r h w) (k : Nat) (os : Array Obj) : Post r h w r h (grow (w.drewN k) os) where
  env := ⟨rfl, rfl, rfl, fun _ => Nat.le_add_right _ _⟩
  le := r.le_refl
  dom := fun i t h1 h2 => by rw [h1] at h2; cases h2
  rel := ⟨hrel.wf, fun i t o h1 h2 => (hrel.obj i t o h1 h2).move r.le_refl (by have := hrel.bound i t h1; simp [grow, World.drewN, Array.getElem?_append, this]), hrel.inj, fun i t h => by have := hrel.bound i t h; simp [grow, World.drewN]; omega, hrel.glob⟩
  keep := fun b hb _ => by simp [grow, World.drewN, Array.getElem?_append, hb]
  size := by simp [grow, World.drewN]
  next := Nat.le_refl _
  fresh := fun i t h1 h2 => by rw [h1] at h2; cases h2
  roKeep := fun i o _ h => ⟨o, h, rfl⟩
  gap := fun i t _ => by omega
  touch := fun i _ h => absurd rfl h

def pow10AV : List AV := Lib.pow10Tab.map (.int .u64)
def itoaS (n : Int) : ByteArray := ⟨(Lib.itoa n).toArray⟩
open Classical in
/-- 'i': the block of the table internal/strconv.uint64pow10 -/
noncomputable def itoaF (i : Nat) (n : Int) (h : H) : Option (ByteArray × H) :=
  if h.get i = some (.tab pow10AV) ∧ -9223372036854775808 ≤ n ∧ n ≤ 9223372036854775807 then some (itoaS n, h) else none
theorem itoaF_of {i : Nat} {n : Int} {h : H} (hg : h.get i = some (.tab pow10AV)) (h0 : -9223372036854775808 ≤ n) (h1 : n ≤ 9223372036854775807) : itoaF i n h = some (itoaS n, h) := if_pos ⟨hg, h0, h1⟩

theorem tabIs_of {P : Program} {r : Ren} {h : H} {w : World} (hrel : Rel r h w) {name : String} {g i : Nat} (hn : P.globalNamed name = some g) (hi : glFind glTab g = some i) {k : IntKind} {zs : List Int} (hg : h.get i = some (.tab (zs.map (.int k)))) : Lib.TabIs P w name k zs := by
  obtain ⟨row, hr⟩ := hrel.glob g i hi
  obtain ⟨C, e, fz, h1, h2, h3, h4⟩ := hrel.obj i _ _ hr hg
  unfold Lib.TabIs World.var?
  rw [hn, Option.bind_some]
  simp only at h1
  rw [h1]
  simp only [Option.some.injEq]
  apply Array.ext_getElem?
  intro j
  simp only [List.length_map] at h3
  by_cases hj : j < zs.length
  · have hc : C[j]? = some (C[j]'(by omega)) := Array.getElem?_eq_getElem (by omega)
    have := h4 j (.int k zs[j]) _ (by simp [hj]) hc
    rw [hc]
    generalize C[j]'(by omega) = v at this
    cases this
    simp [hj]
  · rw [Array.getElem?_eq_none (by omega), Array.getElem?_eq_none (by simp; omega)]

theorem itoaF_called {P : Program} {f : FuncId} {fn : Func} (hf : P.funcs[f]? = some fn) (hb : fn.body.isNone = false) (hn : (fn.name == "runtime.NumGoroutine") = false) {g i : Nat} (hg : P.globalNamed "internal/strconv.uint64pow10" = some g) (hi : glFind glTab g = some i)
    (hit : ∀ (n : Int), -9223372036854775808 ≤ n → n ≤ 9223372036854775807 → ∀ w : World, Lib.TabIs P w "internal/strconv.uint64pow10" .u64 Lib.pow10Tab → Calls P f #[.int .i64 n] w fun e w' => e = .returned (.string ⟨(Lib.itoa n).toArray⟩) ∧ ∃ k os, w' = grow (w.drewN k) os)
    {n : Int} {h : H} {q : ByteArray × H} (e : itoaF i n h = some q) : Called P f [.int .i64 n] h (.str q.1) q.2 := by
  unfold itoaF at e
  split at e
  · rename_i hx
    cases e
    refine .inl ⟨⟨fn, hf, hb, hn⟩, Nat.le_refl _, fun h => h, fun r w args' hrel _ ha => ?_⟩
    obtain ⟨v, rfl, hv⟩ := ha.one
    cases hv
    refine (hit n hx.2.1 hx.2.2 w (tabIs_of hrel hg hi hx.1)).mono fun e w' ⟨he, k, os, hw⟩ => ?_
    subst hw
    exact ⟨r, _, he, .str _, Post.grewT hrel k os⟩
  · cases e
end Go.Ev
namespace Go.Ev
/-! ### tables that a row lists -/
theorem tab_block {P : Program} {W : World} {name : String} {k : IntKind} {zs : List Int} {g : Nat} (h : Lib.TabIs P W name k zs) (hg : P.globalNamed name = some g) : ∃ e fz, W.heap[g]? = some (.cells (zs.map fun z => Value.int k z).toArray e fz) := by
  unfold Lib.TabIs World.var? at h
  rw [hg, Option.bind_some] at h
  split at h
  · rename_i cs e fz hc
    cases h
    exact ⟨e, fz, hc⟩
  · cases h
theorem tab_OR {P : Program} {W : World} {name : String} {k : IntKind} {zs : List Int} {g : Nat} (h : Lib.TabIs P W name k zs) (hg : P.globalNamed name = some g) (r : Ren) (row : Nat) : OR r W ⟨g, 0, row⟩ (.tab (zs.map (.int k))) ∧ g < W.heap.size := by
  obtain ⟨e, fz, hb⟩ := tab_block h hg
  refine ⟨⟨_, e, fz, hb, rfl, by simp, fun i a v ha hv => ?_⟩, World.block_lt hb⟩
  simp only [List.getElem?_map, Option.map_eq_some_iff, List.getElem?_toArray] at ha hv
  obtain ⟨x, hx, rfl⟩ := ha
  obtain ⟨y, hy, rfl⟩ := hv
  rw [hx] at hy; cases hy
  exact .int _ _
theorem row_OR {P : Program} {W : World} {name : String} {k : IntKind} {zs : List Int} {g : Nat} (h : Lib.TabIs P W name k zs) (hg : P.globalNamed name = some g) (r : Ren) : OR r W ⟨g, 0, zs.length⟩ (.cells (zs.map (.int k)) true) ∧ g < W.heap.size := by
  obtain ⟨e, fz, hb⟩ := tab_block h hg
  refine ⟨⟨_, e, fz, hb, by simp, by simp, fun i a v ha hv => ?_, fun h => by cases h⟩, World.block_lt hb⟩
  simp only [List.getElem?_map, Option.map_eq_some_iff, List.getElem?_toArray, Nat.zero_add] at ha hv
  obtain ⟨x, hx, rfl⟩ := ha
  obtain ⟨y, hy, rfl⟩ := hv
  rw [hx] at hy; cases hy
  exact .int _ _
end Go.Ev

/- The abstract machine Ev: all functions of a program at once, by how deep calls and rounds may go. -/
namespace Go.Ev

section
variable {β : Type}

/-- which slots live on, by the place's number (1: the whole; 2p, 2p + 1: the parts of p) -/
abbrev Cuts := List (Nat × List Nat)
def cutAt : Cuts → Nat → Option (List Nat)
  | [], _ => none
  | (q, l) :: cs, p => match Nat.beq q p with | true => some l | false => cutAt cs p

noncomputable def cutC (js : Cuts) (p : Nat) (X : KC β) : KC β := match cutAt js p with | some l => normC l (shutK X) | none => X
noncomputable def cutL (ls : Cuts) (p n : Nat) (X : KC β) : KC β := match cutAt ls p with | some l => normC l (loopL l (shutK X) n) | none => fun _ _ _ _ _ => none
noncomputable def regG (P : Program) (ck : CK) (N : Nat) (ops : Array Oper) (draw : Bool) : KC β := match !draw || okRegion P ops with | true => regC P ck N ops draw | false => fun _ _ _ _ _ => none

/-- what a region of operations means -/
abbrev RegF (β : Type) := Array Oper → Bool → KC β

noncomputable def den (g : RegF β) (N : Nat) (js ls : Cuts) (n : Nat) (c : Code) : Nat → KC β :=
  Code.rec (motive := fun _ => Nat → KC β) (fun _ => skipC) (fun _ ops draw _ => g ops draw)
    (fun _ _ A B p => seqC (A (2 * p)) (cutC js (2 * p + 1) (B (2 * p + 1))))
    (fun x _ _ A B p => condC N x (A (2 * p)) (B (2 * p + 1)))
    (fun i _ A p => blockC i (A (2 * p)))
    (fun _ A p => cutL ls p n (A (2 * p)))
    (fun _ _ _ _ _ _ _ => fun _ _ _ _ _ => none)
    (fun i _ => exitC i)
    (fun _ A p => A (2 * p))
    (fun _ _ => skipC)
    (fun _ _ => fun _ _ _ _ _ => none)
    (fun _ => retC)
    (fun _ _ => fun _ _ _ _ _ => none) c

theorem DenG.none {S : Bool} {P : Program} {N : Nat} {c : Code} : DenG S P N c (fun _ _ _ _ _ => none : KC β) where
  ends := fun _ _ _ _ _ _ e => by cases e
  sim := fun _ _ _ _ _ _ _ _ _ _ e => by cases e

theorem DenG.cutC {S : Bool} {P : Program} {N : Nat} {c : Code} {js : Cuts} {p : Nat} {X : KC β} (d : DenG S P N c X) : DenG S P N c (cutC js p X) := by
  unfold Ev.cutC
  split
  · exact DenG.norm _ (shutD d)
  · exact d
theorem DenG.cutL {S : Bool} {P : Program} {N : Nat} {c : Code} {ls : Cuts} {p n : Nat} {X : KC β} (d : DenG S P N c X) : DenG S P N (.loop c) (cutL ls p n X) := by
  unfold Ev.cutL
  split
  · exact DenG.norm _ (DenG.loopL _ (shutD d) n)
  · exact DenG.none
theorem DenG.regG {S : Bool} {P : Program} (hm : P.follows .mixedOrders = true) {ck : CK} (hck : ck.call.Sound P) {N id : Nat} {ops : Array Oper} {draw : Bool} : DenG S P N (.region id ops draw) (regG P ck N ops draw : KC β) := by
  unfold Ev.regG
  split
  · rename_i h; exact DenG.region hm hck h
  · exact DenG.none

theorem den_sound {S : Bool} {P : Program} {g : RegF β} {N : Nat} (hg : ∀ id ops draw, DenG S P N (.region id ops draw) (g ops draw)) {js ls : Cuts} {n : Nat} : ∀ (c : Code) (p : Nat), DenG S P N c (den g N js ls n c p : KC β)
  | .skip, _ => DenG.skip
  | .region id ops draw, _ => hg id ops draw
  | .seq a b, p => by
    show DenG S P N (.seq a b) (seqC (den g N js ls n a (2 * p)) (Ev.cutC js (2 * p + 1) (den g N js ls n b (2 * p + 1))))
    exact DenG.seq (den_sound hg a (2 * p)) (DenG.cutC (den_sound hg b (2 * p + 1)))
  | .cond _ a b, p => DenG.cond (den_sound hg a (2 * p)) (den_sound hg b (2 * p + 1))
  | .block _ c, p => DenG.block (den_sound hg c (2 * p))
  | .loop c, p => DenG.cutL (den_sound hg c (2 * p))
  | .rangeFunc _ _ _ _, _ => DenG.none
  | .exit _, _ => DenG.exit
  | .scope c, p => DenG.scope (den_sound hg c (2 * p))
  | .label _, _ => DenG.label
  | .goto _, _ => DenG.none
  | .ret, _ => DenG.ret
  | .refuse _, _ => DenG.none

/-! ### from within: at a place in the code, with all that follows -/

/-- on from the place at 'path', whose rounds still to go are told for each loop on the way -/
noncomputable def jmp (g : RegF β) (N : Nat) (js ls : Cuts) (n : Nat) : List Nat → Code → Nat → List Nat → KC β
  | [], .loop c, p, m :: _ => match cutAt ls p with | some l => loopL l (shutK (den g N js ls n c (2 * p))) m | none => fun _ _ _ _ _ => none
  | [], c, p, _ => shutK (den g N js ls n c p)
  | 0 :: t, .seq a b, p, ms => fun A h kn ke kr => jmp g N js ls n t a (2 * p) ms A h (fun A h => cutC js (2 * p + 1) (den g N js ls n b (2 * p + 1)) A h kn ke kr) ke kr
  | _ :: t, .seq _ b, p, ms => fun A h kn ke kr => jmp g N js ls n t b (2 * p + 1) ms A h kn ke kr
  | 0 :: t, .cond _ a _, p, ms => fun A h kn ke kr => jmp g N js ls n t a (2 * p) ms A h kn ke kr
  | _ :: t, .cond _ _ b, p, ms => fun A h kn ke kr => jmp g N js ls n t b (2 * p + 1) ms A h kn ke kr
  | _ :: t, .block i c, p, ms => fun A h kn ke kr => jmp g N js ls n t c (2 * p) ms A h kn (fun j A h => cond (Nat.beq j i) (kn A h) (ke j A h)) kr
  | _ :: t, .scope c, p, ms => fun A h kn ke kr => jmp g N js ls n t c (2 * p) ms A h kn ke kr
  | _ :: t, .loop c, p, m :: ms => fun A h kn ke kr =>
    match cutAt ls p with
    | some l => jmp g N js ls n t c (2 * p) ms A h (fun A h => loopL l (shutK (den g N js ls n c (2 * p))) m (norm l A) h kn ke kr) ke kr
    | none => none
  | _, _, _, _ => fun _ _ _ _ _ => none

/-- the same, the place itself opened; a loop with one round less -/
noncomputable def jmpO (g : RegF β) (N : Nat) (js ls : Cuts) (n : Nat) : List Nat → Code → Nat → List Nat → KC β
  | [], .loop c, p, m :: _ => match cutAt ls p with | some l => (match m with | 0 => fun _ _ _ _ _ => none | m + 1 => fun A h kn ke kr => den g N js ls n c (2 * p) A h (fun A h => loopL l (shutK (den g N js ls n c (2 * p))) m (norm l A) h kn ke kr) ke kr) | none => fun _ _ _ _ _ => none
  | [], c, p, _ => den g N js ls n c p
  | 0 :: t, .seq a b, p, ms => fun A h kn ke kr => jmpO g N js ls n t a (2 * p) ms A h (fun A h => cutC js (2 * p + 1) (den g N js ls n b (2 * p + 1)) A h kn ke kr) ke kr
  | _ :: t, .seq _ b, p, ms => fun A h kn ke kr => jmpO g N js ls n t b (2 * p + 1) ms A h kn ke kr
  | 0 :: t, .cond _ a _, p, ms => fun A h kn ke kr => jmpO g N js ls n t a (2 * p) ms A h kn ke kr
  | _ :: t, .cond _ _ b, p, ms => fun A h kn ke kr => jmpO g N js ls n t b (2 * p + 1) ms A h kn ke kr
  | _ :: t, .block i c, p, ms => fun A h kn ke kr => jmpO g N js ls n t c (2 * p) ms A h kn (fun j A h => cond (Nat.beq j i) (kn A h) (ke j A h)) kr
  | _ :: t, .scope c, p, ms => fun A h kn ke kr => jmpO g N js ls n t c (2 * p) ms A h kn ke kr
  | _ :: t, .loop c, p, m :: ms => fun A h kn ke kr =>
    match cutAt ls p with
    | some l => jmpO g N js ls n t c (2 * p) ms A h (fun A h => loopL l (shutK (den g N js ls n c (2 * p))) m (norm l A) h kn ke kr) ke kr
    | none => none
  | _, _, _, _ => fun _ _ _ _ _ => none

theorem jmp_open {g : RegF β} {N : Nat} {js ls : Cuts} {n : Nat} (t : List Nat) : ∀ (c : Code) (p : Nat) (ms : List Nat) (A : KF) (h : H) (kn : KF → H → Option β) (ke : Nat → KF → H → Option β) (kr : KF → H → Option β),
    jmp g N js ls n t c p ms A h kn ke kr = jmpO g N js ls n t c p ms A h kn ke kr := by
  induction t with
  | nil =>
    intro c p ms A h kn ke kr
    cases c with
    | loop c =>
      cases ms with
      | nil => simp only [jmp, jmpO, shutK_eq]
      | cons m ms =>
        simp only [jmp, jmpO]
        cases cutAt ls p with
        | none => rfl
        | some l =>
          cases m with
          | zero => rfl
          | succ m => simp only [loopL, shutK_eq]
    | _ => simp only [jmp, jmpO, shutK_eq]
  | cons x t ih =>
    intro c p ms A h kn ke kr
    cases c with
    | seq a b => cases x <;> simp only [jmp, jmpO, ih]
    | cond y a b => cases x <;> simp only [jmp, jmpO, ih]
    | block i c => simp only [jmp, jmpO, ih]
    | scope c => simp only [jmp, jmpO, ih]
    | loop c => cases ms <;> simp only [jmp, jmpO, ih]
    | _ => simp only [jmp, jmpO]

/-! ### a program's functions -/

/-- a function that is walked: where its ways meet, and its loops -/
structure FEnt (P : Program) where
  id : Nat
  fn : Func
  js : Cuts
  ls : Cuts
  ok : P.funcs[id]? = some fn
  nm : (fn.name == "runtime.NumGoroutine") = false
  bd : fn.body.isSome = true

def fnd {P : Program} : List (FEnt P) → Nat → Option (FEnt P)
  | [], _ => none
  | e :: l, f => match Nat.beq e.id f with | true => some e | false => fnd l f

theorem fnd_id {P : Program} {f : Nat} {e : FEnt P} : ∀ {l : List (FEnt P)}, fnd l f = some e → e.id = f
  | [], h => by cases h
  | x :: l, h => by
    unfold fnd at h
    split at h
    · rename_i hb; cases h; exact Nat.eq_of_beq_eq_true hb
    · exact fnd_id h

def tupK (ss : List Shape) (v : AV) (f : AV → Option β) : Option β := asTup v fun l => shapesK ss l fun us => f (.tup us)
def asFn (v : AV) (f : Nat → List AV → List AV → Option β) : Option β := match v with | .func g a b => f g a b | _ => none
def crc (P : Program) (rts : List TypeId) (v : AV) (f : AV → Option β) : Option β :=
  match rts with
  | [t] => (match P.underlying t with | some (.func _ _ _) => asFn v fun g a b => f (.func g a b) | _ => shapeK (rowShape P t) v f)
  | ts => tupK (ts.map (rowShape P)) v f

theorem crc_some {P : Program} {rts : List TypeId} {v : AV} {f : AV → Option β} {x : β} (h : crc P rts v f = some x) : f v = some x := by
  unfold crc at h
  split at h
  · split at h
    · unfold asFn at h
      split at h
      · exact h
      · cases h
    · exact shapeK_some _ h
  · unfold tupK at h
    obtain ⟨vs, rfl, h⟩ := asTup_some h
    exact shapesK_some _ (f := fun us => f (.tup us)) h

end

section
variable {β γ : Type} (g : β → Option γ)
mutual
theorem shapeK_bind : ∀ (s : Shape) (v : AV) (f : AV → Option β), (shapeK s v f).bind g = shapeK s v fun u => (f u).bind g
  | .int k, v, f => by simp only [shapeK, asInt_bind]
  | .bool, v, f => by simp only [shapeK, asBool_bind]
  | .str, v, f => by simp only [shapeK, asStr_bind]
  | .ptr, v, f => by simp only [shapeK, asPtr_bind]
  | .slice, v, f => by simp only [shapeK, asSlice_bind]
  | .map, v, f => by simp only [shapeK, asMap_bind]
  | .any, v, f => by simp only [shapeK]
  | .row, v, f => by simp only [shapeK, asAgg_bind]
  | .cells l, v, f => by
    simp only [shapeK, asAgg_bind]
    congr 1
    funext vs
    exact shapesK_bind l vs fun us => f (.agg us)
theorem shapesK_bind : ∀ (ss : List Shape) (vs : List AV) (f : List AV → Option β), (shapesK ss vs f).bind g = shapesK ss vs fun us => (f us).bind g
  | [], vs, f => by simp only [shapesK, l0_bind]
  | s :: ss, vs, f => by
    simp only [shapesK, lc_bind]
    congr 1
    funext v vs
    rw [shapeK_bind s v]
    congr 1
    funext u
    exact shapesK_bind ss vs fun us => f (u :: us)
end
theorem crc_bind (P : Program) (rts : List TypeId) (v : AV) (f : AV → Option β) : (crc P rts v f).bind g = crc P rts v fun u => (f u).bind g := by
  unfold crc
  split
  · split
    · unfold asFn
      split <;> rfl
    · exact shapeK_bind g _ v f
  · unfold tupK
    rw [asTup_bind]
    congr 1
    funext l
    exact shapesK_bind g _ l fun us => f (.tup us)
end

section
/-- the answers' types of a function -/
def rtsAt : List (Nat × List TypeId) → Nat → Option (List TypeId)
  | [], _ => none
  | (g, l) :: t, f => match Nat.beq g f with | true => some l | false => rtsAt t f

noncomputable def resF (P : Program) (N : Nat) (rs : Array ResultVar) : KF → H → Option (AV × H) := fun A h => resK P N A h rs.toList fun vs => some (oneOf vs, h)

/-- the tables of a program: which functions are walked; what others answer -/
structure Tab (P : Program) where
  tbl : List (FEnt P)
  leaf : Nat → CK
  sound : ∀ n, (leaf n).call.Sound P
  /-- the types of the answers that are looked at -/
  rts : List (Nat × List TypeId)

def crF {β : Type} {P : Program} (T : Tab P) (f : Nat) (v : AV) (k : AV → Option β) : Option β := match rtsAt T.rts f with | some l => crc P l v k | none => k v
theorem crF_some {β : Type} {P : Program} {T : Tab P} {f : Nat} {v : AV} {k : AV → Option β} {x : β} (h : crF T f v k = some x) : k v = some x := by
  unfold crF at h
  split at h
  · exact crc_some h
  · exact h
theorem crF_bind {β γ : Type} {P : Program} {T : Tab P} (g : β → Option γ) (f : Nat) (v : AV) (k : AV → Option β) : (crF T f v k).bind g = crF T f v fun u => (k u).bind g := by
  unfold crF
  split
  · exact crc_bind g P _ v k
  · rfl

def ckOf {P : Program} (T : Tab P) (call : CallFn) : CK where
  run := fun f args h k => (call f args h).bind fun q => crF T f q.1 fun v => k v q.2
  nat := by
    intro β f args h k
    rw [Option.bind_assoc]
    congr 1
    funext q
    rw [crF_bind]
    rfl

noncomputable def runE {P : Program} (ck : CK) (n : Nat) (e : FEnt P) (args : List AV) (h : H) : Option (AV × H) :=
  match Nat.ble args.length e.fn.ntmps with
  | true => den (regG P ck e.fn.ntmps) e.fn.ntmps e.js e.ls n (bodyOf e.fn) 1 (argsF args 0) h (resF P e.fn.ntmps e.fn.results) (fun _ _ _ => none) (resF P e.fn.ntmps e.fn.results)
  | false => none

noncomputable def callF {P : Program} (T : Tab P) (n : Nat) : CallFn :=
  Nat.rec (motive := fun _ => CallFn) (fun _ _ _ => none)
    (fun n c f args h => match fnd T.tbl f with | some e => runE (ckOf T c) n e args h | none => (T.leaf n).call f args h) n

theorem ckOf_sound {P : Program} {T : Tab P} {call : CallFn} (hc : call.Sound P) : (ckOf T call).call.Sound P := by
  intro f args h v h' e
  obtain ⟨q, h1, h2⟩ := Option.bind_eq_some_iff.1 e
  have := crF_some h2
  cases this
  exact hc _ _ _ _ _ h1

theorem runE_acall {P : Program} (hm : P.follows .mixedOrders = true) {ck : CK} (hck : ck.call.Sound P) {n : Nat} {e : FEnt P} {args : List AV} {h h' : H} {v : AV} (r : runE ck n e args h = some (v, h')) : ACall P e.id args h v h' := by
  obtain ⟨c, hb⟩ := Option.isSome_iff_exists.1 e.bd
  unfold runE at r
  split at r
  · rename_i hl
    have hbo : bodyOf e.fn = c := by unfold bodyOf; rw [hb]
    rw [hbo] at r
    exact acall_of (k := fun v h => some (v, h)) (den_sound (S := false) (fun _ _ _ => DenG.regG hm hck) c 1) e.ok hb e.nm rfl (Nat.le_of_ble_eq_true hl) r fun v1 h1 e1 => by cases e1; exact ⟨rfl, rfl⟩
  · cases r

theorem callF_sound {P : Program} (hm : P.follows .mixedOrders = true) (T : Tab P) : ∀ n, (callF T n).Sound P
  | 0 => fun _ _ _ _ _ e => by cases e
  | n + 1 => fun f args h v h' e => by
    change (match fnd T.tbl f with | some e => runE (ckOf T (callF T n)) n e args h | none => (T.leaf n).call f args h) = some (v, h') at e
    split at e
    · rename_i en he
      have := fnd_id he
      subst this
      exact .inl (runE_acall hm (ckOf_sound (callF_sound hm T n)) e)
    · exact T.sound n _ _ _ _ _ e

/-- on from a place of a function -/
noncomputable def J {P : Program} (T : Tab P) (n : Nat) (e : FEnt P) (t ms : List Nat) (A : KF) (h : H) : Option (AV × H) :=
  jmp (regG P (ckOf T (callF T n)) e.fn.ntmps) e.fn.ntmps e.js e.ls n t (bodyOf e.fn) 1 ms A h (resF P e.fn.ntmps e.fn.results) (fun _ _ _ => none) (resF P e.fn.ntmps e.fn.results)
noncomputable def JO {P : Program} (T : Tab P) (n : Nat) (e : FEnt P) (t ms : List Nat) (A : KF) (h : H) : Option (AV × H) :=
  jmpO (regG P (ckOf T (callF T n)) e.fn.ntmps) e.fn.ntmps e.js e.ls n t (bodyOf e.fn) 1 ms A h (resF P e.fn.ntmps e.fn.results) (fun _ _ _ => none) (resF P e.fn.ntmps e.fn.results)
theorem J_eq {P : Program} (T : Tab P) (n : Nat) (e : FEnt P) (t ms : List Nat) (A : KF) (h : H) : J T n e t ms A h = JO T n e t ms A h := jmp_open t _ 1 ms A h _ _ _

/-! ### small names -/

variable {β : Type}
def lI (l : List AV) (f : Int → List AV → Option β) : Option β := lc l fun v l => asInt .i64 v fun x => f x l
def lB (l : List AV) (f : Bool → List AV → Option β) : Option β := lc l fun v l => asBool v fun x => f x l
def lS (l : List AV) (f : ByteArray → List AV → Option β) : Option β := lc l fun v l => asStr v fun x => f x l
def lP (l : List AV) (f : Option (Nat × Nat) → List AV → Option β) : Option β := lc l fun v l => asPtr v fun x => f x l
def lL (l : List AV) (f : Option (Nat × Nat) → Nat → Cap → List AV → Option β) : Option β := lc l fun v l => asSlice v fun x n c => f x n c l
def lA (l : List AV) (f : List AV → List AV → Option β) : Option β := lc l fun v l => asAgg v fun x => f x l
def lM (l : List AV) (f : Option Nat → List AV → Option β) : Option β := lc l fun v l => asMap v fun x => f x l
@[simp] theorem extK_of {vs : List AV} {i : Nat} {v : AV} (hv : vs[i]? = some v) (k : AV → Option β) : extK (.tup vs) i k = k v := by simp only [extK, hv]
@[simp] theorem asTup_tup (l : List AV) (f : List AV → Option β) : asTup (.tup l) f = f l := nr rfl
abbrev Pt := Option (Nat × Nat)
abbrev Bs := ByteArray

@[simp] theorem lI_of (x : Int) (l : List AV) (f : Int → List AV → Option β) : lI (.int .i64 x :: l) f = f x l := nr rfl
@[simp] theorem lB_of (x : Bool) (l : List AV) (f : Bool → List AV → Option β) : lB (.bool x :: l) f = f x l := nr rfl
@[simp] theorem lS_of (x : ByteArray) (l : List AV) (f : ByteArray → List AV → Option β) : lS (.str x :: l) f = f x l := nr rfl
@[simp] theorem lP_of (x : Option (Nat × Nat)) (l : List AV) (f : Option (Nat × Nat) → List AV → Option β) : lP (.ptr x :: l) f = f x l := nr rfl
@[simp] theorem lL_of (x : Option (Nat × Nat)) (n : Nat) (c : Cap) (l : List AV) (f : Option (Nat × Nat) → Nat → Cap → List AV → Option β) : lL (.slice x n c :: l) f = f x n c l := nr rfl
@[simp] theorem lA_of (x : List AV) (l : List AV) (f : List AV → List AV → Option β) : lA (.agg x :: l) f = f x l := nr rfl
@[simp] theorem lM_of (x : Option Nat) (l : List AV) (f : Option Nat → List AV → Option β) : lM (.map x :: l) f = f x l := nr rfl
@[simp] theorem asFn_of (g : Nat) (a b : List AV) (f : Nat → List AV → List AV → Option β) : asFn (.func g a b) f = f g a b := nr rfl
end
end Go.Ev

/- The abstract machine Ev: functions whose runs may end in unlike ways (those that range over a map, and those that call such), in one table beside the others. -/
namespace Go.Ev
open Go.RowKit

abbrev CallR := FuncId → List AV → H → (AV → H → Option Unit) → Option Unit

/-- where a region comes to a call whose runs may end in unlike ways -/
def relAt (cr : CR) : List Oper → Nat → Option Nat
  | [], _ => none
  | o :: l, i => match relOp cr o with | true => some i | false => relAt cr l (i + 1)

def hasIns : List Oper → Bool
  | [] => false
  | o :: l => isIns o.op || hasIns l

noncomputable def regGR (P : Program) (ck : CK) (cr : CR) (N : Nat) : RegF Unit := fun ops draw =>
  match draw with
  | false => regR P ck cr N ops
  | true => match relAt cr ops.toList 0 with
    | some n => (match hasIns (ops.toList.take n) with
      | true => (match okTailI P ops n with | true => regI P ck cr N ops n | false => fun _ _ _ _ _ => none)
      | false => (match okTail P ops n with | true => regT P ck cr N ops n | false => (match okE P cr ops n with | true => fun A h kn _ _ => regE P ck cr N ops n A h kn | false => (match okPermE P cr ops n with | true => fun A h kn _ _ => regE P ck cr N (permE (piE ops n) ops) (idxE (piE ops n) n) A h kn | false => fun _ _ _ _ _ => none))))
    | none => regG P ck N ops true

theorem DenG.regGR {P : Program} (hm : P.follows .mixedOrders = true) {ck : CK} (hck : ck.call.Sound P) {cr : CR} (hcr : cr.Sound P) {N : Nat} (id : Nat) (ops : Array Oper) (draw : Bool) : DenG true P N (.region id ops draw) (regGR P ck cr N ops draw) := by
  unfold Ev.regGR
  cases draw with
  | false => exact DenG.regionR hck hcr
  | true =>
    simp only
    split
    · split
      · split
        · rename_i h; exact DenG.regionI hm hck hcr h
        · exact DenG.none
      · split
        · rename_i h; exact DenG.regionT hm hck hcr h
        · split
          · rename_i h; exact DenG.regionE hm hck hcr h
          · split
            · rename_i h; exact DenG.regionPE hm hck hcr h
            · exact DenG.none
    · exact DenG.regG hm hck

structure TabR (P : Program) extends Tab P where
  tblR : List (FEnt P)

variable {P : Program}

noncomputable def crOf (T : TabR P) (call : CallR) : CR := ⟨fun f => (fnd T.tblR f).isSome, fun f args h k => call f args h fun v h' => crF T.toTab f v fun v => k v h'⟩
noncomputable def crRaw (T : TabR P) (call : CallR) : CR := ⟨fun f => (fnd T.tblR f).isSome, call⟩

theorem crOf_sound {T : TabR P} {call : CallR} (s : (crRaw T call).Sound P) : (crOf T call).Sound P where
  there := s.there
  ends := fun f args h k hf e => by
    obtain ⟨v, h', h1, h2⟩ := s.ends f args h _ hf e
    exact ⟨v, h', crF_some h1, h2⟩
  sim := fun f args h k r w args' hf e hrel hfree ha => (s.sim f args h _ r w args' hf e hrel hfree ha).mono fun e w' ⟨r', v, v', h', h1, h2, h3, h4⟩ => ⟨r', v, v', h', h1, h2, h3, crF_some h4⟩

noncomputable def resFR (P : Program) (N : Nat) (rs : Array ResultVar) (k : AV → H → Option Unit) : KF → H → Option Unit := fun A h => resK P N A h rs.toList fun vs => k (oneOf vs) h

noncomputable def runER (ck : CK) (cr : CR) (n : Nat) (e : FEnt P) (args : List AV) (h : H) (k : AV → H → Option Unit) : Option Unit :=
  match Nat.ble args.length e.fn.ntmps with
  | true => den (regGR P ck cr e.fn.ntmps) e.fn.ntmps e.js e.ls n (bodyOf e.fn) 1 (argsF args 0) h (resFR P e.fn.ntmps e.fn.results k) (fun _ _ _ => none) (resFR P e.fn.ntmps e.fn.results k)
  | false => none

noncomputable def callR (T : TabR P) (n : Nat) : CallR :=
  Nat.rec (motive := fun _ => CallR) (fun _ _ _ _ => none)
    (fun n c f args h k => match fnd T.tblR f with | some e => runER (ckOf T.toTab (callF T.toTab n)) (crOf T c) n e args h k | none => none) n

/-- the entry of one function -/
noncomputable def entR (hm : P.follows .mixedOrders = true) {ck : CK} (hck : ck.call.Sound P) {cr : CR} (hcr : cr.Sound P) (n : Nat) (e : FEnt P) : EntryR P :=
  EntryR.of (c := bodyOf e.fn) (den_sound (DenG.regGR hm hck hcr) (bodyOf e.fn) 1 (js := e.js) (ls := e.ls) (n := n)) e.ok (by
    obtain ⟨c, hb⟩ := Option.isSome_iff_exists.1 e.bd
    rw [hb, show bodyOf e.fn = c by unfold bodyOf; rw [hb]]) e.nm rfl (runER ck cr n e) fun args h k hr => by
    unfold runER at hr
    split at hr
    · rename_i hl
      exact ⟨Nat.le_of_ble_eq_true hl, k, fun _ _ h => h, hr⟩
    · cases hr

theorem callR_sound (hm : P.follows .mixedOrders = true) (T : TabR P) : ∀ n, (crRaw T (callR T n)).Sound P
  | 0 => by
    refine ⟨fun f hf => ?_, fun f args h k _ (e : (none : Option Unit) = some ()) => (by cases e), fun f args h k r w args' _ (e : (none : Option Unit) = some ()) _ _ _ => (by cases e)⟩
    obtain ⟨e, he⟩ := Option.isSome_iff_exists.1 hf
    have := fnd_id he
    subst this
    exact ⟨e.fn, e.ok, by have := e.bd; simpa using this, e.nm⟩
  | n + 1 => by
    have ih := crOf_sound (callR_sound hm T n)
    have key : ∀ f args h k, callR T (n + 1) f args h k = some () → ∃ e, fnd T.tblR f = some e ∧ runER (ckOf T.toTab (callF T.toTab n)) (crOf T (callR T n)) n e args h k = some () := by
      intro f args h k e
      change (match fnd T.tblR f with | some e => runER (ckOf T.toTab (callF T.toTab n)) (crOf T (callR T n)) n e args h k | none => none) = some () at e
      split at e
      · rename_i en he; exact ⟨en, he, e⟩
      · cases e
    refine ⟨fun f hf => ?_, fun f args h k _ e => ?_, fun f args h k r w args' _ e hrel hfree ha => ?_⟩
    · obtain ⟨e, he⟩ := Option.isSome_iff_exists.1 hf
      have := fnd_id he
      subst this
      exact ⟨e.fn, e.ok, by have := e.bd; simpa using this, e.nm⟩
    · obtain ⟨en, he, e⟩ := key f args h k e
      exact (entR hm (ckOf_sound (callF_sound hm T.toTab n)) ih n en).ends args h k e
    · obtain ⟨en, he, e1⟩ := key f args h k e
      have := fnd_id he
      subst this
      exact (entR hm (ckOf_sound (callF_sound hm T.toTab n)) ih n en).sim args h k r w args' e1 hrel hfree ha

/-- on from a place of a function -/
noncomputable def JR (T : TabR P) (n : Nat) (e : FEnt P) (t ms : List Nat) (A : KF) (h : H) (k : AV → H → Option Unit) : Option Unit :=
  jmp (regGR P (ckOf T.toTab (callF T.toTab n)) (crOf T (callR T n)) e.fn.ntmps) e.fn.ntmps e.js e.ls n t (bodyOf e.fn) 1 ms A h (resFR P e.fn.ntmps e.fn.results k) (fun _ _ _ => none) (resFR P e.fn.ntmps e.fn.results k)
noncomputable def JRO (T : TabR P) (n : Nat) (e : FEnt P) (t ms : List Nat) (A : KF) (h : H) (k : AV → H → Option Unit) : Option Unit :=
  jmpO (regGR P (ckOf T.toTab (callF T.toTab n)) (crOf T (callR T n)) e.fn.ntmps) e.fn.ntmps e.js e.ls n t (bodyOf e.fn) 1 ms A h (resFR P e.fn.ntmps e.fn.results k) (fun _ _ _ => none) (resFR P e.fn.ntmps e.fn.results k)
theorem JR_eq (T : TabR P) (n : Nat) (e : FEnt P) (t ms : List Nat) (A : KF) (h : H) (k : AV → H → Option Unit) : JR T n e t ms A h k = JRO T n e t ms A h k := jmp_open t _ 1 ms A h _ _ _

/-- a call of a function that is not known at print time -/
noncomputable def callU (T : TabR P) (n : Nat) (f : FuncId) (args : List AV) (h : H) (k : AV → H → Option Unit) : Option Unit :=
  match (fnd T.tblR f).isSome with
  | true => callR T n f args h k
  | false => (callF T.toTab n f args h).bind fun q => k q.1 q.2

/-- a law: every run of it comes to true, and turns nothing that was there -/
theorem callR_true (hm : P.follows .mixedOrders = true) (T : TabR P) {n : Nat} {f : FuncId} (hf : (fnd T.tblR f).isSome = true) {args : List AV} {objs : Objs}
    (c : callR T n f args (HR objs) (fun v _ => match v with | .bool true => some () | _ => none) = some ()) {w : World} {args' : Array Value}
    (h : ∀ x ∈ objs, ∀ t, x.1 = some t → OR (rR objs) w t x.2 ∧ t.blk < w.heap.size) (hro : ∀ x ∈ objs, x.2.ro = true) (hg : GL (rR objs)) (ha : VRL (rR objs) args args'.toList) :
    Calls P f args' w fun e w' => e = .returned (.bool true) ∧ Below w.heap.size w w' := by
  refine ((callR_sound hm T n).sim f args _ _ (rR objs) w args' hf c (relR h hro hg) (fun i hi => ?_) ha).mono fun e w' ⟨r', v, v', h', he, hv, hp, hk⟩ => ⟨?_, ⟨hp.env.1, hp.env.2.1, hp.env.2.2.1, hp.size, fun b hb => hp.keep b hb fun i t o _ _ ho => ?_⟩⟩
  · simp only [HR] at hi
    simp [rR, List.getElem?_eq_none hi]
  · split at hk
    · cases hv; exact he
    · cases hk
  · simp only [HR, Option.map_eq_some_iff] at ho
    obtain ⟨x, hx, rfl⟩ := ho
    exact hro x (List.mem_of_getElem? hx)

end Go.Ev

/- The abstract machine Ev: strings.Builder within a block of another type: what its methods do in the model. -/
set_option linter.unusedVariables false
namespace Go.Ev
open Go.Proofs Go.Shelf Go.RowKit

theorem wpList_run_append {P : Program} {ops : Array Oper} {rest : List Oper} {o : Oper} {a : Act} {w w' : World} {Q : Exit → Act → World → Prop} (hgd : o.guard = none) (sl x : Operand) (t u : TypeId)
    (ho : o.op = .call { callee := .builtin .append, args := #[sl, x], argTypes := #[t, u] }) {v v' : Value} {s : ByteArray} (hs : a.eval sl = v) (hx : a.eval x = .string s)
    (hr : (Builtin.append_ #[t, u] o.type #[v, .string s]).run P w = .ok v' w') (h : wpList P ops Q rest (a.put o.dst v') w') : wpList P ops Q (o :: rest) a w := by
  refine wpList_plain hgd fun K hK => ?_
  unfold Oper.wp execOp
  simp only [ho, resolve, invoke, builtin, Sem.run_bind, Sem.run_pure, Result.andThen_ok, List.map_toArray, List.map_cons, List.map_nil, hs, hx, hr]
  exact hK _ _ h

variable {P : Program} {ρ : Shelf.Ren}

set_option maxHeartbeats 1000000 in
set_option maxRecDepth 100000 in
theorem copyCheck_new (L : Lays.n240 P ρ) (X : Builder.X72 P ρ) {T : TypeId} (hl : liesAt P P.depth T (2 / P.cellsOf T) 0 (ρ.t 72) 1 = true) (b : Nat) (w : World) (h0 : w.cell? ⟨b, 0, none⟩ = some (.pointer none)) (hsh : w.shape? b = some (T, 2)) (hfz : w.frozen? ⟨b, 0, none⟩ = false) :
    Calls P (ρ.f 240) #[.pointer (some ⟨b, 0, none⟩)] w fun e w' => e = .returned (.tuple #[]) ∧ w' = w.setCell ⟨b, 0, none⟩ (.pointer (some ⟨b, 0, none⟩)) := by
  obtain ⟨j, hj, hjs⟩ := Option.map_eq_some_iff.1 X.sizeBuilder
  have mixed := L.mixed
  have t72 := L.t72; have a72 := L.a72; have z72 := L.z72; have v72 := L.v72; have u72 := run_underlying L.t72
  have t70 := L.t70; have a70 := L.a70; have z70 := L.z70; have v70 := L.v70; have u70 := run_underlying L.t70
  have t9 := L.t9; have a9 := L.a9; have z9 := L.z9; have v9 := L.v9; have u9 := run_underlying L.t9
  have t4 := L.t4; have a4 := L.a4; have z4 := L.z4; have v4 := L.v4; have u4 := run_underlying L.t4
  have t164 := L.t164; have a164 := L.a164; have z164 := L.z164; have v164 := L.v164; have u164 := run_underlying L.t164
  go_enter L.f240, Body.n240_ntmps ρ
  go_wp2
  rw [Lib.run_to_unsafe w ⟨b, 0, none⟩ L.t70 L.t164 hj (by rw [hjs]; decide) hsh (Nat.zero_lt_succ 1)]
  simp only [Result.andThen]
  rw [Oper.upon_value]
  go_wp2
  rw [run_callFunc_extern L.f276 (by kernel_rfl) (by kernel_rfl) (by kernel_rfl) (e := Extern.AbiNoEscape.same) (by kernel_rfl)]
  rw [Lib.run_noEscape]
  simp only [Result.andThen]
  rw [Oper.upon_value]
  go_wp2
  rw [Lib.run_from_unsafe w ⟨b, 0, none⟩ L.t164 L.t70 hj hsh hl]
  simp only [Result.andThen]
  rw [Oper.upon_value]
  go_wp2
  go_end0
  exact ⟨rfl, rfl⟩

/-- the world behind copyCheck -/
def chk (b : Nat) (p : Value) (w : World) : World := match p with | .pointer none => w.setCell ⟨b, 0, none⟩ (.pointer (some ⟨b, 0, none⟩)) | _ => w

theorem copyCheck_any (L : Lays.n240 P ρ) (X : Builder.X72 P ρ) {T : TypeId} (hl : liesAt P P.depth T (2 / P.cellsOf T) 0 (ρ.t 72) 1 = true) (b : Nat) (w : World) {p v : Value} (hb : w.heap[b]? = some (.cells #[p, v] T (0, 0))) (hp : p = .pointer none ∨ p = .pointer (some ⟨b, 0, none⟩)) :
    Calls P (ρ.f 240) #[.pointer (some ⟨b, 0, none⟩)] w fun e w' => e = .returned (.tuple #[]) ∧ w' = chk b p w := by
  have h0 : w.cell? ⟨b, 0, none⟩ = some p := by simp [World.cell?, hb]
  rcases hp with rfl | rfl
  · exact copyCheck_new L X hl b w h0 (by simp [World.shape?, hb]) (by simp [World.frozen?, hb])
  · exact Any.Builder_copyCheck_used L X b w h0

set_option maxHeartbeats 2000000 in
set_option maxRecDepth 100000 in
theorem writeString_at (L : Lays.n166 P ρ) (X : Builder.Extra P ρ) {T : TypeId} (hl : liesAt P P.depth T (2 / P.cellsOf T) 0 (ρ.t 72) 1 = true) (b : Nat) (w w2 : World) {p v v' : Value} (hb : w.heap[b]? = some (.cells #[p, v] T (0, 0))) (hp : p = .pointer none ∨ p = .pointer (some ⟨b, 0, none⟩)) (s : ByteArray)
    (hr : (Builtin.append_ #[ρ.t 37, ρ.t 9] (ρ.t 37) #[v, .string s]).run P (chk b p w) = .ok v' w2) (hb2 : w2.heap[b]? = some (.cells #[.pointer (some ⟨b, 0, none⟩), v] T (0, 0))) (hv : ∃ a n c, v = .slice a n c) (hv' : ∃ a n c, v' = .slice a n c) :
    Calls P (ρ.f 166) #[.pointer (some ⟨b, 0, none⟩), .string s] w fun e w' => e = .returned (.tuple #[.int .i64 s.size, .nilIface]) ∧ w' = w2.setCell ⟨b, 1, none⟩ v' := by
  obtain ⟨i0, hi, hz0, hz1, hz2⟩ := info_parts X.infoByte
  have mixed := L.mixed
  have t72 := L.t72; have a72 := L.a72; have z72 := L.z72; have v72 := L.v72; have u72 := run_underlying L.t72
  have t70 := L.t70; have a70 := L.a70; have z70 := L.z70; have v70 := L.v70; have u70 := run_underlying L.t70
  have t37 := L.t37; have a37 := L.a37; have z37 := L.z37; have v37 := L.v37; have u37 := run_underlying L.t37
  have t3 := L.t3; have a3 := L.a3; have z3 := L.z3; have v3 := L.v3; have u3 := run_underlying L.t3
  have t9 := L.t9; have a9 := L.a9; have z9 := L.z9; have v9 := L.v9; have u9 := run_underlying L.t9
  have t4 := L.t4; have a4 := L.a4; have z4 := L.z4; have v4 := L.v4; have u4 := run_underlying L.t4
  have t164 := L.t164; have a164 := L.a164; have z164 := L.z164; have v164 := L.v164; have u164 := run_underlying L.t164
  have t5 := X.t5; have a5 := X.a5; have z5 := X.z5; have v5 := X.v5; have u5 := run_underlying X.t5
  have e240 : ∀ args w, (callFunc (ρ.f 240) args).run P w = .ok (.enter (ρ.f 240) args) w := enters_of L.f240 (by kernel_rfl) rfl
  obtain ⟨av, nv, cv, rfl⟩ := hv
  obtain ⟨av', nv', cv', rfl⟩ := hv'
  go_enter L.f166, Body.n166_ntmps ρ
  go_wp2_with (go_at_fn (ρ.f 240); refine (copyCheck_any { L with } X.toX72 hl b _ hb hp).mono ?_)
  rintro e w1 ⟨rfl, rfl⟩
  have hb1 : (chk b p w).heap[b]? = some (.cells #[.pointer (some ⟨b, 0, none⟩), .slice av nv cv] T (0, 0)) := by
    rcases hp with rfl | rfl
    · simp [chk, World.setCell, Array.getElem?_modify, hb]
    · exact hb
  have c0 : (chk b p w).cell? ⟨b, 0, none⟩ = some (.pointer (some ⟨b, 0, none⟩)) := by simp [World.cell?, hb1]
  have c1 : (chk b p w).cell? ⟨b, 1, none⟩ = some (.slice av nv cv) := by simp [World.cell?, hb1]
  have d0 : w2.cell? ⟨b, 0, none⟩ = some (.pointer (some ⟨b, 0, none⟩)) := by simp [World.cell?, hb2]
  have d1 : w2.cell? ⟨b, 1, none⟩ = some (.slice av nv cv) := by simp [World.cell?, hb2]
  have f1 : w2.frozen? ⟨b, 1, none⟩ = false := by simp [World.frozen?, hb2]
  go_wp2_with (at_builtin; refine wpList_run_append rfl _ _ (ρ.t 37) (ρ.t 9) rfl rfl rfl hr ?_)
  go_ret2
  exact ⟨rfl, rfl⟩

set_option maxHeartbeats 2000000 in
set_option maxRecDepth 100000 in
theorem string_at (L : Lays.n169 P ρ) (X : Builder.Extra P ρ) (b g cap : Nat) (p : Value) (T : TypeId) (cur : Array Value) (l : List UInt8) (w : World) (h0 : l ≠ []) (hbk : w.heap[b]? = some (.cells #[p, .slice (some ⟨g, 0, none⟩) l.length cap] T (0, 0)))
    (hg : w.heap[g]? = some (.cells cur (ρ.t 5) (0, 0))) (hlc : l.length ≤ cap) (hcs : l.length ≤ cur.size) (hm : l.length ≤ 140737488355328) (hc : ∀ (j : Nat) x, l[j]? = some x → cur[j]? = some (.int .u8 x.toNat)) :
    Calls P (ρ.f 169) #[.pointer (some ⟨b, 0, none⟩)] w fun e w' => e = .returned (.string ⟨l.toArray⟩) ∧ w'.heap = (w.freeze ⟨g, 0, none⟩ l.length).heap ∧ Env w w' := by
  have hl0 : l.length ≠ 0 := by simpa using h0
  have c1 : w.drew.cell? ⟨b, 1, none⟩ = some (.slice (some ⟨g, 0, none⟩) l.length cap) := by
    have : w.drew.heap[b]? = some (.cells #[p, .slice (some ⟨g, 0, none⟩) l.length cap] T (0, 0)) := hbk
    simp [World.cell?, this]
  have hSD : (Builtin.unsafeSliceData_ #[(ρ.t 37)] (ρ.t 127) #[.slice (some ⟨g, 0, none⟩) l.length cap]).run P w.drew = .ok (.pointer (some ⟨g, 0, none⟩)) w.drew :=
    Lib.run_unsafeSliceData_row _ _ _ _ _ _ (by omega)
  have hUS : (Builtin.unsafeString_ #[(ρ.t 127), (ρ.t 3)] (ρ.t 9) #[.pointer (some ⟨g, 0, none⟩), .int .i64 l.length]).run P w.drew = .ok (.string ⟨l.toArray⟩) (w.drew.freeze ⟨g, 0, none⟩ l.length) := by
    refine Lib.run_unsafeString_row w.drew (ρ.t 127) (ρ.t 3) (ρ.t 9) (ρ.t 5) L.t127 X.cellsByte g cur.size (by have hg' : w.drew.heap[g]? = some (.cells cur (ρ.t 5) (0, 0)) := hg; simp [World.shape?, hg']) l h0 (by omega) (by omega) ?_
    intro j x hx
    have hg' : w.drew.heap[g]? = some (.cells cur (ρ.t 5) (0, 0)) := hg
    rw [Addr_add, Nat.zero_add]
    unfold World.cell?
    simp only [hg']
    exact hc j x hx
  have mixed := L.mixed
  have t72 := L.t72; have a72 := L.a72; have z72 := L.z72; have v72 := L.v72; have u72 := run_underlying L.t72
  have t70 := L.t70; have a70 := L.a70; have z70 := L.z70; have v70 := L.v70; have u70 := run_underlying L.t70
  have t37 := L.t37; have a37 := L.a37; have z37 := L.z37; have v37 := L.v37; have u37 := run_underlying L.t37
  have t127 := L.t127; have a127 := L.a127; have z127 := L.z127; have v127 := L.v127; have u127 := run_underlying L.t127
  have t3 := L.t3; have a3 := L.a3; have z3 := L.z3; have v3 := L.v3; have u3 := run_underlying L.t3
  have t9 := L.t9; have a9 := L.a9; have z9 := L.z9; have v9 := L.v9; have u9 := run_underlying L.t9
  have t5 := X.t5; have a5 := X.a5; have z5 := X.z5; have v5 := X.v5; have u5 := run_underlying X.t5
  go_enter L.f169, Body.n169_ntmps ρ
  go_wp2
  go_region_o
  all_goals (go_wp2; go_ret; exact ⟨rfl, by (unfold World.freeze; split <;> rfl), by (unfold World.freeze; split <;> exact ⟨rfl, rfl, rfl, fun _ => Nat.le_succ _⟩)⟩)

end Go.Ev

/- The abstract machine Ev: strings.Builder within a block of another type: WriteString and String as leaves. -/
namespace Go.Ev
open Go.Proofs Go.Shelf Go.RowKit

/-! ### heaps whose blocks' types are not kept in mind -/

def AObj.untc : AObj → AObj
  | .tc _ cs _ => .cells cs false
  | o => o
def H.untc (h : H) : H := ⟨h.next, fun i => (h.get i).map AObj.untc⟩

theorem untc_ro (o : AObj) : o.untc.ro = o.ro := by cases o <;> rfl
theorem OR.untc {r : Ren} {w : World} {t : Tgt} {o : AObj} (h : OR r w t o) : OR r w t o.untc := by
  cases o with
  | tc e cs ex =>
    obtain ⟨C, h1, h2, h3, h4, h5, _, h6⟩ := h
    exact ⟨C, e, (0, 0), h1, by omega, by omega, fun i a v ha hv => h6 i a v ha (by rw [h2, Nat.zero_add] at hv; exact hv), fun _ off _ => by simp⟩
  | _ => exact h
theorem get_untc {h : H} {i : Nat} {o : AObj} (e : h.untc.get i = some o) : ∃ o', h.get i = some o' ∧ o = o'.untc := by
  simp only [H.untc, Option.map_eq_some_iff] at e
  obtain ⟨o', h1, rfl⟩ := e
  exact ⟨o', h1, rfl⟩
theorem untc_get {h : H} {i : Nat} {o : AObj} (e : h.get i = some o) : h.untc.get i = some o.untc := by simp only [H.untc, e, Option.map_some]
theorem Rel.untc {r : Ren} {h : H} {w : World} (hrel : Rel r h w) : Rel r h.untc w where
  wf := fun i o e => by
    obtain ⟨o', h1, _⟩ := get_untc e
    exact hrel.wf i o' h1
  obj := fun i t o hr e => by
    obtain ⟨o', h1, rfl⟩ := get_untc e
    exact (hrel.obj i t o' hr h1).untc
  inj := fun i j ti tj oi oj hi hj e1 e2 e => by
    obtain ⟨o1, h1, rfl⟩ := get_untc e1
    obtain ⟨o2, h2, rfl⟩ := get_untc e2
    rw [untc_ro, untc_ro]
    exact hrel.inj i j ti tj o1 o2 hi hj h1 h2 e
  bound := hrel.bound
  glob := hrel.glob

theorem Post.retc {r r' : Ren} {h h' h1 : H} {w w' : World} (hrel : Rel r h w) (p : Post r h.untc w r' h1 w') (hu : h'.untc = h1) (ht : ∀ i t e cs ex, r' i = some t → h'.get i = some (.tc e cs ex) → OR r' w' t (.tc e cs ex)) (hs : ∀ i, i < h.next → h'.untc.get i = h.untc.get i → h'.get i = h.get i) : Post r h w r' h' w' := by
  subst hu
  refine ⟨p.le, p.dom, ⟨fun i o e => p.rel.wf i _ (untc_get e), fun i t o hr e => ?_, fun i j ti tj oi oj hi hj e1 e2 e => ?_, p.rel.bound, p.rel.glob⟩, fun b hb hk => p.keep b hb fun i t o h2 h3 h4 => ?_, p.env, p.size, p.next, fun i t h2 h3 => ?_, fun i o hi e => ?_, p.gap, fun i hi hne => p.touch i hi fun e => hne (hs i hi e)⟩
  · cases o with
    | tc e2 cs ex => exact ht i t e2 cs ex hr e
    | _ => exact p.rel.obj i t _ hr (untc_get e)
  · have := p.rel.inj i j ti tj _ _ hi hj (untc_get e1) (untc_get e2) e
    rwa [untc_ro, untc_ro] at this
  · obtain ⟨o', g1, rfl⟩ := get_untc h4
    rw [untc_ro]
    exact hk i t o' h2 h3 g1
  · rcases p.fresh i t h2 h3 with hf | ⟨j, tj, o, g1, g2, g3, g4⟩
    · exact .inl hf
    · obtain ⟨o', g5, rfl⟩ := get_untc g3
      rw [untc_ro] at g4
      exact .inr ⟨j, tj, o', g1, g2, g5, g4⟩
  · obtain ⟨o', g1, g2⟩ := p.roKeep i _ hi (untc_get e)
    obtain ⟨o2, g3, rfl⟩ := get_untc g1
    rw [untc_ro, untc_ro] at g2
    exact ⟨o2, g3, g2⟩

/-! ### what the two come to -/

def byteAVs (s : ByteArray) : List AV := s.data.toList.map fun c => .int .u8 c.toNat
/-- a builder of type T at i: behind WriteString -/
def wsF (T U : TypeId) (p : Option (Nat × Nat)) (s : ByteArray) (h : H) : Option H :=
  match p with
  | some (i, 0) =>
    (match h.get i with
     | some (.tc e [.ptr q, .slice b len cap] true) =>
       if e = T ∧ (q = none ∨ q = some (i, 0)) ∧ 0 < s.size then
         (match b, len, cap with
          | none, 0, .known 0 => if s.size ≤ 140737488355328 then some ((h.new (.tc U (byteAVs s) false)).set i (.tc T [.ptr (some (i, 0)), .slice (some (h.next, 0)) s.size (.rest 1)] true)) else none
          | some (j, 0), len, .rest 1 =>
            (match h.get j with
             | some (.tc e' bs false) => if e' = U ∧ bs.length = len ∧ 0 < len ∧ len + s.size ≤ 140737488355328 ∧ bs.all isCell = true then some (((h.kill j).new (.tc U (bs ++ byteAVs s) false)).set i (.tc T [.ptr (some (i, 0)), .slice (some (h.next, 0)) (len + s.size) (.rest 1)] true)) else none
             | _ => none)
          | _, _, _ => none)
       else none
     | _ => none)
  | _ => none

/-- .. behind String -/
def stF (T U : TypeId) (p : Option (Nat × Nat)) (h : H) : Option (ByteArray × H) :=
  match p with
  | some (i, 0) =>
    (match h.get i with
     | some (.tc e [.ptr _, .slice (some (j, 0)) len (.rest 1)] true) =>
       (match h.get j with
        | some (.tc e' bs false) => if e = T ∧ e' = U ∧ bs.length = len ∧ 0 < len ∧ len ≤ 140737488355328 ∧ j ≠ i then (evNums bs).bind fun ns => if ns.all (fun n => decide (0 ≤ n) && decide (n < 256)) = true then some (strOfNums ns, h.kill j) else none else none
        | _ => none)
     | _ => none)
  | _ => none

theorem byteAVs_cell (s : ByteArray) : (byteAVs s).all isCell = true := by
  unfold byteAVs
  rw [List.all_map]
  exact List.all_eq_true.2 fun _ _ => rfl

variable {P : Program} {ρ : Shelf.Ren}

theorem evAppend_bytes (L : Lays.n166 P ρ) (X : Builder.Extra P ρ) (sl : AV) (s : ByteArray) (h : H) : evAppend P [ρ.t 37, ρ.t 9] [sl, .str s] h = evApp 1 1 s.size (byteAVs s) sl h := by
  obtain ⟨i0, hi, hz0, hz1, hz2⟩ := info_parts X.infoByte
  have hz : evZero P (ρ.t 5) = some [.int .u8 0] := by
    unfold evZero
    rw [hi, Option.bind_some, hz0]
    rfl
  unfold evAppend
  simp only [List.getElem?_cons_zero, List.getElem?_cons_succ, L.t37, L.t9, isIntD, hi, Option.bind_some, hz, hz1, hz2, evSrc]
  simp only [Bool.false_eq_true, if_false, if_true, Option.bind_some, List.length_singleton]
  rw [if_pos ⟨trivial, by decide⟩]
  rfl

/-- the steps in the model: a builder's block b, its cells p and v; its bytes are appended to -/
theorem ws_steps (L : Lays.n166 P ρ) (X : Builder.Extra P ρ) {T : TypeId} (hl : liesAt P P.depth T (2 / P.cellsOf T) 0 (ρ.t 72) 1 = true) (hTU : T ≠ ρ.t 5) {r : Ren} {h : H} {w : World} (hrel : Rel r h w) {i : Nat} {t : Tgt} (ht : r i = some t) {q : Option (Nat × Nat)} {b : Option (Nat × Nat)} {len : Nat} {cap : Cap}
    (hg : h.get i = some (.tc T [.ptr q, .slice b len cap] true)) (hq : q = none ∨ q = some (i, 0)) (s : ByteArray) {h2 : H} {sl' : AV}
    (hnt : ∀ j tj, b = some (j, 0) → r j = some tj → j ≠ i ∧ ∃ bs, h.get j = some (.tc (ρ.t 5) bs false) ∧ bs.length = len) (hb0 : b = none → len = 0 ∧ cap = .known 0) (hb1 : ∀ p, b = some p → p.2 = 0 ∧ cap = .rest 1 ∧ 0 < len) (hlen : len + s.size ≤ 140737488355328) (hs : 0 < s.size)
    (hap : evApp 1 1 s.size (byteAVs s) (.slice b len cap) (h.untc.set i (.cells [.ptr (some (i, 0)), .slice b len cap] false)) = some (sl', h2)) (hfree : ∀ k, h.next ≤ k → k < h2.next → r k = none) :
    Calls P (ρ.f 166) #[.pointer (some ⟨t.blk, 0, none⟩), .string s] w fun e w' => e = .returned (.tuple #[.int .i64 s.size, .nilIface]) ∧ ∃ r' v' w2 g cur cp, w' = w2.setCell ⟨t.blk, 1, none⟩ v' ∧ VR r' sl' v' ∧ Post r h.untc w r' h2 w2 ∧ v' = .slice (some ⟨g, 0, none⟩) (len + s.size) cp ∧ w2.heap[g]? = some (.cells cur (ρ.t 5) (0, 0)) ∧ cp = cur.size ∧ cp ≤ 9223372036854775807 ∧
      (∃ v, w2.heap[t.blk]? = some (.cells #[.pointer (some ⟨t.blk, 0, none⟩), v] T (0, 0))) ∧ ∀ k, k < w.heap.size → k ≠ t.blk → (∀ j tj, b = some (j, 0) → r j = some tj → k ≠ tj.blk) → w2.heap[k]? = w.heap[k]? := by
  obtain ⟨i0, hi, hz0, hz1, hz2⟩ := info_parts X.infoByte
  obtain ⟨C, hC, hbase, hrow, hle, hex, hex2, hcell⟩ := hrel.obj i t _ ht hg
  have hCs : C.size = 2 := hex rfl
  obtain ⟨p, v, rfl⟩ : ∃ p v, C = #[p, v] := by
    refine ⟨C[0], C[1], ?_⟩
    apply Array.ext'
    rcases C with ⟨l⟩
    simp at hCs
    match l, hCs with
    | [x, y], _ => rfl
  have hvp : VR r (.ptr q) p := hcell 0 _ _ rfl rfl
  have hvv : VR r (.slice b len cap) v := hcell 1 _ _ rfl rfl
  have hp : p = .pointer none ∨ p = .pointer (some ⟨t.blk, 0, none⟩) := by
    rcases hq with rfl | rfl
    · cases hvp; exact .inl rfl
    · cases hvp with
      | ptr h3 => rw [ht] at h3; cases h3; right; rw [hbase]
  have hblt := hrel.bound i t ht
  let w1 := chk t.blk p w
  have hw1b : w1.heap[t.blk]? = some (.cells #[.pointer (some ⟨t.blk, 0, none⟩), v] T (0, 0)) := by
    rcases hp with rfl | rfl
    · simp [w1, chk, World.setCell, Array.getElem?_modify, hC]
    · exact hC
  have hw1o : ∀ k, k ≠ t.blk → w1.heap[k]? = w.heap[k]? := by
    intro k hk
    rcases hp with rfl | rfl
    · simp [w1, chk, World.setCell, Array.getElem?_modify, Ne.symm hk]
    · rfl
  have hw1s : w1.heap.size = w.heap.size := by
    rcases hp with rfl | rfl
    · simp [w1, chk, World.setCell]
    · rfl
  have hself : VR r (.ptr (some (i, 0))) (.pointer (some ⟨t.blk, 0, none⟩)) := by
    have := VR.ptr (r := r) (o := 0) ht
    rw [hbase] at this
    exact this
  have p1 : Post r h.untc w r (h.untc.set i (.cells [.ptr (some (i, 0)), .slice b len cap] false)) w1 := by
    refine Post.of_set hrel.untc ht (untc_get hg) rfl rfl hw1s (by rcases hp with rfl | rfl <;> exact ⟨rfl, rfl, rfl, fun _ => Nat.le_refl _⟩) hw1o ⟨_, T, (0, 0), hw1b, by rw [hrow]; simp, by rw [hbase, hrow]; simp, fun k a u ha hu => ?_, fun _ off _ => by simp⟩
    rw [hbase, Nat.zero_add] at hu
    match k, ha, hu with
    | 0, ha, hu => simp at ha hu; subst ha; subst hu; exact hself
    | 1, ha, hu => simp at ha hu; subst ha; subst hu; exact hvv
    | k + 2, ha, hu => simp at ha
  -- the row that is appended to
  have hown : w1.ownsRow 0 (ρ.t 5) 1 v len (match b with | none => [] | some (j, _) => match r j with | some tj => (match w.heap[tj.blk]? with | some (.cells cur _ _) => cur.toList.take len | _ => []) | none => []) := by
    cases b with
    | none =>
      obtain ⟨rfl, rfl⟩ := hb0 rfl
      cases hvv
      exact ⟨rfl, .inl ⟨rfl, rfl⟩⟩
    | some jo =>
      obtain ⟨j, o⟩ := jo
      obtain ⟨h3, rfl, hl0⟩ := hb1 _ rfl
      simp only at h3
      subst h3
      cases hvv with
      | sliceEnd a sz h4 => omega
      | sliceRest _ _ cp h4 h5 h6 =>
        rename_i tj
        obtain ⟨hji, bs, hgj, hbl⟩ := hnt j tj rfl h4
        obtain ⟨cur, k1, k2, k3, k4, k7, k6, k5⟩ := hrel.obj j tj _ h4 hgj
        have hne : tj.blk ≠ t.blk := fun e => by
          rcases hrel.inj j i tj t _ _ h4 ht hgj hg e with h7 | h7
          · exact hji h7
          · cases h7.1
        have hcur : w1.heap[tj.blk]? = some (.cells cur (ρ.t 5) (0, 0)) := by rw [hw1o _ hne]; exact k1
        have hcp : cp = cur.size := by rw [k2, k3] at h5; omega
        simp only [h4, k1]
        refine ⟨by simp; omega, .inr ⟨tj.blk, cp, cur, by rw [k2], Nat.zero_le _, hcur, h6, by rw [hcp]; unfold maxLen; have := k6 rfl; omega, by omega, by simp⟩⟩
  obtain ⟨v', w2, hr1, hown', hgrow, hiff⟩ := Lib.run_append_own_string (P := P) w1 0 (ρ.t 37) (ρ.t 9) (ρ.t 37) (ρ.t 5) i0 L.t37 L.t9 hi hz0 hz1 hz2 v len _ hown s (by unfold maxLen; omega) hlen (Nat.zero_le _)
  have hsl : VRL r [.slice b len cap, .str s] (#[v, .string s] : Array Value).toList := .cons hvv (.cons (.str s) .nil)
  obtain ⟨r', v2, w3, hr2, hv2, p2⟩ := evAppend_sim (P := P) (ty := ρ.t 37) p1.rel (fun k h3 h4 => by
      simp only [H.set] at h3
      exact hfree k h3 h4) (by rw [evAppend_bytes L X]; exact hap) hsl
  rw [hr1] at hr2
  cases hr2
  -- another block than the builder's own
  have hbw2 : w2.heap[t.blk]? = some (.cells #[.pointer (some ⟨t.blk, 0, none⟩), v] T (0, 0)) := by
    rw [hgrow.block t.blk (by rw [hw1s]; exact hblt) fun e => ?_]
    · exact hw1b
    · cases b with
      | none => cases hvv; cases e
      | some jo =>
        obtain ⟨j, o⟩ := jo
        obtain ⟨h3, rfl, hl0⟩ := hb1 _ rfl
        simp only at h3
        subst h3
        cases hvv with
        | sliceEnd a sz h4 => omega
        | sliceRest _ _ cp h4 h5 h6 =>
          rename_i tj
          obtain ⟨hji, bs, hgj, hbl⟩ := hnt j tj rfl h4
          simp only [Value.ownBlock, Option.some.injEq] at e
          rcases hrel.inj j i tj t _ _ h4 ht hgj hg e.symm with h7 | h7
          · exact hji h7
          · cases h7.1
  have hv'sl : ∃ g cp cur, v' = .slice (some ⟨g, 0, none⟩) (len + s.size) cp ∧ w2.heap[g]? = some (.cells cur (ρ.t 5) (0, 0)) ∧ cp ≤ maxLen ∧ cur.size = cp * 1 := by
    rcases hown'.2 with ⟨_, h0⟩ | ⟨g, cp, cur, e1, _, e2, _, e3, e4, _⟩
    · omega
    · exact ⟨g, cp, cur, e1, e2, e3, e4⟩
  obtain ⟨g, cp, cur, rfl, hg2, hcp, hcs⟩ := hv'sl
  have hvs : ∃ a n c, v = .slice a n c := by cases hvv <;> exact ⟨_, _, _, rfl⟩
  refine (writeString_at L X hl t.blk w w2 hC hp s hr1 hbw2 hvs ⟨_, _, _, rfl⟩).mono fun e w' ⟨he, hw'⟩ => ⟨he, r', _, w2, g, cur, cp, hw', hv2, p1.trans p2, rfl, hg2, by omega, by unfold maxLen at hcp; omega, ⟨v, hbw2⟩, fun k hk hkt hkj => ?_⟩
  · rw [hgrow.block k (by rw [hw1s]; exact hk) fun e => ?_, hw1o k hkt]
    cases b with
    | none => cases hvv; cases e
    | some jo =>
      obtain ⟨j, o⟩ := jo
      obtain ⟨h3, rfl, hl0⟩ := hb1 _ rfl
      simp only at h3
      subst h3
      cases hvv with
      | sliceEnd a sz h4 => omega
      | sliceRest _ _ cp h4 h5 h6 =>
        simp only [Value.ownBlock, Option.some.injEq] at e
        exact hkj _ _ rfl h4 e

theorem ws_end {r r' : Ren} {h h2 : H} {w w2 : World} (hrel : Rel r h w) {i : Nat} {t : Tgt} (ht : r i = some t) {T U : TypeId} (hTU : T ≠ U) {cs0 : List AV} (hg : h.get i = some (.tc T cs0 true)) (hi : i < h.next) (p : Post r h.untc w r' h2 w2) (hnx : h2.next = h.next + 1) {len : Nat} {v v' : Value} {g cp : Nat} {cur : Array Value} {bs : List AV} (hlen : 0 < len)
    (hv' : v' = .slice (some ⟨g, 0, none⟩) len cp) (hcp : cp = cur.size) (hcpm : cp ≤ 9223372036854775807) (hvr : VR r' (.slice (some (h.next, 0)) len (.rest 1)) v') (hg2 : w2.heap[g]? = some (.cells cur U (0, 0))) (hb2 : w2.heap[t.blk]? = some (.cells #[.pointer (some ⟨t.blk, 0, none⟩), v] T (0, 0))) (hbase : t.base = 0) (hrow : t.row = 2)
    (hgi : ∃ cs, h2.get i = some (.cells cs false)) (hgn : h2.get h.next = some (.cells bs false)) {h' : H} (hn' : h'.next = h2.next) (hi' : h'.get i = some (.tc T [.ptr (some (i, 0)), .slice (some (h.next, 0)) len (.rest 1)] true)) (hx' : h'.get h.next = some (.tc U bs false)) (ho' : ∀ k, k ≠ i → k ≠ h.next → (h'.get k).map AObj.untc = h2.get k ∧ (h'.get k = none ∨ h'.get k = h.get k))
    (hkeep : ∀ k tk e cs ex, k ≠ i → k ≠ h.next → h'.get k = some (.tc e cs ex) → r k = some tk → tk.blk ≠ t.blk → w2.heap[tk.blk]? = w.heap[tk.blk]?) (hkn : ∀ k, k ≠ i → k < h.next → h'.get k = none → h.get k ≠ none → (h2.get k = h.untc.get k → False)) : Post r h w r' h' (w2.setCell ⟨t.blk, 1, none⟩ v') := by
  have ht' : r' i = some t := p.le i t ht
  obtain ⟨cs, hgi⟩ := hgi
  have hgb : g ≠ t.blk := fun e => by
    rw [e, hb2] at hg2
    simp only [Option.some.injEq, Obj.cells.injEq] at hg2
    exact hTU hg2.2.1
  have hother : ∀ k, k ≠ t.blk → (w2.setCell ⟨t.blk, 1, none⟩ v').heap[k]? = w2.heap[k]? := fun k hk => by simp [World.setCell, Array.getElem?_modify, Ne.symm hk]
  have hbk : (w2.setCell ⟨t.blk, 1, none⟩ v').heap[t.blk]? = some (.cells #[.pointer (some ⟨t.blk, 0, none⟩), v'] T (0, 0)) := by simp [World.setCell, Array.getElem?_modify, hb2]
  have hself : VR r' (.ptr (some (i, 0))) (.pointer (some ⟨t.blk, 0, none⟩)) := by
    have := VR.ptr (r := r') (o := 0) ht'
    rw [hbase] at this
    exact this
  have hcells : ∀ (k : Nat) (a : AV) (u : Value), ([.ptr (some (i, 0)), .slice (some (h.next, 0)) len (.rest 1)] : List AV)[k]? = some a → (#[.pointer (some ⟨t.blk, 0, none⟩), v'] : Array Value)[k]? = some u → VR r' a u := by
    intro k a u ha hu
    match k, ha, hu with
    | 0, ha, hu => simp at ha hu; subst ha; subst hu; exact hself
    | 1, ha, hu => simp at ha hu; subst ha; subst hu; exact hvr
    | k + 2, ha, hu => simp at ha
  have p3 : Post r' h2 w2 r' (h2.set i (.cells [.ptr (some (i, 0)), .slice (some (h.next, 0)) len (.rest 1)] false)) (w2.setCell ⟨t.blk, 1, none⟩ v') := by
    refine Post.of_set p.rel ht' hgi rfl rfl (by simp [World.setCell]) ⟨rfl, rfl, rfl, fun _ => Nat.le_refl _⟩ hother ⟨_, T, (0, 0), hbk, by rw [hrow]; simp, by rw [hbase, hrow]; simp, fun k a u ha hu => ?_, fun _ off _ => by simp⟩
    rw [hbase, Nat.zero_add] at hu
    exact hcells k a u ha hu
  have hin : i ≠ h.next := by omega
  -- the new row
  obtain ⟨tg, htg, htg1, htg2, htg3⟩ : ∃ tg, r' h.next = some tg ∧ tg.blk = g ∧ tg.base = 0 ∧ tg.row = cur.size := by
    subst hv'
    generalize hz : (Value.slice (some ⟨g, 0, none⟩) len cp) = z at hvr
    cases hvr with
    | sliceEnd a sz h4 => omega
    | sliceRest _ _ cap h4 h5 h6 =>
      rename_i tg
      simp only [Value.slice.injEq, Option.some.injEq, Addr.mk.injEq] at hz
      exact ⟨tg, h4, by omega, by omega, by omega⟩
  refine Post.retc hrel (p.trans p3) ?_ (fun k tk e cs2 ex hk hgk => ?_) fun k hk hsame => ?_
  · unfold H.untc H.set
    simp only [H.mk.injEq]
    refine ⟨hn', funext fun k => ?_⟩
    by_cases hki : k = i
    · subst hki; rw [if_pos rfl, hi']; rfl
    · rw [if_neg hki]
      by_cases hkx : k = h.next
      · subst hkx; rw [hx', hgn]; rfl
      · exact (ho' k hki hkx).1
  · by_cases hki : k = i
    · subst hki
      rw [hi'] at hgk; cases hgk
      rw [ht'] at hk; cases hk
      exact ⟨_, hbk, hbase, by rw [hrow]; rfl, by simp, fun _ => rfl, (fun h => by cases h), hcells⟩
    · by_cases hkx : k = h.next
      · subst hkx
        rw [hx'] at hgk; cases hgk
        rw [htg] at hk; cases hk
        obtain ⟨C, e2, fz, k1, k2, k3, k4, k5⟩ := p.rel.obj _ _ _ htg hgn
        rw [htg1, hg2] at k1
        cases k1
        refine ⟨cur, by rw [htg1, hother g hgb]; exact hg2, htg2, htg3, by rw [htg2, htg3] at k3; omega, (fun h => by cases h), fun _ => by omega, fun q a u ha hu => ?_⟩
        exact k4 q a u ha (by rw [htg2, Nat.zero_add]; exact hu)
      · obtain ⟨h5, h6⟩ := ho' k hki hkx
        rcases h6 with h6 | h6
        · rw [h6] at hgk; cases hgk
        · rw [hgk] at h6
          have hkl := hrel.wf k _ h6.symm
          have hrk : r k = some tk := by
            cases hr : r k with
            | some t0 => have := p.le k t0 hr; rw [hk] at this; rw [this]
            | none => have := p.dom k tk hk hr; simp only [H.untc] at this; omega
          have hne : tk.blk ≠ t.blk := fun e2 => by
            rcases hrel.inj k i tk t _ _ hrk ht h6.symm hg e2 with h7 | h7
            · exact hki h7
            · cases h7.1
          exact (hrel.obj k tk _ hrk h6.symm).move (p.le) (by rw [hother _ hne]; exact hkeep k tk e cs2 ex hki hkx hgk hrk hne)
  · by_cases hki : k = i
    · subst hki
      have h3 := untc_get hi'
      rw [hsame, untc_get hg] at h3
      simp only [AObj.untc, Option.some.injEq, AObj.cells.injEq] at h3
      rw [hi', hg, h3.1]
    · obtain ⟨h5, h6⟩ := ho' k hki (by omega)
      rcases h6 with h6 | h6
      · rw [h6]
        cases hgk : h.get k with
        | none => rfl
        | some o =>
          exfalso
          refine hkn k hki hk h6 (by rw [hgk]; simp) ?_
          rw [← h5, ← hsame]
          simp only [H.untc]
      · exact h6

theorem gS (h : H) (i k : Nat) (o : AObj) : (h.set i o).get k = if k = i then some o else h.get k := rfl
theorem gN (h : H) (k : Nat) (o : AObj) : (h.new o).get k = if k = h.next then some o else h.get k := rfl
theorem gK (h : H) (i k : Nat) : (h.kill i).get k = if k = i then none else h.get k := rfl
theorem gU (h : H) (k : Nat) : h.untc.get k = (h.get k).map AObj.untc := rfl
theorem nS (h : H) (i : Nat) (o : AObj) : (h.set i o).next = h.next := rfl
theorem nN (h : H) (o : AObj) : (h.new o).next = h.next + 1 := rfl
theorem nK (h : H) (i : Nat) : (h.kill i).next = h.next := rfl
theorem nU (h : H) : h.untc.next = h.next := rfl

theorem wsF_called (L : Lays.n166 P ρ) (X : Builder.Extra P ρ) {T : TypeId} (hl : liesAt P P.depth T (2 / P.cellsOf T) 0 (ρ.t 72) 1 = true) (hTU : T ≠ ρ.t 5) {fn : Func} (hf : P.funcs[ρ.f 166]? = some fn) (hb : fn.body.isNone = false) (hn : (fn.name == "runtime.NumGoroutine") = false)
    {p : Option (Nat × Nat)} {s : ByteArray} {h h' : H} (e : wsF T (ρ.t 5) p s h = some h') : Called P (ρ.f 166) [.ptr p, .str s] h (.tup [.int .i64 s.size, .junk]) h' := by
  unfold wsF at e
  split at e
  · rename_i i
    split at e
    · rename_i T' q b len cap hg
      split at e
      · rename_i hc
        obtain ⟨rfl, hq, hs⟩ := hc
        have vtup : ∀ r : Ren, VR r (.tup [.int .i64 s.size, .junk]) (.tuple #[.int .i64 s.size, .nilIface]) := fun r => by
          refine .tup _ _ (by simp) fun k a u ha hu => ?_
          match k, ha, hu with
          | 0, ha, hu => simp at ha hu; subst ha; subst hu; exact .int _ _
          | 1, ha, hu => simp at ha hu; subst ha; exact .junk _
          | k + 2, ha, hu => simp at ha
        split at e
        · -- nothing was written yet
          split at e
          · rename_i hsz
            cases e
            refine .inl ⟨⟨fn, hf, hb, hn⟩, by simp [H.set, H.new], fun hw k o hk => ?_, fun r w args' hrel hfree ha => ?_⟩
            · simp only [H.set, H.new] at hk ⊢
              split at hk
              · have := hw i _ hg; omega
              · split at hk
                · omega
                · have := hw k o hk; omega
            · obtain ⟨v0, u0, rfl, hv0, hu0⟩ := ha.two
              cases hu0
              cases hv0 with
              | ptr ht =>
              rename_i t
              have hor := hrel.obj i t _ ht hg
              obtain ⟨C, hC, hbase, hrow, _, hex, _, _⟩ := hor
              have hCs : C.size = 2 := hex rfl
              have hin : i < h.next := hrel.wf i _ hg
              have hinx : i ≠ h.next := by omega
              have hap : evApp 1 1 s.size (byteAVs s) (.slice none 0 (.known 0)) (h.untc.set i (.cells [.ptr (some (i, 0)), .slice none 0 (.known 0)] false)) = some (.slice (some (h.next, 0)) (0 + s.size) (.rest 1), (h.untc.set i (.cells [.ptr (some (i, 0)), .slice none 0 (.known 0)] false)).new (.cells (byteAVs s) false)) := by
                unfold evApp
                rw [if_neg (by omega), if_pos ⟨by omega, by omega⟩, Nat.zero_add]
                rfl
              have st := ws_steps L X hl hTU hrel ht hg hq s (fun j tj hj => by cases hj) (fun _ => ⟨rfl, rfl⟩) (fun p hp => by cases hp) (by omega) hs hap (fun k h1 h2 => hfree k h1 (by simp only [H.set, H.new, H.untc] at h2 ⊢; exact h2))
              rw [hbase] 
              refine st.mono fun e w' ⟨he, r', v', w2, g, cur, cp, hw', hvr, p, hv', hg2, hcp, hcpm, ⟨v, hb2⟩, hk⟩ => ?_
              subst hw'
              refine ⟨r', _, he, vtup r', ?_⟩
              rw [Nat.zero_add] at hv' hvr
              refine ws_end (bs := byteAVs s) hrel ht hTU hg hin p (by simp [H.set, H.new, H.untc]) hs hv' hcp hcpm hvr hg2 hb2 hbase (by rw [hrow, hCs]) ⟨[.ptr (some (i, 0)), .slice none 0 (.known 0)], by simp [gS, gN, gK, gU, nS, nN, nK, nU, hinx]⟩ (by simp [gS, gN, gK, gU, nS, nN, nK, nU]) (by simp [gS, gN, gK, gU, nS, nN, nK, nU]) (by simp [gS, gN, gK, gU, nS, nN, nK, nU]) (by simp [gS, gN, gK, gU, nS, nN, nK, nU, Ne.symm hinx]) (fun k h1 h2 => ?_) (fun k tk e2 cs2 ex h1 h2 h3 h4 h5 => hk tk.blk (hrel.bound k tk h4) h5 fun j tj hj => by cases hj) (fun k h1 h2 h3 h4 => ?_)
              · simp [gS, gN, gK, gU, nS, nN, nK, nU, h1, h2]
              · have hk2 : k ≠ h.next := by omega
                simp [gS, gN, gK, gU, nS, nN, nK, nU, h1, hk2] at h3
                exact absurd h3 h4
          · cases e
        · -- more
          rename_i cap0 j
          split at e
          · rename_i e' bs hgj
            split at e
            · rename_i hc2
              obtain ⟨rfl, hbl, hl0, hsz, hcell⟩ := hc2
              cases e
              have hji : j ≠ i := fun e2 => by subst e2; rw [hg] at hgj; cases hgj
              refine .inl ⟨⟨fn, hf, hb, hn⟩, by simp [H.set, H.new, H.kill], fun hw k o hk => ?_, fun r w args' hrel hfree ha => ?_⟩
              · have hi := hw i _ hg
                by_cases hki : k = i
                · simp only [nS, nN, nK]; omega
                · by_cases hkx : k = h.next
                  · simp only [nS, nN, nK]; omega
                  · by_cases hkj : k = j
                    · subst hkj
                      simp [gS, gN, gK, nK, hki, hkx] at hk
                    · simp [gS, gN, gK, nK, hki, hkx, hkj] at hk
                      have := hw k o hk
                      simp only [nS, nN, nK]; omega
              · obtain ⟨v0, u0, rfl, hv0, hu0⟩ := ha.two
                cases hu0
                cases hv0 with
                | ptr ht =>
                rename_i t
                have hor := hrel.obj i t _ ht hg
                obtain ⟨C, hC, hbase, hrow, _, hex, _, _⟩ := hor
                have hCs : C.size = 2 := hex rfl
                have hin : i < h.next := hrel.wf i _ hg
                have hjn : j < h.next := hrel.wf j _ hgj
                have hinx : i ≠ h.next := by omega
                let hA : H := h.untc.set i (.cells [.ptr (some (i, 0)), .slice (some (j, 0)) len (.rest 1)] false)
                have hAj : hA.get j = some (.cells bs false) := by simp [hA, gS, gN, gK, gU, nS, nN, nK, nU, hji, hgj, AObj.untc]
                have hap : evApp 1 1 s.size (byteAVs s) (.slice (some (j, 0)) len (.rest 1)) hA = some (.slice (some (h.next, 0)) (len + s.size) (.rest 1), (hA.kill j).new (.cells (bs ++ byteAVs s) false)) := by
                  simp only [evApp]
                  rw [if_neg (show ¬ s.size = 0 by omega), if_pos ⟨trivial, show (len + s.size) * 1 ≤ 140737488355328 by omega, show len + s.size ≤ 9223372036854775807 by omega⟩, hAj]
                  simp only
                  rw [if_pos ⟨show 0 + len * 1 = bs.length by omega, byteAVs_cell s⟩, List.drop_zero]
                  rfl
                have st := ws_steps L X hl hTU hrel ht hg hq s (fun j2 tj hj _ => by cases hj; exact ⟨hji, bs, hgj, hbl⟩) (fun h => by cases h) (fun p hp => by cases hp; exact ⟨rfl, rfl, hl0⟩) hsz hs hap (fun k h1 h2 => hfree k h1 (by simp only [hA, H.set, H.new, H.kill, H.untc] at h2 ⊢; exact h2))
                rw [hbase]
                refine st.mono fun e w' ⟨he, r', v', w2, g, cur, cp, hw', hvr, p, hv', hg2, hcp, hcpm, ⟨v, hb2⟩, hk⟩ => ?_
                subst hw'
                refine ⟨r', _, he, vtup r', ?_⟩
                refine ws_end (bs := bs ++ byteAVs s) hrel ht hTU hg hin p (by simp [hA, gS, gN, gK, gU, nS, nN, nK, nU]) (by omega) hv' hcp hcpm hvr hg2 hb2 hbase (by rw [hrow, hCs]) ⟨[.ptr (some (i, 0)), .slice (some (j, 0)) len (.rest 1)], by simp [hA, gS, gN, gK, gU, nS, nN, nK, nU, hinx, Ne.symm hji]⟩ (by simp [hA, gS, gN, gK, gU, nS, nN, nK, nU]) (by simp [hA, gS, gN, gK, gU, nS, nN, nK, nU]) (by simp [gS, gN, gK, gU, nS, nN, nK, nU]) (by simp [gS, gN, gK, gU, nS, nN, nK, nU, Ne.symm hinx]) (fun k h1 h2 => ?_) (fun k tk e2 cs2 ex h1 h2 h3 h4 h5 => hk tk.blk (hrel.bound k tk h4) h5 fun j2 tj hj hrj e3 => ?_) (fun k h1 h2 h3 h4 h5 => ?_)
                · by_cases hkj : k = j
                  · subst hkj; simp [hA, gS, gN, gK, gU, nS, nN, nK, nU, h1, h2]
                  · simp [hA, gS, gN, gK, gU, nS, nN, nK, nU, h1, h2, hkj]
                · cases hj
                  by_cases hkj : k = j
                  · subst hkj
                    simp [gS, gN, gK, gU, nS, nN, nK, nU, h1, h2] at h3
                  · simp [gS, gN, gK, gU, nS, nN, nK, nU, h1, h2, hkj] at h3
                    rcases hrel.inj k j tk tj _ _ h4 hrj h3 hgj e3 with h7 | h7
                    · exact hkj h7
                    · cases h7.1
                · have hk2 : k ≠ h.next := by omega
                  by_cases hkj : k = j
                  · subst hkj
                    simp [hA, gS, gN, gK, gU, nS, nN, nK, nU, h1, hk2, hgj] at h5
                  · simp [gS, gN, gK, gU, nS, nN, nK, nU, h1, hk2, hkj] at h3
                    exact h4 h3
            · cases e
          · cases e
        · cases e
      · cases e
    · cases e
  · cases e

theorem stF_called (L : Lays.n169 P ρ) (X : Builder.Extra P ρ) {T : TypeId} {fn : Func} (hf : P.funcs[ρ.f 169]? = some fn) (hb : fn.body.isNone = false) (hn : (fn.name == "runtime.NumGoroutine") = false)
    {p : Option (Nat × Nat)} {h : H} {q : ByteArray × H} (e : stF T (ρ.t 5) p h = some q) : Called P (ρ.f 169) [.ptr p] h (.str q.1) q.2 := by
  unfold stF at e
  split at e
  · rename_i i
    split at e
    · rename_i T' q0 j len hg
      split at e
      · rename_i e' bs hgj
        split at e
        · rename_i hc
          obtain ⟨rfl, rfl, hbl, hl0, hsz, hji⟩ := hc
          obtain ⟨ns, hns, e⟩ := Option.bind_eq_some_iff.1 e
          split at e
          case isFalse => cases e
          rename_i hrange
          cases e
          refine .inl ⟨⟨fn, hf, hb, hn⟩, Nat.le_refl _, fun hw k o hk => ?_, fun r w args' hrel hfree ha => ?_⟩
          · simp only [H.kill] at hk ⊢
            split at hk
            · cases hk
            · exact hw k o hk
          · obtain ⟨v0, rfl, hv0⟩ := ha.one
            cases hv0 with
            | ptr ht =>
            rename_i t
            obtain ⟨C, hC, hbase, hrow, hle0, hex, hex0, hcell⟩ := hrel.obj i t _ ht hg
            have hCs : C.size = 2 := hex rfl
            obtain ⟨p0, v, rfl⟩ : ∃ p v, C = #[p, v] := by
              refine ⟨C[0], C[1], ?_⟩
              apply Array.ext'
              rcases C with ⟨l⟩
              simp at hCs
              match l, hCs with
              | [x, y], _ => rfl
            have hvv : VR r (.slice (some (j, 0)) len (.rest 1)) v := hcell 1 _ _ rfl rfl
            cases hvv with
            | sliceEnd a sz h4 => omega
            | sliceRest _ _ cp h4 h5 h6 =>
            rename_i tj
            obtain ⟨cur, k1, k2, k3, k4, k7, k6, k5⟩ := hrel.obj j tj _ h4 hgj
            rw [hbase]
            have hbytes : ∃ l : List UInt8, l.length = len ∧ strOfNums ns = ⟨l.toArray⟩ ∧ ∀ (y : Nat) x, l[y]? = some x → cur[y]? = some (.int .u8 x.toNat) := by
              have hv : VRL r bs (cur.toList.take len) := ⟨by simp; omega, fun y a u ha hu => by
                rw [List.getElem?_take] at hu
                split at hu
                · exact k5 y a u ha (by rw [Array.getElem?_toList] at hu; exact hu)
                · cases hu⟩
              have hcur := evNums_sim hns hv
              have hnl : ns.length = len := by
                have := congrArg List.length hcur
                simp at this; omega
              refine ⟨ns.map fun n => UInt8.ofNat n.toNat, by simp [hnl], rfl, fun y x hx => ?_⟩
              rw [List.getElem?_map] at hx
              obtain ⟨n, hn2, rfl⟩ := Option.map_eq_some_iff.1 hx
              have hr2 := List.all_eq_true.1 hrange n (List.mem_of_getElem? hn2)
              simp only [Bool.and_eq_true, decide_eq_true_eq] at hr2
              have hy : y < len := by rw [← hnl]; exact (List.getElem?_eq_some_iff.1 hn2).1
              have h8 : (cur.toList.take len)[y]? = some (.int .u8 n) := by rw [hcur, List.getElem?_map, hn2]; rfl
              rw [List.getElem?_take, if_pos hy, Array.getElem?_toList] at h8
              rw [h8]
              congr 2
              have : (UInt8.ofNat n.toNat).toNat = n.toNat := by
                simp; omega
              rw [this]; omega
            have hne : tj.blk ≠ t.blk := fun e2 => by
              rcases hrel.inj j i tj t _ _ h4 ht hgj hg e2 with h7 | h7
              · exact hji h7
              · cases h7.1
            obtain ⟨l, hll, hstr, hlc⟩ := hbytes
            rw [k2, Nat.zero_add] at hC
            subst hll
            refine (string_at L X t.blk tj.blk cp p0 T' cur l w (fun h => by rw [h] at hl0; simp at hl0) hC k1 h6 (by omega) hsz hlc).mono fun e w' ⟨he, hw', henv⟩ => ⟨r, _, he, by rw [hstr]; exact .str _, ?_⟩
            have hoth : ∀ k, k ≠ tj.blk → w'.heap[k]? = w.heap[k]? := fun k hk => by
              rw [hw']
              unfold World.freeze
              split
              · rfl
              · simp only []
                rw [Array.getElem?_modify, if_neg (Ne.symm hk)]
            have hsz' : w'.heap.size = w.heap.size := by rw [hw']; exact heap_freeze_size _ _ _
            have pk := Post.of_kill h4 hrel
            refine ⟨r.le_refl, (fun k tk g1 g2 => by rw [g1] at g2; cases g2), ⟨pk.rel.wf, fun k tk o g1 g2 => ?_, pk.rel.inj, fun k tk g1 => by rw [hsz']; exact hrel.bound k tk g1, hrel.glob⟩, fun b hb hk => hoth b fun e2 => ?_, henv, by rw [hsz']; exact Nat.le_refl _, Nat.le_refl _, (fun k tk g1 g2 => by rw [g1] at g2; cases g2), pk.roKeep, pk.gap, pk.touch⟩
            · have hkj : k ≠ j := fun e2 => by subst e2; simp [gK] at g2
              refine (pk.rel.obj k tk o g1 g2).move r.le_refl (hoth _ fun e2 => ?_)
              simp only [gK, if_neg hkj] at g2
              rcases hrel.inj k j tk tj _ _ g1 h4 g2 hgj e2 with h7 | h7
              · exact hkj h7
              · cases h7.2
            · have := hk j tj _ h4 e2.symm hgj
              cases this
        · cases e
      · cases e
    · cases e
  · cases e

end Go.Ev

/- The abstract machine Ev, part Bx: blocks of one's own, in steps of one line each. -/

namespace Go.Ev

/-- a block, and what lies there -/
structure At (h : H) (b : Nat) (o : AObj) : Prop where
  lt : b < h.next
  get : h.get b = some o

theorem At.mod {h h' : H} {b : Nat} {o : AObj} {S : List Nat} (g : At h b o) (m : Mod S h h') (hS : b ∉ S) : At h' b o := ⟨m.lt g.lt, (m.get _ g.lt hS).trans g.get⟩
theorem At.mod0 {h h' : H} {b : Nat} {o : AObj} (g : At h b o) (m : Mod [] h h') : At h' b o := g.mod m (by simp)
theorem At.new (h : H) (o : AObj) : At (h.new o) h.next o := ⟨Nat.lt_succ_self _, get_new_self h o⟩
theorem At.row {h : H} {b n : Nat} {cs vs : List AV} {ro : Bool} {size len : Nat} {c : Cap} (g : At h b (.cells cs ro)) (hv : (cs.drop n).take (len * size) = vs) (hl : n + len * size ≤ cs.length) (hc : c = .rest size ∨ ∃ k, c = .known k ∧ len ≤ k) : Row h size (some (b, n)) len c vs := .row g.lt g.get hv hl hc
theorem At.grow {a h : H} {b : Nat} {cs : List AV} {size len : Nat} {c : Cap} (g : At h b (.cells cs false)) (hb : a.next ≤ b) (hl : cs.length = len * size) (hc : c = .rest size ∨ c = .known len) : Grow a h size (some (b, 0)) len c cs := ⟨.inr ⟨b, rfl, hb, g.lt, g.get, hl, hc⟩⟩

section
variable {α β : Type}

theorem At.cell {h : H} {b o : Nat} {cs : List AV} {ro : Bool} (g : At h b (.cells cs ro)) {v : AV} (hv : cs[o]? = some v) (f : AV → Option β) : cellK h b o f = f v := cellK_of g.get hv f
theorem At.agg {h : H} {b o n : Nat} {cs vs : List AV} {ro : Bool} (g : At h b (.cells cs ro)) (hv : (cs.drop o).take n = vs) (hl : o + n ≤ cs.length) (f : List AV → Option β) : aggK h b o n f = f vs := by rw [aggK_of g.get hl, hv]
theorem At.all {h : H} {b n : Nat} {cs : List AV} {ro : Bool} (g : At h b (.cells cs ro)) (hn : cs.length = n) (f : List AV → Option β) : aggK h b 0 n f = f cs := aggK_all g.get hn f

/-- cells written -/
theorem At.wr {h : H} {b o n : Nat} {cs xs : List AV} (g : At h b (.cells cs false)) (hn : xs.length = n) (hl : o + n ≤ cs.length) (hc : xs.all isCell = true) {f : H → Option (α × H)} {Q : α → H → Prop}
    (k : ∀ h', At h' b (.cells (spl cs o xs) false) → h'.next = h.next → Mod [b] h h' → Ret (f h') Q) : Ret (wrK h b o n xs f) Q := by
  rw [wrK_of g.get hn hl hc]
  exact k _ ⟨g.lt, get_set_self _ _ _⟩ rfl ((Mod.refl _ _).set (.inr (by simp)) _)
end

end Go.Ev
