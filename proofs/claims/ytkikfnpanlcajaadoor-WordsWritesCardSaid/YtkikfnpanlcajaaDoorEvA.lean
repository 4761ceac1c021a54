/- The abstract machine Ev, part A: values, heaps, and how they stand for the model's values and worlds. Plain definitions and small lemmas; no program. -/
import Derived.WalkKit
import Derived.Test.YtkikfnpanlcajaaDoorEvGl
set_option linter.all false
namespace Go.Ev

/-- where an abstract block lies: a block of the world, the offset of its first cell, the end of the part that is its own -/
structure Tgt where
  blk : Nat
  base : Nat
  row : Nat

inductive Cap where
  | known (c : Nat)
  | rest (size : Nat)

inductive AV where
  | junk
  | bool (b : Bool)
  | int (k : IntKind) (n : Int)
  | str (s : ByteArray)
  | ptr (p : Option (Nat × Nat))
  | slice (p : Option (Nat × Nat)) (len : Nat) (cap : Cap)
  | map (m : Option Nat)
  | func (f : FuncId) (first caps : List AV)
  | nilFunc
  | agg (cs : List AV)
  | tup (vs : List AV)

instance : Inhabited AV := ⟨.junk⟩

abbrev Ren := Nat → Option Tgt

inductive VR (r : Ren) : AV → Value → Prop
  | junk (v : Value) : VR r .junk v
  | bool (b : Bool) : VR r (.bool b) (.bool b)
  | int (k : IntKind) (n : Int) : VR r (.int k n) (.int k n)
  | str (s : ByteArray) : VR r (.str s) (.string s)
  | nil : VR r (.ptr none) (.pointer none)
  | ptr {i o : Nat} {t : Tgt} (h : r i = some t) : VR r (.ptr (some (i, o))) (.pointer (some ⟨t.blk, t.base + o, none⟩))
  | nilSlice : VR r (.slice none 0 (.known 0)) (.slice none 0 0)
  | slice {i o : Nat} {t : Tgt} (len c : Nat) (h : r i = some t) : VR r (.slice (some (i, o)) len (.known c)) (.slice (some ⟨t.blk, t.base + o, none⟩) len c)
  | sliceRest {i o : Nat} {t : Tgt} (len size cap : Nat) (h : r i = some t) (hc : t.base + o + cap * size = t.row) (hl : len ≤ cap) :
      VR r (.slice (some (i, o)) len (.rest size)) (.slice (some ⟨t.blk, t.base + o, none⟩) len cap)
  | sliceBare {i o : Nat} (a : Addr) : VR r (.slice (some (i, o)) 0 (.known 0)) (.slice (some a) 0 0)
  | sliceEnd {i o : Nat} {t : Tgt} (a : Addr) (size : Nat) (h : r i = some t) : VR r (.slice (some (i, o)) 0 (.rest size)) (.slice (some a) 0 0)
  | nilMap : VR r (.map none) (.map none)
  | map {i : Nat} {t : Tgt} (h : r i = some t) : VR r (.map (some i)) (.map (some t.blk))
  | func (f : FuncId) (first caps : List AV) (first' caps' : Array Value) (h1 : first.length = first'.size) (h2 : caps.length = caps'.size)
      (h3 : ∀ (i : Nat) (a : AV) (v : Value), first[i]? = some a → first'[i]? = some v → VR r a v) (h4 : ∀ (i : Nat) (a : AV) (v : Value), caps[i]? = some a → caps'[i]? = some v → VR r a v) :
      VR r (.func f first caps) (.func (.func f) first' caps')
  | nilFunc : VR r .nilFunc .nilFunc
  | agg (cs : List AV) (vs : Array Value) (h1 : cs.length = vs.size) (h2 : ∀ (i : Nat) (a : AV) (v : Value), cs[i]? = some a → vs[i]? = some v → VR r a v) : VR r (.agg cs) (.agg vs)
  | tup (cs : List AV) (vs : Array Value) (h1 : cs.length = vs.size) (h2 : ∀ (i : Nat) (a : AV) (v : Value), cs[i]? = some a → vs[i]? = some v → VR r a v) : VR r (.tup cs) (.tuple vs)

def Ren.le (r r' : Ren) : Prop := ∀ i t, r i = some t → r' i = some t

theorem Ren.le_refl (r : Ren) : r.le r := fun _ _ h => h
theorem Ren.le_trans {r r' r'' : Ren} (h : r.le r') (h' : r'.le r'') : r.le r'' := fun i t e => h' i t (h i t e)

theorem VR.mono {r r' : Ren} (hr : r.le r') {a : AV} {v : Value} (h : VR r a v) : VR r' a v := by
  induction h with
  | junk v => exact .junk v
  | bool b => exact .bool b
  | int k n => exact .int k n
  | str s => exact .str s
  | nil => exact .nil
  | ptr h => exact .ptr (hr _ _ h)
  | nilSlice => exact .nilSlice
  | slice len c h => exact .slice len c (hr _ _ h)
  | sliceRest len size cap h hc hl => exact .sliceRest len size cap (hr _ _ h) hc hl
  | sliceBare a => exact .sliceBare a
  | sliceEnd a size h => exact .sliceEnd a size (hr _ _ h)
  | nilMap => exact .nilMap
  | map h => exact .map (hr _ _ h)
  | func f first caps first' caps' h1 h2 _ _ ih3 ih4 => exact .func f first caps first' caps' h1 h2 ih3 ih4
  | nilFunc => exact .nilFunc
  | agg cs vs h1 _ ih => exact .agg cs vs h1 ih
  | tup cs vs h1 _ ih => exact .tup cs vs h1 ih

/-- a list of abstract values stands for a list of values -/
def VRL (r : Ren) (as : List AV) (vs : List Value) : Prop := as.length = vs.length ∧ ∀ (i : Nat) (a : AV) (v : Value), as[i]? = some a → vs[i]? = some v → VR r a v

theorem VRL.mono {r r' : Ren} (hr : r.le r') {as : List AV} {vs : List Value} (h : VRL r as vs) : VRL r' as vs :=
  ⟨h.1, fun i a v h1 h2 => (h.2 i a v h1 h2).mono hr⟩

theorem VRL.nil {r : Ren} : VRL r [] [] := ⟨rfl, fun i a v h => by simp at h⟩

theorem VRL.cons {r : Ren} {a : AV} {v : Value} {as : List AV} {vs : List Value} (h : VR r a v) (hs : VRL r as vs) : VRL r (a :: as) (v :: vs) := by
  refine ⟨by simp [hs.1], fun i a' v' h1 h2 => ?_⟩
  cases i with
  | zero => simp at h1 h2; subst h1; subst h2; exact h
  | succ i => simp at h1 h2; exact hs.2 i a' v' h1 h2

theorem VRL.inv_cons {r : Ren} {a : AV} {as : List AV} {vs : List Value} (h : VRL r (a :: as) vs) : ∃ v vs', vs = v :: vs' ∧ VR r a v ∧ VRL r as vs' := by
  cases vs with
  | nil => have := h.1; simp at this
  | cons v vs' => exact ⟨v, vs', rfl, h.2 0 a v rfl rfl, by have := h.1; simpa using this, fun i a' v' h1 h2 => h.2 (i + 1) a' v' (by simpa using h1) (by simpa using h2)⟩

theorem VRL.append {r : Ren} {as bs : List AV} {vs us : List Value} (h : VRL r as vs) (h' : VRL r bs us) : VRL r (as ++ bs) (vs ++ us) := by
  refine ⟨by simp [h.1, h'.1], fun i a v h1 h2 => ?_⟩
  rcases Nat.lt_or_ge i as.length with hi | hi
  · rw [List.getElem?_append_left hi] at h1
    rw [List.getElem?_append_left (h.1 ▸ hi)] at h2
    exact h.2 i a v h1 h2
  · rw [List.getElem?_append_right hi] at h1
    rw [List.getElem?_append_right (h.1 ▸ hi), ← h.1] at h2
    exact h'.2 _ a v h1 h2

theorem VRL.drop {r : Ren} {as : List AV} {vs : List Value} (h : VRL r as vs) (n : Nat) : VRL r (as.drop n) (vs.drop n) :=
  ⟨by simp [h.1], fun i a v h1 h2 => h.2 (n + i) a v (by simpa using h1) (by simpa using h2)⟩

theorem VRL.take {r : Ren} {as : List AV} {vs : List Value} (h : VRL r as vs) (n : Nat) : VRL r (as.take n) (vs.take n) := by
  refine ⟨by simp [h.1], fun i a v h1 h2 => ?_⟩
  rw [List.getElem?_take] at h1 h2
  split at h1
  · rename_i hi; rw [if_pos hi] at h2; exact h.2 i a v h1 h2
  · cases h1

theorem VRL.set {r : Ren} {as : List AV} {vs : List Value} (h : VRL r as vs) (n : Nat) {a : AV} {v : Value} (hv : VR r a v) : VRL r (as.set n a) (vs.set n v) := by
  refine ⟨by simp [h.1], fun i a' v' h1 h2 => ?_⟩
  rw [List.getElem?_set] at h1 h2
  split at h1
  · rename_i hi
    rw [if_pos hi] at h2
    subst hi
    split at h1
    · rename_i hl; rw [h.1] at hl; rw [if_pos hl] at h2; cases h1; cases h2; exact hv
    · cases h1
  · rename_i hi; rw [if_neg hi] at h2; exact h.2 i a' v' h1 h2

theorem VRL.map {r : Ren} {α : Type} (l : List α) (f : α → AV) (g : α → Value) (h : ∀ x ∈ l, VR r (f x) (g x)) : VRL r (l.map f) (l.map g) := by
  refine ⟨by simp, fun i a v h1 h2 => ?_⟩
  rw [List.getElem?_map] at h1 h2
  cases hl : l[i]? with
  | none => simp [hl] at h1
  | some x => simp [hl] at h1 h2; subst h1; subst h2; exact h x (List.mem_of_getElem? hl)

theorem VRL.replicate {r : Ren} {a : AV} {v : Value} (n : Nat) (h : VR r a v) : VRL r (List.replicate n a) (List.replicate n v) := by
  refine ⟨by simp, fun i a' v' h1 h2 => ?_⟩
  rw [List.getElem?_replicate] at h1 h2
  split at h1
  · rename_i hi; rw [if_pos hi] at h2; cases h1; cases h2; exact h
  · cases h1

/-! ### heaps -/

inductive AObj where
  | cells (cs : List AV) (ro : Bool)
  | map (es : List (AV × AV × Nat)) (clk : Nat)
  | rmap (es : List (AV × AV × Nat))
  | miter (m : Option Nat) (since : Nat) (seen : List Nat) (last : Nat)
  | siter (s : ByteArray) (pos : Nat)
  /-- a whole block that nobody writes -/
  | tab (cs : List AV)

def AObj.ro : AObj → Bool
  | .cells _ ro => ro
  | .rmap _ => true
  | .tab _ => true
  | _ => false

structure H where
  next : Nat
  get : Nat → Option AObj

def H.set (h : H) (i : Nat) (o : AObj) : H := ⟨h.next, fun j => if j = i then some o else h.get j⟩
def H.new (h : H) (o : AObj) : H := ⟨h.next + 1, fun j => if j = h.next then some o else h.get j⟩
def H.kill (h : H) (i : Nat) : H := ⟨h.next, fun j => if j = i then none else h.get j⟩
def H.bare (h : H) : H := ⟨h.next, fun _ => none⟩

/-- two keys, where they are told apart: numbers, texts, truth values -/
def keyCmp : AV → AV → Option Bool
  | .int k a, .int k' b => if k = k' then some (a == b) else none
  | .str a, .str b => some (a == b)
  | .bool a, .bool b => some (a == b)
  | _, _ => none

/-- a map's entries, in whatever order -/
def EntriesR (r : Ren) (es : List (AV × AV × Nat)) (E : List MapEntry) : Prop :=
  ∃ E' : List MapEntry, E'.Perm E ∧ es.length = E'.length ∧ ∀ (i : Nat) (x : AV × AV × Nat) (e : MapEntry), es[i]? = some x → E'[i]? = some e → VR r x.1 e.key ∧ VR r x.2.1 e.val ∧ x.2.2 = e.born

/-- an abstract object stands for the block at its target -/
def OR (r : Ren) (w : World) (t : Tgt) : AObj → Prop
  | .cells cs ro => ∃ C e fz, w.heap[t.blk]? = some (.cells C e fz) ∧ t.row ≤ C.size ∧ t.base + cs.length ≤ t.row ∧
      (∀ (i : Nat) (a : AV) (v : Value), cs[i]? = some a → C[t.base + i]? = some v → VR r a v) ∧ (ro = false → ∀ off, off < C.size → ¬ (fz.1 ≤ off ∧ off < fz.2))
  | .map es clk => ∃ E, w.heap[t.blk]? = some (.map E clk) ∧ EntriesR r es E.toList ∧ es.Pairwise fun a b => keyCmp a.1 b.1 = some false
  | .rmap es => ∃ E clk, w.heap[t.blk]? = some (.map E clk) ∧ EntriesR r es E.toList ∧ es.Pairwise fun a b => keyCmp a.1 b.1 = some false
  | .miter m since seen last => ∃ m', w.heap[t.blk]? = some (.mapIter m' since seen.toArray last) ∧ t.base = 0 ∧ VR r (.map m) (.map m')
  | .siter s p => w.heap[t.blk]? = some (.stringIter s p) ∧ t.base = 0
  | .tab cs => ∃ C e fz, w.heap[t.blk]? = some (.cells C e fz) ∧ t.base = 0 ∧ C.size = cs.length ∧ ∀ (i : Nat) (a : AV) (v : Value), cs[i]? = some a → C[i]? = some v → VR r a v

/-- the package's variables -/
def glFind : List (Nat × Nat) → Nat → Option Nat
  | [], _ => none
  | (a, i) :: l, g => match Nat.beq a g with | true => some i | false => glFind l g
def glV (g : Nat) : AV := match glFind glTab g with | some i => .ptr (some (i, 0)) | none => .junk
def GL (r : Ren) : Prop := ∀ g i, glFind glTab g = some i → ∃ row, r i = some ⟨g, 0, row⟩
theorem GL.mono {r r' : Ren} (hr : r.le r') (h : GL r) : GL r' := fun g i e => (h g i e).imp fun _ h => hr _ _ h
theorem GL.vr {r : Ren} (h : GL r) (g : Nat) : VR r (glV g) (.pointer (some ⟨g, 0, none⟩)) := by
  unfold glV
  split
  · rename_i i e
    obtain ⟨row, hr⟩ := h g i e
    exact .ptr (o := 0) hr
  · exact .junk _

structure Rel (r : Ren) (h : H) (w : World) : Prop where
  wf : ∀ i o, h.get i = some o → i < h.next
  obj : ∀ i t o, r i = some t → h.get i = some o → OR r w t o
  inj : ∀ i j ti tj oi oj, r i = some ti → r j = some tj → h.get i = some oi → h.get j = some oj → ti.blk = tj.blk → i = j ∨ (oi.ro = true ∧ oj.ro = true)
  bound : ∀ i t, r i = some t → t.blk < w.heap.size
  glob : GL r

/-- blocks that no writable object of h stands for are as they were -/
def Keep (r : Ren) (h : H) (w w' : World) : Prop :=
  ∀ b, b < w.heap.size → (∀ i t o, r i = some t → t.blk = b → h.get i = some o → o.ro = true) → w'.heap[b]? = w.heap[b]?

/-- what lies outside the memory is as it was -/
def Env (w w' : World) : Prop := w'.os = w.os ∧ w'.tape = w.tape ∧ w'.output = w.output ∧ (drawnB = true → w.drawn ≤ w'.drawn)
theorem Env.refl (w : World) : Env w w := ⟨rfl, rfl, rfl, fun _ => Nat.le_refl _⟩
theorem Env.trans {a b c : World} (h : Env a b) (k : Env b c) : Env a c := ⟨k.1.trans h.1, k.2.1.trans h.2.1, k.2.2.1.trans h.2.2.1, fun e => Nat.le_trans (h.2.2.2 e) (k.2.2.2 e)⟩

structure Post (r : Ren) (h : H) (w : World) (r' : Ren) (h' : H) (w' : World) : Prop where
  le : r.le r'
  dom : ∀ i t, r' i = some t → r i = none → h.next ≤ i ∧ i < h'.next
  rel : Rel r' h' w'
  keep : Keep r h w w'
  env : Env w w'
  size : w.heap.size ≤ w'.heap.size
  next : h.next ≤ h'.next
  fresh : ∀ i t, r i = none → r' i = some t → w.heap.size ≤ t.blk ∨ ∃ j tj o, r j = some tj ∧ tj.blk = t.blk ∧ h.get j = some o ∧ o.ro = false
  roKeep : ∀ i o, i < h.next → h'.get i = some o → ∃ o', h.get i = some o' ∧ o'.ro = o.ro
  gap : ∀ i t, r i = some t → i < h.next ∨ h'.next ≤ i
  touch : ∀ i, i < h.next → h'.get i ≠ h.get i → ∃ t, r i = some t

theorem EntriesR.mono {r r' : Ren} (hr : r.le r') {es : List (AV × AV × Nat)} {E : List MapEntry} (h : EntriesR r es E) : EntriesR r' es E := by
  obtain ⟨E', h1, h2, h3⟩ := h
  exact ⟨E', h1, h2, fun i x e hx he => ⟨(h3 i x e hx he).1.mono hr, (h3 i x e hx he).2.1.mono hr, (h3 i x e hx he).2.2⟩⟩

/-- an object stands for its block as long as the block is as it was -/
theorem OR.move {r r' : Ren} {w w' : World} {t : Tgt} {o : AObj} (hr : r.le r') (hw : w'.heap[t.blk]? = w.heap[t.blk]?) (h : OR r w t o) : OR r' w' t o := by
  cases o with
  | cells cs ro =>
    obtain ⟨C, e, fz, h1, h2, h3, h4, h5⟩ := h
    exact ⟨C, e, fz, hw ▸ h1, h2, h3, fun i a v ha hv => (h4 i a v ha hv).mono hr, h5⟩
  | map es clk =>
    obtain ⟨E, h1, h2, h3⟩ := h
    exact ⟨E, hw ▸ h1, h2.mono hr, h3⟩
  | rmap es =>
    obtain ⟨E, clk, h1, h2, h3⟩ := h
    exact ⟨E, clk, hw ▸ h1, h2.mono hr, h3⟩
  | miter m since seen last =>
    obtain ⟨m', h1, h2, h3⟩ := h
    exact ⟨m', hw ▸ h1, h2, h3.mono hr⟩
  | siter s p => exact ⟨hw ▸ h.1, h.2⟩
  | tab cs =>
    obtain ⟨C, e, fz, h1, h2, h3, h4⟩ := h
    exact ⟨C, e, fz, hw ▸ h1, h2, h3, fun i a v ha hv => (h4 i a v ha hv).mono hr⟩

theorem Post.refl {r : Ren} {h : H} {w : World} (hrel : Rel r h w) : Post r h w r h w where
  le := r.le_refl
  dom := fun i t h1 h2 => by rw [h1] at h2; cases h2
  rel := hrel
  keep := fun _ _ _ => rfl
  env := .refl w
  size := Nat.le_refl _
  next := Nat.le_refl _
  fresh := fun i t h1 h2 => by rw [h1] at h2; cases h2
  roKeep := fun i o _ h => ⟨o, h, rfl⟩
  gap := fun i t _ => by omega
  touch := fun i _ h => absurd rfl h

/-- The same heap in a world with the same blocks. -/
theorem Post.same {r : Ren} {h : H} {w w' : World} (hrel : Rel r h w) (hw : w'.heap = w.heap) (henv : Env w w') : Post r h w r h w' where
  env := henv
  le := r.le_refl
  dom := fun i t h1 h2 => by rw [h1] at h2; cases h2
  rel := ⟨hrel.wf, fun i t o h1 h2 => (hrel.obj i t o h1 h2).move r.le_refl (by rw [hw]), hrel.inj, fun i t h => by rw [hw]; exact hrel.bound i t h, hrel.glob⟩
  keep := fun _ _ _ => by rw [hw]
  size := by rw [hw]; exact Nat.le_refl _
  next := Nat.le_refl _
  fresh := fun i t h1 h2 => by rw [h1] at h2; cases h2
  roKeep := fun i o _ h => ⟨o, h, rfl⟩
  gap := fun i t _ => by omega
  touch := fun i _ h => absurd rfl h

theorem Post.trans {r r' r'' : Ren} {h h' h'' : H} {w w' w'' : World} (p : Post r h w r' h' w') (q : Post r' h' w' r'' h'' w'') : Post r h w r'' h'' w'' where
  le := Ren.le_trans p.le q.le
  dom := fun i t h1 h2 => by
    cases hr : r' i with
    | none => have := q.dom i t h1 hr; exact ⟨Nat.le_trans p.next this.1, this.2⟩
    | some t' => have := p.dom i t' hr h2; exact ⟨this.1, Nat.lt_of_lt_of_le this.2 q.next⟩
  rel := q.rel
  env := p.env.trans q.env
  keep := fun b hb hk => by
    rw [q.keep b (Nat.lt_of_lt_of_le hb p.size) ?_, p.keep b hb hk]
    intro i t o h1 h2 h3
    cases hr : r i with
    | none =>
      rcases p.fresh i t hr h1 with hf | ⟨j, tj, oj, hj, hbj, hoj, hroj⟩
      · omega
      · have := hk j tj oj hj (hbj.trans h2) hoj; rw [this] at hroj; cases hroj
    | some t' =>
      have he := p.le i t' hr
      rw [h1] at he; cases he
      by_cases hlt : i < h.next
      · obtain ⟨o', ho', hro⟩ := p.roKeep i o hlt h3
        rw [← hro]; exact hk i _ o' hr h2 ho'
      · have h5 := p.rel.wf i o h3
        rcases p.gap i _ hr with h4 | h4 <;> omega
  size := Nat.le_trans p.size q.size
  next := Nat.le_trans p.next q.next
  fresh := fun i t h1 h2 => by
    cases hr : r' i with
    | none =>
      rcases q.fresh i t hr h2 with hf | ⟨j, tj, o, hj, hb, ho, hro⟩
      · exact .inl (Nat.le_trans p.size hf)
      · cases hrj : r j with
        | none =>
          rcases p.fresh j tj hrj hj with hf' | ⟨j2, tj2, o2, h21, h22, h23, h24⟩
          · exact .inl (hb ▸ hf')
          · exact .inr ⟨j2, tj2, o2, h21, h22.trans hb, h23, h24⟩
        | some tj' =>
          have he := p.le j tj' hrj
          rw [hj] at he; cases he
          have hlt : j < h.next := by
            have h5 := p.rel.wf j o ho
            rcases p.gap j _ hrj with h4 | h4 <;> omega
          obtain ⟨o', ho', hro'⟩ := p.roKeep j o hlt ho
          exact .inr ⟨j, _, o', hrj, hb, ho', hro'.trans hro⟩
    | some t' =>
      have := q.le i t' hr
      rw [this] at h2; cases h2
      exact p.fresh i t h1 hr
  roKeep := fun i o hi ho => by
    obtain ⟨o', ho', hro⟩ := q.roKeep i o (Nat.lt_of_lt_of_le hi p.next) ho
    obtain ⟨o'', ho'', hro'⟩ := p.roKeep i o' hi ho'
    exact ⟨o'', ho'', hro'.trans hro⟩
  gap := fun i t hi => by
    have h1 := p.gap i t hi
    have h2 := q.gap i t (p.le i t hi)
    have := p.next; have := q.next
    omega
  touch := fun i hi hne => by
    by_cases e : h'.get i = h.get i
    · obtain ⟨t, ht⟩ := q.touch i (Nat.lt_of_lt_of_le hi p.next) (by rw [e]; exact hne)
      cases hr : r i with
      | none => have := p.dom i t ht hr; omega
      | some t' => exact ⟨t', rfl⟩
    · exact p.touch i hi e

end Go.Ev
