/- Own texts, joined: EvGl EvA EvB EvC EvD EvE EvF EvFm EvG EvH. -/
import Derived.WalkKit
import Derived.MapKept
set_option linter.all false
/- The package's variables that are looked at: their numbers in the program, and which blocks they are (the first rows). Printed for a seat. -/
namespace Go.Ev
def glTab : List (Nat × Nat) := [(0, 0), (3, 1)]
/-- the types whose variables' types are kept in mind -/
def tcTab : List Nat := [53]
def tcIn : List Nat → Nat → Bool
 | [], _ => false
 | x :: l, e => match Nat.beq x e with | true => true | false => tcIn l e
/-- is it kept in mind that draws are but counted up? (sorts want it; the kit's 'Below' does not tell it) -/
def drawnB : Bool := false
end Go.Ev

/- The abstract machine Ev, part A: values, heaps, and how they stand for the model's values and worlds. Plain definitions and small lemmas; no program. -/
namespace Go.Ev
/-- where an abstract block lies: a block of the world, the offset of its first cell, the end of the part that is its own -/
structure Tgt where
 blk : Nat
 base : Nat
 row : Nat
inductive Cap where
 | known (c : Nat)
 | rest (size : Nat)
inductive AV where
 | junk
 | bool (b : Bool)
 | int (k : IntKind) (n : Int)
 | str (s : ByteArray)
 | ptr (p : Option (Nat × Nat))
 | slice (p : Option (Nat × Nat)) (len : Nat) (cap : Cap)
 | map (m : Option Nat)
 | func (f : FuncId) (first caps : List AV)
 | nilFunc
 | agg (cs : List AV)
 | tup (vs : List AV)
instance : Inhabited AV := ⟨.junk⟩
abbrev Ren := Nat → Option Tgt
inductive VR (r : Ren) : AV → Value → Prop
 | junk (v : Value) : VR r .junk v
 | bool (b : Bool) : VR r (.bool b) (.bool b)
 | int (k : IntKind) (n : Int) : VR r (.int k n) (.int k n)
 | str (s : ByteArray) : VR r (.str s) (.string s)
 | nil : VR r (.ptr none) (.pointer none)
 | ptr {i o : Nat} {t : Tgt} (h : r i = some t) : VR r (.ptr (some (i, o))) (.pointer (some ⟨t.blk, t.base + o, none⟩))
 | nilSlice : VR r (.slice none 0 (.known 0)) (.slice none 0 0)
 | slice {i o : Nat} {t : Tgt} (len c : Nat) (h : r i = some t) : VR r (.slice (some (i, o)) len (.known c)) (.slice (some ⟨t.blk, t.base + o, none⟩) len c)
 | sliceRest {i o : Nat} {t : Tgt} (len size cap : Nat) (h : r i = some t) (hc : t.base + o + cap * size = t.row) (hl : len ≤ cap) :
   VR r (.slice (some (i, o)) len (.rest size)) (.slice (some ⟨t.blk, t.base + o, none⟩) len cap)
 | sliceBare {i o : Nat} (a : Addr) : VR r (.slice (some (i, o)) 0 (.known 0)) (.slice (some a) 0 0)
 | sliceEnd {i o : Nat} {t : Tgt} (a : Addr) (size : Nat) (h : r i = some t) : VR r (.slice (some (i, o)) 0 (.rest size)) (.slice (some a) 0 0)
 | nilMap : VR r (.map none) (.map none)
 | map {i : Nat} {t : Tgt} (h : r i = some t) : VR r (.map (some i)) (.map (some t.blk))
 | func (f : FuncId) (first caps : List AV) (first' caps' : Array Value) (h1 : first.length = first'.size) (h2 : caps.length = caps'.size)
   (h3 : ∀ (i : Nat) (a : AV) (v : Value), first[i]? = some a → first'[i]? = some v → VR r a v) (h4 : ∀ (i : Nat) (a : AV) (v : Value), caps[i]? = some a → caps'[i]? = some v → VR r a v) :
   VR r (.func f first caps) (.func (.func f) first' caps')
 | nilFunc : VR r .nilFunc .nilFunc
 | agg (cs : List AV) (vs : Array Value) (h1 : cs.length = vs.size) (h2 : ∀ (i : Nat) (a : AV) (v : Value), cs[i]? = some a → vs[i]? = some v → VR r a v) : VR r (.agg cs) (.agg vs)
 | tup (cs : List AV) (vs : Array Value) (h1 : cs.length = vs.size) (h2 : ∀ (i : Nat) (a : AV) (v : Value), cs[i]? = some a → vs[i]? = some v → VR r a v) : VR r (.tup cs) (.tuple vs)
def Ren.le (r r' : Ren) : Prop := ∀ i t, r i = some t → r' i = some t
theorem Ren.le_refl (r : Ren) : r.le r := fun _ _ h => h
theorem Ren.le_trans {r r' r'' : Ren} (h : r.le r') (h' : r'.le r'') : r.le r'' := fun i t e => h' i t (h i t e)
theorem VR.mono {r r' : Ren} (hr : r.le r') {a : AV} {v : Value} (h : VR r a v) : VR r' a v := by
 induction h with
 | junk v => exact .junk v
 | bool b => exact .bool b
 | int k n => exact .int k n
 | str s => exact .str s
 | nil => exact .nil
 | ptr h => exact .ptr (hr _ _ h)
 | nilSlice => exact .nilSlice
 | slice len c h => exact .slice len c (hr _ _ h)
 | sliceRest len size cap h hc hl => exact .sliceRest len size cap (hr _ _ h) hc hl
 | sliceBare a => exact .sliceBare a
 | sliceEnd a size h => exact .sliceEnd a size (hr _ _ h)
 | nilMap => exact .nilMap
 | map h => exact .map (hr _ _ h)
 | func f first caps first' caps' h1 h2 _ _ ih3 ih4 => exact .func f first caps first' caps' h1 h2 ih3 ih4
 | nilFunc => exact .nilFunc
 | agg cs vs h1 _ ih => exact .agg cs vs h1 ih
 | tup cs vs h1 _ ih => exact .tup cs vs h1 ih
/-- a list of abstract values stands for a list of values -/
def VRL (r : Ren) (as : List AV) (vs : List Value) : Prop := as.length = vs.length ∧ ∀ (i : Nat) (a : AV) (v : Value), as[i]? = some a → vs[i]? = some v → VR r a v
theorem VRL.mono {r r' : Ren} (hr : r.le r') {as : List AV} {vs : List Value} (h : VRL r as vs) : VRL r' as vs :=
 ⟨h.1, fun i a v h1 h2 => (h.2 i a v h1 h2).mono hr⟩
theorem VRL.nil {r : Ren} : VRL r [] [] := ⟨rfl, fun i a v h => by simp at h⟩
theorem VRL.cons {r : Ren} {a : AV} {v : Value} {as : List AV} {vs : List Value} (h : VR r a v) (hs : VRL r as vs) : VRL r (a :: as) (v :: vs) := by
 refine ⟨by simp [hs.1], fun i a' v' h1 h2 => ?_⟩
 cases i with
 | zero => simp at h1 h2; subst h1; subst h2; exact h
 | succ i => simp at h1 h2; exact hs.2 i a' v' h1 h2
theorem VRL.inv_cons {r : Ren} {a : AV} {as : List AV} {vs : List Value} (h : VRL r (a :: as) vs) : ∃ v vs', vs = v :: vs' ∧ VR r a v ∧ VRL r as vs' := by
 cases vs with
 | nil => have := h.1; simp at this
 | cons v vs' => exact ⟨v, vs', rfl, h.2 0 a v rfl rfl, by have := h.1; simpa using this, fun i a' v' h1 h2 => h.2 (i + 1) a' v' (by simpa using h1) (by simpa using h2)⟩
theorem VRL.append {r : Ren} {as bs : List AV} {vs us : List Value} (h : VRL r as vs) (h' : VRL r bs us) : VRL r (as ++ bs) (vs ++ us) := by
 refine ⟨by simp [h.1, h'.1], fun i a v h1 h2 => ?_⟩
 rcases Nat.lt_or_ge i as.length with hi | hi
 ·rw [List.getElem?_append_left hi] at h1
  rw [List.getElem?_append_left (h.1 ▸ hi)] at h2
  exact h.2 i a v h1 h2
 ·rw [List.getElem?_append_right hi] at h1
  rw [List.getElem?_append_right (h.1 ▸ hi), ← h.1] at h2
  exact h'.2 _ a v h1 h2
theorem VRL.drop {r : Ren} {as : List AV} {vs : List Value} (h : VRL r as vs) (n : Nat) : VRL r (as.drop n) (vs.drop n) :=
 ⟨by simp [h.1], fun i a v h1 h2 => h.2 (n + i) a v (by simpa using h1) (by simpa using h2)⟩
theorem VRL.take {r : Ren} {as : List AV} {vs : List Value} (h : VRL r as vs) (n : Nat) : VRL r (as.take n) (vs.take n) := by
 refine ⟨by simp [h.1], fun i a v h1 h2 => ?_⟩
 rw [List.getElem?_take] at h1 h2
 split at h1
 ·rename_i hi; rw [if_pos hi] at h2; exact h.2 i a v h1 h2
 ·cases h1
theorem VRL.set {r : Ren} {as : List AV} {vs : List Value} (h : VRL r as vs) (n : Nat) {a : AV} {v : Value} (hv : VR r a v) : VRL r (as.set n a) (vs.set n v) := by
 refine ⟨by simp [h.1], fun i a' v' h1 h2 => ?_⟩
 rw [List.getElem?_set] at h1 h2
 split at h1
 ·rename_i hi
  rw [if_pos hi] at h2
  subst hi
  split at h1
  ·rename_i hl; rw [h.1] at hl; rw [if_pos hl] at h2; cases h1; cases h2; exact hv
  ·cases h1
 ·rename_i hi; rw [if_neg hi] at h2; exact h.2 i a' v' h1 h2
theorem VRL.map {r : Ren} {α : Type} (l : List α) (f : α → AV) (g : α → Value) (h : ∀ x ∈ l, VR r (f x) (g x)) : VRL r (l.map f) (l.map g) := by
 refine ⟨by simp, fun i a v h1 h2 => ?_⟩
 rw [List.getElem?_map] at h1 h2
 cases hl : l[i]? with
 | none => simp [hl] at h1
 | some x => simp [hl] at h1 h2; subst h1; subst h2; exact h x (List.mem_of_getElem? hl)
inductive AObj where
 | cells (cs : List AV) (ro : Bool)
 | map (es : List (AV × AV × Nat)) (clk : Nat)
 | rmap (es : List (AV × AV × Nat)) (clk : Nat)
 /-- a block of which nothing is told -/
 | hid
 /-- a whole block of a known type; ex: it is told to its end -/
 | tc (e : TypeId) (cs : List AV) (ex : Bool)
 | miter (m : Option Nat) (since : Nat) (seen : List Nat) (last : Nat)
 | siter (s : ByteArray) (pos : Nat)
 /-- a whole block that nobody writes -/
 | tab (cs : List AV)
def AObj.ro : AObj → Bool
 | .cells _ ro => ro
 | .rmap _ _ => true
 | .hid => true
 | .tab _ => true
 | _ => false
structure H where
 next : Nat
 get : Nat → Option AObj
def H.set (h : H) (i : Nat) (o : AObj) : H := ⟨h.next, fun j => if j = i then some o else h.get j⟩
def H.new (h : H) (o : AObj) : H := ⟨h.next + 1, fun j => if j = h.next then some o else h.get j⟩
def H.kill (h : H) (i : Nat) : H := ⟨h.next, fun j => if j = i then none else h.get j⟩
/-- two keys, where they are told apart: numbers, texts, truth values -/
def keyCmp : AV → AV → Option Bool
 | .int k a, .int k' b => if k = k' then some (a == b) else none
 | .str a, .str b => some (a == b)
 | .bool a, .bool b => some (a == b)
 | _, _ => none
/-- a map's entries, in whatever order -/
def EntriesR (r : Ren) (es : List (AV × AV × Nat)) (E : List MapEntry) : Prop :=
 ∃ E' : List MapEntry, E'.Perm E ∧ es.length = E'.length ∧ ∀ (i : Nat) (x : AV × AV × Nat) (e : MapEntry), es[i]? = some x → E'[i]? = some e → VR r x.1 e.key ∧ VR r x.2.1 e.val ∧ x.2.2 = e.born
/-- an abstract object stands for the block at its target -/
def OR (r : Ren) (w : World) (t : Tgt) : AObj → Prop
 | .cells cs ro => ∃ C e fz, w.heap[t.blk]? = some (.cells C e fz) ∧ t.row ≤ C.size ∧ t.base + cs.length ≤ t.row ∧
   (∀ (i : Nat) (a : AV) (v : Value), cs[i]? = some a → C[t.base + i]? = some v → VR r a v) ∧ (ro = false → ∀ off, off < C.size → ¬ (fz.1 ≤ off ∧ off < fz.2))
 | .map es clk => ∃ E, w.heap[t.blk]? = some (.map E clk) ∧ EntriesR r es E.toList ∧ es.Pairwise fun a b => keyCmp a.1 b.1 = some false
 | .rmap es clk => ∃ E, w.heap[t.blk]? = some (.map E clk) ∧ EntriesR r es E.toList ∧ es.Pairwise fun a b => keyCmp a.1 b.1 = some false
 | .hid => True
 | .tc e cs ex => ∃ C, w.heap[t.blk]? = some (.cells C e (0, 0)) ∧ t.base = 0 ∧ t.row = C.size ∧ cs.length ≤ C.size ∧ (ex = true → C.size = cs.length) ∧ (ex = false → C.size ≤ 9223372036854775807) ∧ ∀ (i : Nat) (a : AV) (v : Value), cs[i]? = some a → C[i]? = some v → VR r a v
 | .miter m since seen last => ∃ m', w.heap[t.blk]? = some (.mapIter m' since seen.toArray last) ∧ t.base = 0 ∧ VR r (.map m) (.map m')
 | .siter s p => w.heap[t.blk]? = some (.stringIter s p) ∧ t.base = 0
 | .tab cs => ∃ C e fz, w.heap[t.blk]? = some (.cells C e fz) ∧ t.base = 0 ∧ C.size = cs.length ∧ ∀ (i : Nat) (a : AV) (v : Value), cs[i]? = some a → C[i]? = some v → VR r a v
/-- the package's variables -/
def glFind : List (Nat × Nat) → Nat → Option Nat
 | [], _ => none
 | (a, i) :: l, g => match Nat.beq a g with | true => some i | false => glFind l g
def glV (g : Nat) : AV := match glFind glTab g with | some i => .ptr (some (i, 0)) | none => .junk
def GL (r : Ren) : Prop := ∀ g i, glFind glTab g = some i → ∃ row, r i = some ⟨g, 0, row⟩
theorem GL.mono {r r' : Ren} (hr : r.le r') (h : GL r) : GL r' := fun g i e => (h g i e).imp fun _ h => hr _ _ h
theorem GL.vr {r : Ren} (h : GL r) (g : Nat) : VR r (glV g) (.pointer (some ⟨g, 0, none⟩)) := by
 unfold glV
 split
 ·rename_i i e
  obtain ⟨row, hr⟩ := h g i e
  exact .ptr (o := 0) hr
 ·exact .junk _
structure Rel (r : Ren) (h : H) (w : World) : Prop where
 wf : ∀ i o, h.get i = some o → i < h.next
 obj : ∀ i t o, r i = some t → h.get i = some o → OR r w t o
 inj : ∀ i j ti tj oi oj, r i = some ti → r j = some tj → h.get i = some oi → h.get j = some oj → ti.blk = tj.blk → i = j ∨ (oi.ro = true ∧ oj.ro = true)
 bound : ∀ i t, r i = some t → t.blk < w.heap.size
 glob : GL r
/-- blocks that no writable object of h stands for are as they were -/
def Keep (r : Ren) (h : H) (w w' : World) : Prop :=
 ∀ b, b < w.heap.size → (∀ i t o, r i = some t → t.blk = b → h.get i = some o → o.ro = true) → w'.heap[b]? = w.heap[b]?
/-- what lies outside the memory is as it was -/
def Env (w w' : World) : Prop := w'.os = w.os ∧ w'.tape = w.tape ∧ w'.output = w.output ∧ (drawnB = true → w.drawn ≤ w'.drawn)
theorem Env.refl (w : World) : Env w w := ⟨rfl, rfl, rfl, fun _ => Nat.le_refl _⟩
theorem Env.trans {a b c : World} (h : Env a b) (k : Env b c) : Env a c := ⟨k.1.trans h.1, k.2.1.trans h.2.1, k.2.2.1.trans h.2.2.1, fun e => Nat.le_trans (h.2.2.2 e) (k.2.2.2 e)⟩
structure Post (r : Ren) (h : H) (w : World) (r' : Ren) (h' : H) (w' : World) : Prop where
 le : r.le r'
 dom : ∀ i t, r' i = some t → r i = none → h.next ≤ i ∧ i < h'.next
 rel : Rel r' h' w'
 keep : Keep r h w w'
 env : Env w w'
 size : w.heap.size ≤ w'.heap.size
 next : h.next ≤ h'.next
 fresh : ∀ i t, r i = none → r' i = some t → w.heap.size ≤ t.blk ∨ ∃ j tj o, r j = some tj ∧ tj.blk = t.blk ∧ h.get j = some o ∧ o.ro = false
 roKeep : ∀ i o, i < h.next → h'.get i = some o → ∃ o', h.get i = some o' ∧ o'.ro = o.ro
 gap : ∀ i t, r i = some t → i < h.next ∨ h'.next ≤ i
 touch : ∀ i, i < h.next → h'.get i ≠ h.get i → ∃ t, r i = some t
theorem EntriesR.mono {r r' : Ren} (hr : r.le r') {es : List (AV × AV × Nat)} {E : List MapEntry} (h : EntriesR r es E) : EntriesR r' es E := by
 obtain ⟨E', h1, h2, h3⟩ := h
 exact ⟨E', h1, h2, fun i x e hx he => ⟨(h3 i x e hx he).1.mono hr, (h3 i x e hx he).2.1.mono hr, (h3 i x e hx he).2.2⟩⟩
/-- an object stands for its block as long as the block is as it was -/
theorem OR.move {r r' : Ren} {w w' : World} {t : Tgt} {o : AObj} (hr : r.le r') (hw : w'.heap[t.blk]? = w.heap[t.blk]?) (h : OR r w t o) : OR r' w' t o := by
 cases o with
 | cells cs ro =>
  obtain ⟨C, e, fz, h1, h2, h3, h4, h5⟩ := h
  exact ⟨C, e, fz, hw ▸ h1, h2, h3, fun i a v ha hv => (h4 i a v ha hv).mono hr, h5⟩
 | map es clk =>
  obtain ⟨E, h1, h2, h3⟩ := h
  exact ⟨E, hw ▸ h1, h2.mono hr, h3⟩
 | rmap es clk =>
  obtain ⟨E, h1, h2, h3⟩ := h
  exact ⟨E, hw ▸ h1, h2.mono hr, h3⟩
 | hid => exact trivial
 | tc e cs ex =>
  obtain ⟨C, h1, h2, h3, h4, h5, h7, h6⟩ := h
  exact ⟨C, hw ▸ h1, h2, h3, h4, h5, h7, fun i a v ha hv => (h6 i a v ha hv).mono hr⟩
 | miter m since seen last =>
  obtain ⟨m', h1, h2, h3⟩ := h
  exact ⟨m', hw ▸ h1, h2, h3.mono hr⟩
 | siter s p => exact ⟨hw ▸ h.1, h.2⟩
 | tab cs =>
  obtain ⟨C, e, fz, h1, h2, h3, h4⟩ := h
  exact ⟨C, e, fz, hw ▸ h1, h2, h3, fun i a v ha hv => (h4 i a v ha hv).mono hr⟩
theorem Post.refl {r : Ren} {h : H} {w : World} (hrel : Rel r h w) : Post r h w r h w where
 le := r.le_refl
 dom := fun i t h1 h2 => by rw [h1] at h2; cases h2
 rel := hrel
 keep := fun _ _ _ => rfl
 env := .refl w
 size := Nat.le_refl _
 next := Nat.le_refl _
 fresh := fun i t h1 h2 => by rw [h1] at h2; cases h2
 roKeep := fun i o _ h => ⟨o, h, rfl⟩
 gap := fun i t _ => by omega
 touch := fun i _ h => absurd rfl h
/-- The same heap in a world with the same blocks. -/
theorem Post.same {r : Ren} {h : H} {w w' : World} (hrel : Rel r h w) (hw : w'.heap = w.heap) (henv : Env w w') : Post r h w r h w' where
 env := henv
 le := r.le_refl
 dom := fun i t h1 h2 => by rw [h1] at h2; cases h2
 rel := ⟨hrel.wf, fun i t o h1 h2 => (hrel.obj i t o h1 h2).move r.le_refl (by rw [hw]), hrel.inj, fun i t h => by rw [hw]; exact hrel.bound i t h, hrel.glob⟩
 keep := fun _ _ _ => by rw [hw]
 size := by rw [hw]; exact Nat.le_refl _
 next := Nat.le_refl _
 fresh := fun i t h1 h2 => by rw [h1] at h2; cases h2
 roKeep := fun i o _ h => ⟨o, h, rfl⟩
 gap := fun i t _ => by omega
 touch := fun i _ h => absurd rfl h
theorem Post.trans {r r' r'' : Ren} {h h' h'' : H} {w w' w'' : World} (p : Post r h w r' h' w') (q : Post r' h' w' r'' h'' w'') : Post r h w r'' h'' w'' where
 le := Ren.le_trans p.le q.le
 dom := fun i t h1 h2 => by
  cases hr : r' i with
  | none => have := q.dom i t h1 hr; exact ⟨Nat.le_trans p.next this.1, this.2⟩
  | some t' => have := p.dom i t' hr h2; exact ⟨this.1, Nat.lt_of_lt_of_le this.2 q.next⟩
 rel := q.rel
 env := p.env.trans q.env
 keep := fun b hb hk => by
  rw [q.keep b (Nat.lt_of_lt_of_le hb p.size) ?_, p.keep b hb hk]
  intro i t o h1 h2 h3
  cases hr : r i with
  | none =>
   rcases p.fresh i t hr h1 with hf | ⟨j, tj, oj, hj, hbj, hoj, hroj⟩
   ·omega
   ·have := hk j tj oj hj (hbj.trans h2) hoj; rw [this] at hroj; cases hroj
  | some t' =>
   have he := p.le i t' hr
   rw [h1] at he; cases he
   by_cases hlt : i < h.next
   ·obtain ⟨o', ho', hro⟩ := p.roKeep i o hlt h3
    rw [← hro]; exact hk i _ o' hr h2 ho'
   ·have h5 := p.rel.wf i o h3
    rcases p.gap i _ hr with h4 | h4 <;> omega
 size := Nat.le_trans p.size q.size
 next := Nat.le_trans p.next q.next
 fresh := fun i t h1 h2 => by
  cases hr : r' i with
  | none =>
   rcases q.fresh i t hr h2 with hf | ⟨j, tj, o, hj, hb, ho, hro⟩
   ·exact .inl (Nat.le_trans p.size hf)
   ·cases hrj : r j with
    | none =>
     rcases p.fresh j tj hrj hj with hf' | ⟨j2, tj2, o2, h21, h22, h23, h24⟩
     ·exact .inl (hb ▸ hf')
     ·exact .inr ⟨j2, tj2, o2, h21, h22.trans hb, h23, h24⟩
    | some tj' =>
     have he := p.le j tj' hrj
     rw [hj] at he; cases he
     have hlt : j < h.next := by
      have h5 := p.rel.wf j o ho
      rcases p.gap j _ hrj with h4 | h4 <;> omega
     obtain ⟨o', ho', hro'⟩ := p.roKeep j o hlt ho
     exact .inr ⟨j, _, o', hrj, hb, ho', hro'.trans hro⟩
  | some t' =>
   have := q.le i t' hr
   rw [this] at h2; cases h2
   exact p.fresh i t h1 hr
 roKeep := fun i o hi ho => by
  obtain ⟨o', ho', hro⟩ := q.roKeep i o (Nat.lt_of_lt_of_le hi p.next) ho
  obtain ⟨o'', ho'', hro'⟩ := p.roKeep i o' hi ho'
  exact ⟨o'', ho'', hro'.trans hro⟩
 gap := fun i t hi => by
  have h1 := p.gap i t hi
  have h2 := q.gap i t (p.le i t hi)
  have := p.next; have := q.next
  omega
 touch := fun i hi hne => by
  by_cases e : h'.get i = h.get i
  ·obtain ⟨t, ht⟩ := q.touch i (Nat.lt_of_lt_of_le hi p.next) (by rw [e]; exact hne)
   cases hr : r i with
   | none => have := p.dom i t ht hr; omega
   | some t' => exact ⟨t', rfl⟩
  ·exact p.touch i hi e
end Go.Ev

/- The abstract machine Ev, part B: the operations that look at no memory, and that each stands for the model's own. -/
namespace Go.Ev
def scal : Value → AV
 | .bool b => .bool b
 | .int k n => .int k n
 | .string s => .str s
 | .pointer none => .ptr none
 | .slice none 0 0 => .slice none 0 (.known 0)
 | .map none => .map none
 | .nilFunc => .nilFunc
 | _ => .junk
def ofValue : Value → AV
 | .agg cs => .agg (cs.toList.map scal)
 | v => scal v
theorem VR_scal (r : Ren) (v : Value) : VR r (scal v) v := by
 unfold scal
 split <;> first | constructor
theorem VR_ofValue (r : Ren) (v : Value) : VR r (ofValue v) v := by
 unfold ofValue
 split
 ·rename_i cs
  refine .agg _ _ (by simp) fun i a v h1 h2 => ?_
  rw [List.getElem?_map] at h1
  rw [← Array.getElem?_toList] at h2
  rw [h2] at h1
  simp at h1
  subst h1
  exact VR_scal r v
 ·exact VR_scal r _
def opd (fr : List AV) : Operand → AV
 | .tmp t => fr.getD t .junk
 | .const v => ofValue v
 | .global g => glV g
 | .func f => .func f [] []
def FR (r : Ren) (fr : List AV) (a : Act) : Prop := VRL r fr a.tmps.toList
theorem opd_VR {r : Ren} {fr : List AV} {a : Act} (h : FR r fr a) (hg : GL r) (x : Operand) : VR r (opd fr x) (a.eval x) := by
 cases x with
 | tmp t =>
  simp only [opd, Act.eval]
  cases hf : fr[t]? with
  | none => rw [List.getD_eq_getElem?_getD, hf]; exact .junk _
  | some av =>
   have hl : t < a.tmps.toList.length := by rw [← h.1]; exact (List.getElem?_eq_some_iff.1 hf).1
   have h2 : a.tmps.toList[t]? = some a.tmps.toList[t] := List.getElem?_eq_getElem hl
   have := h.2 t av _ hf h2
   rw [List.getD_eq_getElem?_getD, hf]
   rw [Array.getD_eq_getD_getElem?, ← Array.getElem?_toList, h2]
   exact this
 | const v => exact VR_ofValue r v
 | global g => exact hg.vr g
 | func f => exact .func f [] [] #[] #[] rfl rfl (fun i a v h => by simp at h) (fun i a v h => by simp at h)
theorem FR.put {r : Ren} {fr : List AV} {a : Act} (h : FR r fr a) (d : Option Tmp) {x : AV} {v : Value} (hv : VR r x v) :
  FR r (match d with | some d => fr.set d x | none => fr) (a.put d v) := by
 cases d with
 | none => exact h
 | some d =>
  have := VRL.set h d hv
  simpa [FR, Act.put] using this
def evInt (op : BinOp) (k : IntKind) (a b : Int) : Option AV :=
 match op with
 | .add => some (.int k (k.wrap (a + b)))
 | .sub => some (.int k (k.wrap (a - b)))
 | .mul => some (.int k (k.wrap (a * b)))
 | .quo => if b = 0 then none else some (.int k (k.wrap (a.tdiv b)))
 | .rem => if b = 0 then none else some (.int k (a.tmod b))
 | .and => some (.int k (k.wrap (BitVec.ofInt k.bits a &&& BitVec.ofInt k.bits b).toNat))
 | .or => some (.int k (k.wrap (BitVec.ofInt k.bits a ||| BitVec.ofInt k.bits b).toNat))
 | .xor => some (.int k (k.wrap (BitVec.ofInt k.bits a ^^^ BitVec.ofInt k.bits b).toNat))
 | .andNot => some (.int k (k.wrap (BitVec.ofInt k.bits a &&& ~~~ BitVec.ofInt k.bits b).toNat))
 | .eql => some (.bool (a == b))
 | .neq => some (.bool (a != b))
 | .lss => some (.bool (a < b))
 | .leq => some (.bool (a ≤ b))
 | .gtr => some (.bool (a > b))
 | .geq => some (.bool (a ≥ b))
 | .shl => none
 | .shr => none
def evStr (op : BinOp) (a b : ByteArray) : Option AV :=
 match op with
 | .add => if ((a.size + b.size : Nat) : Int) > 9223372036854775807 then none else some (.str (a ++ b))
 | .eql => some (.bool (a.toList == b.toList))
 | .neq => some (.bool (!(a.toList == b.toList)))
 | .lss => some (.bool (Op.bytesLess a.toList b.toList))
 | .leq => some (.bool (Op.bytesLess a.toList b.toList || a.toList == b.toList))
 | .gtr => some (.bool (!(Op.bytesLess a.toList b.toList || a.toList == b.toList)))
 | .geq => some (.bool (!(Op.bytesLess a.toList b.toList)))
 | _ => none
def evBin (op : BinOp) (x y : AV) : Option AV :=
 match x, y with
 | .int k a, .int k' b =>
  match op with
  | .shl => if b < 0 then none else some (.int k (k.wrap (a * 2 ^ min b.toNat k.bits)))
  | .shr => if b < 0 then none else some (.int k (a.fdiv (2 ^ min b.toNat k.bits)))
  | op => if k = k' then evInt op k a b else none
 | .str a, .str b => evStr op a b
 | _, _ => none
theorem evBin_sim {P : Program} {r : Ren} {op : BinOp} {t : TypeId} {x y v : AV} {x' y' : Value} (h : evBin op x y = some v) (hx : VR r x x') (hy : VR r y y') (ox oy : Operand) :
    ∃ v', VR r v v' ∧ ∀ w, ((do eqGuard op t ox oy x' y'; binOp op t x' y') : Sem Value).run P w = .ok v' w := by
  unfold evBin at h
  split at h
  · rename_i k a k' b
    cases hx
    cases hy
    have hg : ∀ w, (eqGuard op t ox oy (.int k a) (.int k' b)).run P w = .ok () w := by intro w; unfold eqGuard; split <;> rfl
    split at h
    · split at h
      · cases h
      · rename_i hb
        cases h
        exact ⟨_, .int _ _, fun w => by simp [hg, binOp, Op.shift, hb]⟩
    · split at h
      · cases h
      · rename_i hb
        cases h
        exact ⟨_, .int _ _, fun w => by simp [hg, binOp, Op.shift, hb]⟩
    · rename_i hs1 hs2
      split at h
      · rename_i hk
        subst hk
        cases op <;> simp only [evInt] at h <;> first
          | exact absurd rfl hs1
          | exact absurd rfl hs2
          | (cases h; first
              | exact ⟨_, .int _ _, fun w => by simp [hg, binOp, Op.intArith, Op.intBits]⟩
              | exact ⟨_, .bool _, fun w => by simp [hg, binOp, Op.intCmp]⟩)
          | (split at h
             · cases h
             · rename_i hb; cases h; exact ⟨_, .int _ _, fun w => by simp [hg, binOp, Op.intDiv, hb]⟩)
      · cases h
  · rename_i a b
    cases hx
    cases hy
    have hg : ∀ w, (eqGuard op t ox oy (.string a) (.string b)).run P w = .ok () w := by intro w; unfold eqGuard; split <;> rfl
    cases op <;> simp only [evStr] at h <;> first
      | (cases h; done)
      | (cases h; exact ⟨_, .bool _, fun w => by simp [hg, binOp, Op.stringOp]⟩)
      | (split at h
         · cases h
         · rename_i hb
           cases h
           refine ⟨_, .str _, fun w => ?_⟩
           have hb' : ¬ (((a.size + b.size : Nat) : Int) > IntKind.i64.max) := hb
           simp only [Sem.run_bind, hg, Result.andThen_ok, binOp, Op.stringOp]
           rw [if_neg hb']; rfl)
  · cases h
def aggB : TypeDesc → Bool
 | .struct _ => true
 | .array _ _ => true
 | _ => false
def evPart (P : Program) (t : TypeId) (cs : List AV) (off : Nat) : Option AV :=
 match P.underlying t with
 | none => none
 | some d => if aggB d then (if (P.info? t).isSome then some (.agg ((cs.drop off).take (P.cellsOf t))) else none) else cs[off]?
theorem run_isAgg {P : Program} {t : TypeId} {d : TypeDesc} (h : P.underlying t = some d) (w : World) : (isAgg t).run P w = .ok (aggB d) w := by
 unfold isAgg
 simp only [Sem.run_bind, run_underlying h, Result.andThen_ok]
 cases d <;> rfl
theorem VR_extract {r : Ren} {cs : List AV} {vs : Array Value} (h1 : cs.length = vs.size) (h2 : ∀ (i : Nat) (a : AV) (v : Value), cs[i]? = some a → vs[i]? = some v → VR r a v) (off n : Nat) :
  VR r (.agg ((cs.drop off).take n)) (.agg (vs.extract off (off + n))) := by
 refine .agg _ _ (by simp [h1]; omega) fun i a v ha hv => ?_
 rw [Array.getElem?_extract] at hv
 rw [List.getElem?_take] at ha
 split at ha
 ·rw [List.getElem?_drop] at ha
  split at hv
  ·exact h2 _ a v ha hv
  ·cases hv
 ·cases ha
theorem evPart_sim {P : Program} {r : Ren} {t : TypeId} {cs : List AV} {off : Nat} {v : AV} {vs : Array Value} (h : evPart P t cs off = some v)
  (h1 : cs.length = vs.size) (h2 : ∀ (i : Nat) (a : AV) (v : Value), cs[i]? = some a → vs[i]? = some v → VR r a v) :
  ∃ v', VR r v v' ∧ ∀ w, (part t vs off).run P w = .ok v' w := by
 unfold evPart at h
 split at h
 ·cases h
 ·rename_i d hu
  split at h
  ·rename_i ha
   split at h
   ·rename_i hi
    cases h
    obtain ⟨i, hi⟩ := Option.isSome_iff_exists.1 hi
    exact ⟨_, VR_extract h1 h2 off (P.cellsOf t), fun w => by simp [part, run_isAgg hu, ha, run_sizeOf w hi]⟩
   ·cases h
  ·rename_i ha
   have hlt : off < vs.size := by rw [← h1]; exact (List.getElem?_eq_some_iff.1 h).1
   have hv : vs[off]? = some vs[off] := Array.getElem?_eq_getElem hlt
   exact ⟨vs[off], h2 off v _ h hv, fun w => by simp [part, run_isAgg hu, ha, hv]⟩
def evFields (P : Program) (eq : TypeId → AV → AV → Option Bool) (xs ys : List AV) : List Field → Option Bool
 | [] => some true
 | f :: fs =>
  if f.name ≠ "_" then
   match evPart P f.type xs f.offset, evPart P f.type ys f.offset with
   | some a, some b => (eq f.type a b).bind fun r => if r then evFields P eq xs ys fs else some false
   | _, _ => none
  else evFields P eq xs ys fs
def evItems (P : Program) (eq : TypeId → AV → AV → Option Bool) (e : TypeId) (c : Nat) (xs ys : List AV) : List Nat → Option Bool
 | [] => some true
 | i :: is =>
  match evPart P e xs (i * c), evPart P e ys (i * c) with
  | some a, some b => (eq e a b).bind fun r => if r then evItems P eq e c xs ys is else some false
  | _, _ => none
/-- 'x == y' at type t: none: not told here. -/
def evEq (P : Program) : Nat → TypeId → AV → AV → Option Bool
 | 0 => fun _ _ _ => none
 | d + 1 => fun t x y =>
  match P.underlying t with
  | some .bool => match x, y with | .bool a, .bool b => some (a == b) | _, _ => none
  | some (.int _) => match x, y with | .int k a, .int k' b => if k = k' then some (a == b) else none | _, _ => none
  | some .string => match x, y with | .str a, .str b => some (a.toList == b.toList) | _, _ => none
  | some (.pointer _) => match x, y with | .ptr none, .ptr b => some b.isNone | .ptr (some _), .ptr none => some false | _, _ => none
  | some (.slice _) => match x, y with | .slice none _ _, .slice b _ _ => some b.isNone | .slice (some _) _ _, .slice none _ _ => some false | _, _ => none
  | some (.map _ _) => match x, y with | .map none, .map b => some b.isNone | .map (some _), .map none => some false | _, _ => none
  | some (.func _ _ _) => match x, y with | .nilFunc, .nilFunc => some true | .nilFunc, .func _ _ _ => some false | .func _ _ _, .nilFunc => some false | _, _ => none
  | some (.struct fs) => match x, y with | .agg xs, .agg ys => if P.stoodInHeld t then none else evFields P (evEq P d) xs ys fs.toList | _, _ => none
  | some (.array n e) => match x, y with | .agg xs, .agg ys => if (P.info? e).isSome then evItems P (evEq P d) e (P.cellsOf e) xs ys (List.range n) else none | _, _ => none
  | _ => none
theorem evFields_sim {P : Program} {r : Ren} {d : Nat} {eq : TypeId → AV → AV → Option Bool}
  (heq : ∀ t x y b x' y', eq t x y = some b → VR r x x' → VR r y y' → ∀ w, (Op.equalIn d t x' y').run P w = .ok b w)
  {xs ys : List AV} {xs' ys' : Array Value} (hx1 : xs.length = xs'.size) (hx2 : ∀ (i : Nat) (a : AV) (v : Value), xs[i]? = some a → xs'[i]? = some v → VR r a v)
  (hy1 : ys.length = ys'.size) (hy2 : ∀ (i : Nat) (a : AV) (v : Value), ys[i]? = some a → ys'[i]? = some v → VR r a v) :
  ∀ (fs : List Field) (b : Bool), evFields P eq xs ys fs = some b → ∀ w, (Op.eqFields d xs' ys' fs).run P w = .ok b w
 | [], b, h, w => by simp only [evFields] at h; cases h; rfl
 | f :: fs, b, h, w => by
  simp only [evFields] at h
  simp only [Op.eqFields]
  split at h
  ·rename_i hn
   rw [if_pos hn]
   split at h
   ·rename_i a c ha hc
    obtain ⟨a', va, ra⟩ := evPart_sim ha hx1 hx2
    obtain ⟨c', vc, rc⟩ := evPart_sim hc hy1 hy2
    obtain ⟨q, hq, h⟩ := Option.bind_eq_some_iff.1 h
    simp only [Sem.run_bind, ra, rc, Result.andThen_ok, heq _ _ _ _ _ _ hq va vc]
    cases q
    ·simp at h; subst h; simp
    ·simp at h; simp; exact evFields_sim heq hx1 hx2 hy1 hy2 fs b h w
   ·cases h
  ·rename_i hn
   rw [if_neg hn]
   exact evFields_sim heq hx1 hx2 hy1 hy2 fs b h w
theorem evItems_sim {P : Program} {r : Ren} {d : Nat} {e : TypeId} {c : Nat} {eq : TypeId → AV → AV → Option Bool}
  (heq : ∀ t x y b x' y', eq t x y = some b → VR r x x' → VR r y y' → ∀ w, (Op.equalIn d t x' y').run P w = .ok b w)
  {xs ys : List AV} {xs' ys' : Array Value} (hx1 : xs.length = xs'.size) (hx2 : ∀ (i : Nat) (a : AV) (v : Value), xs[i]? = some a → xs'[i]? = some v → VR r a v)
  (hy1 : ys.length = ys'.size) (hy2 : ∀ (i : Nat) (a : AV) (v : Value), ys[i]? = some a → ys'[i]? = some v → VR r a v) :
  ∀ (is : List Nat) (b : Bool), evItems P eq e c xs ys is = some b → ∀ w, (Op.eqItems d e c xs' ys' is).run P w = .ok b w
 | [], b, h, w => by simp only [evItems] at h; cases h; rfl
 | i :: is, b, h, w => by
  simp only [evItems] at h
  simp only [Op.eqItems]
  split at h
  ·rename_i a c ha hc
   obtain ⟨a', va, ra⟩ := evPart_sim ha hx1 hx2
   obtain ⟨c', vc, rc⟩ := evPart_sim hc hy1 hy2
   obtain ⟨q, hq, h⟩ := Option.bind_eq_some_iff.1 h
   simp only [Sem.run_bind, ra, rc, Result.andThen_ok, heq _ _ _ _ _ _ hq va vc]
   cases q
   ·simp at h; subst h; simp
   ·simp at h; simp; exact evItems_sim heq hx1 hx2 hy1 hy2 is b h w
  ·cases h
theorem evEq_sim {P : Program} {r : Ren} : ∀ (d : Nat) (t : TypeId) (x y : AV) (b : Bool) (x' y' : Value), evEq P d t x y = some b → VR r x x' → VR r y y' →
  ∀ w, (Op.equalIn d t x' y').run P w = .ok b w
 | 0, t, x, y, b, x', y', h, hx, hy, w => by simp [evEq] at h
 | d + 1, t, x, y, b, x', y', h, hx, hy, w => by
  have ih := evEq_sim (P := P) (r := r) d
  simp only [evEq] at h
  split at h
  ·rename_i hu
   split at h
   ·cases h; cases hx; cases hy; exact run_equalIn_bool' w d t _ _ hu
   ·cases h
  ·rename_i hu
   split at h
   ·split at h
    ·rename_i hk; subst hk; cases h; cases hx; cases hy; exact run_equalIn_int w d t _ _ _ _ hu
    ·cases h
   ·cases h
  ·rename_i hu
   split at h
   ·cases h; cases hx; cases hy; exact run_equalIn_string w d t _ _ hu
   ·cases h
  ·rename_i hu
   split at h
   ·cases h; cases hx; cases hy <;> simp [Op.equalIn, run_underlying hu]
   ·cases h; cases hx; cases hy; simp [Op.equalIn, run_underlying hu]
   ·cases h
  ·rename_i hu
   split at h
   ·cases h; cases hx; cases hy <;> simp [Op.equalIn, run_underlying hu]
   ·cases h; cases hy; cases hx <;> simp [Op.equalIn, run_underlying hu]
   ·cases h
  ·rename_i hu
   split at h
   ·cases h; cases hx; cases hy <;> simp [Op.equalIn, run_underlying hu]
   ·cases h; cases hy; cases hx; simp [Op.equalIn, run_underlying hu]
   ·cases h
  ·rename_i hu
   split at h
   ·cases h; cases hx; cases hy; simp [Op.equalIn, run_underlying hu]
   ·cases h; cases hx; cases hy; simp [Op.equalIn, run_underlying hu]
   ·cases h; cases hx; cases hy; simp [Op.equalIn, run_underlying hu]
   ·cases h
  ·rename_i fs hu
   split at h
   ·split at h
    ·cases h
    ·rename_i xs ys hp
     cases hx with
     | agg _ xs' hx1 hx2 =>
     cases hy with
     | agg _ ys' hy1 hy2 =>
     have hf : P.fieldsOf t = fs := by simp [Program.fieldsOf, hu]
     rw [run_equalIn_struct w d t _ _ (by rw [hf]; exact hu) (by simpa using hp), hf]
     exact evFields_sim ih hx1 hx2 hy1 hy2 _ b h w
   ·cases h
  ·rename_i n e hu
   split at h
   ·split at h
    ·rename_i xs ys hi
     obtain ⟨i, hi⟩ := Option.isSome_iff_exists.1 hi
     cases hx with
     | agg _ xs' hx1 hx2 =>
     cases hy with
     | agg _ ys' hy1 hy2 =>
     rw [run_equalIn_array w d xs' ys' hu hi]
     exact evItems_sim ih hx1 hx2 hy1 hy2 _ b h w
    ·cases h
   ·cases h
  ·cases h
/-- '==' and '!=' of what is neither two numbers nor two texts -/
def evEqOp (P : Program) (op : BinOp) (t : TypeId) (x y : AV) : Option AV :=
 match op with
 | .eql => if P.eqGuardType P.depth t then none else (evEq P Op.maxDepth t x y).map .bool
 | .neq => if P.eqGuardType P.depth t then none else (evEq P Op.maxDepth t x y).map fun b => .bool (!b)
 | _ => none
def notIntStr : AV → Bool
 | .int _ _ => false
 | .str _ => false
 | .junk => false
 | _ => true
theorem run_eqGuard_plain {P : Program} {t : TypeId} (hg : P.eqGuardType P.depth t = false) (op : BinOp) (ox oy : Operand) {x' y' : Value} (hn : ¬ (x' = .nilIface ∧ y' = .nilIface)) (w : World) :
    (eqGuard op t ox oy x' y').run P w = .ok () w := by
  unfold eqGuard
  cases op <;> first
    | rfl
    | (simp only [Bool.not_true, Bool.false_eq_true, if_false]
       split
       · exact absurd ⟨rfl, rfl⟩ hn
       · simp [hg]
       · rfl)
theorem evEqOp_sim {P : Program} {r : Ren} {op : BinOp} {t : TypeId} {x y v : AV} {x' y' : Value} (h : evEqOp P op t x y = some v) (hnx : notIntStr x = true)
  (hx : VR r x x') (hy : VR r y y') (ox oy : Operand) :
  ∃ v', VR r v v' ∧ ∀ w, ((do eqGuard op t ox oy x' y'; binOp op t x' y') : Sem Value).run P w = .ok v' w := by
 have hn : ¬ (x' = .nilIface ∧ y' = .nilIface) := fun e => by obtain ⟨rfl, _⟩ := e; cases hx; simp [notIntStr] at hnx
 have hb1 : binOp .eql t x' y' = (do pure (.bool (← Op.equal t x' y'))) := by
  cases hx <;> simp [notIntStr] at hnx <;> cases y' <;> rfl
 have hb2 : binOp .neq t x' y' = (do pure (.bool (!(← Op.equal t x' y')))) := by
  cases hx <;> simp [notIntStr] at hnx <;> cases y' <;> rfl
 unfold evEqOp at h
 split at h
 ·split at h
  ·cases h
  ·rename_i hg
   obtain ⟨b, hb, rfl⟩ := Option.map_eq_some_iff.1 h
   refine ⟨_, .bool _, fun w => ?_⟩
   simp only [Sem.run_bind, run_eqGuard_plain (by simpa using hg) _ ox oy hn, Result.andThen_ok, hb1, Op.equal, evEq_sim _ _ _ _ _ _ _ hb hx hy w]
   rfl
 ·split at h
  ·cases h
  ·rename_i hg
   obtain ⟨b, hb, rfl⟩ := Option.map_eq_some_iff.1 h
   refine ⟨_, .bool _, fun w => ?_⟩
   simp only [Sem.run_bind, run_eqGuard_plain (by simpa using hg) _ ox oy hn, Result.andThen_ok, hb2, Op.equal, evEq_sim _ _ _ _ _ _ _ hb hx hy w]
   rfl
 ·cases h
end Go.Ev

/- The abstract machine Ev, part C: all operations that look at no memory, in one function, and that each stands for the model's own. -/
namespace Go.Ev
def evUn (op : UnOp) (x : AV) : Option AV :=
 match op, x with
 | .neg, .int k n => some (.int k (k.wrap (0 - n)))
 | .xor, .int k n => some (.int k (k.wrap (BitVec.ofInt k.bits (if k.signed then -1 else k.max) ^^^ BitVec.ofInt k.bits n).toNat))
 | .not, .bool b => some (.bool (!b))
 | _, _ => none
theorem evUn_sim {P : Program} {r : Ren} {op : UnOp} {x v : AV} {x' : Value} (h : evUn op x = some v) (hx : VR r x x') :
  ∃ v', VR r v v' ∧ ∀ w, (Op.unary op x').run P w = .ok v' w := by
 unfold evUn at h
 split at h
 ·cases h; cases hx; exact ⟨_, .int _ _, fun w => rfl⟩
 ·cases h; cases hx; exact ⟨_, .int _ _, fun w => rfl⟩
 ·cases h; cases hx; exact ⟨_, .bool _, fun w => rfl⟩
 ·cases h
def evConv (P : Program) (src dst : TypeId) (x : AV) : Option AV :=
 match P.underlying src, P.underlying dst with
 | some _, some (.int k) => match x with | .int _ n => some (.int k (k.wrap n)) | _ => none
 | some _, some .string => match x with | .str s => some (.str s) | .int _ n => some (.str (Utf8.encode n)) | _ => none
 | _, _ => none
theorem evConv_sim {P : Program} {r : Ren} {src dst : TypeId} {x v : AV} {x' : Value} (h : evConv P src dst x = some v) (hx : VR r x x') :
  ∃ v', VR r v v' ∧ ∀ w, (convert src dst x').run P w = .ok v' w := by
 unfold evConv at h
 split at h
 ·rename_i d k hs hd
  split at h
  ·cases h; cases hx; exact ⟨_, .int _ _, fun w => by simp [convert, run_underlying hs, run_underlying hd, Conv.intToInt]⟩
  ·cases h
 ·rename_i d hs hd
  split at h
  ·cases h; cases hx; exact ⟨_, .str _, fun w => by simp [convert, run_underlying hs, run_underlying hd]⟩
  ·cases h; cases hx; exact ⟨_, .str _, fun w => by simp [convert, run_underlying hs, run_underlying hd, Conv.intToString]⟩
  ·cases h
 ·cases h
def evField (P : Program) (t : TypeId) (x : AV) (f : Nat) : Option AV :=
 match P.underlying t, x with
 | some (.struct fs), .agg cs => (fs[f]?).bind fun fd => evPart P fd.type cs fd.offset
 | _, _ => none
theorem evField_sim {P : Program} {r : Ren} {t : TypeId} {f : Nat} {x v : AV} {x' : Value} (h : evField P t x f = some v) (hx : VR r x x') :
  ∃ v', VR r v v' ∧ ∀ w, (Instr.field t x' f).run P w = .ok v' w := by
 unfold evField at h
 split at h
 ·rename_i fs cs hu
  obtain ⟨fd, hf, h⟩ := Option.bind_eq_some_iff.1 h
  cases hx with
  | agg _ vs h1 h2 =>
   obtain ⟨v', hv, hr⟩ := evPart_sim h h1 h2
   exact ⟨v', hv, fun w => by simp [Instr.field, run_underlying hu, hf, asAgg, hr]⟩
 ·cases h
def evIndex (P : Program) (t : TypeId) (x i : AV) : Option AV :=
 match P.underlying t, x, i with
 | some (.array len e), .agg cs, .int _ n => if 0 ≤ n ∧ n < len then (if (P.info? e).isSome then evPart P e cs (n.toNat * P.cellsOf e) else none) else none
 | some .string, .str s, .int _ n => if 0 ≤ n then (s[n.toNat]?).map fun b => .int .u8 b.toNat else none
 | _, _, _ => none
theorem evIndex_sim {P : Program} {r : Ren} {t : TypeId} {x i v : AV} {x' i' : Value} (h : evIndex P t x i = some v) (hx : VR r x x') (hi : VR r i i') :
  ∃ v', VR r v v' ∧ ∀ w, (Instr.index t x' i').run P w = .ok v' w := by
 unfold evIndex at h
 split at h
 ·rename_i len e cs k n hu
  split at h
  ·rename_i hb
   split at h
   ·rename_i hsome
    obtain ⟨inf, hsome⟩ := Option.isSome_iff_exists.1 hsome
    cases hi
    cases hx with
    | agg _ vs h1 h2 =>
     obtain ⟨v', hv, hr⟩ := evPart_sim h h1 h2
     exact ⟨v', hv, fun w => by simp [Instr.index, asIntOf, run_underlying hu, hb, run_sizeOf w hsome, hr]⟩
   ·cases h
  ·cases h
 ·rename_i s k n hu
  split at h
  ·rename_i hb
   obtain ⟨b, hs, rfl⟩ := Option.map_eq_some_iff.1 h
   cases hi
   cases hx
   exact ⟨_, .int _ _, fun w => by simp [Instr.index, asIntOf, run_underlying hu, hb, hs]⟩
  ·cases h
 ·cases h
def evIndexAddr (P : Program) (t : TypeId) (x i : AV) : Option AV :=
 match P.underlying t, x, i with
 | some (.array len e), .ptr (some (b, o)), .int _ n => if 0 ≤ n ∧ n < len ∧ (P.info? e).isSome then some (.ptr (some (b, o + n.toNat * P.cellsOf e))) else none
 | some (.slice e), .slice (some (b, o)) len _, .int _ n => if 0 ≤ n ∧ n < len ∧ (P.info? e).isSome then some (.ptr (some (b, o + n.toNat * P.cellsOf e))) else none
 | _, _, _ => none
theorem Addr_add (b o k : Nat) : (⟨b, o, none⟩ : Addr).add k = ⟨b, o + k, none⟩ := by
 unfold Addr.add
 split
 ·rename_i h; subst h; rfl
 ·rfl
theorem VR_ptr_add {r : Ren} {i o k : Nat} {t : Tgt} (h : r i = some t) : VR r (.ptr (some (i, o + k))) (.pointer (some ((⟨t.blk, t.base + o, none⟩ : Addr).add k))) := by
 rw [Addr_add, Nat.add_assoc]; exact .ptr h
theorem evIndexAddr_sim {P : Program} {r : Ren} {t : TypeId} {x i v : AV} {x' i' : Value} (h : evIndexAddr P t x i = some v) (hx : VR r x x') (hi : VR r i i') :
  ∃ v', VR r v v' ∧ ∀ w, (Instr.indexAt t x' i').run P w = .ok v' w := by
 unfold evIndexAddr at h
 split at h
 ·rename_i len e b o k n hu
  split at h
  ·rename_i hb
   obtain ⟨h0, h1, hsome⟩ := hb
   obtain ⟨inf, hsome⟩ := Option.isSome_iff_exists.1 hsome
   cases h
   cases hi
   cases hx with
   | ptr ht => exact ⟨_, VR_ptr_add ht, fun w => by simp [Instr.indexAt, asIntOf, run_underlying hu, Instr.sureAddr, h0, h1, run_sizeOf w hsome]⟩
  ·cases h
 ·rename_i e b o len c k n hu
  split at h
  ·rename_i hb
   obtain ⟨h0, h1, hsome⟩ := hb
   obtain ⟨inf, hsome⟩ := Option.isSome_iff_exists.1 hsome
   cases h
   cases hi
   cases hx with
   | slice len c ht => exact ⟨_, VR_ptr_add ht, fun w => by simp [Instr.indexAt, asIntOf, run_underlying hu, h0, h1, run_sizeOf w hsome]⟩
   | sliceRest len size cap ht hc hl => exact ⟨_, VR_ptr_add ht, fun w => by simp [Instr.indexAt, asIntOf, run_underlying hu, h0, h1, run_sizeOf w hsome]⟩
   | sliceBare a => simp at h1; omega
   | sliceEnd a size _ => simp at h1; omega
  ·cases h
 ·cases h
def evFieldAddr (P : Program) (t : TypeId) (x : AV) (f : Nat) : Option AV :=
 match P.underlying t, x with
 | some (.struct fs), .ptr (some (b, o)) => (fs[f]?).bind fun fd => if (P.info? fd.type).isSome ∧ P.cellsOf fd.type ≠ 0 then some (.ptr (some (b, o + fd.offset))) else none
 | _, _ => none
theorem evFieldAddr_sim {P : Program} {r : Ren} {t : TypeId} {f : Nat} {x v : AV} {x' : Value} (h : evFieldAddr P t x f = some v) (hx : VR r x x') :
  ∃ v', VR r v v' ∧ ∀ w, (Instr.fieldAt t x' f).run P w = .ok v' w := by
 unfold evFieldAddr at h
 split at h
 ·rename_i fs b o hu
  obtain ⟨fd, hf, h⟩ := Option.bind_eq_some_iff.1 h
  split at h
  ·rename_i hb
   obtain ⟨hsome, h0⟩ := hb
   obtain ⟨inf, hsome⟩ := Option.isSome_iff_exists.1 hsome
   cases h
   cases hx with
   | ptr ht => exact ⟨_, VR_ptr_add ht, fun w => by simp [Instr.fieldAt, run_underlying hu, hf, Instr.sureAddr, fieldPlace, run_sizeOf w hsome, h0]⟩
  ·cases h
 ·cases h
def evNil (x : AV) : Option AV :=
 match x with
 | .ptr (some p) => some (.ptr (some p))
 | .func f a b => some (.func f a b)
 | _ => none
def evExtract (x : AV) (i : Nat) : Option AV :=
 match x with
 | .tup vs => vs[i]?
 | _ => none
theorem evExtract_sim {P : Program} {r : Ren} {x v : AV} {x' : Value} {i : Nat} (h : evExtract x i = some v) (hx : VR r x x') :
  ∃ v', VR r v v' ∧ ∀ w, (Instr.extract x' i).run P w = .ok v' w := by
 unfold evExtract at h
 split at h
 ·cases hx with
  | tup _ vs h1 h2 =>
   have hlt : i < vs.size := by rw [← h1]; exact (List.getElem?_eq_some_iff.1 h).1
   have hv : vs[i]? = some vs[i] := Array.getElem?_eq_getElem hlt
   exact ⟨_, h2 i v _ h hv, fun w => by simp [Instr.extract, hv]⟩
 ·cases h
def evBound (x : AV) (y : Nat) : Option Nat :=
 match x with
 | .int _ i => if 0 ≤ i ∧ i ≤ y then some i.toNat else none
 | _ => none
theorem evBound_sim {P : Program} {r : Ren} {x : AV} {x' : Value} {y n : Nat} (h : evBound x y = some n) (hx : VR r x x') (code : BoundsCode) (w : World) :
  (Instr.sliceBound x' y code).run P w = .ok n w := by
 unfold evBound at h
 split at h
 ·split at h
  ·rename_i hb; cases h; cases hx; simp [Instr.sliceBound, asIntOf, hb]
  ·cases h
 ·cases h
def evBounds (len cap : Nat) (lo hi mx : Option AV) : Option (Nat × Nat × Nat) :=
 (match mx with | some v => evBound v cap | none => some cap).bind fun m =>
 (match hi, mx with | some v, _ => evBound v m | none, none => some len | none, some _ => none).bind fun h =>
 (match lo with | some v => evBound v h | none => some 0).bind fun l => some (l, h, m)
inductive OVR (r : Ren) : Option AV → Option Value → Prop
 | none : OVR r none none
 | some {a : AV} {v : Value} (h : VR r a v) : OVR r (some a) (some v)
theorem OVR.map {r : Ren} {f : Operand → AV} {g : Operand → Value} (h : ∀ x, VR r (f x) (g x)) (x : Option Operand) : OVR r (x.map f) (x.map g) := by
 cases x with
 | none => exact .none
 | some x => exact .some (h x)
theorem evBounds_sim {P : Program} {r : Ren} {len cap : Nat} {lo hi mx : Option AV} {lo' hi' mx' : Option Value} {q : Nat × Nat × Nat} (h : evBounds len cap lo hi mx = some q)
  (h1 : OVR r lo lo') (h2 : OVR r hi hi') (h3 : OVR r mx mx') (b : Bool) (w : World) : (Instr.sliceBounds b len cap lo' hi' mx').run P w = .ok q w := by
 unfold evBounds at h
 obtain ⟨m, hm, h⟩ := Option.bind_eq_some_iff.1 h
 obtain ⟨hh, hhm, h⟩ := Option.bind_eq_some_iff.1 h
 obtain ⟨l, hl, h⟩ := Option.bind_eq_some_iff.1 h
 cases h
 unfold Instr.sliceBounds
 cases h3 with
 | none =>
  cases hm
  cases h2 with
  | none =>
   cases hhm
   cases h1 with
   | none => cases hl; simp
   | some v1 => simp [evBound_sim hl v1]
  | some v2 =>
   cases h1 with
   | none => cases hl; simp [evBound_sim hhm v2]
   | some v1 => simp [evBound_sim hhm v2, evBound_sim hl v1]
 | some v3 =>
  cases h2 with
  | none => cases hhm
  | some v2 =>
   cases h1 with
   | none => cases hl; simp [evBound_sim hhm v2, evBound_sim hm v3]
   | some v1 => simp [evBound_sim hhm v2, evBound_sim hl v1, evBound_sim hm v3]
theorem evBounds_le {len cap : Nat} {lo hi mx : Option AV} {l h m : Nat} (e : evBounds len cap lo hi mx = some (l, h, m)) (hlc : len ≤ cap) : l ≤ h ∧ h ≤ m ∧ m ≤ cap ∧ (mx = none → m = cap) := by
 unfold evBounds at e
 obtain ⟨m', hm, e⟩ := Option.bind_eq_some_iff.1 e
 obtain ⟨h', hh, e⟩ := Option.bind_eq_some_iff.1 e
 obtain ⟨l', hl, e⟩ := Option.bind_eq_some_iff.1 e
 cases e
 have bd : ∀ (x : AV) (y n : Nat), evBound x y = some n → n ≤ y := by
  intro x y n hx
  unfold evBound at hx
  split at hx
  ·split at hx
   ·cases hx; omega
   ·cases hx
  ·cases hx
 have hlh : l ≤ h := by
  split at hl
  ·exact bd _ _ _ hl
  ·cases hl; omega
 have hmc : m ≤ cap := by
  split at hm
  ·exact bd _ _ _ hm
  ·cases hm; omega
 have hhm : h ≤ m := by
  split at hh
  ·exact bd _ _ _ hh
  ·cases hh; cases hm; exact hlc
  ·cases hh
 refine ⟨hlh, hhm, hmc, fun e => ?_⟩
 subst e; cases hm; rfl
/-- s[lo:hi:mx] of a slice with elements of 'size' cells -/
def evSliceS (size : Nat) (x : AV) (lo hi mx : Option AV) : Option AV :=
 match x with
 | .slice none 0 (.known 0) => (evBounds 0 0 lo hi mx).bind fun _ => some (.slice none 0 (.known 0))
 | .slice (some (b, o)) len (.known c) => if len ≤ c then (evBounds len c lo hi mx).bind fun (l, h, m) => some (.slice (some (b, if m = l then o else o + l * size)) (h - l) (.known (m - l))) else none
 | .slice (some (b, o)) len (.rest s) =>
  if s = size then
   match mx with
   | none => (evBounds len len lo hi none).bind fun (l, h, _) => some (.slice (some (b, o + l * size)) (h - l) (.rest s))
   | some v => if 0 < len then (evBounds len len lo hi (some v)).bind fun (l, h, m) => some (.slice (some (b, if m = l then o else o + l * size)) (h - l) (.known (m - l))) else none
  else none
 | _ => none
theorem evBound_mono {x : AV} {y z n : Nat} (h : evBound x y = some n) (hz : y ≤ z) : evBound x z = some n := by
 unfold evBound at h ⊢
 split at h
 ·split at h
  ·rename_i hb; cases h; simp; omega
  ·cases h
 ·cases h
theorem evBounds_cap {len cap : Nat} {lo hi : Option AV} {l h m : Nat} (e : evBounds len len lo hi none = some (l, h, m)) (hc : len ≤ cap) : evBounds len cap lo hi none = some (l, h, cap) := by
 unfold evBounds at e ⊢
 simp only [Option.bind_some] at e ⊢
 obtain ⟨h', hh, e⟩ := Option.bind_eq_some_iff.1 e
 obtain ⟨l', hl, e⟩ := Option.bind_eq_some_iff.1 e
 cases e
 cases hi with
 | none => simp only [Option.some.injEq] at hh; subst hh; simp only [Option.bind_some]; rw [hl]; rfl
 | some v => simp only at hh; simp only [evBound_mono hh hc, Option.bind_some]; rw [hl]; rfl
theorem evBounds_capM {len cap : Nat} {lo hi : Option AV} {v : AV} {l h m : Nat} (e : evBounds len len lo hi (some v) = some (l, h, m)) (hc : len ≤ cap) : evBounds len cap lo hi (some v) = some (l, h, m) := by
 unfold evBounds at e ⊢
 obtain ⟨m', hm, e⟩ := Option.bind_eq_some_iff.1 e
 simp only at hm
 simp only [evBound_mono hm hc, Option.bind_some]
 exact e
theorem run_slice_sl {P : Program} {t elem : TypeId} {inf : TypeInfo} (hu : P.underlying t = some (.slice elem)) (hi : P.info? elem = some inf) {a : Option Addr} {len cap : Nat}
  {lo hi' mx : Option Value} {l h m : Nat} {w : World} (hb : (Instr.sliceBounds true len cap lo hi' mx).run P w = .ok (l, h, m) w) :
  (Instr.sliceAt t (.slice a len cap) lo hi' mx).run P w = .ok (.slice (if m = l then a else a.map (·.add (l * P.cellsOf elem))) (h - l) (m - l)) w := by
 simp [Instr.sliceAt, run_underlying hu, Instr.slice, hb, run_sizeOf w hi]
theorem evSliceS_sim {P : Program} {r : Ren} {t elem : TypeId} {inf : TypeInfo} (hu : P.underlying t = some (.slice elem)) (hi : P.info? elem = some inf) {x v : AV} {x' : Value}
  {lo hi' mx : Option AV} {lo' hi'' mx' : Option Value} (h : evSliceS (P.cellsOf elem) x lo hi' mx = some v) (hx : VR r x x') (h1 : OVR r lo lo') (h2 : OVR r hi' hi'') (h3 : OVR r mx mx') :
  ∃ v', VR r v v' ∧ ∀ w, (Instr.sliceAt t x' lo' hi'' mx').run P w = .ok v' w := by
 unfold evSliceS at h
 split at h
 ·obtain ⟨⟨l, hh, m⟩, hb, h⟩ := Option.bind_eq_some_iff.1 h
  cases h
  cases hx
  have hle := evBounds_le hb (Nat.le_refl _)
  obtain ⟨rfl, rfl, rfl⟩ : l = 0 ∧ hh = 0 ∧ m = 0 := by omega
  exact ⟨_, .nilSlice, fun w => by rw [run_slice_sl hu hi (evBounds_sim hb h1 h2 h3 true w)]; simp⟩
 ·rename_i b o len c
  split at h
  ·rename_i hlc
   obtain ⟨⟨l, hh, m⟩, hb, h⟩ := Option.bind_eq_some_iff.1 h
   cases h
   cases hx with
   | slice _ _ ht =>
    refine ⟨_, .slice (hh - l) (m - l) ht, fun w => ?_⟩
    rw [run_slice_sl hu hi (evBounds_sim hb h1 h2 h3 true w)]
    split
    ·rfl
    ·simp [Addr_add, Nat.add_assoc]
   | sliceBare a =>
    have hle := evBounds_le hb (Nat.le_refl _)
    obtain ⟨rfl, rfl, rfl⟩ : l = 0 ∧ hh = 0 ∧ m = 0 := by omega
    refine ⟨_, .sliceBare a, fun w => ?_⟩
    rw [run_slice_sl hu hi (evBounds_sim hb h1 h2 h3 true w)]
    simp
  ·cases h
 ·rename_i b o len s
  split at h
  ·rename_i hs
   subst hs
   split at h
   ·obtain ⟨⟨l, hh, m⟩, hb, h⟩ := Option.bind_eq_some_iff.1 h
    cases h
    have hle := evBounds_le hb (Nat.le_refl _)
    cases h3
    cases hx with
    | sliceRest _ _ cap ht hc hl =>
     rename_i tt
     have hb' := evBounds_cap hb hl
     have hrun := fun (q : Option Addr) w => run_slice_sl (w := w) (a := q) hu hi (evBounds_sim hb' h1 h2 .none true w)
     by_cases he : cap = l
     ·subst he
      have h0 : hh - cap = 0 := by omega
      rw [h0]
      refine ⟨_, .sliceEnd ⟨tt.blk, tt.base + o, none⟩ _ ht, fun w => ?_⟩
      rw [hrun _ w]
      simp [h0]
     ·refine ⟨_, .sliceRest (hh - l) _ (cap - l) ht ?_ (by omega), fun w => ?_⟩
      ·have : l * P.cellsOf elem + (cap - l) * P.cellsOf elem = cap * P.cellsOf elem := by rw [← Nat.add_mul]; congr 1; omega
       omega
      ·rw [hrun _ w]
       simp [he, Addr_add, Nat.add_assoc]
    | sliceEnd a _ ht =>
     obtain ⟨rfl, rfl, rfl⟩ : l = 0 ∧ hh = 0 ∧ m = 0 := by omega
     refine ⟨_, .sliceEnd a _ ht, fun w => ?_⟩
     rw [run_slice_sl hu hi (evBounds_sim hb h1 h2 .none true w)]
     simp
   ·rename_i v3
    split at h
    ·rename_i hpos
     obtain ⟨⟨l, hh, m⟩, hb, h⟩ := Option.bind_eq_some_iff.1 h
     cases h
     cases hx with
     | sliceRest _ _ cap ht hc hl =>
      have hb' := evBounds_capM hb hl
      refine ⟨_, .slice (hh - l) (m - l) ht, fun w => ?_⟩
      rw [run_slice_sl hu hi (evBounds_sim hb' h1 h2 h3 true w)]
      split
      ·rfl
      ·simp [Addr_add, Nat.add_assoc]
     | sliceEnd a _ _ => omega
    ·cases h
  ·cases h
 ·cases h
def evSlice (P : Program) (t : TypeId) (x : AV) (lo hi mx : Option AV) : Option AV :=
 match P.underlying t with
 | some (.array n e) =>
  match x with
  | .ptr (some (b, o)) => if (P.info? e).isSome then (evBounds n n lo hi mx).bind fun (l, h, m) => some (.slice (some (b, if m = l then o else o + l * P.cellsOf e)) (h - l) (.known (m - l))) else none
  | _ => none
 | some .string =>
  match x, mx with
  | .str s, none => (evBounds s.size s.size lo hi none).bind fun (l, h, _) => some (.str (s.extract l h))
  | _, _ => none
 | some (.slice e) => if (P.info? e).isSome then evSliceS (P.cellsOf e) x lo hi mx else none
 | _ => none
theorem evSlice_sim {P : Program} {r : Ren} {t : TypeId} {x v : AV} {x' : Value}
  {lo hi' mx : Option AV} {lo' hi'' mx' : Option Value} (h : evSlice P t x lo hi' mx = some v) (hx : VR r x x') (h1 : OVR r lo lo') (h2 : OVR r hi' hi'') (h3 : OVR r mx mx') :
  ∃ v', VR r v v' ∧ ∀ w, (Instr.sliceAt t x' lo' hi'' mx').run P w = .ok v' w := by
 unfold evSlice at h
 split at h
 ·rename_i n e hu
  split at h
  ·rename_i b o
   split at h
   ·rename_i hsome
    obtain ⟨inf, hsome⟩ := Option.isSome_iff_exists.1 hsome
    obtain ⟨⟨l, hh, m⟩, hb, h⟩ := Option.bind_eq_some_iff.1 h
    cases h
    cases hx with
    | ptr ht =>
     refine ⟨_, .slice (hh - l) (m - l) ht, fun w => ?_⟩
     simp only [Instr.sliceAt, Sem.run_bind, run_underlying hu, Result.andThen_ok, Instr.sureAddr, Sem.run_pure, evBounds_sim hb h1 h2 h3 false w, run_sizeOf w hsome]
     split
     ·rfl
     ·simp [Addr_add, Nat.add_assoc]
   ·cases h
  ·cases h
 ·rename_i hu
  split at h
  ·obtain ⟨⟨l, hh, m⟩, hb, h⟩ := Option.bind_eq_some_iff.1 h
   cases h
   cases h3
   cases hx
   refine ⟨_, .str _, fun w => ?_⟩
   have := evBounds_sim (P := P) hb h1 h2 .none false w
   simp [Instr.sliceAt, run_underlying hu, Instr.slice, this]
  ·cases h
 ·rename_i e hu
  split at h
  ·rename_i hsome
   obtain ⟨inf, hsome⟩ := Option.isSome_iff_exists.1 hsome
   exact evSliceS_sim hu hsome h hx h1 h2 h3
  ·cases h
 ·cases h
end Go.Ev

/- The abstract machine Ev, part D: how a heap changes: a new block, a block written, a row grown. -/
namespace Go.Ev
/-- w' is w with some cells of one block written -/
structure Wrote (w w' : World) (b : Nat) (o : Nat) (vs : List Value) : Prop where
 size : w'.heap.size = w.heap.size
 env : Env w w'
 other : ∀ b', b' ≠ b → w'.heap[b']? = w.heap[b']?
 here : ∀ C e fz, w.heap[b]? = some (.cells C e fz) → ∃ C', w'.heap[b]? = some (.cells C' e fz) ∧ C'.size = C.size ∧
  ∀ k : Nat, C'[k]? = if o ≤ k ∧ k < o + vs.length then vs[k - o]? else C[k]?
theorem heap_setCell_blk {w : World} {b o : Nat} {v : Value} {C : Array Value} {e : TypeId} {fz : Nat × Nat} (h : w.heap[b]? = some (.cells C e fz)) :
  (w.setCell ⟨b, o, none⟩ v).heap[b]? = some (.cells (C.setIfInBounds o v) e fz) := by
 simp [World.setCell, Array.getElem?_modify, h]
theorem run_store_blk {P : Program} {w : World} {b o : Nat} {v : Value} {C : Array Value} {e : TypeId} {fz : Nat × Nat} (h : w.heap[b]? = some (.cells C e fz)) (ho : o < C.size)
  (hfz : ¬ (fz.1 ≤ o ∧ o < fz.2)) (hv : v.oneCell' = true) : (store ⟨b, o, none⟩ v).run P w = .ok () (w.setCell ⟨b, o, none⟩ v) := by
 have hc : w.cell? ⟨b, o, none⟩ = some C[o] := by simp [World.cell?, h, ho]
 have hf : w.frozen? ⟨b, o, none⟩ = false := by simp [World.frozen?, h]; omega
 rw [run_store P w _ v .plain hv]
 simp [hc, hf]
theorem run_storeCells_blk {P : Program} {b o : Nat} : ∀ (vs : List Value) (i : Nat) (w : World) (C : Array Value) (e : TypeId) (fz : Nat × Nat), w.heap[b]? = some (.cells C e fz) →
  o + i + vs.length ≤ C.size → (∀ off, off < C.size → ¬ (fz.1 ≤ off ∧ off < fz.2)) → (∀ v ∈ vs, v.oneCell' = true) →
  ∃ w', (storeCells ⟨b, o, none⟩ vs i).run P w = .ok () w' ∧ Wrote w w' b (o + i) vs
 | [], i, w, C, e, fz, h, _, _, _ => ⟨w, rfl, rfl, .refl w, fun _ _ => rfl, fun C' e' fz' h' => ⟨C', h', rfl, fun k => by simp; omega⟩⟩
 | v :: vs, i, w, C, e, fz, h, hl, hfz, hv => by
  simp only [List.length_cons] at hl
  have h1 := run_store_blk (P := P) (v := v) h (o := o + i) (by omega) (hfz _ (by omega)) (hv v (by simp))
  have h2 := heap_setCell_blk (o := o + i) (v := v) h
  obtain ⟨w', hr, hw⟩ := run_storeCells_blk (P := P) (b := b) (o := o) vs (i + 1) (w.setCell ⟨b, o + i, none⟩ v) _ e fz h2 (by simp; omega) (by simpa using hfz) (fun u hu => hv u (by simp [hu]))
  refine ⟨w', ?_, ?_, Env.trans ⟨rfl, rfl, rfl, fun _ => Nat.le_refl _⟩ hw.env, ?_, ?_⟩
  ·unfold storeCells
   rw [Sem.run_bind, Addr_add, h1]
   exact hr
  ·rw [hw.size, World.size_setCell]
  ·intro b' hb'
   rw [hw.other b' hb', heap_setCell_other _ _ _ _ (by simpa using hb')]
  ·intro C0 e0 fz0 h0
   rw [h] at h0
   cases h0
   obtain ⟨C', hc', hs', hk⟩ := hw.here _ _ _ h2
   refine ⟨C', hc', by simpa using hs', fun k => ?_⟩
   rw [hk]
   simp only [List.length_cons]
   by_cases hk0 : k = o + i
   ·subst hk0
    rw [if_neg (by omega), if_pos (by omega)]
    simp [show o + i < C.size by omega]
   ·by_cases hk1 : o + (i + 1) ≤ k ∧ k < o + (i + 1) + vs.length
    ·rw [if_pos hk1, if_pos (by omega)]
     obtain ⟨j, hj⟩ : ∃ j, k - (o + i) = j + 1 := ⟨k - (o + i) - 1, by omega⟩
     rw [hj, List.getElem?_cons_succ]
     congr 1
     omega
    ·rw [if_neg hk1, if_neg (by omega), Array.getElem?_setIfInBounds_ne (by omega)]
theorem World.block_lt {w : World} {b : Nat} {o : Obj} (h : w.heap[b]? = some o) : b < w.heap.size := by
 rcases Nat.lt_or_ge b w.heap.size with h' | h'
 ·exact h'
 ·simp [Array.getElem?_eq_none h'] at h
/-- one object of ours is written: its block alone has changed -/
theorem Post.of_set {r : Ren} {h : H} {w w' : World} {i : Nat} {t : Tgt} {o o' : AObj} (hrel : Rel r h w) (hi : r i = some t) (hg : h.get i = some o) (hro : o.ro = false) (hro' : o'.ro = false)
  (hsz : w'.heap.size = w.heap.size) (henv : Env w w') (hother : ∀ b, b ≠ t.blk → w'.heap[b]? = w.heap[b]?) (hor : OR r w' t o') : Post r h w r (h.set i o') w' where
 env := henv
 le := r.le_refl
 dom := fun j tj h1 h2 => by rw [h1] at h2; cases h2
 rel := {
  wf := fun j oj hj => by
   simp only [H.set] at hj
   split at hj
   ·rename_i e; subst e; exact hrel.wf _ _ hg
   ·exact hrel.wf _ _ hj
  obj := fun j tj oj hj hgj => by
   simp only [H.set] at hgj
   split at hgj
   ·rename_i e; subst e; cases hgj; rw [hi] at hj; cases hj; exact hor
   ·rename_i hne
    refine (hrel.obj j tj oj hj hgj).move r.le_refl (hother _ fun e => ?_)
    rcases hrel.inj j i tj t oj o hj hi hgj hg e with h' | ⟨_, h'⟩
    ·exact hne h'
    ·rw [h'] at hro; cases hro
  inj := fun j k tj tk oj ok hj hk hgj hgk e => by
   simp only [H.set] at hgj hgk
   split at hgj <;> split at hgk
   ·left; omega
   ·rename_i h1 h2; subst h1; cases hgj
    rcases hrel.inj j k tj tk o ok hj hk hg hgk e with h' | ⟨h', _⟩
    ·exact .inl h'
    ·rw [h'] at hro; cases hro
   ·rename_i h1 h2; subst h2; cases hgk
    rcases hrel.inj j k tj tk oj o hj hk hgj hg e with h' | ⟨_, h'⟩
    ·exact .inl h'
    ·rw [h'] at hro; cases hro
   ·exact hrel.inj j k tj tk oj ok hj hk hgj hgk e
  bound := fun j tj hj => by rw [hsz]; exact hrel.bound j tj hj
  glob := hrel.glob }
 keep := fun b hb hk => hother b fun e => by
  have := hk i t o hi e.symm hg
  rw [this] at hro; cases hro
 size := by rw [hsz]; exact Nat.le_refl _
 next := Nat.le_refl _
 fresh := fun j tj h1 h2 => by rw [h1] at h2; cases h2
 roKeep := fun j oj _ hj => by
  simp only [H.set] at hj
  split at hj
  ·rename_i e; subst e; cases hj; exact ⟨o, hg, hro.trans hro'.symm⟩
  ·exact ⟨oj, hj, rfl⟩
 gap := fun j tj _ => by simp [H.set]; omega
 touch := fun j _ hne => by
  simp only [H.set] at hne
  split at hne
  ·rename_i e; subst e; exact ⟨t, hi⟩
  ·exact absurd rfl hne
def Ren.put (r : Ren) (i : Nat) (t : Tgt) : Ren := fun j => if j = i then some t else r j
theorem Ren.le_put {r : Ren} {i : Nat} {t : Tgt} (h : r i = none) : r.le (r.put i t) := fun j tj hj => by
 unfold Ren.put
 split
 ·rename_i e; subst e; rw [h] at hj; cases hj
 ·exact hj
/-- a new block -/
theorem Post.of_new {r : Ren} {h : H} {w w' : World} {o : AObj} {base row : Nat} (hrel : Rel r h w) (hn : r h.next = none)
  (hsz : w'.heap.size = w.heap.size + 1) (henv : Env w w') (hother : ∀ b, b < w.heap.size → w'.heap[b]? = w.heap[b]?)
  (hor : ∀ r' : Ren, r.le r' → OR r' w' ⟨w.heap.size, base, row⟩ o) : Post r h w (r.put h.next ⟨w.heap.size, base, row⟩) (h.new o) w' where
 env := henv
 le := Ren.le_put hn
 dom := fun j tj h1 h2 => by
  unfold Ren.put at h1
  split at h1
  ·rename_i e; subst e; simp [H.new]
  ·rw [h1] at h2; cases h2
 rel := {
  wf := fun j oj hj => by
   simp only [H.new] at hj ⊢
   split at hj
   ·omega
   ·have := hrel.wf _ _ hj; omega
  obj := fun j tj oj hj hgj => by
   simp only [H.new] at hgj
   unfold Ren.put at hj
   split at hgj
   ·rename_i e; subst e; cases hgj; simp at hj; subst hj; exact hor _ (Ren.le_put hn)
   ·rename_i hne
    rw [if_neg hne] at hj
    exact (hrel.obj j tj oj hj hgj).move (Ren.le_put hn) (hother _ (hrel.bound j tj hj))
  inj := fun j k tj tk oj ok hj hk hgj hgk e => by
   simp only [H.new] at hgj hgk
   unfold Ren.put at hj hk
   split at hgj <;> split at hgk
   ·left; omega
   ·rename_i h1 h2; rw [if_pos h1] at hj; rw [if_neg h2] at hk; cases hj
    have := hrel.bound k tk hk; simp at e; omega
   ·rename_i h1 h2; rw [if_neg h1] at hj; rw [if_pos h2] at hk; cases hk
    have := hrel.bound j tj hj; simp at e; omega
   ·rename_i h1 h2; rw [if_neg h1] at hj; rw [if_neg h2] at hk
    exact hrel.inj j k tj tk oj ok hj hk hgj hgk e
  bound := fun j tj hj => by
   unfold Ren.put at hj
   split at hj
   ·cases hj; simp; omega
   ·have := hrel.bound j tj hj; omega
  glob := hrel.glob.mono (Ren.le_put hn) }
 keep := fun b hb _ => hother b hb
 size := by omega
 next := by simp [H.new]
 fresh := fun j tj h1 h2 => by
  unfold Ren.put at h2
  split at h2
  ·cases h2; exact .inl (Nat.le_refl _)
  ·rw [h1] at h2; cases h2
 roKeep := fun j oj hj hg => by
  simp only [H.new] at hg
  split at hg
  ·omega
  ·exact ⟨oj, hg, rfl⟩
 gap := fun j tj hj => by
  simp only [H.new]
  by_cases e : j = h.next
  ·subst e; rw [hn] at hj; cases hj
  ·omega
 touch := fun j hj hne => by
  simp only [H.new] at hne
  rw [if_neg (by omega)] at hne
  exact absurd rfl hne
theorem ite3 {a b : Prop} [Decidable a] [Decidable b] {α : Type} {x z : α} {y : Option α} (h : (if a then some x else if b then none else y) = some z) : (a ∧ x = z) ∨ (¬ a ∧ ¬ b ∧ y = some z) := by
 by_cases ha : a
 ·rw [if_pos ha] at h; cases h; exact .inl ⟨ha, rfl⟩
 ·rw [if_neg ha] at h
  by_cases hb : b
  ·rw [if_pos hb] at h; cases h
  ·rw [if_neg hb] at h; exact .inr ⟨ha, hb, h⟩
/-- a block of ours goes on under a new number (a row that has grown in its place) -/
theorem Post.of_again {r : Ren} {h : H} {w w' : World} {i : Nat} {t t' : Tgt} {o o' : AObj} (hrel : Rel r h w) (hi : r i = some t) (hg : h.get i = some o) (hro : o.ro = false) (hro' : o'.ro = false)
  (hn : r h.next = none) (ht : t'.blk = t.blk)
  (hsz : w'.heap.size = w.heap.size) (henv : Env w w') (hother : ∀ b, b ≠ t.blk → w'.heap[b]? = w.heap[b]?) (hor : ∀ r' : Ren, r.le r' → OR r' w' t' o') :
  Post r h w (r.put h.next t') ((h.kill i).new o') w' where
 env := henv
 le := Ren.le_put hn
 dom := fun j tj h1 h2 => by
  unfold Ren.put at h1
  split at h1
  ·rename_i e; subst e; simp [H.new, H.kill]
  ·rw [h1] at h2; cases h2
 rel := {
  wf := fun j oj hj => by
   show j < h.next + 1
   rcases ite3 hj with ⟨e, _⟩ | ⟨_, _, hj⟩
   ·change j = h.next at e; omega
   ·have := hrel.wf _ _ hj; omega
  obj := fun j tj oj hj hgj => by
   unfold Ren.put at hj
   rcases ite3 hgj with ⟨e, e2⟩ | ⟨hne, hji, hgj⟩
   ·change j = h.next at e
    subst e; subst e2; simp at hj; subst hj; exact hor _ (Ren.le_put hn)
   ·change ¬ j = h.next at hne
    rw [if_neg hne] at hj
    refine (hrel.obj j tj oj hj hgj).move (Ren.le_put hn) (hother _ fun e => ?_)
    rcases hrel.inj j i tj t oj o hj hi hgj hg e with h' | ⟨_, h'⟩
    ·exact hji h'
    ·rw [h'] at hro; cases hro
  inj := fun j k tj tk oj ok hj hk hgj hgk e => by
   unfold Ren.put at hj hk
   rcases ite3 hgj with ⟨h1, _⟩ | ⟨h1, hji, hgj⟩ <;> rcases ite3 hgk with ⟨h2, _⟩ | ⟨h2, hki, hgk⟩
   all_goals first | change j = h.next at h1 | change ¬ j = h.next at h1
   all_goals first | change k = h.next at h2 | change ¬ k = h.next at h2
   ·left; omega
   ·rw [if_pos h1] at hj; rw [if_neg h2] at hk; cases hj
    rcases hrel.inj k i tk t ok o hk hi hgk hg (e.symm.trans ht) with h' | ⟨_, h'⟩
    ·exact absurd h' hki
    ·rw [h'] at hro; cases hro
   ·rw [if_neg h1] at hj; rw [if_pos h2] at hk; cases hk
    rcases hrel.inj j i tj t oj o hj hi hgj hg (e.trans ht) with h' | ⟨_, h'⟩
    ·exact absurd h' hji
    ·rw [h'] at hro; cases hro
   ·rw [if_neg h1] at hj; rw [if_neg h2] at hk
    exact hrel.inj j k tj tk oj ok hj hk hgj hgk e
  bound := fun j tj hj => by
   unfold Ren.put at hj
   rw [hsz]
   split at hj
   ·cases hj; rw [ht]; exact hrel.bound i t hi
   ·exact hrel.bound j tj hj
  glob := hrel.glob.mono (Ren.le_put hn) }
 keep := fun b hb hk => hother b fun e => by
  have := hk i t o hi e.symm hg
  rw [this] at hro; cases hro
 size := by rw [hsz]; exact Nat.le_refl _
 next := by simp [H.new, H.kill]
 fresh := fun j tj h1 h2 => by
  unfold Ren.put at h2
  split at h2
  ·cases h2; exact .inr ⟨i, t, o, hi, ht.symm, hg, hro⟩
  ·rw [h1] at h2; cases h2
 roKeep := fun j oj hj hgj => by
  rcases ite3 hgj with ⟨e, _⟩ | ⟨_, _, hgj⟩
  ·change j = h.next at e; omega
  ·exact ⟨oj, hgj, rfl⟩
 gap := fun j tj hj => by
  simp only [H.new, H.kill]
  by_cases e : j = h.next
  ·subst e; rw [hn] at hj; cases hj
  ·omega
 touch := fun j hj hne => by
  by_cases e : j = i
  ·subst e; exact ⟨t, hi⟩
  ·refine absurd ?_ hne
   show (if j = h.next then some o' else if j = i then none else h.get j) = h.get j
   rw [if_neg (by omega), if_neg e]
/-- an object that nobody looks at any more is forgotten -/
theorem Post.of_kill {r : Ren} {h : H} {w : World} {i : Nat} {t : Tgt} (hi : r i = some t) (hrel : Rel r h w) : Post r h w r (h.kill i) w where
 env := .refl w
 le := r.le_refl
 dom := fun j tj h1 h2 => by rw [h1] at h2; cases h2
 rel := {
  wf := fun j oj hj => by
   simp only [H.kill] at hj ⊢
   split at hj
   ·cases hj
   ·exact hrel.wf _ _ hj
  obj := fun j tj oj hj hgj => by
   simp only [H.kill] at hgj
   split at hgj
   ·cases hgj
   ·exact hrel.obj j tj oj hj hgj
  inj := fun j k tj tk oj ok hj hk hgj hgk e => by
   simp only [H.kill] at hgj hgk
   split at hgj
   ·cases hgj
   ·split at hgk
    ·cases hgk
    ·exact hrel.inj j k tj tk oj ok hj hk hgj hgk e
  bound := hrel.bound
  glob := hrel.glob }
 keep := fun _ _ _ => rfl
 size := Nat.le_refl _
 next := Nat.le_refl _
 fresh := fun j tj h1 h2 => by rw [h1] at h2; cases h2
 roKeep := fun j oj _ hj => by
  simp only [H.kill] at hj
  split at hj
  ·cases hj
  ·exact ⟨oj, hj, rfl⟩
 gap := fun j tj _ => by simp [H.kill]; omega
 touch := fun j hj hne => by
  simp only [H.kill] at hne
  split at hne
  ·rename_i e; subst e; exact ⟨t, hi⟩
  ·exact absurd rfl hne
def H.newO (h : H) : Option AObj → H
 | some o => h.new o
 | none => ⟨h.next + 1, h.get⟩
theorem next_newO (h : H) (o : Option AObj) : (h.newO o).next = h.next + 1 := by cases o <;> rfl
theorem get_newO {h : H} {o : Option AObj} {i : Nat} (hi : i ≠ h.next) : (h.newO o).get i = h.get i := by
 cases o with
 | none => rfl
 | some o => simp only [H.newO, H.new, if_neg hi]
theorem get_newO_self {h : H} {o : Option AObj} (hn : h.get h.next = none) : (h.newO o).get h.next = o := by
 cases o with
 | none => exact hn
 | some o => simp [H.newO, H.new]
theorem Post.of_newO {r : Ren} {h : H} {w w' : World} {o : Option AObj} {base row : Nat} (hrel : Rel r h w) (hn : r h.next = none)
  (hsz : w'.heap.size = w.heap.size + 1) (henv : Env w w') (hother : ∀ b, b < w.heap.size → w'.heap[b]? = w.heap[b]?)
  (hor : ∀ x, o = some x → ∀ r' : Ren, r.le r' → OR r' w' ⟨w.heap.size, base, row⟩ x) : Post r h w (r.put h.next ⟨w.heap.size, base, row⟩) (h.newO o) w' := by
 cases o with
 | some x => exact Post.of_new hrel hn hsz henv hother (hor x rfl)
 | none =>
  have p : Post r h w (r.put h.next ⟨w.heap.size, base, row⟩) (h.new .hid) w' := Post.of_new hrel hn hsz henv hother fun r' _ => trivial
  have q := Post.of_kill (i := h.next) (t := ⟨w.heap.size, base, row⟩) (by simp [Ren.put]) p.rel
  have e : (h.new .hid).kill h.next = h.newO none := by
   unfold H.kill H.new H.newO
   simp only
   congr 1
   funext j
   by_cases hj : j = h.next
   ·subst hj
    simp only [if_true]
    cases hg : h.get h.next with
    | none => rfl
    | some x => have := hrel.wf _ _ hg; omega
   ·simp only [if_neg hj]
  rw [← e]
  exact p.trans q
end Go.Ev

/- The abstract machine Ev, part E: what an operation does: one that looks at no memory (evPure), one that makes a block (evAlloc). -/
namespace Go.Ev
def acells : AV → Option (List AV)
 | .agg cs => some cs
 | .junk => none
 | .tup _ => none
 | v => some [v]
theorem acells_sim {r : Ren} {a : AV} {v : Value} {cs : List AV} (h : acells a = some cs) (hv : VR r a v) : VRL r cs v.cells.toList := by
  have one : ∀ (a : AV) (v : Value), VR r a v → VRL r [a] [v] := fun a v h => VRL.cons h VRL.nil
  have hv0 := hv
  cases hv <;> simp only [acells] at h <;> first
    | (cases h; done)
    | (cases h; exact one _ _ hv0)
    | (cases h
       rename_i h1 h2
       exact ⟨by simpa [Value.cells] using h1, fun i a v ha hv => h2 i a v ha (by simpa [Value.cells] using hv)⟩)
def evZero (P : Program) (t : TypeId) : Option (List AV) := ((P.info? t).bind (·.zero)).map fun v => v.cells.toList.map scal
theorem evZero_sim {P : Program} {t : TypeId} {zs : List AV} (h : evZero P t = some zs) : ∃ i z, P.info? t = some i ∧ i.zero = some z ∧ (∀ w, (zeroValue t).run P w = .ok z w) ∧ ∀ r : Ren, VRL r zs z.cells.toList := by
 unfold evZero at h
 obtain ⟨z, hz, rfl⟩ := Option.map_eq_some_iff.1 h
 obtain ⟨i, hi, hz⟩ := Option.bind_eq_some_iff.1 hz
 refine ⟨i, z, hi, hz, fun w => by simp [zeroValue, typeInfo, hi, hz], fun r => ⟨by simp, fun j a v ha hv => ?_⟩⟩
 rw [List.getElem?_map, hv] at ha
 simp at ha
 subst ha
 exact VR_scal r v
def evFill (place : Nat → Option (Nat × Nat)) (cells : List AV) : List (Nat × AV) → Option (List AV)
 | [] => some cells
 | (i, v) :: rest =>
  match place i, acells v with
  | some (off, size), some cs => if cs.length = size ∧ off + size ≤ cells.length then evFill place (cells.take off ++ cs ++ cells.drop (off + size)) rest else none
  | _, _ => none
theorem foldl_splice (off : Nat) : ∀ (l : List Value) (k : Nat) (A : Array Value), off + k + l.length ≤ A.size →
  ((l.zipIdx k).foldl (fun cs (c, j) => cs.setIfInBounds (off + j) c) A).toList = A.toList.take (off + k) ++ l ++ A.toList.drop (off + k + l.length)
 | [], k, A, _ => by simp
 | c :: l, k, A, h => by
  simp only [List.length_cons] at h
  rw [List.zipIdx_cons, List.foldl_cons, foldl_splice off l (k + 1) _ (by simp; omega)]
  have hlt : off + k < A.toList.length := by simp; omega
  simp only [Array.toList_setIfInBounds, List.length_cons]
  rw [show off + (k + 1) = off + k + 1 by omega, List.take_succ_eq_append_getElem (by simp; omega), List.take_set_of_le (Nat.le_refl _), List.getElem_set_self, List.drop_set_of_lt (by omega),
   show off + k + (l.length + 1) = off + k + 1 + l.length by omega]
  simp
theorem VRL.splice {r : Ren} {cells cs : List AV} {A vs : List Value} (h : VRL r cells A) (hc : VRL r cs vs) (off : Nat) :
  VRL r (cells.take off ++ cs ++ cells.drop (off + cs.length)) (A.take off ++ vs ++ A.drop (off + vs.length)) := by
 rw [← hc.1]
 exact ((h.take off).append hc).append (h.drop _)
theorem evFill_sim {r : Ren} {place : Nat → Option (Nat × Nat)} : ∀ {parts : List (Nat × AV)} {parts' : List (Nat × Value)} {cells out : List AV} {A : Array Value}, evFill place cells parts = some out → VRL r cells A.toList →
  parts.length = parts'.length → (∀ (i : Nat) x y, parts[i]? = some x → parts'[i]? = some y → x.1 = y.1 ∧ VR r x.2 y.2) → ∃ B, Instr.fill place A parts' = some B ∧ VRL r out B.toList
 | [], parts', cells, out, A, h, hA, hl, hp => by
  cases parts' with
  | nil => simp only [evFill] at h; cases h; exact ⟨A, rfl, hA⟩
  | cons _ _ => simp at hl
 | (i, v) :: rest, parts', cells, out, A, h, hA, hl, hp => by
  cases parts' with
  | nil => simp at hl
  | cons y rest' =>
   obtain ⟨i', v'⟩ := y
   obtain ⟨hii, hv⟩ := hp 0 _ _ rfl rfl
   simp only at hii hv
   subst hii
   simp only [evFill] at h
   split at h
   ·rename_i off size cs hpl hcs
    split at h
    ·rename_i hb
     obtain ⟨hb1, hb2⟩ := hb
     have hc := acells_sim hcs hv
     have hsz : v'.cells.size = size := by rw [← hb1]; simpa using hc.1.symm
     have hAs : A.size = cells.length := by simpa using hA.1.symm
     have hfold : (Array.foldl (fun cs (c, j) => cs.setIfInBounds (off + j) c) A v'.cells.zipIdx).toList = A.toList.take off ++ v'.cells.toList ++ A.toList.drop (off + v'.cells.toList.length) := by
      rw [← Array.foldl_toList, Array.toList_zipIdx]
      have := foldl_splice off v'.cells.toList 0 A (by simp; omega)
      simpa using this
     obtain ⟨B, hB, hout⟩ := evFill_sim (parts := rest) (parts' := rest') (A := Array.foldl (fun cs (c, j) => cs.setIfInBounds (off + j) c) A v'.cells.zipIdx) h (by
      rw [hfold, ← hb1]; exact hA.splice hc off) (by simpa using hl) (fun j x y hx hy => hp (j + 1) x y (by simpa using hx) (by simpa using hy))
     refine ⟨B, ?_, hout⟩
     simp only [Instr.fill, hpl]
     rw [if_neg (by simp [hsz]; omega)]
     exact hB
    ·cases h
   ·cases h
def fieldPlaces (P : Program) (fs : List Field) : Option (List (Nat × Nat)) := fs.mapM fun f => (P.info? f.type).map fun i => (f.offset, i.size)
def evBuild (P : Program) (t : TypeId) (parts : List (Nat × AV)) : Option AV :=
 (evZero P t).bind fun zs =>
 match P.underlying t with
 | some (.struct fs) => (fieldPlaces P fs.toList).bind fun ps => (evFill (ps[·]?) zs parts).map .agg
 | some (.array _ e) => (P.info? e).bind fun i => (evFill (fun j => some (j * i.size, i.size)) zs parts).map .agg
 | _ => none
theorem run_places {P : Program} (w : World) : ∀ (fs : List Field) (ps : List (Nat × Nat)), fieldPlaces P fs = some ps →
  (fs.mapM (fun f => do pure (f.offset, ← sizeOf f.type)) : Sem (List (Nat × Nat))).run P w = .ok ps w
 | [], ps, h => by simp [fieldPlaces] at h; subst h; rfl
 | f :: fs, ps, h => by
  simp only [fieldPlaces, List.mapM_cons, bind, Option.bind_eq_some_iff, pure, Option.some.injEq] at h
  obtain ⟨p, hp, qs, hq, rfl⟩ := h
  obtain ⟨i, hi, rfl⟩ := Option.map_eq_some_iff.1 hp
  have ih := run_places w fs qs hq
  rw [List.mapM_cons]
  simp only [Sem.run_bind, run_sizeOf w hi, Result.andThen_ok, Sem.run_pure, ih]
  simp [Program.cellsOf, hi]
theorem run_mapM_array {P : Program} {w : World} {α : Type} {f : Field → Sem α} {fs : Array Field} {ps : List α} (h : (fs.toList.mapM f).run P w = .ok ps w) : (fs.mapM f).run P w = .ok ps.toArray w := by
 rw [Array.mapM_eq_mapM_toList]
 simp [h]
theorem evBuild_sim {P : Program} {r : Ren} {t : TypeId} {parts : List (Nat × AV)} {parts' : Array (Nat × Value)} {v : AV} (h : evBuild P t parts = some v)
  (hl : parts.length = parts'.size) (hp : ∀ (i : Nat) x y, parts[i]? = some x → parts'[i]? = some y → x.1 = y.1 ∧ VR r x.2 y.2) :
  ∃ v', VR r v v' ∧ ∀ w, (Instr.build t parts').run P w = .ok v' w := by
 unfold evBuild at h
 obtain ⟨zs, hz, h⟩ := Option.bind_eq_some_iff.1 h
 obtain ⟨i, z, hi, hzz, hrun, hvz⟩ := evZero_sim hz
 split at h
 ·rename_i fs hu
  obtain ⟨ps, hps, h⟩ := Option.bind_eq_some_iff.1 h
  obtain ⟨out, ho, rfl⟩ := Option.map_eq_some_iff.1 h
  obtain ⟨B, hB, hout⟩ := evFill_sim (parts' := parts'.toList) ho (hvz r) (by simpa using hl) (fun j x y hx hy => hp j x y hx (by simpa using hy))
  refine ⟨.agg B, .agg _ _ (by simpa using hout.1) (fun j a v ha hv => hout.2 j a v ha (by simpa using hv)), fun w => ?_⟩
  have h1 := run_mapM_array (run_places (P := P) w fs.toList ps hps)
  have h2 : Instr.fill (fun x => ps.toArray[x]?) z.cells parts'.toList = some B := by simpa using hB
  simp only [Instr.build, Sem.run_bind, hrun, Result.andThen_ok, run_underlying hu, h1, h2, Sem.run_pure]
 ·rename_i n e hu
  obtain ⟨ie, hie, h⟩ := Option.bind_eq_some_iff.1 h
  obtain ⟨out, ho, rfl⟩ := Option.map_eq_some_iff.1 h
  obtain ⟨B, hB, hout⟩ := evFill_sim (parts' := parts'.toList) ho (hvz r) (by simpa using hl) (fun j x y hx hy => hp j x y hx (by simpa using hy))
  refine ⟨.agg B, .agg _ _ (by simpa using hout.1) (fun j a v ha hv => hout.2 j a v ha (by simpa using hv)), fun w => ?_⟩
  have hsz : P.cellsOf e = ie.size := by simp [Program.cellsOf, hie]
  simp only [Instr.build, Sem.run_bind, hrun, Result.andThen_ok, run_underlying hu, run_sizeOf w hie, hsz, hB, Sem.run_pure]
 ·cases h
def evLen (P : Program) (ts : List TypeId) (xs : List AV) : Option AV :=
 match ts[0]?, xs[0]? with
 | some t, some x =>
  match P.underlying t with
  | some .string => match x with | .str s => some (.int .i64 s.size) | _ => none
  | some (.array n _) => some (.int .i64 n)
  | some (.pointer arr) => match P.underlying arr with | some (.array n _) => some (.int .i64 n) | _ => none
  | some (.slice _) => match x with | .slice _ n _ => some (.int .i64 n) | _ => none
  | some (.map _ _) => match x with | .map none => some (.int .i64 0) | _ => none
  | _ => none
 | _, _ => none
theorem evLen_sim {P : Program} {r : Ren} {ts : Array TypeId} {ty : TypeId} {xs : List AV} {xs' : Array Value} {v : AV} (h : evLen P ts.toList xs = some v) (hx : VRL r xs xs'.toList) :
  ∃ v', VR r v v' ∧ ∀ w, (Builtin.len_ ts ty xs').run P w = .ok v' w := by
 unfold evLen at h
 split at h
 ·rename_i t x ht hx0
  have hlt : 0 < xs'.toList.length := by rw [← hx.1]; exact (List.getElem?_eq_some_iff.1 hx0).1
  have hx0' : xs'[0]? = some xs'.toList[0] := by rw [← Array.getElem?_toList]; exact List.getElem?_eq_getElem hlt
  have hv := hx.2 0 x _ hx0 (List.getElem?_eq_getElem hlt)
  have ht' : ts[0]? = some t := by rw [← Array.getElem?_toList]; exact ht
  generalize xs'.toList[0] = x' at hv hx0'
  split at h
  ·rename_i hu
   split at h
   ·cases h; cases hv; exact ⟨_, .int _ _, fun w => by simp [Builtin.len_, ht', hx0', run_underlying hu, goInt]⟩
   ·cases h
  ·rename_i hu
   cases h; exact ⟨_, .int _ _, fun w => by simp [Builtin.len_, ht', hx0', run_underlying hu, goInt]⟩
  ·rename_i arr hu
   split at h
   ·rename_i hu2; cases h; exact ⟨_, .int _ _, fun w => by simp [Builtin.len_, ht', hx0', run_underlying hu, run_underlying hu2, goInt]⟩
   ·cases h
  ·rename_i hu
   split at h
   ·cases h; cases hv <;> exact ⟨_, .int _ _, fun w => by simp [Builtin.len_, ht', hx0', run_underlying hu, goInt]⟩
   ·cases h
  ·rename_i hu
   split at h
   ·cases h; cases hv; exact ⟨_, .int _ _, fun w => by simp [Builtin.len_, ht', hx0', run_underlying hu, goInt]⟩
   ·cases h
  ·cases h
 ·cases h
def evMx (mx : Bool) (x y : AV) : Option AV :=
 match x, y with
 | .int k a, .int _ b => some (.int k (if mx then (if b > a then b else a) else (if b < a then b else a)))
 | _, _ => none
def evMxs (mx : Bool) : AV → List AV → Option AV
 | x, [] => some x
 | x, y :: ys => (evMx mx x y).bind fun z => evMxs mx z ys
theorem evMxs_sim_max {P : Program} {r : Ren} : ∀ {ys : List AV} {ys' : List Value} {x v : AV} {x' : Value}, evMxs true x ys = some v → VR r x x' → VRL r ys ys' → ∃ v', VR r v v' ∧ ∀ w, (ys'.foldlM Builtin.max2 x').run P w = .ok v' w
 | [], ys', x, v, x', h, hx, hy => by
  cases ys' with
  | nil => simp only [evMxs] at h; cases h; exact ⟨x', hx, fun w => rfl⟩
  | cons _ _ => have := hy.1; simp at this
 | y :: ys, ys', x, v, x', h, hx, hy => by
  obtain ⟨y', ys'', rfl, hy1, hy2⟩ := hy.inv_cons
  simp only [evMxs] at h
  obtain ⟨z, hz, h⟩ := Option.bind_eq_some_iff.1 h
  unfold evMx at hz
  split at hz
  ·cases hz
   cases hx; cases hy1
   obtain ⟨v', hv, hr⟩ := evMxs_sim_max h (.int _ _) hy2
   exact ⟨v', hv, fun w => by rw [List.foldlM_cons]; simpa [Builtin.max2] using hr w⟩
  ·cases hz
theorem evMxs_sim_min {P : Program} {r : Ren} : ∀ {ys : List AV} {ys' : List Value} {x v : AV} {x' : Value}, evMxs false x ys = some v → VR r x x' → VRL r ys ys' → ∃ v', VR r v v' ∧ ∀ w, (ys'.foldlM Builtin.min2 x').run P w = .ok v' w
 | [], ys', x, v, x', h, hx, hy => by
  cases ys' with
  | nil => simp only [evMxs] at h; cases h; exact ⟨x', hx, fun w => rfl⟩
  | cons _ _ => have := hy.1; simp at this
 | y :: ys, ys', x, v, x', h, hx, hy => by
  obtain ⟨y', ys'', rfl, hy1, hy2⟩ := hy.inv_cons
  simp only [evMxs] at h
  obtain ⟨z, hz, h⟩ := Option.bind_eq_some_iff.1 h
  unfold evMx at hz
  split at hz
  ·cases hz
   cases hx; cases hy1
   obtain ⟨v', hv, hr⟩ := evMxs_sim_min h (.int _ _) hy2
   exact ⟨v', hv, fun w => by rw [List.foldlM_cons]; simpa [Builtin.min2] using hr w⟩
  ·cases hz
def evBuiltin (P : Program) (b : Builtin) (ts : List TypeId) (xs : List AV) : Option AV :=
 match b with
 | .len => evLen P ts xs
 | .max => match xs with | x :: ys => evMxs true x ys | [] => none
 | .min => match xs with | x :: ys => evMxs false x ys | [] => none
 | _ => none
/-- a row's first cells as an array -/
def evArr (P : Program) (t : TypeId) (x : AV) : Option AV :=
 match P.underlying t, x with
 | some (.array n _), .slice (some (i, o)) len _ => if n ≤ len ∧ 0 < len then some (.ptr (some (i, o))) else none
 | _, _ => none
theorem evArr_sim {P : Program} {r : Ren} {t : TypeId} {x v : AV} {x' : Value} (h : evArr P t x = some v) (hx : VR r x x') : ∃ v', VR r v v' ∧ ∀ w, (Instr.arrayAt t x').run P w = .ok v' w := by
 unfold evArr at h
 split at h
 ·rename_i n e i o len c hu
  split at h
  ·rename_i hb
   cases h
   cases hx with
   | slice len c hr => exact ⟨_, .ptr hr, fun w => by simp [Instr.arrayAt, run_underlying hu, Nat.not_lt.2 hb.1]⟩
   | sliceRest len size cap hr hc hl => exact ⟨_, .ptr hr, fun w => by simp [Instr.arrayAt, run_underlying hu, Nat.not_lt.2 hb.1]⟩
   | sliceBare a => omega
   | sliceEnd a size hr => omega
  ·cases h
 ·cases h
def evPure (P : Program) (ρ : Operand → AV) (op : Op) : Option AV :=
 match op with
 | .sliceToArrayPointer t x => evArr P t (ρ x)
 | .move x => some (ρ x)
 | .assign x => some (ρ x)
 | .pick c a b => match ρ c with | .bool t => some (if t then ρ a else ρ b) | _ => none
 | .build t parts => evBuild P t (parts.toList.map fun p => (p.1, ρ p.2))
 | .nilCheck x => evNil (ρ x)
 | .binOp op t x y _ => if notIntStr (ρ x) then evEqOp P op t (ρ x) (ρ y) else evBin op (ρ x) (ρ y)
 | .unOp op _ x => evUn op (ρ x)
 | .convert src dst x => evConv P src dst (ρ x)
 | .makeFunc (.func f) first captured => some (.func f (first.toList.map ρ) (captured.toList.map ρ))
 | .slice t x lo hi mx => evSlice P t (ρ x) (lo.map ρ) (hi.map ρ) (mx.map ρ)
 | .fieldAddr t x f => evFieldAddr P t (ρ x) f
 | .field t x f => evField P t (ρ x) f
 | .indexAddr t x i => evIndexAddr P t (ρ x) (ρ i)
 | .index t x i => evIndex P t (ρ x) (ρ i)
 | .extract t i => evExtract (ρ t) i
 | .call c => match c.callee with | .builtin b => evBuiltin P b c.argTypes.toList (c.args.toList.map ρ) | _ => none
 | _ => none
theorem VRL_ops {r : Ren} {ρ : Operand → AV} {ρ' : Operand → Value} (hρ : ∀ x, VR r (ρ x) (ρ' x)) (xs : Array Operand) : VRL r (xs.toList.map ρ) (xs.map ρ').toList := by
 rw [Array.toList_map]
 exact VRL.map _ _ _ fun x _ => hρ x
theorem VR_func {r : Ren} {ρ : Operand → AV} {ρ' : Operand → Value} (hρ : ∀ x, VR r (ρ x) (ρ' x)) (f : FuncId) (a b : Array Operand) :
  VR r (.func f (a.toList.map ρ) (b.toList.map ρ)) (.func (.func f) (a.map ρ') (b.map ρ')) := by
 have h1 := VRL_ops hρ a
 have h2 := VRL_ops hρ b
 exact .func f _ _ _ _ (by simp) (by simp) (fun i x v hx hv => h1.2 i x v hx (by simpa using hv)) (fun i x v hx hv => h2.2 i x v hx (by simpa using hv))
theorem evNil_sim {P : Program} {r : Ren} {x v : AV} {x' : Value} (h : evNil x = some v) (hx : VR r x x') (o : Oper) (ρ' : Operand → Value) (y : Operand) (ho : o.op = .nilCheck y) (hy : ρ' y = x') :
  ∃ v', VR r v v' ∧ ∀ w, (execOp ρ' o).run P w = .ok (.value v') w := by
 unfold evNil at h
 split at h
 ·cases h
  refine ⟨x', hx, fun w => ?_⟩
  cases hx
  simp [execOp, ho, hy]
 ·cases h
  refine ⟨x', hx, fun w => ?_⟩
  cases hx
  simp [execOp, ho, hy]
 ·cases h
theorem evPure_sim {P : Program} {r : Ren} {ρ : Operand → AV} {ρ' : Operand → Value} (hρ : ∀ x, VR r (ρ x) (ρ' x)) (o : Oper) {v : AV} (h : evPure P ρ o.op = some v) :
  ∃ v', VR r v v' ∧ ∀ w, (execOp ρ' o).run P w = .ok (.value v') w := by
 have wrap : ∀ {s : Sem Value}, (∃ v', VR r v v' ∧ ∀ w, s.run P w = .ok v' w) → execOp ρ' o = (do pure (.value (← s))) → ∃ v', VR r v v' ∧ ∀ w, (execOp ρ' o).run P w = .ok (.value v') w := by
  intro s ⟨v', hv, hs⟩ he
  exact ⟨v', hv, fun w => by rw [he]; simp [hs]⟩
 unfold evPure at h
 cases hop : o.op <;> simp only [hop] at h <;> try (cases h; done)
 case move x => cases h; exact ⟨_, hρ x, fun w => by simp [execOp, hop]⟩
 case assign x => cases h; exact ⟨_, hρ x, fun w => by simp [execOp, hop]⟩
 case pick c a b =>
  split at h
  ·rename_i t ht
   cases h
   have hc := hρ c
   rw [ht] at hc
   refine ⟨if t then ρ' a else ρ' b, by cases t <;> simp <;> exact hρ _, fun w => ?_⟩
   cases hc' : ρ' c <;> rw [hc'] at hc <;> cases hc
   simp [execOp, hop, hc', asBool]
  ·cases h
 case build t parts =>
  refine wrap (evBuild_sim (parts' := parts.map fun p => (p.1, ρ' p.2)) h (by simp) fun i x y hx hy => ?_) (by simp [execOp, hop])
  rw [List.getElem?_map] at hx
  rw [Array.getElem?_map, ← Array.getElem?_toList] at hy
  cases hq : parts.toList[i]? with
  | none => simp [hq] at hx
  | some p => rw [hq] at hx hy; simp at hx hy; subst hx; subst hy; exact ⟨rfl, hρ _⟩
 case nilCheck x => exact evNil_sim h (hρ x) o ρ' x hop rfl
 case binOp op t x y u =>
  split at h
  ·rename_i hn
   exact wrap (evEqOp_sim h hn (hρ x) (hρ y) x y) (by simp [execOp, hop])
  ·exact wrap (evBin_sim (t := t) h (hρ x) (hρ y) x y) (by simp [execOp, hop])
 case unOp op t x => exact wrap (evUn_sim h (hρ x)) (by simp [execOp, hop])
 case convert s d x => exact wrap (evConv_sim h (hρ x)) (by simp [execOp, hop])
 case makeFunc fn a b =>
  cases fn <;> simp only at h <;> try (cases h; done)
  cases h
  exact ⟨_, VR_func hρ _ a b, fun w => by simp [execOp, hop, Instr.makeFunc]⟩
 case slice t x lo hi mx => exact wrap (evSlice_sim h (hρ x) (OVR.map hρ lo) (OVR.map hρ hi) (OVR.map hρ mx)) (by simp [execOp, hop])
 case fieldAddr t x f => exact wrap (evFieldAddr_sim h (hρ x)) (by simp [execOp, hop])
 case field t x f => exact wrap (evField_sim h (hρ x)) (by simp [execOp, hop])
 case indexAddr t x i => exact wrap (evIndexAddr_sim h (hρ x) (hρ i)) (by simp [execOp, hop])
 case index t x i => exact wrap (evIndex_sim h (hρ x) (hρ i)) (by simp [execOp, hop])
 case sliceToArrayPointer t x => exact wrap (evArr_sim h (hρ x)) (by simp [execOp, hop])
 case extract t i => exact wrap (evExtract_sim h (hρ t)) (by simp [execOp, hop])
 case call c =>
  split at h
  ·rename_i b hb
   have hargs := VRL_ops hρ c.args
   have he : execOp ρ' o = builtin b c.argTypes o.type (c.args.map fun | .const _ => true | _ => false) (c.args.map ρ') := by simp [execOp, hop, resolve, hb, invoke]; rfl
   unfold evBuiltin at h
   split at h
   ·refine wrap (evLen_sim (ty := o.type) h hargs) (by rw [he]; simp [builtin])
   ·split at h
    ·rename_i x ys hxs
     rw [hxs] at hargs
     obtain ⟨x', ys', hxs', hx, hys⟩ := hargs.inv_cons
     refine wrap (s := Builtin.max_ c.argTypes o.type (c.args.map ρ')) ?_ (by rw [he]; simp [builtin])
     obtain ⟨v', hv, hr⟩ := evMxs_sim_max (P := P) h hx hys
     exact ⟨v', hv, fun w => by unfold Builtin.max_; rw [hxs']; exact hr w⟩
    ·cases h
   ·split at h
    ·rename_i x ys hxs
     rw [hxs] at hargs
     obtain ⟨x', ys', hxs', hx, hys⟩ := hargs.inv_cons
     refine wrap (s := Builtin.min_ c.argTypes o.type (c.args.map ρ')) ?_ (by rw [he]; simp [builtin])
     obtain ⟨v', hv, hr⟩ := evMxs_sim_min (P := P) h hx hys
     exact ⟨v', hv, fun w => by unfold Builtin.min_; rw [hxs']; exact hr w⟩
    ·cases h
   ·cases h
  ·cases h
end Go.Ev

/- The abstract machine Ev, part F: operations that make a block, read memory, write memory. -/
namespace Go.Ev
def isCell : AV → Bool
 | .junk => false
 | .agg _ => false
 | .tup _ => false
 | _ => true
theorem isCell_sim {r : Ren} {a : AV} {v : Value} (h : isCell a = true) (hv : VR r a v) : v.oneCell' = true := by
 cases hv <;> first | rfl | (simp [isCell] at h)
theorem isCell_all {r : Ren} {as : List AV} {vs : List Value} (h : as.all isCell = true) (hv : VRL r as vs) : ∀ v ∈ vs, v.oneCell' = true := by
 intro v hm
 obtain ⟨i, hi⟩ := List.getElem?_of_mem hm
 have hlt : i < as.length := by rw [hv.1]; exact (List.getElem?_eq_some_iff.1 hi).1
 have ha : as[i]? = some as[i] := List.getElem?_eq_getElem hlt
 exact isCell_sim (List.all_eq_true.1 h _ (List.mem_of_getElem? ha)) (hv.2 i _ v ha hi)
structure Made (P : Program) (r : Ren) (ob : Option AObj) (mk : Nat → AV) (s : Sem Value) : Prop where
 ro : True
 run : ∀ w, ∃ row v' w', s.run P w = .ok v' w' ∧ w'.heap.size = w.heap.size + 1 ∧ Env w w' ∧ (∀ b, b < w.heap.size → w'.heap[b]? = w.heap[b]?) ∧
  (∀ x, ob = some x → ∀ r' : Ren, r.le r' → OR r' w' ⟨w.heap.size, 0, row⟩ x) ∧ (∀ r' i, r'.le r' → r' i = some ⟨w.heap.size, 0, row⟩ → VR r' (mk i) v')
theorem alloc_new (w : World) (o : Obj) : (w.alloc o).heap[w.heap.size]? = some o := by
 show (w.heap.push o)[w.heap.size]? = some o
 simp
theorem alloc_old {w : World} {o : Obj} {i : Nat} (h : i < w.heap.size) : (w.alloc o).heap[i]? = w.heap[i]? := by
 show (w.heap.push o)[i]? = w.heap[i]?
 rw [Array.getElem?_push, if_neg (Nat.ne_of_lt h)]
theorem OR_alloc {r : Ren} {w : World} {cs : List AV} {C : Array Value} {e : TypeId} (h : VRL r cs C.toList) : ∀ r' : Ren, r.le r' → OR r' (w.alloc (.cells C e)) ⟨w.heap.size, 0, C.size⟩ (.cells cs false) := by
 intro r' hr
 refine ⟨C, e, (0, 0), alloc_new w _, Nat.le_refl _, ?_, fun i a v ha hv => ?_, fun _ off _ => by simp⟩
 ·have := h.1; simp at this; simp [this]
 ·simp only [Nat.zero_add] at hv
  rw [← Array.getElem?_toList] at hv
  exact (h.2 i a v ha hv).mono hr
theorem OR_tc {r : Ren} {w : World} {cs : List AV} {C : Array Value} {e : TypeId} (h : VRL r cs C.toList) : ∀ r' : Ren, r.le r' → OR r' (w.alloc (.cells C e)) ⟨w.heap.size, 0, C.size⟩ (.tc e cs true) := by
 intro r' hr
 have hl : cs.length = C.size := by simpa using h.1
 refine ⟨C, alloc_new w _, rfl, rfl, by omega, fun _ => hl.symm, (fun h => by cases h), fun i a v ha hv => ?_⟩
 rw [← Array.getElem?_toList] at hv
 exact (h.2 i a v ha hv).mono hr
def evTile (n : Nat) (zs : List AV) : List AV := (List.range n).map fun i => zs.getD (i % zs.length) .junk
theorem evTile_sim {r : Ren} {zs : List AV} {zero : Array Value} (h : VRL r zs zero.toList) (n : Nat) :
  VRL r (evTile n zs) ((Array.range n).map (zero[· % zero.size]!)).toList := by
 have hl : zs.length = zero.size := by simpa using h.1
 unfold evTile
 rw [Array.toList_map, Array.toList_range]
 refine VRL.map _ _ _ fun i _ => ?_
 rw [hl]
 rcases Nat.eq_zero_or_pos zero.size with h0 | h0
 ·have : zs = [] := List.eq_nil_of_length_eq_zero (by omega)
  subst this
  simp; exact .junk _
 ·have hlt : i % zero.size < zero.size := Nat.mod_lt _ h0
  have h1 : zs[i % zero.size]? = some (zs[i % zero.size]'(by omega)) := List.getElem?_eq_getElem (by omega)
  rw [List.getD_eq_getElem?_getD, h1]
  have h2 : zero.toList[i % zero.size]? = some (zero[i % zero.size]) := by simp [hlt]
  have := h.2 _ _ _ h1 h2
  simpa [getElem!_pos, hlt] using this
/-- a new variable: its type is kept in mind, or not -/
def mkObj (e : TypeId) (zs : List AV) : AObj := match tcIn tcTab e with | true => .tc e zs true | false => .cells zs false
def evAlloc (P : Program) (ρ : Operand → AV) (op : Op) : Option (Option AObj × (Nat → AV)) :=
 match op with
 | .alloc e => (evZero P e).map fun zs => (some (mkObj e zs), fun i => .ptr (some (i, 0)))
 | .box e x => (acells (ρ x)).map fun cs => (some (mkObj e cs), fun i => .ptr (some (i, 0)))
 | .buildSlice t len parts =>
  match P.underlying t with
  | some (.slice e) => (P.info? e).bind fun inf =>
   if len * inf.size > 2 ^ 24 then none else
   (evZero P e).bind fun zs =>
   (evFill (fun j => some (j * inf.size, inf.size)) (evTile (len * inf.size) zs) (parts.toList.map fun p => (p.1, ρ p.2))).map fun cs =>
    (some (.cells cs false), fun i => .slice (some (i, 0)) len (.known len))
  | _ => none
 | .makeMap t none => some (some (.map [] 0), fun i => .map (some i))
 | .makeMap t (some x) => (match P.underlying t, ρ x with | some (.map _ _), .int _ _ => some (none, fun i => .map (some i)) | _, _ => none)
 | .makeSlice t l c =>
  match P.underlying t, ρ l, ρ c with
  | some (.slice e), .int _ l, .int _ c => (P.info? e).bind fun inf => (evZero P e).bind fun zs =>
   if 0 ≤ IntKind.i64.wrap l ∧ IntKind.i64.wrap l ≤ IntKind.i64.wrap c ∧ ¬ (inf.bytes * IntKind.i64.wrap c > 2 ^ 48) then
    some (some (.cells (evTile ((IntKind.i64.wrap c).toNat * inf.size) zs) false), fun i => .slice (some (i, 0)) (IntKind.i64.wrap l).toNat (.known (IntKind.i64.wrap c).toNat))
   else none
  | _, _, _ => none
 | .convert s d x =>
  match P.underlying s, P.underlying d, ρ x with
  | some _, some (.slice e), .str b => match P.underlying e with
   | some (.int .u8) => some (some (.cells (b.data.toList.map fun c => .int .u8 c.toNat) false), fun i => .slice (some (i, 0)) b.size (.rest 1))
   | _ => none
  | _, _, _ => none
 | .range t x =>
  match P.underlying t, ρ x with
  | some .string, .str b => some (some (.siter b 0), fun i => .ptr (some (i, 0)))
  | _, _ => none
 | _ => none
theorem OR_mkObj {r : Ren} {w : World} {cs : List AV} {C : Array Value} {e : TypeId} (h : VRL r cs C.toList) : ∀ r' : Ren, r.le r' → OR r' (w.alloc (.cells C e)) ⟨w.heap.size, 0, C.size⟩ (mkObj e cs) := by
 unfold mkObj
 split
 ·exact OR_tc h
 ·exact OR_alloc h
theorem heap_freeze_size (w : World) (a : Addr) (n : Nat) : (w.freeze a n).heap.size = w.heap.size := by
 unfold World.freeze; split
 ·rfl
 ·simp
theorem evAlloc_sim {P : Program} {r : Ren} {ρ : Operand → AV} {ρ' : Operand → Value} (hρ : ∀ x, VR r (ρ x) (ρ' x)) (o : Oper) {ob : Option AObj} {mk : Nat → AV} (h : evAlloc P ρ o.op = some (ob, mk)) :
  ∃ s, execOp ρ' o = (do pure (.value (← s))) ∧ Made P r ob mk s := by
 unfold evAlloc at h
 cases hop : o.op <;> simp only [hop] at h <;> try (cases h; done)
 case alloc e =>
  obtain ⟨zs, hz, h⟩ := Option.map_eq_some_iff.1 h
  cases h
  obtain ⟨i, z, hi, hzz, hrun, hvz⟩ := evZero_sim hz
  refine ⟨Instr.alloc e true (.tuple #[]), by simp only [execOp, hop], trivial, fun w => ⟨z.cells.size, .pointer (some ⟨w.heap.size, 0, none⟩), w.alloc (.cells z.cells e), by simp only [Instr.alloc, Sem.run_bind, hrun, Result.andThen_ok, newVar, newRow, run_newObj, Sem.run_pure, World.alloc_eq], World.size_alloc .., ⟨rfl, rfl, rfl, fun _ => Nat.le_refl _⟩, fun b hb => alloc_old hb, (fun x e' => by cases e'; exact OR_mkObj (hvz r)), fun r' i _ hi => ?_⟩⟩
  exact .ptr (t := ⟨w.heap.size, 0, z.cells.size⟩) hi
 case box e x =>
  obtain ⟨cs, hc, h⟩ := Option.map_eq_some_iff.1 h
  cases h
  have hv := acells_sim hc (hρ x)
  refine ⟨Instr.box e (ρ' x), by simp only [execOp, hop], trivial, fun w => ⟨(ρ' x).cells.size, .pointer (some ⟨w.heap.size, 0, none⟩), w.alloc (.cells (ρ' x).cells e), by simp only [Instr.box, Sem.run_bind, Result.andThen_ok, newVar, newRow, run_newObj, Sem.run_pure, World.alloc_eq], World.size_alloc .., ⟨rfl, rfl, rfl, fun _ => Nat.le_refl _⟩, fun b hb => alloc_old hb, (fun x e' => by cases e'; exact OR_mkObj hv), fun r' i _ hi => ?_⟩⟩
  exact .ptr (t := ⟨w.heap.size, 0, _⟩) hi
 case buildSlice t len parts =>
  split at h
  ·rename_i e hu
   obtain ⟨inf, hinf, h⟩ := Option.bind_eq_some_iff.1 h
   split at h
   ·cases h
   ·rename_i hsmall
    obtain ⟨zs, hz, h⟩ := Option.bind_eq_some_iff.1 h
    obtain ⟨cs, hc, h⟩ := Option.map_eq_some_iff.1 h
    cases h
    obtain ⟨i, z, hi, hzz, hrun, hvz⟩ := evZero_sim hz
    have hsz : P.cellsOf e = inf.size := by simp [Program.cellsOf, hinf]
    have hzrun : ∀ w, ((if len * inf.size = 0 then pure #[] else do pure (← zeroValue e).cells) : Sem (Array Value)).run P w = .ok (if len * inf.size = 0 then #[] else z.cells) w := by
     intro w; split <;> simp [hrun]
    have htile : VRL r (evTile (len * inf.size) zs) ((Array.range (len * inf.size)).map ((if len * inf.size = 0 then #[] else z.cells)[· % (if len * inf.size = 0 then #[] else z.cells).size]!)).toList := by
     split
     ·rename_i h0; rw [h0]; simp [evTile]; exact VRL.nil
     ·exact evTile_sim (hvz r) _
    obtain ⟨B, hB, hout⟩ := evFill_sim (parts' := (parts.map fun p => (p.1, ρ' p.2)).toList) hc htile (by simp) (fun i x y hx hy => by
     rw [List.getElem?_map] at hx
     rw [Array.toList_map, List.getElem?_map] at hy
     cases hq : parts.toList[i]? with
     | none => simp [hq] at hx
     | some p => rw [hq] at hx hy; simp at hx hy; subst hx; subst hy; exact ⟨rfl, hρ _⟩)
    refine ⟨Instr.buildSlice t len (parts.map fun (i, x) => (i, ρ' x)), by simp only [execOp, hop], trivial, fun w => ⟨B.size, .slice (some ⟨w.heap.size, 0, none⟩) len len, w.alloc (.cells B e), ?_, World.size_alloc .., ⟨rfl, rfl, rfl, fun _ => Nat.le_refl _⟩, fun b hb => alloc_old hb, (fun x e => by cases e; exact OR_alloc hout), fun r' i _ hi => ?_⟩⟩
    ·have hs2 : ¬ (16777216 < len * inf.size) := by simpa using hsmall
     by_cases hn : len * inf.size = 0
     ·rw [hn] at hB
      simp only [if_true] at hB
      simp [Instr.buildSlice, run_underlying hu, run_sizeOf w hinf, hsz, hn]
      simp at hB
      simp [hB, newRow]
     ·simp only [hn, if_false] at hB
      simp [Instr.buildSlice, run_underlying hu, run_sizeOf w hinf, hsz, hn, hs2, hrun]
      simp at hB
      simp [hB, newRow]
    ·exact .slice (t := ⟨w.heap.size, 0, _⟩) len len hi
  ·cases h
 case makeMap t res =>
  cases res with
  | none =>
   simp only at h
   cases h
   refine ⟨Instr.makeMap t none, by simp only [execOp, hop, Option.map_none], trivial, fun w => ⟨0, _, _, by simp only [Instr.makeMap, Sem.run_bind, Sem.run_pure, run_newObj, Result.andThen_ok, World.alloc_eq]; rfl, World.size_alloc .., ⟨rfl, rfl, rfl, fun _ => Nat.le_refl _⟩, fun b hb => alloc_old hb, (fun x e => by cases e; exact fun r' _ => ⟨#[], alloc_new w _, ⟨[], .nil, rfl, fun i x e hx => by simp at hx⟩, .nil⟩), fun r' i _ hi => ?_⟩⟩
   exact .map (t := ⟨w.heap.size, 0, 0⟩) hi
  | some x =>
   simp only at h
   split at h
   ·rename_i kt e k n hu hx
    cases h
    have hx' := hρ x
    rw [hx] at hx'
    obtain ⟨hx'⟩ : ∃ _ : True, ρ' x = .int k n := ⟨trivial, by cases hq : ρ' x <;> rw [hq] at hx' <;> cases hx'; rfl⟩
    rename_i hx''
    refine ⟨Instr.makeMap t (some (ρ' x)), by simp only [execOp, hop, Option.map_some], trivial, fun w => ⟨0, _, _, by simp only [Instr.makeMap, hx'', asInt, asIntOf, run_underlying hu, Sem.run_bind, Sem.run_pure, run_newObj, Result.andThen_ok, World.alloc_eq]; rfl, World.size_alloc .., ⟨rfl, rfl, rfl, fun _ => Nat.le_refl _⟩, fun b hb => alloc_old hb, (fun x e => by cases e), fun r' i _ hi => ?_⟩⟩
    exact .map (t := ⟨w.heap.size, 0, 0⟩) hi
   ·cases h
 case makeSlice t l c =>
  split at h
  ·rename_i e kl ln kc cn hu hl hc
   obtain ⟨inf, hinf, h⟩ := Option.bind_eq_some_iff.1 h
   obtain ⟨zs, hz, h⟩ := Option.bind_eq_some_iff.1 h
   split at h
   ·rename_i hb
    obtain ⟨h0, h1, h2⟩ := hb
    cases h
    obtain ⟨i, z, hi, hzz, hrun, hvz⟩ := evZero_sim hz
    have hsz : P.cellsOf e = inf.size := by simp [Program.cellsOf, hinf]
    have hl' := hρ l
    have hc' := hρ c
    rw [hl] at hl'
    rw [hc] at hc'
    obtain ⟨hl'⟩ : ∃ _ : True, ρ' l = .int kl ln := ⟨trivial, by cases hq : ρ' l <;> rw [hq] at hl' <;> cases hl'; rfl⟩
    obtain ⟨hc'⟩ : ∃ _ : True, ρ' c = .int kc cn := ⟨trivial, by cases hq : ρ' c <;> rw [hq] at hc' <;> cases hc'; rfl⟩
    rename_i hl'' hc''
    have htile : VRL r (evTile ((IntKind.i64.wrap cn).toNat * inf.size) zs) ((Array.range ((IntKind.i64.wrap cn).toNat * inf.size)).map ((if (IntKind.i64.wrap cn).toNat * inf.size = 0 then #[] else z.cells)[· % (if (IntKind.i64.wrap cn).toNat * inf.size = 0 then #[] else z.cells).size]!)).toList := by
     split
     ·rename_i h0; rw [h0]; simp [evTile]; exact VRL.nil
     ·exact evTile_sim (hvz r) _
    refine ⟨Instr.makeSlice t (ρ' l) (ρ' c), by simp only [execOp, hop], trivial, fun w => ⟨_, .slice (some ⟨w.heap.size, 0, none⟩) (IntKind.i64.wrap ln).toNat (IntKind.i64.wrap cn).toNat, w.alloc (.cells _ e), ?_, World.size_alloc .., ⟨rfl, rfl, rfl, fun _ => Nat.le_refl _⟩, fun b hb => alloc_old hb, (fun x e => by cases e; exact OR_alloc htile), fun r' i _ hi => ?_⟩⟩
    ·have hzrun : ∀ w, ((if (IntKind.i64.wrap cn).toNat * inf.size = 0 then pure #[] else do pure (← zeroValue e).cells) : Sem (Array Value)).run P w = .ok (if (IntKind.i64.wrap cn).toNat * inf.size = 0 then #[] else z.cells) w := by
      intro w; split <;> simp [hrun]
     have hcond : ((decide (IntKind.i64.wrap cn < 0) || decide (inf.bytes * IntKind.i64.wrap cn > 2 ^ 48)) || decide (IntKind.i64.wrap ln < 0) || decide (IntKind.i64.wrap ln > IntKind.i64.wrap cn)) = false := by
      simp only [Bool.or_eq_false_iff, decide_eq_false_iff_not]
      refine ⟨⟨⟨by omega, h2⟩, by omega⟩, by omega⟩
     by_cases hn : (IntKind.i64.wrap cn).toNat * inf.size = 0
     all_goals
      simp only [Instr.makeSlice, Sem.run_bind, run_underlying hu, Result.andThen_ok, hl'', hc'', asInt, asIntOf, Sem.run_pure, typeInfo, run_program, hinf, hcond, Bool.false_eq_true, if_false, run_askRoom, run_sizeOf w hinf, hsz, hn, if_true, hrun]
      simp [newRow]
    ·exact .slice (t := ⟨w.heap.size, 0, _⟩) _ _ hi
   ·cases h
  ·cases h
 case convert s d x =>
  split at h
  ·rename_i ds e b hs hd hx
   split at h
   ·rename_i he
    cases h
    have hx' := hρ x
    rw [hx] at hx'
    have hx'' : ρ' x = .string b := by cases hq : ρ' x <;> rw [hq] at hx' <;> cases hx'; rfl
    refine ⟨convert s d (ρ' x), by simp only [execOp, hop], trivial, fun w => ?_⟩
    have hcap := grownCap_ge w b.size 0 e
    generalize hcp : grownCap w b.size 0 e = cap at hcap
    have hcp' : (Question.appendCap b.size 0 e).cut (w.tape w.drawn (.appendCap b.size 0 e)) = cap := hcp
    let C : Array Value := b.data.map (fun c => Value.int .u8 c.toNat) ++ Array.replicate (cap - b.size) (.int .u8 0)
    have hCs : C.size = cap := by
     have : b.data.size = b.size := rfl
     simp [C, this]; omega
    refine ⟨cap, .slice (some ⟨w.heap.size, 0, none⟩) b.size cap, (w.drew.alloc (.cells C e)).freeze { block := w.heap.size, off := cap } 1, ?_, ?_, ?_, ?_, ?_, ?_⟩
    ·have hsh : (w.drew.alloc (.cells C e)).shape? w.heap.size = some (e, cap) := by
      have := alloc_new w.drew (.cells C e)
      simp only [World.size_drew] at this
      unfold World.shape?
      rw [this]
      simp [hCs]
     simp only [convert, Sem.run_bind, run_underlying hs, run_underlying hd, run_underlying he, Result.andThen_ok, hx'', Conv.stringToBytes, run_choose, Question.forced, Bool.false_eq_true, if_false, hcp', World.drew_eq, newRow, run_newObj, World.alloc_eq, Sem.run_pure, World.size_drew, markStringish, run_shape]
     simp only [C] at hsh
     simp only [hsh, Sem.run_bind, run_freeze, Result.andThen_ok, Sem.run_pure]
     rfl
    ·rw [heap_freeze_size, World.size_alloc]; rfl
    ·unfold World.freeze; rw [if_neg (by omega)]; exact ⟨rfl, rfl, rfl, fun _ => Nat.le_succ _⟩
    ·intro b' hb'
     have h1 : (w.drew.alloc (.cells C e)).heap[b']? = w.heap[b']? := alloc_old (w := w.drew) hb'
     rw [← h1]
     unfold World.freeze
     rw [if_neg (by omega)]
     rw [Array.getElem?_modify, if_neg (by simp; omega)]
    ·intro x0 hx0 r' hr
     cases hx0
     refine ⟨C, e, (cap, cap + 1), ?_, by simp [hCs], ?_, fun i a v ha hv => ?_, fun _ off ho => by simp only; omega⟩
     ·have h1 := alloc_new w.drew (.cells C e)
      simp only [World.size_drew] at h1
      unfold World.freeze
      rw [if_neg (by omega)]
      simp only []
      rw [Array.getElem?_modify, if_pos rfl, h1]
      simp
     ·have : b.data.toList.length = b.size := rfl
      simp [this]; omega
     ·simp only [Nat.zero_add] at hv
      rw [List.getElem?_map] at ha
      cases hq : b.data.toList[i]? with
      | none => simp [hq] at ha
      | some c =>
       rw [hq] at ha
       simp at ha
       have hlt : i < b.data.size := by simpa using (List.getElem?_eq_some_iff.1 hq).1
       have : C[i]? = some (.int .u8 c.toNat) := by
        simp only [C]
        rw [Array.getElem?_append_left (by simpa using hlt), Array.getElem?_map, ← Array.getElem?_toList, hq]
        rfl
       rw [this] at hv
       cases hv
       subst ha
       exact .int _ _
    ·intro r' i _ hi
     exact .sliceRest (t := ⟨w.heap.size, 0, cap⟩) _ 1 cap hi (by simp) hcap
   ·cases h
  ·cases h
 case range t x =>
  split at h
  ·rename_i b hu hx
   cases h
   have hx' := hρ x
   rw [hx] at hx'
   have hx'' : ρ' x = .string b := by cases hq : ρ' x <;> rw [hq] at hx' <;> cases hx'; rfl
   refine ⟨Instr.range t (ρ' x), by simp only [execOp, hop], trivial, fun w => ⟨0, _, _, by simp only [Instr.range, Sem.run_bind, run_underlying hu, Result.andThen_ok, hx'', Sem.run_pure, run_newObj, World.alloc_eq]; rfl, World.size_alloc .., ⟨rfl, rfl, rfl, fun _ => Nat.le_refl _⟩, fun b hb => alloc_old hb, (fun x e => by cases e; exact fun r' _ => ⟨alloc_new w _, rfl⟩), fun r' i _ hi => ?_⟩⟩
   exact .ptr (t := ⟨w.heap.size, 0, 0⟩) hi
  ·cases h
end Go.Ev

/- The abstract machine Ev, part F, beside it: maps whose keys are numbers, truth values or texts. -/
namespace Go.Ev
/-- a key's value, as the model has it -/
def keyKind : TypeDesc → AV → Bool
 | .int _, .int _ _ => true
 | .string, .str _ => true
 | .bool, .bool _ => true
 | _, _ => false
theorem sameNow_sim {r : Ren} {kd : TypeDesc} {a b : AV} {v u : Value} {x : Bool} (hk : keyKind kd a = true) (h : keyCmp a b = some x) (ha : VR r a v) (hb : VR r b u) : Instr.sameNow kd v u = some x := by
 cases ha <;> simp [keyCmp] at h <;> cases hb <;> simp_all [keyKind, Instr.sameNow, keyCmp]
 all_goals (cases kd <;> simp_all [Instr.sameNow])
theorem keyCmp_key {r : Ren} {a b : AV} {v u : Value} {x : Bool} (h : keyCmp a b = some x) (ha : VR r a v) (hb : VR r b u) : x = true ↔ v = u := by
 unfold keyCmp at h
 split at h
 ·split at h
  ·rename_i e; subst e; cases h; cases ha; cases hb; simp
  ·cases h
 ·cases h; cases ha; cases hb; rw [MapKept.bytes_beq]; simp
 ·cases h; cases ha; cases hb; simp
 ·cases h
/-- what findNow tells -/
theorem findNow_spec {kd : TypeDesc} {k : Value} : ∀ (E : List MapEntry) (i : Nat), (∀ e ∈ E, ∃ b, Instr.sameNow kd k e.key = some b) →
  (Instr.findNow kd k E i = some none ∧ ∀ e ∈ E, Instr.sameNow kd k e.key = some false) ∨
  ∃ j e, E[j]? = some e ∧ Instr.sameNow kd k e.key = some true ∧ Instr.findNow kd k E i = some (some (i + j, e.val))
 | [], i, _ => .inl ⟨rfl, by simp⟩
 | e :: E, i, h => by
  obtain ⟨b, hb⟩ := h e (by simp)
  cases b with
  | true => exact .inr ⟨0, e, rfl, hb, by simp [Instr.findNow, hb]⟩
  | false =>
   rcases findNow_spec E (i + 1) (fun x hx => h x (by simp [hx])) with ⟨h1, h2⟩ | ⟨j, x, h1, h2, h3⟩
   ·exact .inl ⟨by simp only [Instr.findNow, hb]; exact h1, fun x hx => by rcases List.mem_cons.1 hx with rfl | hx; exact hb; exact h2 x hx⟩
   ·exact .inr ⟨j + 1, x, by simpa using h1, h2, by simp only [Instr.findNow, hb]; rw [h3]; congr 3; omega⟩
/-- found, or not: every entry is comparable -/
def evFind (k : AV) (es : List (AV × AV × Nat)) : Option (Option (AV × AV × Nat)) := if es.all (fun e => (keyCmp k e.1).isSome) = true then some (es.find? fun e => keyCmp k e.1 == some true) else none
theorem evFind_all {k : AV} {es : List (AV × AV × Nat)} {x : Option (AV × AV × Nat)} (h : evFind k es = some x) : (∀ e ∈ es, ∃ b, keyCmp k e.1 = some b) ∧ x = es.find? fun e => keyCmp k e.1 == some true := by
 unfold evFind at h
 split at h
 ·rename_i ha
  cases h
  exact ⟨fun e he => Option.isSome_iff_exists.1 (List.all_eq_true.1 ha e he), rfl⟩
 ·cases h
theorem mem_pair {r : Ren} {es : List (AV × AV × Nat)} {E' : List MapEntry} (hl : es.length = E'.length) (h : ∀ (i : Nat) (x : AV × AV × Nat) (e : MapEntry), es[i]? = some x → E'[i]? = some e → VR r x.1 e.key ∧ VR r x.2.1 e.val ∧ x.2.2 = e.born) {e : MapEntry} (he : e ∈ E') :
  ∃ (i : Nat) (x : AV × AV × Nat), es[i]? = some x ∧ E'[i]? = some e ∧ VR r x.1 e.key ∧ VR r x.2.1 e.val ∧ x.2.2 = e.born := by
 obtain ⟨i, hi⟩ := List.getElem?_of_mem he
 have hlt : i < es.length := by rw [hl]; exact (List.getElem?_eq_some_iff.1 hi).1
 have hx : es[i]? = some es[i] := List.getElem?_eq_getElem hlt
 exact ⟨i, _, hx, hi, h i _ e hx hi⟩
/-- two entries whose keys are the same are the same entry -/
theorem key_unique {r : Ren} {es : List (AV × AV × Nat)} {E' : List MapEntry} (hl : es.length = E'.length) (h : ∀ (i : Nat) (x : AV × AV × Nat) (e : MapEntry), es[i]? = some x → E'[i]? = some e → VR r x.1 e.key ∧ VR r x.2.1 e.val ∧ x.2.2 = e.born)
  (ha : es.Pairwise fun a b => keyCmp a.1 b.1 = some false) {i j : Nat} {e f : MapEntry} (hi : E'[i]? = some e) (hj : E'[j]? = some f) (hk : e.key = f.key) : i = j := by
 have key : ∀ {i j : Nat} {e f : MapEntry}, E'[i]? = some e → E'[j]? = some f → e.key = f.key → ¬ i < j := by
  intro i j e f hi hj hk hlt
  have h1 : i < es.length := by rw [hl]; exact (List.getElem?_eq_some_iff.1 hi).1
  have h2 : j < es.length := by rw [hl]; exact (List.getElem?_eq_some_iff.1 hj).1
  have hp := (List.pairwise_iff_getElem.1 ha) i j h1 h2 hlt
  have hx := h i _ e (List.getElem?_eq_getElem h1) hi
  have hy := h j _ f (List.getElem?_eq_getElem h2) hj
  have := (keyCmp_key hp hx.1 hy.1).2 hk
  cases this
 rcases Nat.lt_trichotomy i j with h | h | h
 ·exact absurd h (key hi hj hk)
 ·exact h
 ·exact absurd h (key hj hi hk.symm)
/-- the entry that is found stands for the one that the model finds -/
theorem find_sim {r : Ren} {kd : TypeDesc} {k : AV} {k' : Value} (hkk : keyKind kd k = true) (hk : VR r k k') {es : List (AV × AV × Nat)} {E : List MapEntry} (hE : EntriesR r es E) (hp : es.Pairwise fun a b => keyCmp a.1 b.1 = some false) {x : Option (AV × AV × Nat)} (hx : evFind k es = some x) :
  (x = none ∧ (∀ e ∈ es, keyCmp k e.1 = some false) ∧ Instr.findNow kd k' E 0 = some none ∧ ∀ e ∈ E, e.key ≠ k') ∨
  ∃ (y : AV × AV × Nat) (j : Nat) (e : MapEntry), x = some y ∧ E[j]? = some e ∧ e.key = k' ∧ VR r y.1 e.key ∧ VR r y.2.1 e.val ∧ y.2.2 = e.born ∧ Instr.findNow kd k' E 0 = some (some (j, e.val)) ∧ y ∈ es ∧ keyCmp k y.1 = some true := by
 obtain ⟨hall, hfind⟩ := evFind_all hx
 obtain ⟨E', hperm, hl, hpt⟩ := hE
 have hcmp : ∀ e ∈ E, ∃ b, Instr.sameNow kd k' e.key = some b ∧ (b = true ↔ k' = e.key) ∧ ∃ y ∈ es, VR r y.1 e.key ∧ VR r y.2.1 e.val ∧ y.2.2 = e.born ∧ keyCmp k y.1 = some b := by
  intro e he
  obtain ⟨i, y, h1, h2, h3, h4, h5⟩ := mem_pair hl hpt (hperm.mem_iff.2 he)
  obtain ⟨b, hb⟩ := hall y (List.mem_of_getElem? h1)
  exact ⟨b, sameNow_sim hkk hb hk h3, keyCmp_key hb hk h3, y, List.mem_of_getElem? h1, h3, h4, h5, hb⟩
 rcases findNow_spec (kd := kd) (k := k') E 0 (fun e he => (hcmp e he).elim fun b h => ⟨b, h.1⟩) with ⟨h1, h2⟩ | ⟨j, e, h1, h2, h3⟩
 ·left
  have hne : ∀ e ∈ E, e.key ≠ k' := by
   intro e he hk2
   obtain ⟨b, hb1, hb2, _⟩ := hcmp e he
   rw [h2 e he] at hb1
   cases hb1
   have := hb2.2 hk2.symm
   cases this
  have hno : ∀ y ∈ es, keyCmp k y.1 = some false := by
   intro y hy
   obtain ⟨b, hb⟩ := hall y hy
   cases b with
   | false => exact hb
   | true =>
    exfalso
    obtain ⟨i, hi⟩ := List.getElem?_of_mem hy
    have hlt : i < E'.length := by rw [← hl]; exact (List.getElem?_eq_some_iff.1 hi).1
    have he : E'[i]? = some E'[i] := List.getElem?_eq_getElem hlt
    have hv := hpt i y _ hi he
    have := (keyCmp_key hb hk hv.1).1 rfl
    exact hne _ (hperm.mem_iff.1 (List.mem_of_getElem? he)) this.symm
  refine ⟨?_, hno, h1, hne⟩
  rw [hfind, List.find?_eq_none]
  intro y hy
  rw [hno y hy]; simp
 ·right
  obtain ⟨b, hb1, hb2, y, hy, hv1, hv2, hv3, hc⟩ := hcmp e (List.mem_of_getElem? h1)
  rw [h2] at hb1
  cases hb1
  have hke := hb2.1 rfl
  cases hf : es.find? fun e => keyCmp k e.1 == some true with
  | none =>
   exfalso
   have := List.find?_eq_none.1 hf y hy
   rw [hc] at this
   simp at this
  | some z =>
   have hz1 := List.find?_some hf
   have hz2 := List.mem_of_find?_eq_some hf
   have hzc : keyCmp k z.1 = some true := by simpa using hz1
   obtain ⟨i, hi⟩ := List.getElem?_of_mem hz2
   have hlt : i < E'.length := by rw [← hl]; exact (List.getElem?_eq_some_iff.1 hi).1
   have he' : E'[i]? = some E'[i] := List.getElem?_eq_getElem hlt
   have hv := hpt i z _ hi he'
   have hkz := (keyCmp_key hzc hk hv.1).1 rfl
   obtain ⟨i2, hi2⟩ := List.getElem?_of_mem (hperm.mem_iff.2 (List.mem_of_getElem? h1))
   have hii := key_unique hl hpt hp he' hi2 (hkz.symm.trans hke)
   subst hii
   rw [he'] at hi2
   cases hi2
   exact ⟨z, j, E'[i], by rw [hfind, hf], h1, hke.symm, hv.1, hv.2.1, hv.2.2, by rw [h3]; simp, hz2, hzc⟩
/-- a map's key of such a kind is no harm -/
theorem run_checkKey {P : Program} {kt : TypeId} {kd : TypeDesc} (hu : P.underlying kt = some kd) {k : AV} (hkk : keyKind kd k = true) {r : Ren} {k' : Value} (hk : VR r k k') (b : Bool) (w : World) : (Instr.checkKey b 10000 kt k').run P w = .ok () w := by
 unfold Instr.checkKey
 simp only [Sem.run_bind, run_underlying hu, Result.andThen_ok]
 cases hk <;> cases kd <;> simp [keyKind] at hkk <;> rfl
theorem run_findKey {P : Program} {kt : TypeId} {kd : TypeDesc} (hu : P.underlying kt = some kd) {k' : Value} {E : List MapEntry} {x : Option (Nat × Value)} (h : Instr.findNow kd k' E 0 = some x) (w : World) : (Instr.findKey kt k' E).run P w = .ok x w := by
 unfold Instr.findKey
 simp only [Sem.run_bind, run_underlying hu, Result.andThen_ok, h, Sem.run_pure]
def evLookEs (z k : AV) (es : List (AV × AV × Nat)) : Option (AV × Bool) := match evFind k es with | some (some e) => some (e.2.1, true) | some none => some (z, false) | none => none
def evLook (z : AV) (m : Option Nat) (k : AV) (h : H) : Option (AV × Bool) :=
 match m with
 | none => some (z, false)
 | some i =>
  match h.get i with
  | some (.map es _) => evLookEs z k es
  | some (.rmap es _) => evLookEs z k es
  | _ => none
def zeroV (P : Program) (e : TypeId) : Option AV := ((P.info? e).bind (·.zero)).map ofValue
theorem run_getObj {P : Program} {w : World} {b : Nat} {E : Array MapEntry} {clk : Nat} (h : w.heap[b]? = some (.map E clk)) : (getObj b).run P w = .ok (.map E clk) w := by simp [getObj, Sem.run, h]
theorem zeroV_sim {P : Program} {e : TypeId} {z : AV} (h : zeroV P e = some z) : ∃ v, (∀ r, VR r z v) ∧ ∀ w, (zeroValue e).run P w = .ok v w := by
 unfold zeroV at h
 obtain ⟨v, hv, rfl⟩ := Option.map_eq_some_iff.1 h
 obtain ⟨i, hi, hz⟩ := Option.bind_eq_some_iff.1 hv
 exact ⟨v, fun r => VR_ofValue r v, fun w => by simp [zeroValue, typeInfo, hi, hz]⟩
def okV (ok : Bool) (v : AV) (b : Bool) : AV := match ok with | true => .tup [v, .bool b] | false => v
def evLookup (P : Program) (t : TypeId) (m k : AV) (ok : Bool) (h : H) : Option AV :=
  match P.underlying t, m with
  | some (.map kt e), .map m =>
    (match P.underlying kt with
     | some kd => if keyKind kd k = true then (zeroV P e).bind fun z => (evLook z m k h).map fun q => okV ok q.1 q.2 else none
     | none => none)
  | _, _ => none
theorem VR_pair {r : Ren} {a b : AV} {v u : Value} (ha : VR r a v) (hb : VR r b u) : VR r (.tup [a, b]) (.tuple #[v, u]) :=
 .tup _ _ rfl fun i x y hx hy => by
  match i with
  | 0 => simp at hx hy; subst hx; subst hy; exact ha
  | 1 => simp at hx hy; subst hx; subst hy; exact hb
  | n + 2 => simp at hx
theorem evLookup_sim {P : Program} {r : Ren} {h : H} {w : World} (hrel : Rel r h w) {t : TypeId} {m k v : AV} {m' k' : Value} {ok : Bool} (hs : evLookup P t m k ok h = some v) (hm : VR r m m') (hk : VR r k k') :
  ∃ v', VR r v v' ∧ (Instr.lookup t m' k' ok).run P w = .ok v' w := by
 unfold evLookup at hs
 split at hs
 ·rename_i kt e mm hu
  split at hs
  ·rename_i kd hkd
   split at hs
   ·rename_i hkk
    obtain ⟨z, hz, hs⟩ := Option.bind_eq_some_iff.1 hs
    obtain ⟨q, hq, rfl⟩ := Option.map_eq_some_iff.1 hs
    obtain ⟨z', hz1, hz2⟩ := zeroV_sim hz
    have fin : ∀ (x : Value) (b : Bool), VR r q.1 x → q.2 = b → VR r (okV ok q.1 q.2) (if ok then .tuple #[x, .bool b] else x) := by
     intro x b hx hb
     cases ok with
     | true => subst hb; exact VR_pair hx (.bool _)
     | false => exact hx
    cases hm with
    | nilMap =>
     simp only [evLook] at hq
     cases hq
     refine ⟨_, fin z' false (hz1 r) rfl, ?_⟩
     have hn : Instr.findNow kd k' [] 0 = some none := rfl
     simp only [Instr.lookup, Sem.run_bind, run_underlying hu, Result.andThen_ok, Sem.run_pure, run_checkKey hkd hkk hk, run_findKey hkd hn, hz2]
    | @map i0 t0 ht =>
     simp only [evLook] at hq
     have main : ∀ (es : List (AV × AV × Nat)) (E : Array MapEntry) (clk : Nat), w.heap[t0.blk]? = some (.map E clk) → EntriesR r es E.toList → (es.Pairwise fun a b => keyCmp a.1 b.1 = some false) → evLookEs z k es = some q → ∃ v', VR r (okV ok q.1 q.2) v' ∧ (Instr.lookup t (Value.map (some t0.blk)) k' ok).run P w = .ok v' w := by
      intro es E clk hb hE hp hq
      unfold evLookEs at hq
      split at hq
      ·rename_i y hy
       cases hq
       rcases find_sim hkk hk hE hp hy with ⟨hn, _⟩ | ⟨y', j, en, hxy, hj, hke, hv1, hv2, hv3, hfn, _⟩
       ·cases hn
       ·cases hxy
        refine ⟨_, fin en.val true hv2 rfl, ?_⟩
        simp only [Instr.lookup, Sem.run_bind, run_underlying hu, Result.andThen_ok, Sem.run_pure, run_getObj hb, run_checkKey hkd hkk hk, run_findKey hkd hfn]
      ·rename_i hy
       cases hq
       rcases find_sim hkk hk hE hp hy with ⟨_, _, hfn, _⟩ | ⟨y', j, en, hxy, _⟩
       ·refine ⟨_, fin z' false (hz1 r) rfl, ?_⟩
        simp only [Instr.lookup, Sem.run_bind, run_underlying hu, Result.andThen_ok, Sem.run_pure, run_getObj hb, run_checkKey hkd hkk hk, run_findKey hkd hfn, hz2]
       ·cases hxy
      ·cases hq
     split at hq
     ·rename_i es clk hg
      obtain ⟨E, hb, hE, hp⟩ := hrel.obj _ _ _ ht hg
      exact main es E _ hb hE hp hq
     ·rename_i es clk hg
      obtain ⟨E, hb, hE, hp⟩ := hrel.obj _ _ _ ht hg
      exact main es E _ hb hE hp hq
     ·cases hq
   ·cases hs
  ·cases hs
 ·cases hs
def evPutEs (k v : AV) (es : List (AV × AV × Nat)) (clk : Nat) : Option (List (AV × AV × Nat) × Nat) :=
 match evFind k es with
 | some (some _) => some (es.map fun e => cond (keyCmp k e.1 == some true) (k, v, e.2.2) e, clk)
 | some none => some (es ++ [(k, v, clk)], clk + 1)
 | none => none
def evMapPut (m : Option Nat) (k v : AV) (h : H) : Option H :=
 match m with
 | none => none
 | some i =>
  match h.get i with
  | some (.map es clk) => (evPutEs k v es clk).map fun x => h.set i (.map x.1 x.2)
  | _ => none
def evDelEs (k : AV) (es : List (AV × AV × Nat)) : Option (List (AV × AV × Nat)) :=
 match evFind k es with
 | some _ => some (es.filter fun e => !(keyCmp k e.1 == some true))
 | none => none
theorem sameBits_key {r : Ren} {kd : TypeDesc} {k : AV} {k' : Value} (hkk : keyKind kd k = true) (hk : VR r k k') : Instr.sameBits 10000 k' k' = true := by
 cases hk <;> cases kd <;> simp [keyKind] at hkk <;> simp [Instr.sameBits]
 exact (MapKept.bytes_beq _ _).2 rfl
theorem perm_erase {α : Type} {x : α} : ∀ {l : List α} {i : Nat}, l[i]? = some x → (x :: l.eraseIdx i).Perm l
 | [], i, h => by simp at h
 | y :: l, 0, h => by simp at h; subst h; exact .refl _
 | y :: l, i + 1, h => by
  have ih := perm_erase (l := l) (i := i) (by simpa using h)
  simp only [List.eraseIdx_cons_succ]
  exact (List.Perm.swap y x _).trans (ih.cons y)
theorem perm_modify {α : Type} {x : α} {f : α → α} : ∀ {l : List α} {i : Nat}, l[i]? = some x → (l.modify i f).Perm (f x :: l.eraseIdx i)
 | [], i, h => by simp at h
 | y :: l, 0, h => by simp at h; subst h; simp [List.modify_cons]
 | y :: l, i + 1, h => by
  have ih := perm_modify (f := f) (l := l) (i := i) (by simpa using h)
  simp only [List.eraseIdx_cons_succ, List.modify_succ_cons]
  exact (ih.cons y).trans (List.Perm.swap _ _ _)
theorem keyCmp_true {a b : AV} (h : keyCmp a b = some true) : a = b := by
 unfold keyCmp at h
 split at h
 ·split at h
  ·rename_i e; subst e; simp at h; subst h; rfl
  ·cases h
 ·simp only [Option.some.injEq] at h; rw [(MapKept.bytes_beq _ _).1 h]
 ·simp at h; subst h; rfl
 ·cases h
theorem keyCmp_symm {a b : AV} (h : keyCmp a b = some false) : keyCmp b a = some false := by
 unfold keyCmp at h
 split at h
 ·split at h
  ·rename_i e; subst e; simp at h; simp [keyCmp]; exact fun e => h e.symm
  ·cases h
 ·simp only [Option.some.injEq] at h
  simp only [keyCmp, Option.some.injEq]
  rw [← Bool.not_eq_true] at h ⊢
  rw [MapKept.bytes_beq] at h ⊢
  exact fun e => h e.symm
 ·simp at h; simp [keyCmp]; exact fun e => h e.symm
 ·cases h
/-- only one entry has that key -/
theorem only_one {k : AV} {es : List (AV × AV × Nat)} (hp : es.Pairwise fun a b => keyCmp a.1 b.1 = some false) {i : Nat} {y : AV × AV × Nat} (hi : es[i]? = some y) (hk : keyCmp k y.1 = some true) {m : Nat} {z : AV × AV × Nat} (hm : es[m]? = some z) : keyCmp k z.1 = some true ↔ m = i := by
 obtain ⟨li, rfl⟩ := List.getElem?_eq_some_iff.1 hi
 obtain ⟨lm, rfl⟩ := List.getElem?_eq_some_iff.1 hm
 have hk1 := keyCmp_true hk
 refine ⟨fun h => ?_, fun h => by subst h; exact hk⟩
 rcases Nat.lt_trichotomy m i with h' | h' | h'
 ·have := keyCmp_symm ((List.pairwise_iff_getElem.1 hp) m i lm li h')
  rw [hk1, this] at h; cases h
 ·exact h'
 ·have := (List.pairwise_iff_getElem.1 hp) i m li lm h'
  rw [hk1, this] at h; cases h
theorem filter_erase {α : Type} {p : α → Bool} : ∀ {l : List α} {i : Nat}, (∀ m x, l[m]? = some x → (p x = false ↔ m = i)) → l.filter p = l.eraseIdx i
 | [], i, _ => by simp
 | y :: l, 0, h => by
  have h0 := (h 0 y rfl).2 rfl
  rw [List.filter_cons, h0]
  simp only [List.eraseIdx_cons_zero, Bool.false_eq_true, if_false]
  rw [List.filter_eq_self]
  intro x hx
  obtain ⟨m, hm⟩ := List.getElem?_of_mem hx
  have := h (m + 1) x (by simpa using hm)
  cases hq : p x with
  | true => rfl
  | false => have := this.1 hq; omega
 | y :: l, i + 1, h => by
  have h0 : p y = true := by
   cases hq : p y with
   | true => rfl
   | false => have := (h 0 y rfl).1 hq; omega
  rw [List.filter_cons, h0]
  simp only [if_true, List.eraseIdx_cons_succ]
  rw [filter_erase (l := l) (i := i) fun m x hm => by have := h (m + 1) x (by simpa using hm); simpa using this]
theorem map_set {α : Type} {c : α → Bool} {v : α → α} {l : List α} {i : Nat} (h : ∀ m x, l[m]? = some x → (c x = true ↔ m = i)) : (l.map fun e => cond (c e) (v e) e) = l.modify i v := by
 apply List.ext_getElem?
 intro m
 rw [List.getElem?_map, List.getElem?_modify]
 cases hm : l[m]? with
 | none =>
  simp
 | some x =>
  have hl : m < l.length := (List.getElem?_eq_some_iff.1 hm).1
  by_cases hi : i = m
  ·subst hi
   simp [(h i x hm).2 rfl]
  ·have : c x = false := by
    cases hq : c x with
    | false => rfl
    | true => exact absurd ((h m x hm).1 hq).symm hi
   simp [hi, this]
/-- where the entry that is found lies, on both sides; what is left of both stands for each other -/
theorem found_sim {r : Ren} {k : AV} {k' : Value} (hk : VR r k k') {es : List (AV × AV × Nat)} {E : List MapEntry} (hE : EntriesR r es E) (hp : es.Pairwise fun a b => keyCmp a.1 b.1 = some false) {y : AV × AV × Nat} (hy : y ∈ es) (hc : keyCmp k y.1 = some true)
  {j : Nat} {e : MapEntry} (hj : E[j]? = some e) (hek : e.key = k') : ∃ i, es[i]? = some y ∧ EntriesR r (es.eraseIdx i) (E.eraseIdx j) := by
 obtain ⟨E', hperm, hl, hpt⟩ := hE
 obtain ⟨i, hi⟩ := List.getElem?_of_mem hy
 have hlt : i < E'.length := by rw [← hl]; exact (List.getElem?_eq_some_iff.1 hi).1
 have he' : E'[i]? = some E'[i] := List.getElem?_eq_getElem hlt
 have hv := hpt i y _ hi he'
 have hk2 := (keyCmp_key hc hk hv.1).1 rfl
 obtain ⟨i2, hi2⟩ := List.getElem?_of_mem (hperm.mem_iff.2 (List.mem_of_getElem? hj))
 have hii := key_unique hl hpt hp he' hi2 (hk2.symm.trans hek.symm)
 subst hii
 refine ⟨i, hi, E'.eraseIdx i, ?_, ?_, fun m x f hx hf => ?_⟩
 ·exact ((perm_erase hi2).trans (hperm.trans (perm_erase hj).symm)).cons_inv
 ·rw [List.length_eraseIdx, List.length_eraseIdx, hl]
 ·rw [List.getElem?_eraseIdx] at hx hf
  split at hx
  ·rename_i h; rw [if_pos h] at hf; exact hpt m x f hx hf
  ·rename_i h; rw [if_neg h] at hf; exact hpt (m + 1) x f hx hf
theorem EntriesR.cons {r : Ren} {x : AV × AV × Nat} {e : MapEntry} {es : List (AV × AV × Nat)} {E : List MapEntry} (h1 : VR r x.1 e.key) (h2 : VR r x.2.1 e.val ∧ x.2.2 = e.born) (h : EntriesR r es E) : EntriesR r (x :: es) (e :: E) := by
 obtain ⟨E', hp, hl, hpt⟩ := h
 refine ⟨e :: E', hp.cons e, by simp [hl], fun i y f hy hf => ?_⟩
 cases i with
 | zero => simp at hy hf; subst hy; subst hf; exact ⟨h1, h2⟩
 | succ i => exact hpt i y f (by simpa using hy) (by simpa using hf)
/-- the entries may be told in any order, on both sides -/
theorem EntriesR.perm {r : Ren} {es es' : List (AV × AV × Nat)} {E E' : List MapEntry} (hp : es'.Perm es) (hq : E.Perm E') (h : EntriesR r es E) : EntriesR r es' E' := by
 have left : ∀ {es es' : List (AV × AV × Nat)}, es'.Perm es → ∀ E : List MapEntry, EntriesR r es E → EntriesR r es' E := by
  intro es es' hp
  induction hp with
  | nil => exact fun E h => h
  | cons x _ ih =>
   intro E h
   obtain ⟨F, h1, h2, h3⟩ := h
   cases F with
   | nil => simp at h2
   | cons f F =>
    have := h3 0 _ _ rfl rfl
    obtain ⟨G, g1, g2, g3⟩ := EntriesR.cons this.1 this.2 (ih F ⟨F, .refl _, by simpa using h2, fun i y g hy hg => h3 (i + 1) y g (by simpa using hy) (by simpa using hg)⟩)
    exact ⟨G, g1.trans h1, g2, g3⟩
  | swap x y l =>
   intro E h
   obtain ⟨F, h1, h2, h3⟩ := h
   match F, h2 with
   | f :: g :: F, h2 =>
    have a := h3 0 _ _ rfl rfl
    have b := h3 1 _ _ rfl rfl
    refine ⟨g :: f :: F, (List.Perm.swap f g F).trans h1, by simpa using h2, fun i z q hz hq => ?_⟩
    match i with
    | 0 => simp at hz hq; subst hz; subst hq; exact b
    | 1 => simp at hz hq; subst hz; subst hq; exact a
    | i + 2 => exact h3 (i + 2) z q (by simpa using hz) (by simpa using hq)
  | trans _ _ ih1 ih2 => exact fun E h => ih1 E (ih2 E h)
 obtain ⟨F, h1, h2, h3⟩ := left hp E h
 exact ⟨F, h1.trans hq, h2, h3⟩
theorem run_setObj_map {P : Program} {w : World} {b : Nat} {E E2 : Array MapEntry} {clk clk2 : Nat} (h : w.heap[b]? = some (.map E clk)) : (setObj b (.map E2 clk2)).run P w = .ok () { w with heap := w.heap.setIfInBounds b (.map E2 clk2) } := by
 simp [setObj, Sem.run, h]
/-- one of our maps has got other entries -/
theorem Post.of_map {r : Ren} {h : H} {w : World} (hrel : Rel r h w) {i : Nat} {t : Tgt} (ht : r i = some t) {es es2 : List (AV × AV × Nat)} {clk : Nat} (hg : h.get i = some (.map es clk)) {E2 : Array MapEntry} {clk2 : Nat} (hE : EntriesR r es2 E2.toList) (hp : es2.Pairwise fun a b => keyCmp a.1 b.1 = some false) :
  Post r h w r (h.set i (.map es2 clk2)) { w with heap := w.heap.setIfInBounds t.blk (.map E2 clk2) } := by
 obtain ⟨E, hb, _⟩ := hrel.obj _ _ _ ht hg
 have hlt := World.block_lt hb
 exact Post.of_set hrel ht hg rfl rfl (by simp) ⟨rfl, rfl, rfl, fun _ => Nat.le_refl _⟩ (fun b hbb => by simp [Array.getElem?_setIfInBounds_ne (Ne.symm hbb)]) ⟨E2, by simp [hlt], hE, hp⟩
theorem pairwise_put {es : List (AV × AV × Nat)} (hp : es.Pairwise fun a b => keyCmp a.1 b.1 = some false) {k v : AV} {c : AV × AV × Nat → Bool} (hc : ∀ e ∈ es, c e = true → e.1 = k) : (es.map fun e => cond (c e) (k, v, e.2.2) e).Pairwise fun a b => keyCmp a.1 b.1 = some false := by
 rw [List.pairwise_map]
 refine hp.imp_of_mem fun {a b} ha hb h => ?_
 have e1 : (cond (c a) (k, v, a.2.2) a).1 = a.1 := by
  cases hq : c a with
  | true => exact (hc a ha hq).symm
  | false => rfl
 have e2 : (cond (c b) (k, v, b.2.2) b).1 = b.1 := by
  cases hq : c b with
  | true => exact (hc b hb hq).symm
  | false => rfl
 rw [e1, e2]; exact h
theorem evMapPut_sim {P : Program} {r : Ren} {h h' : H} {w : World} (hrel : Rel r h w) {t kt e : TypeId} {kd : TypeDesc} (hu : P.underlying t = some (.map kt e)) (hkd : P.underlying kt = some kd) {m : Option Nat} {k v : AV} {m' k' v' : Value} (hkk : keyKind kd k = true)
  (hs : evMapPut m k v h = some h') (hm : VR r (.map m) m') (hk : VR r k k') (hv : VR r v v') : ∃ w', (Instr.mapUpdate t m' k' v').run P w = .ok () w' ∧ Post r h w r h' w' := by
 cases hm with
 | nilMap => simp [evMapPut] at hs
 | map ht =>
  simp only [evMapPut] at hs
  split at hs
  ·rename_i es clk hg
   obtain ⟨⟨es2, c2⟩, hes, rfl⟩ := Option.map_eq_some_iff.1 hs
   obtain ⟨E, hb, hE, hp⟩ := hrel.obj _ _ _ ht hg
   unfold evPutEs at hes
   split at hes
   ·rename_i y hy
    cases hes
    rcases find_sim hkk hk hE hp hy with ⟨hn, _⟩ | ⟨y', j, en, hxy, hj, hke, hv1, hv2, hv3, hfn, hmem, hcmp⟩
    ·cases hn
    ·cases hxy
     obtain ⟨i, hi, hrest⟩ := found_sim hk hE hp hmem hcmp hj hke
     have hj' : E[j]? = some en := by simpa using hj
     have hset : (es.map fun e => cond (keyCmp k e.1 == some true) (k, v, e.2.2) e) = es.modify i fun e => (k, v, e.2.2) := map_set (v := fun e => (k, v, e.2.2)) fun m x hx => by
      rw [beq_iff_eq]; exact only_one hp hi hcmp hx
     have hE2 : EntriesR r (es.map fun e => cond (keyCmp k e.1 == some true) (k, v, e.2.2) e) (E.modify j fun e => { e with key := k', val := v' }).toList := by
      rw [hset, Array.toList_modify]
      exact (EntriesR.cons (x := (k, v, _)) (e := { en with key := k', val := v' }) hk ⟨hv, hv3⟩ hrest).perm (perm_modify hi) (perm_modify hj).symm
     refine ⟨_, ?_, Post.of_map hrel ht hg (clk2 := clk) hE2 (pairwise_put hp fun e he hce => (keyCmp_true (by simpa using hce)).symm)⟩
     simp only [Instr.mapUpdate, Sem.run_bind, run_underlying hu, Result.andThen_ok, run_getObj hb, run_checkKey hkd hkk hk, run_findKey hkd hfn, hj', Option.map_some, Option.getD_some, hke, Instr.keyThatStays, sameBits_key hkk hk, if_true, Sem.run_pure, run_setObj_map hb]
   ·rename_i hy
    cases hes
    rcases find_sim hkk hk hE hp hy with ⟨_, hno, hfn, _⟩ | ⟨y', j, en, hxy, _⟩
    ·have hE2 : EntriesR r (es ++ [(k, v, clk)]) (E.push { key := k', val := v', born := clk }).toList := by
      rw [Array.toList_push]
      refine (EntriesR.cons (x := (k, v, clk)) (e := { key := k', val := v', born := clk }) hk ⟨hv, rfl⟩ hE).perm ?_ ?_
      ·exact (List.perm_append_comm (l₁ := es) (l₂ := [(k, v, clk)]))
      ·exact (List.perm_append_comm (l₁ := [_]) (l₂ := E.toList))
     refine ⟨_, ?_, Post.of_map hrel ht hg (clk2 := clk + 1) hE2 ?_⟩
     ·simp only [Instr.mapUpdate, Sem.run_bind, run_underlying hu, Result.andThen_ok, run_getObj hb, run_checkKey hkd hkk hk, run_findKey hkd hfn, run_setObj_map hb]
     ·rw [List.pairwise_append]
      refine ⟨hp, List.pairwise_singleton _ _, fun a ha b hb => ?_⟩
      simp at hb
      subst hb
      exact keyCmp_symm (hno a ha)
    ·cases hxy
   ·cases hes
  ·cases hs
def evMapDel (m : Option Nat) (k : AV) (h : H) : Option H :=
 match m with
 | none => some h
 | some i =>
  match h.get i with
  | some (.map es clk) => (evDelEs k es).map fun es' => h.set i (.map es' clk)
  | _ => none
theorem evMapDel_sim {P : Program} {r : Ren} {h h' : H} {w : World} (hrel : Rel r h w) {t kt e ty t2 : TypeId} {kd : TypeDesc} (hu : P.underlying t = some (.map kt e)) (hkd : P.underlying kt = some kd) {m : Option Nat} {k : AV} {m' k' : Value} (hkk : keyKind kd k = true)
  (hs : evMapDel m k h = some h') (hm : VR r (.map m) m') (hk : VR r k k') : ∃ w', (Builtin.delete_ #[t, t2] ty #[m', k']).run P w = .ok (.tuple #[]) w' ∧ Post r h w r h' w' := by
 cases hm with
 | nilMap =>
  simp only [evMapDel] at hs
  cases hs
  refine ⟨w, ?_, Post.refl hrel⟩
  simp only [Builtin.delete_, List.getElem?_toArray, List.getElem?_cons_zero, List.getElem?_cons_succ, Sem.run_bind, run_underlying hu, Result.andThen_ok, run_checkKey hkd hkk hk, Sem.run_pure]
 | map ht =>
  simp only [evMapDel] at hs
  split at hs
  ·rename_i es clk hg
   obtain ⟨es2, hes, rfl⟩ := Option.map_eq_some_iff.1 hs
   obtain ⟨E, hb, hE, hp⟩ := hrel.obj _ _ _ ht hg
   unfold evDelEs at hes
   split at hes
   ·rename_i x hy
    cases hes
    rcases find_sim hkk hk hE hp hy with ⟨hn, hno, hfn, _⟩ | ⟨y', j, en, hxy, hj, hke, hv1, hv2, hv3, hfn, hmem, hcmp⟩
    ·have hf : (es.filter fun e => !(keyCmp k e.1 == some true)) = es := by
      rw [List.filter_eq_self]
      intro a ha
      rw [hno a ha]; rfl
     rw [hf]
     refine ⟨_, ?_, Post.of_map hrel ht hg (clk2 := clk) hE hp⟩
     simp only [Builtin.delete_, List.getElem?_toArray, List.getElem?_cons_zero, List.getElem?_cons_succ, Sem.run_bind, run_underlying hu, Result.andThen_ok, run_getObj hb, run_checkKey hkd hkk hk, run_findKey hkd hfn, run_setObj_map hb, Sem.run_pure]
    ·obtain ⟨i, hi, hrest⟩ := found_sim hk hE hp hmem hcmp hj hke
     have hf : (es.filter fun e => !(keyCmp k e.1 == some true)) = es.eraseIdx i := filter_erase fun m x hx => by
      rw [Bool.not_eq_false', beq_iff_eq]; exact only_one hp hi hcmp hx
     rw [hf]
     refine ⟨_, ?_, Post.of_map hrel ht hg (clk2 := clk) (E2 := E.eraseIdxIfInBounds j) (by rw [Array.toList_eraseIdxIfInBounds]; exact hrest) (hp.sublist (List.eraseIdx_sublist _ _))⟩
     simp only [Builtin.delete_, List.getElem?_toArray, List.getElem?_cons_zero, List.getElem?_cons_succ, Sem.run_bind, run_underlying hu, Result.andThen_ok, run_getObj hb, run_checkKey hkd hkk hk, run_findKey hkd hfn, run_setObj_map hb, Sem.run_pure]
   ·cases hes
  ·cases hs
def evMapClear (m : Option Nat) (h : H) : Option H :=
 match m with
 | none => some h
 | some i => match h.get i with | some (.map _ clk) => some (h.set i (.map [] clk)) | _ => none
theorem evMapClear_sim {P : Program} {r : Ren} {h h' : H} {w : World} (hrel : Rel r h w) {t kt e ty : TypeId} (hu : P.underlying t = some (.map kt e)) {m : Option Nat} {m' : Value}
  (hs : evMapClear m h = some h') (hm : VR r (.map m) m') : ∃ w', (Builtin.clear_ #[t] ty #[m']).run P w = .ok (.tuple #[]) w' ∧ Post r h w r h' w' := by
 cases hm with
 | nilMap =>
  simp only [evMapClear] at hs
  cases hs
  refine ⟨w, ?_, Post.refl hrel⟩
  simp [Builtin.clear_, run_underlying hu]
 | map ht =>
  simp only [evMapClear] at hs
  split at hs
  ·rename_i es clk hg
   cases hs
   obtain ⟨E, hb, hE, hp⟩ := hrel.obj _ _ _ ht hg
   refine ⟨_, ?_, Post.of_map hrel ht hg (clk2 := clk) (E2 := #[]) ⟨[], .nil, rfl, fun i x e hx => by simp at hx⟩ .nil⟩
   simp only [Builtin.clear_, List.getElem?_toArray, List.getElem?_cons_zero, Sem.run_bind, run_underlying hu, Result.andThen_ok, run_getObj hb, run_setObj_map hb, Sem.run_pure]
  ·cases hs
def evMapLen (m : Option Nat) (h : H) : Option Nat :=
 match m with
 | none => some 0
 | some i => match h.get i with | some (.map es _) => some es.length | _ => none
theorem evMapLen_sim {P : Program} {r : Ren} {h : H} {w : World} (hrel : Rel r h w) {t kt e ty : TypeId} (hu : P.underlying t = some (.map kt e)) {m : Option Nat} {m' : Value} {n : Nat}
  (hs : evMapLen m h = some n) (hm : VR r (.map m) m') : (Builtin.len_ #[t] ty #[m']).run P w = .ok (goInt n) w := by
 cases hm with
 | nilMap =>
  simp only [evMapLen] at hs
  cases hs
  simp [Builtin.len_, run_underlying hu]
 | map ht =>
  simp only [evMapLen] at hs
  split at hs
  ·rename_i es clk hg
   cases hs
   obtain ⟨E, hb, ⟨E', hperm, hl, _⟩, hp⟩ := hrel.obj _ _ _ ht hg
   have : E.size = es.length := by rw [hl, hperm.length_eq]; simp
   simp only [Builtin.len_, List.getElem?_toArray, List.getElem?_cons_zero, Sem.run_bind, run_underlying hu, Result.andThen_ok, run_getObj hb, Sem.run_pure, this]
  ·cases hs
def H.mapAt (h : H) (i : Nat) : Option (List (AV × AV × Nat) × Nat) := match h.get i with | some (.map es clk) => some (es, clk) | some (.rmap es clk) => some (es, clk) | _ => none
theorem mapAt_map {h : H} {i : Nat} {es : List (AV × AV × Nat)} {clk : Nat} (hg : h.get i = some (.map es clk)) : h.mapAt i = some (es, clk) := by simp only [H.mapAt, hg]
theorem mapAt_congr {h h' : H} {i j : Nat} (hg : h'.get j = h.get i) : h'.mapAt j = h.mapAt i := by simp only [H.mapAt, hg]
theorem Rel.mapAt {r : Ren} {h : H} {w : World} (hrel : Rel r h w) {i : Nat} {t : Tgt} (ht : r i = some t) {es : List (AV × AV × Nat)} {clk : Nat} (hm : h.mapAt i = some (es, clk)) :
  ∃ E, w.heap[t.blk]? = some (.map E clk) ∧ EntriesR r es E.toList ∧ es.Pairwise fun a b => keyCmp a.1 b.1 = some false := by
 unfold H.mapAt at hm
 split at hm
 ·rename_i hg; cases hm; exact hrel.obj _ _ _ ht hg
 ·rename_i hg; cases hm; exact hrel.obj _ _ _ ht hg
 ·cases hm
end Go.Ev

/- The abstract machine Ev, part G: operations that read memory, and that write it. -/
namespace Go.Ev
theorem cell_of {r : Ren} {w : World} {t : Tgt} {cs : List AV} {ro : Bool} (h : OR r w t (.cells cs ro)) {i : Nat} {a : AV} (ha : cs[i]? = some a) :
  ∃ v, w.cell? ⟨t.blk, t.base + i, none⟩ = some v ∧ VR r a v := by
 obtain ⟨C, e, fz, h1, h2, h3, h4, h5⟩ := h
 have hlt : i < cs.length := (List.getElem?_eq_some_iff.1 ha).1
 have hC : t.base + i < C.size := by omega
 exact ⟨C[t.base + i], by simp [World.cell?, h1, hC], h4 i a _ ha (Array.getElem?_eq_getElem hC)⟩
/-- the cells of a row, as values -/
theorem cells_of {r : Ren} {w : World} {t : Tgt} {cs : List AV} {ro : Bool} (h : OR r w t (.cells cs ro)) (o n : Nat) (hn : o + n ≤ cs.length) :
  ∃ vs : List Value, VRL r ((cs.drop o).take n) vs ∧ vs.length = n ∧ ∀ (j : Nat) v, vs[j]? = some v → w.cell? ((⟨t.blk, t.base + o, none⟩ : Addr).add j) = some v := by
 have hex : ∀ i, i < n → ∃ v, w.cell? ⟨t.blk, t.base + (o + i), none⟩ = some v ∧ VR r (cs.getD (o + i) .junk) v := by
  intro i hi
  have ha : cs[o + i]? = some (cs[o + i]'(by omega)) := List.getElem?_eq_getElem (by omega)
  obtain ⟨v, h1, h2⟩ := cell_of h ha
  exact ⟨v, h1, by rw [List.getD_eq_getElem?_getD, ha]; exact h2⟩
 have hc : ∀ i, ∃ v, i < n → w.cell? ⟨t.blk, t.base + (o + i), none⟩ = some v ∧ VR r (cs.getD (o + i) .junk) v := by
  intro i
  by_cases hi : i < n
  ·obtain ⟨v, hv⟩ := hex i hi; exact ⟨v, fun _ => hv⟩
  ·exact ⟨undef, fun h => absurd h hi⟩
 obtain ⟨f, hf⟩ : ∃ f : Nat → Value, ∀ i, i < n → w.cell? ⟨t.blk, t.base + (o + i), none⟩ = some (f i) ∧ VR r (cs.getD (o + i) .junk) (f i) := ⟨fun i => Classical.choose (hc i), fun i => Classical.choose_spec (hc i)⟩
 refine ⟨(List.range n).map f, ⟨by simp; omega, fun i a v ha hv => ?_⟩, by simp, fun j v hj => ?_⟩
 ·rw [List.getElem?_take] at ha
  split at ha
  ·rename_i hi
   rw [List.getElem?_map, List.getElem?_range hi] at hv
   simp at hv
   subst hv
   have := (hf i hi).2
   rw [List.getElem?_drop] at ha
   rwa [List.getD_eq_getElem?_getD, ha] at this
  ·cases ha
 ·have hi : j < n := by
   have := (List.getElem?_eq_some_iff.1 hj).1
   simpa using this
  rw [List.getElem?_map, List.getElem?_range hi] at hj
  simp at hj
  subst hj
  rw [Addr_add, Nat.add_assoc]
  exact (hf j hi).1
def evLoad (P : Program) (t : TypeId) (p : AV) (h : H) : Option AV :=
 match P.underlying t, p with
 | some d, .ptr (some (i, o)) =>
  match h.get i with
  | some (.cells cs _) => if aggB d then (if (P.info? t).isSome ∧ o + P.cellsOf t ≤ cs.length then some (.agg ((cs.drop o).take (P.cellsOf t))) else none) else cs[o]?
  | _ => none
 | _, _ => none
theorem run_loadVar {P : Program} {r : Ren} {h : H} {w : World} (hrel : Rel r h w) {t : TypeId} {p v : AV} {p' : Value} (hv : evLoad P t p h = some v) (hp : VR r p p') :
  ∃ a v', p' = .pointer (some a) ∧ VR r v v' ∧ (loadVar t a).run P w = .ok v' w := by
 unfold evLoad at hv
 split at hv
 ·rename_i d i o hu
  cases hp with
  | ptr ht =>
   split at hv
   ·rename_i cs ro hg
    have hor := hrel.obj _ _ _ ht hg
    split at hv
    ·rename_i ha
     split at hv
     ·rename_i hb
      obtain ⟨hsome, hb⟩ := hb
      obtain ⟨inf, hinf⟩ := Option.isSome_iff_exists.1 hsome
      cases hv
      obtain ⟨vs, h1, h2, h3⟩ := cells_of hor o _ hb
      refine ⟨_, .agg vs.toArray, rfl, .agg _ _ (by simpa using h1.1) (fun i a v ha hv => h1.2 i a v ha (by simpa using hv)), ?_⟩
      have := run_loadCells_list (P := P) w _ vs h3
      rw [h2] at this
      simp only [loadVar, Sem.run_bind, run_isAgg hu, Result.andThen_ok, ha, if_true, run_sizeOf w hinf, this, Sem.run_pure]
     ·cases hv
    ·rename_i ha
     obtain ⟨v', h1, h2⟩ := cell_of hor hv
     refine ⟨_, v', rfl, h2, ?_⟩
     simp only [loadVar, Sem.run_bind, run_isAgg hu, Result.andThen_ok, ha, Bool.false_eq_true, if_false, run_load, h1]
   ·cases hv
 ·cases hv
def evNums (l : List AV) : Option (List Int) := l.mapM fun x => match x with | .int .u8 n => some n | _ => none
theorem evNums_sim {r : Ren} : ∀ {l : List AV} {vs : List Value} {ns : List Int}, evNums l = some ns → VRL r l vs → vs = ns.map (Value.int .u8)
 | [], vs, ns, h, hv => by
  cases vs with
  | nil => simp [evNums] at h; subst h; rfl
  | cons _ _ => have := hv.1; simp at this
 | a :: l, vs, ns, h, hv => by
  obtain ⟨v, vs', rfl, h1, h2⟩ := hv.inv_cons
  simp only [evNums, List.mapM_cons, bind, Option.bind_eq_some_iff, pure, Option.some.injEq] at h
  obtain ⟨n, hn, ms, hm, rfl⟩ := h
  split at hn
  ·cases hn
   cases h1
   rw [evNums_sim (l := l) hm h2]; rfl
  ·cases hn
def evBytesStr (h : H) (x : AV) : Option AV :=
 match x with
 | .slice none _ _ => some (.str .empty)
 | .slice (some (i, o)) len _ =>
  if len = 0 then some (.str .empty) else
  match h.get i with
  | some (.cells cs _) => if o + len ≤ cs.length then (evNums ((cs.drop o).take len)).map fun ns => .str (strOfNums ns) else none
  | _ => none
 | _ => none
def evConvR (P : Program) (s d : TypeId) (x : AV) (h : H) : Option AV :=
 match P.underlying s, P.underlying d with
 | some (.slice e), some .string => match P.underlying e with | some (.int .u8) => evBytesStr h x | _ => none
 | _, _ => none
/-- a map's length -/
def evLenM (P : Program) (ts : List TypeId) (xs : List AV) (h : H) : Option AV :=
 match ts, xs with
 | [t], [.map m] => (match P.underlying t with | some (.map _ _) => (evMapLen m h).map fun n : Nat => AV.int .i64 (Nat.cast n) | _ => none)
 | _, _ => none
def evRead (P : Program) (ρ : Operand → AV) (op : Op) (h : H) : Option AV :=
 match op with
 | .load t a => evLoad P t (ρ a) h
 | .convert s d x => evConvR P s d (ρ x) h
 | .lookup t m k ok => evLookup P t (ρ m) (ρ k) ok h
 | .call c => (match c.callee with | .builtin .len => evLenM P c.argTypes.toList (c.args.toList.map ρ) h | _ => none)
 | _ => none
theorem run_bytesStr {P : Program} {w : World} {a : Addr} {len cap : Nat} {ns : List Int} (h : (loadCells a len).run P w = .ok (ns.map (Value.int .u8)).toArray w) :
  (Conv.bytesToString (.slice (some a) len cap)).run P w = .ok (.string (strOfNums ns)) w := by
 rw [run_bytesToString w _ len cap ns h, foldl_push_bytes]
 simp [strOfNums, ByteArray.empty, ByteArray.emptyWithCapacity]
 rfl
theorem evRead_sim {P : Program} {r : Ren} {h : H} {w : World} (hrel : Rel r h w) {ρ : Operand → AV} {ρ' : Operand → Value} (hρ : ∀ x, VR r (ρ x) (ρ' x)) (o : Oper) {v : AV} (hv : evRead P ρ o.op h = some v) :
  ∃ v', VR r v v' ∧ (execOp ρ' o).run P w = .ok (.value v') w := by
 unfold evRead at hv
 cases hop : o.op <;> simp only [hop] at hv <;> try (cases hv; done)
 case lookup t m k ok =>
  obtain ⟨v', h1, h2⟩ := evLookup_sim (P := P) hrel hv (hρ m) (hρ k)
  exact ⟨v', h1, by simp [execOp, hop, h2]⟩
 case call c =>
  split at hv
  ·rename_i hb
   unfold evLenM at hv
   split at hv
   ·rename_i t m hts hxs
    split at hv
    ·rename_i kt e hu
     obtain ⟨n, hn, rfl⟩ := Option.map_eq_some_iff.1 hv
     have hargs := VRL_ops hρ c.args
     rw [hxs] at hargs
     obtain ⟨m', vs', hcs, hm, hr⟩ := hargs.inv_cons
     have hvs : vs' = [] := List.eq_nil_of_length_eq_zero hr.1.symm
     subst hvs
     have e1 : c.argTypes = #[t] := by rw [← Array.toList_inj]; simpa using hts
     have e2 : c.args.map ρ' = #[m'] := by rw [← Array.toList_inj]; simpa using hcs
     have hlen := evMapLen_sim (P := P) (ty := o.type) hrel hu hn hm
     exact ⟨_, .int _ _, by simp [execOp, hop, resolve, hb, invoke, builtin, e1, e2, hlen, goInt]⟩
    ·cases hv
   ·cases hv
  ·cases hv
 case load t a =>
  obtain ⟨ad, v', h1, h2, h3⟩ := run_loadVar hrel hv (hρ a)
  exact ⟨v', h2, by simp only [execOp, hop, h1, Instr.loadAt, Instr.sureAddr, Sem.run_bind, Sem.run_pure, Result.andThen_ok, h3]⟩
 case convert s d x =>
  unfold evConvR at hv
  split at hv
  ·rename_i e hs hd
   split at hv
   ·rename_i he
    have hx := hρ x
    have key : ∃ v', VR r v v' ∧ ∃ a l c, ρ' x = .slice a l c ∧ (Conv.bytesToString (ρ' x)).run P w = .ok v' w := by
     unfold evBytesStr at hv
     generalize ρ x = y at hv hx
     generalize ρ' x = y' at hx
     split at hv
     ·cases hv
      cases hx
      exact ⟨_, .str _, _, _, _, rfl, by simp [Conv.bytesToString]⟩
     ·rename_i i o' len c
      have zero : ∀ (a : Addr) c', (Conv.bytesToString (.slice (some a) 0 c')).run P w = .ok (.string .empty) w := fun a c' =>
       run_bytesStr (ns := []) (by simp [loadCells, loadCellsFrom])
      split at hv
      ·rename_i h0
       subst h0
       cases hv
       cases hx <;> exact ⟨_, .str _, _, _, _, rfl, zero _ _⟩
      ·rename_i h0
       split at hv
       ·rename_i cs ro hg
        split at hv
        ·rename_i hb
         obtain ⟨ns, hn, rfl⟩ := Option.map_eq_some_iff.1 hv
         have main : ∀ (t : Tgt) c', r i = some t → (Conv.bytesToString (.slice (some ⟨t.blk, t.base + o', none⟩) len c')).run P w = .ok (.string (strOfNums ns)) w := by
          intro t c' ht
          obtain ⟨vs, h1, h2, h3⟩ := cells_of (hrel.obj _ _ _ ht hg) o' len hb
          have h4 := evNums_sim hn h1
          subst h4
          have h5 := run_loadCells_list (P := P) w _ _ h3
          rw [h2] at h5
          exact run_bytesStr h5
         cases hx with
         | slice _ _ ht => exact ⟨_, .str _, _, _, _, rfl, main _ _ ht⟩
         | sliceRest _ _ _ ht _ _ => exact ⟨_, .str _, _, _, _, rfl, main _ _ ht⟩
         | sliceBare _ => exact absurd rfl h0
         | sliceEnd _ _ _ => exact absurd rfl h0
        ·cases hv
       ·cases hv
     ·cases hv
    obtain ⟨v', hv', a, l, c, hx', hrun⟩ := key
    refine ⟨v', hv', ?_⟩
    rw [hx'] at hrun
    simp only [execOp, hop, hx', Sem.run_bind, run_convert_bytes_string w s d e a l c hs he hd, hrun, Result.andThen_ok, Sem.run_pure]
   ·cases hv
  ·cases hv
def spl : List AV → Nat → List AV → List AV
 | l, _, [] => l
 | l, o, x :: xs => spl (l.set o x) (o + 1) xs
theorem length_spl : ∀ (xs : List AV) (l : List AV) (o : Nat), (spl l o xs).length = l.length
 | [], _, _ => rfl
 | x :: xs, l, o => by rw [spl, length_spl xs]; simp
theorem spl_get : ∀ (xs : List AV) (l : List AV) (o : Nat), o + xs.length ≤ l.length → ∀ k, (spl l o xs)[k]? = if o ≤ k ∧ k < o + xs.length then xs[k - o]? else l[k]?
 | [], l, o, _, k => by rw [spl, if_neg (by simp <;> omega)]
 | x :: xs, l, o, h, k => by
  simp only [List.length_cons] at h
  rw [spl, spl_get xs _ _ (by simp; omega)]
  simp only [List.length_cons]
  by_cases hk0 : k = o
  ·subst hk0
   rw [if_neg (by omega), if_pos (by omega)]
   simp [show k < l.length by omega]
  ·by_cases hk1 : o + 1 ≤ k ∧ k < o + 1 + xs.length
   ·rw [if_pos hk1, if_pos (by omega)]
    obtain ⟨j, hj⟩ : ∃ j, k - o = j + 1 := ⟨k - o - 1, by omega⟩
    rw [hj, List.getElem?_cons_succ]
    congr 1
    omega
   ·rw [if_neg hk1, if_neg (by omega), List.getElem?_set_ne (by omega)]
theorem OR_wrote {r : Ren} {w w' : World} {t : Tgt} {cs xs : List AV} {vs : List Value} {o : Nat} (h : OR r w t (.cells cs false)) (hw : Wrote w w' t.blk (t.base + o) vs) (hx : VRL r xs vs) (hl : o + xs.length ≤ cs.length) :
  OR r w' t (.cells (spl cs o xs) false) := by
 obtain ⟨C, e, fz, h1, h2, h3, h4, h5⟩ := h
 obtain ⟨C', hc', hs', hk⟩ := hw.here _ _ _ h1
 refine ⟨C', e, fz, hc', by omega, by rw [length_spl]; exact h3, fun i a v ha hv => ?_, fun hr off ho => h5 hr off (by omega)⟩
 rw [spl_get _ _ _ hl] at ha
 rw [hk, ← hx.1] at hv
 by_cases hi : o ≤ i ∧ i < o + xs.length
 ·rw [if_pos hi] at ha
  rw [if_pos (by omega), show t.base + i - (t.base + o) = i - o by omega] at hv
  exact hx.2 _ a v ha hv
 ·rw [if_neg hi] at ha
  rw [if_neg (by omega)] at hv
  exact h4 i a v ha hv
theorem OR_room {r : Ren} {w : World} {t : Tgt} {cs : List AV} (h : OR r w t (.cells cs false)) : ∃ C e fz, w.heap[t.blk]? = some (.cells C e fz) ∧ t.row ≤ C.size ∧ t.base + cs.length ≤ t.row ∧ ∀ off, off < C.size → ¬ (fz.1 ≤ off ∧ off < fz.2) := by
 obtain ⟨C, e, fz, h1, h2, h3, h4, h5⟩ := h
 exact ⟨C, e, fz, h1, h2, h3, h5 rfl⟩
/-- some cells of one of our rows are written -/
theorem write_row {P : Program} {r : Ren} {h : H} {w : World} (hrel : Rel r h w) {i : Nat} {t : Tgt} (ht : r i = some t) {cs : List AV} (hg : h.get i = some (.cells cs false)) {xs : List AV} {vs : List Value} (hx : VRL r xs vs)
  (hcell : xs.all isCell = true) {o : Nat} (hl : o + xs.length ≤ cs.length) :
  ∃ w', (storeCells ⟨t.blk, t.base + o, none⟩ vs).run P w = .ok () w' ∧ Post r h w r (h.set i (.cells (spl cs o xs) false)) w' := by
 have hor := hrel.obj _ _ _ ht hg
 obtain ⟨C, e, fz, h1, h2, h3, h5⟩ := OR_room hor
 obtain ⟨w', hr, hw⟩ := run_storeCells_blk (P := P) (b := t.blk) (o := t.base + o) vs 0 w C e fz h1 (by rw [← hx.1]; omega) h5 (isCell_all hcell hx)
 refine ⟨w', hr, Post.of_set hrel ht hg rfl rfl hw.size hw.env hw.other (OR_wrote hor (by simpa using hw) hx hl)⟩
def evStore (P : Program) (t : TypeId) (p x : AV) (h : H) : Option H :=
 match acells x, p with
 | some xs, .ptr (some (i, o)) =>
  match h.get i with
  | some (.cells cs false) => if (P.info? t).isSome ∧ xs.length = P.cellsOf t ∧ o + xs.length ≤ cs.length ∧ xs.all isCell = true then some (h.set i (.cells (spl cs o xs) false)) else none
  | _ => none
 | _, _ => none
theorem evStore_sim {P : Program} {r : Ren} {h h' : H} {w : World} (hrel : Rel r h w) {t : TypeId} {p x : AV} {p' x' : Value} (hs : evStore P t p x h = some h') (hp : VR r p p') (hx : VR r x x') :
  ∃ w', (Instr.storeAt t p' x').run P w = .ok () w' ∧ Post r h w r h' w' := by
 unfold evStore at hs
 split at hs
 ·rename_i xs i o hxs
  split at hs
  ·rename_i cs hg
   split at hs
   ·rename_i hb
    obtain ⟨hsome, hsz, hl, hcell⟩ := hb
    obtain ⟨inf, hinf⟩ := Option.isSome_iff_exists.1 hsome
    cases hs
    have hv := acells_sim hxs hx
    cases hp with
    | ptr ht =>
     obtain ⟨w', hr, hpost⟩ := write_row (P := P) hrel ht hg hv hcell hl
     refine ⟨w', ?_, hpost⟩
     have hsz' : x'.cells.size = P.cellsOf t := by rw [← hsz]; simpa using hv.1.symm
     simp only [Instr.storeAt, Instr.sureAddr, Sem.run_bind, Sem.run_pure, Result.andThen_ok, storeVar, run_sizeOf w hinf]
     rw [if_neg (by simp [hsz'])]
     simpa using hr
   ·cases hs
  ·cases hs
 ·cases hs
def evSrc (size : Nat) (x : AV) (h : H) : Option (Nat × List AV) :=
 match x with
 | .slice none 0 (.known 0) => some (0, [])
 | .slice (some (i, o)) n _ =>
  if n = 0 then some (0, []) else
  match h.get i with
  | some (.cells cs _) => if o + n * size ≤ cs.length then some (n, (cs.drop o).take (n * size)) else none
  | _ => none
 | .str s => if size = 1 then some (s.size, s.data.toList.map fun c => .int .u8 c.toNat) else none
 | _ => none
/-- what is to be appended, or copied: so many elements, of these cells, in every world with these blocks -/
theorem evSrc_sim {P : Program} {r : Ren} {h : H} {w : World} (hrel : Rel r h w) {size n : Nat} {x : AV} {x' : Value} {xs : List AV} (hs : evSrc size x h = some (n, xs)) (hx : VR r x x') :
  ∃ vs : List Value, VRL r xs vs ∧ vs.length = n * size ∧ (∀ w', w'.heap = w.heap → (Builtin.lenOf x').run P w' = .ok n w' ∧ ∀ m, m ≤ n → (Builtin.firstCells size m x').run P w' = .ok (vs.take (m * size)).toArray w') := by
 unfold evSrc at hs
 split at hs
 ·cases hs
  cases hx
  exact ⟨[], .nil, by simp, fun w' _ => ⟨by simp [Builtin.lenOf], fun m hm => by (obtain rfl : m = 0 := (by omega)); simp [Builtin.firstCells]⟩⟩
 ·rename_i i o len c
  split at hs
  ·rename_i h0
   subst h0
   cases hs
   have key : ∀ (a : Addr) c', (∀ w', w'.heap = w.heap → (Builtin.lenOf (.slice (some a) 0 c')).run P w' = .ok 0 w' ∧ ∀ m, m ≤ 0 → (Builtin.firstCells size m (.slice (some a) 0 c')).run P w' = .ok (([] : List Value).take (m * size)).toArray w') :=
    fun a c' w' _ => ⟨by simp [Builtin.lenOf], fun m hm => by (obtain rfl : m = 0 := (by omega)); simp [Builtin.firstCells, loadCells, loadCellsFrom]⟩
   cases hx <;> exact ⟨[], .nil, by simp, key _ _⟩
  ·rename_i h0
   split at hs
   ·rename_i cs ro hg
    split at hs
    ·rename_i hb
     cases hs
     have main : ∀ (t : Tgt) c', r i = some t → ∃ vs : List Value, VRL r ((cs.drop o).take (n * size)) vs ∧ vs.length = n * size ∧
       (∀ w', w'.heap = w.heap → (Builtin.lenOf (.slice (some ⟨t.blk, t.base + o, none⟩) n c')).run P w' = .ok n w' ∧ ∀ m, m ≤ n → (Builtin.firstCells size m (.slice (some ⟨t.blk, t.base + o, none⟩) n c')).run P w' = .ok (vs.take (m * size)).toArray w') := by
      intro t c' ht
      obtain ⟨vs, h1, h2, h3⟩ := cells_of (hrel.obj _ _ _ ht hg) o _ hb
      refine ⟨vs, h1, h2, fun w' hw' => ⟨by simp [Builtin.lenOf], fun m hm => ?_⟩⟩
      have hms : m * size ≤ n * size := Nat.mul_le_mul_right _ hm
      have h4 := run_loadCells_list (P := P) w' ⟨t.blk, t.base + o, none⟩ (vs.take (m * size)) (fun j v hj => by
       rw [List.getElem?_take] at hj
       split at hj
       ·have := h3 j v hj
        unfold World.cell? at this ⊢
        rw [hw']; exact this
       ·cases hj)
      rw [List.length_take, h2, Nat.min_eq_left hms] at h4
      simpa [Builtin.firstCells] using h4
     cases hx with
     | slice _ _ ht => exact main _ _ ht
     | sliceRest _ _ _ ht _ _ => exact main _ _ ht
     | sliceBare _ => exact absurd rfl h0
     | sliceEnd _ _ _ => exact absurd rfl h0
    ·cases hs
   ·cases hs
 ·rename_i s
  split at hs
  ·rename_i h1
   subst h1
   cases hs
   cases hx
   have hlen : s.data.toList.length = s.size := rfl
   refine ⟨s.data.toList.map fun c => .int .u8 c.toNat, VRL.map _ _ _ fun c _ => .int _ _, by simp [hlen], fun w' _ => ⟨by simp [Builtin.lenOf], fun m hm => ?_⟩⟩
   simp only [Builtin.firstCells, Sem.run_pure]
   congr 1
   apply Array.ext'
   simp [ByteArray.data_extract, List.map_take]
  ·cases hs
 ·cases hs
/-- append, where it grows: a new row -/
theorem run_append_new {P : Program} {w : World} {ts : Array TypeId} {ty t1 t2 e : TypeId} {d2 : TypeDesc} {inf : TypeInfo} {z : Value} (h1 : ts[0]? = some t1) (h2 : ts[1]? = some t2) (hu1 : P.underlying t1 = some (.slice e)) (hu2 : P.underlying t2 = some d2)
  (hd2 : ∀ k, d2 ≠ .int k) (hi : P.info? e = some inf) (hz : inf.zero = some z) (hzs : z.cells.size = inf.size) {base : Option Addr} {sLen sCap n : Nat} {x' : Value} {olds news : List Value}
  (ho : ∀ w', w'.heap = w.heap → (Builtin.firstCells inf.size sLen (.slice base sLen sCap)).run P w' = .ok olds.toArray w') (hol : olds.length = sLen * inf.size)
  (hn : ∀ w', w'.heap = w.heap → (Builtin.lenOf x').run P w' = .ok n w' ∧ (Builtin.firstCells inf.size n x').run P w' = .ok news.toArray w') (hnl : news.length = n * inf.size)
  (hg : sCap < sLen + n) (hb : (sLen + n) * inf.bytes ≤ 140737488355328) (h63 : sLen + n ≤ 9223372036854775807) :
  ∃ cap w', sLen + n ≤ cap ∧ (Builtin.append_ ts ty #[.slice base sLen sCap, x']).run P w = .ok (.slice (some ⟨w.heap.size, 0, none⟩) (sLen + n) cap) w' ∧
   Env w w' ∧ ∃ C : Array Value, w'.heap = w.heap.push (.cells C e) ∧ C.size = cap * inf.size ∧ ∀ k, k < (sLen + n) * inf.size → C[k]? = (olds ++ news)[k]? := by
 have hcap := grownCap_ge w (sLen + n) sCap e
 generalize hcp : grownCap w (sLen + n) sCap e = cap at hcap
 have hcp' : (Question.appendCap (sLen + n) sCap e).cut (w.tape w.drawn (.appendCap (sLen + n) sCap e)) = cap := hcp
 have hfit := growslice_fits (bytes := inf.bytes) hg hb
 have h63' : ¬ (9223372036854775807 < ((sLen : Int) + (n : Int))) := by omega
 have hng : ¬ (sLen + n ≤ sCap) := by omega
 have h48 : ¬ (281474976710656 < Builtin.nextslicecap (sLen + n) sCap * inf.bytes) := by omega
 have hl := (hn w rfl).1
 have hfn := (hn w.drew rfl).2
 have hfo := ho w.drew rfl
 refine ⟨cap, w.drew.alloc (.cells (olds.toArray ++ news.toArray ++ Builtin.zeroCells z.cells (cap - (sLen + n))) e), hcap, ?_, ⟨rfl, rfl, rfl, fun _ => Nat.le_succ _⟩, olds.toArray ++ news.toArray ++ Builtin.zeroCells z.cells (cap - (sLen + n)), rfl, ?_, ?_⟩
 ·simp only [Builtin.append_, h1, h2, List.getElem?_toArray, List.getElem?_cons_zero, List.getElem?_cons_succ, Sem.run_bind, run_underlying hu1, run_underlying hu2, Result.andThen_ok, Sem.run_pure, run_sizeOf w hi, Bool.false_eq_true, if_false, hl]
  have hsz : P.cellsOf e = inf.size := by simp [Program.cellsOf, hi]
  rw [if_neg hng]
  simp [typeInfo, hi, h63', h48, hcp', Question.forced, hsz, hfo, hfn, zeroValue, hz, newRow]
  congr 2
  apply Array.ext'
  simp [List.append_assoc]
 ·simp only [Array.size_append, List.size_toArray, size_zeroCells, hzs, hol, hnl, ← Nat.add_mul]
  congr 1
  omega
 ·intro k hk
  have hlen : (olds ++ news).length = (sLen + n) * inf.size := by simp [hol, hnl, Nat.add_mul]
  rw [Array.getElem?_append_left (by simp [hol, hnl, ← Nat.add_mul]; exact hk)]
  rw [← Array.getElem?_toList]
  simp
/-- append, where there is room -/
theorem run_append_room {P : Program} {w w' : World} {ts : Array TypeId} {ty t1 t2 e : TypeId} {d2 : TypeDesc} {inf : TypeInfo} (h1 : ts[0]? = some t1) (h2 : ts[1]? = some t2) (hu1 : P.underlying t1 = some (.slice e)) (hu2 : P.underlying t2 = some d2)
  (hd2 : ∀ k, d2 ≠ .int k) (hi : P.info? e = some inf) {base : Option Addr} {sLen sCap n : Nat} {x' : Value} {news : List Value}
  (hn : (Builtin.lenOf x').run P w = .ok n w ∧ (Builtin.firstCells inf.size n x').run P w = .ok news.toArray w)
  (hg : sLen + n ≤ sCap) (hst : ∀ a, base = some a → (storeCells (a.add (sLen * inf.size)) news).run P w = .ok () w') (hnone : base = none → w' = w) :
  (Builtin.append_ ts ty #[.slice base sLen sCap, x']).run P w = .ok (.slice base (sLen + n) sCap) w' := by
 have hsz : P.cellsOf e = inf.size := by simp [Program.cellsOf, hi]
 simp only [Builtin.append_, h1, h2, List.getElem?_toArray, List.getElem?_cons_zero, List.getElem?_cons_succ, Sem.run_bind, run_underlying hu1, run_underlying hu2, Result.andThen_ok, Sem.run_pure, run_sizeOf w hi, Bool.false_eq_true, if_false, hn.1]
 rw [if_pos hg]
 cases base with
 | none => simp [hsz, hn.2, hnone rfl]
 | some a => simp [hsz, hn.2, hst a rfl]
def isIntD : TypeDesc → Bool
 | .int _ => true
 | _ => false
def evApp (size bytes n : Nat) (news : List AV) (s : AV) (h : H) : Option (AV × H) :=
 match s with
 | .slice none 0 (.known 0) =>
  if n = 0 then some (s, h) else
  if n * bytes ≤ 140737488355328 ∧ n ≤ 9223372036854775807 then some (.slice (some (h.next, 0)) n (.rest size), h.new (.cells news false)) else none
 | .slice (some (i, o)) len (.known c) =>
  if len + n ≤ c then
   if n = 0 then some (s, h) else
   match h.get i with
   | some (.cells old false) => if o + len * size + news.length ≤ old.length ∧ news.all isCell = true then some (.slice (some (i, o)) (len + n) (.known c), h.set i (.cells (spl old (o + len * size) news) false)) else none
   | _ => none
  else
  if (len + n) * bytes ≤ 140737488355328 ∧ len + n ≤ 9223372036854775807 then
   match h.get i with
   | some (.cells old _) => if o + len * size ≤ old.length then some (.slice (some (h.next, 0)) (len + n) (.rest size), h.new (.cells ((old.drop o).take (len * size) ++ news) false)) else none
   | _ => none
  else none
 | .slice (some (i, o)) len (.rest sz) =>
  if n = 0 then some (s, h) else
  if sz = size ∧ (len + n) * bytes ≤ 140737488355328 ∧ len + n ≤ 9223372036854775807 then
   match h.get i with
   | some (.cells old false) => if o + len * size = old.length ∧ news.all isCell = true then some (.slice (some (h.next, 0)) (len + n) (.rest size), (h.kill i).new (.cells (old.drop o ++ news) false)) else none
   | _ => none
  else none
 | _ => none
def evAppend (P : Program) (ts : List TypeId) (xs : List AV) (h : H) : Option (AV × H) :=
 match ts[0]?, ts[1]?, xs with
 | some t1, some t2, [s, x] =>
  match P.underlying t1, P.underlying t2 with
  | some (.slice e), some d2 =>
   if isIntD d2 then none else
   (P.info? e).bind fun inf => (evZero P e).bind fun zs => (evSrc inf.size x h).bind fun q =>
   if zs.length = inf.size ∧ 0 < inf.size then evApp inf.size inf.bytes q.1 q.2 s h else none
  | _, _ => none
 | _, _, _ => none
/-- a new row that append has made -/
theorem OR_grown {r : Ren} {w w' : World} {C : Array Value} {e : TypeId} {cs : List AV} {vs : List Value} {cap size n : Nat} (hp : w'.heap = w.heap.push (.cells C e)) (hC : C.size = cap * size) (hcap : n ≤ cap)
  (hx : VRL r cs vs) (hl : vs.length = n * size) (hk : ∀ k, k < n * size → C[k]? = vs[k]?) : ∀ r' : Ren, r.le r' → OR r' w' ⟨w.heap.size, 0, cap * size⟩ (.cells cs false) := by
 intro r' hr
 have hle : n * size ≤ cap * size := Nat.mul_le_mul_right _ hcap
 refine ⟨C, e, (0, 0), by simp [hp], by simp [hC], by simp only [Nat.zero_add]; rw [hx.1, hl]; exact hle, fun i a v ha hv => ?_, fun _ off _ => by simp⟩
 simp only [Nat.zero_add] at hv
 have hlt : i < cs.length := (List.getElem?_eq_some_iff.1 ha).1
 rw [hk i (by rw [← hl, ← hx.1]; exact hlt)] at hv
 exact (hx.2 i a v ha hv).mono hr
theorem Post_grown {r : Ren} {h : H} {w w' : World} (henv : Env w w') (hrel : Rel r h w) (hno : r h.next = none) {C : Array Value} {e : TypeId} {cs : List AV} {vs : List Value} {cap size n : Nat} (hp : w'.heap = w.heap.push (.cells C e)) (hC : C.size = cap * size) (hcap : n ≤ cap)
    (hx : VRL r cs vs) (hl : vs.length = n * size) (hk : ∀ k, k < n * size → C[k]? = vs[k]?) :
    Post r h w (r.put h.next ⟨w.heap.size, 0, cap * size⟩) (h.new (.cells cs false)) w' ∧ VR (r.put h.next ⟨w.heap.size, 0, cap * size⟩) (.slice (some (h.next, 0)) n (.rest size)) (.slice (some ⟨w.heap.size, 0, none⟩) n cap) :=
  ⟨Post.of_new (base := 0) (row := cap * size) hrel hno (by simp [hp]) henv (fun b hb => by rw [hp, Array.getElem?_push, if_neg (Nat.ne_of_lt hb)]) (OR_grown hp hC hcap hx hl hk),
   .sliceRest (t := ⟨w.heap.size, 0, cap * size⟩) _ _ cap (by simp [Ren.put]) (by simp) hcap⟩
theorem evApp_sim {P : Program} {r : Ren} {h h' : H} {w : World} (hrel : Rel r h w) (hfree : ∀ i, h.next ≤ i → i < h'.next → r i = none) {ts : Array TypeId} {ty t1 t2 e : TypeId} {d2 : TypeDesc} {inf : TypeInfo} {z : Value}
  (h1 : ts[0]? = some t1) (h2 : ts[1]? = some t2) (hu1 : P.underlying t1 = some (.slice e)) (hu2 : P.underlying t2 = some d2) (hd2 : ∀ k, d2 ≠ .int k) (hinf : P.info? e = some inf) (hz : inf.zero = some z) (hzs : z.cells.size = inf.size)
  {n : Nat} {news : List AV} {nv : List Value} {s v : AV} {s' x' : Value} (hnv : VRL r news nv) (hnl : nv.length = n * inf.size)
  (hn1 : ∀ w', w'.heap = w.heap → (Builtin.lenOf x').run P w' = .ok n w' ∧ (Builtin.firstCells inf.size n x').run P w' = .ok nv.toArray w')
  (hs : evApp inf.size inf.bytes n news s h = some (v, h')) (hvs : VR r s s') :
  ∃ r' v' w', (Builtin.append_ ts ty #[s', x']).run P w = .ok v' w' ∧ VR r' v v' ∧ Post r h w r' h' w' := by
 have zero : n = 0 → ∀ base len cap, len ≤ cap → (Builtin.append_ ts ty #[.slice base len cap, x']).run P w = .ok (.slice base len cap) w := by
  intro h0 base len cap hle
  subst h0
  have hnv0 : nv = [] := List.eq_nil_of_length_eq_zero (by simpa using hnl)
  subst hnv0
  exact run_append_room (n := 0) (ty := ty) h1 h2 hu1 hu2 hd2 hinf (hn1 w rfl) (by omega) (fun a _ => rfl) (fun _ => rfl)
 unfold evApp at hs
 split at hs
 ·cases hvs
  split at hs
  ·rename_i h0
   cases hs
   exact ⟨r, _, w, zero h0 _ _ _ (Nat.le_refl _), .nilSlice, Post.refl hrel⟩
  ·rename_i h0
   split at hs
   ·rename_i hb
    cases hs
    obtain ⟨cap, w', hcap, hrun, henv, C, hC1, hC2, hC3⟩ := run_append_new (ty := ty) (olds := []) h1 h2 hu1 hu2 hd2 hinf hz hzs (base := none) (sLen := 0) (sCap := 0) (fun w' _ => by simp [Builtin.firstCells]) (by simp) hn1 hnl (by omega) (by simpa using hb.1) (by simpa using hb.2)
    simp only [Nat.zero_add, List.nil_append] at hrun hC3 hcap
    obtain ⟨hp, hv⟩ := Post_grown henv hrel (hfree _ (Nat.le_refl _) (by simp [H.new])) hC1 hC2 hcap hnv hnl hC3
    exact ⟨_, _, w', hrun, hv, hp⟩
   ·cases hs
 ·rename_i i o len c
  cases hvs with
  | sliceBare a =>
   split at hs
   ·rename_i hle
    have h0 : n = 0 := by omega
    rw [if_pos h0] at hs
    cases hs
    exact ⟨r, _, w, zero h0 _ _ _ (Nat.le_refl _), .sliceBare a, Post.refl hrel⟩
   ·rename_i hle
    split at hs
    ·rename_i hb
     split at hs
     ·rename_i old ro hg
      split at hs
      ·rename_i hlo
       cases hs
       obtain ⟨cap, w', hcap, hrun, henv, C, hC1, hC2, hC3⟩ := run_append_new (ty := ty) (olds := []) h1 h2 hu1 hu2 hd2 hinf hz hzs (base := some a) (sLen := 0) (sCap := 0) (fun w' hw' => by simp [Builtin.firstCells, loadCells, loadCellsFrom]) (by simp) hn1 hnl (by omega) hb.1 hb.2
       obtain ⟨hp, hv⟩ := Post_grown henv hrel (hfree _ (Nat.le_refl _) (by simp [H.new])) hC1 hC2 hcap hnv (by simp [hnl]) (by simpa using hC3)
       refine ⟨_, _, w', hrun, hv, ?_⟩
       simpa using hp
      ·cases hs
     ·cases hs
    ·cases hs
  | slice _ _ ht =>
  split at hs
  ·rename_i hle
   split at hs
   ·rename_i h0
    cases hs
    exact ⟨r, _, w, zero h0 _ _ _ (by omega), .slice _ _ ht, Post.refl hrel⟩
   ·rename_i h0
    split at hs
    ·rename_i old hg
     split at hs
     ·rename_i hb
      cases hs
      obtain ⟨w', hw', hpost⟩ := write_row (P := P) hrel ht hg hnv hb.2 (o := o + len * inf.size) hb.1
      refine ⟨r, _, w', run_append_room (n := n) (ty := ty) h1 h2 hu1 hu2 hd2 hinf (hn1 w rfl) hle (fun a ha => ?_) (fun h => by cases h), .slice _ _ ht, hpost⟩
      cases ha
      rw [Addr_add, Nat.add_assoc]
      exact hw'
     ·cases hs
    ·cases hs
  ·rename_i hle
   split at hs
   ·rename_i hb
    split at hs
    ·rename_i old ro hg
     split at hs
     ·rename_i hlo
      cases hs
      obtain ⟨ov, ho1, ho2, ho3⟩ := cells_of (hrel.obj _ _ _ ht hg) o (len * inf.size) hlo
      obtain ⟨cap, w', hcap, hrun, henv, C, hC1, hC2, hC3⟩ := run_append_new (ty := ty) (olds := ov) h1 h2 hu1 hu2 hd2 hinf hz hzs (base := some ⟨_, _, none⟩) (sLen := len) (sCap := c) (fun w' hw' => by
       refine run_firstCells_some w' _ _ _ _ _ ov ho2 fun j v hj => ?_
       have := ho3 j v hj
       unfold World.cell? at this ⊢
       rw [hw']; exact this) ho2 hn1 hnl (by omega) hb.1 hb.2
      obtain ⟨hp, hv⟩ := Post_grown henv hrel (hfree _ (Nat.le_refl _) (by simp [H.new])) hC1 hC2 hcap (ho1.append hnv) (by simp [ho2, hnl, Nat.add_mul]) hC3
      exact ⟨_, _, w', hrun, hv, hp⟩
     ·cases hs
    ·cases hs
   ·cases hs
 ·rename_i i o len sz
  split at hs
  ·rename_i h0
   cases hs
   cases hvs with
   | sliceRest _ _ cap ht hc hl => exact ⟨r, _, w, zero h0 _ _ _ hl, .sliceRest _ _ _ ht hc hl, Post.refl hrel⟩
   | sliceEnd a _ ht => exact ⟨r, _, w, zero h0 _ _ _ (Nat.le_refl _), .sliceEnd a _ ht, Post.refl hrel⟩
  ·rename_i h0
   split at hs
   ·rename_i hb
    obtain ⟨rfl, hb1, hb2⟩ := hb
    split at hs
    ·rename_i old hg
     split at hs
     ·rename_i ho
      obtain ⟨ho, hcell⟩ := ho
      cases hs
      have hno : r h.next = none := hfree _ (Nat.le_refl _) (by simp [H.new, H.kill])
      have hold : (old.drop o).length = len * inf.size := by simp; omega
      -- where it grows into a new row
      have grows : ∀ (t0 : Tgt) (base : Addr) (cap : Nat) (ov : List Value), r i = some t0 → VRL r (old.drop o) ov → ov.length = len * inf.size → (∀ w', w'.heap = w.heap → (Builtin.firstCells inf.size len (.slice (some base) len cap)).run P w' = .ok ov.toArray w') → cap < len + n →
        ∃ r' v' w', (Builtin.append_ ts ty #[.slice (some base) len cap, x']).run P w = .ok v' w' ∧ VR r' (.slice (some (h.next, 0)) (len + n) (.rest inf.size)) v' ∧ Post r h w r' ((h.kill i).new (.cells (old.drop o ++ news) false)) w' := by
       intro t0 base cap ov ht0 ho1 ho2 ho3 hlt
       obtain ⟨cap', w', hcap, hrun, henv, C, hC1, hC2, hC3⟩ := run_append_new (ty := ty) (olds := ov) h1 h2 hu1 hu2 hd2 hinf hz hzs (base := some base) (sLen := len) (sCap := cap) ho3 ho2 hn1 hnl hlt hb1 hb2
       have hk := Post.of_kill ht0 hrel
       obtain ⟨hp, hv⟩ := Post_grown (h := h.kill i) henv hk.rel hno hC1 hC2 hcap (ho1.append hnv) (by simp [ho2, hnl, Nat.add_mul]) hC3
       exact ⟨_, _, w', hrun, hv, hk.trans hp⟩
      cases hvs with
      | sliceEnd a _ ht =>
       exact grows _ a 0 [] ht (by rw [List.eq_nil_of_length_eq_zero (l := old.drop o) (by simpa using hold)]; exact .nil) (by simp) (fun w' _ => by simp [Builtin.firstCells, loadCells, loadCellsFrom]) (by omega)
      | sliceRest _ _ cap ht hc hl =>
       rename_i t
       have hor := hrel.obj _ _ _ ht hg
       obtain ⟨ov, ho1, ho2, ho3⟩ := cells_of hor o (len * inf.size) (by omega)
       rw [List.take_of_length_le (by omega)] at ho1
       by_cases hfit : len + n ≤ cap
       ·-- in its place
        obtain ⟨C, e', fz, g1, g2, g3, g5⟩ := OR_room hor
        have hmul : (len + n) * inf.size ≤ cap * inf.size := Nat.mul_le_mul_right _ hfit
        rw [Nat.add_mul] at hmul
        obtain ⟨w', hst, hw⟩ := run_storeCells_blk (P := P) (b := t.blk) (o := t.base + o + len * inf.size) nv 0 w C e' fz g1 (by omega) g5 (isCell_all hcell hnv)
        simp only [Nat.add_zero] at hw
        refine ⟨r.put h.next ⟨t.blk, t.base + o, t.row⟩, _, w', run_append_room (n := n) (ty := ty) h1 h2 hu1 hu2 hd2 hinf (hn1 w rfl) hfit (fun a ha => ?_) (fun h => by cases h), ?_, Post.of_again hrel ht hg rfl rfl hno rfl hw.size hw.env hw.other fun r' hr' => ?_⟩
        ·cases ha
         rw [Addr_add]
         exact hst
        ·exact .sliceRest (t := ⟨t.blk, t.base + o, t.row⟩) _ _ cap (by simp [Ren.put]) (by simpa using hc) hfit
        ·obtain ⟨C0, e0, fz0, q1, q2, q3, q4, q5⟩ := hor
         rw [q1] at g1
         cases g1
         obtain ⟨C', c1, c2, c3⟩ := hw.here _ _ _ q1
         refine ⟨C', e', fz, c1, by simp; omega, ?_, fun k a v ha hv => ?_, fun _ off hoff => g5 off (by omega)⟩
         ·simp only [List.length_append, hold, hnv.1, hnl]; omega
         ·simp only at hv
          rw [c3] at hv
          rcases Nat.lt_or_ge k (len * inf.size) with hk | hk
          ·rw [if_neg (by omega)] at hv
           rw [List.getElem?_append_left (by omega), List.getElem?_drop] at ha
           exact (q4 (o + k) a v ha (by rw [← Nat.add_assoc]; exact hv)).mono hr'
          ·rw [List.getElem?_append_right (by omega), hold] at ha
           have hk2 : k - len * inf.size < news.length := (List.getElem?_eq_some_iff.1 ha).1
           rw [hnv.1] at hk2
           rw [if_pos (by omega), show t.base + o + k - (t.base + o + len * inf.size) = k - len * inf.size by omega] at hv
           exact (hnv.2 _ a v ha hv).mono hr'
       ·exact grows _ _ cap ov ht ho1 ho2 (fun w' hw' => by
         refine run_firstCells_some w' _ _ _ _ _ ov ho2 fun j v hj => ?_
         have := ho3 j v hj
         unfold World.cell? at this ⊢
         rw [hw']; exact this) (by omega)
     ·cases hs
    ·cases hs
   ·cases hs
 ·cases hs
theorem evAppend_sim {P : Program} {r : Ren} {h h' : H} {w : World} (hrel : Rel r h w) (hfree : ∀ i, h.next ≤ i → i < h'.next → r i = none) {ts : Array TypeId} {ty : TypeId} {xs : List AV} {xs' : Array Value} {v : AV}
  (hs : evAppend P ts.toList xs h = some (v, h')) (hx : VRL r xs xs'.toList) :
  ∃ r' v' w', (Builtin.append_ ts ty xs').run P w = .ok v' w' ∧ VR r' v v' ∧ Post r h w r' h' w' := by
 unfold evAppend at hs
 split at hs
 ·rename_i t1 t2 s x ht1 ht2
  obtain ⟨s', ys, hxs, hvs, hx⟩ := hx.inv_cons
  obtain ⟨x', ys', rfl, hvx, hx⟩ := hx.inv_cons
  obtain rfl : ys' = [] := List.eq_nil_of_length_eq_zero hx.1.symm
  obtain rfl : xs' = #[s', x'] := Array.ext' hxs
  have h1 : ts[0]? = some t1 := by rw [← Array.getElem?_toList]; exact ht1
  have h2 : ts[1]? = some t2 := by rw [← Array.getElem?_toList]; exact ht2
  split at hs
  ·rename_i e d2 hu1 hu2
   split at hs
   ·cases hs
   ·rename_i hd2
    have hd2' : ∀ k, d2 ≠ .int k := fun k hk => by subst hk; exact hd2 rfl
    obtain ⟨inf, hinf, hs⟩ := Option.bind_eq_some_iff.1 hs
    obtain ⟨zs, hzs, hs⟩ := Option.bind_eq_some_iff.1 hs
    obtain ⟨⟨n, news⟩, hsrc, hs⟩ := Option.bind_eq_some_iff.1 hs
    obtain ⟨inf', z, hinf', hz, hzrun, hzv⟩ := evZero_sim hzs
    rw [hinf] at hinf'
    cases hinf'
    obtain ⟨nv, hnv, hnl, hnrun⟩ := evSrc_sim (P := P) hrel hsrc hvx
    simp only at hs
    split at hs
    ·rename_i hzl
     have hzs' : z.cells.size = inf.size := by rw [← hzl.1]; simpa using (hzv r).1.symm
     exact evApp_sim hrel hfree h1 h2 hu1 hu2 hd2' hinf hz hzs' hnv hnl (fun w' hw' => ⟨(hnrun w' hw').1, by rw [(hnrun w' hw').2 n (Nat.le_refl _), ← hnl, List.take_length]⟩) hs hvs
    ·cases hs
  ·cases hs
 ·cases hs
end Go.Ev

/- The abstract machine Ev, part H: one operation of any kind, calls among them. -/
namespace Go.Ev
def evCopy (P : Program) (ts : List TypeId) (xs : List AV) (h : H) : Option (AV × H) :=
 match ts[0]?, xs with
 | some t1, [d, x] =>
  match P.underlying t1 with
  | some (.slice e) =>
   (P.info? e).bind fun inf => (evSrc inf.size x h).bind fun q =>
   match d with
   | .slice none 0 (.known 0) => some (.int .i64 0, h)
   | .slice (some (i, o)) len _ =>
    if Nat.min q.1 len = 0 then some (.int .i64 0, h) else
    match h.get i with
    | some (.cells old false) =>
     if o + (q.2.take (Nat.min q.1 len * inf.size)).length ≤ old.length ∧ (q.2.take (Nat.min q.1 len * inf.size)).all isCell = true then
      some (.int .i64 (Nat.min q.1 len : Nat), h.set i (.cells (spl old o (q.2.take (Nat.min q.1 len * inf.size))) false))
     else none
    | _ => none
   | _ => none
  | _ => none
 | _, _ => none
theorem evCopy_sim {P : Program} {r : Ren} {h h' : H} {w : World} (hrel : Rel r h w) {ts : Array TypeId} {ty : TypeId} {xs : List AV} {xs' : Array Value} {v : AV}
  (hs : evCopy P ts.toList xs h = some (v, h')) (hx : VRL r xs xs'.toList) :
  ∃ v' w', (Builtin.copy_ ts ty xs').run P w = .ok v' w' ∧ VR r v v' ∧ Post r h w r h' w' := by
 unfold evCopy at hs
 split at hs
 ·rename_i t1 d x ht1
  obtain ⟨d', ys, hxs, hvd, hx⟩ := hx.inv_cons
  obtain ⟨x', ys', rfl, hvx, hx⟩ := hx.inv_cons
  obtain rfl : ys' = [] := List.eq_nil_of_length_eq_zero hx.1.symm
  obtain rfl : xs' = #[d', x'] := Array.ext' hxs
  have h1 : ts[0]? = some t1 := by rw [← Array.getElem?_toList]; exact ht1
  split at hs
  ·rename_i e hu1
   obtain ⟨inf, hinf, hs⟩ := Option.bind_eq_some_iff.1 hs
   obtain ⟨⟨n, news⟩, hsrc, hs⟩ := Option.bind_eq_some_iff.1 hs
   obtain ⟨nv, hnv, hnl, hnrun⟩ := evSrc_sim (P := P) hrel hsrc hvx
   have hsz : P.cellsOf e = inf.size := by simp [Program.cellsOf, hinf]
   have run0 : ∀ base len c w', (base = none → w' = w) → (∀ a, base = some a → (storeCells a (nv.take (Nat.min n len * inf.size))).run P w = .ok () w') →
     (Builtin.copy_ ts ty #[.slice base len c, x']).run P w = .ok (goInt (Nat.min n len)) w' := by
    intro base len c w' hnone hst
    have hf := (hnrun w rfl).2 (Nat.min n len) (Nat.min_le_left _ _)
    simp only [Builtin.copy_, h1, List.getElem?_toArray, List.getElem?_cons_zero, List.getElem?_cons_succ, Sem.run_bind, run_underlying hu1, Result.andThen_ok, (hnrun w rfl).1, run_sizeOf w hinf, hsz, hf]
    cases base with
    | none => simp [hnone rfl]
    | some a => simp [hst a rfl]
   simp only at hs
   split at hs
   ·cases hs
    cases hvd
    refine ⟨_, w, run0 _ _ _ w (fun _ => rfl) (fun a ha => by cases ha), ?_, Post.refl hrel⟩
    have : Nat.min n 0 = 0 := Nat.min_eq_right (Nat.zero_le _)
    rw [this]; exact .int _ _
   ·rename_i i o len c _ _
    split at hs
    ·rename_i h0
     cases hs
     have key : ∀ a c', ∃ v' w', (Builtin.copy_ ts ty #[.slice (some a) len c', x']).run P w = .ok v' w' ∧ VR r (.int .i64 0) v' ∧ Post r h w r h w' := by
      intro a c'
      refine ⟨_, w, run0 _ _ _ w (fun h => by cases h) (fun a' ha => by rw [h0]; simp [storeCells]), ?_, Post.refl hrel⟩
      rw [h0]; exact .int _ _
     cases hvd <;> exact key _ _
    ·rename_i h0
     split at hs
     ·rename_i old hg
      split at hs
      ·rename_i hb
       cases hs
       have key : ∀ (t : Tgt) c', r i = some t → ∃ v' w', (Builtin.copy_ ts ty #[.slice (some ⟨t.blk, t.base + o, none⟩) len c', x']).run P w = .ok v' w' ∧ VR r (.int .i64 (Nat.min n len : Nat)) v' ∧
         Post r h w r (h.set i (.cells (spl old o (news.take (Nat.min n len * inf.size))) false)) w' := by
        intro t c' ht
        obtain ⟨w', hw', hpost⟩ := write_row (P := P) hrel ht hg (hnv.take (Nat.min n len * inf.size)) hb.2 (o := o) hb.1
        refine ⟨_, w', run0 _ _ _ w' (fun h => by cases h) (fun a' ha => by cases ha; exact hw'), .int _ _, hpost⟩
       cases hvd with
       | slice _ _ ht => exact key _ _ ht
       | sliceRest _ _ _ ht _ _ => exact key _ _ ht
       | sliceBare _ => exact absurd (Nat.min_eq_right (Nat.zero_le _)) h0
       | sliceEnd _ _ _ => exact absurd (Nat.min_eq_right (Nat.zero_le _)) h0
      ·cases hs
     ·cases hs
   ·cases hs
  ·cases hs
 ·cases hs
def evNext (it : AV) (h : H) : Option (AV × H) :=
 match it with
 | .ptr (some (i, 0)) =>
  match h.get i with
  | some (.siter s pos) =>
   if pos < s.size then some (.tup [.bool true, .int .i64 pos, .int .i32 (Utf8.decode s pos).1], h.set i (.siter s (pos + (Utf8.decode s pos).2)))
   else some (.tup [.bool false], h)
  | _ => none
 | _ => none
theorem VR_tup {r : Ren} {as : List AV} {vs : List Value} (h : VRL r as vs) : VR r (.tup as) (.tuple vs.toArray) :=
 .tup _ _ (by simpa using h.1) fun i a v ha hv => h.2 i a v ha (by simpa using hv)
theorem evNext_sim {P : Program} {r : Ren} {h h' : H} {w : World} (hrel : Rel r h w) {it v : AV} {it' : Value} {ty : TypeId} (hs : evNext it h = some (v, h')) (hx : VR r it it') :
  ∃ v' w', (Instr.next it' true ty).run P w = .ok v' w' ∧ VR r v v' ∧ Post r h w r h' w' := by
 unfold evNext at hs
 split at hs
 ·rename_i i
  split at hs
  ·rename_i s pos hg
   cases hx with
   | ptr ht =>
   rename_i t
   obtain ⟨hb, h0⟩ := hrel.obj _ _ _ ht hg
   have hget : (getObj t.blk).run P w = .ok (.stringIter s pos) w := by simp [getObj, Sem.run, hb]
   simp only [h0, Nat.add_zero]
   split at hs
   ·rename_i hp
    cases hs
    refine ⟨_, { w with heap := w.heap.setIfInBounds t.blk (.stringIter s (pos + (Utf8.decode s pos).2)) }, ?_, VR_tup (vs := [.bool true, goInt pos, .int .i32 (Utf8.decode s pos).1]) (.cons (.bool _) (.cons (.int _ _) (.cons (.int _ _) .nil))), ?_⟩
    ·simp only [Instr.next, Sem.run_bind, hget, Result.andThen_ok, hp, if_true, setObj, Sem.run, hb]
     rfl
    ·have hlt := World.block_lt hb
     refine Post.of_set hrel ht hg rfl rfl (by simp) ⟨rfl, rfl, rfl, fun _ => Nat.le_refl _⟩ (fun b hbb => by simp [Array.getElem?_setIfInBounds_ne (Ne.symm hbb)]) ⟨by simp [hlt], h0⟩
   ·rename_i hp
    cases hs
    refine ⟨_, w, ?_, VR_tup (vs := [.bool false]) (.cons (.bool _) .nil), Post.refl hrel⟩
    simp only [Instr.next, Sem.run_bind, hget, Result.andThen_ok, hp, if_false]
    rfl
  ·cases hs
 ·cases hs
def evPutM (P : Program) (t : TypeId) (m k v : AV) (h : H) : Option H :=
 match P.underlying t, m with
 | some (.map kt _), .map m => (match P.underlying kt with | some kd => if keyKind kd k = true then evMapPut m k v h else none | none => none)
 | _, _ => none
theorem evPutM_sim {P : Program} {r : Ren} {h h' : H} {w : World} (hrel : Rel r h w) {t : TypeId} {m k v : AV} {m' k' v' : Value} (hs : evPutM P t m k v h = some h') (hm : VR r m m') (hk : VR r k k') (hv : VR r v v') :
  ∃ w', (Instr.mapUpdate t m' k' v').run P w = .ok () w' ∧ Post r h w r h' w' := by
 unfold evPutM at hs
 split at hs
 ·rename_i kt e mm hu
  split at hs
  ·rename_i kd hkd
   split at hs
   ·rename_i hkk
    exact evMapPut_sim hrel hu hkd hkk hs hm hk hv
   ·cases hs
  ·cases hs
 ·cases hs
def evDelM (P : Program) (ts : List TypeId) (xs : List AV) (h : H) : Option (AV × H) :=
 match ts, xs with
 | [t, _], [.map m, k] => (match P.underlying t with | some (.map kt _) => (match P.underlying kt with | some kd => if keyKind kd k = true then (evMapDel m k h).map fun h' => (.tup [], h') else none | none => none) | _ => none)
 | _, _ => none
def evClearM (P : Program) (ts : List TypeId) (xs : List AV) (h : H) : Option (AV × H) :=
 match ts, xs with
 | [t], [.map m] => (match P.underlying t with | some (.map _ _) => (evMapClear m h).map fun h' => (.tup [], h') | _ => none)
 | _, _ => none
def evFull (P : Program) (ρ : Operand → AV) (op : Op) (h : H) : Option (AV × H) :=
 match op with
 | .store t a x => (evStore P t (ρ a) (ρ x) h).map fun h' => (.junk, h')
 | .next it true => evNext (ρ it) h
 | .mapUpdate t m k x => (evPutM P t (ρ m) (ρ k) (ρ x) h).map fun h' => (.junk, h')
 | .insert t m k x => (evPutM P t (ρ m) (ρ k) (ρ x) h).map fun h' => (.junk, h')
 | .call c =>
  match c.callee with
  | .builtin .append => evAppend P c.argTypes.toList (c.args.toList.map ρ) h
  | .builtin .copy => evCopy P c.argTypes.toList (c.args.toList.map ρ) h
  | .builtin .delete => evDelM P c.argTypes.toList (c.args.toList.map ρ) h
  | .builtin .clear => evClearM P c.argTypes.toList (c.args.toList.map ρ) h
  | _ => none
 | _ => none
theorem evFull_sim {P : Program} {r : Ren} {h h' : H} {w : World} (hrel : Rel r h w) (hfree : ∀ i, h.next ≤ i → i < h'.next → r i = none) {ρ : Operand → AV} {ρ' : Operand → Value} (hρ : ∀ x, VR r (ρ x) (ρ' x)) (o : Oper) {v : AV}
  (hs : evFull P ρ o.op h = some (v, h')) :
  ∃ r' v' w' n, (execOp ρ' o).run P w = .ok n w' ∧ (n = .value v' ∨ (n = .skip ∧ v' = undef)) ∧ VR r' v v' ∧ Post r h w r' h' w' := by
 unfold evFull at hs
 cases hop : o.op <;> simp only [hop] at hs <;> try (cases hs; done)
 case store t a x =>
  obtain ⟨h'', hst, hs⟩ := Option.map_eq_some_iff.1 hs
  cases hs
  obtain ⟨w', hr, hp⟩ := evStore_sim (P := P) hrel hst (hρ a) (hρ x)
  exact ⟨r, undef, w', .skip, by simp [execOp, hop, hr], .inr ⟨rfl, rfl⟩, .junk _, hp⟩
 case mapUpdate t m k x =>
  obtain ⟨h'', hst, hs⟩ := Option.map_eq_some_iff.1 hs
  cases hs
  obtain ⟨w', hr, hp⟩ := evPutM_sim (P := P) hrel hst (hρ m) (hρ k) (hρ x)
  exact ⟨r, undef, w', .skip, by simp [execOp, hop, hr], .inr ⟨rfl, rfl⟩, .junk _, hp⟩
 case insert t m k x =>
  obtain ⟨h'', hst, hs⟩ := Option.map_eq_some_iff.1 hs
  cases hs
  obtain ⟨w', hr, hp⟩ := evPutM_sim (P := P) hrel hst (hρ m) (hρ k) (hρ x)
  exact ⟨r, undef, w', .skip, by simp [execOp, hop, hr], .inr ⟨rfl, rfl⟩, .junk _, hp⟩
 case next it b =>
  cases b <;> simp only at hs
  ·cases hs
  ·obtain ⟨v', w', hr, hv, hp⟩ := evNext_sim (P := P) (ty := o.type) hrel hs (hρ it)
   exact ⟨r, v', w', .value v', by simp [execOp, hop, hr], .inl rfl, hv, hp⟩
 case call c =>
  have hargs := VRL_ops hρ c.args
  split at hs
  ·rename_i hb
   obtain ⟨r', v', w', hr, hv, hp⟩ := evAppend_sim (P := P) (ty := o.type) hrel hfree hs hargs
   exact ⟨r', v', w', .value v', by simp [execOp, hop, resolve, hb, invoke, builtin, hr], .inl rfl, hv, hp⟩
  ·rename_i hb
   obtain ⟨v', w', hr, hv, hp⟩ := evCopy_sim (P := P) (ty := o.type) hrel hs hargs
   exact ⟨r, v', w', .value v', by simp [execOp, hop, resolve, hb, invoke, builtin, hr], .inl rfl, hv, hp⟩
  ·rename_i hb
   unfold evDelM at hs
   split at hs
   ·rename_i t t2 m k hts hxs
    split at hs
    ·rename_i kt e hu
     split at hs
     ·rename_i kd hkd
      split at hs
      ·rename_i hkk
       obtain ⟨h2, hd, hs⟩ := Option.map_eq_some_iff.1 hs
       cases hs
       rw [hxs] at hargs
       obtain ⟨m', vs', hcs, hm, hr⟩ := hargs.inv_cons
       obtain ⟨k', vs'', hcs2, hk, hr2⟩ := hr.inv_cons
       have hvs : vs'' = [] := List.eq_nil_of_length_eq_zero hr2.1.symm
       subst hvs
       subst hcs2
       have e1 : c.argTypes = #[t, t2] := by rw [← Array.toList_inj]; simpa using hts
       have e2 : c.args.map ρ' = #[m', k'] := by rw [← Array.toList_inj]; simpa using hcs
       obtain ⟨w', hrun, hp⟩ := evMapDel_sim (P := P) (ty := o.type) (t2 := t2) hrel hu hkd hkk hd hm hk
       exact ⟨r, .tuple #[], w', .value (.tuple #[]), by simp [execOp, hop, resolve, hb, invoke, builtin, e1, e2, hrun], .inl rfl, VR_tup (vs := []) .nil, hp⟩
      ·cases hs
     ·cases hs
    ·cases hs
   ·cases hs
  ·rename_i hb
   unfold evClearM at hs
   split at hs
   ·rename_i t m hts hxs
    split at hs
    ·rename_i kt e hu
     obtain ⟨h2, hd, hs⟩ := Option.map_eq_some_iff.1 hs
     cases hs
     rw [hxs] at hargs
     obtain ⟨m', vs', hcs, hm, hr⟩ := hargs.inv_cons
     have hvs : vs' = [] := List.eq_nil_of_length_eq_zero hr.1.symm
     subst hvs
     have e1 : c.argTypes = #[t] := by rw [← Array.toList_inj]; simpa using hts
     have e2 : c.args.map ρ' = #[m'] := by rw [← Array.toList_inj]; simpa using hcs
     obtain ⟨w', hrun, hp⟩ := evMapClear_sim (P := P) (ty := o.type) hrel hu hd hm
     exact ⟨r, .tuple #[], w', .value (.tuple #[]), by simp [execOp, hop, resolve, hb, invoke, builtin, e1, e2, hrun], .inl rfl, VR_tup (vs := []) .nil, hp⟩
    ·cases hs
   ·cases hs
  ·cases hs
abbrev CallFn := FuncId → List AV → H → Option (AV × H)
structure ACall (P : Program) (f : FuncId) (args : List AV) (h : H) (v : AV) (h' : H) : Prop where
 there : ∃ fn, P.funcs[f]? = some fn ∧ fn.body.isNone = false ∧ (fn.name == "runtime.NumGoroutine") = false
 next : h.next ≤ h'.next
 wf : (∀ i o, h.get i = some o → i < h.next) → ∀ i o, h'.get i = some o → i < h'.next
 sim : ∀ (r : Ren) (w : World) (args' : Array Value), Rel r h w → (∀ i, h.next ≤ i → i < h'.next → r i = none) → VRL r args args'.toList →
  Calls P f args' w fun e w' => ∃ r' v', e = .returned v' ∧ VR r' v v' ∧ Post r h w r' h' w'
/-- a function without a body, which the model has a stand-in for -/
structure XCall (P : Program) (f : FuncId) (args : List AV) (h : H) (v : AV) (h' : H) : Prop where
 there : ∃ fn e, P.funcs[f]? = some fn ∧ fn.body.isNone = true ∧ (fn.name == "runtime.NumGoroutine") = false ∧ (Extern.findNext fn).isNone = true ∧ Extern.find fn = some e ∧
  ∀ (r : Ren) (w : World) (args' : Array Value), Rel r h w → (∀ i, h.next ≤ i → i < h'.next → r i = none) → VRL r args args'.toList → ∃ r' v' w', (e args').run P w = .ok v' w' ∧ VR r' v v' ∧ Post r h w r' h' w'
 next : h.next ≤ h'.next
 wf : (∀ i o, h.get i = some o → i < h.next) → ∀ i o, h'.get i = some o → i < h'.next
def Called (P : Program) (f : FuncId) (args : List AV) (h : H) (v : AV) (h' : H) : Prop := ACall P f args h v h' ∨ XCall P f args h v h'
theorem Called.next {P : Program} {f : FuncId} {args : List AV} {h : H} {v : AV} {h' : H} (c : Called P f args h v h') : h.next ≤ h'.next := c.elim (·.next) (·.next)
theorem Called.wf {P : Program} {f : FuncId} {args : List AV} {h : H} {v : AV} {h' : H} (c : Called P f args h v h') : (∀ i o, h.get i = some o → i < h.next) → ∀ i o, h'.get i = some o → i < h'.next := c.elim (·.wf) (·.wf)
def CallFn.Sound (P : Program) (call : CallFn) : Prop := ∀ f args h v h', call f args h = some (v, h') → Called P f args h v h'
inductive Class where
 | pure | alloc | read | full
 deriving DecidableEq
def sliceD (P : Program) (t : TypeId) : Bool := match P.underlying t with | some (.slice _) => true | _ => false
def mapD (P : Program) (t : TypeId) : Bool := match P.underlying t with | some (.map _ _) => true | _ => false
def cls (P : Program) (op : Op) : Class :=
 match op with
 | .alloc _ => .alloc
 | .box _ _ => .alloc
 | .buildSlice _ _ _ => .alloc
 | .makeMap _ _ => .alloc
 | .makeSlice _ _ _ => .alloc
 | .range _ _ => .alloc
 | .load _ _ => .read
 | .lookup _ _ _ _ => .read
 | .convert s d _ => if sliceD P d then .alloc else if sliceD P s then .read else .pure
 | .insert _ _ _ _ => .full
 | .call c => match c.callee with | .builtin .len => if mapD P (c.argTypes.toList.headD 0) then .read else .pure | .builtin .max => .pure | .builtin .min => .pure | _ => .full
 | .store _ _ _ => .full
 | .next _ _ => .full
 | .mapUpdate _ _ _ _ => .full
 | _ => .pure
def evOper (P : Program) (call : CallFn) (ρ : Operand → AV) (op : Op) (h : H) : Option (AV × H) :=
 match cls P op with
 | .pure => (evPure P ρ op).map fun v => (v, h)
 | .alloc => (evAlloc P ρ op).map fun q => (q.2 h.next, h.newO q.1)
 | .read => (evRead P ρ op h).map fun v => (v, h)
 | .full =>
  match op with
  | .call c =>
   match c.callee with
   | .value x => match ρ x with | .func f first caps => call f (first ++ c.args.toList.map ρ ++ caps) h | _ => none
   | _ => evFull P ρ op h
  | _ => evFull P ρ op h
/-- what carrying out one operation leads to -/
def Leads (P : Program) (o : Oper) (a : Act) (w : World) (Φ : Value → World → Prop) : Prop :=
 ∀ (Q : Exit → Act → World → Prop) (K : Act → World → Prop), (∀ v' w', Φ v' w' → K (a.put o.dst v') w') → o.wp P a w K Q
theorem Leads.of_run {P : Program} {o : Oper} {a : Act} {w w' : World} {Φ : Value → World → Prop} {n : Next} {v' : Value} (hr : (execOp a.eval o).run P w = .ok n w') (hn : n = .value v' ∨ (n = .skip ∧ v' = undef)) (h : Φ v' w') : Leads P o a w Φ := by
 intro Q K hK
 unfold Oper.wp
 rw [hr]
 rcases hn with rfl | ⟨rfl, rfl⟩
 ·exact hK _ _ h
 ·exact hK _ _ h
theorem pure_leads {P : Program} {r : Ren} {ρ : Operand → AV} {o : Oper} {a : Act} (hρ : ∀ x, VR r (ρ x) (a.eval x)) {v : AV} (h : evPure P ρ o.op = some v) (w : World) : Leads P o a w fun v' w' => VR r v v' ∧ w' = w := by
 obtain ⟨v', hv, hr⟩ := evPure_sim hρ o h
 exact Leads.of_run (hr w) (.inl rfl) ⟨hv, rfl⟩
theorem read_leads {P : Program} {r : Ren} {ρ : Operand → AV} {o : Oper} {a : Act} (hρ : ∀ x, VR r (ρ x) (a.eval x)) {v : AV} {h : H} {w : World} (hrel : Rel r h w) (hv : evRead P ρ o.op h = some v) : Leads P o a w fun v' w' => VR r v v' ∧ w' = w := by
 obtain ⟨v', hv, hr⟩ := evRead_sim hrel hρ o hv
 exact Leads.of_run hr (.inl rfl) ⟨hv, rfl⟩
/-- what a new block brings: in whatever world, whatever else lies there -/
theorem alloc_leads {P : Program} {r : Ren} {ρ : Operand → AV} {o : Oper} {a : Act} (hρ : ∀ x, VR r (ρ x) (a.eval x)) {ob : Option AObj} {mk : Nat → AV} (h : evAlloc P ρ o.op = some (ob, mk)) (w : World) :
  Leads P o a w fun v' w' => ∃ row, w'.heap.size = w.heap.size + 1 ∧ Env w w' ∧ (∀ b, b < w.heap.size → w'.heap[b]? = w.heap[b]?) ∧
   (∀ x, ob = some x → ∀ r' : Ren, r.le r' → OR r' w' ⟨w.heap.size, 0, row⟩ x) ∧ (∀ r' i, r'.le r' → r' i = some ⟨w.heap.size, 0, row⟩ → VR r' (mk i) v') := by
 obtain ⟨s, hs, hm⟩ := evAlloc_sim (P := P) hρ o h
 obtain ⟨row, v', w', h1, h2, he, h3, h4, h5⟩ := hm.run w
 exact Leads.of_run (n := .value v') (by rw [hs]; simp [h1]) (.inl rfl) ⟨row, h2, he, h3, h4, h5⟩
theorem full_leads {P : Program} {call : CallFn} (hcall : call.Sound P) {r : Ren} {ρ : Operand → AV} {o : Oper} {a : Act} (hρ : ∀ x, VR r (ρ x) (a.eval x)) {v : AV} {h h' : H} {w : World} (hrel : Rel r h w)
  (hfree : ∀ i, h.next ≤ i → i < h'.next → r i = none) (hc : cls P o.op = .full) (hv : evOper P call ρ o.op h = some (v, h')) :
  Leads P o a w fun v' w' => ∃ r', VR r' v v' ∧ Post r h w r' h' w' := by
 unfold evOper at hv
 rw [hc] at hv
 simp only at hv
 have main : evFull P ρ o.op h = some (v, h') → Leads P o a w fun v' w' => ∃ r', VR r' v v' ∧ Post r h w r' h' w' := by
  intro hf
  obtain ⟨r', v', w', n, hr, hn, hv, hp⟩ := evFull_sim hrel hfree hρ o hf
  exact Leads.of_run hr hn ⟨r', hv, hp⟩
 split at hv
 ·rename_i c hop
  split at hv
  ·rename_i x hx
   have hxv := hρ x
   split at hv
   ·rename_i f first caps hfx
    rw [hfx] at hxv
    generalize hq : a.eval x = q at hxv
    cases hxv with
    | func _ _ _ first' caps' h1 h2 h3 h4 =>
    have hac0 := hcall _ _ _ _ _ hv
    have hargs : VRL r (first ++ c.args.toList.map ρ ++ caps) (first' ++ c.args.map a.eval ++ caps').toList := by
     rw [Array.toList_append, Array.toList_append]
     have e1 : VRL r first first'.toList := ⟨by simpa using h1, fun i x v hx hv => h3 i x v hx (by simpa using hv)⟩
     have e2 : VRL r caps caps'.toList := ⟨by simpa using h2, fun i x v hx hv => h4 i x v hx (by simpa using hv)⟩
     exact (e1.append (VRL_ops hρ c.args)).append e2
    rcases hac0 with hac | hax
    rotate_left
    ·obtain ⟨fn, e, hfn, hbody, hname, hnx, hex, hsim⟩ := hax.there
     obtain ⟨r', v', w', hr, hv', hp⟩ := hsim r w _ hrel hfree hargs
     have hn1 : ¬ fn.name = "runtime.NumGoroutine" := by simpa using hname
     have hb1 : fn.body = none := by simpa using hbody
     have hnx1 : Extern.findNext fn = none := by simpa using hnx
     rw [Array.append_assoc] at hr
     refine Leads.of_run (n := .value v') ?_ (.inl rfl) ⟨r', hv', hp⟩
     simp [execOp, hop, resolve, hx, hq, Deferred.ofValue, invoke, callFunc, hfn, hb1, hn1, hnx1, hex, hr]
    obtain ⟨fn, hfn, hbody, hname⟩ := hac.there
    have hsim := hac.sim r w _ hrel hfree hargs
    intro Q K hK
    unfold Oper.wp
    have hr : (execOp a.eval o).run P w = .ok (.enter f (first' ++ c.args.map a.eval ++ caps')) w := by
     have hn1 : ¬ fn.name = "runtime.NumGoroutine" := by simpa using hname
     have hb1 : ¬ fn.body = none := fun e => by rw [e] at hbody; cases hbody
     simp [execOp, hop, resolve, hx, hq, Deferred.ofValue, invoke, callFunc, hfn, hb1, hn1]
    rw [hr, Oper.upon_enter]
    refine hsim.mono fun e w' he => ?_
    obtain ⟨r', v', rfl, hv', hp⟩ := he
    exact hK _ _ ⟨r', hv', hp⟩
   ·cases hv
  ·exact main hv
 ·exact main hv
end Go.Ev
