/- The abstract machine Ev, part S: from a row's arguments to the abstract machine, and from what it computes to the row's call. -/
import Derived.Test.YtgaflglknjjalaaEvR
import Derived.ProofKit
import Derived.OpenShut
import Derived.ShutString
import Derived.ChangeOld
import Derived.Below
import Derived.Carry
import Derived.SizedLaws
set_option linter.all false
namespace Go.Ev
open Go.RowKit

/-! ### rows that came in: nobody writes them -/

abbrev Rows0 := List (Option Tgt × List AV)

def H0 (rows : Rows0) : H := ⟨rows.length, fun i => (rows[i]?).map fun x => .cells x.2 true⟩
def r0 (rows : Rows0) : Ren := fun i => (rows[i]?).bind fun x => x.1

/-- a row that came in stands in the world -/
def RowOK (r : Ren) (w : World) (t : Tgt) (cs : List AV) : Prop :=
  ∃ C e fz, w.heap[t.blk]? = some (.cells C e fz) ∧ t.row ≤ C.size ∧ t.base + cs.length ≤ t.row ∧ ∀ (i : Nat) (a : AV) (v : Value), cs[i]? = some a → C[t.base + i]? = some v → VR r a v

theorem rel0 {rows : Rows0} {w : World} (h : ∀ x ∈ rows, ∀ t, x.1 = some t → RowOK (r0 rows) w t x.2) : Rel (r0 rows) (H0 rows) w where
  wf := fun i o hi => by
    simp only [H0, Option.map_eq_some_iff] at hi ⊢
    obtain ⟨x, hx, _⟩ := hi
    exact (List.getElem?_eq_some_iff.1 hx).1
  obj := fun i t o hr hi => by
    simp only [H0, Option.map_eq_some_iff, r0, Option.bind_eq_some_iff] at hi hr
    obtain ⟨x, hx, rfl⟩ := hi
    obtain ⟨y, hy, ht⟩ := hr
    rw [hx] at hy; cases hy
    obtain ⟨C, e, fz, h1, h2, h3, h4⟩ := h x (List.mem_of_getElem? hx) t ht
    exact ⟨C, e, fz, h1, h2, h3, h4, fun h => by cases h⟩
  inj := fun i j ti tj oi oj _ _ hi hj _ => by
    simp only [H0, Option.map_eq_some_iff] at hi hj
    obtain ⟨x, _, rfl⟩ := hi
    obtain ⟨y, _, rfl⟩ := hj
    exact .inr ⟨rfl, rfl⟩
  bound := fun i t hr => by
    simp only [r0, Option.bind_eq_some_iff] at hr
    obtain ⟨y, hy, ht⟩ := hr
    obtain ⟨C, e, fz, h1, _⟩ := h y (List.mem_of_getElem? hy) t ht
    exact World.block_lt h1

/-- **What the abstract machine computes from rows that nobody writes, the call comes to; and it turns nothing that was there.** -/
theorem ACall.run {P : Program} {f : FuncId} {args : List AV} {rows : Rows0} {v : AV} {h' : H} (c : ACall P f args (H0 rows) v h') {w : World} {args' : Array Value}
    (h : ∀ x ∈ rows, ∀ t, x.1 = some t → RowOK (r0 rows) w t x.2) (ha : VRL (r0 rows) args args'.toList) :
    Calls P f args' w fun e w' => (∃ r' v', e = .returned v' ∧ VR r' v v') ∧ Below w.heap.size w w' := by
  refine (c.sim (r0 rows) w args' (rel0 h) (fun i hi _ => ?_) ha).mono fun e w' ⟨r', v', he, hv, hp⟩ => ⟨⟨r', v', he, hv⟩, ⟨hp.env.1, hp.env.2.1, hp.env.2.2.1, hp.size, fun b hb => hp.keep b hb fun i t o _ _ ho => ?_⟩⟩
  · simp only [H0] at hi
    simp [r0, List.getElem?_eq_none hi]
  · simp only [H0, Option.map_eq_some_iff] at ho
    obtain ⟨x, _, rfl⟩ := ho
    rfl

theorem ACall.run_true {P : Program} {f : FuncId} {args : List AV} {rows : Rows0} {h' : H} (c : ACall P f args (H0 rows) (.bool true) h') {w : World} {args' : Array Value}
    (h : ∀ x ∈ rows, ∀ t, x.1 = some t → RowOK (r0 rows) w t x.2) (ha : VRL (r0 rows) args args'.toList) :
    Calls P f args' w fun e w' => e = .returned (.bool true) ∧ Below w.heap.size w w' :=
  (c.run h ha).mono fun e w' ⟨⟨r', v', he, hv⟩, hb⟩ => ⟨by cases hv; exact he, hb⟩

/-! ### plain data: cells that are numbers, truth values, texts -/

inductive FK where
  | int (k : IntKind)
  | bool
  | str

def FK.fits : FK → AV → Prop
  | .int k, v => ∃ n, v = .int k n ∧ (Lit.int k n).wf = true
  | .bool, v => ∃ b, v = .bool b
  | .str, v => ∃ s, v = .str s ∧ s.size ≤ maxLen

inductive Fits : List FK → List AV → Prop
  | nil : Fits [] []
  | cons {k : FK} {v : AV} {ks : List FK} {vs : List AV} : k.fits v → Fits ks vs → Fits (k :: ks) (v :: vs)

theorem Fits.append {ks ls : List FK} {vs us : List AV} (h : Fits ks vs) (h' : Fits ls us) : Fits (ks ++ ls) (vs ++ us) := by
  induction h with
  | nil => exact h'
  | cons a _ ih => exact .cons a ih
theorem Fits.length {ks : List FK} {vs : List AV} (h : Fits ks vs) : vs.length = ks.length := by
  induction h with
  | nil => rfl
  | cons a _ ih => simp [ih]

def flatFields (P : Program) (f : TypeId → Option (List FK)) : List Field → Nat → Option (List FK)
  | [], _ => some []
  | fd :: fs, off => if fd.offset = off then (match f fd.type with | some l => if P.cellsOf fd.type = l.length then (flatFields P f fs (off + l.length)).map (l ++ ·) else none | none => none) else none

def flatK (P : Program) : Nat → TypeId → Option (List FK)
  | 0, _ => none
  | n + 1, t =>
    match P.underlying t with
    | some (.int k) => some [.int k]
    | some .bool => some [.bool]
    | some .string => some [.str]
    | some (.array m e) => (match flatK P n e with | some l => if P.cellsOf e = l.length ∧ P.cellsOf t = m * l.length then some (List.replicate m l).flatten else none | none => none)
    | some (.struct fs) => (match flatFields P (flatK P n) fs.toList 0 with | some l => if P.cellsOf t = l.length then some l else none | none => none)
    | _ => none

section
variable {H : Type} {enc : TypeId × Value → H} {P : Program} {w : World} {base : Nat} {spare : Nat → Bool} {held : Bool}

theorem Addr_add_add (a : Addr) (m n : Nat) : (a.add m).add n = a.add (m + n) := by
  unfold Addr.add
  by_cases hm : m = 0
  · subst hm; simp
  · by_cases hn : n = 0
    · subst hn; simp [hm]
    · simp [hm, hn, Nat.add_assoc]
theorem Addr_add_block (a : Addr) (m : Nat) : (a.add m).block = a.block := by unfold Addr.add; split <;> rfl
theorem Addr_add_off (a : Addr) (m : Nat) : (a.add m).off = a.off + m := by unfold Addr.add; split <;> simp [*]

def noRen : Ren := fun _ => none
theorem noRen_le (r : Ren) : noRen.le r := fun _ _ h => by cases h

/-- What is known of a slice that came in: its row's cells, all of them (the spare ones too), and how the slice's value looks. -/
structure Arg (i : Nat) (ks : List FK) (B : Nat) (p : Option (Nat × Nat)) (len : Nat) (c : Cap) (cs : List AV) : Prop where
  look : ∃ cap, len ≤ cap ∧ cap * B ≤ reachBytes ∧ Fits (List.replicate cap ks).flatten cs ∧ ((p = none ∧ len = 0 ∧ c = .known 0 ∧ cap = 0) ∨ (p = some (i, 0) ∧ (c = .rest ks.length ∨ (c = .known 0 ∧ cap = 0))))

theorem cells_mem {a : Addr} {n : Nat} {vs : List Value} (h : w.cells? base a n = some vs) : vs.length = n ∧ ∀ j, j < n → w.cell? (a.add j) = vs[j]? := by
  unfold World.cells? at h
  split at h
  · exact ⟨by simpa using mapM_some_length h, fun j hj => mapM_some_get h j j (by simp [hj])⟩
  · cases h

theorem cell_block {a : Addr} {v : Value} (h : w.cell? a = some v) : a.spot = none ∧ ∃ C e fz, w.heap[a.block]? = some (.cells C e fz) ∧ C[a.off]? = some v := by
  unfold World.cell? at h
  split at h
  · rename_i C e fz hb
    split at h
    · cases h
    · rename_i hs
      exact ⟨by simpa using hs, C, e, fz, hb, h⟩
  · cases h

end

/-! ### a row's arguments behind the call read as they did -/

theorem trodAll_behind {H : Type} {enc : TypeId × Value → H} {P : Program} (hl : laidOutB P = true) {W W' : World} (hb : Below W.heap.size W W') : ∀ (ts : List TypeId) (vs : List Value) (ds : List (DataW H)) (ps : List MemPlace),
    (∀ t ∈ ts, P.readableRec t = true ∧ t < P.types.size) → DataW.TrodAll enc P W 0 (fun _ => true) true ts vs ds ps → (∀ x ∈ ps, x.block < W.heap.size) → DataW.TrodAll enc P W' 0 (fun b => decide (b < W.heap.size)) true ts vs ds ps
  | [], vs, ds, ps, _, h, _ => by
    cases vs <;> cases ds <;> first | exact h | cases h
  | t :: ts, vs, ds, ps, hr, h, hlt => by
    cases vs with
    | nil => cases ds <;> cases h
    | cons v vs =>
      cases ds with
      | nil => cases h
      | cons d ds =>
        obtain ⟨p, q, h1, h2, rfl⟩ := h
        exact ⟨p, q, Below.trod hl (hr t (by simp)).1 (hr t (by simp)).2 h1 hb (fun x hx => hlt x (by simp [hx])), trodAll_behind hl hb ts vs ds q (fun t ht => hr t (by simp [ht])) h2 (fun x hx => hlt x (by simp [hx])), rfl⟩

end Go.Ev
