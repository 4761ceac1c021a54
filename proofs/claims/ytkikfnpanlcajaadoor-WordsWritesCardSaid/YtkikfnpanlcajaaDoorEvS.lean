/- The abstract machine Ev, part S: from a row's arguments to the abstract machine, and from what it computes to the row's call. -/
import Derived.Test.YtkikfnpanlcajaaDoorEvR
import Derived.ProofKit
import Derived.OpenShut
import Derived.ShutString
import Derived.ChangeOld
import Derived.Below
import Derived.Carry
import Derived.SizedLaws
set_option linter.all false
namespace Go.Ev
open Go.RowKit

/-! ### rows that came in: nobody writes them -/

abbrev Rows0 := List (Option Tgt × List AV)

def H0 (rows : Rows0) : H := ⟨rows.length, fun i => (rows[i]?).map fun x => .cells x.2 true⟩
def r0 (rows : Rows0) : Ren := fun i => (rows[i]?).bind fun x => x.1

/-- a row that came in stands in the world -/
def RowOK (r : Ren) (w : World) (t : Tgt) (cs : List AV) : Prop :=
  ∃ C e fz, w.heap[t.blk]? = some (.cells C e fz) ∧ t.row ≤ C.size ∧ t.base + cs.length ≤ t.row ∧ ∀ (i : Nat) (a : AV) (v : Value), cs[i]? = some a → C[t.base + i]? = some v → VR r a v

theorem rel0 {rows : Rows0} {w : World} (h : ∀ x ∈ rows, ∀ t, x.1 = some t → RowOK (r0 rows) w t x.2) (hg : GL (r0 rows)) : Rel (r0 rows) (H0 rows) w where
  wf := fun i o hi => by
    simp only [H0, Option.map_eq_some_iff] at hi ⊢
    obtain ⟨x, hx, _⟩ := hi
    exact (List.getElem?_eq_some_iff.1 hx).1
  obj := fun i t o hr hi => by
    simp only [H0, Option.map_eq_some_iff, r0, Option.bind_eq_some_iff] at hi hr
    obtain ⟨x, hx, rfl⟩ := hi
    obtain ⟨y, hy, ht⟩ := hr
    rw [hx] at hy; cases hy
    obtain ⟨C, e, fz, h1, h2, h3, h4⟩ := h x (List.mem_of_getElem? hx) t ht
    exact ⟨C, e, fz, h1, h2, h3, h4, fun h => by cases h⟩
  inj := fun i j ti tj oi oj _ _ hi hj _ => by
    simp only [H0, Option.map_eq_some_iff] at hi hj
    obtain ⟨x, _, rfl⟩ := hi
    obtain ⟨y, _, rfl⟩ := hj
    exact .inr ⟨rfl, rfl⟩
  bound := fun i t hr => by
    simp only [r0, Option.bind_eq_some_iff] at hr
    obtain ⟨y, hy, ht⟩ := hr
    obtain ⟨C, e, fz, h1, _⟩ := h y (List.mem_of_getElem? hy) t ht
    exact World.block_lt h1
  glob := hg

theorem GL.none {rows : Rows0} (e : glTab = []) : GL (r0 rows) := fun g i h => by rw [e] at h; cases h

/-- **What the abstract machine computes from rows that nobody writes, the call comes to; and it turns nothing that was there.** -/
theorem ACall.run {P : Program} {f : FuncId} {args : List AV} {rows : Rows0} {v : AV} {h' : H} (c : ACall P f args (H0 rows) v h') {w : World} {args' : Array Value}
    (h : ∀ x ∈ rows, ∀ t, x.1 = some t → RowOK (r0 rows) w t x.2) (ha : VRL (r0 rows) args args'.toList) (hg : GL (r0 rows) := by exact GL.none rfl) :
    Calls P f args' w fun e w' => (∃ r' v', e = .returned v' ∧ VR r' v v') ∧ Below w.heap.size w w' := by
  refine (c.sim (r0 rows) w args' (rel0 h hg) (fun i hi _ => ?_) ha).mono fun e w' ⟨r', v', he, hv, hp⟩ => ⟨⟨r', v', he, hv⟩, ⟨hp.env.1, hp.env.2.1, hp.env.2.2.1, hp.size, fun b hb => hp.keep b hb fun i t o _ _ ho => ?_⟩⟩
  · simp only [H0] at hi
    simp [r0, List.getElem?_eq_none hi]
  · simp only [H0, Option.map_eq_some_iff] at ho
    obtain ⟨x, _, rfl⟩ := ho
    rfl

theorem ACall.run_true {P : Program} {f : FuncId} {args : List AV} {rows : Rows0} {h' : H} (c : ACall P f args (H0 rows) (.bool true) h') {w : World} {args' : Array Value}
    (h : ∀ x ∈ rows, ∀ t, x.1 = some t → RowOK (r0 rows) w t x.2) (ha : VRL (r0 rows) args args'.toList) (hg : GL (r0 rows) := by exact GL.none rfl) :
    Calls P f args' w fun e w' => e = .returned (.bool true) ∧ Below w.heap.size w w' :=
  (c.run h ha hg).mono fun e w' ⟨⟨r', v', he, hv⟩, hb⟩ => ⟨by cases hv; exact he, hb⟩

/-! ### plain data: cells that are numbers, truth values, texts -/

inductive FK where
  | int (k : IntKind)
  | bool
  | str

def FK.fits : FK → AV → Prop
  | .int k, v => ∃ n, v = .int k n ∧ (Lit.int k n).wf = true
  | .bool, v => ∃ b, v = .bool b
  | .str, v => ∃ s, v = .str s ∧ s.size ≤ maxLen

inductive Fits : List FK → List AV → Prop
  | nil : Fits [] []
  | cons {k : FK} {v : AV} {ks : List FK} {vs : List AV} : k.fits v → Fits ks vs → Fits (k :: ks) (v :: vs)

theorem Fits.append {ks ls : List FK} {vs us : List AV} (h : Fits ks vs) (h' : Fits ls us) : Fits (ks ++ ls) (vs ++ us) := by
  induction h with
  | nil => exact h'
  | cons a _ ih => exact .cons a ih
theorem Fits.length {ks : List FK} {vs : List AV} (h : Fits ks vs) : vs.length = ks.length := by
  induction h with
  | nil => rfl
  | cons a _ ih => simp [ih]

def flatFields (P : Program) (f : TypeId → Option (List FK)) : List Field → Nat → Option (List FK)
  | [], _ => some []
  | fd :: fs, off => if fd.offset = off then (match f fd.type with | some l => if P.cellsOf fd.type = l.length then (flatFields P f fs (off + l.length)).map (l ++ ·) else none | none => none) else none

def flatK (P : Program) : Nat → TypeId → Option (List FK)
  | 0, _ => none
  | n + 1, t =>
    match P.underlying t with
    | some (.int k) => some [.int k]
    | some .bool => some [.bool]
    | some .string => some [.str]
    | some (.array m e) => (match flatK P n e with | some l => if P.cellsOf e = l.length ∧ P.cellsOf t = m * l.length then some (List.replicate m l).flatten else none | none => none)
    | some (.struct fs) => (match flatFields P (flatK P n) fs.toList 0 with | some l => if P.cellsOf t = l.length then some l else none | none => none)
    | _ => none

section
variable {H : Type} {enc : TypeId × Value → H} {P : Program} {w : World} {base : Nat} {spare : Nat → Bool} {held : Bool}

theorem flat_fields {r : Ren} {n m : Nat} (ih : ∀ t ks cs x, flatK P n t = some ks → DataW.trod enc P w base spare held m t cs = some x → ∃ as, VRL r as cs ∧ Fits ks as) {cs : List Value} :
    ∀ (fs : List Field) (off : Nat) (ks : List FK), flatFields P (flatK P n) fs off = some ks → (∀ (i : Nat) (f : Field), fs[i]? = some f → ∃ x, DataW.trod enc P w base spare held m f.type ((cs.drop f.offset).take (P.cellsOf f.type)) = some x) → cs.length = off + ks.length →
      ∃ as, VRL r as (cs.drop off) ∧ Fits ks as
  | [], off, ks, hf, _, hl => by
    simp only [flatFields] at hf
    cases hf
    exact ⟨[], by rw [List.drop_of_length_le (by simp at hl; omega)]; exact .nil, .nil⟩
  | fd :: fs, off, ks, hf, hx, hl => by
    simp only [flatFields] at hf
    split at hf
    · rename_i ho
      split at hf
      · rename_i l hfl
        split at hf
        · rename_i hc
          obtain ⟨ls, hls, rfl⟩ := Option.map_eq_some_iff.1 hf
          obtain ⟨x, hx0⟩ := hx 0 fd rfl
          obtain ⟨as, h1, h2⟩ := ih _ _ _ _ hfl hx0
          obtain ⟨bs, h3, h4⟩ := flat_fields ih fs (off + l.length) ls hls (fun i f hi => hx (i + 1) f hi) (by simp at hl; omega)
          refine ⟨as ++ bs, ?_, h2.append h4⟩
          have := h1.append h3
          rw [ho, hc] at this
          rw [← List.drop_drop, List.take_append_drop] at this
          exact this
        · cases hf
      · cases hf
    · cases hf

theorem flat_items {r : Ren} {n m e c : Nat} {ks : List FK} (hk : flatK P n e = some ks) (hc : c = ks.length) (ih : ∀ t ks cs x, flatK P n t = some ks → DataW.trod enc P w base spare held m t cs = some x → ∃ as, VRL r as cs ∧ Fits ks as) {cs : List Value} :
    ∀ (k off : Nat), (∀ i, off ≤ i → i < off + k → ∃ x, DataW.trod enc P w base spare held m e ((cs.drop (i * c)).take c) = some x) → cs.length = (off + k) * c → ∃ as, VRL r as (cs.drop (off * c)) ∧ Fits (List.replicate k ks).flatten as
  | 0, off, _, hl => ⟨[], by rw [List.drop_of_length_le (by simp at hl; omega)]; exact .nil, by simpa using .nil⟩
  | k + 1, off, hx, hl => by
    obtain ⟨x, hx0⟩ := hx off (Nat.le_refl _) (by omega)
    obtain ⟨as, h1, h2⟩ := ih _ _ _ _ hk hx0
    obtain ⟨bs, h3, h4⟩ := flat_items hk hc ih k (off + 1) (fun i h1 h2 => hx i (by omega) (by omega)) (by rw [hl]; congr 1; omega)
    refine ⟨as ++ bs, ?_, ?_⟩
    · have := h1.append h3
      rw [Nat.add_mul, Nat.one_mul, ← List.drop_drop, List.take_append_drop] at this
      exact this
    · rw [List.replicate_succ, List.flatten_cons]; exact h2.append h4

theorem flat_open {r : Ren} : ∀ (n : Nat) (fuel : Nat) (t : TypeId) (ks : List FK) (cs : List Value) (x : DataW H × List MemPlace), flatK P n t = some ks → DataW.trod enc P w base spare held fuel t cs = some x → ∃ as, VRL r as cs ∧ Fits ks as
  | 0, _, _, _, _, _, hf, _ => by cases hf
  | n + 1, 0, _, _, _, _, _, h => by simp [DataW.trod] at h
  | n + 1, m + 1, t, ks, cs, x, hf, h => by
    unfold flatK at hf
    split at hf
    · rename_i k hu
      cases hf
      unfold DataW.trod at h
      rw [hu] at h
      split at h <;> simp_all
      obtain ⟨hh, _⟩ := h
      exact ⟨[.int _ _], .cons (.int _ _) .nil, .cons ⟨_, rfl, hh.2⟩ .nil⟩
    · rename_i hu
      cases hf
      unfold DataW.trod at h
      rw [hu] at h
      split at h <;> simp_all
      rename_i b
      exact ⟨[.bool b], .cons (.bool _) .nil, .cons ⟨_, rfl⟩ .nil⟩
    · rename_i hu
      cases hf
      unfold DataW.trod at h
      rw [hu] at h
      split at h <;> simp_all
      rename_i s
      exact ⟨[.str s], .cons (.str _) .nil, .cons ⟨_, rfl, h.1⟩ .nil⟩
    · rename_i k e hu
      split at hf
      · rename_i l hl
        split at hf
        · rename_i hc
          cases hf
          obtain ⟨xs, m', hm, _, hlen, hxl, hel⟩ := DataW.trod_array hu h
          cases hm
          obtain ⟨as, h1, h2⟩ := flat_items (r := r) (c := P.cellsOf e) hl hc.1 (fun t ks cs x => flat_open n m t ks cs x) k 0 (cs := cs) (fun i _ hi => by
            rw [hel i (by omega)]
            exact ⟨_, List.getElem?_eq_getElem (by omega)⟩) (by rw [hlen, hc.2, hc.1]; simp)
          exact ⟨as, by simpa using h1, h2⟩
        · cases hf
      · cases hf
    · rename_i fs hu
      split at hf
      · rename_i l hl
        split at hf
        · rename_i hc
          cases hf
          obtain ⟨xs, m', hm, _, hlen, hxl, hel⟩ := DataW.trod_struct hu h
          cases hm
          obtain ⟨as, h1, h2⟩ := flat_fields (r := r) (fun t ks cs x => flat_open n m t ks cs x) fs.toList 0 ks hl (cs := cs) (fun i f hi => by
            have hi' : fs[i]? = some f := by simpa using hi
            rw [hel i f hi']
            have := (List.getElem?_eq_some_iff.1 hi).1
            exact ⟨_, List.getElem?_eq_getElem (by rw [hxl]; simpa using this)⟩) (by rw [hlen, hc]; simp)
          exact ⟨as, by simpa using h1, h2⟩
        · cases hf
      · cases hf
    · cases hf

theorem Addr_add_add (a : Addr) (m n : Nat) : (a.add m).add n = a.add (m + n) := by
  unfold Addr.add
  by_cases hm : m = 0
  · subst hm; simp
  · by_cases hn : n = 0
    · subst hn; simp [hm]
    · simp [hm, hn, Nat.add_assoc]
theorem Addr_add_block (a : Addr) (m : Nat) : (a.add m).block = a.block := by unfold Addr.add; split <;> rfl
theorem Addr_add_off (a : Addr) (m : Nat) : (a.add m).off = a.off + m := by unfold Addr.add; split <;> simp [*]

def noRen : Ren := fun _ => none
theorem noRen_le (r : Ren) : noRen.le r := fun _ _ h => by cases h

/-- What is known of a slice that came in: its row's cells, all of them (the spare ones too), and how the slice's value looks. -/
structure Arg (i : Nat) (ks : List FK) (B : Nat) (p : Option (Nat × Nat)) (len : Nat) (c : Cap) (cs : List AV) : Prop where
  look : ∃ cap, len ≤ cap ∧ cap * B ≤ reachBytes ∧ Fits (List.replicate cap ks).flatten cs ∧ ((p = none ∧ len = 0 ∧ c = .known 0 ∧ cap = 0) ∨ (p = some (i, 0) ∧ (c = .rest ks.length ∨ (c = .known 0 ∧ cap = 0))))

theorem cells_mem {a : Addr} {n : Nat} {vs : List Value} (h : w.cells? base a n = some vs) : vs.length = n ∧ ∀ j, j < n → w.cell? (a.add j) = vs[j]? := by
  unfold World.cells? at h
  split at h
  · exact ⟨by simpa using mapM_some_length h, fun j hj => mapM_some_get h j j (by simp [hj])⟩
  · cases h

theorem open_items {r : Ren} {a : Addr} {n m e c : Nat} {ks : List FK} (hk : flatK P n e = some ks) (hc : c = ks.length) : ∀ (k off : Nat), (∀ i, off ≤ i → i < off + k → ∃ x, (w.cells? base (a.add (i * c)) c).bind (DataW.trod enc P w base spare held m e) = some x) →
    ∃ as, Fits (List.replicate k ks).flatten as ∧ ∀ j x, as[j]? = some x → ∃ v, w.cell? (a.add (off * c + j)) = some v ∧ VR r x v
  | 0, off, _ => ⟨[], by simpa using .nil, fun j x h => by simp at h⟩
  | k + 1, off, hx => by
    obtain ⟨x, hx0⟩ := hx off (Nat.le_refl _) (by omega)
    obtain ⟨vs, hv, hx0⟩ := Option.bind_eq_some_iff.1 hx0
    obtain ⟨hl, hg⟩ := cells_mem hv
    obtain ⟨as, h1, h2⟩ := flat_open (r := r) n m e ks vs x hk hx0
    obtain ⟨bs, h3, h4⟩ := open_items (r := r) (a := a) hk hc k (off + 1) (fun i h1 h2 => hx i (by omega) (by omega))
    have hal : as.length = c := by rw [h1.1, hl]
    refine ⟨as ++ bs, ?_, fun j y hj => ?_⟩
    · rw [List.replicate_succ, List.flatten_cons]; exact h2.append h3
    · rcases Nat.lt_or_ge j c with h | h
      · rw [List.getElem?_append_left (by omega)] at hj
        have hv2 : vs[j]? = some (vs[j]'(by omega)) := List.getElem?_eq_getElem _
        refine ⟨_, ?_, h1.2 j y _ hj hv2⟩
        have := hg j h
        rw [hv2, Addr_add_add] at this
        exact this
      · rw [List.getElem?_append_right (by omega), hal] at hj
        obtain ⟨v, h5, h6⟩ := h4 _ _ hj
        refine ⟨v, ?_, h6⟩
        rw [← h5]
        congr 2
        rw [Nat.add_mul]; omega

theorem cell_block {a : Addr} {v : Value} (h : w.cell? a = some v) : a.spot = none ∧ ∃ C e fz, w.heap[a.block]? = some (.cells C e fz) ∧ C[a.off]? = some v := by
  unfold World.cell? at h
  split at h
  · rename_i C e fz hb
    split at h
    · cases h
    · rename_i hs
      exact ⟨by simpa using hs, C, e, fz, hb, h⟩
  · cases h

theorem open_slice {t e n : Nat} {ks : List FK} {v : Value} {x : DataW H × List MemPlace} {fuel : Nat} (i : Nat) (ht : P.underlying t = some (.slice e)) (hk : flatK P n e = some ks) (hc : P.cellsOf e = ks.length) (h0 : 0 < ks.length)
    (h : DataW.trod enc P w 0 (fun _ => true) true fuel t [v] = some x) {B : Nat} (hB : ∀ el sp, x.1 = .slice el sp → (el.length + sp.length) * B ≤ reachBytes) :
    ∃ p len c tg cs, Arg i ks B p len c cs ∧ (∀ r : Ren, r i = tg → VR r (.slice p len c) v) ∧ (∀ (r : Ren) (t : Tgt), tg = some t → RowOK r w t cs) := by
  rcases DataW.trod_slice ht h with ⟨h1, _⟩ | ⟨a, len, cap, elems, rest, m, _, h1, hx, _, hl, hm, hel, hg, hr, _⟩
  · simp only [List.cons.injEq, and_true] at h1
    subst h1
    exact ⟨none, 0, .known 0, none, [], ⟨⟨0, Nat.le_refl _, by simp, by simpa using .nil, .inl ⟨rfl, rfl, rfl, rfl⟩⟩⟩, fun r _ => .nilSlice, fun r t h => by cases h⟩
  · simp only [List.cons.injEq, and_true] at h1
    subst h1
    have hr := hr rfl
    have hsB : cap * B ≤ reachBytes := by
      have := hB _ _ (by rw [hx])
      simpa [hel, hr.1, Nat.add_sub_cancel' hl] using this
    obtain ⟨cs, hf, hcs⟩ := open_items (r := noRen) (enc := enc) (w := w) (base := 0) (spare := fun _ => true) (held := true) (a := a) (m := m) (e := e) hk hc cap 0 (fun j _ hj => by
      by_cases hjl : j < len
      · rw [hg j hjl]; exact ⟨_, List.getElem?_eq_getElem (by omega)⟩
      · have := hr.2 (j - len) (by omega)
        rw [show len + (j - len) = j by omega] at this
        rw [this]; exact ⟨_, List.getElem?_eq_getElem (by omega)⟩)
    have hlen : cs.length = cap * ks.length := by
      rw [hf.length]; simp
    by_cases hz : cap = 0
    · subst hz
      obtain rfl : len = 0 := by omega
      refine ⟨some (i, 0), 0, .known 0, none, [], ⟨⟨0, Nat.le_refl _, by simp, by simpa using .nil, .inr ⟨rfl, .inr ⟨rfl, rfl⟩⟩⟩⟩, fun r _ => .sliceBare a, fun r t h => by cases h⟩
    · have hpos : 0 < cs.length := by rw [hlen]; exact Nat.mul_pos (by omega) h0
      obtain ⟨v0, hv0, _⟩ := hcs 0 _ (List.getElem?_eq_getElem hpos)
      obtain ⟨hsp, C, ce, fz, hb, _⟩ := cell_block hv0
      have hspot : a.spot = none := by simpa [Addr.add] using hsp
      rw [Addr_add_block] at hb
      have hcell : ∀ j y, cs[j]? = some y → ∃ u, C[a.off + j]? = some u ∧ VR noRen y u := by
        intro j y hj
        obtain ⟨u, hu, hvr⟩ := hcs j y hj
        obtain ⟨_, C', e', fz', hb', hu'⟩ := cell_block hu
        rw [Addr_add_block, hb] at hb'
        cases hb'
        rw [Addr_add_off] at hu'
        exact ⟨u, by simpa using hu', hvr⟩
      have hsz : a.off + cs.length ≤ C.size := by
        obtain ⟨u, hu, _⟩ := hcell (cs.length - 1) _ (List.getElem?_eq_getElem (by omega))
        have := (Array.getElem?_eq_some_iff.1 hu).1
        omega
      refine ⟨some (i, 0), len, .rest ks.length, some ⟨a.block, a.off, a.off + cs.length⟩, cs, ⟨⟨cap, hl, hsB, hf, .inr ⟨rfl, .inl rfl⟩⟩⟩, fun r hri => ?_, fun r t h => ?_⟩
      · obtain ⟨b, o, sp⟩ := a
        simp only at hspot
        subst hspot
        exact .sliceRest (t := ⟨b, o, o + cs.length⟩) len ks.length cap hri (by simp [hlen]) hl
      · cases h
        refine ⟨C, ce, fz, hb, hsz, Nat.le_refl _, fun j y u hj hu => ?_⟩
        obtain ⟨u', hu', hvr⟩ := hcell j y hj
        simp only at hu
        rw [hu'] at hu
        cases hu
        exact hvr.mono (noRen_le r)

/-- an argument that is plain data and lies in the call's own frame: a struct, an array -/
theorem open_agg {t n : Nat} {ks : List FK} {v : Value} {x : DataW H × List MemPlace} {fuel : Nat} (hk : flatK P n t = some ks) (hv : ∃ cs, v = .agg cs) (h : DataW.trod enc P w base spare held fuel t v.cells.toList = some x) :
    ∃ cs, Fits ks cs ∧ ∀ r : Ren, VR r (.agg cs) v := by
  obtain ⟨C, rfl⟩ := hv
  obtain ⟨cs, h1, h2⟩ := flat_open (r := noRen) n fuel t ks _ x hk h
  refine ⟨cs, h2, fun r => .agg _ _ ?_ fun i a u ha hu => ?_⟩
  · simpa [Value.cells] using h1.1
  · exact (h1.2 i a u ha (by simpa [Value.cells] using hu)).mono (noRen_le r)
end

/-! ### a row's arguments behind the call read as they did -/

theorem trodAll_behind {H : Type} {enc : TypeId × Value → H} {P : Program} (hl : laidOutB P = true) {W W' : World} (hb : Below W.heap.size W W') : ∀ (ts : List TypeId) (vs : List Value) (ds : List (DataW H)) (ps : List MemPlace),
    (∀ t ∈ ts, P.readableRec t = true ∧ t < P.types.size) → DataW.TrodAll enc P W 0 (fun _ => true) true ts vs ds ps → (∀ x ∈ ps, x.block < W.heap.size) → DataW.TrodAll enc P W' 0 (fun b => decide (b < W.heap.size)) true ts vs ds ps
  | [], vs, ds, ps, _, h, _ => by
    cases vs <;> cases ds <;> first | exact h | cases h
  | t :: ts, vs, ds, ps, hr, h, hlt => by
    cases vs with
    | nil => cases ds <;> cases h
    | cons v vs =>
      cases ds with
      | nil => cases h
      | cons d ds =>
        obtain ⟨p, q, h1, h2, rfl⟩ := h
        exact ⟨p, q, Below.trod hl (hr t (by simp)).1 (hr t (by simp)).2 h1 hb (fun x hx => hlt x (by simp [hx])), trodAll_behind hl hb ts vs ds q (fun t ht => hr t (by simp [ht])) h2 (fun x hx => hlt x (by simp [hx])), rfl⟩

end Go.Ev
