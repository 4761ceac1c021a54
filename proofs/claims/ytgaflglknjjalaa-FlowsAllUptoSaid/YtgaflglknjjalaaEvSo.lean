/- The abstract machine Ev, part So: slices.SortFunc by the kit's shelf (elements of one cell). What 'cmp' does is shown where all is read-only (H.freeze): so its runs turn no block. -/
import Derived.Test.YtgaflglknjjalaaEvV
import Derived.Shelf.SlSortCmp.NoneTotal
set_option linter.all false
namespace Go.Ev
open Go.Proofs Go.Sort

/-! ### all that is there, read-only -/

def AObj.freeze : AObj → Option AObj
  | .cells cs _ => some (.cells cs true)
  | .map es _ => some (.rmap es)
  | .rmap es => some (.rmap es)
  | _ => none
def H.freeze (h : H) : H := ⟨h.next, fun j => (h.get j).bind AObj.freeze⟩

theorem freeze_ro {o o' : AObj} (h : o.freeze = some o') : o'.ro = true := by
  cases o <;> simp only [AObj.freeze] at h <;> cases h <;> rfl
theorem OR.freeze {r : Ren} {w : World} {t : Tgt} {o o' : AObj} (h : OR r w t o) (e : o.freeze = some o') : OR r w t o' := by
  cases o with
  | cells cs ro =>
    cases e
    obtain ⟨C, e, fz, h1, h2, h3, h4, h5⟩ := h
    exact ⟨C, e, fz, h1, h2, h3, h4, fun h => by cases h⟩
  | map es clk =>
    cases e
    obtain ⟨E, h1, h2, h3⟩ := h
    exact ⟨E, clk, h1, h2, h3⟩
  | rmap es => cases e; exact h
  | miter m s n l => cases e
  | siter s p => cases e
theorem freeze_get {h : H} {i : Nat} {o' : AObj} (e : h.freeze.get i = some o') : ∃ o, h.get i = some o ∧ o.freeze = some o' := Option.bind_eq_some_iff.1 e
theorem Rel.freeze {r : Ren} {h : H} {w : World} (hrel : Rel r h w) : Rel r h.freeze w where
  wf := fun i o e => by
    obtain ⟨o', h1, _⟩ := freeze_get e
    exact hrel.wf i o' h1
  obj := fun i t o hr e => by
    obtain ⟨o', h1, h2⟩ := freeze_get e
    exact (hrel.obj i t o' hr h1).freeze h2
  inj := fun i j ti tj oi oj _ _ h1 h2 _ => by
    obtain ⟨_, _, h3⟩ := freeze_get h1
    obtain ⟨_, _, h4⟩ := freeze_get h2
    exact .inr ⟨freeze_ro h3, freeze_ro h4⟩
  bound := hrel.bound
section
variable {K V β : Type} [DecidableEq K]
end

/-! ### values that are told whole -/

def Plain : AV → Prop
  | .int _ _ => True
  | .bool _ => True
  | .str _ => True
  | .ptr _ => True
  | _ => False
def valOf (r : Ren) : AV → Value
  | .int k n => .int k n
  | .bool b => .bool b
  | .str s => .string s
  | .ptr (some (i, o)) => (match r i with | some t => .pointer (some ⟨t.blk, t.base + o, none⟩) | none => .pointer none)
  | _ => .pointer none
theorem valOf_of {r : Ren} {a : AV} {v : Value} (hp : Plain a) (h : VR r a v) : v = valOf r a := by
  cases h <;> simp only [Plain] at hp <;> simp only [valOf]
  rename_i h
  rw [h]
theorem valOf_one (r : Ren) (a : AV) : (valOf r a).oneCell' = true := by
  unfold valOf
  split <;> try rfl
  split <;> rfl

/-! ### what is asked, and what comes of it -/

structure SortPre (cmp : AV → AV → H → Option (Int × H)) (h : H) (i o : Nat) (cs xs : List AV) (cf : AV → AV → Int) : Prop where
  hg : h.get i = some (.cells cs false)
  hxs : (cs.drop o).take xs.length = xs
  fit : o + xs.length ≤ cs.length
  small : xs.length < 4611686018427387904
  plain : ∀ x ∈ xs, Plain x
  hcmp : ∀ ys : List AV, ys.length = xs.length → (∀ y ∈ ys, y ∈ xs) → ∀ x ∈ xs, ∀ y ∈ xs, cmp x y (h.set i (.cells (spl cs o ys) false)).freeze = some (cf x y, (h.set i (.cells (spl cs o ys) false)).freeze)
  irrefl : ∀ x ∈ xs, ¬ cf x x < 0
  trans : ∀ x ∈ xs, ∀ y ∈ xs, ∀ z ∈ xs, cf x y < 0 → cf y z < 0 → cf x z < 0
  ntrans : ∀ x ∈ xs, ∀ y ∈ xs, ∀ z ∈ xs, ¬ cf x y < 0 → ¬ cf y z < 0 → ¬ cf x z < 0
  total : ∀ x ∈ xs, ∀ y ∈ xs, ¬ cf x y < 0 → ¬ cf y x < 0 → x = y

def ltS (xs : List AV) (cf : AV → AV → Int) (x y : {a : AV // a ∈ xs}) : Bool := ltOf (fun x y : {a : AV // a ∈ xs} => cf x.1 y.1) x y
def sortedOf (xs : List AV) (cf : AV → AV → Int) : List AV := (xs.attach.mergeSort fun x y => !ltS xs cf y x).map (·.1)

section
variable {cmp : AV → AV → H → Option (Int × H)} {h : H} {i o : Nat} {cs xs : List AV} {cf : AV → AV → Int}

theorem SortPre.swo (p : SortPre cmp h i o cs xs cf) : SWO (ltS xs cf) where
  irrefl x := by simp only [ltS, ltOf]; exact decide_eq_false (p.irrefl _ x.2)
  trans x y z h1 h2 := by
    simp only [ltS, ltOf] at *
    exact decide_eq_true (p.trans _ x.2 _ y.2 _ z.2 (of_decide_eq_true h1) (of_decide_eq_true h2))
  ntrans x y z h1 h2 := by
    simp only [ltS, ltOf] at *
    exact decide_eq_false (p.ntrans _ x.2 _ y.2 _ z.2 (of_decide_eq_false h1) (of_decide_eq_false h2))

theorem SortPre.sorted (p : SortPre cmp h i o cs xs cf) : (sortedOf xs cf).Pairwise fun x y => ¬ cf y x < 0 := by
  unfold sortedOf
  rw [List.pairwise_map]
  have hs := p.swo
  refine (List.pairwise_mergeSort (le := fun x y => !ltS xs cf y x) (fun a b c h1 h2 => ?_) (fun a b => ?_) xs.attach).imp fun {x y} hxy => ?_
  · simp only [Bool.not_eq_true'] at *
    exact hs.ntrans _ _ _ h2 h1
  · cases hab : ltS xs cf b a with
    | false => rfl
    | true =>
      cases hba : ltS xs cf a b with
      | false => simp
      | true => have := hs.trans _ _ _ hab hba; rw [hs.irrefl] at this; cases this
  · simp only [Bool.not_eq_true', ltS, ltOf] at hxy
    exact of_decide_eq_false hxy

def Sorts (cmp : AV → AV → H → Option (Int × H)) (h : H) (i o len : Nat) (h' : H) : Prop :=
  ∃ cs xs cf, xs.length = len ∧ SortPre cmp h i o cs xs cf ∧ h' = h.set i (.cells (spl cs o (sortedOf xs cf)) false)

theorem Sorts.unique {len : Nat} {h1 h2 : H} (a : Sorts cmp h i o len h1) (b : Sorts cmp h i o len h2) : h1 = h2 := by
  obtain ⟨cs, xs, cf, hl, p, rfl⟩ := a
  obtain ⟨cs', xs', cf', hl', p', rfl⟩ := b
  have e := p.hg.symm.trans p'.hg
  cases e
  obtain rfl : xs = xs' := by rw [← p.hxs, ← p'.hxs, hl, hl']
  have : ltS xs cf = ltS xs cf' := by
    funext x y
    have e1 := p.hcmp xs rfl (fun _ h => h) _ x.2 _ y.2
    have e2 := p'.hcmp xs rfl (fun _ h => h) _ x.2 _ y.2
    rw [e1] at e2
    have : cf x.1 y.1 = cf' x.1 y.1 := by injection e2 with e2; injection e2
    simp only [ltS, ltOf, this]
  unfold sortedOf
  rw [this]

end

/-! ### the model's run -/

/-- blocks more, and draws -/
theorem Post.grew {r : Ren} {h : H} {w w' : World} (hrel : Rel r h w) (hsz : w.heap.size ≤ w'.heap.size) (hb : ∀ b, b < w.heap.size → w'.heap[b]? = w.heap[b]?) (henv : Env w w') : Post r h w r h w' where
  env := henv
  le := r.le_refl
  dom := fun i t h1 h2 => by rw [h1] at h2; cases h2
  rel := ⟨hrel.wf, fun i t o h1 h2 => (hrel.obj i t o h1 h2).move r.le_refl (hb _ (hrel.bound i t h1)), hrel.inj, fun i t h => Nat.lt_of_lt_of_le (hrel.bound i t h) hsz⟩
  keep := fun b hb' _ => hb b hb'
  size := hsz
  next := Nat.le_refl _
  fresh := fun i t h1 h2 => by rw [h1] at h2; cases h2
  roKeep := fun i o _ h => ⟨o, h, rfl⟩
  gap := fun i t _ => by omega
  touch := fun i _ h => absurd rfl h

section
variable {cs xs : List AV} {h : H} {i o : Nat}

theorem Post.row {r : Ren} {w : World} {t : Tgt} (hrel : Rel r h w) (hr : r i = some t) (hg : h.get i = some (.cells cs false)) (hfit : o + xs.length ≤ cs.length) [Inhabited {a : AV // a ∈ xs}]
    (hv : ∀ x : {a : AV // a ∈ xs}, VR r x.1 (valOf r x.1)) (n : Nat) (dk : Array {a : AV // a ∈ xs}) (hdk : dk.size = xs.length) (os : Array Obj) :
    Post r h w r (h.set i (.cells (spl cs o (dk.toList.map (·.1))) false)) (sortWorld (fun x : {a : AV // a ∈ xs} => valOf r x.1) w t.blk (t.base + o) n dk os) := by
  obtain ⟨C, e, fz, h1, h2, h3, h4, h5⟩ := hrel.obj i t _ hr hg
  have hlen : (dk.toList.map (·.1)).length = xs.length := by simp [hdk]
  have hother : ∀ b, b ≠ t.blk → (putRow (fun x : {a : AV // a ∈ xs} => valOf r x.1) (Sort.ahead w n) t.blk (t.base + o) dk).heap[b]? = w.heap[b]? := fun b hb => by
    show ((Sort.ahead w n).heap.modify t.blk _)[b]? = _
    rw [Array.getElem?_modify, if_neg (Ne.symm hb)]
    rfl
  have hat : (putRow (fun x : {a : AV // a ∈ xs} => valOf r x.1) (Sort.ahead w n) t.blk (t.base + o) dk).heap[t.blk]? = some (.cells (putCells (fun x : {a : AV // a ∈ xs} => valOf r x.1) (t.base + o) dk C) e fz) := by
    show ((Sort.ahead w n).heap.modify t.blk _)[t.blk]? = _
    rw [Array.getElem?_modify, if_pos rfl]
    show (w.heap[t.blk]?).map _ = _
    rw [h1]
    rfl
  have p1 : Post r h w r (h.set i (.cells (spl cs o (dk.toList.map (·.1))) false)) (putRow (fun x : {a : AV // a ∈ xs} => valOf r x.1) (Sort.ahead w n) t.blk (t.base + o) dk) := by
    refine Post.of_set hrel hr hg rfl rfl (by rw [Go.Sort.size_putRow]; rfl) ⟨rfl, rfl, rfl, Nat.le_add_right _ _⟩ hother ⟨_, e, fz, hat, ?_, ?_, fun k a v ha hv' => ?_, fun _ off hoff => h5 rfl off (by simpa [putCells] using hoff)⟩
    · simpa [putCells] using h2
    · have : (spl cs o (dk.toList.map (·.1))).length = cs.length := by
        apply Nat.le_antisymm
        · rcases Nat.lt_or_ge cs.length (spl cs o (dk.toList.map (·.1))).length with hlt | hge
          · have := spl_get (dk.toList.map (·.1)) cs o (by omega) cs.length
            rw [if_neg (by omega), List.getElem?_eq_none (Nat.le_refl _), List.getElem?_eq_none_iff] at this
            omega
          · exact hge
        · rcases Nat.lt_or_ge (spl cs o (dk.toList.map (·.1))).length cs.length with hlt | hge
          · have := spl_get (dk.toList.map (·.1)) cs o (by omega) (spl cs o (dk.toList.map (·.1))).length
            rw [List.getElem?_eq_none (Nat.le_refl _)] at this
            split at this
            · have := List.getElem?_eq_none_iff.1 this.symm; omega
            · have := List.getElem?_eq_none_iff.1 this.symm; omega
          · exact hge
      omega
    · rw [spl_get _ _ _ (by omega)] at ha
      simp only [putCells, Array.getElem?_mapIdx] at hv'
      obtain ⟨u, hu, rfl⟩ := Option.map_eq_some_iff.1 hv'
      split at ha
      · rename_i hk
        rw [if_pos ⟨by omega, by omega⟩, show t.base + k - (t.base + o) = k - o by omega]
        rw [List.getElem?_map, Array.getElem?_toList] at ha
        obtain ⟨y, hy, rfl⟩ := Option.map_eq_some_iff.1 ha
        have : dk[k - o]! = y := by
          have hlt : k - o < dk.size := by omega
          rw [getElem!_pos dk (k - o) hlt]
          rw [Array.getElem?_eq_getElem hlt] at hy
          exact Option.some.inj hy
        rw [this]
        exact hv y
      · rename_i hk
        rw [if_neg (by omega)]
        exact h4 k a u ha hu
  refine p1.trans (Post.grew p1.rel (by simp [sortWorld]) (fun b hb => ?_) ⟨rfl, rfl, rfl, Nat.le_refl _⟩)
  exact heap_grow_old _ _ hb

theorem World.grown {w w' : World} (hsz : w.heap.size ≤ w'.heap.size) (hb : ∀ b, b < w.heap.size → w'.heap[b]? = w.heap[b]?) (henv : Env w w') : ∃ q os, w' = grow (w.drewN q) os := by
  refine ⟨w'.drawn - w.drawn, w'.heap.extract w.heap.size w'.heap.size, ?_⟩
  obtain ⟨e1, e2, e3, e4⟩ := henv
  have hheap : w'.heap = w.heap ++ w'.heap.extract w.heap.size w'.heap.size := by
    apply Array.ext_getElem?
    intro k
    rw [Array.getElem?_append]
    split
    · rename_i h; exact hb k h
    · rename_i h
      rw [Array.getElem?_extract]
      by_cases hk : k < w'.heap.size
      · rw [if_pos (by omega)]; congr 1; omega
      · rw [if_neg (by omega), Array.getElem?_eq_none (by omega)]
  have hd : w'.drawn = w.drawn + (w'.drawn - w.drawn) := by omega
  cases w
  cases w'
  simp only at *
  subst e1 e2 e3
  unfold grow World.drewN
  simp only [World.mk.injEq]
  exact ⟨hheap, trivial, hd, trivial, trivial⟩
end

end Go.Ev
