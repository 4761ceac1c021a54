/- The abstract machine Ev, part So: slices.SortFunc by the kit's shelf (elements of one cell). What 'cmp' does is shown where all is read-only (H.freeze): so its runs turn no block. -/
import Derived.Test.YtlodaclifccchaaEvO
import Derived.Shelf.SlSortCmp.NoneTotal
set_option linter.all false
namespace Go.Ev
open Go.Proofs Go.Sort

/-! ### all that is there, read-only -/

def AObj.freeze : AObj → Option AObj
  | .cells cs _ => some (.cells cs true)
  | .map es _ => some (.rmap es)
  | .rmap es => some (.rmap es)
  | _ => none
def H.freeze (h : H) : H := ⟨h.next, fun j => (h.get j).bind AObj.freeze⟩

theorem freeze_ro {o o' : AObj} (h : o.freeze = some o') : o'.ro = true := by
  cases o <;> simp only [AObj.freeze] at h <;> cases h <;> rfl
theorem OR.freeze {r : Ren} {w : World} {t : Tgt} {o o' : AObj} (h : OR r w t o) (e : o.freeze = some o') : OR r w t o' := by
  cases o with
  | cells cs ro =>
    cases e
    obtain ⟨C, e, fz, h1, h2, h3, h4, h5⟩ := h
    exact ⟨C, e, fz, h1, h2, h3, h4, fun h => by cases h⟩
  | map es clk =>
    cases e
    obtain ⟨E, h1, h2, h3⟩ := h
    exact ⟨E, clk, h1, h2, h3⟩
  | rmap es => cases e; exact h
  | miter m s n l => cases e
  | siter s p => cases e
theorem freeze_get {h : H} {i : Nat} {o' : AObj} (e : h.freeze.get i = some o') : ∃ o, h.get i = some o ∧ o.freeze = some o' := Option.bind_eq_some_iff.1 e
theorem Rel.freeze {r : Ren} {h : H} {w : World} (hrel : Rel r h w) : Rel r h.freeze w where
  wf := fun i o e => by
    obtain ⟨o', h1, _⟩ := freeze_get e
    exact hrel.wf i o' h1
  obj := fun i t o hr e => by
    obtain ⟨o', h1, h2⟩ := freeze_get e
    exact (hrel.obj i t o' hr h1).freeze h2
  inj := fun i j ti tj oi oj _ _ h1 h2 _ => by
    obtain ⟨_, _, h3⟩ := freeze_get h1
    obtain ⟨_, _, h4⟩ := freeze_get h2
    exact .inr ⟨freeze_ro h3, freeze_ro h4⟩
  bound := hrel.bound
theorem freeze_cells {h : H} {i : Nat} {cs : List AV} {ro : Bool} (hg : h.get i = some (.cells cs ro)) : h.freeze.get i = some (.cells cs true) := by simp [H.freeze, hg, AObj.freeze]
theorem freeze_map {h : H} {i : Nat} {es : List (AV × AV × Nat)} {clk : Nat} (hg : h.get i = some (.map es clk)) : h.freeze.get i = some (.rmap es) := by simp [H.freeze, hg, AObj.freeze]

section
variable {K V β : Type} [DecidableEq K]
theorem lookK_frozen {h : H} {m : Nat} {o : AObj} {ek : K → AV} {ev : V → AV} {l : List (K × V)} (hk : Keys ek) (hg : h.get m = some o) (ho : MObj ek ev l o) (z : AV) (k : K) (f : AV → Bool → Option β) :
    lookK z (some m) (ek k) h.freeze f = match lk l k with | some v => f (ev v) true | none => f z false := by
  refine Eq.trans ?_ (lookK_of hk hg ho z k f)
  obtain ⟨L, clk, rfl, _⟩ := ho
  simp only [lookK, evLook, freeze_map hg, hg]
end

/-! ### values that are told whole -/

def Plain : AV → Prop
  | .int _ _ => True
  | .bool _ => True
  | .str _ => True
  | .ptr _ => True
  | _ => False
def valOf (r : Ren) : AV → Value
  | .int k n => .int k n
  | .bool b => .bool b
  | .str s => .string s
  | .ptr (some (i, o)) => (match r i with | some t => .pointer (some ⟨t.blk, t.base + o, none⟩) | none => .pointer none)
  | _ => .pointer none
theorem valOf_of {r : Ren} {a : AV} {v : Value} (hp : Plain a) (h : VR r a v) : v = valOf r a := by
  cases h <;> simp only [Plain] at hp <;> simp only [valOf]
  rename_i h
  rw [h]
theorem valOf_one (r : Ren) (a : AV) : (valOf r a).oneCell' = true := by
  unfold valOf
  split <;> try rfl
  split <;> rfl

/-! ### what is asked, and what comes of it -/

structure SortPre (cmp : AV → AV → H → Option (Int × H)) (h : H) (i o : Nat) (cs xs : List AV) (cf : AV → AV → Int) : Prop where
  hg : h.get i = some (.cells cs false)
  hxs : (cs.drop o).take xs.length = xs
  fit : o + xs.length ≤ cs.length
  small : xs.length < 4611686018427387904
  plain : ∀ x ∈ xs, Plain x
  hcmp : ∀ ys : List AV, ys.length = xs.length → (∀ y ∈ ys, y ∈ xs) → ∀ x ∈ xs, ∀ y ∈ xs, cmp x y (h.set i (.cells (spl cs o ys) false)).freeze = some (cf x y, (h.set i (.cells (spl cs o ys) false)).freeze)
  irrefl : ∀ x ∈ xs, ¬ cf x x < 0
  trans : ∀ x ∈ xs, ∀ y ∈ xs, ∀ z ∈ xs, cf x y < 0 → cf y z < 0 → cf x z < 0
  ntrans : ∀ x ∈ xs, ∀ y ∈ xs, ∀ z ∈ xs, ¬ cf x y < 0 → ¬ cf y z < 0 → ¬ cf x z < 0
  total : ∀ x ∈ xs, ∀ y ∈ xs, ¬ cf x y < 0 → ¬ cf y x < 0 → x = y

def ltS (xs : List AV) (cf : AV → AV → Int) (x y : {a : AV // a ∈ xs}) : Bool := ltOf (fun x y : {a : AV // a ∈ xs} => cf x.1 y.1) x y
def sortedOf (xs : List AV) (cf : AV → AV → Int) : List AV := (xs.attach.mergeSort fun x y => !ltS xs cf y x).map (·.1)

section
variable {cmp : AV → AV → H → Option (Int × H)} {h : H} {i o : Nat} {cs xs : List AV} {cf : AV → AV → Int}

theorem SortPre.swo (p : SortPre cmp h i o cs xs cf) : SWO (ltS xs cf) where
  irrefl x := by simp only [ltS, ltOf]; exact decide_eq_false (p.irrefl _ x.2)
  trans x y z h1 h2 := by
    simp only [ltS, ltOf] at *
    exact decide_eq_true (p.trans _ x.2 _ y.2 _ z.2 (of_decide_eq_true h1) (of_decide_eq_true h2))
  ntrans x y z h1 h2 := by
    simp only [ltS, ltOf] at *
    exact decide_eq_false (p.ntrans _ x.2 _ y.2 _ z.2 (of_decide_eq_false h1) (of_decide_eq_false h2))

theorem sortedOf_perm (xs : List AV) (cf : AV → AV → Int) : (sortedOf xs cf).Perm xs := by
  have h := (List.mergeSort_perm xs.attach fun x y => !ltS xs cf y x).map (·.1)
  rwa [List.attach_map_subtype_val] at h

theorem SortPre.sorted (p : SortPre cmp h i o cs xs cf) : (sortedOf xs cf).Pairwise fun x y => ¬ cf y x < 0 := by
  unfold sortedOf
  rw [List.pairwise_map]
  have hs := p.swo
  refine (List.pairwise_mergeSort (le := fun x y => !ltS xs cf y x) (fun a b c h1 h2 => ?_) (fun a b => ?_) xs.attach).imp fun {x y} hxy => ?_
  · simp only [Bool.not_eq_true'] at *
    exact hs.ntrans _ _ _ h2 h1
  · cases hab : ltS xs cf b a with
    | false => rfl
    | true =>
      cases hba : ltS xs cf a b with
      | false => simp
      | true => have := hs.trans _ _ _ hab hba; rw [hs.irrefl] at this; cases this
  · simp only [Bool.not_eq_true', ltS, ltOf] at hxy
    exact of_decide_eq_false hxy

def Sorts (cmp : AV → AV → H → Option (Int × H)) (h : H) (i o len : Nat) (h' : H) : Prop :=
  ∃ cs xs cf, xs.length = len ∧ SortPre cmp h i o cs xs cf ∧ h' = h.set i (.cells (spl cs o (sortedOf xs cf)) false)

theorem Sorts.unique {len : Nat} {h1 h2 : H} (a : Sorts cmp h i o len h1) (b : Sorts cmp h i o len h2) : h1 = h2 := by
  obtain ⟨cs, xs, cf, hl, p, rfl⟩ := a
  obtain ⟨cs', xs', cf', hl', p', rfl⟩ := b
  have e := p.hg.symm.trans p'.hg
  cases e
  obtain rfl : xs = xs' := by rw [← p.hxs, ← p'.hxs, hl, hl']
  have : ltS xs cf = ltS xs cf' := by
    funext x y
    have e1 := p.hcmp xs rfl (fun _ h => h) _ x.2 _ y.2
    have e2 := p'.hcmp xs rfl (fun _ h => h) _ x.2 _ y.2
    rw [e1] at e2
    have : cf x.1 y.1 = cf' x.1 y.1 := by injection e2 with e2; injection e2
    simp only [ltS, ltOf, this]
  unfold sortedOf
  rw [this]

open Classical in
noncomputable def sortF (cmp : AV → AV → H → Option (Int × H)) (p : Option (Nat × Nat)) (len : Nat) (_ : Cap) (h : H) : Option (Unit × H) :=
  if len = 0 then some ((), h) else
  match p with
  | none => none
  | some (i, o) => if hx : ∃ h', Sorts cmp h i o len h' then some ((), Classical.choose hx) else none

theorem sortF_none (cmp : AV → AV → H → Option (Int × H)) (p : Option (Nat × Nat)) (c : Cap) (h : H) : sortF cmp p 0 c h = some ((), h) := by
  unfold sortF
  rw [if_pos rfl]

/-- what a sort comes to -/
theorem sortF_of (p : SortPre cmp h i o cs xs cf) (c : Cap) : sortF cmp (some (i, o)) xs.length c h = some ((), h.set i (.cells (spl cs o (sortedOf xs cf)) false)) := by
  unfold sortF
  by_cases h0 : xs.length = 0
  · rw [if_pos h0]
    obtain rfl : xs = [] := List.eq_nil_of_length_eq_zero h0
    have : sortedOf [] cf = [] := List.Perm.eq_nil (sortedOf_perm [] cf)
    rw [this, spl]
    have : h.set i (.cells cs false) = h := by
      cases h
      unfold H.set
      congr 1
      funext j
      by_cases e : j = i
      · subst e; rw [if_pos rfl]; exact p.hg.symm
      · rw [if_neg e]
    rw [this]
  · rw [if_neg h0]
    have hx : ∃ h', Sorts cmp h i o xs.length h' := ⟨_, cs, xs, cf, rfl, p, rfl⟩
    simp only
    rw [dif_pos hx]
    rw [(Classical.choose_spec hx).unique ⟨cs, xs, cf, rfl, p, rfl⟩]
end

/-! ### the model's run -/

/-- blocks more, and draws -/
theorem Post.grew {r : Ren} {h : H} {w w' : World} (hrel : Rel r h w) (hsz : w.heap.size ≤ w'.heap.size) (hb : ∀ b, b < w.heap.size → w'.heap[b]? = w.heap[b]?) (henv : Env w w') : Post r h w r h w' where
  env := henv
  le := r.le_refl
  dom := fun i t h1 h2 => by rw [h1] at h2; cases h2
  rel := ⟨hrel.wf, fun i t o h1 h2 => (hrel.obj i t o h1 h2).move r.le_refl (hb _ (hrel.bound i t h1)), hrel.inj, fun i t h => Nat.lt_of_lt_of_le (hrel.bound i t h) hsz⟩
  keep := fun b hb' _ => hb b hb'
  size := hsz
  next := Nat.le_refl _
  fresh := fun i t h1 h2 => by rw [h1] at h2; cases h2
  roKeep := fun i o _ h => ⟨o, h, rfl⟩
  gap := fun i t _ => by omega
  touch := fun i _ h => absurd rfl h

section
variable {cs xs : List AV} {h : H} {i o : Nat}

theorem Post.row {r : Ren} {w : World} {t : Tgt} (hrel : Rel r h w) (hr : r i = some t) (hg : h.get i = some (.cells cs false)) (hfit : o + xs.length ≤ cs.length) [Inhabited {a : AV // a ∈ xs}]
    (hv : ∀ x : {a : AV // a ∈ xs}, VR r x.1 (valOf r x.1)) (n : Nat) (dk : Array {a : AV // a ∈ xs}) (hdk : dk.size = xs.length) (os : Array Obj) :
    Post r h w r (h.set i (.cells (spl cs o (dk.toList.map (·.1))) false)) (sortWorld (fun x : {a : AV // a ∈ xs} => valOf r x.1) w t.blk (t.base + o) n dk os) := by
  obtain ⟨C, e, fz, h1, h2, h3, h4, h5⟩ := hrel.obj i t _ hr hg
  have hlen : (dk.toList.map (·.1)).length = xs.length := by simp [hdk]
  have hother : ∀ b, b ≠ t.blk → (putRow (fun x : {a : AV // a ∈ xs} => valOf r x.1) (Sort.ahead w n) t.blk (t.base + o) dk).heap[b]? = w.heap[b]? := fun b hb => by
    show ((Sort.ahead w n).heap.modify t.blk _)[b]? = _
    rw [Array.getElem?_modify, if_neg (Ne.symm hb)]
    rfl
  have hat : (putRow (fun x : {a : AV // a ∈ xs} => valOf r x.1) (Sort.ahead w n) t.blk (t.base + o) dk).heap[t.blk]? = some (.cells (putCells (fun x : {a : AV // a ∈ xs} => valOf r x.1) (t.base + o) dk C) e fz) := by
    show ((Sort.ahead w n).heap.modify t.blk _)[t.blk]? = _
    rw [Array.getElem?_modify, if_pos rfl]
    show (w.heap[t.blk]?).map _ = _
    rw [h1]
    rfl
  have p1 : Post r h w r (h.set i (.cells (spl cs o (dk.toList.map (·.1))) false)) (putRow (fun x : {a : AV // a ∈ xs} => valOf r x.1) (Sort.ahead w n) t.blk (t.base + o) dk) := by
    refine Post.of_set hrel hr hg rfl rfl (by rw [Go.Sort.size_putRow]; rfl) ⟨rfl, rfl, rfl, Nat.le_add_right _ _⟩ hother ⟨_, e, fz, hat, ?_, ?_, fun k a v ha hv' => ?_, fun _ off hoff => h5 rfl off (by simpa [putCells] using hoff)⟩
    · simpa [putCells] using h2
    · have : (spl cs o (dk.toList.map (·.1))).length = cs.length := by
        apply Nat.le_antisymm
        · rcases Nat.lt_or_ge cs.length (spl cs o (dk.toList.map (·.1))).length with hlt | hge
          · have := spl_get (dk.toList.map (·.1)) cs o (by omega) cs.length
            rw [if_neg (by omega), List.getElem?_eq_none (Nat.le_refl _), List.getElem?_eq_none_iff] at this
            omega
          · exact hge
        · rcases Nat.lt_or_ge (spl cs o (dk.toList.map (·.1))).length cs.length with hlt | hge
          · have := spl_get (dk.toList.map (·.1)) cs o (by omega) (spl cs o (dk.toList.map (·.1))).length
            rw [List.getElem?_eq_none (Nat.le_refl _)] at this
            split at this
            · have := List.getElem?_eq_none_iff.1 this.symm; omega
            · have := List.getElem?_eq_none_iff.1 this.symm; omega
          · exact hge
      omega
    · rw [spl_get _ _ _ (by omega)] at ha
      simp only [putCells, Array.getElem?_mapIdx] at hv'
      obtain ⟨u, hu, rfl⟩ := Option.map_eq_some_iff.1 hv'
      split at ha
      · rename_i hk
        rw [if_pos ⟨by omega, by omega⟩, show t.base + k - (t.base + o) = k - o by omega]
        rw [List.getElem?_map, Array.getElem?_toList] at ha
        obtain ⟨y, hy, rfl⟩ := Option.map_eq_some_iff.1 ha
        have : dk[k - o]! = y := by
          have hlt : k - o < dk.size := by omega
          rw [getElem!_pos dk (k - o) hlt]
          rw [Array.getElem?_eq_getElem hlt] at hy
          exact Option.some.inj hy
        rw [this]
        exact hv y
      · rename_i hk
        rw [if_neg (by omega)]
        exact h4 k a u ha hu
  refine p1.trans (Post.grew p1.rel (by simp [sortWorld]) (fun b hb => ?_) ⟨rfl, rfl, rfl, Nat.le_refl _⟩)
  exact heap_grow_old _ _ hb

theorem World.grown {w w' : World} (hsz : w.heap.size ≤ w'.heap.size) (hb : ∀ b, b < w.heap.size → w'.heap[b]? = w.heap[b]?) (henv : Env w w') : ∃ q os, w' = grow (w.drewN q) os := by
  refine ⟨w'.drawn - w.drawn, w'.heap.extract w.heap.size w'.heap.size, ?_⟩
  obtain ⟨e1, e2, e3, e4⟩ := henv
  have hheap : w'.heap = w.heap ++ w'.heap.extract w.heap.size w'.heap.size := by
    apply Array.ext_getElem?
    intro k
    rw [Array.getElem?_append]
    split
    · rename_i h; exact hb k h
    · rename_i h
      rw [Array.getElem?_extract]
      by_cases hk : k < w'.heap.size
      · rw [if_pos (by omega)]; congr 1; omega
      · rw [if_neg (by omega), Array.getElem?_eq_none (by omega)]
  have hd : w'.drawn = w.drawn + (w'.drawn - w.drawn) := by omega
  cases w
  cases w'
  simp only at *
  subst e1 e2 e3
  unfold grow World.drewN
  simp only [World.mk.injEq]
  exact ⟨hheap, trivial, hd, trivial, trivial⟩
end

theorem sortF_called {P : Program} {ρ : Go.Shelf.Ren} {f g : FuncId} {fn : Func} {caps : List AV} {cmp : AV → AV → H → Option (Int × H)} (L : SlLaysF.n6 P ρ) (hρ : ρ.f 6 = f) (hf : P.funcs[f]? = some fn) (hb : fn.body.isNone = false) (hn : (fn.name == "runtime.NumGoroutine") = false)
    (hs : ∀ x y h q, cmp x y h = some q → ACall P g ([x, y] ++ caps) h (.int .i64 q.1) q.2)
    {p : Option (Nat × Nat)} {len : Nat} {c : Cap} {h : H} {q : Unit × H} (e : sortF cmp p len c h = some q) : Called P f [.slice p len c, .func g [] caps] h (.tup []) q.2 := by
  subst hρ
  unfold sortF at e
  split at e
  · rename_i h0
    cases e
    subst h0
    refine .inl ⟨⟨fn, hf, hb, hn⟩, Nat.le_refl _, fun h => h, fun r w args' hrel _ ha => ?_⟩
    obtain ⟨v, u, rfl, hv, hu⟩ := ha.two
    have : ∃ a c', v = .slice a 0 c' := by cases hv <;> exact ⟨_, _, rfl⟩
    obtain ⟨a, c', rfl⟩ := this
    exact (AnyF.slices_SortFunc_none { L with } a c' u w).mono fun e w' ⟨he, hw⟩ => ⟨r, _, he, VR_tup (vs := []) .nil, by rw [hw]; exact Post.refl hrel⟩
  · rename_i h0
    split at e
    · cases e
    · rename_i i o
      split at e
      · rename_i hx
        cases e
        obtain ⟨cs, xs, cf, hl, pre, hh⟩ := Classical.choose_spec hx
        generalize Classical.choose hx = hfin at hh
        subst hh
        subst hl
        have hpos : 0 < xs.length := Nat.pos_of_ne_zero h0
        refine .inl ⟨⟨fn, hf, hb, hn⟩, Nat.le_refl _, fun wf j oj hj => ?_, fun r w args' hrel _ ha => ?_⟩
        · show j < h.next
          simp only [H.set] at hj
          split at hj
          · rename_i e; subst e; exact wf _ _ pre.hg
          · exact wf _ _ hj
        obtain ⟨v, u, rfl, hv, hu⟩ := ha.two
        haveI : Inhabited {a : AV // a ∈ xs} := ⟨⟨xs[0], List.getElem_mem hpos⟩⟩
        have main : ∀ (t : Tgt) (cap : Nat), r i = some t → Calls P (ρ.f 6) #[.slice (some ⟨t.blk, t.base + o, none⟩) xs.length cap, u] w fun e w' => ∃ r' v', e = .returned v' ∧ VR r' (.tup []) v' ∧ Post r h w r' (h.set i (.cells (spl cs o (sortedOf xs cf)) false)) w' := by
          intro t cap hr
          have hcellx : ∀ j (hj : j < xs.length), ∃ v, w.cell? ⟨t.blk, t.base + o + j, none⟩ = some v ∧ VR r xs[j] v ∧ t.blk < w.heap.size := by
            intro j hj
            have hj' : cs[o + j]? = some xs[j] := by
              have : xs[j]? = some xs[j] := List.getElem?_eq_getElem hj
              rw [← this]
              conv => rhs; rw [← pre.hxs]
              rw [List.getElem?_take, if_pos hj, List.getElem?_drop]
            obtain ⟨v, h1, h2, h3⟩ := cell_str hrel hr pre.hg hj'
            exact ⟨v, by rw [Nat.add_assoc]; exact h1, h2, h3⟩
          have hvr : ∀ x : {a : AV // a ∈ xs}, VR r x.1 (valOf r x.1) := fun x => by
            obtain ⟨j, hj, e⟩ := List.mem_iff_getElem.1 x.2
            obtain ⟨v, _, h2, _⟩ := hcellx j hj
            rw [e] at h2
            rw [← valOf_of (pre.plain _ x.2) h2]
            exact h2
          have hH : Holds (fun x : {a : AV // a ∈ xs} => valOf r x.1) w t.blk (t.base + o) xs.attach.toArray := fun j hj => by
            have hj' : j < xs.length := by simpa using hj
            obtain ⟨v, h1, h2, h3⟩ := hcellx j hj'
            have hd : xs.attach.toArray[j]! = ⟨xs[j], List.getElem_mem hj'⟩ := by
              rw [getElem!_pos _ j hj]
              simp
            rw [hd]
            refine ⟨by rw [h1, valOf_of (pre.plain _ (List.getElem_mem hj')) h2], ?_⟩
            obtain ⟨C, e, fz, g1, g2, g3, g4, g5⟩ := hrel.obj i t _ hr pre.hg
            unfold World.frozen?
            simp only [g1]
            have := g5 rfl (t.base + o + j) (by have := pre.fit; omega)
            simpa using this
          have hblk : t.blk < w.heap.size := hrel.bound i t hr
          have hpost := fun n dk hdk os => Post.row (o := o) hrel hr pre.hg pre.fit hvr n dk hdk os
          cases hu with
          | func _ _ _ first' caps' k1 k2 k3 k4 =>
          obtain rfl : first' = #[] := by simpa using k1.symm
          have hcaps : VRL r caps caps'.toList := ⟨by simpa using k2, fun i x v hx hv => k4 i x v hx (by simpa using hv)⟩
          have hcmp : CmpLays1 P g caps' (fun x : {a : AV // a ∈ xs} => valOf r x.1) (fun x y => cf x.1 y.1) t.blk (t.base + o) xs.attach.toArray.size w := by
            intro m os dk hdk x y
            have hdk' : dk.size = xs.length := by simpa using hdk
            have hp := hpost m dk hdk' os
            have hc := pre.hcmp (dk.toList.map (·.1)) (by simpa using hdk') (fun y hy => by obtain ⟨z, _, rfl⟩ := List.mem_map.1 hy; exact z.2) _ x.2 _ y.2
            have hac := hs _ _ _ _ hc
            have hargs : VRL r ([x.1, y.1] ++ caps) (#[valOf r x.1, valOf r y.1] ++ caps').toList := by
              rw [Array.toList_append]
              exact VRL.append (VRL.cons (hvr x) (VRL.cons (hvr y) .nil)) hcaps
            refine (hac.sim r _ _ hp.rel.freeze (fun j h1 h2 => absurd h1 (by simp only at h2; omega)) hargs).mono fun e w' ⟨r', v', he, hv', hq⟩ => ?_
            cases hv'
            refine ⟨he, World.grown hq.size (fun b hb => hq.keep b hb fun j tj oj _ _ hj => ?_) hq.env⟩
            obtain ⟨_, _, hj⟩ := freeze_get hj
            exact freeze_ro hj
          have eg : ∀ args w, (callFunc g args).run P w = .ok (.enter g args) w := by
            intro args W
            obtain ⟨gn, h1, h2, h3⟩ := (hs _ _ _ _ (pre.hcmp xs rfl (fun _ h => h) _ (List.getElem_mem hpos) _ (List.getElem_mem hpos))).there
            have hn1 : ¬ gn.name = "runtime.NumGoroutine" := by simpa using h3
            have hb1 : ¬ gn.body = none := fun e => by rw [e] at h2; cases h2
            simp [callFunc, h1, hb1, hn1]
          have hT : ∀ x y : {a : AV // a ∈ xs}, ltOf (fun x y : {a : AV // a ∈ xs} => cf x.1 y.1) x y = false → ltOf (fun x y : {a : AV // a ∈ xs} => cf x.1 y.1) y x = false → x = y := fun x y h1 h2 =>
            Subtype.ext (pre.total _ x.2 _ y.2 (of_decide_eq_false h1) (of_decide_eq_false h2))
          have hsort := Any.slices_SortFunc_total L (fun x : {a : AV // a ∈ xs} => valOf r x.1) (fun x => valOf_one r x.1) (fun x y => cf x.1 y.1) pre.swo g caps' t.blk (t.base + o) cap xs.attach.toArray w eg hcmp hH hblk (by simpa using pre.small) hT
          have hsize : xs.attach.toArray.size = xs.length := by simp
          rw [hsize] at hsort
          refine hsort.mono fun e w' ⟨he, n, os, hw⟩ => ⟨r, _, he, VR_tup (vs := []) .nil, ?_⟩
          rw [hw]
          have := hpost n (xs.attach.toArray.toList.mergeSort fun x y => !ltOf (fun x y : {a : AV // a ∈ xs} => cf x.1 y.1) y x).toArray (by simp) os
          exact this
        generalize hlen : xs.length = len at *
        cases hv with
        | slice _ _ hr => exact main _ _ hr
        | sliceRest _ _ _ hr _ _ => exact main _ _ hr
        | sliceBare a => omega
        | sliceEnd a _ hr => omega
      · cases e

end Go.Ev
