/- The abstract machine Ev, part Sk: slices.SortFunc by the kit's shelf, elements of several cells (structs). As EvSo. -/
import Derived.Test.YtgaflglknjjalaaEvSp
set_option linter.all false
namespace Go.Ev
open Go.Proofs Go.Sort

/-- as many places more are taken -/
def H.bump (h : H) (k : Nat) : H := { h with next := h.next + k }
@[simp] theorem get_bump (h : H) (k i : Nat) : (h.bump k).get i = h.get i := rfl
@[simp] theorem next_bump (h : H) (k : Nat) : (h.bump k).next = h.next + k := rfl
theorem Rel.bump {r : Ren} {h : H} {w : World} (q : Rel r h w) (k : Nat) : Rel r (h.bump k) w where
  wf i o hg := Nat.lt_of_lt_of_le (q.wf i o hg) (Nat.le_add_right _ _)
  obj := q.obj
  inj := q.inj
  bound := q.bound
theorem Post.bump {r : Ren} {h h' : H} {w w' : World} (q : Post r h w r h' w') {k : Nat} (hf : ∀ i, h'.next ≤ i → i < h'.next + k → r i = none) : Post r h w r (h'.bump k) w' where
  le := q.le
  dom i t h1 h2 := by rw [h1] at h2; cases h2
  rel := q.rel.bump k
  keep := q.keep
  env := q.env
  size := q.size
  next := Nat.le_trans q.next (Nat.le_add_right _ _)
  fresh := q.fresh
  roKeep := q.roKeep
  gap i t hi := by
    rcases q.gap i t hi with h1 | h1
    · exact .inl h1
    · refine .inr ?_
      rw [next_bump]
      rcases Nat.lt_or_ge i (h'.next + k) with h2 | h2
      · rw [hf i h1 h2] at hi; cases hi
      · exact h2
  touch := q.touch

structure SortPreK (cmp : List AV → List AV → H → Option (Int × H)) (h : H) (i o k : Nat) (cs : List AV) (xs : List (List AV)) (cf : List AV → List AV → Int) : Prop where
  hg : h.get i = some (.cells cs false)
  hxs : (cs.drop o).take (xs.length * k) = xs.flatten
  fit : o + xs.length * k ≤ cs.length
  small : xs.length < 4611686018427387904
  kpos : 0 < k
  len : ∀ x ∈ xs, x.length = k
  plain : ∀ x ∈ xs, ∀ a ∈ x, Plain a
  hcmp : ∀ ys : List (List AV), ys.length = xs.length → (∀ y ∈ ys, y ∈ xs) → ∀ x ∈ xs, ∀ y ∈ xs, ∃ h2, cmp x y (h.set i (.cells (spl cs o ys.flatten) false)).freeze = some (cf x y, h2) ∧ h2.next ≤ h.next + 1000
  irrefl : ∀ x ∈ xs, ¬ cf x x < 0
  trans : ∀ x ∈ xs, ∀ y ∈ xs, ∀ z ∈ xs, cf x y < 0 → cf y z < 0 → cf x z < 0
  ntrans : ∀ x ∈ xs, ∀ y ∈ xs, ∀ z ∈ xs, ¬ cf x y < 0 → ¬ cf y z < 0 → ¬ cf x z < 0
  total : ∀ x ∈ xs, ∀ y ∈ xs, ¬ cf x y < 0 → ¬ cf y x < 0 → x = y

def ltSK (xs : List (List AV)) (cf : List AV → List AV → Int) (x y : {a : List AV // a ∈ xs}) : Bool := ltOf (fun x y : {a : List AV // a ∈ xs} => cf x.1 y.1) x y
def sortedOfK (xs : List (List AV)) (cf : List AV → List AV → Int) : List (List AV) := (xs.attach.mergeSort fun x y => !ltSK xs cf y x).map (·.1)

theorem flat_len {k : Nat} : ∀ {xs : List (List AV)}, (∀ x ∈ xs, x.length = k) → xs.flatten.length = xs.length * k
  | [], _ => by simp
  | x :: xs, h => by
    rw [List.flatten_cons, List.length_append, h x (by simp), flat_len fun y hy => h y (by simp [hy]), List.length_cons, Nat.add_mul, Nat.one_mul, Nat.add_comm]
theorem flat_inj {k : Nat} : ∀ {xs ys : List (List AV)}, (∀ x ∈ xs, x.length = k) → (∀ x ∈ ys, x.length = k) → xs.length = ys.length → xs.flatten = ys.flatten → xs = ys
  | [], [], _, _, _, _ => rfl
  | x :: xs, y :: ys, hx, hy, hl, e => by
    rw [List.flatten_cons, List.flatten_cons] at e
    obtain ⟨e1, e2⟩ := List.append_inj e (by rw [hx x (by simp), hy y (by simp)])
    rw [e1, flat_inj (fun z hz => hx z (by simp [hz])) (fun z hz => hy z (by simp [hz])) (by simpa using hl) e2]
theorem flat_at' {k : Nat} (hk : 0 < k) : ∀ {xs : List (List AV)}, (∀ x ∈ xs, x.length = k) → ∀ {j : Nat} {a : AV}, xs.flatten[j]? = some a → ∃ x, xs[j / k]? = some x ∧ x[j % k]? = some a
  | x :: xs, h, j, a, hj => by
    have hxl := h x (by simp)
    rw [List.flatten_cons] at hj
    by_cases hlt : j < k
    · rw [List.getElem?_append_left (by omega)] at hj
      exact ⟨x, by rw [Nat.div_eq_of_lt hlt]; rfl, by rw [Nat.mod_eq_of_lt hlt]; exact hj⟩
    · rw [List.getElem?_append_right (by omega), hxl] at hj
      obtain ⟨y, h1, h2⟩ := flat_at' hk (fun z hz => h z (by simp [hz])) hj
      have e1 : j / k = (j - k) / k + 1 := by
        have := Nat.add_div_right (j - k) hk
        rw [Nat.sub_add_cancel (by omega)] at this
        exact this
      have e2 : j % k = (j - k) % k := by
        rw [← Nat.add_mod_right (j - k) k, Nat.sub_add_cancel (by omega)]
      exact ⟨y, by rw [e1]; exact h1, by rw [e2]; exact h2⟩

section
variable {cmp : List AV → List AV → H → Option (Int × H)} {h : H} {i o k : Nat} {cs : List AV} {xs : List (List AV)} {cf : List AV → List AV → Int}

theorem SortPreK.swo (p : SortPreK cmp h i o k cs xs cf) : SWO (ltSK xs cf) where
  irrefl x := by simp only [ltSK, ltOf]; exact decide_eq_false (p.irrefl _ x.2)
  trans x y z h1 h2 := by
    simp only [ltSK, ltOf] at *
    exact decide_eq_true (p.trans _ x.2 _ y.2 _ z.2 (of_decide_eq_true h1) (of_decide_eq_true h2))
  ntrans x y z h1 h2 := by
    simp only [ltSK, ltOf] at *
    exact decide_eq_false (p.ntrans _ x.2 _ y.2 _ z.2 (of_decide_eq_false h1) (of_decide_eq_false h2))

theorem sortedOfK_perm (xs : List (List AV)) (cf : List AV → List AV → Int) : (sortedOfK xs cf).Perm xs := by
  have h := (List.mergeSort_perm xs.attach fun x y => !ltSK xs cf y x).map (·.1)
  rwa [List.attach_map_subtype_val] at h

theorem SortPreK.sorted (p : SortPreK cmp h i o k cs xs cf) : (sortedOfK xs cf).Pairwise fun x y => ¬ cf y x < 0 := by
  unfold sortedOfK
  rw [List.pairwise_map]
  have hs := p.swo
  refine (List.pairwise_mergeSort (le := fun x y => !ltSK xs cf y x) (fun a b c h1 h2 => ?_) (fun a b => ?_) xs.attach).imp fun {x y} hxy => ?_
  · simp only [Bool.not_eq_true'] at *
    exact hs.ntrans _ _ _ h2 h1
  · cases hab : ltSK xs cf b a with
    | false => rfl
    | true =>
      cases hba : ltSK xs cf a b with
      | false => simp
      | true => have := hs.trans _ _ _ hab hba; rw [hs.irrefl] at this; cases this
  · simp only [Bool.not_eq_true', ltSK, ltOf] at hxy
    exact of_decide_eq_false hxy

def SortsK (cmp : List AV → List AV → H → Option (Int × H)) (h : H) (i o k len : Nat) (h' : H) : Prop :=
  ∃ cs xs cf, xs.length = len ∧ SortPreK cmp h i o k cs xs cf ∧ h' = (h.set i (.cells (spl cs o (sortedOfK xs cf).flatten) false)).bump 1000

theorem SortsK.unique {len : Nat} {h1 h2 : H} (a : SortsK cmp h i o k len h1) (b : SortsK cmp h i o k len h2) : h1 = h2 := by
  obtain ⟨cs, xs, cf, hl, p, rfl⟩ := a
  obtain ⟨cs', xs', cf', hl', p', rfl⟩ := b
  have e := p.hg.symm.trans p'.hg
  cases e
  obtain rfl : xs = xs' := flat_inj p.len p'.len (hl.trans hl'.symm) (by rw [← p.hxs, ← p'.hxs, hl, hl'])
  have : ltSK xs cf = ltSK xs cf' := by
    funext x y
    obtain ⟨_, e1, _⟩ := p.hcmp xs rfl (fun _ h => h) _ x.2 _ y.2
    obtain ⟨_, e2, _⟩ := p'.hcmp xs rfl (fun _ h => h) _ x.2 _ y.2
    rw [e1] at e2
    have : cf x.1 y.1 = cf' x.1 y.1 := by injection e2 with e2; injection e2
    simp only [ltSK, ltOf, this]
  unfold sortedOfK
  rw [this]

open Classical in
noncomputable def sortFK (k : Nat) (cmp : List AV → List AV → H → Option (Int × H)) (p : Option (Nat × Nat)) (len : Nat) (_ : Cap) (h : H) : Option (Unit × H) :=
  if len = 0 then some ((), h) else
  match p with
  | none => none
  | some (i, o) => if hx : ∃ h', SortsK cmp h i o k len h' then some ((), Classical.choose hx) else none

theorem sortFK_none (cmp : List AV → List AV → H → Option (Int × H)) (p : Option (Nat × Nat)) (c : Cap) (h : H) : sortFK k cmp p 0 c h = some ((), h) := by
  unfold sortFK
  rw [if_pos rfl]

theorem sortFK_of (p : SortPreK cmp h i o k cs xs cf) (c : Cap) (h0 : xs.length ≠ 0) : sortFK k cmp (some (i, o)) xs.length c h = some ((), (h.set i (.cells (spl cs o (sortedOfK xs cf).flatten) false)).bump 1000) := by
  unfold sortFK
  rw [if_neg h0]
  have hx : ∃ h', SortsK cmp h i o k xs.length h' := ⟨_, cs, xs, cf, rfl, p, rfl⟩
  simp only
  rw [dif_pos hx]
  rw [(Classical.choose_spec hx).unique ⟨cs, xs, cf, rfl, p, rfl⟩]
end

/-! ### the model's run -/

section
variable {cs : List AV} {h : H} {i o : Nat}

theorem spl_len {cs ys : List AV} {o : Nat} (hfit : o + ys.length ≤ cs.length) : (spl cs o ys).length = cs.length := by
  apply Nat.le_antisymm
  · rcases Nat.lt_or_ge cs.length (spl cs o ys).length with hlt | hge
    · have := spl_get ys cs o (by omega) cs.length
      rw [if_neg (by omega), List.getElem?_eq_none (Nat.le_refl _), List.getElem?_eq_none_iff] at this
      omega
    · exact hge
  · rcases Nat.lt_or_ge (spl cs o ys).length cs.length with hlt | hge
    · have := spl_get ys cs o (by omega) (spl cs o ys).length
      rw [List.getElem?_eq_none (Nat.le_refl _)] at this
      split at this
      · have := List.getElem?_eq_none_iff.1 this.symm; omega
      · have := List.getElem?_eq_none_iff.1 this.symm; omega
    · exact hge

theorem Post.flat {r : Ren} {w : World} {t : Tgt} (hrel : Rel r h w) (hr : r i = some t) (hg : h.get i = some (.cells cs false)) {ys : List AV} {F : Array Value} (hfit : o + ys.length ≤ cs.length) (hF : F.size = ys.length)
    (hv : ∀ (j : Nat) (a : AV) (v : Value), ys[j]? = some a → F[j]? = some v → VR r a v) (n : Nat) (os : Array Obj) :
    Post r h w r (h.set i (.cells (spl cs o ys) false)) (grow (putRow id (Sort.ahead w n) t.blk (t.base + o) F) os) := by
  obtain ⟨C, e, fz, h1, h2, h3, h4, h5⟩ := hrel.obj i t _ hr hg
  have hlen : (spl cs o ys).length = cs.length := spl_len hfit
  have hother : ∀ b, b ≠ t.blk → (putRow id (Sort.ahead w n) t.blk (t.base + o) F).heap[b]? = w.heap[b]? := fun b hb => by
    show ((Sort.ahead w n).heap.modify t.blk _)[b]? = _
    rw [Array.getElem?_modify, if_neg (Ne.symm hb)]
    rfl
  have hat : (putRow id (Sort.ahead w n) t.blk (t.base + o) F).heap[t.blk]? = some (.cells (putCells id (t.base + o) F C) e fz) := by
    show ((Sort.ahead w n).heap.modify t.blk _)[t.blk]? = _
    rw [Array.getElem?_modify, if_pos rfl]
    show (w.heap[t.blk]?).map _ = _
    rw [h1]
    rfl
  have p1 : Post r h w r (h.set i (.cells (spl cs o ys) false)) (putRow id (Sort.ahead w n) t.blk (t.base + o) F) := by
    refine Post.of_set hrel hr hg rfl rfl (by rw [Go.Sort.size_putRow]; rfl) ⟨rfl, rfl, rfl, Nat.le_add_right _ _⟩ hother ⟨_, e, fz, hat, ?_, ?_, fun k a v ha hv' => ?_, fun _ off hoff => h5 rfl off (by simpa [putCells] using hoff)⟩
    · simpa [putCells] using h2
    · omega
    · rw [spl_get _ _ _ (by omega)] at ha
      simp only [putCells, Array.getElem?_mapIdx] at hv'
      obtain ⟨u, hu, rfl⟩ := Option.map_eq_some_iff.1 hv'
      split at ha
      · rename_i hk
        rw [if_pos ⟨by omega, by omega⟩, show t.base + k - (t.base + o) = k - o by omega]
        have hlt : k - o < F.size := by omega
        exact hv (k - o) a _ ha (by rw [getElem!_pos F (k - o) hlt]; exact Array.getElem?_eq_getElem hlt)
      · rename_i hk
        rw [if_neg (by omega)]
        exact h4 k a u ha hu
  refine p1.trans (Post.grew p1.rel (by simp [grow]) (fun b hb => ?_) ⟨rfl, rfl, rfl, Nat.le_refl _⟩)
  exact heap_grow_old _ _ hb
end


theorem sortFK_called {P : Program} {ρ : Go.Shelf.Ren} {f g : FuncId} {fn : Func} {caps : List AV} {k : Nat} {cmp : List AV → List AV → H → Option (Int × H)} (L : SlLaysF0.n6 P ρ) (aE : ∀ w, (isAgg (ρ.t 24)).run P w = .ok true w) (zE : ∀ w, (Go.sizeOf (ρ.t 24)).run P w = .ok k w) (hρ : ρ.f 6 = f) (hf : P.funcs[f]? = some fn) (hb : fn.body.isNone = false) (hn : (fn.name == "runtime.NumGoroutine") = false)
    (hs : ∀ x y h q, cmp x y h = some q → ACall P g ([.agg x, .agg y] ++ caps) h (.int .i64 q.1) q.2)
    {p : Option (Nat × Nat)} {len : Nat} {c : Cap} {h : H} {q : Unit × H} (e : sortFK k cmp p len c h = some q) : Called P f [.slice p len c, .func g [] caps] h (.tup []) q.2 := by
  subst hρ
  unfold sortFK at e
  split at e
  · rename_i h0
    cases e
    subst h0
    refine .inl ⟨⟨fn, hf, hb, hn⟩, Nat.le_refl _, fun h => h, fun r w args' hrel _ ha => ?_⟩
    obtain ⟨v, u, rfl, hv, hu⟩ := ha.two
    have : ∃ a c', v = .slice a 0 c' := by cases hv <;> exact ⟨_, _, rfl⟩
    obtain ⟨a, c', rfl⟩ := this
    exact (AnyF.slices_SortFunc_none L a c' u w).mono fun e w' ⟨he, hw⟩ => ⟨r, _, he, VR_tup (vs := []) .nil, by rw [hw]; exact Post.refl hrel⟩
  · rename_i h0
    split at e
    · cases e
    · rename_i i o
      split at e
      · rename_i hx
        cases e
        obtain ⟨cs, xs, cf, hl, pre, hh⟩ := Classical.choose_spec hx
        generalize Classical.choose hx = hfin at hh
        subst hh
        subst hl
        have hpos : 0 < xs.length := Nat.pos_of_ne_zero h0
        refine .inl ⟨⟨fn, hf, hb, hn⟩, Nat.le_add_right _ _, fun wf j oj hj => ?_, fun r w args' hrel hfree ha => ?_⟩
        · show j < h.next + 1000
          refine Nat.lt_of_lt_of_le ?_ (Nat.le_add_right _ _)
          rw [get_bump] at hj
          simp only [H.set] at hj
          split at hj
          · rename_i e; subst e; exact wf _ _ pre.hg
          · exact wf _ _ hj
        obtain ⟨v, u, rfl, hv, hu⟩ := ha.two
        haveI : Inhabited {a : List AV // a ∈ xs} := ⟨⟨xs[0], List.getElem_mem hpos⟩⟩
        have main : ∀ (t : Tgt) (cap : Nat), r i = some t → Calls P (ρ.f 6) #[.slice (some ⟨t.blk, t.base + o, none⟩) xs.length cap, u] w fun e w' => ∃ r' v', e = .returned v' ∧ VR r' (.tup []) v' ∧ Post r h w r' ((h.set i (.cells (spl cs o (sortedOfK xs cf).flatten) false)).bump 1000) w' := by
          intro t cap hr
          have hfl := flat_len pre.len
          have hcellx : ∀ j (hj : j < xs.flatten.length), ∃ v, w.cell? ⟨t.blk, t.base + o + j, none⟩ = some v ∧ VR r xs.flatten[j] v ∧ t.blk < w.heap.size := by
            intro j hj
            have hj' : cs[o + j]? = some xs.flatten[j] := by
              have : xs.flatten[j]? = some xs.flatten[j] := List.getElem?_eq_getElem hj
              rw [← this]
              conv => rhs; rw [← pre.hxs]
              rw [List.getElem?_take, if_pos (by omega), List.getElem?_drop]
            obtain ⟨v, h1, h2, h3⟩ := cell_str hrel hr pre.hg hj'
            exact ⟨v, by rw [Nat.add_assoc]; exact h1, h2, h3⟩
          have hvr : ∀ x ∈ xs, ∀ a ∈ x, VR r a (valOf r a) := fun x hx a ha => by
            have hm : a ∈ xs.flatten := List.mem_flatten.2 ⟨x, hx, ha⟩
            obtain ⟨j, hj, e⟩ := List.mem_iff_getElem.1 hm
            obtain ⟨v, _, h2, _⟩ := hcellx j hj
            rw [e] at h2
            rw [← valOf_of (pre.plain x hx a ha) h2]
            exact h2
          let enc : {a : List AV // a ∈ xs} → List Value := fun x => x.1.map (valOf r)
          have hk : ∀ x, (enc x).length = k := fun x => by simp only [enc, List.length_map]; exact pre.len _ x.2
          have h1c : ∀ x, ∀ v ∈ enc x, v.oneCell' = true := fun x v hv => by
            obtain ⟨a, _, rfl⟩ := List.mem_map.1 hv
            exact valOf_one r a
          have hflat : ∀ (dk : Array {a : List AV // a ∈ xs}) (j : Nat) (a : AV), (dk.toList.map (·.1)).flatten[j]? = some a → j < dk.size * k → (Go.Sort.flatK enc k dk)[j]! = valOf r a ∧ ∃ x ∈ xs, a ∈ x := by
            intro dk j a hj hlt
            obtain ⟨x, h1, h2⟩ := flat_at' pre.kpos (fun y hy => by obtain ⟨z, _, rfl⟩ := List.mem_map.1 hy; exact pre.len _ z.2) hj
            rw [List.getElem?_map, Array.getElem?_toList] at h1
            obtain ⟨z, hz, rfl⟩ := Option.map_eq_some_iff.1 h1
            obtain ⟨hzl, hze⟩ := Array.getElem?_eq_some_iff.1 hz
            refine ⟨?_, z.1, z.2, List.mem_of_getElem? h2⟩
            rw [get_flatK _ _ _ _ hlt, getElem!_pos dk (j / k) hzl, hze]
            have h3 : (enc z)[j % k]? = some (valOf r a) := by simp only [enc]; rw [List.getElem?_map, h2]; rfl
            obtain ⟨h4, h5⟩ := List.getElem?_eq_some_iff.1 h3
            rw [getElem!_pos (enc z) (j % k) h4, h5]
          have hdl : ∀ dk : Array {a : List AV // a ∈ xs}, (dk.toList.map (·.1)).flatten.length = dk.size * k := fun dk => by
            rw [flat_len fun y hy => by obtain ⟨z, _, rfl⟩ := List.mem_map.1 hy; exact pre.len _ z.2]
            simp
          have hH : HoldsK enc k w t.blk (t.base + o) xs.attach.toArray := fun j hj => by
            have hsz : (Go.Sort.flatK enc k xs.attach.toArray).size = xs.length * k := by rw [size_flatK]; simp
            have hj' : j < xs.flatten.length := by omega
            obtain ⟨v, h1, h2, h3⟩ := hcellx j hj'
            have hat : (xs.attach.toArray.toList.map (·.1)).flatten = xs.flatten := by simp
            obtain ⟨e1, x, hx, hax⟩ := hflat xs.attach.toArray j xs.flatten[j] (by rw [hat]; exact List.getElem?_eq_getElem hj') (by simp; omega)
            refine ⟨?_, ?_⟩
            · rw [h1]
              show some v = some (id _)
              rw [id, e1, valOf_of (pre.plain x hx _ hax) h2]
            · obtain ⟨C, e, fz, g1, g2, g3, g4, g5⟩ := hrel.obj i t _ hr pre.hg
              unfold World.frozen?
              simp only [g1]
              have := g5 rfl (t.base + o + j) (by have := pre.fit; omega)
              simpa using this
          have hblk : t.blk < w.heap.size := hrel.bound i t hr
          have hpost : ∀ (n : Nat) (dk : Array {a : List AV // a ∈ xs}), dk.size = xs.length → ∀ os, Post r h w r (h.set i (.cells (spl cs o (dk.toList.map (·.1)).flatten) false)) (sortWorldK enc k w t.blk (t.base + o) n dk os) := fun n dk hdk os => by
            have hdl' := hdl dk
            have hsz : (Go.Sort.flatK enc k dk).size = dk.size * k := size_flatK _ _ _
            refine Post.flat (F := Go.Sort.flatK enc k dk) hrel hr pre.hg (by rw [hdl', hdk]; exact pre.fit) (by rw [hsz, hdl']) (fun j a v hj hv' => ?_) n os
            have hlt := (Array.getElem?_eq_some_iff.1 hv').1
            obtain ⟨e1, x, hx, hax⟩ := hflat dk j a hj (by omega)
            rw [getElem!_pos _ j hlt, (Array.getElem?_eq_some_iff.1 hv').2] at e1
            rw [e1]
            exact hvr x hx a hax
          cases hu with
          | func _ _ _ first' caps' k1 k2 k3 k4 =>
          obtain rfl : first' = #[] := by simpa using k1.symm
          have hcaps : VRL r caps caps'.toList := ⟨by simpa using k2, fun i x v hx hv => k4 i x v hx (by simpa using hv)⟩
          have hagg : ∀ x : {a : List AV // a ∈ xs}, VR r (.agg x.1) (.agg (enc x).toArray) := fun x => .agg _ _ (by simp [enc]) fun j a u ha hu => by
            simp only [enc, List.getElem?_toArray, List.getElem?_map, ha, Option.map_some, Option.some.injEq] at hu
            subst hu
            exact hvr _ x.2 _ (List.mem_of_getElem? ha)
          have hcmp : CmpLays P g caps' enc k (fun x y => cf x.1 y.1) t.blk (t.base + o) xs.attach.toArray.size w := by
            intro m os dk hdk x y
            have hdk' : dk.size = xs.length := by simpa using hdk
            have hp := hpost m dk hdk' os
            obtain ⟨h2, hc, hnx⟩ := pre.hcmp (dk.toList.map (·.1)) (by simpa using hdk') (fun y hy => by obtain ⟨z, _, rfl⟩ := List.mem_map.1 hy; exact z.2) _ x.2 _ y.2
            have hac := hs _ _ _ _ hc
            have hargs : VRL r ([AV.agg x.1, AV.agg y.1] ++ caps) (#[Value.agg (enc x).toArray, Value.agg (enc y).toArray] ++ caps').toList := by
              rw [Array.toList_append]
              exact VRL.append (VRL.cons (hagg x) (VRL.cons (hagg y) .nil)) hcaps
            refine (hac.sim r _ _ hp.rel.freeze (fun j h1 h3 => hfree j h1 (Nat.lt_of_lt_of_le h3 hnx)) hargs).mono fun e w' ⟨r', v', he, hv', hq⟩ => ?_
            cases hv'
            refine ⟨he, World.grown hq.size (fun b hb => hq.keep b hb fun j tj oj _ _ hj => ?_) hq.env⟩
            obtain ⟨_, _, hj⟩ := freeze_get hj
            exact freeze_ro hj
          have eg : ∀ args w, (callFunc g args).run P w = .ok (.enter g args) w := by
            intro args W
            obtain ⟨_, hc0, _⟩ := pre.hcmp xs rfl (fun _ h => h) _ (List.getElem_mem hpos) _ (List.getElem_mem hpos)
            obtain ⟨gn, h1, h2, h3⟩ := (hs _ _ _ _ hc0).there
            have hn1 : ¬ gn.name = "runtime.NumGoroutine" := by simpa using h3
            have hb1 : ¬ gn.body = none := fun e => by rw [e] at h2; cases h2
            simp [callFunc, h1, hb1, hn1]
          have hT : ∀ x y : {a : List AV // a ∈ xs}, ltOf (fun x y : {a : List AV // a ∈ xs} => cf x.1 y.1) x y = false → ltOf (fun x y : {a : List AV // a ∈ xs} => cf x.1 y.1) y x = false → x = y := fun x y h1 h2 =>
            Subtype.ext (pre.total _ x.2 _ y.2 (of_decide_eq_false h1) (of_decide_eq_false h2))
          have hsort := AnyQ.slices_SortFunc_total L k aE zE enc hk h1c (fun x y => cf x.1 y.1) pre.swo g caps' t.blk (t.base + o) cap xs.attach.toArray w eg hcmp hH hblk (by simpa using pre.small) hT
          have hsize : xs.attach.toArray.size = xs.length := by simp
          rw [hsize] at hsort
          refine hsort.mono fun e w' ⟨he, n, os, hw⟩ => ⟨r, _, he, VR_tup (vs := []) .nil, ?_⟩
          rw [hw]
          have := hpost n (xs.attach.toArray.toList.mergeSort fun x y => !ltOf (fun x y : {a : List AV // a ∈ xs} => cf x.1 y.1) y x).toArray (by simp) os
          exact this.bump hfree
        generalize hlen : xs.length = len at *
        cases hv with
        | slice _ _ hr => exact main _ _ hr
        | sliceRest _ _ _ hr _ _ => exact main _ _ hr
        | sliceBare a => omega
        | sliceEnd a _ hr => omega
      · cases e

end Go.Ev
