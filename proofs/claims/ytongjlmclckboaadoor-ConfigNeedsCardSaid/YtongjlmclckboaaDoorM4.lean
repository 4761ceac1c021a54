/- Own texts, joined: EvO EvXj EvHR EvDn EvDr EvBu EvBt EvBx EvOw Shelf18 It18 Leaf18 Q18t Q181. -/
import Derived.Test.YtongjlmclckboaaDoorM3
import Derived.Lib.Join
import Derived.Below
import Derived.Sort.Grow
import Derived.Deep.Draws
import Derived.Lib.ItoaNum
import Derived.Lib.LaidTab
import Derived.Shelf.Strings.Builder1
import Derived.Shelf.Strings.OnBuilder
import Derived.Test.YtongjlmclckboaaDoorProg
import Derived.KernelRfl
import Derived.Shelf.LaysM
import Derived.Shelf.Strconv.Itoa3
set_option linter.all false
/- The abstract machine Ev, part O: plain rules for functions whose runs may end in unlike ways. -/
namespace Go.Ev
/-- what a call by continuation comes to, whichever way its run takes -/
def RetK {α : Type} (c : (α → H → Option Unit) → Option Unit) (P : α → H → Prop) : Prop := ∀ kk : α → H → Option Unit, (∀ r h', P r h' → kk r h' = some ()) → c kk = some ()
section
variable {α γ : Type}
theorem RetK.mono {c : (α → H → Option Unit) → Option Unit} {P P' : α → H → Prop} (d : RetK c P) (hp : ∀ r h, P r h → P' r h) : RetK c P' := fun kk k => d kk fun r h p => k r h (hp r h p)
end
theorem nextMK_of {h : H} {i : Nat} {f : AV → AV → H → Option Unit} {g : Option Unit} (ha : Asked h i) (hn : Nexts h i none → g = some ()) (hs : ∀ k v h', Nexts h i (some (k, v, h')) → f k v h' = some ()) : nextMK h i f g = some () := by
 unfold nextMK
 refine if_pos ⟨ha, fun c hc => ?_⟩
 match c, hc with
 | none, hc => exact hn hc
 | some (k, v, h'), hc => exact hs k v h' hc
section
variable {K V : Type}
structure Iter (h : H) (i m : Nat) (ek : K → AV) (ev : V → AV) (L : List (K × V × Nat)) (clk : Nat) (done rest : List (K × V × Nat)) : Prop where
 gm : h.mapAt m = some (L.map fun x => (ek x.1, ev x.2.1, x.2.2), clk)
 gi : h.get i = some (.miter (some m) clk (done.map (·.2.2)) clk)
 im : i ≠ m
 perm : (done ++ rest).Perm L
 nodup : (L.map (·.2.2)).Nodup
 born : ∀ x ∈ L, x.2.2 < clk
variable {h : H} {i m : Nat} {ek : K → AV} {ev : V → AV} {L : List (K × V × Nat)} {clk : Nat} {done rest : List (K × V × Nat)}
theorem Iter.move {h' : H} (it : Iter h i m ek ev L clk done rest) (h1 : h'.get m = h.get m) (h2 : h'.get i = h.get i) : Iter h' i m ek ev L clk done rest :=
 ⟨(mapAt_congr h1).trans it.gm, h2.trans it.gi, it.im, it.perm, it.nodup, it.born⟩
theorem Iter.apart (it : Iter h i m ek ev L clk done rest) : ∀ x ∈ rest, x.2.2 ∉ done.map (·.2.2) := by
 have hn : ((done ++ rest).map (·.2.2)).Nodup := (it.perm.map _).nodup_iff.2 it.nodup
 rw [List.map_append, List.nodup_append] at hn
 intro x hx hd
 exact hn.2.2 _ hd _ (List.mem_map_of_mem hx) rfl
/-- the next entry, whichever it is of those that are left -/
theorem Iter.next [DecidableEq K] [DecidableEq V] (it : Iter h i m ek ev L clk done rest) {f : AV → AV → H → Option Unit} {g : Option Unit}
  (hf : ∀ x rest' h', rest.Perm (x :: rest') → h'.next = h.next → (∀ j, j ≠ i → h'.get j = h.get j) → Iter h' i m ek ev L clk (done ++ [x]) rest' → f (ek x.1) (ev x.2.1) h' = some ()) (hg : rest = [] → g = some ()) : nextMK h i f g = some () := by
 refine nextMK_of ?_ (fun hc => ?_) fun k v h' hc => ?_
 ·unfold Asked
  rw [it.gi]
  simp only [it.gm]
  rintro ⟨_, h2, h3⟩
  cases hL : L with
  | nil => rw [hL] at h2; exact h2 rfl
  | cons x l =>
   have h4 := h3 (ek x.1, ev x.2.1, x.2.2) (List.mem_map.2 ⟨x, by rw [hL]; simp, rfl⟩)
   have := it.born x (by rw [hL]; simp)
   simp only at h4
   omega
 ·unfold Nexts at hc
  rw [it.gi] at hc
  simp only [it.gm] at hc
  refine hg ?_
  cases hr : rest with
  | nil => rfl
  | cons x l =>
   have hx : x ∈ rest := by rw [hr]; simp
   have hL : x ∈ L := it.perm.mem_iff.1 (List.mem_append_right _ hx)
   have := hc (ek x.1, ev x.2.1, x.2.2) (List.mem_map.2 ⟨x, hL, rfl⟩) (it.apart x hx)
   have := it.born x hL
   simp only at *
   omega
 ·unfold Nexts at hc
  rw [it.gi] at hc
  simp only [it.gm] at hc
  obtain ⟨e, he, hs, rfl, rfl, rfl⟩ := hc
  obtain ⟨x, hx, rfl⟩ := List.mem_map.1 he
  simp only at hs ⊢
  have hxr : x ∈ rest := by
   rcases List.mem_append.1 (it.perm.mem_iff.2 hx) with hd | hr
   ·exact absurd (List.mem_map_of_mem hd) hs
   ·exact hr
  have hp : rest.Perm (x :: rest.erase x) := List.perm_cons_erase hxr
  refine hf x (rest.erase x) _ hp rfl (fun j hj => get_set_ne hj) ⟨?_, ?_, it.im, ?_, it.nodup, it.born⟩
  ·exact (mapAt_congr (get_set_ne (Ne.symm it.im))).trans it.gm
  ·rw [get_set_self, List.map_append]; rfl
  ·refine List.Perm.trans ?_ it.perm
   rw [List.append_assoc]
   exact (List.Perm.append_left done hp).symm
/-- the entry that was come to -/
theorem Iter.entry {x : K × V × Nat} (it : Iter h i m ek ev L clk (done ++ [x]) rest) {β : Type} (f : AV → AV → Option β) : entryK h i f = f (ek x.1) (ev x.2.1) := by
 have hx : x ∈ L := it.perm.mem_iff.1 (by simp)
 have hfil : (L.map fun y => (ek y.1, ev y.2.1, y.2.2)).filter (fun e => e.2.2 == x.2.2) = [(ek x.1, ev x.2.1, x.2.2)] := by
  rw [List.filter_map]
  have : L.filter ((fun e : AV × AV × Nat => e.2.2 == x.2.2) ∘ fun y => (ek y.1, ev y.2.1, y.2.2)) = [x] := by
   have hn := it.nodup
   clear it
   induction L with
   | nil => cases hx
   | cons y l ih =>
    rw [List.map_cons, List.nodup_cons] at hn
    rw [List.filter_cons]
    simp only [Function.comp]
    rcases List.mem_cons.1 hx with rfl | hx
    ·simp only [beq_self_eq_true, if_true]
     congr 1
     rw [List.filter_eq_nil_iff]
     intro z hz e
     have e : z.2.2 = x.2.2 := by simpa using e
     exact hn.1 (List.mem_map.2 ⟨z, hz, e⟩)
    ·have hne : ¬ (y.2.2 == x.2.2) = true := by
      intro e
      have e : y.2.2 = x.2.2 := by simpa using e
      exact hn.1 (List.mem_map.2 ⟨x, hx, e.symm⟩)
     rw [if_neg hne]
     exact ih hx hn.2
  rw [this]; rfl
 unfold entryK evEntry
 rw [it.gi]
 simp only [it.gm, List.map_append, List.map_cons, List.map_nil, List.getLast?_append, List.getLast?_singleton, Option.some_or, if_true, hfil]
/-- a range over a map begins -/
theorem Iter.begin0 (hg : h.mapAt m = some (L.map fun x => (ek x.1, ev x.2.1, x.2.2), clk)) (hn : (L.map (·.2.2)).Nodup) (hb : ∀ x ∈ L, x.2.2 < clk) (hm : m < h.next) :
  ∃ it : AObj, (∀ {β : Type} (k : Nat → H → Option β), rangeMK (some m) h k = k h.next (h.new it)) ∧ Iter (h.new it) h.next m ek ev L clk [] L :=
 ⟨.miter (some m) clk [] clk, fun k => by simp only [rangeMK, evRangeM, hg], ⟨(mapAt_congr (get_new_lt hm)).trans hg, get_new_self _ _, by omega, .refl _, hn, hb⟩⟩
theorem Iter.begin {o : AObj} {l : List (K × V)} (hg : h.get m = some o) (ho : MObj ek ev l o) (hm : m < h.next) :
  ∃ L clk, L.map (fun x => (x.1, x.2.1)) = l ∧ ∃ it : AObj, (∀ {β : Type} (k : Nat → H → Option β), rangeMK (some m) h k = k h.next (h.new it)) ∧ Iter (h.new it) h.next m ek ev L clk [] L := by
 obtain ⟨L, clk, rfl, hl, hn, hb⟩ := ho
 exact ⟨L, clk, hl, Iter.begin0 (mapAt_map hg) hn hb hm⟩
end
end Go.Ev

/- The abstract machine Ev, part Xj: strings.Join (where drawnB is false: the kit's Below does not tell that draws are but counted up). -/
namespace Go.Ev
open Go.RowKit
theorem Post.below {r : Ren} {h : H} {w w' : World} (hrel : Rel r h w) (b : Below w.heap.size w w') : Post r h w r h w' where
 le := r.le_refl
 dom := fun i t h1 h2 => by rw [h1] at h2; cases h2
 rel := ⟨hrel.wf, fun i t o h1 h2 => (hrel.obj i t o h1 h2).move r.le_refl (b.block _ (hrel.bound i t h1)), hrel.inj, fun i t h => Nat.lt_of_lt_of_le (hrel.bound i t h) b.size, hrel.glob⟩
 keep := fun k hk _ => b.block k hk
 env := ⟨b.os, b.tape, b.output, fun h => by cases h⟩
 size := b.size
 next := Nat.le_refl _
 fresh := fun i t h1 h2 => by rw [h1] at h2; cases h2
 roKeep := fun i o _ h => ⟨o, h, rfl⟩
 gap := fun i t _ => by omega
 touch := fun i _ h => absurd rfl h
theorem acall_below {P : Program} {f : FuncId} {fn : Func} (hf : P.funcs[f]? = some fn) (hb : fn.body.isNone = false) (hn : (fn.name == "runtime.NumGoroutine") = false) {args : List AV} {v : AV} {h : H}
  (hrun : ∀ (r : Ren) (w : World) (args' : Array Value), Rel r h w → VRL r args args'.toList → Calls P f args' w fun e w' => (∃ v', e = .returned v' ∧ VR r v v') ∧ Below w.heap.size w w') : ACall P f args h v h where
 there := ⟨fn, hf, hb, hn⟩
 next := Nat.le_refl _
 wf := fun h => h
 sim := fun r w args' hrel _ ha => (hrun r w args' hrel ha).mono fun e w' ⟨⟨v', he, hv⟩, b⟩ => ⟨r, v', he, hv, Post.below hrel b⟩
def joinS (xs : List ByteArray) (sep : ByteArray) : ByteArray := ⟨(Lib.join (xs.map (·.data.toList)) sep.data.toList).toArray⟩
def JoinPre (p : Option (Nat × Nat)) (len : Nat) (c : Cap) (sep : ByteArray) (h : H) (xs : List ByteArray) : Prop :=
 Row h 1 p len c (xs.map AV.str) ∧ xs.length ≤ 140737488355328 ∧ (Lib.join (xs.map (·.data.toList)) sep.data.toList).length ≤ 140737488355328
open Classical in
noncomputable def joinF (p : Option (Nat × Nat)) (len : Nat) (c : Cap) (sep : ByteArray) (h : H) : Option (ByteArray × H) :=
 if hx : ∃ xs, JoinPre p len c sep h xs then some (joinS (Classical.choose hx) sep, h) else none
theorem map_str_inj : ∀ {xs ys : List ByteArray}, xs.map AV.str = ys.map AV.str → xs = ys
 | [], [], _ => rfl
 | x :: xs, y :: ys, h => by
  simp only [List.map_cons, List.cons.injEq, AV.str.injEq] at h
  rw [h.1, map_str_inj h.2]
 | [], _ :: _, h => by simp at h
 | _ :: _, [], h => by simp at h
theorem joinF_of {p : Option (Nat × Nat)} {len : Nat} {c : Cap} {sep : ByteArray} {h : H} {xs : List ByteArray} (r : Row h 1 p len c (xs.map AV.str)) (hN : xs.length ≤ 140737488355328) (hlen : (Lib.join (xs.map (·.data.toList)) sep.data.toList).length ≤ 140737488355328) : joinF p len c sep h = some (joinS xs sep, h) := by
 have hx : ∃ xs, JoinPre p len c sep h xs := ⟨xs, r, hN, hlen⟩
 unfold joinF
 rw [dif_pos hx]
 have := map_str_inj ((Classical.choose_spec hx).1.unique r)
 rw [this]
theorem joinF_called {P : Program} {f : FuncId} {fn : Func} (hf : P.funcs[f]? = some fn) (hb : fn.body.isNone = false) (hn : (fn.name == "runtime.NumGoroutine") = false)
  (h0 : ∀ (a : Option Addr) (c : Nat) (sep : ByteArray) (w : World), Calls P f #[.slice a 0 c, .string sep] w fun e w' => e = .returned (.string ⟨#[]⟩) ∧ w' = w)
  (h1 : ∀ (bk o c : Nat) (xs : List ByteArray) (sep : ByteArray) (w : World), (∀ (j : Nat) x, xs[j]? = some x → w.cell? ⟨bk, o + j, none⟩ = some (.string x)) → bk < w.heap.size → xs.length ≤ 140737488355328 → xs.length ≤ c → (Lib.join (xs.map (·.data.toList)) sep.data.toList).length ≤ 140737488355328 →
   Calls P f #[.slice (some ⟨bk, o, none⟩) xs.length c, .string sep] w fun e w' => e = .returned (.string ⟨(Lib.join (xs.map (·.data.toList)) sep.data.toList).toArray⟩) ∧ Below w.heap.size w w')
  {p : Option (Nat × Nat)} {len : Nat} {c : Cap} {sep : ByteArray} {h : H} {q : ByteArray × H} (e : joinF p len c sep h = some q) : Called P f [.slice p len c, .str sep] h (.str q.1) q.2 := by
 unfold joinF at e
 split at e
 ·rename_i hx
  cases e
  obtain ⟨row, hN, hlen⟩ := Classical.choose_spec hx
  generalize Classical.choose hx = xs at row hN hlen
  refine .inl (acall_below hf hb hn fun r w args' hrel ha => ?_)
  obtain ⟨v, u, rfl, hv, hu⟩ := ha.two
  cases hu
  have hl := row.length
  simp only [List.length_map, Nat.mul_one] at hl
  by_cases hz : xs = []
  ·subst hz
   obtain rfl : len = 0 := by simpa using hl.symm
   have : ∃ a c', v = .slice a 0 c' := by cases hv <;> exact ⟨_, _, rfl⟩
   obtain ⟨a, c', rfl⟩ := this
   exact (h0 a c' sep w).mono fun e w' ⟨he, hw⟩ => ⟨⟨_, he, .str _⟩, by rw [hw]; exact .refl _ _⟩
  ·have hpos : 0 < xs.length := List.length_pos_iff.2 hz
   generalize hgx : xs.map AV.str = vs at row
   cases row with
   | nil => have := congrArg List.length hgx; simp at this; exact absurd this hz
   | row hb' hg hvs hle hc =>
    rename_i b o cs ro
    rw [← hgx] at hvs
    have go : ∀ (t : Tgt) (cap : Nat), r b = some t → xs.length ≤ cap → Calls P f #[.slice (some ⟨t.blk, t.base + o, none⟩) len cap, .string sep] w fun e w' => (∃ v', e = .returned v' ∧ VR r (.str (joinS xs sep)) v') ∧ Below w.heap.size w w' := by
     intro t cap hr hcap
     have hcell : ∀ (j : Nat) x, xs[j]? = some x → w.cell? ⟨t.blk, t.base + o + j, none⟩ = some (.string x) ∧ t.blk < w.heap.size := by
      intro j x hj
      have hj' : cs[o + j]? = some (.str x) := by
       have : (xs.map AV.str)[j]? = some (.str x) := by rw [List.getElem?_map, hj]; rfl
       rw [← hvs, List.getElem?_take] at this
       split at this
       ·rwa [List.getElem?_drop] at this
       ·cases this
      obtain ⟨v, h1, h2, h3⟩ := cell_str hrel hr hg hj'
      cases h2
      exact ⟨by rw [Nat.add_assoc]; exact h1, h3⟩
     have h00 := hcell 0 _ (List.getElem?_eq_getElem hpos)
     rw [← hl]
     exact (h1 t.blk (t.base + o) cap xs sep w (fun j x hj => (hcell j x hj).1) h00.2 hN hcap hlen).mono fun e w' ⟨he, hw⟩ => ⟨⟨_, he, .str _⟩, hw⟩
    cases hv with
    | slice len c hr =>
     rcases hc with hc | ⟨k, hc, hk⟩
     ·cases hc
     ·cases hc; exact go _ _ hr (by omega)
    | sliceRest len size cap hr hcp hlc => exact go _ _ hr (by omega)
    | sliceBare a => omega
    | sliceEnd a size hr => omega
 ·cases e
end Go.Ev

/- The abstract machine Ev: objects that nobody writes, ahead of a law (rows, whole tables). -/
namespace Go.Ev
open Go.RowKit Go.Sort
abbrev Objs := List (Option Tgt × AObj)
def HR (objs : Objs) : H := ⟨objs.length, fun i => (objs[i]?).map (·.2)⟩
def rR (objs : Objs) : Ren := fun i => (objs[i]?).bind (·.1)
theorem relR {objs : Objs} {w : World} (h : ∀ x ∈ objs, ∀ t, x.1 = some t → OR (rR objs) w t x.2 ∧ t.blk < w.heap.size) (hro : ∀ x ∈ objs, x.2.ro = true) (hg : GL (rR objs)) : Rel (rR objs) (HR objs) w where
 wf := fun i o hi => by
  simp only [HR, Option.map_eq_some_iff] at hi ⊢
  obtain ⟨x, hx, _⟩ := hi
  exact (List.getElem?_eq_some_iff.1 hx).1
 obj := fun i t o hr hi => by
  simp only [HR, Option.map_eq_some_iff, rR, Option.bind_eq_some_iff] at hi hr
  obtain ⟨x, hx, rfl⟩ := hi
  obtain ⟨y, hy, ht⟩ := hr
  rw [hx] at hy; cases hy
  exact (h x (List.mem_of_getElem? hx) t ht).1
 inj := fun i j ti tj oi oj _ _ hi hj _ => by
  simp only [HR, Option.map_eq_some_iff] at hi hj
  obtain ⟨x, hx, rfl⟩ := hi
  obtain ⟨y, hy, rfl⟩ := hj
  exact .inr ⟨hro x (List.mem_of_getElem? hx), hro y (List.mem_of_getElem? hy)⟩
 bound := fun i t hr => by
  simp only [rR, Option.bind_eq_some_iff] at hr
  obtain ⟨y, hy, ht⟩ := hr
  exact (h y (List.mem_of_getElem? hy) t ht).2
 glob := hg
theorem Post.grewT {r : Ren} {h : H} {w : World} (hrel : Rel r h w) (k : Nat) (os : Array Obj) : Post r h w r h (grow (w.drewN k) os) where
 env := ⟨rfl, rfl, rfl, fun _ => Nat.le_add_right _ _⟩
 le := r.le_refl
 dom := fun i t h1 h2 => by rw [h1] at h2; cases h2
 rel := ⟨hrel.wf, fun i t o h1 h2 => (hrel.obj i t o h1 h2).move r.le_refl (by have := hrel.bound i t h1; simp [grow, World.drewN, Array.getElem?_append, this]), hrel.inj, fun i t h => by have := hrel.bound i t h; simp [grow, World.drewN]; omega, hrel.glob⟩
 keep := fun b hb _ => by simp [grow, World.drewN, Array.getElem?_append, hb]
 size := by simp [grow, World.drewN]
 next := Nat.le_refl _
 fresh := fun i t h1 h2 => by rw [h1] at h2; cases h2
 roKeep := fun i o _ h => ⟨o, h, rfl⟩
 gap := fun i t _ => by omega
 touch := fun i _ h => absurd rfl h
def pow10AV : List AV := Lib.pow10Tab.map (.int .u64)
def itoaS (n : Int) : ByteArray := ⟨(Lib.itoa n).toArray⟩
open Classical in
/-- 'i': the block of the table internal/strconv.uint64pow10 -/
noncomputable def itoaF (i : Nat) (n : Int) (h : H) : Option (ByteArray × H) :=
 if h.get i = some (.tab pow10AV) ∧ -9223372036854775808 ≤ n ∧ n ≤ 9223372036854775807 then some (itoaS n, h) else none
theorem itoaF_of {i : Nat} {n : Int} {h : H} (hg : h.get i = some (.tab pow10AV)) (h0 : -9223372036854775808 ≤ n) (h1 : n ≤ 9223372036854775807) : itoaF i n h = some (itoaS n, h) := if_pos ⟨hg, h0, h1⟩
theorem tabIs_of {P : Program} {r : Ren} {h : H} {w : World} (hrel : Rel r h w) {name : String} {g i : Nat} (hn : P.globalNamed name = some g) (hi : glFind glTab g = some i) {k : IntKind} {zs : List Int} (hg : h.get i = some (.tab (zs.map (.int k)))) : Lib.TabIs P w name k zs := by
 obtain ⟨row, hr⟩ := hrel.glob g i hi
 obtain ⟨C, e, fz, h1, h2, h3, h4⟩ := hrel.obj i _ _ hr hg
 unfold Lib.TabIs World.var?
 rw [hn, Option.bind_some]
 simp only at h1
 rw [h1]
 simp only [Option.some.injEq]
 apply Array.ext_getElem?
 intro j
 simp only [List.length_map] at h3
 by_cases hj : j < zs.length
 ·have hc : C[j]? = some (C[j]'(by omega)) := Array.getElem?_eq_getElem (by omega)
  have := h4 j (.int k zs[j]) _ (by simp [hj]) hc
  rw [hc]
  generalize C[j]'(by omega) = v at this
  cases this
  simp [hj]
 ·rw [Array.getElem?_eq_none (by omega), Array.getElem?_eq_none (by simp; omega)]
theorem itoaF_called {P : Program} {f : FuncId} {fn : Func} (hf : P.funcs[f]? = some fn) (hb : fn.body.isNone = false) (hn : (fn.name == "runtime.NumGoroutine") = false) {g i : Nat} (hg : P.globalNamed "internal/strconv.uint64pow10" = some g) (hi : glFind glTab g = some i)
  (hit : ∀ (n : Int), -9223372036854775808 ≤ n → n ≤ 9223372036854775807 → ∀ w : World, Lib.TabIs P w "internal/strconv.uint64pow10" .u64 Lib.pow10Tab → Calls P f #[.int .i64 n] w fun e w' => e = .returned (.string ⟨(Lib.itoa n).toArray⟩) ∧ ∃ k os, w' = grow (w.drewN k) os)
  {n : Int} {h : H} {q : ByteArray × H} (e : itoaF i n h = some q) : Called P f [.int .i64 n] h (.str q.1) q.2 := by
 unfold itoaF at e
 split at e
 ·rename_i hx
  cases e
  refine .inl ⟨⟨fn, hf, hb, hn⟩, Nat.le_refl _, fun h => h, fun r w args' hrel _ ha => ?_⟩
  obtain ⟨v, rfl, hv⟩ := ha.one
  cases hv
  refine (hit n hx.2.1 hx.2.2 w (tabIs_of hrel hg hi hx.1)).mono fun e w' ⟨he, k, os, hw⟩ => ?_
  subst hw
  exact ⟨r, _, he, .str _, Post.grewT hrel k os⟩
 ·cases e
end Go.Ev
namespace Go.Ev
theorem tab_block {P : Program} {W : World} {name : String} {k : IntKind} {zs : List Int} {g : Nat} (h : Lib.TabIs P W name k zs) (hg : P.globalNamed name = some g) : ∃ e fz, W.heap[g]? = some (.cells (zs.map fun z => Value.int k z).toArray e fz) := by
 unfold Lib.TabIs World.var? at h
 rw [hg, Option.bind_some] at h
 split at h
 ·rename_i cs e fz hc
  cases h
  exact ⟨e, fz, hc⟩
 ·cases h
theorem tab_OR {P : Program} {W : World} {name : String} {k : IntKind} {zs : List Int} {g : Nat} (h : Lib.TabIs P W name k zs) (hg : P.globalNamed name = some g) (r : Ren) (row : Nat) : OR r W ⟨g, 0, row⟩ (.tab (zs.map (.int k))) ∧ g < W.heap.size := by
 obtain ⟨e, fz, hb⟩ := tab_block h hg
 refine ⟨⟨_, e, fz, hb, rfl, by simp, fun i a v ha hv => ?_⟩, World.block_lt hb⟩
 simp only [List.getElem?_map, Option.map_eq_some_iff, List.getElem?_toArray] at ha hv
 obtain ⟨x, hx, rfl⟩ := ha
 obtain ⟨y, hy, rfl⟩ := hv
 rw [hx] at hy; cases hy
 exact .int _ _
theorem row_OR {P : Program} {W : World} {name : String} {k : IntKind} {zs : List Int} {g : Nat} (h : Lib.TabIs P W name k zs) (hg : P.globalNamed name = some g) (r : Ren) : OR r W ⟨g, 0, zs.length⟩ (.cells (zs.map (.int k)) true) ∧ g < W.heap.size := by
 obtain ⟨e, fz, hb⟩ := tab_block h hg
 refine ⟨⟨_, e, fz, hb, by simp, by simp, fun i a v ha hv => ?_, fun h => by cases h⟩, World.block_lt hb⟩
 simp only [List.getElem?_map, Option.map_eq_some_iff, List.getElem?_toArray, Nat.zero_add] at ha hv
 obtain ⟨x, hx, rfl⟩ := ha
 obtain ⟨y, hy, rfl⟩ := hv
 rw [hx] at hy; cases hy
 exact .int _ _
end Go.Ev

/- The abstract machine Ev: all functions of a program at once, by how deep calls and rounds may go. -/
namespace Go.Ev
section
variable {β : Type}
/-- which slots live on, by the place's number (1: the whole; 2p, 2p + 1: the parts of p) -/
abbrev Cuts := List (Nat × List Nat)
def cutAt : Cuts → Nat → Option (List Nat)
 | [], _ => none
 | (q, l) :: cs, p => match Nat.beq q p with | true => some l | false => cutAt cs p
noncomputable def cutC (js : Cuts) (p : Nat) (X : KC β) : KC β := match cutAt js p with | some l => normC l (shutK X) | none => X
noncomputable def cutL (ls : Cuts) (p n : Nat) (X : KC β) : KC β := match cutAt ls p with | some l => normC l (loopL l (shutK X) n) | none => fun _ _ _ _ _ => none
noncomputable def regG (P : Program) (ck : CK) (N : Nat) (ops : Array Oper) (draw : Bool) : KC β := match !draw || okRegion P ops with | true => regC P ck N ops draw | false => fun _ _ _ _ _ => none
/-- what a region of operations means -/
abbrev RegF (β : Type) := Array Oper → Bool → KC β
noncomputable def den (g : RegF β) (N : Nat) (js ls : Cuts) (n : Nat) (c : Code) : Nat → KC β :=
 Code.rec (motive := fun _ => Nat → KC β) (fun _ => skipC) (fun _ ops draw _ => g ops draw)
  (fun _ _ A B p => seqC (A (2 * p)) (cutC js (2 * p + 1) (B (2 * p + 1))))
  (fun x _ _ A B p => condC N x (A (2 * p)) (B (2 * p + 1)))
  (fun i _ A p => blockC i (A (2 * p)))
  (fun _ A p => cutL ls p n (A (2 * p)))
  (fun _ _ _ _ _ _ _ => fun _ _ _ _ _ => none)
  (fun i _ => exitC i)
  (fun _ A p => A (2 * p))
  (fun _ _ => skipC)
  (fun _ _ => fun _ _ _ _ _ => none)
  (fun _ => retC)
  (fun _ _ => fun _ _ _ _ _ => none) c
theorem DenG.none {S : Bool} {P : Program} {N : Nat} {c : Code} : DenG S P N c (fun _ _ _ _ _ => none : KC β) where
 ends := fun _ _ _ _ _ _ e => by cases e
 sim := fun _ _ _ _ _ _ _ _ _ _ e => by cases e
theorem DenG.cutC {S : Bool} {P : Program} {N : Nat} {c : Code} {js : Cuts} {p : Nat} {X : KC β} (d : DenG S P N c X) : DenG S P N c (cutC js p X) := by
 unfold Ev.cutC
 split
 ·exact DenG.norm _ (shutD d)
 ·exact d
theorem DenG.cutL {S : Bool} {P : Program} {N : Nat} {c : Code} {ls : Cuts} {p n : Nat} {X : KC β} (d : DenG S P N c X) : DenG S P N (.loop c) (cutL ls p n X) := by
 unfold Ev.cutL
 split
 ·exact DenG.norm _ (DenG.loopL _ (shutD d) n)
 ·exact DenG.none
theorem DenG.regG {S : Bool} {P : Program} (hm : P.follows .mixedOrders = true) {ck : CK} (hck : ck.call.Sound P) {N id : Nat} {ops : Array Oper} {draw : Bool} : DenG S P N (.region id ops draw) (regG P ck N ops draw : KC β) := by
 unfold Ev.regG
 split
 ·rename_i h; exact DenG.region hm hck h
 ·exact DenG.none
theorem den_sound {S : Bool} {P : Program} {g : RegF β} {N : Nat} (hg : ∀ id ops draw, DenG S P N (.region id ops draw) (g ops draw)) {js ls : Cuts} {n : Nat} : ∀ (c : Code) (p : Nat), DenG S P N c (den g N js ls n c p : KC β)
 | .skip, _ => DenG.skip
 | .region id ops draw, _ => hg id ops draw
 | .seq a b, p => by
  show DenG S P N (.seq a b) (seqC (den g N js ls n a (2 * p)) (Ev.cutC js (2 * p + 1) (den g N js ls n b (2 * p + 1))))
  exact DenG.seq (den_sound hg a (2 * p)) (DenG.cutC (den_sound hg b (2 * p + 1)))
 | .cond _ a b, p => DenG.cond (den_sound hg a (2 * p)) (den_sound hg b (2 * p + 1))
 | .block _ c, p => DenG.block (den_sound hg c (2 * p))
 | .loop c, p => DenG.cutL (den_sound hg c (2 * p))
 | .rangeFunc _ _ _ _, _ => DenG.none
 | .exit _, _ => DenG.exit
 | .scope c, p => DenG.scope (den_sound hg c (2 * p))
 | .label _, _ => DenG.label
 | .goto _, _ => DenG.none
 | .ret, _ => DenG.ret
 | .refuse _, _ => DenG.none
/-- on from the place at 'path', whose rounds still to go are told for each loop on the way -/
noncomputable def jmp (g : RegF β) (N : Nat) (js ls : Cuts) (n : Nat) : List Nat → Code → Nat → List Nat → KC β
 | [], .loop c, p, m :: _ => match cutAt ls p with | some l => loopL l (shutK (den g N js ls n c (2 * p))) m | none => fun _ _ _ _ _ => none
 | [], c, p, _ => shutK (den g N js ls n c p)
 | 0 :: t, .seq a b, p, ms => fun A h kn ke kr => jmp g N js ls n t a (2 * p) ms A h (fun A h => cutC js (2 * p + 1) (den g N js ls n b (2 * p + 1)) A h kn ke kr) ke kr
 | _ :: t, .seq _ b, p, ms => fun A h kn ke kr => jmp g N js ls n t b (2 * p + 1) ms A h kn ke kr
 | 0 :: t, .cond _ a _, p, ms => fun A h kn ke kr => jmp g N js ls n t a (2 * p) ms A h kn ke kr
 | _ :: t, .cond _ _ b, p, ms => fun A h kn ke kr => jmp g N js ls n t b (2 * p + 1) ms A h kn ke kr
 | _ :: t, .block i c, p, ms => fun A h kn ke kr => jmp g N js ls n t c (2 * p) ms A h kn (fun j A h => cond (Nat.beq j i) (kn A h) (ke j A h)) kr
 | _ :: t, .scope c, p, ms => fun A h kn ke kr => jmp g N js ls n t c (2 * p) ms A h kn ke kr
 | _ :: t, .loop c, p, m :: ms => fun A h kn ke kr =>
  match cutAt ls p with
  | some l => jmp g N js ls n t c (2 * p) ms A h (fun A h => loopL l (shutK (den g N js ls n c (2 * p))) m (norm l A) h kn ke kr) ke kr
  | none => none
 | _, _, _, _ => fun _ _ _ _ _ => none
/-- the same, the place itself opened; a loop with one round less -/
noncomputable def jmpO (g : RegF β) (N : Nat) (js ls : Cuts) (n : Nat) : List Nat → Code → Nat → List Nat → KC β
 | [], .loop c, p, m :: _ => match cutAt ls p with | some l => (match m with | 0 => fun _ _ _ _ _ => none | m + 1 => fun A h kn ke kr => den g N js ls n c (2 * p) A h (fun A h => loopL l (shutK (den g N js ls n c (2 * p))) m (norm l A) h kn ke kr) ke kr) | none => fun _ _ _ _ _ => none
 | [], c, p, _ => den g N js ls n c p
 | 0 :: t, .seq a b, p, ms => fun A h kn ke kr => jmpO g N js ls n t a (2 * p) ms A h (fun A h => cutC js (2 * p + 1) (den g N js ls n b (2 * p + 1)) A h kn ke kr) ke kr
 | _ :: t, .seq _ b, p, ms => fun A h kn ke kr => jmpO g N js ls n t b (2 * p + 1) ms A h kn ke kr
 | 0 :: t, .cond _ a _, p, ms => fun A h kn ke kr => jmpO g N js ls n t a (2 * p) ms A h kn ke kr
 | _ :: t, .cond _ _ b, p, ms => fun A h kn ke kr => jmpO g N js ls n t b (2 * p + 1) ms A h kn ke kr
 | _ :: t, .block i c, p, ms => fun A h kn ke kr => jmpO g N js ls n t c (2 * p) ms A h kn (fun j A h => cond (Nat.beq j i) (kn A h) (ke j A h)) kr
 | _ :: t, .scope c, p, ms => fun A h kn ke kr => jmpO g N js ls n t c (2 * p) ms A h kn ke kr
 | _ :: t, .loop c, p, m :: ms => fun A h kn ke kr =>
  match cutAt ls p with
  | some l => jmpO g N js ls n t c (2 * p) ms A h (fun A h => loopL l (shutK (den g N js ls n c (2 * p))) m (norm l A) h kn ke kr) ke kr
  | none => none
 | _, _, _, _ => fun _ _ _ _ _ => none
theorem jmp_open {g : RegF β} {N : Nat} {js ls : Cuts} {n : Nat} (t : List Nat) : ∀ (c : Code) (p : Nat) (ms : List Nat) (A : KF) (h : H) (kn : KF → H → Option β) (ke : Nat → KF → H → Option β) (kr : KF → H → Option β),
  jmp g N js ls n t c p ms A h kn ke kr = jmpO g N js ls n t c p ms A h kn ke kr := by
 induction t with
 | nil =>
  intro c p ms A h kn ke kr
  cases c with
  | loop c =>
   cases ms with
   | nil => simp only [jmp, jmpO, shutK_eq]
   | cons m ms =>
    simp only [jmp, jmpO]
    cases cutAt ls p with
    | none => rfl
    | some l =>
     cases m with
     | zero => rfl
     | succ m => simp only [loopL, shutK_eq]
  | _ => simp only [jmp, jmpO, shutK_eq]
 | cons x t ih =>
  intro c p ms A h kn ke kr
  cases c with
  | seq a b => cases x <;> simp only [jmp, jmpO, ih]
  | cond y a b => cases x <;> simp only [jmp, jmpO, ih]
  | block i c => simp only [jmp, jmpO, ih]
  | scope c => simp only [jmp, jmpO, ih]
  | loop c => cases ms <;> simp only [jmp, jmpO, ih]
  | _ => simp only [jmp, jmpO]
/-- a function that is walked: where its ways meet, and its loops -/
structure FEnt (P : Program) where
 id : Nat
 fn : Func
 js : Cuts
 ls : Cuts
 ok : P.funcs[id]? = some fn
 nm : (fn.name == "runtime.NumGoroutine") = false
 bd : fn.body.isSome = true
def fnd {P : Program} : List (FEnt P) → Nat → Option (FEnt P)
 | [], _ => none
 | e :: l, f => match Nat.beq e.id f with | true => some e | false => fnd l f
theorem fnd_id {P : Program} {f : Nat} {e : FEnt P} : ∀ {l : List (FEnt P)}, fnd l f = some e → e.id = f
 | [], h => by cases h
 | x :: l, h => by
  unfold fnd at h
  split at h
  ·rename_i hb; cases h; exact Nat.eq_of_beq_eq_true hb
  ·exact fnd_id h
def tupK (ss : List Shape) (v : AV) (f : AV → Option β) : Option β := asTup v fun l => shapesK ss l fun us => f (.tup us)
def asFn (v : AV) (f : Nat → List AV → List AV → Option β) : Option β := match v with | .func g a b => f g a b | _ => none
def crc (P : Program) (rts : List TypeId) (v : AV) (f : AV → Option β) : Option β :=
 match rts with
 | [t] => (match P.underlying t with | some (.func _ _ _) => asFn v fun g a b => f (.func g a b) | _ => shapeK (rowShape P t) v f)
 | ts => tupK (ts.map (rowShape P)) v f
theorem crc_some {P : Program} {rts : List TypeId} {v : AV} {f : AV → Option β} {x : β} (h : crc P rts v f = some x) : f v = some x := by
 unfold crc at h
 split at h
 ·split at h
  ·unfold asFn at h
   split at h
   ·exact h
   ·cases h
  ·exact shapeK_some _ h
 ·unfold tupK at h
  obtain ⟨vs, rfl, h⟩ := asTup_some h
  exact shapesK_some _ (f := fun us => f (.tup us)) h
end
section
variable {β γ : Type} (g : β → Option γ)
mutual
theorem shapeK_bind : ∀ (s : Shape) (v : AV) (f : AV → Option β), (shapeK s v f).bind g = shapeK s v fun u => (f u).bind g
 | .int k, v, f => by simp only [shapeK, asInt_bind]
 | .bool, v, f => by simp only [shapeK, asBool_bind]
 | .str, v, f => by simp only [shapeK, asStr_bind]
 | .ptr, v, f => by simp only [shapeK, asPtr_bind]
 | .slice, v, f => by simp only [shapeK, asSlice_bind]
 | .map, v, f => by simp only [shapeK, asMap_bind]
 | .any, v, f => by simp only [shapeK]
 | .row, v, f => by simp only [shapeK, asAgg_bind]
 | .cells l, v, f => by
  simp only [shapeK, asAgg_bind]
  congr 1
  funext vs
  exact shapesK_bind l vs fun us => f (.agg us)
theorem shapesK_bind : ∀ (ss : List Shape) (vs : List AV) (f : List AV → Option β), (shapesK ss vs f).bind g = shapesK ss vs fun us => (f us).bind g
 | [], vs, f => by simp only [shapesK, l0_bind]
 | s :: ss, vs, f => by
  simp only [shapesK, lc_bind]
  congr 1
  funext v vs
  rw [shapeK_bind s v]
  congr 1
  funext u
  exact shapesK_bind ss vs fun us => f (u :: us)
end
theorem crc_bind (P : Program) (rts : List TypeId) (v : AV) (f : AV → Option β) : (crc P rts v f).bind g = crc P rts v fun u => (f u).bind g := by
 unfold crc
 split
 ·split
  ·unfold asFn
   split <;> rfl
  ·exact shapeK_bind g _ v f
 ·unfold tupK
  rw [asTup_bind]
  congr 1
  funext l
  exact shapesK_bind g _ l fun us => f (.tup us)
end
section
/-- the answers' types of a function -/
def rtsAt : List (Nat × List TypeId) → Nat → Option (List TypeId)
 | [], _ => none
 | (g, l) :: t, f => match Nat.beq g f with | true => some l | false => rtsAt t f
noncomputable def resF (P : Program) (N : Nat) (rs : Array ResultVar) : KF → H → Option (AV × H) := fun A h => resK P N A h rs.toList fun vs => some (oneOf vs, h)
/-- the tables of a program: which functions are walked; what others answer -/
structure Tab (P : Program) where
 tbl : List (FEnt P)
 leaf : Nat → CK
 sound : ∀ n, (leaf n).call.Sound P
 /-- the types of the answers that are looked at -/
 rts : List (Nat × List TypeId)
def crF {β : Type} {P : Program} (T : Tab P) (f : Nat) (v : AV) (k : AV → Option β) : Option β := match rtsAt T.rts f with | some l => crc P l v k | none => k v
theorem crF_some {β : Type} {P : Program} {T : Tab P} {f : Nat} {v : AV} {k : AV → Option β} {x : β} (h : crF T f v k = some x) : k v = some x := by
 unfold crF at h
 split at h
 ·exact crc_some h
 ·exact h
theorem crF_bind {β γ : Type} {P : Program} {T : Tab P} (g : β → Option γ) (f : Nat) (v : AV) (k : AV → Option β) : (crF T f v k).bind g = crF T f v fun u => (k u).bind g := by
 unfold crF
 split
 ·exact crc_bind g P _ v k
 ·rfl
def ckOf {P : Program} (T : Tab P) (call : CallFn) : CK where
 run := fun f args h k => (call f args h).bind fun q => crF T f q.1 fun v => k v q.2
 nat := by
  intro β f args h k
  rw [Option.bind_assoc]
  congr 1
  funext q
  rw [crF_bind]
  rfl
noncomputable def runE {P : Program} (ck : CK) (n : Nat) (e : FEnt P) (args : List AV) (h : H) : Option (AV × H) :=
 match Nat.ble args.length e.fn.ntmps with
 | true => den (regG P ck e.fn.ntmps) e.fn.ntmps e.js e.ls n (bodyOf e.fn) 1 (argsF args 0) h (resF P e.fn.ntmps e.fn.results) (fun _ _ _ => none) (resF P e.fn.ntmps e.fn.results)
 | false => none
noncomputable def callF {P : Program} (T : Tab P) (n : Nat) : CallFn :=
 Nat.rec (motive := fun _ => CallFn) (fun _ _ _ => none)
  (fun n c f args h => match fnd T.tbl f with | some e => runE (ckOf T c) n e args h | none => (T.leaf n).call f args h) n
theorem ckOf_sound {P : Program} {T : Tab P} {call : CallFn} (hc : call.Sound P) : (ckOf T call).call.Sound P := by
 intro f args h v h' e
 obtain ⟨q, h1, h2⟩ := Option.bind_eq_some_iff.1 e
 have := crF_some h2
 cases this
 exact hc _ _ _ _ _ h1
theorem runE_acall {P : Program} (hm : P.follows .mixedOrders = true) {ck : CK} (hck : ck.call.Sound P) {n : Nat} {e : FEnt P} {args : List AV} {h h' : H} {v : AV} (r : runE ck n e args h = some (v, h')) : ACall P e.id args h v h' := by
 obtain ⟨c, hb⟩ := Option.isSome_iff_exists.1 e.bd
 unfold runE at r
 split at r
 ·rename_i hl
  have hbo : bodyOf e.fn = c := by unfold bodyOf; rw [hb]
  rw [hbo] at r
  exact acall_of (k := fun v h => some (v, h)) (den_sound (S := false) (fun _ _ _ => DenG.regG hm hck) c 1) e.ok hb e.nm rfl (Nat.le_of_ble_eq_true hl) r fun v1 h1 e1 => by cases e1; exact ⟨rfl, rfl⟩
 ·cases r
theorem callF_sound {P : Program} (hm : P.follows .mixedOrders = true) (T : Tab P) : ∀ n, (callF T n).Sound P
 | 0 => fun _ _ _ _ _ e => by cases e
 | n + 1 => fun f args h v h' e => by
  change (match fnd T.tbl f with | some e => runE (ckOf T (callF T n)) n e args h | none => (T.leaf n).call f args h) = some (v, h') at e
  split at e
  ·rename_i en he
   have := fnd_id he
   subst this
   exact .inl (runE_acall hm (ckOf_sound (callF_sound hm T n)) e)
  ·exact T.sound n _ _ _ _ _ e
/-- on from a place of a function -/
noncomputable def J {P : Program} (T : Tab P) (n : Nat) (e : FEnt P) (t ms : List Nat) (A : KF) (h : H) : Option (AV × H) :=
 jmp (regG P (ckOf T (callF T n)) e.fn.ntmps) e.fn.ntmps e.js e.ls n t (bodyOf e.fn) 1 ms A h (resF P e.fn.ntmps e.fn.results) (fun _ _ _ => none) (resF P e.fn.ntmps e.fn.results)
noncomputable def JO {P : Program} (T : Tab P) (n : Nat) (e : FEnt P) (t ms : List Nat) (A : KF) (h : H) : Option (AV × H) :=
 jmpO (regG P (ckOf T (callF T n)) e.fn.ntmps) e.fn.ntmps e.js e.ls n t (bodyOf e.fn) 1 ms A h (resF P e.fn.ntmps e.fn.results) (fun _ _ _ => none) (resF P e.fn.ntmps e.fn.results)
theorem J_eq {P : Program} (T : Tab P) (n : Nat) (e : FEnt P) (t ms : List Nat) (A : KF) (h : H) : J T n e t ms A h = JO T n e t ms A h := jmp_open t _ 1 ms A h _ _ _
variable {β : Type}
def lI (l : List AV) (f : Int → List AV → Option β) : Option β := lc l fun v l => asInt .i64 v fun x => f x l
def lB (l : List AV) (f : Bool → List AV → Option β) : Option β := lc l fun v l => asBool v fun x => f x l
def lS (l : List AV) (f : ByteArray → List AV → Option β) : Option β := lc l fun v l => asStr v fun x => f x l
def lP (l : List AV) (f : Option (Nat × Nat) → List AV → Option β) : Option β := lc l fun v l => asPtr v fun x => f x l
def lL (l : List AV) (f : Option (Nat × Nat) → Nat → Cap → List AV → Option β) : Option β := lc l fun v l => asSlice v fun x n c => f x n c l
def lA (l : List AV) (f : List AV → List AV → Option β) : Option β := lc l fun v l => asAgg v fun x => f x l
def lM (l : List AV) (f : Option Nat → List AV → Option β) : Option β := lc l fun v l => asMap v fun x => f x l
@[simp] theorem extK_of {vs : List AV} {i : Nat} {v : AV} (hv : vs[i]? = some v) (k : AV → Option β) : extK (.tup vs) i k = k v := by simp only [extK, hv]
@[simp] theorem asTup_tup (l : List AV) (f : List AV → Option β) : asTup (.tup l) f = f l := nr rfl
abbrev Pt := Option (Nat × Nat)
abbrev Bs := ByteArray
@[simp] theorem lI_of (x : Int) (l : List AV) (f : Int → List AV → Option β) : lI (.int .i64 x :: l) f = f x l := nr rfl
@[simp] theorem lB_of (x : Bool) (l : List AV) (f : Bool → List AV → Option β) : lB (.bool x :: l) f = f x l := nr rfl
@[simp] theorem lS_of (x : ByteArray) (l : List AV) (f : ByteArray → List AV → Option β) : lS (.str x :: l) f = f x l := nr rfl
@[simp] theorem lP_of (x : Option (Nat × Nat)) (l : List AV) (f : Option (Nat × Nat) → List AV → Option β) : lP (.ptr x :: l) f = f x l := nr rfl
@[simp] theorem lL_of (x : Option (Nat × Nat)) (n : Nat) (c : Cap) (l : List AV) (f : Option (Nat × Nat) → Nat → Cap → List AV → Option β) : lL (.slice x n c :: l) f = f x n c l := nr rfl
@[simp] theorem lA_of (x : List AV) (l : List AV) (f : List AV → List AV → Option β) : lA (.agg x :: l) f = f x l := nr rfl
@[simp] theorem lM_of (x : Option Nat) (l : List AV) (f : Option Nat → List AV → Option β) : lM (.map x :: l) f = f x l := nr rfl
@[simp] theorem asFn_of (g : Nat) (a b : List AV) (f : Nat → List AV → List AV → Option β) : asFn (.func g a b) f = f g a b := nr rfl
end
end Go.Ev

/- The abstract machine Ev: functions whose runs may end in unlike ways (those that range over a map, and those that call such), in one table beside the others. -/
namespace Go.Ev
open Go.RowKit
abbrev CallR := FuncId → List AV → H → (AV → H → Option Unit) → Option Unit
/-- where a region comes to a call whose runs may end in unlike ways -/
def relAt (cr : CR) : List Oper → Nat → Option Nat
 | [], _ => none
 | o :: l, i => match relOp cr o with | true => some i | false => relAt cr l (i + 1)
def hasIns : List Oper → Bool
 | [] => false
 | o :: l => isIns o.op || hasIns l
noncomputable def regGR (P : Program) (ck : CK) (cr : CR) (N : Nat) : RegF Unit := fun ops draw =>
 match draw with
 | false => regR P ck cr N ops
 | true => match relAt cr ops.toList 0 with
  | some n => (match hasIns (ops.toList.take n) with
   | true => (match okTailI P ops n with | true => regI P ck cr N ops n | false => fun _ _ _ _ _ => none)
   | false => (match okTail P ops n with | true => regT P ck cr N ops n | false => (match okE P cr ops n with | true => fun A h kn _ _ => regE P ck cr N ops n A h kn | false => (match okPermE P cr ops n with | true => fun A h kn _ _ => regE P ck cr N (permE (piE ops n) ops) (idxE (piE ops n) n) A h kn | false => fun _ _ _ _ _ => none))))
  | none => regG P ck N ops true
theorem DenG.regGR {P : Program} (hm : P.follows .mixedOrders = true) {ck : CK} (hck : ck.call.Sound P) {cr : CR} (hcr : cr.Sound P) {N : Nat} (id : Nat) (ops : Array Oper) (draw : Bool) : DenG true P N (.region id ops draw) (regGR P ck cr N ops draw) := by
 unfold Ev.regGR
 cases draw with
 | false => exact DenG.regionR hck hcr
 | true =>
  simp only
  split
  ·split
   ·split
    ·rename_i h; exact DenG.regionI hm hck hcr h
    ·exact DenG.none
   ·split
    ·rename_i h; exact DenG.regionT hm hck hcr h
    ·split
     ·rename_i h; exact DenG.regionE hm hck hcr h
     ·split
      ·rename_i h; exact DenG.regionPE hm hck hcr h
      ·exact DenG.none
  ·exact DenG.regG hm hck
structure TabR (P : Program) extends Tab P where
 tblR : List (FEnt P)
variable {P : Program}
noncomputable def crOf (T : TabR P) (call : CallR) : CR := ⟨fun f => (fnd T.tblR f).isSome, fun f args h k => call f args h fun v h' => crF T.toTab f v fun v => k v h'⟩
noncomputable def crRaw (T : TabR P) (call : CallR) : CR := ⟨fun f => (fnd T.tblR f).isSome, call⟩
theorem crOf_sound {T : TabR P} {call : CallR} (s : (crRaw T call).Sound P) : (crOf T call).Sound P where
 there := s.there
 ends := fun f args h k hf e => by
  obtain ⟨v, h', h1, h2⟩ := s.ends f args h _ hf e
  exact ⟨v, h', crF_some h1, h2⟩
 sim := fun f args h k r w args' hf e hrel hfree ha => (s.sim f args h _ r w args' hf e hrel hfree ha).mono fun e w' ⟨r', v, v', h', h1, h2, h3, h4⟩ => ⟨r', v, v', h', h1, h2, h3, crF_some h4⟩
noncomputable def resFR (P : Program) (N : Nat) (rs : Array ResultVar) (k : AV → H → Option Unit) : KF → H → Option Unit := fun A h => resK P N A h rs.toList fun vs => k (oneOf vs) h
noncomputable def runER (ck : CK) (cr : CR) (n : Nat) (e : FEnt P) (args : List AV) (h : H) (k : AV → H → Option Unit) : Option Unit :=
 match Nat.ble args.length e.fn.ntmps with
 | true => den (regGR P ck cr e.fn.ntmps) e.fn.ntmps e.js e.ls n (bodyOf e.fn) 1 (argsF args 0) h (resFR P e.fn.ntmps e.fn.results k) (fun _ _ _ => none) (resFR P e.fn.ntmps e.fn.results k)
 | false => none
noncomputable def callR (T : TabR P) (n : Nat) : CallR :=
 Nat.rec (motive := fun _ => CallR) (fun _ _ _ _ => none)
  (fun n c f args h k => match fnd T.tblR f with | some e => runER (ckOf T.toTab (callF T.toTab n)) (crOf T c) n e args h k | none => none) n
/-- the entry of one function -/
noncomputable def entR (hm : P.follows .mixedOrders = true) {ck : CK} (hck : ck.call.Sound P) {cr : CR} (hcr : cr.Sound P) (n : Nat) (e : FEnt P) : EntryR P :=
 EntryR.of (c := bodyOf e.fn) (den_sound (DenG.regGR hm hck hcr) (bodyOf e.fn) 1 (js := e.js) (ls := e.ls) (n := n)) e.ok (by
  obtain ⟨c, hb⟩ := Option.isSome_iff_exists.1 e.bd
  rw [hb, show bodyOf e.fn = c by unfold bodyOf; rw [hb]]) e.nm rfl (runER ck cr n e) fun args h k hr => by
  unfold runER at hr
  split at hr
  ·rename_i hl
   exact ⟨Nat.le_of_ble_eq_true hl, k, fun _ _ h => h, hr⟩
  ·cases hr
theorem callR_sound (hm : P.follows .mixedOrders = true) (T : TabR P) : ∀ n, (crRaw T (callR T n)).Sound P
 | 0 => by
  refine ⟨fun f hf => ?_, fun f args h k _ (e : (none : Option Unit) = some ()) => (by cases e), fun f args h k r w args' _ (e : (none : Option Unit) = some ()) _ _ _ => (by cases e)⟩
  obtain ⟨e, he⟩ := Option.isSome_iff_exists.1 hf
  have := fnd_id he
  subst this
  exact ⟨e.fn, e.ok, by have := e.bd; simpa using this, e.nm⟩
 | n + 1 => by
  have ih := crOf_sound (callR_sound hm T n)
  have key : ∀ f args h k, callR T (n + 1) f args h k = some () → ∃ e, fnd T.tblR f = some e ∧ runER (ckOf T.toTab (callF T.toTab n)) (crOf T (callR T n)) n e args h k = some () := by
   intro f args h k e
   change (match fnd T.tblR f with | some e => runER (ckOf T.toTab (callF T.toTab n)) (crOf T (callR T n)) n e args h k | none => none) = some () at e
   split at e
   ·rename_i en he; exact ⟨en, he, e⟩
   ·cases e
  refine ⟨fun f hf => ?_, fun f args h k _ e => ?_, fun f args h k r w args' _ e hrel hfree ha => ?_⟩
  ·obtain ⟨e, he⟩ := Option.isSome_iff_exists.1 hf
   have := fnd_id he
   subst this
   exact ⟨e.fn, e.ok, by have := e.bd; simpa using this, e.nm⟩
  ·obtain ⟨en, he, e⟩ := key f args h k e
   exact (entR hm (ckOf_sound (callF_sound hm T.toTab n)) ih n en).ends args h k e
  ·obtain ⟨en, he, e1⟩ := key f args h k e
   have := fnd_id he
   subst this
   exact (entR hm (ckOf_sound (callF_sound hm T.toTab n)) ih n en).sim args h k r w args' e1 hrel hfree ha
/-- on from a place of a function -/
noncomputable def JR (T : TabR P) (n : Nat) (e : FEnt P) (t ms : List Nat) (A : KF) (h : H) (k : AV → H → Option Unit) : Option Unit :=
 jmp (regGR P (ckOf T.toTab (callF T.toTab n)) (crOf T (callR T n)) e.fn.ntmps) e.fn.ntmps e.js e.ls n t (bodyOf e.fn) 1 ms A h (resFR P e.fn.ntmps e.fn.results k) (fun _ _ _ => none) (resFR P e.fn.ntmps e.fn.results k)
noncomputable def JRO (T : TabR P) (n : Nat) (e : FEnt P) (t ms : List Nat) (A : KF) (h : H) (k : AV → H → Option Unit) : Option Unit :=
 jmpO (regGR P (ckOf T.toTab (callF T.toTab n)) (crOf T (callR T n)) e.fn.ntmps) e.fn.ntmps e.js e.ls n t (bodyOf e.fn) 1 ms A h (resFR P e.fn.ntmps e.fn.results k) (fun _ _ _ => none) (resFR P e.fn.ntmps e.fn.results k)
theorem JR_eq (T : TabR P) (n : Nat) (e : FEnt P) (t ms : List Nat) (A : KF) (h : H) (k : AV → H → Option Unit) : JR T n e t ms A h k = JRO T n e t ms A h k := jmp_open t _ 1 ms A h _ _ _
/-- a call of a function that is not known at print time -/
noncomputable def callU (T : TabR P) (n : Nat) (f : FuncId) (args : List AV) (h : H) (k : AV → H → Option Unit) : Option Unit :=
 match (fnd T.tblR f).isSome with
 | true => callR T n f args h k
 | false => (callF T.toTab n f args h).bind fun q => k q.1 q.2
/-- a law: every run of it comes to true, and turns nothing that was there -/
theorem callR_true (hm : P.follows .mixedOrders = true) (T : TabR P) {n : Nat} {f : FuncId} (hf : (fnd T.tblR f).isSome = true) {args : List AV} {objs : Objs}
  (c : callR T n f args (HR objs) (fun v _ => match v with | .bool true => some () | _ => none) = some ()) {w : World} {args' : Array Value}
  (h : ∀ x ∈ objs, ∀ t, x.1 = some t → OR (rR objs) w t x.2 ∧ t.blk < w.heap.size) (hro : ∀ x ∈ objs, x.2.ro = true) (hg : GL (rR objs)) (ha : VRL (rR objs) args args'.toList) :
  Calls P f args' w fun e w' => e = .returned (.bool true) ∧ Below w.heap.size w w' := by
 refine ((callR_sound hm T n).sim f args _ _ (rR objs) w args' hf c (relR h hro hg) (fun i hi => ?_) ha).mono fun e w' ⟨r', v, v', h', he, hv, hp, hk⟩ => ⟨?_, ⟨hp.env.1, hp.env.2.1, hp.env.2.2.1, hp.size, fun b hb => hp.keep b hb fun i t o _ _ ho => ?_⟩⟩
 ·simp only [HR] at hi
  simp [rR, List.getElem?_eq_none hi]
 ·split at hk
  ·cases hv; exact he
  ·cases hk
 ·simp only [HR, Option.map_eq_some_iff] at ho
  obtain ⟨x, hx, rfl⟩ := ho
  exact hro x (List.mem_of_getElem? hx)
end Go.Ev

/- The abstract machine Ev: strings.Builder within a block of another type: what its methods do in the model. -/
set_option linter.unusedVariables false
namespace Go.Ev
open Go.Proofs Go.Shelf Go.RowKit
theorem wpList_run_append {P : Program} {ops : Array Oper} {rest : List Oper} {o : Oper} {a : Act} {w w' : World} {Q : Exit → Act → World → Prop} (hgd : o.guard = none) (sl x : Operand) (t u : TypeId)
  (ho : o.op = .call { callee := .builtin .append, args := #[sl, x], argTypes := #[t, u] }) {v v' : Value} {s : ByteArray} (hs : a.eval sl = v) (hx : a.eval x = .string s)
  (hr : (Builtin.append_ #[t, u] o.type #[v, .string s]).run P w = .ok v' w') (h : wpList P ops Q rest (a.put o.dst v') w') : wpList P ops Q (o :: rest) a w := by
 refine wpList_plain hgd fun K hK => ?_
 unfold Oper.wp execOp
 simp only [ho, resolve, invoke, builtin, Sem.run_bind, Sem.run_pure, Result.andThen_ok, List.map_toArray, List.map_cons, List.map_nil, hs, hx, hr]
 exact hK _ _ h
variable {P : Program} {ρ : Shelf.Ren}
set_option maxHeartbeats 1000000 in
set_option maxRecDepth 100000 in
theorem copyCheck_new (L : Lays.n240 P ρ) (X : Builder.X72 P ρ) {T : TypeId} (hl : liesAt P P.depth T (2 / P.cellsOf T) 0 (ρ.t 72) 1 = true) (b : Nat) (w : World) (h0 : w.cell? ⟨b, 0, none⟩ = some (.pointer none)) (hsh : w.shape? b = some (T, 2)) (hfz : w.frozen? ⟨b, 0, none⟩ = false) :
  Calls P (ρ.f 240) #[.pointer (some ⟨b, 0, none⟩)] w fun e w' => e = .returned (.tuple #[]) ∧ w' = w.setCell ⟨b, 0, none⟩ (.pointer (some ⟨b, 0, none⟩)) := by
 obtain ⟨j, hj, hjs⟩ := Option.map_eq_some_iff.1 X.sizeBuilder
 have mixed := L.mixed
 have t72 := L.t72; have a72 := L.a72; have z72 := L.z72; have v72 := L.v72; have u72 := run_underlying L.t72
 have t70 := L.t70; have a70 := L.a70; have z70 := L.z70; have v70 := L.v70; have u70 := run_underlying L.t70
 have t9 := L.t9; have a9 := L.a9; have z9 := L.z9; have v9 := L.v9; have u9 := run_underlying L.t9
 have t4 := L.t4; have a4 := L.a4; have z4 := L.z4; have v4 := L.v4; have u4 := run_underlying L.t4
 have t164 := L.t164; have a164 := L.a164; have z164 := L.z164; have v164 := L.v164; have u164 := run_underlying L.t164
 go_enter L.f240, Body.n240_ntmps ρ
 go_wp2
 rw [Lib.run_to_unsafe w ⟨b, 0, none⟩ L.t70 L.t164 hj (by rw [hjs]; decide) hsh (Nat.zero_lt_succ 1)]
 simp only [Result.andThen]
 rw [Oper.upon_value]
 go_wp2
 rw [run_callFunc_extern L.f276 (by kernel_rfl) (by kernel_rfl) (by kernel_rfl) (e := Extern.AbiNoEscape.same) (by kernel_rfl)]
 rw [Lib.run_noEscape]
 simp only [Result.andThen]
 rw [Oper.upon_value]
 go_wp2
 rw [Lib.run_from_unsafe w ⟨b, 0, none⟩ L.t164 L.t70 hj hsh hl]
 simp only [Result.andThen]
 rw [Oper.upon_value]
 go_wp2
 go_end0
 exact ⟨rfl, rfl⟩
/-- the world behind copyCheck -/
def chk (b : Nat) (p : Value) (w : World) : World := match p with | .pointer none => w.setCell ⟨b, 0, none⟩ (.pointer (some ⟨b, 0, none⟩)) | _ => w
theorem copyCheck_any (L : Lays.n240 P ρ) (X : Builder.X72 P ρ) {T : TypeId} (hl : liesAt P P.depth T (2 / P.cellsOf T) 0 (ρ.t 72) 1 = true) (b : Nat) (w : World) {p v : Value} (hb : w.heap[b]? = some (.cells #[p, v] T (0, 0))) (hp : p = .pointer none ∨ p = .pointer (some ⟨b, 0, none⟩)) :
  Calls P (ρ.f 240) #[.pointer (some ⟨b, 0, none⟩)] w fun e w' => e = .returned (.tuple #[]) ∧ w' = chk b p w := by
 have h0 : w.cell? ⟨b, 0, none⟩ = some p := by simp [World.cell?, hb]
 rcases hp with rfl | rfl
 ·exact copyCheck_new L X hl b w h0 (by simp [World.shape?, hb]) (by simp [World.frozen?, hb])
 ·exact Any.Builder_copyCheck_used L X b w h0
set_option maxHeartbeats 2000000 in
set_option maxRecDepth 100000 in
theorem writeString_at (L : Lays.n166 P ρ) (X : Builder.Extra P ρ) {T : TypeId} (hl : liesAt P P.depth T (2 / P.cellsOf T) 0 (ρ.t 72) 1 = true) (b : Nat) (w w2 : World) {p v v' : Value} (hb : w.heap[b]? = some (.cells #[p, v] T (0, 0))) (hp : p = .pointer none ∨ p = .pointer (some ⟨b, 0, none⟩)) (s : ByteArray)
  (hr : (Builtin.append_ #[ρ.t 37, ρ.t 9] (ρ.t 37) #[v, .string s]).run P (chk b p w) = .ok v' w2) (hb2 : w2.heap[b]? = some (.cells #[.pointer (some ⟨b, 0, none⟩), v] T (0, 0))) (hv : ∃ a n c, v = .slice a n c) (hv' : ∃ a n c, v' = .slice a n c) :
  Calls P (ρ.f 166) #[.pointer (some ⟨b, 0, none⟩), .string s] w fun e w' => e = .returned (.tuple #[.int .i64 s.size, .nilIface]) ∧ w' = w2.setCell ⟨b, 1, none⟩ v' := by
 obtain ⟨i0, hi, hz0, hz1, hz2⟩ := info_parts X.infoByte
 have mixed := L.mixed
 have t72 := L.t72; have a72 := L.a72; have z72 := L.z72; have v72 := L.v72; have u72 := run_underlying L.t72
 have t70 := L.t70; have a70 := L.a70; have z70 := L.z70; have v70 := L.v70; have u70 := run_underlying L.t70
 have t37 := L.t37; have a37 := L.a37; have z37 := L.z37; have v37 := L.v37; have u37 := run_underlying L.t37
 have t3 := L.t3; have a3 := L.a3; have z3 := L.z3; have v3 := L.v3; have u3 := run_underlying L.t3
 have t9 := L.t9; have a9 := L.a9; have z9 := L.z9; have v9 := L.v9; have u9 := run_underlying L.t9
 have t4 := L.t4; have a4 := L.a4; have z4 := L.z4; have v4 := L.v4; have u4 := run_underlying L.t4
 have t164 := L.t164; have a164 := L.a164; have z164 := L.z164; have v164 := L.v164; have u164 := run_underlying L.t164
 have t5 := X.t5; have a5 := X.a5; have z5 := X.z5; have v5 := X.v5; have u5 := run_underlying X.t5
 have e240 : ∀ args w, (callFunc (ρ.f 240) args).run P w = .ok (.enter (ρ.f 240) args) w := enters_of L.f240 (by kernel_rfl) rfl
 obtain ⟨av, nv, cv, rfl⟩ := hv
 obtain ⟨av', nv', cv', rfl⟩ := hv'
 go_enter L.f166, Body.n166_ntmps ρ
 go_wp2_with (go_at_fn (ρ.f 240); refine (copyCheck_any { L with } X.toX72 hl b _ hb hp).mono ?_)
 rintro e w1 ⟨rfl, rfl⟩
 have hb1 : (chk b p w).heap[b]? = some (.cells #[.pointer (some ⟨b, 0, none⟩), .slice av nv cv] T (0, 0)) := by
  rcases hp with rfl | rfl
  ·simp [chk, World.setCell, Array.getElem?_modify, hb]
  ·exact hb
 have c0 : (chk b p w).cell? ⟨b, 0, none⟩ = some (.pointer (some ⟨b, 0, none⟩)) := by simp [World.cell?, hb1]
 have c1 : (chk b p w).cell? ⟨b, 1, none⟩ = some (.slice av nv cv) := by simp [World.cell?, hb1]
 have d0 : w2.cell? ⟨b, 0, none⟩ = some (.pointer (some ⟨b, 0, none⟩)) := by simp [World.cell?, hb2]
 have d1 : w2.cell? ⟨b, 1, none⟩ = some (.slice av nv cv) := by simp [World.cell?, hb2]
 have f1 : w2.frozen? ⟨b, 1, none⟩ = false := by simp [World.frozen?, hb2]
 go_wp2_with (at_builtin; refine wpList_run_append rfl _ _ (ρ.t 37) (ρ.t 9) rfl rfl rfl hr ?_)
 go_ret2
 exact ⟨rfl, rfl⟩
set_option maxHeartbeats 2000000 in
set_option maxRecDepth 100000 in
theorem string_at (L : Lays.n169 P ρ) (X : Builder.Extra P ρ) (b g cap : Nat) (p : Value) (T : TypeId) (cur : Array Value) (l : List UInt8) (w : World) (h0 : l ≠ []) (hbk : w.heap[b]? = some (.cells #[p, .slice (some ⟨g, 0, none⟩) l.length cap] T (0, 0)))
  (hg : w.heap[g]? = some (.cells cur (ρ.t 5) (0, 0))) (hlc : l.length ≤ cap) (hcs : l.length ≤ cur.size) (hm : l.length ≤ 140737488355328) (hc : ∀ (j : Nat) x, l[j]? = some x → cur[j]? = some (.int .u8 x.toNat)) :
  Calls P (ρ.f 169) #[.pointer (some ⟨b, 0, none⟩)] w fun e w' => e = .returned (.string ⟨l.toArray⟩) ∧ w'.heap = (w.freeze ⟨g, 0, none⟩ l.length).heap ∧ Env w w' := by
 have hl0 : l.length ≠ 0 := by simpa using h0
 have c1 : w.drew.cell? ⟨b, 1, none⟩ = some (.slice (some ⟨g, 0, none⟩) l.length cap) := by
  have : w.drew.heap[b]? = some (.cells #[p, .slice (some ⟨g, 0, none⟩) l.length cap] T (0, 0)) := hbk
  simp [World.cell?, this]
 have hSD : (Builtin.unsafeSliceData_ #[(ρ.t 37)] (ρ.t 127) #[.slice (some ⟨g, 0, none⟩) l.length cap]).run P w.drew = .ok (.pointer (some ⟨g, 0, none⟩)) w.drew :=
  Lib.run_unsafeSliceData_row _ _ _ _ _ _ (by omega)
 have hUS : (Builtin.unsafeString_ #[(ρ.t 127), (ρ.t 3)] (ρ.t 9) #[.pointer (some ⟨g, 0, none⟩), .int .i64 l.length]).run P w.drew = .ok (.string ⟨l.toArray⟩) (w.drew.freeze ⟨g, 0, none⟩ l.length) := by
  refine Lib.run_unsafeString_row w.drew (ρ.t 127) (ρ.t 3) (ρ.t 9) (ρ.t 5) L.t127 X.cellsByte g cur.size (by have hg' : w.drew.heap[g]? = some (.cells cur (ρ.t 5) (0, 0)) := hg; simp [World.shape?, hg']) l h0 (by omega) (by omega) ?_
  intro j x hx
  have hg' : w.drew.heap[g]? = some (.cells cur (ρ.t 5) (0, 0)) := hg
  rw [Addr_add, Nat.zero_add]
  unfold World.cell?
  simp only [hg']
  exact hc j x hx
 have mixed := L.mixed
 have t72 := L.t72; have a72 := L.a72; have z72 := L.z72; have v72 := L.v72; have u72 := run_underlying L.t72
 have t70 := L.t70; have a70 := L.a70; have z70 := L.z70; have v70 := L.v70; have u70 := run_underlying L.t70
 have t37 := L.t37; have a37 := L.a37; have z37 := L.z37; have v37 := L.v37; have u37 := run_underlying L.t37
 have t127 := L.t127; have a127 := L.a127; have z127 := L.z127; have v127 := L.v127; have u127 := run_underlying L.t127
 have t3 := L.t3; have a3 := L.a3; have z3 := L.z3; have v3 := L.v3; have u3 := run_underlying L.t3
 have t9 := L.t9; have a9 := L.a9; have z9 := L.z9; have v9 := L.v9; have u9 := run_underlying L.t9
 have t5 := X.t5; have a5 := X.a5; have z5 := X.z5; have v5 := X.v5; have u5 := run_underlying X.t5
 go_enter L.f169, Body.n169_ntmps ρ
 go_wp2
 go_region_o
 all_goals (go_wp2; go_ret; exact ⟨rfl, by (unfold World.freeze; split <;> rfl), by (unfold World.freeze; split <;> exact ⟨rfl, rfl, rfl, fun _ => Nat.le_succ _⟩)⟩)
end Go.Ev

/- The abstract machine Ev: strings.Builder within a block of another type: WriteString and String as leaves. -/
namespace Go.Ev
open Go.Proofs Go.Shelf Go.RowKit
def AObj.untc : AObj → AObj
 | .tc _ cs _ => .cells cs false
 | o => o
def H.untc (h : H) : H := ⟨h.next, fun i => (h.get i).map AObj.untc⟩
theorem untc_ro (o : AObj) : o.untc.ro = o.ro := by cases o <;> rfl
theorem OR.untc {r : Ren} {w : World} {t : Tgt} {o : AObj} (h : OR r w t o) : OR r w t o.untc := by
 cases o with
 | tc e cs ex =>
  obtain ⟨C, h1, h2, h3, h4, h5, _, h6⟩ := h
  exact ⟨C, e, (0, 0), h1, by omega, by omega, fun i a v ha hv => h6 i a v ha (by rw [h2, Nat.zero_add] at hv; exact hv), fun _ off _ => by simp⟩
 | _ => exact h
theorem get_untc {h : H} {i : Nat} {o : AObj} (e : h.untc.get i = some o) : ∃ o', h.get i = some o' ∧ o = o'.untc := by
 simp only [H.untc, Option.map_eq_some_iff] at e
 obtain ⟨o', h1, rfl⟩ := e
 exact ⟨o', h1, rfl⟩
theorem untc_get {h : H} {i : Nat} {o : AObj} (e : h.get i = some o) : h.untc.get i = some o.untc := by simp only [H.untc, e, Option.map_some]
theorem Rel.untc {r : Ren} {h : H} {w : World} (hrel : Rel r h w) : Rel r h.untc w where
 wf := fun i o e => by
  obtain ⟨o', h1, _⟩ := get_untc e
  exact hrel.wf i o' h1
 obj := fun i t o hr e => by
  obtain ⟨o', h1, rfl⟩ := get_untc e
  exact (hrel.obj i t o' hr h1).untc
 inj := fun i j ti tj oi oj hi hj e1 e2 e => by
  obtain ⟨o1, h1, rfl⟩ := get_untc e1
  obtain ⟨o2, h2, rfl⟩ := get_untc e2
  rw [untc_ro, untc_ro]
  exact hrel.inj i j ti tj o1 o2 hi hj h1 h2 e
 bound := hrel.bound
 glob := hrel.glob
theorem Post.retc {r r' : Ren} {h h' h1 : H} {w w' : World} (hrel : Rel r h w) (p : Post r h.untc w r' h1 w') (hu : h'.untc = h1) (ht : ∀ i t e cs ex, r' i = some t → h'.get i = some (.tc e cs ex) → OR r' w' t (.tc e cs ex)) (hs : ∀ i, i < h.next → h'.untc.get i = h.untc.get i → h'.get i = h.get i) : Post r h w r' h' w' := by
 subst hu
 refine ⟨p.le, p.dom, ⟨fun i o e => p.rel.wf i _ (untc_get e), fun i t o hr e => ?_, fun i j ti tj oi oj hi hj e1 e2 e => ?_, p.rel.bound, p.rel.glob⟩, fun b hb hk => p.keep b hb fun i t o h2 h3 h4 => ?_, p.env, p.size, p.next, fun i t h2 h3 => ?_, fun i o hi e => ?_, p.gap, fun i hi hne => p.touch i hi fun e => hne (hs i hi e)⟩
 ·cases o with
  | tc e2 cs ex => exact ht i t e2 cs ex hr e
  | _ => exact p.rel.obj i t _ hr (untc_get e)
 ·have := p.rel.inj i j ti tj _ _ hi hj (untc_get e1) (untc_get e2) e
  rwa [untc_ro, untc_ro] at this
 ·obtain ⟨o', g1, rfl⟩ := get_untc h4
  rw [untc_ro]
  exact hk i t o' h2 h3 g1
 ·rcases p.fresh i t h2 h3 with hf | ⟨j, tj, o, g1, g2, g3, g4⟩
  ·exact .inl hf
  ·obtain ⟨o', g5, rfl⟩ := get_untc g3
   rw [untc_ro] at g4
   exact .inr ⟨j, tj, o', g1, g2, g5, g4⟩
 ·obtain ⟨o', g1, g2⟩ := p.roKeep i _ hi (untc_get e)
  obtain ⟨o2, g3, rfl⟩ := get_untc g1
  rw [untc_ro, untc_ro] at g2
  exact ⟨o2, g3, g2⟩
def byteAVs (s : ByteArray) : List AV := s.data.toList.map fun c => .int .u8 c.toNat
/-- a builder of type T at i: behind WriteString -/
def wsF (T U : TypeId) (p : Option (Nat × Nat)) (s : ByteArray) (h : H) : Option H :=
  match p with
  | some (i, 0) =>
    (match h.get i with
     | some (.tc e [.ptr q, .slice b len cap] true) =>
       if e = T ∧ (q = none ∨ q = some (i, 0)) ∧ 0 < s.size then
         (match b, len, cap with
          | none, 0, .known 0 => if s.size ≤ 140737488355328 then some ((h.new (.tc U (byteAVs s) false)).set i (.tc T [.ptr (some (i, 0)), .slice (some (h.next, 0)) s.size (.rest 1)] true)) else none
          | some (j, 0), len, .rest 1 =>
            (match h.get j with
             | some (.tc e' bs false) => if e' = U ∧ bs.length = len ∧ 0 < len ∧ len + s.size ≤ 140737488355328 ∧ bs.all isCell = true then some (((h.kill j).new (.tc U (bs ++ byteAVs s) false)).set i (.tc T [.ptr (some (i, 0)), .slice (some (h.next, 0)) (len + s.size) (.rest 1)] true)) else none
             | _ => none)
          | _, _, _ => none)
       else none
     | _ => none)
  | _ => none
/-- .. behind String -/
def stF (T U : TypeId) (p : Option (Nat × Nat)) (h : H) : Option (ByteArray × H) :=
  match p with
  | some (i, 0) =>
    (match h.get i with
     | some (.tc e [.ptr _, .slice (some (j, 0)) len (.rest 1)] true) =>
       (match h.get j with
        | some (.tc e' bs false) => if e = T ∧ e' = U ∧ bs.length = len ∧ 0 < len ∧ len ≤ 140737488355328 ∧ j ≠ i then (evNums bs).bind fun ns => if ns.all (fun n => decide (0 ≤ n) && decide (n < 256)) = true then some (strOfNums ns, h.kill j) else none else none
        | _ => none)
     | _ => none)
  | _ => none
theorem byteAVs_cell (s : ByteArray) : (byteAVs s).all isCell = true := by
 unfold byteAVs
 rw [List.all_map]
 exact List.all_eq_true.2 fun _ _ => rfl
variable {P : Program} {ρ : Shelf.Ren}
theorem evAppend_bytes (L : Lays.n166 P ρ) (X : Builder.Extra P ρ) (sl : AV) (s : ByteArray) (h : H) : evAppend P [ρ.t 37, ρ.t 9] [sl, .str s] h = evApp 1 1 s.size (byteAVs s) sl h := by
 obtain ⟨i0, hi, hz0, hz1, hz2⟩ := info_parts X.infoByte
 have hz : evZero P (ρ.t 5) = some [.int .u8 0] := by
  unfold evZero
  rw [hi, Option.bind_some, hz0]
  rfl
 unfold evAppend
 simp only [List.getElem?_cons_zero, List.getElem?_cons_succ, L.t37, L.t9, isIntD, hi, Option.bind_some, hz, hz1, hz2, evSrc]
 simp only [Bool.false_eq_true, if_false, if_true, Option.bind_some, List.length_singleton]
 rw [if_pos ⟨trivial, by decide⟩]
 rfl
/-- the steps in the model: a builder's block b, its cells p and v; its bytes are appended to -/
theorem ws_steps (L : Lays.n166 P ρ) (X : Builder.Extra P ρ) {T : TypeId} (hl : liesAt P P.depth T (2 / P.cellsOf T) 0 (ρ.t 72) 1 = true) (hTU : T ≠ ρ.t 5) {r : Ren} {h : H} {w : World} (hrel : Rel r h w) {i : Nat} {t : Tgt} (ht : r i = some t) {q : Option (Nat × Nat)} {b : Option (Nat × Nat)} {len : Nat} {cap : Cap}
  (hg : h.get i = some (.tc T [.ptr q, .slice b len cap] true)) (hq : q = none ∨ q = some (i, 0)) (s : ByteArray) {h2 : H} {sl' : AV}
  (hnt : ∀ j tj, b = some (j, 0) → r j = some tj → j ≠ i ∧ ∃ bs, h.get j = some (.tc (ρ.t 5) bs false) ∧ bs.length = len) (hb0 : b = none → len = 0 ∧ cap = .known 0) (hb1 : ∀ p, b = some p → p.2 = 0 ∧ cap = .rest 1 ∧ 0 < len) (hlen : len + s.size ≤ 140737488355328) (hs : 0 < s.size)
  (hap : evApp 1 1 s.size (byteAVs s) (.slice b len cap) (h.untc.set i (.cells [.ptr (some (i, 0)), .slice b len cap] false)) = some (sl', h2)) (hfree : ∀ k, h.next ≤ k → k < h2.next → r k = none) :
  Calls P (ρ.f 166) #[.pointer (some ⟨t.blk, 0, none⟩), .string s] w fun e w' => e = .returned (.tuple #[.int .i64 s.size, .nilIface]) ∧ ∃ r' v' w2 g cur cp, w' = w2.setCell ⟨t.blk, 1, none⟩ v' ∧ VR r' sl' v' ∧ Post r h.untc w r' h2 w2 ∧ v' = .slice (some ⟨g, 0, none⟩) (len + s.size) cp ∧ w2.heap[g]? = some (.cells cur (ρ.t 5) (0, 0)) ∧ cp = cur.size ∧ cp ≤ 9223372036854775807 ∧
   (∃ v, w2.heap[t.blk]? = some (.cells #[.pointer (some ⟨t.blk, 0, none⟩), v] T (0, 0))) ∧ ∀ k, k < w.heap.size → k ≠ t.blk → (∀ j tj, b = some (j, 0) → r j = some tj → k ≠ tj.blk) → w2.heap[k]? = w.heap[k]? := by
 obtain ⟨i0, hi, hz0, hz1, hz2⟩ := info_parts X.infoByte
 obtain ⟨C, hC, hbase, hrow, hle, hex, hex2, hcell⟩ := hrel.obj i t _ ht hg
 have hCs : C.size = 2 := hex rfl
 obtain ⟨p, v, rfl⟩ : ∃ p v, C = #[p, v] := by
  refine ⟨C[0], C[1], ?_⟩
  apply Array.ext'
  rcases C with ⟨l⟩
  simp at hCs
  match l, hCs with
  | [x, y], _ => rfl
 have hvp : VR r (.ptr q) p := hcell 0 _ _ rfl rfl
 have hvv : VR r (.slice b len cap) v := hcell 1 _ _ rfl rfl
 have hp : p = .pointer none ∨ p = .pointer (some ⟨t.blk, 0, none⟩) := by
  rcases hq with rfl | rfl
  ·cases hvp; exact .inl rfl
  ·cases hvp with
   | ptr h3 => rw [ht] at h3; cases h3; right; rw [hbase]
 have hblt := hrel.bound i t ht
 let w1 := chk t.blk p w
 have hw1b : w1.heap[t.blk]? = some (.cells #[.pointer (some ⟨t.blk, 0, none⟩), v] T (0, 0)) := by
  rcases hp with rfl | rfl
  ·simp [w1, chk, World.setCell, Array.getElem?_modify, hC]
  ·exact hC
 have hw1o : ∀ k, k ≠ t.blk → w1.heap[k]? = w.heap[k]? := by
  intro k hk
  rcases hp with rfl | rfl
  ·simp [w1, chk, World.setCell, Array.getElem?_modify, Ne.symm hk]
  ·rfl
 have hw1s : w1.heap.size = w.heap.size := by
  rcases hp with rfl | rfl
  ·simp [w1, chk, World.setCell]
  ·rfl
 have hself : VR r (.ptr (some (i, 0))) (.pointer (some ⟨t.blk, 0, none⟩)) := by
  have := VR.ptr (r := r) (o := 0) ht
  rw [hbase] at this
  exact this
 have p1 : Post r h.untc w r (h.untc.set i (.cells [.ptr (some (i, 0)), .slice b len cap] false)) w1 := by
  refine Post.of_set hrel.untc ht (untc_get hg) rfl rfl hw1s (by rcases hp with rfl | rfl <;> exact ⟨rfl, rfl, rfl, fun _ => Nat.le_refl _⟩) hw1o ⟨_, T, (0, 0), hw1b, by rw [hrow]; simp, by rw [hbase, hrow]; simp, fun k a u ha hu => ?_, fun _ off _ => by simp⟩
  rw [hbase, Nat.zero_add] at hu
  match k, ha, hu with
  | 0, ha, hu => simp at ha hu; subst ha; subst hu; exact hself
  | 1, ha, hu => simp at ha hu; subst ha; subst hu; exact hvv
  | k + 2, ha, hu => simp at ha
 -- the row that is appended to
 have hown : w1.ownsRow 0 (ρ.t 5) 1 v len (match b with | none => [] | some (j, _) => match r j with | some tj => (match w.heap[tj.blk]? with | some (.cells cur _ _) => cur.toList.take len | _ => []) | none => []) := by
  cases b with
  | none =>
   obtain ⟨rfl, rfl⟩ := hb0 rfl
   cases hvv
   exact ⟨rfl, .inl ⟨rfl, rfl⟩⟩
  | some jo =>
   obtain ⟨j, o⟩ := jo
   obtain ⟨h3, rfl, hl0⟩ := hb1 _ rfl
   simp only at h3
   subst h3
   cases hvv with
   | sliceEnd a sz h4 => omega
   | sliceRest _ _ cp h4 h5 h6 =>
    rename_i tj
    obtain ⟨hji, bs, hgj, hbl⟩ := hnt j tj rfl h4
    obtain ⟨cur, k1, k2, k3, k4, k7, k6, k5⟩ := hrel.obj j tj _ h4 hgj
    have hne : tj.blk ≠ t.blk := fun e => by
     rcases hrel.inj j i tj t _ _ h4 ht hgj hg e with h7 | h7
     ·exact hji h7
     ·cases h7.1
    have hcur : w1.heap[tj.blk]? = some (.cells cur (ρ.t 5) (0, 0)) := by rw [hw1o _ hne]; exact k1
    have hcp : cp = cur.size := by rw [k2, k3] at h5; omega
    simp only [h4, k1]
    refine ⟨by simp; omega, .inr ⟨tj.blk, cp, cur, by rw [k2], Nat.zero_le _, hcur, h6, by rw [hcp]; unfold maxLen; have := k6 rfl; omega, by omega, by simp⟩⟩
 obtain ⟨v', w2, hr1, hown', hgrow, hiff⟩ := Lib.run_append_own_string (P := P) w1 0 (ρ.t 37) (ρ.t 9) (ρ.t 37) (ρ.t 5) i0 L.t37 L.t9 hi hz0 hz1 hz2 v len _ hown s (by unfold maxLen; omega) hlen (Nat.zero_le _)
 have hsl : VRL r [.slice b len cap, .str s] (#[v, .string s] : Array Value).toList := .cons hvv (.cons (.str s) .nil)
 obtain ⟨r', v2, w3, hr2, hv2, p2⟩ := evAppend_sim (P := P) (ty := ρ.t 37) p1.rel (fun k h3 h4 => by
   simp only [H.set] at h3
   exact hfree k h3 h4) (by rw [evAppend_bytes L X]; exact hap) hsl
 rw [hr1] at hr2
 cases hr2
 -- another block than the builder's own
 have hbw2 : w2.heap[t.blk]? = some (.cells #[.pointer (some ⟨t.blk, 0, none⟩), v] T (0, 0)) := by
  rw [hgrow.block t.blk (by rw [hw1s]; exact hblt) fun e => ?_]
  ·exact hw1b
  ·cases b with
   | none => cases hvv; cases e
   | some jo =>
    obtain ⟨j, o⟩ := jo
    obtain ⟨h3, rfl, hl0⟩ := hb1 _ rfl
    simp only at h3
    subst h3
    cases hvv with
    | sliceEnd a sz h4 => omega
    | sliceRest _ _ cp h4 h5 h6 =>
     rename_i tj
     obtain ⟨hji, bs, hgj, hbl⟩ := hnt j tj rfl h4
     simp only [Value.ownBlock, Option.some.injEq] at e
     rcases hrel.inj j i tj t _ _ h4 ht hgj hg e.symm with h7 | h7
     ·exact hji h7
     ·cases h7.1
 have hv'sl : ∃ g cp cur, v' = .slice (some ⟨g, 0, none⟩) (len + s.size) cp ∧ w2.heap[g]? = some (.cells cur (ρ.t 5) (0, 0)) ∧ cp ≤ maxLen ∧ cur.size = cp * 1 := by
  rcases hown'.2 with ⟨_, h0⟩ | ⟨g, cp, cur, e1, _, e2, _, e3, e4, _⟩
  ·omega
  ·exact ⟨g, cp, cur, e1, e2, e3, e4⟩
 obtain ⟨g, cp, cur, rfl, hg2, hcp, hcs⟩ := hv'sl
 have hvs : ∃ a n c, v = .slice a n c := by cases hvv <;> exact ⟨_, _, _, rfl⟩
 refine (writeString_at L X hl t.blk w w2 hC hp s hr1 hbw2 hvs ⟨_, _, _, rfl⟩).mono fun e w' ⟨he, hw'⟩ => ⟨he, r', _, w2, g, cur, cp, hw', hv2, p1.trans p2, rfl, hg2, by omega, by unfold maxLen at hcp; omega, ⟨v, hbw2⟩, fun k hk hkt hkj => ?_⟩
 ·rw [hgrow.block k (by rw [hw1s]; exact hk) fun e => ?_, hw1o k hkt]
  cases b with
  | none => cases hvv; cases e
  | some jo =>
   obtain ⟨j, o⟩ := jo
   obtain ⟨h3, rfl, hl0⟩ := hb1 _ rfl
   simp only at h3
   subst h3
   cases hvv with
   | sliceEnd a sz h4 => omega
   | sliceRest _ _ cp h4 h5 h6 =>
    simp only [Value.ownBlock, Option.some.injEq] at e
    exact hkj _ _ rfl h4 e
theorem ws_end {r r' : Ren} {h h2 : H} {w w2 : World} (hrel : Rel r h w) {i : Nat} {t : Tgt} (ht : r i = some t) {T U : TypeId} (hTU : T ≠ U) {cs0 : List AV} (hg : h.get i = some (.tc T cs0 true)) (hi : i < h.next) (p : Post r h.untc w r' h2 w2) (hnx : h2.next = h.next + 1) {len : Nat} {v v' : Value} {g cp : Nat} {cur : Array Value} {bs : List AV} (hlen : 0 < len)
  (hv' : v' = .slice (some ⟨g, 0, none⟩) len cp) (hcp : cp = cur.size) (hcpm : cp ≤ 9223372036854775807) (hvr : VR r' (.slice (some (h.next, 0)) len (.rest 1)) v') (hg2 : w2.heap[g]? = some (.cells cur U (0, 0))) (hb2 : w2.heap[t.blk]? = some (.cells #[.pointer (some ⟨t.blk, 0, none⟩), v] T (0, 0))) (hbase : t.base = 0) (hrow : t.row = 2)
  (hgi : ∃ cs, h2.get i = some (.cells cs false)) (hgn : h2.get h.next = some (.cells bs false)) {h' : H} (hn' : h'.next = h2.next) (hi' : h'.get i = some (.tc T [.ptr (some (i, 0)), .slice (some (h.next, 0)) len (.rest 1)] true)) (hx' : h'.get h.next = some (.tc U bs false)) (ho' : ∀ k, k ≠ i → k ≠ h.next → (h'.get k).map AObj.untc = h2.get k ∧ (h'.get k = none ∨ h'.get k = h.get k))
  (hkeep : ∀ k tk e cs ex, k ≠ i → k ≠ h.next → h'.get k = some (.tc e cs ex) → r k = some tk → tk.blk ≠ t.blk → w2.heap[tk.blk]? = w.heap[tk.blk]?) (hkn : ∀ k, k ≠ i → k < h.next → h'.get k = none → h.get k ≠ none → (h2.get k = h.untc.get k → False)) : Post r h w r' h' (w2.setCell ⟨t.blk, 1, none⟩ v') := by
 have ht' : r' i = some t := p.le i t ht
 obtain ⟨cs, hgi⟩ := hgi
 have hgb : g ≠ t.blk := fun e => by
  rw [e, hb2] at hg2
  simp only [Option.some.injEq, Obj.cells.injEq] at hg2
  exact hTU hg2.2.1
 have hother : ∀ k, k ≠ t.blk → (w2.setCell ⟨t.blk, 1, none⟩ v').heap[k]? = w2.heap[k]? := fun k hk => by simp [World.setCell, Array.getElem?_modify, Ne.symm hk]
 have hbk : (w2.setCell ⟨t.blk, 1, none⟩ v').heap[t.blk]? = some (.cells #[.pointer (some ⟨t.blk, 0, none⟩), v'] T (0, 0)) := by simp [World.setCell, Array.getElem?_modify, hb2]
 have hself : VR r' (.ptr (some (i, 0))) (.pointer (some ⟨t.blk, 0, none⟩)) := by
  have := VR.ptr (r := r') (o := 0) ht'
  rw [hbase] at this
  exact this
 have hcells : ∀ (k : Nat) (a : AV) (u : Value), ([.ptr (some (i, 0)), .slice (some (h.next, 0)) len (.rest 1)] : List AV)[k]? = some a → (#[.pointer (some ⟨t.blk, 0, none⟩), v'] : Array Value)[k]? = some u → VR r' a u := by
  intro k a u ha hu
  match k, ha, hu with
  | 0, ha, hu => simp at ha hu; subst ha; subst hu; exact hself
  | 1, ha, hu => simp at ha hu; subst ha; subst hu; exact hvr
  | k + 2, ha, hu => simp at ha
 have p3 : Post r' h2 w2 r' (h2.set i (.cells [.ptr (some (i, 0)), .slice (some (h.next, 0)) len (.rest 1)] false)) (w2.setCell ⟨t.blk, 1, none⟩ v') := by
  refine Post.of_set p.rel ht' hgi rfl rfl (by simp [World.setCell]) ⟨rfl, rfl, rfl, fun _ => Nat.le_refl _⟩ hother ⟨_, T, (0, 0), hbk, by rw [hrow]; simp, by rw [hbase, hrow]; simp, fun k a u ha hu => ?_, fun _ off _ => by simp⟩
  rw [hbase, Nat.zero_add] at hu
  exact hcells k a u ha hu
 have hin : i ≠ h.next := by omega
 -- the new row
 obtain ⟨tg, htg, htg1, htg2, htg3⟩ : ∃ tg, r' h.next = some tg ∧ tg.blk = g ∧ tg.base = 0 ∧ tg.row = cur.size := by
  subst hv'
  generalize hz : (Value.slice (some ⟨g, 0, none⟩) len cp) = z at hvr
  cases hvr with
  | sliceEnd a sz h4 => omega
  | sliceRest _ _ cap h4 h5 h6 =>
   rename_i tg
   simp only [Value.slice.injEq, Option.some.injEq, Addr.mk.injEq] at hz
   exact ⟨tg, h4, by omega, by omega, by omega⟩
 refine Post.retc hrel (p.trans p3) ?_ (fun k tk e cs2 ex hk hgk => ?_) fun k hk hsame => ?_
 ·unfold H.untc H.set
  simp only [H.mk.injEq]
  refine ⟨hn', funext fun k => ?_⟩
  by_cases hki : k = i
  ·subst hki; rw [if_pos rfl, hi']; rfl
  ·rw [if_neg hki]
   by_cases hkx : k = h.next
   ·subst hkx; rw [hx', hgn]; rfl
   ·exact (ho' k hki hkx).1
 ·by_cases hki : k = i
  ·subst hki
   rw [hi'] at hgk; cases hgk
   rw [ht'] at hk; cases hk
   exact ⟨_, hbk, hbase, by rw [hrow]; rfl, by simp, fun _ => rfl, (fun h => by cases h), hcells⟩
  ·by_cases hkx : k = h.next
   ·subst hkx
    rw [hx'] at hgk; cases hgk
    rw [htg] at hk; cases hk
    obtain ⟨C, e2, fz, k1, k2, k3, k4, k5⟩ := p.rel.obj _ _ _ htg hgn
    rw [htg1, hg2] at k1
    cases k1
    refine ⟨cur, by rw [htg1, hother g hgb]; exact hg2, htg2, htg3, by rw [htg2, htg3] at k3; omega, (fun h => by cases h), fun _ => by omega, fun q a u ha hu => ?_⟩
    exact k4 q a u ha (by rw [htg2, Nat.zero_add]; exact hu)
   ·obtain ⟨h5, h6⟩ := ho' k hki hkx
    rcases h6 with h6 | h6
    ·rw [h6] at hgk; cases hgk
    ·rw [hgk] at h6
     have hkl := hrel.wf k _ h6.symm
     have hrk : r k = some tk := by
      cases hr : r k with
      | some t0 => have := p.le k t0 hr; rw [hk] at this; rw [this]
      | none => have := p.dom k tk hk hr; simp only [H.untc] at this; omega
     have hne : tk.blk ≠ t.blk := fun e2 => by
      rcases hrel.inj k i tk t _ _ hrk ht h6.symm hg e2 with h7 | h7
      ·exact hki h7
      ·cases h7.1
     exact (hrel.obj k tk _ hrk h6.symm).move (p.le) (by rw [hother _ hne]; exact hkeep k tk e cs2 ex hki hkx hgk hrk hne)
 ·by_cases hki : k = i
  ·subst hki
   have h3 := untc_get hi'
   rw [hsame, untc_get hg] at h3
   simp only [AObj.untc, Option.some.injEq, AObj.cells.injEq] at h3
   rw [hi', hg, h3.1]
  ·obtain ⟨h5, h6⟩ := ho' k hki (by omega)
   rcases h6 with h6 | h6
   ·rw [h6]
    cases hgk : h.get k with
    | none => rfl
    | some o =>
     exfalso
     refine hkn k hki hk h6 (by rw [hgk]; simp) ?_
     rw [← h5, ← hsame]
     simp only [H.untc]
   ·exact h6
theorem gS (h : H) (i k : Nat) (o : AObj) : (h.set i o).get k = if k = i then some o else h.get k := rfl
theorem gN (h : H) (k : Nat) (o : AObj) : (h.new o).get k = if k = h.next then some o else h.get k := rfl
theorem gK (h : H) (i k : Nat) : (h.kill i).get k = if k = i then none else h.get k := rfl
theorem gU (h : H) (k : Nat) : h.untc.get k = (h.get k).map AObj.untc := rfl
theorem nS (h : H) (i : Nat) (o : AObj) : (h.set i o).next = h.next := rfl
theorem nN (h : H) (o : AObj) : (h.new o).next = h.next + 1 := rfl
theorem nK (h : H) (i : Nat) : (h.kill i).next = h.next := rfl
theorem nU (h : H) : h.untc.next = h.next := rfl
theorem wsF_called (L : Lays.n166 P ρ) (X : Builder.Extra P ρ) {T : TypeId} (hl : liesAt P P.depth T (2 / P.cellsOf T) 0 (ρ.t 72) 1 = true) (hTU : T ≠ ρ.t 5) {fn : Func} (hf : P.funcs[ρ.f 166]? = some fn) (hb : fn.body.isNone = false) (hn : (fn.name == "runtime.NumGoroutine") = false)
  {p : Option (Nat × Nat)} {s : ByteArray} {h h' : H} (e : wsF T (ρ.t 5) p s h = some h') : Called P (ρ.f 166) [.ptr p, .str s] h (.tup [.int .i64 s.size, .junk]) h' := by
 unfold wsF at e
 split at e
 ·rename_i i
  split at e
  ·rename_i T' q b len cap hg
   split at e
   ·rename_i hc
    obtain ⟨rfl, hq, hs⟩ := hc
    have vtup : ∀ r : Ren, VR r (.tup [.int .i64 s.size, .junk]) (.tuple #[.int .i64 s.size, .nilIface]) := fun r => by
     refine .tup _ _ (by simp) fun k a u ha hu => ?_
     match k, ha, hu with
     | 0, ha, hu => simp at ha hu; subst ha; subst hu; exact .int _ _
     | 1, ha, hu => simp at ha hu; subst ha; exact .junk _
     | k + 2, ha, hu => simp at ha
    split at e
    ·-- nothing was written yet
     split at e
     ·rename_i hsz
      cases e
      refine .inl ⟨⟨fn, hf, hb, hn⟩, by simp [H.set, H.new], fun hw k o hk => ?_, fun r w args' hrel hfree ha => ?_⟩
      ·simp only [H.set, H.new] at hk ⊢
       split at hk
       ·have := hw i _ hg; omega
       ·split at hk
        ·omega
        ·have := hw k o hk; omega
      ·obtain ⟨v0, u0, rfl, hv0, hu0⟩ := ha.two
       cases hu0
       cases hv0 with
       | ptr ht =>
       rename_i t
       have hor := hrel.obj i t _ ht hg
       obtain ⟨C, hC, hbase, hrow, _, hex, _, _⟩ := hor
       have hCs : C.size = 2 := hex rfl
       have hin : i < h.next := hrel.wf i _ hg
       have hinx : i ≠ h.next := by omega
       have hap : evApp 1 1 s.size (byteAVs s) (.slice none 0 (.known 0)) (h.untc.set i (.cells [.ptr (some (i, 0)), .slice none 0 (.known 0)] false)) = some (.slice (some (h.next, 0)) (0 + s.size) (.rest 1), (h.untc.set i (.cells [.ptr (some (i, 0)), .slice none 0 (.known 0)] false)).new (.cells (byteAVs s) false)) := by
        unfold evApp
        rw [if_neg (by omega), if_pos ⟨by omega, by omega⟩, Nat.zero_add]
        rfl
       have st := ws_steps L X hl hTU hrel ht hg hq s (fun j tj hj => by cases hj) (fun _ => ⟨rfl, rfl⟩) (fun p hp => by cases hp) (by omega) hs hap (fun k h1 h2 => hfree k h1 (by simp only [H.set, H.new, H.untc] at h2 ⊢; exact h2))
       rw [hbase] 
       refine st.mono fun e w' ⟨he, r', v', w2, g, cur, cp, hw', hvr, p, hv', hg2, hcp, hcpm, ⟨v, hb2⟩, hk⟩ => ?_
       subst hw'
       refine ⟨r', _, he, vtup r', ?_⟩
       rw [Nat.zero_add] at hv' hvr
       refine ws_end (bs := byteAVs s) hrel ht hTU hg hin p (by simp [H.set, H.new, H.untc]) hs hv' hcp hcpm hvr hg2 hb2 hbase (by rw [hrow, hCs]) ⟨[.ptr (some (i, 0)), .slice none 0 (.known 0)], by simp [gS, gN, gK, gU, nS, nN, nK, nU, hinx]⟩ (by simp [gS, gN, gK, gU, nS, nN, nK, nU]) (by simp [gS, gN, gK, gU, nS, nN, nK, nU]) (by simp [gS, gN, gK, gU, nS, nN, nK, nU]) (by simp [gS, gN, gK, gU, nS, nN, nK, nU, Ne.symm hinx]) (fun k h1 h2 => ?_) (fun k tk e2 cs2 ex h1 h2 h3 h4 h5 => hk tk.blk (hrel.bound k tk h4) h5 fun j tj hj => by cases hj) (fun k h1 h2 h3 h4 => ?_)
       ·simp [gS, gN, gK, gU, nS, nN, nK, nU, h1, h2]
       ·have hk2 : k ≠ h.next := by omega
        simp [gS, gN, gK, gU, nS, nN, nK, nU, h1, hk2] at h3
        exact absurd h3 h4
     ·cases e
    ·-- more
     rename_i cap0 j
     split at e
     ·rename_i e' bs hgj
      split at e
      ·rename_i hc2
       obtain ⟨rfl, hbl, hl0, hsz, hcell⟩ := hc2
       cases e
       have hji : j ≠ i := fun e2 => by subst e2; rw [hg] at hgj; cases hgj
       refine .inl ⟨⟨fn, hf, hb, hn⟩, by simp [H.set, H.new, H.kill], fun hw k o hk => ?_, fun r w args' hrel hfree ha => ?_⟩
       ·have hi := hw i _ hg
        by_cases hki : k = i
        ·simp only [nS, nN, nK]; omega
        ·by_cases hkx : k = h.next
         ·simp only [nS, nN, nK]; omega
         ·by_cases hkj : k = j
          ·subst hkj
           simp [gS, gN, gK, nK, hki, hkx] at hk
          ·simp [gS, gN, gK, nK, hki, hkx, hkj] at hk
           have := hw k o hk
           simp only [nS, nN, nK]; omega
       ·obtain ⟨v0, u0, rfl, hv0, hu0⟩ := ha.two
        cases hu0
        cases hv0 with
        | ptr ht =>
        rename_i t
        have hor := hrel.obj i t _ ht hg
        obtain ⟨C, hC, hbase, hrow, _, hex, _, _⟩ := hor
        have hCs : C.size = 2 := hex rfl
        have hin : i < h.next := hrel.wf i _ hg
        have hjn : j < h.next := hrel.wf j _ hgj
        have hinx : i ≠ h.next := by omega
        let hA : H := h.untc.set i (.cells [.ptr (some (i, 0)), .slice (some (j, 0)) len (.rest 1)] false)
        have hAj : hA.get j = some (.cells bs false) := by simp [hA, gS, gN, gK, gU, nS, nN, nK, nU, hji, hgj, AObj.untc]
        have hap : evApp 1 1 s.size (byteAVs s) (.slice (some (j, 0)) len (.rest 1)) hA = some (.slice (some (h.next, 0)) (len + s.size) (.rest 1), (hA.kill j).new (.cells (bs ++ byteAVs s) false)) := by
         simp only [evApp]
         rw [if_neg (show ¬ s.size = 0 by omega), if_pos ⟨trivial, show (len + s.size) * 1 ≤ 140737488355328 by omega, show len + s.size ≤ 9223372036854775807 by omega⟩, hAj]
         simp only
         rw [if_pos ⟨show 0 + len * 1 = bs.length by omega, byteAVs_cell s⟩, List.drop_zero]
         rfl
        have st := ws_steps L X hl hTU hrel ht hg hq s (fun j2 tj hj _ => by cases hj; exact ⟨hji, bs, hgj, hbl⟩) (fun h => by cases h) (fun p hp => by cases hp; exact ⟨rfl, rfl, hl0⟩) hsz hs hap (fun k h1 h2 => hfree k h1 (by simp only [hA, H.set, H.new, H.kill, H.untc] at h2 ⊢; exact h2))
        rw [hbase]
        refine st.mono fun e w' ⟨he, r', v', w2, g, cur, cp, hw', hvr, p, hv', hg2, hcp, hcpm, ⟨v, hb2⟩, hk⟩ => ?_
        subst hw'
        refine ⟨r', _, he, vtup r', ?_⟩
        refine ws_end (bs := bs ++ byteAVs s) hrel ht hTU hg hin p (by simp [hA, gS, gN, gK, gU, nS, nN, nK, nU]) (by omega) hv' hcp hcpm hvr hg2 hb2 hbase (by rw [hrow, hCs]) ⟨[.ptr (some (i, 0)), .slice (some (j, 0)) len (.rest 1)], by simp [hA, gS, gN, gK, gU, nS, nN, nK, nU, hinx, Ne.symm hji]⟩ (by simp [hA, gS, gN, gK, gU, nS, nN, nK, nU]) (by simp [hA, gS, gN, gK, gU, nS, nN, nK, nU]) (by simp [gS, gN, gK, gU, nS, nN, nK, nU]) (by simp [gS, gN, gK, gU, nS, nN, nK, nU, Ne.symm hinx]) (fun k h1 h2 => ?_) (fun k tk e2 cs2 ex h1 h2 h3 h4 h5 => hk tk.blk (hrel.bound k tk h4) h5 fun j2 tj hj hrj e3 => ?_) (fun k h1 h2 h3 h4 h5 => ?_)
        ·by_cases hkj : k = j
         ·subst hkj; simp [hA, gS, gN, gK, gU, nS, nN, nK, nU, h1, h2]
         ·simp [hA, gS, gN, gK, gU, nS, nN, nK, nU, h1, h2, hkj]
        ·cases hj
         by_cases hkj : k = j
         ·subst hkj
          simp [gS, gN, gK, gU, nS, nN, nK, nU, h1, h2] at h3
         ·simp [gS, gN, gK, gU, nS, nN, nK, nU, h1, h2, hkj] at h3
          rcases hrel.inj k j tk tj _ _ h4 hrj h3 hgj e3 with h7 | h7
          ·exact hkj h7
          ·cases h7.1
        ·have hk2 : k ≠ h.next := by omega
         by_cases hkj : k = j
         ·subst hkj
          simp [hA, gS, gN, gK, gU, nS, nN, nK, nU, h1, hk2, hgj] at h5
         ·simp [gS, gN, gK, gU, nS, nN, nK, nU, h1, hk2, hkj] at h3
          exact h4 h3
      ·cases e
     ·cases e
    ·cases e
   ·cases e
  ·cases e
 ·cases e
theorem stF_called (L : Lays.n169 P ρ) (X : Builder.Extra P ρ) {T : TypeId} {fn : Func} (hf : P.funcs[ρ.f 169]? = some fn) (hb : fn.body.isNone = false) (hn : (fn.name == "runtime.NumGoroutine") = false)
  {p : Option (Nat × Nat)} {h : H} {q : ByteArray × H} (e : stF T (ρ.t 5) p h = some q) : Called P (ρ.f 169) [.ptr p] h (.str q.1) q.2 := by
 unfold stF at e
 split at e
 ·rename_i i
  split at e
  ·rename_i T' q0 j len hg
   split at e
   ·rename_i e' bs hgj
    split at e
    ·rename_i hc
     obtain ⟨rfl, rfl, hbl, hl0, hsz, hji⟩ := hc
     obtain ⟨ns, hns, e⟩ := Option.bind_eq_some_iff.1 e
     split at e
     case isFalse => cases e
     rename_i hrange
     cases e
     refine .inl ⟨⟨fn, hf, hb, hn⟩, Nat.le_refl _, fun hw k o hk => ?_, fun r w args' hrel hfree ha => ?_⟩
     ·simp only [H.kill] at hk ⊢
      split at hk
      ·cases hk
      ·exact hw k o hk
     ·obtain ⟨v0, rfl, hv0⟩ := ha.one
      cases hv0 with
      | ptr ht =>
      rename_i t
      obtain ⟨C, hC, hbase, hrow, hle0, hex, hex0, hcell⟩ := hrel.obj i t _ ht hg
      have hCs : C.size = 2 := hex rfl
      obtain ⟨p0, v, rfl⟩ : ∃ p v, C = #[p, v] := by
       refine ⟨C[0], C[1], ?_⟩
       apply Array.ext'
       rcases C with ⟨l⟩
       simp at hCs
       match l, hCs with
       | [x, y], _ => rfl
      have hvv : VR r (.slice (some (j, 0)) len (.rest 1)) v := hcell 1 _ _ rfl rfl
      cases hvv with
      | sliceEnd a sz h4 => omega
      | sliceRest _ _ cp h4 h5 h6 =>
      rename_i tj
      obtain ⟨cur, k1, k2, k3, k4, k7, k6, k5⟩ := hrel.obj j tj _ h4 hgj
      rw [hbase]
      have hbytes : ∃ l : List UInt8, l.length = len ∧ strOfNums ns = ⟨l.toArray⟩ ∧ ∀ (y : Nat) x, l[y]? = some x → cur[y]? = some (.int .u8 x.toNat) := by
       have hv : VRL r bs (cur.toList.take len) := ⟨by simp; omega, fun y a u ha hu => by
        rw [List.getElem?_take] at hu
        split at hu
        ·exact k5 y a u ha (by rw [Array.getElem?_toList] at hu; exact hu)
        ·cases hu⟩
       have hcur := evNums_sim hns hv
       have hnl : ns.length = len := by
        have := congrArg List.length hcur
        simp at this; omega
       refine ⟨ns.map fun n => UInt8.ofNat n.toNat, by simp [hnl], rfl, fun y x hx => ?_⟩
       rw [List.getElem?_map] at hx
       obtain ⟨n, hn2, rfl⟩ := Option.map_eq_some_iff.1 hx
       have hr2 := List.all_eq_true.1 hrange n (List.mem_of_getElem? hn2)
       simp only [Bool.and_eq_true, decide_eq_true_eq] at hr2
       have hy : y < len := by rw [← hnl]; exact (List.getElem?_eq_some_iff.1 hn2).1
       have h8 : (cur.toList.take len)[y]? = some (.int .u8 n) := by rw [hcur, List.getElem?_map, hn2]; rfl
       rw [List.getElem?_take, if_pos hy, Array.getElem?_toList] at h8
       rw [h8]
       congr 2
       have : (UInt8.ofNat n.toNat).toNat = n.toNat := by
        simp; omega
       rw [this]; omega
      have hne : tj.blk ≠ t.blk := fun e2 => by
       rcases hrel.inj j i tj t _ _ h4 ht hgj hg e2 with h7 | h7
       ·exact hji h7
       ·cases h7.1
      obtain ⟨l, hll, hstr, hlc⟩ := hbytes
      rw [k2, Nat.zero_add] at hC
      subst hll
      refine (string_at L X t.blk tj.blk cp p0 T' cur l w (fun h => by rw [h] at hl0; simp at hl0) hC k1 h6 (by omega) hsz hlc).mono fun e w' ⟨he, hw', henv⟩ => ⟨r, _, he, by rw [hstr]; exact .str _, ?_⟩
      have hoth : ∀ k, k ≠ tj.blk → w'.heap[k]? = w.heap[k]? := fun k hk => by
       rw [hw']
       unfold World.freeze
       split
       ·rfl
       ·simp only []
        rw [Array.getElem?_modify, if_neg (Ne.symm hk)]
      have hsz' : w'.heap.size = w.heap.size := by rw [hw']; exact heap_freeze_size _ _ _
      have pk := Post.of_kill h4 hrel
      refine ⟨r.le_refl, (fun k tk g1 g2 => by rw [g1] at g2; cases g2), ⟨pk.rel.wf, fun k tk o g1 g2 => ?_, pk.rel.inj, fun k tk g1 => by rw [hsz']; exact hrel.bound k tk g1, hrel.glob⟩, fun b hb hk => hoth b fun e2 => ?_, henv, by rw [hsz']; exact Nat.le_refl _, Nat.le_refl _, (fun k tk g1 g2 => by rw [g1] at g2; cases g2), pk.roKeep, pk.gap, pk.touch⟩
      ·have hkj : k ≠ j := fun e2 => by subst e2; simp [gK] at g2
       refine (pk.rel.obj k tk o g1 g2).move r.le_refl (hoth _ fun e2 => ?_)
       simp only [gK, if_neg hkj] at g2
       rcases hrel.inj k j tk tj _ _ g1 h4 g2 hgj e2 with h7 | h7
       ·exact hkj h7
       ·cases h7.2
      ·have := hk j tj _ h4 e2.symm hgj
       cases this
    ·cases e
   ·cases e
  ·cases e
 ·cases e
end Go.Ev

/- The abstract machine Ev, part Bx: blocks of one's own, in steps of one line each. -/
namespace Go.Ev
/-- a block, and what lies there -/
structure At (h : H) (b : Nat) (o : AObj) : Prop where
 lt : b < h.next
 get : h.get b = some o
theorem At.mod {h h' : H} {b : Nat} {o : AObj} {S : List Nat} (g : At h b o) (m : Mod S h h') (hS : b ∉ S) : At h' b o := ⟨m.lt g.lt, (m.get _ g.lt hS).trans g.get⟩
theorem At.mod0 {h h' : H} {b : Nat} {o : AObj} (g : At h b o) (m : Mod [] h h') : At h' b o := g.mod m (by simp)
theorem At.new (h : H) (o : AObj) : At (h.new o) h.next o := ⟨Nat.lt_succ_self _, get_new_self h o⟩
section
variable {α β : Type}
theorem At.cell {h : H} {b o : Nat} {cs : List AV} {ro : Bool} (g : At h b (.cells cs ro)) {v : AV} (hv : cs[o]? = some v) (f : AV → Option β) : cellK h b o f = f v := cellK_of g.get hv f
theorem At.agg {h : H} {b o n : Nat} {cs vs : List AV} {ro : Bool} (g : At h b (.cells cs ro)) (hv : (cs.drop o).take n = vs) (hl : o + n ≤ cs.length) (f : List AV → Option β) : aggK h b o n f = f vs := by rw [aggK_of g.get hl, hv]
theorem At.all {h : H} {b n : Nat} {cs : List AV} {ro : Bool} (g : At h b (.cells cs ro)) (hn : cs.length = n) (f : List AV → Option β) : aggK h b 0 n f = f cs := aggK_all g.get hn f
end
end Go.Ev

/- The abstract machine Ev, part Ow: the blocks that an object owns, by numbered slots. -/
namespace Go.Ev
def up {α : Type} (f : Nat → α) (i : Nat) (v : α) : Nat → α := fun j => if j = i then v else f j
@[simp] theorem up_self {α : Type} (f : Nat → α) (i : Nat) (v : α) : up f i v i = v := if_pos rfl
theorem up_ne {α : Type} {f : Nat → α} {i j : Nat} {v : α} (h : j ≠ i) : up f i v j = f j := if_neg h
/-- of twelve slots -/
def foot (f : Nat → Option Nat) : List Nat := (List.range 12).filterMap f
/-- what is kept from one moment to the next, beside what is owned -/
structure Fr (S : List Nat) (h : H) (S' : List Nat) (h' : H) : Prop where
 mod : Mod S h h'
 own : ∀ i ∈ S', i ∈ S ∨ h.next ≤ i
theorem Fr.refl (S : List Nat) (h : H) : Fr S h S h := ⟨Mod.refl _ _, fun _ h => .inl h⟩
theorem Fr.trans {S S' S'' : List Nat} {a b c : H} (p : Fr S a S' b) (q : Fr S' b S'' c) : Fr S a S'' c :=
  ⟨p.mod.trans' q.mod fun i hi hl => (p.own i hi).elim id fun h => absurd h (by omega),
   fun i hi => (q.own i hi).elim (p.own i) fun h => .inr (Nat.le_trans p.mod.next h)⟩
theorem Fr.mod0 {S : List Nat} {a b : H} (m : Mod [] a b) : Fr S a S b := ⟨m.of_nil, fun _ h => .inl h⟩
/-- an object that is not owned stays, and does not come to be owned -/
theorem Fr.keep {S S' : List Nat} {a b : H} (p : Fr S a S' b) {i : Nat} (hi : i < a.next) (hS : i ∉ S) : b.get i = a.get i ∧ i < b.next ∧ i ∉ S' :=
 ⟨p.mod.get i hi hS, p.mod.lt hi, fun h => (p.own i h).elim hS fun h => by omega⟩
structure Own (a : H) (f : Nat → Option Nat) (c : Nat → List AV) (h : H) : Prop where
 le : a.next ≤ h.next
 get : ∀ i x, f i = some x → h.get x = some (.cells (c i) false)
 lt : ∀ i x, f i = some x → x < h.next
 ge : ∀ i x, f i = some x → a.next ≤ x
 inj : ∀ i j x, f i = some x → f j = some x → i = j
 top : ∀ i, 12 ≤ i → f i = none
section
variable {a h h' : H} {f : Nat → Option Nat} {c : Nat → List AV} {i x : Nat}
theorem Own.mem (o : Own a f c h) {x : Nat} : x ∈ foot f ↔ ∃ i, f i = some x := by
 simp only [foot, List.mem_filterMap, List.mem_range]
 constructor
 ·rintro ⟨i, _, e⟩; exact ⟨i, e⟩
 ·rintro ⟨i, e⟩
  refine ⟨i, ?_, e⟩
  by_cases hi : i < 12
  ·exact hi
  ·rw [o.top i (by omega)] at e; cases e
theorem Own.mod0 (o : Own a f c h) (m : Mod [] h h') : Own a f c h' :=
 ⟨Nat.le_trans o.le m.next, fun i x e => (m.get x (o.lt i x e) (by simp)).trans (o.get i x e), fun i x e => m.lt (o.lt i x e), o.ge, o.inj, o.top⟩
theorem Own.nil (a : H) (c : Nat → List AV) : Own a (fun _ => none) c a := ⟨Nat.le_refl _, by simp, by simp, by simp, by simp, by simp⟩
/-- one's block is written -/
theorem Own.wr (o : Own a f c h) (hf : f i = some x) (v : List AV) : Own a f (up c i v) (h.set x (.cells v false)) ∧ Fr (foot f) h (foot f) (h.set x (.cells v false)) := by
 refine ⟨⟨o.le, fun j y e => ?_, o.lt, o.ge, o.inj, o.top⟩, (Mod.refl _ _).set (.inr (o.mem.2 ⟨i, hf⟩)) _, fun _ h => .inl h⟩
 by_cases hj : j = i
 ·subst hj
  obtain rfl : y = x := by rw [hf] at e; exact (Option.some.inj e).symm
  rw [up_self]; exact get_set_self _ _ _
 ·rw [up_ne hj, get_set_ne]
  ·exact o.get j y e
  ·rintro rfl
   exact hj (o.inj _ _ _ e hf)
theorem Own.wrK {β : Type} (o : Own a f c h) (hf : f i = some x) {p n : Nat} {xs v : List AV} (hn : xs.length = n) (hl : p + n ≤ (c i).length) (hc : xs.all isCell = true) (hv : spl (c i) p xs = v) (k : H → Option β) : wrK h x p n xs k = k (h.set x (.cells v false)) := by
 rw [wrK_of (o.get i x hf) hn hl hc, hv]
theorem Own.cell {β : Type} (o : Own a f c h) (hf : f i = some x) {p : Nat} {v : AV} (hv : (c i)[p]? = some v) (k : AV → Option β) : cellK h x p k = k v := cellK_of (o.get i x hf) hv k
/-- a slot takes a new block -/
theorem Own.put (o : Own a f c h) (hi : i < 12) {v : List AV} (hb : h.next ≤ x) (ha : At h' x (.cells v false)) (m : Mod (own ((f i).map fun b => (b, 0))) h h') : Own a (up f i (some x)) (up c i v) h' ∧ Fr (foot f) h (foot (up f i (some x))) h' := by
 have hne : ∀ j y, j ≠ i → f j = some y → y ∉ own ((f i).map fun b => (b, 0)) := by
  intro j y hj e hm
  cases hfi : f i with
  | none => rw [hfi] at hm; simp at hm
  | some z =>
   rw [hfi] at hm
   obtain rfl : y = z := by simpa using hm
   exact hj (o.inj _ _ _ e hfi)
 have ow : Own a (up f i (some x)) (up c i v) h' := by
  refine ⟨Nat.le_trans o.le m.next, ?_, ?_, ?_, ?_, ?_⟩
  ·intro j y e
   by_cases hj : j = i
   ·subst hj
    rw [up_self] at e ⊢
    obtain rfl := Option.some.inj e
    exact ha.get
   ·rw [up_ne hj] at e ⊢
    exact (m.get y (o.lt j y e) (hne j y hj e)).trans (o.get j y e)
  ·intro j y e
   by_cases hj : j = i
   ·subst hj
    rw [up_self] at e
    obtain rfl := Option.some.inj e
    exact ha.lt
   ·rw [up_ne hj] at e
    exact m.lt (o.lt j y e)
  ·intro j y e
   by_cases hj : j = i
   ·subst hj
    rw [up_self] at e
    obtain rfl := Option.some.inj e
    exact Nat.le_trans o.le hb
   ·rw [up_ne hj] at e
    exact o.ge j y e
  ·intro j l y e e'
   by_cases hj : j = i
   ·by_cases hl : l = i
    ·rw [hj, hl]
    ·rw [hj, up_self] at e; rw [up_ne hl] at e'
     obtain rfl := Option.some.inj e
     exact absurd (o.lt l _ e') (by omega)
   ·by_cases hl : l = i
    ·rw [hl, up_self] at e'; rw [up_ne hj] at e
     obtain rfl := Option.some.inj e'
     exact absurd (o.lt j _ e) (by omega)
    ·rw [up_ne hj] at e; rw [up_ne hl] at e'
     exact o.inj _ _ _ e e'
  ·intro j hj
   rw [up_ne (by omega)]; exact o.top j hj
 refine ⟨ow, ⟨m.sub fun y hy _ => ?_, fun y hy => ?_⟩⟩
 ·cases hfi : f i with
  | none => rw [hfi] at hy; simp at hy
  | some z =>
   rw [hfi] at hy
   obtain rfl : y = z := by simpa using hy
   exact o.mem.2 ⟨i, hfi⟩
 ·obtain ⟨j, e⟩ := ow.mem.1 hy
  by_cases hj : j = i
  ·rw [hj, up_self] at e
   obtain rfl := Option.some.inj e
   exact .inr hb
  ·rw [up_ne hj] at e
   exact .inl (o.mem.2 ⟨j, e⟩)
/-- a slot is left -/
theorem Own.drop (o : Own a f c h) (i : Nat) : Own a (up f i none) c h := by
 have hs : ∀ j y, up f i none j = some y → f j = some y := by
  intro j y e
  by_cases hj : j = i
  ·rw [hj, up_self] at e; cases e
  ·rwa [up_ne hj] at e
 refine ⟨o.le, fun j y e => o.get j y (hs j y e), fun j y e => o.lt j y (hs j y e), fun j y e => o.ge j y (hs j y e), fun j l y e e' => o.inj _ _ _ (hs _ _ e) (hs _ _ e'), fun j hj => ?_⟩
 by_cases hi : j = i
 ·rw [hi, up_self]
 ·rw [up_ne hi]; exact o.top j hj
theorem Own.dropF (o : Own a f c h) (i : Nat) : Fr (foot f) h (foot (up f i none)) h := by
 refine ⟨Mod.refl _ _, fun y hy => .inl ?_⟩
 obtain ⟨j, e⟩ := (o.drop i).mem.1 hy
 by_cases hj : j = i
 ·rw [hj, up_self] at e; cases e
 ·rw [up_ne hj] at e; exact o.mem.2 ⟨j, e⟩
def slP (f : Nat → Option Nat) (i : Nat) : Option (Nat × Nat) := (f i).map fun b => (b, 0)
theorem slP_up (f : Nat → Option Nat) (i x : Nat) : slP (up f i (some x)) i = some (x, 0) := by simp [slP]
theorem slP_ne {f : Nat → Option Nat} {i j : Nat} {v : Option Nat} (h : j ≠ i) : slP (up f i v) j = slP f j := by unfold slP; rw [up_ne h]
structure Arr (f : Nat → Option Nat) (c : Nat → List AV) (i size len : Nat) (cap : Cap) (vs : List AV) : Prop where
 look : (f i = none ∧ len = 0 ∧ cap = .known 0 ∧ vs = []) ∨ ∃ x, f i = some x ∧ c i = vs ∧ vs.length = len * size ∧ (cap = .rest size ∨ cap = .known len)
theorem Arr.grow {size len : Nat} {cap : Cap} {vs : List AV} (r : Arr f c i size len cap vs) (o : Own a f c h) : Grow a h size (slP f i) len cap vs := by
 rcases r.look with ⟨h1, h2, h3, h4⟩ | ⟨x, h1, h2, h3, h4⟩
 ·exact ⟨.inl ⟨by simp [slP, h1], h2, h3, h4⟩⟩
 ·exact ⟨.inr ⟨x, by simp [slP, h1], o.ge _ _ h1, o.lt _ _ h1, by rw [o.get _ _ h1, h2], h3, h4⟩⟩
theorem Arr.ne {size len j : Nat} {cap : Cap} {vs v : List AV} {w : Option Nat} (r : Arr f c i size len cap vs) (hj : i ≠ j) : Arr (up f j w) (up c j v) i size len cap vs := by
 rcases r.look with h | ⟨x, h⟩
 ·exact ⟨.inl (by rw [up_ne hj]; exact h)⟩
 ·exact ⟨.inr ⟨x, by rw [up_ne hj, up_ne hj]; exact h⟩⟩
theorem Arr.neC {size len j : Nat} {cap : Cap} {vs v : List AV} (r : Arr f c i size len cap vs) (hj : i ≠ j) : Arr f (up c j v) i size len cap vs := by
 rcases r.look with h | ⟨x, h⟩
 ·exact ⟨.inl h⟩
 ·exact ⟨.inr ⟨x, by rw [up_ne hj]; exact h⟩⟩
theorem Arr.neF {size len j : Nat} {cap : Cap} {vs : List AV} {w : Option Nat} (r : Arr f c i size len cap vs) (hj : i ≠ j) : Arr (up f j w) c i size len cap vs := by
 rcases r.look with h | ⟨x, h⟩
 ·exact ⟨.inl (by rw [up_ne hj]; exact h)⟩
 ·exact ⟨.inr ⟨x, by rw [up_ne hj]; exact h⟩⟩
theorem Arr.nil {size : Nat} (h : f i = none) : Arr f c i size 0 (.known 0) [] := ⟨.inl ⟨h, rfl, rfl, rfl⟩⟩
/-- one element more -/
theorem Grow.pushE {a h : H} {size bytes : Nat} {p : Option (Nat × Nat)} {len : Nat} {c : Cap} {vs : List AV} (g : Grow a h size p len c vs) (ha : a.next ≤ h.next) {xs : List AV} (hx : xs.length = size) (hc : xs.all isCell = true) (h0 : 0 < size) (hb : (len + 1) * bytes ≤ 140737488355328) (h63 : len + 1 ≤ 9223372036854775807) :
  ∃ p' c' h', (∀ (β : Type) (k : Option (Nat × Nat) → Nat → Cap → H → Option β), appK size bytes p len c (evSrc size (.slice (some (h.next, 0)) 1 (.known 1)) (h.new (.cells xs false))) (h.new (.cells xs false)) k = k p' (len + 1) c' h') ∧ Grow a h' size p' (len + 1) c' (vs ++ xs) ∧ Mod (own p) h h' ∧ ∀ x ∈ own p', h.next ≤ x := by
 have m2 : Mod [] h (h.new (.cells xs false)) := (Mod.refl _ _).new _
 have r2 : Row (h.new (.cells xs false)) size (some (h.next, 0)) 1 (.known 1) xs := .row (by simp) (get_new_self _ _) (by rw [List.drop_zero, Nat.one_mul, ← hx, List.take_length]) (by omega) (.inr ⟨1, rfl, Nat.le_refl _⟩)
 rw [r2.src]
 rcases (g.mod0 m2).look with ⟨rfl, rfl, rfl, rfl⟩ | ⟨b, rfl, h1, h2, h3, h4, h5⟩
 ·refine ⟨_, _, _, fun β k => by simp only [appK, evApp]; rw [if_neg (by omega), if_pos ⟨by simpa using hb, by omega⟩], ?_, (m2.new _).of_nil, by simp⟩
  rw [List.nil_append]
  exact Grow.fresh (Nat.le_trans ha m2.next) (by rw [hx]; simp) (.inl rfl)
 ·rcases h5 with rfl | rfl
  ·refine ⟨_, _, _, fun β k => by simp only [appK, evApp]; rw [if_neg (by omega), if_pos ⟨trivial, hb, h63⟩, h3]; simp only [Nat.zero_add]; rw [if_pos ⟨h4.symm, hc⟩, List.drop_zero]; rfl, Grow.fresh (h := (h.new (.cells xs false)).kill b) (Nat.le_trans ha m2.next) (by rw [List.length_append, h4, hx, Nat.add_mul, Nat.one_mul]) (.inl rfl), (m2.of_nil.kill (.inr (by simp))).new _, by simp⟩
  ·refine ⟨_, _, _, fun β k => by simp only [appK, evApp]; rw [if_neg (show ¬ len + 1 ≤ len by omega), if_pos ⟨hb, h63⟩, h3]; simp only [Nat.zero_add]; rw [if_pos (Nat.le_of_eq h4.symm), List.drop_zero, ← h4, List.take_length], Grow.fresh (Nat.le_trans ha m2.next) (by rw [List.length_append, h4, hx, Nat.add_mul, Nat.one_mul]) (.inl rfl), (m2.new _).of_nil, by simp⟩
theorem Own.push {size bytes len : Nat} {cap : Cap} {vs : List AV} (o : Own a f c h) (hi : i < 12) (r : Arr f c i size len cap vs) {xs : List AV} (hx : xs.length = size) (hc : xs.all isCell = true) (h0 : 0 < size) (hb : (len + 1) * bytes ≤ 140737488355328) (h63 : len + 1 ≤ 9223372036854775807) :
  ∃ x cap' h', (∀ (β : Type) (k : Option (Nat × Nat) → Nat → Cap → H → Option β), appK size bytes (slP f i) len cap (evSrc size (.slice (some (h.next, 0)) 1 (.known 1)) (h.new (.cells xs false))) (h.new (.cells xs false)) k = k (some (x, 0)) (len + 1) cap' h') ∧
   h.next ≤ x ∧ Own a (up f i (some x)) (up c i (vs ++ xs)) h' ∧ Arr (up f i (some x)) (up c i (vs ++ xs)) i size (len + 1) cap' (vs ++ xs) ∧ Fr (foot f) h (foot (up f i (some x))) h' ∧ Mod (own (slP f i)) h h' := by
 obtain ⟨p', c', h', e, g, m, hn⟩ := (r.grow o).pushE (bytes := bytes) o.le hx hc h0 hb h63
 rcases g.look with ⟨_, h2, _⟩ | ⟨x, rfl, h1, h2, h3, h4, h5⟩
 ·omega
 ·obtain ⟨o', fr⟩ := o.put hi (hn x (by simp)) ⟨h2, h3⟩ m
  exact ⟨x, c', h', e, hn x (by simp), o', ⟨.inr ⟨x, up_self _ _ _, up_self _ _ _, h4, h5⟩⟩, fr, m⟩
end
end Go.Ev

/- The contract of strings.Join at this program: laid by the kit's shelf (lay-shelf, lay-plain). -/
namespace Go.Proofs
open Go.Shelf
def Tryd.lays156_ren : Go.Shelf.Ren := ⟨fun | 156 => 32 | 165 => 49 | 166 => 31 | 169 => 18 | 240 => 48 | 241 => 64 | 276 => 63 | 277 => 76 | n => n, fun | 31 => 36 | 9 => 9 | 3 => 3 | 4 => 4 | 0 => 0 | 20 => 20 | 72 => 51 | 76 => 85 | 70 => 48 | 37 => 49 | 75 => 84 | 127 => 93 | 164 => 121 | 5 => 5 | 80 => 39 | n => n, fun | n => n⟩
theorem Tryd.lays156 : Go.Proofs.Lays.n156 Tryd.prog Tryd.lays156_ren := {
 mixed := by kernel_rfl
 f156 := Tryd.func32.trans (congrArg some (by kernel_rfl))
 f165 := Tryd.func49.trans (congrArg some (by kernel_rfl))
 f166 := Tryd.func31.trans (congrArg some (by kernel_rfl))
 f169 := Tryd.func18.trans (congrArg some (by kernel_rfl))
 f240 := Tryd.func48.trans (congrArg some (by kernel_rfl))
 f241 := Tryd.func64.trans (congrArg some (by kernel_rfl))
 f276 := Tryd.func63.trans (congrArg some (by kernel_rfl))
 f277 := Tryd.func76.trans (congrArg some (by kernel_rfl))
 t0 := Tryd.underlying0
 a0 := Tryd.isAgg0
 z0 := Tryd.sizeOf0
 v0 := Tryd.zeroValue0
 t3 := Tryd.underlying3
 a3 := Tryd.isAgg3
 z3 := Tryd.sizeOf3
 v3 := Tryd.zeroValue3
 t4 := Tryd.underlying4
 a4 := Tryd.isAgg4
 z4 := Tryd.sizeOf4
 v4 := Tryd.zeroValue4
 t9 := Tryd.underlying9
 a9 := Tryd.isAgg9
 z9 := Tryd.sizeOf9
 v9 := Tryd.zeroValue9
 t20 := Tryd.underlying20
 a20 := Tryd.isAgg20
 z20 := Tryd.sizeOf20
 v20 := Tryd.zeroValue20
 t31 := Tryd.underlying36
 a31 := Tryd.isAgg36
 z31 := Tryd.sizeOf36
 v31 := Tryd.zeroValue36
 t37 := Tryd.underlying49
 a37 := Tryd.isAgg49
 z37 := Tryd.sizeOf49
 v37 := Tryd.zeroValue49
 t70 := Tryd.underlying48
 a70 := Tryd.isAgg48
 z70 := Tryd.sizeOf48
 v70 := Tryd.zeroValue48
 t72 := Tryd.underlying51
 a72 := Tryd.isAgg51
 z72 := Tryd.sizeOf51
 v72 := Tryd.zeroValue51
 t75 := Tryd.underlying84
 a75 := Tryd.isAgg84
 z75 := Tryd.sizeOf84
 v75 := Tryd.zeroValue84
 t76 := Tryd.underlying85
 a76 := Tryd.isAgg85
 z76 := Tryd.sizeOf85
 v76 := Tryd.zeroValue85
 t127 := Tryd.underlying93
 a127 := Tryd.isAgg93
 z127 := Tryd.sizeOf93
 v127 := Tryd.zeroValue93
 t164 := Tryd.underlying121
 a164 := Tryd.isAgg121
 z164 := Tryd.sizeOf121
 v164 := Tryd.zeroValue121 }
theorem Tryd.Builder_Extra_156 : Builder.Extra Tryd.prog Tryd.lays156_ren := {
 sizeBuilder := by kernel_rfl
 liesBuilder := by kernel_rfl
 t5 := Tryd.underlying5
 a5 := Tryd.isAgg5
 z5 := Tryd.sizeOf5
 v5 := Tryd.zeroValue5
 infoByte := by kernel_rfl
 cellsByte := by kernel_rfl
 sizeByte := by kernel_rfl
 neB5 := by decide }
open Go.RowKit in
theorem Tryd.strings_Join_none (a : Option Addr) (c : Nat) (sep : ByteArray) (w : World) :
  Calls Tryd.prog 32 #[.slice a 0 c, .string sep] w fun e w' => e = .returned (.string ⟨#[]⟩) ∧ w' = w := Any.strings_Join_none Tryd.lays156 Tryd.Builder_Extra_156 a c sep w
open Go.RowKit in
theorem Tryd.strings_Join (bk o c : Nat) (xs : List ByteArray) (sep : ByteArray) (w : World) (hcells : ∀ (j : Nat) x, xs[j]? = some x → w.cell? ⟨bk, o + j, none⟩ = some (.string x)) (hbk : bk < w.heap.size) (hN : xs.length ≤ 140737488355328) (hcap : xs.length ≤ c) (hlen : (Lib.join (xs.map (·.data.toList)) sep.data.toList).length ≤ 140737488355328) :
  Calls Tryd.prog 32 #[.slice (some ⟨bk, o, none⟩) xs.length c, .string sep] w fun e w' => e = .returned (.string ⟨(Lib.join (xs.map (·.data.toList)) sep.data.toList).toArray⟩) ∧ Below w.heap.size w w' := Any.strings_Join Tryd.lays156 Tryd.Builder_Extra_156 bk o c xs sep w hcells hbk hN hcap hlen
end Go.Proofs

/- The contract of strconv.Itoa at this program: laid by the kit's shelf (lay-shelf, lay-plain). -/
namespace Go.Proofs
open Go.Shelf
def Tryd.laysM171_ren : Go.Shelf.Ren := ⟨fun | 171 => 16 | 243 => 34 | 246 => 50 | 283 => 65 | 284 => 66 | 285 => 67 | 286 => 68 | 129 => 78 | 317 => 77 | 318 => 79 | 319 => 80 | 320 => 81 | 337 => 84 | 338 => 85 | n => n, fun | 3 => 3 | 9 => 9 | 2 => 2 | 4 => 4 | 171 => 123 | 0 => 0 | 53 => 124 | 37 => 49 | 5 => 5 | 173 => 127 | 212 => 136 | 51 => 137 | 20 => 20 | 213 => 138 | 46 => 88 | 232 => 143 | 233 => 144 | n => n, fun | 17 => 0 | 18 => 2 | 19 => 3 | n => n⟩
theorem Tryd.laysM171 : Go.Proofs.LaysM.n171 Tryd.prog Tryd.laysM171_ren := {
 mixed := by kernel_rfl
 f129 := Tryd.func78.trans (congrArg some (by kernel_rfl))
 f171 := Tryd.func16.trans (congrArg some (by kernel_rfl))
 f243 := Tryd.func34.trans (congrArg some (by kernel_rfl))
 f246 := Tryd.func50.trans (congrArg some (by kernel_rfl))
 f283 := Tryd.func65.trans (congrArg some (by kernel_rfl))
 f284 := Tryd.func66.trans (congrArg some (by kernel_rfl))
 f285 := Tryd.func67.trans (congrArg some (by kernel_rfl))
 f286 := Tryd.func68.trans (congrArg some (by kernel_rfl))
 f317 := Tryd.func77.trans (congrArg some (by kernel_rfl))
 f318 := Tryd.func79.trans (congrArg some (by kernel_rfl))
 f319 := Tryd.func80.trans (congrArg some (by kernel_rfl))
 f320 := Tryd.func81.trans (congrArg some (by kernel_rfl))
 f337 := Tryd.func84.trans (congrArg some (by kernel_rfl))
 f338 := Tryd.func85.trans (congrArg some (by kernel_rfl))
 t0 := Tryd.underlying0
 a0 := Tryd.isAgg0
 z0 := Tryd.sizeOf0
 v0 := Tryd.zeroValue0
 t2 := Tryd.underlying2
 a2 := Tryd.isAgg2
 z2 := Tryd.sizeOf2
 v2 := Tryd.zeroValue2
 t3 := Tryd.underlying3
 a3 := Tryd.isAgg3
 z3 := Tryd.sizeOf3
 v3 := Tryd.zeroValue3
 t4 := Tryd.underlying4
 a4 := Tryd.isAgg4
 z4 := Tryd.sizeOf4
 v4 := Tryd.zeroValue4
 t5 := Tryd.underlying5
 a5 := Tryd.isAgg5
 z5 := Tryd.sizeOf5
 v5 := Tryd.zeroValue5
 t9 := Tryd.underlying9
 a9 := Tryd.isAgg9
 z9 := Tryd.sizeOf9
 v9 := Tryd.zeroValue9
 t20 := Tryd.underlying20
 a20 := Tryd.isAgg20
 z20 := Tryd.sizeOf20
 v20 := Tryd.zeroValue20
 t37 := Tryd.underlying49
 a37 := Tryd.isAgg49
 z37 := Tryd.sizeOf49
 v37 := Tryd.zeroValue49
 t46 := Tryd.underlying88
 a46 := Tryd.isAgg88
 z46 := Tryd.sizeOf88
 v46 := Tryd.zeroValue88
 t51 := Tryd.underlying137
 a51 := Tryd.isAgg137
 z51 := Tryd.sizeOf137
 v51 := Tryd.zeroValue137
 t53 := Tryd.underlying124
 a53 := Tryd.isAgg124
 z53 := Tryd.sizeOf124
 v53 := Tryd.zeroValue124
 t171 := Tryd.underlying123
 a171 := Tryd.isAgg123
 z171 := Tryd.sizeOf123
 v171 := Tryd.zeroValue123
 t173 := Tryd.underlying127
 a173 := Tryd.isAgg127
 z173 := Tryd.sizeOf127
 v173 := Tryd.zeroValue127
 t212 := Tryd.underlying136
 a212 := Tryd.isAgg136
 z212 := Tryd.sizeOf136
 v212 := Tryd.zeroValue136
 t213 := Tryd.underlying138
 a213 := Tryd.isAgg138
 z213 := Tryd.sizeOf138
 t232 := Tryd.underlying143
 a232 := Tryd.isAgg143
 z232 := Tryd.sizeOf143
 v232 := Tryd.zeroValue143
 t233 := Tryd.underlying144
 a233 := Tryd.isAgg144
 z233 := Tryd.sizeOf144
 v233 := Tryd.zeroValue144
 g17 := by kernel_rfl
 g18 := by kernel_rfl
 g19 := by kernel_rfl
 i0 := by kernel_rfl
 i2 := by kernel_rfl
 i3 := by kernel_rfl
 i4 := by kernel_rfl
 i5 := by kernel_rfl
 i9 := by kernel_rfl
 i20 := by kernel_rfl
 i37 := by kernel_rfl
 i46 := by kernel_rfl
 i51 := by kernel_rfl
 i53 := by kernel_rfl
 i171 := by kernel_rfl
 i173 := by kernel_rfl
 i212 := by kernel_rfl
 i232 := by kernel_rfl
 i233 := by kernel_rfl
 m17 := by kernel_rfl
 m18 := by kernel_rfl
 m19 := by kernel_rfl }
open Go.RowKit Go.Sort Go.Lib in
theorem Tryd.strconv_Itoa (n : Int) (h0 : -9223372036854775808 ≤ n) (h1 : n ≤ 9223372036854775807) (w : World) (htab : Lib.TabIs Tryd.prog w "internal/strconv.uint64pow10" .u64 Lib.pow10Tab) :
  Calls Tryd.prog 16 #[.int .i64 n] w fun e w' => e = .returned (.string ⟨(Lib.itoa n).toArray⟩) ∧ ∃ k os, w' = grow (w.drewN k) os := Any.strconv_Itoa Tryd.laysM171 n h0 h1 w htab
end Go.Proofs

/- What the functions compute, printed by evprint.py. -/
set_option maxRecDepth 100000
set_option linter.all false
namespace Go.Ev.Tryd
open Go.Proofs
theorem mixed : Tryd.prog.follows .mixedOrders = true := by kernel_rfl
noncomputable def strconv_Itoa_16 (n : Nat) (a0 : Int) (h : H) : Option ((ByteArray) × H) := itoaF 0 a0 h
theorem strconv_Itoa_16_eq (n : Nat) (a0 : Int) (h : H) : strconv_Itoa_16 n a0 h = itoaF 0 a0 h := rfl
noncomputable def strconv_Itoa_16_E (n : Nat) : Entry Tryd.prog where
 id := 16
 run := fun args h k => lc args fun v1 l2 => asInt .i64 v1 fun x3 => l0 l2 ((strconv_Itoa_16 n x3 h).bind fun r => k (.str r.1) r.2)
 nat := by intro β args h k; simp only [lc_bind, l0_bind, asInt_bind, asBool_bind, asStr_bind, asPtr_bind, asSlice_bind, asMap_bind, asAgg_bind, asTup_bind, asFunc_bind, Option.bind_assoc, Option.bind_some]
 sound := by
  intro args h v h' e0
  obtain ⟨_, _, rfl, e1⟩ := lc_some e0
  obtain ⟨_, rfl, e2⟩ := asInt_some e1
  obtain ⟨rfl, e3⟩ := l0_some e2
  obtain ⟨r, hr, e4⟩ := Option.bind_eq_some_iff.1 e3
  cases e4
  exact itoaF_called (g := 0) Go.Proofs.Tryd.func16 (by kernel_rfl) (by kernel_rfl) (by kernel_rfl) (by kernel_rfl) Go.Proofs.Tryd.strconv_Itoa hr
noncomputable def strings_Builder_String_18 (n : Nat) (a0 : Option (Nat × Nat)) (h : H) : Option ((ByteArray) × H) := stF 53 5 a0 h
theorem strings_Builder_String_18_eq (n : Nat) (a0 : Option (Nat × Nat)) (h : H) : strings_Builder_String_18 n a0 h = stF 53 5 a0 h := rfl
noncomputable def strings_Builder_String_18_E (n : Nat) : Entry Tryd.prog where
 id := 18
 run := fun args h k => lc args fun v1 l2 => asPtr v1 fun x3 => l0 l2 ((strings_Builder_String_18 n x3 h).bind fun r => k (.str r.1) r.2)
 nat := by intro β args h k; simp only [lc_bind, l0_bind, asInt_bind, asBool_bind, asStr_bind, asPtr_bind, asSlice_bind, asMap_bind, asAgg_bind, asTup_bind, asFunc_bind, Option.bind_assoc, Option.bind_some]
 sound := by
  intro args h v h' e0
  obtain ⟨_, _, rfl, e1⟩ := lc_some e0
  obtain ⟨_, rfl, e2⟩ := asPtr_some e1
  obtain ⟨rfl, e3⟩ := l0_some e2
  obtain ⟨r, hr, e4⟩ := Option.bind_eq_some_iff.1 e3
  cases e4
  exact stF_called (T := 53) (ρ := Go.Proofs.Tryd.lays156_ren) ({ Go.Proofs.Tryd.lays156 with } : Go.Proofs.Lays.n169 Go.Proofs.Tryd.prog Go.Proofs.Tryd.lays156_ren) Go.Proofs.Tryd.Builder_Extra_156 Go.Proofs.Tryd.func18 (by kernel_rfl) (by kernel_rfl) hr
noncomputable def strings_Builder_WriteString_31 (n : Nat) (a0 : Option (Nat × Nat)) (a1 : ByteArray) (h : H) : Option ((Int × AV) × H) := (wsF 53 5 a0 a1 h).bind fun h2 => some ((Nat.cast a1.size, AV.junk), h2)
theorem strings_Builder_WriteString_31_eq (n : Nat) (a0 : Option (Nat × Nat)) (a1 : ByteArray) (h : H) : strings_Builder_WriteString_31 n a0 a1 h = (wsF 53 5 a0 a1 h).bind fun h2 => some ((Nat.cast a1.size, AV.junk), h2) := rfl
noncomputable def strings_Builder_WriteString_31_E (n : Nat) : Entry Tryd.prog where
 id := 31
 run := fun args h k => lc args fun v1 l2 => asPtr v1 fun x3 => lc l2 fun v4 l5 => asStr v4 fun x6 => l0 l5 ((strings_Builder_WriteString_31 n x3 x6 h).bind fun r => k (.tup [(.int .i64 r.1.1), r.1.2]) r.2)
 nat := by intro β args h k; simp only [lc_bind, l0_bind, asInt_bind, asBool_bind, asStr_bind, asPtr_bind, asSlice_bind, asMap_bind, asAgg_bind, asTup_bind, asFunc_bind, Option.bind_assoc, Option.bind_some]
 sound := by
  intro args h v h' e0
  obtain ⟨_, _, rfl, e1⟩ := lc_some e0
  obtain ⟨_, rfl, e2⟩ := asPtr_some e1
  obtain ⟨_, _, rfl, e3⟩ := lc_some e2
  obtain ⟨_, rfl, e4⟩ := asStr_some e3
  obtain ⟨rfl, e5⟩ := l0_some e4
  obtain ⟨r, hr, e6⟩ := Option.bind_eq_some_iff.1 e5
  cases e6
  obtain ⟨h2, e9, e10⟩ := Option.bind_eq_some_iff.1 hr
  cases e10
  exact wsF_called (T := 53) (ρ := Go.Proofs.Tryd.lays156_ren) ({ Go.Proofs.Tryd.lays156 with } : Go.Proofs.Lays.n166 Go.Proofs.Tryd.prog Go.Proofs.Tryd.lays156_ren) Go.Proofs.Tryd.Builder_Extra_156 (by kernel_rfl) (show (53 : Nat) ≠ 5 by decide) Go.Proofs.Tryd.func31 (by kernel_rfl) (by kernel_rfl) e9
noncomputable def strings_Join_32 (n : Nat) (a0_0 : Option (Nat × Nat)) (a0_1 : Nat) (a0_2 : Cap) (a1 : ByteArray) (h : H) : Option ((ByteArray) × H) := joinF a0_0 a0_1 a0_2 a1 h
theorem strings_Join_32_eq (n : Nat) (a0_0 : Option (Nat × Nat)) (a0_1 : Nat) (a0_2 : Cap) (a1 : ByteArray) (h : H) : strings_Join_32 n a0_0 a0_1 a0_2 a1 h = joinF a0_0 a0_1 a0_2 a1 h := rfl
noncomputable def strings_Join_32_E (n : Nat) : Entry Tryd.prog where
 id := 32
 run := fun args h k => lc args fun v1 l2 => asSlice v1 fun x3 n4 c5 => lc l2 fun v6 l7 => asStr v6 fun x8 => l0 l7 ((strings_Join_32 n x3 n4 c5 x8 h).bind fun r => k (.str r.1) r.2)
 nat := by intro β args h k; simp only [lc_bind, l0_bind, asInt_bind, asBool_bind, asStr_bind, asPtr_bind, asSlice_bind, asMap_bind, asAgg_bind, asTup_bind, asFunc_bind, Option.bind_assoc, Option.bind_some]
 sound := by
  intro args h v h' e0
  obtain ⟨_, _, rfl, e1⟩ := lc_some e0
  obtain ⟨_, _, _, rfl, e2⟩ := asSlice_some e1
  obtain ⟨_, _, rfl, e3⟩ := lc_some e2
  obtain ⟨_, rfl, e4⟩ := asStr_some e3
  obtain ⟨rfl, e5⟩ := l0_some e4
  obtain ⟨r, hr, e6⟩ := Option.bind_eq_some_iff.1 e5
  cases e6
  exact joinF_called Go.Proofs.Tryd.func32 (by kernel_rfl) (by kernel_rfl) Go.Proofs.Tryd.strings_Join_none Go.Proofs.Tryd.strings_Join hr
noncomputable def bytealg_CountString_92 (n : Nat) (a0 : ByteArray) (a1 : Int) (h : H) : Option ((Int) × H) := some (countF a0 a1, h)
theorem bytealg_CountString_92_eq (n : Nat) (a0 : ByteArray) (a1 : Int) (h : H) : bytealg_CountString_92 n a0 a1 h = some (countF a0 a1, h) := rfl
noncomputable def bytealg_CountString_92_E (n : Nat) : Entry Tryd.prog where
 id := 92
 run := fun args h k => lc args fun v1 l2 => asStr v1 fun x3 => lc l2 fun v4 l5 => asInt .u8 v4 fun x6 => l0 l5 ((bytealg_CountString_92 n x3 x6 h).bind fun r => k (.int .i64 r.1) r.2)
 nat := by intro β args h k; simp only [lc_bind, l0_bind, asInt_bind, asBool_bind, asStr_bind, asPtr_bind, asSlice_bind, asMap_bind, asAgg_bind, asTup_bind, asFunc_bind, Option.bind_assoc, Option.bind_some]
 sound := by
  intro args h v h' e0
  obtain ⟨_, _, rfl, e1⟩ := lc_some e0
  obtain ⟨_, rfl, e2⟩ := asStr_some e1
  obtain ⟨_, _, rfl, e3⟩ := lc_some e2
  obtain ⟨_, rfl, e4⟩ := asInt_some e3
  obtain ⟨rfl, e5⟩ := l0_some e4
  obtain ⟨r, hr, e6⟩ := Option.bind_eq_some_iff.1 e5
  cases e6
  exact countF_called Go.Proofs.Tryd.func92 (by kernel_rfl) (by kernel_rfl) (by kernel_rfl) (by kernel_rfl) hr
noncomputable def bytealg_IndexByteString_99 (n : Nat) (a0 : ByteArray) (a1 : Int) (h : H) : Option ((Int) × H) := some (indexF a0 a1, h)
theorem bytealg_IndexByteString_99_eq (n : Nat) (a0 : ByteArray) (a1 : Int) (h : H) : bytealg_IndexByteString_99 n a0 a1 h = some (indexF a0 a1, h) := rfl
noncomputable def bytealg_IndexByteString_99_E (n : Nat) : Entry Tryd.prog where
 id := 99
 run := fun args h k => lc args fun v1 l2 => asStr v1 fun x3 => lc l2 fun v4 l5 => asInt .u8 v4 fun x6 => l0 l5 ((bytealg_IndexByteString_99 n x3 x6 h).bind fun r => k (.int .i64 r.1) r.2)
 nat := by intro β args h k; simp only [lc_bind, l0_bind, asInt_bind, asBool_bind, asStr_bind, asPtr_bind, asSlice_bind, asMap_bind, asAgg_bind, asTup_bind, asFunc_bind, Option.bind_assoc, Option.bind_some]
 sound := by
  intro args h v h' e0
  obtain ⟨_, _, rfl, e1⟩ := lc_some e0
  obtain ⟨_, rfl, e2⟩ := asStr_some e1
  obtain ⟨_, _, rfl, e3⟩ := lc_some e2
  obtain ⟨_, rfl, e4⟩ := asInt_some e3
  obtain ⟨rfl, e5⟩ := l0_some e4
  obtain ⟨r, hr, e6⟩ := Option.bind_eq_some_iff.1 e5
  cases e6
  exact indexF_called Go.Proofs.Tryd.func99 (by kernel_rfl) (by kernel_rfl) (by kernel_rfl) (by kernel_rfl) hr
end Go.Ev.Tryd

/- What the functions compute, printed by evprint2.py. -/
set_option maxRecDepth 100000
set_option linter.all false
namespace Go.Ev.Tryd
open Go.Proofs
def s_453d3d97 : Bs := ⟨#[110, 111, 100, 101, 32, 123, 10, 109, 97, 99, 32, 48, 50, 58, 48, 48, 58, 48, 48, 58, 48, 48, 58, 48, 48, 58, 48, 49, 10, 97, 100, 100, 114, 101, 115, 115, 32, 49, 48, 46, 48, 46, 48, 46, 49, 10, 112, 101, 101, 114, 32, 49, 48, 46, 48, 46, 48, 46, 50, 10, 125, 10, 118, 114, 114, 112, 32, 123, 10, 105, 100, 32, 55, 10, 112, 114, 105, 111, 114, 105, 116, 121, 32, 49, 48, 48, 10, 101, 118, 101, 114, 121, 32, 49, 48, 48, 10, 118, 105, 112, 32, 49, 48, 46, 48, 46, 48, 46, 49, 48, 48, 10, 125, 10]⟩
def s_4c04dcf2 : Bs := ⟨#[112, 114, 105, 111, 114, 105, 116, 121, 32]⟩
def s_68c4f033 : Bs := ⟨#[48, 49, 50, 51, 52, 53, 54, 55, 56, 57, 97, 98, 99, 100, 101, 102]⟩
def s_fdb5537d : Bs := ⟨#[48, 49, 50, 51, 52, 53, 54, 55, 56, 57, 97, 98, 99, 100, 101, 102, 103, 104, 105, 106, 107, 108, 109, 110, 111, 112, 113, 114, 115, 116, 117, 118, 119, 120, 121, 122]⟩
def i_outriderlaw18_ConfigNeeds : Nat := 4
def i_outriderlaw18_alive : Nat := 6
def i_config_Parse : Nat := 7
def i_config_Print : Nat := 8
def i_outriderlaw18_sample : Nat := 9
def i_words_All : Nat := 10
def i_config_parser_all : Nat := 11
def i_config_writer_say : Nat := 12
def i_words_CardText : Nat := 13
def i_words_AddressText : Nat := 14
def i_config_writer_count : Nat := 15
def i_strconv_Itoa : Nat := 16
def i_config_writer_service : Nat := 17
def i_strings_Builder_String : Nat := 18
def i_words_reader_end : Nat := 19
def i_words_reader_stop : Nat := 20
def i_words_may : Nat := 21
def i_words_reader_take : Nat := 22
def i_config_once : Nat := 23
def i_config_parser_node : Nat := 24
def i_config_parser_vrrp : Nat := 25
def i_config_parser_service : Nat := 26
def i_config_parser_place : Nat := 27
def i_config_parser_peek : Nat := 28
def i_config_parser_fail : Nat := 29
def i_api_Addr : Nat := 30
def i_strings_Builder_WriteString : Nat := 31
def i_strings_Join : Nat := 32
def i_strconv_FormatInt : Nat := 33
def i_config_pick : Nat := 35
def i_config_parser_block : Nat := 36
def i_config_parser_card : Nat := 37
def i_config_parser_address : Nat := 38
def i_config_into : Nat := 39
def i_config_parser_number : Nat := 40
def i_config_parser_choice : Nat := 41
def i_config_parser_vip : Nat := 42
def i_config_parser_track : Nat := 43
def i_config_parser_named : Nat := 44
def i_config_parser_service_1 : Nat := 45
def i_config_parser_backend : Nat := 46
def i_api_Addr_2 : Nat := 47
def i_strconv_FormatInt_2 : Nat := 50
def i_config_parser_must : Nat := 51
def i_config_parser_card_1 : Nat := 52
def i_config_parser_value : Nat := 53
def i_words_Card : Nat := 54
def i_config_parser_address_1 : Nat := 55
def i_words_Address : Nat := 56
def i_config_into_1 : Nat := 57
def i_config_parser_number_1 : Nat := 58
def i_words_Number : Nat := 59
def i_config_parser_choice_1 : Nat := 60
def i_strings_CutPrefix : Nat := 61
def i_slices_Contains_string_string : Nat := 62
def i_strconv_formatBits : Nat := 68
def i_words_groups : Nat := 69
def i_words_Card_1 : Nat := 70
def i_words_hex : Nat := 71
def i_words_Address_1 : Nat := 72
def i_words_Address_2 : Nat := 73
def i_stringslite_CutPrefix : Nat := 74
def i_slices_Index_string_string : Nat := 75
def i_strconv_isPowerOfTwo : Nat := 80
def i_bits_TrailingZeros : Nat := 81
def i_strings_Split : Nat := 82
def i_stringslite_HasPrefix : Nat := 83
def i_bits_TrailingZeros64 : Nat := 85
def i_strings_genSplit : Nat := 86
def i_strings_explode : Nat := 87
def i_strings_Count : Nat := 88
def i_strings_Index : Nat := 89
def i_utf8_RuneCountInString : Nat := 90
def i_bytealg_CountString : Nat := 92
def i_stringslite_Index : Nat := 93
def i_stringslite_IndexByte : Nat := 95
def i_bytealg_IndexByteString : Nat := 99
noncomputable def e_outriderlaw18_ConfigSpaced : FEnt Tryd.prog := ⟨3, Tryd.f3, [(13, [0, 1, 21]), (7475, [0, 1, 24, 25, 37])], [(58, [0, 1, 24, 25]), (250, [0, 1, 6, 41, 42])], Go.Proofs.Tryd.func3, by kernel_rfl, by kernel_rfl⟩
noncomputable def e_outriderlaw18_ConfigNeeds : FEnt Tryd.prog := ⟨4, Tryd.f4, [(16353, [8, 9, 10, 11, 73]), (65505, [10, 11, 12, 86])], [(2044, [8, 9, 10, 11]), (8188, [10, 11, 12])], Go.Proofs.Tryd.func4, by kernel_rfl, by kernel_rfl⟩
noncomputable def e_outriderlaw18_ConfigTwice : FEnt Tryd.prog := ⟨5, Tryd.f5, [], [], Go.Proofs.Tryd.func5, by kernel_rfl, by kernel_rfl⟩
noncomputable def e_outriderlaw18_alive : FEnt Tryd.prog := ⟨6, Tryd.f6, [], [], Go.Proofs.Tryd.func6, by kernel_rfl, by kernel_rfl⟩
noncomputable def e_config_Parse : FEnt Tryd.prog := ⟨7, Tryd.f7, [], [], Go.Proofs.Tryd.func7, by kernel_rfl, by kernel_rfl⟩
noncomputable def e_config_Print : FEnt Tryd.prog := ⟨8, Tryd.f8, [(16383, [1, 3, 4])], [(262138, [1, 3, 59, 60, 61]), (524282, [1, 3, 72, 73, 74]), (2097146, [3, 91, 92, 93])], Go.Proofs.Tryd.func8, by kernel_rfl, by kernel_rfl⟩
noncomputable def e_outriderlaw18_sample : FEnt Tryd.prog := ⟨9, Tryd.f9, [], [], Go.Proofs.Tryd.func9, by kernel_rfl, by kernel_rfl⟩
noncomputable def e_words_All : FEnt Tryd.prog := ⟨10, Tryd.f10, [(119607, [0, 5, 6, 7, 13, 14, 34])], [(58, [0, 5, 13, 14])], Go.Proofs.Tryd.func10, by kernel_rfl, by kernel_rfl⟩
noncomputable def e_config_parser_all : FEnt Tryd.prog := ⟨11, Tryd.f11, [(125, [0, 98]), (61799, [0, 3, 4, 5, 6, 7, 51]), (130355, [0, 12, 133, 134, 135, 151])], [(60, [0, 3, 4]), (506, [0, 109, 110, 111]), (1018, [0, 133, 134, 135])], Go.Proofs.Tryd.func11, by kernel_rfl, by kernel_rfl⟩
noncomputable def e_config_writer_say : FEnt Tryd.prog := ⟨12, Tryd.f12, [], [], Go.Proofs.Tryd.func12, by kernel_rfl, by kernel_rfl⟩
noncomputable def e_words_CardText : FEnt Tryd.prog := ⟨13, Tryd.f13, [], [(58, [3, 6, 7])], Go.Proofs.Tryd.func13, by kernel_rfl, by kernel_rfl⟩
noncomputable def e_words_AddressText : FEnt Tryd.prog := ⟨14, Tryd.f14, [], [(1874, [3, 12, 13, 14]), (7538, [0, 3, 6])], Go.Proofs.Tryd.func14, by kernel_rfl, by kernel_rfl⟩
noncomputable def e_config_writer_count : FEnt Tryd.prog := ⟨15, Tryd.f15, [], [], Go.Proofs.Tryd.func15, by kernel_rfl, by kernel_rfl⟩
noncomputable def e_config_writer_service : FEnt Tryd.prog := ⟨17, Tryd.f17, [(31, [0, 3, 4]), (67103135, [0, 6, 56, 57, 58])], [(65530, [0, 56, 57, 58])], Go.Proofs.Tryd.func17, by kernel_rfl, by kernel_rfl⟩
noncomputable def e_words_reader_end : FEnt Tryd.prog := ⟨19, Tryd.f19, [], [], Go.Proofs.Tryd.func19, by kernel_rfl, by kernel_rfl⟩
noncomputable def e_words_reader_stop : FEnt Tryd.prog := ⟨20, Tryd.f20, [(3, [0])], [], Go.Proofs.Tryd.func20, by kernel_rfl, by kernel_rfl⟩
noncomputable def e_words_may : FEnt Tryd.prog := ⟨21, Tryd.f21, [], [], Go.Proofs.Tryd.func21, by kernel_rfl, by kernel_rfl⟩
noncomputable def e_words_reader_take : FEnt Tryd.prog := ⟨22, Tryd.f22, [(3711, [0, 1, 2, 7, 31]), (14847, [0, 2, 7, 45])], [], Go.Proofs.Tryd.func22, by kernel_rfl, by kernel_rfl⟩
noncomputable def e_config_once : FEnt Tryd.prog := ⟨23, Tryd.f23, [], [], Go.Proofs.Tryd.func23, by kernel_rfl, by kernel_rfl⟩
noncomputable def e_config_parser_node : FEnt Tryd.prog := ⟨24, Tryd.f24, [], [], Go.Proofs.Tryd.func24, by kernel_rfl, by kernel_rfl⟩
noncomputable def e_config_parser_vrrp : FEnt Tryd.prog := ⟨25, Tryd.f25, [], [], Go.Proofs.Tryd.func25, by kernel_rfl, by kernel_rfl⟩
noncomputable def e_config_parser_service : FEnt Tryd.prog := ⟨26, Tryd.f26, [], [(58, [1, 3, 14, 15, 16])], Go.Proofs.Tryd.func26, by kernel_rfl, by kernel_rfl⟩
noncomputable def e_config_parser_place : FEnt Tryd.prog := ⟨27, Tryd.f27, [], [], Go.Proofs.Tryd.func27, by kernel_rfl, by kernel_rfl⟩
noncomputable def e_config_parser_peek : FEnt Tryd.prog := ⟨28, Tryd.f28, [], [], Go.Proofs.Tryd.func28, by kernel_rfl, by kernel_rfl⟩
noncomputable def e_config_parser_fail : FEnt Tryd.prog := ⟨29, Tryd.f29, [], [], Go.Proofs.Tryd.func29, by kernel_rfl, by kernel_rfl⟩
noncomputable def e_api_Addr : FEnt Tryd.prog := ⟨30, Tryd.f30, [], [], Go.Proofs.Tryd.func30, by kernel_rfl, by kernel_rfl⟩
noncomputable def e_strconv_FormatInt : FEnt Tryd.prog := ⟨33, Tryd.f33, [], [], Go.Proofs.Tryd.func33, by kernel_rfl, by kernel_rfl⟩
noncomputable def e_config_pick : FEnt Tryd.prog := ⟨35, Tryd.f35, [(13, [0, 1, 12])], [], Go.Proofs.Tryd.func35, by kernel_rfl, by kernel_rfl⟩
noncomputable def e_config_parser_block : FEnt Tryd.prog := ⟨36, Tryd.f36, [(25, [0, 1, 19]), (56987, [0, 5, 81, 94]), (450975, [0, 1, 5, 6, 7, 8, 40])], [(220, [0, 1, 5]), (890, [0, 5, 81])], Go.Proofs.Tryd.func36, by kernel_rfl, by kernel_rfl⟩
noncomputable def e_config_parser_card : FEnt Tryd.prog := ⟨37, Tryd.f37, [], [], Go.Proofs.Tryd.func37, by kernel_rfl, by kernel_rfl⟩
noncomputable def e_config_parser_address : FEnt Tryd.prog := ⟨38, Tryd.f38, [], [], Go.Proofs.Tryd.func38, by kernel_rfl, by kernel_rfl⟩
noncomputable def e_config_into : FEnt Tryd.prog := ⟨39, Tryd.f39, [], [], Go.Proofs.Tryd.func39, by kernel_rfl, by kernel_rfl⟩
noncomputable def e_config_parser_number : FEnt Tryd.prog := ⟨40, Tryd.f40, [], [], Go.Proofs.Tryd.func40, by kernel_rfl, by kernel_rfl⟩
noncomputable def e_config_parser_choice : FEnt Tryd.prog := ⟨41, Tryd.f41, [], [], Go.Proofs.Tryd.func41, by kernel_rfl, by kernel_rfl⟩
noncomputable def e_config_parser_vip : FEnt Tryd.prog := ⟨42, Tryd.f42, [], [], Go.Proofs.Tryd.func42, by kernel_rfl, by kernel_rfl⟩
noncomputable def e_config_parser_track : FEnt Tryd.prog := ⟨43, Tryd.f43, [(4093, [0, 6, 9, 11, 12, 65]), (4095, [0, 6, 12])], [(58, [0, 3, 18, 19, 20])], Go.Proofs.Tryd.func43, by kernel_rfl, by kernel_rfl⟩
noncomputable def e_config_parser_named : FEnt Tryd.prog := ⟨44, Tryd.f44, [], [], Go.Proofs.Tryd.func44, by kernel_rfl, by kernel_rfl⟩
noncomputable def e_config_parser_service_1 : FEnt Tryd.prog := ⟨45, Tryd.f45, [], [], Go.Proofs.Tryd.func45, by kernel_rfl, by kernel_rfl⟩
noncomputable def e_config_parser_backend : FEnt Tryd.prog := ⟨46, Tryd.f46, [], [(58, [0, 1, 5, 15, 16, 17])], Go.Proofs.Tryd.func46, by kernel_rfl, by kernel_rfl⟩
noncomputable def e_api_Addr_2 : FEnt Tryd.prog := ⟨47, Tryd.f47, [], [(26, [0, 1, 7, 8])], Go.Proofs.Tryd.func47, by kernel_rfl, by kernel_rfl⟩
noncomputable def e_strconv_FormatInt_2 : FEnt Tryd.prog := ⟨50, Tryd.f50, [(105, [0, 17]), (431, [0, 5, 6])], [], Go.Proofs.Tryd.func50, by kernel_rfl, by kernel_rfl⟩
noncomputable def e_config_parser_must : FEnt Tryd.prog := ⟨51, Tryd.f51, [], [], Go.Proofs.Tryd.func51, by kernel_rfl, by kernel_rfl⟩
noncomputable def e_config_parser_card_1 : FEnt Tryd.prog := ⟨52, Tryd.f52, [], [], Go.Proofs.Tryd.func52, by kernel_rfl, by kernel_rfl⟩
noncomputable def e_config_parser_value : FEnt Tryd.prog := ⟨53, Tryd.f53, [(29, [0, 5, 6, 24])], [], Go.Proofs.Tryd.func53, by kernel_rfl, by kernel_rfl⟩
noncomputable def e_words_Card : FEnt Tryd.prog := ⟨54, Tryd.f54, [(29, [2, 4, 17])], [], Go.Proofs.Tryd.func54, by kernel_rfl, by kernel_rfl⟩
noncomputable def e_config_parser_address_1 : FEnt Tryd.prog := ⟨55, Tryd.f55, [], [], Go.Proofs.Tryd.func55, by kernel_rfl, by kernel_rfl⟩
noncomputable def e_words_Address : FEnt Tryd.prog := ⟨56, Tryd.f56, [(29, [0, 4, 17]), (125, [6, 30])], [], Go.Proofs.Tryd.func56, by kernel_rfl, by kernel_rfl⟩
noncomputable def e_config_into_1 : FEnt Tryd.prog := ⟨57, Tryd.f57, [], [], Go.Proofs.Tryd.func57, by kernel_rfl, by kernel_rfl⟩
noncomputable def e_config_parser_number_1 : FEnt Tryd.prog := ⟨58, Tryd.f58, [(487, [0, 3, 6, 8, 24])], [], Go.Proofs.Tryd.func58, by kernel_rfl, by kernel_rfl⟩
noncomputable def e_words_Number : FEnt Tryd.prog := ⟨59, Tryd.f59, [(13, [0, 22]), (15669, [4, 6, 24, 33])], [(122, [4, 24])], Go.Proofs.Tryd.func59, by kernel_rfl, by kernel_rfl⟩
noncomputable def e_config_parser_choice_1 : FEnt Tryd.prog := ⟨60, Tryd.f60, [], [], Go.Proofs.Tryd.func60, by kernel_rfl, by kernel_rfl⟩
noncomputable def e_strings_CutPrefix : FEnt Tryd.prog := ⟨61, Tryd.f61, [], [], Go.Proofs.Tryd.func61, by kernel_rfl, by kernel_rfl⟩
noncomputable def e_slices_Contains_string_string : FEnt Tryd.prog := ⟨62, Tryd.f62, [], [], Go.Proofs.Tryd.func62, by kernel_rfl, by kernel_rfl⟩
noncomputable def e_strconv_small : FEnt Tryd.prog := ⟨65, Tryd.f65, [], [], Go.Proofs.Tryd.func65, by kernel_rfl, by kernel_rfl⟩
noncomputable def e_strconv_numDigits : FEnt Tryd.prog := ⟨66, Tryd.f66, [], [], Go.Proofs.Tryd.func66, by kernel_rfl, by kernel_rfl⟩
noncomputable def e_strconv_formatBase10 : FEnt Tryd.prog := ⟨67, Tryd.f67, [(31, [0, 4, 12]), (63, [0, 4, 12])], [(12, [0, 1, 4])], Go.Proofs.Tryd.func67, by kernel_rfl, by kernel_rfl⟩
noncomputable def e_strconv_formatBits : FEnt Tryd.prog := ⟨68, Tryd.f68, [(7, [0, 1, 2, 3, 4, 10, 11]), (13, [0, 1, 2, 3, 4, 10, 11, 28]), (63, [0, 1, 2, 3, 4, 10, 11, 12, 13]), (127, [0, 3, 4, 10, 11, 12, 13]), (255, [0, 4, 10, 11, 12, 13])], [(4060, [0, 1, 3, 4, 10, 11, 12, 13, 17]), (16220, [0, 1, 3, 4, 10, 11, 12, 13, 14, 15, 16])], Go.Proofs.Tryd.func68, by kernel_rfl, by kernel_rfl⟩
noncomputable def e_words_groups : FEnt Tryd.prog := ⟨69, Tryd.f69, [], [(58, [2, 3, 10, 18, 19, 20]), (59806, [2, 3, 10, 13, 15, 18, 19, 20])], Go.Proofs.Tryd.func69, by kernel_rfl, by kernel_rfl⟩
noncomputable def e_words_Card_1 : FEnt Tryd.prog := ⟨70, Tryd.f70, [], [], Go.Proofs.Tryd.func70, by kernel_rfl, by kernel_rfl⟩
noncomputable def e_words_hex : FEnt Tryd.prog := ⟨71, Tryd.f71, [(3739, [0, 1, 2, 8, 12]), (14953, [0, 1, 2, 8, 10, 12, 16]), (59815, [0, 1, 2, 8, 10, 12, 29])], [(58, [0, 1, 2, 8, 12])], Go.Proofs.Tryd.func71, by kernel_rfl, by kernel_rfl⟩
noncomputable def e_words_Address_1 : FEnt Tryd.prog := ⟨72, Tryd.f72, [], [], Go.Proofs.Tryd.func72, by kernel_rfl, by kernel_rfl⟩
noncomputable def e_words_Address_2 : FEnt Tryd.prog := ⟨73, Tryd.f73, [], [], Go.Proofs.Tryd.func73, by kernel_rfl, by kernel_rfl⟩
noncomputable def e_stringslite_CutPrefix : FEnt Tryd.prog := ⟨74, Tryd.f74, [], [], Go.Proofs.Tryd.func74, by kernel_rfl, by kernel_rfl⟩
noncomputable def e_slices_Index_string_string : FEnt Tryd.prog := ⟨75, Tryd.f75, [], [(26, [0, 1, 7, 8])], Go.Proofs.Tryd.func75, by kernel_rfl, by kernel_rfl⟩
noncomputable def e_strconv_log10Pow2 : FEnt Tryd.prog := ⟨77, Tryd.f77, [], [], Go.Proofs.Tryd.func77, by kernel_rfl, by kernel_rfl⟩
noncomputable def e_bits_Len64 : FEnt Tryd.prog := ⟨78, Tryd.f78, [(7, [0, 2]), (15, [0, 2]), (31, [0, 2])], [], Go.Proofs.Tryd.func78, by kernel_rfl, by kernel_rfl⟩
noncomputable def e_strconv_bool2_int : FEnt Tryd.prog := ⟨79, Tryd.f79, [], [], Go.Proofs.Tryd.func79, by kernel_rfl, by kernel_rfl⟩
noncomputable def e_strconv_isPowerOfTwo : FEnt Tryd.prog := ⟨80, Tryd.f80, [], [], Go.Proofs.Tryd.func80, by kernel_rfl, by kernel_rfl⟩
noncomputable def e_bits_TrailingZeros : FEnt Tryd.prog := ⟨81, Tryd.f81, [], [], Go.Proofs.Tryd.func81, by kernel_rfl, by kernel_rfl⟩
noncomputable def e_strings_Split : FEnt Tryd.prog := ⟨82, Tryd.f82, [], [], Go.Proofs.Tryd.func82, by kernel_rfl, by kernel_rfl⟩
noncomputable def e_stringslite_HasPrefix : FEnt Tryd.prog := ⟨83, Tryd.f83, [], [], Go.Proofs.Tryd.func83, by kernel_rfl, by kernel_rfl⟩
noncomputable def e_bits_TrailingZeros32 : FEnt Tryd.prog := ⟨84, Tryd.f84, [], [], Go.Proofs.Tryd.func84, by kernel_rfl, by kernel_rfl⟩
noncomputable def e_bits_TrailingZeros64 : FEnt Tryd.prog := ⟨85, Tryd.f85, [], [], Go.Proofs.Tryd.func85, by kernel_rfl, by kernel_rfl⟩
noncomputable def e_strings_genSplit : FEnt Tryd.prog := ⟨86, Tryd.f86, [(31, [0, 1, 2, 3]), (1023, [0, 9, 10])], [(2044, [0, 1, 2, 3, 9, 10])], Go.Proofs.Tryd.func86, by kernel_rfl, by kernel_rfl⟩
noncomputable def e_strings_explode : FEnt Tryd.prog := ⟨87, Tryd.f87, [(15, [0, 1]), (29, [0, 1, 5, 18])], [(250, [0, 1, 6, 7])], Go.Proofs.Tryd.func87, by kernel_rfl, by kernel_rfl⟩
noncomputable def e_strings_Count : FEnt Tryd.prog := ⟨88, Tryd.f88, [], [(62, [0, 1, 5])], Go.Proofs.Tryd.func88, by kernel_rfl, by kernel_rfl⟩
noncomputable def e_strings_Index : FEnt Tryd.prog := ⟨89, Tryd.f89, [], [], Go.Proofs.Tryd.func89, by kernel_rfl, by kernel_rfl⟩
noncomputable def e_utf8_RuneCountInString : FEnt Tryd.prog := ⟨90, Tryd.f90, [], [(26, [2, 4])], Go.Proofs.Tryd.func90, by kernel_rfl, by kernel_rfl⟩
noncomputable def e_utf8_DecodeRuneInString : FEnt Tryd.prog := ⟨91, Tryd.f91, [(13, [0, 10])], [], Go.Proofs.Tryd.func91, by kernel_rfl, by kernel_rfl⟩
noncomputable def e_stringslite_Index : FEnt Tryd.prog := ⟨93, Tryd.f93, [(57, [0, 1, 5, 16]), (3711, [0, 1, 5, 36]), (32709, [0, 1, 5, 6, 7, 8, 9, 10]), (130837, [0, 1, 5, 6, 7, 8, 9, 10, 93]), (523359, [0, 1, 5, 6, 7, 8, 9, 10, 107]), (2093439, [0, 1, 5, 6, 7, 8, 9, 10, 132])], [(2044, [0, 1, 5, 6, 7, 8, 9, 10])], Go.Proofs.Tryd.func93, by kernel_rfl, by kernel_rfl⟩
noncomputable def e_utf8_decodeRuneInStringSlow : FEnt Tryd.prog := ⟨94, Tryd.f94, [(8189, [0, 5, 8, 10, 57]), (65533, [0, 5, 8, 10, 11, 75]), (524285, [5, 10, 11, 12, 98])], [], Go.Proofs.Tryd.func94, by kernel_rfl, by kernel_rfl⟩
noncomputable def e_stringslite_IndexByte : FEnt Tryd.prog := ⟨95, Tryd.f95, [], [], Go.Proofs.Tryd.func95, by kernel_rfl, by kernel_rfl⟩
noncomputable def e_bytealg_Cutover : FEnt Tryd.prog := ⟨97, Tryd.f97, [], [], Go.Proofs.Tryd.func97, by kernel_rfl, by kernel_rfl⟩
noncomputable def e_bytealg_IndexRabinKarp_string : FEnt Tryd.prog := ⟨98, Tryd.f98, [(253, [0, 1, 5, 6, 7, 8, 39]), (260703, [0, 1, 5, 6, 7, 8, 10, 77])], [(250, [0, 1, 5, 6, 7, 8, 9]), (1018, [0, 1, 5, 6, 7, 8, 10])], Go.Proofs.Tryd.func98, by kernel_rfl, by kernel_rfl⟩
noncomputable def e_bytealg_hashStr_string : FEnt Tryd.prog := ⟨100, Tryd.f100, [], [(58, [0, 4, 5]), (250, [4, 6, 7, 8])], Go.Proofs.Tryd.func100, by kernel_rfl, by kernel_rfl⟩
noncomputable def T : TabR Tryd.prog := ⟨⟨[e_config_Print, e_outriderlaw18_sample, e_words_All, e_config_writer_say, e_words_CardText, e_words_AddressText, e_config_writer_count, e_config_writer_service, e_words_reader_end, e_words_reader_stop, e_words_may, e_words_reader_take, e_config_once, e_config_parser_place, e_config_parser_peek, e_config_parser_fail, e_api_Addr, e_strconv_FormatInt, e_config_pick, e_config_parser_card, e_config_parser_address, e_config_into, e_config_parser_number, e_config_parser_choice, e_config_parser_vip, e_config_parser_track, e_config_parser_named, e_api_Addr_2, e_strconv_FormatInt_2, e_config_parser_must, e_config_parser_card_1, e_config_parser_value, e_words_Card, e_config_parser_address_1, e_words_Address, e_config_into_1, e_config_parser_number_1, e_words_Number, e_config_parser_choice_1, e_strings_CutPrefix, e_slices_Contains_string_string, e_strconv_small, e_strconv_numDigits, e_strconv_formatBase10, e_strconv_formatBits, e_words_groups, e_words_Card_1, e_words_hex, e_words_Address_1, e_words_Address_2, e_stringslite_CutPrefix, e_slices_Index_string_string, e_strconv_log10Pow2, e_bits_Len64, e_strconv_bool2_int, e_strconv_isPowerOfTwo, e_bits_TrailingZeros, e_strings_Split, e_stringslite_HasPrefix, e_bits_TrailingZeros32, e_bits_TrailingZeros64, e_strings_genSplit, e_strings_explode, e_strings_Count, e_strings_Index, e_utf8_RuneCountInString, e_utf8_DecodeRuneInString, e_stringslite_Index, e_utf8_decodeRuneInStringSlow, e_stringslite_IndexByte, e_bytealg_Cutover, e_bytealg_IndexRabinKarp_string, e_bytealg_hashStr_string], (fun n => tableOf [strconv_Itoa_16_E n, strings_Builder_String_18_E n, strings_Builder_WriteString_31_E n, strings_Join_32_E n, bytealg_CountString_92_E n, bytealg_IndexByteString_99_E n]), (fun n => tableOf_sound _), [(3, [4]), (4, [4]), (5, [4]), (6, [4]), (7, [30, 3, 31]), (8, [9]), (9, [9]), (10, [40, 3, 31]), (11, [4]), (12, []), (13, [9]), (14, [9]), (15, []), (16, [9]), (17, []), (18, [9]), (19, [4]), (20, []), (21, [4]), (22, [4]), (23, [73]), (24, [4]), (25, [4]), (26, [4]), (27, [3]), (28, [9]), (29, [4]), (30, [4]), (31, [3, 84]), (32, [9]), (33, [9]), (35, [9]), (36, [4]), (37, [22]), (38, [22]), (39, [100]), (40, [22]), (41, [22]), (42, [4]), (43, [4]), (44, [9, 4]), (45, [4]), (46, [4]), (47, [3]), (50, [9]), (51, [4]), (52, [4]), (53, [9, 3, 4]), (54, [24, 4]), (55, [4]), (56, [25, 4]), (57, [4]), (58, [4]), (59, [3, 4]), (60, [4]), (61, [9, 4]), (62, [4]), (65, [9]), (66, [3]), (67, []), (68, [49, 9]), (69, [49, 4]), (70, [3, 4]), (71, [3, 4]), (72, [3, 4]), (73, [3, 4]), (74, [9, 4]), (75, [3]), (77, [3]), (78, [3]), (79, [3]), (80, [4]), (81, [3]), (82, [36]), (83, [4]), (84, [3]), (85, [3]), (86, [36]), (87, [36]), (88, [3]), (89, [3]), (90, [3]), (91, [21, 3]), (92, [3]), (93, [3]), (94, [21, 3]), (95, [3]), (96, [3]), (97, [3]), (98, [3]), (99, [3]), (100, [137, 137])]⟩, [e_outriderlaw18_ConfigSpaced, e_outriderlaw18_ConfigNeeds, e_outriderlaw18_ConfigTwice, e_outriderlaw18_alive, e_config_Parse, e_config_parser_all, e_config_parser_node, e_config_parser_vrrp, e_config_parser_service, e_config_parser_block, e_config_parser_service_1, e_config_parser_backend]⟩
noncomputable abbrev cr : Nat → CallR := callR T
abbrev KK := AV → H → Option Unit
noncomputable abbrev ca : Nat → CallFn := callF T.toTab
abbrev R := Option (AV × H)
end Go.Ev.Tryd

/- What the functions compute, printed by evprint2.py. -/
set_option maxRecDepth 100000
set_option linter.all false
namespace Go.Ev.Tryd
open Go.Proofs
noncomputable def config_parser_service_L0 (n m1 : Nat) (a1 a3_0 : Pt) (a3_1 : Nat) (a3_2 : Cap) (a14_0 : Pt) (a14_1 : Nat) (a14_2 : Cap) (a15 a16 : Int) (h : H) (kk : KK) : Option Unit := JR T n e_config_parser_service [1, 1, 0, 1, 0] [m1] [(1, (.ptr a1)), (3, (.slice a3_0 a3_1 a3_2)), (14, (.slice a14_0 a14_1 a14_2)), (15, (.int .i64 a15)), (16, (.int .i64 a16))] h kk
theorem config_parser_service_L0_eq (n m1 : Nat) (a1 a3_0 : Pt) (a3_1 : Nat) (a3_2 : Cap) (a14_0 : Pt) (a14_1 : Nat) (a14_2 : Cap) (a15 a16 : Int) (h : H) (kk : KK) : config_parser_service_L0 n (m1 + 1) a1 a3_0 a3_1 a3_2 a14_0 a14_1 a14_2 a15 a16 h kk = cond (decide (a16 < a15)) (if 0 ≤ (a16 : Int) ∧ a16 < (Nat.cast (a14_1) : Int) then nnK a14_0 fun b11 o12 => aggK h b11 (o12 + a16.toNat * 10) 10 fun l13 => lS l13 fun x15 l14 => lS l14 fun x17 l16 => lI l16 fun x19 l18 => lI l18 fun x21 l20 => lI l20 fun x23 l22 => lI l22 fun x25 l24 => lI l24 fun x27 l26 => lI l26 fun x29 l28 => lI l28 fun x31 l30 => lL l30 fun x33 n34 c35 l32 => l0 l32 (newK (.cells [(.str .empty), (.str .empty), (.int .i64 0), (.int .i64 0), (.int .i64 0), (.int .i64 0), (.int .i64 0), (.int .i64 0), (.int .i64 0), (.slice none 0 (.known 0))] false) h fun i36 h37 => wrK h37 i36 0 10 [(.str x15), (.str x17), (.int .i64 x19), (.int .i64 x21), (.int .i64 x23), (.int .i64 x25), (.int .i64 x27), (.int .i64 x29), (.int .i64 x31), (.slice x33 n34 c35)] fun h38 => cellK h38 i36 0 fun v39 => asStr v39 fun x40 => newK (.cells [(.str x40)] false) h38 fun i41 h42 => appK 1 16 a3_0 a3_1 a3_2 (evSrc 1 (.slice (some (i41, 0)) 1 (.known 1)) h42) h42 fun p43 n44 c45 h46 => config_parser_service_L0 n m1 a1 p43 n44 c45 a14_0 a14_1 a14_2 a15 (IntKind.i64.wrap (a16 + 1)) h46 kk) else none) (nnK a1 fun b47 o48 => cellK h b47 o48 fun v49 => asPtr v49 fun x50 => (ca n i_config_parser_named [(.ptr x50), (.slice a3_0 a3_1 a3_2)] h).bind fun q51 => asTup q51.1 fun l52 => lS l52 fun x54 l53 => lB l53 fun x56 l55 => l0 l55 (cond (!x56) (kk (.bool false) q51.2) (newK (.cells [(.str x54), (.str .empty), (.int .i64 0), (.int .i64 0), (.int .i64 0), (.int .i64 1), (.int .i64 1), (.int .i64 1), (.int .i64 100), (.slice none 0 (.known 0))] false) q51.2 fun i57 h58 => newK (.cells [(.ptr none)] false) h58 fun i59 h60 => wrK h60 i59 0 1 [(.ptr (some (i57, 0)))] fun h61 => nnK a1 fun b62 o63 => cellK h61 b62 o63 fun v64 => asPtr v64 fun x65 => newHK h61 fun i66 h67 => nnK a1 fun b68 o69 => cellK h67 b68 o69 fun v70 => asPtr v70 fun x71 => cellK h67 i59 0 fun v72 => asPtr v72 fun x73 => nnK x73 fun b74 o75 => newHK h67 fun i76 h77 => (ca n i_config_parser_choice [(.ptr x71), (.ptr (some (b74, (o75 + 2)))), (.map (some i76))] h77).bind fun q78 => asFn q78.1 fun f79 x80 y81 => sameK h77 q78.2 (blkP a1) ((ca n i_config_once [(.bool true), (.func f79 x80 y81)] q78.2).bind fun q82 => asAgg q82.1 fun l83 => lI l83 fun x85 l84 => lB l84 fun x87 l86 => lc l86 fun v89 l88 => l0 l88 (sameK q78.2 q82.2 (blkP a1) (nnK a1 fun b90 o91 => cellK (q82.2.minus (addT (addT noT h77 q78.2) q78.2 q82.2)) b90 o91 fun v92 => asPtr v92 fun x93 => cellK (q82.2.minus (addT (addT noT h77 q78.2) q78.2 q82.2)) i59 0 fun v94 => asPtr v94 fun x95 => nnK x95 fun b96 o97 => (ca n i_config_into [(.ptr (some (b96, (o97 + 1))))] q82.2).bind fun q98 => asFn q98.1 fun f99 x100 y101 => sameK q82.2 q98.2 (blkP a1) (sameK q82.2 q98.2 (blkP a1) ((ca n i_config_parser_address [(.ptr x93), (.bool true), (.func f99 x100 y101)] q98.2).bind fun q102 => asFn q102.1 fun f103 x104 y105 => sameK q98.2 q102.2 (blkP a1) ((ca n i_config_once [(.bool true), (.func f103 x104 y105)] q102.2).bind fun q106 => asAgg q106.1 fun l107 => lI l107 fun x109 l108 => lB l108 fun x111 l110 => lc l110 fun v113 l112 => l0 l112 (sameK q102.2 q106.2 (blkP a1) (nnK a1 fun b114 o115 => cellK (q106.2.minus (addT (addT (addT (addT (addT noT h77 q78.2) q78.2 q82.2) q82.2 q98.2) q98.2 q102.2) q102.2 q106.2)) b114 o115 fun v116 => asPtr v116 fun x117 => cellK (q106.2.minus (addT (addT (addT (addT (addT noT h77 q78.2) q78.2 q82.2) q82.2 q98.2) q98.2 q102.2) q102.2 q106.2)) i59 0 fun v118 => asPtr v118 fun x119 => nnK x119 fun b120 o121 => (ca n i_config_parser_number [(.ptr x117), (.ptr (some (b120, (o121 + 3)))), (.int .i64 1), (.int .i64 65535)] q106.2).bind fun q122 => asFn q122.1 fun f123 x124 y125 => sameK q106.2 q122.2 (blkP a1) ((ca n i_config_once [(.bool true), (.func f123 x124 y125)] q122.2).bind fun q126 => asAgg q126.1 fun l127 => lI l127 fun x129 l128 => lB l128 fun x131 l130 => lc l130 fun v133 l132 => l0 l132 (sameK q122.2 q126.2 (blkP a1) (nnK a1 fun b134 o135 => cellK (q126.2.minus (addT (addT (addT (addT (addT (addT (addT noT h77 q78.2) q78.2 q82.2) q82.2 q98.2) q98.2 q102.2) q102.2 q106.2) q106.2 q122.2) q122.2 q126.2)) b134 o135 fun v136 => asPtr v136 fun x137 => cellK (q126.2.minus (addT (addT (addT (addT (addT (addT (addT noT h77 q78.2) q78.2 q82.2) q82.2 q98.2) q98.2 q102.2) q102.2 q106.2) q106.2 q122.2) q122.2 q126.2)) i59 0 fun v138 => asPtr v138 fun x139 => nnK x139 fun b140 o141 => newHK q126.2 fun i142 h143 => (ca n i_config_parser_choice [(.ptr x137), (.ptr (some (b140, (o141 + 4)))), (.map (some i142))] h143).bind fun q144 => asFn q144.1 fun f145 x146 y147 => sameK h143 q144.2 (blkP a1) ((ca n i_config_once [(.bool true), (.func f145 x146 y147)] q144.2).bind fun q148 => asAgg q148.1 fun l149 => lI l149 fun x151 l150 => lB l150 fun x153 l152 => lc l152 fun v155 l154 => l0 l154 (sameK q144.2 q148.2 (blkP a1) (nnK a1 fun b156 o157 => cellK (q148.2.minus (addT (addT (addT (addT (addT (addT (addT (addT (addT noT h77 q78.2) q78.2 q82.2) q82.2 q98.2) q98.2 q102.2) q102.2 q106.2) q106.2 q122.2) q122.2 q126.2) h143 q144.2) q144.2 q148.2)) b156 o157 fun v158 => asPtr v158 fun x159 => cellK (q148.2.minus (addT (addT (addT (addT (addT (addT (addT (addT (addT noT h77 q78.2) q78.2 q82.2) q82.2 q98.2) q98.2 q102.2) q102.2 q106.2) q106.2 q122.2) q122.2 q126.2) h143 q144.2) q144.2 q148.2)) i59 0 fun v160 => asPtr v160 fun x161 => nnK x161 fun b162 o163 => newHK q148.2 fun i164 h165 => (ca n i_config_parser_choice [(.ptr x159), (.ptr (some (b162, (o163 + 5)))), (.map (some i164))] h165).bind fun q166 => asFn q166.1 fun f167 x168 y169 => sameK h165 q166.2 (blkP a1) ((ca n i_config_once [(.bool false), (.func f167 x168 y169)] q166.2).bind fun q170 => asAgg q170.1 fun l171 => lI l171 fun x173 l172 => lB l172 fun x175 l174 => lc l174 fun v177 l176 => l0 l176 (sameK q166.2 q170.2 (blkP a1) (nnK a1 fun b178 o179 => cellK (q170.2.minus (addT (addT (addT (addT (addT (addT (addT (addT (addT (addT (addT noT h77 q78.2) q78.2 q82.2) q82.2 q98.2) q98.2 q102.2) q102.2 q106.2) q106.2 q122.2) q122.2 q126.2) h143 q144.2) q144.2 q148.2) h165 q166.2) q166.2 q170.2)) b178 o179 fun v180 => asPtr v180 fun x181 => cellK (q170.2.minus (addT (addT (addT (addT (addT (addT (addT (addT (addT (addT (addT noT h77 q78.2) q78.2 q82.2) q82.2 q98.2) q98.2 q102.2) q102.2 q106.2) q106.2 q122.2) q122.2 q126.2) h143 q144.2) q144.2 q148.2) h165 q166.2) q166.2 q170.2)) i59 0 fun v182 => asPtr v182 fun x183 => nnK x183 fun b184 o185 => (ca n i_config_parser_number [(.ptr x181), (.ptr (some (b184, (o185 + 6)))), (.int .i64 1), (.int .i64 20)] q170.2).bind fun q186 => asFn q186.1 fun f187 x188 y189 => sameK q170.2 q186.2 (blkP a1) ((ca n i_config_once [(.bool false), (.func f187 x188 y189)] q186.2).bind fun q190 => asAgg q190.1 fun l191 => lI l191 fun x193 l192 => lB l192 fun x195 l194 => lc l194 fun v197 l196 => l0 l196 (sameK q186.2 q190.2 (blkP a1) (nnK a1 fun b198 o199 => cellK (q190.2.minus (addT (addT (addT (addT (addT (addT (addT (addT (addT (addT (addT (addT (addT noT h77 q78.2) q78.2 q82.2) q82.2 q98.2) q98.2 q102.2) q102.2 q106.2) q106.2 q122.2) q122.2 q126.2) h143 q144.2) q144.2 q148.2) h165 q166.2) q166.2 q170.2) q170.2 q186.2) q186.2 q190.2)) b198 o199 fun v200 => asPtr v200 fun x201 => cellK (q190.2.minus (addT (addT (addT (addT (addT (addT (addT (addT (addT (addT (addT (addT (addT noT h77 q78.2) q78.2 q82.2) q82.2 q98.2) q98.2 q102.2) q102.2 q106.2) q106.2 q122.2) q122.2 q126.2) h143 q144.2) q144.2 q148.2) h165 q166.2) q166.2 q170.2) q170.2 q186.2) q186.2 q190.2)) i59 0 fun v202 => asPtr v202 fun x203 => nnK x203 fun b204 o205 => (ca n i_config_parser_number [(.ptr x201), (.ptr (some (b204, (o205 + 7)))), (.int .i64 1), (.int .i64 20)] q190.2).bind fun q206 => asFn q206.1 fun f207 x208 y209 => sameK q190.2 q206.2 (blkP a1) ((ca n i_config_once [(.bool false), (.func f207 x208 y209)] q206.2).bind fun q210 => asAgg q210.1 fun l211 => lI l211 fun x213 l212 => lB l212 fun x215 l214 => lc l214 fun v217 l216 => l0 l216 (sameK q206.2 q210.2 (blkP a1) (nnK a1 fun b218 o219 => cellK (q210.2.minus (addT (addT (addT (addT (addT (addT (addT (addT (addT (addT (addT (addT (addT (addT (addT noT h77 q78.2) q78.2 q82.2) q82.2 q98.2) q98.2 q102.2) q102.2 q106.2) q106.2 q122.2) q122.2 q126.2) h143 q144.2) q144.2 q148.2) h165 q166.2) q166.2 q170.2) q170.2 q186.2) q186.2 q190.2) q190.2 q206.2) q206.2 q210.2)) b218 o219 fun v220 => asPtr v220 fun x221 => cellK (q210.2.minus (addT (addT (addT (addT (addT (addT (addT (addT (addT (addT (addT (addT (addT (addT (addT noT h77 q78.2) q78.2 q82.2) q82.2 q98.2) q98.2 q102.2) q102.2 q106.2) q106.2 q122.2) q122.2 q126.2) h143 q144.2) q144.2 q148.2) h165 q166.2) q166.2 q170.2) q170.2 q186.2) q186.2 q190.2) q190.2 q206.2) q206.2 q210.2)) i59 0 fun v222 => asPtr v222 fun x223 => nnK x223 fun b224 o225 => (ca n i_config_parser_number [(.ptr x221), (.ptr (some (b224, (o225 + 8)))), (.int .i64 1), (.int .i64 10000)] q210.2).bind fun q226 => asFn q226.1 fun f227 x228 y229 => sameK q210.2 q226.2 (blkP a1) ((ca n i_config_once [(.bool false), (.func f227 x228 y229)] q226.2).bind fun q230 => asAgg q230.1 fun l231 => lI l231 fun x233 l232 => lB l232 fun x235 l234 => lc l234 fun v237 l236 => l0 l236 (sameK q226.2 q230.2 (blkP a1) (restK [i66, i76, i142, i164] [(i76, (.str (⟨#[116, 99, 112]⟩ : ByteArray)), (.int .i64 6)), (i76, (.str (⟨#[117, 100, 112]⟩ : ByteArray)), (.int .i64 17)), (i66, (.str (⟨#[112, 114, 111, 116, 111]⟩ : ByteArray)), (.agg [(.int .i64 x85), (.bool x87), v89])), (i66, (.str (⟨#[118, 105, 112]⟩ : ByteArray)), (.agg [(.int .i64 x109), (.bool x111), v113])), (i66, (.str (⟨#[112, 111, 114, 116]⟩ : ByteArray)), (.agg [(.int .i64 x129), (.bool x131), v133])), (i142, (.str (⟨#[110, 97, 116]⟩ : ByteArray)), (.int .i64 1)), (i142, (.str (⟨#[100, 114]⟩ : ByteArray)), (.int .i64 2)), (i142, (.str (⟨#[105, 112, 105, 112]⟩ : ByteArray)), (.int .i64 3)), (i66, (.str (⟨#[109, 111, 100, 101]⟩ : ByteArray)), (.agg [(.int .i64 x151), (.bool x153), v155])), (i164, (.str (⟨#[109, 97, 103, 108, 101, 118]⟩ : ByteArray)), (.int .i64 1)), (i164, (.str (⟨#[115, 111, 117, 114, 99, 101]⟩ : ByteArray)), (.int .i64 2)), (i66, (.str (⟨#[115, 99, 104, 101, 100, 117, 108, 101]⟩ : ByteArray)), (.agg [(.int .i64 x173), (.bool x175), v177])), (i66, (.str (⟨#[114, 105, 115, 101]⟩ : ByteArray)), (.agg [(.int .i64 x193), (.bool x195), v197])), (i66, (.str (⟨#[102, 97, 108, 108]⟩ : ByteArray)), (.agg [(.int .i64 x213), (.bool x215), v217])), (i66, (.str (⟨#[112, 114, 111, 98, 101]⟩ : ByteArray)), (.agg [(.int .i64 x233), (.bool x235), v237])), (i66, (.str (⟨#[98, 97, 99, 107, 101, 110, 100]⟩ : ByteArray)), (.agg [(.int .i64 16), (.bool true), (.func i_config_parser_service_1 [] [(.ptr a1), (.ptr (some (i59, 0)))])]))] q230.2 fun h238 => cr n i_config_parser_block [(.ptr x65), (.map (some i66))] h238 fun v240 h241 => asBool v240 fun x242 => nnK a1 fun b243 o244 => cellK h241 b243 o244 fun v245 => asPtr v245 fun x246 => nnK a1 fun b247 o248 => cellK h241 b247 o248 fun v249 => asPtr v249 fun x250 => nnK x250 fun b251 o252 => cellK h241 b251 ((o252 + 3) + 14) fun v253 => asSlice v253 fun x254 n255 c256 => cellK h241 i59 0 fun v257 => asPtr v257 fun x258 => nnK x258 fun b259 o260 => aggK h241 b259 o260 10 fun l261 => lS l261 fun x263 l262 => lS l262 fun x265 l264 => lI l264 fun x267 l266 => lI l266 fun x269 l268 => lI l268 fun x271 l270 => lI l270 fun x273 l272 => lI l272 fun x275 l274 => lI l274 fun x277 l276 => lI l276 fun x279 l278 => lL l278 fun x281 n282 c283 l280 => l0 l280 (newK (.cells [(.str x263), (.str x265), (.int .i64 x267), (.int .i64 x269), (.int .i64 x271), (.int .i64 x273), (.int .i64 x275), (.int .i64 x277), (.int .i64 x279), (.slice x281 n282 c283)] false) h241 fun i284 h285 => appK 10 112 x254 n255 c256 (evSrc 10 (.slice (some (i284, 0)) 1 (.known 1)) h285) h285 fun p286 n287 c288 h289 => sameK h285 h289 (blkP a1) (nnK x246 fun b290 o291 => wrK h289 b290 ((o291 + 3) + 14) 1 [(.slice p286 n287 c288)] fun h292 => kk (.bool x242) h292))))))))))))))))))))))))))))))) := (JR_eq T n e_config_parser_service [1, 1, 0, 1, 0] [m1 + 1] _ h kk).trans (by kernel_rfl)
theorem config_parser_service_eq (n : Nat) (a0 : Pt) (h : H) (kk : KK) : cr (n + 1) i_config_parser_service [(.ptr a0)] h kk = newK (.cells [(.ptr a0)] false) h fun i1 h2 => cellK h2 i1 0 fun v3 => asPtr v3 fun x4 => nnK x4 fun b5 o6 => cellK h2 b5 ((o6 + 3) + 14) fun v7 => asSlice v7 fun x8 n9 c10 => config_parser_service_L0 n n (some (i1, 0)) none 0 (.known 0) x8 n9 c10 (Nat.cast n9) 0 h2 kk := by kernel_rfl
noncomputable def outriderlaw18_ConfigNeeds_L0 (n m1 : Nat) (a8_0 : Pt) (a8_1 : Nat) (a8_2 : Cap) (a9 : Int) (a10 : Bs) (a11 : Int) (h : H) (kk : KK) : Option Unit := JR T n e_outriderlaw18_ConfigNeeds [1, 1, 1, 1, 1, 1, 1, 1, 0, 0] [m1] [(8, (.slice a8_0 a8_1 a8_2)), (9, (.int .i64 a9)), (10, (.str a10)), (11, (.int .i64 a11))] h kk
noncomputable def outriderlaw18_ConfigNeeds_J1 (n m1 : Nat) (a8_0 : Pt) (a8_1 : Nat) (a8_2 : Cap) (a9 : Int) (a10 : Bs) (a11 : Int) (a73 : Bool) (h : H) (kk : KK) : Option Unit := JR T n e_outriderlaw18_ConfigNeeds [1, 1, 1, 1, 1, 1, 1, 1, 0, 0, 0, 0, 1] [m1] [(8, (.slice a8_0 a8_1 a8_2)), (9, (.int .i64 a9)), (10, (.str a10)), (11, (.int .i64 a11)), (73, (.bool a73))] h kk
noncomputable def outriderlaw18_ConfigNeeds_L2 (n m1 : Nat) (a10 : Bs) (a11 a12 : Int) (h : H) (kk : KK) : Option Unit := JR T n e_outriderlaw18_ConfigNeeds [1, 1, 1, 1, 1, 1, 1, 1, 1, 1, 0, 0] [m1] [(10, (.str a10)), (11, (.int .i64 a11)), (12, (.int .i64 a12))] h kk
noncomputable def outriderlaw18_ConfigNeeds_J3 (n m1 : Nat) (a10 : Bs) (a11 a12 : Int) (a86 : Bool) (h : H) (kk : KK) : Option Unit := JR T n e_outriderlaw18_ConfigNeeds [1, 1, 1, 1, 1, 1, 1, 1, 1, 1, 0, 0, 0, 0, 1] [m1] [(10, (.str a10)), (11, (.int .i64 a11)), (12, (.int .i64 a12)), (86, (.bool a86))] h kk
theorem outriderlaw18_ConfigNeeds_L0_eq (n m1 : Nat) (a8_0 : Pt) (a8_1 : Nat) (a8_2 : Cap) (a9 : Int) (a10 : Bs) (a11 : Int) (h : H) (kk : KK) : outriderlaw18_ConfigNeeds_L0 n (m1 + 1) a8_0 a8_1 a8_2 a9 a10 a11 h kk = if 0 ≤ (a9 : Int) ∧ a9 < (Nat.cast (a8_1) : Int) then nnK a8_0 fun b27 o28 => cellK h b27 (o28 + a9.toNat) fun v29 => asStr v29 fun x30 => cond (decide ((IntKind.i64.wrap (a11 + (Nat.cast x30.size))) < (Nat.cast a10.size))) (if 0 ≤ (a9 : Int) ∧ a9 < (Nat.cast (a8_1) : Int) then nnK a8_0 fun b31 o32 => cellK h b31 (o32 + a9.toNat) fun v33 => asStr v33 fun x34 => bndK a10.size a10.size 0 (some (.int .i64 a11)) (some (.int .i64 (IntKind.i64.wrap (a11 + (Nat.cast x34.size))))) none fun lo35 hi36 mx37 => if 0 ≤ (a9 : Int) ∧ a9 < (Nat.cast (a8_1) : Int) then nnK a8_0 fun b38 o39 => cellK h b38 (o39 + a9.toNat) fun v40 => asStr v40 fun x41 => cond (!((a10.extract lo35 hi36).toList == x41.toList)) (outriderlaw18_ConfigNeeds_J1 n m1 a8_0 a8_1 a8_2 a9 a10 a11 true h kk) (cond (decide (a11 > (0 : Int))) (byteK a10 (IntKind.i64.wrap (a11 - 1)) fun y42 => outriderlaw18_ConfigNeeds_J1 n m1 a8_0 a8_1 a8_2 a9 a10 a11 ((y42 : Int) != (10 : Int)) h kk) (outriderlaw18_ConfigNeeds_J1 n m1 a8_0 a8_1 a8_2 a9 a10 a11 false h kk)) else none else none) (outriderlaw18_ConfigNeeds_J1 n m1 a8_0 a8_1 a8_2 a9 a10 a11 false h kk) else none := (JR_eq T n e_outriderlaw18_ConfigNeeds [1, 1, 1, 1, 1, 1, 1, 1, 0, 0] [m1 + 1] _ h kk).trans (by kernel_rfl)
theorem outriderlaw18_ConfigNeeds_J1_eq (n m1 : Nat) (a8_0 : Pt) (a8_1 : Nat) (a8_2 : Cap) (a9 : Int) (a10 : Bs) (a11 : Int) (a73 : Bool) (h : H) (kk : KK) : outriderlaw18_ConfigNeeds_J1 n m1 a8_0 a8_1 a8_2 a9 a10 a11 a73 h kk = cond a73 (outriderlaw18_ConfigNeeds_L0 n m1 a8_0 a8_1 a8_2 a9 a10 (IntKind.i64.wrap (a11 + 1)) h kk) (outriderlaw18_ConfigNeeds_L2 n n a10 a11 a11 h kk) := (JR_eq T n e_outriderlaw18_ConfigNeeds [1, 1, 1, 1, 1, 1, 1, 1, 0, 0, 0, 0, 1] [m1] _ h kk).trans (by kernel_rfl)
theorem outriderlaw18_ConfigNeeds_L2_eq (n m1 : Nat) (a10 : Bs) (a11 a12 : Int) (h : H) (kk : KK) : outriderlaw18_ConfigNeeds_L2 n (m1 + 1) a10 a11 a12 h kk = cond (decide (a12 < (Nat.cast a10.size))) (byteK a10 a12 fun y43 => outriderlaw18_ConfigNeeds_J3 n m1 a10 a11 a12 ((y43 : Int) != (10 : Int)) h kk) (outriderlaw18_ConfigNeeds_J3 n m1 a10 a11 a12 false h kk) := (JR_eq T n e_outriderlaw18_ConfigNeeds [1, 1, 1, 1, 1, 1, 1, 1, 1, 1, 0, 0] [m1 + 1] _ h kk).trans (by kernel_rfl)
theorem outriderlaw18_ConfigNeeds_J3_eq (n m1 : Nat) (a10 : Bs) (a11 a12 : Int) (a86 : Bool) (h : H) (kk : KK) : outriderlaw18_ConfigNeeds_J3 n m1 a10 a11 a12 a86 h kk = cond a86 (outriderlaw18_ConfigNeeds_L2 n m1 a10 a11 (IntKind.i64.wrap (a12 + 1)) h kk) (cond (decide ((IntKind.i64.wrap (a12 + 1)) > (Nat.cast a10.size))) (kk (.bool false) h) (bndK a10.size a10.size 0 none (some (.int .i64 a11)) none fun lo44 hi45 mx46 => bndK a10.size a10.size 0 (some (.int .i64 (IntKind.i64.wrap (a12 + 1)))) none none fun lo47 hi48 mx49 => catK (a10.extract lo44 hi45) (a10.extract lo47 hi48) fun s50 => newK (.cells [(.int .u8 0), (.int .u8 0), (.int .u8 0), (.int .u8 0), (.int .u8 0), (.int .u8 0), (.str .empty), (.str .empty), (.int .i64 0), (.int .i64 0), (.int .i64 0), (.bool false), (.slice none 0 (.known 0)), (.slice none 0 (.known 0)), (.slice none 0 (.known 0))] false) h fun i51 h52 => cr n i_config_Parse [(.str s50)] h52 fun v54 h55 => asTup v54 fun l56 => lA l56 fun x58 l57 => lI l57 fun x60 l59 => lI l59 fun x62 l61 => l0 l61 (wrK h55 i51 0 15 x58 fun h63 => cr n i_outriderlaw18_alive [] h63 fun v65 h66 => asBool v65 fun x67 => cond x67 (cond ((x62 : Int) == (183 : Int)) (cond (decide (x60 ≥ a11)) (kk (.bool (decide (x60 < (Nat.cast a10.size)))) h66) (kk (.bool false) h66)) (kk (.bool false) h66)) (kk (.bool false) h66)))) := (JR_eq T n e_outriderlaw18_ConfigNeeds [1, 1, 1, 1, 1, 1, 1, 1, 1, 1, 0, 0, 0, 0, 1] [m1] _ h kk).trans (by kernel_rfl)
theorem outriderlaw18_ConfigNeeds_eq (n : Nat) (a0 : Bs) (a1 : Int) (h : H) (kk : KK) : cr (n + 1) i_outriderlaw18_ConfigNeeds [(.str a0), (.int .i64 a1)] h kk = cond (decide ((Nat.cast a0.size) > (10000 : Int))) (cr n i_outriderlaw18_alive [] h fun v2 h3 => asBool v2 fun x4 => kk (.bool x4) h3) (cr n i_config_Parse [(.str a0)] h fun v6 h7 => asTup v6 fun l8 => lA l8 fun x10 l9 => lI l9 fun x12 l11 => lI l11 fun x14 l13 => l0 l13 (newK (.cells [(.int .u8 0), (.int .u8 0), (.int .u8 0), (.int .u8 0), (.int .u8 0), (.int .u8 0), (.str .empty), (.str .empty), (.int .i64 0), (.int .i64 0), (.int .i64 0), (.bool false), (.slice none 0 (.known 0)), (.slice none 0 (.known 0)), (.slice none 0 (.known 0))] false) h7 fun i15 h16 => wrK h16 i15 0 15 x10 fun h17 => cond ((x14 : Int) != (0 : Int)) (cr n i_outriderlaw18_alive [] h17 fun v19 h20 => asBool v19 fun x21 => kk (.bool x21) h20) (newK (.cells [(.str (⟨#[109, 97, 99, 32]⟩ : ByteArray)), (.str (⟨#[97, 100, 100, 114, 101, 115, 115, 32]⟩ : ByteArray)), (.str (⟨#[112, 101, 101, 114, 32]⟩ : ByteArray)), (.str (⟨#[105, 100, 32]⟩ : ByteArray)), (.str s_4c04dcf2), (.str (⟨#[101, 118, 101, 114, 121, 32]⟩ : ByteArray))] false) h17 fun i22 h23 => aggK h23 i15 0 15 fun l24 => (ca n i_config_Print [(.agg l24)] h23).bind fun q25 => asStr q25.1 fun x26 => outriderlaw18_ConfigNeeds_L0 n n (some (i22, 0)) 6 (.known 6) (Int.tmod (IntKind.i64.wrap ((Int.tmod a1 6) + 6)) 6) x26 0 q25.2 kk))) := by kernel_rfl
noncomputable def config_parser_track_L0 (n m1 : Nat) (a0 a3_0 : Pt) (a3_1 : Nat) (a3_2 : Cap) (a18_0 : Pt) (a18_1 : Nat) (a18_2 : Cap) (a19 a20 : Int) (h : H) : R := J T.toTab n e_config_parser_track [1, 1, 0, 1, 0] [m1] [(0, (.ptr a0)), (3, (.slice a3_0 a3_1 a3_2)), (18, (.slice a18_0 a18_1 a18_2)), (19, (.int .i64 a19)), (20, (.int .i64 a20))] h
noncomputable def config_parser_track_J1 (n : Nat) (a0 : Pt) (a6 : Bs) (a9 : Int) (a11 : Bool) (a12 : Int) (a65 : Bool) (h : H) : R := J T.toTab n e_config_parser_track [1, 1, 1, 1, 1, 1, 1, 1, 1, 0, 1] [] [(0, (.ptr a0)), (6, (.str a6)), (9, (.int .i64 a9)), (11, (.bool a11)), (12, (.int .i64 a12)), (65, (.bool a65))] h
noncomputable def config_parser_track_J2 (n : Nat) (a0 : Pt) (a6 : Bs) (a12 : Int) (h : H) : R := J T.toTab n e_config_parser_track [1, 1, 1, 1, 1, 1, 1, 1, 1, 1, 1] [] [(0, (.ptr a0)), (6, (.str a6)), (12, (.int .i64 a12))] h
theorem config_parser_track_L0_eq (n m1 : Nat) (a0 a3_0 : Pt) (a3_1 : Nat) (a3_2 : Cap) (a18_0 : Pt) (a18_1 : Nat) (a18_2 : Cap) (a19 a20 : Int) (h : H) : config_parser_track_L0 n (m1 + 1) a0 a3_0 a3_1 a3_2 a18_0 a18_1 a18_2 a19 a20 h = cond (decide (a20 < a19)) (if 0 ≤ (a20 : Int) ∧ a20 < (Nat.cast (a18_1) : Int) then nnK a18_0 fun b7 o8 => aggK h b7 (o8 + a20.toNat * 2) 2 fun l9 => lS l9 fun x11 l10 => lI l10 fun x13 l12 => l0 l12 (newK (.cells [(.str .empty), (.int .i64 0)] false) h fun i14 h15 => wrK h15 i14 0 2 [(.str x11), (.int .i64 x13)] fun h16 => cellK h16 i14 0 fun v17 => asStr v17 fun x18 => newK (.cells [(.str x18)] false) h16 fun i19 h20 => appK 1 16 a3_0 a3_1 a3_2 (evSrc 1 (.slice (some (i19, 0)) 1 (.known 1)) h20) h20 fun p21 n22 c23 h24 => config_parser_track_L0 n m1 a0 p21 n22 c23 a18_0 a18_1 a18_2 a19 (IntKind.i64.wrap (a20 + 1)) h24) else none) ((ca n i_config_parser_named [(.ptr a0), (.slice a3_0 a3_1 a3_2)] h).bind fun q25 => asTup q25.1 fun l26 => lS l26 fun x28 l27 => lB l27 fun x30 l29 => l0 l29 (cond (!x30) (some ((.bool false), q25.2)) ((ca n i_config_parser_value [(.ptr a0)] q25.2).bind fun q31 => asTup q31.1 fun l32 => lS l32 fun x34 l33 => lI l33 fun x36 l35 => lB l35 fun x38 l37 => l0 l37 (cond (!x38) (some ((.bool false), q31.2)) ((ca n i_strings_CutPrefix [(.str x34), (.str (⟨#[45]⟩ : ByteArray))] q31.2).bind fun q39 => asTup q39.1 fun l40 => lS l40 fun x42 l41 => lB l41 fun x44 l43 => l0 l43 ((ca n i_words_Number [(.str x42)] q39.2).bind fun q45 => asTup q45.1 fun l46 => lI l46 fun x48 l47 => lB l47 fun x50 l49 => l0 l49 (cond (!x50) (config_parser_track_J1 n a0 x28 x36 x44 x48 true q45.2) (cond (decide (x48 < (1 : Int))) (config_parser_track_J1 n a0 x28 x36 x44 x48 true q45.2) (config_parser_track_J1 n a0 x28 x36 x44 x48 (decide (x48 > (254 : Int))) q45.2))))))))) := (J_eq T.toTab n e_config_parser_track [1, 1, 0, 1, 0] [m1 + 1] _ h).trans (by kernel_rfl)
theorem config_parser_track_J1_eq (n : Nat) (a0 : Pt) (a6 : Bs) (a9 : Int) (a11 : Bool) (a12 : Int) (a65 : Bool) (h : H) : config_parser_track_J1 n a0 a6 a9 a11 a12 a65 h = cond a65 ((ca n i_config_parser_fail [(.ptr a0), (.int .i64 a9), (.int .i64 182)] h).bind fun q51 => asBool q51.1 fun x52 => some ((.bool x52), q51.2)) (cond a11 (config_parser_track_J2 n a0 a6 (IntKind.i64.wrap (0 - a12)) h) (config_parser_track_J2 n a0 a6 a12 h)) := (J_eq T.toTab n e_config_parser_track [1, 1, 1, 1, 1, 1, 1, 1, 1, 0, 1] [] _ h).trans (by kernel_rfl)
theorem config_parser_track_J2_eq (n : Nat) (a0 : Pt) (a6 : Bs) (a12 : Int) (h : H) : config_parser_track_J2 n a0 a6 a12 h = nnK a0 fun b53 o54 => cellK h b53 ((o54 + 3) + 13) fun v55 => asSlice v55 fun x56 n57 c58 => newK (.cells [(.str a6), (.int .i64 a12)] false) h fun i59 h60 => appK 2 24 x56 n57 c58 (evSrc 2 (.slice (some (i59, 0)) 1 (.known 1)) h60) h60 fun p61 n62 c63 h64 => nnK a0 fun b65 o66 => wrK h64 b65 ((o66 + 3) + 13) 1 [(.slice p61 n62 c63)] fun h67 => (ca n i_config_parser_must [(.ptr a0), (.str (⟨#[10]⟩ : ByteArray))] h67).bind fun q68 => asBool q68.1 fun x69 => some ((.bool x69), q68.2) := (J_eq T.toTab n e_config_parser_track [1, 1, 1, 1, 1, 1, 1, 1, 1, 1, 1] [] _ h).trans (by kernel_rfl)
theorem config_parser_track_eq (n : Nat) (a0 : Pt) (h : H) : ca (n + 1) i_config_parser_track [(.ptr a0)] h = nnK a0 fun b1 o2 => cellK h b1 ((o2 + 3) + 13) fun v3 => asSlice v3 fun x4 n5 c6 => config_parser_track_L0 n n a0 none 0 (.known 0) x4 n5 c6 (Nat.cast n5) 0 h := by kernel_rfl
noncomputable def words_groups_L0 (n m1 : Nat) (a2 : Int) (a3 : AV) (a10_0 : Pt) (a10_1 : Nat) (a10_2 : Cap) (a18_0 : Pt) (a18_1 : Nat) (a18_2 : Cap) (a19 a20 : Int) (h : H) : R := J T.toTab n e_words_groups [1, 1, 0, 1, 0] [m1] [(2, (.int .i64 a2)), (3, a3), (10, (.slice a10_0 a10_1 a10_2)), (18, (.slice a18_0 a18_1 a18_2)), (19, (.int .i64 a19)), (20, (.int .i64 a20))] h
noncomputable def words_groups_L1 (n m1 m2 : Nat) (a2 : Int) (a3 : AV) (a10_0 : Pt) (a10_1 : Nat) (a10_2 : Cap) (a13 a15 : Int) (a18_0 : Pt) (a18_1 : Nat) (a18_2 : Cap) (a19 a20 : Int) (h : H) : R := J T.toTab n e_words_groups [1, 1, 0, 1, 0, 0, 1, 1, 0, 0, 1, 1, 1, 1, 0] [m1, m2] [(2, (.int .i64 a2)), (3, a3), (10, (.slice a10_0 a10_1 a10_2)), (13, (.int .i64 a13)), (15, (.int .i64 a15)), (18, (.slice a18_0 a18_1 a18_2)), (19, (.int .i64 a19)), (20, (.int .i64 a20))] h
theorem words_groups_L0_eq (n m1 : Nat) (a2 : Int) (a3 : AV) (a10_0 : Pt) (a10_1 : Nat) (a10_2 : Cap) (a18_0 : Pt) (a18_1 : Nat) (a18_2 : Cap) (a19 a20 : Int) (h : H) : words_groups_L0 n (m1 + 1) a2 a3 a10_0 a10_1 a10_2 a18_0 a18_1 a18_2 a19 a20 h = cond (decide (a20 < a19)) (if 0 ≤ (a20 : Int) ∧ a20 < (Nat.cast (a18_1) : Int) then nnK a18_0 fun b5 o6 => cellK h b5 (o6 + a20.toNat) fun v7 => asStr v7 fun x8 => asFn a3 fun f10 x11 y12 => (ca n f10 (x11 ++ [(.str x8)] ++ y12) h).bind fun q9 => crF T.toTab f10 q9.1 fun v13 => extK v13 0 fun v14 => asInt .i64 v14 fun x15 => extK v13 1 fun v16 => asBool v16 fun x17 => cond (!x17) (some ((.tup [(.slice none 0 (.known 0)), (.bool false)]), q9.2)) (words_groups_L1 n m1 n a2 a3 a10_0 a10_1 a10_2 x15 (IntKind.i64.wrap (a2 - 1)) a18_0 a18_1 a18_2 a19 a20 q9.2) else none) (some ((.tup [(.slice a10_0 a10_1 a10_2), (.bool true)]), h)) := (J_eq T.toTab n e_words_groups [1, 1, 0, 1, 0] [m1 + 1] _ h).trans (by kernel_rfl)
theorem words_groups_L1_eq (n m1 m2 : Nat) (a2 : Int) (a3 : AV) (a10_0 : Pt) (a10_1 : Nat) (a10_2 : Cap) (a13 a15 : Int) (a18_0 : Pt) (a18_1 : Nat) (a18_2 : Cap) (a19 a20 : Int) (h : H) : words_groups_L1 n m1 (m2 + 1) a2 a3 a10_0 a10_1 a10_2 a13 a15 a18_0 a18_1 a18_2 a19 a20 h = cond (decide (a15 ≥ (0 : Int))) (if (IntKind.i64.wrap (8 * a15)) < 0 then none else newK (.cells [(.int .u8 (IntKind.u8.wrap (ishr .i64 a13 (IntKind.i64.wrap (8 * a15)))))] false) h fun i18 h19 => appK 1 1 a10_0 a10_1 a10_2 (evSrc 1 (.slice (some (i18, 0)) 1 (.known 1)) h19) h19 fun p20 n21 c22 h23 => words_groups_L1 n m1 m2 a2 a3 p20 n21 c22 a13 (IntKind.i64.wrap (a15 - 1)) a18_0 a18_1 a18_2 a19 a20 h23) (words_groups_L0 n m1 a2 a3 a10_0 a10_1 a10_2 a18_0 a18_1 a18_2 a19 (IntKind.i64.wrap (a20 + 1)) h) := (J_eq T.toTab n e_words_groups [1, 1, 0, 1, 0, 0, 1, 1, 0, 0, 1, 1, 1, 1, 0] [m1, m2 + 1] _ h).trans (by kernel_rfl)
theorem words_groups_eq (n : Nat) (a0 a1 : Bs) (a2 : Int) (a3 : AV) (h : H) : ca (n + 1) i_words_groups [(.str a0), (.str a1), (.int .i64 a2), a3] h = (ca n i_strings_Split [(.str a0), (.str a1)] h).bind fun q1 => asSlice q1.1 fun x2 n3 c4 => words_groups_L0 n n a2 a3 none 0 (.known 0) x2 n3 c4 (Nat.cast n3) 0 q1.2 := by kernel_rfl
noncomputable def words_reader_take_J0 (n : Nat) (a0 : Pt) (a1 a2 : Int) (a7 a31 : Bool) (h : H) : R := J T.toTab n e_words_reader_take [1, 1, 0, 0, 1, 1, 1, 1, 1, 1, 1] [] [(0, (.ptr a0)), (1, (.int .u8 a1)), (2, (.int .i64 a2)), (7, (.bool a7)), (31, (.bool a31))] h
noncomputable def words_reader_take_J1 (n : Nat) (a0 : Pt) (a2 : Int) (a7 a45 : Bool) (h : H) : R := J T.toTab n e_words_reader_take [1, 1, 0, 0, 1, 1, 1, 1, 1, 1, 1, 1, 1] [] [(0, (.ptr a0)), (2, (.int .i64 a2)), (7, (.bool a7)), (45, (.bool a45))] h
theorem words_reader_take_J0_eq (n : Nat) (a0 : Pt) (a1 a2 : Int) (a7 a31 : Bool) (h : H) : words_reader_take_J0 n a0 a1 a2 a7 a31 h = cond a31 ((ca n i_words_reader_end [(.ptr a0), (.int .i64 a2)] h).bind fun q14 => asBool q14.1 fun x15 => some ((.bool x15), q14.2)) (cond ((a1 : Int) == (123 : Int)) (words_reader_take_J1 n a0 a2 a7 true h) (words_reader_take_J1 n a0 a2 a7 ((a1 : Int) == (125 : Int)) h)) := (J_eq T.toTab n e_words_reader_take [1, 1, 0, 0, 1, 1, 1, 1, 1, 1, 1] [] _ h).trans (by kernel_rfl)
theorem words_reader_take_J1_eq (n : Nat) (a0 : Pt) (a2 : Int) (a7 a45 : Bool) (h : H) : words_reader_take_J1 n a0 a2 a7 a45 h = cond a45 ((ca n i_words_reader_end [(.ptr a0), (.int .i64 a2)] h).bind fun q16 => asBool q16.1 fun x17 => nnK a0 fun b18 o19 => wrK q16.2 b18 (o19 + 3) 1 [(.int .i64 a2)] fun h20 => (ca n i_words_reader_end [(.ptr a0), (.int .i64 (IntKind.i64.wrap (a2 + 1)))] h20).bind fun q21 => asBool q21.1 fun x22 => some ((.bool x17), q21.2)) (nnK a0 fun b23 o24 => cellK h b23 (o24 + 3) fun v25 => asInt .i64 v25 fun x26 => cond (decide (x26 < (0 : Int))) (nnK a0 fun b27 o28 => wrK h b27 (o28 + 3) 1 [(.int .i64 a2)] fun h29 => some ((.bool a7), h29)) (some ((.bool a7), h))) := (J_eq T.toTab n e_words_reader_take [1, 1, 0, 0, 1, 1, 1, 1, 1, 1, 1, 1, 1] [] _ h).trans (by kernel_rfl)
theorem words_reader_take_eq (n : Nat) (a0 : Pt) (a1 a2 : Int) (h : H) : ca (n + 1) i_words_reader_take [(.ptr a0), (.int .u8 a1), (.int .i64 a2)] h = cond ((a1 : Int) == (10 : Int)) ((ca n i_words_reader_end [(.ptr a0), (.int .i64 a2)] h).bind fun q1 => asBool q1.1 fun x2 => (ca n i_words_reader_stop [(.ptr a0), (.int .i64 a2)] q1.2).bind fun q3 => asTup q3.1 fun l4 => l0 l4 (some ((.bool x2), q3.2))) (nnK a0 fun b5 o6 => cellK h b5 (o6 + 5) fun v7 => asBool v7 fun x8 => cond x8 (some ((.bool true), h)) (cond ((a1 : Int) == (35 : Int)) ((ca n i_words_reader_end [(.ptr a0), (.int .i64 a2)] h).bind fun q9 => asBool q9.1 fun x10 => nnK a0 fun b11 o12 => wrK q9.2 b11 (o12 + 5) 1 [(.bool true)] fun h13 => some ((.bool x10), h13)) (cond ((a1 : Int) == (32 : Int)) (words_reader_take_J0 n a0 a1 a2 true true h) (cond ((a1 : Int) == (9 : Int)) (words_reader_take_J0 n a0 a1 a2 true true h) (words_reader_take_J0 n a0 a1 a2 true ((a1 : Int) == (13 : Int)) h))))) := by kernel_rfl
theorem config_Parse_eq (n : Nat) (a0 : Bs) (h : H) (kk : KK) : cr (n + 1) i_config_Parse [(.str a0)] h kk = newK (.cells [(.int .u8 0), (.int .u8 0), (.int .u8 0), (.int .u8 0), (.int .u8 0), (.int .u8 0), (.str .empty), (.str .empty), (.int .i64 0), (.int .i64 0), (.int .i64 0), (.bool false), (.slice none 0 (.known 0)), (.slice none 0 (.known 0)), (.slice none 0 (.known 0))] false) h fun i1 h2 => (ca n i_words_All [(.str a0)] h2).bind fun q3 => asTup q3.1 fun l4 => lL l4 fun x6 n7 c8 l5 => lI l5 fun x10 l9 => lI l9 fun x12 l11 => l0 l11 (cond ((x12 : Int) != (0 : Int)) (wrK q3.2 i1 0 15 [(.int .u8 0), (.int .u8 0), (.int .u8 0), (.int .u8 0), (.int .u8 0), (.int .u8 0), (.str .empty), (.str .empty), (.int .i64 0), (.int .i64 0), (.int .i64 0), (.bool false), (.slice none 0 (.known 0)), (.slice none 0 (.known 0)), (.slice none 0 (.known 0))] fun h13 => aggK h13 i1 0 15 fun l14 => kk (.tup [(.agg l14), (.int .i64 x10), (.int .i64 x12)]) h13) (newK (.cells [(.str a0), (.slice x6 n7 c8), (.int .i64 0), (.int .u8 0), (.int .u8 0), (.int .u8 0), (.int .u8 0), (.int .u8 0), (.int .u8 0), (.str .empty), (.str .empty), (.int .i64 0), (.int .i64 0), (.int .i64 0), (.bool false), (.slice none 0 (.known 0)), (.slice none 0 (.known 0)), (.slice none 0 (.known 0)), (.slice none 0 (.known 0)), (.int .i64 0), (.int .i64 0)] false) q3.2 fun i15 h16 => cr n i_config_parser_all [(.ptr (some (i15, 0)))] h16 fun v18 h19 => asBool v18 fun x20 => cond (!x20) (cellK h19 i15 19 fun v21 => asInt .i64 v21 fun x22 => cellK h19 i15 20 fun v23 => asInt .i64 v23 fun x24 => wrK h19 i1 0 15 [(.int .u8 0), (.int .u8 0), (.int .u8 0), (.int .u8 0), (.int .u8 0), (.int .u8 0), (.str .empty), (.str .empty), (.int .i64 0), (.int .i64 0), (.int .i64 0), (.bool false), (.slice none 0 (.known 0)), (.slice none 0 (.known 0)), (.slice none 0 (.known 0))] fun h25 => sameK h19 h25 (some i15) (sameK h19 h25 (some i15) (aggK h25 i1 0 15 fun l26 => kk (.tup [(.agg l26), (.int .i64 x22), (.int .i64 x24)]) h25))) (aggK h19 i15 3 15 fun l27 => wrK h19 i1 0 15 l27 fun h28 => aggK h28 i1 0 15 fun l29 => kk (.tup [(.agg l29), (.int .i64 0), (.int .i64 0)]) h28))) := by kernel_rfl
theorem config_parser_node_eq (n : Nat) (a0 : Pt) (h : H) (kk : KK) : cr (n + 1) i_config_parser_node [(.ptr a0)] h kk = newHK h fun i1 h2 => nnK a0 fun b3 o4 => (ca n i_config_parser_card [(.ptr a0), (.ptr (some (b3, (o4 + 3))))] h2).bind fun q5 => asFn q5.1 fun f6 x7 y8 => (ca n i_config_once [(.bool true), (.func f6 x7 y8)] q5.2).bind fun q9 => asAgg q9.1 fun l10 => lI l10 fun x12 l11 => lB l11 fun x14 l13 => lc l13 fun v16 l15 => l0 l15 (nnK a0 fun b17 o18 => (ca n i_config_into [(.ptr (some (b17, ((o18 + 3) + 6))))] q9.2).bind fun q19 => asFn q19.1 fun f20 x21 y22 => (ca n i_config_parser_address [(.ptr a0), (.bool false), (.func f20 x21 y22)] q19.2).bind fun q23 => asFn q23.1 fun f24 x25 y26 => (ca n i_config_once [(.bool true), (.func f24 x25 y26)] q23.2).bind fun q27 => asAgg q27.1 fun l28 => lI l28 fun x30 l29 => lB l29 fun x32 l31 => lc l31 fun v34 l33 => l0 l33 (nnK a0 fun b35 o36 => (ca n i_config_into [(.ptr (some (b35, ((o36 + 3) + 7))))] q27.2).bind fun q37 => asFn q37.1 fun f38 x39 y40 => (ca n i_config_parser_address [(.ptr a0), (.bool false), (.func f38 x39 y40)] q37.2).bind fun q41 => asFn q41.1 fun f42 x43 y44 => (ca n i_config_once [(.bool true), (.func f42 x43 y44)] q41.2).bind fun q45 => asAgg q45.1 fun l46 => lI l46 fun x48 l47 => lB l47 fun x50 l49 => lc l49 fun v52 l51 => l0 l51 (restK [i1] [(i1, (.str (⟨#[109, 97, 99]⟩ : ByteArray)), (.agg [(.int .i64 x12), (.bool x14), v16])), (i1, (.str (⟨#[97, 100, 100, 114, 101, 115, 115]⟩ : ByteArray)), (.agg [(.int .i64 x30), (.bool x32), v34])), (i1, (.str (⟨#[112, 101, 101, 114]⟩ : ByteArray)), (.agg [(.int .i64 x48), (.bool x50), v52]))] q45.2 fun h53 => cr n i_config_parser_block [(.ptr a0), (.map (some i1))] h53 fun v55 h56 => asBool v55 fun x57 => kk (.bool x57) h56))) := by kernel_rfl
theorem words_reader_end_eq (n : Nat) (a0 : Pt) (a1 : Int) (h : H) : ca (n + 1) i_words_reader_end [(.ptr a0), (.int .i64 a1)] h = nnK a0 fun b1 o2 => cellK h b1 (o2 + 3) fun v3 => asInt .i64 v3 fun x4 => cond (decide (x4 < (0 : Int))) (some ((.bool true), h)) (nnK a0 fun b5 o6 => cellK h b5 o6 fun v7 => asStr v7 fun x8 => nnK a0 fun b9 o10 => cellK h b9 (o10 + 3) fun v11 => asInt .i64 v11 fun x12 => bndK x8.size x8.size 0 (some (.int .i64 x12)) (some (.int .i64 a1)) none fun lo13 hi14 mx15 => nnK a0 fun b16 o17 => cellK h b16 (o17 + 3) fun v18 => asInt .i64 v18 fun x19 => nnK a0 fun b20 o21 => cellK h b20 (o21 + 2) fun v22 => asInt .i64 v22 fun x23 => newK (.cells [(.str .empty), (.int .i64 0), (.int .i64 0)] false) h fun i24 h25 => wrK h25 i24 0 3 [(.str (x8.extract lo13 hi14)), (.int .i64 x19), (.int .i64 x23)] fun h26 => nnK a0 fun b27 o28 => cellK h26 b27 (o28 + 1) fun v29 => asSlice v29 fun x30 n31 c32 => aggK h26 i24 0 3 fun l33 => lS l33 fun x35 l34 => lI l34 fun x37 l36 => lI l36 fun x39 l38 => l0 l38 (newK (.cells [(.str x35), (.int .i64 x37), (.int .i64 x39)] false) h26 fun i40 h41 => appK 3 32 x30 n31 c32 (evSrc 3 (.slice (some (i40, 0)) 1 (.known 1)) h41) h41 fun p42 n43 c44 h45 => nnK a0 fun b46 o47 => wrK h45 b46 (o47 + 1) 1 [(.slice p42 n43 c44)] fun h48 => nnK a0 fun b49 o50 => wrK h48 b49 (o50 + 4) 1 [(.bool true)] fun h51 => nnK a0 fun b52 o53 => wrK h51 b52 (o53 + 3) 1 [(.int .i64 (-1))] fun h54 => cellK h54 i24 0 fun v55 => asStr v55 fun x56 => some ((.bool (decide ((Nat.cast x56.size) ≤ (60 : Int)))), h54))) := by kernel_rfl
noncomputable def words_reader_stop_J0 (n : Nat) (a0 : Pt) (h : H) : R := J T.toTab n e_words_reader_stop [1] [] [(0, (.ptr a0))] h
theorem words_reader_stop_J0_eq (n : Nat) (a0 : Pt) (h : H) : words_reader_stop_J0 n a0 h = nnK a0 fun b24 o25 => wrK h b24 (o25 + 4) 1 [(.bool false)] fun h26 => nnK a0 fun b27 o28 => wrK h26 b27 (o28 + 5) 1 [(.bool false)] fun h29 => nnK a0 fun b30 o31 => cellK h29 b30 (o31 + 2) fun v32 => asInt .i64 v32 fun x33 => nnK a0 fun b34 o35 => wrK h29 b34 (o35 + 2) 1 [(.int .i64 (IntKind.i64.wrap (x33 + 1)))] fun h36 => some ((.tup []), h36) := (J_eq T.toTab n e_words_reader_stop [1] [] _ h).trans (by kernel_rfl)
theorem words_reader_stop_eq (n : Nat) (a0 : Pt) (a1 : Int) (h : H) : ca (n + 1) i_words_reader_stop [(.ptr a0), (.int .i64 a1)] h = nnK a0 fun b1 o2 => cellK h b1 (o2 + 4) fun v3 => asBool v3 fun x4 => cond x4 (nnK a0 fun b5 o6 => cellK h b5 (o6 + 1) fun v7 => asSlice v7 fun x8 n9 c10 => nnK a0 fun b11 o12 => cellK h b11 (o12 + 2) fun v13 => asInt .i64 v13 fun x14 => newK (.cells [(.str (⟨#[10]⟩ : ByteArray)), (.int .i64 a1), (.int .i64 x14)] false) h fun i15 h16 => appK 3 32 x8 n9 c10 (evSrc 3 (.slice (some (i15, 0)) 1 (.known 1)) h16) h16 fun p17 n18 c19 h20 => nnK a0 fun b21 o22 => wrK h20 b21 (o22 + 1) 1 [(.slice p17 n18 c19)] fun h23 => words_reader_stop_J0 n a0 h23) (words_reader_stop_J0 n a0 h) := by kernel_rfl
noncomputable def slices_Index_string_string_L0 (n m1 : Nat) (a0_0 : Pt) (a0_1 : Nat) (a0_2 : Cap) (a1 : Bs) (a7 a8 : Int) (h : H) : R := J T.toTab n e_slices_Index_string_string [1, 0, 1, 0] [m1] [(0, (.slice a0_0 a0_1 a0_2)), (1, (.str a1)), (7, (.int .i64 a7)), (8, (.int .i64 a8))] h
theorem slices_Index_string_string_L0_eq (n m1 : Nat) (a0_0 : Pt) (a0_1 : Nat) (a0_2 : Cap) (a1 : Bs) (a7 a8 : Int) (h : H) : slices_Index_string_string_L0 n (m1 + 1) a0_0 a0_1 a0_2 a1 a7 a8 h = cond (decide (a8 < a7)) (if 0 ≤ (a8 : Int) ∧ a8 < (Nat.cast (a0_1) : Int) then nnK a0_0 fun b1 o2 => cellK h b1 (o2 + a8.toNat) fun v3 => asStr v3 fun x4 => cond (a1.toList == x4.toList) (some ((.int .i64 a8), h)) (slices_Index_string_string_L0 n m1 a0_0 a0_1 a0_2 a1 a7 (IntKind.i64.wrap (a8 + 1)) h) else none) (some ((.int .i64 (-1)), h)) := (J_eq T.toTab n e_slices_Index_string_string [1, 0, 1, 0] [m1 + 1] _ h).trans (by kernel_rfl)
theorem slices_Index_string_string_eq (n : Nat) (a0_0 : Pt) (a0_1 : Nat) (a0_2 : Cap) (a1 : Bs) (h : H) : ca (n + 1) i_slices_Index_string_string [(.slice a0_0 a0_1 a0_2), (.str a1)] h = slices_Index_string_string_L0 n n a0_0 a0_1 a0_2 a1 (Nat.cast a0_1) 0 h := by kernel_rfl
theorem config_parser_place_eq (n : Nat) (a0 : Pt) (h : H) : ca (n + 1) i_config_parser_place [(.ptr a0)] h = nnK a0 fun b1 o2 => cellK h b1 (o2 + 2) fun v3 => asInt .i64 v3 fun x4 => nnK a0 fun b5 o6 => cellK h b5 (o6 + 1) fun v7 => asSlice v7 fun x8 n9 c10 => cond (decide (x4 ≥ (Nat.cast n9))) (nnK a0 fun b11 o12 => cellK h b11 o12 fun v13 => asStr v13 fun x14 => some ((.int .i64 (Nat.cast x14.size)), h)) (nnK a0 fun b15 o16 => cellK h b15 (o16 + 1) fun v17 => asSlice v17 fun x18 n19 c20 => nnK a0 fun b21 o22 => cellK h b21 (o22 + 2) fun v23 => asInt .i64 v23 fun x24 => if 0 ≤ (x24 : Int) ∧ x24 < (Nat.cast (n19) : Int) then nnK x18 fun b25 o26 => cellK h b25 ((o26 + x24.toNat * 3) + 1) fun v27 => asInt .i64 v27 fun x28 => some ((.int .i64 x28), h) else none) := by kernel_rfl
theorem config_parser_address_eq (n : Nat) (a0 : Pt) (a1 : Bool) (a2_0 : Nat) (a2_1 a2_2 : List AV) (h : H) : ca (n + 1) i_config_parser_address [(.ptr a0), (.bool a1), (.func a2_0 a2_1 a2_2)] h = newK (.cells [(.ptr a0)] false) h fun i1 h2 => newK (.cells [(.bool a1)] false) h2 fun i3 h4 => newK (.cells [(.func a2_0 a2_1 a2_2)] false) h4 fun i5 h6 => some ((.func i_config_parser_address_1 [] [(.ptr (some (i1, 0))), (.ptr (some (i3, 0))), (.ptr (some (i5, 0)))]), h6) := by kernel_rfl
theorem config_writer_count_eq (n : Nat) (a0 : Pt) (a1 : Bs) (a2 : Int) (h : H) : ca (n + 1) i_config_writer_count [(.ptr a0), (.str a1), (.int .i64 a2)] h = (ca n i_strconv_Itoa [(.int .i64 a2)] h).bind fun q1 => asStr q1.1 fun x2 => newK (.cells [(.str a1), (.str x2)] false) q1.2 fun i3 h4 => (ca n i_config_writer_say [(.ptr a0), (.slice (some (i3, 0)) 2 (.known 2))] h4).bind fun q5 => asTup q5.1 fun l6 => l0 l6 (some ((.tup []), q5.2)) := by kernel_rfl
theorem config_parser_service_1_eq (n : Nat) (a0 a1 : Pt) (h : H) (kk : KK) : cr (n + 1) i_config_parser_service_1 [(.ptr a0), (.ptr a1)] h kk = nnK a0 fun b1 o2 => cellK h b1 o2 fun v3 => asPtr v3 fun x4 => nnK a1 fun b5 o6 => cellK h b5 o6 fun v7 => asPtr v7 fun x8 => cr n i_config_parser_backend [(.ptr x4), (.ptr x8)] h fun v10 h11 => asBool v10 fun x12 => kk (.bool x12) h11 := by kernel_rfl
theorem words_Address_2_eq (n : Nat) (a0 : Bs) (h : H) : ca (n + 1) i_words_Address_2 [(.str a0)] h = (ca n i_words_hex [(.str a0), (.int .i64 1), (.int .i64 4)] h).bind fun q1 => asTup q1.1 fun l2 => lI l2 fun x4 l3 => lB l3 fun x6 l5 => l0 l5 (some ((.tup [(.int .i64 x4), (.bool x6)]), q1.2)) := by kernel_rfl
theorem strings_CutPrefix_eq (n : Nat) (a0 a1 : Bs) (h : H) : ca (n + 1) i_strings_CutPrefix [(.str a0), (.str a1)] h = (ca n i_stringslite_CutPrefix [(.str a0), (.str a1)] h).bind fun q1 => asTup q1.1 fun l2 => lS l2 fun x4 l3 => lB l3 fun x6 l5 => l0 l5 (some ((.tup [(.str x4), (.bool x6)]), q1.2)) := by kernel_rfl
theorem bytealg_IndexByteString_eq (n : Nat) (a0 : Bs) (a1 : Int) (h : H) : ca (n + 1) i_bytealg_IndexByteString [(.str a0), (.int .u8 a1)] h = (bytealg_IndexByteString_99 n a0 a1 h).bind fun r => some ((.int .i64 r.1), r.2) := by kernel_rfl
theorem strconv_isPowerOfTwo_eq (n : Nat) (a0 : Int) (h : H) : ca (n + 1) i_strconv_isPowerOfTwo [(.int .i64 a0)] h = some ((.bool (((iand .i64 a0 (IntKind.i64.wrap (a0 - 1))) : Int) == (0 : Int))), h) := by kernel_rfl
end Go.Ev.Tryd
