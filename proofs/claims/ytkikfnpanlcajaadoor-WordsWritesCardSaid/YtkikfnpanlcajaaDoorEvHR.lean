/- The abstract machine Ev: objects that nobody writes, ahead of a law (rows, whole tables). -/
import Derived.Test.YtkikfnpanlcajaaDoorEvX
import Derived.Sort.Grow
import Derived.Deep.Draws
import Derived.Lib.ItoaNum
import Derived.Lib.ItoaNum
import Derived.Lib.LaidTab
set_option linter.all false
namespace Go.Ev
open Go.RowKit Go.Sort

abbrev Objs := List (Option Tgt × AObj)
def HR (objs : Objs) : H := ⟨objs.length, fun i => (objs[i]?).map (·.2)⟩
def rR (objs : Objs) : Ren := fun i => (objs[i]?).bind (·.1)

theorem relR {objs : Objs} {w : World} (h : ∀ x ∈ objs, ∀ t, x.1 = some t → OR (rR objs) w t x.2 ∧ t.blk < w.heap.size) (hro : ∀ x ∈ objs, x.2.ro = true) (hg : GL (rR objs)) : Rel (rR objs) (HR objs) w where
  wf := fun i o hi => by
    simp only [HR, Option.map_eq_some_iff] at hi ⊢
    obtain ⟨x, hx, _⟩ := hi
    exact (List.getElem?_eq_some_iff.1 hx).1
  obj := fun i t o hr hi => by
    simp only [HR, Option.map_eq_some_iff, rR, Option.bind_eq_some_iff] at hi hr
    obtain ⟨x, hx, rfl⟩ := hi
    obtain ⟨y, hy, ht⟩ := hr
    rw [hx] at hy; cases hy
    exact (h x (List.mem_of_getElem? hx) t ht).1
  inj := fun i j ti tj oi oj _ _ hi hj _ => by
    simp only [HR, Option.map_eq_some_iff] at hi hj
    obtain ⟨x, hx, rfl⟩ := hi
    obtain ⟨y, hy, rfl⟩ := hj
    exact .inr ⟨hro x (List.mem_of_getElem? hx), hro y (List.mem_of_getElem? hy)⟩
  bound := fun i t hr => by
    simp only [rR, Option.bind_eq_some_iff] at hr
    obtain ⟨y, hy, ht⟩ := hr
    exact (h y (List.mem_of_getElem? hy) t ht).2
  glob := hg

/-- a law: every run of it comes to true, and turns nothing that was there -/
theorem ACall.run_trueR {P : Program} {f : FuncId} {args : List AV} {objs : Objs} {h' : H} (c : ACall P f args (HR objs) (.bool true) h') {w : World} {args' : Array Value}
    (h : ∀ x ∈ objs, ∀ t, x.1 = some t → OR (rR objs) w t x.2 ∧ t.blk < w.heap.size) (hro : ∀ x ∈ objs, x.2.ro = true) (hg : GL (rR objs)) (ha : VRL (rR objs) args args'.toList) :
    Calls P f args' w fun e w' => e = .returned (.bool true) ∧ Below w.heap.size w w' := by
  refine (c.sim (rR objs) w args' (relR h hro hg) (fun i hi _ => ?_) ha).mono fun e w' ⟨r', v', he, hv, hp⟩ => ⟨by cases hv; exact he, ⟨hp.env.1, hp.env.2.1, hp.env.2.2.1, hp.size, fun b hb => hp.keep b hb fun i t o _ _ ho => ?_⟩⟩
  · simp only [HR] at hi
    simp [rR, List.getElem?_eq_none hi]
  · simp only [HR, Option.map_eq_some_iff] at ho
    obtain ⟨x, hx, rfl⟩ := ho
    exact hro x (List.mem_of_getElem? hx)

/-! ### strconv.Itoa, by the kit's shelf -/

theorem Post.grewT {r : Ren} {h : H} {w : World} (hrel : Rel r h w) (k : Nat) (os : Array Obj) : Post r h w r h (grow (w.drewN k) os) where
  env := ⟨rfl, rfl, rfl, fun _ => Nat.le_add_right _ _⟩
  le := r.le_refl
  dom := fun i t h1 h2 => by rw [h1] at h2; cases h2
  rel := ⟨hrel.wf, fun i t o h1 h2 => (hrel.obj i t o h1 h2).move r.le_refl (by have := hrel.bound i t h1; simp [grow, World.drewN, Array.getElem?_append, this]), hrel.inj, fun i t h => by have := hrel.bound i t h; simp [grow, World.drewN]; omega, hrel.glob⟩
  keep := fun b hb _ => by simp [grow, World.drewN, Array.getElem?_append, hb]
  size := by simp [grow, World.drewN]
  next := Nat.le_refl _
  fresh := fun i t h1 h2 => by rw [h1] at h2; cases h2
  roKeep := fun i o _ h => ⟨o, h, rfl⟩
  gap := fun i t _ => by omega
  touch := fun i _ h => absurd rfl h

def pow10AV : List AV := Lib.pow10Tab.map (.int .u64)
def itoaS (n : Int) : ByteArray := ⟨(Lib.itoa n).toArray⟩
open Classical in
/-- 'i': the block of the table internal/strconv.uint64pow10 -/
noncomputable def itoaF (i : Nat) (n : Int) (h : H) : Option (ByteArray × H) :=
  if h.get i = some (.tab pow10AV) ∧ -9223372036854775808 ≤ n ∧ n ≤ 9223372036854775807 then some (itoaS n, h) else none
theorem itoaF_of {i : Nat} {n : Int} {h : H} (hg : h.get i = some (.tab pow10AV)) (h0 : -9223372036854775808 ≤ n) (h1 : n ≤ 9223372036854775807) : itoaF i n h = some (itoaS n, h) := if_pos ⟨hg, h0, h1⟩

theorem tabIs_of {P : Program} {r : Ren} {h : H} {w : World} (hrel : Rel r h w) {name : String} {g i : Nat} (hn : P.globalNamed name = some g) (hi : glFind glTab g = some i) {k : IntKind} {zs : List Int} (hg : h.get i = some (.tab (zs.map (.int k)))) : Lib.TabIs P w name k zs := by
  obtain ⟨row, hr⟩ := hrel.glob g i hi
  obtain ⟨C, e, fz, h1, h2, h3, h4⟩ := hrel.obj i _ _ hr hg
  unfold Lib.TabIs World.var?
  rw [hn, Option.bind_some]
  simp only at h1
  rw [h1]
  simp only [Option.some.injEq]
  apply Array.ext_getElem?
  intro j
  simp only [List.length_map] at h3
  by_cases hj : j < zs.length
  · have hc : C[j]? = some (C[j]'(by omega)) := Array.getElem?_eq_getElem (by omega)
    have := h4 j (.int k zs[j]) _ (by simp [hj]) hc
    rw [hc]
    generalize C[j]'(by omega) = v at this
    cases this
    simp [hj]
  · rw [Array.getElem?_eq_none (by omega), Array.getElem?_eq_none (by simp; omega)]

theorem itoaF_called {P : Program} {f : FuncId} {fn : Func} (hf : P.funcs[f]? = some fn) (hb : fn.body.isNone = false) (hn : (fn.name == "runtime.NumGoroutine") = false) {g i : Nat} (hg : P.globalNamed "internal/strconv.uint64pow10" = some g) (hi : glFind glTab g = some i)
    (hit : ∀ (n : Int), -9223372036854775808 ≤ n → n ≤ 9223372036854775807 → ∀ w : World, Lib.TabIs P w "internal/strconv.uint64pow10" .u64 Lib.pow10Tab → Calls P f #[.int .i64 n] w fun e w' => e = .returned (.string ⟨(Lib.itoa n).toArray⟩) ∧ ∃ k os, w' = grow (w.drewN k) os)
    {n : Int} {h : H} {q : ByteArray × H} (e : itoaF i n h = some q) : Called P f [.int .i64 n] h (.str q.1) q.2 := by
  unfold itoaF at e
  split at e
  · rename_i hx
    cases e
    refine .inl ⟨⟨fn, hf, hb, hn⟩, Nat.le_refl _, fun h => h, fun r w args' hrel _ ha => ?_⟩
    obtain ⟨v, rfl, hv⟩ := ha.one
    cases hv
    refine (hit n hx.2.1 hx.2.2 w (tabIs_of hrel hg hi hx.1)).mono fun e w' ⟨he, k, os, hw⟩ => ?_
    subst hw
    exact ⟨r, _, he, .str _, Post.grewT hrel k os⟩
  · cases e
end Go.Ev
namespace Go.Ev
/-! ### tables that a row lists -/
theorem tab_block {P : Program} {W : World} {name : String} {k : IntKind} {zs : List Int} {g : Nat} (h : Lib.TabIs P W name k zs) (hg : P.globalNamed name = some g) : ∃ e fz, W.heap[g]? = some (.cells (zs.map fun z => Value.int k z).toArray e fz) := by
  unfold Lib.TabIs World.var? at h
  rw [hg, Option.bind_some] at h
  split at h
  · rename_i cs e fz hc
    cases h
    exact ⟨e, fz, hc⟩
  · cases h
theorem tab_OR {P : Program} {W : World} {name : String} {k : IntKind} {zs : List Int} {g : Nat} (h : Lib.TabIs P W name k zs) (hg : P.globalNamed name = some g) (r : Ren) (row : Nat) : OR r W ⟨g, 0, row⟩ (.tab (zs.map (.int k))) ∧ g < W.heap.size := by
  obtain ⟨e, fz, hb⟩ := tab_block h hg
  refine ⟨⟨_, e, fz, hb, rfl, by simp, fun i a v ha hv => ?_⟩, World.block_lt hb⟩
  simp only [List.getElem?_map, Option.map_eq_some_iff, List.getElem?_toArray] at ha hv
  obtain ⟨x, hx, rfl⟩ := ha
  obtain ⟨y, hy, rfl⟩ := hv
  rw [hx] at hy; cases hy
  exact .int _ _
theorem row_OR {P : Program} {W : World} {name : String} {k : IntKind} {zs : List Int} {g : Nat} (h : Lib.TabIs P W name k zs) (hg : P.globalNamed name = some g) (r : Ren) : OR r W ⟨g, 0, zs.length⟩ (.cells (zs.map (.int k)) true) ∧ g < W.heap.size := by
  obtain ⟨e, fz, hb⟩ := tab_block h hg
  refine ⟨⟨_, e, fz, hb, by simp, by simp, fun i a v ha hv => ?_, fun h => by cases h⟩, World.block_lt hb⟩
  simp only [List.getElem?_map, Option.map_eq_some_iff, List.getElem?_toArray, Nat.zero_add] at ha hv
  obtain ⟨x, hx, rfl⟩ := ha
  obtain ⟨y, hy, rfl⟩ := hv
  rw [hx] at hy; cases hy
  exact .int _ _
end Go.Ev
