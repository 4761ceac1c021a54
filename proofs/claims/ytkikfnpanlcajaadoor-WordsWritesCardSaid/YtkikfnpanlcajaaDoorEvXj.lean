/- The abstract machine Ev, part Xj: strings.Join (where drawnB is false: the kit's Below does not tell that draws are but counted up). -/
import Derived.Test.YtkikfnpanlcajaaDoorEvX
import Derived.Lib.Join
import Derived.Below
set_option linter.all false
namespace Go.Ev
open Go.RowKit

/-! ### a call that leaves all that was there -/

theorem Post.below {r : Ren} {h : H} {w w' : World} (hrel : Rel r h w) (b : Below w.heap.size w w') : Post r h w r h w' where
  le := r.le_refl
  dom := fun i t h1 h2 => by rw [h1] at h2; cases h2
  rel := ⟨hrel.wf, fun i t o h1 h2 => (hrel.obj i t o h1 h2).move r.le_refl (b.block _ (hrel.bound i t h1)), hrel.inj, fun i t h => Nat.lt_of_lt_of_le (hrel.bound i t h) b.size, hrel.glob⟩
  keep := fun k hk _ => b.block k hk
  env := ⟨b.os, b.tape, b.output, fun h => by cases h⟩
  size := b.size
  next := Nat.le_refl _
  fresh := fun i t h1 h2 => by rw [h1] at h2; cases h2
  roKeep := fun i o _ h => ⟨o, h, rfl⟩
  gap := fun i t _ => by omega
  touch := fun i _ h => absurd rfl h

theorem acall_below {P : Program} {f : FuncId} {fn : Func} (hf : P.funcs[f]? = some fn) (hb : fn.body.isNone = false) (hn : (fn.name == "runtime.NumGoroutine") = false) {args : List AV} {v : AV} {h : H}
    (hrun : ∀ (r : Ren) (w : World) (args' : Array Value), Rel r h w → VRL r args args'.toList → Calls P f args' w fun e w' => (∃ v', e = .returned v' ∧ VR r v v') ∧ Below w.heap.size w w') : ACall P f args h v h where
  there := ⟨fn, hf, hb, hn⟩
  next := Nat.le_refl _
  wf := fun h => h
  sim := fun r w args' hrel _ ha => (hrun r w args' hrel ha).mono fun e w' ⟨⟨v', he, hv⟩, b⟩ => ⟨r, v', he, hv, Post.below hrel b⟩

/-! ### strings.Join -/

def joinS (xs : List ByteArray) (sep : ByteArray) : ByteArray := ⟨(Lib.join (xs.map (·.data.toList)) sep.data.toList).toArray⟩
def JoinPre (p : Option (Nat × Nat)) (len : Nat) (c : Cap) (sep : ByteArray) (h : H) (xs : List ByteArray) : Prop :=
  Row h 1 p len c (xs.map AV.str) ∧ xs.length ≤ 140737488355328 ∧ (Lib.join (xs.map (·.data.toList)) sep.data.toList).length ≤ 140737488355328
open Classical in
noncomputable def joinF (p : Option (Nat × Nat)) (len : Nat) (c : Cap) (sep : ByteArray) (h : H) : Option (ByteArray × H) :=
  if hx : ∃ xs, JoinPre p len c sep h xs then some (joinS (Classical.choose hx) sep, h) else none

theorem map_str_inj : ∀ {xs ys : List ByteArray}, xs.map AV.str = ys.map AV.str → xs = ys
  | [], [], _ => rfl
  | x :: xs, y :: ys, h => by
    simp only [List.map_cons, List.cons.injEq, AV.str.injEq] at h
    rw [h.1, map_str_inj h.2]
  | [], _ :: _, h => by simp at h
  | _ :: _, [], h => by simp at h

theorem joinF_of {p : Option (Nat × Nat)} {len : Nat} {c : Cap} {sep : ByteArray} {h : H} {xs : List ByteArray} (r : Row h 1 p len c (xs.map AV.str)) (hN : xs.length ≤ 140737488355328) (hlen : (Lib.join (xs.map (·.data.toList)) sep.data.toList).length ≤ 140737488355328) : joinF p len c sep h = some (joinS xs sep, h) := by
  have hx : ∃ xs, JoinPre p len c sep h xs := ⟨xs, r, hN, hlen⟩
  unfold joinF
  rw [dif_pos hx]
  have := map_str_inj ((Classical.choose_spec hx).1.unique r)
  rw [this]

theorem joinF_called {P : Program} {f : FuncId} {fn : Func} (hf : P.funcs[f]? = some fn) (hb : fn.body.isNone = false) (hn : (fn.name == "runtime.NumGoroutine") = false)
    (h0 : ∀ (a : Option Addr) (c : Nat) (sep : ByteArray) (w : World), Calls P f #[.slice a 0 c, .string sep] w fun e w' => e = .returned (.string ⟨#[]⟩) ∧ w' = w)
    (h1 : ∀ (bk o c : Nat) (xs : List ByteArray) (sep : ByteArray) (w : World), (∀ (j : Nat) x, xs[j]? = some x → w.cell? ⟨bk, o + j, none⟩ = some (.string x)) → bk < w.heap.size → xs.length ≤ 140737488355328 → xs.length ≤ c → (Lib.join (xs.map (·.data.toList)) sep.data.toList).length ≤ 140737488355328 →
      Calls P f #[.slice (some ⟨bk, o, none⟩) xs.length c, .string sep] w fun e w' => e = .returned (.string ⟨(Lib.join (xs.map (·.data.toList)) sep.data.toList).toArray⟩) ∧ Below w.heap.size w w')
    {p : Option (Nat × Nat)} {len : Nat} {c : Cap} {sep : ByteArray} {h : H} {q : ByteArray × H} (e : joinF p len c sep h = some q) : Called P f [.slice p len c, .str sep] h (.str q.1) q.2 := by
  unfold joinF at e
  split at e
  · rename_i hx
    cases e
    obtain ⟨row, hN, hlen⟩ := Classical.choose_spec hx
    generalize Classical.choose hx = xs at row hN hlen
    refine .inl (acall_below hf hb hn fun r w args' hrel ha => ?_)
    obtain ⟨v, u, rfl, hv, hu⟩ := ha.two
    cases hu
    have hl := row.length
    simp only [List.length_map, Nat.mul_one] at hl
    by_cases hz : xs = []
    · subst hz
      obtain rfl : len = 0 := by simpa using hl.symm
      have : ∃ a c', v = .slice a 0 c' := by cases hv <;> exact ⟨_, _, rfl⟩
      obtain ⟨a, c', rfl⟩ := this
      exact (h0 a c' sep w).mono fun e w' ⟨he, hw⟩ => ⟨⟨_, he, .str _⟩, by rw [hw]; exact .refl _ _⟩
    · have hpos : 0 < xs.length := List.length_pos_iff.2 hz
      generalize hgx : xs.map AV.str = vs at row
      cases row with
      | nil => have := congrArg List.length hgx; simp at this; exact absurd this hz
      | row hb' hg hvs hle hc =>
        rename_i b o cs ro
        rw [← hgx] at hvs
        have go : ∀ (t : Tgt) (cap : Nat), r b = some t → xs.length ≤ cap → Calls P f #[.slice (some ⟨t.blk, t.base + o, none⟩) len cap, .string sep] w fun e w' => (∃ v', e = .returned v' ∧ VR r (.str (joinS xs sep)) v') ∧ Below w.heap.size w w' := by
          intro t cap hr hcap
          have hcell : ∀ (j : Nat) x, xs[j]? = some x → w.cell? ⟨t.blk, t.base + o + j, none⟩ = some (.string x) ∧ t.blk < w.heap.size := by
            intro j x hj
            have hj' : cs[o + j]? = some (.str x) := by
              have : (xs.map AV.str)[j]? = some (.str x) := by rw [List.getElem?_map, hj]; rfl
              rw [← hvs, List.getElem?_take] at this
              split at this
              · rwa [List.getElem?_drop] at this
              · cases this
            obtain ⟨v, h1, h2, h3⟩ := cell_str hrel hr hg hj'
            cases h2
            exact ⟨by rw [Nat.add_assoc]; exact h1, h3⟩
          have h00 := hcell 0 _ (List.getElem?_eq_getElem hpos)
          rw [← hl]
          exact (h1 t.blk (t.base + o) cap xs sep w (fun j x hj => (hcell j x hj).1) h00.2 hN hcap hlen).mono fun e w' ⟨he, hw⟩ => ⟨⟨_, he, .str _⟩, hw⟩
        cases hv with
        | slice len c hr =>
          rcases hc with hc | ⟨k, hc, hk⟩
          · cases hc
          · cases hc; exact go _ _ hr (by omega)
        | sliceRest len size cap hr hcp hlc => exact go _ _ hr (by omega)
        | sliceBare a => omega
        | sliceEnd a size hr => omega
  · cases e

end Go.Ev
