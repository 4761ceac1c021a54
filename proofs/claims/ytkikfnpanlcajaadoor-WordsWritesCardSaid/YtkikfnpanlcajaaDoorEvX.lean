/- The abstract machine Ev, part X: functions that are not printed: the model's stand-ins, and what the kit's shelf says of Go's library. -/
import Derived.Test.YtkikfnpanlcajaaDoorEvU
import Derived.Lib.Bytealg
set_option linter.all false
namespace Go.Ev
open Go.RowKit

theorem VRL.nil_inv {r : Ren} {vs : List Value} (h : VRL r [] vs) : vs = [] := by
  exact List.eq_nil_of_length_eq_zero h.1.symm
theorem VRL.two {r : Ren} {a b : AV} {args' : Array Value} (h : VRL r [a, b] args'.toList) : ∃ v u, args' = #[v, u] ∧ VR r a v ∧ VR r b u := by
  obtain ⟨v, vs, e, hv, h⟩ := h.inv_cons
  obtain ⟨u, us, e2, hu, h⟩ := h.inv_cons
  obtain rfl := h.nil_inv
  subst e2
  exact ⟨v, u, by cases args'; simp_all, hv, hu⟩
theorem VRL.one {r : Ren} {a : AV} {args' : Array Value} (h : VRL r [a] args'.toList) : ∃ v, args' = #[v] ∧ VR r a v := by
  obtain ⟨v, vs, e, hv, h⟩ := h.inv_cons
  obtain rfl := h.nil_inv
  exact ⟨v, by cases args'; simp_all, hv⟩

theorem xcall_pure {P : Program} {f : FuncId} {fn : Func} {e : Array Value → Sem Value} (hf : P.funcs[f]? = some fn) (hb : fn.body.isNone = true) (hn : (fn.name == "runtime.NumGoroutine") = false) (hx : (Extern.findNext fn).isNone = true) (he : Extern.find fn = some e)
    {args : List AV} {v : AV} {h : H} (hrun : ∀ (r : Ren) (w : World) (args' : Array Value), VRL r args args'.toList → ∃ v', (e args').run P w = .ok v' w ∧ VR r v v') : XCall P f args h v h where
  there := ⟨fn, e, hf, hb, hn, hx, he, fun r w args' hrel _ ha => by
    obtain ⟨v', h1, h2⟩ := hrun r w args' ha
    exact ⟨r, v', w, h1, h2, Post.refl hrel⟩⟩
  next := Nat.le_refl _
  wf := fun h => h

def countF (s : ByteArray) (c : Int) : Int := (Lib.countByte s.data.toList c.toNat.toUInt8 : Nat)
def indexF (s : ByteArray) (c : Int) : Int := Lib.indexByte s.data.toList c.toNat.toUInt8

theorem countF_called {P : Program} {f : FuncId} {fn : Func} (hf : P.funcs[f]? = some fn) (hb : fn.body.isNone = true) (hn : (fn.name == "runtime.NumGoroutine") = false) (hx : (Extern.findNext fn).isNone = true) (he : Extern.find fn = some Extern.BytealgCount.count)
    {s : ByteArray} {c : Int} {h : H} {q : Int × H} (e : some (countF s c, h) = some q) : Called P f [.str s, .int .u8 c] h (.int .i64 q.1) q.2 := by
  cases e
  refine .inr (xcall_pure hf hb hn hx he fun r w args' ha => ?_)
  obtain ⟨v, u, rfl, h1, h2⟩ := ha.two
  cases h1; cases h2
  exact ⟨_, Lib.run_countString s c w, .int _ _⟩
theorem indexF_called {P : Program} {f : FuncId} {fn : Func} (hf : P.funcs[f]? = some fn) (hb : fn.body.isNone = true) (hn : (fn.name == "runtime.NumGoroutine") = false) (hx : (Extern.findNext fn).isNone = true) (he : Extern.find fn = some Extern.BytealgIndexByte.indexByte)
    {s : ByteArray} {c : Int} {h : H} {q : Int × H} (e : some (indexF s c, h) = some q) : Called P f [.str s, .int .u8 c] h (.int .i64 q.1) q.2 := by
  cases e
  refine .inr (xcall_pure hf hb hn hx he fun r w args' ha => ?_)
  obtain ⟨v, u, rfl, h1, h2⟩ := ha.two
  cases h1; cases h2
  exact ⟨_, Lib.run_indexByteString s c w, .int _ _⟩

theorem Row.unique {h : H} {size : Nat} {p : Option (Nat × Nat)} {len : Nat} {c : Cap} {vs us : List AV} (r : Row h size p len c vs) (s : Row h size p len c us) : vs = us := by
  cases r with
  | nil => cases s; rfl
  | row hb hg hv hl hc =>
    cases s with
    | row hb' hg' hv' hl' hc' =>
      rw [hg] at hg'
      cases hg'
      exact hv.symm.trans hv'
theorem cell_str {r : Ren} {h : H} {w : World} (hrel : Rel r h w) {b : Nat} {t : Tgt} (hr : r b = some t) {cs : List AV} {ro : Bool} (hg : h.get b = some (.cells cs ro)) {i : Nat} {a : AV} (hi : cs[i]? = some a) : ∃ v, w.cell? ⟨t.blk, t.base + i, none⟩ = some v ∧ VR r a v ∧ t.blk < w.heap.size := by
  obtain ⟨C, e, fz, h1, h2, h3, h4, h5⟩ := hrel.obj b t _ hr hg
  have hlt : t.base + i < C.size := by have := (List.getElem?_eq_some_iff.1 hi).1; omega
  exact ⟨C[t.base + i], by simp [World.cell?, h1, hlt], h4 i a _ hi (Array.getElem?_eq_getElem hlt), hrel.bound b t hr⟩

end Go.Ev
