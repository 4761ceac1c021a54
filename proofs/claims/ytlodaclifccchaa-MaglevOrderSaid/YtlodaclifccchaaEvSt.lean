/- The abstract machine Ev, part St: an argument that is a struct of a number and a slice. -/
import Derived.Test.YtlodaclifccchaaEvSp
set_option linter.all false
namespace Go.Ev
open Go.Proofs

section
variable {H : Type} {P : Program} {ts : List TypeId} {ds : List (DataW H)}
theorem sized_pair (h : (DataW.weightsEach P ts ds).all (· ≤ reachBytes) = true) {j : Nat} {t e : TypeId} {d0 : DataW H} {elems spare : List (DataW H)} (ht : ts[j]? = some t) (hd : ds[j]? = some (.agg [d0, .slice elems spare])) {fs : Array Field} {f1 : Field} (hu : P.underlying t = some (.struct fs)) (hf : fs[1]? = some f1) (hu1 : P.underlying f1.type = some (.slice e)) :
    (elems.length + spare.length) * P.bytesOf e ≤ reachBytes := by
  have h1 : (elems.length + spare.length) * P.bytesOf e ∈ (DataW.slice elems spare : DataW H).weights P f1.type := by simp [DataW.weights, hu1]
  have h2 : (elems.length + spare.length) * P.bytesOf e ∈ (DataW.agg [d0, .slice elems spare] : DataW H).weights P t := by
    simp only [DataW.weights, hu]
    refine DataW.weights_mem_each (j := 1) (t := f1.type) (d := .slice elems spare) ?_ rfl _ h1
    rw [List.getElem?_map, Array.getElem?_toList, hf]; rfl
  have := List.all_eq_true.1 h _ (DataW.weights_mem_each ht hd _ h2)
  simpa using this
end

section
variable {H : Type} {enc : TypeId × Value → H} {P : Program} {w : World}
theorem open_pair {t e n : Nat} {ks : List FK} {k : IntKind} {v : Value} {x : DataW H × List MemPlace} {fuel : Nat} (i : Nat) {fs : Array Field} {f0 f1 : Field} (hu : P.underlying t = some (.struct fs)) (hsz : fs.size = 2) (hf0 : fs[0]? = some f0) (hf1 : fs[1]? = some f1) (o0 : f0.offset = 0) (o1 : f1.offset = 1)
    (k0 : P.underlying f0.type = some (.int k)) (c0 : P.cellsOf f0.type = 1) (k1 : P.underlying f1.type = some (.slice e)) (c1 : P.cellsOf f1.type = 1) (ct : P.cellsOf t = 2) (hk : flatK P n e = some ks) (hc : P.cellsOf e = ks.length) (hpos : 0 < ks.length) (hv : ∃ cs, v = .agg cs)
    (h : DataW.trod enc P w 0 (fun _ => true) true fuel t v.cells.toList = some x) {B : Nat} (hB : ∀ d0 el sp, x.1 = .agg [d0, .slice el sp] → (el.length + sp.length) * B ≤ reachBytes) :
    ∃ a p len c tg cs, (Lit.int k a).wf = true ∧ Arg i ks B p len c cs ∧ (∀ r : Ren, r i = tg → VR r (.agg [.int k a, .slice p len c]) v) ∧ (∀ (r : Ren) (t : Tgt), tg = some t → RowOK r w t cs) := by
  obtain ⟨C, rfl⟩ := hv
  obtain ⟨xs, m, rfl, hx, hlen, hxl, hel⟩ := DataW.trod_struct hu h
  have hC : (Value.agg C).cells.toList = C.toList := by simp [Value.cells]
  rw [hC] at hlen hel
  rw [ct] at hlen
  obtain ⟨v0, v1, hcs⟩ : ∃ v0 v1, C.toList = [v0, v1] := by
    match hh : C.toList, hlen with
    | [v0, v1], _ => exact ⟨v0, v1, rfl⟩
  rw [hsz] at hxl
  obtain ⟨x0, x1, rfl⟩ : ∃ x0 x1, xs = [x0, x1] := by
    match xs, hxl with
    | [x0, x1], _ => exact ⟨x0, x1, rfl⟩
  have h0 := hel 0 f0 hf0
  have h1 := hel 1 f1 hf1
  rw [hcs, o0, c0] at h0
  rw [hcs, o1, c1] at h1
  simp only [List.drop_zero, List.take_succ_cons, List.take_zero, List.getElem?_cons_zero, List.getElem?_cons_succ, List.drop_succ_cons] at h0 h1
  obtain ⟨us, a1, a2⟩ := flat_open (r := noRen) 1 m f0.type [.int k] [v0] x0 (by unfold flatK; rw [k0]) h0
  obtain ⟨_, _, rfl, ⟨a, rfl, hwf⟩, z⟩ := fits_cons a2
  obtain rfl := fits_nil z
  obtain ⟨p, len, c, tg, cs, w1, w2, w3⟩ := open_slice (enc := enc) (w := w) i k1 hk hc hpos h1 (B := B) fun el sp hd => hB x0.1 el sp (by rw [hx]; simp [hd])
  refine ⟨a, p, len, c, tg, cs, hwf, w1, fun r hr => .agg _ _ ?_ fun j y u hj huu => ?_, w3⟩
  · have := congrArg List.length hcs
    simpa using this.symm
  · have huu' : [v0, v1][j]? = some u := by rw [← hcs]; simpa using huu
    match j, hj, huu' with
    | 0, hj, huu' =>
      simp at hj huu'
      subst hj huu'
      exact (a1.2 0 _ _ rfl rfl).mono (noRen_le r)
    | 1, hj, huu' =>
      simp at hj huu'
      subst hj huu'
      exact w2 r hr
    | j + 2, hj, _ => simp at hj
end

end Go.Ev
