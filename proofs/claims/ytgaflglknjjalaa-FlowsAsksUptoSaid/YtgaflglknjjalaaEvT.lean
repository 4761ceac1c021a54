/- The abstract machine Ev, part T: small laws for proofs about printed functions: heaps, cells, rows, numbers. -/
import Derived.Test.YtgaflglknjjalaaEvS
set_option linter.all false
namespace Go.Ev

/-! ### heaps -/

@[simp] theorem get_new_self (h : H) (o : AObj) : (h.new o).get h.next = some o := by simp [H.new]
theorem get_new_lt {h : H} {o : AObj} {i : Nat} (hi : i < h.next) : (h.new o).get i = h.get i := by simp only [H.new]; rw [if_neg (by omega)]
@[simp] theorem next_new (h : H) (o : AObj) : (h.new o).next = h.next + 1 := rfl
@[simp] theorem get_set_self (h : H) (i : Nat) (o : AObj) : (h.set i o).get i = some o := by simp [H.set]
theorem get_set_ne {h : H} {i j : Nat} {o : AObj} (hi : j ≠ i) : (h.set i o).get j = h.get j := by simp only [H.set]; rw [if_neg hi]
@[simp] theorem next_set (h : H) (i : Nat) (o : AObj) : (h.set i o).next = h.next := rfl
@[simp] theorem set_set (h : H) (i : Nat) (o o' : AObj) : (h.set i o).set i o' = h.set i o' := by
  simp only [H.set, H.mk.injEq, true_and]; funext j; split <;> rfl

/-- what was there is as it was -/
structure Quiet (h h' : H) : Prop where
  next : h.next ≤ h'.next
  get : ∀ i, i < h.next → h'.get i = h.get i

theorem Quiet.refl (h : H) : Quiet h h := ⟨Nat.le_refl _, fun _ _ => rfl⟩
theorem Quiet.trans {a b c : H} (h : Quiet a b) (k : Quiet b c) : Quiet a c := ⟨Nat.le_trans h.next k.next, fun i hi => (k.get i (Nat.lt_of_lt_of_le hi h.next)).trans (h.get i hi)⟩
theorem Quiet.new {a h : H} (q : Quiet a h) (o : AObj) : Quiet a (h.new o) := ⟨Nat.le_trans q.next (Nat.le_succ _), fun i hi => (get_new_lt (Nat.lt_of_lt_of_le hi q.next)).trans (q.get i hi)⟩
theorem Quiet.set {a h : H} (q : Quiet a h) {b : Nat} (hb : a.next ≤ b) (o : AObj) : Quiet a (h.set b o) := ⟨q.next, fun i hi => (get_set_ne (by omega)).trans (q.get i hi)⟩
theorem WF_H0 (rows : Rows0) : (H0 rows).WF := by
  intro i o hi
  simp only [H0, Option.map_eq_some_iff] at hi ⊢
  obtain ⟨x, hx, _⟩ := hi
  exact (List.getElem?_eq_some_iff.1 hx).1

/-! ### steps -/

/-- not by unfolding: what is rewritten with it is not compared -/
theorem nr {α : Sort _} {a b : α} (h : a = b) : a = b := h

section
variable {β : Type}
@[simp] theorem nnK_some' (b o : Nat) (f : Nat → Nat → Option β) : nnK (some (b, o)) f = f b o := nr rfl
@[simp] theorem asInt_int (k : IntKind) (n : Int) (f : Int → Option β) : asInt k (.int k n) f = f n := by simp [asInt]
@[simp] theorem asBool_bool (b : Bool) (f : Bool → Option β) : asBool (.bool b) f = f b := nr rfl
@[simp] theorem asStr_str (s : ByteArray) (f : ByteArray → Option β) : asStr (.str s) f = f s := nr rfl
@[simp] theorem asPtr_ptr (p : Option (Nat × Nat)) (f : Option (Nat × Nat) → Option β) : asPtr (.ptr p) f = f p := nr rfl
@[simp] theorem asSlice_slice (p : Option (Nat × Nat)) (l : Nat) (c : Cap) (f : Option (Nat × Nat) → Nat → Cap → Option β) : asSlice (.slice p l c) f = f p l c := nr rfl
@[simp] theorem asMap_map (p : Option Nat) (f : Option Nat → Option β) : asMap (.map p) f = f p := nr rfl
@[simp] theorem asAgg_agg (l : List AV) (f : List AV → Option β) : asAgg (.agg l) f = f l := nr rfl
@[simp] theorem l0_nil (f : Option β) : l0 [] f = f := nr rfl
@[simp] theorem lc_cons (v : AV) (l : List AV) (f : AV → List AV → Option β) : lc (v :: l) f = f v l := nr rfl
@[simp] theorem newK_eq (o : AObj) (h : H) (f : Nat → H → Option β) : newK o h f = f h.next (h.new o) := nr rfl
theorem cellK_of {h : H} {i o : Nat} {cs : List AV} {ro : Bool} {v : AV} (hg : h.get i = some (.cells cs ro)) (hv : cs[o]? = some v) (f : AV → Option β) : cellK h i o f = f v := by simp [cellK, hg, hv]
theorem aggK_of {h : H} {i o n : Nat} {cs : List AV} {ro : Bool} (hg : h.get i = some (.cells cs ro)) (hn : o + n ≤ cs.length) (f : List AV → Option β) : aggK h i o n f = f ((cs.drop o).take n) := by simp [aggK, hg, hn]
theorem aggK_all {h : H} {i n : Nat} {cs : List AV} {ro : Bool} (hg : h.get i = some (.cells cs ro)) (hn : cs.length = n) (f : List AV → Option β) : aggK h i 0 n f = f cs := by
  rw [aggK_of hg (by omega)]; simp [← hn]
theorem wrK_of {h : H} {i o n : Nat} {cs xs : List AV} (hg : h.get i = some (.cells cs false)) (hn : xs.length = n) (hl : o + n ≤ cs.length) (hc : xs.all isCell = true) (f : H → Option β) :
    wrK h i o n xs f = f (h.set i (.cells (spl cs o xs) false)) := by
  simp only [wrK, hg]; rw [if_pos ⟨hn, by omega, hc⟩]
@[simp] theorem blkP_some (b o : Nat) : blkP (some (b, o)) = some b := rfl
@[simp] theorem blkP_none : blkP none = none := rfl
@[simp] theorem sameK_same (h : H) (b : Option Nat) (x : Option β) : sameK h h b x = x := by cases b <;> simp [sameK]
@[simp] theorem sameK_none (h h' : H) (x : Option β) : sameK h h' none x = x := nr rfl
theorem sameK_of {h h' : H} {b : Nat} (e : h'.get b = h.get b) (x : Option β) : sameK h h' (some b) x = x := by simp only [sameK]; rw [if_pos e]
end

theorem spl_all : ∀ (xs l : List AV), xs.length = l.length → spl l 0 xs = xs := by
  intro xs l h
  apply List.ext_getElem?
  intro k
  rw [spl_get xs l 0 (by omega)]
  by_cases hk : k < xs.length
  · simp [hk]
  · rw [if_neg (by omega), List.getElem?_eq_none (by omega), List.getElem?_eq_none (by omega)]

/-! ### rows seen through slices -/

/-- the slice's elements are the cells vs (size cells each) -/
inductive SL (h : H) (size : Nat) : Option (Nat × Nat) → Nat → Cap → List AV → Prop
  | nil : SL h size none 0 (.known 0) []
  | row {b o len : Nat} {c : Cap} {cs : List AV} {ro : Bool} {vs : List AV} (hg : h.get b = some (.cells cs ro)) (hv : (cs.drop o).take (len * size) = vs) (hl : o + len * size ≤ cs.length) (hc : c = .rest size ∨ ∃ k, c = .known k ∧ len ≤ k) : SL h size (some (b, o)) len c vs

theorem SL.length {h : H} {size : Nat} {p : Option (Nat × Nat)} {len : Nat} {c : Cap} {vs : List AV} (s : SL h size p len c vs) : vs.length = len * size := by
  cases s with
  | nil => simp
  | row hg hv hl hc => subst hv; simp; omega

theorem SL.quiet {h h' : H} {size : Nat} {p : Option (Nat × Nat)} {len : Nat} {c : Cap} {vs : List AV} (s : SL h size p len c vs) (hw : h.WF) (q : Quiet h h') : SL h' size p len c vs := by
  cases s with
  | nil => exact .nil
  | row hg hv hl hc => exact .row ((q.get _ (hw _ _ hg)).trans hg) hv hl hc

theorem SL.of_arg {rows : Rows0} {i : Nat} {ks : List FK} {p : Option (Nat × Nat)} {len : Nat} {c : Cap} {tg : Option Tgt} {cs : List AV} {B : Nat} (hi : rows[i]? = some (tg, cs)) (a : Arg i ks B p len c cs) : SL (H0 rows) ks.length p len c (cs.take (len * ks.length)) := by
  obtain ⟨cap, hl, hm, hf, h⟩ := a.look
  have hlen : cs.length = cap * ks.length := by rw [hf.length]; simp
  rcases h with ⟨rfl, rfl, rfl, rfl⟩ | ⟨rfl, h⟩
  · simp; exact .nil
  · refine .row (cs := cs) (ro := true) (by simp [H0, hi]) (by simp) ?_ ?_
    · rw [hlen, Nat.zero_add]; exact Nat.mul_le_mul_right _ hl
    · rcases h with rfl | ⟨rfl, rfl⟩
      · exact .inl rfl
      · exact .inr ⟨0, rfl, hl⟩

section
variable {β : Type}
theorem SL.at1 {h : H} {p : Option (Nat × Nat)} {len : Nat} {c : Cap} {vs : List AV} (s : SL h 1 p len c vs) {k : Nat} {v : AV} (hv : vs[k]? = some v) (f : AV → Option β) :
    (nnK p fun b o => cellK h b (o + k) f) = f v := by
  cases s with
  | nil => simp at hv
  | row hg hvs hl hc =>
    subst hvs
    have hk : k < len := by have := (List.getElem?_eq_some_iff.1 hv).1; simp at this; omega
    rw [List.getElem?_take, if_pos (by omega), List.getElem?_drop] at hv
    exact cellK_of hg hv f

theorem SL.upto {h : H} {size : Nat} {p : Option (Nat × Nat)} {len : Nat} {c : Cap} {vs : List AV} (s : SL h size p len c vs) {k : IntKind} {hi : Int} (h0 : 0 ≤ hi) (h1 : hi ≤ len) :
    ∃ p' c', SL h size p' hi.toNat c' (vs.take (hi.toNat * size)) ∧ ∀ f : Option (Nat × Nat) → Nat → Cap → Option β, slK size p len c none (some (.int k hi)) none f = f p' hi.toNat c' := by
  cases s with
  | nil =>
    obtain rfl : hi = 0 := by omega
    exact ⟨none, .known 0, by simpa using .nil, fun f => by simp [slK, evSliceS, evBounds, evBound]⟩
  | row hg hvs hl hc =>
    rename_i b o cs ro
    subst hvs
    have hmul : hi.toNat * size ≤ len * size := Nat.mul_le_mul_right _ (by omega)
    have ht : (List.take (len * size) (cs.drop o)).take (hi.toNat * size) = (cs.drop o).take (hi.toNat * size) := by rw [List.take_take, Nat.min_eq_left hmul]
    rcases hc with rfl | ⟨q, rfl, hq⟩
    · exact ⟨some (b, o), .rest size, .row hg ht.symm (by omega) (.inl rfl), fun f => by simp [slK, evSliceS, evBounds, evBound, h0, h1]⟩
    · refine ⟨some (b, o), .known q, .row hg ht.symm (by omega) (.inr ⟨q, rfl, by omega⟩), fun f => ?_⟩
      have h2 : hi ≤ q := by omega
      by_cases hq0 : q = 0
      · subst hq0
        obtain rfl : hi = 0 := by omega
        simp [slK, evSliceS, evBounds, evBound, hq]
      · simp [slK, evSliceS, evBounds, evBound, h0, h2, hq, hq0]

theorem SL.from {h : H} {size : Nat} {p : Option (Nat × Nat)} {len : Nat} {c : Cap} {vs : List AV} (s : SL h size p len c vs) {k : IntKind} {lo : Int} (h0 : 0 ≤ lo) (h1 : lo ≤ len) :
    ∃ p' c', SL h size p' (len - lo.toNat) c' (vs.drop (lo.toNat * size)) ∧ ∀ f : Option (Nat × Nat) → Nat → Cap → Option β, slK size p len c (some (.int k lo)) none none f = f p' (len - lo.toNat) c' := by
  cases s with
  | nil =>
    obtain rfl : lo = 0 := by omega
    exact ⟨none, .known 0, by simpa using .nil, fun f => by simp [slK, evSliceS, evBounds, evBound]⟩
  | row hg hvs hl hc =>
    rename_i b o cs ro
    subst hvs
    have hadd : lo.toNat * size + (len - lo.toNat) * size = len * size := by rw [← Nat.add_mul]; congr 1; omega
    have ht : ((cs.drop o).take (len * size)).drop (lo.toNat * size) = (cs.drop (o + lo.toNat * size)).take ((len - lo.toNat) * size) := by
      rw [List.drop_take, List.drop_drop]; congr 1; omega
    rcases hc with rfl | ⟨q, rfl, hq⟩
    · exact ⟨some (b, o + lo.toNat * size), .rest size, .row hg ht.symm (by omega) (.inl rfl), fun f => by simp [slK, evSliceS, evBounds, evBound, h0, h1]⟩
    · by_cases hql : q = lo.toNat
      · refine ⟨some (b, o), .known (q - lo.toNat), ?_, fun f => by
          have h2 : (len : Int) ≤ lo := by omega
          simp [slK, evSliceS, evBounds, evBound, h0, h1, hq, hql, h2]⟩
        have : len - lo.toNat = 0 := by omega
        rw [this] at ht ⊢
        exact .row hg (by rw [ht]; simp) (by omega) (.inr ⟨_, rfl, by omega⟩)
      · exact ⟨some (b, o + lo.toNat * size), .known (q - lo.toNat), .row hg ht.symm (by omega) (.inr ⟨_, rfl, by omega⟩), fun f => by simp [slK, evSliceS, evBounds, evBound, h0, h1, hq, hql]⟩
end

end Go.Ev

namespace Go.Ev
/-! ### an array that is filled place after place -/

end Go.Ev

namespace Go.Ev
/-! ### equality of arrays of numbers -/

end Go.Ev

namespace Go.Ev
/-! ### plain arguments, opened -/

theorem fits_ints {k : IntKind} : ∀ {n : Nat} {vs : List AV}, Fits (List.replicate n (.int k)) vs → ∃ l : List Int, vs = l.map (.int k) ∧ l.length = n ∧ ∀ x ∈ l, (Lit.int k x).wf = true
  | 0, _, h => by cases h; exact ⟨[], rfl, rfl, by simp⟩
  | n + 1, _, h => by
    rw [List.replicate_succ] at h
    cases h with
    | cons h1 h2 =>
      obtain ⟨x, rfl, hx⟩ := h1
      obtain ⟨l, rfl, hl, hw⟩ := fits_ints h2
      exact ⟨x :: l, rfl, by simp [hl], fun y hy => (List.mem_cons.1 hy).elim (fun e => e ▸ hx) (hw y)⟩

/-! ### bytes and texts -/

end Go.Ev
