/- The abstract machine Ev, part T: small laws for proofs about printed functions: heaps, cells, rows, numbers. -/
import Derived.Test.YtkikfnpanlcajaaDoorEvS
set_option linter.all false
namespace Go.Ev

/-! ### heaps -/

@[simp] theorem get_new_self (h : H) (o : AObj) : (h.new o).get h.next = some o := by simp [H.new]
theorem get_new_lt {h : H} {o : AObj} {i : Nat} (hi : i < h.next) : (h.new o).get i = h.get i := by simp only [H.new]; rw [if_neg (by omega)]
@[simp] theorem next_new (h : H) (o : AObj) : (h.new o).next = h.next + 1 := rfl
@[simp] theorem get_set_self (h : H) (i : Nat) (o : AObj) : (h.set i o).get i = some o := by simp [H.set]
theorem get_set_ne {h : H} {i j : Nat} {o : AObj} (hi : j ≠ i) : (h.set i o).get j = h.get j := by simp only [H.set]; rw [if_neg hi]
@[simp] theorem next_set (h : H) (i : Nat) (o : AObj) : (h.set i o).next = h.next := rfl
@[simp] theorem set_set (h : H) (i : Nat) (o o' : AObj) : (h.set i o).set i o' = h.set i o' := by
  simp only [H.set, H.mk.injEq, true_and]; funext j; split <;> rfl

/-- what was there is as it was -/
structure Quiet (h h' : H) : Prop where
  next : h.next ≤ h'.next
  get : ∀ i, i < h.next → h'.get i = h.get i

theorem Quiet.refl (h : H) : Quiet h h := ⟨Nat.le_refl _, fun _ _ => rfl⟩
theorem Quiet.trans {a b c : H} (h : Quiet a b) (k : Quiet b c) : Quiet a c := ⟨Nat.le_trans h.next k.next, fun i hi => (k.get i (Nat.lt_of_lt_of_le hi h.next)).trans (h.get i hi)⟩
theorem Quiet.new {a h : H} (q : Quiet a h) (o : AObj) : Quiet a (h.new o) := ⟨Nat.le_trans q.next (Nat.le_succ _), fun i hi => (get_new_lt (Nat.lt_of_lt_of_le hi q.next)).trans (q.get i hi)⟩
theorem Quiet.set {a h : H} (q : Quiet a h) {b : Nat} (hb : a.next ≤ b) (o : AObj) : Quiet a (h.set b o) := ⟨q.next, fun i hi => (get_set_ne (by omega)).trans (q.get i hi)⟩
theorem Quiet.next_lt {a h : H} (q : Quiet a h) {i : Nat} (hi : i < a.next) : i < h.next := Nat.lt_of_lt_of_le hi q.next

theorem WF_put {h : H} (hw : h.WF) {i : Nat} (hi : i < h.next) (o : AObj) : (h.set i o).WF := by
  intro j x hj
  simp only [H.set] at hj ⊢
  split at hj
  · rename_i e; omega
  · exact hw j x hj
theorem WF_make {h : H} (hw : h.WF) (o : AObj) : (h.new o).WF := by
  intro j x hj
  simp only [H.new] at hj ⊢
  split at hj
  · omega
  · have := hw j x hj; omega
theorem WF_H0 (rows : Rows0) : (H0 rows).WF := by
  intro i o hi
  simp only [H0, Option.map_eq_some_iff] at hi ⊢
  obtain ⟨x, hx, _⟩ := hi
  exact (List.getElem?_eq_some_iff.1 hx).1

/-! ### steps -/

/-- not by unfolding: what is rewritten with it is not compared -/
theorem nr {α : Sort _} {a b : α} (h : a = b) : a = b := h

section
variable {β : Type}
@[simp] theorem nnK_some' (b o : Nat) (f : Nat → Nat → Option β) : nnK (some (b, o)) f = f b o := nr rfl
@[simp] theorem asInt_int (k : IntKind) (n : Int) (f : Int → Option β) : asInt k (.int k n) f = f n := by simp [asInt]
@[simp] theorem asBool_bool (b : Bool) (f : Bool → Option β) : asBool (.bool b) f = f b := nr rfl
@[simp] theorem asStr_str (s : ByteArray) (f : ByteArray → Option β) : asStr (.str s) f = f s := nr rfl
@[simp] theorem asPtr_ptr (p : Option (Nat × Nat)) (f : Option (Nat × Nat) → Option β) : asPtr (.ptr p) f = f p := nr rfl
@[simp] theorem asSlice_slice (p : Option (Nat × Nat)) (l : Nat) (c : Cap) (f : Option (Nat × Nat) → Nat → Cap → Option β) : asSlice (.slice p l c) f = f p l c := nr rfl
@[simp] theorem asMap_map (p : Option Nat) (f : Option Nat → Option β) : asMap (.map p) f = f p := nr rfl
@[simp] theorem asAgg_agg (l : List AV) (f : List AV → Option β) : asAgg (.agg l) f = f l := nr rfl
@[simp] theorem l0_nil (f : Option β) : l0 [] f = f := nr rfl
@[simp] theorem lc_cons (v : AV) (l : List AV) (f : AV → List AV → Option β) : lc (v :: l) f = f v l := nr rfl
@[simp] theorem newK_eq (o : AObj) (h : H) (f : Nat → H → Option β) : newK o h f = f h.next (h.new o) := nr rfl
theorem atK_of {l : List AV} {o : Nat} {v : AV} (hv : l[o]? = some v) (f : AV → Option β) : atK l o f = f v := by simp [atK, hv]
theorem cellK_of {h : H} {i o : Nat} {cs : List AV} {ro : Bool} {v : AV} (hg : h.get i = some (.cells cs ro)) (hv : cs[o]? = some v) (f : AV → Option β) : cellK h i o f = f v := by simp [cellK, hg, hv]
theorem aggK_of {h : H} {i o n : Nat} {cs : List AV} {ro : Bool} (hg : h.get i = some (.cells cs ro)) (hn : o + n ≤ cs.length) (f : List AV → Option β) : aggK h i o n f = f ((cs.drop o).take n) := by simp [aggK, hg, hn]
theorem aggK_all {h : H} {i n : Nat} {cs : List AV} {ro : Bool} (hg : h.get i = some (.cells cs ro)) (hn : cs.length = n) (f : List AV → Option β) : aggK h i 0 n f = f cs := by
  rw [aggK_of hg (by omega)]; simp [← hn]
theorem wrK_of {h : H} {i o n : Nat} {cs xs : List AV} (hg : h.get i = some (.cells cs false)) (hn : xs.length = n) (hl : o + n ≤ cs.length) (hc : xs.all isCell = true) (f : H → Option β) :
    wrK h i o n xs f = f (h.set i (.cells (spl cs o xs) false)) := by
  simp only [wrK, hg]; rw [if_pos ⟨hn, by omega, hc⟩]
theorem wrK_one {h : H} {i o : Nat} {cs : List AV} {x : AV} (hg : h.get i = some (.cells cs false)) (hl : o < cs.length) (hc : isCell x = true) (f : H → Option β) :
    wrK h i o 1 [x] f = f (h.set i (.cells (cs.set o x) false)) := wrK_of hg rfl (show o + 1 ≤ cs.length from hl) (by simp [hc]) f
@[simp] theorem blkP_some (b o : Nat) : blkP (some (b, o)) = some b := rfl
@[simp] theorem blkP_none : blkP none = none := rfl
@[simp] theorem sameK_same (h : H) (b : Option Nat) (x : Option β) : sameK h h b x = x := by cases b <;> simp [sameK]
@[simp] theorem sameK_none (h h' : H) (x : Option β) : sameK h h' none x = x := nr rfl
theorem sameK_of {h h' : H} {b : Nat} (e : h'.get b = h.get b) (x : Option β) : sameK h h' (some b) x = x := by simp only [sameK]; rw [if_pos e]
end

theorem spl_all : ∀ (xs l : List AV), xs.length = l.length → spl l 0 xs = xs := by
  intro xs l h
  apply List.ext_getElem?
  intro k
  rw [spl_get xs l 0 (by omega)]
  by_cases hk : k < xs.length
  · simp [hk]
  · rw [if_neg (by omega), List.getElem?_eq_none (by omega), List.getElem?_eq_none (by omega)]

/-! ### rows seen through slices -/

/-- the slice's elements are the cells vs (size cells each) -/
inductive SL (h : H) (size : Nat) : Option (Nat × Nat) → Nat → Cap → List AV → Prop
  | nil : SL h size none 0 (.known 0) []
  | row {b o len : Nat} {c : Cap} {cs : List AV} {ro : Bool} {vs : List AV} (hg : h.get b = some (.cells cs ro)) (hv : (cs.drop o).take (len * size) = vs) (hl : o + len * size ≤ cs.length) (hc : c = .rest size ∨ ∃ k, c = .known k ∧ len ≤ k) : SL h size (some (b, o)) len c vs

theorem SL.length {h : H} {size : Nat} {p : Option (Nat × Nat)} {len : Nat} {c : Cap} {vs : List AV} (s : SL h size p len c vs) : vs.length = len * size := by
  cases s with
  | nil => simp
  | row hg hv hl hc => subst hv; simp; omega

theorem SL.quiet {h h' : H} {size : Nat} {p : Option (Nat × Nat)} {len : Nat} {c : Cap} {vs : List AV} (s : SL h size p len c vs) (hw : h.WF) (q : Quiet h h') : SL h' size p len c vs := by
  cases s with
  | nil => exact .nil
  | row hg hv hl hc => exact .row ((q.get _ (hw _ _ hg)).trans hg) hv hl hc

theorem SL.of_arg {rows : Rows0} {i : Nat} {ks : List FK} {p : Option (Nat × Nat)} {len : Nat} {c : Cap} {tg : Option Tgt} {cs : List AV} {B : Nat} (hi : rows[i]? = some (tg, cs)) (a : Arg i ks B p len c cs) : SL (H0 rows) ks.length p len c (cs.take (len * ks.length)) := by
  obtain ⟨cap, hl, hm, hf, h⟩ := a.look
  have hlen : cs.length = cap * ks.length := by rw [hf.length]; simp
  rcases h with ⟨rfl, rfl, rfl, rfl⟩ | ⟨rfl, h⟩
  · simp; exact .nil
  · refine .row (cs := cs) (ro := true) (by simp [H0, hi]) (by simp) ?_ ?_
    · rw [hlen, Nat.zero_add]; exact Nat.mul_le_mul_right _ hl
    · rcases h with rfl | ⟨rfl, rfl⟩
      · exact .inl rfl
      · exact .inr ⟨0, rfl, hl⟩

section
variable {β : Type}
theorem SL.at1 {h : H} {p : Option (Nat × Nat)} {len : Nat} {c : Cap} {vs : List AV} (s : SL h 1 p len c vs) {k : Nat} {v : AV} (hv : vs[k]? = some v) (f : AV → Option β) :
    (nnK p fun b o => cellK h b (o + k) f) = f v := by
  cases s with
  | nil => simp at hv
  | row hg hvs hl hc =>
    subst hvs
    have hk : k < len := by have := (List.getElem?_eq_some_iff.1 hv).1; simp at this; omega
    rw [List.getElem?_take, if_pos (by omega), List.getElem?_drop] at hv
    exact cellK_of hg hv f

theorem SL.upto {h : H} {size : Nat} {p : Option (Nat × Nat)} {len : Nat} {c : Cap} {vs : List AV} (s : SL h size p len c vs) {k : IntKind} {hi : Int} (h0 : 0 ≤ hi) (h1 : hi ≤ len) :
    ∃ p' c', SL h size p' hi.toNat c' (vs.take (hi.toNat * size)) ∧ ∀ f : Option (Nat × Nat) → Nat → Cap → Option β, slK size p len c none (some (.int k hi)) none f = f p' hi.toNat c' := by
  cases s with
  | nil =>
    obtain rfl : hi = 0 := by omega
    exact ⟨none, .known 0, by simpa using .nil, fun f => by simp [slK, evSliceS, evBounds, evBound]⟩
  | row hg hvs hl hc =>
    rename_i b o cs ro
    subst hvs
    have hmul : hi.toNat * size ≤ len * size := Nat.mul_le_mul_right _ (by omega)
    have ht : (List.take (len * size) (cs.drop o)).take (hi.toNat * size) = (cs.drop o).take (hi.toNat * size) := by rw [List.take_take, Nat.min_eq_left hmul]
    rcases hc with rfl | ⟨q, rfl, hq⟩
    · exact ⟨some (b, o), .rest size, .row hg ht.symm (by omega) (.inl rfl), fun f => by simp [slK, evSliceS, evBounds, evBound, h0, h1]⟩
    · refine ⟨some (b, o), .known q, .row hg ht.symm (by omega) (.inr ⟨q, rfl, by omega⟩), fun f => ?_⟩
      have h2 : hi ≤ q := by omega
      by_cases hq0 : q = 0
      · subst hq0
        obtain rfl : hi = 0 := by omega
        simp [slK, evSliceS, evBounds, evBound, hq]
      · simp [slK, evSliceS, evBounds, evBound, h0, h2, hq, hq0]

theorem SL.from {h : H} {size : Nat} {p : Option (Nat × Nat)} {len : Nat} {c : Cap} {vs : List AV} (s : SL h size p len c vs) {k : IntKind} {lo : Int} (h0 : 0 ≤ lo) (h1 : lo ≤ len) :
    ∃ p' c', SL h size p' (len - lo.toNat) c' (vs.drop (lo.toNat * size)) ∧ ∀ f : Option (Nat × Nat) → Nat → Cap → Option β, slK size p len c (some (.int k lo)) none none f = f p' (len - lo.toNat) c' := by
  cases s with
  | nil =>
    obtain rfl : lo = 0 := by omega
    exact ⟨none, .known 0, by simpa using .nil, fun f => by simp [slK, evSliceS, evBounds, evBound]⟩
  | row hg hvs hl hc =>
    rename_i b o cs ro
    subst hvs
    have hadd : lo.toNat * size + (len - lo.toNat) * size = len * size := by rw [← Nat.add_mul]; congr 1; omega
    have ht : ((cs.drop o).take (len * size)).drop (lo.toNat * size) = (cs.drop (o + lo.toNat * size)).take ((len - lo.toNat) * size) := by
      rw [List.drop_take, List.drop_drop]; congr 1; omega
    rcases hc with rfl | ⟨q, rfl, hq⟩
    · exact ⟨some (b, o + lo.toNat * size), .rest size, .row hg ht.symm (by omega) (.inl rfl), fun f => by simp [slK, evSliceS, evBounds, evBound, h0, h1]⟩
    · by_cases hql : q = lo.toNat
      · refine ⟨some (b, o), .known (q - lo.toNat), ?_, fun f => by
          have h2 : (len : Int) ≤ lo := by omega
          simp [slK, evSliceS, evBounds, evBound, h0, h1, hq, hql, h2]⟩
        have : len - lo.toNat = 0 := by omega
        rw [this] at ht ⊢
        exact .row hg (by rw [ht]; simp) (by omega) (.inr ⟨_, rfl, by omega⟩)
      · exact ⟨some (b, o + lo.toNat * size), .known (q - lo.toNat), .row hg ht.symm (by omega) (.inr ⟨_, rfl, by omega⟩), fun f => by simp [slK, evSliceS, evBounds, evBound, h0, h1, hq, hql]⟩
end

end Go.Ev

namespace Go.Ev
/-! ### an array that is filled place after place -/

def fillTo (n : Nat) (f : Nat → AV) (i : Nat) (z : AV) : List AV := (List.range i).map f ++ List.replicate (n - i) z

theorem length_fillTo {n : Nat} {f : Nat → AV} {i : Nat} {z : AV} (hi : i ≤ n) : (fillTo n f i z).length = n := by simp [fillTo]; omega
theorem fillTo_zero (n : Nat) (f : Nat → AV) (z : AV) : fillTo n f 0 z = List.replicate n z := by simp [fillTo]
theorem fillTo_all (n : Nat) (f : Nat → AV) (z : AV) : fillTo n f n z = (List.range n).map f := by simp [fillTo]
theorem fillTo_set {n : Nat} {f : Nat → AV} {i : Nat} {z : AV} (hi : i < n) : (fillTo n f i z).set i (f i) = fillTo n f (i + 1) z := by
  unfold fillTo
  rw [List.set_append_right _ _ (by simp)]
  obtain ⟨k, hk⟩ : ∃ k, n - i = k + 1 := ⟨n - i - 1, by omega⟩
  rw [hk, List.replicate_succ, List.range_succ, List.map_append, List.append_assoc, show n - (i + 1) = k by omega]
  simp
end Go.Ev

namespace Go.Ev
/-! ### equality of arrays of numbers -/

theorem eqItems_ints {P : Program} {e : TypeId} {k : IntKind} (he : P.underlying e = some (.int k)) {d : Nat} (xs ys : List Int) : ∀ (l : List Nat), (∀ i ∈ l, i < xs.length ∧ i < ys.length) →
    eqItemsB P (evEqB P (d + 1)) e 1 (xs.map (.int k)) (ys.map (.int k)) l = some (l.all fun i => xs[i]? == ys[i]?)
  | [], _ => rfl
  | i :: l, h => by
    obtain ⟨h1, h2⟩ := h i (by simp)
    have ih := eqItems_ints he (d := d) xs ys l fun j hj => h j (by simp [hj])
    have hx : evPart P e (xs.map (.int k)) (i * 1) = some (.int k xs[i]) := by simp [evPart, he, aggB, h1]
    have hy : evPart P e (ys.map (.int k)) (i * 1) = some (.int k ys[i]) := by simp [evPart, he, aggB, h2]
    have hq : evEqB P (d + 1) e (.int k xs[i]) (.int k ys[i]) = some (xs[i] == ys[i]) := by simp [evEqB, evEq, he]
    simp only [eqItemsB, hx, hy, hq, ih, List.all_cons]
    simp [h1, h2]

theorem all_range_eq {α : Type} [BEq α] [LawfulBEq α] {xs ys : List α} {n : Nat} (hx : xs.length = n) (hy : ys.length = n) : ((List.range n).all fun i => xs[i]? == ys[i]?) = (xs == ys) := by
  rw [Bool.eq_iff_iff]
  simp only [List.all_eq_true, List.mem_range, beq_iff_eq]
  refine ⟨fun h => List.ext_getElem? fun i => ?_, fun h i _ => by rw [h]⟩
  by_cases hi : i < n
  · exact h i hi
  · rw [List.getElem?_eq_none (by omega), List.getElem?_eq_none (by omega)]

theorem eqVK_ints {β : Type} {P : Program} {t e : TypeId} {n : Nat} {k : IntKind} {inf : TypeInfo} (ht : P.underlying t = some (.array n e)) (he : P.underlying e = some (.int k)) (hi : P.info? e = some inf) (hs : inf.size = 1) {xs ys : List Int} (hx : xs.length = n) (hy : ys.length = n) (f : Bool → Option β) :
    eqVK P t (.agg (xs.map (.int k))) (.agg (ys.map (.int k))) f = f (xs == ys) := by
  have h : evEqB P (9998 + 1 + 1) t (.agg (xs.map (.int k))) (.agg (ys.map (.int k))) = some (xs == ys) := by
    rw [evEqB]
    simp only [ht, hi, hs]
    rw [eqItems_ints he xs ys _ (fun i hi => by simp at hi; omega), all_range_eq hx hy]
  unfold eqVK
  rw [show Op.maxDepth = 9998 + 1 + 1 from rfl, h]

/-- the same, of any values: where what is compared comes out -/
theorem info_some {P : Program} {t : TypeId} {s : Nat} (h : (P.info? t).map (·.size) = some s) : ∃ inf, P.info? t = some inf ∧ inf.size = s := by
  obtain ⟨inf, h1, h2⟩ := Option.map_eq_some_iff.1 h
  exact ⟨inf, h1, h2⟩
end Go.Ev

namespace Go.Ev
/-! ### plain arguments, opened -/

theorem fits_ints {k : IntKind} : ∀ {n : Nat} {vs : List AV}, Fits (List.replicate n (.int k)) vs → ∃ l : List Int, vs = l.map (.int k) ∧ l.length = n ∧ ∀ x ∈ l, (Lit.int k x).wf = true
  | 0, _, h => by cases h; exact ⟨[], rfl, rfl, by simp⟩
  | n + 1, _, h => by
    rw [List.replicate_succ] at h
    cases h with
    | cons h1 h2 =>
      obtain ⟨x, rfl, hx⟩ := h1
      obtain ⟨l, rfl, hl, hw⟩ := fits_ints h2
      exact ⟨x :: l, rfl, by simp [hl], fun y hy => (List.mem_cons.1 hy).elim (fun e => e ▸ hx) (hw y)⟩

theorem flatten_one {α : Type} (a : α) : ∀ n, (List.replicate n [a]).flatten = List.replicate n a
  | 0 => rfl
  | n + 1 => by rw [List.replicate_succ, List.flatten_cons, flatten_one a n, List.replicate_succ]; rfl

/-- a slice of numbers that came in -/
theorem arg_ints {i : Nat} {k : IntKind} {B : Nat} {p : Option (Nat × Nat)} {len : Nat} {c : Cap} {cs : List AV} (a : Arg i [.int k] B p len c cs) : ∃ zs : List Int, cs = zs.map (.int k) ∧ len ≤ zs.length ∧ zs.length * B ≤ reachBytes ∧ ∀ x ∈ zs, (Lit.int k x).wf = true := by
  obtain ⟨cap, hl, hm, hf, _⟩ := a.look
  rw [flatten_one] at hf
  obtain ⟨zs, h1, h2, h3⟩ := fits_ints hf
  exact ⟨zs, h1, by omega, by rw [h2]; exact hm, h3⟩

theorem sl_ints {rows : Rows0} {i : Nat} {k : IntKind} {B : Nat} {p : Option (Nat × Nat)} {len : Nat} {c : Cap} {tg : Option Tgt} {cs : List AV} (hi : rows[i]? = some (tg, cs)) (a : Arg i [.int k] B p len c cs) :
    ∃ zs : List Int, zs.length = len ∧ len * B ≤ reachBytes ∧ SL (H0 rows) 1 p len c (zs.map (.int k)) ∧ ∀ x ∈ zs, (Lit.int k x).wf = true := by
  obtain ⟨zs, h1, h2, h3, h4⟩ := arg_ints a
  have s := SL.of_arg hi a
  rw [h1] at s
  refine ⟨zs.take len, by simp; omega, Nat.le_trans (Nat.mul_le_mul_right _ h2) h3, ?_, fun x hx => h4 x (List.mem_of_mem_take hx)⟩
  simpa [List.map_take] using s

/-! ### bytes and texts -/

theorem evNums_map : ∀ l : List Int, evNums (l.map (.int .u8)) = some l
  | [] => rfl
  | x :: l => by
    have := evNums_map l
    unfold evNums at this ⊢
    simp [this]

theorem bsK_of {β : Type} {h : H} {p : Option (Nat × Nat)} {len : Nat} {c : Cap} {bs : List Int} (s : SL h 1 p len c (bs.map (.int .u8))) (f : ByteArray → Option β) : bsK h (.slice p len c) f = f (strOfNums bs) := by
  have hlen := s.length
  simp only [List.length_map, Nat.mul_one] at hlen
  generalize hvs : bs.map (AV.int .u8) = vs at s
  cases s with
  | nil =>
    have : bs = [] := List.eq_nil_of_length_eq_zero hlen
    subst this
    rfl
  | row hg hv hl hc =>
    unfold bsK
    simp only [evBytesStr]
    by_cases h0 : len = 0
    · subst h0
      have : bs = [] := List.eq_nil_of_length_eq_zero hlen
      subst this
      rfl
    · rw [if_neg h0, hg]
      simp only [Nat.mul_one] at hv hl
      simp only [hl, if_true, hv, ← hvs, evNums_map, Option.map_some]

/-- a fresh, empty row, to which a row is appended: a copy of it -/
theorem append_copy {β : Type} {h : H} {size bytes : Nat} {p : Option (Nat × Nat)} {len : Nat} {c : Cap} {vs : List AV} (s : SL h size p len c vs) {i : Nat} {old : List AV} {ro : Bool} (hi : h.get i = some (.cells old ro)) (hb : len * bytes ≤ 140737488355328) (h63 : len ≤ 9223372036854775807)
    (f : Option (Nat × Nat) → Nat → Cap → H → Option β) :
    (len = 0 ∧ appK size bytes (some (i, 0)) 0 (.known 0) (evSrc size (.slice p len c) h) h f = f (some (i, 0)) 0 (.known 0) h) ∨
      appK size bytes (some (i, 0)) 0 (.known 0) (evSrc size (.slice p len c) h) h f = f (some (h.next, 0)) len (.rest size) (h.new (.cells vs false)) := by
  by_cases h0 : len = 0
  · left
    refine ⟨h0, ?_⟩
    have : evSrc size (.slice p len c) h = some (0, []) := by
      subst h0
      cases s <;> simp [evSrc]
    simp [appK, this, evApp]
  · right
    have hs : evSrc size (.slice p len c) h = some (len, vs) := by
      cases s with
      | nil => exact absurd rfl h0
      | row hg hv hl hc => simp [evSrc, h0, hg, hl, hv]
    simp only [appK, hs, evApp, Nat.zero_add]
    rw [if_neg (by omega), if_pos ⟨hb, h63⟩, hi]
    simp
end Go.Ev
