/- Own texts, joined: EvU EvX EvV EvY EvZ EvW EvIn EvRe. -/
import Derived.Test.YtongjlmclckboaaDoorM2
import Derived.Laws.Strings
import Derived.Lib.Bytealg
import Derived.Laws.RangeString
set_option linter.all false
/- The abstract machine Ev, part U: what a printed function comes to (Ret), what it leaves as it was (Mod), rows (Row), rows that grow (Grow), maps. -/
namespace Go.Ev
section
variable {α β : Type}
def Ret (c : Option (α × H)) (Q : α → H → Prop) : Prop := ∃ r h', c = some (r, h') ∧ Q r h'
theorem Ret.pure {r : α} {h : H} {Q : α → H → Prop} (q : Q r h) : Ret (some (r, h)) Q := ⟨r, h, rfl, q⟩
theorem Ret.bind {c : Option (α × H)} {P : α → H → Prop} {f : α × H → Option (β × H)} {Q : β → H → Prop} (hc : Ret c P) (hf : ∀ r h, P r h → Ret (f (r, h)) Q) : Ret (c.bind f) Q := by
 obtain ⟨r, h, rfl, p⟩ := hc
 exact hf r h p
theorem Ret.mono {c : Option (α × H)} {P Q : α → H → Prop} (hc : Ret c P) (hf : ∀ r h, P r h → Q r h) : Ret c Q := by
 obtain ⟨r, h, e, p⟩ := hc
 exact ⟨r, h, e, hf r h p⟩
end
structure Mod (S : List Nat) (h h' : H) : Prop where
 next : h.next ≤ h'.next
 get : ∀ i, i < h.next → i ∉ S → h'.get i = h.get i
theorem Mod.refl (S : List Nat) (h : H) : Mod S h h := ⟨Nat.le_refl _, fun _ _ _ => rfl⟩
theorem Mod.trans {S : List Nat} {a b c : H} (p : Mod S a b) (q : Mod S b c) : Mod S a c := ⟨Nat.le_trans p.next q.next, fun i hi hS => (q.get i (Nat.lt_of_lt_of_le hi p.next) hS).trans (p.get i hi hS)⟩
theorem Mod.trans' {S T : List Nat} {a b c : H} (p : Mod S a b) (q : Mod T b c) (ht : ∀ i ∈ T, i < a.next → i ∈ S) : Mod S a c :=
 ⟨Nat.le_trans p.next q.next, fun i hi hS => (q.get i (Nat.lt_of_lt_of_le hi p.next) fun h => hS (ht i h hi)).trans (p.get i hi hS)⟩
theorem Mod.sub {S T : List Nat} {a b : H} (p : Mod T a b) (ht : ∀ i ∈ T, i < a.next → i ∈ S) : Mod S a b := ⟨p.next, fun i hi hS => p.get i hi fun h => hS (ht i h hi)⟩
theorem Mod.of_nil {S : List Nat} {a b : H} (p : Mod [] a b) : Mod S a b := p.sub fun i h => by cases h
theorem Mod.new {S : List Nat} {a h : H} (q : Mod S a h) (o : AObj) : Mod S a (h.new o) := ⟨Nat.le_trans q.next (Nat.le_succ _), fun i hi hS => (get_new_lt (Nat.lt_of_lt_of_le hi q.next)).trans (q.get i hi hS)⟩
theorem Mod.set {S : List Nat} {a h : H} (q : Mod S a h) {b : Nat} (hb : a.next ≤ b ∨ b ∈ S) (o : AObj) : Mod S a (h.set b o) :=
 ⟨q.next, fun i hi hS => (get_set_ne fun e => by subst e; exact hb.elim (fun h => Nat.lt_irrefl _ (Nat.lt_of_lt_of_le hi h)) hS).trans (q.get i hi hS)⟩
theorem get_kill_ne {h : H} {i j : Nat} (hi : j ≠ i) : (h.kill i).get j = h.get j := by simp only [H.kill]; rw [if_neg hi]
@[simp] theorem next_kill (h : H) (i : Nat) : (h.kill i).next = h.next := rfl
theorem Mod.kill {S : List Nat} {a h : H} (q : Mod S a h) {b : Nat} (hb : a.next ≤ b ∨ b ∈ S) : Mod S a (h.kill b) :=
 ⟨q.next, fun i hi hS => (get_kill_ne fun e => by subst e; exact hb.elim (fun h => Nat.lt_irrefl _ (Nat.lt_of_lt_of_le hi h)) hS).trans (q.get i hi hS)⟩
theorem Mod.lt {S : List Nat} {a b : H} (m : Mod S a b) {i : Nat} (h : i < a.next) : i < b.next := Nat.lt_of_lt_of_le h m.next
theorem sameK_mod {β : Type} {h h' : H} {S : List Nat} (q : Mod S h h') {b : Nat} (hb : b < h.next) (hS : b ∉ S) (x : Option β) : sameK h h' (some b) x = x := sameK_of (q.get b hb hS) x
def own (p : Option (Nat × Nat)) : List Nat := match p with | some (b, _) => [b] | none => []
@[simp] theorem own_none : own none = [] := rfl
@[simp] theorem own_some (b o : Nat) : own (some (b, o)) = [b] := rfl
theorem wrap_i64 {x : Int} (h0 : -9223372036854775808 ≤ x) (h1 : x < 9223372036854775808) : IntKind.i64.wrap x = x := by
 simp only [IntKind.wrap, IntKind.bits, IntKind.signed]
 simp; split <;> omega
theorem wrap_u64 {x : Int} (h0 : 0 ≤ x) (h1 : x < 18446744073709551616) : IntKind.u64.wrap x = x := by
 simp only [IntKind.wrap, IntKind.bits, IntKind.signed]
 simp; omega
theorem wrap_u8 {x : Int} (h0 : 0 ≤ x) (h1 : x < 256) : IntKind.u8.wrap x = x := by
 simp only [IntKind.wrap, IntKind.bits, IntKind.signed]
 simp; omega
theorem wrap_succ {k : Nat} (h : k < 9223372036854775807) : IntKind.i64.wrap ((k : Int) + 1) = ((k + 1 : Nat) : Int) := by
 rw [wrap_i64 (by omega) (by omega)]; rfl
theorem cast_lt {a b : Nat} (h : a < b) : decide ((a : Int) < (b : Int)) = true := by simp; omega
theorem cast_not_lt {a b : Nat} (h : b ≤ a) : decide ((a : Int) < (b : Int)) = false := by simp; omega
section
variable {α β : Type}
theorem length_flat {enc : α → List AV} {s : Nat} (hs : ∀ x, (enc x).length = s) : ∀ xs : List α, (xs.flatMap enc).length = xs.length * s
 | [] => by simp
 | x :: xs => by rw [List.flatMap_cons, List.length_append, length_flat hs xs, hs, List.length_cons, Nat.add_mul]; omega
theorem drop_flat {enc : α → List AV} {s : Nat} (hs : ∀ x, (enc x).length = s) : ∀ (xs : List α) (k : Nat), (xs.flatMap enc).drop (k * s) = (xs.drop k).flatMap enc
 | xs, 0 => by simp
 | [], k + 1 => by simp
 | x :: xs, k + 1 => by
  rw [List.flatMap_cons, List.drop_succ_cons, ← drop_flat hs xs k, Nat.add_mul, Nat.one_mul, Nat.add_comm, ← List.drop_drop, ← hs x, List.drop_left]
theorem flat_at {enc : α → List AV} {s : Nat} (hs : ∀ x, (enc x).length = s) {xs : List α} {k : Nat} {x : α} (hx : xs[k]? = some x) : ((xs.flatMap enc).drop (k * s)).take s = enc x := by
 rw [drop_flat hs]
 obtain ⟨h, rfl⟩ := List.getElem?_eq_some_iff.1 hx
 rw [List.drop_eq_getElem_cons h, List.flatMap_cons, ← hs xs[k], List.take_left]
theorem flat_get {enc : α → List AV} {s : Nat} (hs : ∀ x, (enc x).length = s) {xs : List α} {k : Nat} {x : α} (hx : xs[k]? = some x) {j : Nat} (hj : j < s) : (xs.flatMap enc)[k * s + j]? = (enc x)[j]? := by
 rw [← flat_at hs hx, List.getElem?_take, if_pos hj, List.getElem?_drop]
end
inductive Row (h : H) (size : Nat) : Option (Nat × Nat) → Nat → Cap → List AV → Prop
 | nil : Row h size none 0 (.known 0) []
 | row {b o len : Nat} {c : Cap} {cs : List AV} {ro : Bool} {vs : List AV} (hb : b < h.next) (hg : h.get b = some (.cells cs ro)) (hv : (cs.drop o).take (len * size) = vs) (hl : o + len * size ≤ cs.length) (hc : c = .rest size ∨ ∃ k, c = .known k ∧ len ≤ k) : Row h size (some (b, o)) len c vs
theorem Row.length {h : H} {size : Nat} {p : Option (Nat × Nat)} {len : Nat} {c : Cap} {vs : List AV} (s : Row h size p len c vs) : vs.length = len * size := by
 cases s with
 | nil => simp
 | row hb hg hv hl hc => subst hv; simp; omega
theorem Row.mod {h h' : H} {S : List Nat} {size : Nat} {p : Option (Nat × Nat)} {len : Nat} {c : Cap} {vs : List AV} (s : Row h size p len c vs) (m : Mod S h h') (hS : ∀ b ∈ own p, b ∉ S) : Row h' size p len c vs := by
 cases s with
 | nil => exact .nil
 | row hb hg hv hl hc => exact .row (m.lt hb) ((m.get _ hb (hS _ (by simp))).trans hg) hv hl hc
theorem Row.mod0 {h h' : H} {size : Nat} {p : Option (Nat × Nat)} {len : Nat} {c : Cap} {vs : List AV} (s : Row h size p len c vs) (m : Mod [] h h') : Row h' size p len c vs := s.mod m fun b _ => by simp
theorem Row.lt {h : H} {size : Nat} {p : Option (Nat × Nat)} {len : Nat} {c : Cap} {vs : List AV} (s : Row h size p len c vs) : ∀ b ∈ own p, b < h.next := by
 cases s with
 | nil => simp
 | row hb hg hv hl hc => simpa using hb
theorem Row.sl {h : H} {size : Nat} {p : Option (Nat × Nat)} {len : Nat} {c : Cap} {vs : List AV} (s : Row h size p len c vs) : SL h size p len c vs := by
 cases s with
 | nil => exact .nil
 | row hb hg hv hl hc => exact .row hg hv hl hc
section
variable {α β : Type}
theorem Row.at1 {h : H} {size : Nat} {p : Option (Nat × Nat)} {len : Nat} {c : Cap} {vs : List AV} (s : Row h size p len c vs) {i : Nat} {v : AV} (hv : vs[i]? = some v) (f : AV → Option β) :
  (nnK p fun b o => cellK h b (o + i) f) = f v := by
 cases s with
 | nil => simp at hv
 | row hb hg hvs hl hc =>
  subst hvs
  have hk : i < len * size := by have := (List.getElem?_eq_some_iff.1 hv).1; simp at this; omega
  rw [List.getElem?_take, if_pos (by omega), List.getElem?_drop] at hv
  exact cellK_of hg hv f
theorem Row.at2 {h : H} {size : Nat} {p : Option (Nat × Nat)} {len : Nat} {c : Cap} {vs : List AV} (s : Row h size p len c vs) {i j : Nat} {v : AV} (hv : vs[i + j]? = some v) (f : AV → Option β) :
  (nnK p fun b o => cellK h b (o + i + j) f) = f v := by
 have := s.at1 hv f
 simpa [Nat.add_assoc] using this
theorem Row.agg {enc : α → List AV} {h : H} {size : Nat} {p : Option (Nat × Nat)} {len : Nat} {c : Cap} {xs : List α} (s : Row h size p len c (xs.flatMap enc)) (hs : ∀ x, (enc x).length = size) (h0 : 0 < size) {k : Nat} {x : α} (hx : xs[k]? = some x) (f : List AV → Option β) :
  (nnK p fun b o => aggK h b (o + k * size) size f) = f (enc x) := by
 have hlen := s.length
 rw [length_flat hs] at hlen
 have hf := flat_at hs hx
 obtain ⟨hk, _⟩ := List.getElem?_eq_some_iff.1 hx
 have h1 : (k + 1) * size ≤ xs.length * size := Nat.mul_le_mul_right _ hk
 rw [Nat.add_mul, Nat.one_mul] at h1
 generalize xs.flatMap enc = vs at s hf
 cases s with
 | nil => omega
 | row hb hg hv hl hc =>
  rename_i b o cs ro
  show aggK h b (o + k * size) size f = f (enc x)
  rw [aggK_of hg (by omega), ← hf, ← hv]
  congr 1
  rw [List.drop_take, List.drop_drop, List.take_take, Nat.min_eq_left (by omega)]
/-- the index is tested, and the element taken -/
theorem Row.ix {enc : α → List AV} {h : H} {size : Nat} {p : Option (Nat × Nat)} {len : Nat} {c : Cap} {xs : List α} (s : Row h size p len c (xs.flatMap enc)) (hs : ∀ x, (enc x).length = size) (h0 : 0 < size) {k : Nat} {x : α} (hx : xs[k]? = some x) (f : List AV → Option β) :
  (if 0 ≤ (k : Int) ∧ (k : Int) < (Nat.cast len : Int) then nnK p fun b o => aggK h b (o + (k : Int).toNat * size) size f else none) = f (enc x) := by
 have hlen := s.length
 rw [length_flat hs] at hlen
 have := Nat.eq_of_mul_eq_mul_right h0 hlen
 have hk := (List.getElem?_eq_some_iff.1 hx).1
 rw [if_pos ⟨by omega, by omega⟩]
 exact s.agg hs h0 hx f
theorem Row.len {enc : α → List AV} {h : H} {size : Nat} {p : Option (Nat × Nat)} {len : Nat} {c : Cap} {xs : List α} (s : Row h size p len c (xs.flatMap enc)) (hs : ∀ x, (enc x).length = size) (h0 : 0 < size) : xs.length = len := by
 have hlen := s.length
 rw [length_flat hs] at hlen
 exact Nat.eq_of_mul_eq_mul_right h0 hlen
theorem Row.ix2 {enc : α → List AV} {h : H} {size : Nat} {p : Option (Nat × Nat)} {len : Nat} {c : Cap} {xs : List α} (s : Row h size p len c (xs.flatMap enc)) (hs : ∀ x, (enc x).length = size) {k : Nat} {x : α} (hx : xs[k]? = some x) (j : Nat) {v : AV} (hj : (enc x)[j]? = some v) (f : AV → Option β) :
  (if 0 ≤ (k : Int) ∧ (k : Int) < (Nat.cast len : Int) then nnK p fun b o => cellK h b (o + (k : Int).toNat * size + j) f else none) = f v := by
 have hj' : j < size := by have := (List.getElem?_eq_some_iff.1 hj).1; rw [hs] at this; exact this
 have hlen := s.len hs (by omega)
 have hk := (List.getElem?_eq_some_iff.1 hx).1
 rw [if_pos ⟨by omega, by omega⟩]
 exact s.at2 (i := k * size) (by rw [flat_get hs hx hj', hj]) f
theorem Row.ix20 {enc : α → List AV} {h : H} {size : Nat} {p : Option (Nat × Nat)} {len : Nat} {c : Cap} {xs : List α} (s : Row h size p len c (xs.flatMap enc)) (hs : ∀ x, (enc x).length = size) {k : Nat} {x : α} (hx : xs[k]? = some x) {v : AV} (hj : (enc x)[0]? = some v) (f : AV → Option β) :
  (if 0 ≤ (k : Int) ∧ (k : Int) < (Nat.cast len : Int) then nnK p fun b o => cellK h b (o + (k : Int).toNat * size) f else none) = f v := s.ix2 hs hx 0 hj f
/-- elements of one cell -/
theorem Row.len1 {enc : α → AV} {h : H} {p : Option (Nat × Nat)} {len : Nat} {c : Cap} {xs : List α} (s : Row h 1 p len c (xs.map enc)) : xs.length = len := by
 have := s.length; simpa using this
theorem Row.ix1 {enc : α → AV} {h : H} {p : Option (Nat × Nat)} {len : Nat} {c : Cap} {xs : List α} (s : Row h 1 p len c (xs.map enc)) {k : Nat} {x : α} (hx : xs[k]? = some x) (f : AV → Option β) :
  (if 0 ≤ (k : Int) ∧ (k : Int) < (Nat.cast len : Int) then nnK p fun b o => cellK h b (o + (k : Int).toNat) f else none) = f (enc x) := by
 have hlen := s.len1
 have hk := (List.getElem?_eq_some_iff.1 hx).1
 rw [if_pos ⟨by omega, by omega⟩]
 exact s.at1 (i := k) (by rw [List.getElem?_map, hx]; rfl) f
theorem Row.src {h : H} {size : Nat} {p : Option (Nat × Nat)} {len : Nat} {c : Cap} {vs : List AV} (s : Row h size p len c vs) : evSrc size (.slice p len c) h = some (len, vs) := by
 have hlen := s.length
 cases s with
 | nil => rfl
 | row hb hg hv hl hc =>
  by_cases h0 : len = 0
  ·subst h0
   have : vs = [] := List.eq_nil_of_length_eq_zero (by rw [hlen]; simp)
   subst this
   simp [evSrc]
  ·simp [evSrc, h0, hg, hl, hv]
theorem Row.upto {h : H} {size : Nat} {p : Option (Nat × Nat)} {len : Nat} {c : Cap} {vs : List AV} (s : Row h size p len c vs) {k : IntKind} {hi : Int} (h0 : 0 ≤ hi) (h1 : hi ≤ len) :
  ∃ p' c', Row h size p' hi.toNat c' (vs.take (hi.toNat * size)) ∧ own p' = own p ∧ ∀ f : Option (Nat × Nat) → Nat → Cap → Option β, slK size p len c none (some (.int k hi)) none f = f p' hi.toNat c' := by
 cases s with
 | nil =>
  obtain rfl : hi = 0 := by omega
  exact ⟨none, .known 0, by simpa using .nil, rfl, fun f => by simp [slK, evSliceS, evBounds, evBound]⟩
 | row hb hg hvs hl hc =>
  rename_i b o cs ro
  subst hvs
  have hmul : hi.toNat * size ≤ len * size := Nat.mul_le_mul_right _ (by omega)
  have ht : (List.take (len * size) (cs.drop o)).take (hi.toNat * size) = (cs.drop o).take (hi.toNat * size) := by rw [List.take_take, Nat.min_eq_left hmul]
  rcases hc with rfl | ⟨q, rfl, hq⟩
  ·exact ⟨some (b, o), .rest size, .row hb hg ht.symm (by omega) (.inl rfl), rfl, fun f => by simp [slK, evSliceS, evBounds, evBound, h0, h1]⟩
  ·refine ⟨some (b, o), .known q, .row hb hg ht.symm (by omega) (.inr ⟨q, rfl, by omega⟩), rfl, fun f => ?_⟩
   have h2 : hi ≤ q := by omega
   by_cases hq0 : q = 0
   ·subst hq0
    obtain rfl : hi = 0 := by omega
    simp [slK, evSliceS, evBounds, evBound, hq]
   ·simp [slK, evSliceS, evBounds, evBound, h0, h2, hq, hq0]
structure Grow (a h : H) (size : Nat) (p : Option (Nat × Nat)) (len : Nat) (c : Cap) (vs : List AV) : Prop where
 look : (p = none ∧ len = 0 ∧ c = .known 0 ∧ vs = []) ∨ ∃ b, p = some (b, 0) ∧ a.next ≤ b ∧ b < h.next ∧ h.get b = some (.cells vs false) ∧ vs.length = len * size ∧ (c = .rest size ∨ c = .known len)
theorem Grow.nil {a h : H} {size : Nat} : Grow a h size none 0 (.known 0) [] := ⟨.inl ⟨rfl, rfl, rfl, rfl⟩⟩
theorem Grow.row {a h : H} {size : Nat} {p : Option (Nat × Nat)} {len : Nat} {c : Cap} {vs : List AV} (g : Grow a h size p len c vs) : Row h size p len c vs := by
 rcases g.look with ⟨rfl, rfl, rfl, rfl⟩ | ⟨b, rfl, h1, h2, h3, h4, h5⟩
 ·exact .nil
 ·exact .row h2 h3 (by rw [List.drop_zero, ← h4, List.take_length]) (by omega) (h5.elim .inl fun h => .inr ⟨_, h, Nat.le_refl _⟩)
theorem Grow.own_ge {a h : H} {size : Nat} {p : Option (Nat × Nat)} {len : Nat} {c : Cap} {vs : List AV} (g : Grow a h size p len c vs) : ∀ b ∈ own p, a.next ≤ b ∧ b < h.next := by
 rcases g.look with ⟨rfl, rfl, rfl, rfl⟩ | ⟨b, rfl, h1, h2, h3, h4, h5⟩
 ·simp
 ·simp [h1, h2]
theorem Grow.mod {a h h' : H} {S : List Nat} {size : Nat} {p : Option (Nat × Nat)} {len : Nat} {c : Cap} {vs : List AV} (g : Grow a h size p len c vs) (m : Mod S h h') (hS : ∀ b ∈ own p, b ∉ S) : Grow a h' size p len c vs := by
 rcases g.look with h0 | ⟨b, rfl, h1, h2, h3, h4, h5⟩
 ·exact ⟨.inl h0⟩
 ·exact ⟨.inr ⟨b, rfl, h1, m.lt h2, (m.get _ h2 (hS _ (by simp))).trans h3, h4, h5⟩⟩
theorem Grow.mod0 {a h h' : H} {size : Nat} {p : Option (Nat × Nat)} {len : Nat} {c : Cap} {vs : List AV} (g : Grow a h size p len c vs) (m : Mod [] h h') : Grow a h' size p len c vs := g.mod m fun b _ => by simp
theorem Grow.base {a a' h : H} {size : Nat} {p : Option (Nat × Nat)} {len : Nat} {c : Cap} {vs : List AV} (g : Grow a h size p len c vs) (ha : a'.next ≤ a.next) : Grow a' h size p len c vs := by
 rcases g.look with h0 | ⟨b, rfl, h1, h2⟩
 ·exact ⟨.inl h0⟩
 ·exact ⟨.inr ⟨b, rfl, Nat.le_trans ha h1, h2⟩⟩
theorem Grow.fresh {a h : H} (ha : a.next ≤ h.next) {size len : Nat} {vs : List AV} (hl : vs.length = len * size) {c : Cap} (hc : c = .rest size ∨ c = .known len) : Grow a (h.new (.cells vs false)) size (some (h.next, 0)) len c vs :=
 ⟨.inr ⟨h.next, rfl, ha, Nat.lt_succ_self _, get_new_self _ _, hl, hc⟩⟩
theorem Grow.app {a h : H} {size bytes : Nat} {p : Option (Nat × Nat)} {len : Nat} {c : Cap} {vs : List AV} (g : Grow a h size p len c vs) (ha : a.next ≤ h.next) {src : Option (Nat × List AV)} {n : Nat} {news : List AV} (hs : src = some (n, news)) (hn : news.length = n * size) (hcell : news.all isCell = true)
  (hb : (len + n) * bytes ≤ 140737488355328) (h63 : len + n ≤ 9223372036854775807) (hz : n = 0 → news = []) :
  ∃ p' c' h', (∀ f : Option (Nat × Nat) → Nat → Cap → H → Option β, appK size bytes p len c src h f = f p' (len + n) c' h') ∧ Grow a h' size p' (len + n) c' (vs ++ news) ∧ Mod (own p) h h' := by
 subst hs
 by_cases h0 : n = 0
 ·subst h0
  obtain rfl := hz rfl
  rw [List.append_nil]
  rcases g.look with ⟨rfl, rfl, rfl, rfl⟩ | ⟨b, rfl, h1, h2, h3, h4, h5⟩
  ·exact ⟨none, .known 0, h, fun f => rfl, .nil, Mod.refl _ _⟩
  ·refine ⟨some (b, 0), c, h, fun f => ?_, g, Mod.refl _ _⟩
   rcases h5 with rfl | rfl
   ·simp [appK, evApp]
   ·simp [appK, evApp]
 ·rcases g.look with ⟨rfl, rfl, rfl, rfl⟩ | ⟨b, rfl, h1, h2, h3, h4, h5⟩
  ·refine ⟨some (h.next, 0), .rest size, h.new (.cells news false), fun f => ?_, ?_, (Mod.refl _ _).new _⟩
   ·simp only [appK, evApp]
    rw [if_neg h0, if_pos ⟨by simpa using hb, by omega⟩, Nat.zero_add]
   ·rw [List.nil_append]
    exact Grow.fresh ha (by rw [Nat.zero_add, hn]) (.inl rfl)
  ·rcases h5 with rfl | rfl
   ·refine ⟨some (h.next, 0), .rest size, (h.kill b).new (.cells (vs ++ news) false), fun f => ?_, ?_, ((Mod.refl _ _).kill (.inr (by simp))).new _⟩
    ·simp only [appK, evApp]
     rw [if_neg h0, if_pos ⟨trivial, hb, h63⟩, h3]
     simp only [Nat.zero_add]
     rw [if_pos ⟨h4.symm, hcell⟩, List.drop_zero]
    ·exact Grow.fresh (h := h.kill b) ha (by rw [List.length_append, h4, hn, Nat.add_mul]) (.inl rfl)
   ·refine ⟨some (h.next, 0), .rest size, h.new (.cells (vs ++ news) false), fun f => ?_, ?_, (Mod.refl _ _).new _⟩
    ·simp only [appK, evApp]
     rw [if_neg (show ¬ len + n ≤ len by omega), if_pos ⟨hb, h63⟩, h3]
     simp only [Nat.zero_add]
     rw [if_pos (Nat.le_of_eq h4.symm), List.drop_zero, ← h4, List.take_length]
    ·exact Grow.fresh ha (by rw [List.length_append, h4, hn, Nat.add_mul]) (.inl rfl)
theorem Grow.ret {a h : H} {size bytes : Nat} {p : Option (Nat × Nat)} {len : Nat} {c : Cap} {vs : List AV} (g : Grow a h size p len c vs) (ha : a.next ≤ h.next) {src : Option (Nat × List AV)} {n : Nat} {news : List AV} (hs : src = some (n, news)) (hn : news.length = n * size) (hcell : news.all isCell = true)
  (hb : (len + n) * bytes ≤ 140737488355328) (h63 : len + n ≤ 9223372036854775807) (hz : n = 0 → news = []) {f : Option (Nat × Nat) → Nat → Cap → H → Option (α × H)} {Q : α → H → Prop}
  (k : ∀ p' c' h', Grow a h' size p' (len + n) c' (vs ++ news) → Mod (own p) h h' → Ret (f p' (len + n) c' h') Q) : Ret (appK size bytes p len c src h f) Q := by
 obtain ⟨p', c', h', e, g', m⟩ := g.app (β := α × H) ha hs hn hcell hb h63 hz
 rw [e]
 exact k p' c' h' g' m
/-- one element more -/
theorem Grow.push {a h : H} {size bytes : Nat} {p : Option (Nat × Nat)} {len : Nat} {c : Cap} {vs : List AV} (g : Grow a h size p len c vs) (ha : a.next ≤ h.next) {xs : List AV} (hx : xs.length = size) (hc : xs.all isCell = true) (h0 : 0 < size) (hb : (len + 1) * bytes ≤ 140737488355328) (h63 : len + 1 ≤ 9223372036854775807)
  {f : Option (Nat × Nat) → Nat → Cap → H → Option (α × H)} {Q : α → H → Prop} (k : ∀ p' c' h', Grow a h' size p' (len + 1) c' (vs ++ xs) → Mod (own p) h h' → Ret (f p' (len + 1) c' h') Q) :
  Ret (appK size bytes p len c (evSrc size (.slice (some (h.next, 0)) 1 (.known 1)) (h.new (.cells xs false))) (h.new (.cells xs false)) f) Q := by
 have m2 : Mod [] h (h.new (.cells xs false)) := (Mod.refl _ _).new _
 have r2 : Row (h.new (.cells xs false)) size (some (h.next, 0)) 1 (.known 1) xs := .row (by simp) (get_new_self _ _) (by rw [List.drop_zero, Nat.one_mul, ← hx, List.take_length]) (by omega) (.inr ⟨1, rfl, Nat.le_refl _⟩)
 exact (g.mod0 m2).ret (Nat.le_trans ha m2.next) r2.src (by omega) hc hb h63 (fun h => by cases h) fun p' c' h' g' m' => k p' c' h' g' (m2.of_nil.trans m')
/-- what grew from a on, as it was there -/
theorem Mod.push {a h h' : H} {S : List Nat} {size : Nat} {p : Option (Nat × Nat)} {len : Nat} {c : Cap} {vs : List AV} (m : Mod S a h) (g : Grow a h size p len c vs) (m' : Mod (own p) h h') : Mod S a h' :=
 m.trans' m' fun i hi hl => by have := (g.own_ge i hi).1; omega
end
section
variable {K V β : Type} [DecidableEq K]
/-- an object is the map of these entries -/
def MObj (ek : K → AV) (ev : V → AV) (l : List (K × V)) (o : AObj) : Prop :=
 ∃ (L : List (K × V × Nat)) (clk : Nat), o = .map (L.map fun x => (ek x.1, ev x.2.1, x.2.2)) clk ∧ L.map (fun x => (x.1, x.2.1)) = l ∧ (L.map (·.2.2)).Nodup ∧ ∀ x ∈ L, x.2.2 < clk
def Keys (ek : K → AV) : Prop := ∀ a b, keyCmp (ek a) (ek b) = some (decide (a = b))
def lk (l : List (K × V)) (k : K) : Option V := (l.find? fun e => decide (k = e.1)).map (·.2)
def pt (l : List (K × V)) (k : K) (v : V) : List (K × V) := if (l.any fun e => decide (k = e.1)) = true then l.map fun e => if k = e.1 then (k, v) else e else l ++ [(k, v)]
theorem keys_str : Keys AV.str := fun a b => by
 simp only [keyCmp]
 congr 1
 rw [Bool.eq_iff_iff, MapKept.bytes_beq]; simp
theorem MObj.nil {ek : K → AV} {ev : V → AV} : MObj ek ev ([] : List (K × V)) (.map [] 0) := ⟨[], 0, rfl, rfl, List.nodup_nil, fun x hx => by cases hx⟩
theorem find_enc {ek : K → AV} {ev : V → AV} (hk : Keys ek) (k : K) : ∀ L : List (K × V × Nat), evFind (ek k) (L.map fun x => (ek x.1, ev x.2.1, x.2.2)) = some ((L.find? fun e => decide (k = e.1)).map fun x => (ek x.1, ev x.2.1, x.2.2)) := by
 intro l
 unfold evFind
 rw [if_pos]
 ·congr 1
  rw [List.find?_map]
  congr 2
  funext x
  simp [Function.comp, hk k x.1]
 ·simp [hk k]
theorem lk_proj (L : List (K × V × Nat)) (k : K) : lk (L.map fun x => (x.1, x.2.1)) k = (L.find? fun e => decide (k = e.1)).map (·.2.1) := by
 unfold lk
 rw [List.find?_map, Option.map_map]
 rfl
theorem lookK_of {h : H} {m : Nat} {o : AObj} {ek : K → AV} {ev : V → AV} {l : List (K × V)} (hk : Keys ek) (hg : h.get m = some o) (ho : MObj ek ev l o) (z : AV) (k : K) (f : AV → Bool → Option β) :
  lookK z (some m) (ek k) h f = match lk l k with | some v => f (ev v) true | none => f z false := by
 obtain ⟨L, clk, rfl, rfl, _, _⟩ := ho
 rw [lk_proj]
 simp only [lookK, evLook, evLookEs, hg, find_enc hk]
 cases L.find? fun e => decide (k = e.1) <;> rfl
theorem putK_of {h : H} {m : Nat} {o : AObj} {ek : K → AV} {ev : V → AV} {l : List (K × V)} (hk : Keys ek) (hg : h.get m = some o) (ho : MObj ek ev l o) (k : K) (v : V) :
  ∃ o', MObj ek ev (pt l k v) o' ∧ ∀ f : H → Option β, putK (some m) (ek k) (ev v) h f = f (h.set m o') := by
 obtain ⟨L, clk, rfl, rfl, hn, hb⟩ := ho
 cases hf : L.find? fun e => decide (k = e.1) with
 | none =>
  rw [List.find?_eq_none] at hf
  refine ⟨.map ((L ++ [(k, v, clk)]).map fun x => (ek x.1, ev x.2.1, x.2.2)) (clk + 1), ⟨L ++ [(k, v, clk)], clk + 1, rfl, ?_, ?_, ?_⟩, fun f => ?_⟩
  ·unfold pt
   rw [if_neg]
   ·simp
   ·simp only [List.any_map, List.any_eq_true, not_exists, not_and]
    exact fun x hx => hf x hx
  ·rw [List.map_append, List.nodup_append]
   refine ⟨hn, by simp, fun a ha b hb' e => ?_⟩
   obtain ⟨x, hx, rfl⟩ := List.mem_map.1 ha
   simp at hb'
   have := hb x hx
   omega
  ·intro x hx
   rcases List.mem_append.1 hx with hx | hx
   ·have := hb x hx; omega
   ·obtain rfl : x = (k, v, clk) := by simpa using hx
    exact Nat.lt_succ_self _
  ·have hf' : (L.find? fun e => decide (k = e.1)) = none := List.find?_eq_none.2 hf
   simp only [putK, evMapPut, hg, evPutEs, find_enc hk, hf', Option.map_none, Option.map_some]
   rw [List.map_append]
   rfl
 | some x =>
  have hany : ((L.map fun x => (x.1, x.2.1)).any fun e => decide (k = e.1)) = true := by
   rw [List.any_map, List.any_eq_true]
   exact ⟨x, List.mem_of_find?_eq_some hf, List.find?_some (p := fun e : K × V × Nat => decide (k = e.1)) hf⟩
  refine ⟨.map ((L.map fun e => if k = e.1 then (k, v, e.2.2) else e).map fun x => (ek x.1, ev x.2.1, x.2.2)) clk, ⟨_, clk, rfl, ?_, ?_, ?_⟩, fun f => ?_⟩
  ·unfold pt
   rw [if_pos hany, List.map_map, List.map_map]
   apply List.map_congr_left
   intro e _
   simp only [Function.comp]
   by_cases he : k = e.1 <;> simp [he]
  ·rw [List.map_map]
   have : ((fun x : K × V × Nat => x.2.2) ∘ fun e => if k = e.1 then (k, v, e.2.2) else e) = fun x => x.2.2 := by
    funext e; simp only [Function.comp]; split <;> rfl
   rw [this]; exact hn
  ·intro y hy
   obtain ⟨e, he, rfl⟩ := List.mem_map.1 hy
   have := hb e he
   split <;> exact this
  ·simp only [putK, evMapPut, hg, evPutEs, find_enc hk, hf, Option.map_some]
   congr 3
   rw [List.map_map, List.map_map]
   apply List.map_congr_left
   intro e _
   simp only [Function.comp, hk k e.1]
   by_cases he : k = e.1 <;> simp [he]
theorem lk_nil (k : K) : lk ([] : List (K × V)) k = none := rfl
theorem lk_cons (e : K × V) (l : List (K × V)) (k : K) : lk (e :: l) k = if k = e.1 then some e.2 else lk l k := by
 unfold lk
 rw [List.find?_cons]
 by_cases h : k = e.1 <;> simp [h]
theorem lk_append (l l' : List (K × V)) (k : K) : lk (l ++ l') k = (lk l k).or (lk l' k) := by
 unfold lk
 rw [List.find?_append]
 cases List.find? (fun e => decide (k = e.1)) l <;> simp
theorem lk_none {l : List (K × V)} {k : K} : lk l k = none ↔ ∀ e ∈ l, k ≠ e.1 := by
 unfold lk
 rw [Option.map_eq_none_iff, List.find?_eq_none]
 simp
theorem lk_map {l : List (K × V)} {k k' : K} {v : V} : lk (l.map fun e => if k = e.1 then (k, v) else e) k' = if k' = k then (if (l.any fun e => decide (k = e.1)) = true then some v else none) else lk l k' := by
 induction l with
 | nil => simp [lk_nil]
 | cons e l ih =>
  rw [List.map_cons, lk_cons, ih, lk_cons, List.any_cons]
  by_cases h1 : k = e.1
  ·subst h1
   by_cases h2 : k' = e.1 <;> simp [h2]
  ·by_cases h2 : k' = k
   ·subst h2
    simp only [h1, if_false, if_true]
    rw [show (decide False : Bool) = false from decide_eq_false id, Bool.false_or]
   ·simp [h1, h2]
theorem lk_pt (l : List (K × V)) (k : K) (v : V) (k' : K) : lk (pt l k v) k' = if k' = k then some v else lk l k' := by
 unfold pt
 split
 ·rename_i h; rw [lk_map, if_pos h]
 ·rename_i h
  rw [lk_append, lk_cons, lk_nil]
  by_cases h2 : k' = k
  ·subst h2
   have : lk l k' = none := lk_none.2 fun e he hk => h (List.any_eq_true.2 ⟨e, he, by simp [hk]⟩)
   simp [this]
  ·simp [h2]
end
theorem bytes_toList (s : ByteArray) : s.toList = s.data.toList := ByteArray.toList_eq s
theorem toList_inj {a b : ByteArray} : a.toList = b.toList ↔ a = b := by
 constructor
 ·intro h
  rw [bytes_toList, bytes_toList] at h
  obtain ⟨x⟩ := a
  obtain ⟨y⟩ := b
  simp only at h
  rw [Array.toList_inj.1 h]
 ·intro h; rw [h]
theorem str_eq (a b : ByteArray) : (a.toList == b.toList) = decide (a = b) := by
 by_cases h : a = b
 ·subst h; simp
 ·rw [decide_eq_false h, beq_eq_false_iff_ne]
  exact fun e => h (toList_inj.1 e)
theorem byteK_ex {β : Type} {s : ByteArray} {n : Int} (h0 : 0 ≤ n) (h1 : n.toNat < s.size) (f : Int → Option β) : byteK s n f = f (s[n.toNat]'h1).toNat := by
 unfold byteK
 rw [if_pos h0, getElem?_pos s n.toNat h1]
end Go.Ev

/- The abstract machine Ev, part X: functions that are not printed: the model's stand-ins, and what the kit's shelf says of Go's library. -/
namespace Go.Ev
open Go.RowKit
theorem VRL.nil_inv {r : Ren} {vs : List Value} (h : VRL r [] vs) : vs = [] := by
 exact List.eq_nil_of_length_eq_zero h.1.symm
theorem VRL.two {r : Ren} {a b : AV} {args' : Array Value} (h : VRL r [a, b] args'.toList) : ∃ v u, args' = #[v, u] ∧ VR r a v ∧ VR r b u := by
 obtain ⟨v, vs, e, hv, h⟩ := h.inv_cons
 obtain ⟨u, us, e2, hu, h⟩ := h.inv_cons
 obtain rfl := h.nil_inv
 subst e2
 exact ⟨v, u, by cases args'; simp_all, hv, hu⟩
theorem VRL.one {r : Ren} {a : AV} {args' : Array Value} (h : VRL r [a] args'.toList) : ∃ v, args' = #[v] ∧ VR r a v := by
 obtain ⟨v, vs, e, hv, h⟩ := h.inv_cons
 obtain rfl := h.nil_inv
 exact ⟨v, by cases args'; simp_all, hv⟩
theorem xcall_pure {P : Program} {f : FuncId} {fn : Func} {e : Array Value → Sem Value} (hf : P.funcs[f]? = some fn) (hb : fn.body.isNone = true) (hn : (fn.name == "runtime.NumGoroutine") = false) (hx : (Extern.findNext fn).isNone = true) (he : Extern.find fn = some e)
  {args : List AV} {v : AV} {h : H} (hrun : ∀ (r : Ren) (w : World) (args' : Array Value), VRL r args args'.toList → ∃ v', (e args').run P w = .ok v' w ∧ VR r v v') : XCall P f args h v h where
 there := ⟨fn, e, hf, hb, hn, hx, he, fun r w args' hrel _ ha => by
  obtain ⟨v', h1, h2⟩ := hrun r w args' ha
  exact ⟨r, v', w, h1, h2, Post.refl hrel⟩⟩
 next := Nat.le_refl _
 wf := fun h => h
def countF (s : ByteArray) (c : Int) : Int := (Lib.countByte s.data.toList c.toNat.toUInt8 : Nat)
def indexF (s : ByteArray) (c : Int) : Int := Lib.indexByte s.data.toList c.toNat.toUInt8
theorem countF_called {P : Program} {f : FuncId} {fn : Func} (hf : P.funcs[f]? = some fn) (hb : fn.body.isNone = true) (hn : (fn.name == "runtime.NumGoroutine") = false) (hx : (Extern.findNext fn).isNone = true) (he : Extern.find fn = some Extern.BytealgCount.count)
  {s : ByteArray} {c : Int} {h : H} {q : Int × H} (e : some (countF s c, h) = some q) : Called P f [.str s, .int .u8 c] h (.int .i64 q.1) q.2 := by
 cases e
 refine .inr (xcall_pure hf hb hn hx he fun r w args' ha => ?_)
 obtain ⟨v, u, rfl, h1, h2⟩ := ha.two
 cases h1; cases h2
 exact ⟨_, Lib.run_countString s c w, .int _ _⟩
theorem indexF_called {P : Program} {f : FuncId} {fn : Func} (hf : P.funcs[f]? = some fn) (hb : fn.body.isNone = true) (hn : (fn.name == "runtime.NumGoroutine") = false) (hx : (Extern.findNext fn).isNone = true) (he : Extern.find fn = some Extern.BytealgIndexByte.indexByte)
  {s : ByteArray} {c : Int} {h : H} {q : Int × H} (e : some (indexF s c, h) = some q) : Called P f [.str s, .int .u8 c] h (.int .i64 q.1) q.2 := by
 cases e
 refine .inr (xcall_pure hf hb hn hx he fun r w args' ha => ?_)
 obtain ⟨v, u, rfl, h1, h2⟩ := ha.two
 cases h1; cases h2
 exact ⟨_, Lib.run_indexByteString s c w, .int _ _⟩
theorem Row.unique {h : H} {size : Nat} {p : Option (Nat × Nat)} {len : Nat} {c : Cap} {vs us : List AV} (r : Row h size p len c vs) (s : Row h size p len c us) : vs = us := by
 cases r with
 | nil => cases s; rfl
 | row hb hg hv hl hc =>
  cases s with
  | row hb' hg' hv' hl' hc' =>
   rw [hg] at hg'
   cases hg'
   exact hv.symm.trans hv'
theorem cell_str {r : Ren} {h : H} {w : World} (hrel : Rel r h w) {b : Nat} {t : Tgt} (hr : r b = some t) {cs : List AV} {ro : Bool} (hg : h.get b = some (.cells cs ro)) {i : Nat} {a : AV} (hi : cs[i]? = some a) : ∃ v, w.cell? ⟨t.blk, t.base + i, none⟩ = some v ∧ VR r a v ∧ t.blk < w.heap.size := by
 obtain ⟨C, e, fz, h1, h2, h3, h4, h5⟩ := hrel.obj b t _ hr hg
 have hlt : t.base + i < C.size := by have := (List.getElem?_eq_some_iff.1 hi).1; omega
 exact ⟨C[t.base + i], by simp [World.cell?, h1, hlt], h4 i a _ hi (Array.getElem?_eq_getElem hlt), hrel.bound b t hr⟩
end Go.Ev

/- The abstract machine Ev, part V: more small laws: boxes, made rows, texts as lists of bytes. -/
namespace Go.Ev
theorem set_new (h : H) (o o' : AObj) : (h.new o).set h.next o' = h.new o' := by
 simp only [H.new, H.set, H.mk.injEq, true_and]
 funext j
 split <;> rfl
theorem box_wr {β : Type} {h : H} {cs xs : List AV} {n : Nat} (hl : xs.length = n) (hc : cs.length = n) (ha : xs.all isCell = true) (f : H → Option β) : wrK (h.new (.cells cs false)) h.next 0 n xs f = f (h.new (.cells xs false)) := by
 rw [wrK_of (get_new_self _ _) hl (by omega) ha, spl_all _ _ (by omega), set_new]
theorem mkSlK_of {β : Type} {size bytes : Nat} {zs : List AV} {l : Nat} (h : H) (hl : l < 1000000) (hb : bytes ≤ 1000) (f : Nat → Nat → Nat → H → Option β) : mkSlK size bytes zs (l : Int) (l : Int) h f = f h.next l l (h.new (.cells (evTile (l * size) zs) false)) := by
 unfold mkSlK
 have hw : IntKind.i64.wrap (l : Int) = l := wrap_i64 (by omega) (by omega)
 have hm : (bytes : Int) * (l : Int) ≤ 2 ^ 48 := by
  have : bytes * l ≤ 1000 * 1000000 := Nat.mul_le_mul hb (by omega)
  have h2 : ((bytes * l : Nat) : Int) ≤ 1000000000 := by omega
  rw [← Int.natCast_mul]
  omega
 rw [hw, if_pos ⟨by omega, Int.le_refl _, by omega⟩, newK_eq]
 rfl
theorem evTile_one (n : Nat) (v : AV) : evTile n [v] = List.replicate n v := by
 apply List.ext_getElem?
 intro k
 unfold evTile
 rw [List.getElem?_map, List.getElem?_replicate]
 by_cases h : k < n
 ·rw [List.getElem?_range h, if_pos h]; simp [Nat.mod_one]
 ·rw [List.getElem?_eq_none (by simp; omega), if_neg h]; rfl
def bs (s : ByteArray) : List UInt8 := s.data.toList
def mk (l : List UInt8) : ByteArray := ⟨l.toArray⟩
theorem mk_bs (s : ByteArray) : mk (bs s) = s := by cases s; simp [mk, bs]
theorem bs_mk (l : List UInt8) : bs (mk l) = l := by simp [mk, bs]
theorem bs_inj {a b : ByteArray} (h : bs a = bs b) : a = b := by rw [← mk_bs a, h, mk_bs]
theorem bs_len (s : ByteArray) : (bs s).length = s.size := rfl
theorem size_mk (l : List UInt8) : (mk l).size = l.length := rfl
theorem bs_extract (s : ByteArray) (a b : Nat) : bs (s.extract a b) = ((bs s).drop a).take (b - a) := by
 have := Lib.extract_toList s a b
 rw [bytes_toList] at this
 exact this
theorem bs_get {s : ByteArray} {i : Nat} (h : i < s.size) : (bs s)[i]? = some s[i] := by
 unfold bs
 rw [List.getElem?_eq_getElem (show i < s.data.toList.length from h)]
 rfl
theorem byteK_of {β : Type} {s : ByteArray} {i : Nat} {b : UInt8} (h : (bs s)[i]? = some b) (f : Int → Option β) : byteK s (i : Int) f = f b.toNat := by
 have hl : i < s.size := by have := (List.getElem?_eq_some_iff.1 h).1; rw [bs_len] at this; exact this
 rw [byteK_ex (by omega) (by simpa using hl)]
 rw [bs_get hl] at h
 cases h
 rfl
theorem bs_append (a b : ByteArray) : bs (a ++ b) = bs a ++ bs b := by simp [bs]
theorem decode_ge {s : ByteArray} {pos : Nat} (h : pos < s.size) (hb : 128 ≤ (s[pos]'h).toNat) : 128 ≤ (Utf8.decode s pos).1 := by
 have e : s.get! pos = s[pos] := by
  show s.data[pos]! = s.data[pos]
  exact getElem!_pos s.data pos h
 unfold Utf8.decode
 simp only [Nat.add_zero, e]
 rw [if_neg (by omega)]
 have hr : 128 ≤ Utf8.runeError := by decide
 split
 ·split
  ·assumption
  ·exact hr
 ·split
  ·split
   ·rename_i h; simp only [Bool.and_eq_true, decide_eq_true_eq] at h; have := h.1; simp only; omega
   ·exact hr
  ·split
   ·split
    ·rename_i h; simp only [Bool.and_eq_true, decide_eq_true_eq] at h; have := h.1; simp only; omega
    ·exact hr
   ·exact hr
end Go.Ev

/- The abstract machine Ev, part Y: ranges over maps, whose order is drawn: functions whose runs may end in unlike ways. -/
namespace Go.Ev
theorem VR_ptr0 {r : Ren} {i b row : Nat} (h : r i = some ⟨b, 0, row⟩) : VR r (.ptr (some (i, 0))) (.pointer (some ⟨b, 0, none⟩)) := .ptr (o := 0) h
/-- the iterator that a range over a map begins with -/
def evRangeM (m : Option Nat) (h : H) : Option AObj :=
 match m with
 | none => some (.miter none 0 [] 0)
 | some i => match h.mapAt i with | some (_, clk) => some (.miter (some i) clk [] clk) | none => none
theorem evRangeM_sim {P : Program} {r : Ren} {h : H} {w : World} (hrel : Rel r h w) (hfree : r h.next = none) {t kt e : TypeId} (hu : P.underlying t = some (.map kt e)) {m : Option Nat} {m' : Value} {o : AObj}
  (hs : evRangeM m h = some o) (hm : VR r (.map m) m') : ∃ w' r', (Instr.range t m').run P w = .ok (.pointer (some ⟨w.heap.size, 0, none⟩)) w' ∧ VR r' (.ptr (some (h.next, 0))) (.pointer (some ⟨w.heap.size, 0, none⟩)) ∧ Post r h w r' (h.new o) w' := by
 have go : ∀ (it : Obj), (∀ r' : Ren, r.le r' → OR r' (w.alloc it) ⟨w.heap.size, 0, 0⟩ o) → Post r h w (r.put h.next ⟨w.heap.size, 0, 0⟩) (h.new o) (w.alloc it) ∧ VR (r.put h.next ⟨w.heap.size, 0, 0⟩) (.ptr (some (h.next, 0))) (.pointer (some ⟨w.heap.size, 0, none⟩)) := by
  intro it hor
  refine ⟨Post.of_new hrel hfree (World.size_alloc ..) ⟨rfl, rfl, rfl, fun _ => Nat.le_refl _⟩ (fun b hb => alloc_old hb) hor, VR_ptr0 (row := 0) ?_⟩
  simp [Ren.put]
 cases hm with
 | nilMap =>
  simp only [evRangeM, Option.some.injEq] at hs
  subst hs
  obtain ⟨p, v⟩ := go (.mapIter none 0 #[] 0) (fun r' hr => ⟨none, alloc_new w _, rfl, .nilMap⟩)
  refine ⟨_, _, ?_, v, p⟩
  simp only [Instr.range, Sem.run_bind, run_underlying hu, Result.andThen_ok, Sem.run_pure, run_newObj, World.alloc_eq]
 | map ht =>
  simp only [evRangeM] at hs
  split at hs
  ·rename_i es clk hg
   cases hs
   obtain ⟨E, hb, hrest⟩ := hrel.mapAt ht hg
   rename_i j0 t0 x0
   obtain ⟨p, v⟩ := go (.mapIter (some t0.blk) clk #[] clk) (fun r' hr => ⟨some t0.blk, alloc_new w _, rfl, .map (hr _ _ ht)⟩)
   refine ⟨_, _, ?_, v, p⟩
   simp only [Instr.range, Sem.run_bind, run_underlying hu, Result.andThen_ok, Sem.run_pure, run_getObj hb, run_newObj, World.alloc_eq]
  ·cases hs
/-- what an iterator may tell next; 'none': it ends -/
def Nexts (h : H) (i : Nat) (c : Option (AV × AV × H)) : Prop :=
  match h.get i with
  | some (.miter none _ _ _) => c = none
  | some (.miter (some m) since seen _) =>
    match h.mapAt m with
    | some (es, clk) =>
      (match c with
       | none => ∀ e ∈ es, e.2.2 ∉ seen → since ≤ e.2.2
       | some (k, v, h') => ∃ e ∈ es, e.2.2 ∉ seen ∧ k = e.1 ∧ v = e.2.1 ∧ h' = h.set i (.miter (some m) since (seen ++ [e.2.2]) clk))
    | none => False
  | _ => False
/-- an iterator that may be asked -/
def Asked (h : H) (i : Nat) : Prop :=
 match h.get i with
 | some (.miter none _ _ _) => True
 | some (.miter (some m) _ seen last) => match h.mapAt m with | some (es, _) => ¬ (seen ≠ [] ∧ es ≠ [] ∧ ∀ e ∈ es, last ≤ e.2.2) | none => False
 | _ => False
/-- the model's candidates -/
def candOf (E : Array MapEntry) (seen : Array Nat) (since : Nat) : Array (Option MapEntry) :=
 let left := E.filter fun e => !seen.contains e.born
 let old := left.filter (·.born < since)
 let new := left.filter (·.born ≥ since)
 (if old.isEmpty then #[none] else #[]) ++ (old ++ new).map some
theorem cand_pos (E : Array MapEntry) (seen : Array Nat) (since : Nat) : 0 < (candOf E seen since).size := by
 unfold candOf
 simp only
 generalize (E.filter fun e => !seen.contains e.born).filter (·.born < since) = old
 by_cases ho : old.isEmpty = true
 ·rw [if_pos ho]; simp; omega
 ·rw [if_neg ho]
  have : 0 < old.size := by rw [Array.isEmpty_iff_size_eq_zero] at ho; omega
  simp; omega
theorem cand_mem {E : Array MapEntry} {seen : List Nat} {since : Nat} {c : Option MapEntry} (h : c ∈ candOf E seen.toArray since) :
  (c = none ∧ ∀ e ∈ E.toList, e.born ∉ seen → since ≤ e.born) ∨ ∃ e, c = some e ∧ e ∈ E.toList ∧ e.born ∉ seen := by
 unfold candOf at h
 simp only at h
 rcases Array.mem_append.1 h with h | h
 ·left
  split at h
  ·rename_i ho
   refine ⟨by simpa using h, fun e he hs => Nat.le_of_not_lt fun hlt => ?_⟩
   rw [Array.isEmpty_iff] at ho
   have : e ∈ (E.filter fun e => !seen.toArray.contains e.born).filter (·.born < since) := Array.mem_filter.2 ⟨Array.mem_filter.2 ⟨by simpa using he, by simpa using hs⟩, by simpa using hlt⟩
   rw [ho] at this
   simp at this
  ·simp at h
 ·right
  obtain ⟨e, he, rfl⟩ := Array.mem_map.1 h
  refine ⟨e, rfl, ?_⟩
  have : e ∈ E.filter fun e => !seen.toArray.contains e.born := by
   rcases Array.mem_append.1 he with he | he
   ·exact (Array.mem_filter.1 he).1
   ·exact (Array.mem_filter.1 he).1
  have := Array.mem_filter.1 this
  exact ⟨by simpa using this.1, by simpa using this.2⟩
theorem run_mapNext {P : Program} {w : World} {n : Nat} (hn : 0 < n) : ∃ (j : Nat) (w1 : World), j < n ∧ w1.heap = w.heap ∧ Env w w1 ∧ (choose (.mapNext n)).run P w = .ok j w1 := by
 by_cases hf : (Question.mapNext n).forced = true
 ·refine ⟨0, w, hn, rfl, Env.refl w, ?_⟩
  unfold choose
  simp only [Sem.run]
  rw [if_pos hf]
 ·refine ⟨w.tape w.drawn (.mapNext n) % n, { w with drawn := w.drawn + 1 }, Nat.mod_lt _ hn, rfl, ⟨rfl, rfl, rfl, fun _ => Nat.le_succ _⟩, ?_⟩
  unfold choose
  simp only [Sem.run]
  rw [if_neg hf]
  rfl
theorem Nexts_sim {P : Program} {r : Ren} {h : H} {w : World} (hrel : Rel r h w) {i : Nat} {it' : Value} {ty : TypeId} (ha : Asked h i) (hx : VR r (.ptr (some (i, 0))) it') :
  ∃ c v' w', Nexts h i c ∧ (Instr.next it' false ty).run P w = .ok v' w' ∧
   match c with
   | none => VR r (.tup [.bool false]) v' ∧ Post r h w r h w'
   | some (k, v, h') => VR r (.tup [.bool true, k, v]) v' ∧ Post r h w r h' w' := by
 unfold Asked at ha
 cases hx with
 | ptr ht =>
 rename_i t
 split at ha
 ·rename_i a b c hg
  obtain ⟨m', hb, h0, hm⟩ := hrel.obj _ _ _ ht hg
  cases hm
  have hget : (getObj t.blk).run P w = .ok (.mapIter none a b.toArray c) w := by simp [getObj, Sem.run, hb]
  refine ⟨none, _, w, by unfold Nexts; rw [hg], ?_, VR_tup (vs := [.bool false]) (.cons (.bool _) .nil), Post.refl hrel⟩
  simp only [Instr.next, h0, Nat.add_zero, Sem.run_bind, hget, Result.andThen_ok]
  rfl
 ·rename_i m since seen last hg
  obtain ⟨m', hb, h0, hm⟩ := hrel.obj _ _ _ ht hg
  cases hm with
  | map htm =>
  rename_i tm
  have hget : (getObj t.blk).run P w = .ok (.mapIter (some tm.blk) since seen.toArray last) w := by simp [getObj, Sem.run, hb]
  split at ha
  ·rename_i es clk hgm
   obtain ⟨E, hbm, hE, hp⟩ := hrel.mapAt htm hgm
   have hgetm := run_getObj (P := P) hbm
   obtain ⟨E', hperm, hl, hpt⟩ := hE
   -- the entries on both sides
   have toE : ∀ x ∈ es, ∃ e ∈ E.toList, VR r x.1 e.key ∧ VR r x.2.1 e.val ∧ x.2.2 = e.born := by
    intro x hx
    obtain ⟨j, hj⟩ := List.getElem?_of_mem hx
    have hlt : j < E'.length := by rw [← hl]; exact (List.getElem?_eq_some_iff.1 hj).1
    exact ⟨E'[j], hperm.mem_iff.1 (List.getElem_mem hlt), hpt j x _ hj (List.getElem?_eq_getElem hlt)⟩
   have ofE : ∀ e ∈ E.toList, ∃ x ∈ es, VR r x.1 e.key ∧ VR r x.2.1 e.val ∧ x.2.2 = e.born := by
    intro e he
    obtain ⟨j, x, h1, h2, h3⟩ := mem_pair hl hpt (hperm.mem_iff.2 he)
    exact ⟨x, List.mem_of_getElem? h1, h3⟩
   have hguard : (!seen.toArray.isEmpty && !E.isEmpty && E.all (·.born ≥ last)) = false := by
    rw [← Bool.not_eq_true]
    intro hq
    simp only [Bool.and_eq_true, Bool.not_eq_true', Array.all_eq_true_iff_forall_mem, decide_eq_true_eq] at hq
    obtain ⟨⟨q1, q2⟩, q3⟩ := hq
    refine ha ⟨?_, ?_, ?_⟩
    ·rintro rfl; simp at q1
    ·rintro rfl
     have : E' = [] := List.length_eq_zero_iff.1 hl.symm
     subst this
     have := hperm.nil_eq
     have hE0 : E = #[] := by rw [← Array.toList_eq_nil_iff]; exact this.symm
     subst hE0; simp at q2
    ·intro x hx
     obtain ⟨e, he, _, _, hb'⟩ := toE x hx
     rw [hb']; exact q3 e (by simpa using he)
   -- the draw
   obtain ⟨j, w1, hj, hw1, henv, hrun⟩ := run_mapNext (P := P) (w := w) (cand_pos E seen.toArray since)
   have hb1 : w1.heap[t.blk]? = some (.mapIter (some tm.blk) since seen.toArray last) := by rw [hw1]; exact hb
   have hp1 : Post r h w r h w1 := Post.same hrel hw1 henv
   have hcj : (candOf E seen.toArray since)[j]? = some ((candOf E seen.toArray since)[j]) := Array.getElem?_eq_getElem hj
   have hcs := cand_mem (Array.getElem_mem hj)
   generalize (candOf E seen.toArray since)[j] = cj at hcj hcs
   have hnext : (Instr.next (.pointer (some ⟨t.blk, t.base + 0, none⟩)) false ty).run P w = (match (candOf E seen.toArray since)[j]? with
     | some (some e) => (do setObj t.blk (.mapIter (some tm.blk) since (seen.toArray.push e.born) clk); pure (.tuple #[.bool true, e.key, e.val]) : Sem Value)
     | some none => pure (.tuple #[.bool false])
     | none => stuck "Next: no such candidate").run P w1 := by
    simp only [Instr.next, h0, Nat.add_zero, Sem.run_bind, hget, Result.andThen_ok, hgetm, hguard, Bool.false_eq_true, if_false]
    change Result.andThen (Sem.run P (choose (.mapNext (candOf E seen.toArray since).size)) w) _ = _
    rw [hrun]
    rfl
   rcases hcs with ⟨rfl, hno⟩ | ⟨e, rfl, he, hns⟩
   ·refine ⟨none, .tuple #[.bool false], w1, ?_, ?_, VR_tup (vs := [.bool false]) (.cons (.bool _) .nil), hp1⟩
    ·unfold Nexts
     rw [hg]
     simp only [hgm]
     intro x hx hns
     obtain ⟨e, he, _, _, hbn⟩ := toE x hx
     rw [hbn] at hns ⊢
     exact hno e he hns
    ·rw [hnext, hcj]
     rfl
   ·obtain ⟨x, hx, hv1, hv2, hbn⟩ := ofE e he
    have hlt := World.block_lt hb1
    refine ⟨some (x.1, x.2.1, h.set i (.miter (some m) since (seen ++ [x.2.2]) clk)), .tuple #[.bool true, e.key, e.val], { w1 with heap := w1.heap.setIfInBounds t.blk (.mapIter (some tm.blk) since (seen.toArray.push e.born) clk) }, ?_, ?_, VR_tup (vs := [.bool true, e.key, e.val]) (.cons (.bool _) (.cons hv1 (.cons hv2 .nil))), ?_⟩
    ·unfold Nexts
     rw [hg]
     simp only [hgm]
     exact ⟨x, hx, by rw [hbn]; exact hns, rfl, rfl, rfl⟩
    ·rw [hnext, hcj]
     simp only [Sem.run_bind, setObj, Sem.run, hb1, Result.andThen_ok]
     rfl
    ·refine hp1.trans (Post.of_set (o' := .miter (some m) since (seen ++ [x.2.2]) clk) hp1.rel ht hg rfl rfl (by simp) ⟨rfl, rfl, rfl, fun _ => Nat.le_refl _⟩ (fun b hbb => by simp [Array.getElem?_setIfInBounds_ne (Ne.symm hbb)]) ⟨some tm.blk, ?_, h0, .map htm⟩)
     simp only [hbn]
     rw [show (seen ++ [e.born]).toArray = seen.toArray.push e.born by simp]
     simp [hlt]
  ·exact absurd ha id
 ·exact absurd ha id
end Go.Ev

/- The abstract machine Ev, part Z: regions, functions and tables of those whose runs may end in unlike ways. -/
namespace Go.Ev
open Go.RowKit
theorem Nexts_ex {h : H} {i : Nat} (ha : Asked h i) : ∃ c, Nexts h i c := by
 unfold Asked at ha
 split at ha
 ·rename_i hg; exact ⟨none, by unfold Nexts; rw [hg]⟩
 ·rename_i m since seen last hg
  split at ha
  ·rename_i es clk hgm
   by_cases hx : ∃ e ∈ es, e.2.2 ∉ seen
   ·obtain ⟨e, he, hs⟩ := hx
    exact ⟨some (e.1, e.2.1, _), by unfold Nexts; rw [hg]; simp only [hgm]; exact ⟨e, he, hs, rfl, rfl, rfl⟩⟩
   ·exact ⟨none, by unfold Nexts; rw [hg]; simp only [hgm]; exact fun e he hs => absurd ⟨e, he, hs⟩ hx⟩
  ·exact absurd ha id
 ·exact absurd ha id
theorem Nexts_grows {h h' : H} {i : Nat} {k v : AV} (hn : Nexts h i (some (k, v, h'))) : h.next ≤ h'.next ∧ (h.WF → h'.WF) := by
 unfold Nexts at hn
 split at hn
 ·cases hn
 ·rename_i hg
  split at hn
  ·obtain ⟨e, _, _, _, _, rfl⟩ := hn
   exact ⟨Nat.le_refl _, fun hw => WF_set hw hg⟩
  ·exact absurd hn id
 ·exact absurd hn id
open Classical in
noncomputable def nextMK (h : H) (i : Nat) (f : AV → AV → H → Option Unit) (g : Option Unit) : Option Unit :=
 if Asked h i ∧ ∀ c, Nexts h i c → (match c with | none => g | some (k, v, h') => f k v h') = some () then some () else none
theorem nextMK_some {h : H} {i : Nat} {f : AV → AV → H → Option Unit} {g : Option Unit} (e : nextMK h i f g = some ()) : Asked h i ∧ ∀ c, Nexts h i c → (match c with | none => g | some (k, v, h') => f k v h') = some () := by
 unfold nextMK at e
 split at e
 ·assumption
 ·cases e
noncomputable def rangeMK {β : Type} (m : Option Nat) (h : H) (k : Nat → H → Option β) : Option β := match evRangeM m h with | some o => k h.next (h.new o) | none => none
/-- the entry that an iterator has come to -/
def evEntry (h : H) (i : Nat) : Option (AV × AV) :=
 match h.get i with
 | some (.miter (some m) _ seen last) =>
  match h.mapAt m, seen.getLast? with
  | some (es, clk), some stamp => if clk = last then (match es.filter fun e => e.2.2 == stamp with | [e] => some (e.1, e.2.1) | _ => none) else none
  | _, _ => none
 | _ => none
theorem find_only {α : Type} {p : α → Bool} : ∀ {l : List α} {x : α}, l.filter p = [x] → l.find? p = some x
 | y :: l, x, h => by
  rw [List.filter_cons] at h
  rw [List.find?_cons]
  cases hp : p y with
  | true =>
   rw [hp] at h
   simp only [if_true, List.cons.injEq] at h
   rw [h.1]
  | false =>
   rw [hp] at h
   simp only [Bool.false_eq_true, if_false] at h
   exact find_only h
theorem evEntry_sim {P : Program} {r : Ren} {h : H} {w : World} (hrel : Rel r h w) {i : Nat} {a b : AV} {it' : Value} (hs : evEntry h i = some (a, b)) (hx : VR r (.ptr (some (i, 0))) it') :
  ∃ v', (Instr.entry it').run P w = .ok v' w ∧ VR r (.tup [a, b]) v' := by
 unfold evEntry at hs
 cases hx with
 | ptr ht =>
 rename_i t
 split at hs
 ·rename_i m since seen last hg
  obtain ⟨m', hb, h0, hm⟩ := hrel.obj _ _ _ ht hg
  cases hm with
  | map htm =>
  rename_i tm
  have hget : (getObj t.blk).run P w = .ok (.mapIter (some tm.blk) since seen.toArray last) w := by simp [getObj, Sem.run, hb]
  split at hs
  ·rename_i es clk stamp hgm hst
   obtain ⟨E, hbm, ⟨E', hperm, hl, hpt⟩, hp⟩ := hrel.mapAt htm hgm
   have hgetm := run_getObj (P := P) hbm
   split at hs
   ·rename_i hclk
    split at hs
    ·rename_i e hf
     cases hs
     have hmem : e ∈ es ∧ (e.2.2 == stamp) = true := by
      have : e ∈ es.filter fun e => e.2.2 == stamp := by rw [hf]; simp
      exact List.mem_filter.1 this
     obtain ⟨j, hj⟩ := List.getElem?_of_mem hmem.1
     have hlt : j < E'.length := by rw [← hl]; exact (List.getElem?_eq_some_iff.1 hj).1
     have hv := hpt j e _ hj (List.getElem?_eq_getElem hlt)
     -- one entry alone has that stamp
     have hlen : (E.toList.filter fun e => e.born == stamp).length = 1 := by
      rw [← (hperm.filter _).length_eq]
      have e1 : (es.filter fun e => e.2.2 == stamp).length = 1 := by rw [hf]; rfl
      rw [← e1, ← List.countP_eq_length_filter, ← List.countP_eq_length_filter]
      have hmap : E'.map (·.born) = es.map (·.2.2) := by
       apply List.ext_getElem?
       intro q
       rw [List.getElem?_map, List.getElem?_map]
       cases hq : es[q]? with
       | none =>
        have : E'[q]? = none := by
         rw [List.getElem?_eq_none_iff] at hq ⊢
         omega
        rw [this]; rfl
       | some x =>
        have hq2 : q < E'.length := by rw [← hl]; exact (List.getElem?_eq_some_iff.1 hq).1
        rw [List.getElem?_eq_getElem hq2]
        simp only [Option.map_some]
        rw [(hpt q x _ hq (List.getElem?_eq_getElem hq2)).2.2]
      have c1 : E'.countP (fun e => e.born == stamp) = (E'.map (·.born)).countP (· == stamp) := by rw [List.countP_map]; rfl
      have c2 : es.countP (fun e => e.2.2 == stamp) = (es.map (·.2.2)).countP (· == stamp) := by rw [List.countP_map]; rfl
      rw [c1, c2, hmap]
     obtain ⟨y, hy⟩ : ∃ y, E.toList.filter (fun e => e.born == stamp) = [y] := List.length_eq_one_iff.1 hlen
     have hye : y = E'[j] := by
      have : E'[j] ∈ E.toList.filter fun e => e.born == stamp := List.mem_filter.2 ⟨hperm.mem_iff.1 (List.getElem_mem hlt), by rw [← hv.2.2]; exact hmem.2⟩
      rw [hy] at this
      exact (List.mem_singleton.1 this).symm
     have hfind : E.find? (fun e => e.born == stamp) = some E'[j] := by
      rw [← Array.find?_toList, find_only hy, hye]
     refine ⟨.tuple #[E'[j].key, E'[j].val], ?_, VR_pair hv.1 hv.2.1⟩
     have hback : seen.toArray.back? = some stamp := by rw [List.back?_toArray]; exact hst
     have hne : (clk != last) = false := by simp [hclk]
     simp only [Instr.entry, h0, Nat.add_zero, Sem.run_bind, hget, Result.andThen_ok, hback, hgetm, hne, Bool.false_eq_true, if_false, hfind, Sem.run_pure]
    ·cases hs
   ·cases hs
  ·cases hs
 ·cases hs
noncomputable def entryK {β : Type} (h : H) (i : Nat) (f : AV → AV → Option β) : Option β := match evEntry h i with | some (a, b) => f a b | none => none
structure EntryR (P : Program) where
 id : FuncId
 run : List AV → H → (AV → H → Option Unit) → Option Unit
 there : ∃ fn, P.funcs[id]? = some fn ∧ fn.body.isNone = false ∧ (fn.name == "runtime.NumGoroutine") = false
 ends : ∀ args h k, run args h k = some () → ∃ v h', k v h' = some () ∧ h.next ≤ h'.next ∧ (h.WF → h'.WF)
 sim : ∀ args h k (r : Ren) (w : World) (args' : Array Value), run args h k = some () → Rel r h w → (∀ i, h.next ≤ i → r i = none) → VRL r args args'.toList →
  Calls P id args' w fun e w' => ∃ r' v v' h', e = .returned v' ∧ VR r' v v' ∧ Post r h w r' h' w' ∧ k v h' = some ()
 fits : List AV → Bool := fun _ => true
/-- what calls of functions whose runs may end in unlike ways come to -/
structure CR where
 isR : FuncId → Bool
 run : FuncId → List AV → H → (AV → H → Option Unit) → Option Unit
structure CR.Sound (P : Program) (cr : CR) : Prop where
 there : ∀ f, cr.isR f = true → ∃ fn, P.funcs[f]? = some fn ∧ fn.body.isNone = false ∧ (fn.name == "runtime.NumGoroutine") = false
 ends : ∀ f args h k, cr.isR f = true → cr.run f args h k = some () → ∃ v h', k v h' = some () ∧ h.next ≤ h'.next ∧ (h.WF → h'.WF)
 sim : ∀ f args h k (r : Ren) (w : World) (args' : Array Value), cr.isR f = true → cr.run f args h k = some () → Rel r h w → (∀ i, h.next ≤ i → r i = none) → VRL r args args'.toList →
  Calls P f args' w fun e w' => ∃ r' v v' h', e = .returned v' ∧ VR r' v v' ∧ Post r h w r' h' w' ∧ k v h' = some ()
noncomputable def evOperR (P : Program) (ck : CK) (cr : CR) (ρ : Operand → AV) (op : Op) (h : H) (k : AV → H → Option Unit) : Option Unit :=
  match op with
  | .next it false => asPtr (ρ it) fun p => nnK p fun i off => (match off with | 0 => nextMK h i (fun a b h' => k (.tup [.bool true, a, b]) h') (k (.tup [.bool false]) h) | _ => none)
  | .entry it => asPtr (ρ it) fun p => nnK p fun i off => (match off with | 0 => entryK h i fun a b => k (.tup [a, b]) h | _ => none)
  | .range t x => (match mapD P t with | true => asMap (ρ x) fun m => rangeMK m h fun i h' => k (.ptr (some (i, 0))) h' | false => evOperK P ck ρ (.range t x) h k)
  | .call c =>
    (match c.callee with
     | .value x =>
       (match ρ x with
        | .func f first caps =>
          (match cr.isR f with
           | true => cr.run f (first ++ c.args.toList.map ρ ++ caps) h k
           | false => ck.run f (first ++ c.args.toList.map ρ ++ caps) h k)
        | _ => none)
     | _ => evOperK P ck ρ (.call c) h k)
  | op => evOperK P ck ρ op h k
noncomputable def evStepR (P : Program) (ck : CK) (cr : CR) (ops : Array Oper) (N : Nat) (A : KF) (o : Oper) (h : H) (k : KF → AV → H → Option Unit) : Option Unit :=
 match o.guard with
 | none => evOperR P ck cr (kopd N A) o.op h fun v h' => stepK P o.op o.type v fun v => k A v h'
 | some (j, want) =>
  match (ops[j]?).bind (·.dst) with
  | none => k A (.tup []) h
  | some t =>
   match kopd N A (.tmp t) with
   | .tup [] => k A (.tup []) h
   | v => asBool v fun b => cond b
     (match want with | true => evOperR P ck cr (kopd N (kput N A (some t) (.bool true))) o.op h fun v h' => stepK P o.op o.type v fun v => k (kput N A (some t) (.bool true)) v h' | false => k (kput N A (some t) (.bool true)) (.tup []) h)
     (match want with | true => k (kput N A (some t) (.bool false)) (.tup []) h | false => evOperR P ck cr (kopd N (kput N A (some t) (.bool false))) o.op h fun v h' => stepK P o.op o.type v fun v => k (kput N A (some t) (.bool false)) v h')
noncomputable def evOpsR (P : Program) (ck : CK) (cr : CR) (ops : Array Oper) (N : Nat) : List Oper → KF → H → (KF → H → Option Unit) → Option Unit
 | [], A, h, k => k A h
 | o :: l, A, h, k => evStepR P ck cr ops N A o h fun A' v h' => evOpsR P ck cr ops N l (kput N A' o.dst v) h' k
noncomputable def regR (P : Program) (ck : CK) (cr : CR) (N : Nat) (ops : Array Oper) : KC Unit := fun A h kn _ _ => evOpsR P ck cr ops N ops.toList A h kn
section
variable {P : Program} {ck : CK} {cr : CR} {ops : Array Oper} {N : Nat} {o : Oper}
theorem stepR_cases {A : KF} {h : H} {k : KF → AV → H → Option Unit} (e : evStepR P ck cr ops N A o h k = some ()) :
  ∃ A' b, kopd N A' = kopd N A ∧ evWanted ops (kopd N A) o = some b ∧ (if b = true then evOperR P ck cr (kopd N A) o.op h (fun v h' => stepK P o.op o.type v fun v => k A' v h') = some () else k A' (.tup []) h = some ()) := by
 unfold evStepR at e
 split at e
 ·rename_i hg
  exact ⟨A, true, rfl, by simp [evWanted, hg], e⟩
 ·rename_i j want hg
  split at e
  ·rename_i hd
   exact ⟨A, false, rfl, by simp only [evWanted, hg, hd], e⟩
  ·rename_i t hd
   split at e
   ·rename_i hv
    exact ⟨A, false, rfl, by simp only [evWanted, hg, hd, hv], e⟩
   ·obtain ⟨b, hb, e'⟩ := asBool_some e
    clear e; have e := e'; clear e'
    have hsame := kopd_put_same hb (by intro e; cases e)
    cases b <;> cases want <;> simp only [cond_true, cond_false] at e
    ·rw [hsame] at e
     exact ⟨_, true, hsame, by simp [evWanted, hg, hd, hb], e⟩
    ·exact ⟨_, false, hsame, by simp only [evWanted, hg, hd, hb]; rfl, e⟩
    ·exact ⟨_, false, hsame, by simp only [evWanted, hg, hd, hb]; rfl, e⟩
    ·rw [hsame] at e
     exact ⟨_, true, hsame, by simp [evWanted, hg, hd, hb], e⟩
theorem operK_ends (hck : ck.call.Sound P) {ρ : Operand → AV} {op : Op} {h : H} {k : AV → H → Option Unit} (e : evOperK P ck ρ op h k = some ()) : ∃ v h', k v h' = some () ∧ h.next ≤ h'.next ∧ (h.WF → h'.WF) := by
 obtain ⟨v, h', h1, h2⟩ := evOperK_some e
 exact ⟨v, h', h2, evOper_grows hck h1⟩
theorem operR_ends (hck : ck.call.Sound P) (hcr : cr.Sound P) {ρ : Operand → AV} {op : Op} {h : H} {k : AV → H → Option Unit} (e : evOperR P ck cr ρ op h k = some ()) : ∃ v h', k v h' = some () ∧ h.next ≤ h'.next ∧ (h.WF → h'.WF) := by
 unfold evOperR at e
 split at e
 ·obtain ⟨p, hp, e⟩ := asPtr_some e
  cases p with
  | none => cases e
  | some q =>
   obtain ⟨i, off⟩ := q
   simp only [nnK] at e
   split at e
   ·obtain ⟨ha, hn⟩ := nextMK_some e
    obtain ⟨c, hc⟩ := Nexts_ex ha
    have := hn c hc
    match c, hc, this with
    | none, _, h2 => exact ⟨_, _, h2, Nat.le_refl _, id⟩
    | some (a, b, h'), hc, h2 => exact ⟨_, _, h2, Nexts_grows hc⟩
   ·cases e
 ·obtain ⟨p, hp, e⟩ := asPtr_some e
  cases p with
  | none => cases e
  | some q =>
   obtain ⟨i, off⟩ := q
   simp only [nnK] at e
   split at e
   ·unfold entryK at e
    split at e
    ·exact ⟨_, _, e, Nat.le_refl _, id⟩
    ·cases e
   ·cases e
 ·split at e
  ·obtain ⟨m, hm, e⟩ := asMap_some e
   unfold rangeMK at e
   split at e
   ·exact ⟨_, _, e, Nat.le_succ _, WF_new⟩
   ·cases e
  ·exact operK_ends hck e
 ·rename_i c
  split at e
  ·rename_i x hx
   split at e
   ·rename_i f first caps hfx
    split at e
    ·rename_i hf
     exact hcr.ends _ _ _ _ hf e
    ·exact operK_ends (ρ := ρ) (op := .call c) hck (by simp only [evOperK, hx, hfx]; exact e)
   ·cases e
  ·exact operK_ends hck e
 ·exact operK_ends hck e
theorem stepR_ends (hck : ck.call.Sound P) (hcr : cr.Sound P) {A : KF} {h : H} {k : KF → AV → H → Option Unit} (e : evStepR P ck cr ops N A o h k = some ()) : ∃ A' v h', k A' v h' = some () ∧ h.next ≤ h'.next ∧ (h.WF → h'.WF) := by
 obtain ⟨A', b, _, _, e⟩ := stepR_cases e
 split at e
 ·obtain ⟨v, h', h1, h2⟩ := operR_ends hck hcr e
  exact ⟨A', v, h', stepK_some h1, h2⟩
 ·exact ⟨A', _, h, e, Nat.le_refl _, id⟩
theorem FRk.same {r : Ren} {A A' : KF} {a : Act} (h : FRk r A a) (hsz : a.tmps.size = N) (hs : kopd N A' = kopd N A) : FRk r A' a := by
 intro t ht
 have := congrFun hs (.tmp t)
 simp only [kopd, blt_of (show t < N by omega)] at this
 rw [this]; exact h t ht
theorem FRk.mono {r r' : Ren} (hr : r.le r') {A : KF} {a : Act} (h : FRk r A a) : FRk r' A a := fun t ht => (h t ht).mono hr
theorem size_put (a : Act) (d : Option Tmp) (v : Value) : (a.put d v).tmps.size = a.tmps.size := by cases d <;> simp [Act.put]
theorem FRk.put {r : Ren} {A : KF} {a : Act} (h : FRk r A a) (hsz : a.tmps.size = N) (d : Option Tmp) {x : AV} {v : Value} (hv : VR r x v) : FRk r (kput N A d x) (a.put d v) := by
 intro t ht
 rw [size_put] at ht
 cases d with
 | none => exact h t ht
 | some d =>
  by_cases hd : d < N
  ·rw [look_put hd]
   by_cases e : d = t
   ·subst e
    rw [if_pos rfl]
    simp only [Act.eval, Act.put]
    rw [Array.getD_eq_getD_getElem?, Array.getElem?_setIfInBounds_self, if_pos ht]
    exact hv
   ·rw [if_neg e]
    have := h t ht
    simp only [Act.eval, Act.put] at this ⊢
    rw [Array.getD_eq_getD_getElem?, Array.getElem?_setIfInBounds_ne e, ← Array.getD_eq_getD_getElem?]
    exact this
  ·have hb : Nat.blt d N = false := by rw [← Bool.not_eq_true]; intro h; exact hd (of_blt h)
   simp only [kput, hb]
   have := h t ht
   have hne : d ≠ t := fun e => hd (by rw [e, ← hsz]; exact ht)
   simp only [Act.eval, Act.put] at this ⊢
   rw [Array.getD_eq_getD_getElem?, Array.getElem?_setIfInBounds_ne hne, ← Array.getD_eq_getD_getElem?]
   exact this
theorem free_all {r r' : Ren} {h h' : H} {w w' : World} (p : Post r h w r' h' w') (hfree : ∀ i, h.next ≤ i → r i = none) : ∀ i, h'.next ≤ i → r' i = none := by
 intro i hi
 cases hr : r' i with
 | none => rfl
 | some t =>
  have := p.dom i t hr (hfree i (Nat.le_trans p.next hi))
  omega
theorem operK_wp (hck : ck.call.Sound P) {ρ : Operand → AV} {h : H} {k : AV → H → Option Unit} (e : evOperK P ck ρ o.op h k = some ()) {r : Ren} {a : Act} {w : World} (hρ : ∀ x, VR r (ρ x) (a.eval x)) (hrel : Rel r h w) (hfree : ∀ i, h.next ≤ i → r i = none)
  (Q : Exit → Act → World → Prop) (K : Act → World → Prop) (hK : ∀ r' v v' h' w', VR r' v v' → Post r h w r' h' w' → k v h' = some () → K (a.put o.dst v') w') : o.wp P a w K Q := by
 obtain ⟨v, h', h1, h2⟩ := evOperK_some e
 exact oper_leads hck hρ hrel (fun i a _ => hfree i a) h1 Q K fun v' w' ⟨r', hv, hp⟩ => hK r' v v' h' w' hv hp h2
theorem operR_wp (hck : ck.call.Sound P) (hcr : cr.Sound P) {ρ : Operand → AV} {h : H} {k : AV → H → Option Unit} (e : evOperR P ck cr ρ o.op h k = some ()) {r : Ren} {a : Act} {w : World} (hρ : ∀ x, VR r (ρ x) (a.eval x)) (hrel : Rel r h w) (hfree : ∀ i, h.next ≤ i → r i = none)
  (Q : Exit → Act → World → Prop) (K : Act → World → Prop) (hK : ∀ r' v v' h' w', VR r' v v' → Post r h w r' h' w' → k v h' = some () → K (a.put o.dst v') w') : o.wp P a w K Q := by
 unfold evOperR at e
 split at e
 ·rename_i it hop
  obtain ⟨p, hp, e⟩ := asPtr_some e
  cases p with
  | none => cases e
  | some q =>
   obtain ⟨i, off⟩ := q
   simp only [nnK] at e
   split at e
   ·obtain ⟨ha, hn⟩ := nextMK_some e
    have hx := hρ it
    rw [hp] at hx
    obtain ⟨c, v', w', hc, hrun, hres⟩ := Nexts_sim (P := P) (ty := o.type) hrel ha hx
    have hr : (execOp a.eval o).run P w = .ok (.value v') w' := by simp [execOp, hop, hrun]
    have hk := hn c hc
    match c, hc, hres, hk with
    | none, _, hres, hk => exact Leads.of_run (Φ := fun v'' w'' => v'' = v' ∧ w'' = w') hr (.inl rfl) ⟨rfl, rfl⟩ Q K fun v'' w'' ⟨e1, e2⟩ => by subst e1; subst e2; exact hK r _ _ h _ hres.1 hres.2 hk
    | some (x, y, h'), _, hres, hk => exact Leads.of_run (Φ := fun v'' w'' => v'' = v' ∧ w'' = w') hr (.inl rfl) ⟨rfl, rfl⟩ Q K fun v'' w'' ⟨e1, e2⟩ => by subst e1; subst e2; exact hK r _ _ h' _ hres.1 hres.2 hk
   ·cases e
 ·rename_i it hop
  obtain ⟨p, hp, e⟩ := asPtr_some e
  cases p with
  | none => cases e
  | some q =>
   obtain ⟨i, off⟩ := q
   simp only [nnK] at e
   split at e
   ·unfold entryK at e
    split at e
    ·rename_i x y hxy
     have hx := hρ it
     rw [hp] at hx
     obtain ⟨v', hrun, hv⟩ := evEntry_sim (P := P) hrel hxy hx
     have hr : (execOp a.eval o).run P w = .ok (.value v') w := by simp [execOp, hop, hrun]
     exact Leads.of_run (Φ := fun v'' w'' => v'' = v' ∧ w'' = w) hr (.inl rfl) ⟨rfl, rfl⟩ Q K fun v'' w'' ⟨e1, e3⟩ => by subst e1; subst e3; exact hK r _ _ h _ hv (Post.refl hrel) e
    ·cases e
   ·cases e
 ·rename_i t x hop
  split at e
  ·rename_i hd
   obtain ⟨m, hm, e⟩ := asMap_some e
   unfold rangeMK at e
   split at e
   ·rename_i ob hob
    have hx := hρ x
    rw [hm] at hx
    obtain ⟨kt, el, hu⟩ : ∃ kt el, P.underlying t = some (.map kt el) := by
     unfold mapD at hd
     split at hd
     ·rename_i kt el hu; exact ⟨kt, el, hu⟩
     ·cases hd
    obtain ⟨w', r', hrun, hv, hp⟩ := evRangeM_sim (P := P) hrel (hfree _ (Nat.le_refl _)) hu hob hx
    have hr : (execOp a.eval o).run P w = .ok (.value (.pointer (some ⟨w.heap.size, 0, none⟩))) w' := by simp [execOp, hop, hrun]
    exact Leads.of_run (Φ := fun v'' w'' => v'' = .pointer (some ⟨w.heap.size, 0, none⟩) ∧ w'' = w') hr (.inl rfl) ⟨rfl, rfl⟩ Q K fun v'' w'' ⟨e1, e2⟩ => by subst e1; subst e2; exact hK r' _ _ _ _ hv hp e
   ·cases e
  ·rw [← hop] at e; exact operK_wp hck e hρ hrel hfree Q K hK
 ·rename_i c hop
  split at e
  ·rename_i x hx
   split at e
   ·rename_i f first caps hfx
    split at e
    ·rename_i hfind
     have hxv := hρ x
     rw [hfx] at hxv
     generalize hq : a.eval x = q at hxv
     cases hxv with
     | func _ _ _ first' caps' h1 h2 h3 h4 =>
     have hargs : VRL r (first ++ c.args.toList.map ρ ++ caps) (first' ++ c.args.map a.eval ++ caps').toList := by
      rw [Array.toList_append, Array.toList_append]
      have e1 : VRL r first first'.toList := ⟨by simpa using h1, fun i x v hx hv => h3 i x v hx (by simpa using hv)⟩
      have e2 : VRL r caps caps'.toList := ⟨by simpa using h2, fun i x v hx hv => h4 i x v hx (by simpa using hv)⟩
      exact (e1.append (VRL_ops hρ c.args)).append e2
     obtain ⟨fn, hfn, hbody, hname⟩ := hcr.there _ hfind
     have hsim := hcr.sim _ _ _ _ r w _ hfind e hrel hfree hargs
     unfold Oper.wp
     have hr : (execOp a.eval o).run P w = .ok (.enter f (first' ++ c.args.map a.eval ++ caps')) w := by
      have hn1 : ¬ fn.name = "runtime.NumGoroutine" := by simpa using hname
      have hb1 : ¬ fn.body = none := fun e => by rw [e] at hbody; cases hbody
      simp [execOp, hop, resolve, hx, hq, Deferred.ofValue, invoke, callFunc, hfn, hb1, hn1]
     rw [hr, Oper.upon_enter]
     refine hsim.mono fun e w' he => ?_
     obtain ⟨r', v, v', h', rfl, hv', hp, hk⟩ := he
     exact hK r' v v' h' w' hv' hp hk
    ·have e' : evOperK P ck ρ (.call c) h k = some () := by simp only [evOperK, hx, hfx]; exact e
     rw [← hop] at e'; exact operK_wp hck e' hρ hrel hfree Q K hK
   ·cases e
  ·rw [← hop] at e; exact operK_wp hck e hρ hrel hfree Q K hK
 ·exact operK_wp hck e hρ hrel hfree Q K hK
theorem stepR_wp (hck : ck.call.Sound P) (hcr : cr.Sound P) {A : KF} {h : H} {k : KF → AV → H → Option Unit} (e : evStepR P ck cr ops N A o h k = some ()) {r : Ren} {a : Act} {w : World} (hfr : FRk r A a) (hsz : a.tmps.size = N) (hrel : Rel r h w) (hfree : ∀ i, h.next ≤ i → r i = none)
  (Q : Exit → Act → World → Prop) (K : Act → World → Prop) (hK : ∀ r' v v' A' h' w', VR r' v v' → FRk r A' a → Post r h w r' h' w' → k A' v h' = some () → K (a.put o.dst v') w') :
  if Region.wanted o (yielded ops a.tmps) then o.wp P a w K Q ∨ (o.asks P a w ∧ LetsOut Q) else K (a.put o.dst undef) w := by
 have hρ : ∀ x, VR r (kopd N A x) (a.eval x) := fun x => eval_slot hfr hsz hrel.glob x
 obtain ⟨A', b, hs, hb, e⟩ := stepR_cases e
 have hw := wanted_sim hb (fun t _ => hρ _)
 rw [hw]
 cases b with
 | false =>
  simp only [Bool.false_eq_true, if_false] at e ⊢
  exact hK r _ undef A' h w (VR_tup (vs := []) .nil) (hfr.same hsz hs) (Post.refl hrel) e
 | true =>
  simp only [if_true] at e ⊢
  exact .inl (operR_wp hck hcr e hρ hrel hfree Q K fun r' v v' h' w' h1 h2 h3 => hK r' v v' A' h' w' h1 (hfr.same hsz hs) h2 (stepK_some h3))
theorem opsR_ends (hck : ck.call.Sound P) (hcr : cr.Sound P) {k : KF → H → Option Unit} : ∀ (l : List Oper) (A : KF) (h : H), evOpsR P ck cr ops N l A h k = some () → ∃ A' h', k A' h' = some () ∧ h.next ≤ h'.next ∧ (h.WF → h'.WF)
 | [], A, h, e => ⟨A, h, e, Nat.le_refl _, id⟩
 | o :: l, A, h, e => by
  obtain ⟨A1, v, h1, e1, g1, w1⟩ := stepR_ends hck hcr e
  obtain ⟨A2, h2, e2, g2, w2⟩ := opsR_ends hck hcr l _ _ e1
  exact ⟨A2, h2, e2, Nat.le_trans g1 g2, fun hw => w2 (w1 hw)⟩
theorem opsR_wp (hck : ck.call.Sound P) (hcr : cr.Sound P) {k : KF → H → Option Unit} {Q : Exit → Act → World → Prop} : ∀ (l : List Oper) (A : KF) (h : H) (r : Ren) (a : Act) (w : World), evOpsR P ck cr ops N l A h k = some () → FRk r A a → a.tmps.size = N → Rel r h w → (∀ i, h.next ≤ i → r i = none) →
  (∀ r' a' w' A' h', FRk r' A' a' → a'.tmps.size = N → a'.defers = a.defers → Post r h w r' h' w' → k A' h' = some () → Q .normal a' w') → wpList P ops Q l a w
 | [], A, h, r, a, w, e, hfr, hsz, hrel, _, hQ => hQ r a w A h hfr hsz rfl (Post.refl hrel) e
 | o :: l, A, h, r, a, w, e, hfr, hsz, hrel, hfree, hQ => by
  unfold wpList
  refine stepR_wp hck hcr e hfr hsz hrel hfree Q (wpList P ops Q l) fun r' v v' A' h' w' hv hA hp hk => ?_
  refine opsR_wp hck hcr l _ h' r' (a.put o.dst v') w' hk ((hA.mono hp.le).put hsz o.dst hv) (by rw [size_put]; exact hsz) hp.rel (free_all hp hfree) fun r'' a'' w'' A'' h'' q1 q2 q3 q4 q5 => ?_
  exact hQ r'' a'' w'' A'' h'' q1 q2 (by rw [q3]; cases o.dst <;> rfl) (hp.trans q4) q5
end
theorem DenG.regionR {P : Program} {ck : CK} (hck : ck.call.Sound P) {cr : CR} (hcr : cr.Sound P) {N id : Nat} {ops : Array Oper} : DenG true P N (.region id ops false) (regR P ck cr N ops) where
 ends := fun A h kn ke kr x e => by
  cases x
  obtain ⟨A', h', h1, h2, h3⟩ := opsR_ends hck hcr _ _ _ e
  exact ⟨.normal, A', h', h1, h2, h3⟩
 sim := fun r a w A h kn ke kr x B e hfr hsz hrel hfree hB Q hQ => by
  cases x
  exact wp_region_list (opsR_wp hck hcr _ A h r a w e hfr hsz hrel (fun i hi => hfree i hi (B.all rfl i)) fun r' a' w' A' h' q1 q2 q3 q4 q5 => hQ r' a' w' A' h' .normal q1 q2 q3 q4 q5)
theorem resK_ex {P : Program} {N : Nat} {A' : KF} {h' : H} {x : Unit} : ∀ (xs : List ResultVar) (k' : List AV → Option Unit), resK P N A' h' xs k' = some x → ∃ vs, k' vs = some x
 | [], k', e => ⟨[], e⟩
 | .tmp t :: ys, k', e => by
  simp only [resK] at e
  obtain ⟨vs, hv⟩ := resK_ex ys _ e
  exact ⟨_, hv⟩
 | .cell ad t :: ys, k', e => by
  simp only [resK] at e
  obtain ⟨v, _, e⟩ := loadK_some e
  obtain ⟨vs, hv⟩ := resK_ex ys _ e
  exact ⟨_, hv⟩
/-- **What a function's body computes, each of the function's runs comes to.** -/
def EntryR.of {P : Program} {N : Nat} {c : Code} {X : KC Unit} (d : DenG true P N c X) {f : FuncId} {fn : Func} (hfn : P.funcs[f]? = some fn) (hbody : fn.body = some c) (hname : (fn.name == "runtime.NumGoroutine") = false) (hN : fn.ntmps = N)
  (run : List AV → H → (AV → H → Option Unit) → Option Unit) (hrun : ∀ args h k, run args h k = some () → args.length ≤ N ∧ ∃ dec : AV → H → Option Unit, (∀ v h, dec v h = some () → k v h = some ()) ∧ bodyK P N fn.results X args h dec = some ()) (fits : List AV → Bool := fun _ => true) : EntryR P where
 id := f
 run := run
 fits := fits
 there := ⟨fn, hfn, by rw [hbody]; rfl, hname⟩
 ends := fun args h k e => by
  obtain ⟨_, dec, hdec, e⟩ := hrun args h k e
  obtain ⟨e1, A1, h1, l1, g1, w1⟩ := d.ends _ h _ _ _ _ e
  cases e1 with
  | normal => obtain ⟨vs, hv⟩ := resK_ex _ _ l1; exact ⟨_, h1, hdec _ _ hv, g1, w1⟩
  | ret => obtain ⟨vs, hv⟩ := resK_ex _ _ l1; exact ⟨_, h1, hdec _ _ hv, g1, w1⟩
  | exit i => cases l1
 sim := fun args h k r w args' e hrel hfree hargs => by
  obtain ⟨hlen, dec, hdec, e⟩ := hrun args h k e
  refine calls_of_wp hfn hbody ?_
  have hl : args.length = args'.size := by simpa using hargs.1
  have hsz : (args' ++ Array.replicate (fn.ntmps - args'.size) undef).size = N := by simp [hN]; omega
  refine d.sim r _ w _ h _ _ _ () ⟨fun _ => True, fun _ _ => trivial⟩ e (fun t ht => ?_) hsz hrel (fun i hi _ => hfree i hi) (fun _ _ _ _ _ _ => trivial) _ fun r' a' w' A' h' e' g1 g2 g3 g4 g5 => ?_
  ·rw [look_argsF]
   simp only [Nat.zero_le, true_and, Nat.zero_add, Nat.sub_zero]
   split
   ·rename_i hlt
    have h1 : args[t]? = some args[t] := List.getElem?_eq_getElem hlt
    have h2 : args'.toList[t]? = some (args'.toList[t]'(by simpa [← hl] using hlt)) := List.getElem?_eq_getElem _
    have := hargs.2 t _ _ h1 h2
    rw [List.getD_eq_getElem?_getD, h1]
    simp only [Act.eval, Array.getD_eq_getD_getElem?]
    rw [Array.getElem?_append_left (by omega), ← Array.getElem?_toList, h2]
    exact this
   ·exact .junk _
  ·have fin : ∀ A' h', FRk r' A' a' → Post r h w r' h' w' → resK P N A' h' fn.results.toList (fun vs => dec (oneOf vs) h') = some () →
     a'.defers = [] ∧ ∃ v, (results fn a'.tmps).run P w' = .ok v w' ∧ ∃ r' u v' h', Ending.returned v = .returned v' ∧ VR r' u v' ∧ Post r h w r' h' w' ∧ k u h' = some () := by
    intro A' h' g1 g4 g5
    obtain ⟨vs, vs', q1, q2, q3⟩ := resK_some g1 g2 g4.rel g5
    refine ⟨g3, (if h : vs'.toArray.size = 1 then vs'.toArray[0] else .tuple vs'.toArray), ?_, r', _, _, h', rfl, VR_oneOf q2, g4, hdec _ _ q1⟩
    show Sem.run P (do let vs ← fn.results.mapM (resSem a'.tmps); pure (if h : vs.size = 1 then vs[0] else .tuple vs)) w' = _
    rw [Array.mapM_eq_mapM_toList]
    simp only [Sem.run_bind, Sem.run_map, q3, Result.andThen_ok, Sem.run_pure]
   cases e' with
   | normal => exact fin A' h' g1 g4 g5
   | ret => exact fin A' h' g1 g4 g5
   | exit i => cases g5
end Go.Ev

/- The abstract machine Ev, part W: a region whose order is drawn, and whose last operation waits for all others. -/
namespace Go.Ev
open Go.RowKit
section
variable {P : Program} {ops : Array Oper} {Q : Exit → Act → World → Prop} {n : Nat}
/-- the ways out of a region, its normal end but as told -/
def endBy (Q : Exit → Act → World → Prop) (R : Act → World → Prop) : Exit → Act → World → Prop
 | .normal, a, w => R a w
 | e, a, w => Q e a w
theorem wp_endBy {R : Act → World → Prop} {o : Oper} {a : Act} {w : World} {K : Act → World → Prop} : o.wp P a w K (endBy Q R) = o.wp P a w K Q := by
 unfold Oper.wp
 cases (execOp a.eval o).run P w with
 | ok v w' => cases v <;> rfl
 | halt h w' => cases h <;> rfl
theorem outs_endBy {R : Act → World → Prop} : LetsOut (endBy Q R) = LetsOut Q := rfl
theorem pop_get {i : Nat} (hn : ops.size = n + 1) (hi : i < n) : ops.pop[i]? = ops[i]? := by
 rw [Array.getElem?_pop, if_pos (by omega)]
/-- each operation waits for earlier ones alone, and asks after earlier ones alone -/
structure Tidy (ops : Array Oper) : Prop where
 after : ∀ (j : Nat) o, ops[j]? = some o → ∀ e ∈ o.after, Region.binds .any e = true → e.on < j
 guard : ∀ (j : Nat) o g b, ops[j]? = some o → o.guard = some (g, b) → g < j
def Shut (ops : Array Oper) (listed : Array Bool) : Prop := ∀ m o, ops[m]? = some o → listed.getD m false = true → ∀ e ∈ o.after, Region.binds .any e = true → listed.getD e.on false = true
theorem getD_both {l : Array Bool} {i : Nat} (h : i < l.size) : l.getD i true = l.getD i false := by simp [h]
theorem none_ready (ht : Tidy ops) {listed : Array Bool} (hs : listed.size = ops.size) (hr : Region.ready .any ops listed = []) : ∀ i, i < ops.size → listed.getD i true = true := by
 intro i
 induction i using Nat.strongRecOn with
 | _ i ih =>
  intro hi
  cases hl : listed.getD i true with
  | true => rfl
  | false =>
   have ho : ops[i]? = some ops[i] := Array.getElem?_eq_getElem hi
   have : i ∈ Region.ready .any ops listed := mem_ready.2 ⟨hl, _, ho, fun e he hb => by
    have h1 := ht.after _ _ ho e he hb
    have h2 := ih e.on h1 (by omega)
    rwa [getD_both (by omega)] at h2⟩
   rw [hr] at this; cases this
theorem all_ready {listed : Array Bool} (hs : listed.size = ops.size) (h : ∀ i, i < ops.size → listed.getD i true = true) : Region.ready .any ops listed = [] := by
 rw [List.eq_nil_iff_forall_not_mem]
 intro j hj
 obtain ⟨h1, o, h2, _⟩ := mem_ready.1 hj
 have := h j (Array.getElem?_eq_some_iff.1 h2).1
 rw [this] at h1; cases h1
theorem set_getD {l : Array Bool} {i j : Nat} (hi : i < l.size) : (l.setIfInBounds i true).getD j true = if j = i then true else l.getD j true := by
 by_cases h : j = i
 ·subst h; simp [hi]
 ·rw [if_neg h]
  simp only [Array.getD_eq_getD_getElem?]
  rw [Array.getElem?_setIfInBounds_ne (Ne.symm h)]
theorem wpAny_last (hn : ops.size = n + 1) (ht : Tidy ops) (hcov : ∀ listed : Array Bool, listed.size = n + 1 → Shut ops listed → n ∈ Region.ready .any ops listed → ∀ i, i < n → listed.getD i true = true) :
  ∀ (fuel : Nat) (listed listed' : Array Bool) (a : Act) (w : World), listed'.size = n → listed.size = n + 1 → (∀ i, i < n → listed.getD i true = listed'.getD i true) → listed.getD n true = false → Shut ops listed →
   wpAny P .any ops.pop (endBy Q fun a w => wpOp P ops Q n (fun a w => Q .normal a w) a w) fuel listed' a w → wpAny P .any ops Q (fuel + 1) listed a w := by
 have hps : ops.pop.size = n := by simp [hn]
 have ht' : Tidy ops.pop := ⟨fun j o ho => ht.after j o (by
   have hj := (Array.getElem?_eq_some_iff.1 ho).1
   rwa [pop_get hn (by omega)] at ho), fun j o g b ho => ht.guard j o g b (by
   have hj := (Array.getElem?_eq_some_iff.1 ho).1
   rwa [pop_get hn (by omega)] at ho)⟩
 -- when all others are done
 have fin : ∀ (fuel : Nat) (listed : Array Bool) (a : Act) (w : World), listed.size = n + 1 → (∀ i, i < n → listed.getD i true = true) → listed.getD n true = false → wpOp P ops Q n (fun a w => Q .normal a w) a w → wpAny P .any ops Q (fuel + 1) listed a w := by
  intro fuel listed a w hs hall hn0 hw
  refine ⟨fun hr => ?_, fun i hi => ?_⟩
  ·have := none_ready ht (by omega) hr n (by omega)
   rw [this] at hn0; cases hn0
  ·obtain ⟨h1, o, h2, _⟩ := mem_ready.1 hi
   have hi1 := (Array.getElem?_eq_some_iff.1 h2).1
   have hin : i = n := by
    refine Nat.le_antisymm (by omega) (Nat.le_of_not_lt fun hlt => ?_)
    rw [hall i hlt] at h1; cases h1
   subst hin
   refine wpOp_mono (fun a w hq => ?_) hw
   have hr : Region.ready .any ops (listed.setIfInBounds i true) = [] := all_ready (by simp; omega) fun j hj => by
    rw [set_getD (by omega)]
    split
    ·rfl
    ·exact hall j (by omega)
   cases fuel with
   | zero => exact ⟨hr, hq⟩
   | succ f => exact ⟨fun _ => hq, fun j hj => by rw [hr] at hj; cases hj⟩
 intro fuel
 induction fuel with
 | zero =>
  intro listed listed' a w hs' hs hsame hn0 hshut h
  obtain ⟨hr, hq⟩ := h
  have hall := none_ready ht' (by omega) hr
  exact fin 0 listed a w hs (fun i hi => by rw [hsame i hi]; exact hall i (by omega)) hn0 hq
 | succ fuel ih =>
  intro listed listed' a w hs' hs hsame hn0 hshut h
  obtain ⟨h1, h2⟩ := h
  refine ⟨fun hr => ?_, fun i hi => ?_⟩
  ·have := none_ready ht (by omega) hr n (by omega)
   rw [this] at hn0; cases hn0
  ·obtain ⟨g1, o, g2, g3⟩ := mem_ready.1 hi
   have hi1 := (Array.getElem?_eq_some_iff.1 g2).1
   by_cases hin : i = n
   ·subst hin
    have hall := hcov listed hs hshut hi
    have hr : Region.ready .any ops.pop listed' = [] := all_ready (by omega) fun j hj => by rw [← hsame j (by omega)]; exact hall j (by omega)
    have := fin (fuel + 1) listed a w hs hall hn0 (h1 hr)
    exact this.2 i hi
   ·have hlt : i < n := by omega
    have hmem : i ∈ Region.ready .any ops.pop listed' := mem_ready.2 ⟨by rw [← hsame i hlt]; exact g1, o, by rw [pop_get hn hlt]; exact g2, fun e he hb => by
     have e1 := ht.after i o g2 e he hb
     have e2 := g3 e he hb
     rw [← getD_both (by omega)] at e2 ⊢
     rw [← hsame e.on (by omega)]; exact e2⟩
    have hw := h2 i hmem
    have hmono := wpOp_mono (K' := wpAny P .any ops Q (fuel + 1) (listed.setIfInBounds i true)) (fun a w hk => ih (listed.setIfInBounds i true) (listed'.setIfInBounds i true) a w (by simp [hs']) (by simp [hs]) (fun j hj => by
      rw [set_getD (by omega), set_getD (by omega), hsame j hj]) (by rw [set_getD (by omega), if_neg (by omega)]; exact hn0) (by
       intro m om hom hm e he hb
       have hml := (Array.getElem?_eq_some_iff.1 hom).1
       have hem := ht.after m om hom e he hb
       rw [← getD_both (by simp; omega), set_getD (by omega)] at hm ⊢
       by_cases hei : e.on = i
       ·rw [if_pos hei]
       ·rw [if_neg hei]
        by_cases hmi : m = i
        ·subst hmi
         rw [hom] at g2
         cases g2
         have := g3 e he hb
         rw [getD_both (by omega)]; exact this
        ·rw [if_neg hmi] at hm
         have := hshut m om hom (by rw [← getD_both (by omega)]; exact hm) e he hb
         rw [getD_both (by omega)]; exact this) hk) hw
    -- the same operation, in the whole region
    unfold wpOp at hmono ⊢
    rw [pop_get hn hlt] at hmono
    rw [g2] at hmono ⊢
    simp only at hmono ⊢
    have hwant : Region.wanted o (yielded ops.pop a.tmps) = Region.wanted o (yielded ops a.tmps) := by
     unfold Region.wanted
     split
     ·rfl
     ·rename_i g b hg
      have := ht.guard i o g b g2 hg
      unfold yielded
      rw [pop_get hn (by omega)]
    rw [hwant] at hmono
    rw [wp_endBy, outs_endBy] at hmono
    exact hmono
end
theorem region_wpAny {P : Program} {call : CallFn} (hcall : call.Sound P) {ops : Array Oper} (hok : okRegion P ops = true) {s s' : AState} (h : evOpsQ P call ops ops.toList 0 s.1 s.2 noT [] = some s')
  {r : Ren} {a : Act} {w : World} (hfr : FR r s.1 a) (hrel : Rel r s.2 w) (hfree : ∀ i, s.2.next ≤ i → i < s'.2.next → r i = none) {Q : Exit → Act → World → Prop} (hQ : ∀ r' a' w', FR r' s'.1 a' → a'.defers = a.defers → Post r s.2 w r' s'.2 w' → Q .normal a' w') :
  wpAny P .any ops Q ops.size (Array.replicate ops.size false) a w := by
 obtain ⟨F, Hs, V, e1, e2, e3, e4, e5, e6, e7⟩ := run_of_evOpsQ h (fun j _ => by simp)
 have hsz : ops.toList.length = ops.size := by simp
 rw [hsz] at e3 e4 e5 e6 e7
 have hrun : Run (fun _ => False) P call ops ops.size F Hs V := ⟨fun k hk => by
   obtain ⟨o, g1, g2, g3⟩ := e5 k hk
   exact ⟨o, by simpa using g1, .inl g2, g3⟩, fun k hk hq j oj hj hoj hc hi b hb => (e6 k hk (by simpa using hq)).2 j oj hj (by simpa using hoj) hc (by simpa using hi) b hb, fun k hk _ hs => by
   obtain ⟨S, _, g1, g2⟩ := e7 k hk (by simpa using hs)
   exact ⟨S, fun m hm hq _ => g1 m hm (by simpa using hq), fun o ho => g2 o (by simpa using ho)⟩⟩
 have hw : Post r s.2 w r s.2 w := Post.refl hrel
 have hlen : (F 0).length = a.tmps.size := by rw [e1]; simpa using hfr.1
 refine region_any hcall hok hrun (r0 := r) (w0 := w) (ds := a.defers) (by rw [e2]; exact hrel.wf) (by rw [e2, e4]; exact hfree) (fun r' a' w' h1 h2 h3 => ?_) ops.size _ r a w (by simp) (fun _ _ h => h.elim) ?_ ?_ ?_
 ·rw [e2, e4] at h3
  rw [e3] at h1
  exact hQ r' a' w' h1 h2 (hw.trans h3)
 ·intro m o ho hm' e he hb
  rw [getD_rep] at hm'; cases hm'
 ·have := List.length_filter_le (fun i => !(Array.replicate ops.size false).getD i true) (List.range ops.size)
  simpa using this
 ·intro D hD
  have hno : ∀ m, ¬ D m := fun m h => by have := (hD m).1 h; rw [getD_rep] at this; cases this
  have hcont : ∀ i, contD ops.size Hs D i = (Hs 0).get i := fun i => contD_agree (Nat.zero_le _) fun m _ _ => ⟨fun h => absurd h (hno m), fun h => by omega⟩
  refine ⟨Ren.le_refl _, (fun i t h1 h2 => by rw [h1] at h2; cases h2), hlen.symm, fun t ht => ?_, fun i t o h1 h2 => ?_, fun i k ti tk oi ok h1 h2 h3 h4 => ?_, hw.rel.bound, fun _ _ _ => rfl, Nat.le_refl _, .refl _, (fun i t h1 h2 => by rw [h1] at h2; cases h2), fun m _ h => absurd h (hno m), fun m _ h => absurd h (hno m), rfl, hrel.glob⟩
  ·rw [slotD_agree hrun ht (Nat.zero_le _) fun m _ _ => ⟨fun h => absurd h (hno m), fun h => by omega⟩, e1]
   exact opd_VR hfr hrel.glob (.tmp t)
  ·rw [hcont, e2] at h2
   exact hw.rel.obj i t o h1 h2
  ·rw [hcont, e2] at h3 h4
   exact hw.rel.inj i k ti tk oi ok h1 h2 h3 h4
theorem masks_listed {ops : Array Oper} (hM : okM ops (masks ops) = true) {listed : Array Bool} (hs : listed.size = ops.size) (hshut : Shut ops listed) :
  ∀ (j : Nat) o, ops[j]? = some o → (∀ e ∈ o.after, Region.binds .any e = true → listed.getD e.on false = true) → ∀ i, i < j → (masks ops j).testBit i = true → listed.getD i true = true := by
 intro j
 induction j using Nat.strongRecOn with
 | _ j ih =>
  intro o ho hl i hi hb
  have hj := (Array.getElem?_eq_some_iff.1 ho).1
  obtain ⟨h1, h2⟩ := okM_spec hM ho
  obtain ⟨e, he, hbe, hcase⟩ := h2 i hi hb
  have hel := hl e he hbe
  have hej := h1 e he hbe
  rcases hcase with rfl | ⟨hlt, hbit⟩
  ·rw [getD_both (by omega)]; exact hel
  ·exact ih e.on hej _ (Array.getElem?_eq_getElem (by omega)) (hshut e.on _ (Array.getElem?_eq_getElem (by omega)) hel) i hlt hbit
def pre (ops : Array Oper) (m : Nat) : Array Oper := (ops.toList.take m).toArray
theorem pre_size {ops : Array Oper} {m : Nat} (h : m ≤ ops.size) : (pre ops m).size = m := by simp [pre]; omega
theorem pre_get {ops : Array Oper} {m i : Nat} (h : i < m) : (pre ops m)[i]? = ops[i]? := by
 simp only [pre, List.getElem?_toArray, List.getElem?_take, if_pos h, Array.getElem?_toList]
theorem pre_lt {ops : Array Oper} {m i : Nat} {o : Oper} (h : (pre ops m)[i]? = some o) : i < m ∧ ops[i]? = some o := by
 simp only [pre, List.getElem?_toArray, List.getElem?_take] at h
 split at h
 ·rename_i hi; exact ⟨hi, by simpa using h⟩
 ·cases h
theorem pre_pop {ops : Array Oper} {m : Nat} (h : m + 1 ≤ ops.size) : (pre ops (m + 1)).pop = pre ops m := by
 apply Array.ext_getElem?
 intro i
 rw [Array.getElem?_pop, pre_size h]
 split
 ·rename_i hi; rw [pre_get (by omega), pre_get (by omega)]
 ·rename_i hi
  rw [Array.getElem?_eq_none (by rw [pre_size (by omega)]; omega)]
theorem pre_all (ops : Array Oper) : pre ops ops.size = ops := by
 apply Array.ext'
 show (List.take ops.size ops.toList) = ops.toList
 rw [← Array.length_toList, List.take_length]
/-- the last one waits for all others -/
def okCover (ops : Array Oper) (n : Nat) : Bool := okM ops (masks ops) && ((List.range n).all fun i => (masks ops n).testBit i)
def okGuards (ops : Array Oper) : Bool := (List.range ops.size).all fun j => match ops[j]? with | some o => (match o.guard with | some (g, _) => decide (g < j) | none => true) | none => true
def okTail (P : Program) (ops : Array Oper) (n : Nat) : Bool :=
 decide (n ≤ ops.size) && okRegion P (pre ops n) && okM ops (masks ops) && okGuards ops && ((List.range (ops.size - n)).all fun k => okCover (pre ops (n + k + 1)) (n + k))
theorem endBy_endBy {Q : Exit → Act → World → Prop} {R R' : Act → World → Prop} : endBy (endBy Q R) R' = endBy Q R' := by
 funext e a w
 cases e <;> rfl
theorem wpAny_tail {P : Program} {ops : Array Oper} {Q : Exit → Act → World → Prop} {n : Nat} (ht : Tidy ops) (hM : ∀ m, n ≤ m → m < ops.size → okCover (pre ops (m + 1)) m = true) {a : Act} {w : World}
  (h : wpAny P .any (pre ops n) (endBy Q fun a w => wpList P ops Q (ops.toList.drop n) a w) n (Array.replicate n false) a w) :
  ∀ k, n + k ≤ ops.size → wpAny P .any (pre ops (n + k)) (endBy Q fun a w => wpList P ops Q (ops.toList.drop (n + k)) a w) (n + k) (Array.replicate (n + k) false) a w
 | 0, _ => h
 | k + 1, hk => by
  have ih := wpAny_tail ht hM h k (by omega)
  have hps := pre_size (ops := ops) (m := n + k + 1) (by omega)
  have hcov := hM (n + k) (by omega) (by omega)
  simp only [okCover, Bool.and_eq_true] at hcov
  have ho : ops[n + k]? = some (ops[n + k]'(by omega)) := Array.getElem?_eq_getElem (by omega)
  generalize ops[n + k]'(by omega) = o at ho
  have hdrop : ops.toList.drop (n + k) = o :: ops.toList.drop (n + k + 1) := by
   rw [List.drop_eq_getElem_cons (by simp; omega)]
   congr 1
   rw [Array.getElem?_eq_getElem (by omega)] at ho
   simpa using ho
  have ht' : Tidy (pre ops (n + k + 1)) := ⟨fun j q hq => ht.after j q (pre_lt hq).2, fun j q g b hq => ht.guard j q g b (pre_lt hq).2⟩
  refine wpAny_last (ops := pre ops (n + k + 1)) (n := n + k) (Q := endBy Q fun a w => wpList P ops Q (ops.toList.drop (n + (k + 1))) a w) hps ht' (fun listed hs hshut hr i hi => ?_) (n + k) (Array.replicate (n + k + 1) false) (Array.replicate (n + k) false) a w (by simp) (by simp) (fun i hi => ?_) (by simp) (fun m om hom hm' e he hb => by rw [getD_rep] at hm'; cases hm') ?_
  ·obtain ⟨_, q, hq, hl⟩ := mem_ready.1 hr
   rw [pre_get (by omega), ho] at hq
   cases hq
   exact masks_listed hcov.1 (by omega) hshut (n + k) o ((pre_get (by omega)).trans ho) hl i hi (List.all_eq_true.1 hcov.2 i (List.mem_range.2 hi))
  ·have e1 : i < n + k + 1 := by omega
   simp [hi, e1]
  ·rw [pre_pop (by omega), endBy_endBy]
   have he : (fun a w => wpList P ops Q (ops.toList.drop (n + k)) a w) = fun a w => wpOp P (pre ops (n + k + 1)) (endBy Q fun a w => wpList P ops Q (ops.toList.drop (n + (k + 1))) a w) (n + k) (fun a w => (endBy Q fun a w => wpList P ops Q (ops.toList.drop (n + (k + 1))) a w) .normal a w) a w := by
    funext a w
    rw [hdrop]
    unfold wpOp
    rw [pre_get (by omega), ho]
    simp only
    rw [wp_endBy, outs_endBy]
    have hwant : Region.wanted o (yielded (pre ops (n + k + 1)) a.tmps) = Region.wanted o (yielded ops a.tmps) := by
     unfold Region.wanted
     split
     ·rfl
     ·rename_i g b hg
      have := ht.guard (n + k) o g b ho hg
      unfold yielded
      rw [pre_get (by omega)]
    rw [hwant]
    rfl
   rw [he] at ih
   exact ih
noncomputable def regT (P : Program) (ck : CK) (cr : CR) (N : Nat) (ops : Array Oper) (n : Nat) : KC Unit := fun A h kn _ _ =>
 evOpsK P ck (pre ops n) N true (pre ops n).toList 0 A h noT [] fun A' h' => evOpsR P ck cr ops N (ops.toList.drop n) A' h' kn
theorem DenG.regionT {P : Program} (hm : P.follows .mixedOrders = true) {ck : CK} (hck : ck.call.Sound P) {cr : CR} (hcr : cr.Sound P) {N id n : Nat} {ops : Array Oper} (hok : okTail P ops n = true) : DenG true P N (.region id ops true) (regT P ck cr N ops n) := by
 simp only [okTail, Bool.and_eq_true, decide_eq_true_eq] at hok
 obtain ⟨⟨⟨⟨hn, hpre⟩, hM⟩, hgd⟩, hcov⟩ := hok
 have key : ∀ A h (kn : KF → H → Option Unit) kr ke, regT P ck cr N ops n A h kn ke kr = some () → ∃ fr' A' h', evOpsQ P ck.call (pre ops n) (pre ops n).toList 0 ((List.range N).map (look A)) h noT [] = some (fr', h') ∧ AF N A' fr' ∧ evOpsR P ck cr ops N (ops.toList.drop n) A' h' kn = some () := by
  intro A h kn kr ke e
  unfold regT at e
  obtain ⟨fr', A', h', h1, h2, h3⟩ := evOpsK_some (fr := (List.range N).map (look A)) e ⟨by simp, fun t ht => by rw [List.getD_eq_getElem?_getD, List.getElem?_map, List.getElem?_range ht]; rfl⟩
  exact ⟨fr', A', h', by simpa using h1, h2, h3⟩
 have ht : Tidy ops := ⟨fun j q hq => (okM_spec hM hq).1, fun j q g b hq hg => by
  have hj := (Array.getElem?_eq_some_iff.1 hq).1
  have := List.all_eq_true.1 hgd j (List.mem_range.2 (by omega))
  rw [hq] at this
  simp only [hg, decide_eq_true_eq] at this
  exact this⟩
 refine ⟨fun A h kn ke kr x e => ?_, fun r a w A h kn ke kr x B e hfr hsz hrel hfree hB Q hQ => ?_⟩
 ·cases x
  obtain ⟨fr', A', h', h1, h2, h3⟩ := key A h kn kr ke e
  obtain ⟨A2, h'', e2, g2, w2⟩ := opsR_ends hck hcr _ _ _ h3
  have g1 := evOpsQ_grows hck h1
  exact ⟨.normal, _, h'', e2, Nat.le_trans g1.1 g2, fun hw => w2 (g1.2 hw)⟩
 ·cases x
  obtain ⟨fr', A', h', h1, h2, h3⟩ := key A h kn kr ke e
  have hfree' : ∀ i, h.next ≤ i → r i = none := fun i hi => hfree i hi (B.all rfl i)
  have hfr' : FR r ((List.range N).map (look A)) a := by
   refine ⟨by simpa using hsz.symm, fun t x v hx hv => ?_⟩
   have ht : t < N := by have := (List.getElem?_eq_some_iff.1 hx).1; simpa using this
   rw [List.getElem?_map, List.getElem?_range ht] at hx
   simp at hx
   subst hx
   have := hfr t (by rw [hsz]; exact ht)
   simp only [Act.eval, Array.getD_eq_getD_getElem?] at this
   rw [← Array.getElem?_toList, hv] at this
   exact this
  have hw0 : Post r h w r h { w with drawn := w.drawn + 1 } := Post.same hrel rfl ⟨rfl, rfl, rfl, fun _ => Nat.le_succ _⟩
  refine wp_region_any hm ?_
  have hsub : wpAny P .any (pre ops n) (endBy Q fun a w => wpList P ops Q (ops.toList.drop n) a w) (pre ops n).size (Array.replicate (pre ops n).size false) a { w with drawn := w.drawn + 1 } := by
   refine region_wpAny hck hpre (s := ((List.range N).map (look A), h)) (s' := (fr', h')) h1 hfr' hw0.rel (fun i hi _ => hfree' i hi) fun r' a' w' q1 q2 q3 => ?_
   have hsz' : a'.tmps.size = N := by rw [← h2.1]; simpa using q1.1.symm
   have hA' : FRk r' A' a' := fun t ht => by
    rw [h2.2 t (by rw [← hsz']; exact ht)]
    exact opd_VR q1 q3.rel.glob (.tmp t)
   show wpList P ops Q (ops.toList.drop n) a' w'
   exact opsR_wp hck hcr _ A' h' r' a' w' h3 hA' hsz' q3.rel (free_all (hw0.trans q3) hfree') fun r'' a'' w'' A'' h'' k1 k2 k3 k4 k5 => hQ r'' a'' w'' A'' h'' .normal k1 k2 (by rw [k3, q2]) ((hw0.trans q3).trans k4) k5
  rw [pre_size hn] at hsub
  have := wpAny_tail ht (fun m h1 h2 => by
   have := List.all_eq_true.1 hcov (m - n) (List.mem_range.2 (by omega))
   rwa [show n + (m - n) = m by omega] at this) hsub (ops.size - n) (by omega)
  rw [show n + (ops.size - n) = ops.size by omega, pre_all] at this
  have hd : ops.toList.drop ops.size = [] := by rw [← Array.length_toList, List.drop_length]
  rw [hd] at this
  have he : (endBy Q fun a w => wpList P ops Q [] a w) = Q := by
   funext e a w
   cases e <;> rfl
  rw [he] at this
  exact this
end Go.Ev

/- The abstract machine Ev: a drawn region that lays entries into maps which it has made itself, in whatever order. -/
namespace Go.Ev
open Go.RowKit
def ghoOp : Op → Op
 | .makeMap t none => .makeMap t (some (.const (.int .i64 0)))
 | .insert _ m k v => .makeFunc (.func 0) #[m, k, v] #[]
 | op => op
def ghoO (o : Oper) : Oper := { o with op := ghoOp o.op }
def gho (ops : Array Oper) : Array Oper := (ops.toList.map ghoO).toArray
theorem gho_get (ops : Array Oper) (j : Nat) : (gho ops)[j]? = (ops[j]?).map ghoO := by
 simp [gho]
theorem gho_size (ops : Array Oper) : (gho ops).size = ops.size := by simp [gho]
theorem gho_yield (ops : Array Oper) (tmps : Array Value) : yielded (gho ops) tmps = yielded ops tmps := by
 funext j
 unfold yielded
 rw [gho_get]
 cases ops[j]? <;> rfl
theorem gho_same {o : Oper} (h : ghoOp o.op = o.op) : ghoO o = o := by
 unfold ghoO
 rw [h]
def isIns : Op → Bool | .insert _ _ _ _ => true | _ => false
def isMk : Op → Bool | .makeMap _ none => true | _ => false
theorem gho_other {op : Op} (h1 : isIns op = false) (h2 : isMk op = false) : ghoOp op = op := by
 unfold ghoOp
 split
 ·cases h2
 ·cases h1
 ·rfl
/-- an insert, by what its operands are -/
def insV (ρ : Operand → AV) (o : Oper) : Option (Nat × AV × AV) :=
 match o.op with
 | .insert _ m k v => (match ρ m with | .map (some i) => some (i, ρ k, ρ v) | _ => none)
 | _ => none
section
variable {P : Program} {call : CallFn} {ops : Array Oper} {n : Nat} {F : Nat → List AV} {Hs : Nat → H} {V : Nat → AV} {r0 : Ren} {w0 : World} {ds : List Deferred}
/-- the region's own maps -/
def Hidx (ops : Array Oper) (Hs : Nat → H) (i : Nat) : Prop := ∃ j o, ops[j]? = some o ∧ isMk o.op = true ∧ i = (Hs j).next
/-- all inserts, with their places -/
def insL (ops : Array Oper) (F : Nat → List AV) : List (Nat × Nat × AV × AV) := ops.toList.zipIdx.filterMap fun x => (insV (opd (F x.2)) x.1).map fun q => (x.2, q)
open Classical in
noncomputable def insD (ops : Array Oper) (F : Nat → List AV) (D : Nat → Prop) (i : Nat) : List (AV × AV) := ((insL ops F).filter fun q => decide (D q.1 ∧ q.2.1 = i)).map (·.2.2)
theorem mem_insL {q : Nat × Nat × AV × AV} : q ∈ insL ops F ↔ ∃ o, ops[q.1]? = some o ∧ insV (opd (F q.1)) o = some q.2 := by
 unfold insL
 rw [List.mem_filterMap]
 constructor
 ·rintro ⟨⟨o, j⟩, h1, h2⟩
  rw [List.mem_zipIdx_iff_getElem?] at h1
  obtain ⟨q', hq, rfl⟩ := Option.map_eq_some_iff.1 h2
  exact ⟨o, by simpa using h1, hq⟩
 ·rintro ⟨o, h1, h2⟩
  exact ⟨(o, q.1), List.mem_zipIdx_iff_getElem?.2 (by simpa using h1), by simp only; rw [h2]; rfl⟩
theorem insL_nodup : ((insL ops F).map (·.1)).Nodup := by
 unfold insL
 have h : ∀ (l : List Oper) (k : Nat), ((l.zipIdx k).filterMap fun x => (insV (opd (F x.2)) x.1).map fun q => (x.2, q)).Pairwise (fun a b => a.1 < b.1) ∧ ∀ q ∈ (l.zipIdx k).filterMap (fun x => (insV (opd (F x.2)) x.1).map fun q => (x.2, q)), k ≤ q.1 := by
  intro l
  induction l with
  | nil => intro k; simp
  | cons o l ih =>
   intro k
   obtain ⟨h1, h2⟩ := ih (k + 1)
   rw [List.zipIdx_cons, List.filterMap_cons]
   cases hq : (insV (opd (F (o, k).2)) (o, k).1).map fun q => ((o, k).2, q) with
   | none => exact ⟨h1, fun q hq => by have := h2 q hq; omega⟩
   | some q =>
    obtain ⟨q', _, rfl⟩ := Option.map_eq_some_iff.1 hq
    exact ⟨List.pairwise_cons.2 ⟨fun b hb => by have := h2 b hb; simp only; omega, h1⟩, fun b hb => by
     rcases List.mem_cons.1 hb with rfl | hb
     ·exact Nat.le_refl _
     ·have := h2 b hb; omega⟩
 rw [List.Nodup, List.pairwise_map]
 exact (h ops.toList 0).1.imp fun h => Nat.ne_of_lt h
theorem filter_more {α : Type} {p p' : α → Prop} [DecidablePred p] [DecidablePred p'] {q : α} : ∀ {l : List α}, q ∈ l → l.Nodup → ¬ p q → p' q → (∀ x ∈ l, x ≠ q → (p' x ↔ p x)) → (l.filter fun x => decide (p' x)).Perm ((l.filter fun x => decide (p x)) ++ [q])
 | x :: l, hm, hn, h1, h2, h3 => by
  rw [List.nodup_cons] at hn
  rcases List.mem_cons.1 hm with rfl | hm
  ·rw [List.filter_cons_of_pos (by simpa using h2), List.filter_cons_of_neg (by simpa using h1)]
   have : (l.filter fun x => decide (p' x)) = l.filter fun x => decide (p x) := by
    apply List.filter_congr
    intro y hy
    have := h3 y (List.mem_cons_of_mem _ hy) (fun e => hn.1 (e ▸ hy))
    simp only [decide_eq_decide]; exact this
   rw [this]
   exact (List.perm_append_singleton _ _).symm
  ·have hne : x ≠ q := fun e => hn.1 (e ▸ hm)
   have ih := filter_more (p := p) (p' := p') hm hn.2 h1 h2 fun y hy => h3 y (List.mem_cons_of_mem _ hy)
   have hx := h3 x List.mem_cons_self hne
   by_cases hp : p x
   ·rw [List.filter_cons_of_pos (by simpa using hx.2 hp), List.filter_cons_of_pos (by simpa using hp)]
    exact ih.cons x
   ·rw [List.filter_cons_of_neg (by simpa using fun h => hp (hx.1 h)), List.filter_cons_of_neg (by simpa using hp)]
    exact ih
theorem insD_same {D D' : Nat → Prop} {i : Nat} (h : ∀ q ∈ insL ops F, q.2.1 = i → (D' q.1 ↔ D q.1)) : insD ops F D' i = insD ops F D i := by
 unfold insD
 congr 1
 apply List.filter_congr
 intro q hq
 simp only [decide_eq_decide]
 exact ⟨fun ⟨a, b⟩ => ⟨(h q hq b).1 a, b⟩, fun ⟨a, b⟩ => ⟨(h q hq b).2 a, b⟩⟩
/-- what is known of the region's own maps -/
structure XI (ops : Array Oper) (n : Nat) (F : Nat → List AV) (Hs : Nat → H) (D : Nat → Prop) (r : Ren) (w : World) : Prop where
 own : ∀ i, Hidx ops Hs i → ∀ t, r i = some t → ∃ es clk, OR r w t (.map es clk) ∧ (es.map fun e => (e.1, e.2.1)).Perm (insD ops F D i) ∧ (es.map (·.2.2)).Nodup ∧ ∀ e ∈ es, e.2.2 < clk
 alone : ∀ i, Hidx ops Hs i → ∀ t, r i = some t → ∀ i2 t2 o2, r i2 = some t2 → t2.blk = t.blk → contD n Hs D i2 = some o2 → False
 apart : ∀ i i2, Hidx ops Hs i → Hidx ops Hs i2 → ∀ t t2, r i = some t → r i2 = some t2 → t.blk = t2.blk → i = i2
 seen : ∀ q ∈ insL ops F, D q.1 → ∃ t, r q.2.1 = some t
 made : ∀ j o, ops[j]? = some o → isMk o.op = true → D j → ∃ t, r (Hs j).next = some t
/-- what the inserts have to be like -/
structure InsOk (P : Program) (ops : Array Oper) (F : Nat → List AV) (Hs : Nat → H) : Prop where
 make : ∀ (j : Nat) o, ops[j]? = some o → isMk o.op = true → o.guard = none
 ins : ∀ (j : Nat) o t m k v, ops[j]? = some o → o.op = .insert t m k v → o.guard = none ∧ o.dst = none ∧ (∃ kt e kd, P.underlying t = some (.map kt e) ∧ P.underlying kt = some kd ∧ keyKind kd (opd (F j) k) = true) ∧ ∃ i, opd (F j) m = .map (some i) ∧ Hidx ops Hs i
 dist : ∀ q ∈ insL ops F, ∀ q' ∈ insL ops F, q.1 ≠ q'.1 → q.2.1 = q'.2.1 → keyCmp q.2.2.1 q'.2.2.1 = some false
theorem cont_alloc (hcall : call.Sound P) {E : Nat → Prop} (hrun : Run E P call ops n F Hs V) (wf0 : (Hs 0).WF) {D : Nat → Prop} {j : Nat} (hj : j < n) {ob : Option AObj} (hH : Hs (j + 1) = (Hs j).newO ob) (hnew : ∀ m, m < n → D m → j < m → ¬ Tc Hs (Hs j).next m) : contD n Hs (With D j) (Hs j).next = ob := by
 have hwf := Hs_wf hcall hrun wf0 j (by omega)
 have hold : (Hs j).get (Hs j).next = none := by
  cases hg : (Hs j).get (Hs j).next with
  | none => rfl
  | some o => have := hwf _ _ hg; omega
 have := contD_agree (n := n) (Hs := Hs) (D := With D j) (i := (Hs j).next) (j := j + 1) (by omega) (fun m hm ht => with_iff fun hne => by
  rcases Nat.lt_or_ge m j with h | h
  ·exfalso
   have hm1 := Hs_mono hcall hrun (show m + 1 ≤ j from h) (by omega : j ≤ n)
   have g1 : (Hs (m + 1)).get (Hs j).next = none := by
    cases hg : (Hs (m + 1)).get (Hs j).next with
    | none => rfl
    | some o => have := Hs_wf hcall hrun wf0 (m + 1) (by omega) _ _ hg; omega
   have hm2 := Hs_mono hcall hrun (show m ≤ j by omega) (by omega : j ≤ n)
   have g2 : (Hs m).get (Hs j).next = none := by
    cases hg : (Hs m).get (Hs j).next with
    | none => rfl
    | some o => have := Hs_wf hcall hrun wf0 m (by omega) _ _ hg; omega
   exact ht (by rw [g1, g2])
  ·exact ⟨fun hD => absurd ht (hnew m hm hD (by omega)), fun h' => by omega⟩)
 rw [this, hH, get_newO_self hold]
variable (hcall : call.Sound P) (hrun : Run (fun _ => False) P call (gho ops) n F Hs V) (wf0 : (Hs 0).WF) (hn : n = (gho ops).size) (free : ∀ i, (Hs 0).next ≤ i → i < (Hs n).next → r0 i = none)
include hcall hrun wf0 hn free
theorem mk_step0 {j : Nat} (hj : j < n) {o : Oper} (ho : ops[j]? = some o) (hm : isMk o.op = true) (hg : o.guard = none) : V j = .map (some (Hs j).next) ∧ Hs (j + 1) = (Hs j).newO none := by
 obtain ⟨o', h1, h2, _⟩ := hrun.step j hj
 rw [gho_get, ho] at h1
 cases h1
 have _ := hcall; have _ := wf0; have _ := hn; have _ := free
 replace h2 := h2.resolve_right fun h => h.1
 unfold evStep evWanted at h2
 rw [show (ghoO o).guard = none from hg] at h2
 simp only [Option.bind_some, if_true] at h2
 unfold isMk at hm
 split at hm
 ·rename_i t hop
  have : (ghoO o).op = .makeMap t (some (.const (.int .i64 0))) := by unfold ghoO; rw [hop]; rfl
  rw [this] at h2
  unfold evOper at h2
  simp only [cls] at h2
  obtain ⟨q, hq, h2⟩ := Option.map_eq_some_iff.1 h2
  unfold evAlloc at hq
  simp only at hq
  split at hq
  ·cases hq
   obtain ⟨a, b⟩ := Prod.mk.inj h2
   exact ⟨a.symm, b.symm⟩
  ·cases hq
 ·cases hm
theorem mk_step {j : Nat} (hj : j < n) {o : Oper} (ho : ops[j]? = some o) (hm : isMk o.op = true) (hok : InsOk P ops F Hs) : V j = .map (some (Hs j).next) ∧ Hs (j + 1) = (Hs j).newO none := mk_step0 hcall hrun wf0 hn free hj ho hm (hok.make j o ho hm)
theorem mk_range {j : Nat} (hj : j < n) {o : Oper} (ho : ops[j]? = some o) (hm : isMk o.op = true) (hok : InsOk P ops F Hs) : (Hs j).next < (Hs (j + 1)).next := by
 rw [(mk_step hcall hrun wf0 hn free hj ho hm hok).2, next_newO]; omega
theorem Hidx.lt (hok : InsOk P ops F Hs) {i : Nat} (hi : Hidx ops Hs i) : ∃ j o, j < n ∧ ops[j]? = some o ∧ isMk o.op = true ∧ i = (Hs j).next ∧ i < (Hs (j + 1)).next := by
 obtain ⟨j, o, h1, h2, rfl⟩ := hi
 have hj : j < n := by rw [hn, gho_size]; exact (Array.getElem?_eq_some_iff.1 h1).1
 exact ⟨j, o, hj, h1, h2, rfl, mk_range hcall hrun wf0 hn free hj h1 h2 hok⟩
theorem XI.other {D : Nat → Prop} {r r' : Ren} {a : Act} {w w' : World} (hok : InsOk P ops F Hs) (inv : Inv P (gho ops) n F Hs V r0 w0 ds D r a w) (x : XI ops n F Hs D r w) {j : Nat} (hj : j < n) {o : Oper} (ho : ops[j]? = some o) (h1 : isIns o.op = false) (h2 : isMk o.op = false)
  (b : Behind n Hs r0 w0 D j r r' w w') (hk : ∀ b, b < w.heap.size → (∀ i t o, r i = some t → t.blk = b → contD n Hs D i = some o → o.ro = true) → w'.heap[b]? = w.heap[b]?) : XI ops n F Hs (With D j) r' w' := by
 have old : ∀ i, Hidx ops Hs i → ∀ t, r' i = some t → r i = some t := by
  intro i hi t ht
  cases hr : r i with
  | some t' => have := b.le i t' hr; rw [ht] at this; rw [this]
  | none =>
   obtain ⟨k, ok, hk1, hk2, hk3, rfl, hk5⟩ := Hidx.lt hcall hrun wf0 hn free hok hi
   obtain ⟨h3, h4⟩ := b.dom _ t ht hr
   have := same_interval hcall hrun hj hk1 h3 h4 (Nat.le_refl _) hk5
   subst this
   rw [hk2] at ho
   cases ho
   rw [h2] at hk3; cases hk3
 have hins : ∀ q ∈ insL ops F, q.1 ≠ j := by
  intro q hq e
  obtain ⟨oq, h3, h4⟩ := mem_insL.1 hq
  rw [e, ho] at h3
  cases h3
  unfold insV at h4
  unfold isIns at h1
  split at h4
  ·rename_i hop; rw [hop] at h1; cases h1
  ·cases h4
 refine ⟨fun i hi t ht => ?_, fun i hi t ht i2 t2 o2 g1 g2 g3 => ?_, fun i i2 hi hi2 t t2 g1 g2 g3 => x.apart i i2 hi hi2 t t2 (old i hi t g1) (old i2 hi2 t2 g2) g3, fun q hq hD => ?_, fun k ok h3 h4 hD => ?_⟩
 ·have hr := old i hi t ht
  obtain ⟨es, clk, q1, q2, q3, q4⟩ := x.own i hi t hr
  refine ⟨es, clk, q1.move b.le (hk _ (inv.bound i t hr) fun i2 t2 o2 g1 g2 g3 => (x.alone i hi t hr i2 t2 o2 g1 g2 g3).elim), ?_, q3, q4⟩
  rw [insD_same (D := D) fun q hq _ => ⟨fun h => h.resolve_right (hins q hq), .inl⟩]
  exact q2
 ·have hr := old i hi t ht
  rcases b.alias i2 t2 o2 g1 g3 with h | ⟨k, tk, ok, k1, k2, k3⟩
  ·have := inv.bound i t hr; omega
  ·exact x.alone i hi t hr k tk ok k1 (k2.trans g2) k3
 ·obtain ⟨t, h⟩ := x.seen q hq (hD.resolve_right (hins q hq))
  exact ⟨t, b.le _ _ h⟩
 ·rcases hD with hD | rfl
  ·obtain ⟨t, h⟩ := x.made k ok h3 h4 hD
   exact ⟨t, b.le _ _ h⟩
  ·rw [ho] at h3; cases h3; rw [h2] at h4; cases h4
theorem step_mk {D : Nat → Prop} {r : Ren} {a : Act} {w : World} (hok : InsOk P ops F Hs) (inv : Inv P (gho ops) n F Hs V r0 w0 ds D r a w) (x : XI ops n F Hs D r w) {j : Nat} (hj : j < n) {o : Oper} (ho : ops[j]? = some o) (hm : isMk o.op = true) (turn : Turn P (gho ops) D j) (hDj : ¬ D j)
  (Q : Exit → Act → World → Prop) (K : Act → World → Prop) (hK : ∀ r' a' w', Inv P (gho ops) n F Hs V r0 w0 ds (With D j) r' a' w' → XI ops n F Hs (With D j) r' w' → K a' w') : wpOp P ops Q j K a w := by
 obtain ⟨hV, hH⟩ := mk_step hcall hrun wf0 hn free hj ho hm hok
 have hg := hok.make j o ho hm
 have hrn := free_at hcall hrun wf0 hn free inv hj hDj
 have hlt := mk_range hcall hrun wf0 hn free hj ho hm hok
 have hnew : r (Hs j).next = none := hrn _ (Nat.le_refl _) hlt
 let w' : World := w.alloc (.map #[] 0)
 have hb : Behind n Hs r0 w0 D j r (r.put (Hs j).next ⟨w.heap.size, 0, 0⟩) w w' := behind_alloc hcall hrun wf0 free inv hj hDj (row := 0) hH (World.size_alloc ..) ⟨rfl, rfl, rfl, fun _ => Nat.le_refl _⟩ (fun b hb => alloc_old hb) fun x e => by cases e
 have hgo : (gho ops)[j]? = some (ghoO o) := by rw [gho_get, ho]; rfl
 have hvr : VR (r.put (Hs j).next ⟨w.heap.size, 0, 0⟩) (V j) (.map (some w.heap.size)) := by
  rw [hV]
  exact .map (t := ⟨w.heap.size, 0, 0⟩) (by simp [Ren.put])
 have inv' := inv_behind hrun hn inv hj hgo turn hDj hb hvr
 have hrun1 : (execOp a.eval o).run P w = .ok (.value (.map (some w.heap.size))) w' := by
  unfold isMk at hm
  split at hm
  ·rename_i t hop
   simp only [execOp, hop, Option.map_none, Instr.makeMap, Sem.run_bind, Sem.run_pure, run_newObj, Result.andThen_ok, World.alloc_eq]
   rfl
  ·cases hm
 unfold wpOp
 simp only [ho]
 have hw : Region.wanted o (yielded ops a.tmps) = true := by unfold Region.wanted; rw [hg]
 rw [hw]
 simp only [if_true]
 refine .inl ?_
 unfold Oper.wp
 rw [hrun1, Oper.upon_value]
 refine hK _ _ w' inv' ?_
 have hput : ∀ {i t}, (r.put (Hs j).next ⟨w.heap.size, 0, 0⟩) i = some t → (i = (Hs j).next ∧ t = ⟨w.heap.size, 0, 0⟩) ∨ (i ≠ (Hs j).next ∧ r i = some t) := by
  intro i t h
  unfold Ren.put at h
  split at h
  ·rename_i e; cases h; exact .inl ⟨e, rfl⟩
  ·rename_i e; exact .inr ⟨e, h⟩
 have hcn : contD n Hs (With D j) (Hs j).next = none := cont_alloc hcall hrun wf0 hj hH fun m hm' hD hjm ht => by
  have hmono := Hs_mono hcall hrun (show j + 1 ≤ m from hjm) (by omega : m ≤ n)
  obtain ⟨t, h⟩ := inv.touch m hm' hD _ (by omega) ht
  rw [hnew] at h; cases h
 have hcs : ∀ {i}, i ≠ (Hs j).next → contD n Hs (With D j) i = contD n Hs D i := fun hi => cont_same (by unfold Tc; rw [hH, get_newO hi]; simp)
 have hins : ∀ q ∈ insL ops F, q.1 ≠ j := by
  intro q hq e
  obtain ⟨oq, h3, h4⟩ := mem_insL.1 hq
  rw [e, ho] at h3
  cases h3
  unfold insV at h4
  unfold isMk at hm
  split at h4
  ·rename_i hop; rw [hop] at hm; cases hm
  ·cases h4
 refine ⟨fun i hi t ht => ?_, fun i hi t ht i2 t2 o2 g1 g2 g3 => ?_, fun i i2 hi hi2 t t2 g1 g2 g3 => ?_, fun q hq hD => ?_, fun k ok h3 h4 hD => ?_⟩
 ·rw [insD_same (D := D) fun q hq _ => ⟨fun h => h.resolve_right (hins q hq), .inl⟩]
  rcases hput ht with ⟨rfl, rfl⟩ | ⟨hne, hr⟩
  ·refine ⟨[], 0, ⟨#[], alloc_new w _, ⟨[], .nil, rfl, fun i x e hx => by simp at hx⟩, .nil⟩, ?_, List.nodup_nil, fun e he => by cases he⟩
   have : insD ops F D (Hs j).next = [] := by
    unfold insD
    rw [List.map_eq_nil_iff, List.filter_eq_nil_iff]
    intro q hq h
    simp only [decide_eq_true_eq] at h
    obtain ⟨t, h5⟩ := x.seen q hq h.1
    rw [h.2, hnew] at h5; cases h5
   rw [this]
   exact .nil
  ·obtain ⟨es, clk, q1, q2⟩ := x.own i hi t hr
   exact ⟨es, clk, q1.move hb.le (alloc_old (inv.bound i t hr)), q2⟩
 ·rcases hput ht with ⟨rfl, rfl⟩ | ⟨hne, hr⟩
  ·rcases hput g1 with ⟨rfl, rfl⟩ | ⟨hne2, hr2⟩
   ·rw [hcn] at g3; cases g3
   ·have := inv.bound i2 t2 hr2
    simp only at g2; omega
  ·rcases hput g1 with ⟨rfl, rfl⟩ | ⟨hne2, hr2⟩
   ·rw [hcn] at g3; cases g3
   ·rw [hcs hne2] at g3
    exact x.alone i hi t hr i2 t2 o2 hr2 g2 g3
 ·rcases hput g1 with ⟨rfl, rfl⟩ | ⟨hne, hr⟩ <;> rcases hput g2 with ⟨rfl, rfl⟩ | ⟨hne2, hr2⟩
  ·rfl
  ·have := inv.bound i2 t2 hr2
   simp only at g3; omega
  ·have := inv.bound i t hr
   simp only at g3; omega
  ·exact x.apart i i2 hi hi2 t t2 hr hr2 g3
 ·obtain ⟨t, h⟩ := x.seen q hq (hD.resolve_right (hins q hq))
  exact ⟨t, hb.le _ _ h⟩
 ·rcases hD with hD | rfl
  ·obtain ⟨t, h⟩ := x.made k ok h3 h4 hD
   exact ⟨t, hb.le _ _ h⟩
  ·exact ⟨⟨w.heap.size, 0, 0⟩, by simp [Ren.put]⟩
theorem step_ins {D : Nat → Prop} {r : Ren} {a : Act} {w : World} (hok : InsOk P ops F Hs) (inv : Inv P (gho ops) n F Hs V r0 w0 ds D r a w) (x : XI ops n F Hs D r w) {j : Nat} (hj : j < n) {o : Oper} (ho : ops[j]? = some o) (hi : isIns o.op = true) (turn : Turn P (gho ops) D j) (hDj : ¬ D j)
  (Q : Exit → Act → World → Prop) (K : Act → World → Prop) (hK : ∀ r' a' w', Inv P (gho ops) n F Hs V r0 w0 ds (With D j) r' a' w' → XI ops n F Hs (With D j) r' w' → K a' w') : wpOp P ops Q j K a w := by
 obtain ⟨tt, m, k, v, hop⟩ : ∃ tt m k v, o.op = .insert tt m k v := by
  unfold isIns at hi
  split at hi
  ·rename_i a b c d h; exact ⟨a, b, c, d, h⟩
  ·cases hi
 obtain ⟨hg, hd, ⟨kt, e, kd, hu, hkd, hkk⟩, i, hm, hix⟩ := hok.ins j o tt m k v ho hop
 have hgo : (gho ops)[j]? = some (ghoO o) := by rw [gho_get, ho]; rfl
 have hgop : (ghoO o).op = .makeFunc (.func 0) #[m, k, v] #[] := by unfold ghoO; rw [hop]; rfl
 have hρ := operands_at (Hs := Hs) hrun hn inv hj hgo turn hDj
 have hop3 : ∀ y ∈ (ghoO o).op.operands, restrict (gho ops) (ghoO o) (F j) y = opd (F j) y := by
  intro y hy
  cases y with
  | tmp t =>
   have ht : t ∈ (ghoO o).looksAt (gho ops) := List.mem_append_left _ (List.mem_filterMap.2 ⟨.tmp t, by simpa using hy, rfl⟩)
   simp [restrict, ht, opd]
  | _ => rfl
 have hvm : VR r (opd (F j) m) (a.eval m) := by rw [← hop3 m (by rw [hgop]; simp [Op.operands])]; exact hρ m
 have hvk : VR r (opd (F j) k) (a.eval k) := by rw [← hop3 k (by rw [hgop]; simp [Op.operands])]; exact hρ k
 have hvv : VR r (opd (F j) v) (a.eval v) := by rw [← hop3 v (by rw [hgop]; simp [Op.operands])]; exact hρ v
 -- what it comes to for the others
 have hst : ∃ fv, V j = .func 0 [opd (F j) m, opd (F j) k, opd (F j) v] [] ∧ Hs (j + 1) = Hs j ∧ VR r (V j) fv := by
  obtain ⟨o', h1, h2, _⟩ := hrun.step j hj
  rw [hgo] at h1
  cases h1
  replace h2 := h2.resolve_right fun h => h.1
  unfold evStep evWanted at h2
  rw [show (ghoO o).guard = none from hg] at h2
  simp only [Option.bind_some, if_true, hgop] at h2
  unfold evOper at h2
  simp only [cls, evPure, Option.map_some, Option.some.injEq, Prod.mk.injEq] at h2
  refine ⟨.func (.func 0) #[a.eval m, a.eval k, a.eval v] #[], by rw [← h2.1]; rfl, h2.2.symm, ?_⟩
  rw [← h2.1]
  refine .func 0 _ _ _ _ (by simp) (by simp) (fun p y u hy hu => ?_) (fun p y u hy hu => by simp at hy)
  match p with
  | 0 => simp at hy hu; subst hy; subst hu; exact hvm
  | 1 => simp at hy hu; subst hy; subst hu; exact hvk
  | 2 => simp at hy hu; subst hy; subst hu; exact hvv
  | p + 3 => simp at hy
 obtain ⟨fv, _, hH, hVv⟩ := hst
 have hq : ((j, i, opd (F j) k, opd (F j) v) : Nat × Nat × AV × AV) ∈ insL ops F := mem_insL.2 ⟨o, ho, by unfold insV; rw [hop]; simp only [hm]⟩
 -- the map
 rw [hm] at hvm
 generalize hme : a.eval m = mv at hvm
 cases hvm with
 | map ht =>
 rename_i t
 obtain ⟨es, clk, hor, hperm, hnd, hborn⟩ := x.own i hix t ht
 let h1 : H := ⟨i + 1, fun y => if y = i then some (.map es clk) else none⟩
 have hg1 : h1.get i = some (.map es clk) := if_pos rfl
 have hg1' : ∀ y o, h1.get y = some o → y = i := fun y o h => by
  simp only [h1] at h
  split at h
  ·assumption
  ·cases h
 have hrel1 : Rel r h1 w := ⟨fun y o h => by rw [hg1' y o h]; exact Nat.lt_succ_self _, fun y ty o hr h => by
   obtain rfl := hg1' y o h
   rw [hg1] at h; cases h
   rw [ht] at hr; cases hr
   exact hor, fun y z ty tz oy oz _ _ h2 h3 _ => .inl ((hg1' y oy h2).trans (hg1' z oz h3).symm), inv.bound, inv.gl.mono inv.le⟩
 have hnot : ∀ e ∈ es, keyCmp (opd (F j) k) e.1 = some false := by
  intro e he
  have hmem : (e.1, e.2.1) ∈ insD ops F D i := hperm.mem_iff.1 (List.mem_map.2 ⟨e, he, rfl⟩)
  unfold insD at hmem
  obtain ⟨q, hq1, hq2⟩ := List.mem_map.1 hmem
  obtain ⟨hq3, hq4⟩ := List.mem_filter.1 hq1
  simp only [decide_eq_true_eq] at hq4
  have := hok.dist _ hq q hq3 (fun (e : j = q.1) => hDj (e ▸ hq4.1)) hq4.2.symm
  rw [hq2] at this
  exact this
 have hfind : evFind (opd (F j) k) es = some none := by
  unfold evFind
  rw [if_pos (List.all_eq_true.2 fun e he => by rw [hnot e he]; rfl)]
  congr 1
  rw [List.find?_eq_none]
  intro e he
  rw [hnot e he]; decide
 have hput : evMapPut (some i) (opd (F j) k) (opd (F j) v) h1 = some (h1.set i (.map (es ++ [(opd (F j) k, opd (F j) v, clk)]) (clk + 1))) := by
  unfold evMapPut evPutEs
  simp only [hg1, hfind, Option.map_some]
 obtain ⟨w', hrunw, p⟩ := evMapPut_sim (P := P) hrel1 hu hkd hkk hput (.map ht) hvk hvv
 have hsame : ∀ b, b < w.heap.size → b ≠ t.blk → w'.heap[b]? = w.heap[b]? := fun b hb hne => p.keep b hb fun y ty oy g1 g2 g3 => by
  obtain rfl := hg1' y oy g3
  rw [ht] at g1; cases g1
  exact absurd g2.symm hne
 have hor' : OR r w' t (.map (es ++ [(opd (F j) k, opd (F j) v, clk)]) (clk + 1)) := p.rel.obj i t _ ht (get_set_self _ _ _)
 have hri0 : r0 i = none := by
  cases hr0 : r0 i with
  | none => rfl
  | some t0 =>
   obtain ⟨k', ok', hk1, hk2, hk3, hk4, hk5⟩ := Hidx.lt hcall hrun wf0 hn free hok hix
   have q1 := Hs_mono hcall hrun (Nat.zero_le k') (by omega : k' ≤ n)
   have q2 := Hs_mono hcall hrun (show k' + 1 ≤ n from hk1) (Nat.le_refl _)
   rw [free i (by omega) (by omega)] at hr0; cases hr0
 have hcs : ∀ {y}, contD n Hs (With D j) y = contD n Hs D y := cont_same (by unfold Tc; rw [hH]; simp)
 have hb : Behind n Hs r0 w0 D j r r w w' := {
  le := r.le_refl
  alias := fun y ty oy g1 g2 => .inr ⟨y, ty, oy, g1, rfl, by rwa [hcs] at g2⟩
  dom := fun y ty g1 g2 => by rw [g1] at g2; cases g2
  obj := fun y ty oy g1 g2 => by
   rw [hcs] at g2
   refine (inv.obj y ty oy g1 g2).move r.le_refl (hsame _ (inv.bound y ty g1) fun e => ?_)
   exact (x.alone i hix t ht y ty oy g1 e g2).elim
  inj := fun y z ty tz oy oz g1 g2 g3 g4 => by
   rw [hcs] at g3 g4
   exact inv.inj y z ty tz oy oz g1 g2 g3 g4
  bound := fun y ty g1 => Nat.lt_of_lt_of_le (inv.bound y ty g1) p.size
  keep := fun b hb hk => by
   rw [hsame b (Nat.lt_of_lt_of_le hb inv.size) fun e => ?_]
   ·exact inv.keep b hb hk
   ·rcases inv.fresh i t hri0 ht with hf | ⟨z, tz, oz, q1, q2, q3, q4⟩
    ·omega
    ·have := hk z tz oz q1 (q2.trans e.symm) q3
     rw [this] at q4; cases q4
  size := Nat.le_trans inv.size p.size
  env := inv.env.trans p.env
  fresh := inv.fresh
  touch := fun y _ h => absurd (by rw [hH]) h
  ro := fun y oy _ h => ⟨oy, by rw [← hH]; exact h, rfl⟩ }
 have inv' := inv_behind hrun hn inv hj hgo turn hDj hb hVv
 have hput0 : a.put (ghoO o).dst fv = a := by
  rw [show (ghoO o).dst = none from hd]; rfl
 rw [hput0] at inv'
 unfold wpOp
 simp only [ho]
 have hw : Region.wanted o (yielded ops a.tmps) = true := by unfold Region.wanted; rw [hg]
 rw [hw]
 simp only [if_true]
 refine .inl ?_
 have hr : (execOp a.eval o).run P w = .ok .skip w' := by
  rw [← hme] at hrunw
  simp [execOp, hop, hrunw]
 unfold Oper.wp
 rw [hr, Oper.upon_skip, hd]
 have hput1 : a.put none undef = a := rfl
 rw [hput1]
 refine hK r a w' inv' ⟨fun i2 hi2 t2 ht2 => ?_, fun i2 hi2 t2 ht2 y ty oy g1 g2 g3 => x.alone i2 hi2 t2 ht2 y ty oy g1 g2 (by rwa [hcs] at g3), x.apart, fun q hq2 hD => ?_, fun z oz h3 h4 hD => ?_⟩
 ·by_cases e : i2 = i
  ·subst e
   rw [ht] at ht2
   cases ht2
   refine ⟨_, _, hor', ?_, ?_, ?_⟩
   ·classical
    have h5 := filter_more (p := fun q : Nat × Nat × AV × AV => D q.1 ∧ q.2.1 = i2) (p' := fun q => With D j q.1 ∧ q.2.1 = i2) hq ((List.pairwise_map.1 insL_nodup).imp fun h e => h (congrArg Prod.fst e)) (fun h => hDj h.1) ⟨.inr rfl, rfl⟩ (fun q hq2 hne => ?_)
    ·have h6 := h5.map (fun q : Nat × Nat × AV × AV => q.2.2)
     rw [List.map_append] at h6
     unfold insD
     refine List.Perm.trans ?_ h6.symm
     rw [List.map_append]
     exact hperm.append_right _
    ·refine ⟨fun ⟨h6, h7⟩ => ⟨h6.resolve_right fun e => hne ?_, h7⟩, fun ⟨h6, h7⟩ => ⟨.inl h6, h7⟩⟩
     obtain ⟨oq, g1, g2⟩ := mem_insL.1 hq2
     obtain ⟨oq', g3, g4⟩ := mem_insL.1 hq
     rw [e] at g1 g2
     simp only at g3 g4
     rw [g1] at g3; cases g3
     rw [g2] at g4
     exact Prod.ext e (Option.some.inj g4)
   ·rw [List.map_append, List.nodup_append]
    refine ⟨hnd, by simp, fun a ha b hb' e => ?_⟩
    obtain ⟨y, hy, rfl⟩ := List.mem_map.1 ha
    simp at hb'
    have := hborn y hy
    omega
   ·intro y hy
    rcases List.mem_append.1 hy with hy | hy
    ·have := hborn y hy; omega
    ·simp at hy; subst hy; exact Nat.lt_succ_self _
  ·obtain ⟨es2, clk2, q1, q2, q3⟩ := x.own i2 hi2 t2 ht2
   refine ⟨es2, clk2, q1.move r.le_refl (hsame _ (inv.bound i2 t2 ht2) fun e2 => e (x.apart i2 i hi2 hix t2 t ht2 ht e2)), ?_, q3⟩
   have hdiff : ∀ q ∈ insL ops F, q.2.1 = i2 → q.1 ≠ j := by
    intro q hq2 hqi e2
    obtain ⟨oq, g1, g2⟩ := mem_insL.1 hq2
    rw [e2, ho] at g1; cases g1
    rw [e2] at g2
    unfold insV at g2
    rw [hop] at g2
    simp only [hm, Option.some.injEq] at g2
    exact e (by rw [← hqi, ← g2])
   rw [insD_same (D := D) fun q hq2 hqi => ⟨fun h => h.resolve_right (hdiff q hq2 hqi), .inl⟩]
   exact q2
 ·rcases hD with hD | e2
  ·exact x.seen q hq2 hD
  ·obtain ⟨oq, g1, g2⟩ := mem_insL.1 hq2
   rw [e2, ho] at g1; cases g1
   rw [e2] at g2
   unfold insV at g2
   rw [hop] at g2
   simp only [hm, Option.some.injEq] at g2
   exact ⟨t, by rw [← g2]; exact ht⟩
 ·rcases hD with hD | rfl
  ·exact x.made z oz h3 h4 hD
  ·rw [ho] at h3; cases h3
   unfold isMk at h4; rw [hop] at h4; cases h4
end
/-- **A drawn region that lays entries into its own maps: whatever order is drawn.** -/
theorem region_ins {P : Program} {call : CallFn} (hcall : call.Sound P) {ops : Array Oper} {F : Nat → List AV} {Hs : Nat → H} {V : Nat → AV} {r0 : Ren} {w0 : World} {ds : List Deferred}
  (hokr : okRegion P (gho ops) = true) (hrun : Run (fun _ => False) P call (gho ops) (gho ops).size F Hs V) (hok : InsOk P ops F Hs) (wf0 : (Hs 0).WF) (free : ∀ i, (Hs 0).next ≤ i → i < (Hs (gho ops).size).next → r0 i = none) {Q : Exit → Act → World → Prop}
  (hQ : ∀ r a w, FR r (F (gho ops).size) a → a.defers = ds → Post r0 (Hs 0) w0 r (Hs (gho ops).size) w → XI ops (gho ops).size F Hs (fun m => m < (gho ops).size) r w → (∀ i, contD (gho ops).size Hs (fun m => m < (gho ops).size) i = (Hs (gho ops).size).get i) → Q .normal a w) :
  ∀ (fuel : Nat) (listed : Array Bool) (r : Ren) (a : Act) (w : World), listed.size = ops.size → (∀ m o, ops[m]? = some o → listed.getD m false = true → ∀ e ∈ o.after, Region.binds .any e = true → listed.getD e.on false = true) →
   ((List.range ops.size).filter fun i => !listed.getD i true).length ≤ fuel → (∀ D : Nat → Prop, (∀ m, D m ↔ listed.getD m false = true) → Inv P (gho ops) (gho ops).size F Hs V r0 w0 ds D r a w ∧ XI ops (gho ops).size F Hs D r w) → wpAny P .any ops Q fuel listed a w := by
 have hokr' := hokr
 simp only [okRegion, Bool.and_eq_true] at hokr'
 obtain ⟨⟨hM, hH⟩, hP⟩ := hokr'
 have hgs := gho_size ops
 have hgo : ∀ {j : Nat} {o : Oper}, ops[j]? = some o → (gho ops)[j]? = some (ghoO o) := fun h => by rw [gho_get, h]; rfl
 have hog : ∀ {j : Nat} {o : Oper}, (gho ops)[j]? = some o → ∃ o', ops[j]? = some o' ∧ o = ghoO o' := fun h => by
  rw [gho_get] at h
  obtain ⟨o', h1, rfl⟩ := Option.map_eq_some_iff.1 h
  exact ⟨o', h1, rfl⟩
 have done : ∀ (listed : Array Bool) (r : Ren) (a : Act) (w : World), listed.size = ops.size → (∀ i, i < ops.size → listed.getD i true = true) →
   (∀ D : Nat → Prop, (∀ m, D m ↔ listed.getD m false = true) → Inv P (gho ops) (gho ops).size F Hs V r0 w0 ds D r a w ∧ XI ops (gho ops).size F Hs D r w) → Q .normal a w := by
  intro listed r a w hsz hall hinv
  have hD : ∀ m, m < (gho ops).size ↔ listed.getD m false = true := fun m => by
   rw [hgs]
   constructor
   ·intro hm
    have := hall m hm
    simp [hsz, hm] at this ⊢; exact this
   ·intro h
    rcases Nat.lt_or_ge m ops.size with hm | hm
    ·exact hm
    ·rw [Array.getD_eq_getD_getElem?, Array.getElem?_eq_none (by omega)] at h; cases h
  obtain ⟨inv, x⟩ := hinv _ hD
  obtain ⟨h1, h2⟩ := inv_end hcall hrun wf0 rfl free inv (fun m hm => hm) inv.sz.symm
  exact hQ r a w h1 inv.defers h2 x fun i => contD_agree (Nat.le_refl _) fun m hm _ => Iff.rfl
 have minimal : ∀ (listed : Array Bool), listed.size = ops.size → Region.ready .any ops listed = [] → ∀ i, i < ops.size → listed.getD i true = true := by
  intro listed hsz hr i
  induction i using Nat.strongRecOn with
  | _ i ih =>
   intro hi
   cases hl : listed.getD i true with
   | true => rfl
   | false =>
    have ho : ops[i]? = some ops[i] := Array.getElem?_eq_getElem hi
    have : i ∈ Region.ready .any ops listed := mem_ready.2 ⟨hl, _, ho, fun e he hb => by
     have h1 := (okM_spec hM (hgo ho)).1 e he hb
     have h2 := ih e.on h1 (by omega)
     have h3 : e.on < listed.size := by omega
     simp [h3] at h2 ⊢; exact h2⟩
    rw [hr] at this; cases this
 intro fuel
 induction fuel with
 | zero =>
  intro listed r a w hsz hcl hfu hinv
  have hall : ∀ i, i < ops.size → listed.getD i true = true := by
   intro i hi
   cases hl : listed.getD i true with
   | true => rfl
   | false =>
    have hm : i ∈ (List.range ops.size).filter fun i => !listed.getD i true := List.mem_filter.2 ⟨List.mem_range.2 hi, by rw [hl]; rfl⟩
    have : (List.range ops.size).filter (fun i => !listed.getD i true) = [] := List.eq_nil_of_length_eq_zero (by omega)
    rw [this] at hm; cases hm
  refine ⟨?_, done listed r a w hsz hall hinv⟩
  cases hr : Region.ready .any ops listed with
  | nil => rfl
  | cons x xs =>
   have hx : x ∈ Region.ready .any ops listed := by rw [hr]; simp
   obtain ⟨h1, o, h2, _⟩ := mem_ready.1 hx
   rw [hall x (Array.getElem?_eq_some_iff.1 h2).1] at h1; cases h1
 | succ fuel ih =>
  intro listed r a w hsz hcl hfu hinv
  refine ⟨fun hr => done listed r a w hsz (minimal listed hsz hr) hinv, fun j hj => ?_⟩
  obtain ⟨hjl, oj, hoj, hready⟩ := mem_ready.1 hj
  have hjs := (Array.getElem?_eq_some_iff.1 hoj).1
  obtain ⟨inv, x⟩ := hinv (fun m => listed.getD m false = true) fun m => Iff.rfl
  have hDj : ¬ (listed.getD j false = true) := fun h => by
   have h3 : j < listed.size := by omega
   simp [h3] at h hjl; rw [h] at hjl; cases hjl
  have turn := turn_of (P := P) hM hH hP (D := fun m => listed.getD m false = true) (fun m o ho hm e he hb => by
   obtain ⟨o', h1, rfl⟩ := hog ho
   exact hcl m o' h1 hm e he hb) (hgo hoj) hDj hready
  have next : ∀ r' a' w', Inv P (gho ops) (gho ops).size F Hs V r0 w0 ds (With (fun m => listed.getD m false = true) j) r' a' w' → XI ops (gho ops).size F Hs (With (fun m => listed.getD m false = true) j) r' w' → wpAny P .any ops Q fuel (listed.setIfInBounds j true) a' w' := by
   intro r' a' w' inv' x'
   refine ih _ r' a' w' (by simp [hsz]) ?_ ?_ ?_
   ·intro m o ho hm e he hb
    by_cases hmj : j = m
    ·subst hmj
     rw [hoj] at ho
     cases ho
     exact getD_set_true (hready e he hb)
    ·rw [getD_set_ne false hmj] at hm
     exact getD_set_true (hcl m o ho hm e he hb)
   ·have := filter_lt (l := List.range ops.size) (p := fun i => !listed.getD i true) (p' := fun i => !(listed.setIfInBounds j true).getD i true) (x := j) (fun y hy => by
      by_cases hyj : j = y
      ·subst hyj; rw [hjl]; rfl
      ·rw [getD_set_ne true hyj] at hy; exact hy) (List.mem_range.2 hjs) (by rw [hjl]; rfl) (by
      have h3 : j < listed.size := by omega
      simp [h3])
    omega
   ·intro D hD
    have hDe : D = With (fun m => listed.getD m false = true) j := by
     funext m
     refine propext ((hD m).trans ?_)
     unfold With
     by_cases hmj : j = m
     ·subst hmj
      have h3 : j < listed.size := by omega
      simp [h3]
     ·rw [getD_set_ne false hmj]
      exact ⟨.inl, fun h => h.resolve_right fun e => hmj e.symm⟩
    rw [hDe]; exact ⟨inv', x'⟩
  have hjg : j < (gho ops).size := by omega
  cases h1 : isIns oj.op with
  | true => exact step_ins hcall hrun wf0 rfl free hok inv x hjg hoj h1 turn hDj Q _ next
  | false =>
   cases h2 : isMk oj.op with
   | true => exact step_mk hcall hrun wf0 rfl free hok inv x hjg hoj h2 turn hDj Q _ next
   | false =>
    have hs := gho_same (o := oj) (gho_other h1 h2)
    have hg2 := hgo hoj
    rw [hs] at hg2
    have hw := inv_step hcall hrun wf0 rfl free inv hjg hg2 turn hDj (fun h => h) Q (wpAny P .any ops Q fuel (listed.setIfInBounds j true)) fun r' a' w' inv' b _ hk => next r' a' w' inv' (XI.other hcall hrun wf0 rfl free hok inv x hjg hoj h1 h2 b hk)
    unfold wpOp at hw ⊢
    rw [hg2, gho_yield] at hw
    rw [hoj]
    exact hw
def laterB (ops : Array Oper) (j : Nat) (x : Operand) : Bool :=
 match x with
 | .tmp t => (List.range ops.size).all fun p => decide (p < j) || (match ops[p]? with | some o => (match o.dst with | some d => !(Nat.beq d t) | none => true) | none => true)
 | _ => true
def okIns1 (P : Program) (ops : Array Oper) (j : Nat) (o : Oper) : Bool :=
 match o.op with
 | .makeMap _ none => o.guard.isNone && (match o.dst with | some d => laterB ops (j + 1) (.tmp d) | none => false)
 | .insert t m k v => o.guard.isNone && o.dst.isNone && (match P.underlying t with | some (.map kt _) => (match P.underlying kt, k with | some kd, .const c => keyKind kd (ofValue c) | _, _ => false) | _ => false) && laterB ops j m && laterB ops j v
 | _ => true
def okIns (P : Program) (ops : Array Oper) : Bool := (List.range ops.size).all fun j => match ops[j]? with | some o => okIns1 P ops j o | none => true
theorem laterB_spec {ops : Array Oper} {j t : Nat} (h : laterB ops j (.tmp t) = true) {p : Nat} {o : Oper} (hp : j ≤ p) (ho : ops[p]? = some o) : o.dst ≠ some t := by
 have := List.all_eq_true.1 h p (List.mem_range.2 (Array.getElem?_eq_some_iff.1 ho).1)
 rw [ho] at this
 simp only [Bool.or_eq_true, decide_eq_true_eq] at this
 rcases this with h1 | h1
 ·omega
 ·intro e
  rw [e] at h1
  simp at h1
section
variable {P : Program} {call : CallFn} {ops : Array Oper} {n : Nat} {F : Nat → List AV} {Hs : Nat → H} {V : Nat → AV}
theorem F_later (hrun : Run (fun _ => False) P call (gho ops) n F Hs V) {j t : Nat} (h : laterB ops j (.tmp t) = true) : ∀ k, j + k ≤ n → (F (j + k)).getD t .junk = (F j).getD t .junk
 | 0, _ => rfl
 | k + 1, hk => by
  obtain ⟨o, h1, _, h3⟩ := hrun.step (j + k) (by omega)
  rw [gho_get] at h1
  obtain ⟨o', h4, rfl⟩ := Option.map_eq_some_iff.1 h1
  have hne := laterB_spec h (by omega : j ≤ j + k) h4
  rw [show j + (k + 1) = j + k + 1 by omega, h3, ← F_later hrun h k (by omega)]
  have hd : (ghoO o').dst = o'.dst := rfl
  rw [hd]
  cases hq : o'.dst with
  | none => rfl
  | some d =>
   simp only [putD]
   rw [List.getD_eq_getElem?_getD, List.getD_eq_getElem?_getD, List.getElem?_set_ne (fun e => hne (by rw [hq, e]))]
theorem opd_later (hrun : Run (fun _ => False) P call (gho ops) n F Hs V) {j : Nat} (hj : j ≤ n) {x : Operand} (h : laterB ops j x = true) : opd (F n) x = opd (F j) x := by
 cases x with
 | tmp t =>
  have := F_later hrun h (n - j) (by omega)
  rw [show j + (n - j) = n by omega] at this
  exact this
 | _ => rfl
end
/-- the maps are told again: in whatever order they were filled -/
def RestR (hid : List Nat) (ins : List (Nat × AV × AV)) (h h' : H) : Prop :=
 h'.next = h.next ∧ (∀ i, i ∉ hid → h'.get i = h.get i) ∧ ∀ i ∈ hid, ∃ es clk, h'.get i = some (.map es clk) ∧ (es.map fun e => (e.1, e.2.1)).Perm ((ins.filter fun q => q.1 == i).map (·.2)) ∧ (es.map (·.2.2)).Nodup ∧ ∀ e ∈ es, e.2.2 < clk
open Classical in
noncomputable def restK (hid : List Nat) (ins : List (Nat × AV × AV)) (h : H) (f : H → Option Unit) : Option Unit :=
 if ((∀ q ∈ ins, q.1 ∈ hid) ∧ (∀ i ∈ hid, i < h.next) ∧ ins.Pairwise fun a b => a.1 = b.1 → keyCmp a.2.1 b.2.1 = some false) ∧ ∀ h', RestR hid ins h h' → f h' = some () then some () else none
theorem restK_some {hid : List Nat} {ins : List (Nat × AV × AV)} {h : H} {f : H → Option Unit} (e : restK hid ins h f = some ()) : ((∀ q ∈ ins, q.1 ∈ hid) ∧ (∀ i ∈ hid, i < h.next) ∧ ins.Pairwise fun a b => a.1 = b.1 → keyCmp a.2.1 b.2.1 = some false) ∧ ∀ h', RestR hid ins h h' → f h' = some () := by
 unfold restK at e
 split at e
 ·assumption
 ·cases e
def gatherK (N : Nat) : List Oper → KF → (List Nat → List (Nat × AV × AV) → Option Unit) → Option Unit
 | [], _, f => f [] []
 | o :: l, A, f =>
  match o.op with
  | .makeMap _ none => (match o.dst with | some d => (match kopd N A (.tmp d) with | .map (some i) => gatherK N l A fun hs is => f (i :: hs) is | _ => none) | none => none)
  | .insert _ m k v => (match kopd N A m with | .map (some i) => gatherK N l A fun hs is => f hs ((i, kopd N A k, kopd N A v) :: is) | _ => none)
  | _ => gatherK N l A f
theorem gatherK_some {N : Nat} : ∀ {l : List Oper} {A : KF} {f : List Nat → List (Nat × AV × AV) → Option Unit}, gatherK N l A f = some () →
  ∃ hs is, f hs is = some () ∧ (∀ i, i ∈ hs ↔ ∃ o ∈ l, isMk o.op = true ∧ ∃ d, o.dst = some d ∧ kopd N A (.tmp d) = .map (some i)) ∧ (∀ o ∈ l, isMk o.op = true → ∃ d i, o.dst = some d ∧ kopd N A (.tmp d) = .map (some i)) ∧
   (∀ o ∈ l, isIns o.op = true → (insV (kopd N A) o).isSome = true) ∧ is = l.filterMap (insV (kopd N A))
 | [], A, f, e => ⟨[], [], e, fun i => by simp, fun o h => absurd h (by simp), fun o h => absurd h (by simp), rfl⟩
 | o :: l, A, f, e => by
  unfold gatherK at e
  split at e
  ·rename_i t hop
   split at e
   ·rename_i d hd
    split at e
    ·rename_i i hi
     obtain ⟨hs, is, h1, h2, h3, h4, h5⟩ := gatherK_some e
     have hm : isMk o.op = true := by rw [hop]; rfl
     refine ⟨i :: hs, is, h1, fun y => ?_, fun q hq hqm => ?_, fun q hq hqi => ?_, ?_⟩
     ·constructor
      ·intro hy
       rcases List.mem_cons.1 hy with rfl | hy
       ·exact ⟨o, List.mem_cons_self, hm, d, hd, hi⟩
       ·obtain ⟨q, g1, g2⟩ := (h2 y).1 hy
        exact ⟨q, List.mem_cons_of_mem _ g1, g2⟩
      ·rintro ⟨q, g1, g2, d', g3, g4⟩
       rcases List.mem_cons.1 g1 with rfl | g1
       ·rw [hd] at g3; cases g3
        rw [hi] at g4; cases g4
        exact List.mem_cons_self
       ·exact List.mem_cons_of_mem _ ((h2 y).2 ⟨q, g1, g2, d', g3, g4⟩)
     ·rcases List.mem_cons.1 hq with rfl | hq
      ·exact ⟨d, i, hd, hi⟩
      ·exact h3 q hq hqm
     ·rcases List.mem_cons.1 hq with rfl | hq
      ·rw [hop] at hqi; cases hqi
      ·exact h4 q hq hqi
     ·rw [List.filterMap_cons]
      have : insV (kopd N A) o = none := by unfold insV; rw [hop]
      rw [this]; exact h5
    ·cases e
   ·cases e
  ·rename_i t m k v hop
   split at e
   ·rename_i i hi
    obtain ⟨hs, is, h1, h2, h3, h4, h5⟩ := gatherK_some e
    have hv : insV (kopd N A) o = some (i, kopd N A k, kopd N A v) := by unfold insV; rw [hop]; simp only [hi]
    have hnm : isMk o.op = false := by rw [hop]; rfl
    refine ⟨hs, _, h1, fun y => ?_, fun q hq hqm => ?_, fun q hq hqi => ?_, ?_⟩
    ·rw [h2 y]
     constructor
     ·rintro ⟨q, g1, g2⟩; exact ⟨q, List.mem_cons_of_mem _ g1, g2⟩
     ·rintro ⟨q, g1, g2, g3⟩
      rcases List.mem_cons.1 g1 with rfl | g1
      ·rw [hnm] at g2; cases g2
      ·exact ⟨q, g1, g2, g3⟩
    ·rcases List.mem_cons.1 hq with rfl | hq
     ·rw [hnm] at hqm; cases hqm
     ·exact h3 q hq hqm
    ·rcases List.mem_cons.1 hq with rfl | hq
     ·rw [hv]; rfl
     ·exact h4 q hq hqi
    ·rw [List.filterMap_cons, hv]; simp only; rw [← h5]
   ·cases e
  ·rename_i hn1 hn2
   obtain ⟨hs, is, h1, h2, h3, h4, h5⟩ := gatherK_some e
   have hnm : isMk o.op = false := by
    rw [← Bool.not_eq_true]
    intro h
    unfold isMk at h
    split at h
    ·rename_i t hop; exact hn1 t hop
    ·cases h
   have hni : isIns o.op = false := by
    rw [← Bool.not_eq_true]
    intro h
    unfold isIns at h
    split at h
    ·rename_i a b c d hop; exact hn2 a b c d hop
    ·cases h
   have hv : insV (kopd N A) o = none := by
    unfold insV
    split
    ·rename_i a b c d hop; exact absurd hop (hn2 a b c d)
    ·rfl
   refine ⟨hs, is, h1, fun y => ?_, fun q hq hqm => ?_, fun q hq hqi => ?_, ?_⟩
   ·rw [h2 y]
    constructor
    ·rintro ⟨q, g1, g2⟩; exact ⟨q, List.mem_cons_of_mem _ g1, g2⟩
    ·rintro ⟨q, g1, g2, g3⟩
     rcases List.mem_cons.1 g1 with rfl | g1
     ·rw [hnm] at g2; cases g2
     ·exact ⟨q, g1, g2, g3⟩
   ·rcases List.mem_cons.1 hq with rfl | hq
    ·rw [hnm] at hqm; cases hqm
    ·exact h3 q hq hqm
   ·rcases List.mem_cons.1 hq with rfl | hq
    ·rw [hni] at hqi; cases hqi
    ·exact h4 q hq hqi
   ·rw [List.filterMap_cons, hv]; exact h5
/-- such a region, with all inserts come up, as one step -/
theorem region_wpAnyI {P : Program} {call : CallFn} (hcall : call.Sound P) {ops : Array Oper} (hokr : okRegion P (gho ops) = true) (hoi : okIns P ops = true) {N : Nat} {A' : KF} {s s' : AState} (h : evOpsQ P call (gho ops) (gho ops).toList 0 s.1 s.2 noT [] = some s') (hA : AF N A' s'.1)
  {hid : List Nat} {ins : List (Nat × AV × AV)} (hhid : ∀ i, i ∈ hid ↔ ∃ o ∈ ops.toList, isMk o.op = true ∧ ∃ d, o.dst = some d ∧ kopd N A' (.tmp d) = .map (some i)) (hall : ∀ o ∈ ops.toList, isMk o.op = true → ∃ d i, o.dst = some d ∧ kopd N A' (.tmp d) = .map (some i))
  (hseen : ∀ o ∈ ops.toList, isIns o.op = true → (insV (kopd N A') o).isSome = true) (hins : ins = ops.toList.filterMap (insV (kopd N A'))) (hin : ∀ q ∈ ins, q.1 ∈ hid) (hpw : ins.Pairwise fun a b => a.1 = b.1 → keyCmp a.2.1 b.2.1 = some false)
  {r : Ren} {a : Act} {w : World} (hfr : FR r s.1 a) (hrel : Rel r s.2 w) (hfree : ∀ i, s.2.next ≤ i → i < s'.2.next → r i = none) {Q : Exit → Act → World → Prop}
  (hQ : ∀ r' a' w' h', FR r' s'.1 a' → a'.defers = a.defers → RestR hid ins s'.2 h' → Post r s.2 w r' h' w' → Q .normal a' w') :
  wpAny P .any ops Q ops.size (Array.replicate ops.size false) a w := by
 obtain ⟨F, Hs, V, e1, e2, e3, e4, e5, e6, e7⟩ := run_of_evOpsQ h (fun j _ => by simp)
 have hsz : (gho ops).toList.length = (gho ops).size := by simp
 rw [hsz] at e3 e4 e5 e6 e7
 have hrun : Run (fun _ => False) P call (gho ops) (gho ops).size F Hs V := ⟨fun k hk => by
   obtain ⟨o, g1, g2, g3⟩ := e5 k hk
   exact ⟨o, by simpa using g1, .inl g2, g3⟩, fun k hk hq j oj hj hoj hc hi b hb => (e6 k hk (by simpa using hq)).2 j oj hj (by simpa using hoj) hc (by simpa using hi) b hb, fun k hk _ hs => by
   obtain ⟨S, _, g1, g2⟩ := e7 k hk (by simpa using hs)
   exact ⟨S, fun m hm hq _ => g1 m hm (by simpa using hq), fun o ho => g2 o (by simpa using ho)⟩⟩
 have hgs := gho_size ops
 have hw : Post r s.2 w r s.2 w := Post.refl hrel
 have wf0 : (Hs 0).WF := by rw [e2]; exact hrel.wf
 have free : ∀ i, (Hs 0).next ≤ i → i < (Hs (gho ops).size).next → r i = none := by rw [e2, e4]; exact hfree
 have hopd : kopd N A' = opd (F (gho ops).size) := by rw [e3]; exact hA.opd.symm
 have hoi1 : ∀ {j : Nat} {o : Oper}, ops[j]? = some o → okIns1 P ops j o = true := fun {j o} ho => by
  have := List.all_eq_true.1 hoi j (List.mem_range.2 (Array.getElem?_eq_some_iff.1 ho).1)
  rw [ho] at this; exact this
 have hmem : ∀ {j : Nat} {o : Oper}, ops[j]? = some o → o ∈ ops.toList := fun ho => by
  rw [← Array.getElem?_toList] at ho; exact List.mem_of_getElem? ho
 have hlt : ∀ {j : Nat} {o : Oper}, ops[j]? = some o → j < (gho ops).size := fun ho => by rw [hgs]; exact (Array.getElem?_eq_some_iff.1 ho).1
 -- a map's index stays in its slot
 have hmkv : ∀ {j : Nat} {o : Oper}, ops[j]? = some o → isMk o.op = true → o.guard = none ∧ ∃ d, o.dst = some d ∧ kopd N A' (.tmp d) = .map (some (Hs j).next) := by
  intro j o ho hm
  have h1 := hoi1 ho
  obtain ⟨d, i, hd, hi⟩ := hall o (hmem ho) hm
  have hm' := hm
  unfold isMk at hm'
  split at hm'
  ·rename_i t hop
   unfold okIns1 at h1
   rw [hop] at h1
   simp only [hd, Bool.and_eq_true, Option.isNone_iff_eq_none] at h1
   refine ⟨h1.1, d, hd, ?_⟩
   obtain ⟨hV, _⟩ := mk_step0 hcall hrun wf0 rfl free (hlt ho) ho hm h1.1
   have hst := F_later hrun h1.2 ((gho ops).size - (j + 1)) (by have := hlt ho; omega)
   rw [show j + 1 + ((gho ops).size - (j + 1)) = (gho ops).size by have := hlt ho; omega] at hst
   rw [hopd] at hi ⊢
   simp only [opd] at hi ⊢
   rw [hst] at hi ⊢
   obtain ⟨o', g1, _, g3⟩ := hrun.step j (hlt ho)
   rw [gho_get, ho] at g1; cases g1
   rw [g3, show (ghoO o).dst = some d from hd] at hi ⊢
   simp only [putD] at hi ⊢
   rw [List.getD_eq_getElem?_getD, List.getElem?_set] at hi ⊢
   rw [if_pos rfl] at hi ⊢
   split at hi
   ·rename_i hl; rw [if_pos hl]; exact hV
   ·simp at hi
  ·cases hm'
 have hHidx : ∀ i, i ∈ hid ↔ Hidx ops Hs i := by
  intro i
  rw [hhid]
  constructor
  ·rintro ⟨o, ho, hm, d, hd, hi⟩
   obtain ⟨j, hj⟩ := List.getElem?_of_mem ho
   rw [Array.getElem?_toList] at hj
   obtain ⟨_, d', hd', hi'⟩ := hmkv hj hm
   rw [hd] at hd'; cases hd'
   rw [hi] at hi'; cases hi'
   exact ⟨j, o, hj, hm, rfl⟩
  ·rintro ⟨j, o, ho, hm, rfl⟩
   obtain ⟨_, d, hd, hi⟩ := hmkv ho hm
   exact ⟨o, hmem ho, hm, d, hd, hi⟩
 -- the inserts' operands stay in theirs
 have hiv : ∀ {j : Nat} {o : Oper}, ops[j]? = some o → insV (opd (F j)) o = insV (kopd N A') o := by
  intro j o ho
  have h1 := hoi1 ho
  unfold insV
  split
  ·rename_i t m k v hop
   unfold okIns1 at h1
   rw [hop] at h1
   simp only [Bool.and_eq_true] at h1
   obtain ⟨⟨⟨⟨_, _⟩, hk⟩, hm⟩, hv⟩ := h1
   have hkc : opd (F j) k = opd (F (gho ops).size) k := by
    split at hk
    ·split at hk
     ·rfl
     ·cases hk
    ·cases hk
   rw [hopd, opd_later hrun (Nat.le_of_lt (hlt ho)) hm, opd_later hrun (Nat.le_of_lt (hlt ho)) hv, hkc]
  ·rfl
 have hinsL : (insL ops F).map (·.2) = ins := by
  rw [hins]
  unfold insL
  rw [List.map_filterMap]
  have : ∀ (l : List Oper) (k : Nat), (∀ j o, l[j]? = some o → insV (opd (F (k + j))) o = insV (kopd N A') o) → ((l.zipIdx k).filterMap fun x => (((insV (opd (F x.2)) x.1).map fun q => (x.2, q)).map fun x => x.2)) = l.filterMap (insV (kopd N A')) := by
   intro l
   induction l with
   | nil => intro k _; rfl
   | cons o l ih =>
    intro k hl
    rw [List.zipIdx_cons, List.filterMap_cons, List.filterMap_cons]
    have h0 := hl 0 o rfl
    simp only [Nat.add_zero] at h0
    simp only [h0]
    have ih' := ih (k + 1) fun j o' hj => by
     have := hl (j + 1) o' (by simpa using hj)
     rw [show k + 1 + j = k + (j + 1) by omega]; exact this
    cases insV (kopd N A') o with
    | none => exact ih'
    | some q => simp only [Option.map_some]; rw [ih']
  exact this ops.toList 0 fun j o hj => by
   rw [Nat.zero_add]
   exact hiv (by rw [← Array.getElem?_toList]; exact hj)
 have hok : InsOk P ops F Hs := by
  refine ⟨fun j o ho hm => (hmkv ho hm).1, fun j o t m k v ho hop => ?_, fun q hq q' hq' hne he => ?_⟩
  ·have h1 := hoi1 ho
   unfold okIns1 at h1
   rw [hop] at h1
   simp only [Bool.and_eq_true, Option.isNone_iff_eq_none] at h1
   obtain ⟨⟨⟨⟨hg, hd⟩, hk⟩, hm⟩, hv⟩ := h1
   have hs := hseen o (hmem ho) (by rw [hop]; rfl)
   rw [← hiv ho] at hs
   obtain ⟨q, hq⟩ := Option.isSome_iff_exists.1 hs
   have hq0 := hq
   unfold insV at hq
   rw [hop] at hq
   simp only at hq
   split at hq
   ·rename_i i hmi
    cases hq
    refine ⟨hg, hd, ?_, i, hmi, (hHidx i).1 (hin (i, opd (F j) k, opd (F j) v) ?_)⟩
    ·split at hk
     ·rename_i kt e hu
      split at hk
      ·rename_i kd c hkd
       exact ⟨kt, e, kd, hu, hkd, hk⟩
      ·cases hk
     ·cases hk
    ·rw [← hinsL]
     exact List.mem_map.2 ⟨(j, i, opd (F j) k, opd (F j) v), mem_insL.2 ⟨o, ho, hq0⟩, rfl⟩
   ·cases hq
  ·have hp : (insL ops F).Pairwise fun a b => a.2.1 = b.2.1 → keyCmp a.2.2.1 b.2.2.1 = some false := by
    rw [← hinsL, List.pairwise_map] at hpw
    exact hpw
   obtain ⟨x, hx⟩ := List.getElem?_of_mem hq
   obtain ⟨y, hy⟩ := List.getElem?_of_mem hq'
   obtain ⟨lx, rfl⟩ := List.getElem?_eq_some_iff.1 hx
   obtain ⟨ly, rfl⟩ := List.getElem?_eq_some_iff.1 hy
   rcases Nat.lt_trichotomy x y with h1 | h1 | h1
   ·exact List.pairwise_iff_getElem.1 hp x y lx ly h1 he
   ·subst h1; exact absurd rfl hne
   ·exact keyCmp_symm (List.pairwise_iff_getElem.1 hp y x ly lx h1 he.symm)
 have hlen : (F 0).length = a.tmps.size := by rw [e1]; simpa using hfr.1
 refine region_ins hcall hokr hrun hok (r0 := r) (w0 := w) (ds := a.defers) wf0 free (fun r' a' w' h1 h2 h3 x hc => ?_) ops.size _ r a w (by simp) ?_ ?_ ?_
 ·-- the maps are told again
  have hx : ∀ y, ∃ o : Option AObj, (Hidx ops Hs y → ∃ es clk t, o = some (.map es clk) ∧ r' y = some t ∧ OR r' w' t (.map es clk) ∧ (es.map fun e => (e.1, e.2.1)).Perm (insD ops F (fun m => m < (gho ops).size) y) ∧ (es.map (·.2.2)).Nodup ∧ ∀ e ∈ es, e.2.2 < clk) ∧ (¬ Hidx ops Hs y → o = s'.2.get y) := by
   intro y
   by_cases hy : Hidx ops Hs y
   ·obtain ⟨j, o, ho, hm, rfl⟩ := hy
    obtain ⟨t, ht⟩ := x.made j o ho hm (hlt ho)
    obtain ⟨es, clk, g1, g2, g3, g4⟩ := x.own _ ⟨j, o, ho, hm, rfl⟩ t ht
    exact ⟨_, fun _ => ⟨es, clk, t, rfl, ht, g1, g2, g3, g4⟩, fun h => absurd ⟨j, o, ho, hm, rfl⟩ h⟩
   ·exact ⟨_, fun h => absurd h hy, fun _ => rfl⟩
  let h' : H := ⟨s'.2.next, fun y => Classical.choose (hx y)⟩
  have hin' : ∀ y, Hidx ops Hs y → ∃ es clk t, h'.get y = some (.map es clk) ∧ r' y = some t ∧ OR r' w' t (.map es clk) ∧ (es.map fun e => (e.1, e.2.1)).Perm (insD ops F (fun m => m < (gho ops).size) y) ∧ (es.map (·.2.2)).Nodup ∧ ∀ e ∈ es, e.2.2 < clk := fun y hy => (Classical.choose_spec (hx y)).1 hy
  have hout : ∀ y, ¬ Hidx ops Hs y → h'.get y = s'.2.get y := fun y hy => (Classical.choose_spec (hx y)).2 hy
  rw [e2, e4] at h3
  rw [e3] at h1
  rw [e4] at hc
  have hfresh : ∀ {y}, Hidx ops Hs y → s.2.next ≤ y ∧ y < s'.2.next := fun {y} hy => by
   obtain ⟨j, o, hj, _, _, rfl, h5⟩ := Hidx.lt hcall hrun wf0 rfl free hok hy
   have q1 := Hs_mono hcall hrun (Nat.zero_le j) (by omega : j ≤ (gho ops).size)
   have q2 := Hs_mono hcall hrun (show j + 1 ≤ (gho ops).size from hj) (Nat.le_refl _)
   rw [e2] at q1
   rw [e4] at q2
   omega
  refine hQ r' a' w' h' h1 h2 ⟨rfl, fun i hi => hout i fun h => hi ((hHidx i).2 h), fun i hi => ?_⟩ ?_
  ·obtain ⟨es, clk, t, g1, _, _, g2, g3, g4⟩ := hin' i ((hHidx i).1 hi)
   refine ⟨es, clk, g1, ?_, g3, g4⟩
   have : insD ops F (fun m => m < (gho ops).size) i = (ins.filter fun q => q.1 == i).map (·.2) := by
    unfold insD
    rw [← hinsL, List.filter_map, List.map_map]
    have : (insL ops F).filter (fun q => decide (q.1 < (gho ops).size ∧ q.2.1 = i)) = (insL ops F).filter ((fun q : Nat × AV × AV => q.1 == i) ∘ fun x => x.2) := by
     apply List.filter_congr
     intro q hq
     obtain ⟨o, ho, _⟩ := mem_insL.1 hq
     have := hlt ho
     simp only [Function.comp]
     by_cases e : q.2.1 = i
     ·simp [e, this]
     ·simp [e]
    rw [← this]
    congr 1
    apply List.filter_congr
    intro q _
    exact decide_eq_decide.2 Iff.rfl
   rw [← this]; exact g2
  ·exact ⟨h3.le, h3.dom, ⟨fun i o hi => by
    by_cases hy : Hidx ops Hs i
    ·exact (hfresh hy).2
    ·rw [hout i hy] at hi; exact h3.rel.wf i o hi, fun i t o hr hi => by
    by_cases hy : Hidx ops Hs i
    ·obtain ⟨es, clk, t', g1, g2, g3, _⟩ := hin' i hy
     rw [g1] at hi; cases hi
     rw [hr] at g2; cases g2
     exact g3
    ·rw [hout i hy] at hi; exact h3.rel.obj i t o hr hi, fun i j ti tj oi oj hi hj gi gj e => by
    by_cases hy : Hidx ops Hs i
    ·by_cases hz : Hidx ops Hs j
     ·exact .inl (x.apart i j hy hz ti tj hi hj e)
     ·rw [hout j hz, ← hc] at gj
      exact (x.alone i hy ti hi j tj oj hj e.symm gj).elim
    ·rw [hout i hy] at gi
     by_cases hz : Hidx ops Hs j
     ·rw [← hc] at gi
      exact (x.alone j hz tj hj i ti oi hi e gi).elim
     ·rw [hout j hz] at gj
      exact h3.rel.inj i j ti tj oi oj hi hj gi gj e, h3.rel.bound, h3.rel.glob⟩, h3.keep, h3.env, h3.size, h3.next, h3.fresh, fun i o hi ho => by
    rw [hout i fun hy => by have := (hfresh hy).1; omega] at ho
    exact h3.roKeep i o hi ho, h3.gap, fun i hi hne => h3.touch i hi (by rwa [hout i fun hy => by have := (hfresh hy).1; omega] at hne)⟩
 ·intro m o ho hm' e he hb
  rw [getD_rep] at hm'; cases hm'
 ·have := List.length_filter_le (fun i => !(Array.replicate ops.size false).getD i true) (List.range ops.size)
  simpa using this
 ·intro D hD
  have hno : ∀ m, ¬ D m := fun m h => by have := (hD m).1 h; rw [getD_rep] at this; cases this
  have hcont : ∀ i, contD (gho ops).size Hs D i = (Hs 0).get i := fun i => contD_agree (Nat.zero_le _) fun m _ _ => ⟨fun h => absurd h (hno m), fun h => by omega⟩
  have hnone : ∀ {i}, Hidx ops Hs i → r i = none := fun {i} hy => by
   obtain ⟨j, o, hj, _, _, rfl, h5⟩ := Hidx.lt hcall hrun wf0 rfl free hok hy
   have q1 := Hs_mono hcall hrun (Nat.zero_le j) (by omega : j ≤ (gho ops).size)
   have q2 := Hs_mono hcall hrun (show j + 1 ≤ (gho ops).size from hj) (Nat.le_refl _)
   exact free _ q1 (by omega)
  refine ⟨⟨Ren.le_refl _, (fun i t h1 h2 => by rw [h1] at h2; cases h2), hlen.symm, fun t ht => ?_, fun i t o h1 h2 => ?_, fun i k ti tk oi ok h1 h2 h3 h4 => ?_, hw.rel.bound, fun _ _ _ => rfl, Nat.le_refl _, .refl _, (fun i t h1 h2 => by rw [h1] at h2; cases h2), fun m _ h => absurd h (hno m), fun m _ h => absurd h (hno m), rfl, hrel.glob⟩, ⟨fun i hy t ht => ?_, fun i hy t ht => ?_, fun i i2 hy _ t t2 ht => ?_, fun q _ h => absurd h (hno _), fun j o _ _ h => absurd h (hno _)⟩⟩
  ·rw [slotD_agree hrun ht (Nat.zero_le _) fun m _ _ => ⟨fun h => absurd h (hno m), fun h => by omega⟩, e1]
   exact opd_VR hfr hrel.glob (.tmp t)
  ·rw [hcont, e2] at h2
   exact hw.rel.obj i t o h1 h2
  ·rw [hcont, e2] at h3 h4
   exact hw.rel.inj i k ti tk oi ok h1 h2 h3 h4
  ·rw [hnone hy] at ht; cases ht
  ·rw [hnone hy] at ht; cases ht
  ·rw [hnone hy] at ht; cases ht
/-- a map of which nothing is told yet -/
def newHK {β : Type} (h : H) (f : Nat → H → Option β) : Option β := f h.next (h.newO none)
def okTailI (P : Program) (ops : Array Oper) (n : Nat) : Bool :=
 decide (n ≤ ops.size) && okRegion P (gho (pre ops n)) && okIns P (pre ops n) && okM ops (masks ops) && okGuards ops && ((List.range (ops.size - n)).all fun k => okCover (pre ops (n + k + 1)) (n + k))
noncomputable def regI (P : Program) (ck : CK) (cr : CR) (N : Nat) (ops : Array Oper) (n : Nat) : KC Unit := fun A h kn _ _ =>
 evOpsK P ck (gho (pre ops n)) N true (gho (pre ops n)).toList 0 A h noT [] fun A' h' => gatherK N (ops.toList.take n) A' fun hid ins => restK hid ins h' fun h'' => evOpsR P ck cr ops N (ops.toList.drop n) A' h'' kn
theorem rest_ex {hid : List Nat} {ins : List (Nat × AV × AV)} {h : H} (hl : ∀ i ∈ hid, i < h.next) : ∃ h', RestR hid ins h h' ∧ (h.WF → h'.WF) := by
 refine ⟨⟨h.next, fun i => if i ∈ hid then some (.map (((ins.filter fun q => q.1 == i).map (·.2)).zipIdx.map fun x => (x.1.1, x.1.2, x.2)) ((ins.filter fun q => q.1 == i).length)) else h.get i⟩, ⟨rfl, fun i hi => if_neg hi, fun i hi => ⟨_, _, if_pos hi, ?_, ?_, ?_⟩⟩, fun hw i o hi => ?_⟩
 ·rw [List.map_map]
  have : ((fun e : AV × AV × Nat => (e.1, e.2.1)) ∘ fun x : (AV × AV) × Nat => (x.1.1, x.1.2, x.2)) = fun x => x.1 := rfl
  rw [this, List.zipIdx_map_fst]
 ·rw [List.map_map]
  have : ((fun x : AV × AV × Nat => x.2.2) ∘ fun x : (AV × AV) × Nat => (x.1.1, x.1.2, x.2)) = fun x => x.2 := rfl
  rw [this, List.zipIdx_map_snd]
  exact List.nodup_range' ..
 ·intro e he
  obtain ⟨x, hx, rfl⟩ := List.mem_map.1 he
  have := (List.getElem?_eq_some_iff.1 (List.mem_zipIdx_iff_getElem?.1 hx)).1
  simpa using this
 ·simp only at hi
  split at hi
  ·rename_i hx; exact hl i hx
  ·exact hw i o hi
theorem DenG.regionI {P : Program} (hm : P.follows .mixedOrders = true) {ck : CK} (hck : ck.call.Sound P) {cr : CR} (hcr : cr.Sound P) {N id n : Nat} {ops : Array Oper} (hok : okTailI P ops n = true) : DenG true P N (.region id ops true) (regI P ck cr N ops n) := by
 simp only [okTailI, Bool.and_eq_true, decide_eq_true_eq] at hok
 obtain ⟨⟨⟨⟨⟨hn, hpre⟩, hins⟩, hM⟩, hgd⟩, hcov⟩ := hok
 have key : ∀ A h (kn : KF → H → Option Unit) kr ke, regI P ck cr N ops n A h kn ke kr = some () → ∃ fr' A' h' hid ins, evOpsQ P ck.call (gho (pre ops n)) (gho (pre ops n)).toList 0 ((List.range N).map (look A)) h noT [] = some (fr', h') ∧ AF N A' fr' ∧
   (∀ i, i ∈ hid ↔ ∃ o ∈ (pre ops n).toList, isMk o.op = true ∧ ∃ d, o.dst = some d ∧ kopd N A' (.tmp d) = .map (some i)) ∧ (∀ o ∈ (pre ops n).toList, isMk o.op = true → ∃ d i, o.dst = some d ∧ kopd N A' (.tmp d) = .map (some i)) ∧
   (∀ o ∈ (pre ops n).toList, isIns o.op = true → (insV (kopd N A') o).isSome = true) ∧ ins = (pre ops n).toList.filterMap (insV (kopd N A')) ∧ (∀ q ∈ ins, q.1 ∈ hid) ∧ (∀ i ∈ hid, i < h'.next) ∧ (ins.Pairwise fun a b => a.1 = b.1 → keyCmp a.2.1 b.2.1 = some false) ∧
   ∀ h'', RestR hid ins h' h'' → evOpsR P ck cr ops N (ops.toList.drop n) A' h'' kn = some () := by
  intro A h kn kr ke e
  unfold regI at e
  obtain ⟨fr', A', h', h1, h2, h3⟩ := evOpsK_some (fr := (List.range N).map (look A)) e ⟨by simp, fun t ht => by rw [List.getD_eq_getElem?_getD, List.getElem?_map, List.getElem?_range ht]; rfl⟩
  obtain ⟨hid, ins, g1, g2, g3, g4, g5⟩ := gatherK_some h3
  obtain ⟨⟨k1, k0, k2⟩, k3⟩ := restK_some g1
  exact ⟨fr', A', h', hid, ins, by simpa using h1, h2, g2, g3, g4, g5, k1, k0, k2, k3⟩
 have ht : Tidy ops := ⟨fun j q hq => (okM_spec hM hq).1, fun j q g b hq hg => by
  have hj := (Array.getElem?_eq_some_iff.1 hq).1
  have := List.all_eq_true.1 hgd j (List.mem_range.2 (by omega))
  rw [hq] at this
  simp only [hg, decide_eq_true_eq] at this
  exact this⟩
 refine ⟨fun A h kn ke kr x e => ?_, fun r a w A h kn ke kr x B e hfr hsz hrel hfree hB Q hQ => ?_⟩
 ·cases x
  obtain ⟨fr', A', h', hid, ins, h1, h2, _, _, _, _, _, k0, _, h3⟩ := key A h kn kr ke e
  have g1 := evOpsQ_grows hck h1
  obtain ⟨h'', hR, hwf⟩ := rest_ex (ins := ins) k0
  obtain ⟨A2, h4, e2, g2, w2⟩ := opsR_ends hck hcr _ _ _ (h3 h'' hR)
  exact ⟨.normal, _, h4, e2, Nat.le_trans g1.1 (by rw [← hR.1]; exact g2), fun hw => w2 (hwf (g1.2 hw))⟩
 ·cases x
  obtain ⟨fr', A', h', hid, ins, h1, h2, k1, k2, k3, k4, k5, _, k6, h3⟩ := key A h kn kr ke e
  have hfree' : ∀ i, h.next ≤ i → r i = none := fun i hi => hfree i hi (B.all rfl i)
  have hfr' : FR r ((List.range N).map (look A)) a := by
   refine ⟨by simpa using hsz.symm, fun t x v hx hv => ?_⟩
   have ht : t < N := by have := (List.getElem?_eq_some_iff.1 hx).1; simpa using this
   rw [List.getElem?_map, List.getElem?_range ht] at hx
   simp at hx
   subst hx
   have := hfr t (by rw [hsz]; exact ht)
   simp only [Act.eval, Array.getD_eq_getD_getElem?] at this
   rw [← Array.getElem?_toList, hv] at this
   exact this
  have hw0 : Post r h w r h { w with drawn := w.drawn + 1 } := Post.same hrel rfl ⟨rfl, rfl, rfl, fun _ => Nat.le_succ _⟩
  refine wp_region_any hm ?_
  have hsub : wpAny P .any (pre ops n) (endBy Q fun a w => wpList P ops Q (ops.toList.drop n) a w) (pre ops n).size (Array.replicate (pre ops n).size false) a { w with drawn := w.drawn + 1 } := by
   refine region_wpAnyI hck hpre hins (s := ((List.range N).map (look A), h)) (s' := (fr', h')) h1 h2 k1 k2 k3 k4 k5 k6 hfr' hw0.rel (fun i hi _ => hfree' i hi) fun r' a' w' h'' q1 q2 qR q3 => ?_
   have hsz' : a'.tmps.size = N := by rw [← h2.1]; simpa using q1.1.symm
   have hA' : FRk r' A' a' := fun t ht => by
    rw [h2.2 t (by rw [← hsz']; exact ht)]
    exact opd_VR q1 q3.rel.glob (.tmp t)
   show wpList P ops Q (ops.toList.drop n) a' w'
   exact opsR_wp hck hcr _ A' h'' r' a' w' (h3 h'' qR) hA' hsz' q3.rel (free_all (hw0.trans q3) hfree') fun r2 a2 w2 A2 h2 k1 k2 k3 k4 k5 => hQ r2 a2 w2 A2 h2 .normal k1 k2 (by rw [k3, q2]) ((hw0.trans q3).trans k4) k5
  rw [pre_size hn] at hsub
  have := wpAny_tail ht (fun m h1 h2 => by
   have := List.all_eq_true.1 hcov (m - n) (List.mem_range.2 (by omega))
   rwa [show n + (m - n) = m by omega] at this) hsub (ops.size - n) (by omega)
  rw [show n + (ops.size - n) = ops.size by omega, pre_all] at this
  have hd : ops.toList.drop ops.size = [] := by rw [← Array.length_toList, List.drop_length]
  rw [hd] at this
  have he : (endBy Q fun a w => wpList P ops Q [] a w) = Q := by
   funext e a w
   cases e <;> rfl
  rw [he] at this
  exact this
end Go.Ev

/- The abstract machine Ev: a drawn region one of whose calls may end in unlike ways. -/
namespace Go.Ev
open Go.RowKit
def renO (σ : Nat → Nat) (o : Oper) : Oper := { o with after := (o.after.toList.map fun e => { e with on := σ e.on }).toArray, guard := o.guard.map fun g => (σ g.1, g.2) }
theorem binds_on (md : Region.Mode) (e : Edge) (j : Nat) : Region.binds md { e with on := j } = Region.binds md e := by
 cases e; cases md <;> rfl
section
variable {P : Program} {ops ops' : Array Oper} {σ : Nat → Nat} {Q : Exit → Act → World → Prop}
/-- ops', the operations of ops at other places -/
structure Moved (ops ops' : Array Oper) (σ : Nat → Nat) : Prop where
 size : ops'.size = ops.size
 lt : ∀ j, j < ops.size → σ j < ops.size
 inj : ∀ i j, i < ops.size → j < ops.size → σ i = σ j → i = j
 onto : ∀ i, i < ops.size → ∃ j, j < ops.size ∧ σ j = i
 get : ∀ (j : Nat) o, ops[j]? = some o → ops'[σ j]? = some (renO σ o)
 on : ∀ (j : Nat) o, ops[j]? = some o → ∀ e ∈ o.after, Region.binds .any e = true → e.on < ops.size
 guard : ∀ (j : Nat) o g b, ops[j]? = some o → o.guard = some (g, b) → g < ops.size
theorem Moved.op (m : Moved ops ops' σ) {j : Nat} {o : Oper} (ho : ops[j]? = some o) {a : Act} {w : World} {K K' : Act → World → Prop} (hK : ∀ a w, K' a w → K a w) (h : wpOp P ops' Q (σ j) K' a w) : wpOp P ops Q j K a w := by
 unfold wpOp at h ⊢
 rw [m.get j o ho] at h
 rw [ho]
 simp only at h ⊢
 have hw : Region.wanted (renO σ o) (yielded ops' a.tmps) = Region.wanted o (yielded ops a.tmps) := by
  unfold Region.wanted renO
  cases hg : o.guard with
  | none => rfl
  | some q =>
   obtain ⟨g, b⟩ := q
   have hgl := m.guard j o g b ho hg
   simp only [Option.map_some]
   have : yielded ops' a.tmps (σ g) = yielded ops a.tmps g := by
    unfold yielded
    rw [m.get g _ (Array.getElem?_eq_getElem hgl), Array.getElem?_eq_getElem hgl]
    rfl
   rw [this]
 rw [hw] at h
 split
 ·rename_i hb
  rw [if_pos hb] at h
  exact h.imp (fun h => Oper.wp_mono hK h) id
 ·rename_i hb
  rw [if_neg hb] at h
  exact hK _ _ h
theorem Moved.ready (m : Moved ops ops' σ) {listed listed' : Array Bool} (hs : listed.size = ops.size) (hs' : listed'.size = ops.size) (hl : ∀ j, j < ops.size → listed'.getD (σ j) true = listed.getD j true) {j : Nat} (hj : j < ops.size) :
  σ j ∈ Region.ready .any ops' listed' ↔ j ∈ Region.ready .any ops listed := by
 have ho : ops[j]? = some ops[j] := Array.getElem?_eq_getElem hj
 have hon : ∀ e ∈ ops[j].after, Region.binds .any e = true → (listed'.getD (σ e.on) false = true ↔ listed.getD e.on false = true) := fun e he hb => by
  have h1 := m.on j _ ho e he hb
  have h2 := m.lt _ h1
  rw [← getD_both (by omega), ← getD_both (by omega), hl _ h1]
 rw [mem_ready, mem_ready, hl j hj]
 refine and_congr Iff.rfl ⟨?_, ?_⟩
 ·rintro ⟨o', h1, h2⟩
  rw [m.get j _ ho] at h1
  cases h1
  refine ⟨_, ho, fun e he hb => (hon e he hb).1 ?_⟩
  have := h2 { e with on := σ e.on } (by simp only [renO, List.mem_toArray, List.mem_map]; exact ⟨e, by simpa using he, rfl⟩) (by rw [binds_on]; exact hb)
  exact this
 ·rintro ⟨o', h1, h2⟩
  rw [ho] at h1
  cases h1
  refine ⟨_, m.get j _ ho, fun e he hb => ?_⟩
  simp only [renO, List.mem_toArray, List.mem_map] at he
  obtain ⟨e0, he0, rfl⟩ := he
  rw [binds_on] at hb
  exact (hon e0 (by simpa using he0) hb).2 (h2 e0 (by simpa using he0) hb)
theorem Moved.any (m : Moved ops ops' σ) : ∀ (fuel : Nat) (listed listed' : Array Bool) (a : Act) (w : World), listed.size = ops.size → listed'.size = ops.size → (∀ j, j < ops.size → listed'.getD (σ j) true = listed.getD j true) → wpAny P .any ops' Q fuel listed' a w → wpAny P .any ops Q fuel listed a w := by
 have nil : ∀ {listed listed' : Array Bool}, listed.size = ops.size → listed'.size = ops.size → (∀ j, j < ops.size → listed'.getD (σ j) true = listed.getD j true) → (Region.ready .any ops listed = [] ↔ Region.ready .any ops' listed' = []) := by
  intro listed listed' hs hs' hl
  constructor
  ·intro h
   rw [List.eq_nil_iff_forall_not_mem]
   intro i hi
   obtain ⟨_, o, h1, _⟩ := mem_ready.1 hi
   have := (Array.getElem?_eq_some_iff.1 h1).1
   obtain ⟨j, hj, rfl⟩ := m.onto i (by rw [← m.size]; exact this)
   have := (m.ready hs hs' hl hj).1 hi
   rw [h] at this; cases this
  ·intro h
   rw [List.eq_nil_iff_forall_not_mem]
   intro j hj
   obtain ⟨_, o, h1, _⟩ := mem_ready.1 hj
   have := (m.ready hs hs' hl (Array.getElem?_eq_some_iff.1 h1).1).2 hj
   rw [h] at this; cases this
 intro fuel
 induction fuel with
 | zero => exact fun listed listed' a w hs hs' hl h => ⟨(nil hs hs' hl).2 h.1, h.2⟩
 | succ fuel ih =>
  intro listed listed' a w hs hs' hl h
  refine ⟨fun hr => h.1 ((nil hs hs' hl).1 hr), fun j hj => ?_⟩
  obtain ⟨_, o, ho, _⟩ := mem_ready.1 hj
  have hjs := (Array.getElem?_eq_some_iff.1 ho).1
  refine m.op ho (fun a w hk => ih _ (listed'.setIfInBounds (σ j) true) a w (by simp [hs]) (by simp [hs']) (fun i hi => ?_) hk) (h.2 (σ j) ((m.ready hs hs' hl hjs).2 hj))
  rw [set_getD (by have := m.lt j hjs; omega), set_getD (by omega)]
  by_cases e : i = j
  ·subst e; simp
  ·rw [if_neg e, if_neg fun e2 => e (m.inj i j hi hjs e2)]
   exact hl i hi
end
section
variable {E : Nat → Prop} {P : Program} {call : CallFn} {ops : Array Oper} {N n : Nat} {F F' : Nat → List AV} {Hs Hs' : Nat → H} {V V' : Nat → AV} {r0 : Ren} {w0 : World} {ds : List Deferred}
theorem pr_val {α : Type} {init : α} {val val' : Nat → α} {W W' : Nat → Prop} : ∀ {k : Nat}, (∀ m, m < k → (W m ↔ W' m)) → (∀ m, m < k → W m → val m = val' m) → pr init val W k = pr init val' W' k
 | 0, _, _ => rfl
 | k + 1, h1, h2 => by
  simp only [pr]
  by_cases h : W k
  ·rw [if_pos h, if_pos ((h1 k (by omega)).1 h), h2 k (by omega) h]
  ·rw [if_neg h, if_neg fun h' => h ((h1 k (by omega)).2 h')]
   exact pr_val (fun m hm => h1 m (by omega)) fun m hm => h2 m (by omega)
theorem Inv.shared {D : Nat → Prop} {r : Ren} {a : Act} {w : World} (inv : Inv P ops N F Hs V r0 w0 ds D r a w) (hD : ∀ m, D m → m < n) (hF : F 0 = F' 0) (hH : ∀ k, k ≤ n → Hs k = Hs' k) (hV : ∀ k, k < n → V k = V' k) : Inv P ops N F' Hs' V' r0 w0 ds D r a w := by
 have hc : ∀ i, contD N Hs D i = contD N Hs' D i := fun i => by
  unfold contD
  rw [hH 0 (Nat.zero_le _)]
  refine pr_val (fun m hm => ?_) fun m hm h => by rw [hH (m + 1) (hD m h.1)]
  constructor
  ·rintro ⟨h1, h2⟩
   have := hD m h1
   refine ⟨h1, ?_⟩
   unfold Tc at h2 ⊢
   rw [← hH (m + 1) this, ← hH m (by omega)]; exact h2
  ·rintro ⟨h1, h2⟩
   have := hD m h1
   refine ⟨h1, ?_⟩
   unfold Tc at h2 ⊢
   rw [hH (m + 1) this, hH m (by omega)]; exact h2
 refine ⟨inv.le, fun i t h1 h2 => ?_, by rw [inv.sz, hF], fun t ht => ?_, fun i t o h1 h2 => inv.obj i t o h1 (by rw [hc]; exact h2), fun i j ti tj oi oj h1 h2 h3 h4 => inv.inj i j ti tj oi oj h1 h2 (by rw [hc]; exact h3) (by rw [hc]; exact h4), inv.bound, ?_, inv.size, inv.env, ?_, fun m hm hDm i hi ht => ?_, fun m hm hDm i o hi ho => ?_, inv.defers, inv.gl⟩
 ·obtain ⟨k, hk, hDk, h3, h4⟩ := inv.dom i t h1 h2
  have := hD k hDk
  exact ⟨k, hk, hDk, by rw [← hH k (by omega)]; exact h3, by rw [← hH (k + 1) this]; exact h4⟩
 ·rw [← hF] at ht
  have := inv.slot t ht
  have he : slotD ops N F V D t = slotD ops N F' V' D t := by
   unfold slotD
   rw [hF]
   exact pr_val (fun m _ => Iff.rfl) fun m hm h => hV m (hD m h.1)
  rw [← he]; exact this
 ·rw [← hH 0 (Nat.zero_le _)]; exact inv.keep
 ·rw [← hH 0 (Nat.zero_le _)]; exact inv.fresh
 ·have hmn := hD m hDm
  rw [← hH m (by omega)] at hi
  refine inv.touch m hm hDm i hi ?_
  unfold Tc at ht ⊢
  rw [hH (m + 1) hmn, hH m (by omega)]; exact ht
 ·have hmn := hD m hDm
  rw [← hH m (by omega)] at hi ⊢
  rw [← hH (m + 1) hmn] at ho
  exact inv.ro m hm hDm i o hi ho
end
/-- is it such a call? -/
def relOp (cr : CR) (o : Oper) : Bool := match o.op with | .call c => (match c.callee with | .value (.func f) => cr.isR f | _ => false) | _ => false
def stillB (P : Program) (o : Oper) : Bool := match cls P o.op with | .pure => true | .alloc => true | _ => false
/-- the others ahead of the n-th wait for nothing and look at nothing, or it waits for them; all behind it wait for it -/
def okE (P : Program) (cr : CR) (ops : Array Oper) (n : Nat) : Bool :=
 (match ops[n]? with | some o => relOp cr o | none => false) && okRegion P ops && okGuards ops &&
  ((List.range n).all fun k => match ops[k]? with | some o => stillB P o || (masks ops n).testBit k | none => true) &&
  ((List.range ops.size).all fun k => decide (k ≤ n) || ((masks ops k).testBit n && (List.range n).all fun j => match ops[j]? with | some o => stillB P o || (masks ops k).testBit j | none => true))
section
variable {P : Program} {ops : Array Oper}
/-- what comes behind it -/
noncomputable def sfxK (P : Program) (ck : CK) (N : Nat) (ops : Array Oper) (n : Nat) (A : KF) (o : Oper) (v : AV) (h : H) (kn : KF → H → Option Unit) : Option Unit :=
 evOpsK P ck ops N true (ops.toList.drop (n + 1)) (n + 1) (kput N A o.dst v) h noT [] kn
noncomputable def regE (P : Program) (ck : CK) (cr : CR) (N : Nat) (ops : Array Oper) (n : Nat) (A : KF) (h : H) (kn : KF → H → Option Unit) : Option Unit :=
 evOpsK P ck ops N true (ops.toList.take n) 0 A h noT [] fun A1 h1 =>
  match ops[n]? with
  | some o => evStepR P ck cr ops N A1 o h1 fun A2 v h2 => sfxK P ck N ops n A2 o v h2 kn
  | none => none
theorem regE_ends {ck : CK} (hck : ck.call.Sound P) {cr : CR} (hcr : cr.Sound P) {N n : Nat} {A : KF} {h : H} {kn : KF → H → Option Unit} (e : regE P ck cr N ops n A h kn = some ()) : ∃ A' h', kn A' h' = some () ∧ h.next ≤ h'.next ∧ (h.WF → h'.WF) := by
 unfold regE at e
 obtain ⟨fr', A', h', h1, h2, h3⟩ := evOpsK_some (fr := (List.range N).map (look A)) e ⟨by simp, fun t ht => by rw [List.getD_eq_getElem?_getD, List.getElem?_map, List.getElem?_range ht]; rfl⟩
 simp only [if_true] at h1
 have g1 := evOpsQ_grows hck h1
 split at h3
 ·rename_i o ho
  obtain ⟨A2, v, h4, h5, g2, w2⟩ := stepR_ends hck hcr h3
  unfold sfxK at h5
  obtain ⟨fr3, A3, h6, h7, h8, h9⟩ := evOpsK_some (fr := (List.range N).map (look (kput N A2 o.dst v))) h5 ⟨by simp, fun t ht => by rw [List.getD_eq_getElem?_getD, List.getElem?_map, List.getElem?_range ht]; rfl⟩
  simp only [if_true] at h7
  have g3 := evOpsQ_grows hck h7
  exact ⟨A3, h6, h9, Nat.le_trans g1.1 (Nat.le_trans g2 g3.1), fun hw => g3.2 (w2 (g1.2 hw))⟩
 ·cases h3
theorem indep_not {M : Nat → Nat} {k j : Nat} (h : (M k).testBit j = true ∨ (M j).testBit k = true) : indepB M k j = false := by
 unfold indepB
 rcases h with h | h <;> simp [h]
theorem regE_any {ck : CK} (hck : ck.call.Sound P) {cr : CR} (hcr : cr.Sound P) {N n : Nat} (hok : okE P cr ops n = true) {A : KF} {h : H} {kn : KF → H → Option Unit} (e : regE P ck cr N ops n A h kn = some ())
  {r : Ren} {a : Act} {w : World} (hfr : FRk r A a) (hsz : a.tmps.size = N) (hrel : Rel r h w) (hfree : ∀ i, h.next ≤ i → r i = none) {Q : Exit → Act → World → Prop}
  (hQ : ∀ r' a' w' A' h', FRk r' A' a' → a'.tmps.size = N → a'.defers = a.defers → Post r h w r' h' w' → kn A' h' = some () → Q .normal a' w') :
  wpAny P .any ops Q ops.size (Array.replicate ops.size false) a w := by
 simp only [okE, Bool.and_eq_true] at hok
 obtain ⟨⟨⟨⟨hrop, hreg⟩, hgd⟩, hpre⟩, hsuf⟩ := hok
 have hreg' := hreg
 simp only [okRegion, Bool.and_eq_true] at hreg'
 obtain ⟨⟨hM, hH⟩, hP⟩ := hreg'
 obtain ⟨o, ho, hro⟩ : ∃ o, ops[n]? = some o ∧ relOp cr o = true := by
  split at hrop
  ·rename_i o ho; exact ⟨o, ho, hrop⟩
  ·cases hrop
 have hns := (Array.getElem?_eq_some_iff.1 ho).1
 have ht : Tidy ops := ⟨fun j q hq => (okM_spec hM hq).1, fun j q g b hq hg => by
  have hj := (Array.getElem?_eq_some_iff.1 hq).1
  have := List.all_eq_true.1 hgd j (List.mem_range.2 (by omega))
  rw [hq] at this
  simp only [hg, decide_eq_true_eq] at this
  exact this⟩
 obtain ⟨c, f, hop, hcal, hisR⟩ : ∃ c f, o.op = .call c ∧ c.callee = .value (.func f) ∧ cr.isR f = true := by
  unfold relOp at hro
  split at hro
  ·rename_i c hop
   split at hro
   ·rename_i f hc; exact ⟨c, f, hop, hc, hro⟩
   ·cases hro
  ·cases hro
 have hclsn : cls P o.op = .full := by rw [hop]; simp only [cls, hcal]
 -- all behind n wait for it, and for what it waits for
 have hwait : ∀ k, n < k → k < ops.size → (masks ops k).testBit n = true ∧ ∀ j oj, j < n → ops[j]? = some oj → stillB P oj = true ∨ (masks ops k).testBit j = true := by
  intro k hk hks
  have := List.all_eq_true.1 hsuf k (List.mem_range.2 hks)
  simp only [Bool.or_eq_true, decide_eq_true_eq, Bool.and_eq_true] at this
  rcases this with h1 | h1
  ·omega
  ·refine ⟨h1.1, fun j oj hj hoj => ?_⟩
   have := List.all_eq_true.1 h1.2 j (List.mem_range.2 hj)
   rw [hoj] at this
   simpa using this
 have hpre' : ∀ j oj, j < n → ops[j]? = some oj → stillB P oj = true ∨ (masks ops n).testBit j = true := by
  intro j oj hj hoj
  have := List.all_eq_true.1 hpre j (List.mem_range.2 hj)
  rw [hoj] at this
  simpa using this
 -- ahead of it
 unfold regE at e
 obtain ⟨fr1, A1, h1, e1, hA1, e2⟩ := evOpsK_some (fr := (List.range N).map (look A)) e ⟨by simp, fun t ht => by rw [List.getD_eq_getElem?_getD, List.getElem?_map, List.getElem?_range ht]; rfl⟩
 simp only [if_true] at e1
 rw [ho] at e2
 simp only at e2
 obtain ⟨F1, Hs1, V1, q1, q2, q3, q4, q5, q6, q7⟩ := run_of_evOpsQ e1 (fun j hj => by
  rw [List.getElem?_take, if_pos (by simp at hj; omega)]; simp)
 have hlen1 : (ops.toList.take n).length = n := by simp; omega
 rw [hlen1] at q3 q4 q5 q6 q7
 have hfr' : FR r ((List.range N).map (look A)) a := by
  refine ⟨by simpa using hsz.symm, fun t x v hx hv => ?_⟩
  have ht : t < N := by have := (List.getElem?_eq_some_iff.1 hx).1; simpa using this
  rw [List.getElem?_map, List.getElem?_range ht] at hx
  simp at hx
  subst hx
  have := hfr t (by rw [hsz]; exact ht)
  simp only [Act.eval, Array.getD_eq_getD_getElem?] at this
  rw [← Array.getElem?_toList, hv] at this
  exact this
 -- a run that begins so
 have mk : ∀ (E : Nat → Prop) (F : Nat → List AV) (Hs : Nat → H) (V : Nat → AV), (∀ k, k ≤ n → F k = F1 k) → (∀ k, k ≤ n → Hs k = Hs1 k) → (∀ k, k < n → V k = V1 k) →
   (∀ k, n ≤ k → k < ops.size → ∃ o, ops[k]? = some o ∧ (evStep P ck.call ops o (opd (F k)) (Hs k) = some (V k, Hs (k + 1)) ∨ (E k ∧ ((Hs k).next ≤ (Hs (k + 1)).next ∧ ((Hs k).WF → (Hs (k + 1)).WF)) ∧ ((∃ i, i < (Hs k).next ∧ (Hs (k + 1)).get i ≠ (Hs k).get i) → cls P o.op = .full))) ∧ F (k + 1) = putD (F k) o.dst (V k)) →
   (∀ k, n < k → k < ops.size → needQuiet P ops (masks ops) k = true → ∀ j oj, n < j → j < k → ops[j]? = some oj → cls P oj.op = .read → indepB (masks ops) k j = true → ∀ b, refOf (mainV (opd (F j)) oj.op) = some b → (Hs (k + 1)).get b = (Hs k).get b) →
   (∀ k, n < k → k < ops.size → ¬ E k → shyB P ops (masks ops) k = true → ∃ S : Nat → Prop, (∀ m, n < m → m < k → needQuiet P ops (masks ops) m = true → ∀ i, i < (Hs m).next → (Hs (m + 1)).get i ≠ (Hs m).get i → S i) ∧ ∀ o, ops[k]? = some o → evStep P ck.call ops o (opd (F k)) ((Hs k).minus S) = some (V k, (Hs k).minus S)) →
   Run E P ck.call ops ops.size F Hs V := by
  intro E F Hs V hF hHs hV hst hkept hshy
  refine ⟨fun k hk => ?_, fun k hk hq j oj hj hoj hc hi b hb => ?_, fun k hk hE hs => ?_⟩
  ·rcases Nat.lt_or_ge k n with hlt | hge
   ·obtain ⟨o', g1, g2, g3⟩ := q5 k hlt
    rw [Nat.zero_add] at g1
    exact ⟨o', g1, .inl (by rw [hF k (by omega), hHs k (by omega), hV k hlt, hHs (k + 1) hlt]; exact g2), by rw [hF (k + 1) hlt, hF k (by omega), hV k hlt]; exact g3⟩
   ·exact hst k hge hk
  ·rcases Nat.lt_trichotomy k n with hlt | rfl | hgt
   ·have := (q6 k hlt (by simpa using hq)).2 j oj hj (by simpa using hoj) hc (by simpa using hi) b (by rw [← hF j (by omega)]; exact hb)
    rw [hHs (k + 1) hlt, hHs k (by omega)]; exact this
   ·exfalso
    rcases hpre' j oj hj hoj with h5 | h5
    ·unfold stillB at h5; rw [hc] at h5; cases h5
    ·rw [indep_not (.inl h5)] at hi; cases hi
   ·rcases Nat.lt_trichotomy j n with hjn | rfl | hjn
    ·exfalso
     rcases (hwait k hgt hk).2 j oj hjn hoj with h5 | h5
     ·unfold stillB at h5; rw [hc] at h5; cases h5
     ·rw [indep_not (.inl h5)] at hi; cases hi
    ·exfalso
     rw [indep_not (.inl (hwait k hgt hk).1)] at hi; cases hi
    ·exact hkept k hgt hk hq j oj hjn hj hoj hc hi b hb
  ·rcases Nat.lt_trichotomy k n with hlt | rfl | hgt
   ·obtain ⟨S, _, g1, g2⟩ := q7 k hlt (by simpa using hs)
    refine ⟨S, fun m hm hq _ i hi hne => g1 m hm (by simpa using hq) i (by rw [← hHs m (by omega)]; exact hi) (by rw [← hHs (m + 1) (by omega), ← hHs m (by omega)]; exact hne), fun o' ho' => ?_⟩
    rw [hF k (by omega), hHs k (by omega), hV k hlt]
    exact g2 o' (by simpa using ho')
   ·exfalso
    have := shy_read ho hs
    rw [hclsn] at this; cases this
   ·obtain ⟨S, g1, g2⟩ := hshy k hgt hk hE hs
    refine ⟨S, fun m hm hq hi i hin hne => ?_, g2⟩
    rcases Nat.lt_trichotomy m n with hmn | rfl | hmn
    ·exfalso
     have hom : ops[m]? = some ops[m] := Array.getElem?_eq_getElem (by omega)
     rcases (hwait k hgt hk).2 m _ hmn hom with h5 | h5
     ·unfold needQuiet at hq
      rw [hom] at hq
      simp only [Bool.and_eq_true, beq_iff_eq] at hq
      unfold stillB at h5
      rw [hq.1] at h5; cases h5
     ·rw [indep_not (.inr h5)] at hi; cases hi
    ·rw [indep_not (.inr (hwait k hgt hk).1)] at hi; cases hi
    ·exact g1 m hmn hm hq i hin hne
 -- the run of what is ahead, with nothing behind
 let G : Nat → List AV := fun m => Nat.rec fr1 (fun m g => putD g ((ops[n + m]?).bind (·.dst)) .junk) m
 let F0 : Nat → List AV := fun k => if k ≤ n then F1 k else G (k - n)
 let Hs0 : Nat → H := fun k => if k ≤ n then Hs1 k else h1
 let V0 : Nat → AV := fun k => if k < n then V1 k else .junk
 have run0 : Run (fun k => n ≤ k) P ck.call ops ops.size F0 Hs0 V0 := by
  refine mk _ F0 Hs0 V0 (fun k hk => if_pos hk) (fun k hk => if_pos hk) (fun k hk => if_pos hk) (fun k hk hks => ?_) (fun k hk hks _ j oj hnj hjk _ _ _ b _ => ?_) (fun k hk hks hE hs => absurd (Nat.le_of_lt hk) hE)
  ·have hok' : ops[k]? = some ops[k] := Array.getElem?_eq_getElem hks
   have hHk : Hs0 k = h1 := by
    simp only [Hs0]
    split
    ·rw [show k = n by omega]; exact q4
    ·rfl
   have hHk1 : Hs0 (k + 1) = h1 := by simp only [Hs0]; rw [if_neg (by omega)]
   refine ⟨_, hok', .inr ⟨hk, by rw [hHk, hHk1]; exact ⟨Nat.le_refl _, id⟩, fun ⟨i, _, hne⟩ => absurd (by rw [hHk, hHk1]) hne⟩, ?_⟩
   have hGk : F0 k = G (k - n) := by
    simp only [F0]
    split
    ·rw [show k = n by omega, Nat.sub_self]; exact q3
    ·rfl
   have hVk : V0 k = .junk := by simp only [V0]; rw [if_neg (by omega)]
   rw [hGk, hVk]
   simp only [F0]
   rw [if_neg (by omega), show k + 1 - n = (k - n) + 1 by omega]
   show putD (G (k - n)) ((ops[n + (k - n)]?).bind (·.dst)) .junk = _
   rw [show n + (k - n) = k by omega, hok']
   rfl
  ·simp only [Hs0]; rw [if_neg (by omega), if_neg (by omega)]
 have wf0 : (Hs0 0).WF := by
  have : Hs0 0 = h := by simp only [Hs0]; rw [if_pos (Nat.zero_le _)]; exact q2
  rw [this]; exact hrel.wf
 have hH00 : Hs0 0 = h := by simp only [Hs0]; rw [if_pos (Nat.zero_le _)]; exact q2
 have free0 : ∀ i, (Hs0 0).next ≤ i → i < (Hs0 ops.size).next → r i = none := fun i hi _ => hfree i (by rw [← hH00]; exact hi)
 have hF0n : F0 n = fr1 := by simp only [F0]; rw [if_pos (Nat.le_refl _)]; exact q3
 have hH0n : Hs0 n = h1 := by simp only [Hs0]; rw [if_pos (Nat.le_refl _)]; exact q4
 obtain ⟨A2, b, hsame, hwant, e3⟩ := stepR_cases e2
 have hsh1 : ∀ k, k ≤ n → Hs0 k = Hs1 k := fun k hk => if_pos hk
 -- behind it
 have after : ∀ (fuel : Nat) (listed : Array Bool) (r1 r' : Ren) (a1 : Act) (w1 w' : World) (v : AV) (v' : Value) (h2 : H), listed.size = ops.size → listed.getD n true = false → (∀ m o, ops[m]? = some o → listed.getD m false = true → ∀ e ∈ o.after, Region.binds .any e = true → listed.getD e.on false = true) →
   (∀ e ∈ o.after, Region.binds .any e = true → listed.getD e.on false = true) → (∀ m, listed.getD m false = true → m < n) → ((List.range ops.size).filter fun i => !listed.getD i true).length ≤ fuel + 1 →
   Inv P ops ops.size F0 Hs0 V0 r w a.defers (fun m => listed.getD m false = true) r1 a1 w1 → VR r' v v' → Post r1 h1 w1 r' h2 w' → sfxK P ck N ops n A2 o v h2 kn = some () → wpAny P .any ops Q fuel (listed.setIfInBounds n true) (a1.put o.dst v') w' := by
  intro fuel listed r1 r' a1 w1 w' v v' h2 hls hln hcl hready hlow hfu inv hv hp hk
  unfold sfxK at hk
  obtain ⟨fr3, A3, h3, k1, k2, k3⟩ := evOpsK_some (fr := putD fr1 o.dst v) hk ((hA1.of_same hsame).put o.dst v)
  simp only [if_true] at k1
  have hL : (ops.toList.drop (n + 1)).length = ops.size - (n + 1) := by simp
  obtain ⟨F2, Hs2, V2, p1, p2, p3, p4, p5, p6, p7⟩ := run_of_evOpsQ k1 (fun j _ => by simp)
  rw [hL] at p3 p4 p5 p6 p7
  let F : Nat → List AV := fun k => if k ≤ n then F1 k else F2 (k - (n + 1))
  let Hs : Nat → H := fun k => if k ≤ n then Hs1 k else Hs2 (k - (n + 1))
  let V : Nat → AV := fun k => if k < n then V1 k else if k = n then v else V2 (k - (n + 1))
  have hFgt : ∀ k, n < k → F k = F2 (k - (n + 1)) := fun k hk => if_neg (by omega)
  have hHgt : ∀ k, n < k → Hs k = Hs2 (k - (n + 1)) := fun k hk => if_neg (by omega)
  have hVgt : ∀ k, n < k → V k = V2 (k - (n + 1)) := fun k hk => by simp only [V]; rw [if_neg (by omega), if_neg (by omega)]
  have hFn : F n = fr1 := by simp only [F]; rw [if_pos (Nat.le_refl _)]; exact q3
  have hHn : Hs n = h1 := by simp only [Hs]; rw [if_pos (Nat.le_refl _)]; exact q4
  have hHn1 : Hs (n + 1) = h2 := by rw [hHgt (n + 1) (by omega), Nat.sub_self]; exact p2
  have hVn : V n = v := by simp [V]
  have hrun : Run (fun k => k = n) P ck.call ops ops.size F Hs V := by
   refine mk _ F Hs V (fun k hk => if_pos hk) (fun k hk => if_pos hk) (fun k hk => if_pos hk) (fun k hk hks => ?_) (fun k hk hks hq j oj hnj hjk hoj hc hi b hb => ?_) (fun k hk hks hE hs => ?_)
   ·rcases Nat.lt_or_ge n k with hgt | hle
    ·obtain ⟨o', g1, g2, g3⟩ := p5 (k - (n + 1)) (by omega)
     rw [show n + 1 + (k - (n + 1)) = k by omega] at g1
     refine ⟨o', g1, .inl ?_, ?_⟩
     ·rw [hFgt k hgt, hHgt k hgt, hVgt k hgt, hHgt (k + 1) (by omega), show k + 1 - (n + 1) = (k - (n + 1)) + 1 by omega]; exact g2
     ·rw [hFgt (k + 1) (by omega), hFgt k hgt, hVgt k hgt, show k + 1 - (n + 1) = (k - (n + 1)) + 1 by omega]; exact g3
    ·obtain rfl : k = n := by omega
     refine ⟨o, ho, .inr ⟨rfl, by rw [hHn, hHn1]; exact ⟨hp.next, fun _ => hp.rel.wf⟩, fun _ => hclsn⟩, ?_⟩
     rw [hFgt (k + 1) (by omega), Nat.sub_self, p1, hFn, hVn]
   ·have := (p6 (k - (n + 1)) (by omega) (by rw [show n + 1 + (k - (n + 1)) = k by omega]; exact hq)).2 (j - (n + 1)) oj (by omega) (by rw [show n + 1 + (j - (n + 1)) = j by omega]; exact hoj) hc (by
     rw [show n + 1 + (k - (n + 1)) = k by omega, show n + 1 + (j - (n + 1)) = j by omega]; exact hi) b (by rw [← hFgt j hnj]; exact hb)
    rw [hHgt (k + 1) (by omega), hHgt k hk, show k + 1 - (n + 1) = (k - (n + 1)) + 1 by omega]; exact this
   ·obtain ⟨S, _, g1, g2⟩ := p7 (k - (n + 1)) (by omega) (by rw [show n + 1 + (k - (n + 1)) = k by omega]; exact hs)
    refine ⟨S, fun m hm hmk hq i hi hne => ?_, fun o' ho' => ?_⟩
    ·refine g1 (m - (n + 1)) (by omega) (by rw [show n + 1 + (m - (n + 1)) = m by omega]; exact hq) i (by rw [← hHgt m hm]; exact hi) ?_
     rw [hHgt (m + 1) (by omega), hHgt m hm, show m + 1 - (n + 1) = (m - (n + 1)) + 1 by omega] at hne
     exact hne
    ·rw [hFgt k hk, hHgt k hk, hVgt k hk]
     exact g2 o' (by rw [show n + 1 + (k - (n + 1)) = k by omega]; exact ho')
  have hHs0 : Hs 0 = h := by simp only [Hs]; rw [if_pos (Nat.zero_le _)]; exact q2
  have hwf : (Hs 0).WF := by rw [hHs0]; exact hrel.wf
  have hfr0 : ∀ i, (Hs 0).next ≤ i → i < (Hs ops.size).next → r i = none := fun i hi _ => hfree i (by rw [← hHs0]; exact hi)
  have inv1 : Inv P ops ops.size F Hs V r w a.defers (fun m => listed.getD m false = true) r1 a1 w1 :=
   inv.shared (n := n) hlow (by simp only [F0, F]; rw [if_pos (Nat.zero_le _), if_pos (Nat.zero_le _)]) (fun k hk => by simp only [Hs0, Hs]; rw [if_pos hk, if_pos hk]) (fun k hk => by simp only [V0, V]; rw [if_pos hk, if_pos hk])
  have hDn : ¬ (listed.getD n false = true) := fun h => Nat.lt_irrefl _ (hlow n h)
  have turn := turn_of (P := P) hM hH hP (D := fun m => listed.getD m false = true) hcl ho hDn hready
  have hpp : Post r1 (Hs n) w1 r' (Hs (n + 1)) w' := by rw [hHn, hHn1]; exact hp
  have hb := behind_full hck hrun hwf rfl hfr0 inv1 hns ho turn hDn hclsn hpp
  have inv2 := inv_behind hrun rfl inv1 hns ho turn hDn hb (by rw [hVn]; exact hv)
  refine region_any hck hreg hrun (w0 := w) hwf hfr0 (ds := a.defers) (fun r3 a3 w3 g1 g2 g3 => ?_) fuel _ r' _ w' (by simp [hls]) (fun m _ hm => ?_) (fun m om hom hmm e he hb => ?_) ?_ (fun D hD => ?_)
  ·have hFe : F ops.size = fr3 := by rw [hFgt _ hns]; exact p3
   have hHe : Hs ops.size = h3 := by rw [hHgt _ hns]; exact p4
   rw [hFe] at g1
   rw [hHs0, hHe] at g3
   have hsz3 : a3.tmps.size = N := by rw [← k2.1]; simpa using g1.1.symm
   exact hQ r3 a3 w3 A3 h3 (fun t ht => by
    rw [k2.2 t (by rw [← hsz3]; exact ht)]
    exact opd_VR g1 g3.rel.glob (.tmp t)) hsz3 g2 g3 k3
  ·subst hm
   rw [← getD_both (by simp; omega), set_getD (by omega), if_pos rfl]
  ·by_cases hmn : n = m
   ·subst hmn
    rw [ho] at hom; cases hom
    exact getD_set_true (hready e he hb)
   ·rw [getD_set_ne false hmn] at hmm
    exact getD_set_true (hcl m om hom hmm e he hb)
  ·have := filter_lt (l := List.range ops.size) (p := fun i => !listed.getD i true) (p' := fun i => !(listed.setIfInBounds n true).getD i true) (x := n) (fun y hy => by
     by_cases hyj : n = y
     ·subst hyj; rw [hln]; rfl
     ·rw [getD_set_ne true hyj] at hy; exact hy) (List.mem_range.2 hns) (by rw [hln]; rfl) (by
     have h3 : n < listed.size := by omega
     simp [h3])
   omega
  ·have hDe : D = With (fun m => listed.getD m false = true) n := by
    funext m
    refine propext ((hD m).trans ?_)
    unfold With
    by_cases hmn : n = m
    ·subst hmn
     have h3 : n < listed.size := by omega
     simp [h3]
    ·rw [getD_set_ne false hmn]
     exact ⟨.inl, fun h => h.resolve_right fun e => hmn e.symm⟩
   rw [hDe]; exact inv2
 -- ahead of it, and it
 have main : ∀ (fuel : Nat) (listed : Array Bool) (r1 : Ren) (a1 : Act) (w1 : World), listed.size = ops.size → (∀ m o, ops[m]? = some o → listed.getD m false = true → ∀ e ∈ o.after, Region.binds .any e = true → listed.getD e.on false = true) → (∀ m, listed.getD m false = true → m < n) →
   ((List.range ops.size).filter fun i => !listed.getD i true).length ≤ fuel → Inv P ops ops.size F0 Hs0 V0 r w a.defers (fun m => listed.getD m false = true) r1 a1 w1 → wpAny P .any ops Q fuel listed a1 w1 := by
  intro fuel
  induction fuel with
  | zero =>
   intro listed r1 a1 w1 hls hcl hlow hfu inv
   exfalso
   have hln : listed.getD n true = false := by
    cases hl : listed.getD n true with
    | false => rfl
    | true => rw [getD_both (by omega)] at hl; exact absurd (hlow n hl) (Nat.lt_irrefl _)
   have hm : n ∈ (List.range ops.size).filter fun i => !listed.getD i true := List.mem_filter.2 ⟨List.mem_range.2 hns, by rw [hln]; rfl⟩
   have : (List.range ops.size).filter (fun i => !listed.getD i true) = [] := List.eq_nil_of_length_eq_zero (by omega)
   rw [this] at hm; cases hm
  | succ fuel ih =>
   intro listed r1 a1 w1 hls hcl hlow hfu inv
   have hln : listed.getD n true = false := by
    cases hl : listed.getD n true with
    | false => rfl
    | true => rw [getD_both (by omega)] at hl; exact absurd (hlow n hl) (Nat.lt_irrefl _)
   refine ⟨fun hr => ?_, fun j hj => ?_⟩
   ·have := none_ready ht hls hr n hns
    rw [this] at hln; cases hln
   obtain ⟨hjl, oj, hoj, hready⟩ := mem_ready.1 hj
   have hjs := (Array.getElem?_eq_some_iff.1 hoj).1
   have hDj : ¬ (listed.getD j false = true) := fun h => by
    have h3 : j < listed.size := by omega
    simp [h3] at h hjl; rw [h] at hjl; cases hjl
   have turn := turn_of (P := P) hM hH hP (D := fun m => listed.getD m false = true) hcl hoj hDj hready
   rcases Nat.lt_trichotomy j n with hlt | hjn | hgt
   ·refine inv_step hck run0 wf0 rfl free0 inv hjs hoj turn hDj (by omega) Q _ fun r' a' w' inv' _ _ _ => ih _ r' a' w' (by simp [hls]) (fun m o hom hmm e he hb => ?_) (fun m hm => ?_) ?_ ?_
    ·by_cases hmj : j = m
     ·subst hmj
      rw [hoj] at hom
      cases hom
      exact getD_set_true (hready e he hb)
     ·rw [getD_set_ne false hmj] at hmm
      exact getD_set_true (hcl m o hom hmm e he hb)
    ·by_cases hmj : j = m
     ·omega
     ·rw [getD_set_ne false hmj] at hm; exact hlow m hm
    ·have := filter_lt (l := List.range ops.size) (p := fun i => !listed.getD i true) (p' := fun i => !(listed.setIfInBounds j true).getD i true) (x := j) (fun y hy => by
       by_cases hyj : j = y
       ·subst hyj; rw [hjl]; rfl
       ·rw [getD_set_ne true hyj] at hy; exact hy) (List.mem_range.2 hjs) (by rw [hjl]; rfl) (by
       have h3 : j < listed.size := by omega
       simp [h3])
     omega
    ·have hDe : (fun m => (listed.setIfInBounds j true).getD m false = true) = With (fun m => listed.getD m false = true) j := by
      funext m
      refine propext ?_
      unfold With
      by_cases hmj : j = m
      ·subst hmj
       have h3 : j < listed.size := by omega
       simp [h3]
      ·rw [getD_set_ne false hmj]
       exact ⟨.inl, fun h => h.resolve_right fun e => hmj e.symm⟩
     rw [hDe]; exact inv'
   ·subst hjn
    rw [ho] at hoj; cases hoj
    have hρ := operands_at (Hs := Hs0) run0 rfl inv hjs ho turn hDj
    have hrel1 : Rel r1 h1 w1 := by
     have := rel_at hck run0 wf0 rfl free0 inv hjs ho turn hDj hclsn
     rwa [hH0n] at this
    have hfree1 : ∀ i, h1.next ≤ i → r1 i = none := by
     intro i hi
     cases hr1 : r1 i with
     | none => rfl
     | some t =>
      cases hr0 : r i with
      | some t0 =>
       have h5 := hfree i (by
        have := Hs_mono hck run0 (Nat.zero_le j) (Nat.le_of_lt hjs)
        rw [hH00, hH0n] at this; omega)
       rw [h5] at hr0; cases hr0
      | none =>
       obtain ⟨k, hk, hDk, h3, h4⟩ := inv.dom i t hr1 hr0
       have hkn := hlow k hDk
       have := Hs_mono hck run0 (show k + 1 ≤ j from hkn) (Nat.le_of_lt hjs)
       rw [hH0n] at this; omega
    have hopd : opd (F0 j) = kopd N A1 := by rw [hF0n]; exact hA1.opd
    have hlook : ∀ x, (x ∈ o.op.operands ∨ ∃ t, x = .tmp t ∧ t ∈ o.looksAt ops) → VR r1 (kopd N A1 x) (a1.eval x) := by
     intro x hx
     have := hρ x
     have he : restrict ops o (F0 j) x = opd (F0 j) x := by
      cases x with
      | tmp t =>
       have ht : t ∈ o.looksAt ops := by
        rcases hx with hx | ⟨t', e, ht⟩
        ·exact List.mem_append_left _ (List.mem_filterMap.2 ⟨.tmp t, by simpa using hx, rfl⟩)
        ·cases e; exact ht
       simp [restrict, ht, opd]
      | _ => rfl
     rw [he, hopd] at this
     exact this
    -- whether it is wanted
    have hw : Region.wanted o (yielded ops a1.tmps) = b := wanted_sim hwant fun t ht => hlook _ (.inr ⟨t, rfl, by
     obtain ⟨g, b', h5, h6⟩ := ht
     exact List.mem_append_right _ (by simp [h5, h6])⟩)
    unfold wpOp
    simp only [ho]
    rw [hw]
    cases b with
    | false =>
     simp only [Bool.false_eq_true, if_false] at e3 ⊢
     exact after fuel listed r1 r1 a1 w1 w1 (.tup []) undef h1 hls hln hcl hready hlow hfu inv (VR_tup (vs := []) .nil) (Post.refl hrel1) e3
    | true =>
     simp only [if_true] at e3 ⊢
     refine .inl ?_
     unfold evOperR at e3
     rw [hop] at e3
     simp only [hcal, kopd, hisR, List.nil_append, List.append_nil] at e3
     have hargs : VRL r1 (c.args.toList.map (kopd N A1)) (c.args.map a1.eval).toList := by
      rw [Array.toList_map]
      exact VRL.map _ _ _ fun x hx => hlook x (.inl (by rw [hop]; simp only [Op.operands, Call.operands, hcal]; simp; right; simpa using hx))
     obtain ⟨fn, hfn, hbody, hname⟩ := hcr.there _ hisR
     have hsim := hcr.sim f _ h1 _ r1 w1 _ hisR e3 hrel1 hfree1 hargs
     unfold Oper.wp
     have hr : (execOp a1.eval o).run P w1 = .ok (.enter f (c.args.map a1.eval)) w1 := by
      have hn1 : ¬ fn.name = "runtime.NumGoroutine" := by simpa using hname
      have hb1 : ¬ fn.body = none := fun e => by rw [e] at hbody; cases hbody
      simp [execOp, hop, resolve, hcal, Act.eval, Deferred.ofValue, invoke, callFunc, hfn, hb1, hn1]
     rw [hr, Oper.upon_enter]
     refine hsim.mono fun e w' he => ?_
     obtain ⟨r', v, v', h', rfl, hv', hp, hk⟩ := he
     exact after fuel listed r1 r' a1 w1 w' v v' h' hls hln hcl hready hlow hfu inv hv' hp (stepK_some hk)
   ·exfalso
    have hb := (hwait j hgt hjs).1
    exact absurd (hlow n (bits_ready hM hcl hoj hready n hgt hb)) (Nat.lt_irrefl _)
 refine main ops.size _ r a w (by simp) (fun m o _ hm => by rw [getD_rep] at hm; cases hm) (fun m hm => by rw [getD_rep] at hm; cases hm) ?_ ?_
 ·have := List.length_filter_le (fun i => !(Array.replicate ops.size false).getD i true) (List.range ops.size)
  simpa using this
 ·have hno : ∀ m, ¬ ((Array.replicate ops.size false).getD m false = true) := fun m h => by rw [getD_rep] at h; cases h
  have hcont : ∀ i, contD ops.size Hs0 (fun m => (Array.replicate ops.size false).getD m false = true) i = (Hs0 0).get i := fun i => contD_agree (Nat.zero_le _) fun m _ _ => ⟨fun h => absurd h (hno m), fun h => by omega⟩
  have hF00 : F0 0 = (List.range N).map (look A) := by simp only [F0]; rw [if_pos (Nat.zero_le _)]; exact q1
  refine ⟨Ren.le_refl _, (fun i t h1 h2 => by rw [h1] at h2; cases h2), by rw [hF00]; simpa using hsz, fun t ht => ?_, fun i t o h1 h2 => ?_, fun i k ti tk oi ok h1 h2 h3 h4 => ?_, hrel.bound, fun _ _ _ => rfl, Nat.le_refl _, .refl _, (fun i t h1 h2 => by rw [h1] at h2; cases h2), fun m _ h => absurd h (hno m), fun m _ h => absurd h (hno m), rfl, hrel.glob⟩
  ·rw [slotD_agree run0 ht (Nat.zero_le _) fun m _ _ => ⟨fun h => absurd h (hno m), fun h => by omega⟩, hF00]
   exact opd_VR hfr' hrel.glob (.tmp t)
  ·rw [hcont, hH00] at h2
   exact hrel.obj i t o h1 h2
  ·rw [hcont, hH00] at h3 h4
   exact hrel.inj i k ti tk oi ok h1 h2 h3 h4
end
def idxE : List Nat → Nat → Nat
 | [], _ => 0
 | x :: l, j => match Nat.beq x j with | true => 0 | false => idxE l j + 1
def piE (ops : Array Oper) (n : Nat) : List Nat := ((List.range ops.size).filter fun i => !(Nat.beq i n) && !((masks ops i).testBit n)) ++ n :: ((List.range ops.size).filter fun i => (masks ops i).testBit n)
def permE (π : List Nat) (ops : Array Oper) : Array Oper := (π.map fun i => match ops[i]? with | some o => renO (idxE π) o | none => ⟨none, .move (.tmp 0), 0, "", #[], none⟩).toArray
def okPi (N : Nat) (π : List Nat) : Bool :=
 Nat.beq π.length N && ((List.range N).all fun j => Nat.blt (idxE π j) N && (match π[idxE π j]? with | some i => Nat.beq i j | none => false)) && ((List.range N).all fun i => match π[i]? with | some j => Nat.blt j N && Nat.beq (idxE π j) i | none => false)
def okPermE (P : Program) (cr : CR) (ops : Array Oper) (n : Nat) : Bool := okPi ops.size (piE ops n) && okM ops (masks ops) && okGuards ops && okE P cr (permE (piE ops n) ops) (idxE (piE ops n) n)
theorem moved_of {ops : Array Oper} {π : List Nat} (hp : okPi ops.size π = true) (hM : okM ops (masks ops) = true) (hg : okGuards ops = true) : Moved ops (permE π ops) (idxE π) := by
 simp only [okPi, Bool.and_eq_true] at hp
 obtain ⟨⟨h1, h2⟩, h3⟩ := hp
 have hl : π.length = ops.size := Nat.eq_of_beq_eq_true h1
 have hσ : ∀ j, j < ops.size → idxE π j < ops.size ∧ π[idxE π j]? = some j := fun j hj => by
  have := List.all_eq_true.1 h2 j (List.mem_range.2 hj)
  simp only [Bool.and_eq_true] at this
  refine ⟨of_blt this.1, ?_⟩
  have h := this.2
  split at h
  ·rename_i i hi; rw [hi, Nat.eq_of_beq_eq_true h]
  ·cases h
 refine ⟨by simp [permE, hl], fun j hj => (hσ j hj).1, fun i j hi hj e => ?_, fun i hi => ?_, fun j o ho => ?_, fun j o ho e he hb => ?_, fun j o g b ho hgd => ?_⟩
 ·have := (hσ i hi).2
  rw [e, (hσ j hj).2] at this
  exact (Option.some.inj this).symm
 ·have := List.all_eq_true.1 h3 i (List.mem_range.2 hi)
  split at this
  ·rename_i j hj
   simp only [Bool.and_eq_true] at this
   exact ⟨j, of_blt this.1, Nat.eq_of_beq_eq_true this.2⟩
  ·cases this
 ·have hj := (Array.getElem?_eq_some_iff.1 ho).1
  simp only [permE, List.getElem?_toArray, List.getElem?_map, (hσ j hj).2, Option.map_some, ho]
 ·have hj := (Array.getElem?_eq_some_iff.1 ho).1
  have := (okM_spec hM ho).1 e he hb
  omega
 ·have hj := (Array.getElem?_eq_some_iff.1 ho).1
  have := List.all_eq_true.1 hg j (List.mem_range.2 hj)
  rw [ho] at this
  simp only [hgd, decide_eq_true_eq] at this
  omega
theorem DenG.regionE {P : Program} (hm : P.follows .mixedOrders = true) {ck : CK} (hck : ck.call.Sound P) {cr : CR} (hcr : cr.Sound P) {N id n : Nat} {ops : Array Oper} (hok : okE P cr ops n = true) : DenG true P N (.region id ops true) (fun A h kn _ _ => regE P ck cr N ops n A h kn) := by
 refine ⟨fun A h kn ke kr x e => ?_, fun r a w A h kn ke kr x B e hfr hsz hrel hfree hB Q hQ => ?_⟩
 ·cases x
  obtain ⟨A', h', h1, h2, h3⟩ := regE_ends hck hcr e
  exact ⟨.normal, A', h', h1, h2, h3⟩
 ·cases x
  have hw0 : Post r h w r h { w with drawn := w.drawn + 1 } := Post.same hrel rfl ⟨rfl, rfl, rfl, fun _ => Nat.le_succ _⟩
  refine wp_region_any hm ?_
  exact regE_any hck hcr hok e hfr hsz hw0.rel (fun i hi => hfree i hi (B.all rfl i)) fun r' a' w' A' h' q1 q2 q3 q4 q5 => hQ r' a' w' A' h' .normal q1 q2 q3 (hw0.trans q4) q5
theorem DenG.regionPE {P : Program} (hm : P.follows .mixedOrders = true) {ck : CK} (hck : ck.call.Sound P) {cr : CR} (hcr : cr.Sound P) {N id n : Nat} {ops : Array Oper} (hok : okPermE P cr ops n = true) : DenG true P N (.region id ops true) (fun A h kn _ _ => regE P ck cr N (permE (piE ops n) ops) (idxE (piE ops n) n) A h kn) := by
 simp only [okPermE, Bool.and_eq_true] at hok
 obtain ⟨⟨⟨hp, hM⟩, hg⟩, hE⟩ := hok
 have hmv := moved_of hp hM hg
 refine ⟨fun A h kn ke kr x e => ?_, fun r a w A h kn ke kr x B e hfr hsz hrel hfree hB Q hQ => ?_⟩
 ·cases x
  obtain ⟨A', h', h1, h2, h3⟩ := regE_ends hck hcr e
  exact ⟨.normal, A', h', h1, h2, h3⟩
 ·cases x
  have hw0 : Post r h w r h { w with drawn := w.drawn + 1 } := Post.same hrel rfl ⟨rfl, rfl, rfl, fun _ => Nat.le_succ _⟩
  refine wp_region_any hm ?_
  have := regE_any hck hcr hE e hfr hsz hw0.rel (fun i hi => hfree i hi (B.all rfl i)) (Q := Q) fun r' a' w' A' h' q1 q2 q3 q4 q5 => hQ r' a' w' A' h' .normal q1 q2 q3 (hw0.trans q4) q5
  rw [hmv.size] at this
  exact hmv.any _ _ _ _ _ (by simp) (by simp) (fun j hj => by have := hmv.lt j hj; simp [hj, this]) this
end Go.Ev
