/- The abstract machine Ev, part U: what a printed function comes to (Ret), what it leaves as it was (Mod), rows (Row), rows that grow (Grow), maps. -/
import Derived.Test.YtkikfnpanlcajaaDoorEvT
import Derived.Laws.Strings
set_option linter.all false
namespace Go.Ev

/-! ### what comes of it -/

section
variable {α β : Type}

def Ret (c : Option (α × H)) (Q : α → H → Prop) : Prop := ∃ r h', c = some (r, h') ∧ Q r h'

theorem Ret.pure {r : α} {h : H} {Q : α → H → Prop} (q : Q r h) : Ret (some (r, h)) Q := ⟨r, h, rfl, q⟩
theorem Ret.bind {c : Option (α × H)} {P : α → H → Prop} {f : α × H → Option (β × H)} {Q : β → H → Prop} (hc : Ret c P) (hf : ∀ r h, P r h → Ret (f (r, h)) Q) : Ret (c.bind f) Q := by
  obtain ⟨r, h, rfl, p⟩ := hc
  exact hf r h p
theorem Ret.mono {c : Option (α × H)} {P Q : α → H → Prop} (hc : Ret c P) (hf : ∀ r h, P r h → Q r h) : Ret c Q := by
  obtain ⟨r, h, e, p⟩ := hc
  exact ⟨r, h, e, hf r h p⟩
theorem Ret.of_eq {c c' : Option (α × H)} {Q : α → H → Prop} (e : c = c') (hc : Ret c' Q) : Ret c Q := e ▸ hc
end

/-! ### what is left as it was -/

structure Mod (S : List Nat) (h h' : H) : Prop where
  next : h.next ≤ h'.next
  get : ∀ i, i < h.next → i ∉ S → h'.get i = h.get i

theorem Mod.refl (S : List Nat) (h : H) : Mod S h h := ⟨Nat.le_refl _, fun _ _ _ => rfl⟩
theorem Mod.trans {S : List Nat} {a b c : H} (p : Mod S a b) (q : Mod S b c) : Mod S a c := ⟨Nat.le_trans p.next q.next, fun i hi hS => (q.get i (Nat.lt_of_lt_of_le hi p.next) hS).trans (p.get i hi hS)⟩
theorem Mod.trans' {S T : List Nat} {a b c : H} (p : Mod S a b) (q : Mod T b c) (ht : ∀ i ∈ T, i < a.next → i ∈ S) : Mod S a c :=
  ⟨Nat.le_trans p.next q.next, fun i hi hS => (q.get i (Nat.lt_of_lt_of_le hi p.next) fun h => hS (ht i h hi)).trans (p.get i hi hS)⟩
theorem Mod.sub {S T : List Nat} {a b : H} (p : Mod T a b) (ht : ∀ i ∈ T, i < a.next → i ∈ S) : Mod S a b := ⟨p.next, fun i hi hS => p.get i hi fun h => hS (ht i h hi)⟩
theorem Mod.of_nil {S : List Nat} {a b : H} (p : Mod [] a b) : Mod S a b := p.sub fun i h => by cases h
theorem Mod.new {S : List Nat} {a h : H} (q : Mod S a h) (o : AObj) : Mod S a (h.new o) := ⟨Nat.le_trans q.next (Nat.le_succ _), fun i hi hS => (get_new_lt (Nat.lt_of_lt_of_le hi q.next)).trans (q.get i hi hS)⟩
theorem Mod.set {S : List Nat} {a h : H} (q : Mod S a h) {b : Nat} (hb : a.next ≤ b ∨ b ∈ S) (o : AObj) : Mod S a (h.set b o) :=
  ⟨q.next, fun i hi hS => (get_set_ne fun e => by subst e; exact hb.elim (fun h => Nat.lt_irrefl _ (Nat.lt_of_lt_of_le hi h)) hS).trans (q.get i hi hS)⟩
theorem get_kill_ne {h : H} {i j : Nat} (hi : j ≠ i) : (h.kill i).get j = h.get j := by simp only [H.kill]; rw [if_neg hi]
@[simp] theorem next_kill (h : H) (i : Nat) : (h.kill i).next = h.next := rfl
theorem Mod.kill {S : List Nat} {a h : H} (q : Mod S a h) {b : Nat} (hb : a.next ≤ b ∨ b ∈ S) : Mod S a (h.kill b) :=
  ⟨q.next, fun i hi hS => (get_kill_ne fun e => by subst e; exact hb.elim (fun h => Nat.lt_irrefl _ (Nat.lt_of_lt_of_le hi h)) hS).trans (q.get i hi hS)⟩
theorem Mod.lt {S : List Nat} {a b : H} (m : Mod S a b) {i : Nat} (h : i < a.next) : i < b.next := Nat.lt_of_lt_of_le h m.next
theorem Mod.quiet {a b : H} (m : Mod [] a b) : Quiet a b := ⟨m.next, fun i h => m.get i h (by simp)⟩
theorem Quiet.mod {a b : H} (m : Quiet a b) (S : List Nat) : Mod S a b := ⟨m.next, fun i h _ => m.get i h⟩
theorem sameK_mod {β : Type} {h h' : H} {S : List Nat} (q : Mod S h h') {b : Nat} (hb : b < h.next) (hS : b ∉ S) (x : Option β) : sameK h h' (some b) x = x := sameK_of (q.get b hb hS) x

theorem get_new_eq {h : H} {o : AObj} {i : Nat} (hi : i = h.next) : (h.new o).get i = some o := by subst hi; exact get_new_self h o
theorem lt_s {a b : Nat} (h : a < b) : a < b + 1 := Nat.lt_succ_of_lt h

def own (p : Option (Nat × Nat)) : List Nat := match p with | some (b, _) => [b] | none => []
@[simp] theorem own_none : own none = [] := rfl
@[simp] theorem own_some (b o : Nat) : own (some (b, o)) = [b] := rfl

/-! ### numbers -/

theorem wrap_i64 {x : Int} (h0 : -9223372036854775808 ≤ x) (h1 : x < 9223372036854775808) : IntKind.i64.wrap x = x := by
  simp only [IntKind.wrap, IntKind.bits, IntKind.signed]
  simp; split <;> omega
theorem wrap_u64 {x : Int} (h0 : 0 ≤ x) (h1 : x < 18446744073709551616) : IntKind.u64.wrap x = x := by
  simp only [IntKind.wrap, IntKind.bits, IntKind.signed]
  simp; omega
theorem wrap_u8 {x : Int} (h0 : 0 ≤ x) (h1 : x < 256) : IntKind.u8.wrap x = x := by
  simp only [IntKind.wrap, IntKind.bits, IntKind.signed]
  simp; omega
theorem wrap_succ {k : Nat} (h : k < 9223372036854775807) : IntKind.i64.wrap ((k : Int) + 1) = ((k + 1 : Nat) : Int) := by
  rw [wrap_i64 (by omega) (by omega)]; rfl
theorem cast_lt {a b : Nat} (h : a < b) : decide ((a : Int) < (b : Int)) = true := by simp; omega
theorem cast_not_lt {a b : Nat} (h : b ≤ a) : decide ((a : Int) < (b : Int)) = false := by simp; omega

theorem lit_i64 {x : Int} (h : (Lit.int .i64 x).wf = true) : -9223372036854775808 ≤ x ∧ x < 9223372036854775808 := by
  simp [Lit.wf, IntKind.min, IntKind.max, IntKind.signed, IntKind.bits] at h
  omega
theorem lit_u64 {x : Int} (h : (Lit.int .u64 x).wf = true) : 0 ≤ x ∧ x < 18446744073709551616 := by
  simp [Lit.wf, IntKind.min, IntKind.max, IntKind.signed, IntKind.bits] at h
  omega
theorem lit_u8 {x : Int} (h : (Lit.int .u8 x).wf = true) : 0 ≤ x ∧ x < 256 := by
  simp [Lit.wf, IntKind.min, IntKind.max, IntKind.signed, IntKind.bits] at h
  omega

/-! ### rows -/

section
variable {α β : Type}

theorem length_flat {enc : α → List AV} {s : Nat} (hs : ∀ x, (enc x).length = s) : ∀ xs : List α, (xs.flatMap enc).length = xs.length * s
  | [] => by simp
  | x :: xs => by rw [List.flatMap_cons, List.length_append, length_flat hs xs, hs, List.length_cons, Nat.add_mul]; omega

theorem drop_flat {enc : α → List AV} {s : Nat} (hs : ∀ x, (enc x).length = s) : ∀ (xs : List α) (k : Nat), (xs.flatMap enc).drop (k * s) = (xs.drop k).flatMap enc
  | xs, 0 => by simp
  | [], k + 1 => by simp
  | x :: xs, k + 1 => by
    rw [List.flatMap_cons, List.drop_succ_cons, ← drop_flat hs xs k, Nat.add_mul, Nat.one_mul, Nat.add_comm, ← List.drop_drop, ← hs x, List.drop_left]

theorem take_flat {enc : α → List AV} {s : Nat} (hs : ∀ x, (enc x).length = s) : ∀ (xs : List α) (k : Nat), (xs.flatMap enc).take (k * s) = (xs.take k).flatMap enc
  | xs, 0 => by simp
  | [], k + 1 => by simp
  | x :: xs, k + 1 => by
    rw [List.flatMap_cons, List.take_succ_cons, List.flatMap_cons, ← take_flat hs xs k, Nat.add_mul, Nat.one_mul, Nat.add_comm, ← hs x, List.take_length_add_append]

theorem flat_at {enc : α → List AV} {s : Nat} (hs : ∀ x, (enc x).length = s) {xs : List α} {k : Nat} {x : α} (hx : xs[k]? = some x) : ((xs.flatMap enc).drop (k * s)).take s = enc x := by
  rw [drop_flat hs]
  obtain ⟨h, rfl⟩ := List.getElem?_eq_some_iff.1 hx
  rw [List.drop_eq_getElem_cons h, List.flatMap_cons, ← hs xs[k], List.take_left]

theorem flat_get {enc : α → List AV} {s : Nat} (hs : ∀ x, (enc x).length = s) {xs : List α} {k : Nat} {x : α} (hx : xs[k]? = some x) {j : Nat} (hj : j < s) : (xs.flatMap enc)[k * s + j]? = (enc x)[j]? := by
  rw [← flat_at hs hx, List.getElem?_take, if_pos hj, List.getElem?_drop]
end

inductive Row (h : H) (size : Nat) : Option (Nat × Nat) → Nat → Cap → List AV → Prop
  | nil : Row h size none 0 (.known 0) []
  | row {b o len : Nat} {c : Cap} {cs : List AV} {ro : Bool} {vs : List AV} (hb : b < h.next) (hg : h.get b = some (.cells cs ro)) (hv : (cs.drop o).take (len * size) = vs) (hl : o + len * size ≤ cs.length) (hc : c = .rest size ∨ ∃ k, c = .known k ∧ len ≤ k) : Row h size (some (b, o)) len c vs

theorem Row.length {h : H} {size : Nat} {p : Option (Nat × Nat)} {len : Nat} {c : Cap} {vs : List AV} (s : Row h size p len c vs) : vs.length = len * size := by
  cases s with
  | nil => simp
  | row hb hg hv hl hc => subst hv; simp; omega

theorem Row.mod {h h' : H} {S : List Nat} {size : Nat} {p : Option (Nat × Nat)} {len : Nat} {c : Cap} {vs : List AV} (s : Row h size p len c vs) (m : Mod S h h') (hS : ∀ b ∈ own p, b ∉ S) : Row h' size p len c vs := by
  cases s with
  | nil => exact .nil
  | row hb hg hv hl hc => exact .row (m.lt hb) ((m.get _ hb (hS _ (by simp))).trans hg) hv hl hc
theorem Row.mod0 {h h' : H} {size : Nat} {p : Option (Nat × Nat)} {len : Nat} {c : Cap} {vs : List AV} (s : Row h size p len c vs) (m : Mod [] h h') : Row h' size p len c vs := s.mod m fun b _ => by simp
theorem Row.lt {h : H} {size : Nat} {p : Option (Nat × Nat)} {len : Nat} {c : Cap} {vs : List AV} (s : Row h size p len c vs) : ∀ b ∈ own p, b < h.next := by
  cases s with
  | nil => simp
  | row hb hg hv hl hc => simpa using hb
theorem Row.sl {h : H} {size : Nat} {p : Option (Nat × Nat)} {len : Nat} {c : Cap} {vs : List AV} (s : Row h size p len c vs) : SL h size p len c vs := by
  cases s with
  | nil => exact .nil
  | row hb hg hv hl hc => exact .row hg hv hl hc
theorem Row.of_sl {h : H} {size : Nat} {p : Option (Nat × Nat)} {len : Nat} {c : Cap} {vs : List AV} (s : SL h size p len c vs) (hw : h.WF) : Row h size p len c vs := by
  cases s with
  | nil => exact .nil
  | row hg hv hl hc => exact .row (hw _ _ hg) hg hv hl hc

section
variable {α β : Type}

theorem Row.at1 {h : H} {size : Nat} {p : Option (Nat × Nat)} {len : Nat} {c : Cap} {vs : List AV} (s : Row h size p len c vs) {i : Nat} {v : AV} (hv : vs[i]? = some v) (f : AV → Option β) :
    (nnK p fun b o => cellK h b (o + i) f) = f v := by
  cases s with
  | nil => simp at hv
  | row hb hg hvs hl hc =>
    subst hvs
    have hk : i < len * size := by have := (List.getElem?_eq_some_iff.1 hv).1; simp at this; omega
    rw [List.getElem?_take, if_pos (by omega), List.getElem?_drop] at hv
    exact cellK_of hg hv f
theorem Row.at2 {h : H} {size : Nat} {p : Option (Nat × Nat)} {len : Nat} {c : Cap} {vs : List AV} (s : Row h size p len c vs) {i j : Nat} {v : AV} (hv : vs[i + j]? = some v) (f : AV → Option β) :
    (nnK p fun b o => cellK h b (o + i + j) f) = f v := by
  have := s.at1 hv f
  simpa [Nat.add_assoc] using this

theorem Row.agg {enc : α → List AV} {h : H} {size : Nat} {p : Option (Nat × Nat)} {len : Nat} {c : Cap} {xs : List α} (s : Row h size p len c (xs.flatMap enc)) (hs : ∀ x, (enc x).length = size) (h0 : 0 < size) {k : Nat} {x : α} (hx : xs[k]? = some x) (f : List AV → Option β) :
    (nnK p fun b o => aggK h b (o + k * size) size f) = f (enc x) := by
  have hlen := s.length
  rw [length_flat hs] at hlen
  have hf := flat_at hs hx
  obtain ⟨hk, _⟩ := List.getElem?_eq_some_iff.1 hx
  have h1 : (k + 1) * size ≤ xs.length * size := Nat.mul_le_mul_right _ hk
  rw [Nat.add_mul, Nat.one_mul] at h1
  generalize xs.flatMap enc = vs at s hf
  cases s with
  | nil => omega
  | row hb hg hv hl hc =>
    rename_i b o cs ro
    show aggK h b (o + k * size) size f = f (enc x)
    rw [aggK_of hg (by omega), ← hf, ← hv]
    congr 1
    rw [List.drop_take, List.drop_drop, List.take_take, Nat.min_eq_left (by omega)]

/-- the index is tested, and the element taken -/
theorem Row.ix {enc : α → List AV} {h : H} {size : Nat} {p : Option (Nat × Nat)} {len : Nat} {c : Cap} {xs : List α} (s : Row h size p len c (xs.flatMap enc)) (hs : ∀ x, (enc x).length = size) (h0 : 0 < size) {k : Nat} {x : α} (hx : xs[k]? = some x) (f : List AV → Option β) :
    (if 0 ≤ (k : Int) ∧ (k : Int) < (Nat.cast len : Int) then nnK p fun b o => aggK h b (o + (k : Int).toNat * size) size f else none) = f (enc x) := by
  have hlen := s.length
  rw [length_flat hs] at hlen
  have := Nat.eq_of_mul_eq_mul_right h0 hlen
  have hk := (List.getElem?_eq_some_iff.1 hx).1
  rw [if_pos ⟨by omega, by omega⟩]
  exact s.agg hs h0 hx f
theorem Row.len {enc : α → List AV} {h : H} {size : Nat} {p : Option (Nat × Nat)} {len : Nat} {c : Cap} {xs : List α} (s : Row h size p len c (xs.flatMap enc)) (hs : ∀ x, (enc x).length = size) (h0 : 0 < size) : xs.length = len := by
  have hlen := s.length
  rw [length_flat hs] at hlen
  exact Nat.eq_of_mul_eq_mul_right h0 hlen
theorem Row.ix2 {enc : α → List AV} {h : H} {size : Nat} {p : Option (Nat × Nat)} {len : Nat} {c : Cap} {xs : List α} (s : Row h size p len c (xs.flatMap enc)) (hs : ∀ x, (enc x).length = size) {k : Nat} {x : α} (hx : xs[k]? = some x) (j : Nat) {v : AV} (hj : (enc x)[j]? = some v) (f : AV → Option β) :
    (if 0 ≤ (k : Int) ∧ (k : Int) < (Nat.cast len : Int) then nnK p fun b o => cellK h b (o + (k : Int).toNat * size + j) f else none) = f v := by
  have hj' : j < size := by have := (List.getElem?_eq_some_iff.1 hj).1; rw [hs] at this; exact this
  have hlen := s.len hs (by omega)
  have hk := (List.getElem?_eq_some_iff.1 hx).1
  rw [if_pos ⟨by omega, by omega⟩]
  exact s.at2 (i := k * size) (by rw [flat_get hs hx hj', hj]) f
theorem Row.ix20 {enc : α → List AV} {h : H} {size : Nat} {p : Option (Nat × Nat)} {len : Nat} {c : Cap} {xs : List α} (s : Row h size p len c (xs.flatMap enc)) (hs : ∀ x, (enc x).length = size) {k : Nat} {x : α} (hx : xs[k]? = some x) {v : AV} (hj : (enc x)[0]? = some v) (f : AV → Option β) :
    (if 0 ≤ (k : Int) ∧ (k : Int) < (Nat.cast len : Int) then nnK p fun b o => cellK h b (o + (k : Int).toNat * size) f else none) = f v := s.ix2 hs hx 0 hj f
/-- elements of one cell -/
theorem Row.len1 {enc : α → AV} {h : H} {p : Option (Nat × Nat)} {len : Nat} {c : Cap} {xs : List α} (s : Row h 1 p len c (xs.map enc)) : xs.length = len := by
  have := s.length; simpa using this
theorem Row.ix1 {enc : α → AV} {h : H} {p : Option (Nat × Nat)} {len : Nat} {c : Cap} {xs : List α} (s : Row h 1 p len c (xs.map enc)) {k : Nat} {x : α} (hx : xs[k]? = some x) (f : AV → Option β) :
    (if 0 ≤ (k : Int) ∧ (k : Int) < (Nat.cast len : Int) then nnK p fun b o => cellK h b (o + (k : Int).toNat) f else none) = f (enc x) := by
  have hlen := s.len1
  have hk := (List.getElem?_eq_some_iff.1 hx).1
  rw [if_pos ⟨by omega, by omega⟩]
  exact s.at1 (i := k) (by rw [List.getElem?_map, hx]; rfl) f

theorem Row.src {h : H} {size : Nat} {p : Option (Nat × Nat)} {len : Nat} {c : Cap} {vs : List AV} (s : Row h size p len c vs) : evSrc size (.slice p len c) h = some (len, vs) := by
  have hlen := s.length
  cases s with
  | nil => rfl
  | row hb hg hv hl hc =>
    by_cases h0 : len = 0
    · subst h0
      have : vs = [] := List.eq_nil_of_length_eq_zero (by rw [hlen]; simp)
      subst this
      simp [evSrc]
    · simp [evSrc, h0, hg, hl, hv]

theorem Row.upto {h : H} {size : Nat} {p : Option (Nat × Nat)} {len : Nat} {c : Cap} {vs : List AV} (s : Row h size p len c vs) {k : IntKind} {hi : Int} (h0 : 0 ≤ hi) (h1 : hi ≤ len) :
    ∃ p' c', Row h size p' hi.toNat c' (vs.take (hi.toNat * size)) ∧ own p' = own p ∧ ∀ f : Option (Nat × Nat) → Nat → Cap → Option β, slK size p len c none (some (.int k hi)) none f = f p' hi.toNat c' := by
  cases s with
  | nil =>
    obtain rfl : hi = 0 := by omega
    exact ⟨none, .known 0, by simpa using .nil, rfl, fun f => by simp [slK, evSliceS, evBounds, evBound]⟩
  | row hb hg hvs hl hc =>
    rename_i b o cs ro
    subst hvs
    have hmul : hi.toNat * size ≤ len * size := Nat.mul_le_mul_right _ (by omega)
    have ht : (List.take (len * size) (cs.drop o)).take (hi.toNat * size) = (cs.drop o).take (hi.toNat * size) := by rw [List.take_take, Nat.min_eq_left hmul]
    rcases hc with rfl | ⟨q, rfl, hq⟩
    · exact ⟨some (b, o), .rest size, .row hb hg ht.symm (by omega) (.inl rfl), rfl, fun f => by simp [slK, evSliceS, evBounds, evBound, h0, h1]⟩
    · refine ⟨some (b, o), .known q, .row hb hg ht.symm (by omega) (.inr ⟨q, rfl, by omega⟩), rfl, fun f => ?_⟩
      have h2 : hi ≤ q := by omega
      by_cases hq0 : q = 0
      · subst hq0
        obtain rfl : hi = 0 := by omega
        simp [slK, evSliceS, evBounds, evBound, hq]
      · simp [slK, evSliceS, evBounds, evBound, h0, h2, hq, hq0]

theorem Row.from {h : H} {size : Nat} {p : Option (Nat × Nat)} {len : Nat} {c : Cap} {vs : List AV} (s : Row h size p len c vs) {k : IntKind} {lo : Int} (h0 : 0 ≤ lo) (h1 : lo ≤ len) :
    ∃ p' c', Row h size p' (len - lo.toNat) c' (vs.drop (lo.toNat * size)) ∧ own p' = own p ∧ ∀ f : Option (Nat × Nat) → Nat → Cap → Option β, slK size p len c (some (.int k lo)) none none f = f p' (len - lo.toNat) c' := by
  cases s with
  | nil =>
    obtain rfl : lo = 0 := by omega
    exact ⟨none, .known 0, by simpa using .nil, rfl, fun f => by simp [slK, evSliceS, evBounds, evBound]⟩
  | row hb hg hvs hl hc =>
    rename_i b o cs ro
    subst hvs
    have hadd : lo.toNat * size + (len - lo.toNat) * size = len * size := by rw [← Nat.add_mul]; congr 1; omega
    have ht : ((cs.drop o).take (len * size)).drop (lo.toNat * size) = (cs.drop (o + lo.toNat * size)).take ((len - lo.toNat) * size) := by
      rw [List.drop_take, List.drop_drop]; congr 1; omega
    rcases hc with rfl | ⟨q, rfl, hq⟩
    · exact ⟨some (b, o + lo.toNat * size), .rest size, .row hb hg ht.symm (by omega) (.inl rfl), rfl, fun f => by simp [slK, evSliceS, evBounds, evBound, h0, h1]⟩
    · by_cases hql : q = lo.toNat
      · refine ⟨some (b, o), .known (q - lo.toNat), ?_, rfl, fun f => by
          have h2 : (len : Int) ≤ lo := by omega
          simp [slK, evSliceS, evBounds, evBound, h0, h1, hq, hql, h2]⟩
        have : len - lo.toNat = 0 := by omega
        rw [this] at ht ⊢
        exact .row hb hg (by rw [ht]; simp) (by omega) (.inr ⟨_, rfl, by omega⟩)
      · exact ⟨some (b, o + lo.toNat * size), .known (q - lo.toNat), .row hb hg ht.symm (by omega) (.inr ⟨_, rfl, by omega⟩), rfl, fun f => by simp [slK, evSliceS, evBounds, evBound, h0, h1, hq, hql]⟩

/-! ### rows that grow -/

structure Grow (a h : H) (size : Nat) (p : Option (Nat × Nat)) (len : Nat) (c : Cap) (vs : List AV) : Prop where
  look : (p = none ∧ len = 0 ∧ c = .known 0 ∧ vs = []) ∨ ∃ b, p = some (b, 0) ∧ a.next ≤ b ∧ b < h.next ∧ h.get b = some (.cells vs false) ∧ vs.length = len * size ∧ (c = .rest size ∨ c = .known len)

theorem Grow.nil {a h : H} {size : Nat} : Grow a h size none 0 (.known 0) [] := ⟨.inl ⟨rfl, rfl, rfl, rfl⟩⟩
theorem Grow.row {a h : H} {size : Nat} {p : Option (Nat × Nat)} {len : Nat} {c : Cap} {vs : List AV} (g : Grow a h size p len c vs) : Row h size p len c vs := by
  rcases g.look with ⟨rfl, rfl, rfl, rfl⟩ | ⟨b, rfl, h1, h2, h3, h4, h5⟩
  · exact .nil
  · exact .row h2 h3 (by rw [List.drop_zero, ← h4, List.take_length]) (by omega) (h5.elim .inl fun h => .inr ⟨_, h, Nat.le_refl _⟩)
theorem Grow.own_ge {a h : H} {size : Nat} {p : Option (Nat × Nat)} {len : Nat} {c : Cap} {vs : List AV} (g : Grow a h size p len c vs) : ∀ b ∈ own p, a.next ≤ b ∧ b < h.next := by
  rcases g.look with ⟨rfl, rfl, rfl, rfl⟩ | ⟨b, rfl, h1, h2, h3, h4, h5⟩
  · simp
  · simp [h1, h2]
theorem Grow.mod {a h h' : H} {S : List Nat} {size : Nat} {p : Option (Nat × Nat)} {len : Nat} {c : Cap} {vs : List AV} (g : Grow a h size p len c vs) (m : Mod S h h') (hS : ∀ b ∈ own p, b ∉ S) : Grow a h' size p len c vs := by
  rcases g.look with h0 | ⟨b, rfl, h1, h2, h3, h4, h5⟩
  · exact ⟨.inl h0⟩
  · exact ⟨.inr ⟨b, rfl, h1, m.lt h2, (m.get _ h2 (hS _ (by simp))).trans h3, h4, h5⟩⟩
theorem Grow.mod0 {a h h' : H} {size : Nat} {p : Option (Nat × Nat)} {len : Nat} {c : Cap} {vs : List AV} (g : Grow a h size p len c vs) (m : Mod [] h h') : Grow a h' size p len c vs := g.mod m fun b _ => by simp
theorem Grow.base {a a' h : H} {size : Nat} {p : Option (Nat × Nat)} {len : Nat} {c : Cap} {vs : List AV} (g : Grow a h size p len c vs) (ha : a'.next ≤ a.next) : Grow a' h size p len c vs := by
  rcases g.look with h0 | ⟨b, rfl, h1, h2⟩
  · exact ⟨.inl h0⟩
  · exact ⟨.inr ⟨b, rfl, Nat.le_trans ha h1, h2⟩⟩
theorem Grow.fresh {a h : H} (ha : a.next ≤ h.next) {size len : Nat} {vs : List AV} (hl : vs.length = len * size) {c : Cap} (hc : c = .rest size ∨ c = .known len) : Grow a (h.new (.cells vs false)) size (some (h.next, 0)) len c vs :=
  ⟨.inr ⟨h.next, rfl, ha, Nat.lt_succ_self _, get_new_self _ _, hl, hc⟩⟩

theorem Grow.app {a h : H} {size bytes : Nat} {p : Option (Nat × Nat)} {len : Nat} {c : Cap} {vs : List AV} (g : Grow a h size p len c vs) (ha : a.next ≤ h.next) {src : Option (Nat × List AV)} {n : Nat} {news : List AV} (hs : src = some (n, news)) (hn : news.length = n * size) (hcell : news.all isCell = true)
    (hb : (len + n) * bytes ≤ 140737488355328) (h63 : len + n ≤ 9223372036854775807) (hz : n = 0 → news = []) :
    ∃ p' c' h', (∀ f : Option (Nat × Nat) → Nat → Cap → H → Option β, appK size bytes p len c src h f = f p' (len + n) c' h') ∧ Grow a h' size p' (len + n) c' (vs ++ news) ∧ Mod (own p) h h' := by
  subst hs
  by_cases h0 : n = 0
  · subst h0
    obtain rfl := hz rfl
    rw [List.append_nil]
    rcases g.look with ⟨rfl, rfl, rfl, rfl⟩ | ⟨b, rfl, h1, h2, h3, h4, h5⟩
    · exact ⟨none, .known 0, h, fun f => rfl, .nil, Mod.refl _ _⟩
    · refine ⟨some (b, 0), c, h, fun f => ?_, g, Mod.refl _ _⟩
      rcases h5 with rfl | rfl
      · simp [appK, evApp]
      · simp [appK, evApp]
  · rcases g.look with ⟨rfl, rfl, rfl, rfl⟩ | ⟨b, rfl, h1, h2, h3, h4, h5⟩
    · refine ⟨some (h.next, 0), .rest size, h.new (.cells news false), fun f => ?_, ?_, (Mod.refl _ _).new _⟩
      · simp only [appK, evApp]
        rw [if_neg h0, if_pos ⟨by simpa using hb, by omega⟩, Nat.zero_add]
      · rw [List.nil_append]
        exact Grow.fresh ha (by rw [Nat.zero_add, hn]) (.inl rfl)
    · rcases h5 with rfl | rfl
      · refine ⟨some (h.next, 0), .rest size, (h.kill b).new (.cells (vs ++ news) false), fun f => ?_, ?_, ((Mod.refl _ _).kill (.inr (by simp))).new _⟩
        · simp only [appK, evApp]
          rw [if_neg h0, if_pos ⟨trivial, hb, h63⟩, h3]
          simp only [Nat.zero_add]
          rw [if_pos ⟨h4.symm, hcell⟩, List.drop_zero]
        · exact Grow.fresh (h := h.kill b) ha (by rw [List.length_append, h4, hn, Nat.add_mul]) (.inl rfl)
      · refine ⟨some (h.next, 0), .rest size, h.new (.cells (vs ++ news) false), fun f => ?_, ?_, (Mod.refl _ _).new _⟩
        · simp only [appK, evApp]
          rw [if_neg (show ¬ len + n ≤ len by omega), if_pos ⟨hb, h63⟩, h3]
          simp only [Nat.zero_add]
          rw [if_pos (Nat.le_of_eq h4.symm), List.drop_zero, ← h4, List.take_length]
        · exact Grow.fresh ha (by rw [List.length_append, h4, hn, Nat.add_mul]) (.inl rfl)

theorem Grow.ret {a h : H} {size bytes : Nat} {p : Option (Nat × Nat)} {len : Nat} {c : Cap} {vs : List AV} (g : Grow a h size p len c vs) (ha : a.next ≤ h.next) {src : Option (Nat × List AV)} {n : Nat} {news : List AV} (hs : src = some (n, news)) (hn : news.length = n * size) (hcell : news.all isCell = true)
    (hb : (len + n) * bytes ≤ 140737488355328) (h63 : len + n ≤ 9223372036854775807) (hz : n = 0 → news = []) {f : Option (Nat × Nat) → Nat → Cap → H → Option (α × H)} {Q : α → H → Prop}
    (k : ∀ p' c' h', Grow a h' size p' (len + n) c' (vs ++ news) → Mod (own p) h h' → Ret (f p' (len + n) c' h') Q) : Ret (appK size bytes p len c src h f) Q := by
  obtain ⟨p', c', h', e, g', m⟩ := g.app (β := α × H) ha hs hn hcell hb h63 hz
  rw [e]
  exact k p' c' h' g' m
/-- one element more -/
theorem Grow.push {a h : H} {size bytes : Nat} {p : Option (Nat × Nat)} {len : Nat} {c : Cap} {vs : List AV} (g : Grow a h size p len c vs) (ha : a.next ≤ h.next) {xs : List AV} (hx : xs.length = size) (hc : xs.all isCell = true) (h0 : 0 < size) (hb : (len + 1) * bytes ≤ 140737488355328) (h63 : len + 1 ≤ 9223372036854775807)
    {f : Option (Nat × Nat) → Nat → Cap → H → Option (α × H)} {Q : α → H → Prop} (k : ∀ p' c' h', Grow a h' size p' (len + 1) c' (vs ++ xs) → Mod (own p) h h' → Ret (f p' (len + 1) c' h') Q) :
    Ret (appK size bytes p len c (evSrc size (.slice (some (h.next, 0)) 1 (.known 1)) (h.new (.cells xs false))) (h.new (.cells xs false)) f) Q := by
  have m2 : Mod [] h (h.new (.cells xs false)) := (Mod.refl _ _).new _
  have r2 : Row (h.new (.cells xs false)) size (some (h.next, 0)) 1 (.known 1) xs := .row (by simp) (get_new_self _ _) (by rw [List.drop_zero, Nat.one_mul, ← hx, List.take_length]) (by omega) (.inr ⟨1, rfl, Nat.le_refl _⟩)
  exact (g.mod0 m2).ret (Nat.le_trans ha m2.next) r2.src (by omega) hc hb h63 (fun h => by cases h) fun p' c' h' g' m' => k p' c' h' g' (m2.of_nil.trans m')
/-- what grew from a on, as it was there -/
theorem Mod.push {a h h' : H} {S : List Nat} {size : Nat} {p : Option (Nat × Nat)} {len : Nat} {c : Cap} {vs : List AV} (m : Mod S a h) (g : Grow a h size p len c vs) (m' : Mod (own p) h h') : Mod S a h' :=
  m.trans' m' fun i hi hl => by have := (g.own_ge i hi).1; omega
end

/-! ### maps -/

section
variable {K V β : Type} [DecidableEq K]

/-- an object is the map of these entries -/
def MObj (ek : K → AV) (ev : V → AV) (l : List (K × V)) (o : AObj) : Prop :=
  ∃ (L : List (K × V × Nat)) (clk : Nat), o = .map (L.map fun x => (ek x.1, ev x.2.1, x.2.2)) clk ∧ L.map (fun x => (x.1, x.2.1)) = l ∧ (L.map (·.2.2)).Nodup ∧ ∀ x ∈ L, x.2.2 < clk
def Keys (ek : K → AV) : Prop := ∀ a b, keyCmp (ek a) (ek b) = some (decide (a = b))
def lk (l : List (K × V)) (k : K) : Option V := (l.find? fun e => decide (k = e.1)).map (·.2)
def pt (l : List (K × V)) (k : K) (v : V) : List (K × V) := if (l.any fun e => decide (k = e.1)) = true then l.map fun e => if k = e.1 then (k, v) else e else l ++ [(k, v)]
def dl (l : List (K × V)) (k : K) : List (K × V) := l.filter fun e => !decide (k = e.1)

theorem keys_str : Keys AV.str := fun a b => by
  simp only [keyCmp]
  congr 1
  rw [Bool.eq_iff_iff, MapKept.bytes_beq]; simp
theorem keys_int (k : IntKind) : Keys (AV.int k) := fun a b => by
  simp only [keyCmp, if_true]
  congr 1

theorem MObj.nil {ek : K → AV} {ev : V → AV} : MObj ek ev ([] : List (K × V)) (.map [] 0) := ⟨[], 0, rfl, rfl, List.nodup_nil, fun x hx => by cases hx⟩

theorem find_enc {ek : K → AV} {ev : V → AV} (hk : Keys ek) (k : K) : ∀ L : List (K × V × Nat), evFind (ek k) (L.map fun x => (ek x.1, ev x.2.1, x.2.2)) = some ((L.find? fun e => decide (k = e.1)).map fun x => (ek x.1, ev x.2.1, x.2.2)) := by
  intro l
  unfold evFind
  rw [if_pos]
  · congr 1
    rw [List.find?_map]
    congr 2
    funext x
    simp [Function.comp, hk k x.1]
  · simp [hk k]

theorem lk_proj (L : List (K × V × Nat)) (k : K) : lk (L.map fun x => (x.1, x.2.1)) k = (L.find? fun e => decide (k = e.1)).map (·.2.1) := by
  unfold lk
  rw [List.find?_map, Option.map_map]
  rfl

theorem lookK_of {h : H} {m : Nat} {o : AObj} {ek : K → AV} {ev : V → AV} {l : List (K × V)} (hk : Keys ek) (hg : h.get m = some o) (ho : MObj ek ev l o) (z : AV) (k : K) (f : AV → Bool → Option β) :
    lookK z (some m) (ek k) h f = match lk l k with | some v => f (ev v) true | none => f z false := by
  obtain ⟨L, clk, rfl, rfl, _, _⟩ := ho
  rw [lk_proj]
  simp only [lookK, evLook, evLookEs, hg, find_enc hk]
  cases L.find? fun e => decide (k = e.1) <;> rfl
theorem putK_of {h : H} {m : Nat} {o : AObj} {ek : K → AV} {ev : V → AV} {l : List (K × V)} (hk : Keys ek) (hg : h.get m = some o) (ho : MObj ek ev l o) (k : K) (v : V) :
    ∃ o', MObj ek ev (pt l k v) o' ∧ ∀ f : H → Option β, putK (some m) (ek k) (ev v) h f = f (h.set m o') := by
  obtain ⟨L, clk, rfl, rfl, hn, hb⟩ := ho
  cases hf : L.find? fun e => decide (k = e.1) with
  | none =>
    rw [List.find?_eq_none] at hf
    refine ⟨.map ((L ++ [(k, v, clk)]).map fun x => (ek x.1, ev x.2.1, x.2.2)) (clk + 1), ⟨L ++ [(k, v, clk)], clk + 1, rfl, ?_, ?_, ?_⟩, fun f => ?_⟩
    · unfold pt
      rw [if_neg]
      · simp
      · simp only [List.any_map, List.any_eq_true, not_exists, not_and]
        exact fun x hx => hf x hx
    · rw [List.map_append, List.nodup_append]
      refine ⟨hn, by simp, fun a ha b hb' e => ?_⟩
      obtain ⟨x, hx, rfl⟩ := List.mem_map.1 ha
      simp at hb'
      have := hb x hx
      omega
    · intro x hx
      rcases List.mem_append.1 hx with hx | hx
      · have := hb x hx; omega
      · obtain rfl : x = (k, v, clk) := by simpa using hx
        exact Nat.lt_succ_self _
    · have hf' : (L.find? fun e => decide (k = e.1)) = none := List.find?_eq_none.2 hf
      simp only [putK, evMapPut, hg, evPutEs, find_enc hk, hf', Option.map_none, Option.map_some]
      rw [List.map_append]
      rfl
  | some x =>
    have hany : ((L.map fun x => (x.1, x.2.1)).any fun e => decide (k = e.1)) = true := by
      rw [List.any_map, List.any_eq_true]
      exact ⟨x, List.mem_of_find?_eq_some hf, List.find?_some (p := fun e : K × V × Nat => decide (k = e.1)) hf⟩
    refine ⟨.map ((L.map fun e => if k = e.1 then (k, v, e.2.2) else e).map fun x => (ek x.1, ev x.2.1, x.2.2)) clk, ⟨_, clk, rfl, ?_, ?_, ?_⟩, fun f => ?_⟩
    · unfold pt
      rw [if_pos hany, List.map_map, List.map_map]
      apply List.map_congr_left
      intro e _
      simp only [Function.comp]
      by_cases he : k = e.1 <;> simp [he]
    · rw [List.map_map]
      have : ((fun x : K × V × Nat => x.2.2) ∘ fun e => if k = e.1 then (k, v, e.2.2) else e) = fun x => x.2.2 := by
        funext e; simp only [Function.comp]; split <;> rfl
      rw [this]; exact hn
    · intro y hy
      obtain ⟨e, he, rfl⟩ := List.mem_map.1 hy
      have := hb e he
      split <;> exact this
    · simp only [putK, evMapPut, hg, evPutEs, find_enc hk, hf, Option.map_some]
      congr 3
      rw [List.map_map, List.map_map]
      apply List.map_congr_left
      intro e _
      simp only [Function.comp, hk k e.1]
      by_cases he : k = e.1 <;> simp [he]
theorem delK_of {h : H} {m : Nat} {o : AObj} {ek : K → AV} {ev : V → AV} {l : List (K × V)} (hk : Keys ek) (hg : h.get m = some o) (ho : MObj ek ev l o) (k : K) :
    ∃ o', MObj ek ev (dl l k) o' ∧ ∀ f : H → Option β, delK (some m) (ek k) h f = f (h.set m o') := by
  obtain ⟨L, clk, rfl, rfl, hn, hb⟩ := ho
  refine ⟨.map ((L.filter fun e => !decide (k = e.1)).map fun x => (ek x.1, ev x.2.1, x.2.2)) clk, ⟨_, clk, rfl, ?_, ?_, ?_⟩, fun f => ?_⟩
  · unfold dl
    rw [List.filter_map]
    rfl
  · exact hn.sublist (List.filter_sublist.map _)
  · exact fun x hx => hb x (List.mem_filter.1 hx).1
  · simp only [delK, evMapDel, hg, evDelEs, find_enc hk]
    simp only [Option.map_some, List.filter_map]
    rw [show ((fun e : AV × AV × Nat => !keyCmp (ek k) e.1 == some true) ∘ fun x : K × V × Nat => (ek x.1, ev x.2.1, x.2.2)) = fun e => !decide (k = e.1) by funext e; simp [Function.comp, hk k e.1]]
theorem clrK_of {h : H} {m : Nat} {o : AObj} {ek : K → AV} {ev : V → AV} {l : List (K × V)} (hg : h.get m = some o) (ho : MObj ek ev l o) :
    ∃ o', MObj ek ev ([] : List (K × V)) o' ∧ ∀ f : H → Option β, clrK (some m) h f = f (h.set m o') := by
  obtain ⟨L, clk, rfl, rfl, hn, hb⟩ := ho
  exact ⟨.map [] clk, ⟨[], clk, rfl, rfl, List.nodup_nil, fun x hx => by cases hx⟩, fun f => by simp only [clrK, evMapClear, hg]⟩
theorem lenMK_of {h : H} {m : Nat} {o : AObj} {ek : K → AV} {ev : V → AV} {l : List (K × V)} (hg : h.get m = some o) (ho : MObj ek ev l o) (f : Int → Option β) : lenMK (some m) h f = f (Nat.cast l.length) := by
  obtain ⟨L, clk, rfl, rfl, hn, hb⟩ := ho
  simp [lenMK, evMapLen, hg]

theorem lk_nil (k : K) : lk ([] : List (K × V)) k = none := rfl
theorem lk_cons (e : K × V) (l : List (K × V)) (k : K) : lk (e :: l) k = if k = e.1 then some e.2 else lk l k := by
  unfold lk
  rw [List.find?_cons]
  by_cases h : k = e.1 <;> simp [h]
theorem lk_append (l l' : List (K × V)) (k : K) : lk (l ++ l') k = (lk l k).or (lk l' k) := by
  unfold lk
  rw [List.find?_append]
  cases List.find? (fun e => decide (k = e.1)) l <;> simp
theorem lk_none {l : List (K × V)} {k : K} : lk l k = none ↔ ∀ e ∈ l, k ≠ e.1 := by
  unfold lk
  rw [Option.map_eq_none_iff, List.find?_eq_none]
  simp
theorem lk_map {l : List (K × V)} {k k' : K} {v : V} : lk (l.map fun e => if k = e.1 then (k, v) else e) k' = if k' = k then (if (l.any fun e => decide (k = e.1)) = true then some v else none) else lk l k' := by
  induction l with
  | nil => simp [lk_nil]
  | cons e l ih =>
    rw [List.map_cons, lk_cons, ih, lk_cons, List.any_cons]
    by_cases h1 : k = e.1
    · subst h1
      by_cases h2 : k' = e.1 <;> simp [h2]
    · by_cases h2 : k' = k
      · subst h2
        simp only [h1, if_false, if_true]
        rw [show (decide False : Bool) = false from decide_eq_false id, Bool.false_or]
      · simp [h1, h2]
theorem lk_pt (l : List (K × V)) (k : K) (v : V) (k' : K) : lk (pt l k v) k' = if k' = k then some v else lk l k' := by
  unfold pt
  split
  · rename_i h; rw [lk_map, if_pos h]
  · rename_i h
    rw [lk_append, lk_cons, lk_nil]
    by_cases h2 : k' = k
    · subst h2
      have : lk l k' = none := lk_none.2 fun e he hk => h (List.any_eq_true.2 ⟨e, he, by simp [hk]⟩)
      simp [this]
    · simp [h2]
theorem lk_dl (l : List (K × V)) (k k' : K) : lk (dl l k) k' = if k' = k then none else lk l k' := by
  unfold dl
  induction l with
  | nil => simp [lk_nil]
  | cons e l ih =>
    rw [List.filter_cons, lk_cons]
    by_cases h1 : k = e.1
    · subst h1
      simp only [decide_true, Bool.not_true, Bool.false_eq_true, if_false]
      rw [ih]
      by_cases h2 : k' = e.1 <;> simp [h2]
    · simp only [h1, decide_false, Bool.not_false, if_true]
      rw [lk_cons, ih]
      by_cases h2 : k' = k
      · subst h2; simp [h1]
      · simp [h2]
end

/-! ### nil or not -/

theorem eqVK_ptr {β : Type} {P : Program} {t e : TypeId} (ht : P.underlying t = some (.pointer e)) (p : Option (Nat × Nat)) (f : Bool → Option β) : eqVK P t (.ptr p) (.ptr none) f = f p.isNone := by
  unfold eqVK
  rw [show Op.maxDepth = 9999 + 1 from rfl, evEqB]
  cases p <;> simp [ht, evEq]
theorem eqVK_slice {β : Type} {P : Program} {t e : TypeId} (ht : P.underlying t = some (.slice e)) {h : H} {size : Nat} {p : Option (Nat × Nat)} {len : Nat} {c : Cap} {vs : List AV} (s : Row h size p len c vs) (f : Bool → Option β) : eqVK P t (.slice p len c) (.slice none 0 (.known 0)) f = f p.isNone := by
  unfold eqVK
  rw [show Op.maxDepth = 9999 + 1 from rfl, evEqB]
  cases s <;> simp [ht, evEq]

/-! ### texts -/

theorem bytes_toList (s : ByteArray) : s.toList = s.data.toList := ByteArray.toList_eq s
theorem toList_inj {a b : ByteArray} : a.toList = b.toList ↔ a = b := by
  constructor
  · intro h
    rw [bytes_toList, bytes_toList] at h
    obtain ⟨x⟩ := a
    obtain ⟨y⟩ := b
    simp only at h
    rw [Array.toList_inj.1 h]
  · intro h; rw [h]
theorem str_eq (a b : ByteArray) : (a.toList == b.toList) = decide (a = b) := by
  by_cases h : a = b
  · subst h; simp
  · rw [decide_eq_false h, beq_eq_false_iff_ne]
    exact fun e => h (toList_inj.1 e)
theorem length_toList (a : ByteArray) : a.toList.length = a.size := by rw [bytes_toList]; rfl
theorem size_zero {a : ByteArray} : a.size = 0 ↔ a = ⟨#[]⟩ := by
  constructor
  · intro h
    apply toList_inj.1
    rw [← length_toList] at h
    rw [List.eq_nil_of_length_eq_zero h, bytes_toList]
  · rintro rfl; rfl

theorem bl_eq : ∀ (x y : List UInt8), Op.bytesLess x y = decide (x < y)
  | [], [] => by simp [Op.bytesLess]
  | _ :: _, [] => by simp [Op.bytesLess]
  | [], _ :: _ => by simp [Op.bytesLess]
  | a :: x, b :: y => by
    rw [Op.bytesLess, bl_eq x y]
    simp only [List.cons_lt_cons_iff]
    by_cases h1 : a < b <;> by_cases h2 : a = b <;> by_cases h3 : x < y <;> simp [h1, h2, h3]

def sLt (a b : ByteArray) : Bool := Op.bytesLess a.toList b.toList
theorem sLt_iff {a b : ByteArray} : sLt a b = true ↔ a.toList < b.toList := by simp [sLt, bl_eq]
theorem sLt_irrefl (a : ByteArray) : sLt a a = false := by
  rw [Bool.eq_false_iff, Ne, sLt_iff]; exact List.lt_irrefl _
theorem sLt_trans {a b c : ByteArray} (h : sLt a b = true) (k : sLt b c = true) : sLt a c = true := by
  rw [sLt_iff] at *; exact List.lt_trans h k
theorem sLt_asymm {a b : ByteArray} (h : sLt a b = true) : sLt b a = false := by
  rw [Bool.eq_false_iff, Ne]
  intro k
  have := sLt_trans h k
  rw [sLt_irrefl] at this; cases this
theorem sLt_total {a b : ByteArray} (h : a ≠ b) : sLt a b = true ∨ sLt b a = true := by
  rw [sLt_iff, sLt_iff]
  rcases Classical.em (a.toList < b.toList) with h1 | h1
  · exact .inl h1
  · rcases Classical.em (b.toList < a.toList) with h2 | h2
    · exact .inr h2
    · exact absurd (toList_inj.1 (List.le_antisymm (List.not_lt.1 h2) (List.not_lt.1 h1))) h
/-- not greater -/
def sLe (a b : ByteArray) : Prop := sLt b a = false
theorem sLe_trans {a b c : ByteArray} (h : sLe a b) (k : sLe b c) : sLe a c := by
  unfold sLe at *
  rw [Bool.eq_false_iff]
  intro hc
  by_cases e : c = b
  · subst e; rw [h] at hc; cases hc
  · rcases sLt_total e with h1 | h1
    · rw [h1] at k; cases k
    · have := sLt_trans h1 hc; rw [h] at this; cases this
theorem sLe_total (a b : ByteArray) : sLe a b ∨ sLe b a := by
  unfold sLe
  cases h : sLt b a with
  | false => exact .inl rfl
  | true => exact .inr (sLt_asymm h)
theorem sLe_antisymm {a b : ByteArray} (h : sLe a b) (k : sLe b a) : a = b := by
  apply Classical.byContradiction
  intro e
  rcases sLt_total e with h1 | h1
  · unfold sLe at k; rw [h1] at k; cases k
  · unfold sLe at h; rw [h1] at h; cases h
theorem sLe_of_lt {a b : ByteArray} (h : sLt a b = true) : sLe a b := sLt_asymm h
theorem sLe_refl (a : ByteArray) : sLe a a := sLt_irrefl a

theorem byteK_ex {β : Type} {s : ByteArray} {n : Int} (h0 : 0 ≤ n) (h1 : n.toNat < s.size) (f : Int → Option β) : byteK s n f = f (s[n.toNat]'h1).toNat := by
  unfold byteK
  rw [if_pos h0, getElem?_pos s n.toNat h1]

theorem set_same {h : H} {i : Nat} {o : AObj} (hg : h.get i = some o) : h.set i o = h := by
  cases h with
  | mk n g =>
    simp only [H.set, H.mk.injEq, true_and]
    funext j
    split
    · rename_i e; subst e; exact hg.symm
    · rfl

/-! ### rows that came in -/

theorem Fits.split : ∀ {ks ls : List FK} {vs : List AV}, Fits (ks ++ ls) vs → ∃ v1 v2, vs = v1 ++ v2 ∧ Fits ks v1 ∧ Fits ls v2
  | [], ls, vs, h => ⟨[], vs, rfl, .nil, h⟩
  | k :: ks, ls, vs, h => by
    cases h with
    | cons h1 h2 =>
      obtain ⟨v1, v2, rfl, h3, h4⟩ := Fits.split h2
      exact ⟨_ :: v1, v2, rfl, .cons h1 h3, h4⟩

theorem fits_rep {α : Type} {ks : List FK} {enc : α → List AV} {P : α → Prop} (hd : ∀ vs, Fits ks vs → ∃ x, vs = enc x ∧ P x) : ∀ {n : Nat} {vs : List AV}, Fits (List.replicate n ks).flatten vs → ∃ xs : List α, vs = xs.flatMap enc ∧ xs.length = n ∧ ∀ x ∈ xs, P x
  | 0, vs, h => by
    cases h
    exact ⟨[], rfl, rfl, by simp⟩
  | n + 1, vs, h => by
    rw [List.replicate_succ, List.flatten_cons] at h
    obtain ⟨v1, v2, rfl, h1, h2⟩ := h.split
    obtain ⟨x, rfl, hx⟩ := hd _ h1
    obtain ⟨xs, rfl, hl, hp⟩ := fits_rep hd h2
    exact ⟨x :: xs, rfl, by simp [hl], fun y hy => (List.mem_cons.1 hy).elim (fun e => e ▸ hx) (hp y)⟩

theorem Row.of_arg {α : Type} {rows : Rows0} {i : Nat} {ks : List FK} {p : Option (Nat × Nat)} {len : Nat} {c : Cap} {tg : Option Tgt} {cs : List AV} {B : Nat} {enc : α → List AV} {P : α → Prop} (hi : rows[i]? = some (tg, cs)) (a : Arg i ks B p len c cs)
    (hs : ∀ x, (enc x).length = ks.length) (hd : ∀ vs, Fits ks vs → ∃ x, vs = enc x ∧ P x) : ∃ xs : List α, xs.length = len ∧ len * B ≤ reachBytes ∧ Row (H0 rows) ks.length p len c (xs.flatMap enc) ∧ ∀ x ∈ xs, P x := by
  have s := Row.of_sl (SL.of_arg hi a) (WF_H0 rows)
  obtain ⟨cap, hl, hm, hf, _⟩ := a.look
  obtain ⟨ys, rfl, hy, hp⟩ := fits_rep hd hf
  rw [take_flat hs] at s
  exact ⟨ys.take len, by simp; omega, Nat.le_trans (Nat.mul_le_mul_right _ hl) hm, s, fun x hx => hp x (List.mem_of_mem_take hx)⟩

theorem Row.of_arg1 {α : Type} {rows : Rows0} {i : Nat} {k : FK} {p : Option (Nat × Nat)} {len : Nat} {c : Cap} {tg : Option Tgt} {cs : List AV} {B : Nat} {enc : α → AV} {P : α → Prop} (hi : rows[i]? = some (tg, cs)) (a : Arg i [k] B p len c cs)
    (hd : ∀ v, k.fits v → ∃ x, v = enc x ∧ P x) : ∃ xs : List α, xs.length = len ∧ len * B ≤ reachBytes ∧ Row (H0 rows) 1 p len c (xs.map enc) ∧ ∀ x ∈ xs, P x := by
  obtain ⟨xs, h1, h2, h3, h4⟩ := Row.of_arg (enc := fun x => [enc x]) (P := P) hi a (fun _ => rfl) (fun vs hv => by
    cases hv with
    | cons h1 h2 =>
      cases h2
      obtain ⟨x, rfl, hx⟩ := hd _ h1
      exact ⟨x, rfl, hx⟩)
  refine ⟨xs, h1, h2, ?_, h4⟩
  have e : ∀ l : List α, l.map enc = l.flatMap fun x => [enc x] := fun l => by
    induction l with
    | nil => rfl
    | cons x l ih => rw [List.map_cons, List.flatMap_cons, ih]; rfl
  rw [e]
  exact h3

theorem reach_le {x : Nat} (h : x ≤ reachBytes) : x ≤ 140737488351232 := h

end Go.Ev
