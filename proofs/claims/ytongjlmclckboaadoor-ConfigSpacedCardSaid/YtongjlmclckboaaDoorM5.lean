/- Own texts, joined: EvOw Shelf18 It18 Leaf18 Q18t Q181 Q182 Q183 Q184 Wc0. -/
import Derived.Test.YtongjlmclckboaaDoorM4
import Derived.Shelf.Strings.OnBuilder
import Derived.Test.YtongjlmclckboaaDoorProg
import Derived.KernelRfl
import Derived.Shelf.LaysM
import Derived.Shelf.Strconv.Itoa3
/- The abstract machine Ev, part Ow: the blocks that an object owns, by numbered slots. -/
namespace Go.Ev

def up {α : Type} (f : Nat → α) (i : Nat) (v : α) : Nat → α := fun j => if j = i then v else f j
@[simp] theorem up_self {α : Type} (f : Nat → α) (i : Nat) (v : α) : up f i v i = v := if_pos rfl
theorem up_ne {α : Type} {f : Nat → α} {i j : Nat} {v : α} (h : j ≠ i) : up f i v j = f j := if_neg h

/-- of twelve slots -/
def foot (f : Nat → Option Nat) : List Nat := (List.range 12).filterMap f

/-- what is kept from one moment to the next, beside what is owned -/
structure Fr (S : List Nat) (h : H) (S' : List Nat) (h' : H) : Prop where
  mod : Mod S h h'
  own : ∀ i ∈ S', i ∈ S ∨ h.next ≤ i
theorem Fr.refl (S : List Nat) (h : H) : Fr S h S h := ⟨Mod.refl _ _, fun _ h => .inl h⟩
theorem Fr.trans {S S' S'' : List Nat} {a b c : H} (p : Fr S a S' b) (q : Fr S' b S'' c) : Fr S a S'' c :=
  ⟨p.mod.trans' q.mod fun i hi hl => (p.own i hi).elim id fun h => absurd h (by omega),
   fun i hi => (q.own i hi).elim (p.own i) fun h => .inr (Nat.le_trans p.mod.next h)⟩
theorem Fr.mod0 {S : List Nat} {a b : H} (m : Mod [] a b) : Fr S a S b := ⟨m.of_nil, fun _ h => .inl h⟩
/-- an object that is not owned stays, and does not come to be owned -/
theorem Fr.keep {S S' : List Nat} {a b : H} (p : Fr S a S' b) {i : Nat} (hi : i < a.next) (hS : i ∉ S) : b.get i = a.get i ∧ i < b.next ∧ i ∉ S' :=
  ⟨p.mod.get i hi hS, p.mod.lt hi, fun h => (p.own i h).elim hS fun h => by omega⟩

structure Own (a : H) (f : Nat → Option Nat) (c : Nat → List AV) (h : H) : Prop where
  le : a.next ≤ h.next
  get : ∀ i x, f i = some x → h.get x = some (.cells (c i) false)
  lt : ∀ i x, f i = some x → x < h.next
  ge : ∀ i x, f i = some x → a.next ≤ x
  inj : ∀ i j x, f i = some x → f j = some x → i = j
  top : ∀ i, 12 ≤ i → f i = none

section
variable {a h h' : H} {f : Nat → Option Nat} {c : Nat → List AV} {i x : Nat}

theorem Own.mem (o : Own a f c h) {x : Nat} : x ∈ foot f ↔ ∃ i, f i = some x := by
  simp only [foot, List.mem_filterMap, List.mem_range]
  constructor
  · rintro ⟨i, _, e⟩; exact ⟨i, e⟩
  · rintro ⟨i, e⟩
    refine ⟨i, ?_, e⟩
    by_cases hi : i < 12
    · exact hi
    · rw [o.top i (by omega)] at e; cases e
theorem Own.at (o : Own a f c h) (hf : f i = some x) : At h x (.cells (c i) false) := ⟨o.lt i x hf, o.get i x hf⟩
theorem Own.mod0 (o : Own a f c h) (m : Mod [] h h') : Own a f c h' :=
  ⟨Nat.le_trans o.le m.next, fun i x e => (m.get x (o.lt i x e) (by simp)).trans (o.get i x e), fun i x e => m.lt (o.lt i x e), o.ge, o.inj, o.top⟩
theorem Own.nil (a : H) (c : Nat → List AV) : Own a (fun _ => none) c a := ⟨Nat.le_refl _, by simp, by simp, by simp, by simp, by simp⟩

/-- one's block is written -/
theorem Own.wr (o : Own a f c h) (hf : f i = some x) (v : List AV) : Own a f (up c i v) (h.set x (.cells v false)) ∧ Fr (foot f) h (foot f) (h.set x (.cells v false)) := by
  refine ⟨⟨o.le, fun j y e => ?_, o.lt, o.ge, o.inj, o.top⟩, (Mod.refl _ _).set (.inr (o.mem.2 ⟨i, hf⟩)) _, fun _ h => .inl h⟩
  by_cases hj : j = i
  · subst hj
    obtain rfl : y = x := by rw [hf] at e; exact (Option.some.inj e).symm
    rw [up_self]; exact get_set_self _ _ _
  · rw [up_ne hj, get_set_ne]
    · exact o.get j y e
    · rintro rfl
      exact hj (o.inj _ _ _ e hf)
theorem Own.wrK {β : Type} (o : Own a f c h) (hf : f i = some x) {p n : Nat} {xs v : List AV} (hn : xs.length = n) (hl : p + n ≤ (c i).length) (hc : xs.all isCell = true) (hv : spl (c i) p xs = v) (k : H → Option β) : wrK h x p n xs k = k (h.set x (.cells v false)) := by
  rw [wrK_of (o.get i x hf) hn hl hc, hv]
theorem Own.cell {β : Type} (o : Own a f c h) (hf : f i = some x) {p : Nat} {v : AV} (hv : (c i)[p]? = some v) (k : AV → Option β) : cellK h x p k = k v := cellK_of (o.get i x hf) hv k

/-- a slot takes a new block -/
theorem Own.put (o : Own a f c h) (hi : i < 12) {v : List AV} (hb : h.next ≤ x) (ha : At h' x (.cells v false)) (m : Mod (own ((f i).map fun b => (b, 0))) h h') : Own a (up f i (some x)) (up c i v) h' ∧ Fr (foot f) h (foot (up f i (some x))) h' := by
  have hne : ∀ j y, j ≠ i → f j = some y → y ∉ own ((f i).map fun b => (b, 0)) := by
    intro j y hj e hm
    cases hfi : f i with
    | none => rw [hfi] at hm; simp at hm
    | some z =>
      rw [hfi] at hm
      obtain rfl : y = z := by simpa using hm
      exact hj (o.inj _ _ _ e hfi)
  have ow : Own a (up f i (some x)) (up c i v) h' := by
    refine ⟨Nat.le_trans o.le m.next, ?_, ?_, ?_, ?_, ?_⟩
    · intro j y e
      by_cases hj : j = i
      · subst hj
        rw [up_self] at e ⊢
        obtain rfl := Option.some.inj e
        exact ha.get
      · rw [up_ne hj] at e ⊢
        exact (m.get y (o.lt j y e) (hne j y hj e)).trans (o.get j y e)
    · intro j y e
      by_cases hj : j = i
      · subst hj
        rw [up_self] at e
        obtain rfl := Option.some.inj e
        exact ha.lt
      · rw [up_ne hj] at e
        exact m.lt (o.lt j y e)
    · intro j y e
      by_cases hj : j = i
      · subst hj
        rw [up_self] at e
        obtain rfl := Option.some.inj e
        exact Nat.le_trans o.le hb
      · rw [up_ne hj] at e
        exact o.ge j y e
    · intro j l y e e'
      by_cases hj : j = i
      · by_cases hl : l = i
        · rw [hj, hl]
        · rw [hj, up_self] at e; rw [up_ne hl] at e'
          obtain rfl := Option.some.inj e
          exact absurd (o.lt l _ e') (by omega)
      · by_cases hl : l = i
        · rw [hl, up_self] at e'; rw [up_ne hj] at e
          obtain rfl := Option.some.inj e'
          exact absurd (o.lt j _ e) (by omega)
        · rw [up_ne hj] at e; rw [up_ne hl] at e'
          exact o.inj _ _ _ e e'
    · intro j hj
      rw [up_ne (by omega)]; exact o.top j hj
  refine ⟨ow, ⟨m.sub fun y hy _ => ?_, fun y hy => ?_⟩⟩
  · cases hfi : f i with
    | none => rw [hfi] at hy; simp at hy
    | some z =>
      rw [hfi] at hy
      obtain rfl : y = z := by simpa using hy
      exact o.mem.2 ⟨i, hfi⟩
  · obtain ⟨j, e⟩ := ow.mem.1 hy
    by_cases hj : j = i
    · rw [hj, up_self] at e
      obtain rfl := Option.some.inj e
      exact .inr hb
    · rw [up_ne hj] at e
      exact .inl (o.mem.2 ⟨j, e⟩)

/-- a slot is left -/
theorem Own.drop (o : Own a f c h) (i : Nat) : Own a (up f i none) c h := by
  have hs : ∀ j y, up f i none j = some y → f j = some y := by
    intro j y e
    by_cases hj : j = i
    · rw [hj, up_self] at e; cases e
    · rwa [up_ne hj] at e
  refine ⟨o.le, fun j y e => o.get j y (hs j y e), fun j y e => o.lt j y (hs j y e), fun j y e => o.ge j y (hs j y e), fun j l y e e' => o.inj _ _ _ (hs _ _ e) (hs _ _ e'), fun j hj => ?_⟩
  by_cases hi : j = i
  · rw [hi, up_self]
  · rw [up_ne hi]; exact o.top j hj
theorem Own.dropF (o : Own a f c h) (i : Nat) : Fr (foot f) h (foot (up f i none)) h := by
  refine ⟨Mod.refl _ _, fun y hy => .inl ?_⟩
  obtain ⟨j, e⟩ := (o.drop i).mem.1 hy
  by_cases hj : j = i
  · rw [hj, up_self] at e; cases e
  · rw [up_ne hj] at e; exact o.mem.2 ⟨j, e⟩

/-! ### slices of one's own -/

def slP (f : Nat → Option Nat) (i : Nat) : Option (Nat × Nat) := (f i).map fun b => (b, 0)
theorem slP_up (f : Nat → Option Nat) (i x : Nat) : slP (up f i (some x)) i = some (x, 0) := by simp [slP]
theorem slP_ne {f : Nat → Option Nat} {i j : Nat} {v : Option Nat} (h : j ≠ i) : slP (up f i v) j = slP f j := by unfold slP; rw [up_ne h]

structure Arr (f : Nat → Option Nat) (c : Nat → List AV) (i size len : Nat) (cap : Cap) (vs : List AV) : Prop where
  look : (f i = none ∧ len = 0 ∧ cap = .known 0 ∧ vs = []) ∨ ∃ x, f i = some x ∧ c i = vs ∧ vs.length = len * size ∧ (cap = .rest size ∨ cap = .known len)

theorem Arr.grow {size len : Nat} {cap : Cap} {vs : List AV} (r : Arr f c i size len cap vs) (o : Own a f c h) : Grow a h size (slP f i) len cap vs := by
  rcases r.look with ⟨h1, h2, h3, h4⟩ | ⟨x, h1, h2, h3, h4⟩
  · exact ⟨.inl ⟨by simp [slP, h1], h2, h3, h4⟩⟩
  · exact ⟨.inr ⟨x, by simp [slP, h1], o.ge _ _ h1, o.lt _ _ h1, by rw [o.get _ _ h1, h2], h3, h4⟩⟩
theorem Arr.ne {size len j : Nat} {cap : Cap} {vs v : List AV} {w : Option Nat} (r : Arr f c i size len cap vs) (hj : i ≠ j) : Arr (up f j w) (up c j v) i size len cap vs := by
  rcases r.look with h | ⟨x, h⟩
  · exact ⟨.inl (by rw [up_ne hj]; exact h)⟩
  · exact ⟨.inr ⟨x, by rw [up_ne hj, up_ne hj]; exact h⟩⟩
theorem Arr.neC {size len j : Nat} {cap : Cap} {vs v : List AV} (r : Arr f c i size len cap vs) (hj : i ≠ j) : Arr f (up c j v) i size len cap vs := by
  rcases r.look with h | ⟨x, h⟩
  · exact ⟨.inl h⟩
  · exact ⟨.inr ⟨x, by rw [up_ne hj]; exact h⟩⟩
theorem Arr.neF {size len j : Nat} {cap : Cap} {vs : List AV} {w : Option Nat} (r : Arr f c i size len cap vs) (hj : i ≠ j) : Arr (up f j w) c i size len cap vs := by
  rcases r.look with h | ⟨x, h⟩
  · exact ⟨.inl (by rw [up_ne hj]; exact h)⟩
  · exact ⟨.inr ⟨x, by rw [up_ne hj]; exact h⟩⟩
theorem Arr.nil {size : Nat} (h : f i = none) : Arr f c i size 0 (.known 0) [] := ⟨.inl ⟨h, rfl, rfl, rfl⟩⟩

/-- one element more -/
theorem Grow.pushE {a h : H} {size bytes : Nat} {p : Option (Nat × Nat)} {len : Nat} {c : Cap} {vs : List AV} (g : Grow a h size p len c vs) (ha : a.next ≤ h.next) {xs : List AV} (hx : xs.length = size) (hc : xs.all isCell = true) (h0 : 0 < size) (hb : (len + 1) * bytes ≤ 140737488355328) (h63 : len + 1 ≤ 9223372036854775807) :
    ∃ p' c' h', (∀ (β : Type) (k : Option (Nat × Nat) → Nat → Cap → H → Option β), appK size bytes p len c (evSrc size (.slice (some (h.next, 0)) 1 (.known 1)) (h.new (.cells xs false))) (h.new (.cells xs false)) k = k p' (len + 1) c' h') ∧ Grow a h' size p' (len + 1) c' (vs ++ xs) ∧ Mod (own p) h h' ∧ ∀ x ∈ own p', h.next ≤ x := by
  have m2 : Mod [] h (h.new (.cells xs false)) := (Mod.refl _ _).new _
  have r2 : Row (h.new (.cells xs false)) size (some (h.next, 0)) 1 (.known 1) xs := .row (by simp) (get_new_self _ _) (by rw [List.drop_zero, Nat.one_mul, ← hx, List.take_length]) (by omega) (.inr ⟨1, rfl, Nat.le_refl _⟩)
  rw [r2.src]
  rcases (g.mod0 m2).look with ⟨rfl, rfl, rfl, rfl⟩ | ⟨b, rfl, h1, h2, h3, h4, h5⟩
  · refine ⟨_, _, _, fun β k => by simp only [appK, evApp]; rw [if_neg (by omega), if_pos ⟨by simpa using hb, by omega⟩], ?_, (m2.new _).of_nil, by simp⟩
    rw [List.nil_append]
    exact Grow.fresh (Nat.le_trans ha m2.next) (by rw [hx]; simp) (.inl rfl)
  · rcases h5 with rfl | rfl
    · refine ⟨_, _, _, fun β k => by simp only [appK, evApp]; rw [if_neg (by omega), if_pos ⟨trivial, hb, h63⟩, h3]; simp only [Nat.zero_add]; rw [if_pos ⟨h4.symm, hc⟩, List.drop_zero]; rfl, Grow.fresh (h := (h.new (.cells xs false)).kill b) (Nat.le_trans ha m2.next) (by rw [List.length_append, h4, hx, Nat.add_mul, Nat.one_mul]) (.inl rfl), (m2.of_nil.kill (.inr (by simp))).new _, by simp⟩
    · refine ⟨_, _, _, fun β k => by simp only [appK, evApp]; rw [if_neg (show ¬ len + 1 ≤ len by omega), if_pos ⟨hb, h63⟩, h3]; simp only [Nat.zero_add]; rw [if_pos (Nat.le_of_eq h4.symm), List.drop_zero, ← h4, List.take_length], Grow.fresh (Nat.le_trans ha m2.next) (by rw [List.length_append, h4, hx, Nat.add_mul, Nat.one_mul]) (.inl rfl), (m2.new _).of_nil, by simp⟩

theorem Own.push {size bytes len : Nat} {cap : Cap} {vs : List AV} (o : Own a f c h) (hi : i < 12) (r : Arr f c i size len cap vs) {xs : List AV} (hx : xs.length = size) (hc : xs.all isCell = true) (h0 : 0 < size) (hb : (len + 1) * bytes ≤ 140737488355328) (h63 : len + 1 ≤ 9223372036854775807) :
    ∃ x cap' h', (∀ (β : Type) (k : Option (Nat × Nat) → Nat → Cap → H → Option β), appK size bytes (slP f i) len cap (evSrc size (.slice (some (h.next, 0)) 1 (.known 1)) (h.new (.cells xs false))) (h.new (.cells xs false)) k = k (some (x, 0)) (len + 1) cap' h') ∧
      h.next ≤ x ∧ Own a (up f i (some x)) (up c i (vs ++ xs)) h' ∧ Arr (up f i (some x)) (up c i (vs ++ xs)) i size (len + 1) cap' (vs ++ xs) ∧ Fr (foot f) h (foot (up f i (some x))) h' ∧ Mod (own (slP f i)) h h' := by
  obtain ⟨p', c', h', e, g, m, hn⟩ := (r.grow o).pushE (bytes := bytes) o.le hx hc h0 hb h63
  rcases g.look with ⟨_, h2, _⟩ | ⟨x, rfl, h1, h2, h3, h4, h5⟩
  · omega
  · obtain ⟨o', fr⟩ := o.put hi (hn x (by simp)) ⟨h2, h3⟩ m
    exact ⟨x, c', h', e, hn x (by simp), o', ⟨.inr ⟨x, up_self _ _ _, up_self _ _ _, h4, h5⟩⟩, fr, m⟩
end
end Go.Ev

/- The contract of strings.Join at this program: laid by the kit's shelf (lay-shelf, lay-plain). -/
namespace Go.Proofs
open Go.Shelf
def Tryd.lays156_ren : Go.Shelf.Ren := ⟨fun | 156 => 32 | 165 => 49 | 166 => 31 | 169 => 18 | 240 => 48 | 241 => 64 | 276 => 63 | 277 => 76 | n => n, fun | 31 => 36 | 9 => 9 | 3 => 3 | 4 => 4 | 0 => 0 | 20 => 20 | 72 => 51 | 76 => 85 | 70 => 48 | 37 => 49 | 75 => 84 | 127 => 93 | 164 => 121 | 5 => 5 | 80 => 39 | n => n, fun | n => n⟩
theorem Tryd.lays156 : Go.Proofs.Lays.n156 Tryd.prog Tryd.lays156_ren := {
  mixed := by kernel_rfl
  f156 := Tryd.func32.trans (congrArg some (by kernel_rfl))
  f165 := Tryd.func49.trans (congrArg some (by kernel_rfl))
  f166 := Tryd.func31.trans (congrArg some (by kernel_rfl))
  f169 := Tryd.func18.trans (congrArg some (by kernel_rfl))
  f240 := Tryd.func48.trans (congrArg some (by kernel_rfl))
  f241 := Tryd.func64.trans (congrArg some (by kernel_rfl))
  f276 := Tryd.func63.trans (congrArg some (by kernel_rfl))
  f277 := Tryd.func76.trans (congrArg some (by kernel_rfl))
  t0 := Tryd.underlying0
  a0 := Tryd.isAgg0
  z0 := Tryd.sizeOf0
  v0 := Tryd.zeroValue0
  t3 := Tryd.underlying3
  a3 := Tryd.isAgg3
  z3 := Tryd.sizeOf3
  v3 := Tryd.zeroValue3
  t4 := Tryd.underlying4
  a4 := Tryd.isAgg4
  z4 := Tryd.sizeOf4
  v4 := Tryd.zeroValue4
  t9 := Tryd.underlying9
  a9 := Tryd.isAgg9
  z9 := Tryd.sizeOf9
  v9 := Tryd.zeroValue9
  t20 := Tryd.underlying20
  a20 := Tryd.isAgg20
  z20 := Tryd.sizeOf20
  v20 := Tryd.zeroValue20
  t31 := Tryd.underlying36
  a31 := Tryd.isAgg36
  z31 := Tryd.sizeOf36
  v31 := Tryd.zeroValue36
  t37 := Tryd.underlying49
  a37 := Tryd.isAgg49
  z37 := Tryd.sizeOf49
  v37 := Tryd.zeroValue49
  t70 := Tryd.underlying48
  a70 := Tryd.isAgg48
  z70 := Tryd.sizeOf48
  v70 := Tryd.zeroValue48
  t72 := Tryd.underlying51
  a72 := Tryd.isAgg51
  z72 := Tryd.sizeOf51
  v72 := Tryd.zeroValue51
  t75 := Tryd.underlying84
  a75 := Tryd.isAgg84
  z75 := Tryd.sizeOf84
  v75 := Tryd.zeroValue84
  t76 := Tryd.underlying85
  a76 := Tryd.isAgg85
  z76 := Tryd.sizeOf85
  v76 := Tryd.zeroValue85
  t127 := Tryd.underlying93
  a127 := Tryd.isAgg93
  z127 := Tryd.sizeOf93
  v127 := Tryd.zeroValue93
  t164 := Tryd.underlying121
  a164 := Tryd.isAgg121
  z164 := Tryd.sizeOf121
  v164 := Tryd.zeroValue121 }
theorem Tryd.Builder_Extra_156 : Builder.Extra Tryd.prog Tryd.lays156_ren := {
  sizeBuilder := by kernel_rfl
  liesBuilder := by kernel_rfl
  t5 := Tryd.underlying5
  a5 := Tryd.isAgg5
  z5 := Tryd.sizeOf5
  v5 := Tryd.zeroValue5
  infoByte := by kernel_rfl
  cellsByte := by kernel_rfl
  sizeByte := by kernel_rfl
  neB5 := by decide }
open Go.RowKit in
theorem Tryd.strings_Join_none (a : Option Addr) (c : Nat) (sep : ByteArray) (w : World) :
    Calls Tryd.prog 32 #[.slice a 0 c, .string sep] w fun e w' => e = .returned (.string ⟨#[]⟩) ∧ w' = w := Any.strings_Join_none Tryd.lays156 Tryd.Builder_Extra_156 a c sep w
open Go.RowKit in
theorem Tryd.strings_Join (bk o c : Nat) (xs : List ByteArray) (sep : ByteArray) (w : World) (hcells : ∀ (j : Nat) x, xs[j]? = some x → w.cell? ⟨bk, o + j, none⟩ = some (.string x)) (hbk : bk < w.heap.size) (hN : xs.length ≤ 140737488355328) (hcap : xs.length ≤ c) (hlen : (Lib.join (xs.map (·.data.toList)) sep.data.toList).length ≤ 140737488355328) :
    Calls Tryd.prog 32 #[.slice (some ⟨bk, o, none⟩) xs.length c, .string sep] w fun e w' => e = .returned (.string ⟨(Lib.join (xs.map (·.data.toList)) sep.data.toList).toArray⟩) ∧ Below w.heap.size w w' := Any.strings_Join Tryd.lays156 Tryd.Builder_Extra_156 bk o c xs sep w hcells hbk hN hcap hlen

end Go.Proofs

/- The contract of strconv.Itoa at this program: laid by the kit's shelf (lay-shelf, lay-plain). -/
namespace Go.Proofs
open Go.Shelf
def Tryd.laysM171_ren : Go.Shelf.Ren := ⟨fun | 171 => 16 | 243 => 34 | 246 => 50 | 283 => 65 | 284 => 66 | 285 => 67 | 286 => 68 | 129 => 78 | 317 => 77 | 318 => 79 | 319 => 80 | 320 => 81 | 337 => 84 | 338 => 85 | n => n, fun | 3 => 3 | 9 => 9 | 2 => 2 | 4 => 4 | 171 => 123 | 0 => 0 | 53 => 124 | 37 => 49 | 5 => 5 | 173 => 127 | 212 => 136 | 51 => 137 | 20 => 20 | 213 => 138 | 46 => 88 | 232 => 143 | 233 => 144 | n => n, fun | 17 => 0 | 18 => 2 | 19 => 3 | n => n⟩
theorem Tryd.laysM171 : Go.Proofs.LaysM.n171 Tryd.prog Tryd.laysM171_ren := {
  mixed := by kernel_rfl
  f129 := Tryd.func78.trans (congrArg some (by kernel_rfl))
  f171 := Tryd.func16.trans (congrArg some (by kernel_rfl))
  f243 := Tryd.func34.trans (congrArg some (by kernel_rfl))
  f246 := Tryd.func50.trans (congrArg some (by kernel_rfl))
  f283 := Tryd.func65.trans (congrArg some (by kernel_rfl))
  f284 := Tryd.func66.trans (congrArg some (by kernel_rfl))
  f285 := Tryd.func67.trans (congrArg some (by kernel_rfl))
  f286 := Tryd.func68.trans (congrArg some (by kernel_rfl))
  f317 := Tryd.func77.trans (congrArg some (by kernel_rfl))
  f318 := Tryd.func79.trans (congrArg some (by kernel_rfl))
  f319 := Tryd.func80.trans (congrArg some (by kernel_rfl))
  f320 := Tryd.func81.trans (congrArg some (by kernel_rfl))
  f337 := Tryd.func84.trans (congrArg some (by kernel_rfl))
  f338 := Tryd.func85.trans (congrArg some (by kernel_rfl))
  t0 := Tryd.underlying0
  a0 := Tryd.isAgg0
  z0 := Tryd.sizeOf0
  v0 := Tryd.zeroValue0
  t2 := Tryd.underlying2
  a2 := Tryd.isAgg2
  z2 := Tryd.sizeOf2
  v2 := Tryd.zeroValue2
  t3 := Tryd.underlying3
  a3 := Tryd.isAgg3
  z3 := Tryd.sizeOf3
  v3 := Tryd.zeroValue3
  t4 := Tryd.underlying4
  a4 := Tryd.isAgg4
  z4 := Tryd.sizeOf4
  v4 := Tryd.zeroValue4
  t5 := Tryd.underlying5
  a5 := Tryd.isAgg5
  z5 := Tryd.sizeOf5
  v5 := Tryd.zeroValue5
  t9 := Tryd.underlying9
  a9 := Tryd.isAgg9
  z9 := Tryd.sizeOf9
  v9 := Tryd.zeroValue9
  t20 := Tryd.underlying20
  a20 := Tryd.isAgg20
  z20 := Tryd.sizeOf20
  v20 := Tryd.zeroValue20
  t37 := Tryd.underlying49
  a37 := Tryd.isAgg49
  z37 := Tryd.sizeOf49
  v37 := Tryd.zeroValue49
  t46 := Tryd.underlying88
  a46 := Tryd.isAgg88
  z46 := Tryd.sizeOf88
  v46 := Tryd.zeroValue88
  t51 := Tryd.underlying137
  a51 := Tryd.isAgg137
  z51 := Tryd.sizeOf137
  v51 := Tryd.zeroValue137
  t53 := Tryd.underlying124
  a53 := Tryd.isAgg124
  z53 := Tryd.sizeOf124
  v53 := Tryd.zeroValue124
  t171 := Tryd.underlying123
  a171 := Tryd.isAgg123
  z171 := Tryd.sizeOf123
  v171 := Tryd.zeroValue123
  t173 := Tryd.underlying127
  a173 := Tryd.isAgg127
  z173 := Tryd.sizeOf127
  v173 := Tryd.zeroValue127
  t212 := Tryd.underlying136
  a212 := Tryd.isAgg136
  z212 := Tryd.sizeOf136
  v212 := Tryd.zeroValue136
  t213 := Tryd.underlying138
  a213 := Tryd.isAgg138
  z213 := Tryd.sizeOf138
  t232 := Tryd.underlying143
  a232 := Tryd.isAgg143
  z232 := Tryd.sizeOf143
  v232 := Tryd.zeroValue143
  t233 := Tryd.underlying144
  a233 := Tryd.isAgg144
  z233 := Tryd.sizeOf144
  v233 := Tryd.zeroValue144
  g17 := by kernel_rfl
  g18 := by kernel_rfl
  g19 := by kernel_rfl
  i0 := by kernel_rfl
  i2 := by kernel_rfl
  i3 := by kernel_rfl
  i4 := by kernel_rfl
  i5 := by kernel_rfl
  i9 := by kernel_rfl
  i20 := by kernel_rfl
  i37 := by kernel_rfl
  i46 := by kernel_rfl
  i51 := by kernel_rfl
  i53 := by kernel_rfl
  i171 := by kernel_rfl
  i173 := by kernel_rfl
  i212 := by kernel_rfl
  i232 := by kernel_rfl
  i233 := by kernel_rfl
  m17 := by kernel_rfl
  m18 := by kernel_rfl
  m19 := by kernel_rfl }
open Go.RowKit Go.Sort Go.Lib in
theorem Tryd.strconv_Itoa (n : Int) (h0 : -9223372036854775808 ≤ n) (h1 : n ≤ 9223372036854775807) (w : World) (htab : Lib.TabIs Tryd.prog w "internal/strconv.uint64pow10" .u64 Lib.pow10Tab) :
    Calls Tryd.prog 16 #[.int .i64 n] w fun e w' => e = .returned (.string ⟨(Lib.itoa n).toArray⟩) ∧ ∃ k os, w' = grow (w.drewN k) os := Any.strconv_Itoa Tryd.laysM171 n h0 h1 w htab

end Go.Proofs

/- What the functions compute, printed by evprint.py. -/
set_option maxRecDepth 100000
set_option linter.all false
namespace Go.Ev.Tryd
open Go.Proofs

theorem mixed : Tryd.prog.follows .mixedOrders = true := by kernel_rfl

-- 16 strconv.Itoa
noncomputable def strconv_Itoa_16 (n : Nat) (a0 : Int) (h : H) : Option ((ByteArray) × H) := itoaF 0 a0 h
theorem strconv_Itoa_16_eq (n : Nat) (a0 : Int) (h : H) : strconv_Itoa_16 n a0 h = itoaF 0 a0 h := rfl
noncomputable def strconv_Itoa_16_E (n : Nat) : Entry Tryd.prog where
  id := 16
  run := fun args h k => lc args fun v1 l2 => asInt .i64 v1 fun x3 => l0 l2 ((strconv_Itoa_16 n x3 h).bind fun r => k (.str r.1) r.2)
  nat := by intro β args h k; simp only [lc_bind, l0_bind, asInt_bind, asBool_bind, asStr_bind, asPtr_bind, asSlice_bind, asMap_bind, asAgg_bind, asTup_bind, asFunc_bind, Option.bind_assoc, Option.bind_some]
  sound := by
    intro args h v h' e0
    obtain ⟨_, _, rfl, e1⟩ := lc_some e0
    obtain ⟨_, rfl, e2⟩ := asInt_some e1
    obtain ⟨rfl, e3⟩ := l0_some e2
    obtain ⟨r, hr, e4⟩ := Option.bind_eq_some_iff.1 e3
    cases e4
    exact itoaF_called (g := 0) Go.Proofs.Tryd.func16 (by kernel_rfl) (by kernel_rfl) (by kernel_rfl) (by kernel_rfl) Go.Proofs.Tryd.strconv_Itoa hr

-- 18 (*strings.Builder).String
noncomputable def strings_Builder_String_18 (n : Nat) (a0 : Option (Nat × Nat)) (h : H) : Option ((ByteArray) × H) := stF 53 5 a0 h
theorem strings_Builder_String_18_eq (n : Nat) (a0 : Option (Nat × Nat)) (h : H) : strings_Builder_String_18 n a0 h = stF 53 5 a0 h := rfl
noncomputable def strings_Builder_String_18_E (n : Nat) : Entry Tryd.prog where
  id := 18
  run := fun args h k => lc args fun v1 l2 => asPtr v1 fun x3 => l0 l2 ((strings_Builder_String_18 n x3 h).bind fun r => k (.str r.1) r.2)
  nat := by intro β args h k; simp only [lc_bind, l0_bind, asInt_bind, asBool_bind, asStr_bind, asPtr_bind, asSlice_bind, asMap_bind, asAgg_bind, asTup_bind, asFunc_bind, Option.bind_assoc, Option.bind_some]
  sound := by
    intro args h v h' e0
    obtain ⟨_, _, rfl, e1⟩ := lc_some e0
    obtain ⟨_, rfl, e2⟩ := asPtr_some e1
    obtain ⟨rfl, e3⟩ := l0_some e2
    obtain ⟨r, hr, e4⟩ := Option.bind_eq_some_iff.1 e3
    cases e4
    exact stF_called (T := 53) (ρ := Go.Proofs.Tryd.lays156_ren) ({ Go.Proofs.Tryd.lays156 with } : Go.Proofs.Lays.n169 Go.Proofs.Tryd.prog Go.Proofs.Tryd.lays156_ren) Go.Proofs.Tryd.Builder_Extra_156 Go.Proofs.Tryd.func18 (by kernel_rfl) (by kernel_rfl) hr

-- 31 (*strings.Builder).WriteString
noncomputable def strings_Builder_WriteString_31 (n : Nat) (a0 : Option (Nat × Nat)) (a1 : ByteArray) (h : H) : Option ((Int × AV) × H) := (wsF 53 5 a0 a1 h).bind fun h2 => some ((Nat.cast a1.size, AV.junk), h2)
theorem strings_Builder_WriteString_31_eq (n : Nat) (a0 : Option (Nat × Nat)) (a1 : ByteArray) (h : H) : strings_Builder_WriteString_31 n a0 a1 h = (wsF 53 5 a0 a1 h).bind fun h2 => some ((Nat.cast a1.size, AV.junk), h2) := rfl
noncomputable def strings_Builder_WriteString_31_E (n : Nat) : Entry Tryd.prog where
  id := 31
  run := fun args h k => lc args fun v1 l2 => asPtr v1 fun x3 => lc l2 fun v4 l5 => asStr v4 fun x6 => l0 l5 ((strings_Builder_WriteString_31 n x3 x6 h).bind fun r => k (.tup [(.int .i64 r.1.1), r.1.2]) r.2)
  nat := by intro β args h k; simp only [lc_bind, l0_bind, asInt_bind, asBool_bind, asStr_bind, asPtr_bind, asSlice_bind, asMap_bind, asAgg_bind, asTup_bind, asFunc_bind, Option.bind_assoc, Option.bind_some]
  sound := by
    intro args h v h' e0
    obtain ⟨_, _, rfl, e1⟩ := lc_some e0
    obtain ⟨_, rfl, e2⟩ := asPtr_some e1
    obtain ⟨_, _, rfl, e3⟩ := lc_some e2
    obtain ⟨_, rfl, e4⟩ := asStr_some e3
    obtain ⟨rfl, e5⟩ := l0_some e4
    obtain ⟨r, hr, e6⟩ := Option.bind_eq_some_iff.1 e5
    cases e6
    obtain ⟨h2, e9, e10⟩ := Option.bind_eq_some_iff.1 hr
    cases e10
    exact wsF_called (T := 53) (ρ := Go.Proofs.Tryd.lays156_ren) ({ Go.Proofs.Tryd.lays156 with } : Go.Proofs.Lays.n166 Go.Proofs.Tryd.prog Go.Proofs.Tryd.lays156_ren) Go.Proofs.Tryd.Builder_Extra_156 (by kernel_rfl) (show (53 : Nat) ≠ 5 by decide) Go.Proofs.Tryd.func31 (by kernel_rfl) (by kernel_rfl) e9

-- 32 strings.Join
noncomputable def strings_Join_32 (n : Nat) (a0_0 : Option (Nat × Nat)) (a0_1 : Nat) (a0_2 : Cap) (a1 : ByteArray) (h : H) : Option ((ByteArray) × H) := joinF a0_0 a0_1 a0_2 a1 h
theorem strings_Join_32_eq (n : Nat) (a0_0 : Option (Nat × Nat)) (a0_1 : Nat) (a0_2 : Cap) (a1 : ByteArray) (h : H) : strings_Join_32 n a0_0 a0_1 a0_2 a1 h = joinF a0_0 a0_1 a0_2 a1 h := rfl
noncomputable def strings_Join_32_E (n : Nat) : Entry Tryd.prog where
  id := 32
  run := fun args h k => lc args fun v1 l2 => asSlice v1 fun x3 n4 c5 => lc l2 fun v6 l7 => asStr v6 fun x8 => l0 l7 ((strings_Join_32 n x3 n4 c5 x8 h).bind fun r => k (.str r.1) r.2)
  nat := by intro β args h k; simp only [lc_bind, l0_bind, asInt_bind, asBool_bind, asStr_bind, asPtr_bind, asSlice_bind, asMap_bind, asAgg_bind, asTup_bind, asFunc_bind, Option.bind_assoc, Option.bind_some]
  sound := by
    intro args h v h' e0
    obtain ⟨_, _, rfl, e1⟩ := lc_some e0
    obtain ⟨_, _, _, rfl, e2⟩ := asSlice_some e1
    obtain ⟨_, _, rfl, e3⟩ := lc_some e2
    obtain ⟨_, rfl, e4⟩ := asStr_some e3
    obtain ⟨rfl, e5⟩ := l0_some e4
    obtain ⟨r, hr, e6⟩ := Option.bind_eq_some_iff.1 e5
    cases e6
    exact joinF_called Go.Proofs.Tryd.func32 (by kernel_rfl) (by kernel_rfl) Go.Proofs.Tryd.strings_Join_none Go.Proofs.Tryd.strings_Join hr

-- 92 internal/bytealg.CountString
noncomputable def bytealg_CountString_92 (n : Nat) (a0 : ByteArray) (a1 : Int) (h : H) : Option ((Int) × H) := some (countF a0 a1, h)
theorem bytealg_CountString_92_eq (n : Nat) (a0 : ByteArray) (a1 : Int) (h : H) : bytealg_CountString_92 n a0 a1 h = some (countF a0 a1, h) := rfl
noncomputable def bytealg_CountString_92_E (n : Nat) : Entry Tryd.prog where
  id := 92
  run := fun args h k => lc args fun v1 l2 => asStr v1 fun x3 => lc l2 fun v4 l5 => asInt .u8 v4 fun x6 => l0 l5 ((bytealg_CountString_92 n x3 x6 h).bind fun r => k (.int .i64 r.1) r.2)
  nat := by intro β args h k; simp only [lc_bind, l0_bind, asInt_bind, asBool_bind, asStr_bind, asPtr_bind, asSlice_bind, asMap_bind, asAgg_bind, asTup_bind, asFunc_bind, Option.bind_assoc, Option.bind_some]
  sound := by
    intro args h v h' e0
    obtain ⟨_, _, rfl, e1⟩ := lc_some e0
    obtain ⟨_, rfl, e2⟩ := asStr_some e1
    obtain ⟨_, _, rfl, e3⟩ := lc_some e2
    obtain ⟨_, rfl, e4⟩ := asInt_some e3
    obtain ⟨rfl, e5⟩ := l0_some e4
    obtain ⟨r, hr, e6⟩ := Option.bind_eq_some_iff.1 e5
    cases e6
    exact countF_called Go.Proofs.Tryd.func92 (by kernel_rfl) (by kernel_rfl) (by kernel_rfl) (by kernel_rfl) hr

-- 99 internal/bytealg.IndexByteString
noncomputable def bytealg_IndexByteString_99 (n : Nat) (a0 : ByteArray) (a1 : Int) (h : H) : Option ((Int) × H) := some (indexF a0 a1, h)
theorem bytealg_IndexByteString_99_eq (n : Nat) (a0 : ByteArray) (a1 : Int) (h : H) : bytealg_IndexByteString_99 n a0 a1 h = some (indexF a0 a1, h) := rfl
noncomputable def bytealg_IndexByteString_99_E (n : Nat) : Entry Tryd.prog where
  id := 99
  run := fun args h k => lc args fun v1 l2 => asStr v1 fun x3 => lc l2 fun v4 l5 => asInt .u8 v4 fun x6 => l0 l5 ((bytealg_IndexByteString_99 n x3 x6 h).bind fun r => k (.int .i64 r.1) r.2)
  nat := by intro β args h k; simp only [lc_bind, l0_bind, asInt_bind, asBool_bind, asStr_bind, asPtr_bind, asSlice_bind, asMap_bind, asAgg_bind, asTup_bind, asFunc_bind, Option.bind_assoc, Option.bind_some]
  sound := by
    intro args h v h' e0
    obtain ⟨_, _, rfl, e1⟩ := lc_some e0
    obtain ⟨_, rfl, e2⟩ := asStr_some e1
    obtain ⟨_, _, rfl, e3⟩ := lc_some e2
    obtain ⟨_, rfl, e4⟩ := asInt_some e3
    obtain ⟨rfl, e5⟩ := l0_some e4
    obtain ⟨r, hr, e6⟩ := Option.bind_eq_some_iff.1 e5
    cases e6
    exact indexF_called Go.Proofs.Tryd.func99 (by kernel_rfl) (by kernel_rfl) (by kernel_rfl) (by kernel_rfl) hr

end Go.Ev.Tryd

/- What the functions compute, printed by evprint2.py. -/
set_option maxRecDepth 100000
set_option linter.all false
namespace Go.Ev.Tryd
open Go.Proofs

def s_453d3d97 : Bs := ⟨#[110, 111, 100, 101, 32, 123, 10, 109, 97, 99, 32, 48, 50, 58, 48, 48, 58, 48, 48, 58, 48, 48, 58, 48, 48, 58, 48, 49, 10, 97, 100, 100, 114, 101, 115, 115, 32, 49, 48, 46, 48, 46, 48, 46, 49, 10, 112, 101, 101, 114, 32, 49, 48, 46, 48, 46, 48, 46, 50, 10, 125, 10, 118, 114, 114, 112, 32, 123, 10, 105, 100, 32, 55, 10, 112, 114, 105, 111, 114, 105, 116, 121, 32, 49, 48, 48, 10, 101, 118, 101, 114, 121, 32, 49, 48, 48, 10, 118, 105, 112, 32, 49, 48, 46, 48, 46, 48, 46, 49, 48, 48, 10, 125, 10]⟩
def s_68c4f033 : Bs := ⟨#[48, 49, 50, 51, 52, 53, 54, 55, 56, 57, 97, 98, 99, 100, 101, 102]⟩
def s_fdb5537d : Bs := ⟨#[48, 49, 50, 51, 52, 53, 54, 55, 56, 57, 97, 98, 99, 100, 101, 102, 103, 104, 105, 106, 107, 108, 109, 110, 111, 112, 113, 114, 115, 116, 117, 118, 119, 120, 121, 122]⟩
def i_outriderlaw18_ConfigSpaced : Nat := 3
def i_outriderlaw18_alive : Nat := 6
def i_config_Parse : Nat := 7
def i_config_Print : Nat := 8
def i_outriderlaw18_sample : Nat := 9
def i_words_All : Nat := 10
def i_config_parser_all : Nat := 11
def i_config_writer_say : Nat := 12
def i_words_CardText : Nat := 13
def i_words_AddressText : Nat := 14
def i_config_writer_count : Nat := 15
def i_strconv_Itoa : Nat := 16
def i_config_writer_service : Nat := 17
def i_strings_Builder_String : Nat := 18
def i_words_reader_end : Nat := 19
def i_words_reader_stop : Nat := 20
def i_words_may : Nat := 21
def i_words_reader_take : Nat := 22
def i_config_once : Nat := 23
def i_config_parser_node : Nat := 24
def i_config_parser_vrrp : Nat := 25
def i_config_parser_service : Nat := 26
def i_config_parser_place : Nat := 27
def i_config_parser_peek : Nat := 28
def i_config_parser_fail : Nat := 29
def i_api_Addr : Nat := 30
def i_strings_Builder_WriteString : Nat := 31
def i_strings_Join : Nat := 32
def i_strconv_FormatInt : Nat := 33
def i_config_pick : Nat := 35
def i_config_parser_block : Nat := 36
def i_config_parser_card : Nat := 37
def i_config_parser_address : Nat := 38
def i_config_into : Nat := 39
def i_config_parser_number : Nat := 40
def i_config_parser_choice : Nat := 41
def i_config_parser_vip : Nat := 42
def i_config_parser_track : Nat := 43
def i_config_parser_named : Nat := 44
def i_config_parser_service_1 : Nat := 45
def i_config_parser_backend : Nat := 46
def i_api_Addr_2 : Nat := 47
def i_strconv_FormatInt_2 : Nat := 50
def i_config_parser_must : Nat := 51
def i_config_parser_card_1 : Nat := 52
def i_config_parser_value : Nat := 53
def i_words_Card : Nat := 54
def i_config_parser_address_1 : Nat := 55
def i_words_Address : Nat := 56
def i_config_into_1 : Nat := 57
def i_config_parser_number_1 : Nat := 58
def i_words_Number : Nat := 59
def i_config_parser_choice_1 : Nat := 60
def i_strings_CutPrefix : Nat := 61
def i_slices_Contains_string_string : Nat := 62
def i_strconv_formatBits : Nat := 68
def i_words_groups : Nat := 69
def i_words_Card_1 : Nat := 70
def i_words_hex : Nat := 71
def i_words_Address_1 : Nat := 72
def i_words_Address_2 : Nat := 73
def i_stringslite_CutPrefix : Nat := 74
def i_slices_Index_string_string : Nat := 75
def i_strconv_isPowerOfTwo : Nat := 80
def i_bits_TrailingZeros : Nat := 81
def i_strings_Split : Nat := 82
def i_stringslite_HasPrefix : Nat := 83
def i_bits_TrailingZeros64 : Nat := 85
def i_strings_genSplit : Nat := 86
def i_strings_explode : Nat := 87
def i_strings_Count : Nat := 88
def i_strings_Index : Nat := 89
def i_utf8_RuneCountInString : Nat := 90
def i_bytealg_CountString : Nat := 92
def i_stringslite_Index : Nat := 93
def i_stringslite_IndexByte : Nat := 95
def i_bytealg_IndexByteString : Nat := 99
noncomputable def e_outriderlaw18_ConfigSpaced : FEnt Tryd.prog := ⟨3, Tryd.f3, [(13, [0, 1, 21]), (7475, [0, 1, 24, 25, 37])], [(58, [0, 1, 24, 25]), (250, [0, 1, 6, 41, 42])], Go.Proofs.Tryd.func3, by kernel_rfl, by kernel_rfl⟩
noncomputable def e_outriderlaw18_ConfigNeeds : FEnt Tryd.prog := ⟨4, Tryd.f4, [(16353, [8, 9, 10, 11, 73]), (65505, [10, 11, 12, 86])], [(2044, [8, 9, 10, 11]), (8188, [10, 11, 12])], Go.Proofs.Tryd.func4, by kernel_rfl, by kernel_rfl⟩
noncomputable def e_outriderlaw18_ConfigTwice : FEnt Tryd.prog := ⟨5, Tryd.f5, [], [], Go.Proofs.Tryd.func5, by kernel_rfl, by kernel_rfl⟩
noncomputable def e_outriderlaw18_alive : FEnt Tryd.prog := ⟨6, Tryd.f6, [], [], Go.Proofs.Tryd.func6, by kernel_rfl, by kernel_rfl⟩
noncomputable def e_config_Parse : FEnt Tryd.prog := ⟨7, Tryd.f7, [], [], Go.Proofs.Tryd.func7, by kernel_rfl, by kernel_rfl⟩
noncomputable def e_config_Print : FEnt Tryd.prog := ⟨8, Tryd.f8, [(16383, [1, 3, 4])], [(262138, [1, 3, 59, 60, 61]), (524282, [1, 3, 72, 73, 74]), (2097146, [3, 91, 92, 93])], Go.Proofs.Tryd.func8, by kernel_rfl, by kernel_rfl⟩
noncomputable def e_outriderlaw18_sample : FEnt Tryd.prog := ⟨9, Tryd.f9, [], [], Go.Proofs.Tryd.func9, by kernel_rfl, by kernel_rfl⟩
noncomputable def e_words_All : FEnt Tryd.prog := ⟨10, Tryd.f10, [(119607, [0, 5, 6, 7, 13, 14, 34])], [(58, [0, 5, 13, 14])], Go.Proofs.Tryd.func10, by kernel_rfl, by kernel_rfl⟩
noncomputable def e_config_parser_all : FEnt Tryd.prog := ⟨11, Tryd.f11, [(125, [0, 98]), (61799, [0, 3, 4, 5, 6, 7, 51]), (130355, [0, 12, 133, 134, 135, 151])], [(60, [0, 3, 4]), (506, [0, 109, 110, 111]), (1018, [0, 133, 134, 135])], Go.Proofs.Tryd.func11, by kernel_rfl, by kernel_rfl⟩
noncomputable def e_config_writer_say : FEnt Tryd.prog := ⟨12, Tryd.f12, [], [], Go.Proofs.Tryd.func12, by kernel_rfl, by kernel_rfl⟩
noncomputable def e_words_CardText : FEnt Tryd.prog := ⟨13, Tryd.f13, [], [(58, [3, 6, 7])], Go.Proofs.Tryd.func13, by kernel_rfl, by kernel_rfl⟩
noncomputable def e_words_AddressText : FEnt Tryd.prog := ⟨14, Tryd.f14, [], [(1874, [3, 12, 13, 14]), (7538, [0, 3, 6])], Go.Proofs.Tryd.func14, by kernel_rfl, by kernel_rfl⟩
noncomputable def e_config_writer_count : FEnt Tryd.prog := ⟨15, Tryd.f15, [], [], Go.Proofs.Tryd.func15, by kernel_rfl, by kernel_rfl⟩
noncomputable def e_config_writer_service : FEnt Tryd.prog := ⟨17, Tryd.f17, [(31, [0, 3, 4]), (67103135, [0, 6, 56, 57, 58])], [(65530, [0, 56, 57, 58])], Go.Proofs.Tryd.func17, by kernel_rfl, by kernel_rfl⟩
noncomputable def e_words_reader_end : FEnt Tryd.prog := ⟨19, Tryd.f19, [], [], Go.Proofs.Tryd.func19, by kernel_rfl, by kernel_rfl⟩
noncomputable def e_words_reader_stop : FEnt Tryd.prog := ⟨20, Tryd.f20, [(3, [0])], [], Go.Proofs.Tryd.func20, by kernel_rfl, by kernel_rfl⟩
noncomputable def e_words_may : FEnt Tryd.prog := ⟨21, Tryd.f21, [], [], Go.Proofs.Tryd.func21, by kernel_rfl, by kernel_rfl⟩
noncomputable def e_words_reader_take : FEnt Tryd.prog := ⟨22, Tryd.f22, [(3711, [0, 1, 2, 7, 31]), (14847, [0, 2, 7, 45])], [], Go.Proofs.Tryd.func22, by kernel_rfl, by kernel_rfl⟩
noncomputable def e_config_once : FEnt Tryd.prog := ⟨23, Tryd.f23, [], [], Go.Proofs.Tryd.func23, by kernel_rfl, by kernel_rfl⟩
noncomputable def e_config_parser_node : FEnt Tryd.prog := ⟨24, Tryd.f24, [], [], Go.Proofs.Tryd.func24, by kernel_rfl, by kernel_rfl⟩
noncomputable def e_config_parser_vrrp : FEnt Tryd.prog := ⟨25, Tryd.f25, [], [], Go.Proofs.Tryd.func25, by kernel_rfl, by kernel_rfl⟩
noncomputable def e_config_parser_service : FEnt Tryd.prog := ⟨26, Tryd.f26, [], [(58, [1, 3, 14, 15, 16])], Go.Proofs.Tryd.func26, by kernel_rfl, by kernel_rfl⟩
noncomputable def e_config_parser_place : FEnt Tryd.prog := ⟨27, Tryd.f27, [], [], Go.Proofs.Tryd.func27, by kernel_rfl, by kernel_rfl⟩
noncomputable def e_config_parser_peek : FEnt Tryd.prog := ⟨28, Tryd.f28, [], [], Go.Proofs.Tryd.func28, by kernel_rfl, by kernel_rfl⟩
noncomputable def e_config_parser_fail : FEnt Tryd.prog := ⟨29, Tryd.f29, [], [], Go.Proofs.Tryd.func29, by kernel_rfl, by kernel_rfl⟩
noncomputable def e_api_Addr : FEnt Tryd.prog := ⟨30, Tryd.f30, [], [], Go.Proofs.Tryd.func30, by kernel_rfl, by kernel_rfl⟩
noncomputable def e_strconv_FormatInt : FEnt Tryd.prog := ⟨33, Tryd.f33, [], [], Go.Proofs.Tryd.func33, by kernel_rfl, by kernel_rfl⟩
noncomputable def e_config_pick : FEnt Tryd.prog := ⟨35, Tryd.f35, [(13, [0, 1, 12])], [], Go.Proofs.Tryd.func35, by kernel_rfl, by kernel_rfl⟩
noncomputable def e_config_parser_block : FEnt Tryd.prog := ⟨36, Tryd.f36, [(25, [0, 1, 19]), (56987, [0, 5, 81, 94]), (450975, [0, 1, 5, 6, 7, 8, 40])], [(220, [0, 1, 5]), (890, [0, 5, 81])], Go.Proofs.Tryd.func36, by kernel_rfl, by kernel_rfl⟩
noncomputable def e_config_parser_card : FEnt Tryd.prog := ⟨37, Tryd.f37, [], [], Go.Proofs.Tryd.func37, by kernel_rfl, by kernel_rfl⟩
noncomputable def e_config_parser_address : FEnt Tryd.prog := ⟨38, Tryd.f38, [], [], Go.Proofs.Tryd.func38, by kernel_rfl, by kernel_rfl⟩
noncomputable def e_config_into : FEnt Tryd.prog := ⟨39, Tryd.f39, [], [], Go.Proofs.Tryd.func39, by kernel_rfl, by kernel_rfl⟩
noncomputable def e_config_parser_number : FEnt Tryd.prog := ⟨40, Tryd.f40, [], [], Go.Proofs.Tryd.func40, by kernel_rfl, by kernel_rfl⟩
noncomputable def e_config_parser_choice : FEnt Tryd.prog := ⟨41, Tryd.f41, [], [], Go.Proofs.Tryd.func41, by kernel_rfl, by kernel_rfl⟩
noncomputable def e_config_parser_vip : FEnt Tryd.prog := ⟨42, Tryd.f42, [], [], Go.Proofs.Tryd.func42, by kernel_rfl, by kernel_rfl⟩
noncomputable def e_config_parser_track : FEnt Tryd.prog := ⟨43, Tryd.f43, [(4093, [0, 6, 9, 11, 12, 65]), (4095, [0, 6, 12])], [(58, [0, 3, 18, 19, 20])], Go.Proofs.Tryd.func43, by kernel_rfl, by kernel_rfl⟩
noncomputable def e_config_parser_named : FEnt Tryd.prog := ⟨44, Tryd.f44, [], [], Go.Proofs.Tryd.func44, by kernel_rfl, by kernel_rfl⟩
noncomputable def e_config_parser_service_1 : FEnt Tryd.prog := ⟨45, Tryd.f45, [], [], Go.Proofs.Tryd.func45, by kernel_rfl, by kernel_rfl⟩
noncomputable def e_config_parser_backend : FEnt Tryd.prog := ⟨46, Tryd.f46, [], [(58, [0, 1, 5, 15, 16, 17])], Go.Proofs.Tryd.func46, by kernel_rfl, by kernel_rfl⟩
noncomputable def e_api_Addr_2 : FEnt Tryd.prog := ⟨47, Tryd.f47, [], [(26, [0, 1, 7, 8])], Go.Proofs.Tryd.func47, by kernel_rfl, by kernel_rfl⟩
noncomputable def e_strconv_FormatInt_2 : FEnt Tryd.prog := ⟨50, Tryd.f50, [(105, [0, 17]), (431, [0, 5, 6])], [], Go.Proofs.Tryd.func50, by kernel_rfl, by kernel_rfl⟩
noncomputable def e_config_parser_must : FEnt Tryd.prog := ⟨51, Tryd.f51, [], [], Go.Proofs.Tryd.func51, by kernel_rfl, by kernel_rfl⟩
noncomputable def e_config_parser_card_1 : FEnt Tryd.prog := ⟨52, Tryd.f52, [], [], Go.Proofs.Tryd.func52, by kernel_rfl, by kernel_rfl⟩
noncomputable def e_config_parser_value : FEnt Tryd.prog := ⟨53, Tryd.f53, [(29, [0, 5, 6, 24])], [], Go.Proofs.Tryd.func53, by kernel_rfl, by kernel_rfl⟩
noncomputable def e_words_Card : FEnt Tryd.prog := ⟨54, Tryd.f54, [(29, [2, 4, 17])], [], Go.Proofs.Tryd.func54, by kernel_rfl, by kernel_rfl⟩
noncomputable def e_config_parser_address_1 : FEnt Tryd.prog := ⟨55, Tryd.f55, [], [], Go.Proofs.Tryd.func55, by kernel_rfl, by kernel_rfl⟩
noncomputable def e_words_Address : FEnt Tryd.prog := ⟨56, Tryd.f56, [(29, [0, 4, 17]), (125, [6, 30])], [], Go.Proofs.Tryd.func56, by kernel_rfl, by kernel_rfl⟩
noncomputable def e_config_into_1 : FEnt Tryd.prog := ⟨57, Tryd.f57, [], [], Go.Proofs.Tryd.func57, by kernel_rfl, by kernel_rfl⟩
noncomputable def e_config_parser_number_1 : FEnt Tryd.prog := ⟨58, Tryd.f58, [(487, [0, 3, 6, 8, 24])], [], Go.Proofs.Tryd.func58, by kernel_rfl, by kernel_rfl⟩
noncomputable def e_words_Number : FEnt Tryd.prog := ⟨59, Tryd.f59, [(13, [0, 22]), (15669, [4, 6, 24, 33])], [(122, [4, 24])], Go.Proofs.Tryd.func59, by kernel_rfl, by kernel_rfl⟩
noncomputable def e_config_parser_choice_1 : FEnt Tryd.prog := ⟨60, Tryd.f60, [], [], Go.Proofs.Tryd.func60, by kernel_rfl, by kernel_rfl⟩
noncomputable def e_strings_CutPrefix : FEnt Tryd.prog := ⟨61, Tryd.f61, [], [], Go.Proofs.Tryd.func61, by kernel_rfl, by kernel_rfl⟩
noncomputable def e_slices_Contains_string_string : FEnt Tryd.prog := ⟨62, Tryd.f62, [], [], Go.Proofs.Tryd.func62, by kernel_rfl, by kernel_rfl⟩
noncomputable def e_strconv_small : FEnt Tryd.prog := ⟨65, Tryd.f65, [], [], Go.Proofs.Tryd.func65, by kernel_rfl, by kernel_rfl⟩
noncomputable def e_strconv_numDigits : FEnt Tryd.prog := ⟨66, Tryd.f66, [], [], Go.Proofs.Tryd.func66, by kernel_rfl, by kernel_rfl⟩
noncomputable def e_strconv_formatBase10 : FEnt Tryd.prog := ⟨67, Tryd.f67, [(31, [0, 4, 12]), (63, [0, 4, 12])], [(12, [0, 1, 4])], Go.Proofs.Tryd.func67, by kernel_rfl, by kernel_rfl⟩
noncomputable def e_strconv_formatBits : FEnt Tryd.prog := ⟨68, Tryd.f68, [(7, [0, 1, 2, 3, 4, 10, 11]), (13, [0, 1, 2, 3, 4, 10, 11, 28]), (63, [0, 1, 2, 3, 4, 10, 11, 12, 13]), (127, [0, 3, 4, 10, 11, 12, 13]), (255, [0, 4, 10, 11, 12, 13])], [(4060, [0, 1, 3, 4, 10, 11, 12, 13, 17]), (16220, [0, 1, 3, 4, 10, 11, 12, 13, 14, 15, 16])], Go.Proofs.Tryd.func68, by kernel_rfl, by kernel_rfl⟩
noncomputable def e_words_groups : FEnt Tryd.prog := ⟨69, Tryd.f69, [], [(58, [2, 3, 10, 18, 19, 20]), (59806, [2, 3, 10, 13, 15, 18, 19, 20])], Go.Proofs.Tryd.func69, by kernel_rfl, by kernel_rfl⟩
noncomputable def e_words_Card_1 : FEnt Tryd.prog := ⟨70, Tryd.f70, [], [], Go.Proofs.Tryd.func70, by kernel_rfl, by kernel_rfl⟩
noncomputable def e_words_hex : FEnt Tryd.prog := ⟨71, Tryd.f71, [(3739, [0, 1, 2, 8, 12]), (14953, [0, 1, 2, 8, 10, 12, 16]), (59815, [0, 1, 2, 8, 10, 12, 29])], [(58, [0, 1, 2, 8, 12])], Go.Proofs.Tryd.func71, by kernel_rfl, by kernel_rfl⟩
noncomputable def e_words_Address_1 : FEnt Tryd.prog := ⟨72, Tryd.f72, [], [], Go.Proofs.Tryd.func72, by kernel_rfl, by kernel_rfl⟩
noncomputable def e_words_Address_2 : FEnt Tryd.prog := ⟨73, Tryd.f73, [], [], Go.Proofs.Tryd.func73, by kernel_rfl, by kernel_rfl⟩
noncomputable def e_stringslite_CutPrefix : FEnt Tryd.prog := ⟨74, Tryd.f74, [], [], Go.Proofs.Tryd.func74, by kernel_rfl, by kernel_rfl⟩
noncomputable def e_slices_Index_string_string : FEnt Tryd.prog := ⟨75, Tryd.f75, [], [(26, [0, 1, 7, 8])], Go.Proofs.Tryd.func75, by kernel_rfl, by kernel_rfl⟩
noncomputable def e_strconv_log10Pow2 : FEnt Tryd.prog := ⟨77, Tryd.f77, [], [], Go.Proofs.Tryd.func77, by kernel_rfl, by kernel_rfl⟩
noncomputable def e_bits_Len64 : FEnt Tryd.prog := ⟨78, Tryd.f78, [(7, [0, 2]), (15, [0, 2]), (31, [0, 2])], [], Go.Proofs.Tryd.func78, by kernel_rfl, by kernel_rfl⟩
noncomputable def e_strconv_bool2_int : FEnt Tryd.prog := ⟨79, Tryd.f79, [], [], Go.Proofs.Tryd.func79, by kernel_rfl, by kernel_rfl⟩
noncomputable def e_strconv_isPowerOfTwo : FEnt Tryd.prog := ⟨80, Tryd.f80, [], [], Go.Proofs.Tryd.func80, by kernel_rfl, by kernel_rfl⟩
noncomputable def e_bits_TrailingZeros : FEnt Tryd.prog := ⟨81, Tryd.f81, [], [], Go.Proofs.Tryd.func81, by kernel_rfl, by kernel_rfl⟩
noncomputable def e_strings_Split : FEnt Tryd.prog := ⟨82, Tryd.f82, [], [], Go.Proofs.Tryd.func82, by kernel_rfl, by kernel_rfl⟩
noncomputable def e_stringslite_HasPrefix : FEnt Tryd.prog := ⟨83, Tryd.f83, [], [], Go.Proofs.Tryd.func83, by kernel_rfl, by kernel_rfl⟩
noncomputable def e_bits_TrailingZeros32 : FEnt Tryd.prog := ⟨84, Tryd.f84, [], [], Go.Proofs.Tryd.func84, by kernel_rfl, by kernel_rfl⟩
noncomputable def e_bits_TrailingZeros64 : FEnt Tryd.prog := ⟨85, Tryd.f85, [], [], Go.Proofs.Tryd.func85, by kernel_rfl, by kernel_rfl⟩
noncomputable def e_strings_genSplit : FEnt Tryd.prog := ⟨86, Tryd.f86, [(31, [0, 1, 2, 3]), (1023, [0, 9, 10])], [(2044, [0, 1, 2, 3, 9, 10])], Go.Proofs.Tryd.func86, by kernel_rfl, by kernel_rfl⟩
noncomputable def e_strings_explode : FEnt Tryd.prog := ⟨87, Tryd.f87, [(15, [0, 1]), (29, [0, 1, 5, 18])], [(250, [0, 1, 6, 7])], Go.Proofs.Tryd.func87, by kernel_rfl, by kernel_rfl⟩
noncomputable def e_strings_Count : FEnt Tryd.prog := ⟨88, Tryd.f88, [], [(62, [0, 1, 5])], Go.Proofs.Tryd.func88, by kernel_rfl, by kernel_rfl⟩
noncomputable def e_strings_Index : FEnt Tryd.prog := ⟨89, Tryd.f89, [], [], Go.Proofs.Tryd.func89, by kernel_rfl, by kernel_rfl⟩
noncomputable def e_utf8_RuneCountInString : FEnt Tryd.prog := ⟨90, Tryd.f90, [], [(26, [2, 4])], Go.Proofs.Tryd.func90, by kernel_rfl, by kernel_rfl⟩
noncomputable def e_utf8_DecodeRuneInString : FEnt Tryd.prog := ⟨91, Tryd.f91, [(13, [0, 10])], [], Go.Proofs.Tryd.func91, by kernel_rfl, by kernel_rfl⟩
noncomputable def e_stringslite_Index : FEnt Tryd.prog := ⟨93, Tryd.f93, [(57, [0, 1, 5, 16]), (3711, [0, 1, 5, 36]), (32709, [0, 1, 5, 6, 7, 8, 9, 10]), (130837, [0, 1, 5, 6, 7, 8, 9, 10, 93]), (523359, [0, 1, 5, 6, 7, 8, 9, 10, 107]), (2093439, [0, 1, 5, 6, 7, 8, 9, 10, 132])], [(2044, [0, 1, 5, 6, 7, 8, 9, 10])], Go.Proofs.Tryd.func93, by kernel_rfl, by kernel_rfl⟩
noncomputable def e_utf8_decodeRuneInStringSlow : FEnt Tryd.prog := ⟨94, Tryd.f94, [(8189, [0, 5, 8, 10, 57]), (65533, [0, 5, 8, 10, 11, 75]), (524285, [5, 10, 11, 12, 98])], [], Go.Proofs.Tryd.func94, by kernel_rfl, by kernel_rfl⟩
noncomputable def e_stringslite_IndexByte : FEnt Tryd.prog := ⟨95, Tryd.f95, [], [], Go.Proofs.Tryd.func95, by kernel_rfl, by kernel_rfl⟩
noncomputable def e_bytealg_Cutover : FEnt Tryd.prog := ⟨97, Tryd.f97, [], [], Go.Proofs.Tryd.func97, by kernel_rfl, by kernel_rfl⟩
noncomputable def e_bytealg_IndexRabinKarp_string : FEnt Tryd.prog := ⟨98, Tryd.f98, [(253, [0, 1, 5, 6, 7, 8, 39]), (260703, [0, 1, 5, 6, 7, 8, 10, 77])], [(250, [0, 1, 5, 6, 7, 8, 9]), (1018, [0, 1, 5, 6, 7, 8, 10])], Go.Proofs.Tryd.func98, by kernel_rfl, by kernel_rfl⟩
noncomputable def e_bytealg_hashStr_string : FEnt Tryd.prog := ⟨100, Tryd.f100, [], [(58, [0, 4, 5]), (250, [4, 6, 7, 8])], Go.Proofs.Tryd.func100, by kernel_rfl, by kernel_rfl⟩
noncomputable def T : TabR Tryd.prog := ⟨⟨[e_config_Print, e_outriderlaw18_sample, e_words_All, e_config_writer_say, e_words_CardText, e_words_AddressText, e_config_writer_count, e_config_writer_service, e_words_reader_end, e_words_reader_stop, e_words_may, e_words_reader_take, e_config_once, e_config_parser_place, e_config_parser_peek, e_config_parser_fail, e_api_Addr, e_strconv_FormatInt, e_config_pick, e_config_parser_card, e_config_parser_address, e_config_into, e_config_parser_number, e_config_parser_choice, e_config_parser_vip, e_config_parser_track, e_config_parser_named, e_api_Addr_2, e_strconv_FormatInt_2, e_config_parser_must, e_config_parser_card_1, e_config_parser_value, e_words_Card, e_config_parser_address_1, e_words_Address, e_config_into_1, e_config_parser_number_1, e_words_Number, e_config_parser_choice_1, e_strings_CutPrefix, e_slices_Contains_string_string, e_strconv_small, e_strconv_numDigits, e_strconv_formatBase10, e_strconv_formatBits, e_words_groups, e_words_Card_1, e_words_hex, e_words_Address_1, e_words_Address_2, e_stringslite_CutPrefix, e_slices_Index_string_string, e_strconv_log10Pow2, e_bits_Len64, e_strconv_bool2_int, e_strconv_isPowerOfTwo, e_bits_TrailingZeros, e_strings_Split, e_stringslite_HasPrefix, e_bits_TrailingZeros32, e_bits_TrailingZeros64, e_strings_genSplit, e_strings_explode, e_strings_Count, e_strings_Index, e_utf8_RuneCountInString, e_utf8_DecodeRuneInString, e_stringslite_Index, e_utf8_decodeRuneInStringSlow, e_stringslite_IndexByte, e_bytealg_Cutover, e_bytealg_IndexRabinKarp_string, e_bytealg_hashStr_string], (fun n => tableOf [strconv_Itoa_16_E n, strings_Builder_String_18_E n, strings_Builder_WriteString_31_E n, strings_Join_32_E n, bytealg_CountString_92_E n, bytealg_IndexByteString_99_E n]), (fun n => tableOf_sound _), [(3, [4]), (4, [4]), (5, [4]), (6, [4]), (7, [30, 3, 31]), (8, [9]), (9, [9]), (10, [40, 3, 31]), (11, [4]), (12, []), (13, [9]), (14, [9]), (15, []), (16, [9]), (17, []), (18, [9]), (19, [4]), (20, []), (21, [4]), (22, [4]), (23, [73]), (24, [4]), (25, [4]), (26, [4]), (27, [3]), (28, [9]), (29, [4]), (30, [4]), (31, [3, 84]), (32, [9]), (33, [9]), (35, [9]), (36, [4]), (37, [22]), (38, [22]), (39, [100]), (40, [22]), (41, [22]), (42, [4]), (43, [4]), (44, [9, 4]), (45, [4]), (46, [4]), (47, [3]), (50, [9]), (51, [4]), (52, [4]), (53, [9, 3, 4]), (54, [24, 4]), (55, [4]), (56, [25, 4]), (57, [4]), (58, [4]), (59, [3, 4]), (60, [4]), (61, [9, 4]), (62, [4]), (65, [9]), (66, [3]), (67, []), (68, [49, 9]), (69, [49, 4]), (70, [3, 4]), (71, [3, 4]), (72, [3, 4]), (73, [3, 4]), (74, [9, 4]), (75, [3]), (77, [3]), (78, [3]), (79, [3]), (80, [4]), (81, [3]), (82, [36]), (83, [4]), (84, [3]), (85, [3]), (86, [36]), (87, [36]), (88, [3]), (89, [3]), (90, [3]), (91, [21, 3]), (92, [3]), (93, [3]), (94, [21, 3]), (95, [3]), (96, [3]), (97, [3]), (98, [3]), (99, [3]), (100, [137, 137])]⟩, [e_outriderlaw18_ConfigSpaced, e_outriderlaw18_ConfigNeeds, e_outriderlaw18_ConfigTwice, e_outriderlaw18_alive, e_config_Parse, e_config_parser_all, e_config_parser_node, e_config_parser_vrrp, e_config_parser_service, e_config_parser_block, e_config_parser_service_1, e_config_parser_backend]⟩
noncomputable abbrev cr : Nat → CallR := callR T
abbrev KK := AV → H → Option Unit
noncomputable abbrev ca : Nat → CallFn := callF T.toTab
abbrev R := Option (AV × H)
end Go.Ev.Tryd

/- What the functions compute, printed by evprint2.py. -/
set_option maxRecDepth 100000
set_option linter.all false
namespace Go.Ev.Tryd
open Go.Proofs

-- 26 (*outrider/config.parser).service
noncomputable def config_parser_service_L0 (n m1 : Nat) (a1 a3_0 : Pt) (a3_1 : Nat) (a3_2 : Cap) (a14_0 : Pt) (a14_1 : Nat) (a14_2 : Cap) (a15 a16 : Int) (h : H) (kk : KK) : Option Unit := JR T n e_config_parser_service [1, 1, 0, 1, 0] [m1] [(1, (.ptr a1)), (3, (.slice a3_0 a3_1 a3_2)), (14, (.slice a14_0 a14_1 a14_2)), (15, (.int .i64 a15)), (16, (.int .i64 a16))] h kk
theorem config_parser_service_L0_eq (n m1 : Nat) (a1 a3_0 : Pt) (a3_1 : Nat) (a3_2 : Cap) (a14_0 : Pt) (a14_1 : Nat) (a14_2 : Cap) (a15 a16 : Int) (h : H) (kk : KK) : config_parser_service_L0 n (m1 + 1) a1 a3_0 a3_1 a3_2 a14_0 a14_1 a14_2 a15 a16 h kk = cond (decide (a16 < a15)) (if 0 ≤ (a16 : Int) ∧ a16 < (Nat.cast (a14_1) : Int) then nnK a14_0 fun b11 o12 => aggK h b11 (o12 + a16.toNat * 10) 10 fun l13 => lS l13 fun x15 l14 => lS l14 fun x17 l16 => lI l16 fun x19 l18 => lI l18 fun x21 l20 => lI l20 fun x23 l22 => lI l22 fun x25 l24 => lI l24 fun x27 l26 => lI l26 fun x29 l28 => lI l28 fun x31 l30 => lL l30 fun x33 n34 c35 l32 => l0 l32 (newK (.cells [(.str .empty), (.str .empty), (.int .i64 0), (.int .i64 0), (.int .i64 0), (.int .i64 0), (.int .i64 0), (.int .i64 0), (.int .i64 0), (.slice none 0 (.known 0))] false) h fun i36 h37 => wrK h37 i36 0 10 [(.str x15), (.str x17), (.int .i64 x19), (.int .i64 x21), (.int .i64 x23), (.int .i64 x25), (.int .i64 x27), (.int .i64 x29), (.int .i64 x31), (.slice x33 n34 c35)] fun h38 => cellK h38 i36 0 fun v39 => asStr v39 fun x40 => newK (.cells [(.str x40)] false) h38 fun i41 h42 => appK 1 16 a3_0 a3_1 a3_2 (evSrc 1 (.slice (some (i41, 0)) 1 (.known 1)) h42) h42 fun p43 n44 c45 h46 => config_parser_service_L0 n m1 a1 p43 n44 c45 a14_0 a14_1 a14_2 a15 (IntKind.i64.wrap (a16 + 1)) h46 kk) else none) (nnK a1 fun b47 o48 => cellK h b47 o48 fun v49 => asPtr v49 fun x50 => (ca n i_config_parser_named [(.ptr x50), (.slice a3_0 a3_1 a3_2)] h).bind fun q51 => asTup q51.1 fun l52 => lS l52 fun x54 l53 => lB l53 fun x56 l55 => l0 l55 (cond (!x56) (kk (.bool false) q51.2) (newK (.cells [(.str x54), (.str .empty), (.int .i64 0), (.int .i64 0), (.int .i64 0), (.int .i64 1), (.int .i64 1), (.int .i64 1), (.int .i64 100), (.slice none 0 (.known 0))] false) q51.2 fun i57 h58 => newK (.cells [(.ptr none)] false) h58 fun i59 h60 => wrK h60 i59 0 1 [(.ptr (some (i57, 0)))] fun h61 => nnK a1 fun b62 o63 => cellK h61 b62 o63 fun v64 => asPtr v64 fun x65 => newHK h61 fun i66 h67 => nnK a1 fun b68 o69 => cellK h67 b68 o69 fun v70 => asPtr v70 fun x71 => cellK h67 i59 0 fun v72 => asPtr v72 fun x73 => nnK x73 fun b74 o75 => newHK h67 fun i76 h77 => (ca n i_config_parser_choice [(.ptr x71), (.ptr (some (b74, (o75 + 2)))), (.map (some i76))] h77).bind fun q78 => asFn q78.1 fun f79 x80 y81 => sameK h77 q78.2 (blkP a1) ((ca n i_config_once [(.bool true), (.func f79 x80 y81)] q78.2).bind fun q82 => asAgg q82.1 fun l83 => lI l83 fun x85 l84 => lB l84 fun x87 l86 => lc l86 fun v89 l88 => l0 l88 (sameK q78.2 q82.2 (blkP a1) (nnK a1 fun b90 o91 => cellK (q82.2.minus (addT (addT noT h77 q78.2) q78.2 q82.2)) b90 o91 fun v92 => asPtr v92 fun x93 => cellK (q82.2.minus (addT (addT noT h77 q78.2) q78.2 q82.2)) i59 0 fun v94 => asPtr v94 fun x95 => nnK x95 fun b96 o97 => (ca n i_config_into [(.ptr (some (b96, (o97 + 1))))] q82.2).bind fun q98 => asFn q98.1 fun f99 x100 y101 => sameK q82.2 q98.2 (blkP a1) (sameK q82.2 q98.2 (blkP a1) ((ca n i_config_parser_address [(.ptr x93), (.bool true), (.func f99 x100 y101)] q98.2).bind fun q102 => asFn q102.1 fun f103 x104 y105 => sameK q98.2 q102.2 (blkP a1) ((ca n i_config_once [(.bool true), (.func f103 x104 y105)] q102.2).bind fun q106 => asAgg q106.1 fun l107 => lI l107 fun x109 l108 => lB l108 fun x111 l110 => lc l110 fun v113 l112 => l0 l112 (sameK q102.2 q106.2 (blkP a1) (nnK a1 fun b114 o115 => cellK (q106.2.minus (addT (addT (addT (addT (addT noT h77 q78.2) q78.2 q82.2) q82.2 q98.2) q98.2 q102.2) q102.2 q106.2)) b114 o115 fun v116 => asPtr v116 fun x117 => cellK (q106.2.minus (addT (addT (addT (addT (addT noT h77 q78.2) q78.2 q82.2) q82.2 q98.2) q98.2 q102.2) q102.2 q106.2)) i59 0 fun v118 => asPtr v118 fun x119 => nnK x119 fun b120 o121 => (ca n i_config_parser_number [(.ptr x117), (.ptr (some (b120, (o121 + 3)))), (.int .i64 1), (.int .i64 65535)] q106.2).bind fun q122 => asFn q122.1 fun f123 x124 y125 => sameK q106.2 q122.2 (blkP a1) ((ca n i_config_once [(.bool true), (.func f123 x124 y125)] q122.2).bind fun q126 => asAgg q126.1 fun l127 => lI l127 fun x129 l128 => lB l128 fun x131 l130 => lc l130 fun v133 l132 => l0 l132 (sameK q122.2 q126.2 (blkP a1) (nnK a1 fun b134 o135 => cellK (q126.2.minus (addT (addT (addT (addT (addT (addT (addT noT h77 q78.2) q78.2 q82.2) q82.2 q98.2) q98.2 q102.2) q102.2 q106.2) q106.2 q122.2) q122.2 q126.2)) b134 o135 fun v136 => asPtr v136 fun x137 => cellK (q126.2.minus (addT (addT (addT (addT (addT (addT (addT noT h77 q78.2) q78.2 q82.2) q82.2 q98.2) q98.2 q102.2) q102.2 q106.2) q106.2 q122.2) q122.2 q126.2)) i59 0 fun v138 => asPtr v138 fun x139 => nnK x139 fun b140 o141 => newHK q126.2 fun i142 h143 => (ca n i_config_parser_choice [(.ptr x137), (.ptr (some (b140, (o141 + 4)))), (.map (some i142))] h143).bind fun q144 => asFn q144.1 fun f145 x146 y147 => sameK h143 q144.2 (blkP a1) ((ca n i_config_once [(.bool true), (.func f145 x146 y147)] q144.2).bind fun q148 => asAgg q148.1 fun l149 => lI l149 fun x151 l150 => lB l150 fun x153 l152 => lc l152 fun v155 l154 => l0 l154 (sameK q144.2 q148.2 (blkP a1) (nnK a1 fun b156 o157 => cellK (q148.2.minus (addT (addT (addT (addT (addT (addT (addT (addT (addT noT h77 q78.2) q78.2 q82.2) q82.2 q98.2) q98.2 q102.2) q102.2 q106.2) q106.2 q122.2) q122.2 q126.2) h143 q144.2) q144.2 q148.2)) b156 o157 fun v158 => asPtr v158 fun x159 => cellK (q148.2.minus (addT (addT (addT (addT (addT (addT (addT (addT (addT noT h77 q78.2) q78.2 q82.2) q82.2 q98.2) q98.2 q102.2) q102.2 q106.2) q106.2 q122.2) q122.2 q126.2) h143 q144.2) q144.2 q148.2)) i59 0 fun v160 => asPtr v160 fun x161 => nnK x161 fun b162 o163 => newHK q148.2 fun i164 h165 => (ca n i_config_parser_choice [(.ptr x159), (.ptr (some (b162, (o163 + 5)))), (.map (some i164))] h165).bind fun q166 => asFn q166.1 fun f167 x168 y169 => sameK h165 q166.2 (blkP a1) ((ca n i_config_once [(.bool false), (.func f167 x168 y169)] q166.2).bind fun q170 => asAgg q170.1 fun l171 => lI l171 fun x173 l172 => lB l172 fun x175 l174 => lc l174 fun v177 l176 => l0 l176 (sameK q166.2 q170.2 (blkP a1) (nnK a1 fun b178 o179 => cellK (q170.2.minus (addT (addT (addT (addT (addT (addT (addT (addT (addT (addT (addT noT h77 q78.2) q78.2 q82.2) q82.2 q98.2) q98.2 q102.2) q102.2 q106.2) q106.2 q122.2) q122.2 q126.2) h143 q144.2) q144.2 q148.2) h165 q166.2) q166.2 q170.2)) b178 o179 fun v180 => asPtr v180 fun x181 => cellK (q170.2.minus (addT (addT (addT (addT (addT (addT (addT (addT (addT (addT (addT noT h77 q78.2) q78.2 q82.2) q82.2 q98.2) q98.2 q102.2) q102.2 q106.2) q106.2 q122.2) q122.2 q126.2) h143 q144.2) q144.2 q148.2) h165 q166.2) q166.2 q170.2)) i59 0 fun v182 => asPtr v182 fun x183 => nnK x183 fun b184 o185 => (ca n i_config_parser_number [(.ptr x181), (.ptr (some (b184, (o185 + 6)))), (.int .i64 1), (.int .i64 20)] q170.2).bind fun q186 => asFn q186.1 fun f187 x188 y189 => sameK q170.2 q186.2 (blkP a1) ((ca n i_config_once [(.bool false), (.func f187 x188 y189)] q186.2).bind fun q190 => asAgg q190.1 fun l191 => lI l191 fun x193 l192 => lB l192 fun x195 l194 => lc l194 fun v197 l196 => l0 l196 (sameK q186.2 q190.2 (blkP a1) (nnK a1 fun b198 o199 => cellK (q190.2.minus (addT (addT (addT (addT (addT (addT (addT (addT (addT (addT (addT (addT (addT noT h77 q78.2) q78.2 q82.2) q82.2 q98.2) q98.2 q102.2) q102.2 q106.2) q106.2 q122.2) q122.2 q126.2) h143 q144.2) q144.2 q148.2) h165 q166.2) q166.2 q170.2) q170.2 q186.2) q186.2 q190.2)) b198 o199 fun v200 => asPtr v200 fun x201 => cellK (q190.2.minus (addT (addT (addT (addT (addT (addT (addT (addT (addT (addT (addT (addT (addT noT h77 q78.2) q78.2 q82.2) q82.2 q98.2) q98.2 q102.2) q102.2 q106.2) q106.2 q122.2) q122.2 q126.2) h143 q144.2) q144.2 q148.2) h165 q166.2) q166.2 q170.2) q170.2 q186.2) q186.2 q190.2)) i59 0 fun v202 => asPtr v202 fun x203 => nnK x203 fun b204 o205 => (ca n i_config_parser_number [(.ptr x201), (.ptr (some (b204, (o205 + 7)))), (.int .i64 1), (.int .i64 20)] q190.2).bind fun q206 => asFn q206.1 fun f207 x208 y209 => sameK q190.2 q206.2 (blkP a1) ((ca n i_config_once [(.bool false), (.func f207 x208 y209)] q206.2).bind fun q210 => asAgg q210.1 fun l211 => lI l211 fun x213 l212 => lB l212 fun x215 l214 => lc l214 fun v217 l216 => l0 l216 (sameK q206.2 q210.2 (blkP a1) (nnK a1 fun b218 o219 => cellK (q210.2.minus (addT (addT (addT (addT (addT (addT (addT (addT (addT (addT (addT (addT (addT (addT (addT noT h77 q78.2) q78.2 q82.2) q82.2 q98.2) q98.2 q102.2) q102.2 q106.2) q106.2 q122.2) q122.2 q126.2) h143 q144.2) q144.2 q148.2) h165 q166.2) q166.2 q170.2) q170.2 q186.2) q186.2 q190.2) q190.2 q206.2) q206.2 q210.2)) b218 o219 fun v220 => asPtr v220 fun x221 => cellK (q210.2.minus (addT (addT (addT (addT (addT (addT (addT (addT (addT (addT (addT (addT (addT (addT (addT noT h77 q78.2) q78.2 q82.2) q82.2 q98.2) q98.2 q102.2) q102.2 q106.2) q106.2 q122.2) q122.2 q126.2) h143 q144.2) q144.2 q148.2) h165 q166.2) q166.2 q170.2) q170.2 q186.2) q186.2 q190.2) q190.2 q206.2) q206.2 q210.2)) i59 0 fun v222 => asPtr v222 fun x223 => nnK x223 fun b224 o225 => (ca n i_config_parser_number [(.ptr x221), (.ptr (some (b224, (o225 + 8)))), (.int .i64 1), (.int .i64 10000)] q210.2).bind fun q226 => asFn q226.1 fun f227 x228 y229 => sameK q210.2 q226.2 (blkP a1) ((ca n i_config_once [(.bool false), (.func f227 x228 y229)] q226.2).bind fun q230 => asAgg q230.1 fun l231 => lI l231 fun x233 l232 => lB l232 fun x235 l234 => lc l234 fun v237 l236 => l0 l236 (sameK q226.2 q230.2 (blkP a1) (restK [i66, i76, i142, i164] [(i76, (.str (⟨#[116, 99, 112]⟩ : ByteArray)), (.int .i64 6)), (i76, (.str (⟨#[117, 100, 112]⟩ : ByteArray)), (.int .i64 17)), (i66, (.str (⟨#[112, 114, 111, 116, 111]⟩ : ByteArray)), (.agg [(.int .i64 x85), (.bool x87), v89])), (i66, (.str (⟨#[118, 105, 112]⟩ : ByteArray)), (.agg [(.int .i64 x109), (.bool x111), v113])), (i66, (.str (⟨#[112, 111, 114, 116]⟩ : ByteArray)), (.agg [(.int .i64 x129), (.bool x131), v133])), (i142, (.str (⟨#[110, 97, 116]⟩ : ByteArray)), (.int .i64 1)), (i142, (.str (⟨#[100, 114]⟩ : ByteArray)), (.int .i64 2)), (i142, (.str (⟨#[105, 112, 105, 112]⟩ : ByteArray)), (.int .i64 3)), (i66, (.str (⟨#[109, 111, 100, 101]⟩ : ByteArray)), (.agg [(.int .i64 x151), (.bool x153), v155])), (i164, (.str (⟨#[109, 97, 103, 108, 101, 118]⟩ : ByteArray)), (.int .i64 1)), (i164, (.str (⟨#[115, 111, 117, 114, 99, 101]⟩ : ByteArray)), (.int .i64 2)), (i66, (.str (⟨#[115, 99, 104, 101, 100, 117, 108, 101]⟩ : ByteArray)), (.agg [(.int .i64 x173), (.bool x175), v177])), (i66, (.str (⟨#[114, 105, 115, 101]⟩ : ByteArray)), (.agg [(.int .i64 x193), (.bool x195), v197])), (i66, (.str (⟨#[102, 97, 108, 108]⟩ : ByteArray)), (.agg [(.int .i64 x213), (.bool x215), v217])), (i66, (.str (⟨#[112, 114, 111, 98, 101]⟩ : ByteArray)), (.agg [(.int .i64 x233), (.bool x235), v237])), (i66, (.str (⟨#[98, 97, 99, 107, 101, 110, 100]⟩ : ByteArray)), (.agg [(.int .i64 16), (.bool true), (.func i_config_parser_service_1 [] [(.ptr a1), (.ptr (some (i59, 0)))])]))] q230.2 fun h238 => cr n i_config_parser_block [(.ptr x65), (.map (some i66))] h238 fun v240 h241 => asBool v240 fun x242 => nnK a1 fun b243 o244 => cellK h241 b243 o244 fun v245 => asPtr v245 fun x246 => nnK a1 fun b247 o248 => cellK h241 b247 o248 fun v249 => asPtr v249 fun x250 => nnK x250 fun b251 o252 => cellK h241 b251 ((o252 + 3) + 14) fun v253 => asSlice v253 fun x254 n255 c256 => cellK h241 i59 0 fun v257 => asPtr v257 fun x258 => nnK x258 fun b259 o260 => aggK h241 b259 o260 10 fun l261 => lS l261 fun x263 l262 => lS l262 fun x265 l264 => lI l264 fun x267 l266 => lI l266 fun x269 l268 => lI l268 fun x271 l270 => lI l270 fun x273 l272 => lI l272 fun x275 l274 => lI l274 fun x277 l276 => lI l276 fun x279 l278 => lL l278 fun x281 n282 c283 l280 => l0 l280 (newK (.cells [(.str x263), (.str x265), (.int .i64 x267), (.int .i64 x269), (.int .i64 x271), (.int .i64 x273), (.int .i64 x275), (.int .i64 x277), (.int .i64 x279), (.slice x281 n282 c283)] false) h241 fun i284 h285 => appK 10 112 x254 n255 c256 (evSrc 10 (.slice (some (i284, 0)) 1 (.known 1)) h285) h285 fun p286 n287 c288 h289 => sameK h285 h289 (blkP a1) (nnK x246 fun b290 o291 => wrK h289 b290 ((o291 + 3) + 14) 1 [(.slice p286 n287 c288)] fun h292 => kk (.bool x242) h292))))))))))))))))))))))))))))))) := (JR_eq T n e_config_parser_service [1, 1, 0, 1, 0] [m1 + 1] _ h kk).trans (by kernel_rfl)
theorem config_parser_service_eq (n : Nat) (a0 : Pt) (h : H) (kk : KK) : cr (n + 1) i_config_parser_service [(.ptr a0)] h kk = newK (.cells [(.ptr a0)] false) h fun i1 h2 => cellK h2 i1 0 fun v3 => asPtr v3 fun x4 => nnK x4 fun b5 o6 => cellK h2 b5 ((o6 + 3) + 14) fun v7 => asSlice v7 fun x8 n9 c10 => config_parser_service_L0 n n (some (i1, 0)) none 0 (.known 0) x8 n9 c10 (Nat.cast n9) 0 h2 kk := by kernel_rfl

-- 4 outrider/outriderlaw18.ConfigNeeds
-- 43 (*outrider/config.parser).track
noncomputable def config_parser_track_L0 (n m1 : Nat) (a0 a3_0 : Pt) (a3_1 : Nat) (a3_2 : Cap) (a18_0 : Pt) (a18_1 : Nat) (a18_2 : Cap) (a19 a20 : Int) (h : H) : R := J T.toTab n e_config_parser_track [1, 1, 0, 1, 0] [m1] [(0, (.ptr a0)), (3, (.slice a3_0 a3_1 a3_2)), (18, (.slice a18_0 a18_1 a18_2)), (19, (.int .i64 a19)), (20, (.int .i64 a20))] h
noncomputable def config_parser_track_J1 (n : Nat) (a0 : Pt) (a6 : Bs) (a9 : Int) (a11 : Bool) (a12 : Int) (a65 : Bool) (h : H) : R := J T.toTab n e_config_parser_track [1, 1, 1, 1, 1, 1, 1, 1, 1, 0, 1] [] [(0, (.ptr a0)), (6, (.str a6)), (9, (.int .i64 a9)), (11, (.bool a11)), (12, (.int .i64 a12)), (65, (.bool a65))] h
noncomputable def config_parser_track_J2 (n : Nat) (a0 : Pt) (a6 : Bs) (a12 : Int) (h : H) : R := J T.toTab n e_config_parser_track [1, 1, 1, 1, 1, 1, 1, 1, 1, 1, 1] [] [(0, (.ptr a0)), (6, (.str a6)), (12, (.int .i64 a12))] h
theorem config_parser_track_L0_eq (n m1 : Nat) (a0 a3_0 : Pt) (a3_1 : Nat) (a3_2 : Cap) (a18_0 : Pt) (a18_1 : Nat) (a18_2 : Cap) (a19 a20 : Int) (h : H) : config_parser_track_L0 n (m1 + 1) a0 a3_0 a3_1 a3_2 a18_0 a18_1 a18_2 a19 a20 h = cond (decide (a20 < a19)) (if 0 ≤ (a20 : Int) ∧ a20 < (Nat.cast (a18_1) : Int) then nnK a18_0 fun b7 o8 => aggK h b7 (o8 + a20.toNat * 2) 2 fun l9 => lS l9 fun x11 l10 => lI l10 fun x13 l12 => l0 l12 (newK (.cells [(.str .empty), (.int .i64 0)] false) h fun i14 h15 => wrK h15 i14 0 2 [(.str x11), (.int .i64 x13)] fun h16 => cellK h16 i14 0 fun v17 => asStr v17 fun x18 => newK (.cells [(.str x18)] false) h16 fun i19 h20 => appK 1 16 a3_0 a3_1 a3_2 (evSrc 1 (.slice (some (i19, 0)) 1 (.known 1)) h20) h20 fun p21 n22 c23 h24 => config_parser_track_L0 n m1 a0 p21 n22 c23 a18_0 a18_1 a18_2 a19 (IntKind.i64.wrap (a20 + 1)) h24) else none) ((ca n i_config_parser_named [(.ptr a0), (.slice a3_0 a3_1 a3_2)] h).bind fun q25 => asTup q25.1 fun l26 => lS l26 fun x28 l27 => lB l27 fun x30 l29 => l0 l29 (cond (!x30) (some ((.bool false), q25.2)) ((ca n i_config_parser_value [(.ptr a0)] q25.2).bind fun q31 => asTup q31.1 fun l32 => lS l32 fun x34 l33 => lI l33 fun x36 l35 => lB l35 fun x38 l37 => l0 l37 (cond (!x38) (some ((.bool false), q31.2)) ((ca n i_strings_CutPrefix [(.str x34), (.str (⟨#[45]⟩ : ByteArray))] q31.2).bind fun q39 => asTup q39.1 fun l40 => lS l40 fun x42 l41 => lB l41 fun x44 l43 => l0 l43 ((ca n i_words_Number [(.str x42)] q39.2).bind fun q45 => asTup q45.1 fun l46 => lI l46 fun x48 l47 => lB l47 fun x50 l49 => l0 l49 (cond (!x50) (config_parser_track_J1 n a0 x28 x36 x44 x48 true q45.2) (cond (decide (x48 < (1 : Int))) (config_parser_track_J1 n a0 x28 x36 x44 x48 true q45.2) (config_parser_track_J1 n a0 x28 x36 x44 x48 (decide (x48 > (254 : Int))) q45.2))))))))) := (J_eq T.toTab n e_config_parser_track [1, 1, 0, 1, 0] [m1 + 1] _ h).trans (by kernel_rfl)
theorem config_parser_track_J1_eq (n : Nat) (a0 : Pt) (a6 : Bs) (a9 : Int) (a11 : Bool) (a12 : Int) (a65 : Bool) (h : H) : config_parser_track_J1 n a0 a6 a9 a11 a12 a65 h = cond a65 ((ca n i_config_parser_fail [(.ptr a0), (.int .i64 a9), (.int .i64 182)] h).bind fun q51 => asBool q51.1 fun x52 => some ((.bool x52), q51.2)) (cond a11 (config_parser_track_J2 n a0 a6 (IntKind.i64.wrap (0 - a12)) h) (config_parser_track_J2 n a0 a6 a12 h)) := (J_eq T.toTab n e_config_parser_track [1, 1, 1, 1, 1, 1, 1, 1, 1, 0, 1] [] _ h).trans (by kernel_rfl)
theorem config_parser_track_J2_eq (n : Nat) (a0 : Pt) (a6 : Bs) (a12 : Int) (h : H) : config_parser_track_J2 n a0 a6 a12 h = nnK a0 fun b53 o54 => cellK h b53 ((o54 + 3) + 13) fun v55 => asSlice v55 fun x56 n57 c58 => newK (.cells [(.str a6), (.int .i64 a12)] false) h fun i59 h60 => appK 2 24 x56 n57 c58 (evSrc 2 (.slice (some (i59, 0)) 1 (.known 1)) h60) h60 fun p61 n62 c63 h64 => nnK a0 fun b65 o66 => wrK h64 b65 ((o66 + 3) + 13) 1 [(.slice p61 n62 c63)] fun h67 => (ca n i_config_parser_must [(.ptr a0), (.str (⟨#[10]⟩ : ByteArray))] h67).bind fun q68 => asBool q68.1 fun x69 => some ((.bool x69), q68.2) := (J_eq T.toTab n e_config_parser_track [1, 1, 1, 1, 1, 1, 1, 1, 1, 1, 1] [] _ h).trans (by kernel_rfl)
theorem config_parser_track_eq (n : Nat) (a0 : Pt) (h : H) : ca (n + 1) i_config_parser_track [(.ptr a0)] h = nnK a0 fun b1 o2 => cellK h b1 ((o2 + 3) + 13) fun v3 => asSlice v3 fun x4 n5 c6 => config_parser_track_L0 n n a0 none 0 (.known 0) x4 n5 c6 (Nat.cast n5) 0 h := by kernel_rfl

-- 69 outrider/words.groups
noncomputable def words_groups_L0 (n m1 : Nat) (a2 : Int) (a3 : AV) (a10_0 : Pt) (a10_1 : Nat) (a10_2 : Cap) (a18_0 : Pt) (a18_1 : Nat) (a18_2 : Cap) (a19 a20 : Int) (h : H) : R := J T.toTab n e_words_groups [1, 1, 0, 1, 0] [m1] [(2, (.int .i64 a2)), (3, a3), (10, (.slice a10_0 a10_1 a10_2)), (18, (.slice a18_0 a18_1 a18_2)), (19, (.int .i64 a19)), (20, (.int .i64 a20))] h
noncomputable def words_groups_L1 (n m1 m2 : Nat) (a2 : Int) (a3 : AV) (a10_0 : Pt) (a10_1 : Nat) (a10_2 : Cap) (a13 a15 : Int) (a18_0 : Pt) (a18_1 : Nat) (a18_2 : Cap) (a19 a20 : Int) (h : H) : R := J T.toTab n e_words_groups [1, 1, 0, 1, 0, 0, 1, 1, 0, 0, 1, 1, 1, 1, 0] [m1, m2] [(2, (.int .i64 a2)), (3, a3), (10, (.slice a10_0 a10_1 a10_2)), (13, (.int .i64 a13)), (15, (.int .i64 a15)), (18, (.slice a18_0 a18_1 a18_2)), (19, (.int .i64 a19)), (20, (.int .i64 a20))] h
theorem words_groups_L0_eq (n m1 : Nat) (a2 : Int) (a3 : AV) (a10_0 : Pt) (a10_1 : Nat) (a10_2 : Cap) (a18_0 : Pt) (a18_1 : Nat) (a18_2 : Cap) (a19 a20 : Int) (h : H) : words_groups_L0 n (m1 + 1) a2 a3 a10_0 a10_1 a10_2 a18_0 a18_1 a18_2 a19 a20 h = cond (decide (a20 < a19)) (if 0 ≤ (a20 : Int) ∧ a20 < (Nat.cast (a18_1) : Int) then nnK a18_0 fun b5 o6 => cellK h b5 (o6 + a20.toNat) fun v7 => asStr v7 fun x8 => asFn a3 fun f10 x11 y12 => (ca n f10 (x11 ++ [(.str x8)] ++ y12) h).bind fun q9 => crF T.toTab f10 q9.1 fun v13 => extK v13 0 fun v14 => asInt .i64 v14 fun x15 => extK v13 1 fun v16 => asBool v16 fun x17 => cond (!x17) (some ((.tup [(.slice none 0 (.known 0)), (.bool false)]), q9.2)) (words_groups_L1 n m1 n a2 a3 a10_0 a10_1 a10_2 x15 (IntKind.i64.wrap (a2 - 1)) a18_0 a18_1 a18_2 a19 a20 q9.2) else none) (some ((.tup [(.slice a10_0 a10_1 a10_2), (.bool true)]), h)) := (J_eq T.toTab n e_words_groups [1, 1, 0, 1, 0] [m1 + 1] _ h).trans (by kernel_rfl)
theorem words_groups_L1_eq (n m1 m2 : Nat) (a2 : Int) (a3 : AV) (a10_0 : Pt) (a10_1 : Nat) (a10_2 : Cap) (a13 a15 : Int) (a18_0 : Pt) (a18_1 : Nat) (a18_2 : Cap) (a19 a20 : Int) (h : H) : words_groups_L1 n m1 (m2 + 1) a2 a3 a10_0 a10_1 a10_2 a13 a15 a18_0 a18_1 a18_2 a19 a20 h = cond (decide (a15 ≥ (0 : Int))) (if (IntKind.i64.wrap (8 * a15)) < 0 then none else newK (.cells [(.int .u8 (IntKind.u8.wrap (ishr .i64 a13 (IntKind.i64.wrap (8 * a15)))))] false) h fun i18 h19 => appK 1 1 a10_0 a10_1 a10_2 (evSrc 1 (.slice (some (i18, 0)) 1 (.known 1)) h19) h19 fun p20 n21 c22 h23 => words_groups_L1 n m1 m2 a2 a3 p20 n21 c22 a13 (IntKind.i64.wrap (a15 - 1)) a18_0 a18_1 a18_2 a19 a20 h23) (words_groups_L0 n m1 a2 a3 a10_0 a10_1 a10_2 a18_0 a18_1 a18_2 a19 (IntKind.i64.wrap (a20 + 1)) h) := (J_eq T.toTab n e_words_groups [1, 1, 0, 1, 0, 0, 1, 1, 0, 0, 1, 1, 1, 1, 0] [m1, m2 + 1] _ h).trans (by kernel_rfl)
theorem words_groups_eq (n : Nat) (a0 a1 : Bs) (a2 : Int) (a3 : AV) (h : H) : ca (n + 1) i_words_groups [(.str a0), (.str a1), (.int .i64 a2), a3] h = (ca n i_strings_Split [(.str a0), (.str a1)] h).bind fun q1 => asSlice q1.1 fun x2 n3 c4 => words_groups_L0 n n a2 a3 none 0 (.known 0) x2 n3 c4 (Nat.cast n3) 0 q1.2 := by kernel_rfl

-- 22 (*outrider/words.reader).take
noncomputable def words_reader_take_J0 (n : Nat) (a0 : Pt) (a1 a2 : Int) (a7 a31 : Bool) (h : H) : R := J T.toTab n e_words_reader_take [1, 1, 0, 0, 1, 1, 1, 1, 1, 1, 1] [] [(0, (.ptr a0)), (1, (.int .u8 a1)), (2, (.int .i64 a2)), (7, (.bool a7)), (31, (.bool a31))] h
noncomputable def words_reader_take_J1 (n : Nat) (a0 : Pt) (a2 : Int) (a7 a45 : Bool) (h : H) : R := J T.toTab n e_words_reader_take [1, 1, 0, 0, 1, 1, 1, 1, 1, 1, 1, 1, 1] [] [(0, (.ptr a0)), (2, (.int .i64 a2)), (7, (.bool a7)), (45, (.bool a45))] h
theorem words_reader_take_J0_eq (n : Nat) (a0 : Pt) (a1 a2 : Int) (a7 a31 : Bool) (h : H) : words_reader_take_J0 n a0 a1 a2 a7 a31 h = cond a31 ((ca n i_words_reader_end [(.ptr a0), (.int .i64 a2)] h).bind fun q14 => asBool q14.1 fun x15 => some ((.bool x15), q14.2)) (cond ((a1 : Int) == (123 : Int)) (words_reader_take_J1 n a0 a2 a7 true h) (words_reader_take_J1 n a0 a2 a7 ((a1 : Int) == (125 : Int)) h)) := (J_eq T.toTab n e_words_reader_take [1, 1, 0, 0, 1, 1, 1, 1, 1, 1, 1] [] _ h).trans (by kernel_rfl)
theorem words_reader_take_J1_eq (n : Nat) (a0 : Pt) (a2 : Int) (a7 a45 : Bool) (h : H) : words_reader_take_J1 n a0 a2 a7 a45 h = cond a45 ((ca n i_words_reader_end [(.ptr a0), (.int .i64 a2)] h).bind fun q16 => asBool q16.1 fun x17 => nnK a0 fun b18 o19 => wrK q16.2 b18 (o19 + 3) 1 [(.int .i64 a2)] fun h20 => (ca n i_words_reader_end [(.ptr a0), (.int .i64 (IntKind.i64.wrap (a2 + 1)))] h20).bind fun q21 => asBool q21.1 fun x22 => some ((.bool x17), q21.2)) (nnK a0 fun b23 o24 => cellK h b23 (o24 + 3) fun v25 => asInt .i64 v25 fun x26 => cond (decide (x26 < (0 : Int))) (nnK a0 fun b27 o28 => wrK h b27 (o28 + 3) 1 [(.int .i64 a2)] fun h29 => some ((.bool a7), h29)) (some ((.bool a7), h))) := (J_eq T.toTab n e_words_reader_take [1, 1, 0, 0, 1, 1, 1, 1, 1, 1, 1, 1, 1] [] _ h).trans (by kernel_rfl)
theorem words_reader_take_eq (n : Nat) (a0 : Pt) (a1 a2 : Int) (h : H) : ca (n + 1) i_words_reader_take [(.ptr a0), (.int .u8 a1), (.int .i64 a2)] h = cond ((a1 : Int) == (10 : Int)) ((ca n i_words_reader_end [(.ptr a0), (.int .i64 a2)] h).bind fun q1 => asBool q1.1 fun x2 => (ca n i_words_reader_stop [(.ptr a0), (.int .i64 a2)] q1.2).bind fun q3 => asTup q3.1 fun l4 => l0 l4 (some ((.bool x2), q3.2))) (nnK a0 fun b5 o6 => cellK h b5 (o6 + 5) fun v7 => asBool v7 fun x8 => cond x8 (some ((.bool true), h)) (cond ((a1 : Int) == (35 : Int)) ((ca n i_words_reader_end [(.ptr a0), (.int .i64 a2)] h).bind fun q9 => asBool q9.1 fun x10 => nnK a0 fun b11 o12 => wrK q9.2 b11 (o12 + 5) 1 [(.bool true)] fun h13 => some ((.bool x10), h13)) (cond ((a1 : Int) == (32 : Int)) (words_reader_take_J0 n a0 a1 a2 true true h) (cond ((a1 : Int) == (9 : Int)) (words_reader_take_J0 n a0 a1 a2 true true h) (words_reader_take_J0 n a0 a1 a2 true ((a1 : Int) == (13 : Int)) h))))) := by kernel_rfl

-- 7 outrider/config.Parse
theorem config_Parse_eq (n : Nat) (a0 : Bs) (h : H) (kk : KK) : cr (n + 1) i_config_Parse [(.str a0)] h kk = newK (.cells [(.int .u8 0), (.int .u8 0), (.int .u8 0), (.int .u8 0), (.int .u8 0), (.int .u8 0), (.str .empty), (.str .empty), (.int .i64 0), (.int .i64 0), (.int .i64 0), (.bool false), (.slice none 0 (.known 0)), (.slice none 0 (.known 0)), (.slice none 0 (.known 0))] false) h fun i1 h2 => (ca n i_words_All [(.str a0)] h2).bind fun q3 => asTup q3.1 fun l4 => lL l4 fun x6 n7 c8 l5 => lI l5 fun x10 l9 => lI l9 fun x12 l11 => l0 l11 (cond ((x12 : Int) != (0 : Int)) (wrK q3.2 i1 0 15 [(.int .u8 0), (.int .u8 0), (.int .u8 0), (.int .u8 0), (.int .u8 0), (.int .u8 0), (.str .empty), (.str .empty), (.int .i64 0), (.int .i64 0), (.int .i64 0), (.bool false), (.slice none 0 (.known 0)), (.slice none 0 (.known 0)), (.slice none 0 (.known 0))] fun h13 => aggK h13 i1 0 15 fun l14 => kk (.tup [(.agg l14), (.int .i64 x10), (.int .i64 x12)]) h13) (newK (.cells [(.str a0), (.slice x6 n7 c8), (.int .i64 0), (.int .u8 0), (.int .u8 0), (.int .u8 0), (.int .u8 0), (.int .u8 0), (.int .u8 0), (.str .empty), (.str .empty), (.int .i64 0), (.int .i64 0), (.int .i64 0), (.bool false), (.slice none 0 (.known 0)), (.slice none 0 (.known 0)), (.slice none 0 (.known 0)), (.slice none 0 (.known 0)), (.int .i64 0), (.int .i64 0)] false) q3.2 fun i15 h16 => cr n i_config_parser_all [(.ptr (some (i15, 0)))] h16 fun v18 h19 => asBool v18 fun x20 => cond (!x20) (cellK h19 i15 19 fun v21 => asInt .i64 v21 fun x22 => cellK h19 i15 20 fun v23 => asInt .i64 v23 fun x24 => wrK h19 i1 0 15 [(.int .u8 0), (.int .u8 0), (.int .u8 0), (.int .u8 0), (.int .u8 0), (.int .u8 0), (.str .empty), (.str .empty), (.int .i64 0), (.int .i64 0), (.int .i64 0), (.bool false), (.slice none 0 (.known 0)), (.slice none 0 (.known 0)), (.slice none 0 (.known 0))] fun h25 => sameK h19 h25 (some i15) (sameK h19 h25 (some i15) (aggK h25 i1 0 15 fun l26 => kk (.tup [(.agg l26), (.int .i64 x22), (.int .i64 x24)]) h25))) (aggK h19 i15 3 15 fun l27 => wrK h19 i1 0 15 l27 fun h28 => aggK h28 i1 0 15 fun l29 => kk (.tup [(.agg l29), (.int .i64 0), (.int .i64 0)]) h28))) := by kernel_rfl

-- 24 (*outrider/config.parser).node
theorem config_parser_node_eq (n : Nat) (a0 : Pt) (h : H) (kk : KK) : cr (n + 1) i_config_parser_node [(.ptr a0)] h kk = newHK h fun i1 h2 => nnK a0 fun b3 o4 => (ca n i_config_parser_card [(.ptr a0), (.ptr (some (b3, (o4 + 3))))] h2).bind fun q5 => asFn q5.1 fun f6 x7 y8 => (ca n i_config_once [(.bool true), (.func f6 x7 y8)] q5.2).bind fun q9 => asAgg q9.1 fun l10 => lI l10 fun x12 l11 => lB l11 fun x14 l13 => lc l13 fun v16 l15 => l0 l15 (nnK a0 fun b17 o18 => (ca n i_config_into [(.ptr (some (b17, ((o18 + 3) + 6))))] q9.2).bind fun q19 => asFn q19.1 fun f20 x21 y22 => (ca n i_config_parser_address [(.ptr a0), (.bool false), (.func f20 x21 y22)] q19.2).bind fun q23 => asFn q23.1 fun f24 x25 y26 => (ca n i_config_once [(.bool true), (.func f24 x25 y26)] q23.2).bind fun q27 => asAgg q27.1 fun l28 => lI l28 fun x30 l29 => lB l29 fun x32 l31 => lc l31 fun v34 l33 => l0 l33 (nnK a0 fun b35 o36 => (ca n i_config_into [(.ptr (some (b35, ((o36 + 3) + 7))))] q27.2).bind fun q37 => asFn q37.1 fun f38 x39 y40 => (ca n i_config_parser_address [(.ptr a0), (.bool false), (.func f38 x39 y40)] q37.2).bind fun q41 => asFn q41.1 fun f42 x43 y44 => (ca n i_config_once [(.bool true), (.func f42 x43 y44)] q41.2).bind fun q45 => asAgg q45.1 fun l46 => lI l46 fun x48 l47 => lB l47 fun x50 l49 => lc l49 fun v52 l51 => l0 l51 (restK [i1] [(i1, (.str (⟨#[109, 97, 99]⟩ : ByteArray)), (.agg [(.int .i64 x12), (.bool x14), v16])), (i1, (.str (⟨#[97, 100, 100, 114, 101, 115, 115]⟩ : ByteArray)), (.agg [(.int .i64 x30), (.bool x32), v34])), (i1, (.str (⟨#[112, 101, 101, 114]⟩ : ByteArray)), (.agg [(.int .i64 x48), (.bool x50), v52]))] q45.2 fun h53 => cr n i_config_parser_block [(.ptr a0), (.map (some i1))] h53 fun v55 h56 => asBool v55 fun x57 => kk (.bool x57) h56))) := by kernel_rfl

-- 19 (*outrider/words.reader).end
theorem words_reader_end_eq (n : Nat) (a0 : Pt) (a1 : Int) (h : H) : ca (n + 1) i_words_reader_end [(.ptr a0), (.int .i64 a1)] h = nnK a0 fun b1 o2 => cellK h b1 (o2 + 3) fun v3 => asInt .i64 v3 fun x4 => cond (decide (x4 < (0 : Int))) (some ((.bool true), h)) (nnK a0 fun b5 o6 => cellK h b5 o6 fun v7 => asStr v7 fun x8 => nnK a0 fun b9 o10 => cellK h b9 (o10 + 3) fun v11 => asInt .i64 v11 fun x12 => bndK x8.size x8.size 0 (some (.int .i64 x12)) (some (.int .i64 a1)) none fun lo13 hi14 mx15 => nnK a0 fun b16 o17 => cellK h b16 (o17 + 3) fun v18 => asInt .i64 v18 fun x19 => nnK a0 fun b20 o21 => cellK h b20 (o21 + 2) fun v22 => asInt .i64 v22 fun x23 => newK (.cells [(.str .empty), (.int .i64 0), (.int .i64 0)] false) h fun i24 h25 => wrK h25 i24 0 3 [(.str (x8.extract lo13 hi14)), (.int .i64 x19), (.int .i64 x23)] fun h26 => nnK a0 fun b27 o28 => cellK h26 b27 (o28 + 1) fun v29 => asSlice v29 fun x30 n31 c32 => aggK h26 i24 0 3 fun l33 => lS l33 fun x35 l34 => lI l34 fun x37 l36 => lI l36 fun x39 l38 => l0 l38 (newK (.cells [(.str x35), (.int .i64 x37), (.int .i64 x39)] false) h26 fun i40 h41 => appK 3 32 x30 n31 c32 (evSrc 3 (.slice (some (i40, 0)) 1 (.known 1)) h41) h41 fun p42 n43 c44 h45 => nnK a0 fun b46 o47 => wrK h45 b46 (o47 + 1) 1 [(.slice p42 n43 c44)] fun h48 => nnK a0 fun b49 o50 => wrK h48 b49 (o50 + 4) 1 [(.bool true)] fun h51 => nnK a0 fun b52 o53 => wrK h51 b52 (o53 + 3) 1 [(.int .i64 (-1))] fun h54 => cellK h54 i24 0 fun v55 => asStr v55 fun x56 => some ((.bool (decide ((Nat.cast x56.size) ≤ (60 : Int)))), h54))) := by kernel_rfl

-- 20 (*outrider/words.reader).stop
noncomputable def words_reader_stop_J0 (n : Nat) (a0 : Pt) (h : H) : R := J T.toTab n e_words_reader_stop [1] [] [(0, (.ptr a0))] h
theorem words_reader_stop_J0_eq (n : Nat) (a0 : Pt) (h : H) : words_reader_stop_J0 n a0 h = nnK a0 fun b24 o25 => wrK h b24 (o25 + 4) 1 [(.bool false)] fun h26 => nnK a0 fun b27 o28 => wrK h26 b27 (o28 + 5) 1 [(.bool false)] fun h29 => nnK a0 fun b30 o31 => cellK h29 b30 (o31 + 2) fun v32 => asInt .i64 v32 fun x33 => nnK a0 fun b34 o35 => wrK h29 b34 (o35 + 2) 1 [(.int .i64 (IntKind.i64.wrap (x33 + 1)))] fun h36 => some ((.tup []), h36) := (J_eq T.toTab n e_words_reader_stop [1] [] _ h).trans (by kernel_rfl)
theorem words_reader_stop_eq (n : Nat) (a0 : Pt) (a1 : Int) (h : H) : ca (n + 1) i_words_reader_stop [(.ptr a0), (.int .i64 a1)] h = nnK a0 fun b1 o2 => cellK h b1 (o2 + 4) fun v3 => asBool v3 fun x4 => cond x4 (nnK a0 fun b5 o6 => cellK h b5 (o6 + 1) fun v7 => asSlice v7 fun x8 n9 c10 => nnK a0 fun b11 o12 => cellK h b11 (o12 + 2) fun v13 => asInt .i64 v13 fun x14 => newK (.cells [(.str (⟨#[10]⟩ : ByteArray)), (.int .i64 a1), (.int .i64 x14)] false) h fun i15 h16 => appK 3 32 x8 n9 c10 (evSrc 3 (.slice (some (i15, 0)) 1 (.known 1)) h16) h16 fun p17 n18 c19 h20 => nnK a0 fun b21 o22 => wrK h20 b21 (o22 + 1) 1 [(.slice p17 n18 c19)] fun h23 => words_reader_stop_J0 n a0 h23) (words_reader_stop_J0 n a0 h) := by kernel_rfl

-- 75 slices.Index[[]string,string]
noncomputable def slices_Index_string_string_L0 (n m1 : Nat) (a0_0 : Pt) (a0_1 : Nat) (a0_2 : Cap) (a1 : Bs) (a7 a8 : Int) (h : H) : R := J T.toTab n e_slices_Index_string_string [1, 0, 1, 0] [m1] [(0, (.slice a0_0 a0_1 a0_2)), (1, (.str a1)), (7, (.int .i64 a7)), (8, (.int .i64 a8))] h
theorem slices_Index_string_string_L0_eq (n m1 : Nat) (a0_0 : Pt) (a0_1 : Nat) (a0_2 : Cap) (a1 : Bs) (a7 a8 : Int) (h : H) : slices_Index_string_string_L0 n (m1 + 1) a0_0 a0_1 a0_2 a1 a7 a8 h = cond (decide (a8 < a7)) (if 0 ≤ (a8 : Int) ∧ a8 < (Nat.cast (a0_1) : Int) then nnK a0_0 fun b1 o2 => cellK h b1 (o2 + a8.toNat) fun v3 => asStr v3 fun x4 => cond (a1.toList == x4.toList) (some ((.int .i64 a8), h)) (slices_Index_string_string_L0 n m1 a0_0 a0_1 a0_2 a1 a7 (IntKind.i64.wrap (a8 + 1)) h) else none) (some ((.int .i64 (-1)), h)) := (J_eq T.toTab n e_slices_Index_string_string [1, 0, 1, 0] [m1 + 1] _ h).trans (by kernel_rfl)
theorem slices_Index_string_string_eq (n : Nat) (a0_0 : Pt) (a0_1 : Nat) (a0_2 : Cap) (a1 : Bs) (h : H) : ca (n + 1) i_slices_Index_string_string [(.slice a0_0 a0_1 a0_2), (.str a1)] h = slices_Index_string_string_L0 n n a0_0 a0_1 a0_2 a1 (Nat.cast a0_1) 0 h := by kernel_rfl

-- 91 unicode/utf8.DecodeRuneInString
-- 27 (*outrider/config.parser).place
theorem config_parser_place_eq (n : Nat) (a0 : Pt) (h : H) : ca (n + 1) i_config_parser_place [(.ptr a0)] h = nnK a0 fun b1 o2 => cellK h b1 (o2 + 2) fun v3 => asInt .i64 v3 fun x4 => nnK a0 fun b5 o6 => cellK h b5 (o6 + 1) fun v7 => asSlice v7 fun x8 n9 c10 => cond (decide (x4 ≥ (Nat.cast n9))) (nnK a0 fun b11 o12 => cellK h b11 o12 fun v13 => asStr v13 fun x14 => some ((.int .i64 (Nat.cast x14.size)), h)) (nnK a0 fun b15 o16 => cellK h b15 (o16 + 1) fun v17 => asSlice v17 fun x18 n19 c20 => nnK a0 fun b21 o22 => cellK h b21 (o22 + 2) fun v23 => asInt .i64 v23 fun x24 => if 0 ≤ (x24 : Int) ∧ x24 < (Nat.cast (n19) : Int) then nnK x18 fun b25 o26 => cellK h b25 ((o26 + x24.toNat * 3) + 1) fun v27 => asInt .i64 v27 fun x28 => some ((.int .i64 x28), h) else none) := by kernel_rfl

-- 65 internal/strconv.small
-- 38 (*outrider/config.parser).address
theorem config_parser_address_eq (n : Nat) (a0 : Pt) (a1 : Bool) (a2_0 : Nat) (a2_1 a2_2 : List AV) (h : H) : ca (n + 1) i_config_parser_address [(.ptr a0), (.bool a1), (.func a2_0 a2_1 a2_2)] h = newK (.cells [(.ptr a0)] false) h fun i1 h2 => newK (.cells [(.bool a1)] false) h2 fun i3 h4 => newK (.cells [(.func a2_0 a2_1 a2_2)] false) h4 fun i5 h6 => some ((.func i_config_parser_address_1 [] [(.ptr (some (i1, 0))), (.ptr (some (i3, 0))), (.ptr (some (i5, 0)))]), h6) := by kernel_rfl

-- 15 (*outrider/config.writer).count
theorem config_writer_count_eq (n : Nat) (a0 : Pt) (a1 : Bs) (a2 : Int) (h : H) : ca (n + 1) i_config_writer_count [(.ptr a0), (.str a1), (.int .i64 a2)] h = (ca n i_strconv_Itoa [(.int .i64 a2)] h).bind fun q1 => asStr q1.1 fun x2 => newK (.cells [(.str a1), (.str x2)] false) q1.2 fun i3 h4 => (ca n i_config_writer_say [(.ptr a0), (.slice (some (i3, 0)) 2 (.known 2))] h4).bind fun q5 => asTup q5.1 fun l6 => l0 l6 (some ((.tup []), q5.2)) := by kernel_rfl

-- 45 (*outrider/config.parser).service$1
theorem config_parser_service_1_eq (n : Nat) (a0 a1 : Pt) (h : H) (kk : KK) : cr (n + 1) i_config_parser_service_1 [(.ptr a0), (.ptr a1)] h kk = nnK a0 fun b1 o2 => cellK h b1 o2 fun v3 => asPtr v3 fun x4 => nnK a1 fun b5 o6 => cellK h b5 o6 fun v7 => asPtr v7 fun x8 => cr n i_config_parser_backend [(.ptr x4), (.ptr x8)] h fun v10 h11 => asBool v10 fun x12 => kk (.bool x12) h11 := by kernel_rfl

-- 73 outrider/words.Address$2
theorem words_Address_2_eq (n : Nat) (a0 : Bs) (h : H) : ca (n + 1) i_words_Address_2 [(.str a0)] h = (ca n i_words_hex [(.str a0), (.int .i64 1), (.int .i64 4)] h).bind fun q1 => asTup q1.1 fun l2 => lI l2 fun x4 l3 => lB l3 fun x6 l5 => l0 l5 (some ((.tup [(.int .i64 x4), (.bool x6)]), q1.2)) := by kernel_rfl

-- 61 strings.CutPrefix
theorem strings_CutPrefix_eq (n : Nat) (a0 a1 : Bs) (h : H) : ca (n + 1) i_strings_CutPrefix [(.str a0), (.str a1)] h = (ca n i_stringslite_CutPrefix [(.str a0), (.str a1)] h).bind fun q1 => asTup q1.1 fun l2 => lS l2 fun x4 l3 => lB l3 fun x6 l5 => l0 l5 (some ((.tup [(.str x4), (.bool x6)]), q1.2)) := by kernel_rfl

-- 94 unicode/utf8.decodeRuneInStringSlow
-- 99 internal/bytealg.IndexByteString
theorem bytealg_IndexByteString_eq (n : Nat) (a0 : Bs) (a1 : Int) (h : H) : ca (n + 1) i_bytealg_IndexByteString [(.str a0), (.int .u8 a1)] h = (bytealg_IndexByteString_99 n a0 a1 h).bind fun r => some ((.int .i64 r.1), r.2) := by kernel_rfl

-- 80 internal/strconv.isPowerOfTwo
theorem strconv_isPowerOfTwo_eq (n : Nat) (a0 : Int) (h : H) : ca (n + 1) i_strconv_isPowerOfTwo [(.int .i64 a0)] h = some ((.bool (((iand .i64 a0 (IntKind.i64.wrap (a0 - 1))) : Int) == (0 : Int))), h) := by kernel_rfl

-- 79 internal/strconv.bool2[int]
end Go.Ev.Tryd

/- What the functions compute, printed by evprint2.py. -/
set_option maxRecDepth 100000
set_option linter.all false
namespace Go.Ev.Tryd
open Go.Proofs

-- 68 internal/strconv.formatBits
noncomputable def strconv_formatBits_J0 (n : Nat) (a0_0 : Pt) (a0_1 : Nat) (a0_2 : Cap) (a1 a2 : Int) (a3 a4 : Bool) (a10_0 : Pt) (a10_1 : Nat) (a10_2 : Cap) (a11 : Bs) (a28 : Bool) (h : H) : R := J T.toTab n e_strconv_formatBits [1, 0, 1] [] [(0, (.slice a0_0 a0_1 a0_2)), (1, (.int .u64 a1)), (2, (.int .i64 a2)), (3, (.bool a3)), (4, (.bool a4)), (10, (.slice a10_0 a10_1 a10_2)), (11, (.str a11)), (28, (.bool a28))] h
noncomputable def strconv_formatBits_J1 (n : Nat) (a0_0 : Pt) (a0_1 : Nat) (a0_2 : Cap) (a1 a2 : Int) (a3 a4 : Bool) (a10_0 : Pt) (a10_1 : Nat) (a10_2 : Cap) (a11 : Bs) (h : H) : R := J T.toTab n e_strconv_formatBits [1, 1] [] [(0, (.slice a0_0 a0_1 a0_2)), (1, (.int .u64 a1)), (2, (.int .i64 a2)), (3, (.bool a3)), (4, (.bool a4)), (10, (.slice a10_0 a10_1 a10_2)), (11, (.str a11))] h
noncomputable def strconv_formatBits_J2 (n : Nat) (a0_0 : Pt) (a0_1 : Nat) (a0_2 : Cap) (a1 a2 : Int) (a3 a4 : Bool) (a10_0 : Pt) (a10_1 : Nat) (a10_2 : Cap) (a11 : Bs) (a12 : Pt) (a13 : Int) (h : H) : R := J T.toTab n e_strconv_formatBits [1, 1, 1, 1, 1] [] [(0, (.slice a0_0 a0_1 a0_2)), (1, (.int .u64 a1)), (2, (.int .i64 a2)), (3, (.bool a3)), (4, (.bool a4)), (10, (.slice a10_0 a10_1 a10_2)), (11, (.str a11)), (12, (.ptr a12)), (13, (.int .i64 a13))] h
noncomputable def strconv_formatBits_L3 (n m1 : Nat) (a0_0 : Pt) (a0_1 : Nat) (a0_2 : Cap) (a1 : Int) (a3 a4 : Bool) (a10_0 : Pt) (a10_1 : Nat) (a10_2 : Cap) (a11 : Bs) (a12 : Pt) (a13 a14 a15 a16 : Int) (h : H) : R := J T.toTab n e_strconv_formatBits [1, 1, 1, 1, 1, 0, 1, 0, 1, 1, 1, 0, 0] [m1] [(0, (.slice a0_0 a0_1 a0_2)), (1, (.int .u64 a1)), (3, (.bool a3)), (4, (.bool a4)), (10, (.slice a10_0 a10_1 a10_2)), (11, (.str a11)), (12, (.ptr a12)), (13, (.int .i64 a13)), (14, (.int .u64 a14)), (15, (.int .u64 a15)), (16, (.int .u64 a16))] h
noncomputable def strconv_formatBits_L4 (n m1 : Nat) (a0_0 : Pt) (a0_1 : Nat) (a0_2 : Cap) (a1 : Int) (a3 a4 : Bool) (a10_0 : Pt) (a10_1 : Nat) (a10_2 : Cap) (a11 : Bs) (a12 : Pt) (a13 a17 : Int) (h : H) : R := J T.toTab n e_strconv_formatBits [1, 1, 1, 1, 1, 0, 1, 1, 1, 0, 0] [m1] [(0, (.slice a0_0 a0_1 a0_2)), (1, (.int .u64 a1)), (3, (.bool a3)), (4, (.bool a4)), (10, (.slice a10_0 a10_1 a10_2)), (11, (.str a11)), (12, (.ptr a12)), (13, (.int .i64 a13)), (17, (.int .u64 a17))] h
noncomputable def strconv_formatBits_J5 (n : Nat) (a0_0 : Pt) (a0_1 : Nat) (a0_2 : Cap) (a3 a4 : Bool) (a10_0 : Pt) (a10_1 : Nat) (a10_2 : Cap) (a11 : Bs) (a12 : Pt) (a13 : Int) (h : H) : R := J T.toTab n e_strconv_formatBits [1, 1, 1, 1, 1, 1] [] [(0, (.slice a0_0 a0_1 a0_2)), (3, (.bool a3)), (4, (.bool a4)), (10, (.slice a10_0 a10_1 a10_2)), (11, (.str a11)), (12, (.ptr a12)), (13, (.int .i64 a13))] h
noncomputable def strconv_formatBits_J6 (n : Nat) (a0_0 : Pt) (a0_1 : Nat) (a0_2 : Cap) (a4 : Bool) (a10_0 : Pt) (a10_1 : Nat) (a10_2 : Cap) (a11 : Bs) (a12 : Pt) (a13 : Int) (h : H) : R := J T.toTab n e_strconv_formatBits [1, 1, 1, 1, 1, 1, 1] [] [(0, (.slice a0_0 a0_1 a0_2)), (4, (.bool a4)), (10, (.slice a10_0 a10_1 a10_2)), (11, (.str a11)), (12, (.ptr a12)), (13, (.int .i64 a13))] h
theorem strconv_formatBits_J0_eq (n : Nat) (a0_0 : Pt) (a0_1 : Nat) (a0_2 : Cap) (a1 a2 : Int) (a3 a4 : Bool) (a10_0 : Pt) (a10_1 : Nat) (a10_2 : Cap) (a11 : Bs) (a28 : Bool) (h : H) : strconv_formatBits_J0 n a0_0 a0_1 a0_2 a1 a2 a3 a4 a10_0 a10_1 a10_2 a11 a28 h = cond a28 (none) (strconv_formatBits_J1 n a0_0 a0_1 a0_2 a1 a2 a3 a4 a10_0 a10_1 a10_2 a11 h) := (J_eq T.toTab n e_strconv_formatBits [1, 0, 1] [] _ h).trans (by kernel_rfl)
theorem strconv_formatBits_J1_eq (n : Nat) (a0_0 : Pt) (a0_1 : Nat) (a0_2 : Cap) (a1 a2 : Int) (a3 a4 : Bool) (a10_0 : Pt) (a10_1 : Nat) (a10_2 : Cap) (a11 : Bs) (h : H) : strconv_formatBits_J1 n a0_0 a0_1 a0_2 a1 a2 a3 a4 a10_0 a10_1 a10_2 a11 h = newK (.cells [(.int .u8 0), (.int .u8 0), (.int .u8 0), (.int .u8 0), (.int .u8 0), (.int .u8 0), (.int .u8 0), (.int .u8 0), (.int .u8 0), (.int .u8 0), (.int .u8 0), (.int .u8 0), (.int .u8 0), (.int .u8 0), (.int .u8 0), (.int .u8 0), (.int .u8 0), (.int .u8 0), (.int .u8 0), (.int .u8 0), (.int .u8 0), (.int .u8 0), (.int .u8 0), (.int .u8 0), (.int .u8 0), (.int .u8 0), (.int .u8 0), (.int .u8 0), (.int .u8 0), (.int .u8 0), (.int .u8 0), (.int .u8 0), (.int .u8 0), (.int .u8 0), (.int .u8 0), (.int .u8 0), (.int .u8 0), (.int .u8 0), (.int .u8 0), (.int .u8 0), (.int .u8 0), (.int .u8 0), (.int .u8 0), (.int .u8 0), (.int .u8 0), (.int .u8 0), (.int .u8 0), (.int .u8 0), (.int .u8 0), (.int .u8 0), (.int .u8 0), (.int .u8 0), (.int .u8 0), (.int .u8 0), (.int .u8 0), (.int .u8 0), (.int .u8 0), (.int .u8 0), (.int .u8 0), (.int .u8 0), (.int .u8 0), (.int .u8 0), (.int .u8 0), (.int .u8 0), (.int .u8 0)] false) h fun i1 h2 => cond a3 (strconv_formatBits_J2 n a0_0 a0_1 a0_2 (IntKind.u64.wrap (0 - a1)) a2 a3 a4 a10_0 a10_1 a10_2 a11 (some (i1, 0)) 65 h2) (strconv_formatBits_J2 n a0_0 a0_1 a0_2 a1 a2 a3 a4 a10_0 a10_1 a10_2 a11 (some (i1, 0)) 65 h2) := (J_eq T.toTab n e_strconv_formatBits [1, 1] [] _ h).trans (by kernel_rfl)
theorem strconv_formatBits_J2_eq (n : Nat) (a0_0 : Pt) (a0_1 : Nat) (a0_2 : Cap) (a1 a2 : Int) (a3 a4 : Bool) (a10_0 : Pt) (a10_1 : Nat) (a10_2 : Cap) (a11 : Bs) (a12 : Pt) (a13 : Int) (h : H) : strconv_formatBits_J2 n a0_0 a0_1 a0_2 a1 a2 a3 a4 a10_0 a10_1 a10_2 a11 a12 a13 h = (ca n i_strconv_isPowerOfTwo [(.int .i64 a2)] h).bind fun q3 => asBool q3.1 fun x4 => cond x4 ((ca n i_bits_TrailingZeros [(.int .u64 (IntKind.u64.wrap a2))] q3.2).bind fun q5 => asInt .i64 q5.1 fun x6 => strconv_formatBits_L3 n n a0_0 a0_1 a0_2 a1 a3 a4 a10_0 a10_1 a10_2 a11 a12 a13 (IntKind.u64.wrap x6) (IntKind.u64.wrap a2) (IntKind.u64.wrap ((IntKind.u64.wrap a2) - 1)) q5.2) (strconv_formatBits_L4 n n a0_0 a0_1 a0_2 a1 a3 a4 a10_0 a10_1 a10_2 a11 a12 a13 (IntKind.u64.wrap a2) q3.2) := (J_eq T.toTab n e_strconv_formatBits [1, 1, 1, 1, 1] [] _ h).trans (by kernel_rfl)
theorem strconv_formatBits_L3_eq (n m1 : Nat) (a0_0 : Pt) (a0_1 : Nat) (a0_2 : Cap) (a1 : Int) (a3 a4 : Bool) (a10_0 : Pt) (a10_1 : Nat) (a10_2 : Cap) (a11 : Bs) (a12 : Pt) (a13 a14 a15 a16 : Int) (h : H) : strconv_formatBits_L3 n (m1 + 1) a0_0 a0_1 a0_2 a1 a3 a4 a10_0 a10_1 a10_2 a11 a12 a13 a14 a15 a16 h = cond (decide (a1 ≥ a15)) (byteK s_fdb5537d (iand .u64 a1 a16) fun y7 => nnK a12 fun b8 o9 => if 0 ≤ (IntKind.i64.wrap (a13 - 1)) ∧ (IntKind.i64.wrap (a13 - 1)) < ((65 : Nat) : Int) then wrK h b8 (o9 + ((IntKind.i64.wrap (a13 - 1))).toNat) 1 [(.int .u8 y7)] fun h10 => if a14 < 0 then none else strconv_formatBits_L3 n m1 a0_0 a0_1 a0_2 (ishr .u64 a1 a14) a3 a4 a10_0 a10_1 a10_2 a11 a12 (IntKind.i64.wrap (a13 - 1)) a14 a15 a16 h10 else none) (byteK s_fdb5537d a1 fun y11 => nnK a12 fun b12 o13 => if 0 ≤ (IntKind.i64.wrap (a13 - 1)) ∧ (IntKind.i64.wrap (a13 - 1)) < ((65 : Nat) : Int) then wrK h b12 (o13 + ((IntKind.i64.wrap (a13 - 1))).toNat) 1 [(.int .u8 y11)] fun h14 => strconv_formatBits_J5 n a0_0 a0_1 a0_2 a3 a4 a10_0 a10_1 a10_2 a11 a12 (IntKind.i64.wrap (a13 - 1)) h14 else none) := (J_eq T.toTab n e_strconv_formatBits [1, 1, 1, 1, 1, 0, 1, 0, 1, 1, 1, 0, 0] [m1 + 1] _ h).trans (by kernel_rfl)
theorem strconv_formatBits_J5_eq (n : Nat) (a0_0 : Pt) (a0_1 : Nat) (a0_2 : Cap) (a3 a4 : Bool) (a10_0 : Pt) (a10_1 : Nat) (a10_2 : Cap) (a11 : Bs) (a12 : Pt) (a13 : Int) (h : H) : strconv_formatBits_J5 n a0_0 a0_1 a0_2 a3 a4 a10_0 a10_1 a10_2 a11 a12 a13 h = cond a3 (nnK a12 fun b23 o24 => if 0 ≤ (IntKind.i64.wrap (a13 - 1)) ∧ (IntKind.i64.wrap (a13 - 1)) < ((65 : Nat) : Int) then wrK h b23 (o24 + ((IntKind.i64.wrap (a13 - 1))).toNat) 1 [(.int .u8 45)] fun h25 => strconv_formatBits_J6 n a0_0 a0_1 a0_2 a4 a10_0 a10_1 a10_2 a11 a12 (IntKind.i64.wrap (a13 - 1)) h25 else none) (strconv_formatBits_J6 n a0_0 a0_1 a0_2 a4 a10_0 a10_1 a10_2 a11 a12 a13 h) := (J_eq T.toTab n e_strconv_formatBits [1, 1, 1, 1, 1, 1] [] _ h).trans (by kernel_rfl)
theorem strconv_formatBits_J6_eq (n : Nat) (a0_0 : Pt) (a0_1 : Nat) (a0_2 : Cap) (a4 : Bool) (a10_0 : Pt) (a10_1 : Nat) (a10_2 : Cap) (a11 : Bs) (a12 : Pt) (a13 : Int) (h : H) : strconv_formatBits_J6 n a0_0 a0_1 a0_2 a4 a10_0 a10_1 a10_2 a11 a12 a13 h = cond a4 (nnK a12 fun b26 o27 => bndK 65 65 0 (some (.int .i64 a13)) none none fun lo28 hi29 mx30 => appK 1 1 a0_0 a0_1 a0_2 (evSrc 1 (.slice (some (b26, (if mx30 = lo28 then o27 else o27 + lo28 * 1))) (hi29 - lo28) (.known (mx30 - lo28))) h) h fun p31 n32 c33 h34 => some ((.tup [(.slice p31 n32 c33), (.str a11)]), h34)) (nnK a12 fun b35 o36 => bndK 65 65 0 (some (.int .i64 a13)) none none fun lo37 hi38 mx39 => bsK h (.slice (some (b35, (if mx39 = lo37 then o36 else o36 + lo37 * 1))) (hi38 - lo37) (.known (mx39 - lo37))) fun s40 => some ((.tup [(.slice a10_0 a10_1 a10_2), (.str s40)]), h)) := (J_eq T.toTab n e_strconv_formatBits [1, 1, 1, 1, 1, 1, 1] [] _ h).trans (by kernel_rfl)
theorem strconv_formatBits_eq (n : Nat) (a0_0 : Pt) (a0_1 : Nat) (a0_2 : Cap) (a1 a2 : Int) (a3 a4 : Bool) (h : H) : ca (n + 1) i_strconv_formatBits [(.slice a0_0 a0_1 a0_2), (.int .u64 a1), (.int .i64 a2), (.bool a3), (.bool a4)] h = cond (decide (a2 < (2 : Int))) (strconv_formatBits_J0 n a0_0 a0_1 a0_2 a1 a2 a3 a4 none 0 (.known 0) (⟨#[]⟩ : ByteArray) true h) (cond ((a2 : Int) == (10 : Int)) (strconv_formatBits_J0 n a0_0 a0_1 a0_2 a1 a2 a3 a4 none 0 (.known 0) (⟨#[]⟩ : ByteArray) true h) (strconv_formatBits_J0 n a0_0 a0_1 a0_2 a1 a2 a3 a4 none 0 (.known 0) (⟨#[]⟩ : ByteArray) (decide (a2 > (36 : Int))) h)) := by kernel_rfl

-- 36 (*outrider/config.parser).block
noncomputable def config_parser_block_J0 (n : Nat) (a0 : Pt) (a1 : Option Nat) (a19 : Bool) (h : H) (kk : KK) : Option Unit := JR T n e_config_parser_block [1, 0, 0, 1] [] [(0, (.ptr a0)), (1, (.map a1)), (19, (.bool a19))] h kk
noncomputable def config_parser_block_L1 (n m1 : Nat) (a0 : Pt) (a1 a5 : Option Nat) (h : H) (kk : KK) : Option Unit := JR T n e_config_parser_block [1, 0, 1, 1, 1, 0, 0] [m1] [(0, (.ptr a0)), (1, (.map a1)), (5, (.map a5))] h kk
noncomputable def config_parser_block_L3 (n m1 : Nat) (a0 : Pt) (a5 : Option Nat) (a81 : Pt) (h : H) (kk : KK) : Option Unit := JR T n e_config_parser_block [1, 0, 1, 1, 1, 1, 0, 1, 0] [m1] [(0, (.ptr a0)), (5, (.map a5)), (81, (.ptr a81))] h kk
noncomputable def config_parser_block_J2 (n m1 : Nat) (a0 : Pt) (a1 a5 : Option Nat) (a6 : Int) (a7 : Bs) (a8 : Pt) (a40 : Bool) (h : H) (kk : KK) : Option Unit := JR T n e_config_parser_block [1, 0, 1, 1, 1, 0, 0, 0, 0, 1, 1, 0, 0, 1, 1, 1, 1, 1] [m1] [(0, (.ptr a0)), (1, (.map a1)), (5, (.map a5)), (6, (.int .i64 a6)), (7, (.str a7)), (8, (.ptr a8)), (40, (.bool a40))] h kk
noncomputable def config_parser_block_J4 (n m1 : Nat) (a0 : Pt) (a5 : Option Nat) (a81 : Pt) (a94 : Bool) (h : H) (kk : KK) : Option Unit := JR T n e_config_parser_block [1, 0, 1, 1, 1, 1, 0, 1, 0, 0, 1, 1, 0, 1, 1] [m1] [(0, (.ptr a0)), (5, (.map a5)), (81, (.ptr a81)), (94, (.bool a94))] h kk
theorem config_parser_block_J0_eq (n : Nat) (a0 : Pt) (a1 : Option Nat) (a19 : Bool) (h : H) (kk : KK) : config_parser_block_J0 n a0 a1 a19 h kk = cond a19 (kk (.bool false) h) (newK (.map [] 0) h fun i5 h6 => config_parser_block_L1 n n a0 a1 (some i5) h6 kk) := (JR_eq T n e_config_parser_block [1, 0, 0, 1] [] _ h kk).trans (by kernel_rfl)
theorem config_parser_block_L1_eq (n m1 : Nat) (a0 : Pt) (a1 a5 : Option Nat) (h : H) (kk : KK) : config_parser_block_L1 n (m1 + 1) a0 a1 a5 h kk = (ca n i_config_parser_place [(.ptr a0)] h).bind fun q7 => asInt .i64 q7.1 fun x8 => (ca n i_config_parser_peek [(.ptr a0)] q7.2).bind fun q9 => asStr q9.1 fun x10 => lookK (.agg [(.int .i64 0), (.bool false), .nilFunc]) a1 (.str x10) q9.2 fun v11 t12 => asAgg v11 fun l13 => lI l13 fun x15 l14 => lB l14 fun x17 l16 => lc l16 fun v19 l18 => l0 l18 (newK (.cells [(.int .i64 0), (.bool false), .nilFunc] false) q9.2 fun i20 h21 => wrK h21 i20 0 3 [(.int .i64 x15), (.bool x17), v19] fun h22 => cond (x10.toList == (⟨#[125]⟩ : ByteArray).toList) (rangeMK a1 h22 fun i23 h24 => config_parser_block_L3 n n a0 a5 (some (i23, 0)) h24 kk) (cond (!t12) ((ca n i_config_parser_fail [(.ptr a0), (.int .i64 x8), (.int .i64 180)] h22).bind fun q25 => asBool q25.1 fun x26 => kk (.bool x26) q25.2) (lookK (.int .i64 0) a5 (.str x10) h22 fun v27 t28 => asInt .i64 v27 fun x29 => cellK h22 i20 0 fun v30 => asInt .i64 v30 fun x31 => cond (decide (x29 ≥ x31)) (cellK h22 i20 0 fun v32 => asInt .i64 v32 fun x33 => config_parser_block_J2 n m1 a0 a1 a5 x8 x10 (some (i20, 0)) ((x33 : Int) == (1 : Int)) h22 kk) (config_parser_block_J2 n m1 a0 a1 a5 x8 x10 (some (i20, 0)) false h22 kk)))) := (JR_eq T n e_config_parser_block [1, 0, 1, 1, 1, 0, 0] [m1 + 1] _ h kk).trans (by kernel_rfl)
theorem config_parser_block_L3_eq (n m1 : Nat) (a0 : Pt) (a5 : Option Nat) (a81 : Pt) (h : H) (kk : KK) : config_parser_block_L3 n (m1 + 1) a0 a5 a81 h kk = nnK a81 fun b34 o35 => match o35 with | 0 => nextMK h b34 (fun u36 u37 h38 => nnK a81 fun b39 o40 => match o40 with | 0 => entryK h38 b39 fun u41 u42 => asStr u41 fun x43 => asAgg u42 fun l44 => lI l44 fun x46 l45 => lB l45 fun x48 l47 => lc l47 fun v50 l49 => l0 l49 (newK (.cells [(.int .i64 0), (.bool false), .nilFunc] false) h38 fun i51 h52 => wrK h52 i51 0 3 [(.int .i64 x46), (.bool x48), v50] fun h53 => cellK h53 i51 1 fun v54 => asBool v54 fun x55 => cond x55 (lookK (.int .i64 0) a5 (.str x43) h53 fun v56 t57 => asInt .i64 v56 fun x58 => config_parser_block_J4 n m1 a0 a5 a81 ((x58 : Int) == (0 : Int)) h53 kk) (config_parser_block_J4 n m1 a0 a5 a81 false h53 kk)) | _ => none) (nnK a0 fun b59 o60 => cellK h b59 (o60 + 2) fun v61 => asInt .i64 v61 fun x62 => nnK a0 fun b63 o64 => wrK h b63 (o64 + 2) 1 [(.int .i64 (IntKind.i64.wrap (x62 + 1)))] fun h65 => (ca n i_config_parser_must [(.ptr a0), (.str (⟨#[10]⟩ : ByteArray))] h65).bind fun q66 => asBool q66.1 fun x67 => kk (.bool x67) q66.2) | _ => none := (JR_eq T n e_config_parser_block [1, 0, 1, 1, 1, 1, 0, 1, 0] [m1 + 1] _ h kk).trans (by kernel_rfl)
theorem config_parser_block_J2_eq (n m1 : Nat) (a0 : Pt) (a1 a5 : Option Nat) (a6 : Int) (a7 : Bs) (a8 : Pt) (a40 : Bool) (h : H) (kk : KK) : config_parser_block_J2 n m1 a0 a1 a5 a6 a7 a8 a40 h kk = cond a40 ((ca n i_config_parser_fail [(.ptr a0), (.int .i64 a6), (.int .i64 181)] h).bind fun q68 => asBool q68.1 fun x69 => kk (.bool x69) q68.2) (lookK (.int .i64 0) a5 (.str a7) h fun v70 t71 => asInt .i64 v70 fun x72 => nnK a8 fun b73 o74 => cellK h b73 o74 fun v75 => asInt .i64 v75 fun x76 => cond (decide (x72 ≥ x76)) ((ca n i_config_parser_fail [(.ptr a0), (.int .i64 a6), (.int .i64 184)] h).bind fun q77 => asBool q77.1 fun x78 => kk (.bool x78) q77.2) (lookK (.int .i64 0) a5 (.str a7) h fun v79 t80 => asInt .i64 v79 fun x81 => putK a5 (.str a7) (.int .i64 (IntKind.i64.wrap (x81 + 1))) h fun h82 => nnK a0 fun b83 o84 => cellK h82 b83 (o84 + 2) fun v85 => asInt .i64 v85 fun x86 => nnK a0 fun b87 o88 => wrK h82 b87 (o88 + 2) 1 [(.int .i64 (IntKind.i64.wrap (x86 + 1)))] fun h89 => nnK a8 fun b90 o91 => cellK h89 b90 (o91 + 2) fun v92 => asFn v92 fun f94 x95 y96 => callU T n f94 (x95 ++ [] ++ y96) h89 fun v98 h99 => crF T.toTab f94 v98 fun v97 => asBool v97 fun x100 => cond (!x100) (kk (.bool false) h99) (config_parser_block_L1 n m1 a0 a1 a5 h99 kk))) := (JR_eq T n e_config_parser_block [1, 0, 1, 1, 1, 0, 0, 0, 0, 1, 1, 0, 0, 1, 1, 1, 1, 1] [m1] _ h kk).trans (by kernel_rfl)
theorem config_parser_block_J4_eq (n m1 : Nat) (a0 : Pt) (a5 : Option Nat) (a81 : Pt) (a94 : Bool) (h : H) (kk : KK) : config_parser_block_J4 n m1 a0 a5 a81 a94 h kk = cond a94 ((ca n i_config_parser_place [(.ptr a0)] h).bind fun q101 => asInt .i64 q101.1 fun x102 => (ca n i_config_parser_fail [(.ptr a0), (.int .i64 x102), (.int .i64 183)] q101.2).bind fun q103 => asBool q103.1 fun x104 => kk (.bool x104) q103.2) (config_parser_block_L3 n m1 a0 a5 a81 h kk) := (JR_eq T n e_config_parser_block [1, 0, 1, 1, 1, 1, 0, 1, 0, 0, 1, 1, 0, 1, 1] [m1] _ h kk).trans (by kernel_rfl)
theorem config_parser_block_eq (n : Nat) (a0 : Pt) (a1 : Option Nat) (h : H) (kk : KK) : cr (n + 1) i_config_parser_block [(.ptr a0), (.map a1)] h kk = (ca n i_config_parser_must [(.ptr a0), (.str (⟨#[123]⟩ : ByteArray))] h).bind fun q1 => asBool q1.1 fun x2 => cond (!x2) (config_parser_block_J0 n a0 a1 true q1.2 kk) ((ca n i_config_parser_must [(.ptr a0), (.str (⟨#[10]⟩ : ByteArray))] q1.2).bind fun q3 => asBool q3.1 fun x4 => config_parser_block_J0 n a0 a1 (!x4) q3.2 kk) := by kernel_rfl

-- 3 outrider/outriderlaw18.ConfigSpaced
noncomputable def outriderlaw18_ConfigSpaced_J0 (n : Nat) (a0 a1 : Bs) (a21 : Bool) (h : H) (kk : KK) : Option Unit := JR T n e_outriderlaw18_ConfigSpaced [1, 0, 1] [] [(0, (.str a0)), (1, (.str a1)), (21, (.bool a21))] h kk
noncomputable def outriderlaw18_ConfigSpaced_L1 (n m1 : Nat) (a0 a1 : Bs) (a24 a25 : Int) (h : H) (kk : KK) : Option Unit := JR T n e_outriderlaw18_ConfigSpaced [1, 1, 0, 1, 0] [m1] [(0, (.str a0)), (1, (.str a1)), (24, (.int .i64 a24)), (25, (.int .i64 a25))] h kk
noncomputable def outriderlaw18_ConfigSpaced_J2 (n m1 : Nat) (a0 a1 : Bs) (a24 a25 : Int) (a37 : Bool) (h : H) (kk : KK) : Option Unit := JR T n e_outriderlaw18_ConfigSpaced [1, 1, 0, 1, 0, 0, 1, 1, 0, 0, 1, 1] [m1] [(0, (.str a0)), (1, (.str a1)), (24, (.int .i64 a24)), (25, (.int .i64 a25)), (37, (.bool a37))] h kk
noncomputable def outriderlaw18_ConfigSpaced_L3 (n m1 : Nat) (a0 a1 a6 : Bs) (a41 a42 : Int) (h : H) (kk : KK) : Option Unit := JR T n e_outriderlaw18_ConfigSpaced [1, 1, 1, 1, 0, 1, 0] [m1] [(0, (.str a0)), (1, (.str a1)), (6, (.str a6)), (41, (.int .i64 a41)), (42, (.int .i64 a42))] h kk
theorem outriderlaw18_ConfigSpaced_J0_eq (n : Nat) (a0 a1 : Bs) (a21 : Bool) (h : H) (kk : KK) : outriderlaw18_ConfigSpaced_J0 n a0 a1 a21 h kk = cond a21 (cr n i_outriderlaw18_alive [] h fun v2 h3 => asBool v2 fun x4 => kk (.bool x4) h3) (outriderlaw18_ConfigSpaced_L1 n n a0 a1 (Nat.cast a1.size) 0 h kk) := (JR_eq T n e_outriderlaw18_ConfigSpaced [1, 0, 1] [] _ h kk).trans (by kernel_rfl)
theorem outriderlaw18_ConfigSpaced_L1_eq (n m1 : Nat) (a0 a1 : Bs) (a24 a25 : Int) (h : H) (kk : KK) : outriderlaw18_ConfigSpaced_L1 n (m1 + 1) a0 a1 a24 a25 h kk = cond (decide (a25 < a24)) (byteK a1 a25 fun y5 => cond (decide (y5 < (32 : Int))) (outriderlaw18_ConfigSpaced_J2 n m1 a0 a1 a24 a25 true h kk) (byteK a1 a25 fun y6 => outriderlaw18_ConfigSpaced_J2 n m1 a0 a1 a24 a25 (decide (y6 > (126 : Int))) h kk)) (outriderlaw18_ConfigSpaced_L3 n n a0 a1 (⟨#[]⟩ : ByteArray) (Nat.cast a0.size) 0 h kk) := (JR_eq T n e_outriderlaw18_ConfigSpaced [1, 1, 0, 1, 0] [m1 + 1] _ h kk).trans (by kernel_rfl)
theorem outriderlaw18_ConfigSpaced_J2_eq (n m1 : Nat) (a0 a1 : Bs) (a24 a25 : Int) (a37 : Bool) (h : H) (kk : KK) : outriderlaw18_ConfigSpaced_J2 n m1 a0 a1 a24 a25 a37 h kk = cond a37 (cr n i_outriderlaw18_alive [] h fun v8 h9 => asBool v8 fun x10 => kk (.bool x10) h9) (outriderlaw18_ConfigSpaced_L1 n m1 a0 a1 a24 (IntKind.i64.wrap (a25 + 1)) h kk) := (JR_eq T n e_outriderlaw18_ConfigSpaced [1, 1, 0, 1, 0, 0, 1, 1, 0, 0, 1, 1] [m1] _ h kk).trans (by kernel_rfl)
theorem outriderlaw18_ConfigSpaced_L3_eq (n m1 : Nat) (a0 a1 a6 : Bs) (a41 a42 : Int) (h : H) (kk : KK) : outriderlaw18_ConfigSpaced_L3 n (m1 + 1) a0 a1 a6 a41 a42 h kk = cond (decide (a42 < a41)) (bndK a0.size a0.size 0 (some (.int .i64 a42)) (some (.int .i64 (IntKind.i64.wrap (a42 + 1)))) none fun lo11 hi12 mx13 => catK a6 (a0.extract lo11 hi12) fun s14 => byteK a0 a42 fun y15 => cond ((y15 : Int) == (10 : Int)) (catK (⟨#[32, 9, 35, 32]⟩ : ByteArray) a1 fun s16 => catK s16 (⟨#[10, 10, 32, 32]⟩ : ByteArray) fun s17 => catK s14 s17 fun s18 => outriderlaw18_ConfigSpaced_L3 n m1 a0 a1 s18 a41 (IntKind.i64.wrap (a42 + 1)) h kk) (outriderlaw18_ConfigSpaced_L3 n m1 a0 a1 s14 a41 (IntKind.i64.wrap (a42 + 1)) h kk)) (cr n i_config_Parse [(.str a0)] h fun v20 h21 => asTup v20 fun l22 => lA l22 fun x24 l23 => lI l23 fun x26 l25 => lI l25 fun x28 l27 => l0 l27 (newK (.cells [(.int .u8 0), (.int .u8 0), (.int .u8 0), (.int .u8 0), (.int .u8 0), (.int .u8 0), (.str .empty), (.str .empty), (.int .i64 0), (.int .i64 0), (.int .i64 0), (.bool false), (.slice none 0 (.known 0)), (.slice none 0 (.known 0)), (.slice none 0 (.known 0))] false) h21 fun i29 h30 => wrK h30 i29 0 15 x24 fun h31 => cr n i_config_Parse [(.str a6)] h31 fun v33 h34 => asTup v33 fun l35 => lA l35 fun x37 l36 => lI l36 fun x39 l38 => lI l38 fun x41 l40 => l0 l40 (newK (.cells [(.int .u8 0), (.int .u8 0), (.int .u8 0), (.int .u8 0), (.int .u8 0), (.int .u8 0), (.str .empty), (.str .empty), (.int .i64 0), (.int .i64 0), (.int .i64 0), (.bool false), (.slice none 0 (.known 0)), (.slice none 0 (.known 0)), (.slice none 0 (.known 0))] false) h34 fun i42 h43 => wrK h43 i42 0 15 x37 fun h44 => cr n i_outriderlaw18_alive [] h44 fun v46 h47 => asBool v46 fun x48 => cond x48 (cond ((x28 : Int) == x41) (aggK h47 i29 0 15 fun l49 => (ca n i_config_Print [(.agg l49)] h47).bind fun q50 => asStr q50.1 fun x51 => aggK (q50.2.minus (addT noT h47 q50.2)) i42 0 15 fun l52 => (ca n i_config_Print [(.agg l52)] q50.2).bind fun q53 => asStr q53.1 fun x54 => kk (.bool (x51.toList == x54.toList)) q53.2) (kk (.bool false) h47)) (kk (.bool false) h47)))) := (JR_eq T n e_outriderlaw18_ConfigSpaced [1, 1, 1, 1, 0, 1, 0] [m1 + 1] _ h kk).trans (by kernel_rfl)
theorem outriderlaw18_ConfigSpaced_eq (n : Nat) (a0 a1 : Bs) (h : H) (kk : KK) : cr (n + 1) i_outriderlaw18_ConfigSpaced [(.str a0), (.str a1)] h kk = cond (decide ((Nat.cast a0.size) > (10000 : Int))) (outriderlaw18_ConfigSpaced_J0 n a0 a1 true h kk) (outriderlaw18_ConfigSpaced_J0 n a0 a1 (decide ((Nat.cast a1.size) > (100 : Int))) h kk) := by kernel_rfl

-- 50 internal/strconv.FormatInt
noncomputable def strconv_FormatInt_2_J0 (n : Nat) (a0 : Int) (a17 : Bool) (h : H) : R := J T.toTab n e_strconv_FormatInt_2 [1, 0, 1, 0, 0, 1] [] [(0, (.int .i64 a0)), (17, (.bool a17))] h
theorem strconv_FormatInt_2_eq (n : Nat) (a0 a1 : Int) (h : H) : ca (n + 1) i_strconv_FormatInt_2 [(.int .i64 a0), (.int .i64 a1)] h = cond ((a1 : Int) == (10 : Int)) (cond (decide ((0 : Int) ≤ a0)) (strconv_FormatInt_2_J0 n a0 (decide (a0 < (100 : Int))) h) (strconv_FormatInt_2_J0 n a0 false h)) ((ca n i_strconv_formatBits [(.slice none 0 (.known 0)), (.int .u64 (IntKind.u64.wrap a0)), (.int .i64 a1), (.bool (decide (a0 < (0 : Int)))), (.bool false)] h).bind fun q1 => asTup q1.1 fun l2 => lL l2 fun x4 n5 c6 l3 => lS l3 fun x8 l7 => l0 l7 (some ((.str x8), q1.2))) := by kernel_rfl

-- 25 (*outrider/config.parser).vrrp
theorem config_parser_vrrp_eq (n : Nat) (a0 : Pt) (h : H) (kk : KK) : cr (n + 1) i_config_parser_vrrp [(.ptr a0)] h kk = newK (.cells [(.int .i64 0)] false) h fun i1 h2 => wrK h2 i1 0 1 [(.int .i64 1)] fun h3 => newHK h3 fun i4 h5 => nnK a0 fun b6 o7 => (ca n i_config_parser_number [(.ptr a0), (.ptr (some (b6, ((o7 + 3) + 8)))), (.int .i64 1), (.int .i64 255)] h5).bind fun q8 => asFn q8.1 fun f9 x10 y11 => (ca n i_config_once [(.bool true), (.func f9 x10 y11)] q8.2).bind fun q12 => asAgg q12.1 fun l13 => lI l13 fun x15 l14 => lB l14 fun x17 l16 => lc l16 fun v19 l18 => l0 l18 (nnK a0 fun b20 o21 => (ca n i_config_parser_number [(.ptr a0), (.ptr (some (b20, ((o21 + 3) + 9)))), (.int .i64 1), (.int .i64 255)] q12.2).bind fun q22 => asFn q22.1 fun f23 x24 y25 => (ca n i_config_once [(.bool true), (.func f23 x24 y25)] q22.2).bind fun q26 => asAgg q26.1 fun l27 => lI l27 fun x29 l28 => lB l28 fun x31 l30 => lc l30 fun v33 l32 => l0 l32 (nnK a0 fun b34 o35 => (ca n i_config_parser_number [(.ptr a0), (.ptr (some (b34, ((o35 + 3) + 10)))), (.int .i64 1), (.int .i64 4095)] q26.2).bind fun q36 => asFn q36.1 fun f37 x38 y39 => (ca n i_config_once [(.bool true), (.func f37 x38 y39)] q36.2).bind fun q40 => asAgg q40.1 fun l41 => lI l41 fun x43 l42 => lB l42 fun x45 l44 => lc l44 fun v47 l46 => l0 l46 (newHK q40.2 fun i48 h49 => (ca n i_config_parser_choice [(.ptr a0), (.ptr (some (i1, 0))), (.map (some i48))] h49).bind fun q50 => asFn q50.1 fun f51 x52 y53 => (ca n i_config_once [(.bool false), (.func f51 x52 y53)] q50.2).bind fun q54 => asAgg q54.1 fun l55 => lI l55 fun x57 l56 => lB l56 fun x59 l58 => lc l58 fun v61 l60 => l0 l60 ((ca n i_config_parser_address [(.ptr a0), (.bool false), (.func i_config_parser_vip [(.ptr a0)] [])] q54.2).bind fun q62 => asFn q62.1 fun f63 x64 y65 => restK [i4, i48] [(i4, (.str (⟨#[105, 100]⟩ : ByteArray)), (.agg [(.int .i64 x15), (.bool x17), v19])), (i4, (.str (⟨#[112, 114, 105, 111, 114, 105, 116, 121]⟩ : ByteArray)), (.agg [(.int .i64 x29), (.bool x31), v33])), (i4, (.str (⟨#[101, 118, 101, 114, 121]⟩ : ByteArray)), (.agg [(.int .i64 x43), (.bool x45), v47])), (i48, (.str (⟨#[121, 101, 115]⟩ : ByteArray)), (.int .i64 1)), (i48, (.str (⟨#[110, 111]⟩ : ByteArray)), (.int .i64 0)), (i4, (.str (⟨#[112, 114, 101, 101, 109, 112, 116]⟩ : ByteArray)), (.agg [(.int .i64 x57), (.bool x59), v61])), (i4, (.str (⟨#[118, 105, 112]⟩ : ByteArray)), (.agg [(.int .i64 8), (.bool true), (.func f63 x64 y65)])), (i4, (.str (⟨#[116, 114, 97, 99, 107]⟩ : ByteArray)), (.agg [(.int .i64 8), (.bool false), (.func i_config_parser_track [(.ptr a0)] [])]))] q62.2 fun h66 => cr n i_config_parser_block [(.ptr a0), (.map (some i4))] h66 fun v68 h69 => asBool v68 fun x70 => cellK h69 i1 0 fun v71 => asInt .i64 v71 fun x72 => nnK a0 fun b73 o74 => wrK h69 b73 ((o74 + 3) + 11) 1 [(.bool ((x72 : Int) == (1 : Int)))] fun h75 => kk (.bool x70) h75)))) := by kernel_rfl

-- 10 outrider/words.All
noncomputable def words_All_L0 (n m1 : Nat) (a0 : Bs) (a5 : Pt) (a13 a14 : Int) (h : H) : R := J T.toTab n e_words_All [1, 1, 0, 1, 0] [m1] [(0, (.str a0)), (5, (.ptr a5)), (13, (.int .i64 a13)), (14, (.int .i64 a14))] h
noncomputable def words_All_J1 (n m1 : Nat) (a0 : Bs) (a5 : Pt) (a6 a7 a13 a14 : Int) (a34 : Bool) (h : H) : R := J T.toTab n e_words_All [1, 1, 0, 1, 0, 0, 1, 1, 0, 0, 1, 1, 0, 1, 1, 1] [m1] [(0, (.str a0)), (5, (.ptr a5)), (6, (.int .i64 a6)), (7, (.int .i64 a7)), (13, (.int .i64 a13)), (14, (.int .i64 a14)), (34, (.bool a34))] h
theorem words_All_L0_eq (n m1 : Nat) (a0 : Bs) (a5 : Pt) (a13 a14 : Int) (h : H) : words_All_L0 n (m1 + 1) a0 a5 a13 a14 h = cond (decide (a14 < a13)) (nnK a5 fun b3 o4 => cellK h b3 (o4 + 3) fun v5 => asInt .i64 v5 fun x6 => cond ((a14 : Int) == (Nat.cast a0.size)) ((ca n i_words_reader_end [(.ptr a5), (.int .i64 a14)] h).bind fun q7 => asBool q7.1 fun x8 => cond (!x8) (some ((.tup [(.slice none 0 (.known 0)), (.int .i64 x6), (.int .i64 170)]), q7.2)) ((ca n i_words_reader_stop [(.ptr a5), (.int .i64 a14)] q7.2).bind fun q9 => asTup q9.1 fun l10 => l0 l10 (words_All_L0 n m1 a0 a5 a13 (IntKind.i64.wrap (a14 + 1)) q9.2))) (cond (decide (x6 ≥ (0 : Int))) (words_All_J1 n m1 a0 a5 a14 x6 a13 a14 (decide ((IntKind.i64.wrap (a14 - x6)) > (60 : Int))) h) (words_All_J1 n m1 a0 a5 a14 x6 a13 a14 false h))) (nnK a5 fun b11 o12 => cellK h b11 (o12 + 1) fun v13 => asSlice v13 fun x14 n15 c16 => some ((.tup [(.slice x14 n15 c16), (.int .i64 0), (.int .i64 0)]), h)) := (J_eq T.toTab n e_words_All [1, 1, 0, 1, 0] [m1 + 1] _ h).trans (by kernel_rfl)
theorem words_All_J1_eq (n m1 : Nat) (a0 : Bs) (a5 : Pt) (a6 a7 a13 a14 : Int) (a34 : Bool) (h : H) : words_All_J1 n m1 a0 a5 a6 a7 a13 a14 a34 h = cond a34 (some ((.tup [(.slice none 0 (.known 0)), (.int .i64 a7), (.int .i64 170)]), h)) (byteK a0 a6 fun y17 => (ca n i_words_may [(.int .u8 y17)] h).bind fun q18 => asBool q18.1 fun x19 => cond (!x19) (some ((.tup [(.slice none 0 (.known 0)), (.int .i64 a6), (.int .i64 170)]), q18.2)) (byteK a0 a6 fun y20 => (ca n i_words_reader_take [(.ptr a5), (.int .u8 y20), (.int .i64 a6)] q18.2).bind fun q21 => asBool q21.1 fun x22 => cond (!x22) (some ((.tup [(.slice none 0 (.known 0)), (.int .i64 a7), (.int .i64 170)]), q21.2)) (words_All_L0 n m1 a0 a5 a13 (IntKind.i64.wrap (a14 + 1)) q21.2))) := (J_eq T.toTab n e_words_All [1, 1, 0, 1, 0, 0, 1, 1, 0, 0, 1, 1, 0, 1, 1, 1] [m1] _ h).trans (by kernel_rfl)
theorem words_All_eq (n : Nat) (a0 : Bs) (h : H) : ca (n + 1) i_words_All [(.str a0)] h = newK (.cells [(.str a0), (.slice none 0 (.known 0)), (.int .i64 1), (.int .i64 (-1)), (.bool false), (.bool false)] false) h fun i1 h2 => words_All_L0 n n a0 (some (i1, 0)) (IntKind.i64.wrap ((Nat.cast a0.size) + 1)) 0 h2 := by kernel_rfl

-- 55 (*outrider/config.parser).address$1
theorem config_parser_address_1_eq (n : Nat) (a0 a1 a2 : Pt) (h : H) : ca (n + 1) i_config_parser_address_1 [(.ptr a0), (.ptr a1), (.ptr a2)] h = nnK a0 fun b1 o2 => cellK h b1 o2 fun v3 => asPtr v3 fun x4 => (ca n i_config_parser_value [(.ptr x4)] h).bind fun q5 => asTup q5.1 fun l6 => lS l6 fun x8 l7 => lI l7 fun x10 l9 => lB l9 fun x12 l11 => l0 l11 ((ca n i_words_Address [(.str x8)] q5.2).bind fun q13 => asTup q13.1 fun l14 => lS l14 fun x16 l15 => lB l15 fun x18 l17 => l0 l17 (cond (!x12) (some ((.bool false), q13.2)) (cond (!x18) (nnK a0 fun b19 o20 => cellK q13.2 b19 o20 fun v21 => asPtr v21 fun x22 => (ca n i_config_parser_fail [(.ptr x22), (.int .i64 x10), (.int .i64 182)] q13.2).bind fun q23 => asBool q23.1 fun x24 => some ((.bool x24), q23.2)) (nnK a0 fun b25 o26 => cellK q13.2 b25 o26 fun v27 => asPtr v27 fun x28 => nnK a0 fun b29 o30 => cellK q13.2 b29 o30 fun v31 => asPtr v31 fun x32 => nnK x32 fun b33 o34 => cellK q13.2 b33 (o34 + 18) fun v35 => asSlice v35 fun x36 n37 c38 => nnK a1 fun b39 o40 => cellK q13.2 b39 o40 fun v41 => asBool v41 fun x42 => newK (.cells [(.str x16), (.int .i64 x10), (.bool x42)] false) q13.2 fun i43 h44 => appK 3 32 x36 n37 c38 (evSrc 3 (.slice (some (i43, 0)) 1 (.known 1)) h44) h44 fun p45 n46 c47 h48 => sameK h44 h48 (blkP a0) (nnK x28 fun b49 o50 => wrK h48 b49 (o50 + 18) 1 [(.slice p45 n46 c47)] fun h51 => nnK a2 fun b52 o53 => cellK h51 b52 o53 fun v54 => asFn v54 fun f56 x57 y58 => (ca n f56 (x57 ++ [(.str x16), (.int .i64 x10)] ++ y58) h51).bind fun q55 => crF T.toTab f56 q55.1 fun v59 => asBool v59 fun x60 => cond x60 (nnK a0 fun b61 o62 => cellK q55.2 b61 o62 fun v63 => asPtr v63 fun x64 => (ca n i_config_parser_must [(.ptr x64), (.str (⟨#[10]⟩ : ByteArray))] q55.2).bind fun q65 => asBool q65.1 fun x66 => some ((.bool x66), q65.2)) (some ((.bool false), q55.2))))))) := by kernel_rfl

-- 13 outrider/words.CardText
noncomputable def words_CardText_L0 (n m1 : Nat) (a3_0 : Pt) (a3_1 : Nat) (a3_2 : Cap) (a6 : List AV) (a7 : Int) (h : H) : R := J T.toTab n e_words_CardText [1, 1, 0, 1, 0] [m1] [(3, (.slice a3_0 a3_1 a3_2)), (6, (.agg a6)), (7, (.int .i64 a7))] h
theorem words_CardText_L0_eq (n m1 : Nat) (a3_0 : Pt) (a3_1 : Nat) (a3_2 : Cap) (a6 : List AV) (a7 : Int) (h : H) : words_CardText_L0 n (m1 + 1) a3_0 a3_1 a3_2 a6 a7 h = cond (decide (a7 < (6 : Int))) (if 0 ≤ a7 ∧ a7 < ((6 : Nat) : Int) then atK a6 (0 + a7.toNat) fun v4 => asInt .u8 v4 fun x5 => bndK s_68c4f033.size s_68c4f033.size 0 (some (.int .u8 (ishr .u8 x5 4))) (some (.int .u8 (IntKind.u8.wrap ((ishr .u8 x5 4) + 1)))) none fun lo6 hi7 mx8 => bndK s_68c4f033.size s_68c4f033.size 0 (some (.int .u8 (iand .u8 x5 15))) (some (.int .u8 (IntKind.u8.wrap ((iand .u8 x5 15) + 1)))) none fun lo9 hi10 mx11 => catK (s_68c4f033.extract lo6 hi7) (s_68c4f033.extract lo9 hi10) fun s12 => newK (.cells [(.str s12)] false) h fun i13 h14 => appK 1 16 a3_0 a3_1 a3_2 (evSrc 1 (.slice (some (i13, 0)) 1 (.known 1)) h14) h14 fun p15 n16 c17 h18 => words_CardText_L0 n m1 p15 n16 c17 a6 (IntKind.i64.wrap (a7 + 1)) h18 else none) ((ca n i_strings_Join [(.slice a3_0 a3_1 a3_2), (.str (⟨#[58]⟩ : ByteArray))] h).bind fun q19 => asStr q19.1 fun x20 => some ((.str x20), q19.2)) := (J_eq T.toTab n e_words_CardText [1, 1, 0, 1, 0] [m1 + 1] _ h).trans (by kernel_rfl)
theorem words_CardText_eq (n : Nat) (a0 : List AV) (h : H) : ca (n + 1) i_words_CardText [(.agg a0)] h = newK (.cells a0 false) h fun i1 h2 => aggK h2 i1 0 6 fun l3 => words_CardText_L0 n n none 0 (.known 0) l3 0 h2 := by kernel_rfl

-- 54 outrider/words.Card
noncomputable def words_Card_J0 (n : Nat) (a2 a4_0 : Pt) (a4_1 : Nat) (a4_2 : Cap) (a17 : Bool) (h : H) : R := J T.toTab n e_words_Card [1, 1, 0, 1] [] [(2, (.ptr a2)), (4, (.slice a4_0 a4_1 a4_2)), (17, (.bool a17))] h
theorem words_Card_J0_eq (n : Nat) (a2 a4_0 : Pt) (a4_1 : Nat) (a4_2 : Cap) (a17 : Bool) (h : H) : words_Card_J0 n a2 a4_0 a4_1 a4_2 a17 h = cond a17 (nnK a2 fun b11 o12 => wrK h b11 o12 6 [(.int .u8 0), (.int .u8 0), (.int .u8 0), (.int .u8 0), (.int .u8 0), (.int .u8 0)] fun h13 => nnK a2 fun b14 o15 => aggK h13 b14 o15 6 fun l16 => some ((.tup [(.agg l16), (.bool false)]), h13)) (if 6 ≤ a4_1 ∧ 0 < a4_1 then nnK a4_0 fun b17 o18 => aggK h b17 o18 6 fun l19 => nnK a2 fun b20 o21 => wrK h b20 o21 6 l19 fun h22 => nnK a2 fun b23 o24 => aggK h22 b23 o24 6 fun l25 => some ((.tup [(.agg l25), (.bool true)]), h22) else none) := (J_eq T.toTab n e_words_Card [1, 1, 0, 1] [] _ h).trans (by kernel_rfl)
theorem words_Card_eq (n : Nat) (a0 : Bs) (h : H) : ca (n + 1) i_words_Card [(.str a0)] h = newK (.cells [(.int .u8 0), (.int .u8 0), (.int .u8 0), (.int .u8 0), (.int .u8 0), (.int .u8 0)] false) h fun i1 h2 => (ca n i_words_groups [(.str a0), (.str (⟨#[58]⟩ : ByteArray)), (.int .i64 1), (.func i_words_Card_1 [] [])] h2).bind fun q3 => asTup q3.1 fun l4 => lL l4 fun x6 n7 c8 l5 => lB l5 fun x10 l9 => l0 l9 (cond (!x10) (words_Card_J0 n (some (i1, 0)) x6 n7 c8 true q3.2) (words_Card_J0 n (some (i1, 0)) x6 n7 c8 (((Nat.cast n7) : Int) != (6 : Int)) q3.2)) := by kernel_rfl

-- 88 strings.Count
noncomputable def strings_Count_L0 (n m1 : Nat) (a0 a1 : Bs) (a5 : Int) (h : H) : R := J T.toTab n e_strings_Count [1, 1, 1, 1, 0] [m1] [(0, (.str a0)), (1, (.str a1)), (5, (.int .i64 a5))] h
theorem strings_Count_eq (n : Nat) (a0 a1 : Bs) (h : H) : ca (n + 1) i_strings_Count [(.str a0), (.str a1)] h = cond (((Nat.cast a1.size) : Int) == (0 : Int)) ((ca n i_utf8_RuneCountInString [(.str a0)] h).bind fun q1 => asInt .i64 q1.1 fun x2 => some ((.int .i64 (IntKind.i64.wrap (x2 + 1))), q1.2)) (cond (((Nat.cast a1.size) : Int) == (1 : Int)) (byteK a1 0 fun y3 => (ca n i_bytealg_CountString [(.str a0), (.int .u8 y3)] h).bind fun q4 => asInt .i64 q4.1 fun x5 => some ((.int .i64 x5), q4.2)) (strings_Count_L0 n n a0 a1 0 h)) := by kernel_rfl

-- 93 internal/stringslite.Index
noncomputable def stringslite_Index_J0 (n : Nat) (a0 a1 : Bs) (a5 : Int) (a16 : Bool) (h : H) : R := J T.toTab n e_stringslite_Index [1, 1, 0, 0, 1] [] [(0, (.str a0)), (1, (.str a1)), (5, (.int .i64 a5)), (16, (.bool a16))] h
theorem stringslite_Index_J0_eq (n : Nat) (a0 a1 : Bs) (a5 : Int) (a16 : Bool) (h : H) : stringslite_Index_J0 n a0 a1 a5 a16 h = cond a16 (some ((.int .i64 0), h)) (cond ((a5 : Int) == (1 : Int)) (byteK a1 0 fun y1 => (ca n i_stringslite_IndexByte [(.str a0), (.int .u8 y1)] h).bind fun q2 => asInt .i64 q2.1 fun x3 => some ((.int .i64 x3), q2.2)) (cond (decide (a5 ≥ (Nat.cast a0.size))) (some ((.int .i64 (-1)), h)) (none))) := (J_eq T.toTab n e_stringslite_Index [1, 1, 0, 0, 1] [] _ h).trans (by kernel_rfl)
theorem stringslite_Index_eq (n : Nat) (a0 a1 : Bs) (h : H) : ca (n + 1) i_stringslite_Index [(.str a0), (.str a1)] h = cond (((Nat.cast a1.size) : Int) == (0 : Int)) (stringslite_Index_J0 n a0 a1 (Nat.cast a1.size) true h) (stringslite_Index_J0 n a0 a1 (Nat.cast a1.size) (a1.toList == a0.toList) h) := by kernel_rfl

-- 42 (*outrider/config.parser).vip
theorem config_parser_vip_eq (n : Nat) (a0 : Pt) (a1 : Bs) (a2 : Int) (h : H) : ca (n + 1) i_config_parser_vip [(.ptr a0), (.str a1), (.int .i64 a2)] h = nnK a0 fun b1 o2 => cellK h b1 ((o2 + 3) + 12) fun v3 => asSlice v3 fun x4 n5 c6 => (ca n i_api_Addr [(.slice x4 n5 c6), (.str a1)] h).bind fun q7 => asBool q7.1 fun x8 => cond x8 ((ca n i_config_parser_fail [(.ptr a0), (.int .i64 a2), (.int .i64 181)] q7.2).bind fun q9 => asBool q9.1 fun x10 => some ((.bool x10), q9.2)) (nnK a0 fun b11 o12 => cellK q7.2 b11 ((o12 + 3) + 12) fun v13 => asSlice v13 fun x14 n15 c16 => newK (.cells [(.str a1)] false) q7.2 fun i17 h18 => appK 1 16 x14 n15 c16 (evSrc 1 (.slice (some (i17, 0)) 1 (.known 1)) h18) h18 fun p19 n20 c21 h22 => nnK a0 fun b23 o24 => wrK h22 b23 ((o24 + 3) + 12) 1 [(.slice p19 n20 c21)] fun h25 => some ((.bool true), h25)) := by kernel_rfl

-- 51 (*outrider/config.parser).must
theorem config_parser_must_eq (n : Nat) (a0 : Pt) (a1 : Bs) (h : H) : ca (n + 1) i_config_parser_must [(.ptr a0), (.str a1)] h = (ca n i_config_parser_peek [(.ptr a0)] h).bind fun q1 => asStr q1.1 fun x2 => cond (!(x2.toList == a1.toList)) ((ca n i_config_parser_place [(.ptr a0)] q1.2).bind fun q3 => asInt .i64 q3.1 fun x4 => (ca n i_config_parser_fail [(.ptr a0), (.int .i64 x4), (.int .i64 180)] q3.2).bind fun q5 => asBool q5.1 fun x6 => some ((.bool x6), q5.2)) (nnK a0 fun b7 o8 => cellK q1.2 b7 (o8 + 2) fun v9 => asInt .i64 v9 fun x10 => nnK a0 fun b11 o12 => wrK q1.2 b11 (o12 + 2) 1 [(.int .i64 (IntKind.i64.wrap (x10 + 1)))] fun h13 => some ((.bool true), h13)) := by kernel_rfl

-- 29 (*outrider/config.parser).fail
theorem config_parser_fail_eq (n : Nat) (a0 : Pt) (a1 a2 : Int) (h : H) : ca (n + 1) i_config_parser_fail [(.ptr a0), (.int .i64 a1), (.int .i64 a2)] h = nnK a0 fun b1 o2 => cellK h b1 (o2 + 20) fun v3 => asInt .i64 v3 fun x4 => cond ((x4 : Int) == (0 : Int)) (nnK a0 fun b5 o6 => wrK h b5 (o6 + 19) 1 [(.int .i64 a1)] fun h7 => nnK a0 fun b8 o9 => wrK h7 b8 (o9 + 20) 1 [(.int .i64 a2)] fun h10 => some ((.bool false), h10)) (some ((.bool false), h)) := by kernel_rfl

-- 23 outrider/config.once
theorem config_once_eq (n : Nat) (a0 : Bool) (a1_0 : Nat) (a1_1 a1_2 : List AV) (h : H) : ca (n + 1) i_config_once [(.bool a0), (.func a1_0 a1_1 a1_2)] h = newK (.cells [(.int .i64 0), (.bool false), .nilFunc] false) h fun i1 h2 => wrK h2 i1 0 3 [(.int .i64 1), (.bool a0), (.func a1_0 a1_1 a1_2)] fun h3 => aggK h3 i1 0 3 fun l4 => lI l4 fun x6 l5 => lB l5 fun x8 l7 => lc l7 fun v10 l9 => l0 l9 (some ((.agg [(.int .i64 x6), (.bool x8), v10]), h3)) := by kernel_rfl

-- 83 internal/stringslite.HasPrefix
theorem stringslite_HasPrefix_eq (n : Nat) (a0 a1 : Bs) (h : H) : ca (n + 1) i_stringslite_HasPrefix [(.str a0), (.str a1)] h = cond (decide (((Nat.cast a0.size) : Int) ≥ (Nat.cast a1.size))) (bndK a0.size a0.size 0 none (some (.int .i64 (Nat.cast a1.size))) none fun lo1 hi2 mx3 => some ((.bool ((a0.extract lo1 hi2).toList == a1.toList)), h)) (some ((.bool false), h)) := by kernel_rfl

-- 30 slices.Contains[[]outrider/api.Addr,outrider/api.Addr]
theorem api_Addr_eq (n : Nat) (a0_0 : Pt) (a0_1 : Nat) (a0_2 : Cap) (a1 : Bs) (h : H) : ca (n + 1) i_api_Addr [(.slice a0_0 a0_1 a0_2), (.str a1)] h = (ca n i_api_Addr_2 [(.slice a0_0 a0_1 a0_2), (.str a1)] h).bind fun q1 => asInt .i64 q1.1 fun x2 => some ((.bool (decide (x2 ≥ (0 : Int)))), q1.2) := by kernel_rfl

-- 70 outrider/words.Card$1
theorem words_Card_1_eq (n : Nat) (a0 : Bs) (h : H) : ca (n + 1) i_words_Card_1 [(.str a0)] h = (ca n i_words_hex [(.str a0), (.int .i64 2), (.int .i64 2)] h).bind fun q1 => asTup q1.1 fun l2 => lI l2 fun x4 l3 => lB l3 fun x6 l5 => l0 l5 (some ((.tup [(.int .i64 x4), (.bool x6)]), q1.2)) := by kernel_rfl

-- 31 (*strings.Builder).WriteString
theorem strings_Builder_WriteString_eq (n : Nat) (a0 : Pt) (a1 : Bs) (h : H) : ca (n + 1) i_strings_Builder_WriteString [(.ptr a0), (.str a1)] h = (strings_Builder_WriteString_31 n a0 a1 h).bind fun r => some ((.tup [(.int .i64 r.1.1), r.1.2]), r.2) := by kernel_rfl

-- 81 math/bits.TrailingZeros
theorem bits_TrailingZeros_eq (n : Nat) (a0 : Int) (h : H) : ca (n + 1) i_bits_TrailingZeros [(.int .u64 a0)] h = (ca n i_bits_TrailingZeros64 [(.int .u64 a0)] h).bind fun q1 => asInt .i64 q1.1 fun x2 => some ((.int .i64 x2), q1.2) := by kernel_rfl

-- 39 outrider/config.into
theorem config_into_eq (n : Nat) (a0 : Pt) (h : H) : ca (n + 1) i_config_into [(.ptr a0)] h = newK (.cells [(.ptr a0)] false) h fun i1 h2 => some ((.func i_config_into_1 [] [(.ptr (some (i1, 0)))]), h2) := by kernel_rfl

-- 77 internal/strconv.log10Pow2
end Go.Ev.Tryd

/- What the functions compute, printed by evprint2.py. -/
set_option maxRecDepth 100000
set_option linter.all false
namespace Go.Ev.Tryd
open Go.Proofs

-- 11 (*outrider/config.parser).all
noncomputable def config_parser_all_L0 (n m1 : Nat) (a0 : Pt) (a3 a4 : Option Nat) (h : H) (kk : KK) : Option Unit := JR T n e_config_parser_all [1, 1, 1, 0, 0] [m1] [(0, (.ptr a0)), (3, (.map a3)), (4, (.map a4))] h kk
noncomputable def config_parser_all_J1 (n m1 : Nat) (a0 : Pt) (a3 a4 : Option Nat) (a5 : Int) (a6 : Bs) (a7 : Pt) (a51 : Bool) (h : H) (kk : KK) : Option Unit := JR T n e_config_parser_all [1, 1, 1, 0, 0, 0, 1, 0, 1, 1, 0, 0, 1, 1, 1] [m1] [(0, (.ptr a0)), (3, (.map a3)), (4, (.map a4)), (5, (.int .i64 a5)), (6, (.str a6)), (7, (.ptr a7)), (51, (.bool a51))] h kk
noncomputable def config_parser_all_J2 (n : Nat) (a0 : Pt) (a98 : Bool) (h : H) (kk : KK) : Option Unit := JR T n e_config_parser_all [1, 1, 1, 1, 0, 1] [] [(0, (.ptr a0)), (98, (.bool a98))] h kk
noncomputable def config_parser_all_L3 (n m1 : Nat) (a0 a109_0 : Pt) (a109_1 : Nat) (a109_2 : Cap) (a110 a111 : Int) (h : H) (kk : KK) : Option Unit := JR T n e_config_parser_all [1, 1, 1, 1, 1, 0, 1, 0] [m1] [(0, (.ptr a0)), (109, (.slice a109_0 a109_1 a109_2)), (110, (.int .i64 a110)), (111, (.int .i64 a111))] h kk
noncomputable def config_parser_all_L4 (n m1 : Nat) (a0 a133_0 : Pt) (a133_1 : Nat) (a133_2 : Cap) (a134 a135 : Int) (h : H) (kk : KK) : Option Unit := JR T n e_config_parser_all [1, 1, 1, 1, 1, 1, 0, 1, 0] [m1] [(0, (.ptr a0)), (133, (.slice a133_0 a133_1 a133_2)), (134, (.int .i64 a134)), (135, (.int .i64 a135))] h kk
noncomputable def config_parser_all_J5 (n m1 : Nat) (a0 a12 a133_0 : Pt) (a133_1 : Nat) (a133_2 : Cap) (a134 a135 : Int) (a151 : Bool) (h : H) (kk : KK) : Option Unit := JR T n e_config_parser_all [1, 1, 1, 1, 1, 1, 0, 1, 0, 0, 1, 1, 0, 0, 1, 1] [m1] [(0, (.ptr a0)), (12, (.ptr a12)), (133, (.slice a133_0 a133_1 a133_2)), (134, (.int .i64 a134)), (135, (.int .i64 a135)), (151, (.bool a151))] h kk
theorem config_parser_all_L0_eq (n m1 : Nat) (a0 : Pt) (a3 a4 : Option Nat) (h : H) (kk : KK) : config_parser_all_L0 n (m1 + 1) a0 a3 a4 h kk = nnK a0 fun b24 o25 => cellK h b24 (o25 + 2) fun v26 => asInt .i64 v26 fun x27 => nnK a0 fun b28 o29 => cellK h b28 (o29 + 1) fun v30 => asSlice v30 fun x31 n32 c33 => cond (decide (x27 < (Nat.cast n32))) ((ca n i_config_parser_place [(.ptr a0)] h).bind fun q34 => asInt .i64 q34.1 fun x35 => (ca n i_config_parser_peek [(.ptr a0)] q34.2).bind fun q36 => asStr q36.1 fun x37 => lookK (.agg [(.int .i64 0), (.bool false), .nilFunc]) a3 (.str x37) q36.2 fun v38 t39 => asAgg v38 fun l40 => lI l40 fun x42 l41 => lB l41 fun x44 l43 => lc l43 fun v46 l45 => l0 l45 (newK (.cells [(.int .i64 0), (.bool false), .nilFunc] false) q36.2 fun i47 h48 => wrK h48 i47 0 3 [(.int .i64 x42), (.bool x44), v46] fun h49 => cond (!t39) ((ca n i_config_parser_fail [(.ptr a0), (.int .i64 x35), (.int .i64 180)] h49).bind fun q50 => asBool q50.1 fun x51 => kk (.bool x51) q50.2) (lookK (.int .i64 0) a4 (.str x37) h49 fun v52 t53 => asInt .i64 v52 fun x54 => cellK h49 i47 0 fun v55 => asInt .i64 v55 fun x56 => cond (decide (x54 ≥ x56)) (cellK h49 i47 0 fun v57 => asInt .i64 v57 fun x58 => config_parser_all_J1 n m1 a0 a3 a4 x35 x37 (some (i47, 0)) ((x58 : Int) == (1 : Int)) h49 kk) (config_parser_all_J1 n m1 a0 a3 a4 x35 x37 (some (i47, 0)) false h49 kk)))) (lookK (.int .i64 0) a4 (.str (⟨#[110, 111, 100, 101]⟩ : ByteArray)) h fun v59 t60 => asInt .i64 v59 fun x61 => cond ((x61 : Int) == (0 : Int)) (config_parser_all_J2 n a0 true h kk) (lookK (.int .i64 0) a4 (.str (⟨#[118, 114, 114, 112]⟩ : ByteArray)) h fun v62 t63 => asInt .i64 v62 fun x64 => config_parser_all_J2 n a0 ((x64 : Int) == (0 : Int)) h kk)) := (JR_eq T n e_config_parser_all [1, 1, 1, 0, 0] [m1 + 1] _ h kk).trans (by kernel_rfl)
theorem config_parser_all_J1_eq (n m1 : Nat) (a0 : Pt) (a3 a4 : Option Nat) (a5 : Int) (a6 : Bs) (a7 : Pt) (a51 : Bool) (h : H) (kk : KK) : config_parser_all_J1 n m1 a0 a3 a4 a5 a6 a7 a51 h kk = cond a51 ((ca n i_config_parser_fail [(.ptr a0), (.int .i64 a5), (.int .i64 181)] h).bind fun q65 => asBool q65.1 fun x66 => kk (.bool x66) q65.2) (lookK (.int .i64 0) a4 (.str a6) h fun v67 t68 => asInt .i64 v67 fun x69 => nnK a7 fun b70 o71 => cellK h b70 o71 fun v72 => asInt .i64 v72 fun x73 => cond (decide (x69 ≥ x73)) ((ca n i_config_parser_fail [(.ptr a0), (.int .i64 a5), (.int .i64 184)] h).bind fun q74 => asBool q74.1 fun x75 => kk (.bool x75) q74.2) (lookK (.int .i64 0) a4 (.str a6) h fun v76 t77 => asInt .i64 v76 fun x78 => putK a4 (.str a6) (.int .i64 (IntKind.i64.wrap (x78 + 1))) h fun h79 => nnK a0 fun b80 o81 => cellK h79 b80 (o81 + 2) fun v82 => asInt .i64 v82 fun x83 => nnK a0 fun b84 o85 => wrK h79 b84 (o85 + 2) 1 [(.int .i64 (IntKind.i64.wrap (x83 + 1)))] fun h86 => nnK a7 fun b87 o88 => cellK h86 b87 (o88 + 2) fun v89 => asFn v89 fun f91 x92 y93 => callU T n f91 (x92 ++ [] ++ y93) h86 fun v95 h96 => crF T.toTab f91 v95 fun v94 => asBool v94 fun x97 => cond (!x97) (kk (.bool false) h96) (config_parser_all_L0 n m1 a0 a3 a4 h96 kk))) := (JR_eq T n e_config_parser_all [1, 1, 1, 0, 0, 0, 1, 0, 1, 1, 0, 0, 1, 1, 1] [m1] _ h kk).trans (by kernel_rfl)
theorem config_parser_all_J2_eq (n : Nat) (a0 : Pt) (a98 : Bool) (h : H) (kk : KK) : config_parser_all_J2 n a0 a98 h kk = cond a98 (nnK a0 fun b98 o99 => cellK h b98 o99 fun v100 => asStr v100 fun x101 => (ca n i_config_parser_fail [(.ptr a0), (.int .i64 (Nat.cast x101.size)), (.int .i64 183)] h).bind fun q102 => asBool q102.1 fun x103 => kk (.bool x103) q102.2) (nnK a0 fun b104 o105 => cellK h b104 (o105 + 18) fun v106 => asSlice v106 fun x107 n108 c109 => config_parser_all_L3 n n a0 x107 n108 c109 (Nat.cast n108) 0 h kk) := (JR_eq T n e_config_parser_all [1, 1, 1, 1, 0, 1] [] _ h kk).trans (by kernel_rfl)
theorem config_parser_all_L3_eq (n m1 : Nat) (a0 a109_0 : Pt) (a109_1 : Nat) (a109_2 : Cap) (a110 a111 : Int) (h : H) (kk : KK) : config_parser_all_L3 n (m1 + 1) a0 a109_0 a109_1 a109_2 a110 a111 h kk = cond (decide (a111 < a110)) (if 0 ≤ (a111 : Int) ∧ a111 < (Nat.cast (a109_1) : Int) then nnK a109_0 fun b110 o111 => aggK h b110 (o111 + a111.toNat * 3) 3 fun l112 => lS l112 fun x114 l113 => lI l113 fun x116 l115 => lB l115 fun x118 l117 => l0 l117 (newK (.cells [(.str .empty), (.int .i64 0), (.bool false)] false) h fun i119 h120 => wrK h120 i119 0 3 [(.str x114), (.int .i64 x116), (.bool x118)] fun h121 => cellK h121 i119 0 fun v122 => asStr v122 fun x123 => nnK a0 fun b124 o125 => cellK h121 b124 ((o125 + 3) + 6) fun v126 => asStr v126 fun x127 => cond (((Nat.cast x123.size) : Int) != (Nat.cast x127.size)) (cellK h121 i119 1 fun v128 => asInt .i64 v128 fun x129 => (ca n i_config_parser_fail [(.ptr a0), (.int .i64 x129), (.int .i64 182)] h121).bind fun q130 => asBool q130.1 fun x131 => kk (.bool x131) q130.2) (config_parser_all_L3 n m1 a0 a109_0 a109_1 a109_2 a110 (IntKind.i64.wrap (a111 + 1)) h121 kk)) else none) (nnK a0 fun b132 o133 => cellK h b132 (o133 + 18) fun v134 => asSlice v134 fun x135 n136 c137 => config_parser_all_L4 n n a0 x135 n136 c137 (Nat.cast n136) 0 h kk) := (JR_eq T n e_config_parser_all [1, 1, 1, 1, 1, 0, 1, 0] [m1 + 1] _ h kk).trans (by kernel_rfl)
theorem config_parser_all_L4_eq (n m1 : Nat) (a0 a133_0 : Pt) (a133_1 : Nat) (a133_2 : Cap) (a134 a135 : Int) (h : H) (kk : KK) : config_parser_all_L4 n (m1 + 1) a0 a133_0 a133_1 a133_2 a134 a135 h kk = cond (decide (a135 < a134)) (if 0 ≤ (a135 : Int) ∧ a135 < (Nat.cast (a133_1) : Int) then nnK a133_0 fun b138 o139 => aggK h b138 (o139 + a135.toNat * 3) 3 fun l140 => lS l140 fun x142 l141 => lI l141 fun x144 l143 => lB l143 fun x146 l145 => l0 l145 (newK (.cells [(.str .empty), (.int .i64 0), (.bool false)] false) h fun i147 h148 => wrK h148 i147 0 3 [(.str x142), (.int .i64 x144), (.bool x146)] fun h149 => cellK h149 i147 2 fun v150 => asBool v150 fun x151 => cond x151 (nnK a0 fun b152 o153 => cellK h149 b152 ((o153 + 3) + 12) fun v154 => asSlice v154 fun x155 n156 c157 => cellK h149 i147 0 fun v158 => asStr v158 fun x159 => (ca n i_api_Addr [(.slice x155 n156 c157), (.str x159)] h149).bind fun q160 => asBool q160.1 fun x161 => config_parser_all_J5 n m1 a0 (some (i147, 0)) a133_0 a133_1 a133_2 a134 a135 (!x161) q160.2 kk) (config_parser_all_J5 n m1 a0 (some (i147, 0)) a133_0 a133_1 a133_2 a134 a135 false h149 kk)) else none) (kk (.bool true) h) := (JR_eq T n e_config_parser_all [1, 1, 1, 1, 1, 1, 0, 1, 0] [m1 + 1] _ h kk).trans (by kernel_rfl)
theorem config_parser_all_J5_eq (n m1 : Nat) (a0 a12 a133_0 : Pt) (a133_1 : Nat) (a133_2 : Cap) (a134 a135 : Int) (a151 : Bool) (h : H) (kk : KK) : config_parser_all_J5 n m1 a0 a12 a133_0 a133_1 a133_2 a134 a135 a151 h kk = cond a151 (nnK a12 fun b162 o163 => cellK h b162 (o163 + 1) fun v164 => asInt .i64 v164 fun x165 => (ca n i_config_parser_fail [(.ptr a0), (.int .i64 x165), (.int .i64 182)] h).bind fun q166 => asBool q166.1 fun x167 => kk (.bool x167) q166.2) (config_parser_all_L4 n m1 a0 a133_0 a133_1 a133_2 a134 (IntKind.i64.wrap (a135 + 1)) h kk) := (JR_eq T n e_config_parser_all [1, 1, 1, 1, 1, 1, 0, 1, 0, 0, 1, 1, 0, 0, 1, 1] [m1] _ h kk).trans (by kernel_rfl)
theorem config_parser_all_eq (n : Nat) (a0 : Pt) (h : H) (kk : KK) : cr (n + 1) i_config_parser_all [(.ptr a0)] h kk = newK (.map [] 0) h fun i1 h2 => (ca n i_config_once [(.bool true), (.func i_config_parser_node [(.ptr a0)] [])] h2).bind fun q3 => asAgg q3.1 fun l4 => lI l4 fun x6 l5 => lB l5 fun x8 l7 => lc l7 fun v10 l9 => l0 l9 (putK (some i1) (.str (⟨#[110, 111, 100, 101]⟩ : ByteArray)) (.agg [(.int .i64 x6), (.bool x8), v10]) q3.2 fun h11 => (ca n i_config_once [(.bool true), (.func i_config_parser_vrrp [(.ptr a0)] [])] h11).bind fun q12 => asAgg q12.1 fun l13 => lI l13 fun x15 l14 => lB l14 fun x17 l16 => lc l16 fun v19 l18 => l0 l18 (putK (some i1) (.str (⟨#[118, 114, 114, 112]⟩ : ByteArray)) (.agg [(.int .i64 x15), (.bool x17), v19]) q12.2 fun h20 => putK (some i1) (.str (⟨#[115, 101, 114, 118, 105, 99, 101]⟩ : ByteArray)) (.agg [(.int .i64 4), (.bool false), (.func i_config_parser_service [(.ptr a0)] [])]) h20 fun h21 => newK (.map [] 0) h21 fun i22 h23 => config_parser_all_L0 n n a0 (some i1) (some i22) h23 kk)) := by kernel_rfl

-- 67 internal/strconv.formatBase10
-- 46 (*outrider/config.parser).backend
noncomputable def config_parser_backend_L0 (n m1 : Nat) (a0 a1 a5_0 : Pt) (a5_1 : Nat) (a5_2 : Cap) (a15_0 : Pt) (a15_1 : Nat) (a15_2 : Cap) (a16 a17 : Int) (h : H) (kk : KK) : Option Unit := JR T n e_config_parser_backend [1, 1, 0, 1, 0] [m1] [(0, (.ptr a0)), (1, (.ptr a1)), (5, (.slice a5_0 a5_1 a5_2)), (15, (.slice a15_0 a15_1 a15_2)), (16, (.int .i64 a16)), (17, (.int .i64 a17))] h kk
theorem config_parser_backend_L0_eq (n m1 : Nat) (a0 a1 a5_0 : Pt) (a5_1 : Nat) (a5_2 : Cap) (a15_0 : Pt) (a15_1 : Nat) (a15_2 : Cap) (a16 a17 : Int) (h : H) (kk : KK) : config_parser_backend_L0 n (m1 + 1) a0 a1 a5_0 a5_1 a5_2 a15_0 a15_1 a15_2 a16 a17 h kk = cond (decide (a17 < a16)) (if 0 ≤ (a17 : Int) ∧ a17 < (Nat.cast (a15_1) : Int) then nnK a15_0 fun b7 o8 => aggK h b7 (o8 + a17.toNat * 10) 10 fun l9 => newK (.cells [(.str .empty), (.str .empty), (.int .u8 0), (.int .u8 0), (.int .u8 0), (.int .u8 0), (.int .u8 0), (.int .u8 0), (.int .i64 0), (.int .i64 0)] false) h fun i10 h11 => wrK h11 i10 0 10 l9 fun h12 => cellK h12 i10 0 fun v13 => asStr v13 fun x14 => newK (.cells [(.str x14)] false) h12 fun i15 h16 => appK 1 16 a5_0 a5_1 a5_2 (evSrc 1 (.slice (some (i15, 0)) 1 (.known 1)) h16) h16 fun p17 n18 c19 h20 => config_parser_backend_L0 n m1 a0 a1 p17 n18 c19 a15_0 a15_1 a15_2 a16 (IntKind.i64.wrap (a17 + 1)) h20 kk else none) ((ca n i_config_parser_named [(.ptr a0), (.slice a5_0 a5_1 a5_2)] h).bind fun q21 => asTup q21.1 fun l22 => lS l22 fun x24 l23 => lB l23 fun x26 l25 => l0 l25 (cond (!x26) (kk (.bool false) q21.2) (newK (.cells [(.str .empty), (.str .empty), (.int .u8 0), (.int .u8 0), (.int .u8 0), (.int .u8 0), (.int .u8 0), (.int .u8 0), (.int .i64 0), (.int .i64 0)] false) q21.2 fun i27 h28 => wrK h28 i27 0 10 [(.str x24), (.str .empty), (.int .u8 0), (.int .u8 0), (.int .u8 0), (.int .u8 0), (.int .u8 0), (.int .u8 0), (.int .i64 0), (.int .i64 1)] fun h29 => newK (.map [] 0) h29 fun i30 h31 => (ca n i_config_into [(.ptr (some (i27, 1)))] h31).bind fun q32 => asFn q32.1 fun f33 x34 y35 => (ca n i_config_parser_address [(.ptr a0), (.bool false), (.func f33 x34 y35)] q32.2).bind fun q36 => asFn q36.1 fun f37 x38 y39 => (ca n i_config_once [(.bool true), (.func f37 x38 y39)] q36.2).bind fun q40 => asAgg q40.1 fun l41 => lI l41 fun x43 l42 => lB l42 fun x45 l44 => lc l44 fun v47 l46 => l0 l46 (putK (some i30) (.str (⟨#[97, 100, 100, 114, 101, 115, 115]⟩ : ByteArray)) (.agg [(.int .i64 x43), (.bool x45), v47]) q40.2 fun h48 => (ca n i_config_parser_card [(.ptr a0), (.ptr (some (i27, 2)))] h48).bind fun q49 => asFn q49.1 fun f50 x51 y52 => (ca n i_config_once [(.bool true), (.func f50 x51 y52)] q49.2).bind fun q53 => asAgg q53.1 fun l54 => lI l54 fun x56 l55 => lB l55 fun x58 l57 => lc l57 fun v60 l59 => l0 l59 (putK (some i30) (.str (⟨#[109, 97, 99]⟩ : ByteArray)) (.agg [(.int .i64 x56), (.bool x58), v60]) q53.2 fun h61 => (ca n i_config_parser_number [(.ptr a0), (.ptr (some (i27, 8))), (.int .i64 1), (.int .i64 65535)] h61).bind fun q62 => asFn q62.1 fun f63 x64 y65 => (ca n i_config_once [(.bool false), (.func f63 x64 y65)] q62.2).bind fun q66 => asAgg q66.1 fun l67 => lI l67 fun x69 l68 => lB l68 fun x71 l70 => lc l70 fun v73 l72 => l0 l72 (putK (some i30) (.str (⟨#[112, 111, 114, 116]⟩ : ByteArray)) (.agg [(.int .i64 x69), (.bool x71), v73]) q66.2 fun h74 => (ca n i_config_parser_number [(.ptr a0), (.ptr (some (i27, 9))), (.int .i64 1), (.int .i64 100)] h74).bind fun q75 => asFn q75.1 fun f76 x77 y78 => (ca n i_config_once [(.bool false), (.func f76 x77 y78)] q75.2).bind fun q79 => asAgg q79.1 fun l80 => lI l80 fun x82 l81 => lB l81 fun x84 l83 => lc l83 fun v86 l85 => l0 l85 (putK (some i30) (.str (⟨#[119, 101, 105, 103, 104, 116]⟩ : ByteArray)) (.agg [(.int .i64 x82), (.bool x84), v86]) q79.2 fun h87 => cr n i_config_parser_block [(.ptr a0), (.map (some i30))] h87 fun v89 h90 => asBool v89 fun x91 => nnK a1 fun b92 o93 => cellK h90 b92 (o93 + 9) fun v94 => asSlice v94 fun x95 n96 c97 => aggK h90 i27 0 10 fun l98 => if l98.length = 10 ∧ 0 + 10 ≤ 10 then newK (.cells (List.append (List.append [] l98) []) false) h90 fun i99 h100 => appK 10 56 x95 n96 c97 (evSrc 10 (.slice (some (i99, 0)) 1 (.known 1)) h100) h100 fun p101 n102 c103 h104 => nnK a1 fun b105 o106 => wrK h104 b105 (o106 + 9) 1 [(.slice p101 n102 c103)] fun h107 => kk (.bool x91) h107 else none))))))) := (JR_eq T n e_config_parser_backend [1, 1, 0, 1, 0] [m1 + 1] _ h kk).trans (by kernel_rfl)
theorem config_parser_backend_eq (n : Nat) (a0 a1 : Pt) (h : H) (kk : KK) : cr (n + 1) i_config_parser_backend [(.ptr a0), (.ptr a1)] h kk = nnK a1 fun b1 o2 => cellK h b1 (o2 + 9) fun v3 => asSlice v3 fun x4 n5 c6 => config_parser_backend_L0 n n a0 a1 none 0 (.known 0) x4 n5 c6 (Nat.cast n5) 0 h kk := by kernel_rfl

-- 86 strings.genSplit
noncomputable def strings_genSplit_J0 (n : Nat) (a0 a1 : Bs) (a2 a3 : Int) (h : H) : R := J T.toTab n e_strings_genSplit [1, 1, 1, 1] [] [(0, (.str a0)), (1, (.str a1)), (2, (.int .i64 a2)), (3, (.int .i64 a3))] h
noncomputable def strings_genSplit_L1 (n m1 : Nat) (a0 a1 : Bs) (a2 a3 : Int) (a9_0 : Pt) (a9_1 : Nat) (a9_2 : Cap) (a10 : Int) (h : H) : R := J T.toTab n e_strings_genSplit [1, 1, 1, 1, 1, 1, 1, 1, 0, 0] [m1] [(0, (.str a0)), (1, (.str a1)), (2, (.int .i64 a2)), (3, (.int .i64 a3)), (9, (.slice a9_0 a9_1 a9_2)), (10, (.int .i64 a10))] h
noncomputable def strings_genSplit_J2 (n : Nat) (a0 : Bs) (a9_0 : Pt) (a9_1 : Nat) (a9_2 : Cap) (a10 : Int) (h : H) : R := J T.toTab n e_strings_genSplit [1, 1, 1, 1, 1, 1, 1, 1, 1] [] [(0, (.str a0)), (9, (.slice a9_0 a9_1 a9_2)), (10, (.int .i64 a10))] h
theorem strings_genSplit_J0_eq (n : Nat) (a0 a1 : Bs) (a2 a3 : Int) (h : H) : strings_genSplit_J0 n a0 a1 a2 a3 h = mkSlK 1 16 [(.str .empty)] (if (IntKind.i64.wrap ((Nat.cast a0.size) + 1)) < a3 then (IntKind.i64.wrap ((Nat.cast a0.size) + 1)) else a3) (if (IntKind.i64.wrap ((Nat.cast a0.size) + 1)) < a3 then (IntKind.i64.wrap ((Nat.cast a0.size) + 1)) else a3) h fun i7 n8 c9 h10 => strings_genSplit_L1 n n a0 a1 a2 (IntKind.i64.wrap ((if (IntKind.i64.wrap ((Nat.cast a0.size) + 1)) < a3 then (IntKind.i64.wrap ((Nat.cast a0.size) + 1)) else a3) - 1)) (some (i7, 0)) n8 (.known c9) 0 h10 := (J_eq T.toTab n e_strings_genSplit [1, 1, 1, 1] [] _ h).trans (by kernel_rfl)
theorem strings_genSplit_L1_eq (n m1 : Nat) (a0 a1 : Bs) (a2 a3 : Int) (a9_0 : Pt) (a9_1 : Nat) (a9_2 : Cap) (a10 : Int) (h : H) : strings_genSplit_L1 n (m1 + 1) a0 a1 a2 a3 a9_0 a9_1 a9_2 a10 h = cond (decide (a10 < a3)) ((ca n i_strings_Index [(.str a0), (.str a1)] h).bind fun q11 => asInt .i64 q11.1 fun x12 => cond (decide (x12 < (0 : Int))) (strings_genSplit_J2 n a0 a9_0 a9_1 a9_2 a10 q11.2) (bndK a0.size a0.size 0 none (some (.int .i64 (IntKind.i64.wrap (x12 + a2)))) none fun lo13 hi14 mx15 => if 0 ≤ (a10 : Int) ∧ a10 < (Nat.cast (a9_1) : Int) then nnK a9_0 fun b16 o17 => wrK q11.2 b16 (o17 + a10.toNat) 1 [(.str (a0.extract lo13 hi14))] fun h18 => bndK a0.size a0.size 0 (some (.int .i64 (IntKind.i64.wrap (x12 + (Nat.cast a1.size))))) none none fun lo19 hi20 mx21 => strings_genSplit_L1 n m1 (a0.extract lo19 hi20) a1 a2 a3 a9_0 a9_1 a9_2 (IntKind.i64.wrap (a10 + 1)) h18 else none)) (strings_genSplit_J2 n a0 a9_0 a9_1 a9_2 a10 h) := (J_eq T.toTab n e_strings_genSplit [1, 1, 1, 1, 1, 1, 1, 1, 0, 0] [m1 + 1] _ h).trans (by kernel_rfl)
theorem strings_genSplit_J2_eq (n : Nat) (a0 : Bs) (a9_0 : Pt) (a9_1 : Nat) (a9_2 : Cap) (a10 : Int) (h : H) : strings_genSplit_J2 n a0 a9_0 a9_1 a9_2 a10 h = if 0 ≤ (a10 : Int) ∧ a10 < (Nat.cast (a9_1) : Int) then nnK a9_0 fun b22 o23 => wrK h b22 (o23 + a10.toNat) 1 [(.str a0)] fun h24 => slK 1 a9_0 a9_1 a9_2 none (some (.int .i64 (IntKind.i64.wrap (a10 + 1)))) none fun p25 n26 c27 => some ((.slice p25 n26 c27), h24) else none := (J_eq T.toTab n e_strings_genSplit [1, 1, 1, 1, 1, 1, 1, 1, 1] [] _ h).trans (by kernel_rfl)
theorem strings_genSplit_eq (n : Nat) (a0 a1 : Bs) (a2 a3 : Int) (h : H) : ca (n + 1) i_strings_genSplit [(.str a0), (.str a1), (.int .i64 a2), (.int .i64 a3)] h = cond ((a3 : Int) == (0 : Int)) (some ((.slice none 0 (.known 0)), h)) (cond (a1.toList == (⟨#[]⟩ : ByteArray).toList) ((ca n i_strings_explode [(.str a0), (.int .i64 a3)] h).bind fun q1 => asSlice q1.1 fun x2 n3 c4 => some ((.slice x2 n3 c4), q1.2)) (cond (decide (a3 < (0 : Int))) ((ca n i_strings_Count [(.str a0), (.str a1)] h).bind fun q5 => asInt .i64 q5.1 fun x6 => strings_genSplit_J0 n a0 a1 a2 (IntKind.i64.wrap (x6 + 1)) q5.2) (strings_genSplit_J0 n a0 a1 a2 a3 h))) := by kernel_rfl

-- 87 strings.explode
-- 59 outrider/words.Number
noncomputable def words_Number_J0 (n : Nat) (a0 : Bs) (a22 : Bool) (h : H) : R := J T.toTab n e_words_Number [1, 0, 1] [] [(0, (.str a0)), (22, (.bool a22))] h
noncomputable def words_Number_L1 (n m1 : Nat) (a4 : Int) (a24 : Pt) (h : H) : R := J T.toTab n e_words_Number [1, 1, 1, 0, 1, 0] [m1] [(4, (.int .i64 a4)), (24, (.ptr a24))] h
noncomputable def words_Number_J2 (n m1 : Nat) (a4 a6 : Int) (a24 : Pt) (a33 : Bool) (h : H) : R := J T.toTab n e_words_Number [1, 1, 1, 0, 1, 0, 0, 1, 1, 0, 1, 0, 1] [m1] [(4, (.int .i64 a4)), (6, (.int .i32 a6)), (24, (.ptr a24)), (33, (.bool a33))] h
theorem words_Number_J0_eq (n : Nat) (a0 : Bs) (a22 : Bool) (h : H) : words_Number_J0 n a0 a22 h = cond a22 (some ((.tup [(.int .i64 0), (.bool false)]), h)) (newK (.siter a0 0) h fun i2 h3 => words_Number_L1 n n 0 (some (i2, 0)) h3) := (J_eq T.toTab n e_words_Number [1, 0, 1] [] _ h).trans (by kernel_rfl)
theorem words_Number_L1_eq (n m1 : Nat) (a4 : Int) (a24 : Pt) (h : H) : words_Number_L1 n (m1 + 1) a4 a24 h = nnK a24 fun b4 o5 => match o5 with | 0 => nextK h b4 (fun q6 c7 h8 => cond (decide (c7 < (48 : Int))) (words_Number_J2 n m1 a4 c7 a24 true h8) (words_Number_J2 n m1 a4 c7 a24 (decide (c7 > (57 : Int))) h8)) (some ((.tup [(.int .i64 a4), (.bool true)]), h)) | _ => none := (J_eq T.toTab n e_words_Number [1, 1, 1, 0, 1, 0] [m1 + 1] _ h).trans (by kernel_rfl)
theorem words_Number_J2_eq (n m1 : Nat) (a4 a6 : Int) (a24 : Pt) (a33 : Bool) (h : H) : words_Number_J2 n m1 a4 a6 a24 a33 h = cond a33 (some ((.tup [(.int .i64 0), (.bool false)]), h)) (words_Number_L1 n m1 (IntKind.i64.wrap ((IntKind.i64.wrap (10 * a4)) + (IntKind.i64.wrap (IntKind.i32.wrap (a6 - 48))))) a24 h) := (J_eq T.toTab n e_words_Number [1, 1, 1, 0, 1, 0, 0, 1, 1, 0, 1, 0, 1] [m1] _ h).trans (by kernel_rfl)
theorem words_Number_eq (n : Nat) (a0 : Bs) (h : H) : ca (n + 1) i_words_Number [(.str a0)] h = cond (a0.toList == (⟨#[]⟩ : ByteArray).toList) (words_Number_J0 n a0 true h) (cond (decide ((Nat.cast a0.size) > (9 : Int))) (words_Number_J0 n a0 true h) (byteK a0 0 fun y1 => cond ((y1 : Int) == (48 : Int)) (words_Number_J0 n a0 (!(a0.toList == (⟨#[48]⟩ : ByteArray).toList)) h) (words_Number_J0 n a0 false h))) := by kernel_rfl

-- 58 (*outrider/config.parser).number$1
noncomputable def config_parser_number_1_J0 (n : Nat) (a0 a3 : Pt) (a6 a8 : Int) (a24 : Bool) (h : H) : R := J T.toTab n e_config_parser_number_1 [1, 1, 1, 0, 0, 1, 1, 1] [] [(0, (.ptr a0)), (3, (.ptr a3)), (6, (.int .i64 a6)), (8, (.int .i64 a8)), (24, (.bool a24))] h
theorem config_parser_number_1_J0_eq (n : Nat) (a0 a3 : Pt) (a6 a8 : Int) (a24 : Bool) (h : H) : config_parser_number_1_J0 n a0 a3 a6 a8 a24 h = cond a24 (nnK a0 fun b27 o28 => cellK h b27 o28 fun v29 => asPtr v29 fun x30 => (ca n i_config_parser_fail [(.ptr x30), (.int .i64 a6), (.int .i64 182)] h).bind fun q31 => asBool q31.1 fun x32 => some ((.bool x32), q31.2)) (nnK a3 fun b33 o34 => cellK h b33 o34 fun v35 => asPtr v35 fun x36 => nnK x36 fun b37 o38 => wrK h b37 o38 1 [(.int .i64 a8)] fun h39 => nnK a0 fun b40 o41 => cellK h39 b40 o41 fun v42 => asPtr v42 fun x43 => (ca n i_config_parser_must [(.ptr x43), (.str (⟨#[10]⟩ : ByteArray))] h39).bind fun q44 => asBool q44.1 fun x45 => some ((.bool x45), q44.2)) := (J_eq T.toTab n e_config_parser_number_1 [1, 1, 1, 0, 0, 1, 1, 1] [] _ h).trans (by kernel_rfl)
theorem config_parser_number_1_eq (n : Nat) (a0 a1 a2 a3 : Pt) (h : H) : ca (n + 1) i_config_parser_number_1 [(.ptr a0), (.ptr a1), (.ptr a2), (.ptr a3)] h = nnK a0 fun b1 o2 => cellK h b1 o2 fun v3 => asPtr v3 fun x4 => (ca n i_config_parser_value [(.ptr x4)] h).bind fun q5 => asTup q5.1 fun l6 => lS l6 fun x8 l7 => lI l7 fun x10 l9 => lB l9 fun x12 l11 => l0 l11 ((ca n i_words_Number [(.str x8)] q5.2).bind fun q13 => asTup q13.1 fun l14 => lI l14 fun x16 l15 => lB l15 fun x18 l17 => l0 l17 (cond (!x12) (some ((.bool false), q13.2)) (cond (!x18) (config_parser_number_1_J0 n a0 a3 x10 x16 true q13.2) (nnK a1 fun b19 o20 => cellK q13.2 b19 o20 fun v21 => asInt .i64 v21 fun x22 => cond (decide (x16 < x22)) (config_parser_number_1_J0 n a0 a3 x10 x16 true q13.2) (nnK a2 fun b23 o24 => cellK q13.2 b23 o24 fun v25 => asInt .i64 v25 fun x26 => config_parser_number_1_J0 n a0 a3 x10 x16 (decide (x16 > x26)) q13.2))))) := by kernel_rfl

-- 6 outrider/outriderlaw18.alive
theorem outriderlaw18_alive_eq (n : Nat)  (h : H) (kk : KK) : cr (n + 1) i_outriderlaw18_alive [] h kk = (ca n i_outriderlaw18_sample [] h).bind fun q1 => asStr q1.1 fun x2 => cr n i_config_Parse [(.str x2)] q1.2 fun v4 h5 => asTup v4 fun l6 => lA l6 fun x8 l7 => lI l7 fun x10 l9 => lI l9 fun x12 l11 => l0 l11 (newK (.cells [(.int .u8 0), (.int .u8 0), (.int .u8 0), (.int .u8 0), (.int .u8 0), (.int .u8 0), (.str .empty), (.str .empty), (.int .i64 0), (.int .i64 0), (.int .i64 0), (.bool false), (.slice none 0 (.known 0)), (.slice none 0 (.known 0)), (.slice none 0 (.known 0))] false) h5 fun i13 h14 => wrK h14 i13 0 15 x8 fun h15 => cr n i_config_Parse [(.str (⟨#[110, 111, 100, 101]⟩ : ByteArray))] h15 fun v17 h18 => asTup v17 fun l19 => lA l19 fun x21 l20 => lI l20 fun x23 l22 => lI l22 fun x25 l24 => l0 l24 (newK (.cells [(.int .u8 0), (.int .u8 0), (.int .u8 0), (.int .u8 0), (.int .u8 0), (.int .u8 0), (.str .empty), (.str .empty), (.int .i64 0), (.int .i64 0), (.int .i64 0), (.bool false), (.slice none 0 (.known 0)), (.slice none 0 (.known 0)), (.slice none 0 (.known 0))] false) h18 fun i26 h27 => wrK h27 i26 0 15 x21 fun h28 => cond ((x12 : Int) == (0 : Int)) (cond ((x10 : Int) == (0 : Int)) (cellK h28 i13 8 fun v29 => asInt .i64 v29 fun x30 => cond ((x30 : Int) == (7 : Int)) (cellK h28 i13 11 fun v31 => asBool v31 fun x32 => cond x32 (cellK h28 i13 12 fun v33 => asSlice v33 fun x34 n35 c36 => cond (((Nat.cast n35) : Int) == (1 : Int)) (cond ((x25 : Int) == (180 : Int)) (kk (.bool ((x23 : Int) == (4 : Int))) h28) (kk (.bool false) h28)) (kk (.bool false) h28)) (kk (.bool false) h28)) (kk (.bool false) h28)) (kk (.bool false) h28)) (kk (.bool false) h28))) := by kernel_rfl

-- 53 (*outrider/config.parser).value
noncomputable def config_parser_value_J0 (n : Nat) (a0 : Pt) (a5 : Bs) (a6 : Int) (a24 : Bool) (h : H) : R := J T.toTab n e_config_parser_value [1, 1, 0, 1] [] [(0, (.ptr a0)), (5, (.str a5)), (6, (.int .i64 a6)), (24, (.bool a24))] h
theorem config_parser_value_J0_eq (n : Nat) (a0 : Pt) (a5 : Bs) (a6 : Int) (a24 : Bool) (h : H) : config_parser_value_J0 n a0 a5 a6 a24 h = cond a24 ((ca n i_config_parser_fail [(.ptr a0), (.int .i64 a6), (.int .i64 180)] h).bind fun q5 => asBool q5.1 fun x6 => some ((.tup [(.str (⟨#[]⟩ : ByteArray)), (.int .i64 a6), (.bool x6)]), q5.2)) (nnK a0 fun b7 o8 => cellK h b7 (o8 + 2) fun v9 => asInt .i64 v9 fun x10 => nnK a0 fun b11 o12 => wrK h b11 (o12 + 2) 1 [(.int .i64 (IntKind.i64.wrap (x10 + 1)))] fun h13 => some ((.tup [(.str a5), (.int .i64 a6), (.bool true)]), h13)) := (J_eq T.toTab n e_config_parser_value [1, 1, 0, 1] [] _ h).trans (by kernel_rfl)
theorem config_parser_value_eq (n : Nat) (a0 : Pt) (h : H) : ca (n + 1) i_config_parser_value [(.ptr a0)] h = (ca n i_config_parser_peek [(.ptr a0)] h).bind fun q1 => asStr q1.1 fun x2 => (ca n i_config_parser_place [(.ptr a0)] q1.2).bind fun q3 => asInt .i64 q3.1 fun x4 => cond (x2.toList == (⟨#[]⟩ : ByteArray).toList) (config_parser_value_J0 n a0 x2 x4 true q3.2) (cond (x2.toList == (⟨#[10]⟩ : ByteArray).toList) (config_parser_value_J0 n a0 x2 x4 true q3.2) (cond (x2.toList == (⟨#[123]⟩ : ByteArray).toList) (config_parser_value_J0 n a0 x2 x4 true q3.2) (config_parser_value_J0 n a0 x2 x4 (x2.toList == (⟨#[125]⟩ : ByteArray).toList) q3.2))) := by kernel_rfl

-- 35 outrider/config.pick
noncomputable def config_pick_J0 (n : Nat) (a0 : Int) (a1_0 : Pt) (a1_1 : Nat) (a1_2 : Cap) (a12 : Bool) (h : H) : R := J T.toTab n e_config_pick [1, 0, 1] [] [(0, (.int .i64 a0)), (1, (.slice a1_0 a1_1 a1_2)), (12, (.bool a12))] h
theorem config_pick_J0_eq (n : Nat) (a0 : Int) (a1_0 : Pt) (a1_1 : Nat) (a1_2 : Cap) (a12 : Bool) (h : H) : config_pick_J0 n a0 a1_0 a1_1 a1_2 a12 h = cond a12 (if 0 ≤ ((IntKind.i64.wrap ((Nat.cast a1_1) - 1)) : Int) ∧ (IntKind.i64.wrap ((Nat.cast a1_1) - 1)) < (Nat.cast (a1_1) : Int) then nnK a1_0 fun b1 o2 => cellK h b1 (o2 + ((IntKind.i64.wrap ((Nat.cast a1_1) - 1))).toNat) fun v3 => asStr v3 fun x4 => some ((.str x4), h) else none) (if 0 ≤ ((IntKind.i64.wrap (a0 - 1)) : Int) ∧ (IntKind.i64.wrap (a0 - 1)) < (Nat.cast (a1_1) : Int) then nnK a1_0 fun b5 o6 => cellK h b5 (o6 + ((IntKind.i64.wrap (a0 - 1))).toNat) fun v7 => asStr v7 fun x8 => some ((.str x8), h) else none) := (J_eq T.toTab n e_config_pick [1, 0, 1] [] _ h).trans (by kernel_rfl)
theorem config_pick_eq (n : Nat) (a0 : Int) (a1_0 : Pt) (a1_1 : Nat) (a1_2 : Cap) (h : H) : ca (n + 1) i_config_pick [(.int .i64 a0), (.slice a1_0 a1_1 a1_2)] h = cond (decide (a0 < (1 : Int))) (config_pick_J0 n a0 a1_0 a1_1 a1_2 true h) (config_pick_J0 n a0 a1_0 a1_1 a1_2 (decide (a0 > (Nat.cast a1_1))) h) := by kernel_rfl

-- 60 (*outrider/config.parser).choice$1
theorem config_parser_choice_1_eq (n : Nat) (a0 a1 a2 : Pt) (h : H) : ca (n + 1) i_config_parser_choice_1 [(.ptr a0), (.ptr a1), (.ptr a2)] h = nnK a0 fun b1 o2 => cellK h b1 o2 fun v3 => asPtr v3 fun x4 => (ca n i_config_parser_value [(.ptr x4)] h).bind fun q5 => asTup q5.1 fun l6 => lS l6 fun x8 l7 => lI l7 fun x10 l9 => lB l9 fun x12 l11 => l0 l11 (nnK a1 fun b13 o14 => cellK q5.2 b13 o14 fun v15 => asMap v15 fun x16 => lookK (.int .i64 0) x16 (.str x8) q5.2 fun v17 t18 => asInt .i64 v17 fun x19 => cond (!x12) (some ((.bool false), q5.2)) (cond (!t18) (nnK a0 fun b20 o21 => cellK q5.2 b20 o21 fun v22 => asPtr v22 fun x23 => (ca n i_config_parser_fail [(.ptr x23), (.int .i64 x10), (.int .i64 182)] q5.2).bind fun q24 => asBool q24.1 fun x25 => some ((.bool x25), q24.2)) (nnK a2 fun b26 o27 => cellK q5.2 b26 o27 fun v28 => asPtr v28 fun x29 => nnK x29 fun b30 o31 => wrK q5.2 b30 o31 1 [(.int .i64 x19)] fun h32 => nnK a0 fun b33 o34 => cellK h32 b33 o34 fun v35 => asPtr v35 fun x36 => (ca n i_config_parser_must [(.ptr x36), (.str (⟨#[10]⟩ : ByteArray))] h32).bind fun q37 => asBool q37.1 fun x38 => some ((.bool x38), q37.2)))) := by kernel_rfl

-- 90 unicode/utf8.RuneCountInString
-- 28 (*outrider/config.parser).peek
theorem config_parser_peek_eq (n : Nat) (a0 : Pt) (h : H) : ca (n + 1) i_config_parser_peek [(.ptr a0)] h = nnK a0 fun b1 o2 => cellK h b1 (o2 + 2) fun v3 => asInt .i64 v3 fun x4 => nnK a0 fun b5 o6 => cellK h b5 (o6 + 1) fun v7 => asSlice v7 fun x8 n9 c10 => cond (decide (x4 ≥ (Nat.cast n9))) (some ((.str (⟨#[]⟩ : ByteArray)), h)) (nnK a0 fun b11 o12 => cellK h b11 (o12 + 1) fun v13 => asSlice v13 fun x14 n15 c16 => nnK a0 fun b17 o18 => cellK h b17 (o18 + 2) fun v19 => asInt .i64 v19 fun x20 => if 0 ≤ (x20 : Int) ∧ x20 < (Nat.cast (n15) : Int) then nnK x14 fun b21 o22 => cellK h b21 (o22 + x20.toNat * 3) fun v23 => asStr v23 fun x24 => some ((.str x24), h) else none) := by kernel_rfl

-- 12 (*outrider/config.writer).say
theorem config_writer_say_eq (n : Nat) (a0 a1_0 : Pt) (a1_1 : Nat) (a1_2 : Cap) (h : H) : ca (n + 1) i_config_writer_say [(.ptr a0), (.slice a1_0 a1_1 a1_2)] h = nnK a0 fun b1 o2 => (ca n i_strings_Join [(.slice a1_0 a1_1 a1_2), (.str (⟨#[32]⟩ : ByteArray))] h).bind fun q3 => asStr q3.1 fun x4 => catK x4 (⟨#[10]⟩ : ByteArray) fun s5 => (ca n i_strings_Builder_WriteString [(.ptr (some (b1, o2))), (.str s5)] q3.2).bind fun q6 => asTup q6.1 fun l7 => lI l7 fun x9 l8 => lc l8 fun v11 l10 => l0 l10 (some ((.tup []), q6.2)) := by kernel_rfl

-- 41 (*outrider/config.parser).choice
theorem config_parser_choice_eq (n : Nat) (a0 a1 : Pt) (a2 : Option Nat) (h : H) : ca (n + 1) i_config_parser_choice [(.ptr a0), (.ptr a1), (.map a2)] h = newK (.cells [(.ptr a0)] false) h fun i1 h2 => newK (.cells [(.ptr a1)] false) h2 fun i3 h4 => newK (.cells [(.map a2)] false) h4 fun i5 h6 => some ((.func i_config_parser_choice_1 [] [(.ptr (some (i1, 0))), (.ptr (some (i5, 0))), (.ptr (some (i3, 0)))]), h6) := by kernel_rfl

-- 21 outrider/words.may
theorem words_may_eq (n : Nat) (a0 : Int) (h : H) : ca (n + 1) i_words_may [(.int .u8 a0)] h = cond ((a0 : Int) == (9 : Int)) (some ((.bool true), h)) (cond ((a0 : Int) == (10 : Int)) (some ((.bool true), h)) (cond ((a0 : Int) == (13 : Int)) (some ((.bool true), h)) (cond (decide (a0 ≥ (32 : Int))) (some ((.bool (decide (a0 ≤ (126 : Int)))), h)) (some ((.bool false), h))))) := by kernel_rfl

-- 72 outrider/words.Address$1
theorem words_Address_1_eq (n : Nat) (a0 : Bs) (h : H) : ca (n + 1) i_words_Address_1 [(.str a0)] h = (ca n i_words_Number [(.str a0)] h).bind fun q1 => asTup q1.1 fun l2 => lI l2 fun x4 l3 => lB l3 fun x6 l5 => l0 l5 (cond x6 (some ((.tup [(.int .i64 x4), (.bool (decide (x4 ≤ (255 : Int))))]), q1.2)) (some ((.tup [(.int .i64 x4), (.bool false)]), q1.2))) := by kernel_rfl

-- 95 internal/stringslite.IndexByte
theorem stringslite_IndexByte_eq (n : Nat) (a0 : Bs) (a1 : Int) (h : H) : ca (n + 1) i_stringslite_IndexByte [(.str a0), (.int .u8 a1)] h = (ca n i_bytealg_IndexByteString [(.str a0), (.int .u8 a1)] h).bind fun q1 => asInt .i64 q1.1 fun x2 => some ((.int .i64 x2), q1.2) := by kernel_rfl

-- 33 strconv.FormatInt
theorem strconv_FormatInt_eq (n : Nat) (a0 a1 : Int) (h : H) : ca (n + 1) i_strconv_FormatInt [(.int .i64 a0), (.int .i64 a1)] h = (ca n i_strconv_FormatInt_2 [(.int .i64 a0), (.int .i64 a1)] h).bind fun q1 => asStr q1.1 fun x2 => some ((.str x2), q1.2) := by kernel_rfl

-- 89 strings.Index
theorem strings_Index_eq (n : Nat) (a0 a1 : Bs) (h : H) : ca (n + 1) i_strings_Index [(.str a0), (.str a1)] h = (ca n i_stringslite_Index [(.str a0), (.str a1)] h).bind fun q1 => asInt .i64 q1.1 fun x2 => some ((.int .i64 x2), q1.2) := by kernel_rfl

-- 97 internal/bytealg.Cutover
-- 18 (*strings.Builder).String
theorem strings_Builder_String_eq (n : Nat) (a0 : Pt) (h : H) : ca (n + 1) i_strings_Builder_String [(.ptr a0)] h = (strings_Builder_String_18 n a0 h).bind fun r => some ((.str r.1), r.2) := by kernel_rfl

end Go.Ev.Tryd

/- What the functions compute, printed by evprint2.py. -/
set_option maxRecDepth 100000
set_option linter.all false
namespace Go.Ev.Tryd
open Go.Proofs

-- 8 outrider/config.Print
noncomputable def config_Print_J0 (n : Nat) (a1 a3 : Pt) (a4 : Bs) (h : H) : R := J T.toTab n e_config_Print [1, 1, 1, 1, 1, 1, 1, 1, 1, 1, 1, 1, 1] [] [(1, (.ptr a1)), (3, (.ptr a3)), (4, (.str a4))] h
noncomputable def config_Print_L1 (n m1 : Nat) (a1 a3 a59_0 : Pt) (a59_1 : Nat) (a59_2 : Cap) (a60 a61 : Int) (h : H) : R := J T.toTab n e_config_Print [1, 1, 1, 1, 1, 1, 1, 1, 1, 1, 1, 1, 1, 1, 0, 1, 0] [m1] [(1, (.ptr a1)), (3, (.ptr a3)), (59, (.slice a59_0 a59_1 a59_2)), (60, (.int .i64 a60)), (61, (.int .i64 a61))] h
noncomputable def config_Print_L2 (n m1 : Nat) (a1 a3 a72_0 : Pt) (a72_1 : Nat) (a72_2 : Cap) (a73 a74 : Int) (h : H) : R := J T.toTab n e_config_Print [1, 1, 1, 1, 1, 1, 1, 1, 1, 1, 1, 1, 1, 1, 1, 0, 1, 0] [m1] [(1, (.ptr a1)), (3, (.ptr a3)), (72, (.slice a72_0 a72_1 a72_2)), (73, (.int .i64 a73)), (74, (.int .i64 a74))] h
noncomputable def config_Print_L3 (n m1 : Nat) (a3 a91_0 : Pt) (a91_1 : Nat) (a91_2 : Cap) (a92 a93 : Int) (h : H) : R := J T.toTab n e_config_Print [1, 1, 1, 1, 1, 1, 1, 1, 1, 1, 1, 1, 1, 1, 1, 1, 1, 0, 1, 0] [m1] [(3, (.ptr a3)), (91, (.slice a91_0 a91_1 a91_2)), (92, (.int .i64 a92)), (93, (.int .i64 a93))] h
theorem config_Print_J0_eq (n : Nat) (a1 a3 : Pt) (a4 : Bs) (h : H) : config_Print_J0 n a1 a3 a4 h = newK (.cells [(.str (⟨#[112, 114, 101, 101, 109, 112, 116]⟩ : ByteArray)), (.str a4)] false) h fun i54 h55 => (ca n i_config_writer_say [(.ptr a3), (.slice (some (i54, 0)) 2 (.known 2))] h55).bind fun q56 => asTup q56.1 fun l57 => l0 l57 (nnK a1 fun b58 o59 => cellK q56.2 b58 (o59 + 12) fun v60 => asSlice v60 fun x61 n62 c63 => config_Print_L1 n n a1 a3 x61 n62 c63 (Nat.cast n62) 0 q56.2) := (J_eq T.toTab n e_config_Print [1, 1, 1, 1, 1, 1, 1, 1, 1, 1, 1, 1, 1] [] _ h).trans (by kernel_rfl)
theorem config_Print_L1_eq (n m1 : Nat) (a1 a3 a59_0 : Pt) (a59_1 : Nat) (a59_2 : Cap) (a60 a61 : Int) (h : H) : config_Print_L1 n (m1 + 1) a1 a3 a59_0 a59_1 a59_2 a60 a61 h = cond (decide (a61 < a60)) (if 0 ≤ (a61 : Int) ∧ a61 < (Nat.cast (a59_1) : Int) then nnK a59_0 fun b64 o65 => cellK h b64 (o65 + a61.toNat) fun v66 => asStr v66 fun x67 => (ca n i_words_AddressText [(.str x67)] h).bind fun q68 => asStr q68.1 fun x69 => newK (.cells [(.str (⟨#[118, 105, 112]⟩ : ByteArray)), (.str x69)] false) q68.2 fun i70 h71 => (ca n i_config_writer_say [(.ptr a3), (.slice (some (i70, 0)) 2 (.known 2))] h71).bind fun q72 => asTup q72.1 fun l73 => l0 l73 (config_Print_L1 n m1 a1 a3 a59_0 a59_1 a59_2 a60 (IntKind.i64.wrap (a61 + 1)) q72.2) else none) (nnK a1 fun b74 o75 => cellK h b74 (o75 + 13) fun v76 => asSlice v76 fun x77 n78 c79 => config_Print_L2 n n a1 a3 x77 n78 c79 (Nat.cast n78) 0 h) := (J_eq T.toTab n e_config_Print [1, 1, 1, 1, 1, 1, 1, 1, 1, 1, 1, 1, 1, 1, 0, 1, 0] [m1 + 1] _ h).trans (by kernel_rfl)
theorem config_Print_L2_eq (n m1 : Nat) (a1 a3 a72_0 : Pt) (a72_1 : Nat) (a72_2 : Cap) (a73 a74 : Int) (h : H) : config_Print_L2 n (m1 + 1) a1 a3 a72_0 a72_1 a72_2 a73 a74 h = cond (decide (a74 < a73)) (if 0 ≤ (a74 : Int) ∧ a74 < (Nat.cast (a72_1) : Int) then nnK a72_0 fun b80 o81 => aggK h b80 (o81 + a74.toNat * 2) 2 fun l82 => lS l82 fun x84 l83 => lI l83 fun x86 l85 => l0 l85 (newK (.cells [(.str .empty), (.int .i64 0)] false) h fun i87 h88 => wrK h88 i87 0 2 [(.str x84), (.int .i64 x86)] fun h89 => cellK h89 i87 0 fun v90 => asStr v90 fun x91 => cellK h89 i87 1 fun v92 => asInt .i64 v92 fun x93 => (ca n i_strconv_Itoa [(.int .i64 x93)] h89).bind fun q94 => asStr q94.1 fun x95 => sameK h89 q94.2 (some i87) (newK (.cells [(.str (⟨#[116, 114, 97, 99, 107]⟩ : ByteArray)), (.str x91), (.str x95)] false) q94.2 fun i96 h97 => (ca n i_config_writer_say [(.ptr a3), (.slice (some (i96, 0)) 3 (.known 3))] h97).bind fun q98 => asTup q98.1 fun l99 => l0 l99 (config_Print_L2 n m1 a1 a3 a72_0 a72_1 a72_2 a73 (IntKind.i64.wrap (a74 + 1)) q98.2))) else none) (newK (.cells [(.str (⟨#[125]⟩ : ByteArray))] false) h fun i100 h101 => (ca n i_config_writer_say [(.ptr a3), (.slice (some (i100, 0)) 1 (.known 1))] h101).bind fun q102 => asTup q102.1 fun l103 => l0 l103 (nnK a1 fun b104 o105 => cellK q102.2 b104 (o105 + 14) fun v106 => asSlice v106 fun x107 n108 c109 => config_Print_L3 n n a3 x107 n108 c109 (Nat.cast n108) 0 q102.2)) := (J_eq T.toTab n e_config_Print [1, 1, 1, 1, 1, 1, 1, 1, 1, 1, 1, 1, 1, 1, 1, 0, 1, 0] [m1 + 1] _ h).trans (by kernel_rfl)
theorem config_Print_L3_eq (n m1 : Nat) (a3 a91_0 : Pt) (a91_1 : Nat) (a91_2 : Cap) (a92 a93 : Int) (h : H) : config_Print_L3 n (m1 + 1) a3 a91_0 a91_1 a91_2 a92 a93 h = cond (decide (a93 < a92)) (if 0 ≤ (a93 : Int) ∧ a93 < (Nat.cast (a91_1) : Int) then nnK a91_0 fun b110 o111 => aggK h b110 (o111 + a93.toNat * 10) 10 fun l112 => lS l112 fun x114 l113 => lS l113 fun x116 l115 => lI l115 fun x118 l117 => lI l117 fun x120 l119 => lI l119 fun x122 l121 => lI l121 fun x124 l123 => lI l123 fun x126 l125 => lI l125 fun x128 l127 => lI l127 fun x130 l129 => lL l129 fun x132 n133 c134 l131 => l0 l131 (newK (.cells [(.str .empty), (.str .empty), (.int .i64 0), (.int .i64 0), (.int .i64 0), (.int .i64 0), (.int .i64 0), (.int .i64 0), (.int .i64 0), (.slice none 0 (.known 0))] false) h fun i135 h136 => wrK h136 i135 0 10 [(.str x114), (.str x116), (.int .i64 x118), (.int .i64 x120), (.int .i64 x122), (.int .i64 x124), (.int .i64 x126), (.int .i64 x128), (.int .i64 x130), (.slice x132 n133 c134)] fun h137 => aggK h137 i135 0 10 fun l138 => lS l138 fun x140 l139 => lS l139 fun x142 l141 => lI l141 fun x144 l143 => lI l143 fun x146 l145 => lI l145 fun x148 l147 => lI l147 fun x150 l149 => lI l149 fun x152 l151 => lI l151 fun x154 l153 => lI l153 fun x156 l155 => lL l155 fun x158 n159 c160 l157 => l0 l157 ((ca n i_config_writer_service [(.ptr a3), (.agg [(.str x140), (.str x142), (.int .i64 x144), (.int .i64 x146), (.int .i64 x148), (.int .i64 x150), (.int .i64 x152), (.int .i64 x154), (.int .i64 x156), (.slice x158 n159 c160)])] h137).bind fun q161 => asTup q161.1 fun l162 => l0 l162 (config_Print_L3 n m1 a3 a91_0 a91_1 a91_2 a92 (IntKind.i64.wrap (a93 + 1)) q161.2))) else none) (nnK a3 fun b163 o164 => (ca n i_strings_Builder_String [(.ptr (some (b163, o164)))] h).bind fun q165 => asStr q165.1 fun x166 => some ((.str x166), q165.2)) := (J_eq T.toTab n e_config_Print [1, 1, 1, 1, 1, 1, 1, 1, 1, 1, 1, 1, 1, 1, 1, 1, 1, 0, 1, 0] [m1 + 1] _ h).trans (by kernel_rfl)
theorem config_Print_eq (n : Nat) (a0 : List AV) (h : H) : ca (n + 1) i_config_Print [(.agg a0)] h = newK (.cells a0 false) h fun i1 h2 => newK (.tc 53 [(.ptr none), (.slice none 0 (.known 0))] true) h2 fun i3 h4 => newK (.cells [(.str (⟨#[110, 111, 100, 101]⟩ : ByteArray)), (.str (⟨#[123]⟩ : ByteArray))] false) h4 fun i5 h6 => (ca n i_config_writer_say [(.ptr (some (i3, 0))), (.slice (some (i5, 0)) 2 (.known 2))] h6).bind fun q7 => asTup q7.1 fun l8 => l0 l8 (aggK q7.2 i1 0 6 fun l9 => (ca n i_words_CardText [(.agg l9)] q7.2).bind fun q10 => asStr q10.1 fun x11 => newK (.cells [(.str (⟨#[109, 97, 99]⟩ : ByteArray)), (.str x11)] false) q10.2 fun i12 h13 => (ca n i_config_writer_say [(.ptr (some (i3, 0))), (.slice (some (i12, 0)) 2 (.known 2))] h13).bind fun q14 => asTup q14.1 fun l15 => l0 l15 (cellK q14.2 i1 6 fun v16 => asStr v16 fun x17 => (ca n i_words_AddressText [(.str x17)] q14.2).bind fun q18 => asStr q18.1 fun x19 => newK (.cells [(.str (⟨#[97, 100, 100, 114, 101, 115, 115]⟩ : ByteArray)), (.str x19)] false) q18.2 fun i20 h21 => (ca n i_config_writer_say [(.ptr (some (i3, 0))), (.slice (some (i20, 0)) 2 (.known 2))] h21).bind fun q22 => asTup q22.1 fun l23 => l0 l23 (cellK q22.2 i1 7 fun v24 => asStr v24 fun x25 => (ca n i_words_AddressText [(.str x25)] q22.2).bind fun q26 => asStr q26.1 fun x27 => newK (.cells [(.str (⟨#[112, 101, 101, 114]⟩ : ByteArray)), (.str x27)] false) q26.2 fun i28 h29 => (ca n i_config_writer_say [(.ptr (some (i3, 0))), (.slice (some (i28, 0)) 2 (.known 2))] h29).bind fun q30 => asTup q30.1 fun l31 => l0 l31 (newK (.cells [(.str (⟨#[125]⟩ : ByteArray))] false) q30.2 fun i32 h33 => (ca n i_config_writer_say [(.ptr (some (i3, 0))), (.slice (some (i32, 0)) 1 (.known 1))] h33).bind fun q34 => asTup q34.1 fun l35 => l0 l35 (newK (.cells [(.str (⟨#[118, 114, 114, 112]⟩ : ByteArray)), (.str (⟨#[123]⟩ : ByteArray))] false) q34.2 fun i36 h37 => (ca n i_config_writer_say [(.ptr (some (i3, 0))), (.slice (some (i36, 0)) 2 (.known 2))] h37).bind fun q38 => asTup q38.1 fun l39 => l0 l39 (cellK q38.2 i1 8 fun v40 => asInt .i64 v40 fun x41 => (ca n i_config_writer_count [(.ptr (some (i3, 0))), (.str (⟨#[105, 100]⟩ : ByteArray)), (.int .i64 x41)] q38.2).bind fun q42 => asTup q42.1 fun l43 => l0 l43 (cellK q42.2 i1 9 fun v44 => asInt .i64 v44 fun x45 => (ca n i_config_writer_count [(.ptr (some (i3, 0))), (.str (⟨#[112, 114, 105, 111, 114, 105, 116, 121]⟩ : ByteArray)), (.int .i64 x45)] q42.2).bind fun q46 => asTup q46.1 fun l47 => l0 l47 (cellK q46.2 i1 10 fun v48 => asInt .i64 v48 fun x49 => (ca n i_config_writer_count [(.ptr (some (i3, 0))), (.str (⟨#[101, 118, 101, 114, 121]⟩ : ByteArray)), (.int .i64 x49)] q46.2).bind fun q50 => asTup q50.1 fun l51 => l0 l51 (cellK q50.2 i1 11 fun v52 => asBool v52 fun x53 => cond x53 (config_Print_J0 n (some (i1, 0)) (some (i3, 0)) (⟨#[121, 101, 115]⟩ : ByteArray) q50.2) (config_Print_J0 n (some (i1, 0)) (some (i3, 0)) (⟨#[110, 111]⟩ : ByteArray) q50.2)))))))))) := by kernel_rfl

-- 17 (*outrider/config.writer).service
noncomputable def config_writer_service_J0 (n : Nat) (a0 a3 : Pt) (a4 : Bs) (h : H) : R := J T.toTab n e_config_writer_service [1, 1, 1, 1] [] [(0, (.ptr a0)), (3, (.ptr a3)), (4, (.str a4))] h
noncomputable def config_writer_service_L1 (n m1 : Nat) (a0 a56_0 : Pt) (a56_1 : Nat) (a56_2 : Cap) (a57 a58 : Int) (h : H) : R := J T.toTab n e_config_writer_service [1, 1, 1, 1, 1, 1, 1, 1, 1, 1, 1, 1, 0, 1, 0] [m1] [(0, (.ptr a0)), (56, (.slice a56_0 a56_1 a56_2)), (57, (.int .i64 a57)), (58, (.int .i64 a58))] h
noncomputable def config_writer_service_J2 (n m1 : Nat) (a0 a6 a56_0 : Pt) (a56_1 : Nat) (a56_2 : Cap) (a57 a58 : Int) (h : H) : R := J T.toTab n e_config_writer_service [1, 1, 1, 1, 1, 1, 1, 1, 1, 1, 1, 1, 0, 1, 0, 0, 1, 1, 0, 0, 1, 1, 1, 1, 1] [m1] [(0, (.ptr a0)), (6, (.ptr a6)), (56, (.slice a56_0 a56_1 a56_2)), (57, (.int .i64 a57)), (58, (.int .i64 a58))] h
theorem config_writer_service_J0_eq (n : Nat) (a0 a3 : Pt) (a4 : Bs) (h : H) : config_writer_service_J0 n a0 a3 a4 h = newK (.cells [(.str (⟨#[112, 114, 111, 116, 111]⟩ : ByteArray)), (.str a4)] false) h fun i11 h12 => (ca n i_config_writer_say [(.ptr a0), (.slice (some (i11, 0)) 2 (.known 2))] h12).bind fun q13 => asTup q13.1 fun l14 => l0 l14 (nnK a3 fun b15 o16 => cellK q13.2 b15 (o16 + 1) fun v17 => asStr v17 fun x18 => (ca n i_words_AddressText [(.str x18)] q13.2).bind fun q19 => asStr q19.1 fun x20 => newK (.cells [(.str (⟨#[118, 105, 112]⟩ : ByteArray)), (.str x20)] false) q19.2 fun i21 h22 => (ca n i_config_writer_say [(.ptr a0), (.slice (some (i21, 0)) 2 (.known 2))] h22).bind fun q23 => asTup q23.1 fun l24 => l0 l24 (nnK a3 fun b25 o26 => cellK q23.2 b25 (o26 + 3) fun v27 => asInt .i64 v27 fun x28 => (ca n i_config_writer_count [(.ptr a0), (.str (⟨#[112, 111, 114, 116]⟩ : ByteArray)), (.int .i64 x28)] q23.2).bind fun q29 => asTup q29.1 fun l30 => l0 l30 (nnK a3 fun b31 o32 => cellK q29.2 b31 (o32 + 4) fun v33 => asInt .i64 v33 fun x34 => newK (.cells [(.str (⟨#[110, 97, 116]⟩ : ByteArray)), (.str (⟨#[100, 114]⟩ : ByteArray)), (.str (⟨#[105, 112, 105, 112]⟩ : ByteArray))] false) q29.2 fun i35 h36 => (ca n i_config_pick [(.int .i64 x34), (.slice (some (i35, 0)) 3 (.known 3))] h36).bind fun q37 => asStr q37.1 fun x38 => newK (.cells [(.str (⟨#[109, 111, 100, 101]⟩ : ByteArray)), (.str x38)] false) q37.2 fun i39 h40 => (ca n i_config_writer_say [(.ptr a0), (.slice (some (i39, 0)) 2 (.known 2))] h40).bind fun q41 => asTup q41.1 fun l42 => l0 l42 (nnK a3 fun b43 o44 => cellK q41.2 b43 (o44 + 5) fun v45 => asInt .i64 v45 fun x46 => newK (.cells [(.str (⟨#[109, 97, 103, 108, 101, 118]⟩ : ByteArray)), (.str (⟨#[115, 111, 117, 114, 99, 101]⟩ : ByteArray))] false) q41.2 fun i47 h48 => (ca n i_config_pick [(.int .i64 x46), (.slice (some (i47, 0)) 2 (.known 2))] h48).bind fun q49 => asStr q49.1 fun x50 => newK (.cells [(.str (⟨#[115, 99, 104, 101, 100, 117, 108, 101]⟩ : ByteArray)), (.str x50)] false) q49.2 fun i51 h52 => (ca n i_config_writer_say [(.ptr a0), (.slice (some (i51, 0)) 2 (.known 2))] h52).bind fun q53 => asTup q53.1 fun l54 => l0 l54 (nnK a3 fun b55 o56 => cellK q53.2 b55 (o56 + 6) fun v57 => asInt .i64 v57 fun x58 => (ca n i_config_writer_count [(.ptr a0), (.str (⟨#[114, 105, 115, 101]⟩ : ByteArray)), (.int .i64 x58)] q53.2).bind fun q59 => asTup q59.1 fun l60 => l0 l60 (nnK a3 fun b61 o62 => cellK q59.2 b61 (o62 + 7) fun v63 => asInt .i64 v63 fun x64 => (ca n i_config_writer_count [(.ptr a0), (.str (⟨#[102, 97, 108, 108]⟩ : ByteArray)), (.int .i64 x64)] q59.2).bind fun q65 => asTup q65.1 fun l66 => l0 l66 (nnK a3 fun b67 o68 => cellK q65.2 b67 (o68 + 8) fun v69 => asInt .i64 v69 fun x70 => (ca n i_config_writer_count [(.ptr a0), (.str (⟨#[112, 114, 111, 98, 101]⟩ : ByteArray)), (.int .i64 x70)] q65.2).bind fun q71 => asTup q71.1 fun l72 => l0 l72 (nnK a3 fun b73 o74 => cellK q71.2 b73 (o74 + 9) fun v75 => asSlice v75 fun x76 n77 c78 => config_writer_service_L1 n n a0 x76 n77 c78 (Nat.cast n77) 0 q71.2)))))))) := (J_eq T.toTab n e_config_writer_service [1, 1, 1, 1] [] _ h).trans (by kernel_rfl)
theorem config_writer_service_L1_eq (n m1 : Nat) (a0 a56_0 : Pt) (a56_1 : Nat) (a56_2 : Cap) (a57 a58 : Int) (h : H) : config_writer_service_L1 n (m1 + 1) a0 a56_0 a56_1 a56_2 a57 a58 h = cond (decide (a58 < a57)) (if 0 ≤ (a58 : Int) ∧ a58 < (Nat.cast (a56_1) : Int) then nnK a56_0 fun b79 o80 => aggK h b79 (o80 + a58.toNat * 10) 10 fun l81 => newK (.cells [(.str .empty), (.str .empty), (.int .u8 0), (.int .u8 0), (.int .u8 0), (.int .u8 0), (.int .u8 0), (.int .u8 0), (.int .i64 0), (.int .i64 0)] false) h fun i82 h83 => wrK h83 i82 0 10 l81 fun h84 => cellK h84 i82 0 fun v85 => asStr v85 fun x86 => newK (.cells [(.str (⟨#[98, 97, 99, 107, 101, 110, 100]⟩ : ByteArray)), (.str x86), (.str (⟨#[123]⟩ : ByteArray))] false) h84 fun i87 h88 => (ca n i_config_writer_say [(.ptr a0), (.slice (some (i87, 0)) 3 (.known 3))] h88).bind fun q89 => asTup q89.1 fun l90 => l0 l90 (cellK q89.2 i82 1 fun v91 => asStr v91 fun x92 => (ca n i_words_AddressText [(.str x92)] q89.2).bind fun q93 => asStr q93.1 fun x94 => newK (.cells [(.str (⟨#[97, 100, 100, 114, 101, 115, 115]⟩ : ByteArray)), (.str x94)] false) q93.2 fun i95 h96 => (ca n i_config_writer_say [(.ptr a0), (.slice (some (i95, 0)) 2 (.known 2))] h96).bind fun q97 => asTup q97.1 fun l98 => l0 l98 (aggK q97.2 i82 2 6 fun l99 => (ca n i_words_CardText [(.agg l99)] q97.2).bind fun q100 => asStr q100.1 fun x101 => newK (.cells [(.str (⟨#[109, 97, 99]⟩ : ByteArray)), (.str x101)] false) q100.2 fun i102 h103 => (ca n i_config_writer_say [(.ptr a0), (.slice (some (i102, 0)) 2 (.known 2))] h103).bind fun q104 => asTup q104.1 fun l105 => l0 l105 (cellK q104.2 i82 8 fun v106 => asInt .i64 v106 fun x107 => cond ((x107 : Int) != (0 : Int)) (cellK q104.2 i82 8 fun v108 => asInt .i64 v108 fun x109 => (ca n i_config_writer_count [(.ptr a0), (.str (⟨#[112, 111, 114, 116]⟩ : ByteArray)), (.int .i64 x109)] q104.2).bind fun q110 => asTup q110.1 fun l111 => l0 l111 (config_writer_service_J2 n m1 a0 (some (i82, 0)) a56_0 a56_1 a56_2 a57 a58 q110.2)) (config_writer_service_J2 n m1 a0 (some (i82, 0)) a56_0 a56_1 a56_2 a57 a58 q104.2)))) else none) (newK (.cells [(.str (⟨#[125]⟩ : ByteArray))] false) h fun i112 h113 => (ca n i_config_writer_say [(.ptr a0), (.slice (some (i112, 0)) 1 (.known 1))] h113).bind fun q114 => asTup q114.1 fun l115 => l0 l115 (some ((.tup []), q114.2))) := (J_eq T.toTab n e_config_writer_service [1, 1, 1, 1, 1, 1, 1, 1, 1, 1, 1, 1, 0, 1, 0] [m1 + 1] _ h).trans (by kernel_rfl)
theorem config_writer_service_J2_eq (n m1 : Nat) (a0 a6 a56_0 : Pt) (a56_1 : Nat) (a56_2 : Cap) (a57 a58 : Int) (h : H) : config_writer_service_J2 n m1 a0 a6 a56_0 a56_1 a56_2 a57 a58 h = nnK a6 fun b116 o117 => cellK h b116 (o117 + 9) fun v118 => asInt .i64 v118 fun x119 => (ca n i_config_writer_count [(.ptr a0), (.str (⟨#[119, 101, 105, 103, 104, 116]⟩ : ByteArray)), (.int .i64 x119)] h).bind fun q120 => asTup q120.1 fun l121 => l0 l121 (newK (.cells [(.str (⟨#[125]⟩ : ByteArray))] false) q120.2 fun i122 h123 => (ca n i_config_writer_say [(.ptr a0), (.slice (some (i122, 0)) 1 (.known 1))] h123).bind fun q124 => asTup q124.1 fun l125 => l0 l125 (config_writer_service_L1 n m1 a0 a56_0 a56_1 a56_2 a57 (IntKind.i64.wrap (a58 + 1)) q124.2)) := (J_eq T.toTab n e_config_writer_service [1, 1, 1, 1, 1, 1, 1, 1, 1, 1, 1, 1, 0, 1, 0, 0, 1, 1, 0, 0, 1, 1, 1, 1, 1] [m1] _ h).trans (by kernel_rfl)
theorem config_writer_service_eq (n : Nat) (a0 : Pt) (a1_0 a1_1 : Bs) (a1_2 a1_3 a1_4 a1_5 a1_6 a1_7 a1_8 : Int) (a1_9 : Pt) (a1_10 : Nat) (a1_11 : Cap) (h : H) : ca (n + 1) i_config_writer_service [(.ptr a0), (.agg [(.str a1_0), (.str a1_1), (.int .i64 a1_2), (.int .i64 a1_3), (.int .i64 a1_4), (.int .i64 a1_5), (.int .i64 a1_6), (.int .i64 a1_7), (.int .i64 a1_8), (.slice a1_9 a1_10 a1_11)])] h = newK (.cells [(.str a1_0), (.str a1_1), (.int .i64 a1_2), (.int .i64 a1_3), (.int .i64 a1_4), (.int .i64 a1_5), (.int .i64 a1_6), (.int .i64 a1_7), (.int .i64 a1_8), (.slice a1_9 a1_10 a1_11)] false) h fun i1 h2 => cellK h2 i1 0 fun v3 => asStr v3 fun x4 => newK (.cells [(.str (⟨#[115, 101, 114, 118, 105, 99, 101]⟩ : ByteArray)), (.str x4), (.str (⟨#[123]⟩ : ByteArray))] false) h2 fun i5 h6 => (ca n i_config_writer_say [(.ptr a0), (.slice (some (i5, 0)) 3 (.known 3))] h6).bind fun q7 => asTup q7.1 fun l8 => l0 l8 (cellK q7.2 i1 2 fun v9 => asInt .i64 v9 fun x10 => cond ((x10 : Int) == (6 : Int)) (config_writer_service_J0 n a0 (some (i1, 0)) (⟨#[116, 99, 112]⟩ : ByteArray) q7.2) (config_writer_service_J0 n a0 (some (i1, 0)) (⟨#[117, 100, 112]⟩ : ByteArray) q7.2)) := by kernel_rfl

-- 98 internal/bytealg.IndexRabinKarp[string]
-- 71 outrider/words.hex
noncomputable def words_hex_L0 (n m1 : Nat) (a0 : Bs) (a1 a2 a8 : Int) (a12 : Pt) (h : H) : R := J T.toTab n e_words_hex [1, 1, 0, 1, 0] [m1] [(0, (.str a0)), (1, (.int .i64 a1)), (2, (.int .i64 a2)), (8, (.int .i64 a8)), (12, (.ptr a12))] h
noncomputable def words_hex_J1 (n m1 : Nat) (a0 : Bs) (a1 a2 a8 a10 : Int) (a12 : Pt) (a16 : Bool) (h : H) : R := J T.toTab n e_words_hex [1, 1, 0, 1, 0, 0, 1, 1, 0, 1, 0, 0, 1] [m1] [(0, (.str a0)), (1, (.int .i64 a1)), (2, (.int .i64 a2)), (8, (.int .i64 a8)), (10, (.int .i32 a10)), (12, (.ptr a12)), (16, (.bool a16))] h
noncomputable def words_hex_J3 (n m1 : Nat) (a0 : Bs) (a1 a2 a8 : Int) (a12 : Pt) (h : H) : R := J T.toTab n e_words_hex [1, 1, 0, 1, 0, 0, 1, 1, 0, 1, 1] [m1] [(0, (.str a0)), (1, (.int .i64 a1)), (2, (.int .i64 a2)), (8, (.int .i64 a8)), (12, (.ptr a12))] h
noncomputable def words_hex_J2 (n m1 : Nat) (a0 : Bs) (a1 a2 a8 a10 : Int) (a12 : Pt) (a29 : Bool) (h : H) : R := J T.toTab n e_words_hex [1, 1, 0, 1, 0, 0, 1, 1, 0, 1, 0, 0, 1, 1, 1] [m1] [(0, (.str a0)), (1, (.int .i64 a1)), (2, (.int .i64 a2)), (8, (.int .i64 a8)), (10, (.int .i32 a10)), (12, (.ptr a12)), (29, (.bool a29))] h
theorem words_hex_L0_eq (n m1 : Nat) (a0 : Bs) (a1 a2 a8 : Int) (a12 : Pt) (h : H) : words_hex_L0 n (m1 + 1) a0 a1 a2 a8 a12 h = nnK a12 fun b3 o4 => match o4 with | 0 => nextK h b3 (fun q5 c6 h7 => cond (decide (c6 ≥ (48 : Int))) (words_hex_J1 n m1 a0 a1 a2 a8 c6 a12 (decide (c6 ≤ (57 : Int))) h7) (words_hex_J1 n m1 a0 a1 a2 a8 c6 a12 false h7)) (cond (decide ((Nat.cast a0.size) ≥ a1)) (some ((.tup [(.int .i64 a8), (.bool (decide ((Nat.cast a0.size) ≤ a2)))]), h)) (some ((.tup [(.int .i64 a8), (.bool false)]), h))) | _ => none := (J_eq T.toTab n e_words_hex [1, 1, 0, 1, 0] [m1 + 1] _ h).trans (by kernel_rfl)
theorem words_hex_J1_eq (n m1 : Nat) (a0 : Bs) (a1 a2 a8 a10 : Int) (a12 : Pt) (a16 : Bool) (h : H) : words_hex_J1 n m1 a0 a1 a2 a8 a10 a12 a16 h = cond a16 (words_hex_J3 n m1 a0 a1 a2 (ior .i64 (ishl .i64 a8 4) (IntKind.i64.wrap (IntKind.i32.wrap (a10 - 48)))) a12 h) (cond (decide (a10 ≥ (97 : Int))) (words_hex_J2 n m1 a0 a1 a2 a8 a10 a12 (decide (a10 ≤ (102 : Int))) h) (words_hex_J2 n m1 a0 a1 a2 a8 a10 a12 false h)) := (J_eq T.toTab n e_words_hex [1, 1, 0, 1, 0, 0, 1, 1, 0, 1, 0, 0, 1] [m1] _ h).trans (by kernel_rfl)
theorem words_hex_J3_eq (n m1 : Nat) (a0 : Bs) (a1 a2 a8 : Int) (a12 : Pt) (h : H) : words_hex_J3 n m1 a0 a1 a2 a8 a12 h = cond (decide (a8 > (65535 : Int))) (some ((.tup [(.int .i64 0), (.bool false)]), h)) (words_hex_L0 n m1 a0 a1 a2 a8 a12 h) := (J_eq T.toTab n e_words_hex [1, 1, 0, 1, 0, 0, 1, 1, 0, 1, 1] [m1] _ h).trans (by kernel_rfl)
theorem words_hex_J2_eq (n m1 : Nat) (a0 : Bs) (a1 a2 a8 a10 : Int) (a12 : Pt) (a29 : Bool) (h : H) : words_hex_J2 n m1 a0 a1 a2 a8 a10 a12 a29 h = cond a29 (words_hex_J3 n m1 a0 a1 a2 (ior .i64 (ishl .i64 a8 4) (IntKind.i64.wrap (IntKind.i32.wrap ((IntKind.i32.wrap (a10 - 97)) + 10)))) a12 h) (some ((.tup [(.int .i64 0), (.bool false)]), h)) := (J_eq T.toTab n e_words_hex [1, 1, 0, 1, 0, 0, 1, 1, 0, 1, 0, 0, 1, 1, 1] [m1] _ h).trans (by kernel_rfl)
theorem words_hex_eq (n : Nat) (a0 : Bs) (a1 a2 : Int) (h : H) : ca (n + 1) i_words_hex [(.str a0), (.int .i64 a1), (.int .i64 a2)] h = newK (.siter a0 0) h fun i1 h2 => words_hex_L0 n n a0 a1 a2 0 (some (i1, 0)) h2 := by kernel_rfl

-- 14 outrider/words.AddressText
noncomputable def words_AddressText_L0 (n m1 : Nat) (a3_0 : Pt) (a3_1 : Nat) (a3_2 : Cap) (a12_0 : Pt) (a12_1 : Nat) (a12_2 : Cap) (a13 a14 : Int) (h : H) : R := J T.toTab n e_words_AddressText [1, 1, 0, 1, 0, 1, 0, 0, 1, 0] [m1] [(3, (.slice a3_0 a3_1 a3_2)), (12, (.slice a12_0 a12_1 a12_2)), (13, (.int .i64 a13)), (14, (.int .i64 a14))] h
noncomputable def words_AddressText_L1 (n m1 : Nat) (a0 : Bs) (a3_0 : Pt) (a3_1 : Nat) (a3_2 : Cap) (a6 : Int) (h : H) : R := J T.toTab n e_words_AddressText [1, 1, 0, 1, 0, 1, 1, 1, 0, 0, 1, 0] [m1] [(0, (.str a0)), (3, (.slice a3_0 a3_1 a3_2)), (6, (.int .i64 a6))] h
theorem words_AddressText_L0_eq (n m1 : Nat) (a3_0 : Pt) (a3_1 : Nat) (a3_2 : Cap) (a12_0 : Pt) (a12_1 : Nat) (a12_2 : Cap) (a13 a14 : Int) (h : H) : words_AddressText_L0 n (m1 + 1) a3_0 a3_1 a3_2 a12_0 a12_1 a12_2 a13 a14 h = cond (decide (a14 < a13)) (if 0 ≤ (a14 : Int) ∧ a14 < (Nat.cast (a12_1) : Int) then nnK a12_0 fun b3 o4 => cellK h b3 (o4 + a14.toNat) fun v5 => asInt .u8 v5 fun x6 => (ca n i_strconv_Itoa [(.int .i64 (IntKind.i64.wrap x6))] h).bind fun q7 => asStr q7.1 fun x8 => newK (.cells [(.str x8)] false) q7.2 fun i9 h10 => appK 1 16 a3_0 a3_1 a3_2 (evSrc 1 (.slice (some (i9, 0)) 1 (.known 1)) h10) h10 fun p11 n12 c13 h14 => words_AddressText_L0 n m1 p11 n12 c13 a12_0 a12_1 a12_2 a13 (IntKind.i64.wrap (a14 + 1)) h14 else none) ((ca n i_strings_Join [(.slice a3_0 a3_1 a3_2), (.str (⟨#[46]⟩ : ByteArray))] h).bind fun q15 => asStr q15.1 fun x16 => some ((.str x16), q15.2)) := (J_eq T.toTab n e_words_AddressText [1, 1, 0, 1, 0, 1, 0, 0, 1, 0] [m1 + 1] _ h).trans (by kernel_rfl)
theorem words_AddressText_L1_eq (n m1 : Nat) (a0 : Bs) (a3_0 : Pt) (a3_1 : Nat) (a3_2 : Cap) (a6 : Int) (h : H) : words_AddressText_L1 n (m1 + 1) a0 a3_0 a3_1 a3_2 a6 h = cond (decide (a6 < (16 : Int))) (byteK a0 a6 fun y17 => byteK a0 (IntKind.i64.wrap (a6 + 1)) fun y18 => (ca n i_strconv_FormatInt [(.int .i64 (ior .i64 (ishl .i64 (IntKind.i64.wrap y17) 8) (IntKind.i64.wrap y18))), (.int .i64 16)] h).bind fun q19 => asStr q19.1 fun x20 => newK (.cells [(.str x20)] false) q19.2 fun i21 h22 => appK 1 16 a3_0 a3_1 a3_2 (evSrc 1 (.slice (some (i21, 0)) 1 (.known 1)) h22) h22 fun p23 n24 c25 h26 => words_AddressText_L1 n m1 a0 p23 n24 c25 (IntKind.i64.wrap (a6 + 2)) h26) ((ca n i_strings_Join [(.slice a3_0 a3_1 a3_2), (.str (⟨#[58]⟩ : ByteArray))] h).bind fun q27 => asStr q27.1 fun x28 => some ((.str x28), q27.2)) := (J_eq T.toTab n e_words_AddressText [1, 1, 0, 1, 0, 1, 1, 1, 0, 0, 1, 0] [m1 + 1] _ h).trans (by kernel_rfl)
theorem words_AddressText_eq (n : Nat) (a0 : Bs) (h : H) : ca (n + 1) i_words_AddressText [(.str a0)] h = cond (((Nat.cast a0.size) : Int) == (4 : Int)) (newK (.cells (a0.data.toList.map fun c => AV.int .u8 c.toNat) false) h fun i1 h2 => words_AddressText_L0 n n none 0 (.known 0) (some (i1, 0)) a0.size (.rest 1) (Nat.cast a0.size) 0 h2) (cond (((Nat.cast a0.size) : Int) == (16 : Int)) (words_AddressText_L1 n n a0 none 0 (.known 0) 0 h) (some ((.str (⟨#[]⟩ : ByteArray)), h))) := by kernel_rfl

-- 5 outrider/outriderlaw18.ConfigTwice
-- 56 outrider/words.Address
noncomputable def words_Address_J0 (n : Nat) (a0 : Bs) (a4_0 : Pt) (a4_1 : Nat) (a4_2 : Cap) (a17 : Bool) (h : H) : R := J T.toTab n e_words_Address [1, 1, 0, 1] [] [(0, (.str a0)), (4, (.slice a4_0 a4_1 a4_2)), (17, (.bool a17))] h
noncomputable def words_Address_J1 (n : Nat) (a6_0 : Pt) (a6_1 : Nat) (a6_2 : Cap) (a30 : Bool) (h : H) : R := J T.toTab n e_words_Address [1, 1, 1, 1, 0, 1] [] [(6, (.slice a6_0 a6_1 a6_2)), (30, (.bool a30))] h
theorem words_Address_J0_eq (n : Nat) (a0 : Bs) (a4_0 : Pt) (a4_1 : Nat) (a4_2 : Cap) (a17 : Bool) (h : H) : words_Address_J0 n a0 a4_0 a4_1 a4_2 a17 h = cond a17 (bsK h (.slice a4_0 a4_1 a4_2) fun s9 => some ((.tup [(.str s9), (.bool true)]), h)) ((ca n i_words_groups [(.str a0), (.str (⟨#[58]⟩ : ByteArray)), (.int .i64 2), (.func i_words_Address_2 [] [])] h).bind fun q10 => asTup q10.1 fun l11 => lL l11 fun x13 n14 c15 l12 => lB l12 fun x17 l16 => l0 l16 (cond x17 (words_Address_J1 n x13 n14 c15 (((Nat.cast n14) : Int) == (16 : Int)) q10.2) (words_Address_J1 n x13 n14 c15 false q10.2))) := (J_eq T.toTab n e_words_Address [1, 1, 0, 1] [] _ h).trans (by kernel_rfl)
theorem words_Address_J1_eq (n : Nat) (a6_0 : Pt) (a6_1 : Nat) (a6_2 : Cap) (a30 : Bool) (h : H) : words_Address_J1 n a6_0 a6_1 a6_2 a30 h = cond a30 (bsK h (.slice a6_0 a6_1 a6_2) fun s18 => some ((.tup [(.str s18), (.bool true)]), h)) (some ((.tup [(.str (⟨#[]⟩ : ByteArray)), (.bool false)]), h)) := (J_eq T.toTab n e_words_Address [1, 1, 1, 1, 0, 1] [] _ h).trans (by kernel_rfl)
theorem words_Address_eq (n : Nat) (a0 : Bs) (h : H) : ca (n + 1) i_words_Address [(.str a0)] h = (ca n i_words_groups [(.str a0), (.str (⟨#[46]⟩ : ByteArray)), (.int .i64 1), (.func i_words_Address_1 [] [])] h).bind fun q1 => asTup q1.1 fun l2 => lL l2 fun x4 n5 c6 l3 => lB l3 fun x8 l7 => l0 l7 (cond x8 (words_Address_J0 n a0 x4 n5 c6 (((Nat.cast n5) : Int) == (4 : Int)) q1.2) (words_Address_J0 n a0 x4 n5 c6 false q1.2)) := by kernel_rfl

-- 100 internal/bytealg.hashStr[string]
-- 78 math/bits.Len64
-- 52 (*outrider/config.parser).card$1
theorem config_parser_card_1_eq (n : Nat) (a0 a1 : Pt) (h : H) : ca (n + 1) i_config_parser_card_1 [(.ptr a0), (.ptr a1)] h = nnK a0 fun b1 o2 => cellK h b1 o2 fun v3 => asPtr v3 fun x4 => (ca n i_config_parser_value [(.ptr x4)] h).bind fun q5 => asTup q5.1 fun l6 => lS l6 fun x8 l7 => lI l7 fun x10 l9 => lB l9 fun x12 l11 => l0 l11 ((ca n i_words_Card [(.str x8)] q5.2).bind fun q13 => asTup q13.1 fun l14 => lA l14 fun x16 l15 => lB l15 fun x18 l17 => l0 l17 (newK (.cells [(.int .u8 0), (.int .u8 0), (.int .u8 0), (.int .u8 0), (.int .u8 0), (.int .u8 0)] false) q13.2 fun i19 h20 => wrK h20 i19 0 6 x16 fun h21 => cond (!x12) (some ((.bool false), h21)) (cond (!x18) (nnK a0 fun b22 o23 => cellK h21 b22 o23 fun v24 => asPtr v24 fun x25 => (ca n i_config_parser_fail [(.ptr x25), (.int .i64 x10), (.int .i64 182)] h21).bind fun q26 => asBool q26.1 fun x27 => some ((.bool x27), q26.2)) (nnK a1 fun b28 o29 => cellK h21 b28 o29 fun v30 => asPtr v30 fun x31 => aggK h21 i19 0 6 fun l32 => nnK x31 fun b33 o34 => wrK h21 b33 o34 6 l32 fun h35 => nnK a0 fun b36 o37 => cellK h35 b36 o37 fun v38 => asPtr v38 fun x39 => (ca n i_config_parser_must [(.ptr x39), (.str (⟨#[10]⟩ : ByteArray))] h35).bind fun q40 => asBool q40.1 fun x41 => some ((.bool x41), q40.2))))) := by kernel_rfl

-- 47 slices.Index[[]outrider/api.Addr,outrider/api.Addr]
noncomputable def api_Addr_2_L0 (n m1 : Nat) (a0_0 : Pt) (a0_1 : Nat) (a0_2 : Cap) (a1 : Bs) (a7 a8 : Int) (h : H) : R := J T.toTab n e_api_Addr_2 [1, 0, 1, 0] [m1] [(0, (.slice a0_0 a0_1 a0_2)), (1, (.str a1)), (7, (.int .i64 a7)), (8, (.int .i64 a8))] h
theorem api_Addr_2_L0_eq (n m1 : Nat) (a0_0 : Pt) (a0_1 : Nat) (a0_2 : Cap) (a1 : Bs) (a7 a8 : Int) (h : H) : api_Addr_2_L0 n (m1 + 1) a0_0 a0_1 a0_2 a1 a7 a8 h = cond (decide (a8 < a7)) (if 0 ≤ (a8 : Int) ∧ a8 < (Nat.cast (a0_1) : Int) then nnK a0_0 fun b1 o2 => cellK h b1 (o2 + a8.toNat) fun v3 => asStr v3 fun x4 => cond (a1.toList == x4.toList) (some ((.int .i64 a8), h)) (api_Addr_2_L0 n m1 a0_0 a0_1 a0_2 a1 a7 (IntKind.i64.wrap (a8 + 1)) h) else none) (some ((.int .i64 (-1)), h)) := (J_eq T.toTab n e_api_Addr_2 [1, 0, 1, 0] [m1 + 1] _ h).trans (by kernel_rfl)
theorem api_Addr_2_eq (n : Nat) (a0_0 : Pt) (a0_1 : Nat) (a0_2 : Cap) (a1 : Bs) (h : H) : ca (n + 1) i_api_Addr_2 [(.slice a0_0 a0_1 a0_2), (.str a1)] h = api_Addr_2_L0 n n a0_0 a0_1 a0_2 a1 (Nat.cast a0_1) 0 h := by kernel_rfl

-- 44 (*outrider/config.parser).named
theorem config_parser_named_eq (n : Nat) (a0 a1_0 : Pt) (a1_1 : Nat) (a1_2 : Cap) (h : H) : ca (n + 1) i_config_parser_named [(.ptr a0), (.slice a1_0 a1_1 a1_2)] h = (ca n i_config_parser_value [(.ptr a0)] h).bind fun q1 => asTup q1.1 fun l2 => lS l2 fun x4 l3 => lI l3 fun x6 l5 => lB l5 fun x8 l7 => l0 l7 (cond (!x8) (some ((.tup [(.str (⟨#[]⟩ : ByteArray)), (.bool false)]), q1.2)) (cond (decide ((Nat.cast x4.size) > (40 : Int))) ((ca n i_config_parser_fail [(.ptr a0), (.int .i64 x6), (.int .i64 182)] q1.2).bind fun q9 => asBool q9.1 fun x10 => some ((.tup [(.str (⟨#[]⟩ : ByteArray)), (.bool x10)]), q9.2)) ((ca n i_slices_Contains_string_string [(.slice a1_0 a1_1 a1_2), (.str x4)] q1.2).bind fun q11 => asBool q11.1 fun x12 => cond x12 ((ca n i_config_parser_fail [(.ptr a0), (.int .i64 x6), (.int .i64 181)] q11.2).bind fun q13 => asBool q13.1 fun x14 => some ((.tup [(.str (⟨#[]⟩ : ByteArray)), (.bool x14)]), q13.2)) (some ((.tup [(.str x4), (.bool true)]), q11.2))))) := by kernel_rfl

-- 66 internal/strconv.numDigits
-- 40 (*outrider/config.parser).number
theorem config_parser_number_eq (n : Nat) (a0 a1 : Pt) (a2 a3 : Int) (h : H) : ca (n + 1) i_config_parser_number [(.ptr a0), (.ptr a1), (.int .i64 a2), (.int .i64 a3)] h = newK (.cells [(.ptr a0)] false) h fun i1 h2 => newK (.cells [(.ptr a1)] false) h2 fun i3 h4 => newK (.cells [(.int .i64 a2)] false) h4 fun i5 h6 => newK (.cells [(.int .i64 a3)] false) h6 fun i7 h8 => some ((.func i_config_parser_number_1 [] [(.ptr (some (i1, 0))), (.ptr (some (i5, 0))), (.ptr (some (i7, 0))), (.ptr (some (i3, 0)))]), h8) := by kernel_rfl

-- 74 internal/stringslite.CutPrefix
theorem stringslite_CutPrefix_eq (n : Nat) (a0 a1 : Bs) (h : H) : ca (n + 1) i_stringslite_CutPrefix [(.str a0), (.str a1)] h = (ca n i_stringslite_HasPrefix [(.str a0), (.str a1)] h).bind fun q1 => asBool q1.1 fun x2 => cond (!x2) (some ((.tup [(.str a0), (.bool false)]), q1.2)) (bndK a0.size a0.size 0 (some (.int .i64 (Nat.cast a1.size))) none none fun lo3 hi4 mx5 => some ((.tup [(.str (a0.extract lo3 hi4)), (.bool true)]), q1.2)) := by kernel_rfl

-- 62 slices.Contains[[]string,string]
theorem slices_Contains_string_string_eq (n : Nat) (a0_0 : Pt) (a0_1 : Nat) (a0_2 : Cap) (a1 : Bs) (h : H) : ca (n + 1) i_slices_Contains_string_string [(.slice a0_0 a0_1 a0_2), (.str a1)] h = (ca n i_slices_Index_string_string [(.slice a0_0 a0_1 a0_2), (.str a1)] h).bind fun q1 => asInt .i64 q1.1 fun x2 => some ((.bool (decide (x2 ≥ (0 : Int)))), q1.2) := by kernel_rfl

-- 37 (*outrider/config.parser).card
theorem config_parser_card_eq (n : Nat) (a0 a1 : Pt) (h : H) : ca (n + 1) i_config_parser_card [(.ptr a0), (.ptr a1)] h = newK (.cells [(.ptr a0)] false) h fun i1 h2 => newK (.cells [(.ptr a1)] false) h2 fun i3 h4 => some ((.func i_config_parser_card_1 [] [(.ptr (some (i1, 0))), (.ptr (some (i3, 0)))]), h4) := by kernel_rfl

-- 57 outrider/config.into$1
theorem config_into_1_eq (n : Nat) (a0 : Bs) (a1 : Int) (a2 : Pt) (h : H) : ca (n + 1) i_config_into_1 [(.str a0), (.int .i64 a1), (.ptr a2)] h = nnK a2 fun b1 o2 => cellK h b1 o2 fun v3 => asPtr v3 fun x4 => nnK x4 fun b5 o6 => wrK h b5 o6 1 [(.str a0)] fun h7 => some ((.bool true), h7) := by kernel_rfl

-- 82 strings.Split
theorem strings_Split_eq (n : Nat) (a0 a1 : Bs) (h : H) : ca (n + 1) i_strings_Split [(.str a0), (.str a1)] h = (ca n i_strings_genSplit [(.str a0), (.str a1), (.int .i64 0), (.int .i64 (-1))] h).bind fun q1 => asSlice q1.1 fun x2 n3 c4 => some ((.slice x2 n3 c4), q1.2) := by kernel_rfl

-- 32 strings.Join
theorem strings_Join_eq (n : Nat) (a0_0 : Pt) (a0_1 : Nat) (a0_2 : Cap) (a1 : Bs) (h : H) : ca (n + 1) i_strings_Join [(.slice a0_0 a0_1 a0_2), (.str a1)] h = (strings_Join_32 n a0_0 a0_1 a0_2 a1 h).bind fun r => some ((.str r.1), r.2) := by kernel_rfl

-- 92 internal/bytealg.CountString
theorem bytealg_CountString_eq (n : Nat) (a0 : Bs) (a1 : Int) (h : H) : ca (n + 1) i_bytealg_CountString [(.str a0), (.int .u8 a1)] h = (bytealg_CountString_92 n a0 a1 h).bind fun r => some ((.int .i64 r.1), r.2) := by kernel_rfl

-- 16 strconv.Itoa
theorem strconv_Itoa_eq (n : Nat) (a0 : Int) (h : H) : ca (n + 1) i_strconv_Itoa [(.int .i64 a0)] h = (strconv_Itoa_16 n a0 h).bind fun r => some ((.str r.1), r.2) := by kernel_rfl

-- 9 outrider/outriderlaw18.sample
theorem outriderlaw18_sample_eq (n : Nat)  (h : H) : ca (n + 1) i_outriderlaw18_sample [] h = some ((.str s_453d3d97), h) := by kernel_rfl

end Go.Ev.Tryd

/- The trailing zeros of sixteen, by the table of math/bits. -/
set_option maxRecDepth 100000
set_option linter.all false
namespace Go.Ev.Tryd
open Go.Proofs
theorem bits_TrailingZeros64_16 (n : Nat) (h : H) : ca (n + 1) i_bits_TrailingZeros64 [(.int .u64 16)] h = cellK h 1 15 fun v1 => asInt .u8 v1 fun x2 => some ((.int .i64 (IntKind.i64.wrap x2)), h) := by kernel_rfl
end Go.Ev.Tryd
