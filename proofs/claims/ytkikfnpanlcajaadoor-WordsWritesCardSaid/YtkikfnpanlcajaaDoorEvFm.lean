/- The abstract machine Ev, part F, beside it: maps whose keys are numbers, truth values or texts. -/
import Derived.Test.YtkikfnpanlcajaaDoorEvF
import Derived.MapKept
set_option linter.all false
namespace Go.Ev

/-- a key's value, as the model has it -/
def keyKind : TypeDesc → AV → Bool
  | .int _, .int _ _ => true
  | .string, .str _ => true
  | .bool, .bool _ => true
  | _, _ => false

theorem sameNow_sim {r : Ren} {kd : TypeDesc} {a b : AV} {v u : Value} {x : Bool} (hk : keyKind kd a = true) (h : keyCmp a b = some x) (ha : VR r a v) (hb : VR r b u) : Instr.sameNow kd v u = some x := by
  cases ha <;> simp [keyCmp] at h <;> cases hb <;> simp_all [keyKind, Instr.sameNow, keyCmp]
  all_goals (cases kd <;> simp_all [Instr.sameNow])

theorem keyCmp_key {r : Ren} {a b : AV} {v u : Value} {x : Bool} (h : keyCmp a b = some x) (ha : VR r a v) (hb : VR r b u) : x = true ↔ v = u := by
  unfold keyCmp at h
  split at h
  · split at h
    · rename_i e; subst e; cases h; cases ha; cases hb; simp
    · cases h
  · cases h; cases ha; cases hb; rw [MapKept.bytes_beq]; simp
  · cases h; cases ha; cases hb; simp
  · cases h

/-- what findNow tells -/
theorem findNow_spec {kd : TypeDesc} {k : Value} : ∀ (E : List MapEntry) (i : Nat), (∀ e ∈ E, ∃ b, Instr.sameNow kd k e.key = some b) →
    (Instr.findNow kd k E i = some none ∧ ∀ e ∈ E, Instr.sameNow kd k e.key = some false) ∨
    ∃ j e, E[j]? = some e ∧ Instr.sameNow kd k e.key = some true ∧ Instr.findNow kd k E i = some (some (i + j, e.val))
  | [], i, _ => .inl ⟨rfl, by simp⟩
  | e :: E, i, h => by
    obtain ⟨b, hb⟩ := h e (by simp)
    cases b with
    | true => exact .inr ⟨0, e, rfl, hb, by simp [Instr.findNow, hb]⟩
    | false =>
      rcases findNow_spec E (i + 1) (fun x hx => h x (by simp [hx])) with ⟨h1, h2⟩ | ⟨j, x, h1, h2, h3⟩
      · exact .inl ⟨by simp only [Instr.findNow, hb]; exact h1, fun x hx => by rcases List.mem_cons.1 hx with rfl | hx; exact hb; exact h2 x hx⟩
      · exact .inr ⟨j + 1, x, by simpa using h1, h2, by simp only [Instr.findNow, hb]; rw [h3]; congr 3; omega⟩

/-- a map's entries stand for the model's: one to one, no key twice -/
structure MapR (r : Ren) (es : List (AV × AV × Nat)) (E : List MapEntry) : Prop where
  rel : EntriesR r es E
  apart : es.Pairwise fun a b => keyCmp a.1 b.1 = some false

/-- found, or not: every entry is comparable -/
def evFind (k : AV) (es : List (AV × AV × Nat)) : Option (Option (AV × AV × Nat)) := if es.all (fun e => (keyCmp k e.1).isSome) = true then some (es.find? fun e => keyCmp k e.1 == some true) else none

theorem evFind_all {k : AV} {es : List (AV × AV × Nat)} {x : Option (AV × AV × Nat)} (h : evFind k es = some x) : (∀ e ∈ es, ∃ b, keyCmp k e.1 = some b) ∧ x = es.find? fun e => keyCmp k e.1 == some true := by
  unfold evFind at h
  split at h
  · rename_i ha
    cases h
    exact ⟨fun e he => Option.isSome_iff_exists.1 (List.all_eq_true.1 ha e he), rfl⟩
  · cases h

theorem mem_pair {r : Ren} {es : List (AV × AV × Nat)} {E' : List MapEntry} (hl : es.length = E'.length) (h : ∀ (i : Nat) (x : AV × AV × Nat) (e : MapEntry), es[i]? = some x → E'[i]? = some e → VR r x.1 e.key ∧ VR r x.2.1 e.val ∧ x.2.2 = e.born) {e : MapEntry} (he : e ∈ E') :
    ∃ (i : Nat) (x : AV × AV × Nat), es[i]? = some x ∧ E'[i]? = some e ∧ VR r x.1 e.key ∧ VR r x.2.1 e.val ∧ x.2.2 = e.born := by
  obtain ⟨i, hi⟩ := List.getElem?_of_mem he
  have hlt : i < es.length := by rw [hl]; exact (List.getElem?_eq_some_iff.1 hi).1
  have hx : es[i]? = some es[i] := List.getElem?_eq_getElem hlt
  exact ⟨i, _, hx, hi, h i _ e hx hi⟩

/-- two entries whose keys are the same are the same entry -/
theorem key_unique {r : Ren} {es : List (AV × AV × Nat)} {E' : List MapEntry} (hl : es.length = E'.length) (h : ∀ (i : Nat) (x : AV × AV × Nat) (e : MapEntry), es[i]? = some x → E'[i]? = some e → VR r x.1 e.key ∧ VR r x.2.1 e.val ∧ x.2.2 = e.born)
    (ha : es.Pairwise fun a b => keyCmp a.1 b.1 = some false) {i j : Nat} {e f : MapEntry} (hi : E'[i]? = some e) (hj : E'[j]? = some f) (hk : e.key = f.key) : i = j := by
  have key : ∀ {i j : Nat} {e f : MapEntry}, E'[i]? = some e → E'[j]? = some f → e.key = f.key → ¬ i < j := by
    intro i j e f hi hj hk hlt
    have h1 : i < es.length := by rw [hl]; exact (List.getElem?_eq_some_iff.1 hi).1
    have h2 : j < es.length := by rw [hl]; exact (List.getElem?_eq_some_iff.1 hj).1
    have hp := (List.pairwise_iff_getElem.1 ha) i j h1 h2 hlt
    have hx := h i _ e (List.getElem?_eq_getElem h1) hi
    have hy := h j _ f (List.getElem?_eq_getElem h2) hj
    have := (keyCmp_key hp hx.1 hy.1).2 hk
    cases this
  rcases Nat.lt_trichotomy i j with h | h | h
  · exact absurd h (key hi hj hk)
  · exact h
  · exact absurd h (key hj hi hk.symm)

/-- the entry that is found stands for the one that the model finds -/
theorem find_sim {r : Ren} {kd : TypeDesc} {k : AV} {k' : Value} (hkk : keyKind kd k = true) (hk : VR r k k') {es : List (AV × AV × Nat)} {E : List MapEntry} (hE : EntriesR r es E) (hp : es.Pairwise fun a b => keyCmp a.1 b.1 = some false) {x : Option (AV × AV × Nat)} (hx : evFind k es = some x) :
    (x = none ∧ (∀ e ∈ es, keyCmp k e.1 = some false) ∧ Instr.findNow kd k' E 0 = some none ∧ ∀ e ∈ E, e.key ≠ k') ∨
    ∃ (y : AV × AV × Nat) (j : Nat) (e : MapEntry), x = some y ∧ E[j]? = some e ∧ e.key = k' ∧ VR r y.1 e.key ∧ VR r y.2.1 e.val ∧ y.2.2 = e.born ∧ Instr.findNow kd k' E 0 = some (some (j, e.val)) ∧ y ∈ es ∧ keyCmp k y.1 = some true := by
  obtain ⟨hall, hfind⟩ := evFind_all hx
  obtain ⟨E', hperm, hl, hpt⟩ := hE
  have hcmp : ∀ e ∈ E, ∃ b, Instr.sameNow kd k' e.key = some b ∧ (b = true ↔ k' = e.key) ∧ ∃ y ∈ es, VR r y.1 e.key ∧ VR r y.2.1 e.val ∧ y.2.2 = e.born ∧ keyCmp k y.1 = some b := by
    intro e he
    obtain ⟨i, y, h1, h2, h3, h4, h5⟩ := mem_pair hl hpt (hperm.mem_iff.2 he)
    obtain ⟨b, hb⟩ := hall y (List.mem_of_getElem? h1)
    exact ⟨b, sameNow_sim hkk hb hk h3, keyCmp_key hb hk h3, y, List.mem_of_getElem? h1, h3, h4, h5, hb⟩
  rcases findNow_spec (kd := kd) (k := k') E 0 (fun e he => (hcmp e he).elim fun b h => ⟨b, h.1⟩) with ⟨h1, h2⟩ | ⟨j, e, h1, h2, h3⟩
  · left
    have hne : ∀ e ∈ E, e.key ≠ k' := by
      intro e he hk2
      obtain ⟨b, hb1, hb2, _⟩ := hcmp e he
      rw [h2 e he] at hb1
      cases hb1
      have := hb2.2 hk2.symm
      cases this
    have hno : ∀ y ∈ es, keyCmp k y.1 = some false := by
      intro y hy
      obtain ⟨b, hb⟩ := hall y hy
      cases b with
      | false => exact hb
      | true =>
        exfalso
        obtain ⟨i, hi⟩ := List.getElem?_of_mem hy
        have hlt : i < E'.length := by rw [← hl]; exact (List.getElem?_eq_some_iff.1 hi).1
        have he : E'[i]? = some E'[i] := List.getElem?_eq_getElem hlt
        have hv := hpt i y _ hi he
        have := (keyCmp_key hb hk hv.1).1 rfl
        exact hne _ (hperm.mem_iff.1 (List.mem_of_getElem? he)) this.symm
    refine ⟨?_, hno, h1, hne⟩
    rw [hfind, List.find?_eq_none]
    intro y hy
    rw [hno y hy]; simp
  · right
    obtain ⟨b, hb1, hb2, y, hy, hv1, hv2, hv3, hc⟩ := hcmp e (List.mem_of_getElem? h1)
    rw [h2] at hb1
    cases hb1
    have hke := hb2.1 rfl
    cases hf : es.find? fun e => keyCmp k e.1 == some true with
    | none =>
      exfalso
      have := List.find?_eq_none.1 hf y hy
      rw [hc] at this
      simp at this
    | some z =>
      have hz1 := List.find?_some hf
      have hz2 := List.mem_of_find?_eq_some hf
      have hzc : keyCmp k z.1 = some true := by simpa using hz1
      obtain ⟨i, hi⟩ := List.getElem?_of_mem hz2
      have hlt : i < E'.length := by rw [← hl]; exact (List.getElem?_eq_some_iff.1 hi).1
      have he' : E'[i]? = some E'[i] := List.getElem?_eq_getElem hlt
      have hv := hpt i z _ hi he'
      have hkz := (keyCmp_key hzc hk hv.1).1 rfl
      obtain ⟨i2, hi2⟩ := List.getElem?_of_mem (hperm.mem_iff.2 (List.mem_of_getElem? h1))
      have hii := key_unique hl hpt hp he' hi2 (hkz.symm.trans hke)
      subst hii
      rw [he'] at hi2
      cases hi2
      exact ⟨z, j, E'[i], by rw [hfind, hf], h1, hke.symm, hv.1, hv.2.1, hv.2.2, by rw [h3]; simp, hz2, hzc⟩

/-- a map's key of such a kind is no harm -/
theorem run_checkKey {P : Program} {kt : TypeId} {kd : TypeDesc} (hu : P.underlying kt = some kd) {k : AV} (hkk : keyKind kd k = true) {r : Ren} {k' : Value} (hk : VR r k k') (b : Bool) (w : World) : (Instr.checkKey b 10000 kt k').run P w = .ok () w := by
  unfold Instr.checkKey
  simp only [Sem.run_bind, run_underlying hu, Result.andThen_ok]
  cases hk <;> cases kd <;> simp [keyKind] at hkk <;> rfl

theorem run_findKey {P : Program} {kt : TypeId} {kd : TypeDesc} (hu : P.underlying kt = some kd) {k' : Value} {E : List MapEntry} {x : Option (Nat × Value)} (h : Instr.findNow kd k' E 0 = some x) (w : World) : (Instr.findKey kt k' E).run P w = .ok x w := by
  unfold Instr.findKey
  simp only [Sem.run_bind, run_underlying hu, Result.andThen_ok, h, Sem.run_pure]

/-! ### looking up -/

def evLookEs (z k : AV) (es : List (AV × AV × Nat)) : Option (AV × Bool) := match evFind k es with | some (some e) => some (e.2.1, true) | some none => some (z, false) | none => none

def evLook (z : AV) (m : Option Nat) (k : AV) (h : H) : Option (AV × Bool) :=
  match m with
  | none => some (z, false)
  | some i =>
    match h.get i with
    | some (.map es _) => evLookEs z k es
    | some (.rmap es) => evLookEs z k es
    | _ => none

def zeroV (P : Program) (e : TypeId) : Option AV := ((P.info? e).bind (·.zero)).map ofValue

theorem run_getObj {P : Program} {w : World} {b : Nat} {E : Array MapEntry} {clk : Nat} (h : w.heap[b]? = some (.map E clk)) : (getObj b).run P w = .ok (.map E clk) w := by simp [getObj, Sem.run, h]

theorem zeroV_sim {P : Program} {e : TypeId} {z : AV} (h : zeroV P e = some z) : ∃ v, (∀ r, VR r z v) ∧ ∀ w, (zeroValue e).run P w = .ok v w := by
  unfold zeroV at h
  obtain ⟨v, hv, rfl⟩ := Option.map_eq_some_iff.1 h
  obtain ⟨i, hi, hz⟩ := Option.bind_eq_some_iff.1 hv
  exact ⟨v, fun r => VR_ofValue r v, fun w => by simp [zeroValue, typeInfo, hi, hz]⟩

def okV (ok : Bool) (v : AV) (b : Bool) : AV := match ok with | true => .tup [v, .bool b] | false => v

def evLookup (P : Program) (t : TypeId) (m k : AV) (ok : Bool) (h : H) : Option AV :=
  match P.underlying t, m with
  | some (.map kt e), .map m =>
    (match P.underlying kt with
     | some kd => if keyKind kd k = true then (zeroV P e).bind fun z => (evLook z m k h).map fun q => okV ok q.1 q.2 else none
     | none => none)
  | _, _ => none

theorem VR_pair {r : Ren} {a b : AV} {v u : Value} (ha : VR r a v) (hb : VR r b u) : VR r (.tup [a, b]) (.tuple #[v, u]) :=
  .tup _ _ rfl fun i x y hx hy => by
    match i with
    | 0 => simp at hx hy; subst hx; subst hy; exact ha
    | 1 => simp at hx hy; subst hx; subst hy; exact hb
    | n + 2 => simp at hx

theorem evLookup_sim {P : Program} {r : Ren} {h : H} {w : World} (hrel : Rel r h w) {t : TypeId} {m k v : AV} {m' k' : Value} {ok : Bool} (hs : evLookup P t m k ok h = some v) (hm : VR r m m') (hk : VR r k k') :
    ∃ v', VR r v v' ∧ (Instr.lookup t m' k' ok).run P w = .ok v' w := by
  unfold evLookup at hs
  split at hs
  · rename_i kt e mm hu
    split at hs
    · rename_i kd hkd
      split at hs
      · rename_i hkk
        obtain ⟨z, hz, hs⟩ := Option.bind_eq_some_iff.1 hs
        obtain ⟨q, hq, rfl⟩ := Option.map_eq_some_iff.1 hs
        obtain ⟨z', hz1, hz2⟩ := zeroV_sim hz
        have fin : ∀ (x : Value) (b : Bool), VR r q.1 x → q.2 = b → VR r (okV ok q.1 q.2) (if ok then .tuple #[x, .bool b] else x) := by
          intro x b hx hb
          cases ok with
          | true => subst hb; exact VR_pair hx (.bool _)
          | false => exact hx
        cases hm with
        | nilMap =>
          simp only [evLook] at hq
          cases hq
          refine ⟨_, fin z' false (hz1 r) rfl, ?_⟩
          have hn : Instr.findNow kd k' [] 0 = some none := rfl
          simp only [Instr.lookup, Sem.run_bind, run_underlying hu, Result.andThen_ok, Sem.run_pure, run_checkKey hkd hkk hk, run_findKey hkd hn, hz2]
        | @map i0 t0 ht =>
          simp only [evLook] at hq
          have main : ∀ (es : List (AV × AV × Nat)) (E : Array MapEntry) (clk : Nat), w.heap[t0.blk]? = some (.map E clk) → EntriesR r es E.toList → (es.Pairwise fun a b => keyCmp a.1 b.1 = some false) → evLookEs z k es = some q → ∃ v', VR r (okV ok q.1 q.2) v' ∧ (Instr.lookup t (Value.map (some t0.blk)) k' ok).run P w = .ok v' w := by
            intro es E clk hb hE hp hq
            unfold evLookEs at hq
            split at hq
            · rename_i y hy
              cases hq
              rcases find_sim hkk hk hE hp hy with ⟨hn, _⟩ | ⟨y', j, en, hxy, hj, hke, hv1, hv2, hv3, hfn, _⟩
              · cases hn
              · cases hxy
                refine ⟨_, fin en.val true hv2 rfl, ?_⟩
                simp only [Instr.lookup, Sem.run_bind, run_underlying hu, Result.andThen_ok, Sem.run_pure, run_getObj hb, run_checkKey hkd hkk hk, run_findKey hkd hfn]
            · rename_i hy
              cases hq
              rcases find_sim hkk hk hE hp hy with ⟨_, _, hfn, _⟩ | ⟨y', j, en, hxy, _⟩
              · refine ⟨_, fin z' false (hz1 r) rfl, ?_⟩
                simp only [Instr.lookup, Sem.run_bind, run_underlying hu, Result.andThen_ok, Sem.run_pure, run_getObj hb, run_checkKey hkd hkk hk, run_findKey hkd hfn, hz2]
              · cases hxy
            · cases hq
          split at hq
          · rename_i es clk hg
            obtain ⟨E, hb, hE, hp⟩ := hrel.obj _ _ _ ht hg
            exact main es E _ hb hE hp hq
          · rename_i es hg
            obtain ⟨E, clk, hb, hE, hp⟩ := hrel.obj _ _ _ ht hg
            exact main es E _ hb hE hp hq
          · cases hq
      · cases hs
    · cases hs
  · cases hs

/-! ### writing -/

def evPutEs (k v : AV) (es : List (AV × AV × Nat)) (clk : Nat) : Option (List (AV × AV × Nat) × Nat) :=
  match evFind k es with
  | some (some _) => some (es.map fun e => cond (keyCmp k e.1 == some true) (k, v, e.2.2) e, clk)
  | some none => some (es ++ [(k, v, clk)], clk + 1)
  | none => none

def evMapPut (m : Option Nat) (k v : AV) (h : H) : Option H :=
  match m with
  | none => none
  | some i =>
    match h.get i with
    | some (.map es clk) => (evPutEs k v es clk).map fun x => h.set i (.map x.1 x.2)
    | _ => none

def evDelEs (k : AV) (es : List (AV × AV × Nat)) : Option (List (AV × AV × Nat)) :=
  match evFind k es with
  | some _ => some (es.filter fun e => !(keyCmp k e.1 == some true))
  | none => none

theorem sameBits_key {r : Ren} {kd : TypeDesc} {k : AV} {k' : Value} (hkk : keyKind kd k = true) (hk : VR r k k') : Instr.sameBits 10000 k' k' = true := by
  cases hk <;> cases kd <;> simp [keyKind] at hkk <;> simp [Instr.sameBits]
  exact (MapKept.bytes_beq _ _).2 rfl

theorem perm_erase {α : Type} {x : α} : ∀ {l : List α} {i : Nat}, l[i]? = some x → (x :: l.eraseIdx i).Perm l
  | [], i, h => by simp at h
  | y :: l, 0, h => by simp at h; subst h; exact .refl _
  | y :: l, i + 1, h => by
    have ih := perm_erase (l := l) (i := i) (by simpa using h)
    simp only [List.eraseIdx_cons_succ]
    exact (List.Perm.swap y x _).trans (ih.cons y)

theorem perm_modify {α : Type} {x : α} {f : α → α} : ∀ {l : List α} {i : Nat}, l[i]? = some x → (l.modify i f).Perm (f x :: l.eraseIdx i)
  | [], i, h => by simp at h
  | y :: l, 0, h => by simp at h; subst h; simp [List.modify_cons]
  | y :: l, i + 1, h => by
    have ih := perm_modify (f := f) (l := l) (i := i) (by simpa using h)
    simp only [List.eraseIdx_cons_succ, List.modify_succ_cons]
    exact (ih.cons y).trans (List.Perm.swap _ _ _)

theorem keyCmp_true {a b : AV} (h : keyCmp a b = some true) : a = b := by
  unfold keyCmp at h
  split at h
  · split at h
    · rename_i e; subst e; simp at h; subst h; rfl
    · cases h
  · simp only [Option.some.injEq] at h; rw [(MapKept.bytes_beq _ _).1 h]
  · simp at h; subst h; rfl
  · cases h

theorem keyCmp_self {a b : AV} {x : Bool} (h : keyCmp a b = some x) : keyCmp a a = some true := by
  unfold keyCmp at h
  split at h
  · simp [keyCmp]
  · simp only [keyCmp, Option.some.injEq]; exact (MapKept.bytes_beq _ _).2 rfl
  · simp [keyCmp]
  · cases h

theorem keyCmp_symm {a b : AV} (h : keyCmp a b = some false) : keyCmp b a = some false := by
  unfold keyCmp at h
  split at h
  · split at h
    · rename_i e; subst e; simp at h; simp [keyCmp]; exact fun e => h e.symm
    · cases h
  · simp only [Option.some.injEq] at h
    simp only [keyCmp, Option.some.injEq]
    rw [← Bool.not_eq_true] at h ⊢
    rw [MapKept.bytes_beq] at h ⊢
    exact fun e => h e.symm
  · simp at h; simp [keyCmp]; exact fun e => h e.symm
  · cases h

/-- only one entry has that key -/
theorem only_one {k : AV} {es : List (AV × AV × Nat)} (hp : es.Pairwise fun a b => keyCmp a.1 b.1 = some false) {i : Nat} {y : AV × AV × Nat} (hi : es[i]? = some y) (hk : keyCmp k y.1 = some true) {m : Nat} {z : AV × AV × Nat} (hm : es[m]? = some z) : keyCmp k z.1 = some true ↔ m = i := by
  obtain ⟨li, rfl⟩ := List.getElem?_eq_some_iff.1 hi
  obtain ⟨lm, rfl⟩ := List.getElem?_eq_some_iff.1 hm
  have hk1 := keyCmp_true hk
  refine ⟨fun h => ?_, fun h => by subst h; exact hk⟩
  rcases Nat.lt_trichotomy m i with h' | h' | h'
  · have := keyCmp_symm ((List.pairwise_iff_getElem.1 hp) m i lm li h')
    rw [hk1, this] at h; cases h
  · exact h'
  · have := (List.pairwise_iff_getElem.1 hp) i m li lm h'
    rw [hk1, this] at h; cases h

theorem filter_erase {α : Type} {p : α → Bool} : ∀ {l : List α} {i : Nat}, (∀ m x, l[m]? = some x → (p x = false ↔ m = i)) → l.filter p = l.eraseIdx i
  | [], i, _ => by simp
  | y :: l, 0, h => by
    have h0 := (h 0 y rfl).2 rfl
    rw [List.filter_cons, h0]
    simp only [List.eraseIdx_cons_zero, Bool.false_eq_true, if_false]
    rw [List.filter_eq_self]
    intro x hx
    obtain ⟨m, hm⟩ := List.getElem?_of_mem hx
    have := h (m + 1) x (by simpa using hm)
    cases hq : p x with
    | true => rfl
    | false => have := this.1 hq; omega
  | y :: l, i + 1, h => by
    have h0 : p y = true := by
      cases hq : p y with
      | true => rfl
      | false => have := (h 0 y rfl).1 hq; omega
    rw [List.filter_cons, h0]
    simp only [if_true, List.eraseIdx_cons_succ]
    rw [filter_erase (l := l) (i := i) fun m x hm => by have := h (m + 1) x (by simpa using hm); simpa using this]

theorem map_set {α : Type} {c : α → Bool} {v : α → α} {l : List α} {i : Nat} (h : ∀ m x, l[m]? = some x → (c x = true ↔ m = i)) : (l.map fun e => cond (c e) (v e) e) = l.modify i v := by
  apply List.ext_getElem?
  intro m
  rw [List.getElem?_map, List.getElem?_modify]
  cases hm : l[m]? with
  | none =>
    simp
  | some x =>
    have hl : m < l.length := (List.getElem?_eq_some_iff.1 hm).1
    by_cases hi : i = m
    · subst hi
      simp [(h i x hm).2 rfl]
    · have : c x = false := by
        cases hq : c x with
        | false => rfl
        | true => exact absurd ((h m x hm).1 hq).symm hi
      simp [hi, this]

/-- where the entry that is found lies, on both sides; what is left of both stands for each other -/
theorem found_sim {r : Ren} {k : AV} {k' : Value} (hk : VR r k k') {es : List (AV × AV × Nat)} {E : List MapEntry} (hE : EntriesR r es E) (hp : es.Pairwise fun a b => keyCmp a.1 b.1 = some false) {y : AV × AV × Nat} (hy : y ∈ es) (hc : keyCmp k y.1 = some true)
    {j : Nat} {e : MapEntry} (hj : E[j]? = some e) (hek : e.key = k') : ∃ i, es[i]? = some y ∧ EntriesR r (es.eraseIdx i) (E.eraseIdx j) := by
  obtain ⟨E', hperm, hl, hpt⟩ := hE
  obtain ⟨i, hi⟩ := List.getElem?_of_mem hy
  have hlt : i < E'.length := by rw [← hl]; exact (List.getElem?_eq_some_iff.1 hi).1
  have he' : E'[i]? = some E'[i] := List.getElem?_eq_getElem hlt
  have hv := hpt i y _ hi he'
  have hk2 := (keyCmp_key hc hk hv.1).1 rfl
  obtain ⟨i2, hi2⟩ := List.getElem?_of_mem (hperm.mem_iff.2 (List.mem_of_getElem? hj))
  have hii := key_unique hl hpt hp he' hi2 (hk2.symm.trans hek.symm)
  subst hii
  refine ⟨i, hi, E'.eraseIdx i, ?_, ?_, fun m x f hx hf => ?_⟩
  · exact ((perm_erase hi2).trans (hperm.trans (perm_erase hj).symm)).cons_inv
  · rw [List.length_eraseIdx, List.length_eraseIdx, hl]
  · rw [List.getElem?_eraseIdx] at hx hf
    split at hx
    · rename_i h; rw [if_pos h] at hf; exact hpt m x f hx hf
    · rename_i h; rw [if_neg h] at hf; exact hpt (m + 1) x f hx hf

theorem EntriesR.cons {r : Ren} {x : AV × AV × Nat} {e : MapEntry} {es : List (AV × AV × Nat)} {E : List MapEntry} (h1 : VR r x.1 e.key) (h2 : VR r x.2.1 e.val ∧ x.2.2 = e.born) (h : EntriesR r es E) : EntriesR r (x :: es) (e :: E) := by
  obtain ⟨E', hp, hl, hpt⟩ := h
  refine ⟨e :: E', hp.cons e, by simp [hl], fun i y f hy hf => ?_⟩
  cases i with
  | zero => simp at hy hf; subst hy; subst hf; exact ⟨h1, h2⟩
  | succ i => exact hpt i y f (by simpa using hy) (by simpa using hf)

/-- the entries may be told in any order, on both sides -/
theorem EntriesR.perm {r : Ren} {es es' : List (AV × AV × Nat)} {E E' : List MapEntry} (hp : es'.Perm es) (hq : E.Perm E') (h : EntriesR r es E) : EntriesR r es' E' := by
  have left : ∀ {es es' : List (AV × AV × Nat)}, es'.Perm es → ∀ E : List MapEntry, EntriesR r es E → EntriesR r es' E := by
    intro es es' hp
    induction hp with
    | nil => exact fun E h => h
    | cons x _ ih =>
      intro E h
      obtain ⟨F, h1, h2, h3⟩ := h
      cases F with
      | nil => simp at h2
      | cons f F =>
        have := h3 0 _ _ rfl rfl
        obtain ⟨G, g1, g2, g3⟩ := EntriesR.cons this.1 this.2 (ih F ⟨F, .refl _, by simpa using h2, fun i y g hy hg => h3 (i + 1) y g (by simpa using hy) (by simpa using hg)⟩)
        exact ⟨G, g1.trans h1, g2, g3⟩
    | swap x y l =>
      intro E h
      obtain ⟨F, h1, h2, h3⟩ := h
      match F, h2 with
      | f :: g :: F, h2 =>
        have a := h3 0 _ _ rfl rfl
        have b := h3 1 _ _ rfl rfl
        refine ⟨g :: f :: F, (List.Perm.swap f g F).trans h1, by simpa using h2, fun i z q hz hq => ?_⟩
        match i with
        | 0 => simp at hz hq; subst hz; subst hq; exact b
        | 1 => simp at hz hq; subst hz; subst hq; exact a
        | i + 2 => exact h3 (i + 2) z q (by simpa using hz) (by simpa using hq)
    | trans _ _ ih1 ih2 => exact fun E h => ih1 E (ih2 E h)
  obtain ⟨F, h1, h2, h3⟩ := left hp E h
  exact ⟨F, h1.trans hq, h2, h3⟩

theorem run_setObj_map {P : Program} {w : World} {b : Nat} {E E2 : Array MapEntry} {clk clk2 : Nat} (h : w.heap[b]? = some (.map E clk)) : (setObj b (.map E2 clk2)).run P w = .ok () { w with heap := w.heap.setIfInBounds b (.map E2 clk2) } := by
  simp [setObj, Sem.run, h]

/-- one of our maps has got other entries -/
theorem Post.of_map {r : Ren} {h : H} {w : World} (hrel : Rel r h w) {i : Nat} {t : Tgt} (ht : r i = some t) {es es2 : List (AV × AV × Nat)} {clk : Nat} (hg : h.get i = some (.map es clk)) {E2 : Array MapEntry} {clk2 : Nat} (hE : EntriesR r es2 E2.toList) (hp : es2.Pairwise fun a b => keyCmp a.1 b.1 = some false) :
    Post r h w r (h.set i (.map es2 clk2)) { w with heap := w.heap.setIfInBounds t.blk (.map E2 clk2) } := by
  obtain ⟨E, hb, _⟩ := hrel.obj _ _ _ ht hg
  have hlt := World.block_lt hb
  exact Post.of_set hrel ht hg rfl rfl (by simp) ⟨rfl, rfl, rfl, fun _ => Nat.le_refl _⟩ (fun b hbb => by simp [Array.getElem?_setIfInBounds_ne (Ne.symm hbb)]) ⟨E2, by simp [hlt], hE, hp⟩

theorem pairwise_put {es : List (AV × AV × Nat)} (hp : es.Pairwise fun a b => keyCmp a.1 b.1 = some false) {k v : AV} {c : AV × AV × Nat → Bool} (hc : ∀ e ∈ es, c e = true → e.1 = k) : (es.map fun e => cond (c e) (k, v, e.2.2) e).Pairwise fun a b => keyCmp a.1 b.1 = some false := by
  rw [List.pairwise_map]
  refine hp.imp_of_mem fun {a b} ha hb h => ?_
  have e1 : (cond (c a) (k, v, a.2.2) a).1 = a.1 := by
    cases hq : c a with
    | true => exact (hc a ha hq).symm
    | false => rfl
  have e2 : (cond (c b) (k, v, b.2.2) b).1 = b.1 := by
    cases hq : c b with
    | true => exact (hc b hb hq).symm
    | false => rfl
  rw [e1, e2]; exact h

theorem evMapPut_sim {P : Program} {r : Ren} {h h' : H} {w : World} (hrel : Rel r h w) {t kt e : TypeId} {kd : TypeDesc} (hu : P.underlying t = some (.map kt e)) (hkd : P.underlying kt = some kd) {m : Option Nat} {k v : AV} {m' k' v' : Value} (hkk : keyKind kd k = true)
    (hs : evMapPut m k v h = some h') (hm : VR r (.map m) m') (hk : VR r k k') (hv : VR r v v') : ∃ w', (Instr.mapUpdate t m' k' v').run P w = .ok () w' ∧ Post r h w r h' w' := by
  cases hm with
  | nilMap => simp [evMapPut] at hs
  | map ht =>
    simp only [evMapPut] at hs
    split at hs
    · rename_i es clk hg
      obtain ⟨⟨es2, c2⟩, hes, rfl⟩ := Option.map_eq_some_iff.1 hs
      obtain ⟨E, hb, hE, hp⟩ := hrel.obj _ _ _ ht hg
      unfold evPutEs at hes
      split at hes
      · rename_i y hy
        cases hes
        rcases find_sim hkk hk hE hp hy with ⟨hn, _⟩ | ⟨y', j, en, hxy, hj, hke, hv1, hv2, hv3, hfn, hmem, hcmp⟩
        · cases hn
        · cases hxy
          obtain ⟨i, hi, hrest⟩ := found_sim hk hE hp hmem hcmp hj hke
          have hj' : E[j]? = some en := by simpa using hj
          have hset : (es.map fun e => cond (keyCmp k e.1 == some true) (k, v, e.2.2) e) = es.modify i fun e => (k, v, e.2.2) := map_set (v := fun e => (k, v, e.2.2)) fun m x hx => by
            rw [beq_iff_eq]; exact only_one hp hi hcmp hx
          have hE2 : EntriesR r (es.map fun e => cond (keyCmp k e.1 == some true) (k, v, e.2.2) e) (E.modify j fun e => { e with key := k', val := v' }).toList := by
            rw [hset, Array.toList_modify]
            exact (EntriesR.cons (x := (k, v, _)) (e := { en with key := k', val := v' }) hk ⟨hv, hv3⟩ hrest).perm (perm_modify hi) (perm_modify hj).symm
          refine ⟨_, ?_, Post.of_map hrel ht hg (clk2 := clk) hE2 (pairwise_put hp fun e he hce => (keyCmp_true (by simpa using hce)).symm)⟩
          simp only [Instr.mapUpdate, Sem.run_bind, run_underlying hu, Result.andThen_ok, run_getObj hb, run_checkKey hkd hkk hk, run_findKey hkd hfn, hj', Option.map_some, Option.getD_some, hke, Instr.keyThatStays, sameBits_key hkk hk, if_true, Sem.run_pure, run_setObj_map hb]
      · rename_i hy
        cases hes
        rcases find_sim hkk hk hE hp hy with ⟨_, hno, hfn, _⟩ | ⟨y', j, en, hxy, _⟩
        · have hE2 : EntriesR r (es ++ [(k, v, clk)]) (E.push { key := k', val := v', born := clk }).toList := by
            rw [Array.toList_push]
            refine (EntriesR.cons (x := (k, v, clk)) (e := { key := k', val := v', born := clk }) hk ⟨hv, rfl⟩ hE).perm ?_ ?_
            · exact (List.perm_append_comm (l₁ := es) (l₂ := [(k, v, clk)]))
            · exact (List.perm_append_comm (l₁ := [_]) (l₂ := E.toList))
          refine ⟨_, ?_, Post.of_map hrel ht hg (clk2 := clk + 1) hE2 ?_⟩
          · simp only [Instr.mapUpdate, Sem.run_bind, run_underlying hu, Result.andThen_ok, run_getObj hb, run_checkKey hkd hkk hk, run_findKey hkd hfn, run_setObj_map hb]
          · rw [List.pairwise_append]
            refine ⟨hp, List.pairwise_singleton _ _, fun a ha b hb => ?_⟩
            simp at hb
            subst hb
            exact keyCmp_symm (hno a ha)
        · cases hxy
      · cases hes
    · cases hs

def evMapDel (m : Option Nat) (k : AV) (h : H) : Option H :=
  match m with
  | none => some h
  | some i =>
    match h.get i with
    | some (.map es clk) => (evDelEs k es).map fun es' => h.set i (.map es' clk)
    | _ => none

theorem evMapDel_sim {P : Program} {r : Ren} {h h' : H} {w : World} (hrel : Rel r h w) {t kt e ty t2 : TypeId} {kd : TypeDesc} (hu : P.underlying t = some (.map kt e)) (hkd : P.underlying kt = some kd) {m : Option Nat} {k : AV} {m' k' : Value} (hkk : keyKind kd k = true)
    (hs : evMapDel m k h = some h') (hm : VR r (.map m) m') (hk : VR r k k') : ∃ w', (Builtin.delete_ #[t, t2] ty #[m', k']).run P w = .ok (.tuple #[]) w' ∧ Post r h w r h' w' := by
  cases hm with
  | nilMap =>
    simp only [evMapDel] at hs
    cases hs
    refine ⟨w, ?_, Post.refl hrel⟩
    simp only [Builtin.delete_, List.getElem?_toArray, List.getElem?_cons_zero, List.getElem?_cons_succ, Sem.run_bind, run_underlying hu, Result.andThen_ok, run_checkKey hkd hkk hk, Sem.run_pure]
  | map ht =>
    simp only [evMapDel] at hs
    split at hs
    · rename_i es clk hg
      obtain ⟨es2, hes, rfl⟩ := Option.map_eq_some_iff.1 hs
      obtain ⟨E, hb, hE, hp⟩ := hrel.obj _ _ _ ht hg
      unfold evDelEs at hes
      split at hes
      · rename_i x hy
        cases hes
        rcases find_sim hkk hk hE hp hy with ⟨hn, hno, hfn, _⟩ | ⟨y', j, en, hxy, hj, hke, hv1, hv2, hv3, hfn, hmem, hcmp⟩
        · have hf : (es.filter fun e => !(keyCmp k e.1 == some true)) = es := by
            rw [List.filter_eq_self]
            intro a ha
            rw [hno a ha]; rfl
          rw [hf]
          refine ⟨_, ?_, Post.of_map hrel ht hg (clk2 := clk) hE hp⟩
          simp only [Builtin.delete_, List.getElem?_toArray, List.getElem?_cons_zero, List.getElem?_cons_succ, Sem.run_bind, run_underlying hu, Result.andThen_ok, run_getObj hb, run_checkKey hkd hkk hk, run_findKey hkd hfn, run_setObj_map hb, Sem.run_pure]
        · obtain ⟨i, hi, hrest⟩ := found_sim hk hE hp hmem hcmp hj hke
          have hf : (es.filter fun e => !(keyCmp k e.1 == some true)) = es.eraseIdx i := filter_erase fun m x hx => by
            rw [Bool.not_eq_false', beq_iff_eq]; exact only_one hp hi hcmp hx
          rw [hf]
          refine ⟨_, ?_, Post.of_map hrel ht hg (clk2 := clk) (E2 := E.eraseIdxIfInBounds j) (by rw [Array.toList_eraseIdxIfInBounds]; exact hrest) (hp.sublist (List.eraseIdx_sublist _ _))⟩
          simp only [Builtin.delete_, List.getElem?_toArray, List.getElem?_cons_zero, List.getElem?_cons_succ, Sem.run_bind, run_underlying hu, Result.andThen_ok, run_getObj hb, run_checkKey hkd hkk hk, run_findKey hkd hfn, run_setObj_map hb, Sem.run_pure]
      · cases hes
    · cases hs

def evMapClear (m : Option Nat) (h : H) : Option H :=
  match m with
  | none => some h
  | some i => match h.get i with | some (.map _ clk) => some (h.set i (.map [] clk)) | _ => none

theorem evMapClear_sim {P : Program} {r : Ren} {h h' : H} {w : World} (hrel : Rel r h w) {t kt e ty : TypeId} (hu : P.underlying t = some (.map kt e)) {m : Option Nat} {m' : Value}
    (hs : evMapClear m h = some h') (hm : VR r (.map m) m') : ∃ w', (Builtin.clear_ #[t] ty #[m']).run P w = .ok (.tuple #[]) w' ∧ Post r h w r h' w' := by
  cases hm with
  | nilMap =>
    simp only [evMapClear] at hs
    cases hs
    refine ⟨w, ?_, Post.refl hrel⟩
    simp [Builtin.clear_, run_underlying hu]
  | map ht =>
    simp only [evMapClear] at hs
    split at hs
    · rename_i es clk hg
      cases hs
      obtain ⟨E, hb, hE, hp⟩ := hrel.obj _ _ _ ht hg
      refine ⟨_, ?_, Post.of_map hrel ht hg (clk2 := clk) (E2 := #[]) ⟨[], .nil, rfl, fun i x e hx => by simp at hx⟩ .nil⟩
      simp only [Builtin.clear_, List.getElem?_toArray, List.getElem?_cons_zero, Sem.run_bind, run_underlying hu, Result.andThen_ok, run_getObj hb, run_setObj_map hb, Sem.run_pure]
    · cases hs

def evMapLen (m : Option Nat) (h : H) : Option Nat :=
  match m with
  | none => some 0
  | some i => match h.get i with | some (.map es _) => some es.length | _ => none

theorem evMapLen_sim {P : Program} {r : Ren} {h : H} {w : World} (hrel : Rel r h w) {t kt e ty : TypeId} (hu : P.underlying t = some (.map kt e)) {m : Option Nat} {m' : Value} {n : Nat}
    (hs : evMapLen m h = some n) (hm : VR r (.map m) m') : (Builtin.len_ #[t] ty #[m']).run P w = .ok (goInt n) w := by
  cases hm with
  | nilMap =>
    simp only [evMapLen] at hs
    cases hs
    simp [Builtin.len_, run_underlying hu]
  | map ht =>
    simp only [evMapLen] at hs
    split at hs
    · rename_i es clk hg
      cases hs
      obtain ⟨E, hb, ⟨E', hperm, hl, _⟩, hp⟩ := hrel.obj _ _ _ ht hg
      have : E.size = es.length := by rw [hl, hperm.length_eq]; simp
      simp only [Builtin.len_, List.getElem?_toArray, List.getElem?_cons_zero, Sem.run_bind, run_underlying hu, Result.andThen_ok, run_getObj hb, Sem.run_pure, this]
    · cases hs

end Go.Ev
