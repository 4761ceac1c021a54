/- Chapter 10 in plain words: the table of 128 places: open addressing with marks. -/
import Derived.Test.YtgaflglknjjalaaFwA
set_option linter.all false
namespace Go.Ev.Try

/-- a place: 0 free, 1 used, 2 gone; and its entry -/
abbrev Pl := Int × En
def encP (p : Pl) : List AV := .int .i64 p.1 :: encE p.2
theorem encP_len (p : Pl) : (encP p).length = 9 := rfl

def fnd (P : List Pl) (f : Fl) : Nat → Nat → Int → Int × Bool
  | 0, _, spot => (spot, false)
  | d + 1, at', spot =>
    match P[at']? with
    | none => (spot, false)
    | some p =>
      if p.1 = 1 ∧ p.2.f = f then ((at' : Int), true)
      else if p.1 = 0 then (if p.1 ≠ 1 ∧ spot < 0 then (at' : Int) else spot, false)
      else fnd P f d ((at' + 1) % 128) (if p.1 ≠ 1 ∧ spot < 0 then (at' : Int) else spot)

def used (P : List Pl) : List En := (P.filter fun p => decide (p.1 = 1)).map (·.2)
def marks (P : List Pl) : Nat := P.countP fun p => decide (p.1 = 2)

theorem mem_used {P : List Pl} {x : En} : x ∈ used P ↔ ∃ i : Nat, P[i]? = some (1, x) := by
  unfold used
  rw [List.mem_map]
  constructor
  · rintro ⟨⟨a, y⟩, hp, rfl⟩
    simp only [List.mem_filter, decide_eq_true_eq] at hp
    obtain ⟨h1, rfl⟩ := hp
    obtain ⟨i, hi⟩ := List.getElem?_of_mem h1
    exact ⟨i, hi⟩
  · rintro ⟨i, hi⟩
    exact ⟨(1, x), by simp [List.mem_of_getElem? hi], rfl⟩

/-- a place that the search from a on comes to ahead of any free one -/
def path (s : Nat) (P : List Pl) (i : Nat) : Prop := ∃ d, d < 128 ∧ i = (s + d) % 128 ∧ ∀ d', d' < d → ∀ q : Pl, P[(s + d') % 128]? = some q → q.1 ≠ 0

structure Inv (s : Fl → Nat) (P : List Pl) : Prop where
  len : P.length = 128
  kinds : ∀ p ∈ P, p.1 = 0 ∨ p.1 = 1 ∨ p.1 = 2
  uniq : ∀ (i j : Nat) (x y : En), P[i]? = some (1, x) → P[j]? = some (1, y) → x.f = y.f → i = j
  reach : ∀ (i : Nat) (x : En), P[i]? = some (1, x) → path (s x.f) P i

/-- what the search comes to -/
def Found (s : Nat) (P : List Pl) (f : Fl) (r : Int × Bool) : Prop :=
  (∃ (i : Nat) (e : En), r = ((i : Int), true) ∧ P[i]? = some (1, e) ∧ e.f = f) ∨
  (r.2 = false ∧ (∀ e ∈ used P, e.f ≠ f) ∧ ((r.1 = -1 ∧ ∀ p ∈ P, p.1 = 1) ∨ ∃ (i : Nat) (p : Pl), r.1 = (i : Int) ∧ P[i]? = some p ∧ p.1 ≠ 1 ∧ path s P i))

theorem fnd_found {s : Fl → Nat} {P : List Pl} (hv : Inv s P) (f : Fl) : ∀ (d k : Nat) (spot : Int), d + k = 128 →
    (∀ k', k' < k → ∀ q : Pl, P[(s f + k') % 128]? = some q → q.1 ≠ 0 ∧ ¬ (q.1 = 1 ∧ q.2.f = f)) →
    ((spot = -1 ∧ ∀ k', k' < k → ∀ q : Pl, P[(s f + k') % 128]? = some q → q.1 = 1) ∨ ∃ j p, j < k ∧ spot = (((s f + j) % 128 : Nat) : Int) ∧ P[(s f + j) % 128]? = some p ∧ p.1 ≠ 1) →
    Found (s f) P f (fnd P f d ((s f + k) % 128) spot)
  | 0, k, spot, hd, hb, hs => by
    have hk : k = 128 := by omega
    subst hk
    have hnone : ∀ e ∈ used P, e.f ≠ f := by
      intro e he e2
      obtain ⟨i, hi⟩ := mem_used.1 he
      obtain ⟨d, h1, h2, _⟩ := hv.reach i e hi
      rw [e2] at h2
      rw [h2] at hi
      exact (hb d h1 _ hi).2 ⟨rfl, e2⟩
    refine .inr ⟨rfl, hnone, ?_⟩
    rcases hs with ⟨h1, h2⟩ | ⟨j, p, h1, h2, h3, h4⟩
    · refine .inl ⟨h1, fun p hp => ?_⟩
      obtain ⟨i, hi⟩ := List.getElem?_of_mem hp
      have hl : i < 128 := by have := (List.getElem?_eq_some_iff.1 hi).1; rw [hv.len] at this; exact this
      have hex : ∃ k', k' < 128 ∧ (s f + k') % 128 = i := ⟨(i + 128 - s f % 128) % 128, by omega, by omega⟩
      obtain ⟨k', h5, h6⟩ := hex
      exact h2 k' h5 p (by rw [h6]; exact hi)
    · exact .inr ⟨_, p, h2, h3, h4, j, h1, rfl, fun d' hd' q hq => (hb d' (by omega) q hq).1⟩
  | d + 1, k, spot, hd, hb, hs => by
    have hlt : (s f + k) % 128 < P.length := by rw [hv.len]; exact Nat.mod_lt _ (by decide)
    have hp : P[(s f + k) % 128]? = some P[(s f + k) % 128] := List.getElem?_eq_getElem hlt
    generalize P[(s f + k) % 128] = p at hp
    unfold fnd
    rw [hp]
    simp only
    by_cases h1 : p.1 = 1 ∧ p.2.f = f
    · rw [if_pos h1]
      refine .inl ⟨_, p.2, rfl, ?_, h1.2⟩
      rw [hp, ← h1.1]
    · rw [if_neg h1]
      have hspot : ∀ k2, k2 = k + 1 → (((if p.1 ≠ 1 ∧ spot < 0 then (((s f + k) % 128 : Nat) : Int) else spot) = -1 ∧ ∀ k', k' < k2 → ∀ q : Pl, P[(s f + k') % 128]? = some q → q.1 = 1) ∨ ∃ j p', j < k2 ∧ (if p.1 ≠ 1 ∧ spot < 0 then (((s f + k) % 128 : Nat) : Int) else spot) = (((s f + j) % 128 : Nat) : Int) ∧ P[(s f + j) % 128]? = some p' ∧ p'.1 ≠ 1) := by
        rintro _ rfl
        rcases hs with ⟨h2, h3⟩ | ⟨j, p', h2, h3, h4, h5⟩
        · by_cases h6 : p.1 = 1
          · left
            rw [if_neg (by simp [h6])]
            refine ⟨h2, fun k' hk' q hq => ?_⟩
            by_cases e : k' = k
            · subst e; rw [hp] at hq; cases hq; exact h6
            · exact h3 k' (by omega) q hq
          · right
            rw [if_pos ⟨h6, by omega⟩]
            exact ⟨k, p, by omega, rfl, hp, h6⟩
        · right
          rw [if_neg (by omega)]
          exact ⟨j, p', by omega, h3, h4, h5⟩
      by_cases h2 : p.1 = 0
      · rw [if_pos h2]
        have hnone : ∀ e ∈ used P, e.f ≠ f := by
          intro e he e2
          obtain ⟨i, hi⟩ := mem_used.1 he
          obtain ⟨d0, h3, h4, h5⟩ := hv.reach i e hi
          rw [e2] at h4 h5
          rcases Nat.lt_trichotomy d0 k with h | h | h
          · rw [h4] at hi
            exact (hb d0 h _ hi).2 ⟨rfl, e2⟩
          · subst h
            rw [h4, hp] at hi
            cases hi
            simp at h2
          · exact h5 k h p hp h2
        refine .inr ⟨rfl, hnone, ?_⟩
        rcases hspot _ rfl with ⟨h3, h4⟩ | ⟨j, p', h3, h4, h5, h6⟩
        · have := h4 k (by omega) p hp; omega
        · refine .inr ⟨_, p', h4, h5, h6, j, by omega, rfl, fun d' hd' q hq => ?_⟩
          exact (hb d' (by omega) q hq).1
      · rw [if_neg h2]
        have e : ((s f + k) % 128 + 1) % 128 = (s f + (k + 1)) % 128 := by omega
        rw [e]
        refine fnd_found hv f d (k + 1) _ (by omega) (fun k' hk' q hq => ?_) (hspot _ rfl)
        by_cases e : k' = k
        · subst e; rw [hp] at hq; cases hq; exact ⟨h2, h1⟩
        · exact hb k' (by omega) q hq

theorem found {s : Fl → Nat} {P : List Pl} (hv : Inv s P) (f : Fl) (h : s f < 128) : Found (s f) P f (fnd P f 128 (s f) (-1)) := by
  have := fnd_found hv f 128 0 (-1) rfl (fun k' h => absurd h (by omega)) (.inl ⟨rfl, fun k' h => absurd h (by omega)⟩)
  rwa [Nat.add_zero, Nat.mod_eq_of_lt h] at this

/-! ### an entry laid, and one taken out -/

theorem get_set_pl {P : List Pl} {i j : Nat} {p q : Pl} (hi : i < P.length) : (P.set i p)[j]? = some q ↔ (j = i ∧ q = p) ∨ (j ≠ i ∧ P[j]? = some q) := by
  rw [List.getElem?_set]
  by_cases e : i = j
  · subst e; simp [hi, eq_comm]
  · rw [if_neg e]; constructor
    · exact fun h => .inr ⟨fun e2 => e e2.symm, h⟩
    · rintro (⟨e2, _⟩ | ⟨_, h⟩)
      · exact absurd e2.symm e
      · exact h
theorem path_set {s : Nat} {P : List Pl} {i j : Nat} {p : Pl} (hi : i < P.length) (hp : p.1 ≠ 0) (h : path s P j) : path s (P.set i p) j := by
  obtain ⟨d, h1, h2, h3⟩ := h
  refine ⟨d, h1, h2, fun d' hd' q hq => ?_⟩
  rcases (get_set_pl hi).1 hq with ⟨_, rfl⟩ | ⟨_, hq⟩
  · exact hp
  · exact h3 d' hd' q hq
theorem Inv.lay {s : Fl → Nat} {P : List Pl} (hv : Inv s P) {i : Nat} (hi : i < P.length) {e : En} (hpath : path (s e.f) P i) (hu : ∀ (j : Nat) (x : En), j ≠ i → P[j]? = some (1, x) → x.f ≠ e.f) : Inv s (P.set i (1, e)) where
  len := by rw [List.length_set]; exact hv.len
  kinds p hp := by
    rcases List.mem_or_eq_of_mem_set hp with h | h
    · exact hv.kinds p h
    · subst h; exact .inr (.inl rfl)
  uniq a b x y hx hy e2 := by
    rcases (get_set_pl hi).1 hx with ⟨h1, h2⟩ | ⟨h1, h2⟩ <;> rcases (get_set_pl hi).1 hy with ⟨h3, h4⟩ | ⟨h3, h4⟩
    · rw [h1, h3]
    · cases h2; exact absurd e2.symm (hu b y h3 h4)
    · cases h4; exact absurd e2 (hu a x h1 h2)
    · exact hv.uniq a b x y h2 h4 e2
  reach a x hx := by
    rcases (get_set_pl hi).1 hx with ⟨h1, h2⟩ | ⟨h1, h2⟩
    · cases h2; subst h1; exact path_set hi (by simp) hpath
    · exact path_set hi (by simp) (hv.reach a x h2)
theorem Inv.remove {s : Fl → Nat} {P : List Pl} (hv : Inv s P) {i : Nat} (hi : i < P.length) (z : En) : Inv s (P.set i (2, z)) where
  len := by rw [List.length_set]; exact hv.len
  kinds p hp := by
    rcases List.mem_or_eq_of_mem_set hp with h | h
    · exact hv.kinds p h
    · subst h; exact .inr (.inr rfl)
  uniq a b x y hx hy e2 := by
    rcases (get_set_pl hi).1 hx with ⟨h1, h2⟩ | ⟨h1, h2⟩ <;> rcases (get_set_pl hi).1 hy with ⟨h3, h4⟩ | ⟨h3, h4⟩
    · rw [h1, h3]
    · simp at h2
    · simp at h4
    · exact hv.uniq a b x y h2 h4 e2
  reach a x hx := by
    rcases (get_set_pl hi).1 hx with ⟨h1, h2⟩ | ⟨h1, h2⟩
    · simp at h2
    · exact path_set hi (by simp) (hv.reach a x h2)
theorem Inv.empty (s : Fl → Nat) : Inv s (List.replicate 128 ((0, z0) : Pl)) where
  len := List.length_replicate
  kinds p hp := by rw [List.eq_of_mem_replicate hp]; exact .inl rfl
  uniq a b x y hx := by
    have := List.eq_of_mem_replicate (List.mem_of_getElem? hx)
    simp at this
  reach a x hx := by
    have := List.eq_of_mem_replicate (List.mem_of_getElem? hx)
    simp at this

theorem used_lay {P : List Pl} {i : Nat} (hi : i < P.length) {e x : En} : x ∈ used (P.set i (1, e)) ↔ x = e ∨ ∃ j : Nat, j ≠ i ∧ P[j]? = some (1, x) := by
  rw [mem_used]
  constructor
  · rintro ⟨j, hj⟩
    rcases (get_set_pl hi).1 hj with ⟨h1, h2⟩ | ⟨h1, h2⟩
    · cases h2; exact .inl rfl
    · exact .inr ⟨j, h1, h2⟩
  · rintro (rfl | ⟨j, h1, h2⟩)
    · exact ⟨i, (get_set_pl hi).2 (.inl ⟨rfl, rfl⟩)⟩
    · exact ⟨j, (get_set_pl hi).2 (.inr ⟨h1, h2⟩)⟩
theorem used_remove {P : List Pl} {i : Nat} (hi : i < P.length) {z x : En} : x ∈ used (P.set i (2, z)) ↔ ∃ j : Nat, j ≠ i ∧ P[j]? = some (1, x) := by
  rw [mem_used]
  constructor
  · rintro ⟨j, hj⟩
    rcases (get_set_pl hi).1 hj with ⟨h1, h2⟩ | ⟨h1, h2⟩
    · simp at h2
    · exact ⟨j, h1, h2⟩
  · rintro ⟨j, h1, h2⟩
    exact ⟨j, (get_set_pl hi).2 (.inr ⟨h1, h2⟩)⟩

theorem marks_set {P : List Pl} {i : Nat} {p q : Pl} (hp : P[i]? = some p) : marks (P.set i q) + (if p.1 = 2 then 1 else 0) = marks P + (if q.1 = 2 then 1 else 0) := by
  obtain ⟨hi, rfl⟩ := List.getElem?_eq_some_iff.1 hp
  unfold marks
  rw [List.countP_set (h := hi)]
  have : P[i].1 = 2 → 0 < P.countP fun p => decide (p.1 = 2) := fun h => List.countP_pos_iff.2 ⟨P[i], List.getElem_mem hi, decide_eq_true h⟩
  generalize P.countP (fun p => decide (p.1 = 2)) = k at *
  by_cases h1 : P[i].1 = 2
  · have := this h1
    by_cases h2 : q.1 = 2 <;> simp only [h1, h2, decide_true, decide_false, if_true, if_false, Bool.false_eq_true] <;> omega
  · by_cases h2 : q.1 = 2 <;> simp only [h1, h2, decide_true, decide_false, if_true, if_false, Bool.false_eq_true] <;> omega
theorem marks_empty : marks (List.replicate 128 ((0, z0) : Pl)) = 0 := by
  unfold marks
  rw [List.countP_eq_zero]
  intro p hp
  rw [List.eq_of_mem_replicate hp]; decide

/-! ### the table stands for a list -/

structure Rep (s : Fl → Nat) (P : List Pl) (l : List En) : Prop where
  inv : Inv s P
  srt : Srt l
  mem : ∀ x, x ∈ l ↔ x ∈ used P

theorem Inv.nodup {s : Fl → Nat} {P : List Pl} (hv : Inv s P) : (used P).Nodup := by
  unfold used
  have : (P.filter fun p => decide (p.1 = 1)).Nodup := by
    rw [List.Nodup, List.pairwise_filter, List.pairwise_iff_getElem]
    intro i j hi hj hij h1 h2 e
    have e1 : P[i]? = some (1, P[i].2) := by rw [List.getElem?_eq_getElem hi, ← of_decide_eq_true h1]
    have e2 : P[j]? = some (1, P[j].2) := by rw [List.getElem?_eq_getElem hj, ← of_decide_eq_true h2]
    have := hv.uniq i j _ _ e1 e2 (by rw [e])
    omega
  refine (List.pairwise_map.2 ?_ : List.Pairwise (· ≠ ·) _)
  refine List.Pairwise.imp_of_mem (fun {a b} ha hb hab e => hab ?_) this
  have h1 := of_decide_eq_true (List.mem_filter.1 ha).2
  have h2 := of_decide_eq_true (List.mem_filter.1 hb).2
  exact Prod.ext (h1.trans h2.symm) e
theorem Rep.perm {s : Fl → Nat} {P : List Pl} {l : List En} (r : Rep s P l) : l.Perm (used P) := (List.perm_ext_iff_of_nodup r.srt.nodup r.inv.nodup).2 r.mem
theorem Rep.length {s : Fl → Nat} {P : List Pl} {l : List En} (r : Rep s P l) : (used P).length = l.length := r.perm.length_eq.symm
theorem Rep.notall {s : Fl → Nat} {P : List Pl} {l : List En} (r : Rep s P l) (hl : l.length < 128) : ¬ ∀ p ∈ P, p.1 = 1 := by
  intro h
  have : used P = P.map (·.2) := by
    unfold used
    rw [List.filter_eq_self.2 fun p hp => decide_eq_true (h p hp)]
  have h2 := r.length
  rw [this, List.length_map, r.inv.len] at h2
  omega

/-- the search, in the list's words -/
theorem Rep.find {s : Fl → Nat} {P : List Pl} {l : List En} (r : Rep s P l) (f : Fl) (hs : s f < 128) (hl : l.length < 128) :
    (∃ (i : Nat) (e : En), fnd P f 128 (s f) (-1) = ((i : Int), true) ∧ i < 128 ∧ P[i]? = some (1, e) ∧ e.f = f ∧ getE l f = some e) ∨
    (∃ (i : Nat) (p : Pl), fnd P f 128 (s f) (-1) = ((i : Int), false) ∧ i < 128 ∧ getE l f = none ∧ P[i]? = some p ∧ p.1 ≠ 1 ∧ path (s f) P i) := by
  have hlt : ∀ {i : Nat} {p : Pl}, P[i]? = some p → i < 128 := fun h => by have := (List.getElem?_eq_some_iff.1 h).1; rw [r.inv.len] at this; exact this
  rcases found r.inv f hs with ⟨i, e, h1, h2, h3⟩ | ⟨h1, h2, h3⟩
  · refine .inl ⟨i, e, h1, hlt h2, h2, h3, ?_⟩
    rw [← h3]
    exact r.srt.getE ((r.mem e).2 (mem_used.2 ⟨i, h2⟩))
  · rcases h3 with ⟨_, h4⟩ | ⟨i, p, h4, h5, h6, h7⟩
    · exact absurd h4 (r.notall hl)
    · exact .inr ⟨i, p, Prod.ext h4 h1, hlt h5, getE_none.2 fun e he => h2 e ((r.mem e).1 he), h5, h6, h7⟩

theorem Rep.layNew {s : Fl → Nat} {P : List Pl} {l : List En} (r : Rep s P l) {e : En} {i : Nat} {p : Pl} (hg : getE l e.f = none) (hp : P[i]? = some p) (h1 : p.1 ≠ 1) (hpath : path (s e.f) P i) : Rep s (P.set i (1, e)) (withE l e) := by
  have hi := (List.getElem?_eq_some_iff.1 hp).1
  have hn := getE_none.1 hg
  have hu : ∀ (j : Nat) (x : En), j ≠ i → P[j]? = some (1, x) → x.f ≠ e.f := fun j x _ hx => hn x ((r.mem x).2 (mem_used.2 ⟨j, hx⟩))
  refine ⟨r.inv.lay hi hpath hu, r.srt.withE e, fun x => ?_⟩
  rw [withE_mem, used_lay hi]
  refine or_congr Iff.rfl ⟨fun ⟨hx, _⟩ => ?_, fun ⟨j, hj, hx⟩ => ⟨(r.mem x).2 (mem_used.2 ⟨j, hx⟩), hu j x hj hx⟩⟩
  obtain ⟨j, hj⟩ := mem_used.1 ((r.mem x).1 hx)
  exact ⟨j, fun e => h1 (by subst e; rw [hp] at hj; cases hj; rfl), hj⟩
theorem Rep.others {s : Fl → Nat} {P : List Pl} {l : List En} (r : Rep s P l) {e0 : En} {i : Nat} (hp : P[i]? = some (1, e0)) (x : En) : (∃ j : Nat, j ≠ i ∧ P[j]? = some (1, x)) ↔ x ∈ l ∧ x.f ≠ e0.f := by
  constructor
  · rintro ⟨j, hj, hx⟩
    exact ⟨(r.mem x).2 (mem_used.2 ⟨j, hx⟩), fun e => hj (r.inv.uniq j i x e0 hx hp e)⟩
  · rintro ⟨hx, hne⟩
    obtain ⟨j, hj⟩ := mem_used.1 ((r.mem x).1 hx)
    exact ⟨j, fun e => by subst e; rw [hp] at hj; cases hj; exact hne rfl, hj⟩
theorem Rep.layOld {s : Fl → Nat} {P : List Pl} {l : List En} (r : Rep s P l) {e e0 : En} {i : Nat} (hp : P[i]? = some (1, e0)) (hf : e0.f = e.f) : Rep s (P.set i (1, e)) (withE l e) := by
  have hi := (List.getElem?_eq_some_iff.1 hp).1
  refine ⟨r.inv.lay hi (by rw [← hf]; exact r.inv.reach i e0 hp) fun j x hj hx e2 => hj (r.inv.uniq j i x e0 hx hp (e2.trans hf.symm)), r.srt.withE e, fun x => ?_⟩
  rw [withE_mem, used_lay hi, r.others hp, hf]
theorem Rep.remove {s : Fl → Nat} {P : List Pl} {l : List En} (r : Rep s P l) {e0 : En} {i : Nat} (hp : P[i]? = some (1, e0)) (z : En) : Rep s (P.set i (2, z)) (without l e0.f) := by
  have hi := (List.getElem?_eq_some_iff.1 hp).1
  refine ⟨r.inv.remove hi z, r.srt.without e0.f, fun x => ?_⟩
  rw [mem_without, used_remove hi, r.others hp]
theorem Rep.empty (s : Fl → Nat) : Rep s (List.replicate 128 ((0, z0) : Pl)) [] where
  inv := Inv.empty s
  srt := .nil
  mem x := by
    rw [mem_used]
    constructor
    · intro h; cases h
    · rintro ⟨i, hi⟩
      have := List.eq_of_mem_replicate (List.mem_of_getElem? hi)
      simp at this

end Go.Ev.Try
