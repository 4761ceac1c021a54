/- The abstract machine Ev, part D: how a heap changes: a new block, a block written, a row grown. -/
import Derived.Test.YtkikfnpanlcajaaDoorEvC
set_option linter.all false
namespace Go.Ev

/-- w' is w with some cells of one block written -/
structure Wrote (w w' : World) (b : Nat) (o : Nat) (vs : List Value) : Prop where
  size : w'.heap.size = w.heap.size
  env : Env w w'
  other : ∀ b', b' ≠ b → w'.heap[b']? = w.heap[b']?
  here : ∀ C e fz, w.heap[b]? = some (.cells C e fz) → ∃ C', w'.heap[b]? = some (.cells C' e fz) ∧ C'.size = C.size ∧
    ∀ k : Nat, C'[k]? = if o ≤ k ∧ k < o + vs.length then vs[k - o]? else C[k]?

theorem heap_setCell_blk {w : World} {b o : Nat} {v : Value} {C : Array Value} {e : TypeId} {fz : Nat × Nat} (h : w.heap[b]? = some (.cells C e fz)) :
    (w.setCell ⟨b, o, none⟩ v).heap[b]? = some (.cells (C.setIfInBounds o v) e fz) := by
  simp [World.setCell, Array.getElem?_modify, h]

theorem run_store_blk {P : Program} {w : World} {b o : Nat} {v : Value} {C : Array Value} {e : TypeId} {fz : Nat × Nat} (h : w.heap[b]? = some (.cells C e fz)) (ho : o < C.size)
    (hfz : ¬ (fz.1 ≤ o ∧ o < fz.2)) (hv : v.oneCell' = true) : (store ⟨b, o, none⟩ v).run P w = .ok () (w.setCell ⟨b, o, none⟩ v) := by
  have hc : w.cell? ⟨b, o, none⟩ = some C[o] := by simp [World.cell?, h, ho]
  have hf : w.frozen? ⟨b, o, none⟩ = false := by simp [World.frozen?, h]; omega
  rw [run_store P w _ v .plain hv]
  simp [hc, hf]

theorem run_storeCells_blk {P : Program} {b o : Nat} : ∀ (vs : List Value) (i : Nat) (w : World) (C : Array Value) (e : TypeId) (fz : Nat × Nat), w.heap[b]? = some (.cells C e fz) →
    o + i + vs.length ≤ C.size → (∀ off, off < C.size → ¬ (fz.1 ≤ off ∧ off < fz.2)) → (∀ v ∈ vs, v.oneCell' = true) →
    ∃ w', (storeCells ⟨b, o, none⟩ vs i).run P w = .ok () w' ∧ Wrote w w' b (o + i) vs
  | [], i, w, C, e, fz, h, _, _, _ => ⟨w, rfl, rfl, .refl w, fun _ _ => rfl, fun C' e' fz' h' => ⟨C', h', rfl, fun k => by simp; omega⟩⟩
  | v :: vs, i, w, C, e, fz, h, hl, hfz, hv => by
    simp only [List.length_cons] at hl
    have h1 := run_store_blk (P := P) (v := v) h (o := o + i) (by omega) (hfz _ (by omega)) (hv v (by simp))
    have h2 := heap_setCell_blk (o := o + i) (v := v) h
    obtain ⟨w', hr, hw⟩ := run_storeCells_blk (P := P) (b := b) (o := o) vs (i + 1) (w.setCell ⟨b, o + i, none⟩ v) _ e fz h2 (by simp; omega) (by simpa using hfz) (fun u hu => hv u (by simp [hu]))
    refine ⟨w', ?_, ?_, Env.trans ⟨rfl, rfl, rfl, fun _ => Nat.le_refl _⟩ hw.env, ?_, ?_⟩
    · unfold storeCells
      rw [Sem.run_bind, Addr_add, h1]
      exact hr
    · rw [hw.size, World.size_setCell]
    · intro b' hb'
      rw [hw.other b' hb', heap_setCell_other _ _ _ _ (by simpa using hb')]
    · intro C0 e0 fz0 h0
      rw [h] at h0
      cases h0
      obtain ⟨C', hc', hs', hk⟩ := hw.here _ _ _ h2
      refine ⟨C', hc', by simpa using hs', fun k => ?_⟩
      rw [hk]
      simp only [List.length_cons]
      by_cases hk0 : k = o + i
      · subst hk0
        rw [if_neg (by omega), if_pos (by omega)]
        simp [show o + i < C.size by omega]
      · by_cases hk1 : o + (i + 1) ≤ k ∧ k < o + (i + 1) + vs.length
        · rw [if_pos hk1, if_pos (by omega)]
          obtain ⟨j, hj⟩ : ∃ j, k - (o + i) = j + 1 := ⟨k - (o + i) - 1, by omega⟩
          rw [hj, List.getElem?_cons_succ]
          congr 1
          omega
        · rw [if_neg hk1, if_neg (by omega), Array.getElem?_setIfInBounds_ne (by omega)]

theorem World.block_lt {w : World} {b : Nat} {o : Obj} (h : w.heap[b]? = some o) : b < w.heap.size := by
  rcases Nat.lt_or_ge b w.heap.size with h' | h'
  · exact h'
  · simp [Array.getElem?_eq_none h'] at h

/-- one object of ours is written: its block alone has changed -/
theorem Post.of_set {r : Ren} {h : H} {w w' : World} {i : Nat} {t : Tgt} {o o' : AObj} (hrel : Rel r h w) (hi : r i = some t) (hg : h.get i = some o) (hro : o.ro = false) (hro' : o'.ro = false)
    (hsz : w'.heap.size = w.heap.size) (henv : Env w w') (hother : ∀ b, b ≠ t.blk → w'.heap[b]? = w.heap[b]?) (hor : OR r w' t o') : Post r h w r (h.set i o') w' where
  env := henv
  le := r.le_refl
  dom := fun j tj h1 h2 => by rw [h1] at h2; cases h2
  rel := {
    wf := fun j oj hj => by
      simp only [H.set] at hj
      split at hj
      · rename_i e; subst e; exact hrel.wf _ _ hg
      · exact hrel.wf _ _ hj
    obj := fun j tj oj hj hgj => by
      simp only [H.set] at hgj
      split at hgj
      · rename_i e; subst e; cases hgj; rw [hi] at hj; cases hj; exact hor
      · rename_i hne
        refine (hrel.obj j tj oj hj hgj).move r.le_refl (hother _ fun e => ?_)
        rcases hrel.inj j i tj t oj o hj hi hgj hg e with h' | ⟨_, h'⟩
        · exact hne h'
        · rw [h'] at hro; cases hro
    inj := fun j k tj tk oj ok hj hk hgj hgk e => by
      simp only [H.set] at hgj hgk
      split at hgj <;> split at hgk
      · left; omega
      · rename_i h1 h2; subst h1; cases hgj
        rcases hrel.inj j k tj tk o ok hj hk hg hgk e with h' | ⟨h', _⟩
        · exact .inl h'
        · rw [h'] at hro; cases hro
      · rename_i h1 h2; subst h2; cases hgk
        rcases hrel.inj j k tj tk oj o hj hk hgj hg e with h' | ⟨_, h'⟩
        · exact .inl h'
        · rw [h'] at hro; cases hro
      · exact hrel.inj j k tj tk oj ok hj hk hgj hgk e
    bound := fun j tj hj => by rw [hsz]; exact hrel.bound j tj hj
    glob := hrel.glob }
  keep := fun b hb hk => hother b fun e => by
    have := hk i t o hi e.symm hg
    rw [this] at hro; cases hro
  size := by rw [hsz]; exact Nat.le_refl _
  next := Nat.le_refl _
  fresh := fun j tj h1 h2 => by rw [h1] at h2; cases h2
  roKeep := fun j oj _ hj => by
    simp only [H.set] at hj
    split at hj
    · rename_i e; subst e; cases hj; exact ⟨o, hg, hro.trans hro'.symm⟩
    · exact ⟨oj, hj, rfl⟩
  gap := fun j tj _ => by simp [H.set]; omega
  touch := fun j _ hne => by
    simp only [H.set] at hne
    split at hne
    · rename_i e; subst e; exact ⟨t, hi⟩
    · exact absurd rfl hne

def Ren.put (r : Ren) (i : Nat) (t : Tgt) : Ren := fun j => if j = i then some t else r j

theorem Ren.le_put {r : Ren} {i : Nat} {t : Tgt} (h : r i = none) : r.le (r.put i t) := fun j tj hj => by
  unfold Ren.put
  split
  · rename_i e; subst e; rw [h] at hj; cases hj
  · exact hj

/-- a new block -/
theorem Post.of_new {r : Ren} {h : H} {w w' : World} {o : AObj} {base row : Nat} (hrel : Rel r h w) (hn : r h.next = none)
    (hsz : w'.heap.size = w.heap.size + 1) (henv : Env w w') (hother : ∀ b, b < w.heap.size → w'.heap[b]? = w.heap[b]?)
    (hor : ∀ r' : Ren, r.le r' → OR r' w' ⟨w.heap.size, base, row⟩ o) : Post r h w (r.put h.next ⟨w.heap.size, base, row⟩) (h.new o) w' where
  env := henv
  le := Ren.le_put hn
  dom := fun j tj h1 h2 => by
    unfold Ren.put at h1
    split at h1
    · rename_i e; subst e; simp [H.new]
    · rw [h1] at h2; cases h2
  rel := {
    wf := fun j oj hj => by
      simp only [H.new] at hj ⊢
      split at hj
      · omega
      · have := hrel.wf _ _ hj; omega
    obj := fun j tj oj hj hgj => by
      simp only [H.new] at hgj
      unfold Ren.put at hj
      split at hgj
      · rename_i e; subst e; cases hgj; simp at hj; subst hj; exact hor _ (Ren.le_put hn)
      · rename_i hne
        rw [if_neg hne] at hj
        exact (hrel.obj j tj oj hj hgj).move (Ren.le_put hn) (hother _ (hrel.bound j tj hj))
    inj := fun j k tj tk oj ok hj hk hgj hgk e => by
      simp only [H.new] at hgj hgk
      unfold Ren.put at hj hk
      split at hgj <;> split at hgk
      · left; omega
      · rename_i h1 h2; rw [if_pos h1] at hj; rw [if_neg h2] at hk; cases hj
        have := hrel.bound k tk hk; simp at e; omega
      · rename_i h1 h2; rw [if_neg h1] at hj; rw [if_pos h2] at hk; cases hk
        have := hrel.bound j tj hj; simp at e; omega
      · rename_i h1 h2; rw [if_neg h1] at hj; rw [if_neg h2] at hk
        exact hrel.inj j k tj tk oj ok hj hk hgj hgk e
    bound := fun j tj hj => by
      unfold Ren.put at hj
      split at hj
      · cases hj; simp; omega
      · have := hrel.bound j tj hj; omega
    glob := hrel.glob.mono (Ren.le_put hn) }
  keep := fun b hb _ => hother b hb
  size := by omega
  next := by simp [H.new]
  fresh := fun j tj h1 h2 => by
    unfold Ren.put at h2
    split at h2
    · cases h2; exact .inl (Nat.le_refl _)
    · rw [h1] at h2; cases h2
  roKeep := fun j oj hj hg => by
    simp only [H.new] at hg
    split at hg
    · omega
    · exact ⟨oj, hg, rfl⟩
  gap := fun j tj hj => by
    simp only [H.new]
    by_cases e : j = h.next
    · subst e; rw [hn] at hj; cases hj
    · omega
  touch := fun j hj hne => by
    simp only [H.new] at hne
    rw [if_neg (by omega)] at hne
    exact absurd rfl hne

theorem ite3 {a b : Prop} [Decidable a] [Decidable b] {α : Type} {x z : α} {y : Option α} (h : (if a then some x else if b then none else y) = some z) : (a ∧ x = z) ∨ (¬ a ∧ ¬ b ∧ y = some z) := by
  by_cases ha : a
  · rw [if_pos ha] at h; cases h; exact .inl ⟨ha, rfl⟩
  · rw [if_neg ha] at h
    by_cases hb : b
    · rw [if_pos hb] at h; cases h
    · rw [if_neg hb] at h; exact .inr ⟨ha, hb, h⟩

/-- a block of ours goes on under a new number (a row that has grown in its place) -/
theorem Post.of_again {r : Ren} {h : H} {w w' : World} {i : Nat} {t t' : Tgt} {o o' : AObj} (hrel : Rel r h w) (hi : r i = some t) (hg : h.get i = some o) (hro : o.ro = false) (hro' : o'.ro = false)
    (hn : r h.next = none) (ht : t'.blk = t.blk)
    (hsz : w'.heap.size = w.heap.size) (henv : Env w w') (hother : ∀ b, b ≠ t.blk → w'.heap[b]? = w.heap[b]?) (hor : ∀ r' : Ren, r.le r' → OR r' w' t' o') :
    Post r h w (r.put h.next t') ((h.kill i).new o') w' where
  env := henv
  le := Ren.le_put hn
  dom := fun j tj h1 h2 => by
    unfold Ren.put at h1
    split at h1
    · rename_i e; subst e; simp [H.new, H.kill]
    · rw [h1] at h2; cases h2
  rel := {
    wf := fun j oj hj => by
      show j < h.next + 1
      rcases ite3 hj with ⟨e, _⟩ | ⟨_, _, hj⟩
      · change j = h.next at e; omega
      · have := hrel.wf _ _ hj; omega
    obj := fun j tj oj hj hgj => by
      unfold Ren.put at hj
      rcases ite3 hgj with ⟨e, e2⟩ | ⟨hne, hji, hgj⟩
      · change j = h.next at e
        subst e; subst e2; simp at hj; subst hj; exact hor _ (Ren.le_put hn)
      · change ¬ j = h.next at hne
        rw [if_neg hne] at hj
        refine (hrel.obj j tj oj hj hgj).move (Ren.le_put hn) (hother _ fun e => ?_)
        rcases hrel.inj j i tj t oj o hj hi hgj hg e with h' | ⟨_, h'⟩
        · exact hji h'
        · rw [h'] at hro; cases hro
    inj := fun j k tj tk oj ok hj hk hgj hgk e => by
      unfold Ren.put at hj hk
      rcases ite3 hgj with ⟨h1, _⟩ | ⟨h1, hji, hgj⟩ <;> rcases ite3 hgk with ⟨h2, _⟩ | ⟨h2, hki, hgk⟩
      all_goals first | change j = h.next at h1 | change ¬ j = h.next at h1
      all_goals first | change k = h.next at h2 | change ¬ k = h.next at h2
      · left; omega
      · rw [if_pos h1] at hj; rw [if_neg h2] at hk; cases hj
        rcases hrel.inj k i tk t ok o hk hi hgk hg (e.symm.trans ht) with h' | ⟨_, h'⟩
        · exact absurd h' hki
        · rw [h'] at hro; cases hro
      · rw [if_neg h1] at hj; rw [if_pos h2] at hk; cases hk
        rcases hrel.inj j i tj t oj o hj hi hgj hg (e.trans ht) with h' | ⟨_, h'⟩
        · exact absurd h' hji
        · rw [h'] at hro; cases hro
      · rw [if_neg h1] at hj; rw [if_neg h2] at hk
        exact hrel.inj j k tj tk oj ok hj hk hgj hgk e
    bound := fun j tj hj => by
      unfold Ren.put at hj
      rw [hsz]
      split at hj
      · cases hj; rw [ht]; exact hrel.bound i t hi
      · exact hrel.bound j tj hj
    glob := hrel.glob.mono (Ren.le_put hn) }
  keep := fun b hb hk => hother b fun e => by
    have := hk i t o hi e.symm hg
    rw [this] at hro; cases hro
  size := by rw [hsz]; exact Nat.le_refl _
  next := by simp [H.new, H.kill]
  fresh := fun j tj h1 h2 => by
    unfold Ren.put at h2
    split at h2
    · cases h2; exact .inr ⟨i, t, o, hi, ht.symm, hg, hro⟩
    · rw [h1] at h2; cases h2
  roKeep := fun j oj hj hgj => by
    rcases ite3 hgj with ⟨e, _⟩ | ⟨_, _, hgj⟩
    · change j = h.next at e; omega
    · exact ⟨oj, hgj, rfl⟩
  gap := fun j tj hj => by
    simp only [H.new, H.kill]
    by_cases e : j = h.next
    · subst e; rw [hn] at hj; cases hj
    · omega
  touch := fun j hj hne => by
    by_cases e : j = i
    · subst e; exact ⟨t, hi⟩
    · refine absurd ?_ hne
      show (if j = h.next then some o' else if j = i then none else h.get j) = h.get j
      rw [if_neg (by omega), if_neg e]

/-- an object that nobody looks at any more is forgotten -/
theorem Post.of_kill {r : Ren} {h : H} {w : World} {i : Nat} {t : Tgt} (hi : r i = some t) (hrel : Rel r h w) : Post r h w r (h.kill i) w where
  env := .refl w
  le := r.le_refl
  dom := fun j tj h1 h2 => by rw [h1] at h2; cases h2
  rel := {
    wf := fun j oj hj => by
      simp only [H.kill] at hj ⊢
      split at hj
      · cases hj
      · exact hrel.wf _ _ hj
    obj := fun j tj oj hj hgj => by
      simp only [H.kill] at hgj
      split at hgj
      · cases hgj
      · exact hrel.obj j tj oj hj hgj
    inj := fun j k tj tk oj ok hj hk hgj hgk e => by
      simp only [H.kill] at hgj hgk
      split at hgj
      · cases hgj
      · split at hgk
        · cases hgk
        · exact hrel.inj j k tj tk oj ok hj hk hgj hgk e
    bound := hrel.bound
    glob := hrel.glob }
  keep := fun _ _ _ => rfl
  size := Nat.le_refl _
  next := Nat.le_refl _
  fresh := fun j tj h1 h2 => by rw [h1] at h2; cases h2
  roKeep := fun j oj _ hj => by
    simp only [H.kill] at hj
    split at hj
    · cases hj
    · exact ⟨oj, hj, rfl⟩
  gap := fun j tj _ => by simp [H.kill]; omega
  touch := fun j hj hne => by
    simp only [H.kill] at hne
    split at hne
    · rename_i e; subst e; exact ⟨t, hi⟩
    · exact absurd rfl hne

end Go.Ev
