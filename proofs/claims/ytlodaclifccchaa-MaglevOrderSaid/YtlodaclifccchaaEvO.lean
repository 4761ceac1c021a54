/- The abstract machine Ev, part O: plain rules for functions whose runs may end in unlike ways. -/
import Derived.Test.YtlodaclifccchaaEvW
set_option linter.all false
namespace Go.Ev

/-- what a call by continuation comes to, whichever way its run takes -/
def RetK {α : Type} (c : (α → H → Option Unit) → Option Unit) (P : α → H → Prop) : Prop := ∀ kk : α → H → Option Unit, (∀ r h', P r h' → kk r h' = some ()) → c kk = some ()

section
variable {α γ : Type}
theorem RetK.pure {P : α → H → Prop} {r : α} {h : H} (p : P r h) : RetK (fun kk => kk r h) P := fun _ k => k r h p
theorem RetK.mono {c : (α → H → Option Unit) → Option Unit} {P P' : α → H → Prop} (d : RetK c P) (hp : ∀ r h, P r h → P' r h) : RetK c P' := fun kk k => d kk fun r h p => k r h (hp r h p)
theorem RetK.bind {c : (α → H → Option Unit) → Option Unit} {P : α → H → Prop} (d : RetK c P) {f : α → H → (γ → H → Option Unit) → Option Unit} {P' : γ → H → Prop} (hf : ∀ r h, P r h → RetK (f r h) P') : RetK (fun kk => c fun r h => f r h kk) P' :=
  fun kk k => d _ fun r h p => hf r h p kk k
theorem RetK.of {c : Option (α × H)} {P : α → H → Prop} (d : Ret c P) {f : α → H → (γ → H → Option Unit) → Option Unit} {P' : γ → H → Prop} (hf : ∀ r h, P r h → RetK (f r h) P') : RetK (fun kk => c.bind fun r => f r.1 r.2 kk) P' := fun kk k => by
  obtain ⟨r, h', e, p⟩ := d
  rw [e]
  exact hf r h' p kk k
end

/-! ### a range over a map that is not written meanwhile -/

theorem nextMK_of {h : H} {i : Nat} {f : AV → AV → H → Option Unit} {g : Option Unit} (ha : Asked h i) (hn : Nexts h i none → g = some ()) (hs : ∀ k v h', Nexts h i (some (k, v, h')) → f k v h' = some ()) : nextMK h i f g = some () := by
  unfold nextMK
  refine if_pos ⟨ha, fun c hc => ?_⟩
  match c, hc with
  | none, hc => exact hn hc
  | some (k, v, h'), hc => exact hs k v h' hc

section
variable {K V : Type}

structure Iter (h : H) (i m : Nat) (ek : K → AV) (ev : V → AV) (L : List (K × V × Nat)) (clk : Nat) (done rest : List (K × V × Nat)) : Prop where
  gm : h.get m = some (.map (L.map fun x => (ek x.1, ev x.2.1, x.2.2)) clk)
  gi : h.get i = some (.miter (some m) clk (done.map (·.2.2)) clk)
  im : i ≠ m
  perm : (done ++ rest).Perm L
  nodup : (L.map (·.2.2)).Nodup
  born : ∀ x ∈ L, x.2.2 < clk

variable {h : H} {i m : Nat} {ek : K → AV} {ev : V → AV} {L : List (K × V × Nat)} {clk : Nat} {done rest : List (K × V × Nat)}

theorem Iter.move {h' : H} (it : Iter h i m ek ev L clk done rest) (h1 : h'.get m = h.get m) (h2 : h'.get i = h.get i) : Iter h' i m ek ev L clk done rest :=
  ⟨h1.trans it.gm, h2.trans it.gi, it.im, it.perm, it.nodup, it.born⟩

theorem Iter.apart (it : Iter h i m ek ev L clk done rest) : ∀ x ∈ rest, x.2.2 ∉ done.map (·.2.2) := by
  have hn : ((done ++ rest).map (·.2.2)).Nodup := (it.perm.map _).nodup_iff.2 it.nodup
  rw [List.map_append, List.nodup_append] at hn
  intro x hx hd
  exact hn.2.2 _ hd _ (List.mem_map_of_mem hx) rfl

/-- the next entry, whichever it is of those that are left -/
theorem Iter.next [DecidableEq K] [DecidableEq V] (it : Iter h i m ek ev L clk done rest) {f : AV → AV → H → Option Unit} {g : Option Unit}
    (hf : ∀ x rest' h', rest.Perm (x :: rest') → h'.next = h.next → (∀ j, j ≠ i → h'.get j = h.get j) → Iter h' i m ek ev L clk (done ++ [x]) rest' → f (ek x.1) (ev x.2.1) h' = some ()) (hg : rest = [] → g = some ()) : nextMK h i f g = some () := by
  refine nextMK_of ?_ (fun hc => ?_) fun k v h' hc => ?_
  · unfold Asked
    rw [it.gi]
    simp only [it.gm]
    rintro ⟨_, h2, h3⟩
    cases hL : L with
    | nil => rw [hL] at h2; exact h2 rfl
    | cons x l =>
      have h4 := h3 (ek x.1, ev x.2.1, x.2.2) (List.mem_map.2 ⟨x, by rw [hL]; simp, rfl⟩)
      have := it.born x (by rw [hL]; simp)
      simp only at h4
      omega
  · unfold Nexts at hc
    rw [it.gi] at hc
    simp only [it.gm] at hc
    refine hg ?_
    cases hr : rest with
    | nil => rfl
    | cons x l =>
      have hx : x ∈ rest := by rw [hr]; simp
      have hL : x ∈ L := it.perm.mem_iff.1 (List.mem_append_right _ hx)
      have := hc (ek x.1, ev x.2.1, x.2.2) (List.mem_map.2 ⟨x, hL, rfl⟩) (it.apart x hx)
      have := it.born x hL
      simp only at *
      omega
  · unfold Nexts at hc
    rw [it.gi] at hc
    simp only [it.gm] at hc
    obtain ⟨e, he, hs, rfl, rfl, rfl⟩ := hc
    obtain ⟨x, hx, rfl⟩ := List.mem_map.1 he
    simp only at hs ⊢
    have hxr : x ∈ rest := by
      rcases List.mem_append.1 (it.perm.mem_iff.2 hx) with hd | hr
      · exact absurd (List.mem_map_of_mem hd) hs
      · exact hr
    have hp : rest.Perm (x :: rest.erase x) := List.perm_cons_erase hxr
    refine hf x (rest.erase x) _ hp rfl (fun j hj => get_set_ne hj) ⟨?_, ?_, it.im, ?_, it.nodup, it.born⟩
    · exact (get_set_ne (Ne.symm it.im)).trans it.gm
    · rw [get_set_self, List.map_append]; rfl
    · refine List.Perm.trans ?_ it.perm
      rw [List.append_assoc]
      exact (List.Perm.append_left done hp).symm

/-- the entry that was come to -/
theorem Iter.entry {x : K × V × Nat} (it : Iter h i m ek ev L clk (done ++ [x]) rest) {β : Type} (f : AV → AV → Option β) : entryK h i f = f (ek x.1) (ev x.2.1) := by
  have hx : x ∈ L := it.perm.mem_iff.1 (by simp)
  have hfil : (L.map fun y => (ek y.1, ev y.2.1, y.2.2)).filter (fun e => e.2.2 == x.2.2) = [(ek x.1, ev x.2.1, x.2.2)] := by
    rw [List.filter_map]
    have : L.filter ((fun e : AV × AV × Nat => e.2.2 == x.2.2) ∘ fun y => (ek y.1, ev y.2.1, y.2.2)) = [x] := by
      have hn := it.nodup
      clear it
      induction L with
      | nil => cases hx
      | cons y l ih =>
        rw [List.map_cons, List.nodup_cons] at hn
        rw [List.filter_cons]
        simp only [Function.comp]
        rcases List.mem_cons.1 hx with rfl | hx
        · simp only [beq_self_eq_true, if_true]
          congr 1
          rw [List.filter_eq_nil_iff]
          intro z hz e
          have e : z.2.2 = x.2.2 := by simpa using e
          exact hn.1 (List.mem_map.2 ⟨z, hz, e⟩)
        · have hne : ¬ (y.2.2 == x.2.2) = true := by
            intro e
            have e : y.2.2 = x.2.2 := by simpa using e
            exact hn.1 (List.mem_map.2 ⟨x, hx, e.symm⟩)
          rw [if_neg hne]
          exact ih hx hn.2
    rw [this]; rfl
  unfold entryK evEntry
  rw [it.gi]
  simp only [it.gm, List.map_append, List.map_cons, List.map_nil, List.getLast?_append, List.getLast?_singleton, Option.some_or, if_true, hfil]

/-- a range over a map begins -/
theorem Iter.begin {o : AObj} {l : List (K × V)} (hg : h.get m = some o) (ho : MObj ek ev l o) (hm : m < h.next) :
    ∃ L clk, L.map (fun x => (x.1, x.2.1)) = l ∧ ∃ it : AObj, (∀ {β : Type} (k : Nat → H → Option β), rangeMK (some m) h k = k h.next (h.new it)) ∧ Iter (h.new it) h.next m ek ev L clk [] L := by
  obtain ⟨L, clk, rfl, hl, hn, hb⟩ := ho
  refine ⟨L, clk, hl, .miter (some m) clk [] clk, fun k => by simp only [rangeMK, evRangeM, hg], ⟨?_, get_new_self _ _, by omega, .refl _, hn, hb⟩⟩
  exact (get_new_lt hm).trans hg
end

end Go.Ev
