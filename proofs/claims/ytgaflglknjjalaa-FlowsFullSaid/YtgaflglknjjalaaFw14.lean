/- Chapter 10: the document's Expire. -/
import Derived.Test.YtgaflglknjjalaaFw13
set_option linter.all false
namespace Go.Ev.Try
set_option maxRecDepth 10000
open Go.Proofs

def insN (e : En) : List En → List En
  | [] => [e]
  | x :: l => if x.en > e.en then e :: x :: l else x :: insN e l
def goneR (now : Int) (l : List En) : List En := l.foldl (fun out e => if e.en ≤ now then insN e out else out) []
theorem goneR_snoc (now : Int) (l : List En) (e : En) : goneR now (l ++ [e]) = if e.en ≤ now then insN e (goneR now l) else goneR now l := by
  unfold goneR; rw [List.foldl_append]; rfl
theorem insN_perm (e : En) : ∀ l, (insN e l).Perm (e :: l)
  | [] => .refl _
  | x :: l => by
    unfold insN
    split
    · exact .refl _
    · exact ((insN_perm e l).cons x).trans (List.Perm.swap _ _ _)
theorem cmpN_neg {x y : En} : cmpN x y < 0 ↔ x.en < y.en ∨ (x.en = y.en ∧ aheadF x.f y.f = true) := by
  unfold cmpN orI
  rw [aheadF_iff]
  by_cases h : x.en = y.en
  · rw [cmpI_zero.2 h, if_neg (by simp)]
    constructor
    · exact fun k => .inr ⟨h, k⟩
    · rintro (k | ⟨_, k⟩)
      · omega
      · exact k
  · rw [if_pos fun e => h (cmpI_zero.1 e), cmpI_neg]
    constructor
    · exact .inl
    · rintro (k | ⟨k, _⟩)
      · exact k
      · exact absurd k h
theorem SrtN.ins {e : En} : ∀ {l : List En}, SrtN l → (∀ x ∈ l, aheadF x.f e.f = true) → SrtN (insN e l)
  | [], _, _ => by simp [insN, SrtN]
  | x :: l, h, ha => by
    have h' := List.pairwise_cons.1 h
    unfold insN
    split
    · rename_i hgt
      refine List.pairwise_cons.2 ⟨fun y hy => ?_, h⟩
      have hx : cmpN e x < 0 := cmpN_neg.2 (.inl hgt)
      rcases List.mem_cons.1 hy with rfl | hy
      · exact hx
      · exact cmpN_cmp.trans (e.en, e.f) (x.en, x.f) (y.en, y.f) hx (h'.1 y hy)
    · rename_i hgt
      refine List.pairwise_cons.2 ⟨fun y hy => ?_, SrtN.ins h'.2 fun z hz => ha z (by simp [hz])⟩
      rcases List.mem_cons.1 ((insN_perm e l).mem_iff.1 hy) with rfl | hy
      · refine cmpN_neg.2 ?_
        have := ha x (by simp)
        rcases Int.lt_or_eq_of_le (show x.en ≤ y.en by omega) with h | h
        · exact .inl h
        · exact .inr ⟨h, this⟩
      · exact h'.1 y hy
theorem goneR_gone {now : Int} {l : List En} (hs : Srt l) : Gone now l (goneR now l) := by
  have key : ∀ i, i ≤ l.length → Gone now (l.take i) (goneR now (l.take i)) := by
    intro i
    induction i with
    | zero => exact fun _ => ⟨.refl _, .nil⟩
    | succ i ih =>
      intro hi
      have ih := ih (by omega)
      have hx : l[i]? = some (l[i]'(by omega)) := List.getElem?_eq_getElem _
      generalize l[i]'(by omega) = e at hx
      have ht : l.take (i + 1) = l.take i ++ [e] := by rw [List.take_add_one, hx]; rfl
      have hpre : ∀ x ∈ l.take i, aheadF x.f e.f = true := by
        have hs' : Srt (l.take (i + 1)) := List.Pairwise.sublist (List.take_sublist _ _) hs
        rw [ht] at hs'
        exact fun x hx => (List.pairwise_append.1 hs').2.2 x hx e (by simp)
      rw [ht, goneR_snoc]
      have he : ended now (l.take i ++ [e]) = ended now (l.take i) ++ if e.en ≤ now then [e] else [] := by
        unfold ended
        rw [List.filter_append]
        congr 1
        by_cases h : e.en ≤ now <;> simp [h]
      by_cases h : e.en ≤ now
      · rw [if_pos h] at he
        rw [if_pos h]
        refine ⟨?_, ih.srt.ins fun x hx => hpre x ?_⟩
        · rw [he]
          exact (insN_perm e _).trans (((ih.perm.cons e)).trans (List.perm_append_comm (l₁ := [e])))
        · have := ih.perm.mem_iff.1 hx
          unfold ended at this
          exact (List.mem_filter.1 this).1
      · rw [if_neg h, List.append_nil] at he
        rw [if_neg h]
        exact ⟨by rw [he]; exact ih.perm, ih.srt⟩
  have := key l.length (Nat.le_refl _)
  rwa [List.take_length] at this
theorem Gone.unique {now : Int} {l ys zs : List En} (h : Gone now l ys) (k : Gone now l zs) : ys = zs := h.srt.eq k.srt (h.perm.trans k.perm.symm)

theorem EGrow.snoc {a h' : H} {p' : Option (Nat × Nat)} {ql : Nat} {c' : Cap} {acc : List En} {e : En} (g' : Grow a h' 8 p' (ql + 1) c' (acc.flatMap encE ++ encE e)) : EGrow a h' p' (ql + 1) c' (acc ++ [e]) := by
  show Grow a h' 8 p' (ql + 1) c' ((acc ++ [e]).flatMap encE)
  rw [List.flatMap_append]
  simpa using g'

theorem goneR_len (now : Int) (l : List En) (hs : Srt l) : (goneR now l).length ≤ l.length := by
  rw [(goneR_gone hs).perm.length_eq]
  exact List.length_filter_le _ _

end Go.Ev.Try
