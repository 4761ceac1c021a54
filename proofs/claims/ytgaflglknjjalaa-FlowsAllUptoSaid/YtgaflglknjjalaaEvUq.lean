/- The abstract machine Ev, part Uq: rows that came in, their texts bounded. -/
import Derived.Test.YtgaflglknjjalaaEvUp
import Derived.Test.YtgaflglknjjalaaEvU
set_option linter.all false
namespace Go.Ev

theorem Strs.left {B : Nat} {as bs : List AV} (h : Strs B (as ++ bs)) : Strs B as := fun s hs => h s (List.mem_append.2 (.inl hs))
theorem Strs.right {B : Nat} {as bs : List AV} (h : Strs B (as ++ bs)) : Strs B bs := fun s hs => h s (List.mem_append.2 (.inr hs))

theorem fits_repB {α : Type} {ks : List FK} {enc : α → List AV} {P : α → Prop} {B : Nat} (hd : ∀ vs, Fits ks vs → Strs B vs → ∃ x, vs = enc x ∧ P x) : ∀ {n : Nat} {vs : List AV}, Fits (List.replicate n ks).flatten vs → Strs B vs → ∃ xs : List α, vs = xs.flatMap enc ∧ xs.length = n ∧ ∀ x ∈ xs, P x
  | 0, vs, h, _ => by
    cases h
    exact ⟨[], rfl, rfl, by simp⟩
  | n + 1, vs, h, hs => by
    rw [List.replicate_succ, List.flatten_cons] at h
    obtain ⟨v1, v2, rfl, h1, h2⟩ := h.split
    obtain ⟨x, rfl, hx⟩ := hd _ h1 hs.left
    obtain ⟨xs, rfl, hl, hp⟩ := fits_repB hd h2 hs.right
    exact ⟨x :: xs, rfl, by simp [hl], fun y hy => (List.mem_cons.1 hy).elim (fun e => e ▸ hx) (hp y)⟩

theorem Row.of_argB {α : Type} {rows : Rows0} {i : Nat} {ks : List FK} {p : Option (Nat × Nat)} {len : Nat} {c : Cap} {tg : Option Tgt} {cs : List AV} {B C : Nat} {enc : α → List AV} {P : α → Prop} (hi : rows[i]? = some (tg, cs)) (a : Arg i ks C p len c cs ∧ Strs B cs)
    (hs : ∀ x, (enc x).length = ks.length) (hd : ∀ vs, Fits ks vs → Strs B vs → ∃ x, vs = enc x ∧ P x) : ∃ xs : List α, xs.length = len ∧ len * C ≤ reachBytes ∧ Row (H0 rows) ks.length p len c (xs.flatMap enc) ∧ ∀ x ∈ xs, P x := by
  have s := Row.of_sl (SL.of_arg hi a.1) (WF_H0 rows)
  obtain ⟨cap, hl, hm, hf, _⟩ := a.1.look
  obtain ⟨ys, rfl, hy, hp⟩ := fits_repB hd hf a.2
  rw [take_flat hs] at s
  exact ⟨ys.take len, by simp; omega, Nat.le_trans (Nat.mul_le_mul_right _ hl) hm, s, fun x hx => hp x (List.mem_of_mem_take hx)⟩

end Go.Ev
