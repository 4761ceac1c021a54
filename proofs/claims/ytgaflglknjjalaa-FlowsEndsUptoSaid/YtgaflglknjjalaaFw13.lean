/- Chapter 10: the document's own: With, Get, Open, See, Put. -/
import Derived.Test.YtgaflglknjjalaaFw12
set_option linter.all false
namespace Go.Ev.Try
set_option maxRecDepth 10000
open Go.Proofs

theorem rd_at5 {h : H} {b : Nat} {e : En} (g : At h b (.cells (encE e) false)) {β : Type} (f : List AV → Option β) : aggK h b 0 5 f = f (encF e.f) := g.agg (vs := encF e.f) rfl (by simp [encE]) f

/-- a row that is the old one, or one made since -/
def Fr (h : H) (p q : Option (Nat × Nat)) : Prop := ∀ x ∈ own q, x ∈ own p ∨ h.next ≤ x
theorem Fr.refl (h : H) (p : Option (Nat × Nat)) : Fr h p p := fun _ h => .inl h
theorem Fr.new {a h h' : H} {p q : Option (Nat × Nat)} {ql : Nat} {qc : Cap} {vs : List AV} {s : Nat} (g : Grow a h' s q ql qc vs) (ha : h.next ≤ a.next) : Fr h p q := fun x hx => .inr (Nat.le_trans ha (g.own_ge x hx).1)

section
variable {h : H} {p : Option (Nat × Nat)} {len : Nat} {c : Cap} {l : List En} {n : Nat}

end

end Go.Ev.Try
