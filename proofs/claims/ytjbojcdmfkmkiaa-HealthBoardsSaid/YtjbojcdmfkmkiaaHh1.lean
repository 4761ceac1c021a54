/- Chapter 09: the wheel's Next. -/
import Derived.Test.YtjbojcdmfkmkiaaEvO
import Derived.Test.YtjbojcdmfkmkiaaEvP11
set_option linter.all false
namespace Go.Ev.Try
set_option maxRecDepth 10000

abbrev i64 : Int → AV := .int .i64

/-- what Next tells of these times -/
def LeastOf (l : List Int) (r : Int × Bool) : Prop := (l = [] ∧ r = (0, false)) ∨ (r.2 = true ∧ r.1 ∈ l ∧ ∀ v ∈ l, r.1 ≤ v)

theorem LeastOf.perm {l l' : List Int} (hp : l.Perm l') {r : Int × Bool} (h : LeastOf l r) : LeastOf l' r := by
  rcases h with ⟨rfl, h⟩ | ⟨h1, h2, h3⟩
  · exact .inl ⟨hp.nil_eq.symm, h⟩
  · exact .inr ⟨h1, hp.mem_iff.1 h2, fun v hv => h3 v (hp.mem_iff.2 hv)⟩

end Go.Ev.Try
