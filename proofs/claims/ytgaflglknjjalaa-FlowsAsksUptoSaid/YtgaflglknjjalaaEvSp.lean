/- The abstract machine Ev, part Sp: a row of our own is sorted (sortF in plain words). -/
import Derived.Test.YtgaflglknjjalaaEvSo
set_option linter.all false
namespace Go.Ev

/-- what 'cmp' is asked: a strict order of these values -/
structure Orders {α : Type} (xs : List α) (cf : α → α → Int) : Prop where
  irrefl : ∀ x ∈ xs, ¬ cf x x < 0
  trans : ∀ x ∈ xs, ∀ y ∈ xs, ∀ z ∈ xs, cf x y < 0 → cf y z < 0 → cf x z < 0
  ntrans : ∀ x ∈ xs, ∀ y ∈ xs, ∀ z ∈ xs, ¬ cf x y < 0 → ¬ cf y z < 0 → ¬ cf x z < 0
  total : ∀ x ∈ xs, ∀ y ∈ xs, ¬ cf x y < 0 → ¬ cf y x < 0 → x = y

section
variable {α : Type} {enc : α → AV} {dec : AV → α} {cmp : AV → AV → H → Option (Int × H)} {cf : α → α → Int} {xs : List α}

end

/-! ### reads that are independent of a call ahead of them -/

theorem minus_of {x : H} {S : Nat → Prop} {i : Nat} {o : AObj} (hg : x.get i = some o) (hn : ¬ S i) : (x.minus S).get i = some o := (minus_get hn).trans hg
theorem not_noT (i : Nat) : ¬ noT i := fun h => h
theorem not_addT {S : Nat → Prop} {h h' : H} {i : Nat} (hS : ¬ S i) (he : h'.get i = h.get i) : ¬ addT S h h' i := fun h => h.elim hS fun ⟨_, hne⟩ => hne he
theorem minus_quiet {S : Nat → Prop} {x h h' : H} (m : Mod [] h h') : x.minus (addT S h h') = x.minus S := by rw [addT_same fun i hi => m.get i hi (by simp)]
@[simp] theorem minus_self (S : Nat → Prop) (x h : H) : x.minus (addT S h h) = x.minus S := by rw [addT_same fun _ _ => rfl]
theorem minus_none (x : H) : x.minus noT = x := minus_noT x

theorem fits_cons {k : FK} {ks : List FK} {vs : List AV} (h : Fits (k :: ks) vs) : ∃ v us, vs = v :: us ∧ k.fits v ∧ Fits ks us := by
  cases h with
  | cons a b => exact ⟨_, _, rfl, a, b⟩
theorem fits_nil {vs : List AV} (h : Fits [] vs) : vs = [] := by cases h; rfl

end Go.Ev
