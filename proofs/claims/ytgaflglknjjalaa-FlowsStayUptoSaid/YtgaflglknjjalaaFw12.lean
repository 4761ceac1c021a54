/- Chapter 10: the document's own: Step, Life, ahead, Find, Without, With, Expire. -/
import Derived.Test.YtgaflglknjjalaaFw11
set_option linter.all false
namespace Go.Ev.Try
set_option maxRecDepth 10000
open Go.Proofs

abbrev ERow (h : H) (p : Option (Nat × Nat)) (len : Nat) (c : Cap) (l : List En) : Prop := Row h 8 p len c (l.flatMap encE)
abbrev EGrow (a h : H) (p : Option (Nat × Nat)) (len : Nat) (c : Cap) (l : List En) : Prop := Grow a h 8 p len c (l.flatMap encE)

theorem refStep_eq (st fl : Int) (n : Nat) (h : H) : outriderref10_Step_12 n st fl h = some (stepI st fl, h) := by
  rw [outriderref10_Step_12_eq]
  unfold stepI
  by_cases h4 : st = 4
  · subst h4; rfl
  · rw [show (st == 4) = false by simpa using h4, cond_false, if_neg h4]
    by_cases h5 : iand .i64 fl 5 = 0
    · rw [h5, show ((0 : Int) != 0) = false from rfl, cond_false, if_neg (by simp)]
      by_cases h1 : st = 1
      · subst h1
        rw [show ((1 : Int) == 1) = true from rfl, cond_true, outriderref10_Step_12_J0_eq]
        by_cases h6 : iand .i64 fl 18 = 16
        · rw [h6]; rfl
        · rw [show (iand .i64 fl 18 == 16) = false by simpa using h6, cond_false, show ((1 : Int) == 3) = false from rfl, cond_false, outriderref10_Step_12_J1_eq, cond_false, if_neg (by simp [h6]), if_neg (by simp)]
      · rw [show (st == 1) = false by simpa using h1, cond_false, outriderref10_Step_12_J0_eq, cond_false, if_neg (by simp [h1])]
        by_cases h3 : st = 3
        · subst h3
          rw [show ((3 : Int) == 3) = true from rfl, cond_true, outriderref10_Step_12_J1_eq]
          by_cases h6 : iand .i64 fl 18 = 2
          · rw [h6]; rfl
          · rw [show (iand .i64 fl 18 == 2) = false by simpa using h6, cond_false, if_neg (by simp [h6])]
        · rw [show (st == 3) = false by simpa using h3, cond_false, outriderref10_Step_12_J1_eq, cond_false, if_neg (by simp [h3])]
    · rw [show (iand .i64 fl 5 != 0) = true by simpa using h5, cond_true, if_pos h5]

theorem refLife_ret (st : Int) (n : Nat) (h : H) : Ret (outriderref10_Life_14 n st h) fun r h' => r = lifeI st ∧ Mod [] h h' := by
  rw [outriderref10_Life_14_eq]
  refine newK_ret fun i1 h1 g1 e1 n1 m1 => ?_
  by_cases h0 : st < 0
  · rw [decide_eq_true h0, cond_true, outriderref10_Life_14_J0_eq, cond_true]
    exact .pure ⟨(lifeI_zero.2 (by omega)).symm, m1⟩
  · rw [decide_eq_false h0, cond_false, outriderref10_Life_14_J0_eq]
    by_cases h4 : st > 4
    · rw [decide_eq_true h4, cond_true]
      exact .pure ⟨(lifeI_zero.2 (by omega)).symm, m1⟩
    · have : st = 0 ∨ st = 1 ∨ st = 2 ∨ st = 3 ∨ st = 4 := by omega
      rw [decide_eq_false h4, cond_false, if_pos ⟨by omega, by omega⟩, nnK_some', Nat.zero_add]
      rcases this with rfl | rfl | rfl | rfl | rfl
      · rw [g1.cell (v := .int .i64 0) rfl, asInt_int]; exact .pure ⟨rfl, m1⟩
      · rw [g1.cell (v := .int .i64 60) rfl, asInt_int]; exact .pure ⟨rfl, m1⟩
      · rw [g1.cell (v := .int .i64 900) rfl, asInt_int]; exact .pure ⟨rfl, m1⟩
      · rw [g1.cell (v := .int .i64 30) rfl, asInt_int]; exact .pure ⟨rfl, m1⟩
      · rw [g1.cell (v := .int .i64 120) rfl, asInt_int]; exact .pure ⟨rfl, m1⟩

/-! ### Find -/

/-! ### Without, With -/

end Go.Ev.Try
