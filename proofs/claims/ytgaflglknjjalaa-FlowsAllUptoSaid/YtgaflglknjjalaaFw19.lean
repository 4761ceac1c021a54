/- Chapter 10: FlowsFull, FlowsStay are true. -/
import Derived.Test.YtgaflglknjjalaaFw17
set_option linter.all false
namespace Go.Ev.Try
set_option maxRecDepth 10000
open Go.Proofs

/-! ### Full -/

def fl (i : Int) : Fl := ⟨17, ⟨#[102]⟩, ⟨#[116]⟩, i, 0⟩
theorem fl_inj {i j : Int} (h : fl i = fl j) : i = j := by unfold fl at h; simpa using h
/-- so many flows were opened -/
structure Opened (l : List En) (k : Nat) : Prop where
  len : l.length = min k 64
  mem : ∀ e ∈ l, ∃ j : Nat, j < min k 64 ∧ e.f = fl j
  has : ∀ j : Nat, j < min k 64 → ∃ e ∈ l, e.f = fl j

theorem openS_zero (l : List En) (i ba : Int) (hba : ba = 0 ∨ ba = 1) : openS l (fl i) ba 0 0 = if getE l (fl i) = none ∧ 64 ≤ l.length then (l, 100) else (withE l ⟨fl i, ba, 4, 120⟩, 0) := by
  unfold openS
  have h6 : ¬ (fl i).pr = 6 := show ¬ (17 : Int) = 6 by decide
  rw [if_neg (by unfold Wrong; omega)]
  simp only [if_neg h6]
  rfl
theorem Opened.none {l : List En} {k : Nat} (o : Opened l k) {i : Int} (hi : (k : Int) ≤ i) : getE l (fl i) = none := by
  rw [getE_none]
  intro e he e2
  obtain ⟨j, hj, e3⟩ := o.mem e he
  have := fl_inj (e2.symm.trans e3)
  omega
theorem Opened.step {l : List En} {k : Nat} (o : Opened l k) (hs : Srt l) : Opened (openS l (fl k) 0 0 0).1 (k + 1) ∧ (openS l (fl k) 0 0 0).2 = if k < 64 then 0 else 100 := by
  rw [openS_zero l k 0 (.inl rfl)]
  have hn := o.none (i := k) (by omega)
  have hl := o.len
  by_cases h : k < 64
  · rw [if_neg (by omega), if_pos h]
    refine ⟨⟨?_, fun e he => ?_, fun j hj => ?_⟩, rfl⟩
    · have := withE_len hs ⟨fl k, 0, 4, 120⟩
      rw [hn] at this
      simp at this
      show (withE l _).length = _
      omega
    · rcases withE_mem.1 he with rfl | ⟨h1, _⟩
      · exact ⟨k, by omega, rfl⟩
      · obtain ⟨j, hj, e1⟩ := o.mem e h1
        exact ⟨j, by omega, e1⟩
    · by_cases hjk : j = k
      · subst hjk; exact ⟨_, withE_mem.2 (.inl rfl), rfl⟩
      · obtain ⟨e, he, e1⟩ := o.has j (by omega)
        refine ⟨e, withE_mem.2 (.inr ⟨he, fun e2 => ?_⟩), e1⟩
        have := fl_inj (e1.symm.trans e2); omega
  · rw [if_pos ⟨hn, by omega⟩, if_neg h]
    refine ⟨⟨by show l.length = _; omega, fun e he => ?_, fun j hj => o.has j (by omega)⟩, rfl⟩
    obtain ⟨j, hj, e1⟩ := o.mem e he
    exact ⟨j, by omega, e1⟩

/-! ### Stay -/

end Go.Ev.Try
