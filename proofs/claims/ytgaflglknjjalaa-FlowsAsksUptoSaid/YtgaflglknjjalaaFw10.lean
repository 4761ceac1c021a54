/- Chapter 10: Get, See, Expire. -/
import Derived.Test.YtgaflglknjjalaaFw9
set_option linter.all false
namespace Go.Ev.Try
set_option maxRecDepth 10000
open Go.Proofs

def tupE {α : Type} (e : En) (x : α) : Int × ByteArray × ByteArray × Int × Int × Int × Int × Int × α := (e.f.pr, e.f.fr, e.f.to, e.f.po, e.f.de, e.ba, e.st, e.en, x)

/-- what is written to a block of one's own is not seen -/
theorem Mod.own1 {a h h' : H} {i : Nat} (m : Mod [] a h) (m' : Mod [i] h h') (hi : a.next ≤ i) : Mod [] a h' := m.trans' m' fun j hj hl => by
  have : j = i := by simpa using hj
  omega

section
variable {h : H} {b : Nat} {key : List Int} {l : List En} {n : Nat}

theorem Tab.Get (t : Tab h b key l) (f : Fl) (hf : okF f) (hn : 10000000 ≤ n) : Ret (flows_Table_Get_26 n (some (b, 0)) f.pr f.fr f.to f.po f.de h) fun r h' => r = tupE ((getE l f).getD z0) (getE l f).isSome ∧ Mod [] h h' := by
  obtain ⟨P, tb, r, hmk, hl, ho⟩ := t.ex
  rw [flows_Table_Get_26_eq]
  refine newK_ret fun i1 h1 g1 e1 n1 m1 => ?_
  refine newK_ret fun i3 h3 g3 e3 n3 m3 => ?_
  rw [At.all (cs := encF f) (g1.mod0 m3) (encF_len f), rdF]
  have m13 := m1.trans m3
  refine (find_ret (tb.mod0 m13) f hf hn).bind fun z h4 ⟨q1, q2⟩ => ?_
  dsimp only
  have mm := m13.trans q2
  have g4 := g3.mod0 q2
  have hi3 : h.next ≤ i3 := by have := m1.next; omega
  rcases r.find f (sOf_lt key f) (by omega) with ⟨i, e, k1, k2, k3, k4, k5⟩ | ⟨i, p, k1, k2, k3, k4, k5, k6⟩
  · rw [q1, k1, Bool.not_true, cond_false, nnK_some', if_pos ⟨by omega, by omega⟩, Int.toNat_natCast, (tb.mod0 mm).entry k3, rdE]
    refine g4.wr (n := 8) rfl (by simp) rfl fun h5 g5 n5 m5 => ?_
    rw [At.all (cs := encE e) g5 (encE_len e), rdE, k5]
    exact .pure ⟨rfl, Mod.own1 mm m5 hi3⟩
  · rw [q1, k1, Bool.not_false, cond_true]
    refine g4.wr (n := 8) rfl (by simp) rfl fun h5 g5 n5 m5 => ?_
    rw [At.all (cs := encE z0) g5 (encE_len z0), rdE, k3]
    exact .pure ⟨rfl, Mod.own1 mm m5 hi3⟩

theorem Tab.See (t : Tab h b key l) (f : Fl) (hf : okF f) (fl now : Int) (hn : 10000000 ≤ n) : Ret (flows_Table_See_30 n (some (b, 0)) f.pr f.fr f.to f.po f.de fl now h) fun r h' => r = tupE (seeS l f fl now).2.1 (seeS l f fl now).2.2 ∧ Tab h' b key (seeS l f fl now).1 ∧ Mod [b] h h' := by
  obtain ⟨P, tb, r, hmk, hl, ho⟩ := t.ex
  rw [flows_Table_See_30_eq]
  refine newK_ret fun i1 h1 g1 e1 n1 m1 => ?_
  refine newK_ret fun i3 h3 g3 e3 n3 m3 => ?_
  rw [At.all (cs := encF f) (g1.mod0 m3) (encF_len f), rdF]
  have m13 := m1.trans m3
  refine (find_ret (tb.mod0 m13) f hf hn).bind fun z h4 ⟨q1, q2⟩ => ?_
  dsimp only
  have mm := m13.trans q2
  have g4 := g3.mod0 q2
  have hi3 : h.next ≤ i3 := by have := m1.next; omega
  have t4 := tb.mod0 mm
  have none' : ∀ z1 : Int, (seeS l f fl now) = (l, z0, false) → Ret (flows_Table_See_30_J0 n (some (b, 0)) fl now (some (i3, 0)) z1 true h4) fun r h' => r = tupE (seeS l f fl now).2.1 (seeS l f fl now).2.2 ∧ Tab h' b key (seeS l f fl now).1 ∧ Mod [b] h h' := by
    intro z1 e
    rw [e, flows_Table_See_30_J0_eq, cond_true, nnK_some']
    refine g4.wr (n := 8) rfl (by simp) rfl fun h5 g5 n5 m5 => ?_
    rw [nnK_some', At.all (cs := encE z0) g5 (encE_len z0), rdE]
    have m := Mod.own1 mm m5 hi3
    exact .pure ⟨rfl, t.mod0 m, m.of_nil⟩
  rcases r.find f (sOf_lt key f) (by omega) with ⟨i, e, k1, k2, k3, k4, k5⟩ | ⟨i, p, k1, k2, k3, k4, k5, k6⟩
  · rw [q1, k1, Bool.not_true, cond_false, timely_eq, Option.bind_some]
    dsimp only
    by_cases ht : now < 0 ∨ 1099511626776 < now
    · rw [show (!decide (0 ≤ now ∧ now ≤ 1099511626776)) = true by simp; omega]
      exact none' _ (by unfold seeS; rw [k5]; simp only; rw [if_pos ht])
    · have hs : seeS l f fl now = (withE l (seen e fl now), seen e fl now, true) := by unfold seeS; rw [k5]; simp only; rw [if_neg ht]
      rw [show (!decide (0 ≤ now ∧ now ≤ 1099511626776)) = false by simp; omega, hs, flows_Table_See_30_J0_eq, cond_false, nnK_some', if_pos ⟨by omega, by omega⟩, Int.toNat_natCast, t4.entry k3, rdE]
      refine boxK_ret rfl rfl rfl fun i80 h5 g5 e5 n5 m5 => ?_
      rw [g5.cell (o := 6) rfl, asInt_int, Step_eq, Option.bind_some]
      dsimp only
      refine g5.wr (n := 1) rfl (by simp) rfl fun h6 g6 n6 m6 => ?_
      rw [g6.cell (o := 6) rfl, asInt_int, Life_eq, Option.bind_some]
      dsimp only
      refine g6.wr (n := 1) rfl (by simp [spl]) rfl fun h7 g7 n7 m7 => ?_
      have g7' : At h7 i80 (.cells (encE (seen e fl now)) false) := g7
      rw [g7'.all (encE_len _), rdE]
      have hl80 : h4.next ≤ i80 := by omega
      have h04 := mm.next
      have m47 : Mod [] h4 h7 := Mod.own1 (Mod.own1 m5 m6 hl80) m7 hl80
      have t7 := t4.mod0 m47
      have hlt := t.lt
      refine (layTab_ret (e := seen e fl now) t7 r hmk hl ho (by show okF e.f; rw [k4]; exact hf) k3 (.inl ⟨rfl, rfl, by show getE l e.f = _; rw [k4]; exact k5⟩)).bind fun _ h8 ⟨q3, q4⟩ => ?_
      dsimp only
      have g8 := g7'.mod q4 (by simp; omega)
      rw [g8.all (encE_len _), rdE, nnK_some']
      have g9 := (g4.mod0 m47).mod q4 (by simp; omega)
      refine g9.wr (n := 8) rfl (by simp) rfl fun h9 g10 n9 m9 => ?_
      rw [nnK_some', At.all (cs := encE (seen e fl now)) g10 (encE_len _), rdE]
      exact .pure ⟨rfl, q3.mod m9 (by simp; omega), ((mm.trans m47).of_nil.trans q4).trans' m9 fun j hj hl => by
        have : j = i3 := by simpa using hj
        omega⟩
  · rw [q1, k1, Bool.not_false, cond_true]
    exact none' _ (by unfold seeS; rw [k3])
end

end Go.Ev.Try
