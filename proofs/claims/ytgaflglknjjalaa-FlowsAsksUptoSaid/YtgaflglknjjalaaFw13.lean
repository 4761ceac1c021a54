/- Chapter 10: the document's own: With, Get, Open, See, Put. -/
import Derived.Test.YtgaflglknjjalaaFw12
set_option linter.all false
namespace Go.Ev.Try
set_option maxRecDepth 10000
open Go.Proofs

theorem rd_at5 {h : H} {b : Nat} {e : En} (g : At h b (.cells (encE e) false)) {β : Type} (f : List AV → Option β) : aggK h b 0 5 f = f (encF e.f) := g.agg (vs := encF e.f) rfl (by simp [encE]) f

/-- a row that is the old one, or one made since -/
def Fr (h : H) (p q : Option (Nat × Nat)) : Prop := ∀ x ∈ own q, x ∈ own p ∨ h.next ≤ x
theorem Fr.refl (h : H) (p : Option (Nat × Nat)) : Fr h p p := fun _ h => .inl h
theorem Fr.new {a h h' : H} {p q : Option (Nat × Nat)} {ql : Nat} {qc : Cap} {vs : List AV} {s : Nat} (g : Grow a h' s q ql qc vs) (ha : h.next ≤ a.next) : Fr h p q := fun x hx => .inr (Nat.le_trans ha (g.own_ge x hx).1)

section
variable {h : H} {p : Option (Nat × Nat)} {len : Nat} {c : Cap} {l : List En} {n : Nat}

theorem With_ret (r : ERow h p len c l) (hl : len < 10000) (e : En) (hn : 10000000 ≤ n) : Ret (outriderref10_With_66 n p len c e.f.pr e.f.fr e.f.to e.f.po e.f.de e.ba e.st e.en h) fun z h' => EGrow h h' z.1 z.2.1 z.2.2 (withE l e) ∧ Mod [] h h' := by
  rw [outriderref10_With_66_eq]
  refine newK_ret fun i1 h1 g1 e1 n1 m1 => ?_
  have g1' : At h1 i1 (.cells (encE e) false) := g1
  rw [rd_at5 g1', rdF]
  refine (Without_ret (Row.mod0 r m1) (by omega) e.f hn).bind fun z h2 ⟨q1, q2⟩ => ?_
  dsimp only
  have hlen := Row.len r encE_len (by omega)
  have hz : (without l e.f).length = z.2.1 := Row.len q1.row encE_len (by omega)
  have hwl : (without l e.f).length ≤ l.length := List.length_filter_le _ _
  have := With_loop (l := without l e.f) q1.row (by omega) (g1'.mod0 q2) n z.2.1 0 n [] false none 0 (.known 0) h2 (by omega) (by omega) .nil (by simp) (Mod.refl _ _)
  refine Ret.mono this fun y h3 ⟨k1, k2⟩ => ⟨?_, (m1.trans q2).trans k2⟩
  rw [List.drop_zero] at k1
  exact Grow.base k1 (m1.trans q2).next

theorem refGet_ret (r : ERow h p len c l) (hl : len < 10000) (f : Fl) (hn : 10000000 ≤ n) : Ret (outriderref10_Get_27 n p len c f.pr f.fr f.to f.po f.de h) fun z h' => z = tupE ((getE l f).getD z0) (getE l f).isSome ∧ Mod [] h h' := by
  rw [outriderref10_Get_27_eq]
  refine newK_ret fun i1 h1 g1 e1 n1 m1 => ?_
  refine newK_ret fun i3 h3 g3 e3 n3 m3 => ?_
  have g1' : At h1 i1 (.cells (encF f) false) := g1
  rw [(g1'.mod0 m3).all (encF_len f), rdF]
  have m13 := m1.trans m3
  refine (Find_ret (Row.mod0 r m13) (by omega) f hn).bind fun z h4 ⟨q1, q2⟩ => ?_
  dsimp only
  have mm := m13.trans q2
  have g4 := g3.mod0 q2
  have hi3 : h.next ≤ i3 := by have := m1.next; omega
  rcases findI_cases f l 0 with ⟨k1, k2⟩ | ⟨k, e, k1, k2, k3⟩
  · rw [q1, k2, show decide ((-1 : Int) < 0) = true by decide, cond_true, k1]
    refine g4.wr (n := 8) rfl (by simp) rfl fun h5 g5 n5 m5 => ?_
    rw [At.all (cs := encE z0) g5 (encE_len z0), rdE]
    exact .pure ⟨rfl, Mod.own1 mm m5 hi3⟩
  · rw [q1, k3, Nat.zero_add, show decide ((k : Int) < 0) = false by simp, cond_false, Row.ix (Row.mod0 r mm) encE_len (by omega) k2, rdE, k1]
    refine g4.wr (n := 8) rfl (by simp) rfl fun h5 g5 n5 m5 => ?_
    rw [At.all (cs := encE e) g5 (encE_len e), rdE]
    exact .pure ⟨rfl, Mod.own1 mm m5 hi3⟩

theorem refOpen_ret (r : ERow h p len c l) (hl : len < 10000) (e : En) (fl now : Int) (hn : 10000000 ≤ n) : Ret (outriderref10_Open_54 n p len c e.f.pr e.f.fr e.f.to e.f.po e.f.de e.ba e.st e.en fl now h) fun z h' => (ERow h' z.1 z.2.1 z.2.2.1 (openS l e.f e.ba fl now).1 ∧ Fr h p z.1) ∧ z.2.2.2 = (openS l e.f e.ba fl now).2 ∧ Mod [] h h' := by
  have hlen := Row.len r encE_len (by omega)
  rw [outriderref10_Open_54_eq]
  refine newK_ret fun i1 h1 g1 e1 n1 m1 => ?_
  have g1' : At h1 i1 (.cells (encE e) false) := g1
  rw [g1'.cell (o := 5) rfl, asInt_int, wrong_eq, Option.bind_some]
  dsimp only
  unfold openS
  by_cases w : Wrong e.ba now
  · rw [decide_eq_true w, cond_true, if_pos w]
    exact .pure ⟨⟨Row.mod0 r m1, .refl _ _⟩, rfl, m1⟩
  · rw [decide_eq_false w, cond_false, if_neg w, rd_at5 g1', rdF]
    refine (Find_ret (Row.mod0 r m1) (by omega) e.f hn).bind fun z h2 ⟨q1, q2⟩ => ?_
    dsimp only
    have mm := m1.trans q2
    have r2 := Row.mod0 r mm
    have g2 := g1'.mod0 q2
    have hi1 : h.next ≤ i1 := by omega
    have fin : Ret (outriderref10_Open_54_J0 n p len c fl now (some (i1, 0)) false h2) fun z h' => (ERow h' z.1 z.2.1 z.2.2.1 (withE l ⟨e.f, e.ba, if e.f.pr = 6 then stepI 1 fl else 4, IntKind.i64.wrap (now + lifeI (if e.f.pr = 6 then stepI 1 fl else 4))⟩) ∧ Fr h p z.1) ∧ z.2.2.2 = 0 ∧ Mod [] h h' := by
      rw [outriderref10_Open_54_J0_eq, cond_false, nnK_some', Nat.zero_add]
      refine g2.wr (n := 1) rfl (by simp [encE]) rfl fun h3 g3 n3 m3 => ?_
      have g3' : At h3 i1 (.cells (encE ⟨e.f, e.ba, 4, e.en⟩) false) := g3
      have k3 := Mod.own1 mm m3 hi1
      have last : ∀ (st : Int) (h4 : H), At h4 i1 (.cells (encE ⟨e.f, e.ba, st, e.en⟩) false) → Mod [] h h4 → Ret (outriderref10_Open_54_J1 n p len c now (some (i1, 0)) h4) fun z h' => (ERow h' z.1 z.2.1 z.2.2.1 (withE l ⟨e.f, e.ba, st, IntKind.i64.wrap (now + lifeI st)⟩) ∧ Fr h p z.1) ∧ z.2.2.2 = 0 ∧ Mod [] h h' := by
        intro st h4 g4 m4
        rw [outriderref10_Open_54_J1_eq, nnK_some', Nat.zero_add, g4.cell (o := 6) rfl, asInt_int]
        refine (refLife_ret st n h4).bind fun y h5 ⟨y1, y2⟩ => ?_
        dsimp only
        rw [nnK_some', Nat.zero_add]
        refine (g4.mod0 y2).wr (n := 1) rfl (by simp [encE]) rfl fun h6 g6 n6 m6 => ?_
        have g6' : At h6 i1 (.cells (encE ⟨e.f, e.ba, st, IntKind.i64.wrap (now + lifeI st)⟩) false) := by rw [← y1]; exact g6
        have k6 := Mod.own1 (m4.trans y2) m6 hi1
        rw [nnK_some', g6'.all (encE_len _), rdE]
        refine (With_ret (Row.mod0 r k6) hl ⟨e.f, e.ba, st, IntKind.i64.wrap (now + lifeI st)⟩ hn).bind fun x h7 ⟨x1, x2⟩ => ?_
        exact .pure ⟨⟨x1.row, .new x1 k6.next⟩, rfl, k6.trans x2⟩
      rw [nnK_some', g3'.cell (o := 0) rfl, asInt_int]
      by_cases h6 : e.f.pr = 6
      · rw [show (e.f.pr == 6) = true by simpa using h6, cond_true, refStep_eq, Option.bind_some, nnK_some', Nat.zero_add, if_pos h6]
        refine g3'.wr (n := 1) rfl (by simp [encE]) rfl fun h4 g4 n4 m4 => ?_
        exact last _ h4 g4 (Mod.own1 k3 m4 hi1)
      · rw [show (e.f.pr == 6) = false by simpa using h6, cond_false, if_neg h6]
        exact last 4 h3 g3' k3
    rcases findI_cases e.f l 0 with ⟨k1, k2⟩ | ⟨k, x, k1, k2, k3⟩
    · rw [q1, k2, show decide ((-1 : Int) < 0) = true by decide, cond_true]
      by_cases hf : 64 ≤ l.length
      · rw [show decide ((Nat.cast len : Int) ≥ 64) = true by simp; omega, outriderref10_Open_54_J0_eq, cond_true, if_pos ⟨k1, hf⟩]
        exact .pure ⟨⟨r2, .refl _ _⟩, rfl, mm⟩
      · rw [show decide ((Nat.cast len : Int) ≥ 64) = false by simp; omega, if_neg (by simp [hf])]
        exact fin
    · rw [q1, k3, Nat.zero_add, show decide ((k : Int) < 0) = false by simp, cond_false, if_neg (by rw [k1]; simp)]
      exact fin

theorem refPut_ret (r : ERow h p len c l) (hl : len < 10000) (e : En) (now : Int) (hn : 10000000 ≤ n) : Ret (outriderref10_Put_56 n p len c e.f.pr e.f.fr e.f.to e.f.po e.f.de e.ba e.st e.en now h) fun z h' => (ERow h' z.1 z.2.1 z.2.2.1 (putS l e now).1 ∧ Fr h p z.1) ∧ z.2.2.2 = (putS l e now).2 ∧ Mod [] h h' := by
  have hlen := Row.len r encE_len (by omega)
  rw [outriderref10_Put_56_eq]
  refine newK_ret fun i1 h1 g1 e1 n1 m1 => ?_
  have g1' : At h1 i1 (.cells (encE e) false) := g1
  have r1 := Row.mod0 r m1
  have hw : ∀ w : Bool, w = decide (Wrong e.ba now ∨ e.st < 1 ∨ 4 < e.st ∨ e.en < 0 ∨ 1099511627776 < e.en) → Ret (outriderref10_Put_56_J0 n p len c now (some (i1, 0)) w h1) fun z h' => (ERow h' z.1 z.2.1 z.2.2.1 (putS l e now).1 ∧ Fr h p z.1) ∧ z.2.2.2 = (putS l e now).2 ∧ Mod [] h h' := by
    rintro _ rfl
    rw [outriderref10_Put_56_J0_eq]
    unfold putS
    by_cases w : Wrong e.ba now ∨ e.st < 1 ∨ 4 < e.st ∨ e.en < 0 ∨ 1099511627776 < e.en
    · rw [decide_eq_true w, cond_true, if_pos w]
      exact .pure ⟨⟨r1, .refl _ _⟩, rfl, m1⟩
    · rw [decide_eq_false w, cond_false, if_neg w, nnK_some', rd_at5 g1', rdF]
      refine (Find_ret r1 (by omega) e.f hn).bind fun z h2 ⟨q1, q2⟩ => ?_
      dsimp only
      have mm := m1.trans q2
      have r2 := Row.mod0 r mm
      have g2 := g1'.mod0 q2
      have fin : Ret (outriderref10_Put_56_J1 n p len c now (some (i1, 0)) false h2) fun z h' => (ERow h' z.1 z.2.1 z.2.2.1 (if e.en ≤ now then (without l e.f, (101 : Int)) else (withE l e, 0)).1 ∧ Fr h p z.1) ∧ z.2.2.2 = (if e.en ≤ now then (without l e.f, (101 : Int)) else (withE l e, 0)).2 ∧ Mod [] h h' := by
        rw [outriderref10_Put_56_J1_eq, cond_false, nnK_some', Nat.zero_add, g2.cell (o := 7) rfl, asInt_int]
        by_cases h7 : e.en ≤ now
        · rw [decide_eq_true h7, cond_true, nnK_some', rd_at5 g2, rdF, if_pos h7]
          refine (Without_ret r2 (by omega) e.f hn).bind fun x h7 ⟨x1, x2⟩ => ?_
          exact .pure ⟨⟨x1.row, .new x1 mm.next⟩, rfl, mm.trans x2⟩
        · rw [decide_eq_false h7, cond_false, nnK_some', g2.all (encE_len e), rdE, if_neg h7]
          refine (With_ret r2 hl e hn).bind fun x h7 ⟨x1, x2⟩ => ?_
          exact .pure ⟨⟨x1.row, .new x1 mm.next⟩, rfl, mm.trans x2⟩
      rcases findI_cases e.f l 0 with ⟨k1, k2⟩ | ⟨k, x, k1, k2, k3⟩
      · rw [q1, k2, show decide ((-1 : Int) < 0) = true by decide, cond_true]
        by_cases hf : 64 ≤ l.length
        · rw [show decide ((Nat.cast len : Int) ≥ 64) = true by simp; omega, outriderref10_Put_56_J1_eq, cond_true, if_pos ⟨k1, hf⟩]
          exact .pure ⟨⟨r2, .refl _ _⟩, rfl, mm⟩
        · rw [show decide ((Nat.cast len : Int) ≥ 64) = false by simp; omega, if_neg (by simp [hf])]
          exact fin
      · rw [q1, k3, Nat.zero_add, show decide ((k : Int) < 0) = false by simp, cond_false, if_neg (by rw [k1]; simp)]
        exact fin
  rw [g1'.cell (o := 5) rfl, asInt_int, wrong_eq, Option.bind_some]
  dsimp only
  by_cases w : Wrong e.ba now
  · rw [decide_eq_true w, cond_true]
    exact hw _ (Eq.symm (decide_eq_true (.inl w)))
  · rw [decide_eq_false w, cond_false, g1'.cell (o := 6) rfl, asInt_int]
    by_cases c1 : e.st < 1
    · rw [decide_eq_true c1, cond_true]
      exact hw _ (Eq.symm (decide_eq_true (by omega)))
    · rw [decide_eq_false c1, cond_false, g1'.cell (o := 6) rfl, asInt_int]
      by_cases c2 : e.st > 4
      · rw [decide_eq_true c2, cond_true]
        exact hw _ (Eq.symm (decide_eq_true (by omega)))
      · rw [decide_eq_false c2, cond_false, g1'.cell (o := 7) rfl, asInt_int]
        by_cases c3 : e.en < 0
        · rw [decide_eq_true c3, cond_true]
          exact hw _ (Eq.symm (decide_eq_true (by omega)))
        · rw [decide_eq_false c3, cond_false, g1'.cell (o := 7) rfl, asInt_int]
          exact hw _ (by rw [Bool.eq_iff_iff]; simp only [decide_eq_true_eq]; omega)

def tup3E {α : Type} (p : Option (Nat × Nat)) (len : Nat) (c : Cap) (e : En) (x : α) : Option (Nat × Nat) × Nat × Cap × Int × ByteArray × ByteArray × Int × Int × Int × Int × Int × α := (p, len, c, tupE e x)

theorem refSee_ret (r : ERow h p len c l) (hl : len < 10000) (f : Fl) (fl now : Int) (hn : 10000000 ≤ n) : Ret (outriderref10_See_55 n p len c f.pr f.fr f.to f.po f.de fl now h) fun z h' => ∃ q ql qc, z = tup3E q ql qc (seeS l f fl now).2.1 (seeS l f fl now).2.2 ∧ (ERow h' q ql qc (seeS l f fl now).1 ∧ Fr h p q) ∧ Mod [] h h' := by
  rw [outriderref10_See_55_eq]
  refine newK_ret fun i1 h1 g1 e1 n1 m1 => ?_
  refine newK_ret fun i3 h3 g3 e3 n3 m3 => ?_
  have g1' : At h1 i1 (.cells (encF f) false) := g1
  rw [(g1'.mod0 m3).all (encF_len f), rdF]
  have m13 := m1.trans m3
  refine (refGet_ret (Row.mod0 r m13) hl f hn).bind fun z h4 ⟨q1, q2⟩ => ?_
  subst q1
  dsimp only [tupE]
  refine boxK_ret rfl rfl rfl fun i5 h5 g5 e5 n5 m5 => ?_
  have mm := (m13.trans q2).trans m5
  have g3' := (g3.mod0 q2).mod0 m5
  have hi3 : h.next ≤ i3 := by have := m1.next; omega
  have hi5 : h.next ≤ i5 := by have := (m13.trans q2).next; omega
  have hne : i3 ≠ i5 := by have := q2.next; omega
  have none' : (seeS l f fl now) = (l, z0, false) → Ret (outriderref10_See_55_J0 n p len c fl now (some (i3, 0)) (some (i5, 0)) true h5) fun z h' => ∃ q ql qc, z = tup3E q ql qc (seeS l f fl now).2.1 (seeS l f fl now).2.2 ∧ (ERow h' q ql qc (seeS l f fl now).1 ∧ Fr h p q) ∧ Mod [] h h' := by
    intro e
    rw [e, outriderref10_See_55_J0_eq, cond_true, nnK_some']
    refine g3'.wr (n := 8) rfl (by simp) rfl fun h6 g6 n6 m6 => ?_
    rw [nnK_some', At.all (cs := encE z0) g6 (encE_len z0), rdE]
    have m := Mod.own1 mm m6 hi3
    exact .pure ⟨p, len, c, rfl, ⟨Row.mod0 r m, .refl _ _⟩, m⟩
  cases hg : getE l f with
  | none =>
    rw [Option.isSome_none, Bool.not_false, cond_true]
    exact none' (by unfold seeS; rw [hg])
  | some e =>
    have hef := (getE_some hg).2
    rw [Option.isSome_some, Bool.not_true, cond_false, wrong_eq, Option.bind_some]
    dsimp only
    rw [hg] at g5
    have g5' : At h5 i5 (.cells (encE e) false) := g5
    by_cases ht : now < 0 ∨ 1099511626776 < now
    · rw [decide_eq_true (show Wrong 0 now by unfold Wrong; omega)]
      exact none' (by unfold seeS; rw [hg]; simp only; rw [if_pos ht])
    · have hs : seeS l f fl now = (withE l (seen e fl now), seen e fl now, true) := by unfold seeS; rw [hg]; simp only; rw [if_neg ht]
      rw [decide_eq_false (show ¬ Wrong 0 now by unfold Wrong; omega), hs, outriderref10_See_55_J0_eq, cond_false, nnK_some', Nat.zero_add, g5'.cell (o := 6) rfl, asInt_int, refStep_eq, Option.bind_some]
      dsimp only
      rw [nnK_some', Nat.zero_add]
      refine g5'.wr (n := 1) rfl (by simp [encE]) rfl fun h6 g6 n6 m6 => ?_
      have k6 := Mod.own1 mm m6 hi5
      rw [nnK_some', Nat.zero_add, g6.cell (o := 6) rfl, asInt_int]
      refine (refLife_ret (stepI e.st fl) n h6).bind fun y h7 ⟨y1, y2⟩ => ?_
      dsimp only
      rw [nnK_some', Nat.zero_add]
      refine (g6.mod0 y2).wr (n := 1) rfl (by simp [encE, spl]) rfl fun h8 g8 n8 m8 => ?_
      have k8 := Mod.own1 (k6.trans y2) m8 hi5
      have g8' : At h8 i5 (.cells (encE (seen e fl now)) false) := by
        unfold seen; rw [← y1]; exact g8
      rw [nnK_some', g8'.all (encE_len _), rdE]
      refine (With_ret (Row.mod0 r k8) hl (seen e fl now) hn).bind fun x h9 ⟨x1, x2⟩ => ?_
      dsimp only
      rw [nnK_some', minus_quiet x2, minus_none, (g8'.mod0 x2).all (encE_len _), rdE, nnK_some']
      have k9 := k8.trans x2
      have g9 : At h9 i3 _ := (((g3'.mod m6 (by simpa using hne)).mod0 y2).mod m8 (by simpa using hne)).mod0 x2
      refine g9.wr (n := 8) rfl (by simp) rfl fun h10 g10 n10 m10 => ?_
      rw [nnK_some', At.all (cs := encE (seen e fl now)) g10 (encE_len _), rdE]
      have hx : Row h10 8 x.1 x.2.1 x.2.2 ((withE l (seen e fl now)).flatMap encE) := x1.row.mod m10 fun y hy hm => by
        have h1 := (x1.own_ge y hy).1
        have h2 : y = i3 := by simpa using hm
        have h3 := k8.next
        have h4 := mm.next
        have h5 := g3'.lt
        have h6 := m6.next
        have h7 := y2.next
        have h8 := m8.next
        omega
      exact .pure ⟨x.1, x.2.1, x.2.2, rfl, ⟨hx, .new x1 k8.next⟩, Mod.own1 k9 m10 hi3⟩

end

end Go.Ev.Try
