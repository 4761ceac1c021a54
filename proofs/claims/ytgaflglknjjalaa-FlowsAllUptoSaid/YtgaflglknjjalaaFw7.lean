/- Chapter 10: find, lay. -/
import Derived.Test.YtgaflglknjjalaaFw6
set_option linter.all false
namespace Go.Ev.Try
set_option maxRecDepth 10000
open Go.Proofs

theorem eqF_dec (a b : Fl) : ((a.pr == b.pr) && ((a.fr.toList == b.fr.toList) && ((a.to.toList == b.to.toList) && ((a.po == b.po) && ((a.de == b.de) && true))))) = decide (a = b) := by
  rw [str_eq, str_eq]
  cases a; cases b
  simp only [Fl.mk.injEq, Bool.and_true]
  rw [Bool.eq_iff_iff]
  simp

def sOf (key : List Int) (f : Fl) : Nat := (hashF key f % 128).toNat
theorem sOf_lt (key : List Int) (f : Fl) : sOf key f < 128 := by unfold sOf; omega
theorem hashF_u64 (key : List Int) (f : Fl) : u64 (hashF key f) := by
  unfold hashF sum done
  exact u64_ixor _ _

theorem find_loop {b : Nat} {key : List Int} {P : List Pl} {many marks : Nat} (f : Fl) (n : Nat) {i1 : Nat} : ∀ (d k m at' : Nat) (spot : Int) (h : H), d + k = 128 → d < m → at' < 128 → Tb h b key P many marks → At h i1 (.cells (encF f) false) →
    Ret (flows_Table_find_34_L0 n m (some (b, 0)) (some (i1, 0)) at' spot k h) fun r h' => r = fnd P f d at' spot ∧ Mod [] h h'
  | 0, k, m + 1, at', spot, h, hk, _, _, _, _ => by
    obtain rfl : k = 128 := by omega
    rw [flows_Table_find_34_L0_eq, show decide (((128 : Nat) : Int) < 128) = false by decide, cond_false]
    exact .pure ⟨rfl, Mod.refl _ _⟩
  | d + 1, k, m + 1, at', spot, h, hk, hm, ha, t, g1 => by
    have hp : P[at']? = some (P[at']'(by rw [t.plen]; exact ha)) := List.getElem?_eq_getElem _
    generalize P[at']'(by rw [t.plen]; exact ha) = p at hp
    rw [flows_Table_find_34_L0_eq, show decide ((k : Int) < 128) = true by simp; omega, cond_true, nnK_some', if_pos ⟨by omega, by omega⟩, Int.toNat_natCast, t.place hp, rdP]
    refine boxK_ret rfl rfl rfl fun i53 h5 g5 e5 n5 m5 => ?_
    have t5 := t.mod0 m5
    have g15 := g1.mod0 m5
    have hfnd : fnd P f (d + 1) at' spot = if p.1 = 1 ∧ p.2.f = f then ((at' : Int), true) else if p.1 = 0 then (if p.1 ≠ 1 ∧ spot < 0 then (at' : Int) else spot, false) else fnd P f d ((at' + 1) % 128) (if p.1 ≠ 1 ∧ spot < 0 then (at' : Int) else spot) := by
      rw [fnd, hp]
    -- where the place is not the flow's
    have tail : ¬ (p.1 = 1 ∧ p.2.f = f) → Ret (flows_Table_find_34_J1 n m (some (b, 0)) (some (i1, 0)) at' spot (some (i53, 0)) k false h5) fun r h' => r = fnd P f (d + 1) at' spot ∧ Mod [] h h' := by
      intro hne
      have tail3 : ∀ sp : Int, sp = (if p.1 ≠ 1 ∧ spot < 0 then (at' : Int) else spot) → Ret (flows_Table_find_34_J3 n m (some (b, 0)) (some (i1, 0)) at' sp (some (i53, 0)) k h5) fun r h' => r = fnd P f (d + 1) at' spot ∧ Mod [] h h' := by
        intro sp hsp
        rw [flows_Table_find_34_J3_eq, nnK_some', g5.cell (o := 0) rfl, asInt_int, hfnd, if_neg hne]
        by_cases h0 : p.1 = 0
        · rw [if_pos h0, show (p.1 == 0) = true by simpa using h0, cond_true]
          exact .pure ⟨by rw [hsp], m5⟩
        · rw [if_neg h0, show (p.1 == 0) = false by simpa using h0, cond_false, wrap_succ (by omega), wrap_succ (by omega), show Int.tmod (((at' + 1 : Nat)) : Int) 128 = (((at' + 1) % 128 : Nat) : Int) from rfl, hsp]
          exact (find_loop f n d (k + 1) m ((at' + 1) % 128) _ h5 (by omega) (by omega) (Nat.mod_lt _ (by decide)) t5 g15).mono fun r h' ⟨q1, q2⟩ => ⟨q1, m5.trans q2⟩
      rw [flows_Table_find_34_J1_eq, cond_false, nnK_some', g5.cell (o := 0) rfl, asInt_int]
      by_cases h1 : p.1 = 1
      · rw [show (p.1 != 1) = false by simpa using h1, cond_false, flows_Table_find_34_J2_eq, cond_false]
        exact tail3 _ (by rw [if_neg (by simp [h1])])
      · rw [show (p.1 != 1) = true by simpa using h1, cond_true, flows_Table_find_34_J2_eq]
        by_cases h2 : spot < 0
        · rw [decide_eq_true h2, cond_true]
          exact tail3 _ (by rw [if_pos ⟨h1, h2⟩])
        · rw [decide_eq_false h2, cond_false]
          exact tail3 _ (by rw [if_neg (by simp [h2])])
    rw [g5.cell (o := 0) rfl, asInt_int]
    by_cases h1 : p.1 = 1
    · rw [show (p.1 == 1) = true by simpa using h1, cond_true, g5.agg (vs := encF p.2.f) rfl (by simp), rdF, nnK_some', g15.all (encF_len f), rdF, eqF_dec]
      by_cases h2 : p.2.f = f
      · rw [decide_eq_true h2, flows_Table_find_34_J1_eq, cond_true, hfnd, if_pos ⟨h1, h2⟩]
        exact .pure ⟨rfl, m5⟩
      · rw [decide_eq_false h2]
        exact tail fun h => h2 h.2
    · rw [show (p.1 == 1) = false by simpa using h1, cond_false]
      exact tail fun h => h1 h.1

theorem find_ret {h : H} {b : Nat} {key : List Int} {P : List Pl} {many marks : Nat} (t : Tb h b key P many marks) (f : Fl) (hf : okF f) {n : Nat} (hn : 10000000 ≤ n) :
    Ret (flows_Table_find_34 n (some (b, 0)) f.pr f.fr f.to f.po f.de h) fun r h' => r = fnd P f 128 (sOf key f) (-1) ∧ Mod [] h h' := by
  rw [flows_Table_find_34_eq]
  refine newK_ret fun i1 h1 g1 e1 n1 m1 => ?_
  have t1 := t.mod0 m1
  rw [nnK_some', t1.keyR, At.all (cs := encF f) g1 (encF_len f), rdF]
  refine (Hash_ret h1 t.kb t.klen f hf hn).bind fun r h2 ⟨q1, q2⟩ => ?_
  dsimp only
  have hu := hashF_u64 key f
  unfold u64 at hu
  have e : IntKind.i64.wrap (Int.tmod r 128) = ((sOf key f : Nat) : Int) := by
    rw [q1, Int.tmod_eq_emod_of_nonneg hu.1, wrapi (by omega) (by omega)]
    unfold sOf
    omega
  rw [e]
  exact (find_loop f n 128 0 n (sOf key f) (-1) h2 rfl (by omega) (sOf_lt _ _) (t1.mod0 q2) (g1.mod0 q2)).mono fun r h' ⟨q3, q4⟩ => ⟨q3, (m1.trans q2).trans q4⟩

/-- an entry is laid -/
theorem lay_ret {h : H} {b : Nat} {key : List Int} {P : List Pl} {many marks : Nat} (t : Tb h b key P many marks) (hmany : many < 1000) {i : Nat} {p : Pl} (hp : P[i]? = some p) (hmarks : p.1 = 2 → 0 < marks) (hmarks2 : marks < 1000) (e : En) (n : Nat) :
    Ret (flows_Table_lay_37 n (some (b, 0)) i e.f.pr e.f.fr e.f.to e.f.po e.f.de e.ba e.st e.en h) fun _ h' => Tb h' b key (P.set i (1, e)) (if p.1 = 1 then many else many + 1) (if p.1 = 2 then marks - 1 else marks) ∧ Mod [b] h h' := by
  have hi : i < 128 := by have := (List.getElem?_eq_some_iff.1 hp).1; rw [t.plen] at this; exact this
  rw [flows_Table_lay_37_eq]
  refine newK_ret fun i1 h1 g1 e1 n1 m1 => ?_
  have t1 := t.mod0 m1
  have hne : i1 ≠ b := fun e => by have := t.at'.lt; omega
  have last : ∀ (h2 : H) (x y : Nat), Tb h2 b key P x y → At h2 i1 (.cells (encE e) false) → Mod [b] h h2 → Ret (flows_Table_lay_37_J0 n (some (b, 0)) i (some (i1, 0)) h2) fun _ h' => Tb h' b key (P.set i (1, e)) x y ∧ Mod [b] h h' := by
    intro h2 x y t2 g2 m2
    rw [flows_Table_lay_37_J0_eq, nnK_some', g2.all (encE_len e), rdE, nnK_some', if_pos ⟨by omega, by omega⟩, Int.toNat_natCast]
    exact t2.set hi (1, e) rfl fun h3 t3 n3 m3 => .pure ⟨t3, m2.trans m3⟩
  rw [nnK_some', if_pos ⟨by omega, by omega⟩, Int.toNat_natCast, t1.is hp, asInt_int]
  by_cases hp1 : p.1 = 1
  · rw [show (p.1 != 1) = false by simpa using hp1, cond_false, if_pos hp1, if_neg (by omega)]
    exact last h1 many marks t1 g1 m1.of_nil
  · rw [show (p.1 != 1) = true by simpa using hp1, cond_true, nnK_some', t1.many', asInt_int, nnK_some', if_neg hp1, wrap_succ (by omega)]
    refine t1.setMany (many + 1) rfl fun h2 t2 n2 m2 => ?_
    have g2 := g1.mod m2 (by simpa using hne)
    have mm := m1.of_nil.trans m2
    rw [nnK_some', if_pos ⟨by omega, by omega⟩, t2.is hp, asInt_int]
    by_cases hp2 : p.1 = 2
    · have := hmarks hp2
      rw [show (p.1 == 2) = true by simpa using hp2, cond_true, nnK_some', t2.marks', asInt_int, nnK_some', if_pos hp2, show IntKind.i64.wrap ((marks : Int) - 1) = ((marks - 1 : Nat) : Int) by rw [wrapi (by omega) (by omega)]; omega]
      refine t2.setMarks (marks - 1) rfl fun h3 t3 n3 m3 => ?_
      exact last h3 (many + 1) (marks - 1) t3 (g2.mod m3 (by simpa using hne)) (mm.trans m3)
    · rw [show (p.1 == 2) = false by simpa using hp2, cond_false, if_neg hp2]
      exact last _ (many + 1) marks t2 g2 mm

end Go.Ev.Try
