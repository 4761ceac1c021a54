/- Chapter 10: rows compared; scripts; alive. -/
import Derived.Test.YtgaflglknjjalaaFw15
set_option linter.all false
namespace Go.Ev.Try
set_option maxRecDepth 10000
open Go.Proofs

theorem eqE_dec (a b : En) : (((a.f.pr == b.f.pr) && ((a.f.fr.toList == b.f.fr.toList) && ((a.f.to.toList == b.f.to.toList) && ((a.f.po == b.f.po) && ((a.f.de == b.f.de) && true))))) && ((a.ba == b.ba) && ((a.st == b.st) && ((a.en == b.en) && true)))) = decide (a = b) := by
  rw [eqF_dec]
  cases a; cases b
  simp only [En.mk.injEq, Bool.and_true]
  rw [Bool.eq_iff_iff]
  simp

section
variable {h : H} {n : Nat}

theorem Same_loop {p q : Option (Nat × Nat)} {len ql : Nat} {c qc : Cap} {l m : List En} (r : ERow h p len c l) (s : ERow h q ql qc m) (hl : len < 100000) (he : len = ql) : ∀ (d i k : Nat), i + d = len → d < k →
    outriderref10_Same_23_L0 n k p len c q ql qc i h = some (decide (l.drop i = m.drop i), h)
  | 0, i, k + 1, hi, _ => by
    have h1 := Row.len r encE_len (by omega)
    have h2 := Row.len s encE_len (by omega)
    rw [outriderref10_Same_23_L0_eq, cast_not_lt (by omega), cond_false, List.drop_of_length_le (by omega), List.drop_of_length_le (by omega)]
    rfl
  | d + 1, i, k + 1, hi, hk => by
    have h1 := Row.len r encE_len (by omega)
    have h2 := Row.len s encE_len (by omega)
    have hx : l[i]? = some (l[i]'(by omega)) := List.getElem?_eq_getElem _
    have hy : m[i]? = some (m[i]'(by omega)) := List.getElem?_eq_getElem _
    rw [outriderref10_Same_23_L0_eq, cast_lt (by omega), cond_true, List.drop_eq_getElem_cons (by omega : i < l.length), List.drop_eq_getElem_cons (by omega : i < m.length)]
    generalize l[i]'(by omega) = x at hx
    generalize m[i]'(by omega) = y at hy
    rw [Row.ix r encE_len (by omega) hx, rdE, Row.ix s encE_len (by omega) hy, rdE, eqE_dec]
    by_cases e : x = y
    · rw [decide_eq_true e, Bool.not_true, cond_false, wrap_succ (by omega), Same_loop r s hl he d (i + 1) k (by omega) (by omega)]
      simp [e]
    · rw [decide_eq_false e, Bool.not_false, cond_true]
      simp [e]
theorem Same_eq {p q : Option (Nat × Nat)} {len ql : Nat} {c qc : Cap} {l m : List En} (r : ERow h p len c l) (s : ERow h q ql qc m) (hl : len < 100000) (hn : 10000000 ≤ n) : outriderref10_Same_23 n p len c q ql qc h = some (decide (l = m), h) := by
  have h1 := Row.len r encE_len (by omega)
  have h2 := Row.len s encE_len (by omega)
  rw [outriderref10_Same_23_eq]
  by_cases e : len = ql
  · rw [show ((len : Int) != (ql : Int)) = false by simp; omega, cond_false]
    have := Same_loop (n := n) r s hl e len 0 n (by omega) (by omega)
    rw [List.drop_zero, List.drop_zero] at this
    exact this
  · rw [show ((len : Int) != (ql : Int)) = true by simp; omega, cond_true, decide_eq_false fun h => by subst h; omega]

/-- a script on the list -/
def run (l : List En) (os : List Opx) : List En := os.foldl (fun l o => (doS l o).l) l
theorem run_snoc (l : List En) (os : List Opx) (o : Opx) : run l (os ++ [o]) = (doS (run l os) o).l := by unfold run; rw [List.foldl_append]; rfl
abbrev ORow (h : H) (p : Option (Nat × Nat)) (len : Nat) (c : Cap) (os : List Opx) : Prop := Row h 11 p len c (os.flatMap encO)

theorem plays_loop {a : H} {b : Nat} {key : List Int} {sp : Option (Nat × Nat)} {sl : Nat} {sc : Cap} {os : List Opx} (hs : ORow a sp sl sc os) (hsl : os.length < 100000) (hsb : ∀ x ∈ own sp, x ≠ b) (hok : ∀ o ∈ os, okO o) (hn : 10000000 ≤ n) {l : List En} : ∀ (d i m : Nat) (p : Option (Nat × Nat)) (len : Nat) (c : Cap) (h : H), i + d = sl → d < m →
    Tab h b key (run l (os.take i)) → ERow h p len c (run l (os.take i)) → (∀ x ∈ own p, x ≠ b) → Mod [b] a h →
    Ret (outriderlaw10_plays_22_L0 n m (some (b, 0)) p len c sp sl sc sl i h) fun z h' => ∃ q ql qc, z = (q, ql, qc, true) ∧ ERow h' q ql qc (run l os) ∧ (∀ x ∈ own q, x ≠ b) ∧ Tab h' b key (run l os) ∧ Mod [b] a h'
  | 0, i, m + 1, p, len, c, h, hi, _, t, r, hp, hm => by
    have hlen := Row.len hs encO_len (by omega)
    rw [outriderlaw10_plays_22_L0_eq, cast_not_lt (by omega), cond_false]
    rw [List.take_of_length_le (by omega)] at t r
    exact .pure ⟨p, len, c, rfl, r, hp, t, hm⟩
  | d + 1, i, m + 1, p, len, c, h, hi, hf, t, r, hp, hm => by
    have hlen := Row.len hs encO_len (by omega)
    have hx : os[i]? = some (os[i]'(by omega)) := List.getElem?_eq_getElem _
    generalize os[i]'(by omega) = o at hx
    have ht : run l (os.take (i + 1)) = (doS (run l (os.take i)) o).l := by rw [List.take_add_one, hx, Option.toList_some, run_snoc]
    rw [outriderlaw10_plays_22_L0_eq, cast_lt (by omega), cond_true, Row.ix (Row.mod hs hm fun x hx => by simpa using hsb x hx) encO_len (by omega) hx, rdO]
    refine boxK_ret rfl rfl rfl fun i37 h3 g3 e3 n3 m3 => ?_
    have g3' : At h3 i37 (.cells (encO o) false) := g3
    have hb := t.lt
    have hlr := Row.len r encE_len (by omega)
    have hl64 := t.len
    rw [g3'.all (encO_len o), rdO]
    refine (Do_ret (Row.mod0 r m3) t.srt (by omega) o hn).bind fun z h4 ⟨q, ql, qc, gp, gn, gc, q0, ⟨q1, q2⟩, ⟨q3, q4⟩, q5⟩ => ?_
    subst q0
    dsimp only [tupA]
    refine boxK_ret rfl rfl rfl fun i75 h5 g5 e5 n5 m5 => ?_
    have g5' : At h5 i75 (.cells (encA (doS (run l (os.take i)) o).ec (doS (run l (os.take i)) o).sn gp gn gc) false) := g5
    have m35 := q5.trans m5
    have m05 := m3.trans m35
    rw [(g3'.mod0 m35).all (encO_len o), rdO]
    refine (does_ret (t.mod0 m05) o (hok o (List.mem_of_getElem? hx)) hn).bind fun z h6 ⟨dp, dn, dc, d0, d1, d2, d3, d4⟩ => ?_
    subst d0
    dsimp only [tupA]
    refine boxK_ret rfl rfl rfl fun i113 h7 g7 e7 n7 m7 => ?_
    have g7' : At h7 i113 (.cells (encA (doS (run l (os.take i)) o).ec (doS (run l (os.take i)) o).sn dp dn dc) false) := g7
    have hqb : ∀ x ∈ own q, x ≠ b := fun x hx => by
      rcases q2 x hx with h | h
      · exact hp x h
      · have := m3.next; omega
    have hgb : ∀ x ∈ own gp, x ≠ b := fun x hx => by have := q4 x hx; have := m3.next; omega
    have l04 := (m3.trans q5).next
    have g57 := (g5'.mod d4 (by simp; omega)).mod0 m7
    have r7 : ERow h7 q ql qc (doS (run l (os.take i)) o).l := Row.mod0 (Row.mod (Row.mod0 q1 m5) d4 fun x hx => by simpa using hqb x hx) m7
    have rg7 : ERow h7 gp gn gc (doS (run l (os.take i)) o).gl := Row.mod0 (Row.mod (Row.mod0 q3 m5) d4 fun x hx => by simpa using hgb x hx) m7
    have t7 := d1.mod0 m7
    rw [g7'.cell (o := 0) rfl, asInt_int, g57.cell (o := 0) rfl, asInt_int, show ((doS (run l (os.take i)) o).ec != (doS (run l (os.take i)) o).ec) = false by simp, cond_false, g7'.agg (vs := encE (doS (run l (os.take i)) o).sn) rfl (by simp [encA]), rdE, g57.agg (vs := encE (doS (run l (os.take i)) o).sn) rfl (by simp [encA]), rdE, eqE_dec, decide_eq_true rfl, Bool.not_true, cond_false, g7'.cell (o := 9) rfl, asSlice_slice, g57.cell (o := 9) rfl, asSlice_slice]
    have hgl : (doS (run l (os.take i)) o).gl.length = dn := Row.len d2 encE_len (by omega)
    have hgll : (doS (run l (os.take i)) o).gl.length ≤ 64 := by
      unfold doS
      repeat' split
      all_goals first | (simp; done) | exact Nat.le_trans (goneR_len _ _ t.srt) t.len
    rw [Same_eq (Row.mod0 d2 m7) rg7 (by omega) hn, Option.bind_some, decide_eq_true rfl]
    dsimp only
    rw [Bool.not_true, cond_false, t7.Len_eq, Option.bind_some]
    dsimp only
    have hql : (doS (run l (os.take i)) o).l.length = ql := Row.len r7 encE_len (by omega)
    rw [show (((doS (run l (os.take i)) o).l.length : Int) != (ql : Int)) = false by simp; omega, outriderlaw10_plays_22_J1_eq, cond_false, wrap_succ (by omega)]
    have hm7 : Mod [b] a h7 := ((hm.trans m05.of_nil).trans d4).trans m7.of_nil
    exact plays_loop hs hsl hsb hok hn d (i + 1) m q ql qc h7 (by omega) (by omega) (by rw [ht]; exact t7) (by rw [ht]; exact r7) hqb hm7

theorem plays_ret {b : Nat} {key : List Int} {sp : Option (Nat × Nat)} {sl : Nat} {sc : Cap} {os : List Opx} (hs : ORow h sp sl sc os) (hsl : os.length < 100000) (hsb : ∀ x ∈ own sp, x ≠ b) (hok : ∀ o ∈ os, okO o) (hn : 10000000 ≤ n) (t : Tab h b key []) :
    Ret (outriderlaw10_plays_22 n (some (b, 0)) none 0 (.known 0) sp sl sc h) fun z h' => ∃ q ql qc, z = (q, ql, qc, true) ∧ ERow h' q ql qc (run [] os) ∧ (∀ x ∈ own q, x ≠ b) ∧ Tab h' b key (run [] os) ∧ Mod [b] h h' := by
  have hlen := Row.len hs encO_len (by omega)
  rw [outriderlaw10_plays_22_eq]
  exact plays_loop (l := []) hs hsl hsb hok hn sl 0 n none 0 (.known 0) h (by omega) (by omega) t .nil (by simp) (Mod.refl _ _)

/-! ### alive -/

def fA : Fl := ⟨6, ⟨#[97]⟩, ⟨#[98]⟩, 1, 2⟩
def e1A : En := ⟨fA, 3, 1, 160⟩
def e2A : En := ⟨fA, 3, 2, 1010⟩

theorem alive_ret (h : H) (hn : 10000000 ≤ n) : Ret (outriderlaw10_alive_10 n h) fun r h' => r = true ∧ Mod [] h h' := by
  have okA : okF fA := ⟨by decide, by decide⟩
  rw [outriderlaw10_alive_10_eq]
  have hk : Bytes (List.replicate 16 0) := fun x hx => by rw [List.eq_of_mem_replicate hx]; exact ⟨by decide, by decide⟩
  refine (New_ret h hk (by simp) n).bind fun z h1 ⟨b, z1, z2, t1, m1⟩ => ?_
  subst z1
  dsimp only
  rw [eqVK_ptr Try.underlying33, Option.isNone_some, cond_false]
  have own' : ∀ {x y : H}, Mod [] h x → Mod [b] x y → Mod [] h y := fun k m => k.trans' m fun j hj hl => by
    have : j = b := by simpa using hj
    omega
  refine boxK_ret rfl rfl rfl fun i3 h3 g3 e3 n3 m3 => ?_
  have g3' : At h3 i3 (.cells (encF fA) false) := g3
  have hb := t1.lt
  have hi3 : i3 ∉ [b] := by simp; omega
  rw [g3'.all (encF_len fA), rdF]
  refine ((t1.mod0 m3).Open fA okA 3 2 100 hn).bind fun z h4 ⟨q1, q2, q3⟩ => ?_
  have o1 : openS [] fA 3 2 100 = ([e1A], 0) := by decide +kernel
  rw [o1] at q1 q2
  dsimp only at q1 q2
  subst q1
  dsimp only
  have g4 := g3'.mod q3 hi3
  have k4 := own' (m1.trans m3) q3
  rw [g4.all (encF_len fA), rdF]
  refine (q2.Get fA okA hn).bind fun z h5 ⟨y1, y2⟩ => ?_
  have o2 : getE [e1A] fA = some e1A := by decide +kernel
  rw [o2] at y1
  subst y1
  dsimp only [tupE, Option.getD_some]
  refine boxK_ret rfl rfl rfl fun i40 h6 g6 e6 n6 m6 => ?_
  have g6' : At h6 i40 (.cells (encE e1A) false) := g6
  have k6 := (k4.trans y2).trans m6
  have g36 := (g4.mod0 y2).mod0 m6
  have t6 := (q2.mod0 y2).mod0 m6
  rw [g36.all (encF_len fA), rdF]
  refine (t6.See fA okA 16 110 hn).bind fun z h7 ⟨x1, x2, x3⟩ => ?_
  have o3 : seeS [e1A] fA 16 110 = ([e2A], e2A, true) := by decide +kernel
  rw [o3] at x1 x2
  subst x1
  dsimp only [tupE] at x2 ⊢
  have k7 := own' k6 x3
  have hb6 := t6.lt
  have g37 := g36.mod x3 hi3
  have g67 := g6'.mod x3 (by simp; have := t1.lt; have := (m3.of_nil.trans q3).next; have := y2.next; omega)
  refine boxK_ret rfl rfl rfl fun i60 h8 g8 e8 n8 m8 => ?_
  have g8' : At h8 i60 (.cells (encE e2A) false) := g8
  refine ((x2.mod0 m8).Expire 2000 hn).bind fun z h9 ⟨ys, w1, w2, w3, w4, w5⟩ => ?_
  dsimp only
  have hys : ys = [e2A] := w1.unique (l := [e2A]) ⟨by rw [show ended 2000 [e2A] = [e2A] by decide +kernel], by simp [SrtN]⟩
  subst hys
  have hzl : ([e2A] : List En).length = z.2.1 := Row.len w2 encE_len (by omega)
  rw [show lasting 2000 [e2A] = [] by decide +kernel] at w4
  have l8 := m8.next
  have l7 := x3.next
  have k9 := own' (k7.trans m8) w5
  rw [show ((0 : Int) == 0) = true from rfl, cond_true, Option.isSome_some, cond_true]
  rw [((g67.mod0 m8).mod w5 (by simp; have := t1.lt; have := (m3.of_nil.trans q3).next; have := y2.next; omega)).all (encE_len e1A), rdE, ((g37.mod0 m8).mod w5 hi3).all (encF_len fA), rdF]
  have e0 : (((e1A.f.pr == fA.pr) && ((e1A.f.fr.toList == fA.fr.toList) && ((e1A.f.to.toList == fA.to.toList) && ((e1A.f.po == fA.po) && ((e1A.f.de == fA.de) && true))))) && ((e1A.ba == 3) && ((e1A.st == 1) && ((e1A.en == 160) && true)))) = true := by decide +kernel
  have g89 := g8'.mod w5 (by simp; omega)
  rw [e0, cond_true, cond_true, g89.cell (o := 6) rfl, asInt_int, show (e2A.st == 2) = true from rfl, cond_true, g89.cell (o := 7) rfl, asInt_int, show (e2A.en == 1010) = true from rfl, cond_true, ← hzl, show ((Nat.cast ([e2A] : List En).length : Int) == 1) = true from rfl, cond_true, w4.Len_eq, Option.bind_some]
  dsimp only
  rw [show ((([] : List En).length : Int) == 0) = true from rfl, cond_true, Life_eq, Option.bind_some]
  exact .pure ⟨rfl, k9⟩

end

end Go.Ev.Try
