/- Chapter 10: a call on the document's list, and on a table; rows compared; scripts. -/
import Derived.Test.YtgaflglknjjalaaFw14
set_option linter.all false
namespace Go.Ev.Try
set_option maxRecDepth 10000
open Go.Proofs

structure Opx where
  kd : Int
  fl : Int
  now : Int
  e : En
def encO (o : Opx) : List AV := [.int .i64 o.kd, .int .i64 o.fl, .int .i64 o.now, .int .i64 o.e.f.pr, .str o.e.f.fr, .str o.e.f.to, .int .i64 o.e.f.po, .int .i64 o.e.f.de, .int .i64 o.e.ba, .int .i64 o.e.st, .int .i64 o.e.en]
theorem encO_len (o : Opx) : (encO o).length = 11 := rfl
def okO (o : Opx) : Prop := okF o.e.f

structure Ans where
  l : List En
  ec : Int
  sn : En
  gl : List En

/-- a call -/
def doS (l : List En) (o : Opx) : Ans :=
  if o.kd = 0 then ⟨(openS l o.e.f o.e.ba o.fl o.now).1, (openS l o.e.f o.e.ba o.fl o.now).2, z0, []⟩
  else if o.kd = 1 then ⟨(seeS l o.e.f o.fl o.now).1, if (seeS l o.e.f o.fl o.now).2.2 then 0 else 1, (seeS l o.e.f o.fl o.now).2.1, []⟩
  else if o.kd = 2 then ⟨(putS l o.e o.now).1, (putS l o.e o.now).2, z0, []⟩
  else if o.kd = 3 then ⟨without l o.e.f, if (getE l o.e.f).isSome then 0 else 1, z0, []⟩
  else if o.kd = 4 then ⟨lasting o.now l, 0, z0, goneR o.now l⟩
  else ⟨l, 0, z0, []⟩

def encA (ec : Int) (s : En) (gp : Option (Nat × Nat)) (gn : Nat) (gc : Cap) : List AV := [.int .i64 ec, .int .i64 s.f.pr, .str s.f.fr, .str s.f.to, .int .i64 s.f.po, .int .i64 s.f.de, .int .i64 s.ba, .int .i64 s.st, .int .i64 s.en, .slice gp gn gc]
theorem encA_len (ec : Int) (s : En) (gp : Option (Nat × Nat)) (gn : Nat) (gc : Cap) : (encA ec s gp gn gc).length = 10 := rfl
def tupA (ec : Int) (s : En) (gp : Option (Nat × Nat)) (gn : Nat) (gc : Cap) := (ec, s.f.pr, s.f.fr, s.f.to, s.f.po, s.f.de, s.ba, s.st, s.en, gp, gn, gc)

/-- an answer read -/
theorem rdA {β : Type} (ec : Int) (s : En) (gp : Option (Nat × Nat)) (gn : Nat) (gc : Cap) (k : Int → Int → ByteArray → ByteArray → Int → Int → Int → Int → Int → Option (Nat × Nat) → Nat → Cap → Option β) :
    (lc (encA ec s gp gn gc) fun v l => asInt .i64 v fun x => lc l fun v0 l0' => asInt .i64 v0 fun x0 => lc l0' fun v1 l1 => asStr v1 fun x1 => lc l1 fun v2 l2 => asStr v2 fun x2 => lc l2 fun v3 l3 => asInt .i64 v3 fun x3 => lc l3 fun v4 l4 => asInt .i64 v4 fun x4 => lc l4 fun v5 l5 => asInt .i64 v5 fun x5 => lc l5 fun v6 l6 => asInt .i64 v6 fun x6 => lc l6 fun v7 l7 => asInt .i64 v7 fun x7 => lc l7 fun v8 l8 => asSlice v8 fun y1 y2 y3 => l0 l8 (k x x0 x1 x2 x3 x4 x5 x6 x7 y1 y2 y3)) = k ec s.f.pr s.f.fr s.f.to s.f.po s.f.de s.ba s.st s.en gp gn gc := by
  simp only [encA, lc_cons, asInt_int, asStr_str, asSlice_slice, l0_nil]
/-- a call read -/
theorem rdO {β : Type} (o : Opx) (k : Int → Int → Int → Int → ByteArray → ByteArray → Int → Int → Int → Int → Int → Option β) :
    (lc (encO o) fun v l => asInt .i64 v fun x => lc l fun v' l' => asInt .i64 v' fun x' => lc l' fun v'' l'' => asInt .i64 v'' fun x'' => lc l'' fun v0 l0' => asInt .i64 v0 fun x0 => lc l0' fun v1 l1 => asStr v1 fun x1 => lc l1 fun v2 l2 => asStr v2 fun x2 => lc l2 fun v3 l3 => asInt .i64 v3 fun x3 => lc l3 fun v4 l4 => asInt .i64 v4 fun x4 => lc l4 fun v5 l5 => asInt .i64 v5 fun x5 => lc l5 fun v6 l6 => asInt .i64 v6 fun x6 => lc l6 fun v7 l7 => asInt .i64 v7 fun x7 => l0 l7 (k x x' x'' x0 x1 x2 x3 x4 x5 x6 x7)) = k o.kd o.fl o.now o.e.f.pr o.e.f.fr o.e.f.to o.e.f.po o.e.f.de o.e.ba o.e.st o.e.en := by
  simp only [encO, lc_cons, asInt_int, asStr_str, l0_nil]

/-! ### the document's -/

section
variable {h : H} {n : Nat}

theorem DoJ1_ret {p : Option (Nat × Nat)} {len : Nat} {c : Cap} {i3 i5 : Nat} {ec : Int} {s : En} {gp : Option (Nat × Nat)} {gn : Nat} {gc : Cap} {zs : List AV} (g5 : At h i5 (.cells (encA ec s gp gn gc) false)) (g3 : At h i3 (.cells zs false)) (hz : zs.length = 10) :
    Ret (outriderref10_Do_39_J1 n p len c (some (i3, 0)) (some (i5, 0)) h) fun z h' => z = (p, len, c, tupA ec s gp gn gc) ∧ Mod [i3] h h' := by
  rw [outriderref10_Do_39_J1_eq, nnK_some', g5.all (encA_len ..), rdA, nnK_some']
  refine g3.wr (n := 10) rfl (by omega) rfl fun h2 g n2 m => ?_
  rw [spl_all _ _ (by rw [hz]; rfl)] at g
  rw [nnK_some', At.all (cs := encA ec s gp gn gc) g (encA_len ..), rdA]
  exact .pure ⟨rfl, m⟩

theorem Mod.own_row {a h h' : H} {i : Nat} (m : Mod [i] h h') {p : Option (Nat × Nat)} {len : Nat} {c : Cap} {l : List En} (r : ERow h p len c l) (hi : ∀ x ∈ own p, x ≠ i) : ERow h' p len c l := Row.mod r m fun x hx => by simpa using hi x hx

theorem Do_ret {p : Option (Nat × Nat)} {len : Nat} {c : Cap} {l : List En} (r : ERow h p len c l) (hs : Srt l) (hl : len < 500) (o : Opx) (hn : 10000000 ≤ n) :
    Ret (outriderref10_Do_39 n p len c o.kd o.fl o.now o.e.f.pr o.e.f.fr o.e.f.to o.e.f.po o.e.f.de o.e.ba o.e.st o.e.en h) fun z h' => ∃ q ql qc gp gn gc, z = (q, ql, qc, tupA (doS l o).ec (doS l o).sn gp gn gc) ∧ (ERow h' q ql qc (doS l o).l ∧ Fr h p q) ∧ (ERow h' gp gn gc (doS l o).gl ∧ ∀ x ∈ own gp, h.next ≤ x) ∧ Mod [] h h' := by
  rw [outriderref10_Do_39_eq]
  refine newK_ret fun i1 h1 g1 e1 n1 m1 => ?_
  refine newK_ret fun i3 h3 g3 e3 n3 m3 => ?_
  refine newK_ret fun i5 h5 g5 e5 n5 m5 => ?_
  have g1' : At h5 i1 (.cells (encO o) false) := (g1.mod0 m3).mod0 m5
  have g3' := g3.mod0 m5
  have g5' : At h5 i5 (.cells (encA 0 z0 none 0 (.known 0)) false) := g5
  have mm := (m1.trans m3).trans m5
  have hi3 : h.next ≤ i3 := by omega
  have hi5 : h.next ≤ i5 := by omega
  have h35 : i3 ≠ i5 := by omega
  have r5 := Row.mod0 r mm
  have hpl := Row.lt r
  have hlt : h5.next = h.next + 3 := by omega
  -- the last step
  have last : ∀ (q : Option (Nat × Nat)) (ql : Nat) (qc : Cap) (ec : Int) (s : En) (gp : Option (Nat × Nat)) (gn : Nat) (gc : Cap) (l' gl : List En) (h6 : H), At h6 i5 (.cells (encA ec s gp gn gc) false) → At h6 i3 (.cells [.int .i64 0, .int .i64 0, .str .empty, .str .empty, .int .i64 0, .int .i64 0, .int .i64 0, .int .i64 0, .int .i64 0, .slice none 0 (.known 0)] false) → Mod [] h h6 →
      ERow h6 q ql qc l' → Fr h5 p q → ERow h6 gp gn gc gl → (∀ x ∈ own gp, h5.next ≤ x) → doS l o = ⟨l', ec, s, gl⟩ →
      Ret (outriderref10_Do_39_J1 n q ql qc (some (i3, 0)) (some (i5, 0)) h6) fun z h' => ∃ q ql qc gp gn gc, z = (q, ql, qc, tupA (doS l o).ec (doS l o).sn gp gn gc) ∧ (ERow h' q ql qc (doS l o).l ∧ Fr h p q) ∧ (ERow h' gp gn gc (doS l o).gl ∧ ∀ x ∈ own gp, h.next ≤ x) ∧ Mod [] h h' := by
    intro q ql qc ec s gp gn gc l' gl h6 k5 k3 k6 rq fq rg fg e
    refine (DoJ1_ret k5 k3 rfl).mono fun z h7 ⟨q1, q2⟩ => ?_
    rw [e]
    refine ⟨q, ql, qc, gp, gn, gc, q1, ⟨Mod.own_row (a := h) q2 rq fun x hx => ?_, fun x hx => (fq x hx).imp id fun h => by omega⟩, ⟨Mod.own_row (a := h) q2 rg fun x hx => ?_, fun x hx => by have := fg x hx; omega⟩, Mod.own1 k6 q2 hi3⟩
    · rcases fq x hx with h | h
      · have := hpl x h; omega
      · omega
    · have := fg x hx; omega
  rw [g1'.cell (o := 0) rfl, asInt_int]
  by_cases k0 : o.kd = 0
  · rw [show (o.kd == 0) = true by simpa using k0, cond_true, g1'.agg (vs := encF o.e.f) rfl (by simp [encO]), rdF, g1'.cell (o := 8) rfl, asInt_int, g1'.cell (o := 1) rfl, asInt_int, g1'.cell (o := 2) rfl, asInt_int]
    refine (refOpen_ret r5 (by omega) ⟨o.e.f, o.e.ba, 0, 0⟩ o.fl o.now hn).bind fun z h6 ⟨⟨q1, q2⟩, q3, q4⟩ => ?_
    dsimp only
    refine (g5'.mod0 q4).wr (n := 1) rfl (by simp [encA]) rfl fun h7 g7 n7 m7 => ?_
    have hne : ∀ x ∈ own z.1, x ≠ i5 := fun x hx => by
      rcases q2 x hx with h | h
      · have := hpl x h; omega
      · omega
    exact last z.1 z.2.1 z.2.2.1 (openS l o.e.f o.e.ba o.fl o.now).2 z0 none 0 (.known 0) _ [] h7 (by rw [← q3]; exact g7) ((g3'.mod0 q4).mod m7 (by simpa using h35)) (Mod.own1 (mm.trans q4) m7 hi5) (Mod.own_row (a := h) m7 q1 hne) q2 .nil (by simp) (by unfold doS; rw [if_pos k0])
  · rw [show (o.kd == 0) = false by simpa using k0, cond_false]
    by_cases k1 : o.kd = 1
    · rw [show (o.kd == 1) = true by simpa using k1, cond_true, g1'.agg (vs := encF o.e.f) rfl (by simp [encO]), rdF, g1'.cell (o := 1) rfl, asInt_int, g1'.cell (o := 2) rfl, asInt_int]
      refine (refSee_ret r5 (by omega) o.e.f o.fl o.now hn).bind fun z h6 ⟨q, ql, qc, q0, ⟨q1, q2⟩, q4⟩ => ?_
      subst q0
      dsimp only [tup3E, tupE]
      refine boxK_ret rfl rfl rfl fun i54 h7 g7 e7 n7 m7 => ?_
      rw [At.all (cs := encE (seeS l o.e.f o.fl o.now).2.1) g7 (encE_len _), rdE]
      have q4' := q4.trans m7
      refine (g5'.mod0 q4').wr (n := 8) rfl (by simp [encA]) rfl fun h8 g8 n8 m8 => ?_
      have hne : ∀ x ∈ own q, x ≠ i5 := fun x hx => by
        rcases q2 x hx with h | h
        · have := hpl x h; omega
        · omega
      have g8' : At h8 i5 (.cells (encA 0 (seeS l o.e.f o.fl o.now).2.1 none 0 (.known 0)) false) := g8
      have k8 := Mod.own1 (mm.trans q4') m8 hi5
      have r8 := Mod.own_row (a := h) m8 (Row.mod0 q1 m7) hne
      have g38 := (g3'.mod0 q4').mod m8 (by simpa using h35)
      have hds : doS l o = ⟨(seeS l o.e.f o.fl o.now).1, if (seeS l o.e.f o.fl o.now).2.2 then 0 else 1, (seeS l o.e.f o.fl o.now).2.1, []⟩ := by unfold doS; rw [if_neg k0, if_pos k1]
      cases his : (seeS l o.e.f o.fl o.now).2.2 with
      | true =>
        rw [Bool.not_true, cond_false]
        exact last q ql qc 0 _ none 0 (.known 0) _ [] h8 g8' g38 k8 r8 q2 .nil (by simp) (by rw [hds, his]; rfl)
      | false =>
        rw [Bool.not_false, cond_true]
        refine g8'.wr (n := 1) rfl (by simp [encA]) rfl fun h9 g9 n9 m9 => ?_
        exact last q ql qc 1 _ none 0 (.known 0) _ [] h9 g9 (g38.mod m9 (by simpa using h35)) (Mod.own1 k8 m9 hi5) (Mod.own_row (a := h) m9 r8 hne) q2 .nil (by simp) (by rw [hds, his]; rfl)
    · rw [show (o.kd == 1) = false by simpa using k1, cond_false]
      by_cases k2 : o.kd = 2
      · rw [show (o.kd == 2) = true by simpa using k2, cond_true, g1'.agg (vs := encE o.e) rfl (by simp [encO]), rdE, g1'.cell (o := 2) rfl, asInt_int]
        refine (refPut_ret r5 (by omega) o.e o.now hn).bind fun z h6 ⟨⟨q1, q2⟩, q3, q4⟩ => ?_
        dsimp only
        refine (g5'.mod0 q4).wr (n := 1) rfl (by simp [encA]) rfl fun h7 g7 n7 m7 => ?_
        have hne : ∀ x ∈ own z.1, x ≠ i5 := fun x hx => by
          rcases q2 x hx with h | h
          · have := hpl x h; omega
          · omega
        exact last z.1 z.2.1 z.2.2.1 (putS l o.e o.now).2 z0 none 0 (.known 0) _ [] h7 (by rw [← q3]; exact g7) ((g3'.mod0 q4).mod m7 (by simpa using h35)) (Mod.own1 (mm.trans q4) m7 hi5) (Mod.own_row (a := h) m7 q1 hne) q2 .nil (by simp) (by unfold doS; rw [if_neg k0, if_neg k1, if_pos k2])
      · rw [show (o.kd == 2) = false by simpa using k2, cond_false]
        by_cases k3 : o.kd = 3
        · rw [show (o.kd == 3) = true by simpa using k3, cond_true, g1'.agg (vs := encF o.e.f) rfl (by simp [encO]), rdF]
          have hds : doS l o = ⟨without l o.e.f, if (getE l o.e.f).isSome then 0 else 1, z0, []⟩ := by unfold doS; rw [if_neg k0, if_neg k1, if_neg k2, if_pos k3]
          refine (Find_ret r5 (by omega) o.e.f hn).bind fun z h6 ⟨q1, q2⟩ => ?_
          dsimp only
          have k6 := mm.trans q2
          have J0 : ∀ (ec : Int) (h7 : H), At h7 i5 (.cells (encA ec z0 none 0 (.known 0)) false) → Mod [] h h7 → At h7 i3 (.cells [.int .i64 0, .int .i64 0, .str .empty, .str .empty, .int .i64 0, .int .i64 0, .int .i64 0, .int .i64 0, .int .i64 0, .slice none 0 (.known 0)] false) → At h7 i1 (.cells (encO o) false) → h5.next ≤ h7.next → ec = (if (getE l o.e.f).isSome then 0 else 1) →
              Ret (outriderref10_Do_39_J0 n p len c (some (i1, 0)) (some (i3, 0)) (some (i5, 0)) h7) fun z h' => ∃ q ql qc gp gn gc, z = (q, ql, qc, tupA (doS l o).ec (doS l o).sn gp gn gc) ∧ (ERow h' q ql qc (doS l o).l ∧ Fr h p q) ∧ (ERow h' gp gn gc (doS l o).gl ∧ ∀ x ∈ own gp, h.next ≤ x) ∧ Mod [] h h' := by
            intro ec h7 a5 k7 a3 a1 hle he
            rw [outriderref10_Do_39_J0_eq, nnK_some', Nat.zero_add, a1.agg (vs := encF o.e.f) rfl (by simp [encO]), rdF]
            refine (Without_ret (Row.mod0 r k7) (by omega) o.e.f hn).bind fun y h8 ⟨y1, y2⟩ => ?_
            dsimp only
            exact last y.1 y.2.1 y.2.2 ec z0 none 0 (.known 0) _ [] h8 (a5.mod0 y2) (a3.mod0 y2) (k7.trans y2) y1.row (.new y1 hle) .nil (by simp) (by rw [hds, he])
          rcases findI_cases o.e.f l 0 with ⟨f1, f2⟩ | ⟨k, x, f1, f2, f3⟩
          · rw [q1, f2, show decide ((-1 : Int) < 0) = true by decide, cond_true]
            refine (g5'.mod0 q2).wr (n := 1) rfl (by simp [encA]) rfl fun h7 g7 n7 m7 => ?_
            exact J0 1 h7 g7 (Mod.own1 k6 m7 hi5) ((g3'.mod0 q2).mod m7 (by simpa using h35)) ((g1'.mod0 q2).mod m7 (by simp; omega)) (Nat.le_trans q2.next m7.next) (by rw [f1]; rfl)
          · rw [q1, f3, Nat.zero_add, show decide ((k : Int) < 0) = false by simp, cond_false]
            exact J0 0 h6 (g5'.mod0 q2) k6 (g3'.mod0 q2) (g1'.mod0 q2) q2.next (by rw [f1]; rfl)
        · rw [show (o.kd == 3) = false by simpa using k3, cond_false]
          by_cases k4 : o.kd = 4
          · rw [show (o.kd == 4) = true by simpa using k4, cond_true, g1'.cell (o := 2) rfl, asInt_int]
            refine (refExp_ret r5 hs hl o.now (by omega)).bind fun z h6 ⟨q1, q2, q4⟩ => ?_
            dsimp only
            refine (g5'.mod0 q4).wr (n := 1) rfl (by simp [encA]) rfl fun h7 g7 n7 m7 => ?_
            exact last z.1 z.2.1 z.2.2.1 0 z0 z.2.2.2.1 z.2.2.2.2.1 z.2.2.2.2.2 _ _ h7 g7 ((g3'.mod0 q4).mod m7 (by simpa using h35)) (Mod.own1 (mm.trans q4) m7 hi5) (Mod.own_row (a := h) m7 q1.row fun x hx => by have := (q1.own_ge x hx).1; omega) (.new q1 (Nat.le_refl _)) (Mod.own_row (a := h) m7 q2.row fun x hx => by have := (q2.own_ge x hx).1; omega) (fun x hx => (q2.own_ge x hx).1) (by unfold doS; rw [if_neg k0, if_neg k1, if_neg k2, if_neg k3, if_pos k4])
          · rw [show (o.kd == 4) = false by simpa using k4, cond_false]
            exact last p len c 0 z0 none 0 (.known 0) l [] h5 g5' g3' mm r5 (.refl _ _) .nil (by simp) (by unfold doS; rw [if_neg k0, if_neg k1, if_neg k2, if_neg k3, if_neg k4])

/-! ### on a table -/

theorem plain_loop {a : H} {p : Option (Nat × Nat)} {len : Nat} {c : Cap} {l : List En} (r : ERow a p len c l) (hl : len < 100000) (n : Nat) : ∀ (d i m : Nat) (q : Option (Nat × Nat)) (ql : Nat) (qc : Cap) (h : H), i + d = len → d < m → EGrow a h q ql qc (l.take i) → Mod [] a h →
    Ret (outriderlaw10_plain_24_L0 n m q ql qc p len c len i h) fun z h' => EGrow a h' z.1 z.2.1 z.2.2 l ∧ Mod [] a h'
  | 0, i, m + 1, q, ql, qc, h, hi, _, g, hm => by
    have hlen := Row.len r encE_len (by omega)
    rw [outriderlaw10_plain_24_L0_eq, cast_not_lt (by omega), cond_false]
    rw [List.take_of_length_le (by omega)] at g
    exact .pure ⟨g, hm⟩
  | d + 1, i, m + 1, q, ql, qc, h, hi, hf, g, hm => by
    have hlen := Row.len r encE_len (by omega)
    have hx : l[i]? = some (l[i]'(by omega)) := List.getElem?_eq_getElem _
    generalize l[i]'(by omega) = e at hx
    have ht : l.take (i + 1) = l.take i ++ [e] := by rw [List.take_add_one, hx]; rfl
    have hql : (l.take i).length = ql := Row.len g.row encE_len (by omega)
    rw [List.length_take] at hql
    rw [outriderlaw10_plain_24_L0_eq, cast_lt (by omega), cond_true, Row.ix (Row.mod0 r hm) encE_len (by omega) hx, rdE]
    refine boxK_ret rfl rfl rfl fun i28 h3 g3 e3 n3 m3 => ?_
    rw [At.all (cs := encE e) g3 (encE_len e), rdE, newK_eq]
    refine Grow.push (size := 8) (bytes := 80) (g.mod0 m3) (hm.trans m3).next (xs := encE e) rfl rfl (by omega) (by omega) (by omega) fun p' c' h' g' m' => ?_
    rw [wrap_succ (by omega)]
    exact plain_loop r hl n d (i + 1) m p' (ql + 1) c' h' (by omega) (by omega) (by rw [ht]; exact EGrow.snoc g') ((hm.trans m3).push (g.mod0 m3) m')
theorem plain_ret {p : Option (Nat × Nat)} {len : Nat} {c : Cap} {l : List En} (r : ERow h p len c l) (hl : len < 100000) (hn : 10000000 ≤ n) : Ret (outriderlaw10_plain_24 n p len c h) fun z h' => EGrow h h' z.1 z.2.1 z.2.2 l ∧ Mod [] h h' := by
  rw [outriderlaw10_plain_24_eq]
  exact plain_loop r hl n len 0 n none 0 (.known 0) h (by omega) (by omega) .nil (Mod.refl _ _)

theorem doesJ1_ret {i3 i5 : Nat} {ec : Int} {s : En} {gp : Option (Nat × Nat)} {gn : Nat} {gc : Cap} {zs : List AV} (g5 : At h i5 (.cells (encA ec s gp gn gc) false)) (g3 : At h i3 (.cells zs false)) (hz : zs.length = 10) :
    Ret (outriderlaw10_does_28_J1 n (some (i3, 0)) (some (i5, 0)) h) fun z h' => z = tupA ec s gp gn gc ∧ Mod [i3] h h' := by
  rw [outriderlaw10_does_28_J1_eq, nnK_some', g5.all (encA_len ..), rdA, nnK_some']
  refine g3.wr (n := 10) rfl (by omega) rfl fun h2 g n2 m => ?_
  rw [spl_all _ _ (by rw [hz]; rfl)] at g
  rw [nnK_some', At.all (cs := encA ec s gp gn gc) g (encA_len ..), rdA]
  exact .pure ⟨rfl, m⟩

theorem does_ret {b : Nat} {key : List Int} {l : List En} (t : Tab h b key l) (o : Opx) (ho : okO o) (hn : 10000000 ≤ n) :
    Ret (outriderlaw10_does_28 n (some (b, 0)) o.kd o.fl o.now o.e.f.pr o.e.f.fr o.e.f.to o.e.f.po o.e.f.de o.e.ba o.e.st o.e.en h) fun z h' => ∃ gp gn gc, z = tupA (doS l o).ec (doS l o).sn gp gn gc ∧ Tab h' b key (doS l o).l ∧ ERow h' gp gn gc (doS l o).gl ∧ (∀ x ∈ own gp, h.next ≤ x) ∧ Mod [b] h h' := by
  rw [outriderlaw10_does_28_eq]
  refine newK_ret fun i1 h1 g1 e1 n1 m1 => ?_
  refine newK_ret fun i3 h3 g3 e3 n3 m3 => ?_
  refine newK_ret fun i5 h5 g5 e5 n5 m5 => ?_
  have g1' : At h5 i1 (.cells (encO o) false) := (g1.mod0 m3).mod0 m5
  have g3' := g3.mod0 m5
  have g5' : At h5 i5 (.cells (encA 0 z0 none 0 (.known 0)) false) := g5
  have mm := (m1.trans m3).trans m5
  have hb := t.lt
  have h3b : i3 ∉ [b] := by simp; omega
  have h5b : i5 ∉ [b] := by simp; omega
  have b3 : b ∉ [i3] := by simp; omega
  have b5 : b ∉ [i5] := by simp; omega
  have h35 : i3 ≠ i5 := by omega
  have t5 := t.mod0 mm
  have own' : ∀ {x y : H} {i : Nat}, Mod [b] h x → Mod [i] x y → h.next ≤ i → Mod [b] h y := fun {x y i} k m hi => k.trans' m fun j hj hl => by
    have : j = i := by simpa using hj
    omega
  -- the last steps
  have last : ∀ (ec : Int) (s : En) (gp : Option (Nat × Nat)) (gn : Nat) (gc : Cap) (is : Bool) (l' gl : List En) (h6 : H), At h6 i5 (.cells (encA ec s gp gn gc) false) → At h6 i3 (.cells [.int .i64 0, .int .i64 0, .str .empty, .str .empty, .int .i64 0, .int .i64 0, .int .i64 0, .int .i64 0, .int .i64 0, .slice none 0 (.known 0)] false) → Mod [b] h h6 →
      Tab h6 b key l' → ERow h6 gp gn gc gl → (∀ x ∈ own gp, h5.next ≤ x) → doS l o = ⟨l', if is then ec else 1, s, gl⟩ →
      Ret (outriderlaw10_does_28_J0 n (some (i3, 0)) (some (i5, 0)) is h6) fun z h' => ∃ gp gn gc, z = tupA (doS l o).ec (doS l o).sn gp gn gc ∧ Tab h' b key (doS l o).l ∧ ERow h' gp gn gc (doS l o).gl ∧ (∀ x ∈ own gp, h.next ≤ x) ∧ Mod [b] h h' := by
    intro ec s gp gn gc is l' gl h6 k5 k3 k6 t6 rg fg e
    have fin : ∀ (ec : Int) (h7 : H), At h7 i5 (.cells (encA ec s gp gn gc) false) → At h7 i3 (.cells [.int .i64 0, .int .i64 0, .str .empty, .str .empty, .int .i64 0, .int .i64 0, .int .i64 0, .int .i64 0, .int .i64 0, .slice none 0 (.known 0)] false) → Mod [b] h h7 → Tab h7 b key l' → ERow h7 gp gn gc gl → doS l o = ⟨l', ec, s, gl⟩ →
        Ret (outriderlaw10_does_28_J1 n (some (i3, 0)) (some (i5, 0)) h7) fun z h' => ∃ gp gn gc, z = tupA (doS l o).ec (doS l o).sn gp gn gc ∧ Tab h' b key (doS l o).l ∧ ERow h' gp gn gc (doS l o).gl ∧ (∀ x ∈ own gp, h.next ≤ x) ∧ Mod [b] h h' := by
      intro ec h7 k5 k3 k7 t7 rg e
      refine (doesJ1_ret k5 k3 rfl).mono fun z h8 ⟨q1, q2⟩ => ?_
      rw [e]
      exact ⟨gp, gn, gc, q1, t7.mod q2 b3, Mod.own_row (a := h) q2 rg fun x hx => by have := fg x hx; omega, fun x hx => by have := fg x hx; omega, own' k7 q2 (by omega)⟩
    rw [outriderlaw10_does_28_J0_eq]
    cases is with
    | true =>
      rw [Bool.not_true, cond_false]
      exact fin ec h6 k5 k3 k6 t6 rg (by rw [e]; rfl)
    | false =>
      rw [Bool.not_false, cond_true, nnK_some']
      refine k5.wr (n := 1) rfl (by simp [encA]) rfl fun h7 g7 n7 m7 => ?_
      exact fin 1 h7 g7 (k3.mod m7 (by simpa using h35)) (own' k6 m7 (by omega)) (t6.mod m7 b5) (Mod.own_row (a := h) m7 rg fun x hx => by have := fg x hx; omega) (by rw [e]; rfl)
  rw [g1'.cell (o := 0) rfl, asInt_int]
  by_cases k0 : o.kd = 0
  · rw [show (o.kd == 0) = true by simpa using k0, cond_true, g1'.agg (vs := encF o.e.f) rfl (by simp [encO]), rdF, g1'.cell (o := 8) rfl, asInt_int, g1'.cell (o := 1) rfl, asInt_int, g1'.cell (o := 2) rfl, asInt_int]
    refine (t5.Open o.e.f ho o.e.ba o.fl o.now hn).bind fun z h6 ⟨q1, q2, q4⟩ => ?_
    dsimp only
    refine (g5'.mod q4 h5b).wr (n := 1) rfl (by simp [encA]) rfl fun h7 g7 n7 m7 => ?_
    exact last (openS l o.e.f o.e.ba o.fl o.now).2 z0 none 0 (.known 0) true _ [] h7 (by rw [← q1]; exact g7) ((g3'.mod q4 h3b).mod m7 (by simpa using h35)) (own' (mm.of_nil.trans q4) m7 (by omega)) (q2.mod m7 b5) .nil (by simp) (by unfold doS; rw [if_pos k0]; rfl)
  · rw [show (o.kd == 0) = false by simpa using k0, cond_false]
    by_cases k1 : o.kd = 1
    · rw [show (o.kd == 1) = true by simpa using k1, cond_true, g1'.agg (vs := encF o.e.f) rfl (by simp [encO]), rdF, g1'.cell (o := 1) rfl, asInt_int, g1'.cell (o := 2) rfl, asInt_int]
      refine (t5.See o.e.f ho o.fl o.now hn).bind fun z h6 ⟨q1, q2, q4⟩ => ?_
      subst q1
      dsimp only [tupE]
      refine boxK_ret rfl rfl rfl fun i54 h7 g7 e7 n7 m7 => ?_
      rw [At.all (cs := encE (seeS l o.e.f o.fl o.now).2.1) g7 (encE_len _), rdE]
      refine ((g5'.mod q4 h5b).mod0 m7).wr (n := 8) rfl (by simp [encA]) rfl fun h8 g8 n8 m8 => ?_
      have g8' : At h8 i5 (.cells (encA 0 (seeS l o.e.f o.fl o.now).2.1 none 0 (.known 0)) false) := g8
      exact last 0 _ none 0 (.known 0) _ _ [] h8 g8' (((g3'.mod q4 h3b).mod0 m7).mod m8 (by simpa using h35)) (own' ((mm.of_nil.trans q4).trans m7.of_nil) m8 (by omega)) ((q2.mod0 m7).mod m8 b5) .nil (by simp) (by unfold doS; rw [if_neg k0, if_pos k1])
    · rw [show (o.kd == 1) = false by simpa using k1, cond_false]
      by_cases k2 : o.kd = 2
      · rw [show (o.kd == 2) = true by simpa using k2, cond_true, g1'.agg (vs := encE o.e) rfl (by simp [encO]), rdE, g1'.cell (o := 2) rfl, asInt_int]
        refine (t5.Put o.e ho o.now hn).bind fun z h6 ⟨q1, q2, q4⟩ => ?_
        dsimp only
        refine (g5'.mod q4 h5b).wr (n := 1) rfl (by simp [encA]) rfl fun h7 g7 n7 m7 => ?_
        exact last (putS l o.e o.now).2 z0 none 0 (.known 0) true _ [] h7 (by rw [← q1]; exact g7) ((g3'.mod q4 h3b).mod m7 (by simpa using h35)) (own' (mm.of_nil.trans q4) m7 (by omega)) (q2.mod m7 b5) .nil (by simp) (by unfold doS; rw [if_neg k0, if_neg k1, if_pos k2]; rfl)
      · rw [show (o.kd == 2) = false by simpa using k2, cond_false]
        by_cases k3 : o.kd = 3
        · rw [show (o.kd == 3) = true by simpa using k3, cond_true, g1'.agg (vs := encF o.e.f) rfl (by simp [encO]), rdF]
          refine (t5.Drop o.e.f ho hn).bind fun z h6 ⟨q1, q2, q4⟩ => ?_
          dsimp only
          exact last 0 z0 none 0 (.known 0) z _ [] h6 (g5'.mod q4 h5b) (g3'.mod q4 h3b) (mm.of_nil.trans q4) q2 .nil (by simp) (by unfold doS; rw [if_neg k0, if_neg k1, if_neg k2, if_pos k3, q1])
        · rw [show (o.kd == 3) = false by simpa using k3, cond_false]
          by_cases k4 : o.kd = 4
          · rw [show (o.kd == 4) = true by simpa using k4, cond_true, g1'.cell (o := 2) rfl, asInt_int]
            refine (t5.Expire o.now hn).bind fun z h6 ⟨ys, q1, q2, q3, q4, q5⟩ => ?_
            dsimp only
            have hys : ys = goneR o.now l := q1.unique (goneR_gone t.srt)
            subst hys
            have hyl : (goneR o.now l).length = z.2.1 := Row.len q2 encE_len (by omega)
            have := goneR_len o.now l t.srt
            have := t.len
            refine (plain_ret q2 (by omega) hn).bind fun y h7 ⟨y1, y2⟩ => ?_
            dsimp only
            have gy5 := (g5'.mod q5 h5b).mod0 y2
            refine gy5.wr (n := 1) rfl (by simp [encA]) rfl fun h8 g8 n8 m8 => ?_
            have hfy : ∀ x ∈ own y.1, h5.next ≤ x := fun x hx => Nat.le_trans q5.next (y1.own_ge x hx).1
            exact last 0 z0 y.1 y.2.1 y.2.2 true _ _ h8 g8 (((g3'.mod q5 h3b).mod0 y2).mod m8 (by simpa using h35)) (own' ((mm.of_nil.trans q5).trans y2.of_nil) m8 (by omega)) ((q4.mod0 y2).mod m8 b5) (Mod.own_row (a := h) m8 y1.row fun x hx => by have := hfy x hx; omega) hfy (by unfold doS; rw [if_neg k0, if_neg k1, if_neg k2, if_neg k3, if_pos k4]; rfl)
          · rw [show (o.kd == 4) = false by simpa using k4, cond_false]
            exact last 0 z0 none 0 (.known 0) true l [] h5 g5' g3' mm.of_nil t5 .nil (by simp) (by unfold doS; rw [if_neg k0, if_neg k1, if_neg k2, if_neg k3, if_neg k4]; rfl)

end

end Go.Ev.Try
