/- Chapter 10: Expire; New. -/
import Derived.Test.YtgaflglknjjalaaFw10
set_option linter.all false
namespace Go.Ev.Try
set_option maxRecDepth 10000
open Go.Proofs

def SrtN (l : List En) : Prop := l.Pairwise fun x y => cmpN x y < 0
theorem cmpN_swap (x y : En) : cmpN y x = - cmpN x y := cmpN_cmp.swap (x.en, x.f) (y.en, y.f)
theorem cmpN_zero {x y : En} (h : cmpN x y = 0) : x.en = y.en ∧ x.f = y.f := by
  have := (cmpN_cmp.zero (x.en, x.f) (y.en, y.f)).1 h
  exact ⟨(Prod.mk.inj this).1, (Prod.mk.inj this).2⟩
theorem SrtN.eq {l m : List En} (h : SrtN l) (k : SrtN m) (hp : l.Perm m) : l = m :=
  List.Perm.eq_of_pairwise (le := fun x y : En => cmpN x y < 0) (fun a b _ _ h1 h2 => by have := cmpN_swap a b; omega) h k hp

theorem sortExp_ret {a h : H} {p : Option (Nat × Nat)} {len : Nat} {c : Cap} {xs : List En} (g : Grow a h 8 p len c (xs.flatMap encE)) (hm : Mod [] a h) (hl : xs.length < 1000000) (hu : Dist xs) {n : Nat} (hn : 100 ≤ n) :
    Ret (flows_Entry_40_f45 n p len c h) fun _ h' => ∃ ys, ys.Perm xs ∧ SrtN ys ∧ Grow a h' 8 p len c (ys.flatMap encE) ∧ Mod [] a h' := by
  rw [flows_Entry_40_f45_eq]
  obtain ⟨ys, h', q1, q2, q3, q4, q5, q6⟩ := g.sortK (dec := decE) (cf := cmpN) decE_enc encE_len (by omega) encE_plain (by omega) (ordN hu.uniq) (cmp := fun u v h => lc u fun v1 l2 => asInt .i64 v1 fun x3 => lc l2 fun v4 l5 => asStr v4 fun x6 => lc l5 fun v7 l8 => asStr v7 fun x9 => lc l8 fun v10 l11 => asInt .i64 v10 fun x12 => lc l11 fun v13 l14 => asInt .i64 v13 fun x15 => lc l14 fun v16 l17 => asInt .i64 v16 fun x18 => lc l17 fun v19 l20 => asInt .i64 v19 fun x21 => lc l20 fun v22 l23 => asInt .i64 v22 fun x24 => l0 l23 (lc v fun v25 l26 => asInt .i64 v25 fun x27 => lc l26 fun v28 l29 => asStr v28 fun x30 => lc l29 fun v31 l32 => asStr v31 fun x33 => lc l32 fun v34 l35 => asInt .i64 v34 fun x36 => lc l35 fun v37 l38 => asInt .i64 v37 fun x39 => lc l38 fun v40 l41 => asInt .i64 v40 fun x42 => lc l41 fun v43 l44 => asInt .i64 v43 fun x45 => lc l44 fun v46 l47 => asInt .i64 v46 fun x48 => l0 l47 (flows_Table_Expire_1_45 n x3 x6 x9 x12 x15 x18 x21 x24 x27 x30 x33 x36 x39 x42 x45 x48 h))) (fun h' hn' hg x hx y hy => by
    rw [rdE, rdE]
    obtain ⟨r, h2, e, k1, k2, k3⟩ := ExpCmp_ret x y h'.freeze hn
    exact ⟨h2, by rw [e, k1], by rw [k2]; show h'.next + 6 ≤ _; omega⟩)
  rw [q3]
  refine .pure ⟨ys, q1, ?_, q4, hm.push g ⟨q5, fun j _ hj => q6 j hj⟩⟩
  exact (List.Pairwise.and q2 (hu.perm q1)).imp fun {x y} ⟨h1, h2⟩ => by
    have := cmpN_swap x y
    by_cases e : cmpN x y = 0
    · exact absurd (cmpN_zero e).2 h2
    · omega

/-! ### in the list's words -/

def ended (now : Int) (l : List En) : List En := l.filter fun e => decide (e.en ≤ now)
def lasting (now : Int) (l : List En) : List En := l.filter fun e => !decide (e.en ≤ now)
/-- those that have ended, by their ends -/
structure Gone (now : Int) (l ys : List En) : Prop where
  perm : ys.Perm (ended now l)
  srt : SrtN ys

theorem ended_snoc {P : List Pl} {i : Nat} {p : Pl} (hp : P[i]? = some p) (now : Int) : ended now (used (P.take (i + 1))) = ended now (used (P.take i)) ++ if p.1 = 1 ∧ p.2.en ≤ now then [p.2] else [] := by
  rw [used_snoc hp]
  unfold ended
  rw [List.filter_append]
  congr 1
  by_cases h : p.1 = 1
  · by_cases h2 : p.2.en ≤ now <;> simp [h, h2]
  · simp [h]
theorem ended_len (now : Int) (l : List En) : (ended now l).length ≤ l.length := List.length_filter_le _ _

theorem Exp_loop0 {now : Int} {a : H} {b : Nat} {P : List Pl} (hP : P.length = 128) (hd : Dist (ended now (used P))) {n : Nat} (hn : 100 ≤ n) {Q : (Option (Nat × Nat) × Nat × Cap) → H → Prop}
    (K : ∀ ys p len c h, ys.Perm (ended now (used P)) → SrtN ys → Grow a h 8 p len c (ys.flatMap encE) → Mod [] a h → Ret (flows_Table_Expire_29_L2 n n (some (b, 0)) p len c p len c len 0 h) Q) : ∀ (d i m : Nat) (p : Option (Nat × Nat)) (len : Nat) (c : Cap) (h : H), i + d = 128 → d < m → Grow a h 8 p len c ((ended now (used (P.take i))).flatMap encE) → Mod [] a h →
    Ret (flows_Table_Expire_29_L0 n m (some (b, 0)) now p len c (P.flatMap encP) i h) Q
  | 0, i, m + 1, p, len, c, h, hi, _, g, hm => by
    obtain rfl : i = 128 := by omega
    rw [List.take_of_length_le (by omega)] at g
    rw [flows_Table_Expire_29_L0_eq, show decide (((128 : Nat) : Int) < 128) = false by decide, cond_false]
    have := used_len P
    have := ended_len now (used P)
    exact (sortExp_ret g hm (by omega) hd hn).bind fun _ h' ⟨ys, q1, q2, q3, q4⟩ => K ys p len c h' q1 q2 q3 q4
  | d + 1, i, m + 1, p, len, c, h, hi, hf, g, hm => by
    have hp : P[i]? = some (P[i]'(by omega)) := List.getElem?_eq_getElem _
    generalize P[i]'(by omega) = x at hp
    have hlen : (ended now (used (P.take i))).length = len := Row.len g.row encE_len (by omega)
    have hul := used_len (P.take i)
    have hel := ended_len now (used (P.take i))
    rw [List.length_take] at hul
    rw [flows_Table_Expire_29_L0_eq, show decide ((i : Int) < 128) = true by simp; omega, cond_true, if_pos ⟨by omega, by omega⟩, Int.toNat_natCast, Nat.zero_add, flat_at encP_len hp, rdP]
    refine boxK_ret rfl rfl rfl fun i31 h3 g3 e3 n3 m3 => ?_
    have hs := ended_snoc hp now
    have no : ¬ (x.1 = 1 ∧ x.2.en ≤ now) → Ret (flows_Table_Expire_29_J1 n m (some (b, 0)) now p len c (some (i31, 0)) (P.flatMap encP) i false h3) Q := by
      intro hne
      rw [if_neg hne, List.append_nil] at hs
      rw [flows_Table_Expire_29_J1_eq, cond_false, wrap_succ (by omega)]
      refine Exp_loop0 hP hd hn K d (i + 1) m p len c h3 (by omega) (by omega) ?_ (hm.trans m3)
      rw [hs]; exact g.mod0 m3
    rw [g3.cell (o := 0) rfl, asInt_int]
    by_cases h1 : x.1 = 1
    · rw [show (x.1 == 1) = true by simpa using h1, cond_true, g3.cell (o := 8) rfl, asInt_int]
      by_cases h2 : x.2.en ≤ now
      · rw [if_pos ⟨h1, h2⟩] at hs
        rw [decide_eq_true h2, flows_Table_Expire_29_J1_eq, cond_true, nnK_some', g3.agg (vs := encE x.2) rfl (by simp), rdE, newK_eq]
        refine (g.mod0 m3).push (size := 8) (bytes := 80) (hm.trans m3).next (xs := encE x.2) rfl rfl (by omega) (by omega) (by omega) fun p' c' h' g' m' => ?_
        rw [wrap_succ (by omega)]
        refine Exp_loop0 hP hd hn K d (i + 1) m p' (len + 1) c' h' (by omega) (by omega) ?_ ((hm.trans m3).push (g.mod0 m3) m')
        rw [hs, List.flatMap_append]
        simpa using g'
      · rw [decide_eq_false h2]
        exact no fun h => h2 h.2
    · rw [show (x.1 == 1) = false by simpa using h1, cond_false]
      exact no fun h => h1 h.1

/-- all of these dropped -/
def dropAll (l : List En) : List En → List En
  | [] => l
  | g :: gs => dropAll (without l g.f) gs
theorem dropAll_snoc (l : List En) : ∀ (gs : List En) (g : En), dropAll l (gs ++ [g]) = without (dropAll l gs) g.f
  | [], g => rfl
  | x :: gs, g => dropAll_snoc (without l x.f) gs g
theorem mem_dropAll {x : En} : ∀ {gs l : List En}, x ∈ dropAll l gs ↔ x ∈ l ∧ ∀ g ∈ gs, x.f ≠ g.f
  | [], l => by simp [dropAll]
  | g :: gs, l => by
    unfold dropAll
    rw [mem_dropAll, mem_without]
    simp only [List.mem_cons, forall_eq_or_imp, and_assoc]
theorem dropAll_srt : ∀ {gs l : List En}, Srt l → Srt (dropAll l gs)
  | [], _, h => h
  | g :: gs, _, h => dropAll_srt (gs := gs) (h.without g.f)
theorem dropAll_ended {now : Int} {l ys : List En} (hs : Srt l) (hy : ∀ x, x ∈ ys ↔ x ∈ ended now l) : dropAll l ys = lasting now l := by
  refine (dropAll_srt hs).eq (List.Pairwise.sublist List.filter_sublist hs) fun x => ?_
  rw [mem_dropAll]
  unfold lasting
  rw [List.mem_filter]
  refine and_congr_right fun hx => ?_
  constructor
  · intro h
    simp only [Bool.not_eq_true', decide_eq_false_iff_not]
    intro he
    exact h x ((hy x).2 (by unfold ended; rw [List.mem_filter]; exact ⟨hx, decide_eq_true he⟩)) rfl
  · intro h g hg e
    have hg' := (hy g).1 hg
    unfold ended at hg'
    rw [List.mem_filter] at hg'
    have := hs.inj x hx g hg'.1 e
    subst this
    simp only [Bool.not_eq_true', decide_eq_false_iff_not] at h
    exact h (of_decide_eq_true hg'.2)

theorem Exp_loop2 {a : H} {b : Nat} {key : List Int} {l ys : List En} {p : Option (Nat × Nat)} {len : Nat} {c : Cap} (hr : Row a 8 p len c (ys.flatMap encE)) (hb : ∀ x ∈ own p, x ≠ b) (ho : ∀ e ∈ ys, okF e.f) (hl : ys.length < 1000) {n : Nat} (hn : 10000000 ≤ n) :
    ∀ (d i m : Nat) (h : H), i + d = ys.length → d < m → Tab h b key (dropAll l (ys.take i)) → Mod [b] a h →
    Ret (flows_Table_Expire_29_L2 n m (some (b, 0)) p len c p len c len i h) fun z h' => z = (p, len, c) ∧ Tab h' b key (dropAll l ys) ∧ Mod [b] a h'
  | 0, i, m + 1, h, hi, _, t, hm => by
    have hlen := hr.len encE_len (by omega)
    rw [flows_Table_Expire_29_L2_eq, cast_not_lt (by omega), cond_false]
    rw [List.take_of_length_le (by omega)] at t
    exact .pure ⟨rfl, t, hm⟩
  | d + 1, i, m + 1, h, hi, hf, t, hm => by
    have hlen := hr.len encE_len (by omega)
    have hx : ys[i]? = some (ys[i]'(by omega)) := List.getElem?_eq_getElem _
    generalize ys[i]'(by omega) = e at hx
    rw [flows_Table_Expire_29_L2_eq, cast_lt (by omega), cond_true, (hr.mod hm fun x hx => by simpa using hb x hx).ix encE_len (by omega) hx, rdE]
    refine boxK_ret rfl rfl rfl fun i9 h4 g4 e4 n4 m4 => ?_
    rw [g4.agg (vs := encF e.f) rfl (by simp), rdF]
    refine ((t.mod0 m4).Drop e.f (ho e (List.mem_of_getElem? hx)) hn).bind fun z h5 ⟨_, q2, q3⟩ => ?_
    dsimp only
    rw [wrap_succ (by omega)]
    refine Exp_loop2 hr hb ho hl hn d (i + 1) m h5 (by omega) (by omega) ?_ ((hm.trans m4.of_nil).trans q3)
    rw [List.take_add_one, hx, Option.toList_some, dropAll_snoc]
    exact q2

theorem Tab.Expire {h : H} {b : Nat} {key : List Int} {l : List En} {n : Nat} (t : Tab h b key l) (now : Int) (hn : 10000000 ≤ n) :
    Ret (flows_Table_Expire_29 n (some (b, 0)) now h) fun z h' => ∃ ys, Gone now l ys ∧ Row h' 8 z.1 z.2.1 z.2.2 (ys.flatMap encE) ∧ (∀ x ∈ own z.1, h.next ≤ x) ∧ Tab h' b key (lasting now l) ∧ Mod [b] h h' := by
  obtain ⟨P, tb, r, hmk, hl, ho⟩ := t.ex
  rw [flows_Table_Expire_29_eq, nnK_some', tb.places]
  have hmem : ∀ x, x ∈ ended now (used P) ↔ x ∈ ended now l := fun x => by unfold ended; rw [List.mem_filter, List.mem_filter, r.mem]
  refine Exp_loop0 (n := n) tb.plen (List.Pairwise.sublist List.filter_sublist r.inv.dist) (by omega) (fun ys p len c h1 q1 q2 q3 q4 => ?_) 128 0 n none 0 (.known 0) h (by omega) (by omega) .nil (Mod.refl _ _)
  have hy : ∀ x, x ∈ ys ↔ x ∈ ended now l := fun x => by rw [q1.mem_iff, hmem]
  have hown : ∀ x ∈ own p, x ≠ b := fun x hx e => by have := (q3.own_ge x hx).1; have := t.lt; omega
  have hyl : ys.length < 1000 := by
    rw [q1.length_eq]
    have := ended_len now (used P)
    have := r.length
    omega
  refine (Exp_loop2 (l := l) q3.row hown (fun e he => ho e (List.mem_filter.1 ((hy e).1 he)).1) hyl hn ys.length 0 n h1 (by omega) (by omega) (t.mod0 q4) (Mod.refl _ _)).mono fun z h' ⟨k1, k2, k3⟩ => ?_
  rw [dropAll_ended r.srt hy] at k2
  subst k1
  exact ⟨ys, ⟨q1.trans (by unfold ended; exact r.perm.symm.filter _), q2⟩, q3.row.mod k3 fun x hx => by simpa using hown x hx, fun x hx => (q3.own_ge x hx).1, k2, q4.of_nil.trans k3⟩

/-- New: a table of nobody -/
theorem New_ret (h : H) {key : List Int} (hk : Bytes key) (hk2 : key.length = 16) (n : Nat) : Ret (flows_New_17 n (u8s key) h) fun r h' => ∃ b, r = some (b, 0) ∧ h.next ≤ b ∧ Tab h' b key [] ∧ Mod [] h h' := by
  rw [flows_New_17_eq]
  refine newK_ret fun i1 h1 g1 e1 n1 m1 => ?_
  rw [g1.all (by simp [hk2]), if_pos ⟨by simp [hk2], by omega⟩]
  refine newK_ret fun i2 h2 g2 e2 n2 m2 => ?_
  refine .pure ⟨i2, rfl, by have := m1.next; omega, ?_, m1.trans m2⟩
  refine ⟨List.replicate 128 ((0, z0) : Pl), ⟨?_, hk2, hk, List.length_replicate⟩, Rep.empty _, by rw [marks_empty]; omega, by simp, by simp⟩
  rw [marks_empty]
  refine ⟨g2.lt, g2.get.trans ?_⟩
  congr 2

end Go.Ev.Try
