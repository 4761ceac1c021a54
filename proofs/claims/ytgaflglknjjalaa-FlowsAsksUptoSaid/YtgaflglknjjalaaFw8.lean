/- Chapter 10: All, compact, remove. -/
import Derived.Test.YtgaflglknjjalaaFw7
set_option linter.all false
namespace Go.Ev.Try
set_option maxRecDepth 10000
open Go.Proofs

def decE : List AV → En
  | [.int _ a, .str b, .str c, .int _ d, .int _ e, .int _ f, .int _ g, .int _ h] => ⟨⟨a, b, c, d, e⟩, f, g, h⟩
  | _ => z0
theorem decE_enc (e : En) : decE (encE e) = e := rfl
theorem encE_plain (e : En) : ∀ a ∈ encE e, Plain a := by
  intro a ha
  simp only [encE, List.mem_cons, List.not_mem_nil, or_false] at ha
  rcases ha with rfl | rfl | rfl | rfl | rfl | rfl | rfl | rfl <;> trivial

theorem used_snoc {P : List Pl} {i : Nat} {p : Pl} (hp : P[i]? = some p) : used (P.take (i + 1)) = used (P.take i) ++ if p.1 = 1 then [p.2] else [] := by
  unfold used
  rw [List.take_add_one, hp]
  simp only [Option.toList_some, List.filter_append, List.map_append]
  congr 1
  by_cases h : p.1 = 1 <;> simp [h]
theorem used_len (P : List Pl) : (used P).length ≤ P.length := by unfold used; rw [List.length_map]; exact List.length_filter_le _ _

/-- no flow twice -/
def Uniq (l : List En) : Prop := ∀ x ∈ l, ∀ y ∈ l, x.f = y.f → x = y
def Dist (l : List En) : Prop := l.Pairwise fun x y => x.f ≠ y.f
theorem Dist.uniq {l : List En} (h : Dist l) : Uniq l := by
  induction l with
  | nil => intro x hx; cases hx
  | cons a l ih =>
    have h' := List.pairwise_cons.1 h
    intro x hx y hy e
    rcases List.mem_cons.1 hx with hx1 | hx1 <;> rcases List.mem_cons.1 hy with hy1 | hy1
    · rw [hx1, hy1]
    · exact absurd (hx1 ▸ e) (h'.1 y hy1)
    · exact absurd (hy1 ▸ e.symm) (h'.1 x hx1)
    · exact ih h'.2 x hx1 y hy1 e
theorem Dist.perm {l m : List En} (h : Dist l) (hp : m.Perm l) : Dist m := (hp.pairwise_iff fun h => Ne.symm h).2 h
theorem Dist.of {l : List En} (hn : l.Nodup) (hu : Uniq l) : Dist l := List.Pairwise.imp_of_mem (fun {a b} ha hb hab e => hab (hu a ha b hb e)) hn
theorem Inv.dist {s : Fl → Nat} {P : List Pl} (hv : Inv s P) : Dist (used P) := Dist.of hv.nodup fun x hx y hy e => by
  obtain ⟨i, hi⟩ := mem_used.1 hx
  obtain ⟨j, hj⟩ := mem_used.1 hy
  have := hv.uniq i j x y hi hj e
  subst this
  rw [hi] at hj; cases hj; rfl

theorem ordF {l : List En} (hu : Uniq l) : Orders l fun x y => cmpF x.f y.f where
  irrefl x _ := by rw [(cmpF_ok.zero _ _).2 rfl]; decide
  trans x _ y _ z _ h1 h2 := cmpF_ok.trans _ _ _ h1 h2
  ntrans x _ y _ z _ h1 h2 h3 := by
    have s1 := cmpF_ok.swap x.f y.f
    have s2 := cmpF_ok.swap y.f z.f
    have s3 := cmpF_ok.swap x.f z.f
    by_cases e1 : cmpF x.f y.f = 0
    · rw [(cmpF_ok.zero _ _).1 e1] at h3; exact h2 h3
    · by_cases e2 : cmpF y.f z.f = 0
      · rw [← (cmpF_ok.zero _ _).1 e2] at h3; exact h1 h3
      · have := cmpF_ok.trans z.f y.f x.f (by omega) (by omega)
        omega
  total x hx y hy h1 h2 := hu x hx y hy ((cmpF_ok.zero _ _).1 (by have := cmpF_ok.swap x.f y.f; omega))
theorem cmpN_cmp : Cmp fun x y : Int × Fl => orI (cmpI x.1 y.1) (cmpF x.2 y.2) := Cmp.int.both cmpF_ok Prod.fst Prod.snd fun x y h k => Prod.ext h k
theorem ordN {l : List En} (hu : Uniq l) : Orders l cmpN where
  irrefl x _ := by have := (cmpN_cmp.zero (x.en, x.f) (x.en, x.f)).2 rfl; unfold cmpN; simp only at this; rw [this]; decide
  trans x _ y _ z _ h1 h2 := cmpN_cmp.trans (x.en, x.f) (y.en, y.f) (z.en, z.f) h1 h2
  ntrans x _ y _ z _ h1 h2 h3 := by
    have s1 : cmpN y x = - cmpN x y := cmpN_cmp.swap (x.en, x.f) (y.en, y.f)
    have s2 : cmpN z y = - cmpN y z := cmpN_cmp.swap (y.en, y.f) (z.en, z.f)
    have s3 : cmpN z x = - cmpN x z := cmpN_cmp.swap (x.en, x.f) (z.en, z.f)
    by_cases e1 : cmpN x y = 0
    · have e : (x.en, x.f) = (y.en, y.f) := (cmpN_cmp.zero _ _).1 e1
      have : cmpN x z = cmpN y z := by unfold cmpN; rw [(Prod.mk.inj e).1, (Prod.mk.inj e).2]
      omega
    · by_cases e2 : cmpN y z = 0
      · have e : (y.en, y.f) = (z.en, z.f) := (cmpN_cmp.zero _ _).1 e2
        have : cmpN x z = cmpN x y := by unfold cmpN; rw [(Prod.mk.inj e).1, (Prod.mk.inj e).2]
        omega
      · have : cmpN z x < 0 := cmpN_cmp.trans (z.en, z.f) (y.en, y.f) (x.en, x.f) (show cmpN z y < 0 by omega) (show cmpN y x < 0 by omega)
        omega
  total x hx y hy h1 h2 := by
    have s1 : cmpN y x = - cmpN x y := cmpN_cmp.swap (x.en, x.f) (y.en, y.f)
    have e : (x.en, x.f) = (y.en, y.f) := (cmpN_cmp.zero _ _).1 (show cmpN x y = 0 by omega)
    exact hu x hx y hy (Prod.mk.inj e).2

theorem sortAll_ret {a h : H} {p : Option (Nat × Nat)} {len : Nat} {c : Cap} {xs : List En} (g : Grow a h 8 p len c (xs.flatMap encE)) (hm : Mod [] a h) (hl : xs.length < 1000000) (hu : Dist xs) {n : Nat} (hn : 100 ≤ n) :
    Ret (flows_Entry_40_f41 n p len c h) fun _ h' => ∃ ys, ys.Perm xs ∧ Srt ys ∧ Grow a h' 8 p len c (ys.flatMap encE) ∧ Mod [] a h' := by
  rw [flows_Entry_40_f41_eq]
  obtain ⟨ys, h', q1, q2, q3, q4, q5, q6⟩ := g.sortK (dec := decE) (cf := fun x y => cmpF x.f y.f) decE_enc encE_len (by omega) encE_plain (by omega) (ordF hu.uniq) (cmp := fun u v h => lc u fun v1 l2 => asInt .i64 v1 fun x3 => lc l2 fun v4 l5 => asStr v4 fun x6 => lc l5 fun v7 l8 => asStr v7 fun x9 => lc l8 fun v10 l11 => asInt .i64 v10 fun x12 => lc l11 fun v13 l14 => asInt .i64 v13 fun x15 => lc l14 fun v16 l17 => asInt .i64 v16 fun x18 => lc l17 fun v19 l20 => asInt .i64 v19 fun x21 => lc l20 fun v22 l23 => asInt .i64 v22 fun x24 => l0 l23 (lc v fun v25 l26 => asInt .i64 v25 fun x27 => lc l26 fun v28 l29 => asStr v28 fun x30 => lc l29 fun v31 l32 => asStr v31 fun x33 => lc l32 fun v34 l35 => asInt .i64 v34 fun x36 => lc l35 fun v37 l38 => asInt .i64 v37 fun x39 => lc l38 fun v40 l41 => asInt .i64 v40 fun x42 => lc l41 fun v43 l44 => asInt .i64 v43 fun x45 => lc l44 fun v46 l47 => asInt .i64 v46 fun x48 => l0 l47 (flows_Table_All_1_41 n x3 x6 x9 x12 x15 x18 x21 x24 x27 x30 x33 x36 x39 x42 x45 x48 h))) (fun h' hn' hg x hx y hy => by
    rw [rdE, rdE]
    obtain ⟨r, h2, e, k1, k2, k3⟩ := AllCmp_ret x y h'.freeze hn
    exact ⟨h2, by rw [e, k1], by rw [k2]; show h'.next + 5 ≤ _; omega⟩)
  rw [q3]
  refine .pure ⟨ys, q1, ?_, q4, hm.push g ⟨q5, fun j _ hj => q6 j hj⟩⟩
  exact (List.Pairwise.and q2 (hu.perm q1)).imp fun {x y} ⟨h1, h2⟩ => (aheadF_total h2).resolve_right fun h => h1 (aheadF_iff.1 h)

theorem All_loop {a : H} {P : List Pl} (hP : P.length = 128) (hd : Dist (used P)) {n : Nat} (hn : 100 ≤ n) : ∀ (d i m : Nat) (p : Option (Nat × Nat)) (len : Nat) (c : Cap) (h : H), i + d = 128 → d < m → Grow a h 8 p len c ((used (P.take i)).flatMap encE) → Mod [] a h →
    Ret (flows_Table_All_25_L0 n m p len c (P.flatMap encP) i h) fun z h' => ∃ ys, ys.Perm (used P) ∧ Srt ys ∧ Grow a h' 8 z.1 z.2.1 z.2.2 (ys.flatMap encE) ∧ Mod [] a h'
  | 0, i, m + 1, p, len, c, h, hi, _, g, hm => by
    obtain rfl : i = 128 := by omega
    rw [List.take_of_length_le (by omega)] at g
    rw [flows_Table_All_25_L0_eq, show decide (((128 : Nat) : Int) < 128) = false by decide, cond_false]
    have := used_len P
    exact (sortAll_ret g hm (by omega) hd hn).bind fun _ h' ⟨ys, q1, q2, q3, q4⟩ => .pure ⟨ys, q1, q2, q3, q4⟩
  | d + 1, i, m + 1, p, len, c, h, hi, hf, g, hm => by
    have hp : P[i]? = some (P[i]'(by omega)) := List.getElem?_eq_getElem _
    generalize P[i]'(by omega) = x at hp
    have hlen : (used (P.take i)).length = len := Row.len g.row encE_len (by omega)
    have hul := used_len (P.take i)
    rw [List.length_take] at hul
    rw [flows_Table_All_25_L0_eq, show decide ((i : Int) < 128) = true by simp; omega, cond_true, if_pos ⟨by omega, by omega⟩, Int.toNat_natCast, Nat.zero_add, flat_at encP_len hp, rdP]
    refine boxK_ret rfl rfl rfl fun i31 h3 g3 e3 n3 m3 => ?_
    rw [g3.cell (o := 0) rfl, asInt_int]
    have hs := used_snoc hp
    by_cases h1 : x.1 = 1
    · rw [if_pos h1] at hs
      rw [show (x.1 == 1) = true by simpa using h1, cond_true, g3.agg (vs := encE x.2) rfl (by simp), rdE, newK_eq]
      refine (g.mod0 m3).push (size := 8) (bytes := 80) (hm.trans m3).next (xs := encE x.2) rfl rfl (by omega) (by omega) (by omega) fun p' c' h' g' m' => ?_
      rw [wrap_succ (by omega)]
      refine All_loop hP hd hn d (i + 1) m p' (len + 1) c' h' (by omega) (by omega) ?_ ((hm.trans m3).push (g.mod0 m3) m')
      rw [hs, List.flatMap_append]
      simpa using g'
    · rw [if_neg h1, List.append_nil] at hs
      rw [show (x.1 == 1) = false by simpa using h1, cond_false, wrap_succ (by omega)]
      refine All_loop hP hd hn d (i + 1) m p len c h3 (by omega) (by omega) ?_ (hm.trans m3)
      rw [hs]; exact g.mod0 m3

/-- All: the entries, by rising flows -/
theorem All_ret {h : H} {b : Nat} {key : List Int} {P : List Pl} {many marks : Nat} (t : Tb h b key P many marks) {s : Fl → Nat} {l : List En} (r : Rep s P l) {n : Nat} (hn : 1000 ≤ n) :
    Ret (flows_Table_All_25 n (some (b, 0)) h) fun z h' => Grow h h' 8 z.1 z.2.1 z.2.2 (l.flatMap encE) ∧ Mod [] h h' := by
  rw [flows_Table_All_25_eq, nnK_some', t.places]
  refine (All_loop t.plen r.inv.dist (by omega) 128 0 n none 0 (.known 0) h (by omega) (by omega) .nil (Mod.refl _ _)).mono fun z h' ⟨ys, q1, q2, q3, q4⟩ => ?_
  have : ys = l := q2.eq r.srt fun x => by rw [q1.mem_iff, r.mem]
  subst this
  exact ⟨q3, q4⟩

/-! ### the table laid anew -/

/-- the state of a table: what it holds is the list -/
structure Tab (h : H) (b : Nat) (key : List Int) (l : List En) : Prop where
  ex : ∃ (P : List Pl), Tb h b key P l.length (Try.marks P) ∧ Rep (sOf key) P l ∧ Try.marks P ≤ 32 ∧ l.length ≤ 64 ∧ ∀ e ∈ l, okF e.f

theorem compact_loop {a : H} {b : Nat} {key : List Int} {l : List En} (hl : l.length ≤ 64) (ho : ∀ e ∈ l, okF e.f) (hs : Srt l) {p : Option (Nat × Nat)} {len : Nat} {c : Cap} (hr : Row a 8 p len c (l.flatMap encE)) (hb : ∀ x ∈ own p, x ≠ b) {n : Nat} (hn : 10000000 ≤ n) :
    ∀ (d i m : Nat) (P : List Pl) (h : H), i + d = l.length → d < m → Tb h b key P i (marks P) → marks P = 0 → Rep (sOf key) P (l.take i) → Mod [b] a h →
    Ret (flows_Table_compact_53_L0 n m (some (b, 0)) p len c len i h) fun _ h' => (∃ P', Tb h' b key P' l.length (marks P') ∧ marks P' = 0 ∧ Rep (sOf key) P' l) ∧ Mod [b] a h'
  | 0, i, m + 1, P, h, hi, _, t, hz, r, hm => by
    have hlen := hr.len encE_len (by omega)
    obtain rfl : i = l.length := by omega
    rw [flows_Table_compact_53_L0_eq, cast_not_lt (by omega), cond_false]
    rw [List.take_length] at r
    exact .pure ⟨⟨P, t, hz, r⟩, hm⟩
  | d + 1, i, m + 1, P, h, hi, hf, t, hz, r, hm => by
    have hlen := hr.len encE_len (by omega)
    have hx : l[i]? = some (l[i]'(by omega)) := List.getElem?_eq_getElem _
    generalize hxe : l[i]'(by omega) = e at hx
    rw [flows_Table_compact_53_L0_eq, cast_lt (by omega), cond_true, (hr.mod hm fun x hx => by simpa using hb x hx).ix encE_len (by omega) hx, rdE]
    refine boxK_ret rfl rfl rfl fun i38 h4 g4 e4 n4 m4 => ?_
    have t4 := t.mod0 m4
    rw [g4.agg (vs := encF e.f) rfl (by simp), rdF]
    refine (find_ret t4 e.f (ho e (List.mem_of_getElem? hx)) hn).bind fun z h5 ⟨q1, q2⟩ => ?_
    dsimp only
    have t5 := t4.mod0 q2
    rw [At.all (cs := encE e) (g4.mod0 q2) (encE_len e), rdE]
    have hnone : getE (l.take i) e.f = none := by
      rw [getE_none]
      intro y hy hyf
      have hs' : Srt (l.take (i + 1)) := List.Pairwise.sublist (List.take_sublist _ _) hs
      rw [List.take_add_one, hx] at hs'
      have := (List.pairwise_append.1 hs').2.2 y hy e (by simp)
      rw [hyf, aheadF_irrefl] at this; cases this
    rcases r.find e.f (sOf_lt key e.f) (by rw [List.length_take]; omega) with ⟨j, y, k1, k2, k3, k4, k5⟩ | ⟨j, pl, k1, k2, k3, k4, k5, k6⟩
    · rw [hnone] at k5; cases k5
    · rw [q1, k1]
      have hp2 : pl.1 ≠ 2 := fun h2 => by
        have : 0 < marks P := List.countP_pos_iff.2 ⟨pl, List.mem_of_getElem? k4, by simpa using h2⟩
        omega
      refine (lay_ret t5 (by omega) k4 (fun h => absurd h hp2) (by omega) e n).bind fun _ h6 ⟨q3, q4⟩ => ?_
      dsimp only
      rw [if_neg k5, if_neg hp2] at q3
      have hmk : marks (P.set j (1, e)) = marks P := by
        have := marks_set (q := (1, e)) k4
        rw [if_neg hp2] at this
        simp at this; exact this
      rw [wrap_succ (by omega)]
      have r' := r.layNew hnone k4 k5 k6
      have hw : withE (l.take i) e = l.take (i + 1) := by
        have s1 : Srt (l.take (i + 1)) := List.Pairwise.sublist (List.take_sublist _ _) hs
        refine (r.srt.withE e).eq s1 fun x => ?_
        rw [withE_mem, List.take_add_one, hx]
        simp only [Option.toList_some, List.mem_append, List.mem_cons, List.not_mem_nil, or_false]
        constructor
        · rintro (rfl | ⟨h1, _⟩)
          · exact .inr rfl
          · exact .inl h1
        · rintro (h1 | rfl)
          · exact .inr ⟨h1, getE_none.1 hnone x h1⟩
          · exact .inl rfl
      rw [hw] at r'
      exact compact_loop hl ho hs hr hb hn d (i + 1) m _ h6 (by omega) (by omega) (by rw [hmk]; exact q3) (by omega) r' (((hm.trans m4.of_nil).trans q2.of_nil).trans q4)

theorem compact_ret {h : H} {b : Nat} {key : List Int} {P : List Pl} {l : List En} {mk : Nat} (t : Tb h b key P l.length mk) (r : Rep (sOf key) P l) (hl : l.length ≤ 64) (ho : ∀ e ∈ l, okF e.f) {n : Nat} (hn : 10000000 ≤ n) :
    Ret (flows_Table_compact_53 n (some (b, 0)) h) fun _ h' => Tab h' b key l ∧ Mod [b] h h' := by
  rw [flows_Table_compact_53_eq]
  refine (All_ret t r (by omega)).bind fun z h1 ⟨g1, m1⟩ => ?_
  dsimp only
  have t1 := t.mod0 m1
  rw [nnK_some']
  refine t1.setAll (P' := List.replicate 128 ((0, z0) : Pl)) List.length_replicate (by kernel_rfl) fun h2 t2 n2 m2 => ?_
  rw [nnK_some']
  refine t2.setMany 0 rfl fun h3 t3 n3 m3 => ?_
  rw [nnK_some']
  refine t3.setMarks 0 rfl fun h4 t4 n4 m4 => ?_
  have hown : ∀ x ∈ own z.1, x ≠ b := fun x hx e => by have := (g1.own_ge x hx).1; have := t.at'.lt; omega
  have hrow := g1.row
  have mm : Mod [b] h1 h4 := (m2.trans m3).trans m4
  have hrow4 : Row h4 8 z.1 z.2.1 z.2.2 (l.flatMap encE) := hrow.mod mm fun x hx => by simpa using hown x hx
  refine (compact_loop (key := key) hl ho r.srt hrow4 hown hn l.length 0 n (List.replicate 128 ((0, z0) : Pl)) h4 (by omega) (by omega) (by rw [marks_empty]; exact t4) marks_empty (Rep.empty _) (Mod.refl _ _)).mono fun _ h5 ⟨⟨P', q1, q2, q3⟩, q4⟩ => ?_
  exact ⟨⟨P', q1, q3, by omega, hl, ho⟩, m1.of_nil.trans (mm.trans q4)⟩

end Go.Ev.Try
