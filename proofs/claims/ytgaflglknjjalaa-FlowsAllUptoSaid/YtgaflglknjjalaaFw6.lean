/- Chapter 10: comparisons; how a table lies in the memory. -/
import Derived.Test.YtgaflglknjjalaaFw5
set_option linter.all false
namespace Go.Ev.Try
set_option maxRecDepth 10000
open Go.Proofs

/-! ### comparisons -/

theorem sgt_eq (a b : ByteArray) : (!(Op.bytesLess a.toList b.toList || a.toList == b.toList)) = sLt b a := by
  rw [str_eq]
  change (!(sLt a b || decide (a = b))) = sLt b a
  by_cases e : a = b
  · subst e; simp [sLt_irrefl]
  · rw [decide_eq_false e, Bool.or_false]
    rcases sLt_total e with h | h
    · rw [h, sLt_asymm h]; rfl
    · rw [h, sLt_asymm h]; rfl

theorem CompareB (a b : ByteArray) (n : Nat) (h : H) : api_Addr_61 n a b h = some (cmpB a b, h) := by
  rw [api_Addr_61_eq, api_Addr_77_eq, Option.bind_some, api_Addr_77_eq, Option.bind_some]
  simp only [beq_self_eq_true, Bool.not_true, cond_false]
  rw [sgt_eq, show Op.bytesLess a.toList b.toList = sLt a b from rfl]
  unfold cmpB
  cases h1 : sLt a b with
  | true => simp
  | false =>
    cases h2 : sLt b a with
    | true => simp
    | false => simp
theorem CompareI (a b : Int) (n : Nat) (h : H) : cmp_Compare_int_47 n a b h = some (cmpI a b, h) := by
  rw [cmp_Compare_int_47_eq, cmp_isNaN_int_62_eq, Option.bind_some, cmp_isNaN_int_62_eq, Option.bind_some]
  simp only [bne_self_eq_false, cond_false]
  unfold cmpI
  by_cases h1 : a < b
  · simp [h1]
  · by_cases h2 : b < a
    · simp [h1, h2]
    · simp [h1, h2]

def orL : List Int → Int
  | [] => 0
  | x :: l => orI x (orL l)
theorem Or_loop {h : H} {p : Option (Nat × Nat)} {len : Nat} {c : Cap} {xs : List Int} (r : Row h 1 p len c (xs.map (.int .i64))) (hl : len < 100) (n : Nat) : ∀ (d i m : Nat), i + d = len → d < m → cmp_Or_int_46_L0 n m 0 p len c len i h = some (orL (xs.drop i), h)
  | 0, i, m + 1, hi, _ => by
    rw [cmp_Or_int_46_L0_eq, cast_not_lt (by omega), cond_false, List.drop_of_length_le (by have := r.len1; omega)]
    rfl
  | d + 1, i, m + 1, hi, hm => by
    have hlen := r.len1
    have hx : xs[i]? = some (xs[i]'(by omega)) := List.getElem?_eq_getElem _
    generalize hxe : xs[i]'(by omega) = x at hx
    rw [cmp_Or_int_46_L0_eq, cast_lt (by omega), cond_true, r.ix1 hx, asInt_int, List.drop_eq_getElem_cons (by omega), hxe]
    unfold orL orI
    by_cases h0 : x = 0
    · subst h0
      rw [show ((0 : Int) != 0) = false from rfl, cond_false, wrap_succ (by omega), Or_loop r hl n d (i + 1) m (by omega) (by omega)]
      simp
    · rw [show (x != 0) = true by simpa using h0, cond_true, if_pos h0]
theorem Or_eq {h : H} {p : Option (Nat × Nat)} {len : Nat} {c : Cap} {xs : List Int} (r : Row h 1 p len c (xs.map (.int .i64))) (hl : len < 100) {n : Nat} (hn : 100 ≤ n) : cmp_Or_int_46 n p len c h = some (orL xs, h) := by
  rw [cmp_Or_int_46_eq]
  exact Or_loop r hl n len 0 n (by omega) (by omega)

theorem orI_zero (a : Int) : orI a 0 = a := by unfold orI; split <;> simp_all

theorem compare_ret (a b : Fl) (h : H) {n : Nat} (hn : 100 ≤ n) : Ret (flows_compare_42 n a.pr a.fr a.to a.po a.de b.pr b.fr b.to b.po b.de h) fun r h' => r = cmpF a b ∧ h'.next = h.next + 3 ∧ Mod [] h h' := by
  rw [flows_compare_42_eq]
  refine newK_ret fun i1 h1 g1 e1 n1 m1 => ?_
  refine newK_ret fun i3 h3 g3 e3 n3 m3 => ?_
  have g1' := g1.mod0 m3
  rw [g1'.cell (o := 0) rfl, asInt_int, g3.cell (o := 0) rfl, asInt_int, CompareI, Option.bind_some]
  simp only [minus_self, minus_none]
  rw [g1'.cell (o := 1) rfl, asStr_str, g3.cell (o := 1) rfl, asStr_str, CompareB, Option.bind_some]
  simp only [minus_self, minus_none]
  rw [g1'.cell (o := 3) rfl, asInt_int, g3.cell (o := 3) rfl, asInt_int, CompareI, Option.bind_some]
  simp only [minus_self, minus_none]
  rw [g1'.cell (o := 2) rfl, asStr_str, g3.cell (o := 2) rfl, asStr_str, CompareB, Option.bind_some]
  simp only [minus_self, minus_none]
  rw [g1'.cell (o := 4) rfl, asInt_int, g3.cell (o := 4) rfl, asInt_int, CompareI, Option.bind_some]
  dsimp only
  refine newK_ret fun i5 h5 g5 e5 n5 m5 => ?_
  have r5 : Row h5 1 (some (i5, 0)) 5 (.known 5) ([cmpI a.pr b.pr, cmpB a.fr b.fr, cmpI a.po b.po, cmpB a.to b.to, cmpI a.de b.de].map (.int .i64)) := g5.row rfl (by simp) (.inr ⟨5, rfl, Nat.le_refl _⟩)
  rw [Or_eq r5 (by omega) hn, Option.bind_some]
  refine .pure ⟨?_, by simp only; omega, (m1.trans m3).trans m5⟩
  simp only [orL, cmpF, orI_zero]

/-- a flow read -/
theorem rdF {β : Type} (f : Fl) (k : Int → ByteArray → ByteArray → Int → Int → Option β) :
    (lc (encF f) fun v4 l5 => asInt .i64 v4 fun x6 => lc l5 fun v7 l8 => asStr v7 fun x9 => lc l8 fun v10 l11 => asStr v10 fun x12 => lc l11 fun v13 l14 => asInt .i64 v13 fun x15 => lc l14 fun v16 l17 => asInt .i64 v16 fun x18 => l0 l17 (k x6 x9 x12 x15 x18)) = k f.pr f.fr f.to f.po f.de := by
  simp only [encF, lc_cons, asInt_int, asStr_str, l0_nil]
/-- an entry read -/
theorem rdE {β : Type} (e : En) (k : Int → ByteArray → ByteArray → Int → Int → Int → Int → Int → Option β) :
    (lc (encE e) fun v0 l0' => asInt .i64 v0 fun x0 => lc l0' fun v1 l1 => asStr v1 fun x1 => lc l1 fun v2 l2 => asStr v2 fun x2 => lc l2 fun v3 l3 => asInt .i64 v3 fun x3 => lc l3 fun v4 l4 => asInt .i64 v4 fun x4 => lc l4 fun v5 l5 => asInt .i64 v5 fun x5 => lc l5 fun v6 l6 => asInt .i64 v6 fun x6 => lc l6 fun v7 l7 => asInt .i64 v7 fun x7 => l0 l7 (k x0 x1 x2 x3 x4 x5 x6 x7)) = k e.f.pr e.f.fr e.f.to e.f.po e.f.de e.ba e.st e.en := by
  simp only [encE, lc_cons, asInt_int, asStr_str, l0_nil]
/-- a place read -/
theorem rdP {β : Type} (p : Pl) (k : Int → Int → ByteArray → ByteArray → Int → Int → Int → Int → Int → Option β) :
    (lc (encP p) fun v l => asInt .i64 v fun x => lc l fun v0 l0' => asInt .i64 v0 fun x0 => lc l0' fun v1 l1 => asStr v1 fun x1 => lc l1 fun v2 l2 => asStr v2 fun x2 => lc l2 fun v3 l3 => asInt .i64 v3 fun x3 => lc l3 fun v4 l4 => asInt .i64 v4 fun x4 => lc l4 fun v5 l5 => asInt .i64 v5 fun x5 => lc l5 fun v6 l6 => asInt .i64 v6 fun x6 => lc l6 fun v7 l7 => asInt .i64 v7 fun x7 => l0 l7 (k x x0 x1 x2 x3 x4 x5 x6 x7)) = k p.1 p.2.f.pr p.2.f.fr p.2.f.to p.2.f.po p.2.f.de p.2.ba p.2.st p.2.en := by
  simp only [encP, encE, lc_cons, asInt_int, asStr_str, l0_nil]

theorem AllCmp_ret (a b : En) (h : H) {n : Nat} (hn : 100 ≤ n) : Ret (flows_Table_All_1_41 n a.f.pr a.f.fr a.f.to a.f.po a.f.de a.ba a.st a.en b.f.pr b.f.fr b.f.to b.f.po b.f.de b.ba b.st b.en h) fun r h' => r = cmpF a.f b.f ∧ h'.next = h.next + 5 ∧ Mod [] h h' := by
  rw [flows_Table_All_1_41_eq]
  refine newK_ret fun i1 h1 g1 e1 n1 m1 => ?_
  refine newK_ret fun i3 h3 g3 e3 n3 m3 => ?_
  rw [(g1.mod0 m3).agg (vs := encF a.f) rfl (by simp), rdF, g3.agg (vs := encF b.f) rfl (by simp), rdF]
  refine (compare_ret a.f b.f h3 hn).bind fun r h' ⟨q1, q2, q3⟩ => .pure ⟨q1, by simp only; omega, (m1.trans m3).trans q3⟩
theorem ExpCmp_ret (a b : En) (h : H) {n : Nat} (hn : 100 ≤ n) : Ret (flows_Table_Expire_1_45 n a.f.pr a.f.fr a.f.to a.f.po a.f.de a.ba a.st a.en b.f.pr b.f.fr b.f.to b.f.po b.f.de b.ba b.st b.en h) fun r h' => r = cmpN a b ∧ h'.next = h.next + 6 ∧ Mod [] h h' := by
  rw [flows_Table_Expire_1_45_eq]
  refine newK_ret fun i1 h1 g1 e1 n1 m1 => ?_
  refine newK_ret fun i3 h3 g3 e3 n3 m3 => ?_
  have g1' := g1.mod0 m3
  rw [g1'.cell (o := 7) rfl, asInt_int, g3.cell (o := 7) rfl, asInt_int, CompareI, Option.bind_some]
  simp only [minus_self, minus_none]
  rw [g1'.agg (vs := encF a.f) rfl (by simp), rdF, g3.agg (vs := encF b.f) rfl (by simp), rdF]
  refine (compare_ret a.f b.f h3 hn).bind fun r h' ⟨q1, q2, q3⟩ => ?_
  dsimp only
  refine newK_ret fun i5 h5 g5 e5 n5 m5 => ?_
  have r5 : Row h5 1 (some (i5, 0)) 2 (.known 2) ([cmpI a.en b.en, r].map (.int .i64)) := g5.row rfl (by simp) (.inr ⟨2, rfl, Nat.le_refl _⟩)
  rw [Or_eq r5 (by omega) hn, Option.bind_some]
  refine .pure ⟨?_, by simp only; omega, ((m1.trans m3).trans q3).trans m5⟩
  simp only [orL, cmpN, orI_zero, q1]

/-! ### a table in the memory -/

structure Tb (h : H) (b : Nat) (key : List Int) (P : List Pl) (many marks : Nat) : Prop where
  at' : At h b (.cells (u8s key ++ (P.flatMap encP ++ [.int .i64 many, .int .i64 marks])) false)
  klen : key.length = 16
  kb : Bytes key
  plen : P.length = 128

section
variable {h : H} {b : Nat} {key : List Int} {P : List Pl} {many marks : Nat}

theorem Tb.mod {h' : H} {S : List Nat} (t : Tb h b key P many marks) (m : Mod S h h') (hS : b ∉ S) : Tb h' b key P many marks := ⟨t.at'.mod m hS, t.klen, t.kb, t.plen⟩
theorem Tb.mod0 {h' : H} (t : Tb h b key P many marks) (m : Mod [] h h') : Tb h' b key P many marks := t.mod m (by simp)
theorem Tb.flen (t : Tb h b key P many marks) : (P.flatMap encP).length = 1152 := by rw [length_flat encP_len, t.plen]
theorem Tb.ulen (t : Tb h b key P many marks) : (u8s key).length = 16 := by rw [List.length_map, t.klen]
theorem Tb.clen (t : Tb h b key P many marks) : (u8s key ++ (P.flatMap encP ++ [AV.int .i64 many, .int .i64 marks])).length = 1170 := by
  rw [List.length_append, List.length_append, t.flen, t.ulen]; rfl

theorem Tb.keyR (t : Tb h b key P many marks) {β : Type} (f : List AV → Option β) : aggK h b 0 16 f = f (u8s key) := t.at'.agg (by rw [List.drop_zero, List.take_left' t.ulen]) (by rw [t.clen]; omega) f
theorem Tb.places (t : Tb h b key P many marks) {β : Type} (f : List AV → Option β) : aggK h b (0 + 16) 1152 f = f (P.flatMap encP) := t.at'.agg (by rw [Nat.zero_add, List.drop_left' t.ulen, List.take_left' t.flen]) (by rw [t.clen]; omega) f
theorem Tb.drop (t : Tb h b key P many marks) (i : Nat) : (u8s key ++ (P.flatMap encP ++ [AV.int .i64 many, .int .i64 marks])).drop (0 + 16 + i) = (P.flatMap encP ++ [AV.int .i64 many, .int .i64 marks]).drop i := by
  rw [Nat.zero_add, ← List.drop_drop, List.drop_left' t.ulen]
theorem Tb.place_drop (t : Tb h b key P many marks) {i : Nat} {p : Pl} (hp : P[i]? = some p) : ∃ rest, (u8s key ++ (P.flatMap encP ++ [AV.int .i64 many, .int .i64 marks])).drop (0 + 16 + i * 9) = encP p ++ rest := by
  have hi := (List.getElem?_eq_some_iff.1 hp).1
  rw [t.drop, List.drop_append_of_le_length (by rw [t.flen]; have := t.plen; omega), drop_flat encP_len, List.drop_eq_getElem_cons hi]
  obtain ⟨_, rfl⟩ := List.getElem?_eq_some_iff.1 hp
  exact ⟨_, by rw [List.flatMap_cons, List.append_assoc]⟩
theorem Tb.place (t : Tb h b key P many marks) {i : Nat} {p : Pl} (hp : P[i]? = some p) {β : Type} (f : List AV → Option β) : aggK h b (0 + 16 + i * 9) 9 f = f (encP p) := by
  obtain ⟨r, e⟩ := t.place_drop hp
  have hi := (List.getElem?_eq_some_iff.1 hp).1
  have := t.plen
  exact t.at'.agg (by rw [e, List.take_left' (encP_len p)]) (by rw [t.clen]; omega) f
theorem Tb.entry (t : Tb h b key P many marks) {i : Nat} {p : Pl} (hp : P[i]? = some p) {β : Type} (f : List AV → Option β) : aggK h b (0 + 16 + i * 9 + 1) 8 f = f (encE p.2) := by
  obtain ⟨r, e⟩ := t.place_drop hp
  have hi := (List.getElem?_eq_some_iff.1 hp).1
  have := t.plen
  exact t.at'.agg (by rw [← List.drop_drop, e]; show ((encE p.2) ++ r).take 8 = _; rw [List.take_left' (encE_len p.2)]) (by rw [t.clen]; omega) f
theorem Tb.is (t : Tb h b key P many marks) {i : Nat} {p : Pl} (hp : P[i]? = some p) {β : Type} (f : AV → Option β) : cellK h b (0 + 16 + i * 9) f = f (.int .i64 p.1) := by
  obtain ⟨r, e⟩ := t.place_drop hp
  refine t.at'.cell (v := .int .i64 p.1) ?_ f
  have := congrArg (fun l => l[0]?) e
  simp only [List.getElem?_drop, Nat.add_zero] at this
  rw [this]; rfl
theorem Tb.many' (t : Tb h b key P many marks) {β : Type} (f : AV → Option β) : cellK h b (0 + 1168) f = f (.int .i64 many) := by
  refine t.at'.cell ?_ f
  rw [List.getElem?_append_right (by rw [t.ulen]; omega), List.getElem?_append_right (by rw [t.ulen, t.flen]; omega), t.ulen, t.flen]; rfl
theorem Tb.marks' (t : Tb h b key P many marks) {β : Type} (f : AV → Option β) : cellK h b (0 + 1169) f = f (.int .i64 marks) := by
  refine t.at'.cell ?_ f
  rw [List.getElem?_append_right (by rw [t.ulen]; omega), List.getElem?_append_right (by rw [t.ulen, t.flen]; omega), t.ulen, t.flen]; rfl

theorem spl_mid {a m c xs : List AV} (hl : xs.length = m.length) : spl (a ++ (m ++ c)) a.length xs = a ++ (xs ++ c) := by
  apply List.ext_getElem?
  intro k
  rw [spl_get _ _ _ (by simp; omega)]
  by_cases h1 : k < a.length
  · rw [if_neg (by omega), List.getElem?_append_left h1, List.getElem?_append_left h1]
  · rw [List.getElem?_append_right (l₁ := a) (by omega), List.getElem?_append_right (l₁ := a) (by omega)]
    by_cases h2 : k < a.length + xs.length
    · rw [if_pos (by omega), List.getElem?_append_left (by omega)]
    · rw [if_neg (by omega), List.getElem?_append_right (by omega), List.getElem?_append_right (by omega), hl]

variable {α : Type} {f : H → Option (α × H)} {Q : α → H → Prop}

theorem Tb.setAll (t : Tb h b key P many marks) {P' : List Pl} (hl : P'.length = 128) {xs : List AV} (hx : xs = P'.flatMap encP) (k : ∀ h', Tb h' b key P' many marks → h'.next = h.next → Mod [b] h h' → Ret (f h') Q) : Ret (wrK h b (0 + 16) 1152 xs f) Q := by
  subst hx
  have hfl : (P'.flatMap encP).length = 1152 := by rw [length_flat encP_len, hl]
  refine t.at'.wr hfl (by rw [t.clen]; omega) ?_ fun h' g hn m => k h' ⟨?_, t.klen, t.kb, hl⟩ hn m
  · rw [List.all_eq_true]
    intro x hx
    obtain ⟨p, _, hx⟩ := List.mem_flatMap.1 hx
    exact List.all_eq_true.1 (show (encP p).all isCell = true from rfl) x hx
  · have := spl_mid (a := u8s key) (m := P.flatMap encP) (c := [AV.int .i64 many, .int .i64 marks]) (xs := P'.flatMap encP) (by rw [hfl, t.flen])
    rw [t.ulen] at this
    rw [Nat.zero_add, this] at g
    exact g
theorem flat_set {P : List Pl} {i : Nat} (hi : i < P.length) (p : Pl) : (P.set i p).flatMap encP = (P.take i).flatMap encP ++ (encP p ++ (P.drop (i + 1)).flatMap encP) := by
  rw [List.set_eq_take_append_cons_drop, if_pos hi, List.flatMap_append, List.flatMap_cons]
theorem Tb.set (t : Tb h b key P many marks) {i : Nat} (hi : i < 128) (p : Pl) {xs : List AV} (hx : xs = encP p) (k : ∀ h', Tb h' b key (P.set i p) many marks → h'.next = h.next → Mod [b] h h' → Ret (f h') Q) : Ret (wrK h b (0 + 16 + i * 9) 9 xs f) Q := by
  subst hx
  have hi' : i < P.length := by rw [t.plen]; exact hi
  refine t.at'.wr (encP_len p) (by rw [t.clen]; omega) rfl fun h' g hn m => k h' ⟨?_, t.klen, t.kb, by rw [List.length_set]; exact t.plen⟩ hn m
  have e1 : P.flatMap encP = (P.take i).flatMap encP ++ (encP P[i] ++ (P.drop (i + 1)).flatMap encP) := by rw [← flat_set hi', List.set_getElem_self]
  have hl : ((P.take i).flatMap encP).length = i * 9 := by rw [length_flat encP_len, List.length_take, Nat.min_eq_left (by omega)]
  have := spl_mid (a := u8s key ++ (P.take i).flatMap encP) (m := encP P[i]) (c := (P.drop (i + 1)).flatMap encP ++ [AV.int .i64 many, .int .i64 marks]) (xs := encP p) rfl
  rw [List.length_append, t.ulen, hl] at this
  rw [Nat.zero_add, e1, List.append_assoc, List.append_assoc, ← List.append_assoc (u8s key), this] at g
  rw [flat_set hi', List.append_assoc, List.append_assoc, ← List.append_assoc (u8s key)]
  exact g
theorem Tb.setMany (t : Tb h b key P many marks) (x : Nat) {xs : List AV} (hx : xs = [.int .i64 x]) (k : ∀ h', Tb h' b key P x marks → h'.next = h.next → Mod [b] h h' → Ret (f h') Q) : Ret (wrK h b (0 + 1168) 1 xs f) Q := by
  subst hx
  refine t.at'.wr (n := 1) rfl (by rw [t.clen]; omega) rfl fun h' g hn m => k h' ⟨?_, t.klen, t.kb, t.plen⟩ hn m
  have := spl_mid (a := u8s key ++ P.flatMap encP) (m := [AV.int .i64 many]) (c := [AV.int .i64 marks]) (xs := [AV.int .i64 x]) rfl
  rw [List.length_append, t.ulen, t.flen] at this
  rw [Nat.zero_add, ← List.append_assoc, show ([AV.int .i64 many, .int .i64 marks] : List AV) = [AV.int .i64 many] ++ [AV.int .i64 marks] from rfl, this] at g
  rw [← List.append_assoc]
  exact g
theorem Tb.setMarks (t : Tb h b key P many marks) (x : Nat) {xs : List AV} (hx : xs = [.int .i64 x]) (k : ∀ h', Tb h' b key P many x → h'.next = h.next → Mod [b] h h' → Ret (f h') Q) : Ret (wrK h b (0 + 1169) 1 xs f) Q := by
  subst hx
  refine t.at'.wr (n := 1) rfl (by rw [t.clen]; omega) rfl fun h' g hn m => k h' ⟨?_, t.klen, t.kb, t.plen⟩ hn m
  have := spl_mid (a := u8s key ++ (P.flatMap encP ++ [AV.int .i64 many])) (m := [AV.int .i64 marks]) (c := []) (xs := [AV.int .i64 x]) rfl
  rw [List.length_append, List.length_append, t.ulen, t.flen, List.append_nil, List.append_nil, show 16 + (1152 + [AV.int .i64 many].length) = 1169 from rfl] at this
  rw [Nat.zero_add, show ([AV.int .i64 many, .int .i64 marks] : List AV) = [AV.int .i64 many] ++ [AV.int .i64 marks] from rfl, ← List.append_assoc (P.flatMap encP), ← List.append_assoc, this] at g
  rw [show ([AV.int .i64 many, .int .i64 x] : List AV) = [AV.int .i64 many] ++ [AV.int .i64 x] from rfl, ← List.append_assoc (P.flatMap encP), ← List.append_assoc]
  exact g
end

end Go.Ev.Try
