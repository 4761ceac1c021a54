/- Chapter 08: the document's Places. -/
import Derived.Test.YtlodaclifccchaaMg15
set_option linter.all false
namespace Go.Ev.Try
set_option maxRecDepth 10000
open Go.Proofs

theorem slot_of {P : List Int} {t : Tk} {i : Nat} (hi : i < 251) (hf : isFree P (t.pos i) = true) (hn : ∀ j, j < i → isFree P (t.pos j) = false) : slot P t = some i := by
  have hs : (slot P t).isSome := by
    unfold slot
    rw [List.find?_isSome]
    exact ⟨i, List.mem_range.2 hi, hf⟩
  obtain ⟨s, hs⟩ := Option.isSome_iff_exists.1 hs
  obtain ⟨_, h2, h3⟩ := slot_some hs
  rcases Nat.lt_trichotomy s i with h | h | h
  · have := hn s h
    unfold isFree at this
    rw [h2] at this
    simp at this
  · rw [hs, h]
  · exact absurd (by simpa [isFree] using hf) (h3 i h)
theorem slot_no {P : List Int} {t : Tk} (hn : ∀ j, j < 251 → isFree P (t.pos j) = false) : slot P t = none := by
  unfold slot
  rw [List.find?_eq_none]
  intro i hi
  rw [hn i (List.mem_range.1 hi)]; simp
def slotI (P : List Int) (t : Tk) : Int :=
  match slot P t with
  | some s => (t.pos s : Int)
  | none => -1

theorem has_loop {top : Int} {t : Tk} (ht : t.Ok top) {x y : Int} (hx : u64 x) (hy : u64 y) (e1 : t.at' = x % 251) (e2 : t.step = y % 250 + 1) {h : H} {P : List Int} (hP : P.length = 251) (hv : ∀ x ∈ P, -1 ≤ x) {p : Option (Nat × Nat)} {c : Cap} (row : Row h 1 p 251 c (P.map i64)) (n : Nat) : ∀ (d i m : Nat), i + d = 251 → d < m → (∀ j, j < i → isFree P (t.pos j) = false) →
    outriderref08_has_33_L0 n m p 251 c x y i h = some (slotI P t, h)
  | 0, i, m + 1, hi, _, hn => by
    rw [outriderref08_has_33_L0_eq, decide_eq_false (by omega), cond_false]
    unfold slotI
    rw [slot_no fun j hj => hn j (by omega)]
  | d + 1, i, m + 1, hi, hf, hn => by
    have a0 := ht.a0
    have a1 := ht.a1
    have s0 := ht.s0
    have s1 := ht.s1
    have hx0 := hx.1
    have hy0 := hy.1
    have hm0 : 0 ≤ (i : Int) * t.step := Int.mul_nonneg (by omega) (by omega)
    have hm1 : (i : Int) * t.step ≤ 251 * 250 := Int.mul_le_mul (by omega) s1 (by omega) (by omega)
    have hpl := t.pos_lt i
    have hxx : P[t.pos i]? = some P[t.pos i] := List.getElem?_eq_getElem (by omega)
    have hge := hv _ (List.getElem_mem (show t.pos i < P.length by omega))
    have e : Int.tmod (IntKind.i64.wrap ((IntKind.i64.wrap (Int.tmod x 251)) + (IntKind.i64.wrap ((i : Int) * (IntKind.i64.wrap ((IntKind.i64.wrap (Int.tmod y 250)) + 1)))))) 251 = ((t.pos i : Nat) : Int) := by
      rw [Int.tmod_eq_emod_of_nonneg hx0, Int.tmod_eq_emod_of_nonneg hy0, wrap_i64 (x := x % 251) (by omega) (by omega), wrap_i64 (x := y % 250) (by omega) (by omega), wrap_i64 (x := y % 250 + 1) (by omega) (by omega), ← e1, ← e2, wrap_i64 (x := (i : Int) * t.step) (by omega) (by omega), wrap_i64 (by omega) (by omega), Int.tmod_eq_emod_of_nonneg (by omega), pos_int]
    rw [outriderref08_has_33_L0_eq, decide_eq_true (by omega), cond_true, e, row.ix1 hxx, asInt_int]
    by_cases h0 : P[t.pos i] < 0
    · have hm : P[t.pos i] = -1 := by omega
      rw [decide_eq_true h0, cond_true]
      unfold slotI
      rw [slot_of (i := i) (by omega) (by unfold isFree; rw [hxx, hm]; rfl) hn]
    · rw [decide_eq_false h0, cond_false, wrap_succ (by omega)]
      refine has_loop ht hx hy e1 e2 hP hv row n d (i + 1) m (by omega) (by omega) fun j hj => ?_
      by_cases hji : j = i
      · subst hji
        unfold isFree
        rw [hxx, beq_eq_false_iff_ne]
        intro e
        have := Option.some.inj e
        omega
      · exact hn j (by omega)
theorem has_eq {top : Int} {t : Tk} (ht : t.Ok top) {x y : Int} (hx : u64 x) (hy : u64 y) (e1 : t.at' = x % 251) (e2 : t.step = y % 250 + 1) {h : H} {P : List Int} (hP : P.length = 251) (hv : ∀ x ∈ P, -1 ≤ x) {p : Option (Nat × Nat)} {c : Cap} (row : Row h 1 p 251 c (P.map i64)) {n : Nat} (hn : 300 ≤ n) : outriderref08_has_33 n p 251 c x y h = some (slotI P t, h) := by
  rw [outriderref08_has_33_eq]
  exact has_loop ht hx hy e1 e2 hP hv row n 251 0 n (by omega) (by omega) fun j hj => by omega

theorem put_ge {P : List Int} {t : Tk} (hk : 0 ≤ t.k) (h : ∀ x ∈ P, -1 ≤ x) : ∀ x ∈ put P t, -1 ≤ x := by
  unfold put
  split
  · exact h
  · intro x hx
    rcases List.mem_or_eq_of_mem_set hx with hx | rfl
    · exact h x hx
    · omega

/-- the document's state: places, credits by number -/
structure PRep (a h : H) (key : List Int) (L : List Bk) (ys : List Nat) (pb cb : Nat) (P : List Int) (ts : List (Tk × Int)) : Prop where
  gp : h.get pb = some (.cells (P.map i64) false)
  cr : ∃ cs : List Int, cs.length = L.length ∧ h.get cb = some (.cells (cs.map i64) false) ∧ ∀ (r j : Nat) x, ys[r]? = some j → ts[r]? = some x → cs[j]? = some x.2
  plen : P.length = 251
  ge : ∀ x ∈ P, -1 ≤ x
  tk : ts.map (·.1) = ys.map fun i => tkOf key L i
  m : Mod [pb, cb] a h

section
variable {a : H} {key : List Int} {L : List Bk} {ys : List Nat} {pb cb kb : Nat} {p : Option (Nat × Nat)} {c : Cap} {op : Option (Nat × Nat)} {ol : Nat} {oc : Cap} {cc : Cap}

/-- what stands still meanwhile -/
structure PEnv (a : H) (key : List Int) (L : List Bk) (ys : List Nat) (pb cb kb : Nat) (p : Option (Nat × Nat)) (c : Cap) (op : Option (Nat × Nat)) (ol : Nat) (oc : Cap) : Prop where
  hk : Bytes key
  hk2 : key.length = 16
  ho : okL L
  hy : IsOrd L ys
  gk : a.get kb = some (.cells (u8s key) false)
  row : KRow a p L.length c L
  orow : Row a 1 op ol oc (ys.map iN)
  lt : kb < a.next ∧ pb < a.next ∧ cb < a.next
  ne : kb ≠ pb ∧ kb ≠ cb ∧ pb ≠ cb
  pd : ∀ x ∈ own p, x ≠ pb ∧ x ≠ cb
  od : ∀ x ∈ own op, x ≠ pb ∧ x ≠ cb

theorem Places_L3 (E : PEnv a key L ys pb cb kb p c op ol oc) {n : Nat} (hn : 5000 ≤ n) {m1 : Nat} {F : List Int}
    (hL2 : ∀ (h' : H) (P' : List Int) (ts' : List (Tk × Int)), PRep a h' key L ys pb cb P' ts' → StT (topTo L) (P', ts') → finP (topTo L) (P', ts') = F → free P' < m1 → Ret (outriderref08_Places_18_L2 n m1 p L.length c (some (kb, 0)) (some (pb, 0)) 251 (.known 251) (topTo L) (some (cb, 0)) L.length (.known L.length) op ol oc (free P') h') fun z h'' => z = (some (pb, 0), 251, .known 251) ∧ h''.get pb = some (.cells (F.map i64) false) ∧ Mod [pb, cb] a h'') :
    ∀ (rest pre : List (Tk × Int)) (m : Nat) (h : H) (P : List Int), PRep a h key L ys pb cb P (pre ++ rest) → rest.length < m → OkT (topTo L) (pre ++ rest) → StT (topTo L) ((turnT (topTo L) P rest).1, pre ++ (turnT (topTo L) P rest).2) → finP (topTo L) ((turnT (topTo L) P rest).1, pre ++ (turnT (topTo L) P rest).2) = F → free (turnT (topTo L) P rest).1 < m1 →
      Ret (outriderref08_Places_18_L3 n m1 m p L.length c (some (kb, 0)) (some (pb, 0)) 251 (.known 251) (topTo L) (some (cb, 0)) L.length (.known L.length) op ol oc (free P) pre.length h) fun z h'' => z = (some (pb, 0), 251, .known 251) ∧ h''.get pb = some (.cells (F.map i64) false) ∧ Mod [pb, cb] a h'' := by
  have hyl : ys.length = L.length := by rw [E.hy.perm.length_eq, List.length_range]
  have hol := E.orow.len1
  have hL := E.ho.2.1
  have htop := topTo_le E.ho
  intro rest
  induction rest with
  | nil =>
    intro pre m h P f hm hok hst hF hm1
    obtain ⟨m, rfl⟩ : ∃ m', m = m' + 1 := ⟨m - 1, by omega⟩
    have hl := congrArg List.length f.tk
    simp at hl
    rw [outriderref08_Places_18_L3_eq, cast_not_lt (by omega), cond_false]
    rw [List.append_nil] at f
    simp only [turnT, List.append_nil] at hst hF hm1
    exact hL2 h P pre f hst hF hm1
  | cons x rest ih =>
    intro pre m h P f hm hok hst hF hm1
    obtain ⟨m, rfl⟩ : ∃ m', m = m' + 1 := ⟨m - 1, by omega⟩
    have hl := congrArg List.length f.tk
    simp at hl
    have hx : (pre ++ x :: rest)[pre.length]? = some x := by simp
    have hxm : x ∈ pre ++ x :: rest := by simp
    obtain ⟨hxo, hx0, hx1⟩ := hok x hxm
    have hj : ys[pre.length]? = some ys[pre.length] := List.getElem?_eq_getElem (by omega)
    generalize ys[pre.length] = j at hj
    have hjl := (E.hy.mem j).1 (List.mem_of_getElem? hj)
    have hkj : L[j]? = some L[j] := List.getElem?_eq_getElem hjl
    have hte : x.1 = tkOf key L j := by
      have h1 : ((pre ++ x :: rest).map (·.1))[pre.length]? = some x.1 := by rw [List.getElem?_map, hx]; rfl
      rw [f.tk, List.getElem?_map, hj] at h1
      exact (Option.some.inj h1).symm
    obtain ⟨cs, hcl, gc, hcr⟩ := f.cr
    have hcj := hcr _ _ _ hj hx
    have hxw : x.1.w = wt L j := by rw [hte]; rfl
    have hxk : x.1.k = (j : Int) := by rw [hte]; rfl
    have hw0 := hxo.w0
    have hw1 := hxo.w1
    have hk0 := hxo.k0
    have orow' : Row h 1 op ol oc (ys.map iN) := E.orow.mod f.m fun y hy hy' => by have := E.od y hy; simp at hy'; omega
    have row' : KRow h p L.length c L := Row.mod E.row f.m fun y hy hy' => by have := E.pd y hy; simp at hy'; omega
    have ne1 := E.ne.1
    have ne2 := E.ne.2.1
    have ne3 := E.ne.2.2
    rw [outriderref08_Places_18_L3_eq, cast_lt (by omega), cond_true, orow'.ix1 hj, asInt_int, if_pos ⟨by omega, by omega⟩]
    simp only [nnK_some', Nat.zero_add]
    rw [cellK_of (o := (j : Int).toNat) gc (by rw [Int.toNat_natCast, List.getElem?_map, hcj]; rfl), asInt_int, Row.ix2 row' encK_len hkj 1 (v := .int .i64 (L[j]).2) rfl, asInt_int, ← wt_of hkj, ← hxw, if_pos ⟨by omega, by omega⟩, wrap_i64 (x := x.2 + x.1.w) (by omega) (by omega), wrK_one (o := (j : Int).toNat) gc (by rw [List.length_map]; omega) rfl, if_pos ⟨by omega, by omega⟩]
    have hset : ∀ v : Int, (cs.map i64).set (j : Int).toNat (.int .i64 v) = (cs.set j v).map i64 := fun v => by rw [Int.toNat_natCast, List.map_set]
    rw [hset, cellK_of (o := (j : Int).toNat) (get_set_self _ _ _) (by rw [Int.toNat_natCast, List.getElem?_map, List.getElem?_set_self (by omega)]; rfl), asInt_int]
    have hcr' : ∀ v : Int, ∀ (r i : Nat) y, ys[r]? = some i → ((pre ++ [(x.1, v)]) ++ rest)[r]? = some y → (cs.set j v)[i]? = some y.2 := by
      intro v r i y h1 h2
      rw [List.append_assoc, List.singleton_append] at h2
      by_cases hr : r = pre.length
      · subst hr
        rw [hj] at h1
        cases h1
        simp at h2
        subst h2
        rw [List.getElem?_set_self (by omega)]
      · have hne : j ≠ i := fun e => hr (by
          subst e
          have l1 := (List.getElem?_eq_some_iff.1 hj).1
          exact ((List.getElem?_inj l1 E.hy.nodup).1 (hj.trans h1.symm)).symm)
        rw [List.getElem?_set_ne hne]
        refine hcr r i y h1 ?_
        rw [← h2]
        by_cases hlt : r < pre.length
        · rw [List.getElem?_append_left hlt, List.getElem?_append_left hlt]
        · rw [List.getElem?_append_right (by omega), List.getElem?_append_right (by omega)]
          obtain ⟨q, hq⟩ : ∃ q, r - pre.length = q + 1 := ⟨r - pre.length - 1, by omega⟩
          rw [hq]; rfl
    have htk' : ∀ v : Int, ((pre ++ [(x.1, v)]) ++ rest).map (·.1) = ys.map fun i => tkOf key L i := fun v => by rw [← f.tk]; simp
    have hturn : turnT (topTo L) P (x :: rest) = ((turnT (topTo L) (step1 (topTo L) P x).1 rest).1, (x.1, (step1 (topTo L) P x).2) :: (turnT (topTo L) (step1 (topTo L) P x).1 rest).2) := rfl
    rw [hturn] at hst hF hm1
    simp only at hst hF hm1
    rw [show pre ++ (x.1, (step1 (topTo L) P x).2) :: (turnT (topTo L) (step1 (topTo L) P x).1 rest).2 = (pre ++ [(x.1, (step1 (topTo L) P x).2)]) ++ (turnT (topTo L) (step1 (topTo L) P x).1 rest).2 by rw [List.append_assoc, List.singleton_append]] at hst hF
    have hok' : OkT (topTo L) ((pre ++ [(x.1, (step1 (topTo L) P x).2)]) ++ rest) := by
      intro y hy
      simp only [List.append_assoc, List.singleton_append, List.mem_append, List.mem_cons] at hy
      rcases hy with hy | rfl | hy
      · exact hok y (by simp [hy])
      · exact ⟨hxo, step1_credit hxo hx0 hx1⟩
      · exact hok y (by simp [hy])
    have hlen1 : ((pre ++ [(x.1, (step1 (topTo L) P x).2)]).length : Int) = (pre.length : Int) + 1 := by simp
    have hmc : ∀ v : Int, Mod [pb, cb] a (h.set cb (.cells ((cs.set j v).map i64) false)) := fun v => f.m.set (.inr (by simp)) _
    by_cases hlt : x.2 + x.1.w < topTo L
    · have hs : step1 (topTo L) P x = (P, x.2 + x.1.w) := by unfold step1; rw [if_neg (by omega)]
      rw [decide_eq_false (by omega), cond_false, wrap_succ (by omega)]
      rw [hs] at hst hF hm1 hok' hlen1
      have f' : PRep a (h.set cb (.cells ((cs.set j (x.2 + x.1.w)).map i64) false)) key L ys pb cb P ((pre ++ [(x.1, x.2 + x.1.w)]) ++ rest) := ⟨(get_set_ne ne3).trans f.gp, ⟨_, by rw [List.length_set]; exact hcl, get_set_self _ _ _, hcr' _⟩, f.plen, f.ge, htk' _, hmc _⟩
      have := ih (pre ++ [(x.1, x.2 + x.1.w)]) m _ P f' (by simp at hm; omega) hok' hst hF hm1
      rw [List.length_append, List.length_singleton] at this
      exact this
    · have hs : step1 (topTo L) P x = (put P x.1, x.2 + x.1.w - topTo L) := by unfold step1; rw [if_pos (by omega)]
      rw [hs] at hst hF hm1 hok' hlen1
      rw [decide_eq_true (by omega), cond_true, if_pos ⟨by omega, by omega⟩, cellK_of (o := (j : Int).toNat) (get_set_self _ _ _) (by rw [Int.toNat_natCast, List.getElem?_map, List.getElem?_set_self (by omega)]; rfl), asInt_int, if_pos ⟨by omega, by omega⟩, wrap_i64 (x := x.2 + x.1.w - topTo L) (by omega) (by omega), wrK_one (o := (j : Int).toNat) (get_set_self _ _ _) (by rw [List.length_map, List.length_set]; omega) rfl, set_set]
      have hset2 : ∀ u v : Int, ((cs.set j u).map i64).set (j : Int).toNat (.int .i64 v) = (cs.set j v).map i64 := fun u v => by rw [Int.toNat_natCast, List.map_set, List.map_set, List.set_set]
      rw [hset2]
      have m5 := hmc (x.2 + x.1.w - topTo L)
      have gp5 : (h.set cb (.cells ((cs.set j (x.2 + x.1.w - topTo L)).map i64) false)).get pb = _ := (get_set_ne ne3).trans f.gp
      have gc5 := get_set_self h cb (.cells ((cs.set j (x.2 + x.1.w - topTo L)).map i64) false)
      generalize h.set cb (.cells ((cs.set j (x.2 + x.1.w - topTo L)).map i64) false) = h5 at *
      have row5 : KRow h5 p L.length c L := Row.mod E.row m5 fun y hy hy' => by have := E.pd y hy; simp at hy'; omega
      rw [aggK_all (n := 16) ((m5.get _ E.lt.1 (by simp; omega)).trans E.gk) (by simp [E.hk2]), Row.ix20 row5 encK_len hkj (v := .str (L[j]).1) rfl]
      simp only [asStr_str]
      have hokj := E.ho.2.2.1 _ (List.getElem_mem hjl)
      refine (refTwo_ret h5 (n := n) E.hk E.hk2 (L[j]).1 (by have := hokj.2.1; omega) (by have := hokj.2.1; omega)).bind fun r h6 ⟨er, m6⟩ => ?_
      subst er
      simp only
      have hn5 := m5.next
      have gp6 := (m6.get _ (by have := E.lt; omega) (by simp)).trans gp5
      have gc6 := (m6.get _ (by have := E.lt; omega) (by simp)).trans gc5
      have hn6 := m6.next
      have m56 : Mod [pb, cb] a h6 := m5.trans m6.of_nil
      have hu := u64_two (key := key) (s := (L[j]).1)
      have pr6 : Row h6 1 (some (pb, 0)) 251 (.known 251) (P.map i64) := .row (by have := E.lt; omega) gp6 (by rw [List.drop_zero, List.take_of_length_le (by rw [List.length_map, f.plen]; omega)]) (by rw [List.length_map, f.plen]; omega) (.inr ⟨251, rfl, Nat.le_refl _⟩)
      have hat : x.1.at' = (two key (L[j]).1).1 % 251 ∧ x.1.step = (two key (L[j]).1).2 % 250 + 1 := by
        rw [hte]; unfold tkOf; simp only; rw [nm_of hkj]; exact ⟨rfl, rfl⟩
      rw [has_eq hxo hu.1 hu.2 hat.1 hat.2 f.plen f.ge pr6 (n := n) (by omega), Option.bind_some]
      have hfl := free_le (P := P)
      have hP := f.plen
      cases hsl : slot P x.1 with
      | none =>
        have hpe : put P x.1 = P := by unfold put; rw [hsl]
        rw [hpe] at hst hF hm1
        have hsi : slotI P x.1 = -1 := by unfold slotI; rw [hsl]
        rw [hsi, decide_eq_false (show ¬ (-1 : Int) ≥ 0 by omega), cond_false, wrap_succ (by omega)]
        have f' : PRep a h6 key L ys pb cb P ((pre ++ [(x.1, x.2 + x.1.w - topTo L)]) ++ rest) := ⟨gp6, ⟨_, by rw [List.length_set]; exact hcl, gc6, hcr' _⟩, f.plen, f.ge, htk' _, m56⟩
        have := ih (pre ++ [(x.1, x.2 + x.1.w - topTo L)]) m _ P f' (by simp at hm; omega) hok' hst hF hm1
        rw [List.length_append, List.length_singleton] at this
        exact this
      | some s =>
        have hfp := free_put hsl hk0
        have hpl := x.1.pos_lt s
        have hsi : slotI P x.1 = ((x.1.pos s : Nat) : Int) := by unfold slotI; rw [hsl]
        rw [hsi, decide_eq_true (by omega), cond_true, if_pos ⟨by omega, by omega⟩, Int.toNat_natCast, wrK_one (o := x.1.pos s) gp6 (by rw [List.length_map]; omega) rfl, wrap_succ (by omega), show IntKind.i64.wrap ((free P : Int) - 1) = ((free (put P x.1) : Nat) : Int) by rw [wrap_i64 (by omega) (by omega)]; omega]
        have e6 : (P.map i64).set (x.1.pos s) (.int .i64 (j : Int)) = (put P x.1).map i64 := by rw [put_some hsl, hxk, List.map_set]
        rw [e6]
        have f' : PRep a (h6.set pb (.cells ((put P x.1).map i64) false)) key L ys pb cb (put P x.1) ((pre ++ [(x.1, x.2 + x.1.w - topTo L)]) ++ rest) := ⟨get_set_self _ _ _, ⟨_, by rw [List.length_set]; exact hcl, (get_set_ne (Ne.symm ne3)).trans gc6, hcr' _⟩, by rw [put_len]; exact f.plen, put_ge hk0 f.ge, htk' _, m56.set (.inr (by simp)) _⟩
        have := ih (pre ++ [(x.1, x.2 + x.1.w - topTo L)]) m _ (put P x.1) f' (by simp at hm; omega) hok' hst hF hm1
        rw [List.length_append, List.length_singleton] at this
        exact this

theorem Places_L2 (E : PEnv a key L ys pb cb kb p c op ol oc) {n : Nat} (hn : 5000 ≤ n) {F : List Int} : ∀ (m : Nat) (h : H) (P : List Int) (ts : List (Tk × Int)), PRep a h key L ys pb cb P ts → StT (topTo L) (P, ts) → finP (topTo L) (P, ts) = F → free P < m →
    Ret (outriderref08_Places_18_L2 n m p L.length c (some (kb, 0)) (some (pb, 0)) 251 (.known 251) (topTo L) (some (cb, 0)) L.length (.known L.length) op ol oc (free P) h) fun z h'' => z = (some (pb, 0), 251, .known 251) ∧ h''.get pb = some (.cells (F.map i64) false) ∧ Mod [pb, cb] a h'' := by
  intro m
  induction m with
  | zero => intro h P ts _ _ _ hm; omega
  | succ m ih =>
    intro h P ts f hst hF hm
    rw [outriderref08_Places_18_L2_eq]
    by_cases h0 : free P = 0
    · rw [h0, show decide (((0 : Nat) : Int) > 0) = false by decide, cond_false]
      have e : finP (topTo L) (P, ts) = P := fin_full h0
      rw [e] at hF
      subst hF
      exact .pure ⟨rfl, f.gp, f.m⟩
    · rw [decide_eq_true (by omega), cond_true]
      have hlt : free (turnT (topTo L) P ts).1 < free P := turn_lt hst.ok hst.len (by omega) hst.top
      have hl := congrArg List.length f.tk
      simp at hl
      have hyl : ys.length = L.length := by rw [E.hy.perm.length_eq, List.length_range]
      have hL := E.ho.2.1
      have := Places_L3 E hn (m1 := m) (fun h' P' ts' f' s' e' l' => ih h' P' ts' f' s' e' l') ts [] n h P f (by omega) hst.ok hst.turn ((fin_turn hst).trans hF) (by omega)
      exact this
end

theorem Places_L1 {h : H} {p : Option (Nat × Nat)} {c : Cap} {L : List Bk} (row : KRow h p L.length c L) (hl : L.length ≤ 16) {kb pb : Nat} {n : Nat} : ∀ (d i m : Nat), i + d = L.length → d < m →
    outriderref08_Places_18_L1 n m p L.length c (some (kb, 0)) (some (pb, 0)) 251 (.known 251) (topTo (L.take i)) i h = mkSlK 1 8 [(.int .i64 0)] (Nat.cast L.length) (Nat.cast L.length) h fun i14 n15 c16 h17 => (outriderref08_Order_31 n p L.length c h17).bind fun r18 => outriderref08_Places_18_L2 n n p L.length c (some (kb, 0)) (some (pb, 0)) 251 (.known 251) (topTo L) (some (i14, 0)) n15 (.known c16) r18.1.1 r18.1.2.1 r18.1.2.2 251 r18.2
  | 0, i, m + 1, hi, _ => by
    rw [outriderref08_Places_18_L1_eq, cast_not_lt (by omega), cond_false, List.take_of_length_le (by omega)]
  | d + 1, i, m + 1, hi, hf => by
    have hx : L[i]? = some L[i] := List.getElem?_eq_getElem (by omega)
    have htop : topTo (L.take (i + 1)) = if L[i].2 > topTo (L.take i) then L[i].2 else topTo (L.take i) := by rw [List.take_add_one, hx]; exact topTo_snoc _ _
    have ih := Places_L1 row hl (kb := kb) (pb := pb) (n := n) d (i + 1) m (by omega) (by omega)
    rw [outriderref08_Places_18_L1_eq, cast_lt (by omega), cond_true, Row.ix2 row encK_len hx 1 (v := .int .i64 (L[i]).2) rfl, asInt_int, wrap_succ (by omega), ← htop]
    exact ih

theorem Places_L0 {a : H} {p : Option (Nat × Nat)} {c : Cap} {L : List Bk} {kb pb : Nat} {n : Nat} {Q : Option (Nat × Nat) × Nat × Cap → H → Prop} (k : ∀ h, Mod [pb] a h → h.get pb = some (.cells ((List.replicate 251 (-1)).map i64) false) → Ret (outriderref08_Places_18_L1 n n p L.length c (some (kb, 0)) (some (pb, 0)) 251 (.known 251) 0 0 h) Q) : ∀ (d i m : Nat) (h : H), i + d = 251 → d < m → Mod [pb] a h → h.get pb = some (.cells ((List.replicate i (-1) ++ List.replicate d 0).map i64) false) →
    Ret (outriderref08_Places_18_L0 n m p L.length c (some (kb, 0)) (some (pb, 0)) 251 (.known 251) i h) Q
  | 0, i, m + 1, h, hi, _, hm, g => by
    obtain rfl : i = 251 := by omega
    rw [outriderref08_Places_18_L0_eq, decide_eq_false (by omega), cond_false]
    exact k h hm (by simpa using g)
  | d + 1, i, m + 1, h, hi, hf, hm, g => by
    rw [outriderref08_Places_18_L0_eq, decide_eq_true (by omega), cond_true, if_pos ⟨by omega, by omega⟩]
    simp only [nnK_some', Nat.zero_add]
    rw [Int.toNat_natCast, wrK_one (o := i) g (by simp <;> omega) rfl, wrap_succ (by omega)]
    refine Places_L0 k d (i + 1) m _ (by omega) (by omega) (hm.set (.inr (by simp)) _) ?_
    rw [get_set_self]
    congr 2
    rw [← List.map_set, List.set_append_right _ _ (by simp), List.length_replicate, Nat.sub_self, List.replicate_succ (n := d), List.set_cons_zero, List.replicate_succ' (n := i), List.append_assoc, List.singleton_append]

theorem Places_ret {h : H} {key : List Int} (hk : Bytes key) (hk2 : key.length = 16) {p : Option (Nat × Nat)} {c : Cap} {L : List Bk} (ho : okL L) (row : KRow h p L.length c L) {ys : List Nat} (hy : IsOrd L ys) {n : Nat} (hn : 5000 ≤ n) :
    Ret (outriderref08_Places_18 n (u8s key) p L.length c h) fun z h' => Row h' 1 z.1 z.2.1 z.2.2 ((placesOf key L ys).map i64) ∧ (∀ x ∈ own z.1, h.next ≤ x) ∧ z.2.1 = 251 ∧ Mod [] h h' := by
  have hL := ho.2.1
  rw [outriderref08_Places_18_eq, newK_eq]
  rw [show (251 : Int) = ((251 : Nat) : Int) from rfl, mkSlK_of _ (by omega) (by omega), Nat.mul_one, tile_one]
  have m2 : Mod [] h ((h.new (.cells (u8s key) false)).new (.cells (List.replicate 251 (.int .i64 0)) false)) := ((Mod.refl _ _).new _).new _
  have gk : ((h.new (.cells (u8s key) false)).new (.cells (List.replicate 251 (.int .i64 0)) false)).get h.next = some (.cells (u8s key) false) := (get_new_lt (Nat.lt_succ_self _)).trans (get_new_self _ _)
  have gp : ((h.new (.cells (u8s key) false)).new (.cells (List.replicate 251 (.int .i64 0)) false)).get (h.next + 1) = some (.cells (List.replicate 251 (.int .i64 0)) false) := get_new_self _ _
  have n2 : ((h.new (.cells (u8s key) false)).new (.cells (List.replicate 251 (.int .i64 0)) false)).next = h.next + 2 := rfl
  rw [show (h.new (.cells (u8s key) false)).next = h.next + 1 from rfl]
  generalize (h.new (.cells (u8s key) false)).new (.cells (List.replicate 251 (.int .i64 0)) false) = h2 at *
  have hplt : ∀ x ∈ own p, x < h.next := fun x hx => Row.lt row x hx
  refine Places_L0 (a := h2) (pb := h.next + 1) (kb := h.next) (fun h3 m3 g3 => ?_) 251 0 n h2 (by omega) (by omega) (Mod.refl _ _) (by rw [gp, List.replicate_zero, List.nil_append, List.map_replicate])
  have hn3 := m3.next
  have row3 : KRow h3 p L.length c L := Row.mod (Row.mod0 row m2) m3 fun x hx hx' => by have := hplt x hx; simp at hx'; omega
  have e1 := Places_L1 row3 hL (kb := h.next) (pb := h.next + 1) (n := n) L.length 0 n (Nat.zero_add _) (by omega)
  rw [List.take_zero] at e1
  rw [show topTo [] = 0 from rfl] at e1
  rw [show ((0 : Nat) : Int) = 0 from rfl] at e1
  rw [e1, mkSlK_of _ (by omega) (by omega), Nat.mul_one, tile_one]
  have m4 : Mod [] h3 (h3.new (.cells (List.replicate L.length (.int .i64 0)) false)) := (Mod.refl _ _).new _
  have g4 := get_new_self h3 (.cells (List.replicate L.length (.int .i64 0)) false)
  have n4 : (h3.new (.cells (List.replicate L.length (.int .i64 0)) false)).next = h3.next + 1 := rfl
  generalize h3.new (.cells (List.replicate L.length (.int .i64 0)) false) = h4 at *
  refine (Order_ret (Row.mod0 row3 m4) hL hy (n := n) (by omega)).bind fun z h5 ⟨orow, ofr, m5⟩ => ?_
  simp only
  have hn5 := m5.next
  have m45 := m4.trans m5
  have E : PEnv h5 key L ys (h.next + 1) h3.next h.next p c z.1 z.2.1 z.2.2 := ⟨hk, hk2, ho, hy, (m45.get _ (by omega) (by simp)).trans ((m3.get _ (by omega) (by simp)).trans gk), Row.mod0 row3 m45, orow, ⟨by omega, by omega, by omega⟩, ⟨by omega, by omega, by omega⟩, fun x hx => by have := hplt x hx; omega, fun x hx => by have := ofr x hx; omega⟩
  have f : PRep h5 h5 key L ys (h.next + 1) h3.next (List.replicate 251 (-1)) (tks key L ys) := by
    refine ⟨(m45.get _ (by omega) (by simp)).trans g3, ⟨List.replicate L.length 0, by simp, ?_, fun r j x e1 e2 => ?_⟩, by simp, fun x hx => by rw [List.eq_of_mem_replicate hx]; omega, by unfold tks; rw [List.map_map]; rfl, Mod.refl _ _⟩
    · rw [List.map_replicate]
      exact (m5.get _ (by omega) (by simp)).trans g4
    · unfold tks at e2
      rw [List.getElem?_map] at e2
      obtain ⟨i, _, rfl⟩ := Option.map_eq_some_iff.1 e2
      have hjl := (hy.mem j).1 (List.mem_of_getElem? e1)
      rw [List.getElem?_replicate, if_pos hjl]
  have hst := tks_st (key := key) ho hy
  have hfr : free (List.replicate 251 (-1)) = 251 := by unfold free; rw [List.count_replicate_self]
  have fin := Places_L2 E hn (F := placesOf key L ys) n h5 _ _ f hst rfl (by omega)
  rw [hfr] at fin
  refine fin.mono fun z' h6 ⟨ez, g6, m6⟩ => ?_
  subst ez
  have hn6 := m6.next
  have hpl := placesOf_len key L ys
  have r6 : Row h6 1 (some (h.next + 1, 0)) 251 (.known 251) ((placesOf key L ys).map i64) := .row (by omega) g6 (by rw [List.drop_zero, List.take_of_length_le (by rw [List.length_map, hpl]; omega)]) (by rw [List.length_map, hpl]; omega) (.inr ⟨251, rfl, Nat.le_refl _⟩)
  refine ⟨r6, fun x hx => by simp at hx; omega, rfl, ?_⟩
  exact ((m2.trans' m3 fun x hx hl => by simp at hx; omega).trans m45).trans' m6 fun x hx hl => by simp at hx; omega

end Go.Ev.Try
