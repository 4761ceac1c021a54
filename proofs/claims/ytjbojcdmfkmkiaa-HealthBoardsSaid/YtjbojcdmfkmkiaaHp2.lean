/- Chapter 11: boards. -/
import Derived.Test.YtjbojcdmfkmkiaaHp1
set_option linter.all false
namespace Go.Ev.Try
set_option maxRecDepth 10000
open Go.Proofs

theorem told_lt {upto : Int} {L : List (Int × Int)} : (told upto L).length ≤ L.length := by unfold told; rw [List.length_map]; exact List.length_filter_le _ _
theorem left_lt {upto : Int} {L : List (Int × Int)} : (left upto L).length ≤ L.length := List.length_filter_le _ _

/-- a Move, whether it may be or not -/
def moveT (now : Int) (L : List (Int × Int)) (upto : Int) : Int × List (Int × Int) := if moves now upto then (upto, left upto L) else (now, L)
def moveTold (now : Int) (L : List (Int × Int)) (upto : Int) : List Int := if moves now upto then told upto L else []
theorem Wheel.moveAny {h : H} {b : Nat} {B : List Nat} {now : Int} {L : List (Int × Int)} (w : Wheel h b B now L) (upto : Int) (hsz : L.length < 400000) {n : Nat} (hn : 600 ≤ n) (hn2 : L.length < n) :
    RetK (fun kk => wheel_Wheel_Move_29 n (some (b, 0)) upto h kk) fun r h' => Mod B h h' ∧ Grow h h' 1 r.1 r.2.1 r.2.2 ((moveTold now L upto).map i64) ∧ Wheel h' b B (moveT now L upto).1 (moveT now L upto).2 := by
  unfold moveT moveTold
  by_cases hm : moves now upto
  · rw [if_pos hm, if_pos hm]
    exact w.move hm.1 hm.2 hsz hn hn2
  · rw [if_neg hm, if_neg hm]
    exact (w.moveBad hm n).mono fun r h' ⟨e, m⟩ => ⟨m.of_nil, by subst e; exact .nil, w.mod0 m⟩
theorem Doc.moveAny {now : Int} {L : List (Int × Int)} (d : Doc now L) (upto : Int) : Doc (moveT now L upto).1 (moveT now L upto).2 := by
  unfold moveT
  split
  · rename_i h; exact d.move h.1 h.2
  · exact d

def ptrOf (b : Nat) : AV := .ptr (some (b, 0))

structure BRep (h : H) (bb : Nat) (r : Rul) (p : Option (Nat × Nat)) (c : Cap) (ps : List Nat) (st : List (Bool × Int)) (wb : Nat) (WB : List Nat) (now : Int) (L : List (Int × Int)) : Prop where
  lb : bb < h.next
  obj : h.get bb = some (.cells [i64 r.rise, i64 r.fall, i64 r.every, .slice p ps.length c, .ptr (some (wb, 0))] false)
  row : Row h 1 p ps.length c (ps.map ptrOf)
  len : st.length = ps.length
  prb : ∀ (k b : Nat) s, ps[k]? = some b → st[k]? = some s → h.get b = some (.cells (pcells r s) false)
  lp : ∀ b ∈ ps, b < h.next
  wheel : Wheel h wb WB now L
  d1 : bb ∉ own p ∧ bb ∉ ps ∧ bb ∉ WB
  d2 : ∀ x ∈ own p, x ∉ ps ∧ x ∉ WB
  d3 : ∀ x ∈ ps, x ∉ WB
  d4 : ps.Nodup

section
variable {h : H} {bb : Nat} {r : Rul} {p : Option (Nat × Nat)} {c : Cap} {ps : List Nat} {st : List (Bool × Int)} {wb : Nat} {WB : List Nat} {now : Int} {L : List (Int × Int)}

/-- the board's blocks -/
def bblocks (bb : Nat) (p : Option (Nat × Nat)) (ps WB : List Nat) : List Nat := bb :: (own p ++ (ps ++ WB))
theorem BRep.lt (b : BRep h bb r p c ps st wb WB now L) : ∀ x ∈ bblocks bb p ps WB, x < h.next := by
  intro x hx
  unfold bblocks at hx
  simp only [List.mem_cons, List.mem_append] at hx
  rcases hx with rfl | hx | hx | hx
  · exact b.lb
  · exact b.row.lt x hx
  · exact b.lp x hx
  · exact b.wheel.lt x hx
theorem BRep.mod {h' : H} {S : List Nat} (b : BRep h bb r p c ps st wb WB now L) (m : Mod S h h') (hS : ∀ x ∈ bblocks bb p ps WB, x ∉ S) : BRep h' bb r p c ps st wb WB now L := by
  unfold bblocks at hS
  simp only [List.mem_cons, List.mem_append] at hS
  exact ⟨m.lt b.lb, (m.get _ b.lb (hS _ (.inl rfl))).trans b.obj, b.row.mod m fun x hx => hS x (.inr (.inl hx)), b.len, fun k x s h1 h2 => (m.get _ (b.lp x (List.mem_of_getElem? h1)) (hS x (.inr (.inr (.inl (List.mem_of_getElem? h1)))))).trans (b.prb k x s h1 h2), fun x hx => m.lt (b.lp x hx), b.wheel.mod m fun x hx => hS x (.inr (.inr (.inr hx))), b.d1, b.d2, b.d3, b.d4⟩
theorem BRep.mod0 {h' : H} (b : BRep h bb r p c ps st wb WB now L) (m : Mod [] h h') : BRep h' bb r p c ps st wb WB now L := b.mod m fun x _ => by simp

theorem TellB_ret (b : BRep h bb r p c ps st wb WB now L) (ho : okR r) (hst : ∀ s ∈ st, okP r s) {k : Nat} {s : Bool × Int} (hk : st[k]? = some s) (good : Bool) (n : Nat) :
    ∃ h', health_Board_Tell_20 n (some (bb, 0)) k good h = some (((tellP r s good).2, true), h') ∧ BRep h' bb r p c ps (st.set k (tellP r s good).1) wb WB now L ∧ Mod ps h h' := by
  have hkl : k < ps.length := by have := (List.getElem?_eq_some_iff.1 hk).1; have := b.len; omega
  have hpk : ps[k]? = some ps[k] := List.getElem?_eq_getElem hkl
  have hmem : ps[k] ∈ ps := List.getElem_mem hkl
  rw [health_Board_Tell_20_eq, decide_eq_false (show ¬ ((k : Nat) : Int) < 0 by omega), cond_false]
  simp only [nnK_some', Nat.zero_add]
  rw [cellK_of b.obj rfl, asSlice_slice, decide_eq_false (show ¬ ((k : Nat) : Int) ≥ ((ps.length : Nat) : Int) by omega), health_Board_Tell_20_J0_eq, cond_false]
  simp only [nnK_some', Nat.zero_add]
  rw [cellK_of b.obj rfl, asSlice_slice, b.row.ix1 hpk]
  simp only [ptrOf]
  rw [asPtr_ptr]
  obtain ⟨h', e, g, hn, hk'⟩ := TellP_ret ho (hst s (List.mem_of_getElem? hk)) (b.prb k _ s hpk hk) good n
  rw [e, Option.bind_some]
  have m : Mod [ps[k]] h h' := ⟨by omega, fun j _ hj => hk' j (by simpa using hj)⟩
  refine ⟨h', rfl, ⟨by rw [hn]; exact b.lb, (hk' _ fun e : bb = ps[k] => b.d1.2.1 (by rw [e]; exact hmem)).trans b.obj, b.row.mod m fun x hx hx' => ?_, by rw [List.length_set]; exact b.len, fun j x s' h1 h2 => ?_, fun x hx => by rw [hn]; exact b.lp x hx, b.wheel.mod m fun x hx hx' => ?_, b.d1, b.d2, b.d3, b.d4⟩, ⟨by omega, fun j _ hj => hk' j fun e => hj (e ▸ hmem)⟩⟩
  · simp at hx'
    exact (b.d2 x hx).1 (hx' ▸ hmem)
  · by_cases hjk : j = k
    · subst hjk
      rw [hpk] at h1
      cases h1
      rw [List.getElem?_set_self (by have := b.len; omega)] at h2
      cases h2
      exact g
    · rw [List.getElem?_set_ne (Ne.symm hjk)] at h2
      have hne : x ≠ ps[k] := fun e => hjk (by
        subst e
        have l1 := (List.getElem?_eq_some_iff.1 h1).1
        exact (List.getElem?_inj l1 b.d4).1 (h1.trans hpk.symm))
      exact (hk' x hne).trans (b.prb j x s' h1 h2)
  · simp at hx'
    exact b.d3 _ hmem (hx' ▸ hx)

theorem TellB_bad (b : BRep h bb r p c ps st wb WB now L) {k : Int} (hk : ¬ (0 ≤ k ∧ k < (ps.length : Int))) (good : Bool) (n : Nat) : health_Board_Tell_20 n (some (bb, 0)) k good h = some ((false, false), h) := by
  have j : health_Board_Tell_20_J0 n (some (bb, 0)) k good true h = some ((false, false), h) := by rw [health_Board_Tell_20_J0_eq, cond_true]
  rw [health_Board_Tell_20_eq]
  by_cases h0 : k < 0
  · rw [decide_eq_true h0, cond_true]; exact j
  · rw [decide_eq_false h0, cond_false]
    simp only [nnK_some', Nat.zero_add]
    rw [cellK_of b.obj rfl, asSlice_slice, decide_eq_true (show k ≥ ((ps.length : Nat) : Int) by omega)]
    exact j

theorem UpB_loop {a : H} (b : BRep a bb r p c ps st wb WB now L) (hl : ps.length < 1000000) (n : Nat) : ∀ (d k m : Nat) (q : Option (Nat × Nat)) (ql : Nat) (qc : Cap) (h : H), k + d = ps.length → d < m → Grow a h 1 q ql qc ((st.take k).map fun s => AV.bool s.1) → Mod [] a h →
    Ret (health_Board_Up_24_L0 n m q ql qc p ps.length c ps.length k h) fun q h' => Grow a h' 1 q.1 q.2.1 q.2.2 (st.map fun s => AV.bool s.1) ∧ Mod [] a h'
  | 0, k, m + 1, q, ql, qc, h, hk, _, g, hm => by
    rw [health_Board_Up_24_L0_eq, cast_not_lt (by omega), cond_false]
    have := b.len
    rw [List.take_of_length_le (by omega)] at g
    exact .pure ⟨g, hm⟩
  | d + 1, k, m + 1, q, ql, qc, h, hk, hf, g, hm => by
    have hlen := b.len
    have hkl : k < ps.length := by omega
    have hpk : ps[k]? = some ps[k] := List.getElem?_eq_getElem hkl
    have hsk : st[k]? = some st[k] := List.getElem?_eq_getElem (by omega)
    have b' := b.mod0 hm
    have hql : ql = k := by have := g.row.length; simp at this; omega
    rw [health_Board_Up_24_L0_eq, cast_lt hkl, cond_true, b'.row.ix1 hpk]
    simp only [ptrOf]
    rw [asPtr_ptr]
    simp only [nnK_some', Nat.zero_add]
    rw [cellK_of (o := 3) (b'.prb k _ _ hpk hsk) rfl, asBool_bool, newK_eq, wrap_succ (by omega)]
    refine Grow.push (size := 1) (bytes := 1) g hm.next (xs := [.bool (st[k]).1]) rfl rfl (by omega) (by omega) (by omega) fun p' c' h' g' m' => ?_
    refine UpB_loop b hl n d (k + 1) m p' (ql + 1) c' h' (by omega) (by omega) ?_ (hm.push g m')
    rw [List.take_add_one, hsk, List.map_append]
    exact g'

theorem UpB_ret (b : BRep h bb r p c ps st wb WB now L) (hl : ps.length < 1000000) {n : Nat} (hn : ps.length < n) : Ret (health_Board_Up_24 n (some (bb, 0)) h) fun q h' => Grow h h' 1 q.1 q.2.1 q.2.2 (st.map fun s => AV.bool s.1) ∧ Mod [] h h' := by
  rw [health_Board_Up_24_eq]
  simp only [nnK_some', Nat.zero_add]
  rw [cellK_of b.obj rfl, asSlice_slice]
  exact UpB_loop b hl n ps.length 0 n none 0 (.known 0) h (by omega) hn .nil (Mod.refl _ _)

/-! ### Move -/

def resets (u : Int) (ids : List Int) (L : List (Int × Int)) : List (Int × Int) := ids.foldl (fun L k => ins (k, u) (wo L k)) L
def latest : Int := 1099511617776
def bMove (every now : Int) (L : List (Int × Int)) (upto : Int) : Int × List (Int × Int) := if upto > latest then (now, L) else ((moveT now L upto).1, resets (upto + every) (moveTold now L upto) (moveT now L upto).2)
def bTold (now : Int) (L : List (Int × Int)) (upto : Int) : List Int := if upto > latest then [] else moveTold now L upto

theorem ins_wo_len (a : Int × Int) (L : List (Int × Int)) (id : Int) : (ins a (wo L id)).length ≤ L.length + 1 := by
  have h4 := (ins_perm a (wo L id)).length_eq
  have h5 : (wo L id).length ≤ L.length := List.length_filter_le _ _
  simp only [List.length_cons] at h4
  omega
theorem resets_len (u : Int) : ∀ (ids : List Int) (L : List (Int × Int)), (resets u ids L).length ≤ L.length + ids.length
  | [], L => Nat.le_refl _
  | k :: ids, L => by
    have h1 := resets_len u ids (ins (k, u) (wo L k))
    have h2 := ins_wo_len (k, u) L k
    unfold resets at h1 ⊢
    rw [List.foldl_cons]
    simp only [List.length_cons]
    omega
theorem left_told_len (u : Int) : ∀ L : List (Int × Int), (left u L).length + (told u L).length = L.length
  | [] => rfl
  | e :: L => by
    have ih := left_told_len u L
    unfold left told at *
    rw [List.length_map] at ih ⊢
    rw [List.filter_cons, List.filter_cons]
    by_cases h : u < e.2
    · rw [if_pos (by simpa using h), if_neg (by simp; omega)]
      simp only [List.length_cons]; omega
    · rw [if_neg (by simpa using h), if_pos (by simp; omega)]
      simp only [List.length_cons]; omega
theorem bMove_len (every now : Int) (L : List (Int × Int)) (upto : Int) : (bMove every now L upto).2.length ≤ L.length := by
  unfold bMove
  split
  · exact Nat.le_refl _
  · have h1 := resets_len (upto + every) (moveTold now L upto) (moveT now L upto).2
    unfold moveT moveTold at *
    split at h1
    · have h2 := left_told_len upto L
      simp only at h1 ⊢
      rename_i hm
      simp only [if_pos hm]
      omega
    · rename_i hm
      simp only [if_neg hm] at *
      simpa using h1
theorem bTold_len (now : Int) (L : List (Int × Int)) (upto : Int) : (bTold now L upto).length ≤ L.length := by
  unfold bTold moveTold
  split
  · simp
  · split
    · exact told_lt
    · simp

theorem MoveB_loop (ho : okR r) {upto : Int} (hu : upto ≤ latest) {q : Option (Nat × Nat)} {qc : Cap} {ids : List Int} {a : H} (hq : Row a 1 q ids.length qc (ids.map i64)) (hql : ids.length < 1000000) (hqd : ∀ x ∈ own q, x ∉ WB) (hid : ∀ k ∈ ids, may k (upto + r.every)) (n : Nat) {kk : Option (Nat × Nat) × Nat × Cap → H → Option Unit} {L0 : List (Int × Int)}
    (hk : ∀ h', BRep h' bb r p c ps st wb WB now (resets (upto + r.every) ids L0) → Mod WB a h' → kk (q, ids.length, qc) h' = some ()) :
    ∀ (d j m : Nat) (h : H), j + d = ids.length → d < m → BRep h bb r p c ps st wb WB now (resets (upto + r.every) (ids.take j) L0) → Mod WB a h →
      health_Board_Move_14_L0 n kk m (some (bb, 0)) upto q ids.length qc q ids.length qc ids.length j h = some ()
  | 0, j, m + 1, h, hj, _, b, hm => by
    rw [health_Board_Move_14_L0_eq, cast_not_lt (by omega), cond_false]
    rw [List.take_of_length_le (by omega)] at b
    exact hk h b hm
  | d + 1, j, m + 1, h, hj, hf, b, hm => by
    have hlt : j < ids.length := by omega
    have hx : ids[j]? = some ids[j] := List.getElem?_eq_getElem hlt
    have hmay := hid _ (List.getElem_mem hlt)
    have hev : 1 ≤ r.every ∧ r.every ≤ 10000 := ⟨ho.2.2.2.2.1, ho.2.2.2.2.2⟩
    have hm3 := hmay.2.2.1
    have hm4 := hmay.2.2.2
    unfold latest at hu
    rw [health_Board_Move_14_L0_eq, cast_lt hlt, cond_true, (hq.mod hm hqd).ix1 hx, asInt_int]
    simp only [nnK_some', Nat.zero_add]
    rw [cellK_of (o := 4) b.obj rfl, asPtr_ptr, cellK_of (o := 2) b.obj rfl, asInt_int, wrap_i64 (by omega) (by omega)]
    obtain ⟨h', e, m', w'⟩ := b.wheel.set n hmay
    rw [e, Option.bind_some, wrap_succ (by omega)]
    have htake : ids.take (j + 1) = ids.take j ++ [ids[j]] := by rw [List.take_add_one, hx]; rfl
    have hr : resets (upto + r.every) (ids.take (j + 1)) L0 = ins (ids[j], upto + r.every) (wo (resets (upto + r.every) (ids.take j) L0) ids[j]) := by
      rw [htake]; unfold resets; rw [List.foldl_append]; rfl
    refine MoveB_loop ho hu hq hql hqd hid n hk d (j + 1) m h' (by omega) (by omega) ?_ (hm.trans m')
    rw [hr]
    exact ⟨m'.lt b.lb, (m'.get _ b.lb b.d1.2.2).trans b.obj, b.row.mod m' fun x hx => (b.d2 x hx).2, b.len, fun k x s h1 h2 => (m'.get _ (b.lp x (List.mem_of_getElem? h1)) (b.d3 x (List.mem_of_getElem? h1))).trans (b.prb k x s h1 h2), fun x hx => m'.lt (b.lp x hx), w', b.d1, b.d2, b.d3, b.d4⟩

theorem MoveB_ret (b : BRep h bb r p c ps st wb WB now L) (ho : okR r) (upto : Int) (hL : L.length < 1000) {n : Nat} (hn : 1000 ≤ n) :
    RetK (fun kk => health_Board_Move_14 n (some (bb, 0)) upto h kk) fun q h' => Mod WB h h' ∧ Grow h h' 1 q.1 q.2.1 q.2.2 ((bTold now L upto).map i64) ∧ BRep h' bb r p c ps st wb WB (bMove r.every now L upto).1 (bMove r.every now L upto).2 := by
  intro kk hk
  show health_Board_Move_14 n (some (bb, 0)) upto h kk = some ()
  rw [health_Board_Move_14_eq]
  unfold bTold bMove at hk
  by_cases hl : upto > latest
  · rw [decide_eq_true (show upto > 1099511617776 from hl), cond_true]
    refine hk _ _ ⟨Mod.refl _ _, ?_, ?_⟩
    · rw [if_pos hl]; exact .nil
    · simp only [if_pos hl]; exact b
  · rw [decide_eq_false (show ¬ upto > 1099511617776 from hl), cond_false]
    simp only [if_neg hl] at hk
    simp only [nnK_some', Nat.zero_add]
    rw [cellK_of (o := 4) b.obj rfl, asPtr_ptr]
    have d := b.wheel.doc
    refine b.wheel.moveAny upto (by omega) (n := n) (by omega) (by omega) _ fun q h1 ⟨m1, g1, w1⟩ => ?_
    have hlen := g1.row.len1
    have htl : (moveTold now L upto).length ≤ L.length := by
      unfold moveTold
      split
      · exact told_lt
      · simp
    have hev : 1 ≤ r.every ∧ r.every ≤ 10000 := ⟨ho.2.2.2.2.1, ho.2.2.2.2.2⟩
    have b1 : BRep h1 bb r p c ps st wb WB (moveT now L upto).1 (moveT now L upto).2 := ⟨m1.lt b.lb, (m1.get _ b.lb b.d1.2.2).trans b.obj, b.row.mod m1 fun x hx => (b.d2 x hx).2, b.len, fun k x s h1 h2 => (m1.get _ (b.lp x (List.mem_of_getElem? h1)) (b.d3 x (List.mem_of_getElem? h1))).trans (b.prb k x s h1 h2), fun x hx => m1.lt (b.lp x hx), w1, b.d1, b.d2, b.d3, b.d4⟩
    have hqd : ∀ x ∈ own q.1, x ∉ WB := fun x hx hxW => by have := (g1.own_ge x hx).1; have := b.wheel.lt x hxW; omega
    have hrow := g1.row
    rw [← hlen] at hrow ⊢
    refine MoveB_loop (a := h1) ho (by unfold latest at *; omega) hrow (by omega) hqd (fun k hk' => ?_) n (fun h2 b2 m2 => hk _ _ ⟨m1.trans m2, ?_, b2⟩) (moveTold now L upto).length 0 n h1 (by omega) (by omega) b1 (Mod.refl _ _)
    · unfold moveTold at hk'
      split at hk'
      · rename_i hmv
        unfold told at hk'
        obtain ⟨e, he, rfl⟩ := List.mem_map.1 hk'
        have hm := d.may e (List.mem_filter.1 he).1
        have n0 := d.n0
        have hm0 := hmv.1
        unfold latest at hl
        exact ⟨hm.1, hm.2.1, by omega, by omega⟩
      · simp at hk'
    · rw [hlen]
      exact g1.mod m2 hqd
end

end Go.Ev.Try
