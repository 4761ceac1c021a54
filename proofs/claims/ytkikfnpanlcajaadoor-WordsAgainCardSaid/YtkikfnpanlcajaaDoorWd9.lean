/- The document's Address and Card; the law WordsReads in plain Lean. -/
import Derived.Test.YtkikfnpanlcajaaDoorWd8
set_option linter.all false
namespace Go.Ev.Tryd
set_option maxRecDepth 10000
open Go.Proofs

theorem wrap_u8_mod (x : Int) : IntKind.u8.wrap x = x % 256 := by
  simp only [IntKind.wrap, IntKind.bits, IntKind.signed]
  simp
theorem byt1 (v : Int) : byt 1 v = [IntKind.u8.wrap v] := by
  simp [byt, ishr]
theorem byt2 {v : Int} (h0 : 0 ≤ v) (h1 : v ≤ 65535) : byt 2 v = [IntKind.u8.wrap (IntKind.i64.wrap (Int.tdiv v 256)), IntKind.u8.wrap (Int.tmod v 256)] := by
  have e1 : ishr .i64 v 8 = v / 256 := by
    show v.fdiv 256 = _
    rw [Int.fdiv_eq_ediv_of_nonneg _ (by decide)]
  have e2 : ishr .i64 v 0 = v := by simp [ishr]
  unfold byt
  rw [if_neg (by decide), e1, e2, Int.tdiv_eq_ediv_of_nonneg h0, Int.tmod_eq_emod_of_nonneg h0, wrap_i64 (by omega) (by omega), wrap_u8_mod, wrap_u8_mod, wrap_u8_mod]
  congr 2
  omega

theorem rd10_false {t : ByteArray} (h : (numP (bs t)).2 = false) : (rd10 t).2 = false := by
  unfold rd10; rw [h]; rfl
theorem rd10_true {t : ByteArray} (h : (numP (bs t)).2 = true) : rd10 t = ((numP (bs t)).1, decide ((numP (bs t)).1 ≤ 255)) := by
  unfold rd10; rw [if_pos h]

def outS : Option (List Int) → ByteArray × Bool
  | none => (⟨#[]⟩, false)
  | some x => (strOfNums x, true)

theorem rAdr_L0 {ps : List ByteArray} (h4 : ps.length = 4) {n : Nat} (hn : 20 ≤ n) {a : H} {p : Option (Nat × Nat)} {c : Cap} (row : Row a 1 p ps.length c (ps.map AV.str)) :
    ∀ (ts pre : List ByteArray) (m : Nat) (acc : List Int) (h : H) (q : Option (Nat × Nat)) (d : Cap), ps = pre ++ ts → ts.length < m → acc.length = pre.length → Mod [] a h → Grow a h 1 q acc.length d (u8s acc) →
      Ret (outriderref17_Address_13_L0 n m q acc.length d p ps.length c pre.length h) fun r h' => Mod [] a h' ∧ r = outS ((gout rd10 1 ts).map (acc ++ ·))
  | [], pre, m + 1, acc, h, q, d, hx, _, hacc, hm, g => by
    have : pre.length = 4 := by rw [← h4, hx]; simp
    rw [outriderref17_Address_13_L0_eq, show decide (((pre.length : Nat) : Int) < 4) = false by simp; omega, cond_false, bsK_of g.row.sl]
    refine .pure ⟨hm, ?_⟩
    simp [gout, outS]
  | t :: ts, pre, m + 1, acc, h, q, d, hx, hl, hacc, hm, g => by
    have hpl : pre.length < 4 := by rw [← h4, hx]; simp
    rw [outriderref17_Address_13_L0_eq, show decide (((pre.length : Nat) : Int) < 4) = true by simp; omega, cond_true, (row.mod0 hm).ix1 (x := t) (by rw [hx]; simp), asStr_str, rNumber_eq t hn h, Option.bind_some]
    dsimp only
    have bad : (rd10 t).2 = false → Ret (outriderref17_Address_13_J1 n m q acc.length d p ps.length c pre.length (numP (bs t)).1 true h) fun r h' => Mod [] a h' ∧ r = outS ((gout rd10 1 (t :: ts)).map (acc ++ ·)) := by
      intro hf
      rw [outriderref17_Address_13_J1_eq, cond_true]
      refine .pure ⟨hm, ?_⟩
      simp only [gout, hf, Bool.false_eq_true, if_false]
      rfl
    cases hq : (numP (bs t)).2 with
    | false =>
      rw [Bool.not_false, cond_true]
      exact bad (rd10_false hq)
    | true =>
      rw [Bool.not_true, cond_false]
      have hrd := rd10_true hq
      by_cases h255 : (numP (bs t)).1 > 255
      · rw [decide_eq_true h255]
        exact bad (by rw [hrd]; exact decide_eq_false (by omega))
      · rw [decide_eq_false h255, outriderref17_Address_13_J1_eq, cond_false]
        simp only [newK_eq]
        refine g.push hm.next rfl rfl (by decide) (by omega) (by omega) fun q' d' h' g' m' => ?_
        rw [wrap_succ (by omega), show pre.length + 1 = (pre ++ [t]).length by simp, show acc.length + 1 = (acc ++ [IntKind.u8.wrap (numP (bs t)).1]).length by simp]
        refine (rAdr_L0 h4 hn row ts (pre ++ [t]) m (acc ++ [IntKind.u8.wrap (numP (bs t)).1]) h' q' d' (by rw [hx]; simp) (by simp at hl; omega) (by simp [hacc]) (hm.push g m') (by simpa [u8s] using g')).mono fun r h2 ⟨q1, q2⟩ => ⟨q1, ?_⟩
        rw [q2]
        have : (rd10 t).2 = true := by rw [hrd]; exact decide_eq_true (by omega)
        simp only [gout, this, if_true, byt1]
        rw [show (rd10 t).1 = (numP (bs t)).1 by rw [hrd]]
        cases gout rd10 1 ts with
        | none => rfl
        | some x => simp [outS]

/-- what the document's reading of hexadecimal digits gives, for few of them -/
theorem hexR_S {t : ByteArray} {k : Nat} (hk : (16 : Int) ^ k ≤ 65536) (hm : t.size ≤ k) :
    hexS 0 (bs t) = (match hexL 0 (bs t) with | none => -1 | some v => v) ∧ (∀ v, hexL 0 (bs t) = some v → 0 ≤ v ∧ v ≤ 65535) :=
  hexS_L (bs t) k 0 (by rw [bs_len]; exact hm) (by omega) (by simpa using hk)

theorem hexR_none {t : ByteArray} {least most : Int} (h : hexL 0 (bs t) = none) : (hexR least most t).2 = false := by
  unfold hexR; rw [h]
theorem hexR_out {t : ByteArray} {least most : Int} (h : ¬ (least ≤ t.size ∧ (t.size : Int) ≤ most)) : (hexR least most t).2 = false := by
  unfold hexR
  cases hexL 0 (bs t) with
  | none => rfl
  | some v =>
    dsimp only
    by_cases h1 : least ≤ (t.size : Int)
    · rw [decide_eq_true h1, decide_eq_false (fun h2 => h ⟨h1, h2⟩)]; rfl
    · rw [decide_eq_false h1]; rfl
theorem hexR_some {t : ByteArray} {least most v : Int} (h : hexL 0 (bs t) = some v) (h1 : least ≤ t.size) (h2 : (t.size : Int) ≤ most) : hexR least most t = (v, true) := by
  unfold hexR
  rw [h]
  dsimp only
  rw [decide_eq_true h1, decide_eq_true h2]; rfl

theorem rAdr_L2 {ps : List ByteArray} (h8 : ps.length = 8) {n : Nat} {a : H} (hsz : ∀ t ∈ ps, t.size < 900000 ∧ t.size < n) {p : Option (Nat × Nat)} {c : Cap} (row : Row a 1 p ps.length c (ps.map AV.str)) :
    ∀ (ts pre : List ByteArray) (m : Nat) (acc : List Int) (h : H) (q : Option (Nat × Nat)) (d : Cap), ps = pre ++ ts → ts.length < m → acc.length = 2 * pre.length → Mod [] a h → Grow a h 1 q acc.length d (u8s acc) →
      Ret (outriderref17_Address_13_L2 n m q acc.length d p ps.length c pre.length h) fun r h' => Mod [] a h' ∧ r = outS ((gout (hexR 1 4) 2 ts).map (acc ++ ·))
  | [], pre, m + 1, acc, h, q, d, hx, _, hacc, hm, g => by
    have : pre.length = 8 := by rw [← h8, hx]; simp
    rw [outriderref17_Address_13_L2_eq, show decide (((pre.length : Nat) : Int) < 8) = false by simp; omega, cond_false, bsK_of g.row.sl]
    refine .pure ⟨hm, ?_⟩
    simp [gout, outS]
  | t :: ts, pre, m + 1, acc, h, q, d, hx, hl, hacc, hm, g => by
    have hpl : pre.length < 8 := by rw [← h8, hx]; simp
    have ht := hsz t (by rw [hx]; simp)
    have hix : ps[pre.length]? = some t := by rw [hx]; simp
    rw [outriderref17_Address_13_L2_eq, show decide (((pre.length : Nat) : Int) < 8) = true by simp; omega, cond_true, (row.mod0 hm).ix1 hix, asStr_str, rhex_eq (by omega) ht.2 h, Option.bind_some]
    dsimp only
    rw [(row.mod0 hm).ix1 hix, asStr_str]
    have bad : (hexR 1 4 t).2 = false → Ret (outriderref17_Address_13_J3 n m q acc.length d p ps.length c pre.length (hexS 0 (bs t)) true h) fun r h' => Mod [] a h' ∧ r = outS ((gout (hexR 1 4) 2 (t :: ts)).map (acc ++ ·)) := by
      intro hf
      rw [outriderref17_Address_13_J3_eq, cond_true]
      refine .pure ⟨hm, ?_⟩
      simp only [gout, hf, Bool.false_eq_true, if_false]
      rfl
    by_cases h1 : t.size < 1
    · rw [show decide (((t.size : Nat) : Int) < 1) = true by simp; omega, cond_true]
      exact bad (hexR_out (by omega))
    · rw [show decide (((t.size : Nat) : Int) < 1) = false by simp; omega, cond_false, (row.mod0 hm).ix1 hix, asStr_str]
      by_cases h4 : t.size > 4
      · rw [show decide (((t.size : Nat) : Int) > 4) = true by simp; omega, cond_true]
        exact bad (hexR_out (by omega))
      · rw [show decide (((t.size : Nat) : Int) > 4) = false by simp; omega, cond_false]
        have hv := hexR_S (t := t) (k := 4) (by decide) (by omega)
        cases hL : hexL 0 (bs t) with
        | none =>
          rw [hL] at hv
          have e : hexS 0 (bs t) = -1 := hv.1
          rw [show decide (hexS 0 (bs t) < 0) = true by rw [e]; decide]
          exact bad (hexR_none hL)
        | some v =>
          rw [hL] at hv
          have e : hexS 0 (bs t) = v := hv.1
          have hr := hv.2 v rfl
          rw [e, show decide (v < 0) = false by simp; omega, outriderref17_Address_13_J3_eq, cond_false]
          simp only [newK_eq]
          refine push_many (n := 2) (bytes := 1) g hm.next rfl rfl (by decide) (by omega) (by omega) fun q' d' h' g' m' => ?_
          rw [wrap_succ (by omega), show pre.length + 1 = (pre ++ [t]).length by simp]
          have hacc' : acc.length + 2 = (acc ++ byt 2 v).length := by rw [byt2 hr.1 hr.2]; simp
          rw [hacc'] at g' ⊢
          refine (rAdr_L2 h8 hsz row ts (pre ++ [t]) m (acc ++ byt 2 v) h' q' d' (by rw [hx]; simp) (by simp at hl; omega) (by rw [← hacc', hacc]; simp; omega) (hm.push g m') (by rw [byt2 hr.1 hr.2] at g' ⊢; simpa [u8s] using g')).mono fun r h2 ⟨q1, q2⟩ => ⟨q1, ?_⟩
          rw [q2]
          have hR := hexR_some (least := 1) (most := 4) hL (by omega) (by omega)
          simp only [gout, hR, if_true]
          cases gout (hexR 1 4) 2 ts with
          | none => rfl
          | some x => simp [outS]

def refA (s : ByteArray) : ByteArray × Bool := if (partsB 46 s).length = 4 then outS (gout rd10 1 (partsB 46 s)) else if (partsB 58 s).length = 8 then outS (gout (hexR 1 4) 2 (partsB 58 s)) else (⟨#[]⟩, false)

theorem partsB_size {s t : ByteArray} {c : UInt8} (h : t ∈ partsB c s) : t.size ≤ s.size := by
  obtain ⟨q, hq, rfl⟩ := List.mem_map.1 h
  have := parts_size hq
  rw [bs_len] at this
  rw [size_mk]
  exact this

theorem rAddress_ret {s : ByteArray} (hs : s.size < 90000) {n : Nat} (hn : s.size + 50 ≤ n) (h : H) : Ret (outriderref17_Address_13 n s h) fun r h' => Mod [] h h' ∧ r = refA s := by
  rw [outriderref17_Address_13_eq]
  refine (rparts_ret hs 46 (by omega) h).bind ?_
  rintro ⟨p, l, c⟩ h1 ⟨m1, hl, row⟩
  dsimp only at hl row ⊢
  subst hl
  unfold refA
  by_cases h4 : (partsB 46 s).length = 4
  · rw [show (((partsB 46 s).length : Int) == 4) = true by simp; omega, cond_true, if_pos h4]
    refine (rAdr_L0 h4 (by omega) row.row (partsB 46 s) [] n [] h1 none (.known 0) rfl (by omega) rfl (.refl _ _) .nil).mono fun r h2 ⟨q1, q2⟩ => ⟨m1.trans q1, ?_⟩
    rw [q2]
    simp
  · rw [show (((partsB 46 s).length : Int) == 4) = false by simp; omega, cond_false, if_neg h4]
    refine (rparts_ret hs 58 (by omega) h1).bind ?_
    rintro ⟨p, l, c⟩ h2 ⟨m2, hl, row⟩
    dsimp only at hl row ⊢
    subst hl
    by_cases h8 : (partsB 58 s).length = 8
    · rw [show (((partsB 58 s).length : Int) != 8) = false by simp; omega, cond_false, if_pos h8]
      refine (rAdr_L2 h8 (fun t ht => by have := partsB_size ht; exact ⟨by omega, by omega⟩) row.row (partsB 58 s) [] n [] h2 none (.known 0) rfl (by omega) rfl (.refl _ _) .nil).mono fun r h3 ⟨q1, q2⟩ => ⟨(m1.trans m2).trans q1, ?_⟩
      rw [q2]
      simp
    · rw [show (((partsB 58 s).length : Int) != 8) = true by simp; omega, cond_true, if_neg h8]
      exact .pure ⟨m1.trans m2, rfl⟩

/-! ### Address: both read the same -/

theorem gout_len {rd : ByteArray → Int × Bool} {w : Nat} (hw : w = 1 ∨ w = 2) : ∀ {ps : List ByteArray} {x : List Int}, gout rd w ps = some x → x.length = w * ps.length
  | [], x, h => by simp [gout] at h; subst h; simp
  | p :: ps, x, h => by
    unfold gout at h
    split at h
    · cases hg : gout rd w ps with
      | none => rw [hg] at h; simp at h
      | some y =>
        rw [hg] at h
        simp only [Option.map_some, Option.some.injEq] at h
        subst h
        have := gout_len hw hg
        rcases hw with rfl | rfl <;> simp [byt, this] <;> omega
    · cases h
theorem gout_none {rd : ByteArray → Int × Bool} {w : Nat} : ∀ {ps : List ByteArray} {p : ByteArray}, p ∈ ps → (rd p).2 = false → gout rd w ps = none
  | q :: ps, p, h, hf => by
    unfold gout
    rcases List.mem_cons.1 h with rfl | h
    · rw [if_neg (by rw [hf]; decide)]
    · split
      · rw [gout_none h hf]; rfl
      · rfl
theorem hexL_dot : ∀ {l : List UInt8} {n : Int}, 46 ∈ l → hexL n l = none
  | x :: l, n, h => by
    unfold hexL
    rcases List.mem_cons.1 h with rfl | h
    · rfl
    · cases hexD x with
      | none => rfl
      | some d =>
        dsimp only
        split
        · rfl
        · exact hexL_dot h
theorem parts_mem {c d : UInt8} (hcd : d ≠ c) : ∀ {l : List UInt8}, d ∈ l → ∃ p ∈ parts c l, d ∈ p
  | x :: l, h => by
    unfold parts
    rcases List.mem_cons.1 h with rfl | h
    · rw [if_neg hcd]
      split
      · exact ⟨_, List.mem_cons_self, List.mem_cons_self⟩
      · exact ⟨_, List.mem_cons_self, List.mem_cons_self⟩
    · obtain ⟨p, hp, hd⟩ := parts_mem hcd h
      split
      · exact ⟨p, List.mem_cons_of_mem _ hp, hd⟩
      · split
        · rename_i q qs hq
          rw [hq] at hp
          rcases List.mem_cons.1 hp with rfl | hp
          · exact ⟨_, List.mem_cons_self, List.mem_cons_of_mem _ hd⟩
          · exact ⟨p, List.mem_cons_of_mem _ hp, hd⟩
        · rename_i hq; rw [hq] at hp; cases hp

theorem adrP_ref (s : ByteArray) : adrP s = refA s := by
  have h58 : (partsB 58 s).length ≠ 8 → sixP s = (⟨#[]⟩, false) := by
    intro h8
    unfold sixP
    cases hg : gout (hexR 1 4) 2 (partsB 58 s) with
    | none => rfl
    | some y =>
      have := gout_len (.inr rfl) hg
      dsimp only
      rw [if_neg (by omega)]
  have h58' : (partsB 58 s).length = 8 → sixP s = outS (gout (hexR 1 4) 2 (partsB 58 s)) := by
    intro h8
    unfold sixP
    cases hg : gout (hexR 1 4) 2 (partsB 58 s) with
    | none => rfl
    | some y =>
      have := gout_len (.inr rfl) hg
      dsimp only
      rw [if_pos (by omega)]
      rfl
  unfold adrP refA
  by_cases h4 : (partsB 46 s).length = 4
  · rw [if_pos h4]
    cases hg : gout rd10 1 (partsB 46 s) with
    | some x =>
      have := gout_len (.inl rfl) hg
      dsimp only
      rw [if_pos (by omega)]
      rfl
    | none =>
      dsimp only [outS]
      have hdot : (46 : UInt8) ∈ bs s := by
        have h1 : (partsB 46 s).length = (bs s).count 46 + 1 := by rw [← parts_len]; simp [partsB]
        exact List.count_pos_iff.1 (by omega)
      obtain ⟨q, hq, hd⟩ := parts_mem (c := 58) (by decide) hdot
      have hnone : gout (hexR 1 4) 2 (partsB 58 s) = none :=
        gout_none (p := mk q) (List.mem_map_of_mem hq) (hexR_none (by rw [bs_mk]; exact hexL_dot hd))
      unfold sixP
      rw [hnone]
  · rw [if_neg h4]
    have six : adrP s = sixP s := by
      unfold adrP
      cases hg : gout rd10 1 (partsB 46 s) with
      | none => rfl
      | some x =>
        have := gout_len (.inl rfl) hg
        dsimp only
        rw [if_neg (by omega)]
    have : adrP s = if (partsB 58 s).length = 8 then outS (gout (hexR 1 4) 2 (partsB 58 s)) else (⟨#[]⟩, false) := by
      rw [six]
      by_cases h8 : (partsB 58 s).length = 8
      · rw [if_pos h8, h58' h8]
      · rw [if_neg h8, h58 h8]
    exact this

/-! ### Card -/

abbrev Z6 : List Int := [0, 0, 0, 0, 0, 0]
def outC : Option (List Int) → List AV × Bool
  | none => (u8s Z6, false)
  | some x => (u8s x, true)

theorem rCard_L0 {ps : List ByteArray} (h6 : ps.length = 6) {n : Nat} {a a0 : H} (hsz : ∀ t ∈ ps, t.size < 900000 ∧ t.size < n) {p : Option (Nat × Nat)} {c : Cap} {i j : Nat} (hij : i ≠ j) (hi : a0.next ≤ i) (hj : a0.next ≤ j) {zs : List AV} (hz : zs.length = 6)
    (hrow : ∀ h : H, Mod [i, j] a h → Row h 1 p ps.length c (ps.map AV.str)) :
    ∀ (ts pre : List ByteArray) (m : Nat) (acc : List Int) (h : H), ps = pre ++ ts → ts.length < m → acc.length = pre.length → Mod [i, j] a h → Mod [] a0 h → h.get i = some (.cells zs false) → h.get j = some (.cells (u8s (acc ++ List.replicate ts.length 0)) false) →
      Ret (outriderref17_Card_15_L0 n m (some (i, 0)) (some (j, 0)) p ps.length c pre.length h) fun r h' => Mod [] a0 h' ∧ r = outC ((gout (hexR 2 2) 1 ts).map (acc ++ ·))
  | [], pre, m + 1, acc, h, hx, _, hacc, hm, hm0, gi, gj => by
    have hp : pre.length = 6 := by rw [← h6, hx]; simp
    simp only [List.length_nil, List.replicate_zero, List.append_nil] at gj
    rw [outriderref17_Card_15_L0_eq, show decide (((pre.length : Nat) : Int) < 6) = false by simp; omega, cond_false]
    simp only [nnK_some']
    rw [aggK_all (n := 6) gj (by simp; omega), wrK_of (n := 6) gi (by simp; omega) (by omega) (u8s_cell acc), spl_all _ _ (by simp; omega), aggK_all (n := 6) (get_set_self _ _ _) (by simp; omega)]
    refine .pure ⟨hm0.set (.inl hi) _, ?_⟩
    simp [gout, outC]
  | t :: ts, pre, m + 1, acc, h, hx, hl, hacc, hm, hm0, gi, gj => by
    have hpl : pre.length < 6 := by rw [← h6, hx]; simp
    have hts : pre.length + (ts.length + 1) = 6 := by rw [← h6, hx]; simp
    have ht := hsz t (by rw [hx]; simp)
    have hix : ps[pre.length]? = some t := by rw [hx]; simp
    rw [outriderref17_Card_15_L0_eq, show decide (((pre.length : Nat) : Int) < 6) = true by simp; omega, cond_true, (hrow h hm).ix1 hix, asStr_str, rhex_eq (by omega) ht.2 h, Option.bind_some]
    dsimp only
    rw [(hrow h hm).ix1 hix, asStr_str]
    have bad : (hexR 2 2 t).2 = false → Ret (outriderref17_Card_15_J1 n m (some (i, 0)) (some (j, 0)) p ps.length c pre.length (hexS 0 (bs t)) true h) fun r h' => Mod [] a0 h' ∧ r = outC ((gout (hexR 2 2) 1 (t :: ts)).map (acc ++ ·)) := by
      intro hf
      rw [outriderref17_Card_15_J1_eq, cond_true]
      simp only [nnK_some']
      rw [wrK_of (n := 6) gi rfl (by omega) rfl, spl_all _ _ (by rw [hz]; rfl), aggK_all (n := 6) (get_set_self _ _ _) rfl]
      refine .pure ⟨hm0.set (.inl hi) _, ?_⟩
      simp only [gout, hf, Bool.false_eq_true, if_false]
      rfl
    by_cases h2 : t.size = 2
    · rw [show (((t.size : Nat) : Int) != 2) = false by simp; omega, cond_false]
      have hv := hexR_S (t := t) (k := 2) (by decide) (by omega)
      cases hL : hexL 0 (bs t) with
      | none =>
        rw [hL] at hv
        have e : hexS 0 (bs t) = -1 := hv.1
        rw [show decide (hexS 0 (bs t) < 0) = true by rw [e]; decide]
        exact bad (hexR_none hL)
      | some v =>
        rw [hL] at hv
        have e : hexS 0 (bs t) = v := hv.1
        have hr := hv.2 v rfl
        rw [e, show decide (v < 0) = false by simp; omega, outriderref17_Card_15_J1_eq, cond_false]
        simp only [nnK_some']
        rw [if_pos ⟨by omega, by omega⟩, show ((pre.length : Nat) : Int).toNat = pre.length from rfl, Nat.zero_add, wrK_one gj (by simp; omega) rfl, wrap_succ (by omega), show pre.length + 1 = (pre ++ [t]).length by simp]
        have hset : (u8s (acc ++ List.replicate (t :: ts).length 0)).set pre.length (.int .u8 (IntKind.u8.wrap v)) = u8s ((acc ++ byt 1 v) ++ List.replicate ts.length 0) := by
          rw [byt1, ← hacc, u8s, List.map_append, List.set_append_right _ _ (by simp)]
          simp [List.replicate_succ, u8s]
        rw [hset]
        refine (rCard_L0 h6 hsz hij hi hj hz hrow ts (pre ++ [t]) m (acc ++ byt 1 v) _ (by rw [hx]; simp) (by simp at hl; omega) (by rw [byt1]; simp [hacc]) (hm.set (.inr (by simp)) _) (hm0.set (.inl hj) _) ((get_set_ne hij).trans gi) (get_set_self _ _ _)).mono fun r h2 ⟨q1, q2⟩ => ⟨q1, ?_⟩
        rw [q2]
        have hR := hexR_some (least := 2) (most := 2) hL (by omega) (by omega)
        simp only [gout, hR, if_true]
        cases gout (hexR 2 2) 1 ts with
        | none => rfl
        | some x => simp [outC]
    · rw [show (((t.size : Nat) : Int) != 2) = true by simp; omega, cond_true]
      exact bad (hexR_out (by omega))

theorem cardP_len (s : ByteArray) : (cardP s).1.length = 6 := by
  unfold cardP
  split
  · split
    · assumption
    · rfl
  · rfl

theorem cardP_ref (s : ByteArray) : (u8s (cardP s).1, (cardP s).2) = if (partsB 58 s).length = 6 then outC (gout (hexR 2 2) 1 (partsB 58 s)) else (u8s Z6, false) := by
  unfold cardP
  cases hg : gout (hexR 2 2) 1 (partsB 58 s) with
  | none => simp [outC]
  | some x =>
    have := gout_len (.inl rfl) hg
    by_cases h6 : (partsB 58 s).length = 6
    · rw [if_pos h6]
      dsimp only
      rw [if_pos (by omega)]
      rfl
    · rw [if_neg h6]
      dsimp only
      rw [if_neg (by omega)]

theorem rCard_ret {s : ByteArray} (hs : s.size < 90000) {n : Nat} (hn : s.size + 50 ≤ n) (h : H) : Ret (outriderref17_Card_15 n s h) fun r h' => Mod [] h h' ∧ r = (u8s (cardP s).1, (cardP s).2) := by
  rw [outriderref17_Card_15_eq, cardP_ref]
  simp only [newK_eq]
  rw [show ([(AV.int .u8 0), (.int .u8 0), (.int .u8 0), (.int .u8 0), (.int .u8 0), (.int .u8 0)] : List AV) = u8s Z6 from rfl]
  have m0 : Mod [] h (h.new (.cells (u8s Z6) false)) := (Mod.refl _ _).new _
  have g0 : (h.new (.cells (u8s Z6) false)).get h.next = some (.cells (u8s Z6) false) := get_new_self _ _
  have n0 : (h.new (.cells (u8s Z6) false)).next = h.next + 1 := rfl
  change Ret (Option.bind (outriderref17_parts_28 n s 58 ((h.new (.cells (u8s Z6) false)).new (.cells (u8s Z6) false))) _) _
  generalize h.new (.cells (u8s Z6) false) = ha at *
  have ma : Mod [] ha (ha.new (.cells (u8s Z6) false)) := (Mod.refl _ _).new _
  have ga : (ha.new (.cells (u8s Z6) false)).get ha.next = some (.cells (u8s Z6) false) := get_new_self _ _
  have na : (ha.new (.cells (u8s Z6) false)).next = ha.next + 1 := rfl
  have g0' : (ha.new (.cells (u8s Z6) false)).get h.next = some (.cells (u8s Z6) false) := (ma.get _ (by omega) (by simp)).trans g0
  generalize ha.new (.cells (u8s Z6) false) = hb at *
  refine (rparts_ret hs 58 (by omega) hb).bind ?_
  rintro ⟨p, l, c⟩ h1 ⟨m1, hl, row⟩
  dsimp only at hl row ⊢
  subst hl
  have gi := (m1.get _ (by omega) (by simp)).trans g0'
  have gj := (m1.get _ (by omega) (by simp)).trans ga
  by_cases h6 : (partsB 58 s).length = 6
  · rw [show (((partsB 58 s).length : Int) != 6) = false by simp; omega, cond_false, if_pos h6]
    have hne : h.next ≠ ha.next := by omega
    have hrow : ∀ h' : H, Mod [h.next, ha.next] h1 h' → Row h' 1 p (partsB 58 s).length c ((partsB 58 s).map AV.str) := fun h' m' => row.row.mod m' fun b hb2 => by
      have := (row.own_ge b hb2).1
      simp only [List.mem_cons, List.not_mem_nil, or_false, not_or]
      omega
    refine (rCard_L0 h6 (n := n) (a := h1) (a0 := h) (fun t ht => by have := partsB_size ht; exact ⟨by omega, by omega⟩) hne (Nat.le_refl _) (by omega) (zs := u8s Z6) rfl hrow (partsB 58 s) [] n [] h1 rfl (by omega) rfl (.refl _ _) ((m0.trans ma).trans m1) gi (by rw [h6]; exact gj)).mono fun r h2 ⟨q1, q2⟩ => ⟨q1, ?_⟩
    rw [q2]
    simp
  · rw [show (((partsB 58 s).length : Int) != 6) = true by simp; omega, cond_true, if_neg h6]
    rw [aggK_all (n := 6) gj rfl, wrK_of (n := 6) gi rfl (by simp) rfl, spl_all _ _ rfl, aggK_all (n := 6) (get_set_self _ _ _) rfl]
    exact .pure ⟨((m0.trans ma).trans m1).set (.inl (Nat.le_refl _)) _, rfl⟩

/-! ### the law -/

theorem eqMac {β : Type} {xs ys : List Int} (hx : xs.length = 6) (hy : ys.length = 6) (f : Bool → Option β) : eqVK Tryd.prog 39 (.agg (u8s xs)) (.agg (u8s ys)) f = f (xs == ys) := by
  obtain ⟨inf, h1, h2⟩ := info_some (P := Tryd.prog) (t := 5) (s := 1) (by kernel_rfl)
  exact eqVK_ints (n := 6) (e := 5) (by kernel_rfl) (by kernel_rfl) h1 h2 hx hy f

theorem wordsReads_true {s : ByteArray} (_ : s.size ≤ reachBytes) : ∃ n h', outriderlaw17_WordsReads_6 n s (H0 []) = some (true, h') := by
  refine ⟨3000, Ret.true ?_⟩
  rw [outriderlaw17_WordsReads_6_eq]
  generalize H0 [] = h
  by_cases hs : s.size > 2000
  · rw [show decide (((s.size : Nat) : Int) > 2000) = true by simp; omega, cond_true]
    exact alive_true h (by omega)
  · rw [show decide (((s.size : Nat) : Int) > 2000) = false by simp; omega, cond_false]
    refine (Number_ret s (by omega) h).bind ?_
    rintro _ h1 ⟨m1, rfl⟩
    dsimp only
    rw [rNumber_eq s (by omega) h1, Option.bind_some]
    dsimp only
    refine (Address_ret (by omega) (by omega) h1).bind ?_
    rintro _ h2 ⟨m2, rfl⟩
    dsimp only
    refine (rAddress_ret (by omega) (by omega) h2).bind ?_
    rintro _ h3 ⟨m3, rfl⟩
    dsimp only
    rw [← adrP_ref]
    refine (Card_ret (by omega) (by omega) h3).bind ?_
    rintro _ h4 ⟨m4, rfl⟩
    have h6 := cardP_len s
    dsimp only
    simp only [newK_eq]
    rw [wrK_of (n := 6) (get_new_self _ _) (by simpa using h6) (by simp) (u8s_cell _), spl_all _ _ (by simpa using h6), set_new]
    have g4 : (h4.new (.cells (u8s (cardP s).1) false)).get h4.next = some (.cells (u8s (cardP s).1) false) := get_new_self _ _
    have l4 : h4.next < (h4.new (.cells (u8s (cardP s).1) false)).next := by simp
    generalize hcp : cardP s = cp at *
    generalize h4.new (.cells (u8s cp.1) false) = h5 at *
    refine (rCard_ret (by omega) (by omega) h5).bind ?_
    rintro _ h6' ⟨m6, rfl⟩
    rw [hcp]
    dsimp only
    rw [wrK_of (n := 6) (get_new_self _ _) (by simpa using h6) (by simp) (u8s_cell _), spl_all _ _ (by simpa using h6), set_new]
    have g6 : (h6'.new (.cells (u8s cp.1) false)).get h6'.next = some (.cells (u8s cp.1) false) := get_new_self _ _
    have l6 : h6'.next < (h6'.new (.cells (u8s cp.1) false)).next := by simp
    have m7 : Mod [] h6' (h6'.new (.cells (u8s cp.1) false)) := (Mod.refl _ _).new _
    have g4' := (m7.get _ (m6.lt l4) (by simp)).trans ((m6.get _ l4 (by simp)).trans g4)
    have l4' := m7.lt (m6.lt l4)
    generalize h6'.new (.cells (u8s cp.1) false) = h7 at *
    refine (alive_ret h7 (by omega)).bind ?_
    rintro _ h8 ⟨rfl, m8⟩
    dsimp only
    rw [cond_true, beq_self_eq_true, cond_true, beq_self_eq_true, cond_true, beq_self_eq_true, cond_true, beq_self_eq_true, cond_true]
    rw [aggK_all (n := 6) ((m8.get _ l4' (by simp)).trans g4') (by simpa using h6), aggK_all (n := 6) ((m8.get _ l6 (by simp)).trans g6) (by simpa using h6)]
    rw [eqMac h6 h6, beq_self_eq_true, cond_true, beq_self_eq_true]
    exact .pure rfl

end Go.Ev.Tryd
