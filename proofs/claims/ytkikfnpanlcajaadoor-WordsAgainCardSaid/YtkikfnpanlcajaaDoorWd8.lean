/- The document's own reading of numbers, addresses and cards (package outriderref17) is the same as the program's. -/
import Derived.Test.YtkikfnpanlcajaaDoorWd7
set_option linter.all false
namespace Go.Ev.Tryd
set_option maxRecDepth 10000
open Go.Proofs

/-- several elements more -/
theorem push_many {α : Type} {a h : H} {bytes : Nat} {p : Option (Nat × Nat)} {len : Nat} {c : Cap} {vs : List AV} (g : Grow a h 1 p len c vs) (ha : a.next ≤ h.next) {xs : List AV} {n : Nat} (hx : xs.length = n) (hc : xs.all isCell = true) (h0 : 0 < n) (hb : (len + n) * bytes ≤ 140737488355328) (h63 : len + n ≤ 9223372036854775807)
    {f : Option (Nat × Nat) → Nat → Cap → H → Option (α × H)} {Q : α → H → Prop} (k : ∀ p' c' h', Grow a h' 1 p' (len + n) c' (vs ++ xs) → Mod (own p) h h' → Ret (f p' (len + n) c' h') Q) :
    Ret (appK 1 bytes p len c (evSrc 1 (.slice (some (h.next, 0)) n (.known n)) (h.new (.cells xs false))) (h.new (.cells xs false)) f) Q := by
  have m2 : Mod [] h (h.new (.cells xs false)) := (Mod.refl _ _).new _
  have r2 : Row (h.new (.cells xs false)) 1 (some (h.next, 0)) n (.known n) xs := .row (by simp) (get_new_self _ _) (by rw [List.drop_zero, Nat.mul_one, ← hx, List.take_length]) (by omega) (.inr ⟨n, rfl, Nat.le_refl _⟩)
  exact (g.mod0 m2).ret (Nat.le_trans ha m2.next) r2.src (by omega) hc hb h63 (fun h => by omega) fun p' c' h' g' m' => k p' c' h' g' (m2.of_nil.trans m')

/-! ### Number -/

theorem rNumber_loop {s : ByteArray} (h9 : s.size ≤ 9) (n : Nat) (h : H) : ∀ (l : List UInt8) (pos m : Nat) (acc : Int), (bs s).drop pos = l → l.length < m → 0 ≤ acc → acc < 10 ^ pos → pos + l.length = s.size →
    outriderref17_Number_11_L1 n m s acc pos h = some (numL acc l, h)
  | [], pos, m + 1, acc, hd, _, _, _, hp => by
    rw [outriderref17_Number_11_L1_eq, cast_not_lt (by simp at hp; omega), cond_false]
    rfl
  | x :: l, pos, m + 1, acc, hd, hl, h0, h1, hp => by
    have hx : (bs s)[pos]? = some x := by have := congrArg (·[0]?) hd; simpa using this
    have hd' : (bs s).drop (pos + 1) = l := by rw [← List.drop_drop, hd]; rfl
    simp only [List.length_cons] at hp hl
    have h10 := pow10_le (show pos ≤ 9 by omega)
    rw [outriderref17_Number_11_L1_eq, cast_lt (by omega), cond_true, byteK_of hx]
    unfold numL isDig
    by_cases h48 : 48 ≤ x.toNat
    · rw [show decide (((x.toNat : Nat) : Int) < 48) = false by simp; omega, cond_false, byteK_of hx, outriderref17_Number_11_J2_eq]
      by_cases h57 : x.toNat ≤ 57
      · rw [show decide (((x.toNat : Nat) : Int) > 57) = false by simp; omega, cond_false, byteK_of hx, decide_eq_true h48, decide_eq_true h57]
        rw [wrap_i64 (x := (x.toNat : Int)) (by omega) (by omega), wrap_i64 (x := acc * 10) (by omega) (by omega), wrap_i64 (x := acc * 10 + x.toNat) (by omega) (by omega), wrap_i64 (x := acc * 10 + x.toNat - 48) (by omega) (by omega), wrap_succ (by omega)]
        have hpow : (10 : Int) ^ (pos + 1) = 10 ^ pos * 10 := Int.pow_succ _ _
        rw [rNumber_loop h9 n h l (pos + 1) m _ hd' (by omega) (by omega) (by rw [hpow]; omega) (by omega)]
        simp only [Bool.and_self, if_true]
        rw [show acc * 10 + (x.toNat : Int) - 48 = 10 * acc + ((x.toNat : Int) - 48) by omega]
      · rw [show decide (((x.toNat : Nat) : Int) > 57) = true by simp; omega, cond_true, decide_eq_false h57]
        simp
    · rw [show decide (((x.toNat : Nat) : Int) < 48) = true by simp; omega, cond_true, outriderref17_Number_11_J2_eq, cond_true, decide_eq_false h48]
      simp

theorem rNumber_eq (s : ByteArray) {n : Nat} (hn : 20 ≤ n) (h : H) : outriderref17_Number_11 n s h = some (numP (bs s), h) := by
  rw [outriderref17_Number_11_eq]
  have hlen := bs_len s
  by_cases h1 : s.size < 1
  · have : bs s = [] := List.length_eq_zero_iff.1 (by omega)
    rw [show decide (((s.size : Nat) : Int) < 1) = true by simp; omega, cond_true, outriderref17_Number_11_J0_eq, cond_true]
    unfold numP
    rw [if_pos (.inl this)]
  · rw [show decide (((s.size : Nat) : Int) < 1) = false by simp; omega, cond_false]
    by_cases h9 : s.size > 9
    · rw [show decide (((s.size : Nat) : Int) > 9) = true by simp; omega, cond_true, outriderref17_Number_11_J0_eq, cond_true]
      unfold numP
      rw [if_pos (.inr (.inl (by omega)))]
    · rw [show decide (((s.size : Nat) : Int) > 9) = false by simp; omega, cond_false]
      obtain ⟨x, l, hx⟩ : ∃ x l, bs s = x :: l := by
        cases hb : bs s with
        | nil => rw [hb] at hlen; simp at hlen; omega
        | cons x l => exact ⟨x, l, rfl⟩
      have go : outriderref17_Number_11_L1 n n s 0 0 h = some (numL 0 (bs s), h) :=
        rNumber_loop (by omega) n h (bs s) 0 n 0 rfl (by omega) (by omega) (by decide) (by omega)
      have hne : bs s ≠ [] := by rw [hx]; simp
      by_cases hs1 : s.size > 1
      · rw [show decide (((s.size : Nat) : Int) > 1) = true by simp; omega, cond_true, show (0 : Int) = ((0 : Nat) : Int) from rfl, byteK_of (i := 0) (b := x) (by rw [hx]; rfl), outriderref17_Number_11_J0_eq]
        by_cases h48 : x = 48
        · subst h48
          rw [show (((48 : UInt8).toNat : Int) == 48) = true by decide, cond_true]
          unfold numP
          rw [if_pos (.inr (.inr ⟨by rw [hx]; rfl, fun e => by rw [e] at hlen; simp at hlen; omega⟩))]
        · have : ¬ x.toNat = 48 := fun e => h48 (UInt8.toNat_inj.1 e)
          rw [show ((x.toNat : Int) == 48) = false by simp; omega, cond_false]
          rw [go]
          unfold numP
          rw [if_neg]
          rintro (e | e | ⟨e, -⟩)
          · exact hne e
          · omega
          · rw [hx] at e; simp at e; exact h48 e
      · rw [show decide (((s.size : Nat) : Int) > 1) = false by simp; omega, cond_false, outriderref17_Number_11_J0_eq, cond_false, go]
        unfold numP
        rw [if_neg]
        rintro (e | e | ⟨e, e2⟩)
        · exact hne e
        · omega
        · rw [hx] at e e2 hlen
          simp at e hlen
          have : l = [] := List.length_eq_zero_iff.1 (by omega)
          rw [this, e] at e2
          exact e2 rfl

/-! ### hex -/

def hexS : Int → List UInt8 → Int
  | n, [] => n
  | n, x :: l => if n < 65536 then match hexD x with | none => -1 | some d => hexS (n * 16 + d) l else n

theorem rhex_loop {s : ByteArray} (hs : s.size < 1000000) (n : Nat) (h : H) : ∀ (l : List UInt8) (pos m : Nat) (acc : Int), (bs s).drop pos = l → l.length < m → 0 ≤ acc → acc < 1048592 → pos + l.length = s.size →
    outriderref17_hex_29_L0 n m s acc pos h = some (hexS acc l, h)
  | [], pos, m + 1, acc, hd, _, h0, _, hp => by
    rw [outriderref17_hex_29_L0_eq, cast_not_lt (by simp at hp; omega), cond_false, outriderref17_hex_29_J1_eq, cond_false]
    rfl
  | x :: l, pos, m + 1, acc, hd, hl, h0, h1, hp => by
    have hx : (bs s)[pos]? = some x := by have := congrArg (·[0]?) hd; simpa using this
    have hd' : (bs s).drop (pos + 1) = l := by rw [← List.drop_drop, hd]; rfl
    simp only [List.length_cons] at hp hl
    rw [outriderref17_hex_29_L0_eq, cast_lt (by omega), cond_true, show decide (acc ≥ (0 : Int)) = true by simpa using h0, cond_true, outriderref17_hex_29_J1_eq]
    unfold hexS
    by_cases hm : acc < 65536
    · rw [decide_eq_true hm, cond_true, byteK_of hx, if_pos hm]
      have hxl : x.toNat < 256 := x.toNat_lt
      -- with the digit's value
      have j5 : ∀ d : Int, 0 ≤ d → d < 16 → outriderref17_hex_29_J5 n m s acc pos d h = some (hexS (acc * 16 + d) l, h) := by
        intro d hd0 hd1
        rw [outriderref17_hex_29_J5_eq, show decide (d < (0 : Int)) = false by simp; omega, cond_false, wrap_i64 (x := acc * 16) (by omega) (by omega), wrap_i64 (by omega) (by omega), wrap_succ (by omega)]
        exact rhex_loop hs n h l (pos + 1) m _ hd' (by omega) (by omega) (by omega) (by omega)
      by_cases hdig : 48 ≤ x.toNat ∧ x.toNat ≤ 57
      · have e : hexD x = some ((x.toNat : Int) - 48) := by unfold hexD isDig; rw [decide_eq_true hdig.1, decide_eq_true hdig.2]; rfl
        rw [e, show decide (((x.toNat : Nat) : Int) ≥ 48) = true by simp; omega, cond_true, byteK_of hx, outriderref17_hex_29_J2_eq, show decide (((x.toNat : Nat) : Int) ≤ 57) = true by simp; omega, cond_true, byteK_of hx]
        rw [wrap_i64 (x := (x.toNat : Int)) (by omega) (by omega), wrap_i64 (x := (x.toNat : Int) - 48) (by omega) (by omega), outriderref17_hex_29_J3_eq, byteK_of hx, show decide (((x.toNat : Nat) : Int) ≥ 97) = false by simp; omega, cond_false, outriderref17_hex_29_J4_eq, cond_false]
        exact j5 _ (by omega) (by omega)
      · have j3 : outriderref17_hex_29_J3 n m s acc pos (-1) h = some ((match hexD x with | none => -1 | some d => hexS (acc * 16 + d) l), h) := by
          have hnd : isDig x = false := by
            unfold isDig
            rw [← Bool.decide_and]
            exact decide_eq_false hdig
          rw [outriderref17_hex_29_J3_eq, byteK_of hx]
          have bad : ¬ (97 ≤ x.toNat ∧ x.toNat ≤ 102) → outriderref17_hex_29_J4 n m s acc pos (-1) false h = some ((match hexD x with | none => -1 | some d => hexS (acc * 16 + d) l), h) := by
            intro hn
            have e : hexD x = none := by unfold hexD; rw [hnd, if_neg hn]; rfl
            rw [e, outriderref17_hex_29_J4_eq, cond_false, outriderref17_hex_29_J5_eq, show decide ((-1 : Int) < 0) = true by decide, cond_true]
          by_cases h97 : 97 ≤ x.toNat
          · rw [show decide (((x.toNat : Nat) : Int) ≥ 97) = true by simp; omega, cond_true, byteK_of hx]
            by_cases h102 : x.toNat ≤ 102
            · have e : hexD x = some ((x.toNat : Int) - 87) := by unfold hexD; rw [hnd, if_neg (by decide), if_pos ⟨h97, h102⟩]
              rw [show decide (((x.toNat : Nat) : Int) ≤ 102) = true by simp; omega, outriderref17_hex_29_J4_eq, cond_true, byteK_of hx, wrap_i64 (x := (x.toNat : Int)) (by omega) (by omega), wrap_i64 (by omega) (by omega), e]
              exact j5 _ (by omega) (by omega)
            · rw [show decide (((x.toNat : Nat) : Int) ≤ 102) = false by simp; omega]
              exact bad (by omega)
          · rw [show decide (((x.toNat : Nat) : Int) ≥ 97) = false by simp; omega, cond_false]
            exact bad (by omega)
        by_cases h48 : 48 ≤ x.toNat
        · rw [show decide (((x.toNat : Nat) : Int) ≥ 48) = true by simp; omega, cond_true, byteK_of hx, show decide (((x.toNat : Nat) : Int) ≤ 57) = false by simp; omega, outriderref17_hex_29_J2_eq, cond_false]
          exact j3
        · rw [show decide (((x.toNat : Nat) : Int) ≥ 48) = false by simp; omega, cond_false, outriderref17_hex_29_J2_eq, cond_false]
          exact j3
    · rw [decide_eq_false hm, cond_false, if_neg hm]

theorem rhex_eq {s : ByteArray} (hs : s.size < 1000000) {n : Nat} (hn : s.size < n) (h : H) : outriderref17_hex_29 n s h = some (hexS 0 (bs s), h) := by
  rw [outriderref17_hex_29_eq]
  exact rhex_loop hs n h (bs s) 0 n 0 rfl (by rw [bs_len]; exact hn) (by omega) (by omega) (by rw [bs_len]; omega)

/-- digits so few that their value fits -/
theorem hexS_L : ∀ (l : List UInt8) (k : Nat) (acc : Int), l.length ≤ k → 0 ≤ acc → (acc + 1) * 16 ^ k ≤ 65536 → hexS acc l = (match hexL acc l with | none => -1 | some v => v) ∧ ∀ v, hexL acc l = some v → 0 ≤ v ∧ v ≤ 65535
  | [], k, acc, _, h0, h1 => by
    refine ⟨rfl, fun v hv => ?_⟩
    simp only [hexL, Option.some.injEq] at hv
    subst hv
    have : (1 : Int) ≤ 16 ^ k := by have : (0 : Int) < 16 ^ k := Int.pow_pos (by decide); omega
    have := Int.mul_le_mul_of_nonneg_left this (show 0 ≤ acc + 1 by omega)
    omega
  | x :: l, 0, _, hl, _, _ => by simp at hl
  | x :: l, k + 1, acc, hl, h0, h1 => by
    have hp : (1 : Int) ≤ 16 ^ k := by have : (0 : Int) < 16 ^ k := Int.pow_pos (by decide); omega
    rw [Int.pow_succ, Int.mul_comm (16 ^ k) 16, ← Int.mul_assoc] at h1
    have h2 := Int.mul_le_mul_of_nonneg_left hp (show 0 ≤ (acc + 1) * 16 by omega)
    unfold hexS hexL
    rw [if_pos (by omega)]
    cases hd : hexD x with
    | none => exact ⟨rfl, fun v hv => by cases hv⟩
    | some d =>
      have hr := hexD_range hd
      dsimp only
      rw [if_neg (by omega), Int.mul_comm acc 16]
      refine hexS_L l k (16 * acc + d) (by simpa using hl) (by omega) ?_
      refine Int.le_trans (Int.mul_le_mul_of_nonneg_right (show 16 * acc + d + 1 ≤ (acc + 1) * 16 by omega) (by omega)) h1

/-! ### parts -/

theorem rparts_loop {a : H} {s : ByteArray} (hs : s.size < 90000) (c : UInt8) (n : Nat) : ∀ (l : List UInt8) (pos m : Nat) (fr : Nat) (ps : List ByteArray) (h : H) (p : Option (Nat × Nat)) (d : Cap), (bs s).drop pos = l → l.length < m → pos + l.length = s.size → fr ≤ pos → c ∉ ((bs s).drop fr).take (pos - fr) → ps.length ≤ pos → Mod [] a h → Grow a h 1 p ps.length d (ps.map AV.str) →
    Ret (outriderref17_parts_28_L0 n m s (c.toNat : Int) p ps.length d fr pos h) fun r h' => Mod [] a h' ∧ r.2.1 = (ps ++ (parts c ((bs s).drop fr)).map mk).length ∧ Grow a h' 1 r.1 r.2.1 r.2.2 ((ps ++ (parts c ((bs s).drop fr)).map mk).map AV.str)
  | [], pos, m + 1, fr, ps, h, p, d, hd, _, hp, hf, hc, hps, hm, g => by
    simp only [List.length_nil, Nat.add_zero] at hp
    subst hp
    have hdr : ((bs s).drop fr).take (s.size - fr) = (bs s).drop fr := List.take_of_length_le (by rw [List.length_drop, bs_len]; exact Nat.le_refl _)
    rw [hdr] at hc
    rw [outriderref17_parts_28_L0_eq, cast_not_lt (Nat.le_refl _), cond_false, bnd_from (by omega) (by omega)]
    simp only [newK_eq]
    have hx : s.extract ((fr : Nat) : Int).toNat s.size = mk ((bs s).drop fr) := bs_inj (by rw [bs_extract, bs_mk]; exact hdr)
    rw [hx]
    refine g.push hm.next rfl rfl (by decide) (by omega) (by omega) fun p' c' h' g' m' => ?_
    refine .pure ⟨hm.push g m', by rw [parts_none hc]; simp, ?_⟩
    rw [parts_none hc]
    simpa using g'
  | x :: l, pos, m + 1, fr, ps, h, p, d, hd, hl, hp, hf, hc, hps, hm, g => by
    have hx : (bs s)[pos]? = some x := by have := congrArg (·[0]?) hd; simpa using this
    have hd' : (bs s).drop (pos + 1) = l := by rw [← List.drop_drop, hd]; rfl
    simp only [List.length_cons] at hp hl
    have hsplit : (bs s).drop fr = ((bs s).drop fr).take (pos - fr) ++ x :: l := by
      have := (List.take_append_drop (pos - fr) ((bs s).drop fr)).symm
      rwa [List.drop_drop, show fr + (pos - fr) = pos by omega, hd] at this
    rw [outriderref17_parts_28_L0_eq, cast_lt (by omega), cond_true, byteK_of hx]
    by_cases hxc : x = c
    · subst hxc
      rw [show (((x.toNat : Nat) : Int) == ((x.toNat : Nat) : Int)) = true by simp, cond_true, bnd_both (by omega) (by omega) (by omega)]
      simp only [newK_eq]
      have hxt : s.extract ((fr : Nat) : Int).toNat ((pos : Nat) : Int).toNat = mk (((bs s).drop fr).take (pos - fr)) := bs_inj (by rw [bs_extract, bs_mk]; rfl)
      rw [hxt]
      refine g.push hm.next rfl rfl (by decide) (by omega) (by omega) fun p' c' h' g' m' => ?_
      rw [wrap_succ (by omega), show ps.length + 1 = (ps ++ [mk (((bs s).drop fr).take (pos - fr))]).length by simp]
      refine (rparts_loop hs x n l (pos + 1) m (pos + 1) (ps ++ [mk (((bs s).drop fr).take (pos - fr))]) h' p' c' hd' (by omega) (by omega) (Nat.le_refl _) (by simp) (by simp; omega) (hm.push g m') (by simpa using g')).mono fun r h2 ⟨q1, q2, q3⟩ => ?_
      have he : ps ++ [mk (((bs s).drop fr).take (pos - fr))] ++ (parts x ((bs s).drop (pos + 1))).map mk = ps ++ (parts x ((bs s).drop fr)).map mk := by
        rw [hd', congrArg (parts x) hsplit, parts_split l hc]
        simp
      rw [he] at q2 q3
      exact ⟨q1, q2, q3⟩
    · rw [show (((x.toNat : Nat) : Int) == ((c.toNat : Nat) : Int)) = false by
        simp only [beq_eq_false_iff_ne, ne_eq]
        intro e
        exact hxc (UInt8.toNat_inj.1 (by omega)), cond_false, wrap_succ (by omega)]
      refine rparts_loop hs c n l (pos + 1) m fr ps h p d hd' (by omega) (by omega) (by omega) ?_ (by omega) hm g
      rw [show pos + 1 - fr = (pos - fr) + 1 by omega, List.take_add_one]
      simp only [List.mem_append, not_or]
      refine ⟨hc, ?_⟩
      rw [List.getElem?_drop, show fr + (pos - fr) = pos by omega, hx]
      simpa using fun e => hxc e.symm

theorem rparts_ret {s : ByteArray} (hs : s.size < 90000) (c : UInt8) {n : Nat} (hn : s.size + 10 ≤ n) (h : H) :
    Ret (outriderref17_parts_28 n s (c.toNat : Int) h) fun r h' => Mod [] h h' ∧ r.2.1 = (partsB c s).length ∧ Grow h h' 1 r.1 r.2.1 r.2.2 ((partsB c s).map AV.str) := by
  rw [outriderref17_parts_28_eq]
  have := rparts_loop (a := h) hs c n (bs s) 0 n 0 [] h none (.known 0) rfl (by rw [bs_len]; omega) (by rw [bs_len]; omega) (Nat.le_refl _) (by simp) (by simp) (.refl _ _) .nil
  refine this.mono fun r h' ⟨q1, q2, q3⟩ => ⟨q1, ?_, ?_⟩
  · simpa [partsB] using q2
  · simpa [partsB] using q3

end Go.Ev.Tryd
