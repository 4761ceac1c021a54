/- The words of a text that is two texts with a line's end between: the law WordsLines in plain Lean. -/
import Derived.Test.YtkikfnpanlcajaaDoorWd10
set_option linter.all false
namespace Go.Ev.Tryd
set_option maxRecDepth 10000
open Go.Proofs

theorem allL_nil (s : ByteArray) (st : Rd) (k : Int) : allL s st k [] = if (endP s st k).2 = true then .inl (stopP (endP s st k).1 k).l else .inr st.from' := rfl
theorem allL_cons (s : ByteArray) (st : Rd) (k : Int) (c : UInt8) (l : List UInt8) : allL s st k (c :: l) = if 0 ≤ st.from' ∧ 60 < k - st.from' then .inr st.from'
    else if mayP c.toNat = true then (if (takeP s st c.toNat k).2 = true then allL s (takeP s st c.toNat k).1 (k + 1) l else .inr st.from') else .inr k := rfl

def sh (D L : Int) (w : Wd) : Wd := (w.1, w.2.1 + D, w.2.2 + L)
def mv (D L : Int) (pre : List Wd) (st : Rd) : Rd := ⟨pre ++ st.l.map (sh D L), st.line + L, if st.from' < 0 then st.from' else st.from' + D, st.some', st.note⟩

section
variable {s1 s2 : ByteArray} {D L : Int} {pre : List Wd}

theorem mv_neg {st : Rd} (h : st.from' < 0) : (mv D L pre st).from' = st.from' := by simp [mv, h]
theorem mv_pos {st : Rd} (h : ¬ st.from' < 0) : (mv D L pre st).from' = st.from' + D := by simp only [mv]; rw [if_neg h]

theorem endP_mv (hD : 0 ≤ D) (hc : ∀ x y : Int, 0 ≤ x → x ≤ y → y ≤ s2.size → cut s1 (x + D) (y + D) = cut s2 x y) {st : Rd} {k : Int} (hk : st.from' ≤ k) (hs : k ≤ s2.size) : endP s1 (mv D L pre st) (k + D) = (mv D L pre (endP s2 st k).1, (endP s2 st k).2) := by
  by_cases h0 : st.from' < 0
  · unfold endP
    rw [mv_neg h0, if_pos h0, if_pos h0]
  · unfold endP
    rw [mv_pos h0, if_neg h0, if_neg (by omega), hc _ _ (by omega) hk hs]
    simp [mv, sh]

theorem stopP_mv (st : Rd) (k : Int) : stopP (mv D L pre st) (k + D) = mv D L pre (stopP st k) := by
  unfold stopP mv
  cases st.some' with
  | false => simp only [Bool.false_eq_true, if_false]; congr 1; omega
  | true => simp only [if_true, List.map_append, List.map_cons, List.map_nil, sh, List.append_assoc]; congr 1; omega

theorem takeP_mv (hD : 0 ≤ D) (hc : ∀ x y : Int, 0 ≤ x → x ≤ y → y ≤ s2.size → cut s1 (x + D) (y + D) = cut s2 x y) {st : Rd} {k : Int} (h0 : 0 ≤ k) (hk : st.from' ≤ k) (hs : k + 1 ≤ s2.size) (c : Int) : takeP s1 (mv D L pre st) c (k + D) = (mv D L pre (takeP s2 st c k).1, (takeP s2 st c k).2) := by
  have he := endP_mv (L := L) (pre := pre) hD hc hk (by omega : k ≤ s2.size)
  unfold takeP
  by_cases c10 : c = 10
  · rw [if_pos c10, if_pos c10, he]
    simp only [stopP_mv]
  rw [if_neg c10, if_neg c10]
  by_cases n : st.note = true
  · rw [if_pos (show (mv D L pre st).note = true from n), if_pos n]
  rw [if_neg (show ¬ (mv D L pre st).note = true from n), if_neg n]
  by_cases c35 : c = 35
  · rw [if_pos c35, if_pos c35, he]
    rfl
  rw [if_neg c35, if_neg c35]
  by_cases cb : c = 32 ∨ c = 9 ∨ c = 13
  · rw [if_pos cb, if_pos cb, he]
  rw [if_neg cb, if_neg cb]
  have hk0 : ∀ st1 : Rd, (⟨(mv D L pre st1).l, (mv D L pre st1).line, k + D, (mv D L pre st1).some', (mv D L pre st1).note⟩ : Rd) = mv D L pre { st1 with from' := k } := fun st1 => by
    unfold mv; simp only; rw [if_neg (show ¬ k < 0 by omega)]
  by_cases cs : c = 123 ∨ c = 125
  · rw [if_pos cs, if_pos cs, he]
    simp only
    rw [hk0, show k + D + 1 = (k + 1) + D by omega, endP_mv hD hc (by simp only; omega) hs]
  rw [if_neg cs, if_neg cs]
  by_cases f : st.from' < 0
  · rw [mv_neg f, if_pos f, if_pos f, hk0]
  · rw [mv_pos f, if_neg f, if_neg (by omega)]

theorem allL_mv (hD : 0 ≤ D) (hc : ∀ x y : Int, 0 ≤ x → x ≤ y → y ≤ s2.size → cut s1 (x + D) (y + D) = cut s2 x y) : ∀ (l : List UInt8) (k : Int) (st : Rd), 0 ≤ k → k + l.length = s2.size → StOk st k →
    (∀ v, allL s2 st k l = .inl v → allL s1 (mv D L pre st) (k + D) l = .inl (pre ++ v.map (sh D L))) ∧ (∀ e, allL s2 st k l = .inr e → ∃ e', allL s1 (mv D L pre st) (k + D) l = .inr e')
  | [], k, st, h0, hk, ok => by
    have he := endP_mv (L := L) (pre := pre) hD hc ok.fk (by simp at hk; omega : k ≤ s2.size)
    unfold allL
    rw [he]
    simp only
    by_cases h : (endP s2 st k).2 = true
    · rw [if_pos h, if_pos h]
      refine ⟨fun v hv => ?_, fun e he => (by cases he)⟩
      injection hv with hv
      rw [stopP_mv, ← hv]
      rfl
    · rw [if_neg h, if_neg h]
      exact ⟨fun v hv => (by cases hv), fun e he => ⟨_, rfl⟩⟩
  | c :: l, k, st, h0, hk, ok => by
    have ht := takeP_mv (L := L) (pre := pre) hD hc h0 ok.fk (by simp at hk; omega : k + 1 ≤ s2.size) c.toNat
    have f0 := ok.f0
    unfold allL
    have hch : (0 ≤ (mv D L pre st).from' ∧ 60 < k + D - (mv D L pre st).from') ↔ (0 ≤ st.from' ∧ 60 < k - st.from') := by
      by_cases f : st.from' < 0
      · rw [mv_neg f]; omega
      · rw [mv_pos f]; omega
    by_cases h1 : 0 ≤ st.from' ∧ 60 < k - st.from'
    · rw [if_pos h1, if_pos (hch.2 h1)]
      exact ⟨fun v hv => (by cases hv), fun e he => ⟨_, rfl⟩⟩
    · rw [if_neg h1, if_neg (fun h => h1 (hch.1 h))]
      by_cases hm : mayP c.toNat = true
      · rw [if_pos hm, if_pos hm, ht]
        simp only
        by_cases h2 : (takeP s2 st c.toNat k).2 = true
        · rw [if_pos h2, if_pos h2, show k + D + 1 = (k + 1) + D by omega]
          exact allL_mv hD hc l (k + 1) _ (by omega) (by simp at hk; omega) (takeP_ok h0 ok _)
        · rw [if_neg h2, if_neg h2]
          exact ⟨fun v hv => (by cases hv), fun e he => ⟨_, rfl⟩⟩
      · rw [if_neg hm, if_neg hm]
        exact ⟨fun v hv => (by cases hv), fun e he => ⟨_, rfl⟩⟩
end

theorem sh00 : sh 0 0 = id := by funext w; simp [sh]
theorem mv00 (st : Rd) : mv 0 0 [] st = st := by
  unfold mv
  rw [sh00]
  simp

theorem takeP_line (s : ByteArray) (st : Rd) (c k : Int) : (takeP s st c k).1.line = st.line + if c = 10 then 1 else 0 := by
  unfold takeP
  split
  · simp only [stopP, (endP_len s st k).2]
  · split
    · simp
    · split
      · simp [(endP_len s st k).2]
      · split
        · simp [(endP_len s st k).2]
        · split
          · simp [(endP_len s _ (k + 1)).2, (endP_len s st k).2]
          · split <;> simp

/-- up to the line's end that parts two texts -/
theorem allL_head {s1 s2 : ByteArray} (hc : ∀ x y : Int, 0 ≤ x → x ≤ y → y ≤ s2.size → cut s1 x y = cut s2 x y) (r : List UInt8) : ∀ (l : List UInt8) (k : Int) (st : Rd), 0 ≤ k → k + l.length = s2.size → StOk st k →
    (∀ v, allL s2 st k l = .inl v → allL s1 st k (l ++ 10 :: r) = allL s1 ⟨v, st.line + l.count 10 + 1, -1, false, false⟩ (s2.size + 1) r) ∧ (∀ e, allL s2 st k l = .inr e → ∃ e', allL s1 st k (l ++ 10 :: r) = .inr e')
  | [], k, st, h0, hk, ok => by
    have hks : k = s2.size := by simpa using hk
    have he := endP_mv (s1 := s1) (s2 := s2) (D := 0) (L := 0) (pre := []) (Int.le_refl 0) (by simpa using hc) ok.fk (by omega : k ≤ s2.size)
    rw [mv00, mv00, Int.add_zero] at he
    have f0 := ok.f0
    have fk := ok.fk
    rw [List.nil_append, allL_nil, allL_cons]
    have h10 : (((10 : UInt8).toNat : Nat) : Int) = 10 := rfl
    rw [h10]
    have ht : takeP s1 st 10 k = (stopP (endP s2 st k).1 k, (endP s2 st k).2) := by
      unfold takeP
      rw [if_pos rfl, he]
    rw [ht, if_pos (show mayP 10 = true by decide)]
    simp only
    by_cases h1 : 0 ≤ st.from' ∧ 60 < k - st.from'
    · rw [if_pos h1]
      have : (endP s2 st k).2 = false := by
        unfold endP
        rw [if_neg (by omega)]
        refine decide_eq_false ?_
        have := cut_size h1.1 fk (by omega : k ≤ s2.size)
        omega
      rw [this]
      exact ⟨fun v hv => (by cases hv), fun e he => ⟨_, rfl⟩⟩
    · rw [if_neg h1]
      by_cases h : (endP s2 st k).2 = true
      · rw [if_pos h, if_pos h]
        refine ⟨fun v hv => ?_, fun e he => (by cases he)⟩
        injection hv with hv
        have hst : stopP (endP s2 st k).1 k = ⟨v, st.line + ([] : List UInt8).count 10 + 1, -1, false, false⟩ := by
          have h2 := endP_from s2 st k
          have h3 : (endP s2 st k).1.from' = -1 := by
            unfold endP
            split
            · show st.from' = -1
              omega
            · rfl
          unfold stopP at hv ⊢
          simp only at hv
          rw [hv, h3, (endP_len s2 st k).2]
          simp
        rw [hst, hks]
      · rw [if_neg h, if_neg h]
        exact ⟨fun v hv => (by cases hv), fun e he => ⟨_, rfl⟩⟩
  | c :: l, k, st, h0, hk, ok => by
    have ht := takeP_mv (s1 := s1) (s2 := s2) (D := 0) (L := 0) (pre := []) (Int.le_refl 0) (by simpa using hc) h0 ok.fk (by simp at hk; omega : k + 1 ≤ s2.size) c.toNat
    rw [mv00, mv00, Int.add_zero] at ht
    rw [List.cons_append]
    rw [allL, allL]
    by_cases h1 : 0 ≤ st.from' ∧ 60 < k - st.from'
    · rw [if_pos h1, if_pos h1]
      exact ⟨fun v hv => (by cases hv), fun e he => ⟨_, rfl⟩⟩
    · rw [if_neg h1, if_neg h1]
      by_cases hm : mayP c.toNat = true
      · rw [if_pos hm, if_pos hm, ht]
        simp only
        by_cases h2 : (takeP s2 st c.toNat k).2 = true
        · rw [if_pos h2, if_pos h2]
          have ih := allL_head hc r l (k + 1) (takeP s2 st c.toNat k).1 (by omega) (by simp at hk; omega) (takeP_ok h0 ok c.toNat)
          refine ⟨fun v hv => ?_, ih.2⟩
          rw [ih.1 v hv, takeP_line]
          congr 2
          by_cases c10 : c = 10
          · subst c10
            rw [if_pos (show (((10 : UInt8).toNat : Nat) : Int) = 10 from rfl), List.count_cons_self]
            omega
          · rw [if_neg (fun e => c10 (UInt8.toNat_inj.1 (by have : (10 : UInt8).toNat = 10 := rfl; omega))), List.count_cons_of_ne c10]
            omega
        · rw [if_neg h2, if_neg h2]
          exact ⟨fun v hv => (by cases hv), fun e he => ⟨_, rfl⟩⟩
      · rw [if_neg hm, if_neg hm]
        exact ⟨fun v hv => (by cases hv), fun e he => ⟨_, rfl⟩⟩

def two (a b : ByteArray) : ByteArray := mk (bs a ++ 10 :: bs b)

theorem cut_two_left {a b : ByteArray} {x y : Int} (h0 : 0 ≤ x) (h1 : x ≤ y) (h2 : y ≤ a.size) : cut (two a b) x y = cut a x y := by
  unfold cut two
  rw [bs_mk, List.drop_append_of_le_length (by rw [bs_len]; omega), List.take_append_of_le_length (by rw [List.length_drop, bs_len]; omega)]
theorem cut_two_right {a b : ByteArray} {x y : Int} (h0 : 0 ≤ x) (h1 : x ≤ y) : cut (two a b) (x + (a.size + 1)) (y + (a.size + 1)) = cut b x y := by
  unfold cut two
  rw [bs_mk, show bs a ++ 10 :: bs b = (bs a ++ [10]) ++ bs b by simp, List.drop_append, List.drop_of_length_le (by simp [bs_len]; omega), List.nil_append]
  have hl : (bs a ++ [10]).length = a.size + 1 := by simp [bs_len]
  rw [hl, show (x + ((a.size : Int) + 1)).toNat - (a.size + 1) = x.toNat by omega, show (y + ((a.size : Int) + 1)).toNat - (x + ((a.size : Int) + 1)).toNat = y.toNat - x.toNat by omega]

theorem rd0_ok : StOk rd0 0 := ⟨by decide, by decide, by decide, by decide, by decide⟩

def linesIn (a : ByteArray) : Int := 1 + (bs a).count 10

theorem two_words (a b : ByteArray) : (∀ v u, allP a = .inl v → allP b = .inl u → allP (two a b) = .inl (v ++ u.map (sh (a.size + 1) (linesIn a)))) ∧ ((∃ e, allP a = .inr e) ∨ (∃ e, allP b = .inr e) → ∃ e, allP (two a b) = .inr e) := by
  have h1 := allL_head (s1 := two a b) (s2 := a) (fun x y => cut_two_left) (bs b) (bs a) 0 rd0 (Int.le_refl 0) (by rw [bs_len]; omega) rd0_ok
  have h2 := fun v => allL_mv (s1 := two a b) (s2 := b) (D := a.size + 1) (L := linesIn a) (pre := v) (by omega) (fun x y h h' _ => cut_two_right h h') (bs b) 0 rd0 (Int.le_refl 0) (by rw [bs_len]; omega) rd0_ok
  have hmv : ∀ v : List Wd, mv (a.size + 1) (linesIn a) v rd0 = ⟨v, rd0.line + (bs a).count 10 + 1, -1, false, false⟩ := fun v => by
    unfold mv rd0 linesIn
    simp
    omega
  have hall : allP (two a b) = allL (two a b) rd0 0 (bs a ++ 10 :: bs b) := by unfold allP two; rw [bs_mk]
  rw [hall]
  unfold allP
  refine ⟨fun v u hv hu => ?_, fun h => ?_⟩
  · rw [h1.1 v hv, ← hmv v]
    have := (h2 v).1 u hu
    rw [Int.zero_add] at this
    exact this
  · rcases h with ⟨e, he⟩ | ⟨e, he⟩
    · exact h1.2 e he
    · cases ha : allL a rd0 0 (bs a) with
      | inr e' => exact h1.2 e' ha
      | inl v =>
        rw [h1.1 v ha, ← hmv v]
        have := (h2 v).2 e he
        rw [Int.zero_add] at this
        exact this

end Go.Ev.Tryd
