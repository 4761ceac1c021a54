/- What the functions of chapter 17 compute, in plain lists: All whole; the law's alive; the law WordsNumbers. -/
import Derived.Test.YtkikfnpanlcajaaDoorWr5
set_option linter.all false
namespace Go.Ev.Tryd
set_option maxRecDepth 10000
open Go.Proofs

theorem cond_of_true {α : Type} {b : Bool} (h : b = true) (x y : α) : cond b x y = x := by rw [h]; rfl
theorem cond_of_false {α : Type} {b : Bool} (h : b = false) (x y : α) : cond b x y = y := by rw [h]; rfl

theorem endP_len (s : ByteArray) (st : Rd) (k : Int) : (endP s st k).1.l.length ≤ st.l.length + 1 ∧ (endP s st k).1.line = st.line := by
  unfold endP; split <;> simp
theorem endP_from (s : ByteArray) (st : Rd) (k : Int) : (endP s st k).1.from' = st.from' ∨ (endP s st k).1.from' = -1 := by
  unfold endP; split <;> simp

theorem take_ret {a h : H} {b : Nat} {s : ByteArray} {st : Rd} (r : RdRep a h b s st) {k : Int} (h1 : -1 ≤ st.from') (h2 : st.from' ≤ k) (h0 : 0 ≤ k) (h3 : k + 1 ≤ s.size) (h4 : st.l.length < 900000) (h5 : 0 ≤ st.line) (h6 : st.line < 1000000) (hs : s.size < 1000000) (c : Int) (n : Nat) :
    Ret (ca (n + 2) i_words_reader_take [.ptr (some (b, 0)), .int .u8 c, .int .i64 k] h) fun x h' => x = .bool (takeP s st c k).2 ∧ RdRep a h' b s (takeP s st c k).1 := by
  have hl := endP_len s st k
  have e1 := end_ret r h1 h2 (by omega) (by omega) n
  rw [words_reader_take_eq]
  unfold takeP
  by_cases c10 : c = 10
  · rw [show (c == 10) = true by simpa using c10, cond_true, if_pos c10]
    refine e1.bind ?_
    rintro _ h1' ⟨rfl, r1⟩
    simp only [asBool_bool]
    refine (stop_ret r1 (k := k) (by omega) (by omega) (by omega) n).bind ?_
    rintro _ h2' ⟨rfl, r2⟩
    simp only [asTup_tup, l0_nil]
    exact .pure ⟨rfl, r2⟩
  rw [show (c == 10) = false by simpa using c10, cond_false, if_neg c10]
  obtain ⟨lb, hm, p, nn, cc, hg, g⟩ := r
  have r : RdRep a h b s st := ⟨lb, hm, p, nn, cc, hg, g⟩
  simp only [nnK_some', Nat.zero_add]
  rw [cellK_of hg (o := 5) rfl, asBool_bool]
  by_cases hnote : st.note = true
  · rw [cond_of_true hnote, if_pos hnote]
    exact .pure ⟨rfl, r⟩
  · rw [cond_of_false (by simpa using hnote), if_neg hnote]
    by_cases c35 : c = 35
    · rw [show (c == 35) = true by simpa using c35, cond_true, if_pos c35]
      refine e1.bind ?_
      rintro _ h1' ⟨rfl, r1⟩
      obtain ⟨h2', e, r2⟩ := r1.setNote true (fun h10 => (some (.bool (endP s st k).2, h10) : R))
      simp only [asBool_bool]
      rw [e]
      exact .pure ⟨rfl, r2⟩
    rw [show (c == 35) = false by simpa using c35, cond_false, if_neg c35]
    have j0t : Ret (words_reader_take_J0 (n + 1) (some (b, 0)) c k true true h) fun x h' => x = .bool (endP s st k).2 ∧ RdRep a h' b s (endP s st k).1 := by
      rw [words_reader_take_J0_eq, cond_true]
      refine e1.bind ?_
      rintro _ h1' ⟨rfl, r1⟩
      simp only [asBool_bool]
      exact .pure ⟨rfl, r1⟩
    by_cases c32 : c = 32
    · rw [show (c == 32) = true by simpa using c32, cond_true, if_pos (.inl c32)]
      exact j0t
    rw [show (c == 32) = false by simpa using c32, cond_false]
    by_cases c9 : c = 9
    · rw [show (c == 9) = true by simpa using c9, cond_true, if_pos (.inr (.inl c9))]
      exact j0t
    rw [show (c == 9) = false by simpa using c9, cond_false]
    by_cases c13 : c = 13
    · rw [show (c == 13) = true by simpa using c13, if_pos (.inr (.inr c13))]
      exact j0t
    rw [show (c == 13) = false by simpa using c13, if_neg (by simp [c32, c9, c13]), words_reader_take_J0_eq, cond_false]
    have j1t : Ret (words_reader_take_J1 (n + 1) (some (b, 0)) k true true h) fun x h' => x = .bool (endP s st k).2 ∧ RdRep a h' b s (endP s { (endP s st k).1 with from' := k } (k + 1)).1 := by
      rw [words_reader_take_J1_eq, cond_true]
      refine e1.bind ?_
      rintro _ h1' ⟨rfl, r1⟩
      simp only [nnK_some', Nat.zero_add, asBool_bool]
      obtain ⟨h2', e, r2⟩ := r1.from k (fun h15 => ((ca (n + 1) i_words_reader_end [.ptr (some (b, 0)), .int .i64 (IntKind.i64.wrap (k + 1))] h15).bind fun q => asBool q.1 fun x22 => some (.bool (endP s st k).2, q.2) : R))
      rw [e, wrap_i64 (by omega) (by omega)]
      refine (end_ret r2 (k := k + 1) (by first | omega | (simp only; omega)) (by first | omega | (simp only; omega)) h3 (by first | omega | (simp only; omega)) n).bind ?_
      rintro _ h3' ⟨rfl, r3⟩
      simp only [asBool_bool]
      exact .pure ⟨rfl, r3⟩
    by_cases c123 : c = 123
    · rw [show (c == 123) = true by simpa using c123, cond_true, if_pos (.inl c123)]
      exact j1t
    rw [show (c == 123) = false by simpa using c123, cond_false]
    by_cases c125 : c = 125
    · rw [show (c == 125) = true by simpa using c125, if_pos (.inr c125)]
      exact j1t
    rw [show (c == 125) = false by simpa using c125, if_neg (by simp [c123, c125]), words_reader_take_J1_eq, cond_false]
    simp only [nnK_some', Nat.zero_add]
    rw [cellK_of hg (o := 3) rfl, asInt_int]
    by_cases hf : st.from' < 0
    · rw [decide_eq_true hf, cond_true, if_pos hf]
      obtain ⟨h2', e, r2⟩ := r.from k (fun h23 => (some (.bool true, h23) : R))
      rw [e]
      exact .pure ⟨rfl, r2⟩
    · rw [decide_eq_false hf, cond_false, if_neg hf]
      exact .pure ⟨rfl, r⟩

/-! ### All -/

def allL (s : ByteArray) (st : Rd) (k : Int) : List UInt8 → (List Wd) ⊕ Int
  | [] => if (endP s st k).2 = true then .inl (stopP (endP s st k).1 k).l else .inr st.from'
  | c :: l => if 0 ≤ st.from' ∧ 60 < k - st.from' then .inr st.from'
    else if mayP c.toNat = true then (if (takeP s st c.toNat k).2 = true then allL s (takeP s st c.toNat k).1 (k + 1) l else .inr st.from') else .inr k
def rd0 : Rd := ⟨[], 1, -1, false, false⟩
def allP (s : ByteArray) : (List Wd) ⊕ Int := allL s rd0 0 (bs s)

theorem may_eq (n : Nat) (c : Int) (h : H) : ca (n + 1) i_words_may [.int .u8 c] h = some (.bool (mayP c), h) := by
  rw [words_may_eq]
  unfold mayP
  by_cases c9 : c = 9
  · simp [c9]
  by_cases c10 : c = 10
  · simp [c10]
  by_cases c13 : c = 13
  · simp [c13]
  rw [show (c == 9) = false by simpa using c9, show (c == 10) = false by simpa using c10, show (c == 13) = false by simpa using c13, cond_false, cond_false, cond_false, decide_eq_false c9, decide_eq_false c10, decide_eq_false c13]
  by_cases h32 : 32 ≤ c
  · rw [decide_eq_true (show c ≥ 32 from h32), cond_true]; rfl
  · rw [decide_eq_false (show ¬ c ≥ 32 from h32), cond_false]; rfl

def AllOk (a h' : H) (r : AV) : (List Wd) ⊕ Int → Prop
  | .inl l => ∃ p c, r = .tup [.slice p l.length c, .int .i64 0, .int .i64 0] ∧ Grow a h' 3 p l.length c (l.flatMap encW)
  | .inr k => r = .tup [.slice none 0 (.known 0), .int .i64 k, .int .i64 170]

structure StOk (st : Rd) (k : Int) : Prop where
  f0 : -1 ≤ st.from'
  fk : st.from' ≤ k
  len : (st.l.length : Int) ≤ 4 * k
  line : 0 ≤ st.line
  line2 : st.line ≤ k + 1

theorem endP_ok {s : ByteArray} {st : Rd} {k : Int} (h : StOk st k) (j : Int) : -1 ≤ (endP s st j).1.from' ∧ (endP s st j).1.from' ≤ k := by
  have := h.f0; have := h.fk
  rcases endP_from s st j with e | e <;> rw [e] <;> omega

theorem takeP_ok {s : ByteArray} {st : Rd} {k : Int} (h0 : 0 ≤ k) (h : StOk st k) (c : Int) : StOk (takeP s st c k).1 (k + 1) := by
  obtain ⟨f0, fk, hl, l1, l2⟩ := h
  have he := endP_len s st k
  have hf := endP_ok (s := s) ⟨f0, fk, hl, l1, l2⟩ k
  have he2 := endP_len s { (endP s st k).1 with from' := k } (k + 1)
  have hf2 := endP_from s { (endP s st k).1 with from' := k } (k + 1)
  simp only at he2 hf2
  unfold takeP
  split
  · unfold stopP
    refine ⟨hf.1, by first | omega | (simp only; omega), ?_, by first | omega | (simp only; omega), by first | omega | (simp only; omega)⟩
    simp only
    split
    · simp; omega
    · omega
  split
  · exact ⟨f0, by first | omega | (simp only; omega), by first | omega | (simp only; omega), l1, by first | omega | (simp only; omega)⟩
  split
  · exact ⟨hf.1, by first | omega | (simp only; omega), by first | omega | (simp only; omega), by first | omega | (simp only; omega), by first | omega | (simp only; omega)⟩
  split
  · exact ⟨hf.1, by first | omega | (simp only; omega), by first | omega | (simp only; omega), by first | omega | (simp only; omega), by first | omega | (simp only; omega)⟩
  split
  · refine ⟨?_, ?_, by first | omega | (simp only; omega), by first | omega | (simp only; omega), by first | omega | (simp only; omega)⟩
    · rcases hf2 with e | e <;> simp only [e] <;> omega
    · rcases hf2 with e | e <;> simp only [e] <;> omega
  split
  · exact ⟨by first | omega | (simp only; omega), by first | omega | (simp only; omega), by first | omega | (simp only; omega), l1, by first | omega | (simp only; omega)⟩
  · exact ⟨f0, by first | omega | (simp only; omega), by first | omega | (simp only; omega), l1, by first | omega | (simp only; omega)⟩

theorem All_loop {a : H} {b : Nat} {s : ByteArray} (hs : s.size < 200000) (n : Nat) : ∀ (l : List UInt8) (k m : Nat) (h : H) (st : Rd), (bs s).drop k = l → k + l.length = s.size → l.length + 1 < m → RdRep a h b s st → StOk st k →
    Ret (words_All_L0 (n + 2) m s (some (b, 0)) ((s.size + 1 : Nat) : Int) k h) fun r h' => Mod [b] a h' ∧ AllOk a h' r (allL s st k l)
  | [], k, m + 1 + 1, h, st, hd, hk, _, r, ok => by
    obtain ⟨f0, fk, hl, l1, l2⟩ := ok
    simp only [List.length_nil, Nat.add_zero] at hk
    obtain ⟨lb, hm, p, nn, cc, hg, g⟩ := r
    have r : RdRep a h b s st := ⟨lb, hm, p, nn, cc, hg, g⟩
    rw [words_All_L0_eq, cast_lt (by omega), cond_true]
    simp only [nnK_some', Nat.zero_add]
    rw [cellK_of hg (o := 3) rfl, asInt_int, show (((k : Nat) : Int) == (s.size : Nat)) = true by simp; omega, cond_true]
    refine (end_ret r f0 fk (by omega) (by omega) (n + 1)).bind ?_
    rintro _ h1 ⟨rfl, r1⟩
    simp only [asBool_bool]
    unfold allL
    cases hok : (endP s st k).2 with
    | false =>
      rw [Bool.not_false, cond_true]
      exact .pure ⟨r1.m, rfl⟩
    | true =>
      rw [Bool.not_true, cond_false]
      have he := endP_len s st k
      refine (stop_ret r1 (k := k) (by omega) (by omega) (by omega) (n + 1)).bind ?_
      rintro _ h2 ⟨rfl, r2⟩
      simp only [asTup_tup, l0_nil]
      obtain ⟨lb2, hm2, p2, n2, c2, hg2, g2⟩ := r2
      rw [wrap_succ (by omega), words_All_L0_eq, cast_not_lt (by omega), cond_false]
      simp only [nnK_some', Nat.zero_add]
      rw [cellK_of hg2 (o := 1) rfl, asSlice_slice]
      have hlen := g2.row.len encW_len (by decide)
      obtain rfl := hlen
      exact .pure ⟨hm2, p2, c2, rfl, g2⟩
  | c :: l, k, m + 1, h, st, hd, hk, hlm, r, ok => by
    obtain ⟨f0, fk, hl, l1, l2⟩ := ok
    simp only [List.length_cons] at hk hlm
    have hx : (bs s)[k]? = some c := by have := congrArg (·[0]?) hd; simpa using this
    have hd' : (bs s).drop (k + 1) = l := by rw [← List.drop_drop, hd]; rfl
    obtain ⟨lb, hm, p, nn, cc, hg, g⟩ := r
    have r : RdRep a h b s st := ⟨lb, hm, p, nn, cc, hg, g⟩
    rw [words_All_L0_eq, cast_lt (by omega), cond_true]
    simp only [nnK_some', Nat.zero_add]
    rw [cellK_of hg (o := 3) rfl, asInt_int, show (((k : Nat) : Int) == (s.size : Nat)) = false by simp; omega, cond_false]
    have j1 : ∀ d : Bool, d = decide (0 ≤ st.from' ∧ 60 < (k : Int) - st.from') → Ret (words_All_J1 (n + 2) m s (some (b, 0)) k st.from' ((s.size + 1 : Nat) : Int) k d h) fun r h' => Mod [b] a h' ∧ AllOk a h' r (allL s st k (c :: l)) := by
      intro d hd0
      rw [words_All_J1_eq]
      unfold allL
      by_cases hc : 0 ≤ st.from' ∧ 60 < (k : Int) - st.from'
      · rw [hd0, decide_eq_true hc, cond_true, if_pos hc]
        exact .pure ⟨hm, rfl⟩
      · rw [hd0, decide_eq_false hc, cond_false, if_neg hc, byteK_of hx, may_eq, Option.bind_some]
        simp only [asBool_bool]
        cases hmay : mayP c.toNat with
        | false =>
          rw [Bool.not_false, cond_true]
          exact .pure ⟨hm, rfl⟩
        | true =>
          rw [Bool.not_true, cond_false, byteK_of hx]
          refine (take_ret r f0 fk (by omega) (by omega) (by omega) l1 (by omega) (by omega) c.toNat n).bind ?_
          rintro _ h1 ⟨rfl, r1⟩
          simp only [asBool_bool]
          cases htk : (takeP s st c.toNat k).2 with
          | false =>
            rw [Bool.not_false, cond_true]
            exact .pure ⟨r1.m, rfl⟩
          | true =>
            rw [Bool.not_true, cond_false, wrap_succ (by omega)]
            have := All_loop hs n l (k + 1) m h1 _ hd' (by omega) (by omega) r1 (takeP_ok (by omega) ⟨f0, fk, hl, l1, l2⟩ c.toNat)
            simpa using this
    by_cases hf : st.from' ≥ 0
    · rw [decide_eq_true hf, cond_true]
      refine j1 _ ?_
      rw [wrap_i64 (by omega) (by omega), decide_eq_decide]
      exact ⟨fun h => ⟨hf, h⟩, fun h => h.2⟩
    · rw [decide_eq_false hf, cond_false]
      refine j1 _ ?_
      rw [eq_comm, decide_eq_false_iff_not]
      exact fun h => hf h.1

theorem All_ret {s : ByteArray} (hs : s.size < 200000) {n : Nat} (hn : s.size + 11 ≤ n) (h : H) : Ret (ca n i_words_All [.str s] h) fun r h' => Mod [] h h' ∧ AllOk h h' r (allP s) := by
  obtain ⟨n, rfl⟩ : ∃ m, n = m + 2 + 1 := ⟨n - 3, by omega⟩
  rw [words_All_eq]
  simp only [newK_eq]
  rw [wrap_succ (by omega)]
  have m1 : Mod [] h (h.new (.cells [.str s, .slice none 0 (.known 0), .int .i64 1, .int .i64 (-1), .bool false, .bool false] false)) := (Mod.refl _ _).new _
  refine (All_loop (a := h.new (.cells [.str s, .slice none 0 (.known 0), .int .i64 1, .int .i64 (-1), .bool false, .bool false] false)) (b := h.next) hs n (bs s) 0 (n + 2) _ rd0 rfl (by rw [bs_len]; omega) (by rw [bs_len]; omega) ⟨by simp, .refl _ _, none, 0, .known 0, get_new_self _ _, .nil⟩ ⟨by decide, by decide, by decide, by decide, by decide⟩).mono fun r h' ⟨q1, q2⟩ => ⟨m1.trans' q1 fun i hi hl => by simp at hi; omega, ?_⟩
  change AllOk h h' r (allL s rd0 ((0 : Nat) : Int) (bs s))
  cases hall : allL s rd0 ((0 : Nat) : Int) (bs s) with
  | inl l => rw [hall] at q2; obtain ⟨p, c, e, q2⟩ := q2; exact ⟨p, c, e, q2.base m1.next⟩
  | inr k => rw [hall] at q2; exact q2

/-! ### alive -/

def wantL : List Wd := [(mk [97], 0, 1), (mk [123], 2, 1), (mk [98], 3, 1), (mk [125], 4, 1), (mk [10], 8, 1)]

theorem alive_ret (h : H) {n : Nat} (hn : 200 ≤ n) : Ret (ca n i_outriderlaw17_alive [] h) fun r h' => r = .bool true ∧ Mod [] h h' := by
  obtain ⟨n, rfl⟩ : ∃ m, n = m + 1 := ⟨n - 1, by omega⟩
  rw [outriderlaw17_alive_eq]
  have s1 : (⟨#[97, 32, 123, 98, 125, 32, 35, 99]⟩ : ByteArray).size = 8 := rfl
  have s2 : (⟨#[49, 48, 46, 48, 46, 48, 46, 49]⟩ : ByteArray).size = 8 := rfl
  have s3 : s_f3e7e2c9.size = 9 := rfl
  refine (All_ret (s := ⟨#[97, 32, 123, 98, 125, 32, 35, 99]⟩) (by omega) (by omega) h).bind ?_
  rintro _ h1 ⟨m1, g1⟩
  have hall : allP ⟨#[97, 32, 123, 98, 125, 32, 35, 99]⟩ = .inl wantL := by decide +kernel
  rw [hall] at g1
  obtain ⟨p, c, e, g1⟩ := g1
  subst e
  simp only [asTup_tup, lL_of, lI_of, l0_nil]
  refine (Address_ret (s := ⟨#[49, 48, 46, 48, 46, 48, 46, 49]⟩) (by omega) (by omega) h1).bind ?_
  rintro _ h2 ⟨m2, rfl⟩
  simp only [enSB, asTup_tup, lS_of, lB_of, l0_nil]
  refine (Address_ret (s := s_f3e7e2c9) (by omega) (by omega) h2).bind ?_
  rintro _ h3 ⟨m3, rfl⟩
  simp only [enSB, asTup_tup, lS_of, lB_of, l0_nil]
  rw [show ((0 : Int) == 0) = true by decide, cond_true, cond_true, show (((wantL.length : Nat) : Int) == 5) = true by decide, cond_true]
  have row := (g1.row.mod0 (m2.trans m3))
  have := row.ix encW_len (by decide) (k := 2) (x := (mk [98], 3, 1)) rfl (β := AV × H)
  change Ret (if 0 ≤ ((2 : Nat) : Int) ∧ ((2 : Nat) : Int) < (Nat.cast wantL.length : Int) then nnK p fun b o => aggK h3 b (o + ((2 : Nat) : Int).toNat * 3) 3 _ else none) _
  rw [this]
  simp only [encW, lS_of, lI_of, l0_nil]
  rw [show (((mk [98]).toList == (⟨#[98]⟩ : ByteArray).toList) && (((3 : Int) == 3) && (((1 : Int) == 1) && true))) = true by decide +kernel, cond_true,
    show (adrP ⟨#[49, 48, 46, 48, 46, 48, 46, 49]⟩).2 = true by decide +kernel, cond_true,
    show ((adrP ⟨#[49, 48, 46, 48, 46, 48, 46, 49]⟩).1.toList == (⟨#[10, 0, 0, 1]⟩ : ByteArray).toList) = true by decide +kernel, cond_true,
    show (adrP s_f3e7e2c9).2 = false by decide +kernel, Bool.not_false, cond_true]
  refine (CardText_ret (m := [1, 171, 0, 0, 0, 0]) rfl (by decide) (by omega) h3).bind ?_
  rintro _ h4 ⟨m4, rfl⟩
  simp only [asStr_str]
  exact .pure ⟨by rw [show ((joinS (List.map hx2 [1, 171, 0, 0, 0, 0]) (mk [58])).toList == s_7706fa12.toList) = true by decide +kernel], m1.trans (m2.trans (m3.trans m4))⟩

end Go.Ev.Tryd
