/- Words with blanks between are read as the same words: the law WordsAgain in plain Lean. -/
import Derived.Test.YtkikfnpanlcajaaDoorWd12
set_option linter.all false
namespace Go.Ev.Tryd
set_option maxRecDepth 10000
open Go.Proofs

def txt : List Wd → List UInt8
  | [] => []
  | w :: l => 32 :: (bs w.1 ++ txt l)
theorem txt_append : ∀ l r : List Wd, txt (l ++ r) = txt l ++ txt r
  | [], r => rfl
  | w :: l, r => by simp [txt, txt_append l r]
theorem txt_tot : ∀ l : List Wd, ((txt l).length : Int) = tot l
  | [] => rfl
  | w :: l => by have := txt_tot l; simp only [txt, tot, List.length_cons, List.length_append, bs_len]; omega

structure Rr (T : ByteArray) (st : Rd) (k : Int) (pre : List ByteArray) (b : Bool) : Prop where
  ok : (endP T st k).2 = true
  fr : (endP T st k).1.from' = -1
  li : (endP T st k).1.l.map (·.1) = pre
  so : (endP T st k).1.some' = b
  no : st.note = false
  ch : ¬ (0 ≤ st.from' ∧ 60 < k - st.from')

theorem endP_note (s : ByteArray) (st : Rd) (k : Int) : (endP s st k).1.note = st.note := by
  unfold endP; split <;> rfl
theorem endP_m {s : ByteArray} {st : Rd} {k : Int} (h : st.from' = -1) : endP s st k = (st, true) := by
  unfold endP; rw [if_pos (by omega)]

/-- a state between two words -/
structure Gap (st : Rd) (pre : List ByteArray) (b : Bool) : Prop where
  fr : st.from' = -1
  li : st.l.map (·.1) = pre
  so : st.some' = b
  no : st.note = false

theorem Gap.rr {T : ByteArray} {st : Rd} {pre : List ByteArray} {b : Bool} (g : Gap st pre b) (k : Int) : Rr T st k pre b := by
  have e := endP_m (s := T) (k := k) g.fr
  exact ⟨by rw [e], by rw [e]; exact g.fr, by rw [e]; exact g.li, by rw [e]; exact g.so, g.no, by rw [g.fr]; omega⟩

theorem read_blank {T : ByteArray} {st : Rd} {k : Int} {pre : List ByteArray} {b : Bool} (h : Rr T st k pre b) (r : List UInt8) : ∃ st1, Gap st1 pre b ∧ allL T st k (32 :: r) = allL T st1 (k + 1) r := by
  refine ⟨(endP T st k).1, ⟨h.fr, h.li, h.so, by rw [endP_note]; exact h.no⟩, ?_⟩
  have h32 : (((32 : UInt8).toNat : Nat) : Int) = 32 := rfl
  have ht : takeP T st 32 k = endP T st k := by
    unfold takeP
    rw [if_neg (by decide), if_neg (by rw [h.no]; decide), if_neg (by decide), if_pos (.inl rfl)]
  rw [allL_cons, h32, if_neg h.ch, if_pos (show mayP 32 = true by decide), ht, if_pos h.ok]

theorem plain_may {c : UInt8} (h : plainB c) : mayP c.toNat = true := by
  unfold plainB at h
  simp only [mayP, Bool.or_eq_true, Bool.and_eq_true, decide_eq_true_eq]
  omega
theorem plain_in {T : ByteArray} {st : Rd} {k : Int} {c : UInt8} (h : plainB c) (hn : st.note = false) (h0 : 0 ≤ st.from') : takeP T st c.toNat k = (st, true) := by
  unfold plainB at h
  unfold takeP
  rw [if_neg (by omega), if_neg (by rw [hn]; decide), if_neg (by omega), if_neg (by omega), if_neg (by omega), if_neg (by omega)]
theorem plain_out {T : ByteArray} {st : Rd} {k : Int} {c : UInt8} (h : plainB c) (hn : st.note = false) (h0 : st.from' < 0) : takeP T st c.toNat k = ({ st with from' := k }, true) := by
  unfold plainB at h
  unfold takeP
  rw [if_neg (by omega), if_neg (by rw [hn]; decide), if_neg (by omega), if_neg (by omega), if_neg (by omega), if_pos h0]

theorem read_plain {T : ByteArray} {st : Rd} (hn : st.note = false) (h0 : 0 ≤ st.from') (r : List UInt8) : ∀ (cs : List UInt8) (k : Int), (∀ c ∈ cs, plainB c) → k + cs.length - st.from' ≤ 60 → allL T st k (cs ++ r) = allL T st (k + cs.length) r
  | [], k, _, _ => by simp
  | c :: cs, k, hp, hl => by
    simp only [List.length_cons] at hl
    have hc := hp c (by simp)
    rw [List.cons_append, allL_cons, if_neg (by omega), if_pos (plain_may hc), plain_in hc hn h0, if_pos rfl, read_plain hn h0 r cs (k + 1) (fun d hd => hp d (by simp [hd])) (by omega)]
    rw [List.length_cons, show k + 1 + (cs.length : Int) = k + ((cs.length + 1 : Nat) : Int) by omega]

theorem read_word {T : ByteArray} {st : Rd} {k : Int} {pre : List ByteArray} {b b' : Bool} (g : Gap st pre b) (h0 : 0 ≤ k) {w : Wd} (hw : w.1 = NL ∨ TextOk w.1) (hb : nlF b [w] = some b') (r : List UInt8) (hd : (bs T).drop k.toNat = bs w.1 ++ r) (hk : k + (bs w.1).length + r.length = T.size) :
    ∃ st2, Rr T st2 (k + (bs w.1).length) (pre ++ [w.1]) b' ∧ allL T st k (bs w.1 ++ r) = allL T st2 (k + (bs w.1).length) r := by
  have he := endP_m (s := T) (k := k) g.fr
  have hch : ¬ (0 ≤ st.from' ∧ 60 < k - st.from') := by rw [g.fr]; omega
  by_cases hnl : w.1 = NL
  · -- a line's end
    rw [hnl] at hd hk ⊢
    have hnb : bs NL = [10] := bs_mk _
    rw [hnb] at hd hk ⊢
    simp only [nlF] at hb
    rw [if_pos hnl] at hb
    have hb1 : b = true := by
      cases b with
      | true => rfl
      | false => simp at hb
    rw [if_pos hb1] at hb
    obtain rfl : false = b' := by simpa using hb
    subst hb1
    refine ⟨stopP st k, Gap.rr (st := stopP st k) (b := false) ⟨g.fr, ?_, rfl, rfl⟩ _, ?_⟩
    · simp only [stopP, g.so, if_true, List.map_append, List.map_cons, List.map_nil, g.li]
    · have h10 : (((10 : UInt8).toNat : Nat) : Int) = 10 := rfl
      have ht : takeP T st 10 k = (stopP st k, true) := by
        unfold takeP
        rw [if_pos rfl, he]
      rw [List.cons_append, List.nil_append, allL_cons, if_neg hch, h10, if_pos (show mayP 10 = true by decide), ht, if_pos rfl]
      rfl
  · have htx : TextOk w.1 := hw.resolve_left hnl
    simp only [nlF] at hb
    rw [if_neg hnl] at hb
    obtain rfl : true = b' := by simpa using hb
    have brace : ∀ c : UInt8, (c = 123 ∨ c = 125) → w.1 = mk [c] → ∃ st2, Rr T st2 (k + (bs w.1).length) (pre ++ [w.1]) true ∧ allL T st k (bs w.1 ++ r) = allL T st2 (k + (bs w.1).length) r := by
      intro c hc hwc
      have hcc : (c.toNat : Int) = 123 ∨ (c.toNat : Int) = 125 := by
        rcases hc with rfl | rfl
        · exact .inl rfl
        · exact .inr rfl
      rw [hwc, bs_mk] at hd hk ⊢
      have hx : (bs T)[k.toNat]? = some c := by have := congrArg (·[0]?) hd; simpa using this
      have hcut := cut_one h0 hx
      have e5 : (endP T { st with from' := k } (k + 1)).1 = { st with l := st.l ++ [(mk [c], k, st.line)], some' := true, from' := -1 } := by
        unfold endP
        rw [if_neg (by simp only; omega)]
        simp only [hcut]
      refine ⟨{ st with l := st.l ++ [(mk [c], k, st.line)], some' := true, from' := -1 }, Gap.rr (st := { st with l := st.l ++ [(mk [c], k, st.line)], some' := true, from' := -1 }) (b := true) ⟨rfl, ?_, rfl, g.no⟩ _, ?_⟩
      · simp [g.li]
      · have ht : takeP T st c.toNat k = ({ st with l := st.l ++ [(mk [c], k, st.line)], some' := true, from' := -1 }, true) := by
          unfold takeP
          rw [if_neg (by omega), if_neg (by rw [g.no]; decide), if_neg (by omega), if_neg (by omega), if_pos hcc, he]
          simp only [e5]
        have hm : mayP c.toNat = true := by rcases hcc with e | e <;> rw [e] <;> decide
        rw [List.cons_append, List.nil_append, allL_cons, if_neg hch, if_pos hm, ht, if_pos rfl]
        rfl
    rcases htx with h1 | h1 | ⟨hne, hpl, hsz⟩
    · exact brace 123 (.inl rfl) h1
    · exact brace 125 (.inr rfl) h1
    · obtain ⟨c, cs, hcs⟩ : ∃ c cs, bs w.1 = c :: cs := by
        cases h : bs w.1 with
        | nil => exact absurd h hne
        | cons c cs => exact ⟨c, cs, rfl⟩
      have hlen : (bs w.1).length = w.1.size := bs_len _
      have hc : plainB c := hpl c (by rw [hcs]; simp)
      have hcut : cut T k (k + (bs w.1).length) = w.1 := bs_inj (by
        unfold cut
        rw [bs_mk, hd, show (k + ((bs w.1).length : Int)).toNat - k.toNat = (bs w.1).length by omega, List.take_left'  rfl])
      have hkk : k + (bs w.1).length ≤ T.size := by omega
      have e6 : endP T { st with from' := k } (k + (bs w.1).length) = ({ st with l := st.l ++ [(w.1, k, st.line)], some' := true, from' := -1 }, true) := by
        unfold endP
        rw [if_neg (by simp only; omega)]
        simp only [hcut]
        rw [decide_eq_true hsz]
      refine ⟨{ st with from' := k }, ⟨by rw [e6], by rw [e6], by rw [e6]; simp [g.li], by rw [e6], g.no, by simp only; omega⟩, ?_⟩
      rw [hcs, List.cons_append, allL_cons, if_neg hch, if_pos (plain_may hc), plain_out hc g.no (by rw [g.fr]; decide), if_pos rfl]
      rw [hcs, List.length_cons] at hlen
      rw [read_plain (st := { st with from' := k }) g.no h0 r cs (k + 1) (fun d hd => hpl d (by rw [hcs]; simp [hd])) (by simp only; omega)]
      rw [List.length_cons, show k + 1 + (cs.length : Int) = k + ((cs.length + 1 : Nat) : Int) by omega]

theorem reread {T : ByteArray} : ∀ (l : List Wd) (pre : List ByteArray) (b : Bool) (st : Rd) (k : Int), (∀ w ∈ l, w.1 = NL ∨ TextOk w.1) → nlF b l = some false → (bs T).drop k.toNat = txt l → 0 ≤ k → k + (txt l).length = T.size → Rr T st k pre b →
    ∃ m, allL T st k (txt l) = .inl m ∧ m.map (·.1) = pre ++ l.map (·.1)
  | [], pre, b, st, k, _, hb, _, _, _, h => by
    obtain rfl : b = false := by simpa [nlF] using hb
    refine ⟨(stopP (endP T st k).1 k).l, ?_, ?_⟩
    · show allL T st k [] = _
      rw [allL_nil, if_pos h.ok]
    · simp only [stopP, h.so]
      simpa using h.li
  | w :: l, pre, b, st, k, hw, hb, hd, h0, hk, h => by
    simp only [txt] at hd hk ⊢
    simp only [List.length_cons, List.length_append] at hk
    obtain ⟨st1, g, e1⟩ := read_blank h (bs w.1 ++ txt l)
    have hb2 : nlF b (w :: l) = (nlF b [w]).bind fun b' => nlF b' l := nlF_append [w] b l
    rw [hb2] at hb
    cases hb' : nlF b [w] with
    | none => rw [hb'] at hb; cases hb
    | some b' =>
      rw [hb'] at hb
      have hd1 : (bs T).drop (k + 1).toNat = bs w.1 ++ txt l := by rw [show (k + 1).toNat = k.toNat + 1 by omega, ← List.drop_drop, hd]; rfl
      obtain ⟨st2, h2, e2⟩ := read_word (T := T) g (k := k + 1) (by omega) (hw w (by simp)) hb' (txt l) hd1 (by omega)
      have hd2 : (bs T).drop (k + 1 + (bs w.1).length).toNat = txt l := by
        rw [show (k + 1 + ((bs w.1).length : Int)).toNat = (k + 1).toNat + (bs w.1).length by omega, ← List.drop_drop, hd1, List.drop_left' rfl]
      obtain ⟨m, em, hm⟩ := reread l (pre ++ [w.1]) b' st2 _ (fun x hx => hw x (by simp [hx])) hb hd2 (by omega) (by omega) h2
      exact ⟨m, by rw [e1, e2, em], by rw [hm]; simp⟩

theorem again_words {s : ByteArray} {v : List Wd} (h : allP s = .inl v) : ∃ m, allP (mk (txt v)) = .inl m ∧ m.map (·.1) = v.map (·.1) := by
  have hi := allP_inv h
  unfold allP
  rw [bs_mk]
  have := reread (T := mk (txt v)) v [] false rd0 0 (fun w hw => by
    rcases (hi.ok w hw).1 with e | e
    · exact .inl e.1
    · exact .inr e.2.2) hi.nl (by rw [bs_mk]; rfl) (Int.le_refl 0) (by rw [size_mk]; omega) (Gap.rr ⟨rfl, rfl, rfl, rfl⟩ 0)
  simpa using this

end Go.Ev.Tryd
