/- What holds of the words of a text (All), in plain lists. -/
import Derived.Test.YtkikfnpanlcajaaDoorWd9
set_option linter.all false
namespace Go.Ev.Tryd
set_option maxRecDepth 10000
open Go.Proofs

abbrev NL : ByteArray := mk [10]
def plainB (c : UInt8) : Prop := 33 ≤ c.toNat ∧ c.toNat ≤ 126 ∧ c.toNat ≠ 35 ∧ c.toNat ≠ 123 ∧ c.toNat ≠ 125
def TextOk (t : ByteArray) : Prop := t = mk [123] ∨ t = mk [125] ∨ (bs t ≠ [] ∧ (∀ c ∈ bs t, plainB c) ∧ t.size ≤ 60)
def WordOk (s : ByteArray) (w : Wd) : Prop := (w.1 = NL ∧ w.2.1 ≤ s.size) ∨ (w.2.1 + w.1.size ≤ s.size ∧ cut s w.2.1 (w.2.1 + w.1.size) = w.1 ∧ TextOk w.1)
def lim (st : Rd) (k : Int) : Int := if st.from' < 0 then k else st.from'
theorem lim_m {st : Rd} {k : Int} (h : st.from' = -1) : lim st k = k := by
  unfold lim; rw [h, if_pos (by decide)]
def nlF : Bool → List Wd → Option Bool
  | b, [] => some b
  | b, w :: l => if w.1 = NL then (if b = true then nlF false l else none) else nlF true l
def tot : List Wd → Int
  | [] => 0
  | w :: l => (w.1.size : Int) + 1 + tot l

theorem nlF_append : ∀ (l : List Wd) (b : Bool) (r : List Wd), nlF b (l ++ r) = (nlF b l).bind fun b' => nlF b' r
  | [], b, r => rfl
  | w :: l, b, r => by
    simp only [List.cons_append, nlF]
    split
    · split
      · exact nlF_append l _ r
      · rfl
    · exact nlF_append l _ r
theorem tot_append : ∀ (l r : List Wd), tot (l ++ r) = tot l + tot r
  | [], r => by simp [tot]
  | w :: l, r => by simp only [List.cons_append, tot, tot_append l r]; omega

theorem TextOk.ne {t : ByteArray} (h : TextOk t) : t ≠ NL := by
  rintro rfl
  rcases h with h | h | ⟨_, h, _⟩
  · have := congrArg bs h; rw [bs_mk, bs_mk] at this; simp at this
  · have := congrArg bs h; rw [bs_mk, bs_mk] at this; simp at this
  · have := h 10 (by rw [bs_mk]; simp)
    exact absurd this.1 (by decide)

structure LInv (s : ByteArray) (l : List Wd) (x line : Int) (b : Bool) : Prop where
  ok : ∀ w ∈ l, WordOk s w ∧ 0 ≤ w.2.1 ∧ w.2.1 < x ∧ 1 ≤ w.2.2 ∧ w.2.2 ≤ line
  pw : l.Pairwise fun a b => a.2.1 < b.2.1 ∧ a.2.2 ≤ b.2.2
  nl : nlF false l = some b
  tt : tot l ≤ 2 * x

theorem LInv.up {s : ByteArray} {l : List Wd} {x y line line' : Int} {b : Bool} (h : LInv s l x line b) (hx : x ≤ y) (hl : line ≤ line') : LInv s l y line' b :=
  ⟨fun w hw => by have := h.ok w hw; exact ⟨this.1, this.2.1, by omega, this.2.2.2.1, by omega⟩, h.pw, h.nl, by have := h.tt; omega⟩
theorem LInv.push {s : ByteArray} {l : List Wd} {x y line : Int} {b b' : Bool} (h : LInv s l x line b) {w : Wd} (hw : WordOk s w) (h0 : 0 ≤ w.2.1) (hx : x ≤ w.2.1) (hy : w.2.1 < y) (hl : w.2.2 = line) (h1 : 1 ≤ line) (ht : 2 * x + w.1.size + 1 ≤ 2 * y) (hb : nlF b [w] = some b') : LInv s (l ++ [w]) y line b' := by
  refine ⟨fun v hv => ?_, ?_, ?_, ?_⟩
  · rcases List.mem_append.1 hv with hv | hv
    · have := h.ok v hv; exact ⟨this.1, this.2.1, by omega, this.2.2.2.1, this.2.2.2.2⟩
    · obtain rfl : v = w := by simpa using hv
      exact ⟨hw, h0, hy, by omega, by omega⟩
  · rw [List.pairwise_append]
    refine ⟨h.pw, by simp, fun v hv u hu => ?_⟩
    obtain rfl : u = w := by simpa using hu
    have := h.ok v hv
    exact ⟨by omega, by omega⟩
  · rw [nlF_append, h.nl]; exact hb
  · rw [tot_append]; simp only [tot]; have := h.tt; omega

structure Inv (s : ByteArray) (st : Rd) (k : Int) : Prop where
  fr : st.from' = -1 ∨ (0 ≤ st.from' ∧ st.from' < k ∧ st.note = false ∧ ∀ c ∈ bs (cut s st.from' k), plainB c)
  li : LInv s st.l (lim st k) st.line st.some'
  l1 : 1 ≤ st.line
  lk : st.line ≤ k + 1

theorem cut_size {s : ByteArray} {x y : Int} (h0 : 0 ≤ x) (h1 : x ≤ y) (h2 : y ≤ s.size) : ((cut s x y).size : Int) = y - x := by
  unfold cut
  rw [size_mk, List.length_take, List.length_drop, bs_len]
  omega
theorem cut_succ {s : ByteArray} {x k : Int} {c : UInt8} (h0 : 0 ≤ x) (h1 : x ≤ k) (hc : (bs s)[k.toNat]? = some c) : bs (cut s x (k + 1)) = bs (cut s x k) ++ [c] := by
  unfold cut
  rw [bs_mk, bs_mk, show (k + 1).toNat - x.toNat = (k.toNat - x.toNat) + 1 by omega, List.take_add_one, List.getElem?_drop, show x.toNat + (k.toNat - x.toNat) = k.toNat by omega, hc]
  rfl
theorem cut_one {s : ByteArray} {k : Int} {c : UInt8} (h0 : 0 ≤ k) (hc : (bs s)[k.toNat]? = some c) : cut s k (k + 1) = mk [c] := by
  have := cut_succ h0 (Int.le_refl k) hc
  refine bs_inj ?_
  rw [this, bs_mk]
  unfold cut
  rw [bs_mk]
  simp

theorem endP_inv {s : ByteArray} {st : Rd} {k : Int} (h : Inv s st k) (hk : k ≤ s.size) (ok : (endP s st k).2 = true) :
    (endP s st k).1.from' = -1 ∧ LInv s (endP s st k).1.l k st.line (endP s st k).1.some' ∧ (endP s st k).1.line = st.line ∧ (endP s st k).1.note = st.note := by
  unfold endP at ok ⊢
  by_cases h0 : st.from' < 0
  · rw [if_pos h0]
    have hl := h.li
    unfold lim at hl
    rw [if_pos h0] at hl
    refine ⟨?_, hl, rfl, rfl⟩
    rcases h.fr with e | e
    · exact e
    · omega
  · rw [if_neg h0] at ok ⊢
    rcases h.fr with e | ⟨e1, e2, e3, e4⟩
    · omega
    have hl := h.li
    unfold lim at hl
    rw [if_neg h0] at hl
    have hsz := cut_size e1 (Int.le_of_lt e2) hk
    have ht : TextOk (cut s st.from' k) := .inr (.inr ⟨fun e => by
      have h2 := congrArg List.length e; rw [bs_len, List.length_nil] at h2; omega, e4, of_decide_eq_true ok⟩)
    refine ⟨rfl, hl.push (w := (cut s st.from' k, st.from', st.line)) (.inr ⟨by simp only; omega, by simp only; rw [hsz]; congr 1; omega, ht⟩) e1 (Int.le_refl _) e2 rfl h.l1 (by simp only; omega) ?_, rfl, rfl⟩
    simp only [nlF]
    rw [if_neg ht.ne]

theorem plain_of {c : UInt8} (hm : mayP c.toNat = true) (h10 : ¬ ((c.toNat : Int) = 10)) (h35 : ¬ ((c.toNat : Int) = 35)) (hb : ¬ ((c.toNat : Int) = 32 ∨ (c.toNat : Int) = 9 ∨ (c.toNat : Int) = 13)) (hs : ¬ ((c.toNat : Int) = 123 ∨ (c.toNat : Int) = 125)) : plainB c := by
  simp only [mayP, Bool.or_eq_true, Bool.and_eq_true, decide_eq_true_eq] at hm
  unfold plainB
  omega

theorem takeP_inv {s : ByteArray} {st : Rd} {k : Int} (h : Inv s st k) (h0 : 0 ≤ k) {c : UInt8} (hc : (bs s)[k.toNat]? = some c) (hm : mayP c.toNat = true) (ok : (takeP s st c.toNat k).2 = true) : Inv s (takeP s st c.toNat k).1 (k + 1) := by
  have hks : k + 1 ≤ s.size := by have := (List.getElem?_eq_some_iff.1 hc).1; rw [bs_len] at this; omega
  have lk := h.lk
  have l1 := h.l1
  unfold takeP at ok ⊢
  by_cases c10 : (c.toNat : Int) = 10
  · rw [if_pos c10] at ok ⊢
    obtain ⟨e1, e2, e3, e4⟩ := endP_inv h (by omega) ok
    unfold stopP
    refine ⟨.inl e1, ?_, by simp only [e3]; omega, by simp only [e3]; omega⟩
    rw [lim_m (by exact e1)]
    simp only [e3]
    by_cases hs : (endP s st k).1.some' = true
    · rw [if_pos hs]
      rw [hs] at e2
      exact (e2.push (w := (NL, k, st.line)) (y := k + 1) (b' := false) (.inl ⟨rfl, by simp only; omega⟩) h0 (Int.le_refl _) (by simp only; omega) rfl l1 (by rw [size_mk]; simp; omega) (by simp [nlF])).up (Int.le_refl _) (by omega)
    · rw [if_neg hs]
      rw [Bool.not_eq_true] at hs
      rw [hs] at e2
      exact e2.up (by omega) (by omega)
  rw [if_neg c10] at ok ⊢
  by_cases hn : st.note = true
  · rw [if_pos hn]
    have hf : st.from' = -1 := by
      rcases h.fr with e | ⟨_, _, e, _⟩
      · exact e
      · rw [hn] at e; cases e
    have hl := h.li
    refine ⟨.inl hf, ?_, l1, by simp only; omega⟩
    rw [lim_m hf] at hl ⊢
    exact hl.up (by omega) (Int.le_refl _)
  rw [if_neg hn] at ok ⊢
  by_cases c35 : (c.toNat : Int) = 35
  · rw [if_pos c35] at ok ⊢
    obtain ⟨e1, e2, e3, e4⟩ := endP_inv h (by omega) ok
    refine ⟨.inl e1, ?_, by simp only [e3]; omega, by simp only [e3]; omega⟩
    rw [lim_m (by exact e1)]
    simp only [e3]
    exact e2.up (by omega) (Int.le_refl _)
  rw [if_neg c35] at ok ⊢
  by_cases cb : (c.toNat : Int) = 32 ∨ (c.toNat : Int) = 9 ∨ (c.toNat : Int) = 13
  · rw [if_pos cb] at ok ⊢
    obtain ⟨e1, e2, e3, e4⟩ := endP_inv h (by omega) ok
    refine ⟨.inl e1, ?_, by rw [e3]; omega, by rw [e3]; omega⟩
    rw [lim_m e1, e3]
    exact e2.up (by omega) (Int.le_refl _)
  rw [if_neg cb] at ok ⊢
  by_cases cs : (c.toNat : Int) = 123 ∨ (c.toNat : Int) = 125
  · rw [if_pos cs] at ok ⊢
    obtain ⟨e1, e2, e3, e4⟩ := endP_inv h (by omega) ok
    have hw := cut_one h0 hc
    have ht : TextOk (mk [c]) := by
      rcases cs with cs | cs
      · left; rw [show c = 123 from UInt8.toNat_inj.1 (by have : (123 : UInt8).toNat = 123 := rfl; omega)]
      · right; left; rw [show c = 125 from UInt8.toNat_inj.1 (by have : (125 : UInt8).toNat = 125 := rfl; omega)]
    have e5 : ∀ st1 : Rd, (endP s { st1 with from' := k } (k + 1)).1 = { st1 with l := st1.l ++ [(mk [c], k, st1.line)], some' := true, from' := -1 } := fun st1 => by
      unfold endP
      rw [if_neg (by simp only; omega)]
      simp only [hw]
    simp only [e5]
    refine ⟨.inl rfl, ?_, by simp only [e3]; omega, by simp only [e3]; omega⟩
    rw [lim_m rfl]
    simp only [e3]
    refine e2.push (w := (mk [c], k, st.line)) (b' := true) (.inr ⟨by rw [size_mk]; simp only [List.length_singleton]; omega, by rw [size_mk]; exact hw, ht⟩) h0 (Int.le_refl _) (by simp only; omega) rfl l1 (by rw [size_mk]; simp; omega) ?_
    simp only [nlF]
    rw [if_neg ht.ne]
  rw [if_neg cs] at ok ⊢
  have hp := plain_of hm c10 c35 cb cs
  rw [Bool.not_eq_true] at hn
  have hl := h.li
  by_cases hf : st.from' < 0
  · rw [if_pos hf]
    refine ⟨.inr ⟨h0, by simp only; omega, hn, ?_⟩, ?_, l1, by simp only; omega⟩
    · simp only
      rw [cut_one h0 hc, bs_mk]
      simpa using hp
    · unfold lim at hl ⊢
      rw [if_pos hf] at hl
      simp only
      rw [if_neg (by omega)]
      exact hl
  · rw [if_neg hf]
    rcases h.fr with e | ⟨e1, e2, e3, e4⟩
    · omega
    refine ⟨.inr ⟨e1, by simp only; omega, hn, ?_⟩, ?_, l1, by simp only; omega⟩
    · simp only
      rw [cut_succ e1 (by omega) hc]
      intro d hd
      rcases List.mem_append.1 hd with hd | hd
      · exact e4 d hd
      · obtain rfl : d = c := by simpa using hd
        exact hp
    · unfold lim at hl ⊢
      rw [if_neg hf] at *
      exact hl

theorem all_inv {s : ByteArray} : ∀ (l : List UInt8) (k : Int) (st : Rd) (v : List Wd), (bs s).drop k.toNat = l → 0 ≤ k → k + l.length = s.size → Inv s st k → allL s st k l = .inl v → LInv s v (s.size + 1) (s.size + 1) false
  | [], k, st, v, hd, h0, hk, h, e => by
    have lk := h.lk
    have l1 := h.l1
    unfold allL at e
    split at e
    · rename_i ok
      obtain ⟨e1, e2, e3, e4⟩ := endP_inv h (by simp at hk; omega) ok
      simp only [List.length_nil] at hk
      injection e with e
      subst e
      unfold stopP
      simp only
      by_cases hs : (endP s st k).1.some' = true
      · rw [if_pos hs]
        rw [hs] at e2
        exact (e2.push (w := (NL, k, (endP s st k).1.line)) (y := k + 1) (b' := false) (.inl ⟨rfl, by simp only; omega⟩) h0 (Int.le_refl _) (by simp only; omega) e3 l1 (by rw [size_mk]; simp; omega) (by simp [nlF])).up (by omega) (by omega)
      · rw [if_neg hs]
        rw [Bool.not_eq_true] at hs
        rw [hs] at e2
        exact e2.up (by omega) (by omega)
    · cases e
  | c :: l, k, st, v, hd, h0, hk, h, e => by
    have hc : (bs s)[k.toNat]? = some c := by have := congrArg (·[0]?) hd; simpa using this
    have hd' : (bs s).drop (k + 1).toNat = l := by rw [show (k + 1).toNat = k.toNat + 1 by omega, ← List.drop_drop, hd]; rfl
    unfold allL at e
    split at e
    · cases e
    · split at e
      · rename_i hm
        split at e
        · rename_i ok
          exact all_inv l (k + 1) _ v hd' (by omega) (by simp at hk; omega) (takeP_inv h h0 hc hm ok) e
        · cases e
      · cases e

theorem allP_inv {s : ByteArray} {v : List Wd} (e : allP s = .inl v) : LInv s v (s.size + 1) (s.size + 1) false := by
  refine all_inv (bs s) 0 rd0 v rfl (by decide) (by rw [bs_len]; omega) ⟨.inl rfl, ⟨fun w hw => by simp [rd0] at hw, by simp [rd0], rfl, by simp [rd0, tot, lim]⟩, by decide, by decide⟩ e

end Go.Ev.Tryd
