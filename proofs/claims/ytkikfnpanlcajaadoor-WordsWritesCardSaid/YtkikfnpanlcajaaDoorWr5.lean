/- What the functions of chapter 17 compute, in plain lists: All; the law's alive; the law WordsNumbers. -/
import Derived.Test.YtkikfnpanlcajaaDoorWr4
set_option linter.all false
namespace Go.Ev.Tryd
set_option maxRecDepth 10000
open Go.Proofs

/-! ### the reader -/

abbrev Wd := ByteArray × Int × Int
def encW (w : Wd) : List AV := [.str w.1, .int .i64 w.2.1, .int .i64 w.2.2]
theorem encW_len : ∀ x, (encW x).length = 3 := fun _ => rfl

structure Rd where
  l : List Wd
  line : Int
  from' : Int
  some' : Bool
  note : Bool

structure RdRep (a h : H) (b : Nat) (s : ByteArray) (st : Rd) : Prop where
  lb : b < a.next
  m : Mod [b] a h
  obj : ∃ p n c, h.get b = some (.cells [.str s, .slice p n c, .int .i64 st.line, .int .i64 st.from', .bool st.some', .bool st.note] false) ∧ Grow a h 3 p n c (st.l.flatMap encW)

def cut (s : ByteArray) (x y : Int) : ByteArray := mk (((bs s).drop x.toNat).take (y.toNat - x.toNat))
def endP (s : ByteArray) (st : Rd) (k : Int) : Rd × Bool :=
  if st.from' < 0 then (st, true) else ({ st with l := st.l ++ [(cut s st.from' k, st.from', st.line)], some' := true, from' := -1 }, decide ((cut s st.from' k).size ≤ 60))
def stopP (st : Rd) (k : Int) : Rd := { st with l := if st.some' = true then st.l ++ [(mk [10], k, st.line)] else st.l, some' := false, note := false, line := st.line + 1 }
def takeP (s : ByteArray) (st : Rd) (c : Int) (k : Int) : Rd × Bool :=
  if c = 10 then (stopP (endP s st k).1 k, (endP s st k).2)
  else if st.note = true then (st, true)
  else if c = 35 then ({ (endP s st k).1 with note := true }, (endP s st k).2)
  else if c = 32 ∨ c = 9 ∨ c = 13 then endP s st k
  else if c = 123 ∨ c = 125 then ((endP s { (endP s st k).1 with from' := k } (k + 1)).1, (endP s st k).2)
  else if st.from' < 0 then ({ st with from' := k }, true)
  else (st, true)
def mayP (c : Int) : Bool := decide (c = 9) || decide (c = 10) || decide (c = 13) || (decide (32 ≤ c) && decide (c ≤ 126))

theorem extract_cut {s : ByteArray} {x y : Int} : s.extract x.toNat y.toNat = cut s x y := bs_inj (by rw [bs_extract]; unfold cut; rw [bs_mk])

theorem push_word {a h : H} {b : Nat} {s : ByteArray} {line from' : Int} {some' note : Bool} {p : Option (Nat × Nat)} {nn : Nat} {c : Cap} {l : List Wd} (lb : b < a.next) (m : Mod [b] a h) (hg : h.get b = some (.cells [.str s, .slice p nn c, .int .i64 line, .int .i64 from', .bool some', .bool note] false)) (g : Grow a h 3 p nn c (l.flatMap encW)) (hl : l.length < 1000000) (w : Wd)
    {α : Type} {f : Option (Nat × Nat) → Nat → Cap → H → Option (α × H)} {Q : α → H → Prop}
    (k : ∀ p' n' c' h', Mod [b] a h' → Mod (own p) h h' → h'.get b = some (.cells [.str s, .slice p nn c, .int .i64 line, .int .i64 from', .bool some', .bool note] false) → Grow a h' 3 p' n' c' ((l ++ [w]).flatMap encW) → Ret (f p' n' c' h') Q) :
    Ret (appK 3 32 p nn c (evSrc 3 (.slice (some (h.next, 0)) 1 (.known 1)) (h.new (.cells (encW w) false))) (h.new (.cells (encW w) false)) f) Q := by
  have hlen := g.row.len encW_len (by decide)
  refine g.push m.next rfl rfl (by decide) (by omega) (by omega) fun p' c' h' g' m' => ?_
  refine k p' _ c' h' (m.push g m') m' ((m'.get _ (m.lt lb) fun hi => ?_).trans hg) (by rw [List.flatMap_append]; simpa using g')
  have := (g.own_ge b hi).1; omega

theorem end_ret {a h : H} {b : Nat} {s : ByteArray} {st : Rd} (r : RdRep a h b s st) {k : Int} (h1 : -1 ≤ st.from') (h2 : st.from' ≤ k) (h3 : k ≤ s.size) (h4 : st.l.length < 1000000) (n : Nat) :
    Ret (ca (n + 1) i_words_reader_end [.ptr (some (b, 0)), .int .i64 k] h) fun x h' => x = .bool (endP s st k).2 ∧ RdRep a h' b s (endP s st k).1 := by
  obtain ⟨lb, hm, p, nn, c, hg, g⟩ := r
  rw [words_reader_end_eq]
  simp only [nnK_some', Nat.zero_add]
  rw [cellK_of hg (o := 3) rfl, asInt_int]
  unfold endP
  by_cases h0 : st.from' < 0
  · rw [decide_eq_true h0, cond_true, if_pos h0]
    exact .pure ⟨rfl, lb, hm, p, nn, c, hg, g⟩
  · rw [decide_eq_false h0, cond_false, if_neg h0, cellK_of hg (o := 0) rfl, asStr_str, cellK_of hg (o := 3) rfl, asInt_int, bnd_both (by omega) h2 h3, cellK_of hg (o := 3) rfl, asInt_int, cellK_of hg (o := 2) rfl, asInt_int, extract_cut, newK_eq, box_wr (n := 3) rfl rfl rfl]
    have m1 : Mod [] h (h.new (.cells [.str (cut s st.from' k), .int .i64 st.from', .int .i64 st.line] false)) := (Mod.refl _ _).new _
    have gx : (h.new (.cells [.str (cut s st.from' k), .int .i64 st.from', .int .i64 st.line] false)).get h.next = some (.cells [.str (cut s st.from' k), .int .i64 st.from', .int .i64 st.line] false) := get_new_self _ _
    have lx : h.next < (h.new (.cells [.str (cut s st.from' k), .int .i64 st.from', .int .i64 st.line] false)).next := by simp
    have hbn := hm.lt lb
    have hg1 := (m1.get _ hbn (by simp)).trans hg
    have g1 := g.mod0 m1
    have hm1 : Mod [b] a _ := hm.trans m1.of_nil
    have hno : h.next ∉ own p := fun hi => by have := (g.own_ge _ hi).2; omega
    generalize h.new (.cells [.str (cut s st.from' k), .int .i64 st.from', .int .i64 st.line] false) = h5 at *
    rw [cellK_of hg1 (o := 1) rfl, asSlice_slice, aggK_all (n := 3) gx rfl]
    simp only [lS_of, lI_of, l0_nil, newK_eq]
    refine push_word lb hm1 hg1 g1 h4 (cut s st.from' k, st.from', st.line) fun p' n' c' h' hm' m' hg' g' => ?_
    have gx' := (m'.get _ lx hno).trans gx
    have hb' : b ∉ own p' := fun hi => by have := (g'.own_ge b hi).1; omega
    rw [wrK_one hg' (by simp) rfl, wrK_one (get_set_self _ _ _) (by simp) rfl, wrK_one (get_set_self _ _ _) (by simp) rfl]
    simp only [List.set_cons_succ, List.set_cons_zero, set_set]
    rw [cellK_of ((get_set_ne (by omega)).trans gx') (o := 0) rfl, asStr_str]
    have m2 : Mod [b] h' (h'.set b (.cells [.str s, .slice p' n' c', .int .i64 st.line, .int .i64 (-1), .bool true, .bool st.note] false)) := (Mod.refl _ _).set (.inr (by simp)) _
    refine .pure ⟨?_, lb, hm'.trans m2, p', n', c', get_set_self _ _ _, g'.mod m2 fun i hi => by simp; exact fun e => hb' (e ▸ hi)⟩
    congr 1
    rw [decide_eq_decide]
    omega

theorem stop_ret {a h : H} {b : Nat} {s : ByteArray} {st : Rd} (r : RdRep a h b s st) {k : Int} (h4 : st.l.length < 1000000) (h5 : 0 ≤ st.line) (h6 : st.line < 1000000000) (n : Nat) :
    Ret (ca (n + 1) i_words_reader_stop [.ptr (some (b, 0)), .int .i64 k] h) fun r h' => r = .tup [] ∧ RdRep a h' b s (stopP st k) := by
  obtain ⟨lb, hm, p, nn, c, hg, g⟩ := r
  have fin : ∀ (h' : H) (p' : Option (Nat × Nat)) (n' : Nat) (c' : Cap) (l : List Wd) (sm : Bool), Mod [b] a h' → h'.get b = some (.cells [.str s, .slice p' n' c', .int .i64 st.line, .int .i64 st.from', .bool sm, .bool st.note] false) → Grow a h' 3 p' n' c' (l.flatMap encW) →
      Ret (words_reader_stop_J0 n (some (b, 0)) h') fun r h' => r = .tup [] ∧ RdRep a h' b s { st with l := l, some' := false, note := false, line := st.line + 1 } := by
    intro h' p' n' c' l sm hm' hg' g'
    have hb' : b ∉ own p' := fun hi => by have := (g'.own_ge b hi).1; omega
    rw [words_reader_stop_J0_eq]
    simp only [nnK_some', Nat.zero_add]
    rw [wrK_one hg' (by simp) rfl, wrK_one (get_set_self _ _ _) (by simp) rfl]
    simp only [List.set_cons_succ, List.set_cons_zero, set_set]
    rw [cellK_of (get_set_self _ _ _) (o := 2) rfl, asInt_int, wrK_one (get_set_self _ _ _) (by simp) rfl, wrap_i64 (by omega) (by omega)]
    simp only [List.set_cons_succ, List.set_cons_zero, set_set]
    have m2 : Mod [b] h' (h'.set b (.cells [.str s, .slice p' n' c', .int .i64 (st.line + 1), .int .i64 st.from', .bool false, .bool false] false)) := (Mod.refl _ _).set (.inr (by simp)) _
    exact .pure ⟨rfl, lb, hm'.trans m2, p', n', c', get_set_self _ _ _, g'.mod m2 fun i hi => by simp; exact fun e => hb' (e ▸ hi)⟩
  rw [words_reader_stop_eq]
  simp only [nnK_some', Nat.zero_add]
  rw [cellK_of hg (o := 4) rfl, asBool_bool]
  unfold stopP
  cases hs : st.some' with
  | false =>
    rw [cond_false]
    rw [hs] at hg
    simpa using fin h p nn c st.l false hm hg g
  | true =>
    rw [cond_true, cellK_of hg (o := 1) rfl, asSlice_slice, cellK_of hg (o := 2) rfl, asInt_int, newK_eq]
    refine push_word lb hm hg g h4 (mk [10], k, st.line) fun p' n' c' h' hm' m' hg' g' => ?_
    have hb' : b ∉ own p' := fun hi => by have := (g'.own_ge b hi).1; omega
    rw [wrK_one hg' (by simp) rfl]
    simp only [List.set_cons_succ, List.set_cons_zero]
    have m2 : Mod [b] h' (h'.set b (.cells [.str s, .slice p' n' c', .int .i64 st.line, .int .i64 st.from', .bool st.some', .bool st.note] false)) := (Mod.refl _ _).set (.inr (by simp)) _
    simpa using fin _ p' n' c' (st.l ++ [(mk [10], k, st.line)]) st.some' (hm'.trans m2) (get_set_self _ _ _) (g'.mod m2 fun i hi => by simp; exact fun e => hb' (e ▸ hi))

theorem RdRep.from {a h : H} {b : Nat} {s : ByteArray} {st : Rd} (r : RdRep a h b s st) (k : Int) {β : Type} (f : H → Option β) :
    ∃ h', wrK h b 3 1 [.int .i64 k] f = f h' ∧ RdRep a h' b s { st with from' := k } := by
  obtain ⟨lb, hm, p, nn, c, hg, g⟩ := r
  refine ⟨_, wrK_one hg (by simp) rfl f, ?_⟩
  simp only [List.set_cons_succ, List.set_cons_zero]
  have hb' : b ∉ own p := fun hi => by have := (g.own_ge b hi).1; omega
  have m2 : Mod [b] h (h.set b (.cells [.str s, .slice p nn c, .int .i64 st.line, .int .i64 k, .bool st.some', .bool st.note] false)) := (Mod.refl _ _).set (.inr (by simp)) _
  exact ⟨lb, hm.trans m2, p, nn, c, get_set_self _ _ _, g.mod m2 fun i hi => by simp; exact fun e => hb' (e ▸ hi)⟩
theorem RdRep.setNote {a h : H} {b : Nat} {s : ByteArray} {st : Rd} (r : RdRep a h b s st) (k : Bool) {β : Type} (f : H → Option β) :
    ∃ h', wrK h b 5 1 [.bool k] f = f h' ∧ RdRep a h' b s { st with note := k } := by
  obtain ⟨lb, hm, p, nn, c, hg, g⟩ := r
  refine ⟨_, wrK_one hg (by simp) rfl f, ?_⟩
  simp only [List.set_cons_succ, List.set_cons_zero]
  have hb' : b ∉ own p := fun hi => by have := (g.own_ge b hi).1; omega
  have m2 : Mod [b] h (h.set b (.cells [.str s, .slice p nn c, .int .i64 st.line, .int .i64 st.from', .bool st.some', .bool k] false)) := (Mod.refl _ _).set (.inr (by simp)) _
  exact ⟨lb, hm.trans m2, p, nn, c, get_set_self _ _ _, g.mod m2 fun i hi => by simp; exact fun e => hb' (e ▸ hi)⟩

end Go.Ev.Tryd
