/- The law WordsLines: the walk. -/
import Derived.Test.YtkikfnpanlcajaaDoorWd11
set_option linter.all false
namespace Go.Ev.Tryd
set_option maxRecDepth 10000
open Go.Proofs

theorem tot_len : ∀ l : List Wd, (l.length : Int) ≤ tot l
  | [] => by simp [tot]
  | w :: l => by have := tot_len l; simp only [tot, List.length_cons]; omega
theorem LInv.len {s : ByteArray} {l : List Wd} {x line : Int} {b : Bool} (h : LInv s l x line b) : (l.length : Int) ≤ 2 * x := by
  have := tot_len l; have := h.tt; omega

theorem box_set {β : Type} {h : H} {cs : List AV} {o : Nat} {x : AV} (hl : o < cs.length) (hc : isCell x = true) (f : H → Option β) : wrK (h.new (.cells cs false)) h.next o 1 [x] f = f (h.new (.cells (cs.set o x) false)) := by
  rw [wrK_one (get_new_self _ _) hl hc, set_new]

theorem cat_two {β : Type} {a b : ByteArray} (ha : a.size ≤ 5000) (hb : b.size ≤ 5000) (f : ByteArray → Option β) : (catK a (⟨#[10]⟩ : ByteArray) fun s4 => catK s4 b f) = f (two a b) := by
  have h1 : (⟨#[10]⟩ : ByteArray).size = 1 := rfl
  have h2 : (a ++ (⟨#[10]⟩ : ByteArray)).size = a.size + 1 := by rw [← bs_len, bs_append, List.length_append, bs_len]; rfl
  unfold catK
  rw [if_neg (by omega)]
  dsimp only
  rw [if_neg (by omega)]
  have : a ++ (⟨#[10]⟩ : ByteArray) ++ b = two a b := bs_inj (by unfold two; rw [bs_append, bs_append, bs_mk, List.append_assoc]; rfl)
  rw [this]

section
variable {a : ByteArray} {v u : List Wd} {D L : Int}

theorem Lines_words {a0 : H} {pv pu pw : Option (Nat × Nat)} {cv cu cw : Cap} {n : Nat} (hn : 200 ≤ n)
    (rv : Row a0 3 pv v.length cv (v.flatMap encW)) (ru : Row a0 3 pu u.length cu (u.flatMap encW)) (rw' : Row a0 3 pw (v ++ u.map (sh D L)).length cw ((v ++ u.map (sh D L)).flatMap encW))
    (hD : D = a.size + 1) (ha : a.size ≤ 5000) (hL : 0 ≤ L ∧ L ≤ 10000) (hu : ∀ x ∈ u, 0 ≤ x.2.1 ∧ x.2.1 ≤ 10000 ∧ 0 ≤ x.2.2 ∧ x.2.2 ≤ 10000) (hl : (v ++ u.map (sh D L)).length < 100000) :
    ∀ (d i m : Nat) (h : H), i + d = (v ++ u.map (sh D L)).length → d < m → Mod [] a0 h →
      Ret (outriderlaw17_WordsLines_4_L4 n m a pv v.length cv pu u.length cu L pw (v ++ u.map (sh D L)).length cw ((v ++ u.map (sh D L)).length : Nat) i h) True'
  | 0, i, m + 1, h, hi, _, hm => by
    rw [outriderlaw17_WordsLines_4_L4_eq, cast_not_lt (by omega), cond_false]
    exact alive_true h hn
  | d + 1, i, m + 1, h, hi, hd, hm => by
    have hil : i < (v ++ u.map (sh D L)).length := by omega
    obtain ⟨w, hw⟩ : ∃ w, (v ++ u.map (sh D L))[i]? = some w := ⟨_, List.getElem?_eq_getElem hil⟩
    rw [outriderlaw17_WordsLines_4_L4_eq, cast_lt hil, cond_true, (rw'.mod0 hm).ix encW_len (by decide) hw]
    obtain ⟨wt, wa, wl⟩ := w
    simp only [encW, lc_cons, l0_nil, asStr_str, asInt_int, newK_eq]
    rw [box_wr (n := 3) rfl rfl rfl, box_wr (n := 3) rfl rfl rfl]
    generalize hA : h.new (.cells [.str wt, .int .i64 wa, .int .i64 wl] false) = hA'
    have mA : Mod [] h hA' := by rw [← hA]; exact (Mod.refl _ _).new _
    have gA : hA'.get h.next = some (.cells [.str wt, .int .i64 wa, .int .i64 wl] false) := by rw [← hA]; exact get_new_self _ _
    have lA : h.next < hA'.next := by rw [← hA]; simp
    -- the words' comparing
    have j5 : Ret (outriderlaw17_WordsLines_4_J5 n m a pv v.length cv pu u.length cu L (some (h.next, 0)) (some (hA'.next, 0)) pw (v ++ u.map (sh D L)).length cw ((v ++ u.map (sh D L)).length : Nat) i (hA'.new (.cells [.str wt, .int .i64 wa, .int .i64 wl] false))) True' := by
      have mB : Mod [] hA' (hA'.new (.cells [.str wt, .int .i64 wa, .int .i64 wl] false)) := (Mod.refl _ _).new _
      rw [outriderlaw17_WordsLines_4_J5_eq]
      simp only [nnK_some']
      rw [aggK_all (n := 3) ((mB.get _ lA (by simp)).trans gA) rfl]
      simp only [lc_cons, l0_nil, asStr_str, asInt_int]
      rw [aggK_all (n := 3) (get_new_self _ _) rfl]
      simp only [lc_cons, l0_nil, asStr_str, asInt_int]
      rw [show (!((wt.toList == wt.toList) && ((wa == wa) && ((wl == wl) && true)))) = false by simp, cond_false, wrap_succ (by omega)]
      exact Lines_words hn rv ru rw' hD ha hL hu hl d (i + 1) m _ (by omega) (by omega) (hm.trans (mA.trans mB))
    have mC : Mod [] a0 (hA'.new (.cells [.str .empty, .int .i64 0, .int .i64 0] false)) := hm.trans (mA.new _)
    by_cases hv : i < v.length
    · have hvi : v[i]? = some (wt, wa, wl) := by rwa [List.getElem?_append_left hv] at hw
      rw [cast_lt hv, cond_true, (rv.mod0 mC).ix encW_len (by decide) hvi]
      simp only [encW, lc_cons, l0_nil, asStr_str, asInt_int]
      rw [box_wr (n := 3) rfl rfl rfl]
      exact j5
    · rw [List.getElem?_append_right (by omega), List.getElem?_map] at hw
      obtain ⟨x, hx, hxw⟩ := Option.map_eq_some_iff.1 hw
      obtain ⟨xt, xa, xl⟩ := x
      have hb := hu _ (List.mem_of_getElem? hx)
      simp only [sh, Prod.mk.injEq] at hxw hb
      obtain ⟨rfl, rfl, rfl⟩ := hxw
      rw [cast_not_lt (by omega), cond_false, show IntKind.i64.wrap ((i : Int) - ((v.length : Nat) : Int)) = ((i - v.length : Nat) : Int) by rw [wrap_i64 (by omega) (by omega)]; omega, (ru.mod0 mC).ix encW_len (by decide) hx]
      simp only [encW, lc_cons, l0_nil, asStr_str, asInt_int]
      rw [box_wr (n := 3) rfl rfl rfl, cellK_of (get_new_self _ _) (o := 1) rfl, asInt_int, box_set (by simp) rfl, cellK_of (get_new_self _ _) (o := 2) rfl, asInt_int, box_set (by simp) rfl]
      rw [wrap_succ (by omega), wrap_i64 (x := xa + ((a.size + 1 : Nat) : Int)) (by omega) (by omega), wrap_i64 (x := xl + L) (by omega) (by omega)]
      rw [show xa + ((a.size + 1 : Nat) : Int) = xa + D by omega]
      exact j5

theorem Lines_count {pv pu pw : Option (Nat × Nat)} {cv cu cw : Cap} {lv lu lw n : Nat} (ha : a.size ≤ 5000) (e : Int) (h : H) {Q : Bool → H → Prop} {C : Int}
    (hQ : Ret (cond ((e : Int) != (0 : Int)) (outriderlaw17_WordsLines_4_J3 n a pv lv cv pu lu cu pw lw cw C true h) (outriderlaw17_WordsLines_4_J3 n a pv lv cv pu lu cu pw lw cw C (((Nat.cast lw) : Int) != (IntKind.i64.wrap ((Nat.cast lv) + (Nat.cast lu)))) h)) Q) :
    ∀ (l : List UInt8) (pos m : Nat) (acc : Int), (bs a).drop pos = l → pos + l.length = a.size → l.length < m → 0 ≤ acc → acc + l.length ≤ 100000 → acc + l.count 10 = C →
      Ret (outriderlaw17_WordsLines_4_L2 n m a pv lv cv pu lu cu pw lw cw e acc (a.size : Nat) pos h) Q
  | [], pos, m + 1, acc, hd, hp, hm, _, _, hC => by
    rw [outriderlaw17_WordsLines_4_L2_eq, cast_not_lt (by simp at hp; omega), cond_false]
    obtain rfl : acc = C := by simpa using hC
    exact hQ
  | c :: l, pos, m + 1, acc, hd, hp, hm, h0, h1, hC => by
    have hx : (bs a)[pos]? = some c := by have := congrArg (·[0]?) hd; simpa using this
    have hd' : (bs a).drop (pos + 1) = l := by rw [← List.drop_drop, hd]; rfl
    simp only [List.length_cons] at hp hm h1
    rw [outriderlaw17_WordsLines_4_L2_eq, cast_lt (by omega), cond_true, byteK_of hx]
    by_cases c10 : c = 10
    · subst c10
      rw [show ((((10 : UInt8).toNat : Nat) : Int) == 10) = true by decide, cond_true, wrap_i64 (by omega) (by omega), wrap_succ (by omega)]
      rw [List.count_cons_self] at hC
      exact Lines_count ha e h hQ l (pos + 1) m _ hd' (by omega) (by omega) (by omega) (by omega) (by omega)
    · rw [show (((c.toNat : Nat) : Int) == 10) = false by
        simp only [beq_eq_false_iff_ne, ne_eq]
        intro e
        exact c10 (UInt8.toNat_inj.1 (by have : (10 : UInt8).toNat = 10 := rfl; omega)), cond_false, wrap_succ (by omega)]
      rw [List.count_cons_of_ne c10] at hC
      exact Lines_count ha e h hQ l (pos + 1) m _ hd' (by omega) (by omega) (by omega) (by omega) (by omega)
end

theorem wordsLines_true {a b : ByteArray} (_ : a.size ≤ reachBytes) (_ : b.size ≤ reachBytes) : ∃ n h', outriderlaw17_WordsLines_4 n a b (H0 []) = some (true, h') := by
  refine ⟨200000, Ret.true ?_⟩
  rw [outriderlaw17_WordsLines_4_eq]
  generalize H0 [] = h
  have al : Ret (outriderlaw17_WordsLines_4_J0 200000 a b true h) True' := by
    rw [outriderlaw17_WordsLines_4_J0_eq, cond_true]
    exact alive_true h (by omega)
  by_cases ha : a.size > 5000
  · rw [show decide (((a.size : Nat) : Int) > 5000) = true by simp; omega, cond_true]; exact al
  rw [show decide (((a.size : Nat) : Int) > 5000) = false by simp; omega, cond_false]
  by_cases hb : b.size > 5000
  · rw [show decide (((b.size : Nat) : Int) > 5000) = true by simp; omega]; exact al
  rw [show decide (((b.size : Nat) : Int) > 5000) = false by simp; omega, outriderlaw17_WordsLines_4_J0_eq, cond_false]
  have htw : (two a b).size = a.size + 1 + b.size := by unfold two; rw [size_mk]; simp [bs_len]; omega
  have hw := two_words a b
  refine (All_ret (by omega) (by omega) h).bind ?_
  rintro ⟨p1, l1, c1, k1, e1⟩ h1 ⟨m1, g1⟩
  dsimp only
  refine (All_ret (by omega) (by omega) h1).bind ?_
  rintro ⟨p2, l2, c2, k2, e2⟩ h2 ⟨m2, g2⟩
  dsimp only
  rw [cat_two (by omega) (by omega)]
  refine (All_ret (s := two a b) (by omega) (by omega) h2).bind ?_
  rintro ⟨p3, l3, c3, k3, e3⟩ h3 ⟨m3, g3⟩
  dsimp only
  have bad : (∃ e, allP a = .inr e) ∨ (∃ e, allP b = .inr e) → Ret (outriderlaw17_WordsLines_4_J1 200000 a p1 l1 c1 p2 l2 c2 p3 l3 c3 e3 true h3) True' := by
    intro hh
    obtain ⟨e, he⟩ := hw.2 hh
    rw [he] at g3
    cases g3
    rw [outriderlaw17_WordsLines_4_J1_eq, cond_true]
    refine (alive_ret h3 (by omega)).bind ?_
    rintro _ h4 ⟨rfl, m4⟩
    exact .pure rfl
  cases hA : allP a with
  | inr e =>
    rw [hA] at g1
    cases g1
    rw [show ((170 : Int) != 0) = true by decide, cond_true]
    exact bad (.inl ⟨_, hA⟩)
  | inl v =>
    rw [hA] at g1
    obtain ⟨he1, g1⟩ := g1
    dsimp only at he1 g1
    cases he1
    rw [show ((0 : Int) != 0) = false by decide, cond_false]
    cases hB : allP b with
    | inr e =>
      rw [hB] at g2
      cases g2
      rw [show ((170 : Int) != 0) = true by decide]
      exact bad (.inr ⟨_, hB⟩)
    | inl u =>
      rw [hB] at g2
      obtain ⟨he2, g2⟩ := g2
      dsimp only at he2 g2
      cases he2
      rw [show ((0 : Int) != 0) = false by decide, outriderlaw17_WordsLines_4_J1_eq, cond_false]
      rw [hw.1 v u hA hB] at g3
      obtain ⟨he3, g3⟩ := g3
      dsimp only at he3 g3
      cases he3
      have ia := allP_inv hA
      have ib := allP_inv hB
      have la := ia.len
      have lb := ib.len
      obtain rfl := g1.row.len encW_len (by decide)
      obtain rfl := g2.row.len encW_len (by decide)
      obtain rfl := g3.row.len encW_len (by decide)
      have hcnt : (bs a).count 10 ≤ a.size := by rw [← bs_len]; exact List.count_le_length
      refine Lines_count (a := a) (C := linesIn a) (by omega) 0 h3 ?_ (bs a) 0 200000 1 rfl (by rw [bs_len]; omega) (by rw [bs_len]; omega) (by omega) (by rw [bs_len]; omega) rfl
      rw [show ((0 : Int) != 0) = false by decide, cond_false]
      have hlen : (v ++ u.map (sh (a.size + 1) (linesIn a))).length = v.length + u.length := by simp
      rw [show ((((v ++ u.map (sh (a.size + 1) (linesIn a))).length : Nat) : Int) != IntKind.i64.wrap (((v.length : Nat) : Int) + ((u.length : Nat) : Int))) = false by
        rw [hlen, wrap_i64 (by omega) (by omega)]; simp, outriderlaw17_WordsLines_4_J3_eq, cond_false]
      refine Lines_words (a := a) (by omega) (g1.row.mod0 (m2.trans m3)) (g2.row.mod0 m3) g3.row rfl (by omega) (by unfold linesIn; omega) (fun x hx => ?_) (by rw [hlen]; omega) (v ++ u.map (sh (a.size + 1) (linesIn a))).length 0 200000 h3 (by omega) (by rw [hlen]; omega) (.refl _ _)
      have := ib.ok x hx
      omega

end Go.Ev.Tryd
