/- The law WordsAgain: the walk. -/
import Derived.Test.YtkikfnpanlcajaaDoorWd13
set_option linter.all false
namespace Go.Ev.Tryd
set_option maxRecDepth 10000
open Go.Proofs

theorem cat_word {β : Type} {pre w : ByteArray} (hp : pre.size ≤ 1000000) (hw : w.size ≤ 1000000) (f : ByteArray → Option β) : (catK (⟨#[32]⟩ : ByteArray) w fun s => catK pre s f) = f (mk (bs pre ++ 32 :: bs w)) := by
  have h1 : (⟨#[32]⟩ : ByteArray).size = 1 := rfl
  have h2 : ((⟨#[32]⟩ : ByteArray) ++ w).size = 1 + w.size := by rw [← bs_len, bs_append, List.length_append, bs_len, bs_len, h1]
  unfold catK
  rw [if_neg (by omega)]
  dsimp only
  rw [if_neg (by omega)]
  have : pre ++ ((⟨#[32]⟩ : ByteArray) ++ w) = mk (bs pre ++ 32 :: bs w) := bs_inj (by rw [bs_append, bs_append, bs_mk]; rfl)
  rw [this]

section
variable {s : ByteArray} {v : List Wd}

theorem Again_same {m : List Wd} {a0 : H} {pv pm : Option (Nat × Nat)} {cv cm : Cap} {n : Nat} (hn : 200 ≤ n) (hl : v.length < 100000)
    (rv : Row a0 3 pv v.length cv (v.flatMap encW)) (rm : Row a0 3 pm m.length cm (m.flatMap encW)) (hm : m.map (·.1) = v.map (·.1)) :
    ∀ (d i k : Nat) (h : H), i + d = v.length → d < k → Mod [] a0 h → Ret (outriderlaw17_WordsAgain_3_L3 n k pv v.length cv pm m.length cm (v.length : Nat) i h) True'
  | 0, i, k + 1, h, hi, _, _ => by
    rw [outriderlaw17_WordsAgain_3_L3_eq, cast_not_lt (by omega), cond_false]
    exact alive_true h hn
  | d + 1, i, k + 1, h, hi, hd, hmod => by
    have hlen : m.length = v.length := by have := congrArg List.length hm; simpa using this
    obtain ⟨w, hw⟩ : ∃ w, v[i]? = some w := ⟨_, List.getElem?_eq_getElem (by omega)⟩
    obtain ⟨x, hx⟩ : ∃ x, m[i]? = some x := ⟨_, List.getElem?_eq_getElem (by omega)⟩
    have hxw : x.1 = w.1 := by
      have := congrArg (·[i]?) hm
      simp only [List.getElem?_map, hw, hx, Option.map_some, Option.some.injEq] at this
      exact this
    rw [outriderlaw17_WordsAgain_3_L3_eq, cast_lt (by omega), cond_true, (rv.mod0 hmod).ix20 encW_len hw (by rfl), asStr_str, (rm.mod0 hmod).ix20 encW_len hx (by rfl), asStr_str, hxw]
    rw [show (!(w.1.toList == w.1.toList)) = false by simp, cond_false, wrap_succ (by omega)]
    exact Again_same hn hl rv rm hm d (i + 1) k h (by omega) (by omega) hmod

theorem Again_words {a0 : H} {pv : Option (Nat × Nat)} {cv : Cap} {n : Nat} (hn : 150000 ≤ n) (hs : s.size ≤ 20000) (hall : allP s = .inl v)
    (rv : Row a0 3 pv v.length cv (v.flatMap encW)) :
    ∀ (ts pre : List Wd) (m : Nat) (a7 a8 : Int) (h : H), v = pre ++ ts → ts.length < m → (∀ x ∈ ts, a7 < x.2.1 ∧ a8 ≤ x.2.2) → Mod [] a0 h →
      Ret (outriderlaw17_WordsAgain_3_L0 n m s pv v.length cv (mk (txt pre)) a7 a8 pv v.length cv (v.length : Nat) pre.length h) True'
  | [], pre, m + 1, a7, a8, h, hx, _, _, hmod => by
    have hi := allP_inv hall
    rw [List.append_nil] at hx
    subst hx
    rw [outriderlaw17_WordsAgain_3_L0_eq, cast_not_lt (Nat.le_refl _), cond_false]
    have hsz : ((mk (txt v)).size : Int) ≤ 2 * (s.size + 1) := by
      rw [size_mk, txt_tot]; exact hi.tt
    have hlv := hi.len
    refine (All_ret (s := mk (txt v)) (by omega) (by omega) h).bind ?_
    rintro ⟨p3, l3, c3, k3, e3⟩ h3 ⟨m3, g3⟩
    dsimp only
    obtain ⟨mm, em, hmm⟩ := again_words hall
    rw [em] at g3
    obtain ⟨he3, g3⟩ := g3
    dsimp only at he3 g3
    cases he3
    obtain rfl := g3.row.len encW_len (by decide)
    have hlen : mm.length = v.length := by have := congrArg List.length hmm; simpa using this
    rw [show ((0 : Int) != 0) = false by decide, cond_false, show (((mm.length : Nat) : Int) != ((v.length : Nat) : Int)) = false by simp; omega, outriderlaw17_WordsAgain_3_J2_eq, cond_false]
    exact Again_same (by omega) (by omega) (rv.mod0 (hmod.trans m3)) g3.row hmm v.length 0 n h3 (by omega) (by omega) (.refl _ _)
  | w :: ts, pre, m + 1, a7, a8, h, hx, hm, hlt, hmod => by
    have hi := allP_inv hall
    have hlv := hi.len
    have hpl : pre.length < v.length := by rw [hx]; simp
    have hw : v[pre.length]? = some w := by rw [hx]; simp
    have hok := hi.ok w (List.mem_of_getElem? hw)
    have h7 := hlt w (by simp)
    have hpw := hi.pw
    rw [hx, List.pairwise_append] at hpw
    have hnext := (List.pairwise_cons.1 hpw.2.1).1
    have htt := hi.tt
    rw [hx, tot_append] at htt
    simp only [tot] at htt
    have htl := tot_len ts
    have hsz : ((mk (txt pre)).size : Int) = tot pre := by rw [size_mk, txt_tot]
    have htp := tot_len pre
    rw [outriderlaw17_WordsAgain_3_L0_eq, cast_lt hpl, cond_true, (rv.mod0 hmod).ix encW_len (by decide) hw]
    obtain ⟨wt, wa, wl⟩ := w
    simp only at hok h7 hnext htt
    simp only [encW, lc_cons, l0_nil, asStr_str, asInt_int, newK_eq]
    rw [box_wr (n := 3) rfl rfl rfl]
    have mB : Mod [] h (h.new (.cells [.str wt, .int .i64 wa, .int .i64 wl] false)) := (Mod.refl _ _).new _
    have gB : (h.new (.cells [.str wt, .int .i64 wa, .int .i64 wl] false)).get h.next = some (.cells [.str wt, .int .i64 wa, .int .i64 wl] false) := get_new_self _ _
    generalize h.new (.cells [.str wt, .int .i64 wa, .int .i64 wl] false) = hB at *
    have j1 : Ret (outriderlaw17_WordsAgain_3_J1 n m s pv v.length cv (mk (txt pre)) (some (h.next, 0)) pv v.length cv (v.length : Nat) pre.length false hB) True' := by
      rw [outriderlaw17_WordsAgain_3_J1_eq, cond_false]
      simp only [nnK_some']
      rw [cellK_of gB (o := 0 + 1) rfl, asInt_int, cellK_of gB (o := 0 + 2) rfl, asInt_int, cellK_of gB (o := 0) rfl, asStr_str, cat_word (by omega) (by omega), wrap_succ (by omega)]
      rw [show mk (bs (mk (txt pre)) ++ 32 :: bs wt) = mk (txt (pre ++ [(wt, wa, wl)])) by rw [bs_mk, txt_append]; simp [txt], show pre.length + 1 = (pre ++ [(wt, wa, wl)]).length by simp]
      exact Again_words hn hs hall rv ts (pre ++ [(wt, wa, wl)]) m wa wl hB (by rw [hx]; simp) (by simp at hm; omega) (fun x hx => hnext x hx) (hmod.trans mB)
    rw [cellK_of gB (o := 1) rfl, asInt_int, decide_eq_false (show ¬ wa ≤ a7 by omega), cond_false, cellK_of gB (o := 2) rfl, asInt_int, decide_eq_false (show ¬ wl < a8 by omega), cond_false, cellK_of gB (o := 0) rfl, asStr_str]
    have hnl : (wt.toList == (⟨#[10]⟩ : ByteArray).toList) = decide (wt = NL) := str_eq _ _
    rw [hnl]
    by_cases hN : wt = NL
    · rw [decide_eq_true hN, cond_true, cellK_of gB (o := 1) rfl, asInt_int, show decide (wa > ((s.size : Nat) : Int)) = false by simp; omega, cond_false, cellK_of gB (o := 0) rfl, asStr_str, hnl, decide_eq_true hN, Bool.not_true, cond_false]
      exact j1
    · rw [decide_eq_false hN, cond_false, cellK_of gB (o := 0) rfl, asStr_str, hnl, decide_eq_false hN, Bool.not_false, cond_true, cellK_of gB (o := 1) rfl, asInt_int, cellK_of gB (o := 1) rfl, asInt_int, cellK_of gB (o := 0) rfl, asStr_str]
      rcases hok.1 with e | ⟨e1, e2, e3⟩
      · exact absurd e.1 hN
      simp only at e1 e2
      rw [wrap_i64 (by omega) (by omega), bnd_both (by omega) (by omega) (by omega), cellK_of gB (o := 0) rfl, asStr_str, extract_cut, e2]
      rw [show (!(wt.toList == wt.toList)) = false by simp]
      exact j1
end

theorem wordsAgain_true {s : ByteArray} (_ : s.size ≤ reachBytes) : ∃ n h', outriderlaw17_WordsAgain_3 n s (H0 []) = some (true, h') := by
  refine ⟨200000, Ret.true ?_⟩
  rw [outriderlaw17_WordsAgain_3_eq]
  generalize H0 [] = h
  by_cases hs : s.size > 20000
  · rw [show decide (((s.size : Nat) : Int) > 20000) = true by simp; omega, cond_true]
    exact alive_true h (by omega)
  rw [show decide (((s.size : Nat) : Int) > 20000) = false by simp; omega, cond_false]
  refine (All_ret (by omega) (by omega) h).bind ?_
  rintro ⟨p, l, c, k, e⟩ h1 ⟨m1, g1⟩
  dsimp only
  cases hA : allP s with
  | inr e =>
    rw [hA] at g1
    cases g1
    rw [show ((170 : Int) != 0) = true by decide, cond_true]
    refine (alive_ret h1 (by omega)).bind ?_
    rintro _ h2 ⟨rfl, m2⟩
    exact .pure rfl
  | inl v =>
    rw [hA] at g1
    obtain ⟨he1, g1⟩ := g1
    dsimp only at he1 g1
    cases he1
    obtain rfl := g1.row.len encW_len (by decide)
    have hi := allP_inv hA
    have hlv := hi.len
    rw [show ((0 : Int) != 0) = false by decide, cond_false]
    exact Again_words (by omega) (by omega) hA g1.row v [] 200000 (-1) 1 h1 rfl (by omega) (fun x hx => by have := hi.ok x hx; omega) (.refl _ _)

end Go.Ev.Tryd
