/- What the functions of chapter 17 compute, in plain lists: Address, Card, CardText, All; the law's alive. -/
import Derived.Test.YtkikfnpanlcajaaDoorWr3
set_option linter.all false
namespace Go.Ev.Tryd
set_option maxRecDepth 10000
open Go.Proofs

/-! ### Address, Card -/

def GrpO (a h' : H) (q : Option (Nat × Nat)) (l : Nat) (d : Cap) (ok : Bool) : Option (List Int) → Prop
  | none => ok = false
  | some x => ok = true ∧ Grow a h' 1 q l d (u8s x)
theorem GrpOk.open {a h' : H} {r : AV} {o : Option (List Int)} (g : GrpOk a h' r o) : ∃ q l d ok, r = .tup [.slice q l d, .bool ok] ∧ GrpO a h' q l d ok o := by
  cases o with
  | none => obtain ⟨q, l, d, e⟩ := g; exact ⟨q, l, d, _, e, rfl⟩
  | some x => obtain ⟨q, l, d, e, g⟩ := g; exact ⟨q, l, d, _, e, rfl, g⟩
def enSB (r : ByteArray × Bool) : AV := .tup [.str r.1, .bool r.2]
def enRB (r : List AV × Bool) : AV := .tup [.agg r.1, .bool r.2]

def sixP (s : ByteArray) : ByteArray × Bool := match gout (hexR 1 4) 2 (partsB 58 s) with | some y => if y.length = 16 then (strOfNums y, true) else (⟨#[]⟩, false) | none => (⟨#[]⟩, false)
def adrP (s : ByteArray) : ByteArray × Bool := match gout rd10 1 (partsB 46 s) with | some x => if x.length = 4 then (strOfNums x, true) else sixP s | none => sixP s

theorem Address_ret {s : ByteArray} (hs : s.size < 90000) {n : Nat} (hn : s.size + 61 ≤ n) (h : H) : Ret (ca n i_words_Address [.str s] h) fun r h' => Mod [] h h' ∧ r = enSB (adrP s) := by
  obtain ⟨n, rfl⟩ : ∃ m, n = m + 1 := ⟨n - 1, by omega⟩
  rw [words_Address_eq]
  refine (groups10 hs 46 (by omega) h).bind ?_
  rintro _ h1 ⟨m1, g1⟩
  replace g1 := g1.open
  obtain ⟨p, l, c, ok, rfl, g1⟩ := g1
  simp only [asTup_tup, lL_of, lB_of, l0_nil]
  have six : Ret (words_Address_J0 n s p l c false h1) fun r h' => Mod [] h h' ∧ r = enSB (sixP s) := by
    rw [words_Address_J0_eq, cond_false]
    refine (groups16 hs 58 (by omega) h1).bind ?_
    rintro _ h2 ⟨m2, g2⟩
    replace g2 := g2.open
    obtain ⟨p2, l2, c2, ok2, rfl, g2⟩ := g2
    simp only [asTup_tup, lL_of, lB_of, l0_nil]
    unfold sixP
    cases hg : gout (hexR 1 4) 2 (partsB 58 s) with
    | none =>
      rw [hg] at g2
      obtain rfl : ok2 = false := g2
      rw [cond_false, words_Address_J1_eq, cond_false]
      exact .pure ⟨m1.trans m2, rfl⟩
    | some y =>
      rw [hg] at g2
      obtain ⟨h3, g3⟩ := g2
      skip
      subst h3
      obtain rfl := g3.row.len1
      rw [cond_true, words_Address_J1_eq]
      by_cases h16 : y.length = 16
      · rw [h16, show ((Nat.cast 16 : Int) == 16) = true by decide, cond_true, bsK_of (by rw [h16] at g3; exact g3.row.sl)]
        exact .pure ⟨m1.trans m2, by simp [enSB, h16]⟩
      · rw [show (((y.length : Nat) : Int) == 16) = false by simp; omega, cond_false]
        exact .pure ⟨m1.trans m2, by simp [enSB, h16]⟩
  unfold adrP
  cases hg : gout rd10 1 (partsB 46 s) with
  | none =>
    rw [hg] at g1
    obtain rfl : ok = false := g1
    rw [cond_false]
    exact six
  | some x =>
    rw [hg] at g1
    obtain ⟨h3, g3⟩ := g1
    skip
    subst h3
    obtain rfl := g3.row.len1
    rw [cond_true]
    by_cases h4 : x.length = 4
    · rw [h4, show ((Nat.cast 4 : Int) == 4) = true by decide, words_Address_J0_eq, cond_true, bsK_of (by rw [h4] at g3; exact g3.row.sl)]
      exact .pure ⟨m1, by simp [enSB, h4]⟩
    · rw [show (((x.length : Nat) : Int) == 4) = false by simp; omega]
      simp only [h4, if_false]
      exact six

def cardP (s : ByteArray) : List Int × Bool := match gout (hexR 2 2) 1 (partsB 58 s) with | some x => if x.length = 6 then (x, true) else ([0, 0, 0, 0, 0, 0], false) | none => ([0, 0, 0, 0, 0, 0], false)

theorem u8s_cell (l : List Int) : (u8s l).all isCell = true := by simp [u8s, isCell]

theorem Card_ret {s : ByteArray} (hs : s.size < 90000) {n : Nat} (hn : s.size + 61 ≤ n) (h : H) : Ret (ca n i_words_Card [.str s] h) fun r h' => Mod [] h h' ∧ r = enRB (u8s (cardP s).1, (cardP s).2) := by
  obtain ⟨n, rfl⟩ : ∃ m, n = m + 1 := ⟨n - 1, by omega⟩
  rw [words_Card_eq]
  simp only [newK_eq]
  have m0 : Mod [] h (h.new (.cells (u8s [0, 0, 0, 0, 0, 0]) false)) := (Mod.refl _ _).new _
  have g0 : (h.new (.cells (u8s [0, 0, 0, 0, 0, 0]) false)).get h.next = some (.cells (u8s [0, 0, 0, 0, 0, 0]) false) := get_new_self _ _
  have l0 : h.next < (h.new (.cells (u8s [0, 0, 0, 0, 0, 0]) false)).next := by simp
  change Ret (Option.bind (ca n i_words_groups [.str s, .str (mk [58]), .int .i64 1, .func i_words_Card_1 [] []] (h.new (.cells (u8s [0, 0, 0, 0, 0, 0]) false))) _) _
  generalize h.new (.cells (u8s [0, 0, 0, 0, 0, 0]) false) = h0 at *
  refine (groups2 hs 58 (by omega) h0).bind ?_
  rintro _ h1 ⟨m1, g1⟩
  replace g1 := g1.open
  obtain ⟨p, l, c, ok, rfl, g1⟩ := g1
  simp only [asTup_tup, lL_of, lB_of, l0_nil]
  have gb := (m1.get _ l0 (by simp)).trans g0
  have bad : Ret (words_Card_J0 n (some (h.next, 0)) p l c true h1) fun r h' => Mod [] h h' ∧ r = enRB (u8s [0, 0, 0, 0, 0, 0], false) := by
    rw [words_Card_J0_eq, cond_true]
    simp only [nnK_some']
    rw [wrK_of (n := 6) gb rfl (by simp) rfl, spl_all _ _ (by simp), aggK_all (n := 6) (get_set_self _ _ _) rfl]
    exact .pure ⟨(m0.trans m1).set (.inl (Nat.le_refl _)) _, rfl⟩
  unfold cardP
  cases hg : gout (hexR 2 2) 1 (partsB 58 s) with
  | none =>
    rw [hg] at g1
    obtain rfl : ok = false := g1
    rw [Bool.not_false, cond_true]
    exact bad
  | some x =>
    rw [hg] at g1
    obtain ⟨h3, g3⟩ := g1
    skip
    subst h3
    obtain rfl := g3.row.len1
    rw [Bool.not_true, cond_false]
    by_cases h6 : x.length = 6
    · rw [h6, show ((Nat.cast 6 : Int) != 6) = false by decide, words_Card_J0_eq, cond_false, if_pos ⟨by omega, by omega⟩]
      rw [h6] at g3
      rcases g3.look with ⟨_, h0', _⟩ | ⟨b, rfl, hb1, hb2, hb3, hb4, hb5⟩
      · cases h0'
      · simp only [nnK_some']
        rw [aggK_all (n := 6) hb3 (by simpa using h6), wrK_of (n := 6) gb (by simpa using h6) (by simp) (u8s_cell x), spl_all _ _ (by simpa using h6), aggK_all (n := 6) (get_set_self _ _ _) (by simpa using h6)]
        exact .pure ⟨(m0.trans m1).set (.inl (Nat.le_refl _)) _, by simp [enRB, h6]⟩
    · rw [show (((x.length : Nat) : Int) != 6) = true by simp; omega]
      simp only [h6, if_false]
      exact bad

/-! ### CardText -/

abbrev HEX : ByteArray := s_68c4f033
def hx2 (x : Int) : ByteArray := HEX.extract (x / 16).toNat (x / 16 + 1).toNat ++ HEX.extract (x % 16).toNat (x % 16 + 1).toNat
theorem nibbles {x : Int} (h0 : 0 ≤ x) (h1 : x < 256) : ishr .u8 x 4 = x / 16 ∧ iand .u8 x 15 = x % 16 := by
  have : ∀ k : Fin 256, ishr .u8 (k.val : Int) 4 = (k.val : Int) / 16 ∧ iand .u8 (k.val : Int) 15 = (k.val : Int) % 16 := by decide +kernel
  obtain ⟨m, rfl⟩ := Int.eq_ofNat_of_zero_le h0
  exact this ⟨m, by omega⟩

theorem size_extract_le (s : ByteArray) (a b : Nat) : (s.extract a b).size ≤ s.size := by
  rw [← bs_len, bs_extract, ← bs_len]; simp; omega

theorem CardText_loop {a : H} {m : List Int} (hm6 : m.length = 6) (hb : ∀ x ∈ m, 0 ≤ x ∧ x < 256) (n : Nat) (hn1 : 1 ≤ n) : ∀ (ts pre : List Int) (k : Nat) (h : H) (p : Option (Nat × Nat)) (c : Cap), m = pre ++ ts → ts.length < k → Mod [] a h → Grow a h 1 p pre.length c ((pre.map hx2).map AV.str) →
    Ret (words_CardText_L0 n k p pre.length c (u8s m) pre.length h) fun r h' => Mod [] a h' ∧ r = .str (joinS (m.map hx2) (mk [58]))
  | [], pre, k + 1, h, p, c, hx, _, hm, g => by
    have : pre.length = 6 := by rw [← hm6, hx]; simp
    rw [words_CardText_L0_eq, show decide (((pre.length : Nat) : Int) < 6) = false by simp; omega, cond_false]
    obtain ⟨n, rfl⟩ : ∃ k, n = k + 1 := ⟨n - 1, by omega⟩
    rw [strings_Join_eq, strings_Join_32_eq]
    rw [List.append_nil] at hx
    subst hx
    change Ret (Option.bind (Option.bind (joinF p m.length c (mk [58]) h) _) _) _
    have hlen : (Lib.join ((m.map hx2).map (·.data.toList)) (mk [58]).data.toList).length ≤ 140737488355328 := by
      have h1 : ∀ l : List Int, l.length ≤ 6 → ((l.map hx2).map (·.data.toList)).flatten.length ≤ 32 * l.length := by
        intro l
        induction l with
        | nil => simp
        | cons x l ih =>
          intro hl
          have h2 : (hx2 x).data.toList.length ≤ 32 := by
            show (bs (hx2 x)).length ≤ 32
            unfold hx2
            rw [bs_append, List.length_append, bs_len, bs_len]
            have h3 := size_extract_le HEX (x / 16).toNat (x / 16 + 1).toNat
            have h4 := size_extract_le HEX (x % 16).toNat (x % 16 + 1).toNat
            have h5 : HEX.size = 16 := rfl
            omega
          have := ih (by simp at hl; omega)
          simp only [List.map_cons, List.flatten_cons, List.length_append, List.length_cons]
          omega
      have h2 : ∀ l : List (List UInt8), (Lib.join l [58]).length ≤ l.flatten.length + l.length := by
        intro l
        unfold Lib.join
        induction l with
        | nil => simp
        | cons x l ih =>
          cases l with
          | nil => simp
          | cons y l =>
            rw [List.intercalate_cons_cons]
            simp only [List.length_append, List.flatten_cons, List.length_cons, List.length_nil] at ih ⊢
            omega
      have h3 := h1 m (by omega)
      have h4 := h2 ((m.map hx2).map (·.data.toList))
      have h5 : (mk [58]).data.toList = [58] := rfl
      rw [h5]
      simp only [List.length_map] at h4
      omega
    rw [joinF_of g.row (by simp; omega) hlen, Option.bind_some, Option.bind_some]
    simp only [asStr_str]
    exact .pure ⟨hm, rfl⟩
  | t :: ts, pre, k + 1, h, p, c, hx, hl, hm, g => by
    have hpl : pre.length < 6 := by rw [← hm6, hx]; simp
    have ht := hb t (by rw [hx]; simp)
    have hn := nibbles ht.1 ht.2
    rw [words_CardText_L0_eq, show decide (((pre.length : Nat) : Int) < 6) = true by simp; omega, cond_true, if_pos ⟨by omega, by omega⟩, Nat.zero_add, atK_of (v := .int .u8 t) (by rw [List.getElem?_map, hx]; simp), asInt_int, hn.1, hn.2]
    rw [wrap_u8 (x := t / 16 + 1) (by omega) (by omega), wrap_u8 (x := t % 16 + 1) (by omega) (by omega)]
    rw [bnd_both (s := HEX) (by omega) (by omega) (by show t / 16 + 1 ≤ 16; omega), bnd_both (s := HEX) (by omega) (by omega) (by show t % 16 + 1 ≤ 16; omega)]
    have hcat : ∀ f : ByteArray → R, catK (HEX.extract (t / 16).toNat (t / 16 + 1).toNat) (HEX.extract (t % 16).toNat (t % 16 + 1).toNat) f = f (hx2 t) := fun f => by
      unfold catK
      have h3 := size_extract_le HEX (t / 16).toNat (t / 16 + 1).toNat
      have h4 := size_extract_le HEX (t % 16).toNat (t % 16 + 1).toNat
      have h5 : HEX.size = 16 := rfl
      rw [if_neg (by omega)]
      rfl
    rw [hcat]
    simp only [newK_eq]
    refine g.push hm.next rfl rfl (by decide) (by omega) (by omega) fun p' c' h' g' m' => ?_
    rw [wrap_succ (by omega), show pre.length + 1 = (pre ++ [t]).length by simp]
    refine CardText_loop hm6 hb n hn1 ts (pre ++ [t]) k h' p' c' (by rw [hx]; simp) (by simp at hl; omega) (hm.push g m') (by simpa using g')

theorem CardText_ret {m : List Int} (hm6 : m.length = 6) (hb : ∀ x ∈ m, 0 ≤ x ∧ x < 256) {n : Nat} (hn : 11 ≤ n) (h : H) : Ret (ca n i_words_CardText [.agg (u8s m)] h) fun r h' => Mod [] h h' ∧ r = .str (joinS (m.map hx2) (mk [58])) := by
  obtain ⟨n, rfl⟩ : ∃ m, n = m + 1 := ⟨n - 1, by omega⟩
  rw [words_CardText_eq]
  simp only [newK_eq]
  have m0 : Mod [] h (h.new (.cells (u8s m) false)) := (Mod.refl _ _).new _
  rw [aggK_all (n := 6) (get_new_self _ _) (by simpa using hm6)]
  exact (CardText_loop hm6 hb n (by omega) m [] n _ none (.known 0) rfl (by omega) (.refl _ _) .nil).mono fun r h' ⟨q1, q2⟩ => ⟨m0.trans q1, q2⟩

end Go.Ev.Tryd
