/- Chapter 08: backends renumbered. -/
import Derived.Test.YtlodaclifccchaaMg20
set_option linter.all false
namespace Go.Ev.Try
set_option maxRecDepth 10000
open Go.Proofs

section
variable {len : Nat}
/-- the number in the row turned -/
def phi (len : Nat) (x : Int) : Int := if x < 0 then x else if x < len then (len : Int) - 1 - x else x
theorem phi_free (x : Int) : phi len x = -1 ↔ x = -1 := by unfold phi; split <;> (try split) <;> omega
theorem phi_of {i : Nat} (h : i < len) : phi len (i : Int) = ((len - 1 - i : Nat) : Int) := by unfold phi; rw [if_neg (by omega), if_pos (by omega)]; omega
def relT (len : Nat) (t : Tk) : Tk := ⟨phi len t.k, t.w, t.at', t.step⟩
def relX (len : Nat) (x : Tk × Int) : Tk × Int := (relT len x.1, x.2)
theorem free_rel (P : List Int) (i : Nat) : isFree (P.map (phi len)) i = isFree P i := by
  unfold isFree
  rw [List.getElem?_map]
  cases P[i]? with
  | none => rfl
  | some x =>
    rw [Option.map_some]
    by_cases h : x = -1
    · rw [h, (phi_free (len := len) (-1)).2 rfl]
    · have h2 : phi len x ≠ -1 := fun e => h ((phi_free x).1 e)
      rw [show ((some (phi len x) : Option Int) == some (-1)) = false by simpa using h2, show ((some x : Option Int) == some (-1)) = false by simpa using h]
theorem slot_rel (P : List Int) (t : Tk) : slot (P.map (phi len)) (relT len t) = slot P t := by
  unfold slot
  congr 1
  funext i
  exact free_rel P _
theorem put_rel (P : List Int) (t : Tk) : put (P.map (phi len)) (relT len t) = (put P t).map (phi len) := by
  unfold put
  rw [slot_rel]
  cases slot P t with
  | none => rfl
  | some i => simp only; rw [List.map_set]; rfl
theorem step_rel (top : Int) (P : List Int) (x : Tk × Int) : step1 top (P.map (phi len)) (relX len x) = ((step1 top P x).1.map (phi len), (step1 top P x).2) := by
  unfold step1
  show (if top ≤ x.2 + x.1.w then (put (P.map (phi len)) (relT len x.1), x.2 + x.1.w - top) else (P.map (phi len), x.2 + x.1.w)) = _
  split
  · rw [put_rel]
  · rfl
theorem turn_rel (top : Int) : ∀ (xs : List (Tk × Int)) (P : List Int), turnT top (P.map (phi len)) (xs.map (relX len)) = ((turnT top P xs).1.map (phi len), (turnT top P xs).2.map (relX len))
  | [], _ => rfl
  | x :: xs, P => by
    rw [List.map_cons, turnT, turnT, step_rel]
    simp only
    rw [turn_rel top xs]
    rfl
theorem runs_rel (top : Int) : ∀ (n : Nat) (s : List Int × List (Tk × Int)), runs top n (s.1.map (phi len), s.2.map (relX len)) = ((runs top n s).1.map (phi len), (runs top n s).2.map (relX len))
  | 0, _ => rfl
  | n + 1, s => by
    rw [runs, runs]
    simp only
    rw [turn_rel, runs_rel top n]
end

theorem rev_get {L : List Bk} {i : Nat} (h : i < L.length) : L.reverse[L.length - 1 - i]? = L[i]? := by
  rw [List.getElem?_reverse (by omega)]
  congr 1
  omega
theorem nm_rev {L : List Bk} {i : Nat} (h : i < L.length) : nm L.reverse (L.length - 1 - i) = nm L i := by unfold nm; rw [rev_get h]
theorem wt_rev {L : List Bk} {i : Nat} (h : i < L.length) : wt L.reverse (L.length - 1 - i) = wt L i := by unfold wt; rw [rev_get h]
theorem okL_rev {L : List Bk} (ho : okL L) : okL L.reverse := by
  obtain ⟨h1, h2, h3, h4⟩ := ho
  refine ⟨by simpa using h1, by simpa using h2, fun b hb => h3 b (by simpa using hb), fun i k hk x y hx hy e => ?_⟩
  have li := (List.getElem?_eq_some_iff.1 hx).1
  rw [List.length_reverse] at li
  have e1 := rev_get (L := L) (i := L.length - 1 - i) (by omega)
  have e2 := rev_get (L := L) (i := L.length - 1 - k) (by omega)
  rw [show L.length - 1 - (L.length - 1 - i) = i by omega, hx] at e1
  rw [show L.length - 1 - (L.length - 1 - k) = k by omega, hy] at e2
  exact h4 (L.length - 1 - k) (L.length - 1 - i) (by omega) y x e2.symm e1.symm e.symm
theorem topTo_rev {L : List Bk} (ho : okL L) : topTo L.reverse = topTo L := by
  obtain ⟨b, hb, e⟩ := topTo_ex ho
  obtain ⟨b', hb', e'⟩ := topTo_ex (okL_rev ho)
  have h1 := topTo_ge (L := L.reverse) (b := b) (by simpa using hb)
  have h2 := topTo_ge (L := L) (b := b') (by simpa using hb')
  omega
def turned (L : List Bk) (ys : List Nat) : List Nat := ys.map fun i => L.length - 1 - i
theorem isOrd_rev {L : List Bk} {ys : List Nat} (hy : IsOrd L ys) : IsOrd L.reverse (turned L ys) := by
  refine ⟨?_, ?_⟩
  · rw [List.length_reverse]
    unfold turned
    refine (hy.perm.map _).trans ?_
    have : (List.range L.length).map (fun i => L.length - 1 - i) = (List.range L.length).reverse := by
      apply List.ext_getElem?
      intro i
      by_cases hi : i < L.length
      · rw [List.getElem?_map, List.getElem?_range hi, List.getElem?_reverse (by simpa using hi), List.length_range, List.getElem?_range (by omega)]; rfl
      · rw [List.getElem?_eq_none (by simp; omega), List.getElem?_eq_none (by simp; omega)]
    rw [this]
    exact List.reverse_perm _
  · unfold turned
    rw [List.pairwise_map]
    refine hy.sorted.imp_of_mem fun {i j} hi hj h => ?_
    rw [nm_rev ((hy.mem i).1 hi), nm_rev ((hy.mem j).1 hj)]
    exact h
theorem places_rev {key : List Int} {L : List Bk} (ho : okL L) {ys : List Nat} (hy : IsOrd L ys) : placesOf key L.reverse (turned L ys) = (placesOf key L ys).map (phi L.length) := by
  have ht : tks key L.reverse (turned L ys) = (tks key L ys).map (relX L.length) := by
    unfold tks turned
    rw [List.map_map, List.map_map]
    refine List.map_congr_left fun i hi => ?_
    have hil := (hy.mem i).1 hi
    show (tkOf key L.reverse (L.length - 1 - i), (0 : Int)) = relX L.length (tkOf key L i, 0)
    unfold relX relT tkOf
    simp only
    rw [nm_rev hil, wt_rev hil, phi_of hil]
  unfold placesOf finP
  rw [topTo_rev ho, ht]
  have := runs_rel (len := L.length) (topTo L) 251 (List.replicate 251 (-1), tks key L ys)
  simp only [List.map_replicate] at this
  rw [(phi_free (len := L.length) (-1)).2 rfl] at this
  rw [this]
theorem ring_rev {L : List Bk} {ys : List Nat} (hy : IsOrd L ys) : ringOf L.reverse (turned L ys) = (ringOf L ys).map (phi L.length) := by
  have : ∀ zs : List Nat, (∀ i ∈ zs, i < L.length) → ringOf L.reverse (turned L zs) = (ringOf L zs).map (phi L.length) := by
    intro zs
    induction zs with
    | nil => intro _; rfl
    | cons z zs ih =>
      intro h
      have hz := h z (by simp)
      have ih := ih fun i hi => h i (by simp [hi])
      unfold ringOf turned at *
      rw [List.map_cons, List.flatMap_cons, List.flatMap_cons, List.map_append, ih, wt_rev hz, List.map_replicate, phi_of hz]
  exact this ys fun i hi => (hy.mem i).1 hi

/-! ### the walk -/

section
variable {a : H} {tb ub i1 i3 : Nat} {L : List Bk} {P R P' R' : List Int} {p np mp : Option (Nat × Nat)} {c nc mc : Cap} {t1 t2 nl ml : Nat}

theorem order_L4 {x : Int} (hx : u64 x) (T1 : Tab a t1 L P R) (T2 : Tab a t2 L.reverse P' R') (hR : ∀ y ∈ R, ∃ i, i < L.length ∧ y = ((i : Nat) : Int)) (hR' : R' = R.map (phi L.length)) (h0 : 0 < R.length) (hrl : R.length ≤ 1600) (hl : L.length ≤ 16)
    (nrow : Row a 1 np nl nc ((L.map (·.1)).map AV.str)) (mrow : Row a 1 mp ml mc ((L.reverse.map (·.1)).map AV.str)) (l3 : i3 < a.next) {uu : AV} (g3 : a.get i3 = some (.cells [.int .u64 x, uu] false)) {n : Nat} (hn : 5000 ≤ n) (hub : a.next ≤ ub) :
    ∀ (d i m : Nat) (h : H), i + d = L.length → d < m → Mod [] a h → ub < h.next → h.get ub = some (.cells ((List.replicate i true ++ List.replicate d false).map AV.bool) false) →
      Ret (outriderlaw08_MaglevOrder_9_L4 n m (some (i3, 0)) (some (t1, 0)) (some (t2, 0)) np nl nc mp ml mc (some (ub, 0)) L.length (.known L.length) L.length i h) TT
  | 0, i, m + 1, h, hi, _, hm, lub, gu => by
    obtain rfl : i = L.length := by omega
    rw [outriderlaw08_MaglevOrder_9_L4_eq, cast_not_lt (by omega), cond_false]
    simp only [nnK_some', Nat.zero_add]
    rw [List.replicate_zero, List.append_nil] at gu
    have ur : Row h 1 (some (ub, 0)) L.length (.known L.length) ((List.replicate L.length true).map AV.bool) := .row lub gu (by rw [List.drop_zero, List.take_of_length_le (by simp)]) (by simp) (.inr ⟨_, rfl, Nat.le_refl _⟩)
    have g3' := (hm.get _ l3 (by simp)).trans g3
    have hx0 := hx.1
    have hRl' : R'.length = R.length := by rw [hR', List.length_map]
    have h1 : 0 ≤ x % (R.length : Int) := Int.emod_nonneg _ (by omega)
    have h2 : x % (R.length : Int) < R.length := Int.emod_lt_of_pos _ (by omega)
    have hat : (x % (R.length : Int)).toNat < R.length := by omega
    obtain ⟨k, hk, hxk⟩ := hR _ (List.getElem_mem hat)
    have hRk : R[(x % (R.length : Int)).toNat]? = some (k : Int) := by rw [List.getElem?_eq_getElem hat, hxk]
    have hRk' : R'[(x % (R.length : Int)).toNat]? = some ((L.length - 1 - k : Nat) : Int) := by rw [hR', List.getElem?_map, hRk, Option.map_some, phi_of hk]
    have hup : ∀ j, j < L.length → isUp (List.replicate L.length true) (j : Int) = true := fun j hj => by unfold isUp; rw [Int.toNat_natCast, List.getElem?_replicate, if_pos hj]; rfl
    have hpos : ∀ y ∈ R, 0 ≤ y := fun y hy => by obtain ⟨i, _, rfl⟩ := hR y hy; omega
    have hpos' : ∀ y ∈ R', 0 ≤ y := fun y hy => by
      rw [hR'] at hy
      obtain ⟨z, hz, rfl⟩ := List.mem_map.1 hy
      obtain ⟨i, hi, rfl⟩ := hR z hz
      rw [phi_of hi]; omega
    obtain ⟨r', hr'⟩ : ∃ r', R.length = r' + 1 := ⟨R.length - 1, by omega⟩
    have f1 : fromF R (List.replicate L.length true) R.length (x % (R.length : Int)).toNat = ((k : Int), true) := by
      conv => lhs; arg 3; rw [hr']
      exact fromF_up (by rw [Nat.mod_eq_of_lt hat]; exact hRk) (hup k hk)
    have f2 : fromF R' (List.replicate L.length true) R'.length (x % (R'.length : Int)).toNat = (((L.length - 1 - k : Nat) : Int), true) := by
      conv => lhs; arg 3; rw [hRl', hr']
      exact fromF_up (by rw [hRl', Nat.mod_eq_of_lt hat]; exact hRk') (hup _ (by omega))
    rw [cellK_of (o := 0) g3' rfl, asInt_int, (T1.mod0 hm).turn hpos h0 (by omega) hx ur (n := n) (by omega), Option.bind_some]
    simp only
    rw [cellK_of (o := 0) g3' rfl, asInt_int, (T2.mod0 hm).turn hpos' (by omega) (by omega) hx ur (n := n) (by omega), Option.bind_some]
    simp only
    rw [f1, f2]
    refine (alive_ret h hn).bind fun r h' ⟨er, m'⟩ => ?_
    subst er
    simp only
    have hkx : L[k]? = some L[k] := List.getElem?_eq_getElem hk
    have n1 : (L.map (·.1))[k]? = some (nm L k) := by rw [List.getElem?_map, hkx, nm_of hkx]; rfl
    have n2 : (L.reverse.map (·.1))[L.length - 1 - k]? = some (nm L k) := by rw [List.getElem?_map, rev_get hk, hkx, nm_of hkx]; rfl
    rw [cond_true, ((Row.mod0 nrow hm).mod0 m').ix1 n1]
    simp only [asStr_str]
    rw [((Row.mod0 mrow hm).mod0 m').ix1 n2]
    simp only [asStr_str]
    rw [str_eq]
    exact .pure ⟨by simp, trivial⟩
  | d + 1, i, m + 1, h, hi, hf, hm, lub, gu => by
    rw [outriderlaw08_MaglevOrder_9_L4_eq, cast_lt (by omega), cond_true, if_pos ⟨by omega, by omega⟩]
    simp only [nnK_some', Nat.zero_add]
    rw [Int.toNat_natCast, wrK_one (o := i) gu (by simp <;> omega) rfl, wrap_succ (by omega)]
    refine order_L4 hx T1 T2 hR hR' h0 hrl hl nrow mrow l3 g3 hn hub d (i + 1) m _ (by omega) (by omega) (hm.set (.inl hub) _) lub ?_
    rw [get_set_self]
    congr 2
    rw [List.map_append, List.map_append, List.set_append_right _ _ (by simp), List.length_map, List.length_replicate, Nat.sub_self, List.replicate_succ (n := d), List.map_cons, List.set_cons_zero, List.replicate_succ' (n := i), List.map_append, List.append_assoc]
    rfl

theorem order_L3 {x : Int} (hx : u64 x) (T1 : Tab a t1 L P R) (T2 : Tab a t2 L.reverse P' R') (hP : ∀ y ∈ P, ∃ i, i < L.length ∧ y = ((i : Nat) : Int)) (hP' : P' = P.map (phi L.length)) (hR : ∀ y ∈ R, ∃ i, i < L.length ∧ y = ((i : Nat) : Int)) (hR' : R' = R.map (phi L.length)) (h0 : 0 < R.length) (hrl : R.length ≤ 1600) (hl : L.length ≤ 16)
    (nrow : Row a 1 np nl nc ((L.map (·.1)).map AV.str)) (mrow : Row a 1 mp ml mc ((L.reverse.map (·.1)).map AV.str)) (l3 : i3 < a.next) {uu : AV} (g3 : a.get i3 = some (.cells [.int .u64 x, uu] false)) {n : Nat} (hn : 5000 ≤ n) {p : Option (Nat × Nat)} {c : Cap} :
    ∀ (d i m : Nat), i + d = 251 → d < m → Ret (outriderlaw08_MaglevOrder_9_L3 n m p L.length c (some (i3, 0)) (some (t1, 0)) (some (t2, 0)) np nl nc mp ml mc i a) TT
  | 0, i, m + 1, hi, _ => by
    rw [outriderlaw08_MaglevOrder_9_L3_eq, decide_eq_false (by omega), cond_false, mkSlK_of a (by omega) (by omega), Nat.mul_one, tile_one]
    have m4 : Mod [] a (a.new (.cells (List.replicate L.length (.bool false)) false)) := (Mod.refl _ _).new _
    have g4 := get_new_self a (.cells (List.replicate L.length (.bool false)) false)
    have n4 : (a.new (.cells (List.replicate L.length (.bool false)) false)).next = a.next + 1 := rfl
    generalize a.new (.cells (List.replicate L.length (.bool false)) false) = h4 at *
    refine order_L4 hx T1 T2 hR hR' h0 hrl hl nrow mrow l3 g3 hn (Nat.le_refl _) L.length 0 n h4 (by omega) (by omega) m4 (by omega) ?_
    rw [g4, List.replicate_zero, List.nil_append, List.map_replicate]
  | d + 1, i, m + 1, hi, hf => by
    have hpl := T1.plen
    have hi' : i < P.length := by omega
    obtain ⟨k, hk, hxk⟩ := hP _ (List.getElem_mem hi')
    have hPk : P[i]? = some (k : Int) := by rw [List.getElem?_eq_getElem hi', hxk]
    have hPk' : P'[i]? = some ((L.length - 1 - k : Nat) : Int) := by rw [hP', List.getElem?_map, hPk, Option.map_some, phi_of hk]
    have hkx : L[k]? = some L[k] := List.getElem?_eq_getElem hk
    have n1 : (L.map (·.1))[k]? = some (nm L k) := by rw [List.getElem?_map, hkx, nm_of hkx]; rfl
    have n2 : (L.reverse.map (·.1))[L.length - 1 - k]? = some (nm L k) := by rw [List.getElem?_map, rev_get hk, hkx, nm_of hkx]; rfl
    rw [outriderlaw08_MaglevOrder_9_L3_eq, decide_eq_true (by omega), cond_true, T1.at' hPk n, Option.bind_some]
    simp only
    rw [nrow.ix1 n1]
    simp only [asStr_str]
    rw [T2.at' hPk' n, Option.bind_some]
    simp only
    rw [quietK_mod (Mod.refl _ _), mrow.ix1 n2]
    simp only [asStr_str]
    rw [str_eq, decide_eq_true rfl, Bool.not_true, cond_false, wrap_succ (by omega)]
    exact order_L3 hx T1 T2 hP hP' hR hR' h0 hrl hl nrow mrow l3 g3 hn d (i + 1) m (by omega) (by omega)
end

end Go.Ev.Try
