/- Chapter 08: the order of names; the row of takers, sorted. -/
import Derived.Test.YtlodaclifccchaaMg8
set_option linter.all false
namespace Go.Ev.Try
set_option maxRecDepth 10000
open Go.Proofs

theorem Grow.push' {α : Type} {a h : H} {size bytes : Nat} {p : Option (Nat × Nat)} {len : Nat} {c : Cap} {vs : List AV} (g : Grow a h size p len c vs) (ha : a.next ≤ h.next) {xs : List AV} (hx : xs.length = size) (hc : xs.all isCell = true) (h0 : 0 < size) (hb : (len + 1) * bytes ≤ 140737488355328) (h63 : len + 1 ≤ 9223372036854775807)
    {f : Option (Nat × Nat) → Nat → Cap → H → Option (α × H)} {Q : α → H → Prop} (k : ∀ p' c' h', Grow a h' size p' (len + 1) c' (vs ++ xs) → Mod (own p) h h' → (∀ x ∈ own p', h.next ≤ x) → Ret (f p' (len + 1) c' h') Q) :
    Ret (appK size bytes p len c (evSrc size (.slice (some (h.next, 0)) 1 (.known 1)) (h.new (.cells xs false))) (h.new (.cells xs false)) f) Q := by
  have m2 : Mod [] h (h.new (.cells xs false)) := (Mod.refl _ _).new _
  have r2 : Row (h.new (.cells xs false)) size (some (h.next, 0)) 1 (.known 1) xs := .row (by simp) (get_new_self _ _) (by rw [List.drop_zero, Nat.one_mul, ← hx, List.take_length]) (by omega) (.inr ⟨1, rfl, Nat.le_refl _⟩)
  rw [r2.src]
  rcases (g.mod0 m2).look with ⟨rfl, rfl, rfl, rfl⟩ | ⟨b, rfl, h1, h2, h3, h4, h5⟩
  · simp only [appK, evApp]
    rw [if_neg (by omega), if_pos ⟨by simpa using hb, by omega⟩]
    refine k _ _ _ ?_ ((m2.new _).sub fun i h => by cases h) (by simp)
    rw [List.nil_append]
    exact Grow.fresh (Nat.le_trans ha m2.next) (by rw [hx]; simp) (.inl rfl)
  · rcases h5 with rfl | rfl
    · simp only [appK, evApp]
      rw [if_neg (by omega), if_pos ⟨trivial, hb, h63⟩, h3]
      simp only [Nat.zero_add]
      rw [if_pos ⟨h4.symm, hc⟩, List.drop_zero]
      exact k _ _ _ (Grow.fresh (h := (h.new (.cells xs false)).kill b) (Nat.le_trans ha m2.next) (by rw [List.length_append, h4, hx, Nat.add_mul, Nat.one_mul]) (.inl rfl)) ((m2.of_nil.kill (.inr (by simp))).new _) (by simp)
    · simp only [appK, evApp]
      rw [if_neg (show ¬ len + 1 ≤ len by omega), if_pos ⟨hb, h63⟩, h3]
      simp only [Nat.zero_add]
      rw [if_pos (Nat.le_of_eq h4.symm), List.drop_zero, ← h4, List.take_length]
      exact k _ _ _ (Grow.fresh (Nat.le_trans ha m2.next) (by rw [List.length_append, h4, hx, Nat.add_mul, Nat.one_mul]) (.inl rfl)) ((m2.of_nil).new _) (by simp)


theorem sgt_eq (a b : ByteArray) : (!(Op.bytesLess a.toList b.toList || a.toList == b.toList)) = sLt b a := by
  rw [str_eq]
  change (!(sLt a b || decide (a = b))) = sLt b a
  by_cases e : a = b
  · subst e; simp [sLt_irrefl]
  · rw [decide_eq_false e, Bool.or_false]
    rcases sLt_total e with h | h
    · rw [h, sLt_asymm h]; rfl
    · rw [h, sLt_asymm h]; rfl

def cmpS (a b : ByteArray) : Int := if sLt a b then -1 else if sLt b a then 1 else 0
theorem cmpS_lt {a b : ByteArray} : cmpS a b < 0 ↔ sLt a b = true := by
  unfold cmpS
  by_cases h : sLt a b = true
  · rw [if_pos h]; simp [h]
  · rw [if_neg h]
    split <;> simp_all
theorem Compare_eq (a b : ByteArray) (n : Nat) (h : H) : cmp_Compare_string_28 n a b h = some (cmpS a b, h) := by
  rw [cmp_Compare_string_28_eq, cmp_isNaN_string_40_eq, Option.bind_some, cmp_isNaN_string_40_eq, Option.bind_some]
  simp only [beq_self_eq_true, Bool.not_true, cond_false]
  rw [sgt_eq, show Op.bytesLess a.toList b.toList = sLt a b from rfl]
  unfold cmpS
  cases h1 : sLt a b with
  | true => simp
  | false =>
    cases h2 : sLt b a with
    | true => simp
    | false => simp

theorem Row.freeze {h : H} {size : Nat} {p : Option (Nat × Nat)} {len : Nat} {c : Cap} {vs : List AV} (s : Row h size p len c vs) : Row h.freeze size p len c vs := by
  cases s with
  | nil => exact .nil
  | row hb hg hv hl hc => exact .row (show _ < h.freeze.next from hb) (freeze_cells hg) hv hl hc

def nm (L : List Bk) (i : Nat) : ByteArray := (L[i]?.map (·.1)).getD ⟨#[]⟩
def wt (L : List Bk) (i : Nat) : Int := (L[i]?.map (·.2)).getD 0
theorem nm_of {L : List Bk} {i : Nat} {b : Bk} (h : L[i]? = some b) : nm L i = b.1 := by simp [nm, h]
theorem wt_of {L : List Bk} {i : Nat} {b : Bk} (h : L[i]? = some b) : wt L i = b.2 := by simp [wt, h]
/-- these numbers by rising names -/
structure IsOrd (L : List Bk) (ys : List Nat) : Prop where
  perm : ys.Perm (List.range L.length)
  sorted : ys.Pairwise fun i j => sLt (nm L i) (nm L j) = true
theorem IsOrd.unique {L : List Bk} {ys zs : List Nat} (h : IsOrd L ys) (k : IsOrd L zs) : ys = zs :=
  sorted_eq (lt := fun i j => sLt (nm L i) (nm L j) = true) (h.perm.trans k.perm.symm) h.sorted k.sorted fun x _ y _ h1 h2 => by rw [sLt_asymm h1] at h2; cases h2

def tkOf (key : List Int) (L : List Bk) (i : Nat) : Tk := ⟨i, wt L i, (two key (nm L i)).1 % 251, (two key (nm L i)).2 % 250 + 1⟩

/-- whose number a taker's block holds -/
def kB (h : H) (b : Nat) : Nat :=
  match h.get b with
  | some (.cells (.int _ k :: _) _) => k.toNat
  | _ => 0
theorem kB_of {h : H} {b : Nat} {t : Tk} {x y : Int} {ro : Bool} (g : h.get b = some (.cells (tcells t x y) ro)) : kB h b = t.k.toNat := by unfold kB; rw [g]; rfl

/-- a row of takers' blocks as New lays it -/
structure TkRow (a h : H) (key : List Int) (L : List Bk) (q : Option (Nat × Nat)) (ql : Nat) (qc : Cap) (ps : List Nat) (js : List Nat) : Prop where
  grow : Grow a h 1 q ql qc (ps.map ptrOf)
  len : ps.length = js.length
  blk : ∀ (i b j : Nat), ps[i]? = some b → js[i]? = some j → h.get b = some (.cells (tcells (tkOf key L j) 0 0) false)
  fresh : ∀ b ∈ ps, a.next ≤ b ∧ b < h.next ∧ b ∉ own q
  nd : ps.Nodup
  m : Mod [] a h

def decP : AV → Nat
  | .ptr (some (b, _)) => b
  | _ => 0
theorem decP_enc : ∀ b, decP (ptrOf b) = b := fun _ => rfl

theorem New_cmp {L : List Bk} {h : H} {i3 : Nat} {lp : Option (Nat × Nat)} {lc : Cap} (g3 : h.get i3 = some (.cells [.slice lp L.length lc] true)) (lrow : KRow h lp L.length lc L) {b1 b2 : Nat} {t1 t2 : Tk} {x1 y1 x2 y2 : Int} (h1 : h.get b1 = some (.cells (tcells t1 x1 y1) true)) (h2 : h.get b2 = some (.cells (tcells t2 x2 y2) true)) {j1 j2 : Nat} (e1 : t1.k = j1) (e2 : t2.k = j2) (l1 : j1 < L.length) (l2 : j2 < L.length) (n : Nat) :
    maglev_New_1_27 n (some (b1, 0)) (some (b2, 0)) (some (i3, 0)) h = some (cmpS (nm L j1) (nm L j2), h) := by
  have k1 : L[j1]? = some L[j1] := List.getElem?_eq_getElem l1
  have k2 : L[j2]? = some L[j2] := List.getElem?_eq_getElem l2
  rw [maglev_New_1_27_eq]
  simp only [nnK_some', Nat.zero_add]
  rw [cellK_of (o := 0) g3 rfl, asSlice_slice]
  rw [cellK_of (o := 0) h1 rfl, asInt_int, e1, Row.ix20 lrow encK_len k1 (v := .str (L[j1]).1) rfl]
  simp only [asStr_str, nnK_some', Nat.zero_add]
  rw [cellK_of (o := 0) g3 rfl, asSlice_slice]
  rw [cellK_of (o := 0) h2 rfl, asInt_int, e2, Row.ix20 lrow encK_len k2 (v := .str (L[j2]).1) rfl]
  simp only [asStr_str]
  rw [Compare_eq, Option.bind_some, nm_of k1, nm_of k2]

theorem tkSort {a h : H} {key : List Int} {L : List Bk} (hu : uniq L) (hL : L.length ≤ 16) {q : Option (Nat × Nat)} {ql : Nat} {qc : Cap} {ps : List Nat} (t : TkRow a h key L q ql qc ps (List.range L.length)) {i3 : Nat} (hi3 : i3 < a.next) {lp : Option (Nat × Nat)} {lc : Cap} (g3 : h.get i3 = some (.cells [.slice lp L.length lc] false)) (lrow : KRow a lp L.length lc L) (n : Nat) :
    ∃ (ys bs : List Nat) (h' : H), IsOrd L ys ∧ maglev_taker_26_f27 n q ql qc (some (i3, 0)) h = some ((), h') ∧ TkRow a h' key L q ql qc bs ys := by
  have hpl : ps.length = L.length := by rw [t.len, List.length_range]
  -- blocks and their numbers
  have hk : ∀ b ∈ ps, ∃ i : Nat, ps[i]? = some b ∧ i < L.length ∧ h.get b = some (.cells (tcells (tkOf key L i) 0 0) false) ∧ kB h b = i := by
    intro b hb
    obtain ⟨i, hi⟩ := List.getElem?_of_mem hb
    have hil : i < L.length := by have := (List.getElem?_eq_some_iff.1 hi).1; omega
    have g := t.blk i b i hi (List.getElem?_range hil)
    exact ⟨i, hi, hil, g, by rw [kB_of g]; rfl⟩
  have hinj : ∀ x ∈ ps, ∀ y ∈ ps, kB h x = kB h y → x = y := by
    intro x hx y hy e
    obtain ⟨i, hi, _, _, e1⟩ := hk x hx
    obtain ⟨j, hj, _, _, e2⟩ := hk y hy
    rw [e1, e2] at e
    subst e
    rw [hi] at hj
    exact Option.some.inj hj
  have huniq : ∀ i j : Nat, i < L.length → j < L.length → nm L i = nm L j → i = j := by
    intro i j hi hj e
    have k1 : L[i]? = some L[i] := List.getElem?_eq_getElem hi
    have k2 : L[j]? = some L[j] := List.getElem?_eq_getElem hj
    rw [nm_of k1, nm_of k2] at e
    rcases Nat.lt_trichotomy i j with h | h | h
    · exact absurd e (hu j i h _ _ k2 k1)
    · exact h
    · exact absurd e.symm (hu i j h _ _ k1 k2)
  have ho : Orders ps fun x y => cmpS (nm L (kB h x)) (nm L (kB h y)) := {
    irrefl := fun x _ => by rw [cmpS_lt, sLt_irrefl]; simp
    trans := fun x _ y _ z _ h1 h2 => by rw [cmpS_lt] at *; exact sLt_trans h1 h2
    ntrans := fun x _ y _ z _ h1 h2 => by
      rw [cmpS_lt, Bool.not_eq_true] at *
      exact sLe_trans (a := nm L (kB h z)) (b := nm L (kB h y)) (c := nm L (kB h x)) h2 h1
    total := fun x hx y hy h1 h2 => by
      rw [cmpS_lt, Bool.not_eq_true] at h1 h2
      obtain ⟨i, _, li, _, e1⟩ := hk x hx
      obtain ⟨j, _, lj, _, e2⟩ := hk y hy
      refine hinj x hx y hy ?_
      have e := sLe_antisymm (a := nm L (kB h x)) (b := nm L (kB h y)) h2 h1
      rw [e1, e2] at e
      rw [e1, e2]
      exact huniq i j li lj e }
  have hown := fun x hx => (t.grow.own_ge x hx).1
  obtain ⟨bs, h', q1, q2, q3, q4, q5, q6⟩ := t.grow.sort (enc := ptrOf) (dec := decP) (cmp := fun u v h => asPtr u fun x1 => asPtr v fun x2 => maglev_New_1_27 n x1 x2 (some (i3, 0)) h) decP_enc (fun _ => trivial) (by omega) ho (fun h' hn hg x hx y hy => by
    obtain ⟨i, _, li, gx, e1⟩ := hk x hx
    obtain ⟨j, _, lj, gy, e2⟩ := hk y hy
    have gx' : h'.get x = _ := (hg x (t.fresh x hx).2.2).trans gx
    have gy' : h'.get y = _ := (hg y (t.fresh y hy).2.2).trans gy
    have g3' : h'.get i3 = _ := (hg i3 fun hm => by have := hown _ hm; omega).trans g3
    have lrow' : KRow h' lp L.length lc L := by
      have m : Mod (own q) h h' := ⟨by omega, fun j _ hj => hg j hj⟩
      exact Row.mod (Row.mod0 lrow t.m) m fun x hx hm => by have := hown _ hm; have := Row.lt lrow x hx; omega
    show asPtr (ptrOf x) (fun x1 => asPtr (ptrOf y) fun x2 => maglev_New_1_27 n x1 x2 (some (i3, 0)) h'.freeze) = _
    simp only [ptrOf]
    rw [asPtr_ptr, asPtr_ptr, e1, e2]
    exact New_cmp (freeze_cells g3') (Row.freeze lrow') (freeze_cells gx') (freeze_cells gy') rfl rfl li lj n)
  have hmemb : ∀ b, b ∈ bs ↔ b ∈ ps := fun b => q1.mem_iff
  refine ⟨bs.map (kB h), bs, h', ⟨?_, ?_⟩, ?_, ⟨q4, by rw [List.length_map], fun i b j h1 h2 => ?_, fun b hb => ?_, q1.nodup_iff.2 t.nd, t.m.trans' (⟨by omega, fun j _ hj => q6 j hj⟩ : Mod (own q) h h') fun x hx hl => by have := hown x hx; omega⟩⟩
  · refine (q1.map (kB h)).trans (List.Perm.of_eq ?_)
    apply List.ext_getElem?
    intro i
    rw [List.getElem?_map]
    by_cases hi : i < L.length
    · have hx : ps[i]? = some ps[i] := List.getElem?_eq_getElem (by omega)
      rw [hx, List.getElem?_range hi, Option.map_some, kB_of (t.blk i _ i hx (List.getElem?_range hi))]
      rfl
    · rw [List.getElem?_eq_none (by omega), List.getElem?_eq_none (by simp; omega)]; rfl
  · rw [List.pairwise_map]
    have hnd : bs.Pairwise (· ≠ ·) := q1.nodup_iff.2 t.nd
    refine (List.Pairwise.and q2 hnd).imp_of_mem fun {x y} hx hy ⟨h1, h2⟩ => ?_
    rw [cmpS_lt, Bool.not_eq_true] at h1
    obtain ⟨i, _, li, _, e1⟩ := hk x ((hmemb x).1 hx)
    obtain ⟨j, _, lj, _, e2⟩ := hk y ((hmemb y).1 hy)
    have hne : nm L (kB h x) ≠ nm L (kB h y) := fun e => h2 (hinj x ((hmemb x).1 hx) y ((hmemb y).1 hy) (by rw [e1, e2] at e; rw [e1, e2]; exact huniq i j li lj e))
    rcases sLt_total hne with h | h
    · exact h
    · rw [h] at h1; cases h1
  · rw [maglev_taker_26_f27_eq]; exact q3
  · rw [List.getElem?_map, h1] at h2
    cases h2
    have hb : b ∈ ps := (hmemb b).1 (List.mem_of_getElem? h1)
    obtain ⟨i', _, _, g, e⟩ := hk b hb
    rw [e, q6 b (t.fresh b hb).2.2]
    exact g
  · have := t.fresh b ((hmemb b).1 hb)
    exact ⟨this.1, by omega, this.2.2⟩

end Go.Ev.Try
