/- Chapter 08: New lays a table. -/
import Derived.Test.YtlodaclifccchaaMg9
set_option linter.all false
namespace Go.Ev.Try
set_option maxRecDepth 10000
open Go.Proofs

def topTo (L : List Bk) : Int := L.foldl (fun m b => if b.2 > m then b.2 else m) 0
theorem topTo_snoc (L : List Bk) (b : Bk) : topTo (L ++ [b]) = if b.2 > topTo L then b.2 else topTo L := by unfold topTo; rw [List.foldl_append]; rfl
theorem foldl_max : ∀ (L : List Bk) (m : Int), m ≤ L.foldl (fun m b => if b.2 > m then b.2 else m) m ∧ (∀ b ∈ L, b.2 ≤ L.foldl (fun m b => if b.2 > m then b.2 else m) m) ∧ (L.foldl (fun m b => if b.2 > m then b.2 else m) m = m ∨ ∃ b ∈ L, L.foldl (fun m b => if b.2 > m then b.2 else m) m = b.2)
  | [], m => ⟨Int.le_refl _, by simp, .inl rfl⟩
  | b :: L, m => by
    rw [List.foldl_cons]
    by_cases h : b.2 > m
    · rw [if_pos h]
      obtain ⟨h1, h2, h3⟩ := foldl_max L b.2
      refine ⟨by omega, fun x hx => ?_, .inr ?_⟩
      · rcases List.mem_cons.1 hx with rfl | hx
        · exact h1
        · exact h2 x hx
      · rcases h3 with h3 | ⟨x, hx, h3⟩
        · exact ⟨b, by simp, h3⟩
        · exact ⟨x, by simp [hx], h3⟩
    · rw [if_neg h]
      obtain ⟨h1, h2, h3⟩ := foldl_max L m
      refine ⟨h1, fun x hx => ?_, ?_⟩
      · rcases List.mem_cons.1 hx with rfl | hx
        · omega
        · exact h2 x hx
      · rcases h3 with h3 | ⟨x, hx, h3⟩
        · exact .inl h3
        · exact .inr ⟨x, by simp [hx], h3⟩
theorem topTo_ge {L : List Bk} {b : Bk} (h : b ∈ L) : b.2 ≤ topTo L := (foldl_max L 0).2.1 b h
theorem topTo_ex {L : List Bk} (ho : okL L) : ∃ b ∈ L, topTo L = b.2 := by
  rcases (foldl_max L 0).2.2 with h | h
  · obtain ⟨b, hb⟩ := List.exists_mem_of_length_pos (show 0 < L.length from ho.1)
    have h1 := topTo_ge hb
    have h2 := (ho.2.2.1 b hb).2.2.1
    unfold topTo at h1
    omega
  · exact h
theorem topTo_le {L : List Bk} (ho : okL L) : topTo L ≤ 100 := by
  obtain ⟨b, hb, e⟩ := topTo_ex ho
  have := (ho.2.2.1 b hb).2.2.2
  omega

theorem u64_two {key : List Int} {s : ByteArray} : u64 (two key s).1 ∧ u64 (two key s).2 := by
  unfold two sum done
  exact ⟨u64_ixor _ _, u64_ixor _ _⟩

/-- the places, and the ring -/
def tks (key : List Int) (L : List Bk) (ys : List Nat) : List (Tk × Int) := ys.map fun i => (tkOf key L i, 0)
def placesOf (key : List Int) (L : List Bk) (ys : List Nat) : List Int := finP (topTo L) (List.replicate 251 (-1), tks key L ys)
def ringOf (L : List Bk) (ys : List Nat) : List Int := ys.flatMap fun i => List.replicate (wt L i).toNat (i : Int)

theorem New_L0 {Q : Option (Nat × Nat) × Int → H → Prop} {a : H} {key : List Int} (hk : Bytes key) (hk2 : key.length = 16) {L : List Bk} (ho : okL L) {i1 i3 tb : Nat} {lp : Option (Nat × Nat)} {lc : Cap} (l1 : i1 < a.next) (l3 : i3 < a.next) (g1 : a.get i1 = some (.cells (u8s key) false)) (lrow : KRow a lp L.length lc L) {n : Nat} (hn : 5000 ≤ n)
    (k : ∀ q ql qc ps h, TkRow a h key L q ql qc ps (List.range L.length) → Ret ((maglev_taker_26_f27 n q ql qc (some (i3, 0)) h).bind fun r49 => maglev_New_10_L1 n n (some (i3, 0)) (some (tb, 0)) q ql qc (topTo L) 0 r49.2) Q) :
    ∀ (d i m : Nat) (q : Option (Nat × Nat)) (ql : Nat) (qc : Cap) (ps : List Nat) (h : H), i + d = L.length → d < m → TkRow a h key L q ql qc ps (List.range i) →
      Ret (maglev_New_10_L0 n m (some (i1, 0)) (some (i3, 0)) (some (tb, 0)) q ql qc (topTo (L.take i)) lp L.length lc L.length i h) Q := by
  intro d
  induction d with
  | zero =>
    intro i m q ql qc ps h hi hf t
    obtain ⟨m, rfl⟩ : ∃ m', m = m' + 1 := ⟨m - 1, by omega⟩
    obtain rfl : i = L.length := by omega
    rw [maglev_New_10_L0_eq, cast_not_lt (by omega), cond_false, List.take_length]
    exact k q ql qc ps h t
  | succ d ih =>
    intro i m q ql qc ps h hi hf t
    obtain ⟨m, rfl⟩ : ∃ m', m = m' + 1 := ⟨m - 1, by omega⟩
    have hL := ho.2.1
    have hlt : i < L.length := by omega
    have ht : L[i]? = some L[i] := List.getElem?_eq_getElem hlt
    have htop : topTo (L.take (i + 1)) = if L[i].2 > topTo (L.take i) then L[i].2 else topTo (L.take i) := by rw [List.take_add_one, ht]; exact topTo_snoc _ _
    have hok := ho.2.2.1 L[i] (List.getElem_mem hlt)
    generalize hte : L[i] = b at ht htop hok
    have hql : ql = i := by
      have h1 := t.grow.row.len1
      have h2 := t.len
      rw [List.length_range] at h2
      omega
    have hpl : ps.length = i := by rw [t.len, List.length_range]
    rw [maglev_New_10_L0_eq, cast_lt hlt, cond_true, Row.ix (Row.mod0 lrow t.m) encK_len (by omega) ht]
    simp only [encK, lc_cons, l0_nil, asInt_int, asStr_str, newK_eq]
    rw [wrK_of (n := 2) (get_new_self _ _) rfl (by simp) rfl, spl_all _ _ (by simp), set_new]
    have m1 : Mod [] h (h.new (.cells [.str b.1, .int .i64 b.2] false)) := (Mod.refl _ _).new _
    have gb := get_new_self h (.cells [.str b.1, .int .i64 b.2] false)
    have n1 : (h.new (.cells [.str b.1, .int .i64 b.2] false)).next = h.next + 1 := rfl
    generalize h.new (.cells [.str b.1, .int .i64 b.2] false) = h1 at *
    have hma := t.m.next
    have gk1 := (m1.get _ (t.m.lt l1) (by simp)).trans ((t.m.get _ l1 (by simp)).trans g1)
    simp only [nnK_some', Nat.zero_add]
    rw [aggK_all (n := 16) gk1 (by simp [hk2]), cellK_of (o := 0) gb rfl]
    simp only [asStr_str]
    refine (Two_ret h1 (n := n) hk hk2 b.1 (by have := hok.2.1; omega) (by have := hok.2.1; omega)).bind fun r h2 ⟨er, m2⟩ => ?_
    subst er
    simp only
    have hu := u64_two (key := key) (s := b.1)
    have hu1 := hu.1.1
    have hu2 := hu.2.1
    rw [Int.tmod_eq_emod_of_nonneg hu1, Int.tmod_eq_emod_of_nonneg hu2, wrap_i64 (x := (two key b.1).1 % 251) (by omega) (by omega), wrap_i64 (x := (two key b.1).2 % 250) (by omega) (by omega), wrap_i64 (x := (two key b.1).2 % 250 + 1) (by omega) (by omega)]
    have etk : [AV.int .i64 (i : Int), .int .i64 ((two key b.1).1 % 251), .int .i64 ((two key b.1).2 % 250 + 1), .int .i64 0, .int .i64 0] = tcells (tkOf key L i) 0 0 := by
      unfold tcells tkOf
      rw [nm_of ht]
    rw [etk]
    have hn2 := m2.next
    have m3 : Mod [] h2 (h2.new (.cells (tcells (tkOf key L i) 0 0) false)) := (Mod.refl _ _).new _
    have g3 := get_new_self h2 (.cells (tcells (tkOf key L i) 0 0) false)
    have n3 : (h2.new (.cells (tcells (tkOf key L i) 0 0) false)).next = h2.next + 1 := rfl
    generalize h2.new (.cells (tcells (tkOf key L i) 0 0) false) = h3 at *
    have m03 := (m1.trans m2).trans m3
    have gr3 := t.grow.mod0 m03
    refine Grow.push' (size := 1) (bytes := 8) gr3 (t.m.trans m03).next (xs := [.ptr (some (h2.next, 0))]) rfl rfl (by omega) (by omega) (by omega) fun p' c' h' g' m' hfr => ?_
    have hn' := m'.next
    have hoq := fun x hx => (t.grow.own_ge x hx)
    have gb' : h'.get h.next = some (.cells [.str b.1, .int .i64 b.2] false) := (m'.get _ (by omega) fun hx => by have := (hoq _ hx).2; omega).trans ((m3.get _ (by omega) (by simp)).trans ((m2.get _ (by omega) (by simp)).trans gb))
    rw [cellK_of (o := 1) gb' rfl, asInt_int, wrap_succ (by omega), ← htop]
    refine ih (i + 1) m p' (ql + 1) c' (ps ++ [h2.next]) h' (by omega) (by omega) ⟨?_, by simp [hpl], fun r b' j e1 e2 => ?_, fun b' hb' => ?_, ?_, (t.m.trans m03).push gr3 m'⟩
    · rw [List.map_append]
      exact g'
    · by_cases hr : r < i
      · rw [List.getElem?_append_left (by omega)] at e1
        rw [List.getElem?_range (by omega)] at e2
        cases e2
        have hf' := t.fresh b' (List.mem_of_getElem? e1)
        exact (m'.get _ (by omega) hf'.2.2).trans ((m03.get _ (by omega) (by simp)).trans (t.blk r b' r e1 (List.getElem?_range hr)))
      · have hr' : r = i := by have := (List.getElem?_eq_some_iff.1 e2).1; simp at this; omega
        subst hr'
        rw [List.getElem?_range (by omega)] at e2
        cases e2
        rw [List.getElem?_append_right (by omega), hpl, Nat.sub_self] at e1
        simp at e1
        subst e1
        exact (m'.get _ (by omega) fun hx => by have := (hoq _ hx).2; omega).trans g3
    · rcases List.mem_append.1 hb' with hb' | hb'
      · have hf' := t.fresh b' hb'
        exact ⟨hf'.1, by omega, fun hx => by have := hfr _ hx; omega⟩
      · simp at hb'
        subst hb'
        exact ⟨by omega, by omega, fun hx => by have := hfr _ hx; omega⟩
    · refine List.nodup_append.2 ⟨t.nd, by simp, fun x hx y hy => ?_⟩
      simp at hy
      subst hy
      have := t.fresh x hx
      omega

theorem New_L1 {Q : Option (Nat × Nat) × Int → H → Prop} {a : H} {i3 tb : Nat} {p : Option (Nat × Nat)} {ql : Nat} {c : Cap} {top : Int} {lp : Option (Nat × Nat)} {ll : Nat} {lc : Cap} {n : Nat}
    (k : ∀ h, Mod [tb] a h → h.get tb = some (.cells (tcs lp ll lc (List.replicate 251 (-1)) none 0 (.known 0)) false) → Ret ((maglev_Table_fill_29 n (some (tb, 0)) p ql c top h).bind fun r53 => maglev_New_10_L2 n n (some (i3, 0)) (some (tb, 0)) p ql c ql 0 r53.2) Q) :
    ∀ (d i m : Nat) (h : H), i + d = 251 → d < m → Mod [tb] a h → h.get tb = some (.cells (tcs lp ll lc (List.replicate i (-1) ++ List.replicate d 0) none 0 (.known 0)) false) →
      Ret (maglev_New_10_L1 n m (some (i3, 0)) (some (tb, 0)) p ql c top i h) Q := by
  intro d
  induction d with
  | zero =>
    intro i m h hi hf hm g
    obtain ⟨m, rfl⟩ : ∃ m', m = m' + 1 := ⟨m - 1, by omega⟩
    obtain rfl : i = 251 := by omega
    rw [maglev_New_10_L1_eq, decide_eq_false (by omega), cond_false]
    exact k h hm (by simpa using g)
  | succ d ih =>
    intro i m h hi hf hm g
    obtain ⟨m, rfl⟩ : ∃ m', m = m' + 1 := ⟨m - 1, by omega⟩
    rw [maglev_New_10_L1_eq, decide_eq_true (by omega), cond_true]
    simp only [nnK_some', Nat.zero_add]
    rw [if_pos ⟨by omega, by omega⟩, Int.toNat_natCast, wrK_one g (by rw [tcs_len (by simp <;> omega)]; omega) rfl, tcs_set (by simp <;> omega), wrap_succ (by omega)]
    refine ih (i + 1) m _ (by omega) (by omega) (hm.set (.inr (by simp)) _) ?_
    rw [get_set_self]
    congr 3
    rw [List.set_append_right _ _ (by simp), List.length_replicate, Nat.sub_self, List.replicate_succ (n := d), List.set_cons_zero, List.replicate_succ' (n := i), List.append_assoc, List.singleton_append]

/-! ### the ring -/

theorem New_L3 {Q : Option (Nat × Nat) × Int → H → Prop} {a : H} {i3 tb b : Nat} {p : Option (Nat × Nat)} {ql : Nat} {c : Cap} {lp : Option (Nat × Nat)} {ll : Nat} {lc : Cap} {F : List Int} (hF : F.length = 251) {n m1 : Nat} {t : Tk} {x y : Int} (ltb : tb < a.next) (lb : b < a.next) (hne : b ≠ tb) (gb : a.get b = some (.cells (tcells t x y) false)) {idx : Nat}
    (w : Nat) (hw : w ≤ 100) :
    ∀ (d j m : Nat) (h : H) (rp : Option (Nat × Nat)) (rl : Nat) (rc : Cap) (R : List Int), j + d = w → d < m → R.length + d ≤ 10000 → Mod [tb] a h → h.get tb = some (.cells (tcs lp ll lc F rp rl rc) false) → Grow a h 1 rp rl rc (R.map i64) →
      (∀ h' rp' rl' rc', Mod [tb] a h' → h'.get tb = some (.cells (tcs lp ll lc F rp' rl' rc') false) → Grow a h' 1 rp' rl' rc' ((R ++ List.replicate d t.k).map i64) → Ret (maglev_New_10_L2 n m1 (some (i3, 0)) (some (tb, 0)) p ql c ql (IntKind.i64.wrap ((idx : Int) + 1)) h') Q) →
      Ret (maglev_New_10_L3 n m1 m (some (i3, 0)) (some (tb, 0)) (some (b, 0)) p ql c ql idx w j h) Q := by
  intro d
  induction d with
  | zero =>
    intro j m h rp rl rc R hj hf hR hm g gr k
    obtain ⟨m, rfl⟩ : ∃ m', m = m' + 1 := ⟨m - 1, by omega⟩
    rw [maglev_New_10_L3_eq, cast_not_lt (by omega), cond_false]
    exact k h rp rl rc hm g (by simpa using gr)
  | succ d ih =>
    intro j m h rp rl rc R hj hf hR hm g gr k
    obtain ⟨m, rfl⟩ : ∃ m', m = m' + 1 := ⟨m - 1, by omega⟩
    have hrl := gr.row.len1
    rw [maglev_New_10_L3_eq, cast_lt (by omega), cond_true]
    simp only [nnK_some', Nat.zero_add]
    rw [cellK_of (o := 252) g (tcs_ring hF), asSlice_slice, cellK_of (o := 0) ((hm.get _ lb (by simpa using hne)).trans gb) rfl, asInt_int]
    simp only [newK_eq]
    refine Grow.push' (size := 1) (bytes := 8) gr hm.next (xs := [.int .i64 t.k]) rfl rfl (by omega) (by omega) (by omega) fun p' c' h' g' m' hfr => ?_
    have hown := fun x hx => (gr.own_ge x hx).1
    have gt' : h'.get tb = _ := (m'.get _ (hm.lt ltb) fun hx => by have := hown _ hx; omega).trans g
    rw [wrK_one (o := 252) gt' (by rw [tcs_len hF]; omega) rfl, tcs_setring hF, wrap_succ (by omega)]
    have hma := hm.next
    refine ih (j + 1) m _ p' (rl + 1) c' (R ++ [t.k]) (by omega) (by omega) ?_ ((hm.push gr m').set (.inr (by simp)) _) (get_set_self _ _ _) ?_ (fun h'' rp' rl' rc' e1 e2 e3 => k h'' rp' rl' rc' e1 e2 ?_)
    · simp; omega
    · rw [List.map_append]
      exact Grow.mod g' ((Mod.refl [tb] _).set (.inr (by simp)) _) fun x hx hx' => by
        have := hfr x hx
        simp at hx'
        omega
    · rw [List.append_assoc, List.singleton_append, ← List.replicate_succ] at e3
      exact e3

theorem ringOf_snoc (L : List Bk) (ys : List Nat) (y : Nat) : ringOf L (ys ++ [y]) = ringOf L ys ++ List.replicate (wt L y).toNat (y : Int) := by
  unfold ringOf; rw [List.flatMap_append, List.flatMap_cons, List.flatMap_nil, List.append_nil]
theorem ringOf_len {L : List Bk} (hw : ∀ i, wt L i ≤ 100) : ∀ ys : List Nat, (ringOf L ys).length ≤ 100 * ys.length
  | [] => Nat.zero_le _
  | y :: ys => by
    have h1 := ringOf_len hw ys
    have h2 := hw y
    unfold ringOf at *
    rw [List.flatMap_cons, List.length_append, List.length_replicate, List.length_cons]
    omega
theorem wt_le {L : List Bk} (ho : okL L) (i : Nat) : wt L i ≤ 100 := by
  unfold wt
  cases h : L[i]? with
  | none => simp
  | some b => have := (ho.2.2.1 b (List.mem_of_getElem? h)).2.2.2; simpa using this

theorem New_L2 {a : H} {key : List Int} {L : List Bk} (ho : okL L) {i3 tb : Nat} {p : Option (Nat × Nat)} {c : Cap} {lp xp : Option (Nat × Nat)} {lc xc : Cap} {F : List Int} (hF : F.length = 251) {bs ys : List Nat} (hys : IsOrd L ys) (hl : bs.length = ys.length) (ltb : tb < a.next) (l3 : i3 < a.next) (h3t : i3 ≠ tb) (g3 : a.get i3 = some (.cells [.slice xp L.length xc] false)) (xrow : KRow a xp L.length xc L) (hx : tb ∉ own xp) (row : Row a 1 p bs.length c (bs.map ptrOf)) (hp : tb ∉ own p)
    (blk : ∀ (i b j : Nat), bs[i]? = some b → ys[i]? = some j → b < a.next ∧ b ≠ tb ∧ ∃ x y, a.get b = some (.cells (tcells (tkOf key L j) x y) false)) {n : Nat} (hn : 5000 ≤ n) :
    ∀ (d i m : Nat) (h : H) (rp : Option (Nat × Nat)) (rl : Nat) (rc : Cap), i + d = bs.length → d < m → Mod [tb] a h → h.get tb = some (.cells (tcs lp L.length lc F rp rl rc) false) → Grow a h 1 rp rl rc ((ringOf L (ys.take i)).map i64) →
      Ret (maglev_New_10_L2 n m (some (i3, 0)) (some (tb, 0)) p bs.length c bs.length i h) fun z h' => z = (some (tb, 0), 0) ∧ Mod [tb] a h' ∧ ∃ rp rl rc, h'.get tb = some (.cells (tcs lp L.length lc F rp rl rc) false) ∧ Row h' 1 rp rl rc ((ringOf L ys).map i64) := by
  intro d
  induction d with
  | zero =>
    intro i m h rp rl rc hi hf hm g gr
    obtain ⟨m, rfl⟩ : ∃ m', m = m' + 1 := ⟨m - 1, by omega⟩
    rw [maglev_New_10_L2_eq, cast_not_lt (by omega), cond_false]
    rw [List.take_of_length_le (by omega)] at gr
    exact .pure ⟨rfl, hm, rp, rl, rc, g, gr.row⟩
  | succ d ih =>
    intro i m h rp rl rc hi hf hm g gr
    obtain ⟨m, rfl⟩ : ∃ m', m = m' + 1 := ⟨m - 1, by omega⟩
    have hlt : i < bs.length := by omega
    have hb : bs[i]? = some bs[i] := List.getElem?_eq_getElem hlt
    generalize bs[i] = b at hb
    have hy : ys[i]? = some ys[i] := List.getElem?_eq_getElem (by omega)
    generalize hye : ys[i] = j at hy
    obtain ⟨lb, hbt, x, y, gb⟩ := blk i b j hb hy
    have hjl : j < L.length := List.mem_range.1 (hys.perm.mem_iff.1 (List.mem_of_getElem? hy))
    have hk : L[j]? = some L[j] := List.getElem?_eq_getElem hjl
    have hok := ho.2.2.1 L[j] (List.getElem_mem hjl)
    have hyl : ys.length = L.length := by rw [hys.perm.length_eq, List.length_range]
    have hL := ho.2.1
    have hkey : (tkOf key L j).k = ((j : Nat) : Int) := rfl
    rw [maglev_New_10_L2_eq, cast_lt hlt, cond_true, (row.mod hm fun x hx hx' => by simp at hx'; exact hp (hx' ▸ hx)).ix1 hb]
    simp only [ptrOf]
    rw [asPtr_ptr]
    simp only [nnK_some', Nat.zero_add]
    rw [cellK_of (o := 0) ((hm.get _ l3 (by simpa using h3t)).trans g3) rfl, asSlice_slice, cellK_of (o := 0) ((hm.get _ lb (by simpa using hbt)).trans gb) rfl, asInt_int, hkey, Row.ix2 (Row.mod xrow hm fun x hx' hx'' => by simp at hx''; exact hx (hx'' ▸ hx')) encK_len hk 1 (v := .int .i64 (L[j]).2) rfl, asInt_int]
    have hw : (L[j]).2 = (((wt L j).toNat : Nat) : Int) := by rw [wt_of hk]; have := hok.2.2.1; omega
    rw [hw]
    have hrl := ringOf_len (wt_le ho) (ys.take i)
    have hti : (ys.take i).length = i := by simp; omega
    have hwl := wt_le ho j
    refine New_L3 hF ltb lb hbt gb (wt L j).toNat (by omega) (wt L j).toNat 0 n h rp rl rc (ringOf L (ys.take i)) (by omega) (by omega) (by omega) hm g gr fun h' rp' rl' rc' e1 e2 e3 => ?_
    rw [wrap_succ (by omega)]
    refine ih (i + 1) m h' rp' rl' rc' (by omega) (by omega) e1 e2 ?_
    rw [List.take_add_one, hy]
    rw [hkey] at e3
    show Grow a h' 1 rp' rl' rc' ((ringOf L (ys.take i ++ [j])).map i64)
    rw [ringOf_snoc]
    exact e3

end Go.Ev.Try
