/- Chapter 08: take, fill. -/
import Derived.Test.YtlodaclifccchaaMg7
set_option linter.all false
namespace Go.Ev.Try
set_option maxRecDepth 10000
open Go.Proofs

def ptrOf (b : Nat) : AV := .ptr (some (b, 0))
def tcells (t : Tk) (tried cr : Int) : List AV := [.int .i64 t.k, .int .i64 t.at', .int .i64 t.step, .int .i64 tried, .int .i64 cr]
/-- a table's cells -/
def tcs (lp : Option (Nat × Nat)) (ll : Nat) (lc : Cap) (P : List Int) (rp : Option (Nat × Nat)) (rl : Nat) (rc : Cap) : List AV := .slice lp ll lc :: (P.map i64 ++ [.slice rp rl rc])

section
variable {lp : Option (Nat × Nat)} {ll : Nat} {lc : Cap} {P : List Int} {rp : Option (Nat × Nat)} {rl : Nat} {rc : Cap}
theorem tcs_len (hP : P.length = 251) : (tcs lp ll lc P rp rl rc).length = 253 := by simp [tcs, hP]
theorem tcs_get {i : Nat} {x : Int} (h : P[i]? = some x) : (tcs lp ll lc P rp rl rc)[1 + i]? = some (.int .i64 x) := by
  have hl := (List.getElem?_eq_some_iff.1 h).1
  unfold tcs
  rw [Nat.add_comm, List.getElem?_cons_succ, List.getElem?_append_left (by simpa using hl), List.getElem?_map, h]; rfl
theorem tcs_set {i : Nat} {x : Int} (h : i < P.length) : (tcs lp ll lc P rp rl rc).set (1 + i) (.int .i64 x) = tcs lp ll lc (P.set i x) rp rl rc := by
  unfold tcs
  rw [Nat.add_comm, List.set_cons_succ, List.set_append_left _ _ (by simpa using h), List.map_set]
theorem tcs_ring (hP : P.length = 251) : (tcs lp ll lc P rp rl rc)[252]? = some (.slice rp rl rc) := by
  unfold tcs
  rw [List.getElem?_cons_succ, List.getElem?_append_right (by simp [hP])]
  simp [hP]
theorem tcs_setring (hP : P.length = 251) {rp' : Option (Nat × Nat)} {rl' : Nat} {rc' : Cap} : (tcs lp ll lc P rp rl rc).set 252 (.slice rp' rl' rc') = tcs lp ll lc P rp' rl' rc' := by
  unfold tcs
  rw [List.set_cons_succ, List.set_append_right _ _ (by simp [hP])]
  simp [hP]
end

theorem pos_int (t : Tk) (i : Nat) : ((t.pos i : Nat) : Int) = (t.at' + i * t.step) % 251 := by unfold Tk.pos; omega

theorem next_eq {top : Int} {t : Tk} (ht : t.Ok top) {h : H} {ic kb : Nat} {tried : Nat} {cr : Int} (hne : kb ≠ ic) (g : h.get ic = some (.cells [.ptr (some (kb, 0))] false)) (gk : h.get kb = some (.cells (tcells t tried cr) false)) (hb : tried ≤ 300) (n : Nat) :
    maglev_Table_take_1_55 n (some (ic, 0)) h = some (((t.pos tried : Nat) : Int), h.set kb (.cells (tcells t ((tried + 1 : Nat) : Int) cr) false)) := by
  have a0 := ht.a0
  have a1 := ht.a1
  have s0 := ht.s0
  have s1 := ht.s1
  have hm0 : 0 ≤ (tried : Int) * t.step := Int.mul_nonneg (by omega) (by omega)
  have hm1 : (tried : Int) * t.step ≤ 300 * 250 := Int.mul_le_mul (by omega) s1 (by omega) (by omega)
  rw [maglev_Table_take_1_55_eq]
  simp only [nnK_some', Nat.zero_add]
  rw [cellK_of (o := 0) g rfl, asPtr_ptr]
  simp only [nnK_some', Nat.zero_add]
  rw [cellK_of (o := 1) gk rfl, asInt_int, cellK_of (o := 0) g rfl, asPtr_ptr]
  simp only [nnK_some', Nat.zero_add]
  rw [cellK_of (o := 3) gk rfl, asInt_int, cellK_of (o := 0) g rfl, asPtr_ptr]
  simp only [nnK_some', Nat.zero_add]
  rw [cellK_of (o := 2) gk rfl, asInt_int, cellK_of (o := 0) g rfl, asPtr_ptr]
  simp only [nnK_some', Nat.zero_add]
  rw [cellK_of (o := 3) gk rfl, asInt_int, wrap_i64 (x := (tried : Int) + 1) (by omega) (by omega), wrK_one (o := 3) gk (by simp [tcells]) rfl, wrap_i64 (x := (tried : Int) * t.step) (by omega) (by omega), wrap_i64 (by omega) (by omega), Int.tmod_eq_emod_of_nonneg (by omega), pos_int]
  rfl

theorem take_loop {top : Int} {t : Tk} (ht : t.Ok top) {P : List Int} (hP : P.length = 251) {s : Nat} (hs : slot P t = some s) {tb ic kb : Nat} (h1 : tb ≠ ic) (h2 : tb ≠ kb) (h3 : kb ≠ ic) {lp : Option (Nat × Nat)} {ll : Nat} {lc : Cap} {rp : Option (Nat × Nat)} {rl : Nat} {rc : Cap} {cr : Int} (n : Nat) :
    ∀ (d j m : Nat) (h : H), j + d = s → d < m → h.get tb = some (.cells (tcs lp ll lc P rp rl rc) false) → h.get ic = some (.cells [.ptr (some (kb, 0))] false) → h.get kb = some (.cells (tcells t ((j + 1 : Nat) : Int) cr) false) →
    Ret (maglev_Table_take_41_L0 n m (some (tb, 0)) (some (ic, 0)) (some (ic, 0)) (t.pos j) h) fun _ h' => h'.get tb = some (.cells (tcs lp ll lc (put P t) rp rl rc) false) ∧ h'.get kb = some (.cells (tcells t ((s + 1 : Nat) : Int) cr) false) ∧ Mod [kb, tb] h h' := by
  obtain ⟨s1, s2, s3⟩ := slot_some hs
  intro d
  induction d with
  | zero =>
    intro j m h hj hf gt gi gk
    obtain ⟨m, rfl⟩ : ∃ m', m = m' + 1 := ⟨m - 1, by omega⟩
    obtain rfl : j = s := by omega
    have hpl := t.pos_lt j
    rw [maglev_Table_take_41_L0_eq]
    simp only [nnK_some', Nat.zero_add]
    rw [if_pos ⟨by omega, by omega⟩, Int.toNat_natCast, cellK_of gt (tcs_get s2), asInt_int, show ((-1 : Int) != -1) = false by decide, cond_false, cellK_of (o := 0) gi rfl, asPtr_ptr]
    simp only [nnK_some', Nat.zero_add]
    rw [cellK_of (o := 0) gk rfl, asInt_int, if_pos ⟨by omega, by omega⟩, wrK_one gt (by rw [tcs_len hP]; omega) rfl, tcs_set (by omega)]
    refine .pure ⟨?_, (get_set_ne h2.symm).trans gk, (Mod.refl _ _).set (.inr (by simp)) _⟩
    rw [put_some hs]
    exact get_set_self _ _ _
  | succ d ih =>
    intro j m h hj hf gt gi gk
    obtain ⟨m, rfl⟩ : ∃ m', m = m' + 1 := ⟨m - 1, by omega⟩
    have hpl := t.pos_lt j
    have hx : P[t.pos j]? = some P[t.pos j] := List.getElem?_eq_getElem (by omega)
    have hne : P[t.pos j] ≠ -1 := fun e => s3 j (by omega) (hx.trans (by rw [e]))
    rw [maglev_Table_take_41_L0_eq]
    simp only [nnK_some', Nat.zero_add]
    rw [if_pos ⟨by omega, by omega⟩, Int.toNat_natCast, cellK_of gt (tcs_get hx), asInt_int, show (P[t.pos j] != -1) = true by simpa using hne, cond_true, next_eq ht h3 gi gk (by omega) n, Option.bind_some]
    refine (ih (j + 1) m _ (by omega) (by omega) ((get_set_ne h2).trans gt) ((get_set_ne h3.symm).trans gi) (get_set_self _ _ _)).mono fun _ h' ⟨e1, e2, e3⟩ => ⟨e1, e2, ?_⟩
    exact ((Mod.refl [kb, tb] h).set (.inr (by simp)) _).trans e3

theorem take_ret {top : Int} {t : Tk} (ht : t.Ok top) {P : List Int} (hP : P.length = 251) {s : Nat} (hs : slot P t = some s) {tb kb : Nat} (h2 : tb ≠ kb) {lp : Option (Nat × Nat)} {ll : Nat} {lc : Cap} {rp : Option (Nat × Nat)} {rl : Nat} {rc : Cap} {cr : Int} {n : Nat} (hn : 300 ≤ n) {tried : Nat} (htr : ∀ j, j < tried → P[t.pos j]? ≠ some (-1)) {h : H} (ltb : tb < h.next) (lkb : kb < h.next)
    (gt : h.get tb = some (.cells (tcs lp ll lc P rp rl rc) false)) (gk : h.get kb = some (.cells (tcells t tried cr) false)) :
    Ret (maglev_Table_take_41 n (some (tb, 0)) (some (kb, 0)) h) fun _ h' => h'.get tb = some (.cells (tcs lp ll lc (put P t) rp rl rc) false) ∧ h'.get kb = some (.cells (tcells t ((s + 1 : Nat) : Int) cr) false) ∧ Mod [kb, tb] h h' := by
  obtain ⟨s1, s2, s3⟩ := slot_some hs
  have hts : tried ≤ s := by
    rcases Nat.lt_or_ge s tried with h | h
    · exact absurd s2 (htr s h)
    · exact h
  rw [maglev_Table_take_41_eq, newK_eq]
  have m1 : Mod [] h (h.new (.cells [.ptr (some (kb, 0))] false)) := (Mod.refl _ _).new _
  have g1 := get_new_self h (.cells [.ptr (some (kb, 0))] false)
  generalize h.new (.cells [.ptr (some (kb, 0))] false) = h1 at *
  have gt1 := (m1.get _ ltb (by simp)).trans gt
  have gk1 := (m1.get _ lkb (by simp)).trans gk
  rw [next_eq ht (by omega) g1 gk1 (by omega) n, Option.bind_some]
  refine (take_loop ht hP hs (tb := tb) (ic := h.next) (kb := kb) (by omega) h2 (by omega) n (s - tried) tried n _ (by omega) (by omega) ((get_set_ne h2).trans gt1) ((get_set_ne (by omega)).trans g1) (get_set_self _ _ _)).mono fun _ h' ⟨e1, e2, e3⟩ => ⟨e1, e2, ?_⟩
  exact (m1.of_nil.set (.inr (by simp)) _).trans e3

/-! ### fill -/

structure FRep (a h : H) (tb : Nat) (L : List Bk) (lp : Option (Nat × Nat)) (lc : Cap) (p : Option (Nat × Nat)) (c : Cap) (ps : List Nat) (T : List Tk) (P : List Int) (ts : List (Tk × Int)) : Prop where
  tks : ts.map (·.1) = T
  tab : h.get tb = some (.cells (tcs lp L.length lc P none 0 (.known 0)) false)
  tk : ∀ (i b : Nat) x, ps[i]? = some b → ts[i]? = some x → ∃ tried : Nat, (∀ j, j < tried → P[x.1.pos j]? ≠ some (-1)) ∧ h.get b = some (.cells (tcells x.1 tried x.2) false)
  plen : P.length = 251
  len : ts.length = ps.length
  row : Row h 1 p ps.length c (ps.map ptrOf)
  lrow : KRow h lp L.length lc L
  wt : ∀ x ∈ ts, ∃ nm, L[x.1.k.toNat]? = some (nm, x.1.w)
  d1 : tb ∉ ps ∧ tb ∉ own p ∧ tb ∉ own lp
  d2 : ∀ x ∈ ps, x ∉ own p ∧ x ∉ own lp
  d3 : ps.Nodup
  lt : tb < h.next ∧ ∀ x ∈ ps, x < h.next
  m : Mod (tb :: ps) a h

section
variable {a h : H} {tb : Nat} {L : List Bk} {lp : Option (Nat × Nat)} {lc : Cap} {p : Option (Nat × Nat)} {c : Cap} {ps : List Nat} {T : List Tk} {P : List Int} {ts : List (Tk × Int)}

theorem put_keeps {P : List Int} {t : Tk} (hk : 0 ≤ t.k) {q : Nat} (h : P[q]? ≠ some (-1)) : (put P t)[q]? ≠ some (-1) := by
  unfold put
  split
  · exact h
  · rw [List.getElem?_set]
    split
    · split
      · simp; omega
      · simp
    · exact h

theorem FRep.upd (f : FRep a h tb L lp lc p c ps T P ts) {i b : Nat} {x : Tk × Int} (hb : ps[i]? = some b) (hx : ts[i]? = some x) {h' : H} {P' : List Int} {c' : Int} {tried : Nat} (m : Mod [b, tb] h h') (gt : h'.get tb = some (.cells (tcs lp L.length lc P' none 0 (.known 0)) false)) (gb : h'.get b = some (.cells (tcells x.1 tried c') false)) (htr : ∀ j, j < tried → P'[x.1.pos j]? ≠ some (-1)) (hP : P'.length = 251) (keep : ∀ q : Nat, P[q]? ≠ some (-1) → P'[q]? ≠ some (-1)) : FRep a h' tb L lp lc p c ps T P' (ts.set i (x.1, c')) := by
  have hbm : b ∈ ps := List.mem_of_getElem? hb
  have hil : i < ts.length := (List.getElem?_eq_some_iff.1 hx).1
  refine ⟨?_, gt, fun j b2 y h1 h2 => ?_, hP, by rw [List.length_set]; exact f.len, f.row.mod m fun y hy hy' => ?_, Row.mod f.lrow m fun y hy hy' => ?_, fun y hy => ?_, f.d1, f.d2, f.d3, ⟨m.lt f.lt.1, fun y hy => m.lt (f.lt.2 y hy)⟩, f.m.trans (m.sub fun y hy _ => ?_)⟩
  · rw [List.map_set, ← f.tks]
    apply List.ext_getElem?
    intro j
    rw [List.getElem?_set]
    split
    · rename_i e
      subst e
      rw [List.getElem?_map, hx]
      simp [hil]
    · rfl
  · by_cases hij : i = j
    · subst hij
      rw [hb] at h1
      cases h1
      rw [List.getElem?_set_self hil] at h2
      cases h2
      exact ⟨tried, htr, gb⟩
    · rw [List.getElem?_set_ne hij] at h2
      obtain ⟨tr, h3, h4⟩ := f.tk j b2 y h1 h2
      have hb2 : b2 ∈ ps := List.mem_of_getElem? h1
      have hne : b2 ≠ b := fun e => hij (by
        subst e
        have l1 := (List.getElem?_eq_some_iff.1 hb).1
        exact (List.getElem?_inj l1 f.d3).1 (hb.trans h1.symm))
      refine ⟨tr, fun q hq => keep _ (h3 q hq), (m.get _ (f.lt.2 _ hb2) fun hm => ?_).trans h4⟩
      simp only [List.mem_cons, List.not_mem_nil, or_false] at hm
      rcases hm with hm | rfl
      · exact hne hm
      · exact f.d1.1 hb2
  · simp only [List.mem_cons, List.not_mem_nil, or_false] at hy'
    rcases hy' with rfl | rfl
    · exact (f.d2 _ hbm).1 hy
    · exact f.d1.2.1 hy
  · simp only [List.mem_cons, List.not_mem_nil, or_false] at hy'
    rcases hy' with rfl | rfl
    · exact (f.d2 _ hbm).2 hy
    · exact f.d1.2.2 hy
  · rcases List.mem_or_eq_of_mem_set hy with hy | rfl
    · exact f.wt y hy
    · exact f.wt x (List.mem_of_getElem? hx)
  · simp only [List.mem_cons, List.not_mem_nil, or_false] at hy
    rcases hy with rfl | rfl
    · exact List.mem_cons_of_mem _ hbm
    · exact List.mem_cons_self

theorem fill_L1 {top : Int} (htop : top ≤ 100) {n : Nat} (hn : 300 ≤ n) (hps : ps.length ≤ 16) {m1 : Nat} {F : List Int}
    (hL0 : ∀ (h' : H) (P' : List Int) (ts' : List (Tk × Int)), FRep a h' tb L lp lc p c ps T P' ts' → StT top (P', ts') → finP top (P', ts') = F → free P' < m1 → 0 < free P' → Ret (maglev_Table_fill_29_L0 n m1 (some (tb, 0)) p ps.length c top (free P') h') fun _ h'' => ∃ ts'', FRep a h'' tb L lp lc p c ps T F ts'') :
    ∀ (rest pre : List (Tk × Int)) (m : Nat) (h : H) (P : List Int), FRep a h tb L lp lc p c ps T P (pre ++ rest) → rest.length < m → 0 < free P → OkT top (pre ++ rest) → StT top ((turnT top P rest).1, pre ++ (turnT top P rest).2) → finP top ((turnT top P rest).1, pre ++ (turnT top P rest).2) = F → free (turnT top P rest).1 < m1 →
      Ret (maglev_Table_fill_29_L1 n m1 m (some (tb, 0)) p ps.length c top (free P) p ps.length c ps.length pre.length h) fun _ h'' => ∃ ts'', FRep a h'' tb L lp lc p c ps T F ts'' := by
  intro rest
  induction rest with
  | nil =>
    intro pre m h P f hm hf hok hst hF hm1
    obtain ⟨m, rfl⟩ : ∃ m', m = m' + 1 := ⟨m - 1, by omega⟩
    have hlen := f.len
    rw [List.append_nil] at f hlen
    rw [maglev_Table_fill_29_L1_eq, cast_not_lt (by omega), cond_false]
    simp only [turnT, List.append_nil] at hst hF hm1
    exact hL0 h P pre f hst hF hm1 hf
  | cons x rest ih =>
    intro pre m h P f hm hf hok hst hF hm1
    obtain ⟨m, rfl⟩ : ∃ m', m = m' + 1 := ⟨m - 1, by omega⟩
    have hlen := f.len
    have hpl : pre.length < ps.length := by rw [← hlen]; simp
    have hb : ps[pre.length]? = some ps[pre.length] := List.getElem?_eq_getElem hpl
    generalize hbe : ps[pre.length] = b at hb
    have hbm : b ∈ ps := List.mem_of_getElem? hb
    have hx : (pre ++ x :: rest)[pre.length]? = some x := by simp
    have hxm : x ∈ pre ++ x :: rest := by simp
    obtain ⟨hxo, hx0, hx1⟩ := hok x hxm
    obtain ⟨tried, htr, gb⟩ := f.tk _ _ _ hb hx
    obtain ⟨nm, hw⟩ := f.wt x hxm
    have hw0 := hxo.w0
    have hw1 := hxo.w1
    have hk0 := hxo.k0
    have hkl := (List.getElem?_eq_some_iff.1 hw).1
    have htb : b ≠ tb := fun e => f.d1.1 (e ▸ hbm)
    rw [maglev_Table_fill_29_L1_eq, cast_lt hpl, cond_true, f.row.ix1 hb]
    simp only [ptrOf]
    rw [asPtr_ptr]
    simp only [nnK_some', Nat.zero_add]
    rw [cellK_of (o := 4) gb rfl, asInt_int, cellK_of (o := 0) f.tab rfl, asSlice_slice, cellK_of (o := 0) gb rfl, asInt_int]
    have hkk : x.1.k = ((x.1.k.toNat : Nat) : Int) := by omega
    rw [hkk, Row.ix2 f.lrow encK_len hw 1 (v := .int .i64 x.1.w) rfl, asInt_int, wrK_one (o := 4) gb (by simp [tcells]) rfl, wrap_i64 (by omega) (by omega)]
    have set4 : ∀ v : Int, (tcells x.1 tried x.2).set 4 (.int .i64 v) = tcells x.1 tried v := fun v => rfl
    rw [set4, cellK_of (o := 4) (get_set_self _ _ _) rfl, asInt_int]
    have hs1 : ∀ c', step1 top P x = (P, c') → FRep a (h.set b (.cells (tcells x.1 tried c') false)) tb L lp lc p c ps T P ((pre ++ x :: rest).set pre.length (x.1, c')) := fun c' _ =>
      f.upd hb hx (tried := tried) ((Mod.refl _ _).set (.inr (by simp)) _) ((get_set_ne (Ne.symm htb)).trans f.tab) (get_set_self _ _ _) htr f.plen (fun _ h => h)
    have hset : ∀ c', (pre ++ x :: rest).set pre.length (x.1, c') = (pre ++ [(x.1, c')]) ++ rest := fun c' => by
      rw [List.set_append_right _ _ (Nat.le_refl _), Nat.sub_self, List.set_cons_zero, List.append_assoc, List.singleton_append]
    have hturn : turnT top P (x :: rest) = ((turnT top (step1 top P x).1 rest).1, (x.1, (step1 top P x).2) :: (turnT top (step1 top P x).1 rest).2) := rfl
    rw [hturn] at hst hF hm1
    simp only at hst hF hm1
    rw [show pre ++ (x.1, (step1 top P x).2) :: (turnT top (step1 top P x).1 rest).2 = (pre ++ [(x.1, (step1 top P x).2)]) ++ (turnT top (step1 top P x).1 rest).2 by rw [List.append_assoc, List.singleton_append]] at hst hF
    have hok' : OkT top ((pre ++ [(x.1, (step1 top P x).2)]) ++ rest) := by
      intro y hy
      simp only [List.append_assoc, List.singleton_append, List.mem_append, List.mem_cons] at hy
      rcases hy with hy | rfl | hy
      · exact hok y (by simp [hy])
      · exact ⟨hxo, step1_credit hxo hx0 hx1⟩
      · exact hok y (by simp [hy])
    have hlen1 : ((pre ++ [(x.1, (step1 top P x).2)]).length : Int) = (pre.length : Int) + 1 := by simp
    by_cases hlt : x.2 + x.1.w < top
    · have hs : step1 top P x = (P, x.2 + x.1.w) := by unfold step1; rw [if_neg (by omega)]
      rw [decide_eq_true hlt, cond_true, wrap_i64 (by omega) (by omega)]
      have f' := hs1 _ hs
      rw [hset] at f'
      rw [hs] at hst hF hm1 hok' hlen1
      have := ih (pre ++ [(x.1, x.2 + x.1.w)]) m _ P f' (by simp at hm; omega) hf hok' hst hF hm1
      rw [hlen1] at this
      exact this
    · rw [decide_eq_false hlt, cond_false, cellK_of (o := 4) (get_set_self _ _ _) rfl, asInt_int, wrK_one (o := 4) (get_set_self _ _ _) (by simp [tcells]) rfl, wrap_i64 (x := x.2 + x.1.w - top) (by omega) (by omega), set_set]
      have set4' : ∀ v : Int, (tcells x.1 tried (x.2 + x.1.w)).set 4 (.int .i64 v) = tcells x.1 tried v := fun v => rfl
      rw [set4']
      obtain ⟨s, hsl⟩ := slot_ex hxo f.plen hf
      have hs : step1 top P x = (put P x.1, x.2 + x.1.w - top) := by unfold step1; rw [if_pos (by omega)]
      have hfp := free_put hsl hk0
      refine (take_ret (h := h.set b (.cells (tcells x.1 tried (x.2 + x.1.w - top)) false)) (lp := lp) (ll := L.length) (lc := lc) (rp := none) (rl := 0) (rc := .known 0) (cr := x.2 + x.1.w - top) hxo f.plen hsl (tb := tb) (kb := b) (Ne.symm htb) hn htr f.lt.1 (f.lt.2 _ hbm) ((get_set_ne (Ne.symm htb)).trans f.tab) (get_set_self _ _ _)).bind fun _ h2 ⟨gt2, gk2, m2⟩ => ?_
      simp only
      obtain ⟨q1, q2, q3⟩ := slot_some hsl
      have f' := f.upd hb hx (tried := s + 1) (c' := x.2 + x.1.w - top) (((Mod.refl [b, tb] h).set (.inr (by simp)) _).trans m2) gt2 gk2 (fun j hj => by
        by_cases hjs : j = s
        · subst hjs
          rw [put_some hsl, List.getElem?_set_self (by have := x.1.pos_lt j; have := f.plen; omega)]
          simp; omega
        · exact put_keeps hk0 (q3 j (by omega))) (by rw [put_len]; exact f.plen) (fun _ h => put_keeps hk0 h)
      rw [hset] at f'
      rw [hs] at hst hF hm1 hok' hlen1
      have hfl := free_le (P := P)
      have hP := f.plen
      rw [show IntKind.i64.wrap ((free P : Int) - 1) = ((free (put P x.1) : Nat) : Int) by rw [wrap_i64 (by omega) (by omega)]; omega]
      by_cases h0 : free (put P x.1) = 0
      · rw [h0, show (((0 : Nat) : Int) == 0) = true by decide, cond_true]
        refine .pure ⟨(pre ++ [(x.1, x.2 + x.1.w - top)]) ++ rest, ?_⟩
        have e1 : (turnT top (put P x.1) rest).1 = put P x.1 := turn_full rest h0
        simp only at hF
        rw [e1, fin_full h0] at hF
        rw [← hF]
        exact f'
      · rw [show (((free (put P x.1) : Nat) : Int) == 0) = false by simpa using h0, cond_false, wrap_i64 (by omega) (by omega)]
        have := ih (pre ++ [(x.1, x.2 + x.1.w - top)]) m _ (put P x.1) f' (by simp at hm; omega) (by omega) hok' hst hF hm1
        rw [hlen1] at this
        exact this

theorem fill_L0 {top : Int} (htop : top ≤ 100) {n : Nat} (hn : 300 ≤ n) (hps : ps.length ≤ 16) {F : List Int} : ∀ (m : Nat) (h : H) (P : List Int) (ts : List (Tk × Int)), FRep a h tb L lp lc p c ps T P ts → StT top (P, ts) → finP top (P, ts) = F → free P < m → 0 < free P →
    Ret (maglev_Table_fill_29_L0 n m (some (tb, 0)) p ps.length c top (free P) h) fun _ h'' => ∃ ts'', FRep a h'' tb L lp lc p c ps T F ts'' := by
  intro m
  induction m with
  | zero => intro h P ts _ _ _ hm; omega
  | succ m ih =>
    intro h P ts f hst hF hm hf
    rw [maglev_Table_fill_29_L0_eq]
    have hlen := f.len
    have hlt : free (turnT top P ts).1 < free P := turn_lt hst.ok hst.len hf hst.top
    have := fill_L1 htop hn hps (m1 := m) (fun h' P' ts' f' s' e' l' p' => ih h' P' ts' f' s' e' l' p') ts [] n h P f (by omega) hf hst.ok hst.turn ((fin_turn hst).trans hF) (by omega)
    exact this

theorem fill_ret {top : Int} (htop : top ≤ 100) {n : Nat} (hn : 300 ≤ n) (hps : ps.length ≤ 16) (f : FRep a h tb L lp lc p c ps T P ts) (hst : StT top (P, ts)) (hf : free P = 251) :
    Ret (maglev_Table_fill_29 n (some (tb, 0)) p ps.length c top h) fun _ h' => ∃ ts', FRep a h' tb L lp lc p c ps T (finP top (P, ts)) ts' := by
  rw [maglev_Table_fill_29_eq]
  have := fill_L0 htop hn hps n h P ts f hst rfl (by omega) (by omega)
  rw [hf] at this
  exact this
end

end Go.Ev.Try
