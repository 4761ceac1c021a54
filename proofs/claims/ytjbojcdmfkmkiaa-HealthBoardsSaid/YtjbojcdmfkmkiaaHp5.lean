/- Chapter 11: the law HealthApart in plain Lean. -/
import Derived.Test.YtjbojcdmfkmkiaaHp4
set_option linter.all false
namespace Go.Ev.Try
set_option maxRecDepth 10000
open Go.Proofs

structure Bop where
  kind : Int
  k : Int
  good : Bool
def encB (o : Bop) : List AV := [i64 o.kind, i64 o.k, .bool o.good]
theorem encB_len : ∀ o : Bop, (encB o).length = 3 := fun _ => rfl
theorem open_bops {rows : Rows0} {i : Nat} {p : Option (Nat × Nat)} {l : Nat} {c : Cap} {tg : Option Tgt} {cs : List AV} {B : Nat} (hi : rows[i]? = some (tg, cs)) (w : Arg i [.int .i64, .int .i64, .bool] B p l c cs) :
    ∃ xs : List Bop, xs.length = l ∧ Row (H0 rows) 3 p l c (xs.flatMap encB) := by
  obtain ⟨xs, h1, _, h3, _⟩ := Row.of_arg (enc := encB) (P := fun _ => True) hi w encB_len fun vs hv => by
    obtain ⟨_, _, rfl, a, hv⟩ := fits_cons hv
    obtain ⟨_, _, rfl, b, hv⟩ := fits_cons hv
    obtain ⟨_, _, rfl, d, hv⟩ := fits_cons hv
    obtain rfl := fits_nil hv
    obtain ⟨x, rfl, _⟩ := a
    obtain ⟨y, rfl, _⟩ := b
    obtain ⟨z, rfl⟩ := d
    exact ⟨⟨x, y, z⟩, rfl, trivial⟩
  exact ⟨xs, h1, h3⟩

theorem apart_L3 {h : H} {q q2 : Option (Nat × Nat)} {ql ql2 : Nat} {qc qc2 : Cap} {xs ys : List Bool} (h1 : Row h 1 q ql qc (xs.map AV.bool)) (h2 : Row h 1 q2 ql2 qc2 (ys.map AV.bool)) (hlen : xs.length = ys.length) (hl : xs.length ≤ 16) {ib : Nat} {u v : AV} {K : Int} (gi : h.get ib = some (.cells [u, i64 K, v] false)) (hsame : ∀ j : Nat, (j : Int) ≠ K → xs[j]? = ys[j]?) {n : Nat} (kk : Bool → H → Option Unit) (m1 : Nat) (many : Int) (bb : Nat) (p : Option (Nat × Nat)) (pl : Nat) (pc : Cap) (zl zj : Int) :
    ∀ (d j m : Nat), j + d = xs.length → d < m → outriderlaw11_HealthApart_8_L3 n kk m1 m many (some (bb, 0)) (some (ib, 0)) q ql qc q2 ql2 qc2 p pl pc zl zj ql j h = outriderlaw11_HealthApart_8_L1 n kk m1 many (some (bb, 0)) p pl pc zl (IntKind.i64.wrap (zj + 1)) h
  | 0, j, m + 1, hj, _ => by
    have e1 := h1.len1
    rw [outriderlaw11_HealthApart_8_L3_eq, cast_not_lt (by omega), cond_false]
  | d + 1, j, m + 1, hj, hf => by
    have e1 := h1.len1
    have e2 := h2.len1
    have hx : xs[j]? = some xs[j] := List.getElem?_eq_getElem (by omega)
    have hy : ys[j]? = some ys[j] := List.getElem?_eq_getElem (by omega)
    have ih := apart_L3 h1 h2 hlen hl gi hsame (n := n) kk m1 many bb p pl pc zl zj d (j + 1) m (by omega) (by omega)
    rw [outriderlaw11_HealthApart_8_L3_eq, cast_lt (by omega), cond_true]
    simp only [nnK_some', Nat.zero_add]
    rw [cellK_of (o := 1) gi rfl, asInt_int]
    by_cases he : (j : Int) = K
    · rw [show ((j : Int) != K) = false by simpa using he, cond_false, outriderlaw11_HealthApart_8_J4_eq, cond_false, wrap_succ (by omega)]
      exact ih
    · rw [show ((j : Int) != K) = true by simpa using he, cond_true, h1.ix1 hx, asBool_bool, h2.ix1 hy, asBool_bool]
      have : xs[j] = ys[j] := by
        have := hsame j he
        rw [hx, hy] at this
        exact Option.some.inj this
      rw [this, show (ys[j] == ys[j]) = true by simp, Bool.not_true, outriderlaw11_HealthApart_8_J4_eq, cond_false, wrap_succ (by omega)]
      exact ih

theorem apart_L1 {r : Rul} (ho : okR r) {bb : Nat} {p : Option (Nat × Nat)} {c : Cap} {ps : List Nat} {wb : Nat} {WB : List Nat} {now : Int} {L : List (Int × Int)} {many : Int} (hps : (ps.length : Int) = many) (hmany : many ≤ 16) {a : H} {zp : Option (Nat × Nat)} {zl : Nat} {zc : Cap} {os : List Bop} (hrow : Row a 3 zp zl zc (os.flatMap encB)) (hown : ∀ x ∈ own zp, x ∉ ps) (hl : os.length ≤ 500) {n : Nat} (hn : 1000 ≤ n) {kk : Bool → H → Option Unit} (hk : ∀ h, kk true h = some ()) :
    ∀ (ts pre : List Bop) (m : Nat) (h : H) (st : List (Bool × Int)), os = pre ++ ts → ts.length < m → BRep h bb r p c ps st wb WB now L → (∀ s ∈ st, okP r s) → Mod ps a h →
      outriderlaw11_HealthApart_8_L1 n kk m many (some (bb, 0)) zp zl zc zl pre.length h = some ()
  | [], pre, m + 1, h, st, hx, _, _, _, hm => by
    have hlen := hrow.len encB_len (by omega)
    rw [outriderlaw11_HealthApart_8_L1_eq, cast_not_lt (by rw [← hlen, hx]; simp), cond_false]
    exact alive_ret h hn _ fun q h' ⟨e, _⟩ => by rw [e]; exact hk _
  | t :: ts, pre, m + 1, h, st, hx, hf, b, hst, hm => by
    have hlen := hrow.len encB_len (by omega)
    have ht : os[pre.length]? = some t := by rw [hx]; simp
    have hlt : pre.length < os.length := by rw [hx]; simp
    have hle := hm.next
    rw [outriderlaw11_HealthApart_8_L1_eq, cast_lt (by omega), cond_true, (hrow.mod hm hown).ix encB_len (by omega) ht]
    simp only [encB, lc_cons, l0_nil, asInt_int, asBool_bool, newK_eq]
    rw [wrK_of (n := 3) (get_new_self _ _) rfl (by simp) rfl, spl_all _ _ (by simp), set_new]
    have m1 : Mod [] h (h.new (.cells [.int .i64 t.kind, .int .i64 t.k, .bool t.good] false)) := (Mod.refl _ _).new _
    have g1 := get_new_self h (.cells [.int .i64 t.kind, .int .i64 t.k, .bool t.good] false)
    have n1 : (h.new (.cells [.int .i64 t.kind, .int .i64 t.k, .bool t.good] false)).next = h.next + 1 := rfl
    generalize h.new (.cells [.int .i64 t.kind, .int .i64 t.k, .bool t.good] false) = h1 at *
    have b1 := b.mod0 m1
    obtain ⟨q, h2, e2, gu, m2⟩ := UpB_ret b1 (by omega) (n := n) (by omega)
    rw [e2, Option.bind_some]
    simp only
    have hn2 := m2.next
    have g2 := (m2.get _ (by omega) (by simp)).trans g1
    rw [cellK_of (o := 1) g2 rfl, asInt_int, cellK_of (o := 2) g2 rfl, asBool_bool]
    have b2 := b1.mod0 m2
    have hbl := b.lp
    -- what is told
    obtain ⟨ch, h3, st3, e3, b3, m3, hst3, hsame⟩ : ∃ ch h3 st3, health_Board_Tell_20 n (some (bb, 0)) t.k t.good h2 = some ((ch, decide (0 ≤ t.k ∧ t.k < many)), h3) ∧ BRep h3 bb r p c ps st3 wb WB now L ∧ Mod ps h2 h3 ∧ (∀ s ∈ st3, okP r s) ∧ ∀ j : Nat, (j : Int) ≠ t.k → st3[j]? = st[j]? := by
      by_cases hk' : 0 ≤ t.k ∧ t.k < (ps.length : Int)
      · obtain ⟨j, hj⟩ : ∃ j : Nat, t.k = j := ⟨t.k.toNat, by omega⟩
        have hjl : j < st.length := by rw [b.len]; omega
        obtain ⟨h3, e3, b3, m3⟩ := TellB_ret b2 ho hst (List.getElem?_eq_getElem hjl) t.good n
        rw [← hj] at e3
        refine ⟨_, h3, _, by rw [e3, decide_eq_true (by omega)], b3, m3, fun s hs => ?_, fun i hi => List.getElem?_set_ne (by omega)⟩
        rcases List.mem_or_eq_of_mem_set hs with hs | rfl
        · exact hst s hs
        · exact (hst _ (List.getElem_mem hjl)).tell ho _
      · exact ⟨false, h2, st, by rw [TellB_bad b2 hk' t.good n, decide_eq_false (by omega)], b2, Mod.refl _ _, hst, fun _ _ => rfl⟩
    rw [e3, Option.bind_some]
    obtain ⟨q4, h4, e4, gu4, m4⟩ := UpB_ret b3 (by omega) (n := n) (by omega)
    simp only
    rw [e4, Option.bind_some]
    have hn3 := m3.next
    have hn4 := m4.next
    have hips : h.next ∉ ps := fun hx => by have := hbl _ hx; omega
    have g4 : h4.get h.next = some (.cells [.int .i64 t.kind, .int .i64 t.k, .bool t.good] false) := (m4.get _ (by omega) (by simp)).trans ((m3.get _ (by omega) hips).trans g2)
    rw [cellK_of (o := 1) g4 rfl, asInt_int]
    have row1 : Row h4 1 q.1 q.2.1 q.2.2 ((st.map fun s => s.1).map AV.bool) := by
      have := (gu.row.mod m3 fun x hx hxp => by have := (gu.own_ge x hx).1; have := hbl x hxp; omega).mod0 m4
      rw [List.map_map]; exact this
    have row2 : Row h4 1 q4.1 q4.2.1 q4.2.2 ((st3.map fun s => s.1).map AV.bool) := by
      rw [List.map_map]; exact gu4.row
    have l1 := row1.len1
    have l2 := row2.len1
    simp only [List.length_map] at l1 l2
    have hb1 := b.len
    have hb3 := b3.len
    have fin : outriderlaw11_HealthApart_8_J2 n kk m many (some (bb, 0)) (some (h.next, 0)) q.1 q.2.1 q.2.2 q4.1 q4.2.1 q4.2.2 zp zl zc zl pre.length (((Nat.cast q4.2.1) : Int) != many) h4 = some () := by
      rw [show (((q4.2.1 : Nat) : Int) != many) = false by simp; omega, outriderlaw11_HealthApart_8_J2_eq, cond_false]
      have := apart_L3 row1 row2 (by simp; omega) (by simp; omega) (ib := h.next) (K := t.k) g4 (fun j hj => by rw [List.getElem?_map, List.getElem?_map, hsame j hj]) (n := n) kk m many bb zp zl zc zl pre.length st.length 0 n (by simp) (by omega)
      refine Eq.trans this ?_
      rw [wrap_succ (by omega)]
      have ih := apart_L1 ho hps hmany hrow hown hl hn hk ts (pre ++ [t]) m h4 st3 (by rw [hx]; simp) (by simp at hf; omega) (b3.mod0 m4) hst3 (((hm.trans (m1.trans m2).of_nil).trans m3).trans m4.of_nil)
      rw [List.length_append, List.length_singleton] at ih
      exact ih
    by_cases h0 : t.k ≥ 0
    · rw [decide_eq_true h0, cond_true, cellK_of (o := 1) g4 rfl, asInt_int, show (decide (0 ≤ t.k ∧ t.k < many) == decide (t.k < many)) = true by simp; omega, Bool.not_true, cond_false]
      exact fin
    · rw [decide_eq_false h0, cond_false, show (decide (0 ≤ t.k ∧ t.k < many) == false) = true by simp; omega, Bool.not_true, cond_false]
      exact fin

section
variable {p : Option (Nat × Nat)} {l : Nat} {c : Cap} {tg : Option Tgt} {cs : List AV} {B : Nat}

theorem healthApart_true {x y z : Int} (_ : (Lit.int .i64 x).wf = true) (_ : (Lit.int .i64 y).wf = true) (_ : (Lit.int .i64 z).wf = true) {many : Int} (_ : (Lit.int .i64 many).wf = true) (w : Arg 0 [.int .i64, .int .i64, .bool] B p l c cs) : ∃ n, RetK (fun kk => outriderlaw11_HealthApart_8 n x y z many p l c (H0 [(tg, cs)]) kk) True' := by
  obtain ⟨os, rfl, row⟩ := open_bops (rows := [(tg, cs)]) rfl w
  refine ⟨2000, fun kk hk0 => ?_⟩
  have hk : ∀ h, kk true h = some () := fun h => hk0 _ _ rfl
  show outriderlaw11_HealthApart_8 2000 x y z many p os.length c (H0 [(tg, cs)]) kk = some ()
  obtain ⟨r, hr1, hr2, hr3⟩ : ∃ r : Rul, r.rise = x ∧ r.fall = y ∧ r.every = z := ⟨⟨x, y, z⟩, rfl, rfl, rfl⟩
  rw [← hr1, ← hr2, ← hr3, outriderlaw11_HealthApart_8_eq, newK_eq]
  generalize H0 [(tg, cs)] = h0 at *
  have m0 : Mod [] h0 (h0.new (.cells (rcells r) false)) := (Mod.refl _ _).new _
  have g0 := get_new_self h0 (.cells (rcells r) false)
  have n0 : (h0.new (.cells (rcells r) false)).next = h0.next + 1 := rfl
  rw [show (AObj.cells [.int .i64 r.rise, .int .i64 r.fall, .int .i64 r.every] false) = .cells (rcells r) false from rfl]
  generalize h0.new (.cells (rcells r) false) = h1 at *
  rw [aggK_all (n := 3) g0 rfl]
  simp only [rcells, lc_cons, l0_nil, asInt_int]
  obtain ⟨q, h2, e2, m2, d2⟩ := Lay_ret r many h1 (n := 2000) (by omega)
  rw [e2, Option.bind_some]
  have early : ∀ ptr, outriderlaw11_HealthApart_8_J0 2000 kk many p os.length c ptr true h2 = some () := fun ptr => by
    rw [outriderlaw11_HealthApart_8_J0_eq, cond_true]
    exact alive_ret h2 (by omega) _ fun q h' ⟨e, _⟩ => by rw [e]; exact hk _
  by_cases ho : okR r ∧ 1 ≤ many ∧ many ≤ 16
  · rw [if_pos ho] at d2
    obtain ⟨bb, bp, bc, ps, wb, WB, rfl, hpl, b, hfr⟩ := d2
    simp only
    rw [show ((0 : Int) != 0) = false by decide, cond_false, eqVK_ptr Try.underlying33, Option.isNone_some, cond_false]
    by_cases hl : os.length ≤ 500
    · rw [show decide ((os.length : Int) > 500) = false by simp; omega, outriderlaw11_HealthApart_8_J0_eq, cond_false]
      refine apart_L1 ho.1 (ps := ps) (by omega) ho.2.2 (row.mod0 (m0.trans m2)) (fun v hv hvp => ?_) hl (by omega) hk os [] 2000 h2 _ rfl (by omega) b (fun s hs => ?_) (Mod.refl _ _)
      · have := row.lt v hv
        have := hfr v (by simp [bblocks, hvp])
        omega
      · rw [List.eq_of_mem_replicate hs]; exact okP.start ho.1 false
    · rw [show decide ((os.length : Int) > 500) = true by simp; omega]
      exact early _
  · rw [if_neg ho] at d2
    subst d2
    simp only
    rw [show ((1 : Int) != 0) = true by decide, cond_true]
    exact early _
end

end Go.Ev.Try
