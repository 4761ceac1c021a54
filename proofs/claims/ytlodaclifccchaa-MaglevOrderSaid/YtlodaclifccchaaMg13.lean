/- Chapter 08: alive; names; own and New together. -/
import Derived.Test.YtlodaclifccchaaMg12
set_option linter.all false
namespace Go.Ev.Try
set_option maxRecDepth 10000
open Go.Proofs

def La : List Bk := [(⟨#[97]⟩, 1)]
theorem okLa : okL La := by
  refine ⟨by decide, by decide, fun b hb => ?_, fun i k hk x y h1 h2 => ?_⟩
  · simp [La] at hb
    subst hb
    exact ⟨by decide, by decide, by decide, by decide⟩
  · have h3 := (List.getElem?_eq_some_iff.1 h1).1
    simp [La] at h3
    omega
theorem fromF_none (R : List Int) : ∀ d at', fromF R [] d at' = (-1, false)
  | 0, _ => rfl
  | d + 1, at' => by
    rw [fromF, show isUp [] ((R[at' % R.length]?).getD 0) = false by simp [isUp], if_neg (by simp)]
    exact fromF_none R d _

theorem one_all {key : List Int} {L : List Bk} (ho : okL L) {ys : List Nat} (hy : IsOrd L ys) (h1 : L.length = 1) : placesOf key L ys = List.replicate 251 0 := by
  rw [List.eq_replicate_iff]
  refine ⟨placesOf_len _ _ _, fun x hx => ?_⟩
  obtain ⟨i, hi, rfl⟩ := placesOf_mem ho hy hx
  have : i = 0 := by omega
  subst this; rfl

theorem alive_ret (h : H) {n : Nat} (hn : 5000 ≤ n) : Ret (outriderlaw08_alive_12 n h) fun r h' => r = true ∧ Mod [] h h' := by
  rw [outriderlaw08_alive_12_eq, newK_eq]
  have m1 : Mod [] h (h.new (.cells [.str ⟨#[97]⟩, .int .i64 1] false)) := (Mod.refl _ _).new _
  have g1 := get_new_self h (.cells [.str ⟨#[97]⟩, .int .i64 1] false)
  have n1 : (h.new (.cells [.str ⟨#[97]⟩, .int .i64 1] false)).next = h.next + 1 := rfl
  generalize h.new (.cells [.str ⟨#[97]⟩, .int .i64 1] false) = h1 at *
  have row : KRow h1 (some (h.next, 0)) 1 (.known 1) La := .row (by omega) g1 rfl (by simp) (.inr ⟨1, rfl, Nat.le_refl _⟩)
  have hk : Bytes (List.replicate 16 0) := fun x hx => by rw [List.eq_of_mem_replicate hx]; exact ⟨by decide, by decide⟩
  obtain ⟨z, h2, e2, m2, d2⟩ := New_ret (key := List.replicate 16 0) hk (by simp) row hn
  rw [show u8s (List.replicate 16 0) = [(.int .u8 0), (.int .u8 0), (.int .u8 0), (.int .u8 0), (.int .u8 0), (.int .u8 0), (.int .u8 0), (.int .u8 0), (.int .u8 0), (.int .u8 0), (.int .u8 0), (.int .u8 0), (.int .u8 0), (.int .u8 0), (.int .u8 0), (.int .u8 0)] from rfl] at e2
  rw [if_pos okLa] at d2
  obtain ⟨tb, ys, rfl, hy, t⟩ := d2
  rw [e2, Option.bind_some]
  simp only
  rw [show ((0 : Int) != 0) = false by decide, cond_false, eqVK_ptr Try.underlying24, Option.isNone_some, outriderlaw08_alive_12_J0_eq, cond_false, newK_eq]
  have m3 : Mod [] h2 (h2.new (.cells [.bool true] false)) := (Mod.refl _ _).new _
  have g3 := get_new_self h2 (.cells [.bool true] false)
  have n3 : (h2.new (.cells [.bool true] false)).next = h2.next + 1 := rfl
  generalize h2.new (.cells [.bool true] false) = h3 at *
  rw [one_all okLa hy rfl] at t
  have t3 := t.mod0 m3
  have ur : Row h3 1 (some (h2.next, 0)) 1 (.known 1) ([true].map AV.bool) := .row (by omega) g3 rfl (by simp) (.inr ⟨1, rfl, Nat.le_refl _⟩)
  have hpos : ∀ x ∈ List.replicate 251 (0 : Int), 0 ≤ x := fun x hx => by rw [List.eq_of_mem_replicate hx]; omega
  have h5 : u64 5 := ⟨by decide, by decide⟩
  rw [t3.find hpos h5 ur (n := n) (by omega), Option.bind_some]
  have un : Row h3 1 none 0 (.known 0) (([] : List Bool).map AV.bool) := .nil
  simp only
  rw [t3.find hpos h5 un (n := n) (by omega), Option.bind_some]
  simp only
  have a0 := t3.at' (i := 0) (x := 0) (by decide) n
  simp only [Int.natCast_zero] at a0
  rw [a0, Option.bind_some]
  simp only
  rw [show ((0 : Int) == 0) = true by decide, cond_true, t3.atBad (i := 251) (by omega) n, Option.bind_some]
  simp only
  rw [show ((-1 : Int) == -1) = true by decide, cond_true, t3.count 0 (n := n) (by omega), Option.bind_some, List.count_replicate_self, show (((251 : Nat) : Int) == 251) = true by decide, cond_true]
  simp only
  have hf1 : fromF (List.replicate 251 0) [true] 251 ((5 : Int) % 251).toNat = (0, true) := by
    rw [fromF, show (List.replicate 251 (0 : Int))[((5 : Int) % 251).toNat % (List.replicate 251 (0 : Int)).length]? = some 0 by rw [List.getElem?_replicate, List.length_replicate]; rfl]
    rfl
  rw [hf1, fromF_none]
  simp only
  exact .pure ⟨rfl, (m1.trans m2).trans m3⟩

/-! ### own, then New -/

theorem u8s_key {c0 : List AV} (w : Fits ks16 c0) : ∃ key : List Int, c0 = u8s key ∧ key.length = 16 ∧ Bytes key := key_of w

theorem open_bks {rows : Rows0} {i : Nat} {p : Option (Nat × Nat)} {l : Nat} {c : Cap} {tg : Option Tgt} {cs : List AV} (hi : rows[i]? = some (tg, cs)) (w : Arg i [.str, .int .i64] 24 p l c cs) :
    ∃ L : List Bk, L.length = l ∧ l * 24 ≤ 140737488351232 ∧ KRow (H0 rows) p l c L := by
  obtain ⟨xs, h1, h2, h3, _⟩ := Row.of_arg (enc := encK) (P := fun _ => True) hi w encK_len fun vs hv => by
    obtain ⟨_, _, rfl, a, hv⟩ := fits_cons hv
    obtain ⟨_, _, rfl, b, hv⟩ := fits_cons hv
    obtain rfl := fits_nil hv
    obtain ⟨x, rfl, _⟩ := a
    obtain ⟨y, rfl, _⟩ := b
    exact ⟨(x, y), rfl, trivial⟩
  exact ⟨xs, h1, h2, h3⟩

/-- a table made of own(l) -/
theorem table_ret {α : Type} {h : H} {key : List Int} (hk : Bytes key) (hk2 : key.length = 16) {p : Option (Nat × Nat)} {len : Nat} {c : Cap} {L : List Bk} (hs : KRow h p len c L) (hl : len * 24 ≤ 140737488351232) {n : Nat} (hn : 5000 ≤ n) (hn2 : len < n) {f : (Option (Nat × Nat) × Int) × H → Option (α × H)} {Q : α → H → Prop}
    (k : ∀ z h', Mod [] h h' → (if okL L then ∃ tb ys, z = (some (tb, 0), 0) ∧ IsOrd L ys ∧ Tab h' tb L (placesOf key L ys) (ringOf L ys) else z = (none, 80)) → Ret (f (z, h')) Q) :
    Ret ((outriderlaw08_own_11 n p len c h).bind fun r4 => quietK true h r4.2 ((maglev_New_10 n (u8s key) r4.1.1 r4.1.2.1 r4.1.2.2 r4.2).bind f)) Q := by
  have hlen := Row.len hs encK_len (by omega)
  refine (own_ret hs (by omega) (n := n) (by omega)).bind fun z h1 ⟨row, _, m1⟩ => ?_
  simp only
  rw [quietK_mod m1]
  refine (New_ret hk hk2 row hn).bind fun z h2 ⟨m2, d⟩ => ?_
  exact k z h2 (m1.trans m2) d

theorem Names_loop {a : H} {p : Option (Nat × Nat)} {len : Nat} {c : Cap} {L : List Bk} (hs : KRow a p len c L) (hl : L.length < 1000000) (n : Nat) : ∀ (d i m : Nat) (q : Option (Nat × Nat)) (ql : Nat) (qc : Cap) (h : H), i + d = L.length → d < m → Grow a h 1 q ql qc ((L.take i).map fun b => AV.str b.1) → Mod [] a h →
    Ret (maglev_Table_Names_22_L0 n m q ql qc p len c len i h) fun z h' => Row h' 1 z.1 z.2.1 z.2.2 ((L.map (·.1)).map AV.str) ∧ Mod [] a h'
  | 0, i, m + 1, q, ql, qc, h, hi, _, g, hm => by
    have hlen := Row.len hs encK_len (by omega)
    rw [maglev_Table_Names_22_L0_eq, cast_not_lt (by omega), cond_false]
    rw [List.take_of_length_le (by omega)] at g
    refine .pure ⟨?_, hm⟩
    rw [List.map_map]
    exact g.row
  | d + 1, i, m + 1, q, ql, qc, h, hi, hf, g, hm => by
    have hlen := Row.len hs encK_len (by omega)
    have hlt : i < L.length := by omega
    have ht : L[i]? = some L[i] := List.getElem?_eq_getElem hlt
    generalize hte : L[i] = t at ht
    have hql : ql = i := by
      have := g.row.length
      simp at this; omega
    rw [maglev_Table_Names_22_L0_eq, cast_lt (by omega), cond_true, Row.ix (Row.mod0 hs hm) encK_len (by omega) ht]
    simp only [encK, lc_cons, l0_nil, asInt_int, asStr_str, newK_eq]
    rw [wrK_of (n := 2) (get_new_self _ _) rfl (by simp) rfl, spl_all _ _ (by simp), set_new]
    have m1 : Mod [] h (h.new (.cells [.str t.1, .int .i64 t.2] false)) := (Mod.refl _ _).new _
    have g1 := get_new_self h (.cells [.str t.1, .int .i64 t.2] false)
    generalize h.new (.cells [.str t.1, .int .i64 t.2] false) = h1 at *
    rw [cellK_of (o := 0) g1 rfl]
    simp only [asStr_str]
    rw [wrap_succ (by omega)]
    have hm1 := hm.trans m1
    have hg1 := g.mod0 m1
    refine Grow.push (size := 1) (bytes := 16) hg1 hm1.next (xs := [.str t.1]) rfl rfl (by omega) (by omega) (by omega) fun p' c' h' g' m' => ?_
    refine Names_loop hs hl n d (i + 1) m p' (ql + 1) c' h' (by omega) (by omega) ?_ (hm1.push hg1 m')
    rw [List.take_add_one, ht, List.map_append]
    exact g'
theorem Tab.names {h : H} {tb : Nat} {L : List Bk} {P R : List Int} (t : Tab h tb L P R) (hl : L.length < 1000000) {n : Nat} (hn : L.length < n) :
    Ret (maglev_Table_Names_22 n (some (tb, 0)) h) fun z h' => Row h' 1 z.1 z.2.1 z.2.2 ((L.map (·.1)).map AV.str) ∧ Mod [] h h' := by
  obtain ⟨lp, lc, rp, rl, rc, g, row, _⟩ := t.ex
  rw [maglev_Table_Names_22_eq]
  simp only [nnK_some']
  rw [cellK_of (o := 0) g rfl, asSlice_slice]
  exact Names_loop row hl n L.length 0 n none 0 (.known 0) h (by omega) hn .nil (Mod.refl _ _)

end Go.Ev.Try
