/- What the document writes: AddressText, CardText. -/
import Derived.Test.YtkikfnpanlcajaaDoorWr9
set_option linter.all false
namespace Go.Ev.Tryd
set_option maxRecDepth 10000
open Go.Proofs

theorem cat_ok {β : Type} {a b : ByteArray} (h : a.size + b.size ≤ 9223372036854775807) (f : ByteArray → Option β) : catK a b f = f (a ++ b) := by
  unfold catK
  rw [if_neg (by omega)]
/-- each part behind a byte -/
def tail1 (c : UInt8) (ps : List ByteArray) : List UInt8 := ps.flatMap fun p => c :: bs p
theorem join_tail (c : UInt8) : ∀ ps : List ByteArray, bs (joinS ps (mk [c])) = (tail1 c ps).drop 1
  | [] => rfl
  | [p] => by simp [tail1, joinS, bs, Lib.join, List.intercalate]
  | p :: q :: ps => by
    have ih := join_tail c (q :: ps)
    unfold joinS Lib.join bs at ih ⊢
    simp only [List.map_cons] at ih ⊢
    rw [List.intercalate_cons_cons]
    rw [ih]
    simp [tail1, bs, mk]

theorem nat10 (c : UInt8) {n : Nat} (hn : 4 ≤ n) (h : H) : ca n i_outriderref17_inBase [.int .i64 (c.toNat : Nat), .int .i64 10] h = some (.str (dT c), h) := by
  have := c.toNat_lt
  have := inBase_ret (b := 10) (.inl rfl) 3 c.toNat n h (by omega) (by omega) (by omega) (by omega) (by omega)
  rw [← dT_dg] at this
  exact this
theorem nat16 {u : Nat} (hu : u < 65536) {n : Nat} (hn : 5 ≤ n) (h : H) : ca n i_outriderref17_inBase [.int .i64 (u : Nat), .int .i64 16] h = some (.str (hT u), h) :=
  inBase_ret (b := 16) (.inr rfl) 4 u n h (by omega) (by omega) (by omega) (by omega) (by omega)

theorem out1 {s : ByteArray} (h : 1 ≤ s.size) : s.extract (1 : Int).toNat s.size = mk ((bs s).drop 1) := bs_inj (by
  rw [bs_extract, bs_mk, show (1 : Int).toNat = 1 from rfl, List.take_of_length_le (by rw [List.length_drop, bs_len]; omega)])

theorem rA4_loop {s : ByteArray} (hs : s.size = 4) {n : Nat} (hn : 5 ≤ n) (h : H) : ∀ (ts : List UInt8) (j m : Nat) (out : ByteArray), (bs s).drop j = ts → j + ts.length = 4 → ts.length < m → out.size ≤ 200 * j → (0 < j → 1 ≤ out.size) →
    outriderref17_AddressText_L0 n m s out j h = some (.str (mk ((bs out ++ tail1 46 (ts.map dT)).drop 1)), h)
  | [], j, m + 1, out, _, hj, _, hsz, h1 => by
    simp only [List.length_nil] at hj
    rw [outriderref17_AddressText_L0_eq, show decide (((j : Nat) : Int) < 4) = false by simp; omega, cond_false, bnd_from (by omega) (by have := h1 (by omega); omega), out1 (h1 (by omega))]
    simp [tail1]
  | x :: ts, j, m + 1, out, hd, hj, hm, hsz, h1 => by
    simp only [List.length_cons] at hj hm
    have hx : (bs s)[j]? = some x := by have := congrArg (·[0]?) hd; simpa using this
    have hd' : (bs s).drop (j + 1) = ts := by rw [← List.drop_drop, hd]; rfl
    have hxn := x.toNat_lt
    have hds := dT_size x
    have e1 : (⟨#[46]⟩ : ByteArray).size = 1 := rfl
    rw [outriderref17_AddressText_L0_eq, show decide (((j : Nat) : Int) < 4) = true by simp; omega, cond_true, cat_ok (by rw [e1]; omega), byteK_of hx, wrap_i64 (by omega) (by omega), nat10 x (by omega), Option.bind_some]
    simp only [asStr_str]
    have e2 : (out ++ (⟨#[46]⟩ : ByteArray)).size = out.size + 1 := by rw [← bs_len, bs_append, List.length_append, bs_len, bs_len]; rfl
    have e3 : (out ++ (⟨#[46]⟩ : ByteArray) ++ dT x).size = out.size + 1 + (dT x).size := by rw [← bs_len, bs_append, List.length_append, bs_len, bs_len, e2]
    rw [cat_ok (by omega), wrap_succ (by omega), rA4_loop hs hn h ts (j + 1) m _ hd' (by omega) (by omega) (by omega) (by omega)]
    rw [bs_append, bs_append]
    simp [tail1, bs]

theorem rA16_loop {s : ByteArray} (hs : s.size = 16) {n : Nat} (hn : 5 ≤ n) (h : H) : ∀ (ts : List UInt8) (j m : Nat) (out : ByteArray), (bs s).drop (2 * j) = ts → 2 * j + ts.length = 16 → ts.length < m → out.size ≤ 200 * j → (0 < j → 1 ≤ out.size) →
    outriderref17_AddressText_L1 n m s out ((2 * j : Nat) : Int) h = some (.str (mk ((bs out ++ tail1 58 ((prs ts).map hT)).drop 1)), h)
  | [], j, m + 1, out, _, hj, _, hsz, h1 => by
    simp only [List.length_nil] at hj
    rw [outriderref17_AddressText_L1_eq, show decide (((2 * j : Nat) : Int) < 16) = false by simp; omega, cond_false, bnd_from (by omega) (by have := h1 (by omega); omega), out1 (h1 (by omega))]
    simp [tail1, prs]
  | [_], j, _, _, _, hj, _, _, _ => by simp at hj; omega
  | x :: y :: ts, j, m + 1, out, hd, hj, hm, hsz, h1 => by
    simp only [List.length_cons] at hj hm
    have hx : (bs s)[2 * j]? = some x := by have := congrArg (·[0]?) hd; simpa using this
    have hy : (bs s)[2 * j + 1]? = some y := by have := congrArg (·[1]?) hd; simpa using this
    have hd' : (bs s).drop (2 * (j + 1)) = ts := by rw [show 2 * (j + 1) = 2 * j + 2 by omega, ← List.drop_drop, hd]; rfl
    have hxn := x.toNat_lt
    have hyn := y.toNat_lt
    have hds := hT_size (256 * x.toNat + y.toNat)
    have e1 : (⟨#[58]⟩ : ByteArray).size = 1 := rfl
    rw [outriderref17_AddressText_L1_eq, show decide (((2 * j : Nat) : Int) < 16) = true by simp; omega, cond_true, cat_ok (by rw [e1]; omega), byteK_of hx, wrap_succ (by omega), byteK_of hy, wrap_i64 (x := (x.toNat : Int)) (by omega) (by omega), wrap_i64 (x := (y.toNat : Int)) (by omega) (by omega), wrap_i64 (x := (x.toNat : Int) * 256) (by omega) (by omega), wrap_i64 (x := (x.toNat : Int) * 256 + y.toNat) (by omega) (by omega),
      show (x.toNat : Int) * 256 + y.toNat = ((256 * x.toNat + y.toNat : Nat) : Int) by omega, nat16 (by omega) (by omega), Option.bind_some]
    simp only [asStr_str]
    have e2 : (out ++ (⟨#[58]⟩ : ByteArray)).size = out.size + 1 := by rw [← bs_len, bs_append, List.length_append, bs_len, bs_len]; rfl
    have e3 : (out ++ (⟨#[58]⟩ : ByteArray) ++ hT (256 * x.toNat + y.toNat)).size = out.size + 1 + (hT (256 * x.toNat + y.toNat)).size := by rw [← bs_len, bs_append, List.length_append, bs_len, bs_len, e2]
    rw [cat_ok (by omega), wrap_i64 (by omega) (by omega), show (((2 * j : Nat) : Int) + 2) = ((2 * (j + 1) : Nat) : Int) by omega, rA16_loop hs hn h ts (j + 1) m _ hd' (by omega) (by omega) (by omega) (by omega)]
    rw [bs_append, bs_append]
    simp [tail1, bs, prs]

theorem rAddressText_eq (s : ByteArray) {n : Nat} (hn : 30 ≤ n) (h : H) : ca n i_outriderref17_AddressText [.str s] h = some (.str (pT s), h) := by
  obtain ⟨n, rfl⟩ : ∃ k, n = k + 1 := ⟨n - 1, by omega⟩
  rw [outriderref17_AddressText_eq]
  unfold pT
  have e0 : bs (⟨#[]⟩ : ByteArray) = [] := rfl
  have z0 : (⟨#[]⟩ : ByteArray).size = 0 := rfl
  by_cases h4 : s.size = 4
  · rw [show (((s.size : Nat) : Int) == 4) = true by simp; omega, cond_true, if_pos h4]
    have := rA4_loop h4 (n := n) (by omega) h (bs s) 0 n ⟨#[]⟩ rfl (by rw [bs_len]; omega) (by rw [bs_len]; omega) (by omega) (by omega)
    rw [e0, List.nil_append, ← join_tail, mk_bs] at this
    exact this
  · rw [show (((s.size : Nat) : Int) == 4) = false by simp; omega, cond_false, if_neg h4]
    by_cases h16 : s.size = 16
    · rw [show (((s.size : Nat) : Int) != 16) = false by simp; omega, cond_false, if_pos h16]
      have := rA16_loop h16 (n := n) (by omega) h (bs s) 0 n ⟨#[]⟩ rfl (by rw [bs_len]; omega) (by rw [bs_len]; omega) (by omega) (by omega)
      rw [e0, List.nil_append, ← join_tail, mk_bs] at this
      exact this
    · rw [show (((s.size : Nat) : Int) != 16) = true by simp; omega, cond_true, if_neg h16]

/-! ### CardText -/

theorem hx2_two {x : Nat} (hx : x < 256) : bs (hx2 (x : Int)) = [dig (x / 16), dig (x % 16)] := by
  have : ∀ k : Fin 256, bs (hx2 ((k.val : Nat) : Int)) = [dig (k.val / 16), dig (k.val % 16)] := by decide +kernel
  exact this ⟨x, hx⟩
theorem nib {u : Nat} (hu : u < 16) {n : Nat} (hn : 5 ≤ n) (h : H) : ca n i_outriderref17_inBase [.int .i64 (u : Nat), .int .i64 16] h = some (.str (mk [dig u]), h) := by
  have := inBase_ret (b := 16) (.inr rfl) 1 u n h (by omega) (by omega) (by omega) (by omega) (by omega)
  exact this.trans (by simp [dg, hu])

theorem rC_loop {n : Nat} (hn : 5 ≤ n) {m : List Nat} (hm6 : m.length = 6) (hb : ∀ x ∈ m, x < 256) {b : Nat} {h : H} (hg : h.get b = some (.cells (m.map fun x => AV.int .u8 (x : Nat)) false)) : ∀ (ts : List Nat) (j k : Nat) (out : ByteArray), m.drop j = ts → j + ts.length = 6 → ts.length < k → out.size ≤ 200 * j → (0 < j → 1 ≤ out.size) →
    outriderref17_CardText_L0 n k (some (b, 0)) out j h = some (.str (mk ((bs out ++ tail1 58 (ts.map fun x => hx2 (x : Nat))).drop 1)), h)
  | [], j, k + 1, out, _, hj, _, hsz, h1 => by
    simp only [List.length_nil] at hj
    rw [outriderref17_CardText_L0_eq, show decide (((j : Nat) : Int) < 6) = false by simp; omega, cond_false, bnd_from (by omega) (by have := h1 (by omega); omega), out1 (h1 (by omega))]
    simp [tail1]
  | x :: ts, j, k + 1, out, hd, hj, hm, hsz, h1 => by
    simp only [List.length_cons] at hj hm
    have hx : m[j]? = some x := by have := congrArg (·[0]?) hd; simpa using this
    have hd' : m.drop (j + 1) = ts := by rw [← List.drop_drop, hd]; rfl
    have hxb := hb x (List.mem_of_getElem? hx)
    have hc : (m.map fun x => AV.int .u8 (x : Nat))[j]? = some (.int .u8 (x : Nat)) := by rw [List.getElem?_map, hx]; rfl
    have e1 : (⟨#[58]⟩ : ByteArray).size = 1 := rfl
    rw [outriderref17_CardText_L0_eq, show decide (((j : Nat) : Int) < 6) = true by simp; omega, cond_true, cat_ok (by rw [e1]; omega)]
    simp only [nnK_some', Nat.zero_add]
    rw [if_pos ⟨by omega, by omega⟩, show ((j : Nat) : Int).toNat = j from rfl, cellK_of hg hc, asInt_int, wrap_i64 (x := (x : Int)) (by omega) (by omega), show Int.tdiv (x : Nat) 16 = ((x / 16 : Nat) : Int) from rfl, wrap_i64 (by omega) (by omega), nib (by omega) hn, Option.bind_some]
    simp only [asStr_str]
    have e2 : (out ++ (⟨#[58]⟩ : ByteArray)).size = out.size + 1 := by rw [← bs_len, bs_append, List.length_append, bs_len, bs_len]; rfl
    have e3 : (out ++ (⟨#[58]⟩ : ByteArray) ++ mk [dig (x / 16)]).size = out.size + 2 := by rw [← bs_len, bs_append, List.length_append, bs_len, bs_len, e2, size_mk]; rfl
    have e4 : (out ++ (⟨#[58]⟩ : ByteArray) ++ mk [dig (x / 16)] ++ mk [dig (x % 16)]).size = out.size + 3 := by rw [← bs_len, bs_append, List.length_append, bs_len, bs_len, e3, size_mk]; rfl
    rw [cat_ok (by rw [e2, size_mk]; simp; omega), if_pos ⟨by omega, by omega⟩, addT_same (fun _ _ => rfl), minus_noT, cellK_of hg hc, asInt_int, wrap_i64 (x := (x : Int)) (by omega) (by omega), show Int.tmod (x : Nat) 16 = ((x % 16 : Nat) : Int) from rfl, nib (by omega) hn, Option.bind_some]
    simp only [asStr_str]
    rw [cat_ok (by rw [e3, size_mk]; simp; omega), wrap_succ (by omega), rC_loop hn hm6 hb hg ts (j + 1) k _ hd' (by omega) (by omega) (by omega) (by omega)]
    rw [bs_append, bs_append, bs_append, bs_mk, bs_mk]
    have hh := hx2_two hxb
    simp only [tail1, List.map_cons, List.flatMap_cons, hh]
    rw [show bs (⟨#[58]⟩ : ByteArray) = [58] from rfl]
    simp

def mT (m : List Int) : ByteArray := joinS (m.map hx2) (mk [58])
theorem rCardText_ret {m : List Int} (hm6 : m.length = 6) (hb : ∀ x ∈ m, 0 ≤ x ∧ x < 256) {n : Nat} (hn : 10 ≤ n) (h : H) : Ret (ca n i_outriderref17_CardText [.agg (u8s m)] h) fun r h' => Mod [] h h' ∧ r = .str (mT m) := by
  obtain ⟨n, rfl⟩ : ∃ k, n = k + 1 := ⟨n - 1, by omega⟩
  obtain ⟨l, rfl⟩ : ∃ l : List Nat, m = l.map (fun x => ((x : Nat) : Int)) := ⟨m.map Int.toNat, by
    rw [List.map_map]
    refine (List.map_id _).symm.trans (List.map_congr_left fun x hx => ?_)
    have := (hb x hx).1
    simp; omega⟩
  simp only [List.length_map] at hm6
  have hb' : ∀ x ∈ l, x < 256 := fun x hx => by have := (hb x (List.mem_map.2 ⟨x, hx, rfl⟩)).2; omega
  rw [outriderref17_CardText_eq]
  simp only [newK_eq]
  have m1 : Mod [] h (h.new (.cells (u8s (l.map fun x => ((x : Nat) : Int))) false)) := (Mod.refl _ _).new _
  have hg : (h.new (.cells (u8s (l.map fun x => ((x : Nat) : Int))) false)).get h.next = some (.cells (l.map fun x => AV.int .u8 (x : Nat)) false) := by
    rw [get_new_self]; simp [u8s, Function.comp_def]
  have e0 : bs (⟨#[]⟩ : ByteArray) = [] := rfl
  have := rC_loop (n := n) (by omega) hm6 hb' hg l 0 n ⟨#[]⟩ rfl (by omega) (by omega) (by show 0 ≤ 0; omega) (by omega)
  rw [e0, List.nil_append] at this
  change Ret (outriderref17_CardText_L0 n n (some (h.next, 0)) ⟨#[]⟩ ((0 : Nat) : Int) _) _
  rw [this]
  refine .pure ⟨m1, ?_⟩
  unfold mT
  rw [List.map_map]
  have jt := join_tail 58 (l.map fun x => hx2 (x : Nat))
  rw [← jt, mk_bs]
  rfl
end Go.Ev.Tryd
