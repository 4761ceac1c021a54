/- What the rest of the given package 'sip', and the laws' own check, compute. -/
import Derived.Test.YtlpniooagcphkaaSip1
namespace Go.Ev.Try
open Go.Proofs
set_option maxRecDepth 10000

def dig (x : Int) (i : Nat) : Int := x / 256 ^ i % 256
def digits (x : Int) (n : Nat) : List Int := (List.range n).map (dig x)
def keyOf (x : Int) : List Int := digits x 8 ++ List.replicate 8 0

theorem dig_byte (x : Int) (i : Nat) : byte (dig x i) := by unfold dig byte; omega

theorem shr_dig {x : Int} {i : Nat} (hi : i < 8) : IntKind.u8.wrap (ishr .u64 x (IntKind.i64.wrap (8 * i))) = dig x i := by
  rw [wrapi (by omega) (by omega)]
  unfold ishr dig
  rw [show min (8 * (i : Int)).toNat IntKind.u64.bits = 8 * i by show min (8 * (i : Int)).toNat 64 = _; omega, pow256, Int.fdiv_eq_ediv_of_nonneg _ (Int.le_of_lt (Int.pow_pos (by decide)))]
  simp [IntKind.wrap, IntKind.bits, IntKind.signed]

theorem Number_loop (n : Nat) (x : Int) {a : H} {b1 b2 : Nat} (h1 : a.next ≤ b1) (h2 : a.next ≤ b2) (h12 : b1 ≠ b2) {z : List AV} (hz : z.length = 16) : ∀ (j i m : Nat) (h : H), i + j = 8 → j < m → Quiet a h → h.WF → b1 < h.next → b2 < h.next → h.get b1 = some (.cells z false) →
    h.get b2 = some (.cells (fillTo 16 (fun i => .int .u8 (if i < 8 then dig x i else 0)) i (.int .u8 0)) false) →
    ∃ h', sip_Number_11_L0 n m x (some (b1, 0)) (some (b2, 0)) i h = some (u8s (keyOf x), h') ∧ Quiet a h' ∧ h'.WF
  | 0, i, m + 1, h, hij, hm, q, wf, l1, l2, g1, g2 => by
    obtain rfl : i = 8 := by omega
    rw [sip_Number_11_L0_eq]
    have hk : fillTo 16 (fun i => .int .u8 (if i < 8 then dig x i else 0)) 8 (.int .u8 0) = u8s (keyOf x) := by
      simp [fillTo, keyOf, digits, u8s, List.range_succ]
    rw [hk] at g2
    have hkl : (u8s (keyOf x)).length = 16 := by simp [u8s, keyOf, digits]
    have hd : decide (((8 : Nat) : Int) < 8) = false := by decide
    rw [hd, cond_false, nnK_some', aggK_all g2 hkl, nnK_some', wrK_of g1 hkl (by omega) (by simp [u8s, keyOf, digits, isCell]), nnK_some', spl_all _ _ (by omega), aggK_all (get_set_self _ _ _) hkl]
    exact ⟨_, rfl, q.set h1 _, WF_put wf l1 _⟩
  | j + 1, i, m + 1, h, hij, hm, q, wf, l1, l2, g1, g2 => by
    rw [sip_Number_11_L0_eq]
    have hd : decide ((i : Int) < 8) = true := by simp; omega
    rw [hd, cond_true, if_neg (by rw [wrapi (by omega) (by omega)]; omega), nnK_some', if_pos ⟨by omega, by omega⟩, Nat.zero_add, show (i : Int).toNat = i from rfl,
      wrK_one g2 (by rw [length_fillTo (by omega)]; omega) rfl, shr_dig (by omega)]
    have hset := fillTo_set (n := 16) (f := fun i => .int .u8 (if i < 8 then dig x i else 0)) (i := i) (z := .int .u8 0) (by omega)
    simp only [show i < 8 by omega, if_true] at hset
    rw [hset, wrapi (by omega) (by omega), show (i : Int) + 1 = ((i + 1 : Nat) : Int) from rfl]
    exact Number_loop n x h1 h2 h12 hz j (i + 1) m _ (by omega) (by omega) (q.set h2 _) (WF_put wf l2 _) l1 l2 (by rw [get_set_ne h12]; exact g1) (get_set_self _ _ _)

theorem Number_eq {h : H} (wf : h.WF) {n : Nat} (hn : 10 ≤ n) (x : Int) : ∃ h', sip_Number_11 n x h = some (u8s (keyOf x), h') ∧ Quiet h h' ∧ h'.WF := by
  rw [sip_Number_11_eq]
  simp only [newK_eq, next_new]
  exact Number_loop n x (a := h) (b1 := h.next) (b2 := h.next + 1) (Nat.le_refl _) (by omega) (by omega) (z := List.replicate 16 (.int .u8 0)) rfl 8 0 n _ (by omega) (by omega) (((Quiet.refl h).new _).new _) (WF_make (WF_make wf _) _) (by simp; omega) (by simp) (by rw [get_new_lt (by simp)]; exact get_new_self _ _) (get_new_self (h.new _) _)

/-! ### the laws' own check -/

def key0 : List Int := [0, 1, 2, 3, 4, 5, 6, 7, 8, 9, 10, 11, 12, 13, 14, 15]

theorem bytes_key0 : Bytes key0 := by unfold Bytes key0 byte; decide

theorem sum_key0_nil : sum key0 [] = 8246050544436514353 := by decide +kernel
theorem sum_key0_one : sum key0 [0] = 8428550223375919101 := by decide +kernel

theorem alive_loop (n : Nat) (hn : 200 ≤ n) {a : H} {b : Nat} (hb : a.next ≤ b) : ∀ (j i m : Nat) (h : H), i + j = 16 → j < m → Quiet a h → h.WF → b < h.next → h.get b = some (.cells (fillTo 16 (fun i => .int .u8 i) i (.int .u8 0)) false) →
    ∃ h', outriderlaw07_alive_8_L0 n m (some (b, 0)) i h = some (true, h') ∧ Quiet a h' ∧ h'.WF
  | 0, i, m + 1, h, hij, hm, q, wf, hl, hg => by
    obtain rfl : i = 16 := by omega
    rw [outriderlaw07_alive_8_L0_eq, show decide (((16 : Nat) : Int) < 16) = false by decide, cond_false]
    have hk : fillTo 16 (fun i => .int .u8 i) 16 (.int .u8 0) = u8s key0 := by
      simp [fillTo, u8s, key0, List.range_succ]
    rw [hk] at hg
    rw [nnK_some', aggK_all hg (n := 16) rfl]
    obtain ⟨h1, e1, q1, w1⟩ := sum_eq wf (n := n) bytes_key0 rfl (bs := []) (by simp [Bytes]) (p := none) (len := 0) (c := .known 0) rfl .nil (by simp; omega) (by decide)
    rw [e1]
    have hg1 := (q1.get b hl).trans hg
    simp only [Option.bind_some, sum_key0_nil, beq_self_eq_true, cond_true, nnK_some', newK_eq]
    rw [aggK_all hg1 (n := 16) rfl]
    obtain ⟨h2, e2, q2, w2⟩ := sum_eq (WF_make w1 (.cells [.int .u8 0] false)) (n := n) bytes_key0 rfl (bs := [0]) (by unfold Bytes byte; decide) (p := some (h1.next, 0)) (len := 1) (c := .known 1) rfl (.row (get_new_self _ _) rfl (by decide) (.inr ⟨1, rfl, Nat.le_refl _⟩)) (by simp; omega) (by decide)
    rw [e2]
    simp only [Option.bind_some, sum_key0_one, beq_self_eq_true, cond_true]
    obtain ⟨h3, e3, q3, w3⟩ := Number_eq w2 (n := n) (by omega) 258
    rw [e3]
    have hq : Quiet a h3 := (((q.trans q1).new _).trans q2).trans q3
    refine ⟨h3, ?_, hq, w3⟩
    simp only [Option.bind_some]
    rw [atK_of (v := .int .u8 1) (by simp [u8s, keyOf, digits, dig, List.range_succ]), asInt_int]
    rfl
  | j + 1, i, m + 1, h, hij, hm, q, wf, hl, hg => by
    rw [outriderlaw07_alive_8_L0_eq]
    have hd : decide ((i : Int) < 16) = true := by simp; omega
    rw [hd, cond_true, nnK_some', if_pos ⟨by omega, by omega⟩, Nat.zero_add, show (i : Int).toNat = i from rfl, wrK_one hg (by rw [length_fillTo (by omega)]; omega) rfl, wrap8 ⟨by omega, by omega⟩]
    have hset := fillTo_set (n := 16) (f := fun i => .int .u8 i) (i := i) (z := .int .u8 0) (by omega)
    rw [hset, wrapi (by omega) (by omega), show (i : Int) + 1 = ((i + 1 : Nat) : Int) from rfl]
    exact alive_loop n hn hb j (i + 1) m _ (by omega) (by omega) (q.set hb _) (WF_put wf hl _) hl (get_set_self _ _ _)

theorem alive_eq {h : H} (wf : h.WF) {n : Nat} (hn : 200 ≤ n) : ∃ h', outriderlaw07_alive_8 n h = some (true, h') ∧ Quiet h h' ∧ h'.WF := by
  rw [outriderlaw07_alive_8_eq, newK_eq]
  exact alive_loop n hn (a := h) (b := h.next) (Nat.le_refl _) 16 0 n _ (by omega) (by omega) ((Quiet.refl h).new _) (WF_make wf _) (by simp) (get_new_self _ _)

theorem eqKey {β : Type} {xs ys : List Int} (hx : xs.length = 16) (hy : ys.length = 16) (f : Bool → Option β) : eqVK Try.prog 29 (.agg (u8s xs)) (.agg (u8s ys)) f = f (xs == ys) := by
  obtain ⟨inf, h1, h2⟩ := info_some (P := Try.prog) (t := 5) (s := 1) (by kernel_rfl)
  exact eqVK_ints (n := 16) (e := 5) (by kernel_rfl) (by kernel_rfl) h1 h2 hx hy f

theorem len_keyOf (x : Int) : (keyOf x).length = 16 := by simp [keyOf, digits]

/-! ### the law SipNumbers -/

theorem dig_split {x : Int} (k : Nat) : x / 256 ^ k = dig x k + 256 * (x / 256 ^ (k + 1)) := by
  unfold dig
  rw [Int.pow_succ, ← Int.ediv_ediv_of_nonneg (Int.le_of_lt (Int.pow_pos (by decide)))]
  omega

theorem dig_inj {x y : Int} : ∀ (k : Nat), (∀ i, i < k → dig x i = dig y i) → x / 256 ^ k = y / 256 ^ k → x = y
  | 0, _, h => by simpa using h
  | k + 1, h, hk => dig_inj k (fun i hi => h i (by omega)) (by rw [dig_split, dig_split (x := y), h k (by omega), hk])

theorem keyOf_inj {x y : Int} (hx : u64 x) (hy : u64 y) (h : keyOf x = keyOf y) : x = y := by
  refine dig_inj 8 (fun i hi => ?_) ?_
  · have := congrArg (fun l => l[i]?) h
    simp only [keyOf, digits] at this
    rw [List.getElem?_append_left (by simpa using hi), List.getElem?_append_left (by simpa using hi)] at this
    simpa [hi] using this
  · have := hx.1; have := hx.2; have := hy.1; have := hy.2
    have e : (256 : Int) ^ 8 = 18446744073709551616 := by decide
    rw [e]; omega

theorem numbers_loop (n : Nat) (hn : 200 ≤ n) {x y : Int} (hx : u64 x) (hy : u64 y) {b1 b2 : Nat} {h : H} (wf : h.WF) (l1 : b1 < h.next) (l2 : b2 < h.next) (g1 : h.get b1 = some (.cells (u8s (keyOf x)) false)) (g2 : h.get b2 = some (.cells (u8s (keyOf y)) false)) : ∀ (j i m : Nat), i + j = 8 → j < m →
    ∃ h', outriderlaw07_SipNumbers_4_L0 n m x y (some (b1, 0)) (some (b2, 0)) (some (b1, 8)) 8 (.known 8) 8 i h = some (true, h')
  | 0, i, m + 1, hij, hm => by
    obtain rfl : i = 8 := by omega
    rw [outriderlaw07_SipNumbers_4_L0_eq, show decide (((8 : Nat) : Int) < 8) = false by decide, cond_false]
    obtain ⟨h', e, q, w⟩ := alive_eq wf hn
    rw [e]
    simp only [Option.bind_some, cond_true, nnK_some']
    rw [aggK_all ((q.get _ l1).trans g1) (by simp [len_keyOf]), aggK_all ((q.get _ l2).trans g2) (by simp [len_keyOf]), eqKey (len_keyOf x) (len_keyOf y)]
    refine ⟨h', ?_⟩
    congr 2
    rw [beq_iff_eq, Bool.eq_iff_iff]
    simp only [beq_iff_eq]
    exact ⟨keyOf_inj hx hy, fun h => by rw [h]⟩
  | j + 1, i, m + 1, hij, hm => by
    rw [outriderlaw07_SipNumbers_4_L0_eq]
    have hd : decide ((i : Int) < 8) = true := by simp; omega
    rw [hd, cond_true, if_pos ⟨by omega, by omega⟩, nnK_some', show (i : Int).toNat = i from rfl, cellK_of g1 (v := .int .u8 0) (by
      simp only [u8s, keyOf, List.map_append]
      rw [List.getElem?_append_right (by simp [digits]), List.map_replicate, List.getElem?_replicate, if_pos (by simp [digits]; omega)]), asInt_int]
    simp only [bne_self_eq_false, cond_false]
    rw [wrapi (by omega) (by omega), show (i : Int) + 1 = ((i + 1 : Nat) : Int) from rfl]
    exact numbers_loop n hn hx hy wf l1 l2 g1 g2 j (i + 1) m (by omega) (by omega)

theorem u64_wf {x : Int} (h : (Lit.int .u64 x).wf = true) : u64 x := by
  simp [Lit.wf, IntKind.min, IntKind.max, IntKind.signed, IntKind.bits] at h
  exact ⟨h.1, by omega⟩

theorem sipNumbers_true {x y : Int} (w0 : (Lit.int .u64 x).wf = true) (w1 : (Lit.int .u64 y).wf = true) : ∃ n h', outriderlaw07_SipNumbers_4 n x y (H0 []) = some (true, h') := by
  refine ⟨200, ?_⟩
  rw [outriderlaw07_SipNumbers_4_eq]
  obtain ⟨h1, e1, q1, f1⟩ := Number_eq (WF_H0 []) (n := 200) (by decide) x
  obtain ⟨h2, e2, q2, f2⟩ := Number_eq f1 (n := 200) (by decide) y
  rw [e1]; simp only [Option.bind_some]
  rw [e2]; simp only [Option.bind_some, newK_eq, next_new]
  have hlx : (u8s (keyOf x)).length = 16 := by simp [len_keyOf]
  have hly : (u8s (keyOf y)).length = 16 := by simp [len_keyOf]
  have c1 : (u8s (keyOf x)).all isCell = true := by simp [u8s, isCell]
  have c2 : (u8s (keyOf y)).all isCell = true := by simp [u8s, isCell]
  rw [wrK_of (cs := List.replicate 16 (.int .u8 0)) (by rw [get_new_lt (by simp)]; exact get_new_self _ _) hlx (by simp) c1, spl_all _ _ (by simp [len_keyOf])]
  rw [wrK_of (cs := List.replicate 16 (.int .u8 0)) (by rw [get_set_ne (by omega)]; exact get_new_self (h2.new _) _) hly (by simp) c2, spl_all _ _ (by simp [len_keyOf])]
  refine numbers_loop 200 (by decide) (u64_wf w0) (u64_wf w1) (b1 := h2.next) (b2 := h2.next + 1) ?_ (by simp; omega) (by simp) ?_ ?_ 8 0 200 (by decide) (by decide)
  · exact WF_put (WF_put (WF_make (WF_make f2 _) _) (by simp; omega) _) (by simp) _
  · rw [get_set_ne (by omega), get_set_self]
  · exact get_set_self _ _ _

end Go.Ev.Try
