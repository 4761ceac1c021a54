/- What the document's reference for chapter 07 computes: the same number, the same round, the same sum. -/
import Derived.Test.YtgaflglknjjalaaFw1
set_option linter.all false
namespace Go.Ev.Try
open Go.Proofs
set_option maxRecDepth 10000

/-! ### left: turned a place at a time -/

theorem tdiv_nat (a b : Nat) : Int.tdiv (a : Int) (b : Int) = ((a / b : Nat) : Int) := rfl

theorem rot_zero {x : Int} (hx : u64 x) : rot x 0 = x := by
  unfold rot
  obtain ⟨h1, h2⟩ := hx
  have e : (2 : Int) ^ (64 - 0) = 18446744073709551616 := by decide
  have e0 : (2 : Int) ^ 0 = 1 := by decide
  rw [e, e0]; omega

theorem rot_succ {x : Int} (hx : u64 x) {k : Nat} (hk : k < 63) : IntKind.u64.wrap (IntKind.u64.wrap (rot x k * 2) + IntKind.u64.wrap (Int.tdiv (rot x k) 9223372036854775808)) = rot x (k + 1) := by
  obtain ⟨hx0, hx1⟩ := hx
  obtain ⟨m, rfl⟩ := Int.eq_ofNat_of_zero_le hx0
  have hm : m < 18446744073709551616 := by omega
  have e2 : ∀ j : Nat, ((2 : Int) ^ j) = ((2 ^ j : Nat) : Int) := fun j => by rw [Int.natCast_pow]; rfl
  have hr : ∀ j, rot (m : Int) j = ((m * 2 ^ j % 18446744073709551616 + m / 2 ^ (64 - j) : Nat) : Int) := fun j => by
    unfold rot
    rw [e2, e2, ← Int.natCast_mul, Int.natCast_add]
    rfl
  -- the upper k bits u, the rest v: m = u * 2^(64-k) + v; rot k = v * 2^k + u
  have split : ∀ j, j ≤ 64 → ∃ u v, m = u * 2 ^ (64 - j) + v ∧ v < 2 ^ (64 - j) ∧ u < 2 ^ j ∧ m * 2 ^ j % 18446744073709551616 + m / 2 ^ (64 - j) = v * 2 ^ j + u := by
    intro j hj
    have hp : 2 ^ (64 - j) * 2 ^ j = 18446744073709551616 := by rw [← Nat.pow_add, show 64 - j + j = 64 by omega]
    refine ⟨m / 2 ^ (64 - j), m % 2 ^ (64 - j), (Nat.div_add_mod' _ _).symm, Nat.mod_lt _ (Nat.two_pow_pos _), ?_, ?_⟩
    · rw [Nat.div_lt_iff_lt_mul (Nat.two_pow_pos _), Nat.mul_comm, hp]; exact hm
    · congr 1
      rw [← hp, Nat.mul_mod_mul_right]
  obtain ⟨u, v, h1, h2, h3, h4⟩ := split k (by omega)
  obtain ⟨u', v', h1', h2', h3', h4'⟩ := split (k + 1) (by omega)
  rw [hr, hr, h4, h4']
  -- v = c * 2^(63-k) + v', u' = 2 * u + c
  have hq : 2 ^ (64 - k) = 2 * 2 ^ (64 - (k + 1)) := by rw [← Nat.pow_succ']; congr 1; omega
  have hq2 : 2 ^ (64 - (k + 1)) * 2 ^ (k + 1) = 18446744073709551616 := by rw [← Nat.pow_add, show 64 - (k + 1) + (k + 1) = 64 by omega]
  have hq3 : 2 ^ (64 - (k + 1)) * 2 ^ k = 9223372036854775808 := by rw [← Nat.pow_add, show 64 - (k + 1) + k = 63 by omega]
  generalize hP : 2 ^ (64 - (k + 1)) = Q at *
  have hQ : 0 < Q := by rw [← hP]; exact Nat.two_pow_pos _
  rw [hq] at h1 h2
  have hk2 : (2 : Nat) ^ (k + 1) = 2 * 2 ^ k := Nat.pow_succ'
  rw [hk2] at h3' hq2 ⊢
  generalize hK : 2 ^ k = K at *
  have hKp : 0 < K := by rw [← hK]; exact Nat.two_pow_pos _
  obtain ⟨c, hc⟩ : ∃ c, c = v / Q := ⟨_, rfl⟩
  have hv : v = c * Q + v % Q := by rw [hc]; exact (Nat.div_add_mod' _ _).symm
  have hvm : v % Q < Q := Nat.mod_lt _ hQ
  have hc2 : c < 2 := by rw [hc, Nat.div_lt_iff_lt_mul hQ]; omega
  have hm2 : m = (2 * u + c) * Q + v % Q := by
    rw [h1, Nat.add_mul]
    have : u * (2 * Q) = 2 * u * Q := by rw [Nat.mul_comm 2 Q, ← Nat.mul_assoc, Nat.mul_comm (u * Q) 2, Nat.mul_assoc]
    omega
  have hu' : u' = 2 * u + c ∧ v' = v % Q := by
    have e1 : m / Q = u' := by rw [h1', Nat.add_comm, Nat.add_mul_div_right _ _ hQ, Nat.div_eq_of_lt h2']; omega
    have e2' : m / Q = 2 * u + c := by rw [hm2, Nat.add_comm, Nat.add_mul_div_right _ _ hQ, Nat.div_eq_of_lt hvm]; omega
    have e3 : u' = 2 * u + c := by omega
    refine ⟨e3, ?_⟩
    rw [e3] at h1'
    omega
  obtain ⟨rfl, rfl⟩ := hu'
  -- now compute
  generalize hvq : v % Q = y at *
  have hyK : y * K < 9223372036854775808 := by
    have := Nat.mul_lt_mul_of_pos_right hvm hKp
    rw [hq3] at this; exact this
  have hvK : v * K + u = c * 9223372036854775808 + (y * K + u) := by
    rw [hv, Nat.add_mul, Nat.mul_assoc, hq3]; omega
  have hyu : y * K + u < 9223372036854775808 := by
    have h5 : (y + 1) * K ≤ Q * K := Nat.mul_le_mul_right _ hvm
    rw [hq3, Nat.add_mul, Nat.one_mul] at h5
    omega
  have hy2 : y * (2 * K) = 2 * (y * K) := by rw [Nat.mul_comm 2 K, ← Nat.mul_assoc, Nat.mul_comm]
  rw [hvK, hy2]
  generalize y * K = z at *
  have ht : Int.tdiv ((c * 9223372036854775808 + (z + u) : Nat) : Int) 9223372036854775808 = ((c : Nat) : Int) := by
    have : (9223372036854775808 : Int) = ((9223372036854775808 : Nat) : Int) := rfl
    rw [this, tdiv_nat]
    congr 1
    omega
  rw [ht, wrap64_mod, wrap64_mod, wrap64_mod]
  have : c = 0 ∨ c = 1 := by omega
  rcases this with rfl | rfl <;> omega

theorem left_loop (n : Nat) {x : Int} (hx : u64 x) {k : Nat} (hk : k < 64) (h : H) : ∀ (j i m : Nat), i + j = k → j < m → outriderref07_left_64_L0 n m (rot x i) k i h = some (rot x k, h)
  | 0, i, m + 1, hij, _ => by
    obtain rfl : i = k := by omega
    rw [outriderref07_left_64_L0_eq]; simp
  | j + 1, i, m + 1, hij, hm => by
    rw [outriderref07_left_64_L0_eq]
    have hd : decide ((i : Int) < (k : Int)) = true := by simp; omega
    rw [hd, cond_true, rot_succ hx (by omega), wrapi (by omega) (by omega), show (i : Int) + 1 = ((i + 1 : Nat) : Int) from rfl]
    exact left_loop n hx hk h j (i + 1) m (by omega) (by omega)

theorem left_eq {x : Int} (hx : u64 x) {k : Nat} (hk : k < 64) {n : Nat} (hn : 64 ≤ n) (h : H) : outriderref07_left_64 n x k h = some (rot x k, h) := by
  rw [outriderref07_left_64_eq]
  have := left_loop n hx hk h k 0 n (by omega) (by omega)
  rw [rot_zero hx] at this
  exact this

section
variable {n : Nat} (hn : 64 ≤ n) {x : Int} (hx : u64 x) (h : H)
include hn hx
theorem left_13 : outriderref07_left_64 n x 13 h = some (rot x 13, h) := left_eq hx (k := 13) (by decide) hn h
theorem left_16 : outriderref07_left_64 n x 16 h = some (rot x 16, h) := left_eq hx (k := 16) (by decide) hn h
theorem left_17 : outriderref07_left_64 n x 17 h = some (rot x 17, h) := left_eq hx (k := 17) (by decide) hn h
theorem left_21 : outriderref07_left_64 n x 21 h = some (rot x 21, h) := left_eq hx (k := 21) (by decide) hn h
theorem left_32 : outriderref07_left_64 n x 32 h = some (rot x 32, h) := left_eq hx (k := 32) (by decide) hn h
end

theorem Round_eq {n : Nat} (hn : 64 ≤ n) {s : St} (ok : s.ok) {h : H} (wf : h.WFx) : ∃ h', outriderref07_Round_52 n s.cells h = some ((rnd s).cells, h') ∧ Quiet h h' ∧ h'.WFx := by
  rw [outriderref07_Round_52_eq]
  simp only [newK_eq, next_new]
  have hg : ((h.new (.cells s.cells false)).new (.cells [.int .u64 0, .int .u64 0, .int .u64 0, .int .u64 0] false)).get h.next = some (.cells s.cells false) := by rw [get_new_lt (by simp)]; exact get_new_self _ _
  have hg3 : ((h.new (.cells s.cells false)).new (.cells [.int .u64 0, .int .u64 0, .int .u64 0, .int .u64 0] false)).get (h.next + 1) = some (.cells [.int .u64 0, .int .u64 0, .int .u64 0, .int .u64 0] false) := get_new_self (h.new _) _
  have q : Quiet h ((h.new (.cells s.cells false)).new (.cells [.int .u64 0, .int .u64 0, .int .u64 0, .int .u64 0] false)) := ((Quiet.refl h).new _).new _
  have w := WFx_make (WFx_make wf (.cells s.cells false)) (.cells [.int .u64 0, .int .u64 0, .int .u64 0, .int .u64 0] false)
  have hl : h.next + 1 < ((h.new (.cells s.cells false)).new (.cells [.int .u64 0, .int .u64 0, .int .u64 0, .int .u64 0] false)).next := by simp
  have hne : h.next + 1 ≠ h.next := by omega
  have hle : h.next ≤ h.next + 1 := by omega
  have hl0 : h.next < ((h.new (.cells s.cells false)).new (.cells [.int .u64 0, .int .u64 0, .int .u64 0, .int .u64 0] false)).next := by simp; omega
  generalize (h.new (.cells s.cells false)).new (.cells [.int .u64 0, .int .u64 0, .int .u64 0, .int .u64 0] false) = h4 at *
  generalize h.next + 1 = i3 at *
  obtain ⟨o1, o2, o3, o4⟩ := ok
  simp only [nnK_some', cellK, wrK, aggK, hg, hg3, get_set_ne hne, St.cells, List.getElem?_cons_zero, List.getElem?_cons_succ, Nat.zero_add, asInt_int, List.length_cons, List.length_nil, List.all_cons, List.all_nil, isCell, spl, List.set_cons_zero, List.set_cons_succ, get_set_self, set_set, Bool.and_true, and_self, and_true, if_true,
      left_13 hn, left_16 hn, left_17 hn, left_21 hn, left_32 hn, u64_wrap, u64_ixor, o1, o2, o3, o4, Option.bind_some, sameK_same, minus_self, minus_none, Nat.reduceAdd, Nat.reduceLeDiff, Nat.le_refl, List.drop_zero, List.take_succ_cons, List.take_zero]
  exact ⟨_, rfl, (q.set (Nat.le_refl _) _).set hle _, WFx_put (WFx_put w hl0 _) hl _⟩

/-! ### number: from the top -/

theorem num_drop {l : List Int} {i : Nat} {x : Int} (h : l[i]? = some x) : num (l.drop i) = x + 256 * num (l.drop (i + 1)) := by
  have hi := (List.getElem?_eq_some_iff.1 h)
  obtain ⟨hl, he⟩ := hi
  rw [List.drop_eq_getElem_cons hl, he]
  rfl

theorem refnumber_loop {h : H} {p : Option (Nat × Nat)} {c : Cap} {bs : List Int} (hb : Bytes bs) (hmax : bs.length < 4611686018427387904) (s : Row h 1 p bs.length c (u8s bs)) {at_ : Nat} (hat : at_ ≤ bs.length) (n : Nat) :
    ∀ (j m : Nat), j ≤ 8 → j < m → outriderref07_number_51_L0 n m p bs.length c at_ (num (((bs.drop at_).take 8).drop j)) ((j : Int) - 1) h = some (num ((bs.drop at_).take 8), h)
  | 0, m + 1, _, _ => by
    rw [outriderref07_number_51_L0_eq, show decide (((0 : Nat) : Int) - 1 ≥ 0) = false by decide, cond_false]; rfl
  | j + 1, m + 1, hj, hm => by
    rw [outriderref07_number_51_L0_eq]
    have hd : decide ((((j + 1 : Nat) : Int) - 1) ≥ 0) = true := by rw [decide_eq_true_iff]; omega
    have e1 : (((j + 1 : Nat) : Int) - 1) = (j : Int) := by omega
    rw [hd, cond_true, e1, wrapi (x := (at_ : Int) + (j : Int)) (by omega) (by omega), wrapi (x := (j : Int) - 1) (by omega) (by omega)]
    have hbl : Bytes ((bs.drop at_).take 8) := (hb.drop _).take _
    have h1 := num_nonneg (hbl.drop (j + 1))
    have h2 := num_lt (hbl.drop (j + 1))
    have h3 : (256 : Int) ^ (((bs.drop at_).take 8).drop (j + 1)).length ≤ 256 ^ 7 := by
      rw [pow256, pow256]
      exact pow2_le (by simp; omega)
    have h4 : (256 : Int) ^ 7 = 72057594037927936 := by decide
    have ih := refnumber_loop hb hmax s hat n j m (by omega) (by omega)
    by_cases hlt : at_ + j < bs.length
    · have hd2 : decide ((at_ : Int) + (j : Int) < (bs.length : Int)) = true := by simp; omega
      have hx : bs[at_ + j]? = some bs[at_ + j] := List.getElem?_eq_getElem hlt
      have hx2 : ((bs.drop at_).take 8)[j]? = some bs[at_ + j] := by
        rw [List.getElem?_take, if_pos (by omega), List.getElem?_drop]; exact hx
      have hby := hb _ (List.mem_of_getElem? hx)
      obtain ⟨hy0, hy1⟩ := hby
      rw [hd2, cond_true, if_pos ⟨by omega, by omega⟩, show ((at_ : Int) + (j : Int)).toNat = at_ + j by omega, s.at1 (i := at_ + j) (v := .int .u8 bs[at_ + j]) (by simp [u8s, hx]), asInt_int]
      rw [wrap64 (x := _ * 256) ⟨by omega, by omega⟩, wrap64 (x := bs[at_ + j]) ⟨hy0, by omega⟩, wrap64 ⟨by omega, by omega⟩]
      rw [show num (((bs.drop at_).take 8).drop (j + 1)) * 256 + bs[at_ + j] = num (((bs.drop at_).take 8).drop j) by rw [num_drop hx2]; omega]
      exact ih
    · have hd2 : decide ((at_ : Int) + (j : Int) < (bs.length : Int)) = false := by simp; omega
      have hz : ∀ i, j ≤ i → ((bs.drop at_).take 8).drop i = [] := fun i hi => List.drop_of_length_le (by simp; omega)
      rw [hd2, cond_false, hz (j + 1) (by omega)]
      rw [hz j (Nat.le_refl _)] at ih
      rw [show IntKind.u64.wrap (num [] * 256) = num [] by decide]
      exact ih

theorem refnumber_eq {h : H} {p : Option (Nat × Nat)} {len : Nat} {c : Cap} {bs : List Int} (hb : Bytes bs) (hl : len = bs.length) (hmax : bs.length < 4611686018427387904) (s : Row h 1 p len c (u8s bs)) {at_ : Nat} (hat : at_ ≤ bs.length) {n : Nat} (hn : 10 ≤ n) :
    outriderref07_number_51 n p len c at_ h = some (num ((bs.drop at_).take 8), h) := by
  subst hl
  rw [outriderref07_number_51_eq]
  have := refnumber_loop hb hmax s hat n 8 n (by decide) (by omega)
  rw [List.drop_of_length_le (by simp; omega)] at this
  exact this

/-! ### the sum -/

theorem block_eq {a : H} {n : Nat} (hn : 64 ≤ n) {b : Nat} (hb : a.next ≤ b) {s : St} (ok : s.ok) {h : H} (q : Quiet a h) (wf : h.WFx) (hlt : b < h.next) (hg : h.get b = some (.cells s.cells false)) (m1 : Nat) (p : Option (Nat × Nat)) (len : Nat) (c : Cap) (at_ m : Int) :
    ∃ h', outriderref07_Sum_33_J1 n m1 p len c (some (b, 0)) at_ m h = outriderref07_Sum_33_L0 n m1 p len c (some (b, 0)) (IntKind.i64.wrap (at_ + 8)) h' ∧ Quiet a h' ∧ h'.WFx ∧ b < h'.next ∧ h'.get b = some (.cells (take s m).cells false) := by
  rw [outriderref07_Sum_33_J1_eq]
  simp only [nnK_some', cellK, wrK, aggK, hg, St.cells, List.getElem?_cons_zero, List.getElem?_cons_succ, Nat.zero_add, asInt_int, List.length_cons, List.length_nil, List.all_cons, List.all_nil, isCell, spl, List.set_cons_zero, List.set_cons_succ, get_set_self, set_set, Bool.and_true, and_self, and_true, if_true, Nat.reduceAdd, Nat.reduceLeDiff, Nat.le_refl, List.drop_zero, List.take_succ_cons, List.take_zero]
  have ok1 : St.ok ⟨s.a, s.b, s.c, ixor .u64 s.d m⟩ := ⟨ok.1, ok.2.1, ok.2.2.1, u64_ixor _ _⟩
  obtain ⟨h1, e1, q1, w1⟩ := Round_eq hn ok1 (WFx_put wf hlt (.cells [.int .u64 s.a, .int .u64 s.b, .int .u64 s.c, .int .u64 (ixor .u64 s.d m)] false))
  obtain ⟨h2, e2, q2, w2⟩ := Round_eq hn (rnd_ok ok1) w1
  rw [show outriderref07_Round_52 n [.int .u64 s.a, .int .u64 s.b, .int .u64 s.c, .int .u64 (ixor .u64 s.d m)] _ = _ from e1]
  simp only [Option.bind_some]
  rw [e2]
  simp only [Option.bind_some]
  have l1 : b < h2.next := q2.next_lt (q1.next_lt hlt)
  have g2 : h2.get b = some (.cells [.int .u64 s.a, .int .u64 s.b, .int .u64 s.c, .int .u64 (ixor .u64 s.d m)] false) := (q2.get b (q1.next_lt hlt)).trans ((q1.get b hlt).trans (get_set_self _ _ _))
  simp only [g2, nnK_some', cellK, wrK, St.cells, List.getElem?_cons_zero, List.getElem?_cons_succ, Nat.zero_add, asInt_int, List.length_cons, List.length_nil, List.all_cons, List.all_nil, isCell, spl, List.set_cons_zero, List.set_cons_succ, get_set_self, set_set, Bool.and_true, and_self, and_true, if_true, Nat.reduceAdd, Nat.reduceLeDiff, Nat.le_refl]
  have qq : Quiet a h2 := ((q.set hb _).trans q1).trans q2
  exact ⟨_, rfl, qq.set hb _, WFx_put w2 l1 _, l1, get_set_self _ _ _⟩

theorem refsum_loop {a : H} (wa : a.WFx) {b : Nat} (hb : a.next ≤ b) {n : Nat} (hn : 100 ≤ n) {bs : List Int} (hbs : Bytes bs) (hmax : bs.length < 4611686018427387904) {p : Option (Nat × Nat)} {c : Cap} (hs : Row a 1 p bs.length c (u8s bs)) : ∀ (k m at_ : Nat) (s : St) (h : H), (bs.length - at_) / 8 = k → at_ ≤ bs.length → k + 1 < m →
    s.ok → Quiet a h → h.WFx → b < h.next → h.get b = some (.cells s.cells false) →
    ∃ h', outriderref07_Sum_33_L0 n m p bs.length c (some (b, 0)) at_ h = some (done (blocks k s (bs.drop at_)) (num (bs.drop (at_ + k * 8)) + (bs.length : Int) % 256 * 2 ^ 56), h') ∧ Quiet a h' ∧ h'.WFx
  | k, m + 1, at_, s, h, hk, hat, hm, ok, q, wf, hlt, hg => by
    rw [outriderref07_Sum_33_L0_eq]
    have hd : decide ((at_ : Int) ≤ (bs.length : Int)) = true := by simp; omega
    rw [hd, cond_true, refnumber_eq hbs rfl hmax (hs.quiet wa q) hat (by omega)]
    simp only [Option.bind_some]
    rw [wrapi (x := (at_ : Int) + 8) (by omega) (by omega)]
    match k, m, hk, hm with
    | k + 1, m, hk, hm =>
      have hd2 : decide ((at_ : Int) + 8 > (bs.length : Int)) = false := by simp; omega
      rw [hd2, cond_false]
      obtain ⟨h1, e1, q1, w1, l1, g1⟩ := block_eq (n := n) (by omega) hb ok q wf hlt hg m p bs.length c at_ (num ((bs.drop at_).take 8))
      rw [e1, wrapi (by omega) (by omega), show (at_ : Int) + 8 = ((at_ + 8 : Nat) : Int) from rfl]
      obtain ⟨h', e', q', w'⟩ := refsum_loop wa hb hn hbs hmax hs k m (at_ + 8) (take s (num ((bs.drop at_).take 8))) h1 (by omega) (by omega) (by omega) (take_ok ok _) q1 w1 l1 g1
      refine ⟨h', e'.trans ?_, q', w'⟩
      rw [blocks, List.drop_drop, show at_ + 8 + k * 8 = at_ + (k + 1) * 8 by omega]
    | 0, m + 1, hk, hm =>
      have hd2 : decide ((at_ : Int) + 8 > (bs.length : Int)) = true := by simp; omega
      rw [hd2, cond_true]
      have hbt : (bs.drop at_).take 8 = bs.drop at_ := List.take_of_length_le (by simp; omega)
      rw [hbt]
      have h2 := num_lt (hbs.drop at_)
      have h0 := num_nonneg (hbs.drop at_)
      rw [pow256] at h2
      have h3 := pow2_le (show 8 * (bs.drop at_).length ≤ 56 by simp; omega)
      have h4 : (2 : Int) ^ 56 = 72057594037927936 := by decide
      have hlast : IntKind.u64.wrap (num (bs.drop at_) + IntKind.u64.wrap (IntKind.u64.wrap (Int.tmod (bs.length : Int) 256) * 72057594037927936)) = num (bs.drop at_) + (bs.length : Int) % 256 * 2 ^ 56 := by
        have ht : Int.tmod (bs.length : Int) 256 = (bs.length : Int) % 256 := by rw [Int.tmod_eq_emod_of_nonneg (by omega)]
        rw [ht, wrap64 (x := (bs.length : Int) % 256) ⟨by omega, by omega⟩, wrap64 (x := (bs.length : Int) % 256 * 72057594037927936) ⟨by omega, by omega⟩, wrap64 ⟨by omega, by omega⟩, h4]
      rw [hlast]
      generalize hL : num (bs.drop at_) + (bs.length : Int) % 256 * 2 ^ 56 = last
      obtain ⟨h1, e1, q1, w1, l1, g1⟩ := block_eq (n := n) (by omega) hb ok q wf hlt hg (m + 1) p bs.length c at_ last
      rw [e1, wrapi (by omega) (by omega), outriderref07_Sum_33_L0_eq]
      have hd3 : decide ((at_ : Int) + 8 ≤ (bs.length : Int)) = false := by simp; omega
      rw [hd3, cond_false]
      have tok := take_ok ok last
      simp only [g1, nnK_some', cellK, wrK, aggK, St.cells, List.getElem?_cons_zero, List.getElem?_cons_succ, Nat.zero_add, asInt_int, List.length_cons, List.length_nil, List.all_cons, List.all_nil, isCell, spl, List.set_cons_zero, List.set_cons_succ, get_set_self, set_set, Bool.and_true, and_self, and_true, if_true, Nat.reduceAdd, Nat.reduceLeDiff, Nat.le_refl, List.drop_zero, List.take_succ_cons, List.take_zero]
      have ok1 : St.ok ⟨(take s last).a, (take s last).b, ixor .u64 (take s last).c 255, (take s last).d⟩ := ⟨tok.1, tok.2.1, u64_ixor _ _, tok.2.2.2⟩
      obtain ⟨r1, e1, y1, z1⟩ := Round_eq (n := n) (by omega) ok1 (WFx_put w1 l1 (.cells (St.cells ⟨(take s last).a, (take s last).b, ixor .u64 (take s last).c 255, (take s last).d⟩) false))
      obtain ⟨r2, e2, y2, z2⟩ := Round_eq (n := n) (by omega) (rnd_ok ok1) z1
      obtain ⟨r3, e3, y3, z3⟩ := Round_eq (n := n) (by omega) (rnd_ok (rnd_ok ok1)) z2
      obtain ⟨r4, e4, y4, z4⟩ := Round_eq (n := n) (by omega) (rnd_ok (rnd_ok (rnd_ok ok1))) z3
      simp only [St.cells] at e1
      rw [e1]; simp only [Option.bind_some]
      rw [show outriderref07_Round_52 n [_, _, _, _] r1 = _ from e2]; simp only [Option.bind_some]
      rw [e3]; simp only [Option.bind_some]
      rw [e4]; simp only [Option.bind_some]
      have lt1 := y1.next_lt l1
      have lt2 := y2.next_lt lt1
      have lt3 := y3.next_lt lt2
      have lt4 := y4.next_lt lt3
      have g4 := (y4.get b lt3).trans ((y3.get b lt2).trans ((y2.get b lt1).trans ((y1.get b l1).trans (get_set_self _ _ _))))
      simp only [g4, nnK_some', cellK, wrK, St.cells, List.getElem?_cons_zero, List.getElem?_cons_succ, Nat.zero_add, asInt_int, List.length_cons, List.length_nil, List.all_cons, List.all_nil, isCell, spl, List.set_cons_zero, List.set_cons_succ, get_set_self, set_set, Bool.and_true, and_self, and_true, if_true, Nat.reduceAdd, Nat.reduceLeDiff, Nat.le_refl]
      have qq := ((((q1.set hb (.cells (St.cells ⟨(take s last).a, (take s last).b, ixor .u64 (take s last).c 255, (take s last).d⟩) false)).trans y1).trans y2).trans y3).trans y4
      refine ⟨r4.set b (.cells (rnds 4 ⟨(take s last).a, (take s last).b, ixor .u64 (take s last).c 255, (take s last).d⟩).cells false), ?_, qq.set hb _, WFx_put z4 lt4 _⟩
      subst hL
      rfl

end Go.Ev.Try
