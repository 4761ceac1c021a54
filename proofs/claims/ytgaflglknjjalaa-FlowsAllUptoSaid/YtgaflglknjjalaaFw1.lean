/- What the given package 'sip' computes, in plain numbers: its number, its round, its sum; for every heap. -/
import Derived.Test.YtgaflglknjjalaaEvP10
set_option linter.all false
namespace Go.Ev.Try
set_option maxRecDepth 10000
open Go.Proofs


/-! ### nothing is asked of a heap here -/
def _root_.Go.Ev.H.WFx (_ : H) : Prop := True
theorem WFx_make {h : H} (_ : h.WFx) (o : AObj) : (h.new o).WFx := trivial
theorem WFx_put {h : H} (_ : h.WFx) {i : Nat} (_ : i < h.next) (o : AObj) : (h.set i o).WFx := trivial
theorem _root_.Go.Ev.Row.quiet {h h' : H} {size : Nat} {p : Option (Nat × Nat)} {len : Nat} {c : Cap} {vs : List AV} (s : Row h size p len c vs) (_ : h.WFx) (q : Quiet h h') : Row h' size p len c vs := s.mod0 (q.mod [])

/-! ### plain numbers -/

/-- little end first -/
def num : List Int → Int
  | [] => 0
  | b :: bs => b + 256 * num bs

def byte (x : Int) : Prop := 0 ≤ x ∧ x < 256
def Bytes (l : List Int) : Prop := ∀ x ∈ l, byte x
def u64 (x : Int) : Prop := 0 ≤ x ∧ x < 18446744073709551616

theorem wrap64 {x : Int} (h : u64 x) : IntKind.u64.wrap x = x := by
  have := h.1; have := h.2
  simp only [IntKind.wrap, IntKind.bits, IntKind.signed]
  simp; omega
theorem wrap64_mod (x : Int) : IntKind.u64.wrap x = x % 18446744073709551616 := by
  simp [IntKind.wrap, IntKind.bits, IntKind.signed]
theorem u64_wrap (x : Int) : u64 (IntKind.u64.wrap x) := by
  rw [wrap64_mod]; unfold u64; omega
theorem wrapi {x : Int} (h0 : -9223372036854775808 ≤ x) (h1 : x < 9223372036854775808) : IntKind.i64.wrap x = x := by
  simp only [IntKind.wrap, IntKind.bits, IntKind.signed]
  simp; split <;> omega
theorem num_nonneg : ∀ {l : List Int}, Bytes l → 0 ≤ num l
  | [], _ => Int.le_refl _
  | b :: bs, h => by
    have h1 := num_nonneg (l := bs) (fun x hx => h x (by simp [hx]))
    have h2 := (h b (by simp)).1
    simp only [num]; omega
theorem num_lt : ∀ {l : List Int}, Bytes l → num l < 256 ^ l.length
  | [], _ => by simp [num]
  | b :: bs, h => by
    have h1 := num_lt (l := bs) (fun x hx => h x (by simp [hx]))
    have h2 := (h b (by simp)).2
    simp only [num, List.length_cons, Int.pow_succ]
    omega
theorem num_append : ∀ (l m : List Int), num (l ++ m) = num l + 256 ^ l.length * num m
  | [], m => by simp [num]
  | b :: bs, m => by
    simp only [List.cons_append, num, num_append bs m, List.length_cons, Int.pow_succ]
    rw [Int.mul_add, ← Int.mul_assoc, Int.mul_comm 256 (256 ^ bs.length)]
    omega

/-- two numbers whose digits don't meet -/
theorem ior_add {a b : Int} {k : Nat} (ha : 0 ≤ a) (ha2 : a < 2 ^ k) (hb : 0 ≤ b) (hs : a + b * 2 ^ k < 18446744073709551616) : ior .u64 a (b * 2 ^ k) = a + b * 2 ^ k := by
  obtain ⟨m, rfl⟩ := Int.eq_ofNat_of_zero_le ha
  obtain ⟨n, rfl⟩ := Int.eq_ofNat_of_zero_le hb
  have h1 : m < 2 ^ k := by
    have : ((2 : Int) ^ k) = ((2 ^ k : Nat) : Int) := by rw [Int.natCast_pow]; rfl
    rw [this] at ha2; omega
  have h3 : ((n : Int) * 2 ^ k) = ((n * 2 ^ k : Nat) : Int) := by rw [Int.natCast_mul, Int.natCast_pow]; rfl
  have h2 : m + n * 2 ^ k < 18446744073709551616 := by rw [h3] at hs; omega
  rw [h3]
  have h4 : (BitVec.ofInt 64 (m : Int) ||| BitVec.ofInt 64 ((n * 2 ^ k : Nat) : Int)).toNat = m + n * 2 ^ k := by
    rw [BitVec.toNat_or, BitVec.ofInt_natCast, BitVec.ofInt_natCast, BitVec.toNat_ofNat, BitVec.toNat_ofNat, Nat.mod_eq_of_lt (by omega), Nat.mod_eq_of_lt (by omega)]
    rw [Nat.or_comm, Nat.mul_comm n, ← Nat.two_pow_add_eq_or_of_lt h1, Nat.add_comm]
  show IntKind.u64.wrap ((BitVec.ofInt 64 (m : Int) ||| BitVec.ofInt 64 ((n * 2 ^ k : Nat) : Int)).toNat : Nat) = _
  rw [h4, wrap64 ⟨by omega, by omega⟩]
  rw [Int.natCast_add]

abbrev u8s (l : List Int) : List AV := l.map (.int .u8)

theorem pow256 (i : Nat) : (256 : Int) ^ i = 2 ^ (8 * i) := by
  rw [Int.pow_mul]; rfl

theorem pow2_le {i j : Nat} (h : i ≤ j) : (2 : Int) ^ i ≤ 2 ^ j := by
  have := Nat.pow_le_pow_right (n := 2) (by omega) h
  have e1 : ((2 : Int) ^ i) = ((2 ^ i : Nat) : Int) := by rw [Int.natCast_pow]; rfl
  have e2 : ((2 : Int) ^ j) = ((2 ^ j : Nat) : Int) := by rw [Int.natCast_pow]; rfl
  rw [e1, e2]; omega

theorem take_snoc {α : Type} {l : List α} {i : Nat} {b : α} (h : l[i]? = some b) : l.take (i + 1) = l.take i ++ [b] := by
  rw [List.take_add_one, h]; rfl

theorem Bytes.take {l : List Int} (h : Bytes l) (i : Nat) : Bytes (l.take i) := fun x hx => h x (List.mem_of_mem_take hx)
theorem Bytes.drop {l : List Int} (h : Bytes l) (i : Nat) : Bytes (l.drop i) := fun x hx => h x (List.mem_of_mem_drop hx)

theorem number_step {bs : List Int} (hb : Bytes bs) (h8 : bs.length ≤ 8) {i : Nat} {x : Int} (hx : bs[i]? = some x) :
    ior .u64 (num (bs.take i)) (ishl .u64 (IntKind.u64.wrap x) (IntKind.i64.wrap (8 * i))) = num (bs.take (i + 1)) := by
  have hi : i < bs.length := (List.getElem?_eq_some_iff.1 hx).1
  have hbx := hb x (List.mem_of_getElem? hx)
  obtain ⟨hx0, hx1⟩ := hbx
  have h1 := num_nonneg (hb.take i)
  have h2 := num_lt (hb.take i)
  rw [List.length_take, Nat.min_eq_left (by omega), pow256] at h2
  have h3 : num (bs.take (i + 1)) = num (bs.take i) + x * 2 ^ (8 * i) := by
    rw [take_snoc hx, num_append, List.length_take, Nat.min_eq_left (by omega), pow256, Int.mul_comm]
    simp [num]
  have h4 := num_lt (hb.take (i + 1))
  rw [List.length_take, Nat.min_eq_left (by omega), pow256] at h4
  have h5 := pow2_le (show 8 * (i + 1) ≤ 64 by omega)
  have h6 : (2 : Int) ^ 64 = 18446744073709551616 := by decide
  have hpos : (0 : Int) ≤ 2 ^ (8 * i) := Int.le_of_lt (Int.pow_pos (by decide))
  have hxp := Int.mul_nonneg hx0 hpos
  rw [wrap64 ⟨hx0, by omega⟩, wrapi (by omega) (by omega)]
  have h7 : ishl .u64 x (8 * (i : Int)) = x * 2 ^ (8 * i) := by
    unfold ishl
    rw [show min (8 * (i : Int)).toNat IntKind.u64.bits = 8 * i by show min (8 * (i : Int)).toNat 64 = _; omega]
    exact wrap64 ⟨hxp, by omega⟩
  rw [h7, h3]
  exact ior_add h1 h2 hx0 (by omega)

theorem number_loop {h : H} {p : Option (Nat × Nat)} {c : Cap} {bs : List Int} (hb : Bytes bs) (h8 : bs.length ≤ 8) (s : Row h 1 p bs.length c (u8s bs)) (n : Nat) :
    ∀ (k i m : Nat), i + k = bs.length → k < m → sip_number_48_L0 n m (num (bs.take i)) p bs.length c bs.length i h = some (num bs, h)
  | 0, i, m + 1, hk, _ => by
    rw [sip_number_48_L0_eq]
    obtain rfl : i = bs.length := by omega
    simp
  | k + 1, i, m + 1, hk, hm => by
    rw [sip_number_48_L0_eq]
    have hi : i < bs.length := by omega
    have hx : bs[i]? = some bs[i] := List.getElem?_eq_getElem hi
    have hd : decide ((i : Int) < (bs.length : Int)) = true := by simp; omega
    rw [hd, cond_true, if_pos ⟨by omega, by omega⟩]
    rw [show (i : Int).toNat = i from rfl, s.at1 (i := i) (v := .int .u8 bs[i]) (by simp [u8s, hx]), asInt_int]
    rw [wrapi (x := 8 * (i : Int)) (by omega) (by omega), if_neg (by omega)]
    have hst := number_step hb h8 hx
    rw [wrapi (x := 8 * (i : Int)) (by omega) (by omega)] at hst
    rw [hst, wrapi (by omega) (by omega), show (i : Int) + 1 = ((i + 1 : Nat) : Int) from rfl]
    exact number_loop hb h8 s n k (i + 1) m (by omega) (by omega)

theorem number_eq {h : H} {p : Option (Nat × Nat)} {len : Nat} {c : Cap} {bs : List Int} (hb : Bytes bs) (hl : len = bs.length) (h8 : bs.length ≤ 8) (s : Row h 1 p len c (u8s bs)) {n : Nat} (hn : 8 < n) : sip_number_48 n p len c h = some (num bs, h) := by
  subst hl
  rw [sip_number_48_eq]
  exact number_loop hb h8 s n bs.length 0 n (by omega) (by omega)

/-! ### the round -/

def rot (x : Int) (k : Nat) : Int := x * 2 ^ k % 18446744073709551616 + x / 2 ^ (64 - k)

theorem rot_eq {x : Int} (hx : u64 x) {k : Nat} (h0 : 0 < k) (h1 : k < 64) : ior .u64 (ishl .u64 x k) (ishr .u64 x (IntKind.i64.wrap (64 - k))) = rot x k := by
  obtain ⟨hx0, hx1⟩ := hx
  obtain ⟨m, rfl⟩ := Int.eq_ofNat_of_zero_le hx0
  have hm : m < 18446744073709551616 := by omega
  rw [wrapi (by omega) (by omega)]
  have e2 : ∀ j : Nat, ((2 : Int) ^ j) = ((2 ^ j : Nat) : Int) := fun j => by rw [Int.natCast_pow]; rfl
  have h2 : ishl .u64 (m : Int) (k : Int) = ((m * 2 ^ k % 18446744073709551616 : Nat) : Int) := by
    unfold ishl
    rw [show min (k : Int).toNat IntKind.u64.bits = k by show min (k : Int).toNat 64 = k; omega, wrap64_mod, e2, ← Int.natCast_mul]
    rfl
  have h3 : ishr .u64 (m : Int) (64 - (k : Int)) = ((m / 2 ^ (64 - k) : Nat) : Int) := by
    unfold ishr
    rw [show min (64 - (k : Int)).toNat IntKind.u64.bits = 64 - k by show min (64 - (k : Int)).toNat 64 = 64 - k; omega, e2, Int.fdiv_eq_ediv_of_nonneg _ (Int.natCast_nonneg (2 ^ (64 - k)))]
    rfl
  have h4 : rot (m : Int) k = ((m * 2 ^ k % 18446744073709551616 + m / 2 ^ (64 - k) : Nat) : Int) := by
    unfold rot
    rw [e2, e2, ← Int.natCast_mul, Int.natCast_add]
    rfl
  have hp : 2 ^ (64 - k) * 2 ^ k = 18446744073709551616 := by rw [← Nat.pow_add, show 64 - k + k = 64 by omega]
  have hlow : m / 2 ^ (64 - k) < 2 ^ k := by
    rw [Nat.div_lt_iff_lt_mul (Nat.two_pow_pos _), Nat.mul_comm, hp]; exact hm
  have hmul : m * 2 ^ k % 18446744073709551616 = (m % 2 ^ (64 - k)) * 2 ^ k := by
    rw [← hp, Nat.mul_mod_mul_right]
  have hsum : m / 2 ^ (64 - k) + (m % 2 ^ (64 - k)) * 2 ^ k < 18446744073709551616 := by
    have h5 : m % 2 ^ (64 - k) + 1 ≤ 2 ^ (64 - k) := Nat.mod_lt _ (Nat.two_pow_pos _)
    have h6 := Nat.mul_le_mul_right (2 ^ k) h5
    rw [hp, Nat.add_mul, Nat.one_mul] at h6
    omega
  rw [h2, h3, h4, hmul]
  have h7 : ∀ a b : Int, ior .u64 a b = ior .u64 b a := fun a b => by
    simp only [ior]; rw [BitVec.or_comm]
  rw [h7]
  have h8 := ior_add (a := ((m / 2 ^ (64 - k) : Nat) : Int)) (b := ((m % 2 ^ (64 - k) : Nat) : Int)) (k := k) (Int.natCast_nonneg _) (by rw [e2]; exact Int.ofNat_lt.2 hlow) (Int.natCast_nonneg _) (by rw [e2, ← Int.natCast_mul, ← Int.natCast_add]; exact Int.ofNat_lt.2 hsum)
  rw [e2, ← Int.natCast_mul] at h8
  rw [h8, ← Int.natCast_add, Nat.add_comm]

theorem turned_eq {x : Int} (hx : u64 x) {k : Int} (h0 : 0 < k) (h1 : k < 64) (n : Nat) (h : H) : sip_turned_63 n x k h = some (rot x k.toNat, h) := by
  rw [sip_turned_63_eq, if_neg (by omega), if_neg (by rw [wrapi (by omega) (by omega)]; omega)]
  obtain ⟨j, rfl⟩ := Int.eq_ofNat_of_zero_le (Int.le_of_lt h0)
  rw [rot_eq hx (by omega) (by omega)]
  rfl

theorem u64_rot {x : Int} (hx : u64 x) {k : Nat} (h0 : 0 < k) (h1 : k < 64) : u64 (rot x k) := by
  rw [← rot_eq hx h0 h1]; exact u64_wrap _
theorem u64_ixor (a b : Int) : u64 (ixor .u64 a b) := u64_wrap _

theorem turned_13 {x : Int} (hx : u64 x) (n : Nat) (h : H) : sip_turned_63 n x 13 h = some (rot x 13, h) := turned_eq hx (by decide) (by decide) n h
theorem turned_16 {x : Int} (hx : u64 x) (n : Nat) (h : H) : sip_turned_63 n x 16 h = some (rot x 16, h) := turned_eq hx (by decide) (by decide) n h
theorem turned_17 {x : Int} (hx : u64 x) (n : Nat) (h : H) : sip_turned_63 n x 17 h = some (rot x 17, h) := turned_eq hx (by decide) (by decide) n h
theorem turned_21 {x : Int} (hx : u64 x) (n : Nat) (h : H) : sip_turned_63 n x 21 h = some (rot x 21, h) := turned_eq hx (by decide) (by decide) n h
theorem turned_32 {x : Int} (hx : u64 x) (n : Nat) (h : H) : sip_turned_63 n x 32 h = some (rot x 32, h) := turned_eq hx (by decide) (by decide) n h

structure St where
  a : Int
  b : Int
  c : Int
  d : Int

def St.cells (s : St) : List AV := [.int .u64 s.a, .int .u64 s.b, .int .u64 s.c, .int .u64 s.d]
def St.ok (s : St) : Prop := u64 s.a ∧ u64 s.b ∧ u64 s.c ∧ u64 s.d

def rnd (s : St) : St :=
  let a1 := IntKind.u64.wrap (s.a + s.b)
  let b1 := ixor .u64 (rot s.b 13) a1
  let a2 := rot a1 32
  let c1 := IntKind.u64.wrap (s.c + s.d)
  let d1 := ixor .u64 (rot s.d 16) c1
  let a3 := IntKind.u64.wrap (a2 + d1)
  let d2 := ixor .u64 (rot d1 21) a3
  let c2 := IntKind.u64.wrap (c1 + b1)
  let b2 := ixor .u64 (rot b1 17) c2
  ⟨a3, b2, rot c2 32, d2⟩

theorem rnd_ok {s : St} (h : s.ok) : (rnd s).ok := ⟨u64_wrap _, u64_wrap _, u64_rot (u64_wrap _) (by decide) (by decide), u64_wrap _⟩

def rnds : Nat → St → St
  | 0, s => s
  | k + 1, s => rnds k (rnd s)
theorem rnds_ok : ∀ (k : Nat) {s : St}, s.ok → (rnds k s).ok
  | 0, _, h => h
  | k + 1, _, h => rnds_ok k (rnd_ok h)

theorem rounds_loop (n : Nat) {b : Nat} {k : Nat} (hk : k < 100) : ∀ (j i m : Nat) (s : St) (h : H), i + j = k → j < m → s.ok → h.get b = some (.cells s.cells false) →
    sip_state_rounds_50_L0 n m (some (b, 0)) k i h = some ((), if j = 0 then h else h.set b (.cells (rnds j s).cells false))
  | 0, i, m + 1, s, h, hij, _, _, _ => by
    rw [sip_state_rounds_50_L0_eq]
    obtain rfl : i = k := by omega
    simp
  | j + 1, i, m + 1, s, h, hij, hm, ok, hg => by
    rw [sip_state_rounds_50_L0_eq]
    have hd : decide ((i : Int) < (k : Int)) = true := by simp; omega
    rw [hd, cond_true]
    obtain ⟨o1, o2, o3, o4⟩ := ok
    simp only [nnK_some', cellK, wrK, hg, St.cells, List.getElem?_cons_zero, List.getElem?_cons_succ, Nat.zero_add, asInt_int, List.length_cons, List.length_nil, List.all_cons, List.all_nil, isCell, spl, List.set_cons_zero, List.set_cons_succ, get_set_self, set_set, Bool.and_true, and_self, and_true, if_true,
      turned_13, turned_16, turned_17, turned_21, turned_32, u64_wrap, u64_ixor, o1, o2, o3, o4, Option.bind_some, sameK_same, minus_self, minus_none, Nat.reduceAdd, Nat.reduceLeDiff, Nat.le_refl]
    rw [wrapi (by omega) (by omega), show (i : Int) + 1 = ((i + 1 : Nat) : Int) from rfl]
    have ih := rounds_loop n hk j (i + 1) m (rnd s) (h.set b (.cells (rnd s).cells false)) (by omega) (by omega) (rnd_ok ⟨o1, o2, o3, o4⟩) (get_set_self _ _ _)
    rw [set_set] at ih
    refine ih.trans ?_
    rw [if_neg (Nat.succ_ne_zero j)]
    cases j with
    | zero => rfl
    | succ j => rw [if_neg (Nat.succ_ne_zero j)]; rfl

theorem rounds_eq {b k n : Nat} (hk : 0 < k) (hk2 : k < 100) (hn : 100 ≤ n) {s : St} {h : H} (ok : s.ok) (hg : h.get b = some (.cells s.cells false)) :
    sip_state_rounds_50 n (some (b, 0)) k h = some ((), h.set b (.cells (rnds k s).cells false)) := by
  rw [sip_state_rounds_50_eq]
  have := rounds_loop n hk2 k 0 n s h (by omega) (by omega) ok hg
  rw [if_neg (by omega)] at this
  exact this

def take (s : St) (m : Int) : St :=
  let t := rnds 2 ⟨s.a, s.b, s.c, ixor .u64 s.d m⟩
  ⟨ixor .u64 t.a m, t.b, t.c, t.d⟩

theorem take_ok {s : St} (h : s.ok) (m : Int) : (take s m).ok := by
  have := rnds_ok 2 (s := ⟨s.a, s.b, s.c, ixor .u64 s.d m⟩) ⟨h.1, h.2.1, h.2.2.1, u64_ixor _ _⟩
  exact ⟨u64_ixor _ _, this.2.1, this.2.2.1, this.2.2.2⟩

theorem take_eq {b n : Nat} (hn : 100 ≤ n) {s : St} {h : H} (ok : s.ok) (hg : h.get b = some (.cells s.cells false)) (m : Int) :
    sip_state_take_49 n (some (b, 0)) m h = some ((), h.set b (.cells (take s m).cells false)) := by
  rw [sip_state_take_49_eq]
  simp only [nnK_some', cellK, wrK, hg, St.cells, List.getElem?_cons_zero, List.getElem?_cons_succ, Nat.zero_add, asInt_int, List.length_cons, List.length_nil, List.all_cons, List.all_nil, isCell, spl, List.set_cons_zero, List.set_cons_succ, get_set_self, set_set, Bool.and_true, and_self, and_true, if_true, Nat.reduceAdd, Nat.reduceLeDiff, Nat.le_refl]
  have hr := rounds_eq (k := 2) (b := b) (n := n) (by decide) (by decide) hn (s := ⟨s.a, s.b, s.c, ixor .u64 s.d m⟩) (h := h.set b (.cells (St.cells ⟨s.a, s.b, s.c, ixor .u64 s.d m⟩) false)) ⟨ok.1, ok.2.1, ok.2.2.1, u64_ixor _ _⟩ (get_set_self _ _ _)
  simp only [St.cells, Int.cast_ofNat_Int] at hr
  rw [hr]
  simp only [Option.bind_some, nnK_some', cellK, wrK, get_set_self, set_set, List.getElem?_cons_zero, List.getElem?_cons_succ, Nat.zero_add, asInt_int, List.length_cons, List.length_nil, List.all_cons, List.all_nil, isCell, spl, List.set_cons_zero, List.set_cons_succ, Bool.and_true, and_self, and_true, if_true, Nat.reduceAdd, Nat.reduceLeDiff, Nat.le_refl]
  rfl

/-! ### the sum -/

def blocks : Nat → St → List Int → St
  | 0, s, _ => s
  | k + 1, s, l => blocks k (take s (num (l.take 8))) (l.drop 8)

def start (key : List Int) : St :=
  ⟨ixor .u64 8317987319222330741 (num (key.take 8)), ixor .u64 7237128888997146477 (num (key.drop 8)), ixor .u64 7816392313619706465 (num (key.take 8)), ixor .u64 8387220255154660723 (num (key.drop 8))⟩

/-- behind the last block -/
def done (s : St) (last : Int) : Int :=
  let t := take s last
  let u := rnds 4 ⟨t.a, t.b, ixor .u64 t.c 255, t.d⟩
  ixor .u64 (ixor .u64 (ixor .u64 u.a u.b) u.c) u.d

def sum (key bs : List Int) : Int :=
  done (blocks (bs.length / 8) (start key) bs) (num (bs.drop (bs.length / 8 * 8)) + (bs.length : Int) % 256 * 2 ^ 56)

theorem start_ok (key : List Int) : (start key).ok := ⟨u64_ixor _ _, u64_ixor _ _, u64_ixor _ _, u64_ixor _ _⟩

theorem last_eq {bs : List Int} (hb : Bytes bs) (h7 : bs.length ≤ 7) {t : Int} (ht : u64 t) : ior .u64 (num bs) (ishl .u64 t 56) = num bs + t % 256 * 2 ^ 56 := by
  have h1 : ishl .u64 t 56 = t % 256 * 2 ^ 56 := by
    unfold ishl
    rw [show min (56 : Int).toNat IntKind.u64.bits = 56 from rfl, wrap64_mod]
    obtain ⟨h1, h2⟩ := ht
    omega
  rw [h1]
  have h2 := num_lt hb
  rw [pow256] at h2
  have h3 := pow2_le (show 8 * bs.length ≤ 56 by omega)
  have h4 : (2 : Int) ^ 56 = 72057594037927936 := by decide
  exact ior_add (num_nonneg hb) (by omega) (by omega) (by omega)

theorem sum_loop {a : H} (wa : a.WFx) {b : Nat} (hb : a.next ≤ b) {t : Int} (ht : u64 t) {n : Nat} (hn : 100 ≤ n) : ∀ (m : Nat) (bs : List Int) (p : Option (Nat × Nat)) (c : Cap) (s : St) (h : H), bs.length / 8 < m → Bytes bs → Row a 1 p bs.length c (u8s bs) → s.ok →
    Quiet a h → h.WFx → b < h.next → h.get b = some (.cells s.cells false) →
    ∃ h', sip_Sum_31_L0 n m p bs.length c (some (b, 0)) t h = some (done (blocks (bs.length / 8) s bs) (num (bs.drop (bs.length / 8 * 8)) + t % 256 * 2 ^ 56), h') ∧ Quiet a h' ∧ h'.WFx
  | 0, bs, p, c, s, h, hm, _, _, _, _, _, _, _ => by omega
  | m + 1, bs, p, c, s, h, hm, hbs, hs, ok, q, wf, hlt, hg => by
    rw [sip_Sum_31_L0_eq]
    by_cases h8 : 8 ≤ bs.length
    · have hd : decide ((bs.length : Int) ≥ 8) = true := by simp; omega
      rw [hd, cond_true]
      obtain ⟨p1, c1, hs1, _, e1⟩ := hs.upto (k := .i64) (hi := 8) (by omega) (by omega)
      obtain ⟨p2, c2, hs2, _, e2⟩ := hs.from (k := .i64) (lo := 8) (by omega) (by omega)
      rw [e1]
      simp only [show (8 : Int).toNat = 8 from rfl, Nat.mul_one] at hs1 hs2 ⊢
      have hl1 : (bs.take 8).length = 8 := by simp; omega
      have hl2 : (bs.drop 8).length = bs.length - 8 := by simp
      rw [← List.map_take] at hs1
      rw [← List.map_drop] at hs2
      rw [number_eq (hbs.take 8) hl1.symm (by omega) (hs1.quiet wa q) (by omega)]
      simp only [Option.bind_some]
      rw [take_eq hn ok hg]
      simp only [Option.bind_some]
      rw [e2]
      rw [show (8 : Int).toNat = 8 from rfl, ← hl2]
      rw [← hl2] at hs2
      obtain ⟨h', e, q', wf'⟩ := sum_loop wa hb ht hn m (bs.drop 8) p2 c2 (take s (num (bs.take 8))) (h.set b (.cells (take s (num (bs.take 8))).cells false)) (by omega) (hbs.drop 8) hs2 (take_ok ok _) (q.set hb _) (WFx_put wf hlt _) hlt (get_set_self _ _ _)
      refine ⟨h', e.trans ?_, q', wf'⟩
      have hdiv : bs.length / 8 = (bs.drop 8).length / 8 + 1 := by omega
      rw [hdiv, blocks, List.drop_drop, show ((bs.drop 8).length / 8 + 1) * 8 = 8 + (bs.drop 8).length / 8 * 8 by omega]
    · have hd : decide ((bs.length : Int) ≥ 8) = false := by simp; omega
      rw [hd, cond_false, number_eq hbs rfl (by omega) (hs.quiet wa q) (by omega)]
      simp only [Option.bind_some]
      rw [take_eq hn ok hg, last_eq hbs (by omega) ht]
      have h0 : bs.length / 8 = 0 := by omega
      rw [h0, Nat.zero_mul, List.drop_zero]
      generalize num bs + t % 256 * 2 ^ 56 = last
      simp only [nnK_some', cellK, wrK, get_set_self, set_set, Option.bind_some, St.cells, List.getElem?_cons_zero, List.getElem?_cons_succ, Nat.zero_add, asInt_int, List.length_cons, List.length_nil, List.all_cons, List.all_nil, isCell, spl, List.set_cons_zero, List.set_cons_succ, Bool.and_true, and_self, and_true, if_true, Nat.reduceAdd, Nat.reduceLeDiff, Nat.le_refl]
      have tok := take_ok ok last
      have hr := rounds_eq (k := 4) (b := b) (n := n) (by decide) (by decide) hn (s := ⟨(take s last).a, (take s last).b, ixor .u64 (take s last).c 255, (take s last).d⟩) (h := h.set b (.cells (St.cells ⟨(take s last).a, (take s last).b, ixor .u64 (take s last).c 255, (take s last).d⟩) false)) ⟨tok.1, tok.2.1, u64_ixor _ _, tok.2.2.2⟩ (get_set_self _ _ _)
      simp only [St.cells, Int.cast_ofNat_Int] at hr
      rw [hr]
      simp only [Option.bind_some, nnK_some', cellK, get_set_self, set_set, List.getElem?_cons_zero, List.getElem?_cons_succ, Nat.zero_add, asInt_int, Nat.reduceAdd]
      exact ⟨_, rfl, q.set hb _, WFx_put wf hlt _⟩

theorem sum_eq {h : H} (wf : h.WFx) {n : Nat} {key bs : List Int} (hk : Bytes key) (hk2 : key.length = 16) (hb : Bytes bs) {p : Option (Nat × Nat)} {len : Nat} {c : Cap} (hl : len = bs.length) (hs : Row h 1 p len c (u8s bs)) (hn : 100 + bs.length ≤ n) (hmax : bs.length < 9223372036854775808) :
    ∃ h', sip_Sum_31 n (u8s key) p len c h = some (sum key bs, h') ∧ Quiet h h' ∧ h'.WFx := by
  subst hl
  rw [sip_Sum_31_eq]
  simp only [newK_eq, next_new]
  have hg : (h.new (.cells (u8s key) false)).get h.next = some (.cells (u8s key) false) := get_new_self _ _
  have s1 : Row (h.new (.cells (u8s key) false)) 1 (some (h.next, 0)) 8 (.known 16) (u8s (key.take 8)) := .row (Nat.lt_succ_self _) hg (by simp) (by simp [hk2]) (.inr ⟨16, rfl, by decide⟩)
  have s2 : Row (h.new (.cells (u8s key) false)) 1 (some (h.next, 8)) 8 (.known 8) (u8s (key.drop 8)) := .row (Nat.lt_succ_self _) hg (by rw [← List.map_drop, List.take_of_length_le (by simp [hk2])]) (by simp [hk2]) (.inr ⟨8, rfl, by decide⟩)
  rw [number_eq (hk.take 8) (by simp [hk2]) (by simp [hk2]) s1 (by omega)]
  simp only [Option.bind_some]
  rw [number_eq (hk.drop 8) (by simp [hk2]) (by simp [hk2]) s2 (by omega)]
  simp only [Option.bind_some, next_new]
  have q1 : Quiet h ((h.new (.cells (u8s key) false)).new (.cells (start key).cells false)) := ((Quiet.refl h).new _).new _
  have wf1 := WFx_make (WFx_make wf (.cells (u8s key) false)) (.cells (start key).cells false)
  have hu : u64 (bs.length : Int) := ⟨by omega, by omega⟩
  have hloop := sum_loop wf (b := h.next + 1) (by omega) hu (n := n) (by omega) n bs p c (start key) _ (by omega) hb hs (start_ok key) q1 wf1 (by simp) (get_new_self _ _)
  obtain ⟨h', e, q, wf'⟩ := hloop
  refine ⟨h', ?_, q, wf'⟩
  rw [wrap64 hu]
  simp only [St.cells, start] at e
  simp only [sum, start]
  exact e

end Go.Ev.Try
