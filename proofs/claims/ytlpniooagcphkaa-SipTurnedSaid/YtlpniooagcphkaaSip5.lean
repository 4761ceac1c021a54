/- The laws SipOwn, SipTexts, SipTurned of chapter 07, in plain Lean. -/
import Derived.Test.YtlpniooagcphkaaSip4
namespace Go.Ev.Try
open Go.Proofs
set_option maxRecDepth 10000

/-- a text's bytes, as numbers -/
def nums (s : ByteArray) : List Int := s.data.toList.map fun c => (c.toNat : Int)

theorem nums_length (s : ByteArray) : (nums s).length = s.size := by simp [nums]
theorem nums_bytes (s : ByteArray) : Bytes (nums s) := by
  intro x hx
  simp only [nums, List.mem_map] at hx
  obtain ⟨c, _, rfl⟩ := hx
  have := c.toNat_lt
  exact ⟨by omega, by omega⟩
theorem nums_str {bs : List Int} (hb : Bytes bs) : nums (strOfNums bs) = bs := by
  unfold nums
  rw [strOfNums_data, List.map_map]
  refine (List.map_congr_left (g := id) fun x hx => ?_).trans (List.map_id _)
  obtain ⟨h0, h1⟩ := hb x hx
  have : x.toNat < 256 := by omega
  simp only [Function.comp, UInt8.toNat_ofNat', id]
  omega
theorem nums_cells (s : ByteArray) : (s.data.toList.map fun c => AV.int .u8 c.toNat) = u8s (nums s) := by simp [nums, u8s]

theorem Text_eq {h : H} (wf : h.WF) {n : Nat} {key : List Int} (hk : Bytes key) (hk2 : key.length = 16) (s : ByteArray) (hn : 100 + s.size ≤ n) (hmax : s.size < 9223372036854775808) :
    ∃ h', sip_Text_12 n (u8s key) s h = some (sum key (nums s), h') ∧ Quiet h h' ∧ h'.WF := by
  rw [sip_Text_12_eq]
  simp only [newK_eq, next_new]
  rw [aggK_all (get_new_self _ _) (by simp [hk2]), nums_cells]
  have hl := nums_length s
  obtain ⟨h', e, q, w⟩ := sum_eq (WF_make (WF_make wf (.cells (u8s key) false)) (.cells (u8s (nums s)) false)) (n := n) hk hk2 (nums_bytes s) (p := some (h.next + 1, 0)) (c := .rest 1) hl.symm (.row (get_new_self (h.new _) _) (by rw [List.drop_zero, List.take_of_length_le (by simp [hl])]) (by simp [hl]) (.inl rfl)) (by omega) (by omega)
  rw [e]
  exact ⟨h', rfl, (((Quiet.refl h).new _).new _).trans q, w⟩

theorem sipOwn_true {c0 : List AV} {p : Option (Nat × Nat)} {l : Nat} {c : Cap} {tg : Option Tgt} {cs : List AV} (w0 : Fits ks16 c0) (w1 : Arg 0 [.int .u8] 1 p l c cs) : ∃ n h', outriderlaw07_SipOwn_5 n c0 p l c (H0 [(tg, cs)]) = some (true, h') := by
  obtain ⟨key, rfl, hk, hkb⟩ := key_of w0
  obtain ⟨bs, hbl, hsz, hs, hbw⟩ := sl_ints (rows := [(tg, cs)]) rfl w1
  have hb : Bytes bs := fun x hx => byte_wf (hbw x hx)
  have hr : l ≤ 140737488351232 := by have : reachBytes = 140737488351232 := rfl; omega
  refine ⟨200 + l, ?_⟩
  rw [outriderlaw07_SipOwn_5_eq]
  have wf := WF_H0 [(tg, cs)]
  generalize H0 [(tg, cs)] = h at *
  have hkl : (u8s key).length = 16 := by simp [hk]
  have wf1 := WF_make wf (.cells (u8s key) false)
  have g0 : (h.new (.cells (u8s key) false)).get h.next = some (.cells (u8s key) false) := get_new_self _ _
  have l0 : h.next < (h.new (.cells (u8s key) false)).next := by simp
  have hs0 := hs.quiet wf ((Quiet.refl h).new (.cells (u8s key) false))
  simp only [newK_eq]
  rw [bsK_of hs0, aggK_all g0 hkl]
  generalize h.new (.cells (u8s key) false) = h2 at *
  obtain ⟨h3, e3, q3, f3⟩ := sum_eq wf1 (n := 200 + l) hkb hk hb hbl.symm hs0 (by omega) (by omega)
  generalize hS : sum key bs = S at e3
  rw [e3]; simp only [Option.bind_some]
  obtain ⟨h4, e4, q4, f4⟩ := alive_eq f3 (n := 200 + l) (by omega)
  rw [e4]; simp only [Option.bind_some, cond_true]
  have q24 := q3.trans q4
  have hs4 := hs0.quiet wf1 q24
  have g4 := (q24.get _ l0).trans g0
  have l4 := q24.next_lt l0
  rw [bsK_of hs4]
  simp only [beq_self_eq_true, cond_true]
  rw [aggK_all g4 hkl]
  have f5 := WF_make f4 (.cells [] false)
  have q5 : Quiet h4 (h4.new (.cells [] false)) := (Quiet.refl h4).new _
  have hs5 := hs4.quiet f4 q5
  have g5 : (h4.new (.cells [] false)).get h4.next = some (.cells [] false) := get_new_self _ _
  have gk := (q5.get _ l4).trans g4
  have lk := q5.next_lt l4
  generalize h4.new (.cells [] false) = h5 at *
  have fin : ∀ (p' : Option (Nat × Nat)) (c' : Cap) (h6 : H), h6.WF → Quiet h5 h6 → SL h6 1 p' l c' (u8s bs) →
      ∃ h', quietK true h5 h6 ((sip_Sum_9 (200 + l) (u8s key) p' l c' h6).bind fun r15 => cond (r15.1 == S) (aggK r15.2 h.next 0 16 fun l16 => (sip_Text_12 (200 + l) l16 (strOfNums bs) r15.2).bind fun r17 => some ((r17.1 == S), r17.2)) (some (false, r15.2))) = some (true, h') := by
    intro p' c' h6 f6 q6 s6
    obtain ⟨h7, e7, q7, f7⟩ := sum_eq f6 (n := 200 + l) hkb hk hb hbl.symm s6 (by omega) (by omega)
    rw [hS] at e7
    rw [quietK_of q6, e7, Option.bind_some, beq_self_eq_true, cond_true]
    rw [aggK_all ((q7.get _ (q6.next_lt lk)).trans ((q6.get _ lk).trans gk)) hkl]
    have hsize : (strOfNums bs).size = l := by rw [strOfNums_size, hbl]
    obtain ⟨h8, e8, q8, f8⟩ := Text_eq f7 (n := 200 + l) hkb hk (strOfNums bs) (by omega) (by omega)
    rw [nums_str hb, hS] at e8
    rw [e8, Option.bind_some, beq_self_eq_true]
    exact ⟨h8, rfl⟩
  rcases append_copy (bytes := 1) hs5 g5 (by omega) (by omega) (fun p11 n12 c13 h14 => quietK true h5 h14 ((sip_Sum_9 (200 + l) (u8s key) p11 n12 c13 h14).bind fun r15 => cond (r15.1 == S) (aggK r15.2 h.next 0 16 fun l16 => (sip_Text_12 (200 + l) l16 (strOfNums bs) r15.2).bind fun r17 => some ((r17.1 == S), r17.2)) (some (false, r15.2)))) with ⟨hl0, e⟩ | e
  · rw [e]
    subst hl0
    have : bs = [] := List.eq_nil_of_length_eq_zero hbl
    subst this
    exact fin _ _ h5 f5 (Quiet.refl _) (.row g5 rfl (by simp) (.inr ⟨0, rfl, Nat.le_refl _⟩))
  · rw [e]
    exact fin _ _ _ (WF_make f5 _) ((Quiet.refl h5).new _) (.row (get_new_self _ _) (by rw [List.drop_zero, List.take_of_length_le (by simp [hbl])]) (by simp [hbl]) (.inl rfl))

/-! ### the key turned -/

def turn (x : Int) : Int := 255 - x
def turnTo (key : List Int) (i : Nat) : List Int := (key.take i).map turn ++ key.drop i

theorem turnTo_zero (key : List Int) : turnTo key 0 = key := by simp [turnTo]
theorem turnTo_all {key : List Int} {n : Nat} (h : key.length ≤ n) : turnTo key n = key.map turn := by
  unfold turnTo; rw [List.take_of_length_le h, List.drop_of_length_le h, List.append_nil]
theorem turnTo_len (key : List Int) (i : Nat) : (turnTo key i).length = key.length := by simp [turnTo]; omega
theorem turnTo_get {key : List Int} {i : Nat} (h : i < key.length) : (turnTo key i)[i]? = some key[i] := by
  unfold turnTo
  rw [List.getElem?_append_right (by simp; omega)]
  simp [Nat.min_eq_left (Nat.le_of_lt h), h]
theorem turnTo_set {key : List Int} {i : Nat} (h : i < key.length) : (turnTo key i).set i (turn key[i]) = turnTo key (i + 1) := by
  unfold turnTo
  rw [List.set_append_right _ _ (by simp; omega), take_snoc (List.getElem?_eq_getElem h), List.map_append, List.append_assoc]
  congr 1
  rw [List.drop_eq_getElem_cons h, show i - ((key.take i).map turn).length = 0 by simp; omega]
  rfl
theorem turn_turn (key : List Int) : (key.map turn).map turn = key := by
  rw [List.map_map]
  refine (List.map_congr_left (g := id) fun x _ => ?_).trans (List.map_id _)
  simp only [Function.comp, turn, id]; omega
theorem turn_bytes {key : List Int} (h : Bytes key) : Bytes (key.map turn) := by
  intro x hx
  simp only [List.mem_map] at hx
  obtain ⟨y, hy, rfl⟩ := hx
  obtain ⟨h0, h1⟩ := h y hy
  unfold byte turn; omega

theorem inot_all : ∀ x : Fin 256, inot .u8 ((x.val : Nat) : Int) = 255 - ((x.val : Nat) : Int) := by decide +kernel
theorem inot_byte {x : Int} (h : byte x) : inot .u8 x = turn x := by
  obtain ⟨h0, h1⟩ := h
  obtain ⟨m, rfl⟩ := Int.eq_ofNat_of_zero_le h0
  exact inot_all ⟨m, by omega⟩
theorem sub_byte {x : Int} (h : byte x) : IntKind.u8.wrap (255 - x) = turn x := by
  obtain ⟨h0, h1⟩ := h
  rw [wrap8 ⟨by omega, by omega⟩]; rfl

theorem u8s_set (l : List Int) (i : Nat) (x : Int) : (u8s l).set i (.int .u8 x) = u8s (l.set i x) := by simp [u8s, List.map_set]

theorem Two_loop {n : Nat} {key : List Int} (hk : Bytes key) (hk2 : key.length = 16) (s : ByteArray) (hn : 100 + s.size ≤ n) (hmax : s.size < 9223372036854775808) {a : H} {b1 b2 : Nat} (h1 : a.next ≤ b1) (h2 : a.next ≤ b2) (h12 : b1 ≠ b2) :
    ∀ (j i m : Nat) (h : H), i + j = 16 → j < m → Quiet a h → h.WF → b1 < h.next → b2 < h.next → h.get b1 = some (.cells (u8s key) false) → h.get b2 = some (.cells (u8s (turnTo key i)) false) →
    ∃ h', sip_Two_13_L0 n m s (some (b1, 0)) (some (b2, 0)) i h = some ((sum key (nums s), sum (key.map turn) (nums s)), h') ∧ Quiet a h' ∧ h'.WF
  | 0, i, m + 1, h, hij, hm, q, wf, l1, l2, g1, g2 => by
    obtain rfl : i = 16 := by omega
    rw [turnTo_all (by omega)] at g2
    rw [sip_Two_13_L0_eq, show decide (((16 : Nat) : Int) < 16) = false by decide, cond_false, nnK_some', aggK_all g1 (by simp [hk2])]
    obtain ⟨h3, e3, q3, f3⟩ := Text_eq wf (n := n) hk hk2 s hn hmax
    rw [e3, Option.bind_some, quietK_of q3, nnK_some', aggK_all ((q3.get _ l2).trans g2) (by simp [hk2])]
    obtain ⟨h4, e4, q4, f4⟩ := Text_eq f3 (n := n) (turn_bytes hk) (by simp [hk2]) s hn hmax
    rw [e4, Option.bind_some]
    exact ⟨h4, rfl, (q.trans q3).trans q4, f4⟩
  | j + 1, i, m + 1, h, hij, hm, q, wf, l1, l2, g1, g2 => by
    rw [sip_Two_13_L0_eq]
    have hd : decide ((i : Int) < 16) = true := by simp; omega
    have hi : i < key.length := by omega
    rw [hd, cond_true, nnK_some', if_pos ⟨by omega, by omega⟩, Nat.zero_add, show (i : Int).toNat = i from rfl, cellK_of g2 (v := .int .u8 key[i]) (by rw [List.getElem?_map, turnTo_get hi]; rfl), asInt_int, nnK_some', if_pos ⟨by omega, by omega⟩, Nat.zero_add,
      wrK_one g2 (by simp [turnTo_len]; omega) rfl, inot_byte (hk _ (List.getElem_mem hi)), u8s_set, turnTo_set hi, wrapi (by omega) (by omega), show (i : Int) + 1 = ((i + 1 : Nat) : Int) from rfl]
    exact Two_loop hk hk2 s hn hmax h1 h2 h12 j (i + 1) m _ (by omega) (by omega) (q.set h2 _) (WF_put wf l2 _) l1 l2 (by rw [get_set_ne h12]; exact g1) (get_set_self _ _ _)

abbrev z16 : List AV := [.int .u8 0, .int .u8 0, .int .u8 0, .int .u8 0, .int .u8 0, .int .u8 0, .int .u8 0, .int .u8 0, .int .u8 0, .int .u8 0, .int .u8 0, .int .u8 0, .int .u8 0, .int .u8 0, .int .u8 0, .int .u8 0]

theorem Two_eq {h : H} (wf : h.WF) {n : Nat} {key : List Int} (hk : Bytes key) (hk2 : key.length = 16) (s : ByteArray) (hn : 100 + s.size ≤ n) (hmax : s.size < 9223372036854775808) :
    ∃ h', sip_Two_13 n (u8s key) s h = some ((sum key (nums s), sum (key.map turn) (nums s)), h') ∧ Quiet h h' ∧ h'.WF := by
  rw [sip_Two_13_eq]
  simp only [newK_eq, next_new]
  rw [aggK_all (get_new_self _ _) (by simp [hk2])]
  have g5 : ((h.new (.cells (u8s key) false)).new (.cells z16 false)).get (h.next + 1) = some (.cells z16 false) := get_new_self (h.new _) _
  rw [wrK_of (n := 16) g5 (by simp [hk2]) (by simp) (by simp [u8s, isCell]), spl_all _ _ (by simp [hk2])]
  exact Two_loop hk hk2 s hn hmax (a := h) (b1 := h.next) (b2 := h.next + 1) (Nat.le_refl _) (by omega) (by omega) 16 0 n _ (by omega) (by omega) ((((Quiet.refl h).new _).new _).set (by omega) _)
    (WF_put (WF_make (WF_make wf _) _) (by simp) _) (by simp; omega) (by simp) (by rw [get_set_ne (by omega), get_new_lt (by simp)]; exact get_new_self _ _) (by rw [turnTo_zero]; exact get_set_self _ _ _)

theorem refTwo_loop {n : Nat} {key : List Int} (hk : Bytes key) (hk2 : key.length = 16) (s : ByteArray) (hn : 100 + s.size ≤ n) (hmax : s.size < 4611686018427387904) {a : H} {b1 b2 : Nat} (h1 : a.next ≤ b1) (h2 : a.next ≤ b2) (h12 : b1 ≠ b2) :
    ∀ (j i m : Nat) (h : H), i + j = 16 → j < m → Quiet a h → h.WF → b1 < h.next → b2 < h.next → h.get b1 = some (.cells (u8s key) false) → h.get b2 = some (.cells (u8s (turnTo key i)) false) →
    ∃ h', outriderref07_Two_14_L0 n m s (some (b1, 0)) (some (b2, 0)) i h = some ((sum key (nums s), sum (key.map turn) (nums s)), h') ∧ Quiet a h' ∧ h'.WF
  | 0, i, m + 1, h, hij, hm, q, wf, l1, l2, g1, g2 => by
    obtain rfl : i = 16 := by omega
    rw [turnTo_all (by omega)] at g2
    have hl := nums_length s
    rw [outriderref07_Two_14_L0_eq, show decide (((16 : Nat) : Int) < 16) = false by decide, cond_false, nnK_some', aggK_all g1 (by simp [hk2])]
    simp only [newK_eq, nums_cells]
    have row : ∀ h : H, SL (h.new (.cells (u8s (nums s)) false)) 1 (some (h.next, 0)) s.size (.rest 1) (u8s (nums s)) := fun h => .row (get_new_self _ _) (by rw [List.drop_zero, List.take_of_length_le (by simp [hl])]) (by simp [hl]) (.inl rfl)
    have q0 : Quiet h (h.new (.cells (u8s (nums s)) false)) := (Quiet.refl h).new _
    obtain ⟨h3, e3, q3, f3⟩ := refsum_eq (WF_make wf (.cells (u8s (nums s)) false)) (n := n) hk hk2 (nums_bytes s) hl.symm (row h) (by omega) (by omega)
    have g3 := ((q0.trans q3).get _ l2).trans g2
    rw [e3, Option.bind_some, quietK_of q3, nnK_some', aggK_all g3 (by simp [hk2])]
    obtain ⟨h4, e4, q4, f4⟩ := refsum_eq (WF_make f3 (.cells (u8s (nums s)) false)) (n := n) (turn_bytes hk) (by simp [hk2]) (nums_bytes s) hl.symm (row h3) (by omega) (by omega)
    rw [e4, Option.bind_some]
    exact ⟨h4, rfl, ((q.trans (q0.trans q3)).new _).trans q4, f4⟩
  | j + 1, i, m + 1, h, hij, hm, q, wf, l1, l2, g1, g2 => by
    rw [outriderref07_Two_14_L0_eq]
    have hd : decide ((i : Int) < 16) = true := by simp; omega
    have hi : i < key.length := by omega
    rw [hd, cond_true, nnK_some', if_pos ⟨by omega, by omega⟩, Nat.zero_add, show (i : Int).toNat = i from rfl, cellK_of g1 (v := .int .u8 key[i]) (by rw [List.getElem?_map, List.getElem?_eq_getElem hi]; rfl), asInt_int, nnK_some', if_pos ⟨by omega, by omega⟩, Nat.zero_add,
      wrK_one g2 (by simp [turnTo_len]; omega) rfl, sub_byte (hk _ (List.getElem_mem hi)), u8s_set, turnTo_set hi, wrapi (by omega) (by omega), show (i : Int) + 1 = ((i + 1 : Nat) : Int) from rfl]
    exact refTwo_loop hk hk2 s hn hmax h1 h2 h12 j (i + 1) m _ (by omega) (by omega) (q.set h2 _) (WF_put wf l2 _) l1 l2 (by rw [get_set_ne h12]; exact g1) (get_set_self _ _ _)

theorem refTwo_eq {h : H} (wf : h.WF) {n : Nat} {key : List Int} (hk : Bytes key) (hk2 : key.length = 16) (s : ByteArray) (hn : 100 + s.size ≤ n) (hmax : s.size < 4611686018427387904) :
    ∃ h', outriderref07_Two_14 n (u8s key) s h = some ((sum key (nums s), sum (key.map turn) (nums s)), h') ∧ Quiet h h' ∧ h'.WF := by
  rw [outriderref07_Two_14_eq]
  simp only [newK_eq, next_new]
  rw [aggK_all (get_new_self _ _) (by simp [hk2])]
  have g5 : ((h.new (.cells (u8s key) false)).new (.cells z16 false)).get (h.next + 1) = some (.cells z16 false) := get_new_self (h.new _) _
  rw [wrK_of (n := 16) g5 (by simp [hk2]) (by simp) (by simp [u8s, isCell]), spl_all _ _ (by simp [hk2])]
  exact refTwo_loop hk hk2 s hn hmax (a := h) (b1 := h.next) (b2 := h.next + 1) (Nat.le_refl _) (by omega) (by omega) 16 0 n _ (by omega) (by omega) ((((Quiet.refl h).new _).new _).set (by omega) _)
    (WF_put (WF_make (WF_make wf _) _) (by simp) _) (by simp; omega) (by simp) (by rw [get_set_ne (by omega), get_new_lt (by simp)]; exact get_new_self _ _) (by rw [turnTo_zero]; exact get_set_self _ _ _)

/-! ### the reference's Number -/

theorem refNumber_loop (n : Nat) {x : Int} (hx : u64 x) {a : H} {b1 b2 : Nat} (h1 : a.next ≤ b1) (h2 : a.next ≤ b2) (h12 : b1 ≠ b2) {z : List AV} (hz : z.length = 16) : ∀ (j i m : Nat) (h : H), i + j = 8 → j < m → Quiet a h → h.WF → b1 < h.next → b2 < h.next → h.get b1 = some (.cells z false) →
    h.get b2 = some (.cells (fillTo 16 (fun i => .int .u8 (if i < 8 then dig x i else 0)) i (.int .u8 0)) false) →
    ∃ h', outriderref07_Number_15_L0 n m (x / 256 ^ i) (some (b1, 0)) (some (b2, 0)) i h = some (u8s (keyOf x), h') ∧ Quiet a h' ∧ h'.WF
  | 0, i, m + 1, h, hij, hm, q, wf, l1, l2, g1, g2 => by
    obtain rfl : i = 8 := by omega
    rw [outriderref07_Number_15_L0_eq]
    have hk : fillTo 16 (fun i => .int .u8 (if i < 8 then dig x i else 0)) 8 (.int .u8 0) = u8s (keyOf x) := by
      simp [fillTo, keyOf, digits, u8s, List.range_succ]
    rw [hk] at g2
    have hkl : (u8s (keyOf x)).length = 16 := by simp [u8s, keyOf, digits]
    have hd : decide (((8 : Nat) : Int) < 8) = false := by decide
    rw [hd, cond_false, nnK_some', aggK_all g2 hkl, nnK_some', wrK_of g1 hkl (by omega) (by simp [u8s, keyOf, digits, isCell]), nnK_some', spl_all _ _ (by omega), aggK_all (get_set_self _ _ _) hkl]
    exact ⟨_, rfl, q.set h1 _, WF_put wf l1 _⟩
  | j + 1, i, m + 1, h, hij, hm, q, wf, l1, l2, g1, g2 => by
    rw [outriderref07_Number_15_L0_eq]
    have hd : decide ((i : Int) < 8) = true := by simp; omega
    have hpos : (0 : Int) ≤ x / 256 ^ i := Int.ediv_nonneg hx.1 (Int.le_of_lt (Int.pow_pos (by decide)))
    have hle : x / 256 ^ i ≤ x := Int.ediv_le_self _ hx.1
    have hlt := hx.2
    have e1 : IntKind.u8.wrap (Int.tmod (x / 256 ^ i) 256) = dig x i := by
      rw [Int.tmod_eq_emod_of_nonneg hpos]
      exact wrap8 (dig_byte x i)
    have e2 : IntKind.u64.wrap (Int.tdiv (x / 256 ^ i) 256) = x / 256 ^ (i + 1) := by
      rw [Int.tdiv_eq_ediv_of_nonneg hpos, Int.ediv_ediv_of_nonneg (Int.le_of_lt (Int.pow_pos (by decide))), ← Int.pow_succ]
      exact wrap64 ⟨Int.ediv_nonneg hx.1 (Int.le_of_lt (Int.pow_pos (by decide))), Int.lt_of_le_of_lt (Int.ediv_le_self _ hx.1) hlt⟩
    rw [hd, cond_true, nnK_some', if_pos ⟨by omega, by omega⟩, Nat.zero_add, show (i : Int).toNat = i from rfl,
      wrK_one g2 (by rw [length_fillTo (by omega)]; omega) rfl, e1, e2]
    have hset := fillTo_set (n := 16) (f := fun i => .int .u8 (if i < 8 then dig x i else 0)) (i := i) (z := .int .u8 0) (by omega)
    simp only [show i < 8 by omega, if_true] at hset
    rw [hset, wrapi (by omega) (by omega), show (i : Int) + 1 = ((i + 1 : Nat) : Int) from rfl]
    exact refNumber_loop n hx h1 h2 h12 hz j (i + 1) m _ (by omega) (by omega) (q.set h2 _) (WF_put wf l2 _) l1 l2 (by rw [get_set_ne h12]; exact g1) (get_set_self _ _ _)

theorem refNumber_eq {h : H} (wf : h.WF) {n : Nat} (hn : 10 ≤ n) {x : Int} (hx : u64 x) : ∃ h', outriderref07_Number_15 n x h = some (u8s (keyOf x), h') ∧ Quiet h h' ∧ h'.WF := by
  rw [outriderref07_Number_15_eq]
  simp only [newK_eq, next_new]
  have := refNumber_loop n hx (a := h) (b1 := h.next) (b2 := h.next + 1) (Nat.le_refl _) (by omega) (by omega) (z := z16) rfl 8 0 n _ (by omega) (by omega) (((Quiet.refl h).new _).new _) (WF_make (WF_make wf _) _) (by simp; omega) (by simp) (by rw [get_new_lt (by simp)]; exact get_new_self _ _) (get_new_self (h.new _) _)
  rw [show x / 256 ^ 0 = x by simp] at this
  exact this

/-! ### the laws -/

theorem sipTexts_true {c0 : List AV} {s : ByteArray} {x : Int} (w0 : Fits ks16 c0) (w1 : s.size ≤ reachBytes) (w2 : (Lit.int .u64 x).wf = true) : ∃ n h', outriderlaw07_SipTexts_6 n c0 s x (H0 []) = some (true, h') := by
  obtain ⟨key, rfl, hk, hkb⟩ := key_of w0
  have hx := u64_wf w2
  have hr : s.size ≤ 140737488351232 := w1
  refine ⟨200 + s.size, ?_⟩
  rw [outriderlaw07_SipTexts_6_eq]
  have wf := WF_H0 []
  generalize H0 [] = h at *
  have hkl : (u8s key).length = 16 := by simp [hk]
  have wf1 := WF_make wf (.cells (u8s key) false)
  have g0 : (h.new (.cells (u8s key) false)).get h.next = some (.cells (u8s key) false) := get_new_self _ _
  have l0 : h.next < (h.new (.cells (u8s key) false)).next := by simp
  simp only [newK_eq]
  generalize h.new (.cells (u8s key) false) = h2 at *
  by_cases hlt : ((s.size : Nat) : Int) > 20000
  · obtain ⟨h3, e3, q3, f3⟩ := alive_eq wf1 (n := 200 + s.size) (by omega)
    rw [show decide (((s.size : Nat) : Int) > 20000) = true by simpa using hlt, cond_true, e3, Option.bind_some]
    exact ⟨h3, rfl⟩
  · rw [show decide (((s.size : Nat) : Int) > 20000) = false by simpa using hlt, cond_false, aggK_all g0 hkl]
    obtain ⟨h3, e3, q3, f3⟩ := Two_eq wf1 (n := 200 + s.size) hkb hk s (by omega) (by omega)
    generalize hS : sum key (nums s) = S at e3
    generalize hS2 : sum (key.map turn) (nums s) = S2 at e3
    have g3 := (q3.get _ l0).trans g0
    have l3 := q3.next_lt l0
    rw [e3, Option.bind_some, aggK_all g3 hkl]
    obtain ⟨h4, e4, q4, f4⟩ := refTwo_eq f3 (n := 200 + s.size) hkb hk s (by omega) (by omega)
    rw [hS, hS2] at e4
    have g4 := (q4.get _ l3).trans g3
    have l4 := q4.next_lt l3
    rw [e4, Option.bind_some]
    obtain ⟨h5, e5, q5, f5⟩ := alive_eq f4 (n := 200 + s.size) (by omega)
    have g5 := (q5.get _ l4).trans g4
    rw [e5, Option.bind_some, cond_true, beq_self_eq_true, cond_true, beq_self_eq_true, cond_true, aggK_all g5 hkl]
    obtain ⟨h6, e6, q6, f6⟩ := Text_eq f5 (n := 200 + s.size) hkb hk s (by omega) (by omega)
    rw [hS] at e6
    rw [e6, Option.bind_some, beq_self_eq_true, cond_true]
    obtain ⟨h7, e7, q7, f7⟩ := Number_eq f6 (n := 200 + s.size) (by omega) x
    obtain ⟨h8, e8, q8, f8⟩ := refNumber_eq f7 (n := 200 + s.size) (by omega) hx
    rw [e7, Option.bind_some, e8, Option.bind_some, eqKey (len_keyOf x) (len_keyOf x), beq_self_eq_true]
    exact ⟨h8, rfl⟩

theorem turned_loop {n : Nat} {key : List Int} (hk : Bytes key) (hk2 : key.length = 16) (s : ByteArray) (hn : 200 + s.size ≤ n) (hmax : s.size < 9223372036854775808) {b1 b2 : Nat} (h12 : b1 ≠ b2) :
    ∀ (j i m : Nat) (h : H), i + j = 16 → j < m → h.WF → b1 < h.next → b2 < h.next → h.get b1 = some (.cells (u8s key) false) → h.get b2 = some (.cells (u8s (turnTo key i)) false) →
    ∃ h', outriderlaw07_SipTurned_7_L0 n m s (some (b1, 0)) (some (b2, 0)) i h = some (true, h')
  | 0, i, m + 1, h, hij, hm, wf, l1, l2, g1, g2 => by
    obtain rfl : i = 16 := by omega
    rw [turnTo_all (by omega)] at g2
    rw [outriderlaw07_SipTurned_7_L0_eq, show decide (((16 : Nat) : Int) < 16) = false by decide, cond_false, nnK_some', aggK_all g1 (by simp [hk2])]
    obtain ⟨h3, e3, q3, f3⟩ := Two_eq wf (n := n) hk hk2 s (by omega) hmax
    rw [e3, Option.bind_some, nnK_some', aggK_all ((q3.get _ l2).trans g2) (by simp [hk2])]
    obtain ⟨h4, e4, q4, f4⟩ := Two_eq f3 (n := n) (turn_bytes hk) (by simp [hk2]) s (by omega) hmax
    rw [turn_turn] at e4
    obtain ⟨h5, e5, q5, f5⟩ := alive_eq f4 (n := n) (by omega)
    rw [e4, Option.bind_some, e5, Option.bind_some, cond_true, beq_self_eq_true, cond_true, beq_self_eq_true]
    exact ⟨h5, rfl⟩
  | j + 1, i, m + 1, h, hij, hm, wf, l1, l2, g1, g2 => by
    rw [outriderlaw07_SipTurned_7_L0_eq]
    have hd : decide ((i : Int) < 16) = true := by simp; omega
    have hi : i < key.length := by omega
    rw [hd, cond_true, nnK_some', if_pos ⟨by omega, by omega⟩, Nat.zero_add, show (i : Int).toNat = i from rfl, cellK_of g2 (v := .int .u8 key[i]) (by rw [List.getElem?_map, turnTo_get hi]; rfl), asInt_int, nnK_some', if_pos ⟨by omega, by omega⟩, Nat.zero_add,
      wrK_one g2 (by simp [turnTo_len]; omega) rfl, sub_byte (hk _ (List.getElem_mem hi)), u8s_set, turnTo_set hi, wrapi (by omega) (by omega), show (i : Int) + 1 = ((i + 1 : Nat) : Int) from rfl]
    exact turned_loop hk hk2 s hn hmax h12 j (i + 1) m _ (by omega) (by omega) (WF_put wf l2 _) l1 l2 (by rw [get_set_ne h12]; exact g1) (get_set_self _ _ _)

theorem sipTurned_true {c0 : List AV} {s : ByteArray} (w0 : Fits ks16 c0) (w1 : s.size ≤ reachBytes) : ∃ n h', outriderlaw07_SipTurned_7 n c0 s (H0 []) = some (true, h') := by
  obtain ⟨key, rfl, hk, hkb⟩ := key_of w0
  have hr : s.size ≤ 140737488351232 := w1
  refine ⟨200 + s.size, ?_⟩
  rw [outriderlaw07_SipTurned_7_eq]
  have wf := WF_H0 []
  generalize H0 [] = h at *
  have wf1 := WF_make wf (.cells (u8s key) false)
  simp only [newK_eq]
  by_cases hlt : ((s.size : Nat) : Int) > 20000
  · obtain ⟨h3, e3, q3, f3⟩ := alive_eq wf1 (n := 200 + s.size) (by omega)
    rw [show decide (((s.size : Nat) : Int) > 20000) = true by simpa using hlt, cond_true, e3, Option.bind_some]
    exact ⟨h3, rfl⟩
  · rw [show decide (((s.size : Nat) : Int) > 20000) = false by simpa using hlt, cond_false, aggK_all (get_new_self _ _) (by simp [hk]), next_new]
    have g5 : ((h.new (.cells (u8s key) false)).new (.cells z16 false)).get (h.next + 1) = some (.cells z16 false) := get_new_self (h.new _) _
    rw [wrK_of (n := 16) g5 (by simp [hk]) (by simp) (by simp [u8s, isCell]), spl_all _ _ (by simp [hk])]
    exact turned_loop hkb hk s (by omega) (by omega) (b1 := h.next) (b2 := h.next + 1) (by omega) 16 0 _ _ (by omega) (by omega) (WF_put (WF_make wf1 _) (by simp) _) (by simp; omega) (by simp) (by rw [get_set_ne (by omega), get_new_lt (by simp)]; exact get_new_self _ _) (by rw [turnTo_zero]; exact get_set_self _ _ _)

end Go.Ev.Try
