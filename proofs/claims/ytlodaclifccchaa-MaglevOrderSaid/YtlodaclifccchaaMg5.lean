/- The laws SipOwn, SipTexts, SipTurned of chapter 07, in plain Lean. -/
import Derived.Test.YtlodaclifccchaaMg4
set_option linter.all false
namespace Go.Ev.Try
open Go.Proofs
set_option maxRecDepth 10000

/-- a text's bytes, as numbers -/
def nums (s : ByteArray) : List Int := s.data.toList.map fun c => (c.toNat : Int)

theorem nums_length (s : ByteArray) : (nums s).length = s.size := by simp [nums]
theorem nums_bytes (s : ByteArray) : Bytes (nums s) := by
  intro x hx
  simp only [nums, List.mem_map] at hx
  obtain ⟨c, _, rfl⟩ := hx
  have := c.toNat_lt
  exact ⟨by omega, by omega⟩
theorem nums_str {bs : List Int} (hb : Bytes bs) : nums (strOfNums bs) = bs := by
  unfold nums
  rw [strOfNums_data, List.map_map]
  refine (List.map_congr_left (g := id) fun x hx => ?_).trans (List.map_id _)
  obtain ⟨h0, h1⟩ := hb x hx
  have : x.toNat < 256 := by omega
  simp only [Function.comp, UInt8.toNat_ofNat', id]
  omega
theorem nums_cells (s : ByteArray) : (s.data.toList.map fun c => AV.int .u8 c.toNat) = u8s (nums s) := by simp [nums, u8s]

theorem Text_eq {h : H} (wf : h.WFx) {n : Nat} {key : List Int} (hk : Bytes key) (hk2 : key.length = 16) (s : ByteArray) (hn : 100 + s.size ≤ n) (hmax : s.size < 9223372036854775808) :
    ∃ h', sip_Text_37 n (u8s key) s h = some (sum key (nums s), h') ∧ Quiet h h' ∧ h'.WFx := by
  rw [sip_Text_37_eq]
  simp only [newK_eq, next_new]
  rw [aggK_all (get_new_self _ _) (by simp [hk2]), nums_cells]
  have hl := nums_length s
  obtain ⟨h', e, q, w⟩ := sum_eq (WFx_make (WFx_make wf (.cells (u8s key) false)) (.cells (u8s (nums s)) false)) (n := n) hk hk2 (nums_bytes s) (p := some (h.next + 1, 0)) (c := .rest 1) hl.symm (.row (Nat.lt_succ_self _) (get_new_self (h.new _) _) (by rw [List.drop_zero, List.take_of_length_le (by simp [hl])]) (by simp [hl]) (.inl rfl)) (by omega) (by omega)
  rw [e]
  exact ⟨h', rfl, (((Quiet.refl h).new _).new _).trans q, w⟩

/-! ### the key turned -/

def turn (x : Int) : Int := 255 - x
def turnTo (key : List Int) (i : Nat) : List Int := (key.take i).map turn ++ key.drop i

theorem turnTo_zero (key : List Int) : turnTo key 0 = key := by simp [turnTo]
theorem turnTo_all {key : List Int} {n : Nat} (h : key.length ≤ n) : turnTo key n = key.map turn := by
  unfold turnTo; rw [List.take_of_length_le h, List.drop_of_length_le h, List.append_nil]
theorem turnTo_len (key : List Int) (i : Nat) : (turnTo key i).length = key.length := by simp [turnTo]; omega
theorem turnTo_get {key : List Int} {i : Nat} (h : i < key.length) : (turnTo key i)[i]? = some key[i] := by
  unfold turnTo
  rw [List.getElem?_append_right (by simp; omega)]
  simp [Nat.min_eq_left (Nat.le_of_lt h), h]
theorem turnTo_set {key : List Int} {i : Nat} (h : i < key.length) : (turnTo key i).set i (turn key[i]) = turnTo key (i + 1) := by
  unfold turnTo
  rw [List.set_append_right _ _ (by simp; omega), take_snoc (List.getElem?_eq_getElem h), List.map_append, List.append_assoc]
  congr 1
  rw [List.drop_eq_getElem_cons h, show i - ((key.take i).map turn).length = 0 by simp; omega]
  rfl
theorem turn_turn (key : List Int) : (key.map turn).map turn = key := by
  rw [List.map_map]
  refine (List.map_congr_left (g := id) fun x _ => ?_).trans (List.map_id _)
  simp only [Function.comp, turn, id]; omega
theorem turn_bytes {key : List Int} (h : Bytes key) : Bytes (key.map turn) := by
  intro x hx
  simp only [List.mem_map] at hx
  obtain ⟨y, hy, rfl⟩ := hx
  obtain ⟨h0, h1⟩ := h y hy
  unfold byte turn; omega

theorem inot_all : ∀ x : Fin 256, inot .u8 ((x.val : Nat) : Int) = 255 - ((x.val : Nat) : Int) := by decide +kernel
theorem inot_byte {x : Int} (h : byte x) : inot .u8 x = turn x := by
  obtain ⟨h0, h1⟩ := h
  obtain ⟨m, rfl⟩ := Int.eq_ofNat_of_zero_le h0
  exact inot_all ⟨m, by omega⟩
theorem sub_byte {x : Int} (h : byte x) : IntKind.u8.wrap (255 - x) = turn x := by
  obtain ⟨h0, h1⟩ := h
  rw [wrap8 ⟨by omega, by omega⟩]; rfl

theorem u8s_set (l : List Int) (i : Nat) (x : Int) : (u8s l).set i (.int .u8 x) = u8s (l.set i x) := by simp [u8s, List.map_set]

theorem Two_loop {n : Nat} {key : List Int} (hk : Bytes key) (hk2 : key.length = 16) (s : ByteArray) (hn : 100 + s.size ≤ n) (hmax : s.size < 9223372036854775808) {a : H} {b1 b2 : Nat} (h1 : a.next ≤ b1) (h2 : a.next ≤ b2) (h12 : b1 ≠ b2) :
    ∀ (j i m : Nat) (h : H), i + j = 16 → j < m → Quiet a h → h.WFx → b1 < h.next → b2 < h.next → h.get b1 = some (.cells (u8s key) false) → h.get b2 = some (.cells (u8s (turnTo key i)) false) →
    ∃ h', sip_Two_25_L0 n m s (some (b1, 0)) (some (b2, 0)) i h = some ((sum key (nums s), sum (key.map turn) (nums s)), h') ∧ Quiet a h' ∧ h'.WFx
  | 0, i, m + 1, h, hij, hm, q, wf, l1, l2, g1, g2 => by
    obtain rfl : i = 16 := by omega
    rw [turnTo_all (by omega)] at g2
    rw [sip_Two_25_L0_eq, show decide (((16 : Nat) : Int) < 16) = false by decide, cond_false, nnK_some', aggK_all g1 (by simp [hk2])]
    obtain ⟨h3, e3, q3, f3⟩ := Text_eq wf (n := n) hk hk2 s hn hmax
    rw [e3, Option.bind_some]; simp only; rw [minus_quiet (q3.mod []), minus_none, nnK_some', aggK_all ((q3.get _ l2).trans g2) (by simp [hk2])]
    obtain ⟨h4, e4, q4, f4⟩ := Text_eq f3 (n := n) (turn_bytes hk) (by simp [hk2]) s hn hmax
    rw [e4, Option.bind_some]
    exact ⟨h4, rfl, (q.trans q3).trans q4, f4⟩
  | j + 1, i, m + 1, h, hij, hm, q, wf, l1, l2, g1, g2 => by
    rw [sip_Two_25_L0_eq]
    have hd : decide ((i : Int) < 16) = true := by simp; omega
    have hi : i < key.length := by omega
    rw [hd, cond_true, nnK_some', if_pos ⟨by omega, by omega⟩, Nat.zero_add, show (i : Int).toNat = i from rfl, cellK_of g2 (v := .int .u8 key[i]) (by rw [List.getElem?_map, turnTo_get hi]; rfl), asInt_int, nnK_some', if_pos ⟨by omega, by omega⟩, Nat.zero_add,
      wrK_one g2 (by simp [turnTo_len]; omega) rfl, inot_byte (hk _ (List.getElem_mem hi)), u8s_set, turnTo_set hi, wrapi (by omega) (by omega), show (i : Int) + 1 = ((i + 1 : Nat) : Int) from rfl]
    exact Two_loop hk hk2 s hn hmax h1 h2 h12 j (i + 1) m _ (by omega) (by omega) (q.set h2 _) (WFx_put wf l2 _) l1 l2 (by rw [get_set_ne h12]; exact g1) (get_set_self _ _ _)

abbrev z16 : List AV := [.int .u8 0, .int .u8 0, .int .u8 0, .int .u8 0, .int .u8 0, .int .u8 0, .int .u8 0, .int .u8 0, .int .u8 0, .int .u8 0, .int .u8 0, .int .u8 0, .int .u8 0, .int .u8 0, .int .u8 0, .int .u8 0]

theorem Two_eq {h : H} (wf : h.WFx) {n : Nat} {key : List Int} (hk : Bytes key) (hk2 : key.length = 16) (s : ByteArray) (hn : 100 + s.size ≤ n) (hmax : s.size < 9223372036854775808) :
    ∃ h', sip_Two_25 n (u8s key) s h = some ((sum key (nums s), sum (key.map turn) (nums s)), h') ∧ Quiet h h' ∧ h'.WFx := by
  rw [sip_Two_25_eq]
  simp only [newK_eq, next_new]
  rw [aggK_all (get_new_self _ _) (by simp [hk2])]
  have g5 : ((h.new (.cells (u8s key) false)).new (.cells z16 false)).get (h.next + 1) = some (.cells z16 false) := get_new_self (h.new _) _
  rw [wrK_of (n := 16) g5 (by simp [hk2]) (by simp) (by simp [u8s, isCell]), spl_all _ _ (by simp [hk2])]
  exact Two_loop hk hk2 s hn hmax (a := h) (b1 := h.next) (b2 := h.next + 1) (Nat.le_refl _) (by omega) (by omega) 16 0 n _ (by omega) (by omega) ((((Quiet.refl h).new _).new _).set (by omega) _)
    (WFx_put (WFx_make (WFx_make wf _) _) (by simp) _) (by simp; omega) (by simp) (by rw [get_set_ne (by omega), get_new_lt (by simp)]; exact get_new_self _ _) (by rw [turnTo_zero]; exact get_set_self _ _ _)

theorem refTwo_loop {n : Nat} {key : List Int} (hk : Bytes key) (hk2 : key.length = 16) (s : ByteArray) (hn : 100 + s.size ≤ n) (hmax : s.size < 4611686018427387904) {a : H} {b1 b2 : Nat} (h1 : a.next ≤ b1) (h2 : a.next ≤ b2) (h12 : b1 ≠ b2) :
    ∀ (j i m : Nat) (h : H), i + j = 16 → j < m → Quiet a h → h.WFx → b1 < h.next → b2 < h.next → h.get b1 = some (.cells (u8s key) false) → h.get b2 = some (.cells (u8s (turnTo key i)) false) →
    ∃ h', outriderref07_Two_32_L0 n m s (some (b1, 0)) (some (b2, 0)) i h = some ((sum key (nums s), sum (key.map turn) (nums s)), h') ∧ Quiet a h' ∧ h'.WFx
  | 0, i, m + 1, h, hij, hm, q, wf, l1, l2, g1, g2 => by
    obtain rfl : i = 16 := by omega
    rw [turnTo_all (by omega)] at g2
    have hl := nums_length s
    rw [outriderref07_Two_32_L0_eq, show decide (((16 : Nat) : Int) < 16) = false by decide, cond_false, nnK_some', aggK_all g1 (by simp [hk2])]
    simp only [newK_eq, nums_cells]
    have row : ∀ h : H, Row (h.new (.cells (u8s (nums s)) false)) 1 (some (h.next, 0)) s.size (.rest 1) (u8s (nums s)) := fun h => .row (Nat.lt_succ_self _) (get_new_self _ _) (by rw [List.drop_zero, List.take_of_length_le (by simp [hl])]) (by simp [hl]) (.inl rfl)
    have q0 : Quiet h (h.new (.cells (u8s (nums s)) false)) := (Quiet.refl h).new _
    obtain ⟨h3, e3, q3, f3⟩ := refsum_eq (WFx_make wf (.cells (u8s (nums s)) false)) (n := n) hk hk2 (nums_bytes s) hl.symm (row h) (by omega) (by omega)
    have g3 := ((q0.trans q3).get _ l2).trans g2
    rw [e3, Option.bind_some]; simp only; rw [minus_quiet (q3.mod []), minus_none, nnK_some', aggK_all g3 (by simp [hk2])]
    obtain ⟨h4, e4, q4, f4⟩ := refsum_eq (WFx_make f3 (.cells (u8s (nums s)) false)) (n := n) (turn_bytes hk) (by simp [hk2]) (nums_bytes s) hl.symm (row h3) (by omega) (by omega)
    rw [e4, Option.bind_some]
    exact ⟨h4, rfl, ((q.trans (q0.trans q3)).new _).trans q4, f4⟩
  | j + 1, i, m + 1, h, hij, hm, q, wf, l1, l2, g1, g2 => by
    rw [outriderref07_Two_32_L0_eq]
    have hd : decide ((i : Int) < 16) = true := by simp; omega
    have hi : i < key.length := by omega
    rw [hd, cond_true, nnK_some', if_pos ⟨by omega, by omega⟩, Nat.zero_add, show (i : Int).toNat = i from rfl, cellK_of g1 (v := .int .u8 key[i]) (by rw [List.getElem?_map, List.getElem?_eq_getElem hi]; rfl), asInt_int, nnK_some', if_pos ⟨by omega, by omega⟩, Nat.zero_add,
      wrK_one g2 (by simp [turnTo_len]; omega) rfl, sub_byte (hk _ (List.getElem_mem hi)), u8s_set, turnTo_set hi, wrapi (by omega) (by omega), show (i : Int) + 1 = ((i + 1 : Nat) : Int) from rfl]
    exact refTwo_loop hk hk2 s hn hmax h1 h2 h12 j (i + 1) m _ (by omega) (by omega) (q.set h2 _) (WFx_put wf l2 _) l1 l2 (by rw [get_set_ne h12]; exact g1) (get_set_self _ _ _)

theorem refTwo_eq {h : H} (wf : h.WFx) {n : Nat} {key : List Int} (hk : Bytes key) (hk2 : key.length = 16) (s : ByteArray) (hn : 100 + s.size ≤ n) (hmax : s.size < 4611686018427387904) :
    ∃ h', outriderref07_Two_32 n (u8s key) s h = some ((sum key (nums s), sum (key.map turn) (nums s)), h') ∧ Quiet h h' ∧ h'.WFx := by
  rw [outriderref07_Two_32_eq]
  simp only [newK_eq, next_new]
  rw [aggK_all (get_new_self _ _) (by simp [hk2])]
  have g5 : ((h.new (.cells (u8s key) false)).new (.cells z16 false)).get (h.next + 1) = some (.cells z16 false) := get_new_self (h.new _) _
  rw [wrK_of (n := 16) g5 (by simp [hk2]) (by simp) (by simp [u8s, isCell]), spl_all _ _ (by simp [hk2])]
  exact refTwo_loop hk hk2 s hn hmax (a := h) (b1 := h.next) (b2 := h.next + 1) (Nat.le_refl _) (by omega) (by omega) 16 0 n _ (by omega) (by omega) ((((Quiet.refl h).new _).new _).set (by omega) _)
    (WFx_put (WFx_make (WFx_make wf _) _) (by simp) _) (by simp; omega) (by simp) (by rw [get_set_ne (by omega), get_new_lt (by simp)]; exact get_new_self _ _) (by rw [turnTo_zero]; exact get_set_self _ _ _)

/-! ### as contracts -/

/-- the two numbers of a name, by a key -/
def two (key : List Int) (s : ByteArray) : Int × Int := (sum key (nums s), sum (key.map turn) (nums s))
theorem Two_ret (h : H) {n : Nat} {key : List Int} (hk : Bytes key) (hk2 : key.length = 16) (s : ByteArray) (hn : 100 + s.size ≤ n) (hmax : s.size < 4611686018427387904) : Ret (sip_Two_25 n (u8s key) s h) fun r h' => r = two key s ∧ Mod [] h h' := by
  obtain ⟨h', e, q, _⟩ := Two_eq (h := h) trivial hk hk2 s hn (by omega)
  exact ⟨_, h', e, rfl, q.mod []⟩
theorem refTwo_ret (h : H) {n : Nat} {key : List Int} (hk : Bytes key) (hk2 : key.length = 16) (s : ByteArray) (hn : 100 + s.size ≤ n) (hmax : s.size < 4611686018427387904) : Ret (outriderref07_Two_32 n (u8s key) s h) fun r h' => r = two key s ∧ Mod [] h h' := by
  obtain ⟨h', e, q, _⟩ := refTwo_eq (h := h) trivial hk hk2 s hn hmax
  exact ⟨_, h', e, rfl, q.mod []⟩

end Go.Ev.Try
