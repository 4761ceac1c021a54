/- Chapter 11: Lay; alive. -/
import Derived.Test.YtjbojcdmfkmkiaaHp2
set_option linter.all false
namespace Go.Ev.Try
set_option maxRecDepth 10000
open Go.Proofs

/-- when all are due first -/
def layT (k : Nat) : List (Int × Int) := (List.range k).map fun j : Nat => ((j : Int), (j : Int) + 1)
theorem layT_mem {k : Nat} {e : Int × Int} : e ∈ layT k ↔ ∃ j : Nat, j < k ∧ e = ((j : Int), (j : Int) + 1) := by
  unfold layT
  rw [List.mem_map]
  constructor
  · rintro ⟨j, hj, rfl⟩; exact ⟨j, List.mem_range.1 hj, rfl⟩
  · rintro ⟨j, hj, rfl⟩; exact ⟨j, List.mem_range.2 hj, rfl⟩
theorem layT_len (k : Nat) : (layT k).length = k := by simp [layT]
theorem ins_last {a : Int × Int} : ∀ {l : List (Int × Int)}, (∀ e ∈ l, ¬ before a e) → ins a l = l ++ [a]
  | [], _ => rfl
  | e :: l, h => by
    unfold ins
    rw [if_neg (by rw [goes_iff]; exact h e (by simp)), ins_last fun f hf => h f (List.mem_cons_of_mem _ hf)]
    rfl
theorem layT_succ (k : Nat) : ins ((k : Int), (k : Int) + 1) (wo (layT k) k) = layT (k + 1) := by
  have h1 : wo (layT k) k = layT k := by
    unfold wo
    rw [List.filter_eq_self]
    intro e he
    obtain ⟨j, hj, rfl⟩ := layT_mem.1 he
    simp; omega
  rw [h1, ins_last]
  · unfold layT
    rw [List.range_succ, List.map_append]
    rfl
  · intro e he
    obtain ⟨j, hj, rfl⟩ := layT_mem.1 he
    unfold before
    simp only
    omega

section
variable {r : Rul} {bb : Nat} {wb : Nat} {WB : List Nat}

/-- what Lay has laid -/
structure LaySt (a h : H) (bb : Nat) (r : Rul) (p : Option (Nat × Nat)) (c : Cap) (ps : List Nat) (wb : Nat) (WB : List Nat) (ib : Nat) (k : Nat) : Prop where
  b : BRep h bb r p c ps (List.replicate k (false, 0)) wb WB 0 (layT k)
  g : Grow a h 1 p ps.length c (ps.map ptrOf)
  m : Mod [] a h
  len : ps.length = k
  fresh : ∀ x ∈ bblocks bb p ps WB, a.next ≤ x
  ib : ib < h.next ∧ h.get ib = some (.cells [.int .i64 r.rise, .int .i64 r.fall, .int .i64 r.every] false) ∧ ib ∉ bblocks bb p ps WB

theorem Lay_L1 (ho : okR r) {a : H} {many : Nat} (hmany : many ≤ 16) {ib : Nat} {n : Nat} : ∀ (d k m : Nat) (h : H) (p : Option (Nat × Nat)) (c : Cap) (ps : List Nat), k + d = many → d < m → LaySt a h bb r p c ps wb WB ib k →
    Ret (health_Lay_13_L1 n m (some (ib, 0)) (some (bb, 0)) many k h) fun q h' => q = (some (bb, 0), 0) ∧ ∃ p' c' ps', LaySt a h' bb r p' c' ps' wb WB ib many
  | 0, k, m + 1, h, p, c, ps, hk, _, s => by
    rw [health_Lay_13_L1_eq, cast_not_lt (by omega), cond_false]
    obtain rfl : k = many := by omega
    exact .pure ⟨rfl, p, c, ps, s⟩
  | d + 1, k, m + 1, h, p, c, ps, hk, hf, s => by
    obtain ⟨b, g, hm, hlen, hfr, hib1, hib2, hib3⟩ := s
    have hlt := b.lt
    have hle := hm.next
    have hbb : bb ∈ bblocks bb p ps WB := by simp [bblocks]
    rw [health_Lay_13_L1_eq, cast_lt (by omega), cond_true]
    simp only [nnK_some', Nat.zero_add]
    rw [aggK_all (n := 3) hib2 rfl]
    simp only [lc_cons, l0_nil, asInt_int]
    refine (NewP_ret r false n h).bind fun q h1 ⟨m1, e1⟩ => ?_
    rw [if_pos ho] at e1
    obtain ⟨nb, rfl, nb1, nb2, gnb⟩ := e1
    simp only
    have b1 := b.mod0 m1
    have hn1 := m1.next
    rw [cellK_of (o := 3) b1.obj rfl, asSlice_slice, newK_eq]
    refine Grow.push' (size := 1) (bytes := 8) (g.mod0 m1) (by omega) (xs := [.ptr (some (nb, 0))]) rfl rfl (by omega) (by omega) (by omega) fun p' c' h3 g3 m3 hfr3 => ?_
    have hown : ∀ x ∈ own p, a.next ≤ x ∧ x < h.next := fun x hx => g.own_ge x hx
    have hlt1 : bb < h1.next := by have := hlt bb hbb; omega
    have gbb3 := (m3.get _ hlt1 b.d1.1).trans b1.obj
    rw [wrK_one (o := 3) gbb3 (by simp) rfl, cellK_of (o := 4) (get_set_self _ _ _) rfl, asPtr_ptr, wrap_succ (by omega)]
    have m4 : Mod [bb] h3 (h3.set bb (.cells ([i64 r.rise, i64 r.fall, i64 r.every, .slice p ps.length c, .ptr (some (wb, 0))].set 3 (.slice p' (ps.length + 1) c')) false)) := (Mod.refl _ _).set (.inr (by simp)) _
    have g4 := get_set_self h3 bb (.cells ([i64 r.rise, i64 r.fall, i64 r.every, .slice p ps.length c, .ptr (some (wb, 0))].set 3 (.slice p' (ps.length + 1) c')) false)
    generalize h3.set bb (.cells ([i64 r.rise, i64 r.fall, i64 r.every, .slice p ps.length c, .ptr (some (wb, 0))].set 3 (.slice p' (ps.length + 1) c')) false) = h4 at *
    have hn3 := m3.next
    have hn4 := m4.next
    have hp1 : ∀ x ∈ own p', h1.next ≤ x ∧ x < h3.next := fun x hx => ⟨hfr3 x hx, (g3.own_ge x hx).2⟩
    have hWlt : ∀ x ∈ WB, x < h.next := fun x hx => hlt x (by simp [bblocks, hx])
    have hplt : ∀ x ∈ ps, x < h.next := fun x hx => hlt x (by simp [bblocks, hx])
    have w4 : Wheel h4 wb WB 0 (layT k) := (b1.wheel.mod m3 fun x hx hp => (b.d2 x hp).2 hx).mod m4 fun x hx hp => by simp at hp; subst hp; exact b.d1.2.2 hx
    obtain ⟨h5, e5, m5, w5⟩ := w4.set n (id := (k : Int)) (at' := ((k + 1 : Nat) : Int)) (show may _ _ from ⟨by omega, by omega, by omega, by omega⟩)
    rw [e5, Option.bind_some]
    have hnb : nb ∉ WB ∧ nb ∉ ps ∧ nb ≠ bb ∧ nb ∉ own p := ⟨fun hx => by have := hWlt nb hx; omega, fun hx => by have := hplt nb hx; omega, fun e => by have := hlt bb hbb; omega, fun hx => by have := (hown nb hx).2; omega⟩
    have hn5 := m5.next
    have hL : ins ((k : Int), ((k + 1 : Nat) : Int)) (wo (layT k) k) = layT (k + 1) := layT_succ k
    rw [hL] at w5
    have row5 : Row h5 1 p' (ps.length + 1) c' ((ps ++ [nb]).map ptrOf) := by
      rw [List.map_append]
      exact (g3.row.mod m4 fun x hx hm' => by have := hp1 x hx; simp at hm'; omega).mod m5 fun x hx hm' => by have := hp1 x hx; have := hWlt x hm'; omega
    have gr5 : Grow a h5 1 p' (ps.length + 1) c' ((ps ++ [nb]).map ptrOf) := by
      rw [List.map_append]
      exact (g3.mod m4 fun x hx hm' => by have := hp1 x hx; simp at hm'; omega).mod m5 fun x hx hm' => by have := hp1 x hx; have := hWlt x hm'; omega
    have hlen' : (ps ++ [nb]).length = ps.length + 1 := by simp
    have get5 : ∀ x, x < h1.next → x ∉ own p → x ≠ bb → x ∉ WB → h5.get x = h1.get x := fun x h1' h2 h3' h4' => (m5.get x (by omega) h4').trans ((m4.get x (by omega) (by simpa using h3')).trans (m3.get x h1' h2))
    have b5 : BRep h5 bb r p' c' (ps ++ [nb]) (List.replicate (k + 1) (false, 0)) wb WB 0 (layT (k + 1)) := by
      refine ⟨by omega, ?_, by rw [hlen']; exact row5, by simp [hlen], fun j x s h1' h2' => ?_, fun x hx => ?_, w5, ?_, fun x hx => ?_, fun x hx => ?_, ?_⟩
      · rw [hlen']
        exact (m5.get _ (by omega) b.d1.2.2).trans g4
      · have hs : s = (false, 0) := List.eq_of_mem_replicate (List.mem_of_getElem? h2')
        subst hs
        rcases Nat.lt_or_ge j ps.length with hj | hj
        · rw [List.getElem?_append_left hj] at h1'
          have hx := List.mem_of_getElem? h1'
          rw [get5 x (by have := hplt x hx; omega) (fun hp => (b.d2 x hp).1 hx) (fun e => b.d1.2.1 (e ▸ hx)) (b.d3 x hx)]
          exact b1.prb j x _ h1' (by rw [List.getElem?_replicate, if_pos (by omega)])
        · rw [List.getElem?_append_right hj] at h1'
          have : x = nb := by
            have h3' := List.mem_of_getElem? h1'
            simpa using h3'
          subst this
          rw [get5 x nb2 hnb.2.2.2 hnb.2.2.1 hnb.1]
          exact gnb
      · rcases List.mem_append.1 hx with hx | hx
        · have := hplt x hx; omega
        · simp at hx; subst hx; omega
      · refine ⟨fun hx => by have := hp1 bb hx; omega, fun hx => ?_, b.d1.2.2⟩
        rcases List.mem_append.1 hx with hx | hx
        · exact b.d1.2.1 hx
        · simp at hx; exact hnb.2.2.1 hx.symm
      · have := hp1 x hx
        refine ⟨fun hx' => ?_, fun hx' => by have := hWlt x hx'; omega⟩
        rcases List.mem_append.1 hx' with hx' | hx'
        · have := hplt x hx'; omega
        · simp at hx'; omega
      · rcases List.mem_append.1 hx with hx | hx
        · exact b.d3 x hx
        · simp at hx; subst hx; exact hnb.1
      · rw [List.nodup_append]
        refine ⟨b.d4, by simp, fun x hx y hy e => ?_⟩
        simp at hy
        subst hy; subst e
        exact hnb.2.1 hx
    have hibp : ib ∉ own p ∧ ib ∉ ps ∧ ib ∉ WB ∧ ib ≠ bb := by
      unfold bblocks at hib3
      simp only [List.mem_cons, List.mem_append, not_or] at hib3
      exact ⟨hib3.2.1, hib3.2.2.1, hib3.2.2.2, hib3.1⟩
    have mA : Mod [] a h5 := by
      refine ⟨by omega, fun x hx _ => ?_⟩
      have nin : ∀ {S : List Nat}, (∀ y ∈ S, a.next ≤ y) → x ∉ S := fun hS hxS => by have := hS x hxS; omega
      rw [get5 x (by omega) (nin fun y hy => (hown y hy).1) (fun e => by have := hfr bb hbb; omega) (nin fun y hy => hfr y (by simp [bblocks, hy])), m1.get x (by omega) (by simp)]
      exact hm.get x hx (by simp)
    refine Lay_L1 ho hmany d (k + 1) m h5 p' c' (ps ++ [nb]) (by omega) (by omega) ⟨b5, by rw [hlen']; exact gr5, mA, by simp [hlen], fun x hx => ?_, by omega, ?_, fun hx => ?_⟩
    · unfold bblocks at hx
      simp only [List.mem_cons, List.mem_append] at hx
      rcases hx with rfl | hx | (hx | hx) | hx
      · exact hfr x hbb
      · have := hp1 x hx; omega
      · exact hfr x (by simp [bblocks, hx])
      · simp at hx; omega
      · exact hfr x (by simp [bblocks, hx])
    · rw [get5 ib (by omega) hibp.1 hibp.2.2.2 hibp.2.2.1]
      exact (m1.get _ hib1 (by simp)).trans hib2
    · unfold bblocks at hx
      simp only [List.mem_cons, List.mem_append] at hx
      rcases hx with hx | hx | (hx | hx) | hx
      · exact hibp.2.2.2 hx
      · have := hp1 ib hx; omega
      · exact hibp.2.1 hx
      · simp at hx; omega
      · exact hibp.2.2.1 hx
end

theorem Lay_ret (r : Rul) (many : Int) (h : H) {n : Nat} (hn : 600 ≤ n) :
    Ret (health_Lay_13 n r.rise r.fall r.every many h) fun q h' => Mod [] h h' ∧ if okR r ∧ 1 ≤ many ∧ many ≤ 16 then ∃ bb p c ps wb WB, q = (some (bb, 0), 0) ∧ ps.length = many.toNat ∧ BRep h' bb r p c ps (List.replicate many.toNat (false, 0)) wb WB 0 (layT many.toNat) ∧ ∀ x ∈ bblocks bb p ps WB, h.next ≤ x else q = (none, 1) := by
  rw [health_Lay_13_eq, newK_eq]
  have g0 := get_new_self h (.cells [.int .i64 r.rise, .int .i64 r.fall, .int .i64 r.every] false)
  have m0 : Mod [] h (h.new (.cells [.int .i64 r.rise, .int .i64 r.fall, .int .i64 r.every] false)) := (Mod.refl _ _).new _
  have n0 : (h.new (.cells [.int .i64 r.rise, .int .i64 r.fall, .int .i64 r.every] false)).next = h.next + 1 := rfl
  generalize h.new (.cells [.int .i64 r.rise, .int .i64 r.fall, .int .i64 r.every] false) = h1 at *
  rw [aggK_all (n := 3) g0 rfl]
  simp only [lc_cons, l0_nil, asInt_int]
  refine (right_ret r n h1).bind fun bo h2 ⟨e, m2⟩ => ?_
  simp only
  subst e
  have m02 := m0.trans m2
  have hn2 := m2.next
  have g2 := (m2.get _ (by omega) (by simp)).trans g0
  have bad : ¬ (okR r ∧ 1 ≤ many ∧ many ≤ 16) → Ret (health_Lay_13_J0 n many (some (h.next, 0)) true h2) fun q h' => Mod [] h h' ∧ if okR r ∧ 1 ≤ many ∧ many ≤ 16 then ∃ bb p c ps wb WB, q = (some (bb, 0), 0) ∧ ps.length = many.toNat ∧ BRep h' bb r p c ps (List.replicate many.toNat (false, 0)) wb WB 0 (layT many.toNat) ∧ ∀ x ∈ bblocks bb p ps WB, h.next ≤ x else q = (none, 1) := by
    intro hb
    rw [health_Lay_13_J0_eq, cond_true]
    refine .pure ⟨m02, ?_⟩
    rw [if_neg hb]
  by_cases ho : okR r
  · rw [decide_eq_true ho, Bool.not_true, cond_false]
    by_cases h1' : many < 1
    · rw [decide_eq_true h1', cond_true]; exact bad fun h => by omega
    · rw [decide_eq_false h1', cond_false]
      by_cases h2' : many > 16
      · rw [decide_eq_true h2']; exact bad fun h => by omega
      · rw [decide_eq_false h2', health_Lay_13_J0_eq, cond_false]
        simp only [nnK_some']
        rw [aggK_all (n := 3) g2 rfl]
        simp only [lc_cons, l0_nil, asInt_int]
        refine (Wheel.new h2 (n := n) (by omega)).bind fun q h3 ⟨m3, wb, WB, eq, w3, hWB⟩ => ?_
        subst eq
        simp only
        rw [quietK_mod m3, newK_eq]
        have hn3 := m3.next
        have m4 : Mod [] h3 (h3.new (.cells [.int .i64 r.rise, .int .i64 r.fall, .int .i64 r.every, .slice none 0 (.known 0), .ptr (some (wb, 0))] false)) := (Mod.refl _ _).new _
        have g4 := get_new_self h3 (.cells [.int .i64 r.rise, .int .i64 r.fall, .int .i64 r.every, .slice none 0 (.known 0), .ptr (some (wb, 0))] false)
        have hW3 := w3.lt
        have st : LaySt h2 (h3.new (.cells [.int .i64 r.rise, .int .i64 r.fall, .int .i64 r.every, .slice none 0 (.known 0), .ptr (some (wb, 0))] false)) h3.next r none (.known 0) [] wb WB h.next 0 := by
          refine ⟨⟨Nat.lt_succ_self _, g4, .nil, rfl, fun k b s h1 => by simp at h1, fun x hx => by simp at hx, w3.mod0 m4, ⟨by simp, by simp, fun hx => by have := hW3 _ hx; omega⟩, fun x hx => by simp at hx, fun x hx => by simp at hx, .nil⟩, .nil, m3.trans m4, rfl, fun x hx => ?_, by have := m4.next; omega, ?_, fun hx => ?_⟩
          · unfold bblocks at hx
            simp only [List.mem_cons, own_none, List.nil_append] at hx
            rcases hx with rfl | hx
            · exact hn3
            · exact hWB x hx
          · exact (m4.get _ (by omega) (by simp)).trans ((m3.get _ (by omega) (by simp)).trans g2)
          · unfold bblocks at hx
            simp only [List.mem_cons, own_none, List.nil_append] at hx
            rcases hx with hx | hx
            · omega
            · have := hWB _ hx; omega
        have := Lay_L1 (n := n) ho (a := h2) (many := many.toNat) (by omega) many.toNat 0 n _ none (.known 0) [] (by omega) (by omega) st
        rw [show ((many.toNat : Nat) : Int) = many by omega] at this
        refine this.mono fun q h5 ⟨eq, p', c', ps', s5⟩ => ⟨m02.trans s5.m, ?_⟩
        rw [if_pos ⟨ho, by omega, by omega⟩]
        refine ⟨h3.next, p', c', ps', wb, WB, eq, s5.len, s5.b, fun x hx => ?_⟩
        have := s5.fresh x hx
        omega
  · rw [decide_eq_false ho, Bool.not_false, cond_true]
    exact bad fun h => ho h.1

/-! ### alive -/

theorem alive_ret (h : H) {n : Nat} (hn : 1000 ≤ n) : RetK (fun kk => outriderlaw11_alive_10 n h kk) fun r h' => r = true ∧ Mod [] h h' := by
  intro kk hk
  show outriderlaw11_alive_10 n h kk = some ()
  rw [outriderlaw11_alive_10_eq]
  have ho1 : okR ⟨2, 3, 10⟩ := by decide
  have ho2 : okR ⟨1, 1, 5⟩ := by decide
  obtain ⟨q1, h1, e1, m1, d1⟩ := NewP_ret ⟨2, 3, 10⟩ false n h
  rw [if_pos ho1] at d1
  obtain ⟨b, rfl, b1, b2, gb⟩ := d1
  rw [e1, Option.bind_some]
  obtain ⟨q2, h2, e2, m2, d2⟩ := Lay_ret ⟨1, 1, 5⟩ 2 h1 (n := n) (by omega)
  rw [if_pos ⟨ho2, by omega, by omega⟩] at d2
  obtain ⟨bb, p, c, ps, wb, WB, rfl, hpl, B2, hfr⟩ := d2
  simp only
  rw [e2, Option.bind_some, show ((0 : Int) != 0) = false by decide, cond_false, eqVK_ptr Try.underlying25, Option.isNone_some, cond_false, cond_false, eqVK_ptr Try.underlying33, Option.isNone_some, outriderlaw11_alive_10_J0_eq, cond_false]
  have gb2 := (m2.get _ b2 (by simp)).trans gb
  have hbB : ∀ x ∈ bblocks bb p ps WB, x ≠ b := fun x hx e => by have := hfr x hx; omega
  obtain ⟨h3, e3, g3, n3, k3⟩ := TellP_ret ho1 (okP.start ho1 false) gb2 true n
  rw [e3, Option.bind_some]
  have B3 := B2.mod (S := [b]) ⟨by omega, fun j _ hj => k3 j (by simpa using hj)⟩ fun x hx hxb => hbB x hx (by simpa using hxb)
  obtain ⟨h4, e4, g4, n4, k4⟩ := TellP_ret ho1 ((okP.start ho1 false).tell ho1 true) g3 true n
  simp only
  rw [e4, Option.bind_some]
  have B4 := B3.mod (S := [b]) ⟨by omega, fun j _ hj => k4 j (by simpa using hj)⟩ fun x hx hxb => hbB x hx (by simpa using hxb)
  simp only
  rw [show (tellP ⟨2, 3, 10⟩ (false, 0) true).2 = false by decide, Bool.not_false, cond_true, show (tellP ⟨2, 3, 10⟩ (tellP ⟨2, 3, 10⟩ (false, 0) true).1 true).2 = true by decide, cond_true]
  rw [UpP_eq g4, Option.bind_some]
  simp only
  rw [show (tellP ⟨2, 3, 10⟩ (tellP ⟨2, 3, 10⟩ (false, 0) true).1 true).1.1 = true by decide, cond_true]
  have m4 : Mod [b] h2 h4 := ⟨by omega, fun j _ hj => (k4 j (by simpa using hj)).trans (k3 j (by simpa using hj))⟩
  refine MoveB_ret B4 ho2 2 (by rw [layT_len]; decide) (by omega) _ fun q h5 ⟨m5, g5, B5⟩ => ?_
  rw [show bTold 0 (layT (Int.toNat 2)) 2 = [0, 1] by decide] at g5
  rw [newK_eq]
  have m6 : Mod [] h5 (h5.new (.cells [.int .i64 0, .int .i64 1] false)) := (Mod.refl _ _).new _
  have r01 : Row (h5.new (.cells [.int .i64 0, .int .i64 1] false)) 1 (some (h5.next, 0)) 2 (.known 2) ([0, 1].map i64) := .row (by simp) (get_new_self _ _) rfl (by simp) (.inr ⟨2, rfl, Nat.le_refl _⟩)
  rw [Same_eq (g5.row.mod0 m6) r01 (by simp) (by simp; omega), Option.bind_some]
  simp only [decide_true]
  rw [cond_true]
  obtain ⟨q7, h7, e7, g7, m7⟩ := UpB_ret (B5.mod0 m6) (by rw [hpl]; decide) (n := n) (by rw [hpl]; simp; omega)
  rw [e7, Option.bind_some]
  have hlen := g7.row.length
  refine hk _ _ ⟨?_, ?_⟩
  · simp at hlen
    simp only
    rw [← hlen]
    rfl
  · have hWB : ∀ x ∈ WB, h.next ≤ x := fun x hx => by have := hfr x (by simp [bblocks, hx]); have := m1.next; omega
    have mA : Mod [] h h4 := ((m1.trans m2).trans' (S := []) m4 fun i hi hl => by simp at hi; omega)
    exact ((mA.trans' (S := []) m5 fun i hi hl => by have := hWB i hi; omega).trans m6).trans m7

end Go.Ev.Try
