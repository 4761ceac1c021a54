/- Chapter 08: the law MaglevFalls in plain Lean. -/
import Derived.Test.YtlodaclifccchaaEvSt
import Derived.Test.YtlodaclifccchaaMg16
set_option linter.all false
namespace Go.Ev.Try
set_option maxRecDepth 10000
open Go.Proofs

theorem open_up {rows : Rows0} {i : Nat} {p : Option (Nat × Nat)} {l : Nat} {c : Cap} {tg : Option Tgt} {cs : List AV} (hi : rows[i]? = some (tg, cs)) (w : Arg i [.bool] 1 p l c cs) :
    ∃ up : List Bool, up.length = l ∧ l ≤ 140737488351232 ∧ Row (H0 rows) 1 p l c (up.map AV.bool) := by
  obtain ⟨xs, h1, h2, h3, _⟩ := Row.of_arg1 (enc := AV.bool) (P := fun _ => True) hi w fun v hv => by
    obtain ⟨b, rfl⟩ := hv
    exact ⟨b, rfl, trivial⟩
  exact ⟨xs, h1, by rw [Nat.mul_one] at h2; exact h2, h3⟩

section
variable {a : H} {tb i3 : Nat} {L : List Bk} {P R : List Int} {x : Int} {u : Option (Nat × Nat)} {ul : Nat} {uc : Cap} {k : Nat}

theorem falls_L2 (hx : u64 x) (T : Tab a tb L P R) (hP : ∀ y ∈ P, 0 ≤ y) (hk : k < 100) (hPk : P[(x % 251).toNat]? = some (k : Int)) (g3 : a.get i3 = some (.cells [.int .u64 x, .slice u ul uc] false)) (l3 : i3 < a.next) {n : Nat} (hn : 5000 ≤ n) :
    ∀ (d m : Nat) (ups : List Bool) (q : Option (Nat × Nat)) (ql : Nat) (qc : Cap) (h : H), k + 1 - ql ≤ d → d < m → Grow a h 1 q ql qc (ups.map AV.bool) → Mod [] a h →
      Ret (outriderlaw08_MaglevFalls_4_L2 n m (some (i3, 0)) (some (tb, 0)) k q ql qc h) TT := by
  intro d
  induction d with
  | zero =>
    intro m ups q ql qc h hd hf g hm
    obtain ⟨m, rfl⟩ : ∃ m', m = m' + 1 := ⟨m - 1, by omega⟩
    have hul := g.row.len1
    rw [outriderlaw08_MaglevFalls_4_L2_eq, decide_eq_false (by omega), cond_false, if_pos ⟨by omega, by omega⟩]
    rcases g.look with ⟨_, e2, _, _⟩ | ⟨b, rfl, h1, h2, h3, h4, h5⟩
    · omega
    simp only [nnK_some', Nat.zero_add]
    rw [Int.toNat_natCast, wrK_one (o := k) h3 (by rw [List.length_map]; omega) rfl]
    have hm' : Mod [] a (h.set b (.cells ((ups.map AV.bool).set k (.bool true)) false)) := hm.set (.inl h1) _
    have gq := get_set_self h b (.cells ((ups.map AV.bool).set k (.bool true)) false)
    have hnx : (h.set b (.cells ((ups.map AV.bool).set k (.bool true)) false)).next = h.next := rfl
    generalize h.set b (.cells ((ups.map AV.bool).set k (.bool true)) false) = h' at *
    have e : (ups.map AV.bool).set k (.bool true) = (ups.set k true).map AV.bool := by rw [List.map_set]
    rw [e] at gq
    have ur : Row h' 1 (some (b, 0)) ql qc ((ups.set k true).map AV.bool) := .row (by omega) gq (by rw [List.drop_zero, List.take_of_length_le (by simp; omega)]) (by simp; omega) (h5.elim .inl fun h => .inr ⟨_, h, Nat.le_refl _⟩)
    rw [cellK_of (o := 0) ((hm'.get _ l3 (by simp)).trans g3) rfl, asInt_int, (T.mod0 hm').find hP hx ur (n := n) (by omega), Option.bind_some]
    have hp := T.plen
    have hfr : fromF P (ups.set k true) 251 (x % 251).toNat = ((k : Int), true) := by
      refine fromF_up (d := 250) ?_ ?_
      · rw [hp, Nat.mod_eq_of_lt (by have := hx.1; omega)]; exact hPk
      · unfold isUp; rw [Int.toNat_natCast, List.getElem?_set_self (by omega)]; rfl
    rw [hfr]
    refine (alive_ret h' hn).bind fun r h'' ⟨er, _⟩ => ?_
    subst er
    simp only
    rw [cond_true, cond_true]
    exact .pure ⟨by simp, trivial⟩
  | succ d ih =>
    intro m ups q ql qc h hd hf g hm
    by_cases hq : k + 1 - ql ≤ d
    · exact ih m ups q ql qc h hq (by omega) g hm
    obtain ⟨m, rfl⟩ : ∃ m', m = m' + 1 := ⟨m - 1, by omega⟩
    rw [outriderlaw08_MaglevFalls_4_L2_eq, decide_eq_true (by omega), cond_true, newK_eq]
    refine Grow.push (size := 1) (bytes := 1) g hm.next (xs := [.bool false]) rfl rfl (by omega) (by omega) (by omega) fun p' c' h' g' m' => ?_
    refine ih m (ups ++ [false]) p' (ql + 1) c' h' (by omega) (by omega) ?_ (hm.push g m')
    rw [List.map_append]
    exact g'
end

section
variable {c0 : List AV} {p p2 : Option (Nat × Nat)} {l l2 : Nat} {c c2 : Cap} {tg tg2 : Option Tgt} {cs cs2 : List AV}

theorem maglevFalls_true {x : Int} (w0 : Fits ks16 c0) (w1 : Arg 0 [.str, .int .i64] 24 p l c cs) (e2 : (Lit.int .u64 x).wf = true) (w2 : Arg 1 [.bool] 1 p2 l2 c2 cs2) : ∃ n h', outriderlaw08_MaglevFalls_4 n c0 p l c x p2 l2 c2 (H0 [(tg, cs), (tg2, cs2)]) = some (true, h') := by
  obtain ⟨key, rfl, hk2, hk⟩ := key_of w0
  obtain ⟨L, rfl, hlb, row⟩ := open_bks (rows := [(tg, cs), (tg2, cs2)]) rfl w1
  obtain ⟨up, rfl, hub, urow⟩ := open_up (rows := [(tg, cs), (tg2, cs2)]) rfl w2
  have hx := u64_wf e2
  have hx0 := hx.1
  refine ⟨6000 + L.length, law_true (Q := fun _ => True) ?_⟩
  have hn : 5000 ≤ 6000 + L.length := by omega
  have hn2 : L.length < 6000 + L.length := by omega
  generalize 6000 + L.length = n at hn hn2 ⊢
  generalize H0 [(tg, cs), (tg2, cs2)] = h0 at *
  rw [outriderlaw08_MaglevFalls_4_eq, newK_eq, newK_eq]
  have m0 : Mod [] h0 ((h0.new (.cells (u8s key) false)).new (.cells [.int .u64 x, .slice p2 up.length c2] false)) := ((Mod.refl _ _).new _).new _
  have g1 : ((h0.new (.cells (u8s key) false)).new (.cells [.int .u64 x, .slice p2 up.length c2] false)).get h0.next = some (.cells (u8s key) false) := (get_new_lt (Nat.lt_succ_self _)).trans (get_new_self _ _)
  have g3 : ((h0.new (.cells (u8s key) false)).new (.cells [.int .u64 x, .slice p2 up.length c2] false)).get (h0.next + 1) = some (.cells [.int .u64 x, .slice p2 up.length c2] false) := get_new_self _ _
  have n0 : ((h0.new (.cells (u8s key) false)).new (.cells [.int .u64 x, .slice p2 up.length c2] false)).next = h0.next + 2 := rfl
  rw [show (h0.new (.cells (u8s key) false)).next = h0.next + 1 from rfl]
  generalize (h0.new (.cells (u8s key) false)).new (.cells [.int .u64 x, .slice p2 up.length c2] false) = h1 at *
  rw [aggK_all (n := 16) g1 (by simp [hk2])]
  refine table_ret hk hk2 (Row.mod0 row m0) hlb hn hn2 fun z h2 m2 d2 => ?_
  simp only
  have hn2' := m2.next
  have g32 := (m2.get _ (by omega) (by simp)).trans g3
  by_cases ho : okL L
  · rw [if_pos ho] at d2
    obtain ⟨tb, ys, rfl, hy, T⟩ := d2
    have hL := ho.2.1
    rw [show ((0 : Int) != 0) = false by decide, cond_false, eqVK_ptr Try.underlying24, Option.isNone_some, outriderlaw08_MaglevFalls_4_J0_eq, cond_false]
    simp only [nnK_some', Nat.zero_add]
    rw [cellK_of (o := 0) g32 rfl, asInt_int, Int.tmod_eq_emod_of_nonneg hx0, wrap_i64 (x := x % 251) (by omega) (by omega)]
    have hp := placesOf_len key L ys
    have hPx : (placesOf key L ys)[(x % 251).toNat]? = some (placesOf key L ys)[(x % 251).toNat] := List.getElem?_eq_getElem (by omega)
    obtain ⟨k, hkl, hk'⟩ := placesOf_mem (key := key) ho hy (List.getElem_mem (show (x % 251).toNat < (placesOf key L ys).length by omega))
    rw [hk'] at hPx
    have hat := T.at' hPx n
    rw [show (((x % 251).toNat : Nat) : Int) = x % 251 by omega] at hat
    rw [hat, Option.bind_some]
    simp only
    rw [decide_eq_false (by omega), cond_false, decide_eq_false (by omega), outriderlaw08_MaglevFalls_4_J1_eq, cond_false, newK_eq]
    have m3 : Mod [] h2 (h2.new (.cells [] false)) := (Mod.refl _ _).new _
    have g4 := get_new_self h2 (.cells [] false)
    have n3 : (h2.new (.cells [] false)).next = h2.next + 1 := rfl
    generalize h2.new (.cells [] false) = h3 at *
    simp only [nnK_some', Nat.zero_add]
    rw [cellK_of (o := 1) ((m3.get _ (by omega) (by simp)).trans g32) rfl, asSlice_slice]
    have urow3 := Row.mod0 urow ((m0.trans m2).trans m3)
    have hg0 : Grow h2 h3 1 (some (h2.next, 0)) 0 (.known 0) [] := ⟨.inr ⟨h2.next, rfl, by omega, by omega, g4, rfl, .inr rfl⟩⟩
    have hul := urow.len1
    refine Grow.ret (bytes := 1) hg0 (by omega) urow3.src (by simp) (by simp [isCell]) (by omega) (by omega) (fun h0 => by rw [List.eq_nil_of_length_eq_zero h0]; rfl) fun p' c' h4 g' m' => ?_
    rw [List.nil_append] at g'
    exact falls_L2 hx T (fun y hy' => by obtain ⟨i, _, rfl⟩ := placesOf_mem ho hy hy'; omega) (by omega) hPx g32 (by omega) hn (k + 1) n up p' (0 + up.length) c' h4 (by omega) (by omega) g' (m3.push hg0 m')
  · rw [if_neg ho] at d2
    subst d2
    simp only
    rw [show ((80 : Int) != 0) = true by decide, cond_true, outriderlaw08_MaglevFalls_4_J0_eq, cond_true]
    exact alive_TT h2 hn
end

end Go.Ev.Try
