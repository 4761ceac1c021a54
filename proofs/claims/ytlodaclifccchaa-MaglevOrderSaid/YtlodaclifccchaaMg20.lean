/- Chapter 08: the law MaglevFinds in plain Lean. -/
import Derived.Test.YtlodaclifccchaaMg19
set_option linter.all false
namespace Go.Ev.Try
set_option maxRecDepth 10000
open Go.Proofs

section
variable {c0 : List AV} {p p2 : Option (Nat × Nat)} {l l2 : Nat} {c c2 : Cap} {tg tg2 : Option Tgt} {cs cs2 : List AV}

theorem maglevFinds_true {x : Int} (w0 : Fits ks16 c0) (w1 : Arg 0 [.str, .int .i64] 24 p l c cs) (e2 : (Lit.int .u64 x).wf = true) (w2 : Arg 1 [.bool] 1 p2 l2 c2 cs2) : ∃ n h', outriderlaw08_MaglevFinds_6 n c0 p l c x p2 l2 c2 (H0 [(tg, cs), (tg2, cs2)]) = some (true, h') := by
  obtain ⟨key, rfl, hk2, hk⟩ := key_of w0
  obtain ⟨L, rfl, hlb, row⟩ := open_bks (rows := [(tg, cs), (tg2, cs2)]) rfl w1
  obtain ⟨up, rfl, hub, urow⟩ := open_up (rows := [(tg, cs), (tg2, cs2)]) rfl w2
  have hx := u64_wf e2
  have hx0 := hx.1
  refine ⟨6000 + L.length, law_true (Q := fun _ => True) ?_⟩
  have hn : 5000 ≤ 6000 + L.length := by omega
  have hn2 : L.length < 6000 + L.length := by omega
  generalize 6000 + L.length = n at hn hn2 ⊢
  generalize H0 [(tg, cs), (tg2, cs2)] = h0 at *
  rw [outriderlaw08_MaglevFinds_6_eq, newK_eq, newK_eq]
  have m0 : Mod [] h0 ((h0.new (.cells (u8s key) false)).new (.cells [.int .u64 x, .slice p2 up.length c2] false)) := ((Mod.refl _ _).new _).new _
  have g1 : ((h0.new (.cells (u8s key) false)).new (.cells [.int .u64 x, .slice p2 up.length c2] false)).get h0.next = some (.cells (u8s key) false) := (get_new_lt (Nat.lt_succ_self _)).trans (get_new_self _ _)
  have g3 : ((h0.new (.cells (u8s key) false)).new (.cells [.int .u64 x, .slice p2 up.length c2] false)).get (h0.next + 1) = some (.cells [.int .u64 x, .slice p2 up.length c2] false) := get_new_self _ _
  have n0 : ((h0.new (.cells (u8s key) false)).new (.cells [.int .u64 x, .slice p2 up.length c2] false)).next = h0.next + 2 := rfl
  rw [show (h0.new (.cells (u8s key) false)).next = h0.next + 1 from rfl]
  generalize (h0.new (.cells (u8s key) false)).new (.cells [.int .u64 x, .slice p2 up.length c2] false) = h1 at *
  rw [aggK_all (n := 16) g1 (by simp [hk2])]
  refine table_ret hk hk2 (Row.mod0 row m0) hlb hn hn2 fun z h2 m2 d2 => ?_
  simp only
  have hn2' := m2.next
  have g12 := (m2.get _ (by omega) (by simp)).trans g1
  have g32 := (m2.get _ (by omega) (by simp)).trans g3
  have row2 := Row.mod0 row (m0.trans m2)
  have urow2 := Row.mod0 urow (m0.trans m2)
  by_cases ho : okL L
  · rw [if_pos ho] at d2
    obtain ⟨tb, ys, rfl, hy, T⟩ := d2
    have hL := ho.2.1
    have hPp : ∀ y ∈ placesOf key L ys, 0 ≤ y := fun y hy' => by obtain ⟨i, _, rfl⟩ := placesOf_mem ho hy hy'; omega
    have hRp : ∀ y ∈ ringOf L ys, 0 ≤ y := fun y hy' => by obtain ⟨i, _, rfl⟩ := ringOf_mem hy hy'; omega
    have hR0 := ringOf_pos ho hy
    have hyl : ys.length = L.length := by rw [hy.perm.length_eq, List.length_range]
    have hrl : (ringOf L ys).length ≤ 1600 := by have := ringOf_len (wt_le ho) ys; omega
    have hpl := placesOf_len key L ys
    rw [show ((0 : Int) != 0) = false by decide, cond_false, eqVK_ptr Try.underlying24, Option.isNone_some, outriderlaw08_MaglevFinds_6_J0_eq, cond_false]
    simp only [nnK_some', Nat.zero_add]
    rw [cellK_of (o := 0) g32 rfl, asInt_int, cellK_of (o := 1) g32 rfl, asSlice_slice, T.find hPp hx urow2 (n := n) (by omega), Option.bind_some]
    simp only
    rw [aggK_all (n := 16) g12 (by simp [hk2])]
    refine (Places_ret hk hk2 ho row2 hy hn).bind fun z h3 ⟨pr, _, e251, m3⟩ => ?_
    obtain ⟨q, ql, qc⟩ := z
    simp only at pr e251 ⊢
    subst e251
    rw [minus_quiet m3, minus_none]
    have g33 := (m3.get _ (by omega) (by simp)).trans g32
    rw [cellK_of (o := 0) g33 rfl, asInt_int, cellK_of (o := 1) g33 rfl, asSlice_slice]
    have urow3 := Row.mod0 urow2 m3
    have eF := refFrom_eq (c := qc) (p := q) (R := placesOf key L ys) hPp (by omega) (by omega) (by rw [hpl]; exact pr) urow3 hx (n := n) (by omega)
    rw [hpl] at eF
    rw [eF, Option.bind_some]
    simp only
    have T3 := T.mod0 m3
    rw [cellK_of (o := 0) g33 rfl, asInt_int, cellK_of (o := 1) g33 rfl, asSlice_slice, T3.turn hRp hR0 (by omega) hx urow3 (n := n) (by omega), Option.bind_some]
    simp only
    refine (Ring_ret (Row.mod0 row2 m3) ho hy hn).bind fun z h4 ⟨rr, m4⟩ => ?_
    obtain ⟨rq, rql, rqc⟩ := z
    simp only at rr ⊢
    have hrq := rr.len1
    subst hrq
    rw [minus_quiet m4, minus_none]
    have hn3 := m3.next
    have g34 := (m4.get _ (by omega) (by simp)).trans g33
    rw [cellK_of (o := 0) g34 rfl, asInt_int, cellK_of (o := 1) g34 rfl, asSlice_slice, refFrom_eq hRp hR0 (by omega) rr (Row.mod0 urow3 m4) hx (n := n) (by omega), Option.bind_some]
    simp only
    refine (alive_ret h4 hn).bind fun r h5 ⟨er, _⟩ => ?_
    subst er
    simp only
    have e1 : ((251 : Nat) : Int) = 251 := rfl
    rw [cond_true, e1]
    simp only [beq_self_eq_true, cond_true]
    exact .pure ⟨rfl, trivial⟩
  · rw [if_neg ho] at d2
    subst d2
    simp only
    rw [show ((80 : Int) != 0) = true by decide, cond_true, outriderlaw08_MaglevFinds_6_J0_eq, cond_true]
    refine (alive_ret h2 hn).bind fun r h3 ⟨er, m3⟩ => ?_
    subst er
    simp only
    rw [cond_true, refRight_eq (Row.mod0 row2 m3) (by omega) hn2, Option.bind_some, decide_eq_false ho]
    exact .pure ⟨rfl, trivial⟩
end

end Go.Ev.Try
