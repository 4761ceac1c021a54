/- Chapter 08: the law MaglevOrder in plain Lean. -/
import Derived.Test.YtlodaclifccchaaMg21
set_option linter.all false
namespace Go.Ev.Try
set_option maxRecDepth 10000
open Go.Proofs

theorem order_L1 {Q : Bool → H → Prop} {a : H} {p : Option (Nat × Nat)} {c : Cap} {L : List Bk} (row : KRow a p L.length c L) (hl : L.length ≤ 16) {i1 i3 t1 : Nat} {key : List Int} (hk2 : key.length = 16) (l1 : i1 < a.next) (g1 : a.get i1 = some (.cells (u8s key) false)) {n : Nat}
    (k : ∀ q qc h, KRow h q L.length qc L.reverse → Mod [] a h → Ret ((outriderlaw08_own_11 n q L.length qc h).bind fun r28 => quietK true h r28.2 ((maglev_New_10 n (u8s key) r28.1.1 r28.1.2.1 r28.1.2.2 r28.2).bind fun r29 => cond ((r29.1.2 : Int) != (0 : Int)) (outriderlaw08_MaglevOrder_9_J2 n p L.length c (some (i3, 0)) (some (t1, 0)) r29.1.1 true r29.2) (eqVK Try.prog 24 (.ptr r29.1.1) (.ptr none) fun z30 => outriderlaw08_MaglevOrder_9_J2 n p L.length c (some (i3, 0)) (some (t1, 0)) r29.1.1 z30 r29.2))) Q) :
    ∀ (d m : Nat) (q : Option (Nat × Nat)) (ql : Nat) (qc : Cap) (h : H), d ≤ L.length → d < m → Grow a h 2 q ql qc ((L.drop d).reverse.flatMap encK) → Mod [] a h →
      Ret (outriderlaw08_MaglevOrder_9_L1 n m p L.length c (some (i1, 0)) (some (i3, 0)) (some (t1, 0)) q ql qc ((d : Int) - 1) h) Q
  | 0, m + 1, q, ql, qc, h, hd, _, g, hm => by
    rw [List.drop_zero] at g
    have hql := Row.len g.row encK_len (by omega)
    rw [List.length_reverse] at hql
    subst hql
    rw [outriderlaw08_MaglevOrder_9_L1_eq, decide_eq_false (by omega), cond_false]
    simp only [nnK_some', Nat.zero_add]
    rw [aggK_all (n := 16) ((hm.get _ l1 (by simp)).trans g1) (by simp [hk2])]
    exact k q qc h g.row hm
  | d + 1, m + 1, q, ql, qc, h, hd, hf, g, hm => by
    have hlt : d < L.length := by omega
    have ht : L[d]? = some L[d] := List.getElem?_eq_getElem hlt
    have hql := Row.len g.row encK_len (by omega)
    simp at hql
    have hdr : L.drop d = L[d] :: L.drop (d + 1) := List.drop_eq_getElem_cons hlt
    generalize hte : L[d] = t at ht hdr
    rw [outriderlaw08_MaglevOrder_9_L1_eq, decide_eq_true (by omega), cond_true, show (((d + 1 : Nat) : Int) - 1) = (d : Int) by omega, Row.ix (Row.mod0 row hm) encK_len (by omega) ht]
    simp only [encK, lc_cons, l0_nil, asInt_int, asStr_str, newK_eq]
    rw [wrap_i64 (x := (d : Int) - 1) (by omega) (by omega)]
    refine Grow.push (size := 2) (bytes := 24) g hm.next (xs := [.str t.1, .int .i64 t.2]) rfl rfl (by omega) (by omega) (by omega) fun p' c' h' g' m' => ?_
    refine order_L1 row hl hk2 l1 g1 k d m p' (ql + 1) c' h' (by omega) (by omega) ?_ (hm.push g m')
    rw [hdr, List.reverse_cons, List.flatMap_append]
    exact g'

section
variable {c0 : List AV} {p p2 : Option (Nat × Nat)} {l l2 : Nat} {c c2 : Cap} {tg tg2 : Option Tgt} {cs cs2 : List AV}

theorem maglevOrder_true {x : Int} (w0 : Fits ks16 c0) (w1 : Arg 0 [.str, .int .i64] 24 p l c cs) (e2 : (Lit.int .u64 x).wf = true) (w2 : Arg 1 [.bool] 1 p2 l2 c2 cs2) : ∃ n h', outriderlaw08_MaglevOrder_9 n c0 p l c x p2 l2 c2 (H0 [(tg, cs), (tg2, cs2)]) = some (true, h') := by
  obtain ⟨key, rfl, hk2, hk⟩ := key_of w0
  obtain ⟨L, rfl, hlb, row⟩ := open_bks (rows := [(tg, cs), (tg2, cs2)]) rfl w1
  have hx := u64_wf e2
  refine ⟨6000 + L.length, law_true (Q := fun _ => True) ?_⟩
  have hn : 5000 ≤ 6000 + L.length := by omega
  have hn2 : L.length < 6000 + L.length := by omega
  generalize 6000 + L.length = n at hn hn2 ⊢
  generalize H0 [(tg, cs), (tg2, cs2)] = h0 at *
  rw [outriderlaw08_MaglevOrder_9_eq, newK_eq, newK_eq]
  have m0 : Mod [] h0 ((h0.new (.cells (u8s key) false)).new (.cells [.int .u64 x, .slice p2 l2 c2] false)) := ((Mod.refl _ _).new _).new _
  have g1 : ((h0.new (.cells (u8s key) false)).new (.cells [.int .u64 x, .slice p2 l2 c2] false)).get h0.next = some (.cells (u8s key) false) := (get_new_lt (Nat.lt_succ_self _)).trans (get_new_self _ _)
  have g3 : ((h0.new (.cells (u8s key) false)).new (.cells [.int .u64 x, .slice p2 l2 c2] false)).get (h0.next + 1) = some (.cells [.int .u64 x, .slice p2 l2 c2] false) := get_new_self _ _
  have n0 : ((h0.new (.cells (u8s key) false)).new (.cells [.int .u64 x, .slice p2 l2 c2] false)).next = h0.next + 2 := rfl
  rw [show (h0.new (.cells (u8s key) false)).next = h0.next + 1 from rfl]
  generalize (h0.new (.cells (u8s key) false)).new (.cells [.int .u64 x, .slice p2 l2 c2] false) = h1 at *
  rw [aggK_all (n := 16) g1 (by simp [hk2])]
  refine table_ret hk hk2 (Row.mod0 row m0) hlb hn hn2 fun z h2 m2 d2 => ?_
  simp only
  have hn2' := m2.next
  have g12 := (m2.get _ (by omega) (by simp)).trans g1
  have g32 := (m2.get _ (by omega) (by simp)).trans g3
  have row2 := Row.mod0 row (m0.trans m2)
  by_cases ho : okL L
  · rw [if_pos ho] at d2
    obtain ⟨tb, ys, rfl, hy, T⟩ := d2
    have hL := ho.2.1
    have hR0 := ringOf_pos ho hy
    have hyl : ys.length = L.length := by rw [hy.perm.length_eq, List.length_range]
    have hrl : (ringOf L ys).length ≤ 1600 := by have := ringOf_len (wt_le ho) ys; omega
    rw [show ((0 : Int) != 0) = false by decide, cond_false, eqVK_ptr Try.underlying24, Option.isNone_some, outriderlaw08_MaglevOrder_9_J0_eq, cond_false, wrap_i64 (x := ((L.length : Nat) : Int) - 1) (by omega) (by omega)]
    refine order_L1 row2 hL hk2 (by omega) g12 (fun q qc h3 trow m3 => ?_) L.length n none 0 (.known 0) h2 (Nat.le_refl _) (by omega) (by rw [List.drop_length]; exact .nil) (Mod.refl _ _)
    refine table_ret hk hk2 trow hlb hn hn2 fun z' h4 m4 d4 => ?_
    simp only
    rw [if_pos (okL_rev ho)] at d4
    obtain ⟨tb', zs, rfl, hz, T'⟩ := d4
    have ez := (isOrd_rev hy).unique hz
    subst ez
    rw [show ((0 : Int) != 0) = false by decide, cond_false, eqVK_ptr Try.underlying24, Option.isNone_some, outriderlaw08_MaglevOrder_9_J2_eq, cond_false]
    have m24 := m3.trans m4
    refine ((T.mod0 m24).names (by omega) (n := n) (by omega)).bind fun w h5 ⟨nr, m5⟩ => ?_
    obtain ⟨np, nl, nc⟩ := w
    simp only at nr ⊢
    refine ((T'.mod0 m5).names (by rw [List.length_reverse]; omega) (n := n) (by rw [List.length_reverse]; omega)).bind fun w h6 ⟨mr, m6⟩ => ?_
    obtain ⟨mp, ml, mc⟩ := w
    simp only at mr ⊢
    have m26 := (m24.trans m5).trans m6
    have hn26 := m26.next
    exact order_L3 hx (T.mod0 m26) ((T'.mod0 m5).mod0 m6) (fun y hy' => placesOf_mem ho hy hy') (places_rev ho hy) (fun y hy' => ringOf_mem hy hy') (ring_rev hy) hR0 hrl hL (nr.mod0 m6) mr (by omega) ((m26.get _ (by omega) (by simp)).trans g32) hn 251 0 n (by omega) (by omega)
  · rw [if_neg ho] at d2
    subst d2
    simp only
    rw [show ((80 : Int) != 0) = true by decide, cond_true, outriderlaw08_MaglevOrder_9_J0_eq, cond_true]
    exact alive_TT h2 hn
end

end Go.Ev.Try
