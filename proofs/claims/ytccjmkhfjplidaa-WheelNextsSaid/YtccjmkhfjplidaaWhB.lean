/- Chapter 09: the law WheelOnce in plain Lean. -/
import Derived.Test.YtccjmkhfjplidaaWh14
set_option linter.all false
namespace Go.Ev.Try
set_option maxRecDepth 10000
open Go.Proofs

theorem mem_told {upto : Int} {L : List (Int × Int)} {id : Int} : id ∈ told upto L ↔ ∃ a, (id, a) ∈ L ∧ a ≤ upto := by
  unfold told
  rw [List.mem_map]
  constructor
  · rintro ⟨e, he, rfl⟩
    obtain ⟨h1, h2⟩ := List.mem_filter.1 he
    exact ⟨e.2, h1, of_decide_eq_true h2⟩
  · rintro ⟨a, h1, h2⟩
    exact ⟨(id, a), List.mem_filter.2 ⟨h1, decide_eq_true h2⟩, rfl⟩
theorem mem_left {upto : Int} {L : List (Int × Int)} {e : Int × Int} : e ∈ left upto L ↔ e ∈ L ∧ upto < e.2 := by
  unfold left
  rw [List.mem_filter, decide_eq_true_eq]
theorem Doc.one {now : Int} {L : List (Int × Int)} (d : Doc now L) {id a a' : Int} (h1 : (id, a) ∈ L) (h2 : (id, a') ∈ L) : a = a' := by
  have e1 := lk_of_mem d.nd h1
  rw [lk_of_mem d.nd h2] at e1
  cases e1; rfl

/-- a Move, whether it may be or not -/
def moveT (now : Int) (L : List (Int × Int)) (upto : Int) : Int × List (Int × Int) := if moves now upto then (upto, left upto L) else (now, L)
def moveTold (now : Int) (L : List (Int × Int)) (upto : Int) : List Int := if moves now upto then told upto L else []
theorem Wheel.moveAny {h : H} {b : Nat} {B : List Nat} {now : Int} {L : List (Int × Int)} (w : Wheel h b B now L) (upto : Int) (hsz : L.length < 400000) {n : Nat} (hn : 600 ≤ n) (hn2 : L.length < n) :
    RetK (fun kk => wheel_Wheel_Move_13 n (some (b, 0)) upto h kk) fun r h' => Mod B h h' ∧ Grow h h' 1 r.1 r.2.1 r.2.2 ((moveTold now L upto).map i64) ∧ Wheel h' b B (moveT now L upto).1 (moveT now L upto).2 := by
  unfold moveT moveTold
  by_cases hm : moves now upto
  · rw [if_pos hm, if_pos hm]
    exact w.move hm.1 hm.2 hsz hn hn2
  · rw [if_neg hm, if_neg hm]
    exact (w.moveBad hm n).mono fun r h' ⟨e, m⟩ => ⟨m.of_nil, by subst e; exact .nil, w.mod0 m⟩
theorem moveT_len {now : Int} {L : List (Int × Int)} {upto : Int} : (moveT now L upto).2.length ≤ L.length := by
  unfold moveT
  split
  · exact left_lt
  · exact Nat.le_refl _
theorem moveTold_len {now : Int} {L : List (Int × Int)} {upto : Int} : (moveTold now L upto).length ≤ L.length := by
  unfold moveTold
  split
  · exact told_lt
  · simp

theorem once_L4 {h : H} {q : Option (Nat × Nat)} {ql : Nat} {qc : Cap} {ids : List Int} (hrow : Row h 1 q ql qc (ids.map i64)) (hl : ids.length < 1000000) (n : Nat) (kk : Bool → H → Option Unit) (m1 : Nat) (at' : Int) (b : Nat) (tld due' : Bool) (p : Option (Nat × Nat)) (pl : Nat) (pc : Cap) (zl zj : Int) :
    ∀ (ts pre : List Int) (m : Nat) (met : Bool), ids = pre ++ ts → ts.length < m → met = decide (1 ∈ pre) →
      outriderlaw09_WheelOnce_5_L4 n kk m1 m at' (some (b, 0)) tld due' met p pl pc zl zj q ql qc ql pre.length h =
        cond (!(decide (1 ∈ ids) == due')) (kk false h) (cond tld (outriderlaw09_WheelOnce_5_L2 n kk m1 at' (some (b, 0)) true p pl pc zl (IntKind.i64.wrap (zj + 1)) h) (outriderlaw09_WheelOnce_5_L2 n kk m1 at' (some (b, 0)) (decide (1 ∈ ids)) p pl pc zl (IntKind.i64.wrap (zj + 1)) h))
  | [], pre, m + 1, met, hx, _, hmet => by
    have hlen := hrow.len1
    rw [outriderlaw09_WheelOnce_5_L4_eq, cast_not_lt (by rw [← hlen, hx]; simp), cond_false]
    rw [List.append_nil] at hx
    subst hx
    rw [hmet]
  | t :: ts, pre, m + 1, met, hx, hf, hmet => by
    have hlen := hrow.len1
    have ht : ids[pre.length]? = some t := by rw [hx]; simp
    have hlt : pre.length < ids.length := by rw [hx]; simp
    have ih := fun met => once_L4 hrow hl n kk m1 at' b tld due' p pl pc zl zj ts (pre ++ [t]) m met (by rw [hx]; simp) (by simp at hf; omega)
    rw [List.length_append, List.length_singleton] at ih
    rw [outriderlaw09_WheelOnce_5_L4_eq, cast_lt (by omega), cond_true, hrow.ix1 ht, asInt_int, wrap_succ (by omega)]
    cases met with
    | true =>
      rw [cond_true]
      refine ih true ?_
      rw [eq_comm, decide_eq_true_eq] at hmet
      rw [eq_comm, decide_eq_true_eq]
      exact List.mem_append_left _ hmet
    | false =>
      rw [cond_false]
      refine ih _ ?_
      rw [eq_comm, decide_eq_false_iff_not] at hmet
      rw [Bool.eq_iff_iff, beq_iff_eq, decide_eq_true_eq, List.mem_append, List.mem_singleton]
      exact ⟨fun h => .inr h.symm, fun h => h.elim (fun h => absurd h hmet) fun h => h.symm⟩

/-- timer 1, set to at', is told or not -/
def OnceAt (L : List (Int × Int)) (at' : Int) (tld : Bool) : Prop := if tld = true then (∀ a, (1, a) ∉ L) else (1, at') ∈ L

theorem once_L2 {p : Option (Nat × Nat)} {len : Nat} {c : Cap} {zs : List Int} {b : Nat} {B : List Nat} {a : H} (hrow : Row a 1 p len c (zs.map i64)) (hown : ∀ x ∈ own p, x ∉ B) (hz : zs.length ≤ 300) {n : Nat} (hn : 2000 ≤ n) (at' : Int) {kk : Bool → H → Option Unit} (hk : ∀ h, kk true h = some ()) :
    ∀ (ts pre : List Int) (m : Nat) (h : H) (now : Int) (L : List (Int × Int)) (tld : Bool), zs = pre ++ ts → ts.length < m → Wheel h b B now L → Mod B a h → L.length ≤ 500 → OnceAt L at' tld →
      outriderlaw09_WheelOnce_5_L2 n kk m at' (some (b, 0)) tld p len c len pre.length h = some ()
  | [], pre, m + 1, h, now, L, tld, hx, _, w, hm, hl, ho => by
    have hlen := hrow.len1
    have d := w.doc
    rw [outriderlaw09_WheelOnce_5_L2_eq, cast_not_lt (by rw [← hlen, hx]; simp), cond_false, w.when n 1, Option.bind_some]
    refine alive_ret h (by omega) _ fun r h' ⟨e, _⟩ => ?_
    rw [e, cond_true]
    have : ((whenT (lk L 1)).2 == (!tld)) = true := by
      unfold OnceAt at ho
      cases tld with
      | true =>
        rw [if_pos rfl] at ho
        cases hlk : lk L 1 with
        | none => rfl
        | some a => exact absurd (lk_mem hlk) (ho a)
      | false =>
        rw [if_neg (by simp)] at ho
        rw [lk_of_mem d.nd ho]; rfl
    simp only
    rw [this]
    exact hk _
  | t :: ts, pre, m + 1, h, now, L, tld, hx, hf, w, hm, hl, ho => by
    have hlen := hrow.len1
    have d := w.doc
    have ht : zs[pre.length]? = some t := by rw [hx]; simp
    have hlt : pre.length < zs.length := by rw [hx]; simp
    rw [outriderlaw09_WheelOnce_5_L2_eq, cast_lt (by omega), cond_true, (hrow.mod hm hown).ix1 ht, asInt_int, w.nowIs n, Option.bind_some]
    have go : ∀ due' : Bool, due' = (!tld && (decide (moves now t) && decide (t ≥ at'))) → outriderlaw09_WheelOnce_5_J3 n kk m at' (some (b, 0)) tld t due' p len c len pre.length h = some () := by
      intro due' hdue
      rw [outriderlaw09_WheelOnce_5_J3_eq]
      refine w.moveAny t (by omega) (n := n) (by omega) (by omega) _ fun r h2 ⟨m2, g2, w2⟩ => ?_
      have hml := moveTold_len (now := now) (L := L) (upto := t)
      have hL2 := moveT_len (now := now) (L := L) (upto := t)
      have := once_L4 g2.row (by omega) n kk m at' b tld due' p len c len pre.length (moveTold now L t) [] n false rfl (by omega) (by simp)
      refine Eq.trans this ?_
      have hmet : decide (1 ∈ moveTold now L t) = due' := by
        rw [hdue, Bool.eq_iff_iff]
        simp only [Bool.and_eq_true, Bool.not_eq_true', decide_eq_true_eq]
        unfold moveTold
        unfold OnceAt at ho
        by_cases hmv : moves now t
        · rw [if_pos hmv, mem_told]
          cases tld with
          | true =>
            rw [if_pos rfl] at ho
            simp only [Bool.true_eq_false, false_and, iff_false, not_exists, not_and]
            exact fun a ha => absurd ha (ho a)
          | false =>
            rw [if_neg (by simp)] at ho
            constructor
            · rintro ⟨a, h1, h2⟩
              rw [d.one h1 ho] at h2
              exact ⟨rfl, hmv, h2⟩
            · rintro ⟨_, _, h⟩; exact ⟨_, ho, h⟩
        · rw [if_neg hmv]
          simp [hmv]
      rw [hmet, show (due' == due') = true by simp, Bool.not_true, cond_false, wrap_succ (by omega)]
      have ih := once_L2 (b := b) hrow hown hz hn at' hk ts (pre ++ [t]) m h2 (moveT now L t).1 (moveT now L t).2
      rw [List.length_append, List.length_singleton] at ih
      cases tld with
      | true =>
        rw [cond_true]
        refine ih true (by rw [hx]; simp) (by simp at hf; omega) w2 (hm.trans m2) (by omega) ?_
        unfold OnceAt at ho ⊢
        rw [if_pos rfl] at ho ⊢
        unfold moveT
        split
        · exact fun a ha => ho a (mem_left.1 ha).1
        · exact ho
      | false =>
        rw [cond_false]
        refine ih due' (by rw [hx]; simp) (by simp at hf; omega) w2 (hm.trans m2) (by omega) ?_
        unfold OnceAt at ho ⊢
        rw [if_neg (by simp)] at ho
        simp only [Bool.not_false, Bool.true_and] at hdue
        unfold moveT
        by_cases hmv : moves now t
        · rw [decide_eq_true hmv, Bool.true_and] at hdue
          simp only [if_pos hmv]
          by_cases hat : t ≥ at'
          · rw [decide_eq_true hat] at hdue
            rw [if_pos hdue]
            intro a ha
            obtain ⟨h1, h2⟩ := mem_left.1 ha
            have := d.one h1 ho
            simp only at h2
            omega
          · rw [decide_eq_false hat] at hdue
            rw [if_neg (by simp [hdue])]
            exact mem_left.2 ⟨ho, by simp only; omega⟩
        · rw [decide_eq_false hmv, Bool.false_and] at hdue
          rw [if_neg (by simp [hdue])]
          simp only [if_neg hmv]
          exact ho
    simp only
    unfold moves at go
    cases tld with
    | true =>
      rw [Bool.not_true, cond_false]
      exact go false (by simp)
    | false =>
      rw [Bool.not_false, cond_true]
      by_cases h1 : t ≥ now
      · rw [decide_eq_true h1, cond_true]
        by_cases h2 : t ≤ 1099511627776
        · rw [decide_eq_true h2, cond_true]
          exact go _ (by rw [decide_eq_true (show now ≤ t ∧ t ≤ 1099511627776 from ⟨h1, h2⟩)]; simp)
        · rw [decide_eq_false h2, cond_false]
          exact go _ (by rw [decide_eq_false (fun h : now ≤ t ∧ t ≤ 1099511627776 => h2 h.2)]; simp)
      · rw [decide_eq_false h1, cond_false]
        exact go _ (by rw [decide_eq_false (fun h : now ≤ t ∧ t ≤ 1099511627776 => h1 h.1)]; simp)

section
variable {p : Option (Nat × Nat)} {l : Nat} {c : Cap} {tg : Option Tgt} {cs : List AV} {B : Nat} {p2 : Option (Nat × Nat)} {l2 : Nat} {c2 : Cap} {tg2 : Option Tgt} {cs2 : List AV} {B2 : Nat}

theorem wheelOnce_true (w0 : Arg 0 [.int .i64, .int .i64, .int .i64] B p l c cs) {at' : Int} (_ : (Lit.int .i64 at').wf = true) (w2 : Arg 1 [.int .i64] B2 p2 l2 c2 cs2) : ∃ n, RetK (fun kk => outriderlaw09_WheelOnce_5 n p l c at' p2 l2 c2 (H0 [(tg, cs), (tg2, cs2)]) kk) True' := by
  obtain ⟨os, rfl, _, row⟩ := open_ops (rows := [(tg, cs), (tg2, cs2)]) rfl w0
  obtain ⟨zs, rfl, _, sz, _⟩ := sl_ints (rows := [(tg, cs), (tg2, cs2)]) rfl w2
  have row2 := Row.of_sl sz (WF_H0 _)
  refine ⟨2000, fun kk hk0 => ?_⟩
  have hk : ∀ h, kk true h = some () := fun h => hk0 _ _ rfl
  show outriderlaw09_WheelOnce_5 2000 p os.length c at' p2 zs.length c2 (H0 [(tg, cs), (tg2, cs2)]) kk = some ()
  rw [outriderlaw09_WheelOnce_5_eq]
  generalize H0 [(tg, cs), (tg2, cs2)] = a at *
  obtain ⟨r, h1, e1, m1, b, B', rfl, w1, hB⟩ := Wheel.new a (n := 2000) (by omega)
  rw [e1, Option.bind_some, eqVK_ptr Try.underlying24, Option.isNone_some, cond_false]
  have early : outriderlaw09_WheelOnce_5_J0 2000 kk p os.length c at' p2 zs.length c2 (some (b, 0)) true h1 = some () := by
    rw [outriderlaw09_WheelOnce_5_J0_eq, cond_true, eqVK_ptr Try.underlying24, Option.isNone_some, Bool.not_false, cond_true]
    exact alive_ret _ (by omega) _ fun r2 h3 ⟨e, _⟩ => by rw [e]; exact hk _
  by_cases ho1 : os.length ≤ 300
  · rw [show decide ((os.length : Int) > 300) = false by simp; omega, cond_false]
    by_cases ho2 : zs.length ≤ 300
    · rw [show decide ((zs.length : Int) > 300) = false by simp; omega, outriderlaw09_WheelOnce_5_J0_eq, cond_false]
      have hno : ∀ {q : Option (Nat × Nat)}, (∀ x ∈ own q, x < a.next) → ∀ x ∈ own q, x ∉ B' := fun hq x hx hxB => by have := hq x hx; have := hB x hxB; omega
      refine script_loop (a := h1) (b := b) (B := B') (os := os) (s0 := (0, [])) (row.mod0 m1) (hno fun x hx => Row.lt row x hx) (by omega) (Nat.le_refl _) (F := fun m j h => outriderlaw09_WheelOnce_5_L1 2000 kk m at' p2 zs.length c2 (some (b, 0)) p os.length c os.length j h) (fun m j h => outriderlaw09_WheelOnce_5_L1_eq ..) (by simp) (fun h2 w2 m2 => ?_) os [] 2000 h1 rfl (by omega) w1 (Mod.refl _ _)
      have hl := runT_len os (0, [])
      simp only [List.length_nil, Nat.zero_add] at hl
      by_cases hm : may 1 at'
      · obtain ⟨h3, e3, m3, w3⟩ := w2.set 2000 hm
        rw [e3, Option.bind_some]
        simp only [Bool.not_true]
        rw [cond_false]
        have h4 := (ins_perm (1, at') (wo (runT (0, []) os).2 1)).length_eq
        have h5 : (wo (runT (0, []) os).2 1).length ≤ (runT (0, []) os).2.length := List.length_filter_le _ _
        simp only [List.length_cons] at h4
        refine once_L2 (a := h1) (row2.mod0 m1) (hno fun x hx => Row.lt row2 x hx) ho2 (Nat.le_refl _) at' hk zs [] 2000 h3 _ _ false rfl (by omega) w3 (m2.trans m3) (by omega) ?_
        unfold OnceAt
        rw [if_neg (by simp)]
        exact (ins_perm _ _).mem_iff.2 (by simp)
      · rw [Set_bad 2000 hm, Option.bind_some]
        simp only [Bool.not_false]
        rw [cond_true]
        refine alive_ret _ (by omega) _ fun r2 h3 ⟨e, _⟩ => ?_
        rw [e, cond_true]
        unfold may at hm
        by_cases h0 : at' < 0
        · rw [decide_eq_true h0, cond_true]; exact hk _
        · rw [decide_eq_false h0, cond_false, decide_eq_true (show at' > 1099511627776 by omega)]; exact hk _
    · rw [show decide ((zs.length : Int) > 300) = true by simp; omega]
      exact early
  · rw [show decide ((os.length : Int) > 300) = true by simp; omega, cond_true]
    exact early
end

end Go.Ev.Try
