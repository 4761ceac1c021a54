/- Chapter 09: the law WheelNexts in plain Lean. -/
import Derived.Test.YtccjmkhfjplidaaWhC
set_option linter.all false
namespace Go.Ev.Try
set_option maxRecDepth 10000
open Go.Proofs

theorem nexts_L2 {b : Nat} {B : List Nat} {n : Nat} (hn : 2000 ≤ n) {kk : Bool → H → Option Unit} (hk : ∀ h, kk true h = some ()) :
    ∀ (d k fuel : Nat) (h : H) (now : Int) (L : List (Int × Int)), k + d = 400 → d < fuel → L.length < d → L.length ≤ 500 → Wheel h b B now L → outriderlaw09_WheelNexts_7_L2 n kk fuel (some (b, 0)) (k : Int) h = some ()
  | 0, k, fuel, h, now, L, _, _, hl, _, _ => absurd hl (by omega)
  | d + 1, k, fuel + 1, h, now, L, hkd, hf, hl, hl5, w => by
    have dc := w.doc
    rw [outriderlaw09_WheelNexts_7_L2_eq, decide_eq_true (show (k : Int) < 400 by omega), cond_true]
    refine w.next (n := n) (by omega) _ fun r1 h1 ⟨e1, m1⟩ => ?_
    have w1 := w.mod0 m1
    have hl4 : L.length < 400000 := by omega
    have hln : L.length < n := by omega
    cases L with
    | nil =>
      obtain rfl : r1 = (0, false) := e1
      simp only [Bool.not_false]
      rw [cond_true]
      refine alive_ret _ (by omega) _ fun r2 h2 ⟨e2, m2⟩ => ?_
      rw [e2, cond_true, (w1.mod0 m2).len n, Option.bind_some]
      exact hk _
    | cons e L =>
      obtain rfl : r1 = (e.2, true) := e1
      simp only [Bool.not_true]
      rw [cond_false, w1.nowIs n, Option.bind_some]
      simp only
      have hme := dc.may e (by simp)
      have hme3 := hme.2.2.1
      have hme4 := hme.2.2.2
      have hsrt := List.pairwise_cons.1 dc.sorted
      have n0 := dc.n0
      have n1 := dc.n1
      -- the next ones are told
      have fin : ∀ (h2 : H) (now2 : Int) (x : Int), Wheel h2 b B now2 (e :: L) → now2 ≤ x → x ≤ 1099511627776 → e.2 ≤ x →
          wheel_Wheel_Move_13 n (some (b, 0)) x h2 (fun r45 h46 => outriderlaw09_WheelNexts_7_J3 n kk fuel (some (b, 0)) k (((Nat.cast r45.2.1) : Int) == (0 : Int)) h46) = some () := by
        intro h2 now2 x w2 hx0 hx1 hx2
        refine w2.move hx0 hx1 hl4 (by omega) hln _ fun r3 h3 ⟨m3, g3, w3⟩ => ?_
        have hlen := g3.row.len1
        have ht : told x (e :: L) = e.1 :: told x L := by unfold told; rw [List.filter_cons, if_pos (by simpa using hx2)]; rfl
        have hlf : left x (e :: L) = left x L := by unfold left; rw [List.filter_cons, if_neg (by simp; omega)]
        rw [ht] at hlen
        simp only [List.length_cons] at hlen
        rw [show (((r3.2.1 : Nat) : Int) == 0) = false by simp; omega, outriderlaw09_WheelNexts_7_J3_eq, cond_false, wrap_succ (by omega)]
        rw [hlf] at w3
        have : (left x L).length ≤ L.length := left_lt
        simp only [List.length_cons] at hl hl5
        exact nexts_L2 hn hk d (k + 1) fuel h3 x (left x L) (by omega) (by omega) (by omega) (by omega) w3
      by_cases hgt : e.2 > now
      · rw [decide_eq_true hgt, cond_true, wrap_i64 (by omega) (by omega)]
        refine w1.move (upto := e.2 - 1) (by omega) (by have := hme.2.2.2; omega) hl4 (by omega) hln _ fun r3 h3 ⟨m3, g3, w3⟩ => ?_
        have hall : ∀ f ∈ e :: L, ¬ f.2 ≤ e.2 - 1 := fun f hf => by
          rcases List.mem_cons.1 hf with rfl | hf
          · omega
          · have := hsrt.1 f hf
            unfold before at this
            omega
        have ht : told (e.2 - 1) (e :: L) = [] := by
          unfold told
          rw [List.map_eq_nil_iff, List.filter_eq_nil_iff]
          intro f hf h'
          exact hall f hf (of_decide_eq_true h')
        have hlf : left (e.2 - 1) (e :: L) = e :: L := by
          unfold left
          rw [List.filter_eq_self]
          intro f hf
          have := hall f hf
          exact decide_eq_true (by omega)
        have hlen := g3.row.len1
        rw [ht] at hlen
        rw [hlf] at w3
        rw [show decide (((r3.2.1 : Nat) : Int) > 0) = false by simp at hlen; simp; omega, cond_false, w3.nowIs n, Option.bind_some]
        simp only
        rw [if_neg (show ¬ e.2 - 1 > e.2 by omega)]
        exact fin h3 (e.2 - 1) e.2 w3 (by omega) hme.2.2.2 (by omega)
      · rw [decide_eq_false hgt, cond_false, w1.nowIs n, Option.bind_some]
        simp only
        have : (if now > e.2 then now else e.2) = now := by split <;> omega
        rw [this]
        exact fin h1 now now w1 (by omega) n1 (by omega)

section
variable {p : Option (Nat × Nat)} {l : Nat} {c : Cap} {tg : Option Tgt} {cs : List AV} {B : Nat}

theorem wheelNexts_true (w0 : Arg 0 [.int .i64, .int .i64, .int .i64] B p l c cs) : ∃ n, RetK (fun kk => outriderlaw09_WheelNexts_7 n p l c (H0 [(tg, cs)]) kk) True' := by
  obtain ⟨os, rfl, _, row⟩ := open_ops (rows := [(tg, cs)]) rfl w0
  refine ⟨2000, fun kk hk0 => ?_⟩
  have hk : ∀ h, kk true h = some () := fun h => hk0 _ _ rfl
  show outriderlaw09_WheelNexts_7 2000 p os.length c (H0 [(tg, cs)]) kk = some ()
  rw [outriderlaw09_WheelNexts_7_eq]
  generalize H0 [(tg, cs)] = a at *
  obtain ⟨r, h1, e1, m1, b, B', rfl, w1, hB⟩ := Wheel.new a (n := 2000) (by omega)
  rw [e1, Option.bind_some, eqVK_ptr Try.underlying24, Option.isNone_some, cond_false]
  by_cases ho1 : os.length ≤ 300
  · rw [show decide ((os.length : Int) > 300) = false by simp; omega, outriderlaw09_WheelNexts_7_J0_eq, cond_false]
    have hno : ∀ {q : Option (Nat × Nat)}, (∀ x ∈ own q, x < a.next) → ∀ x ∈ own q, x ∉ B' := fun hq x hx hxB => by have := hq x hx; have := hB x hxB; omega
    refine script_loop (a := h1) (b := b) (B := B') (os := os) (s0 := (0, [])) (row.mod0 m1) (hno fun x hx => Row.lt row x hx) (by omega) (Nat.le_refl _) (F := fun m j h => outriderlaw09_WheelNexts_7_L1 2000 kk m (some (b, 0)) p os.length c os.length j h) (fun m j h => outriderlaw09_WheelNexts_7_L1_eq ..) (by simp) (fun h2 w2 m2 => ?_) os [] 2000 h1 rfl (by omega) w1 (Mod.refl _ _)
    have hl := runT_len os (0, [])
    simp only [List.length_nil, Nat.zero_add] at hl
    exact nexts_L2 (Nat.le_refl _) hk 400 0 2000 h2 _ _ (by omega) (by omega) (by omega) (by omega) w2
  · rw [show decide ((os.length : Int) > 300) = true by simp; omega, outriderlaw09_WheelNexts_7_J0_eq, cond_true, eqVK_ptr Try.underlying24, Option.isNone_some, Bool.not_false, cond_true]
    exact alive_ret _ (by omega) _ fun r2 h3 ⟨e, _⟩ => by rw [e]; exact hk _
end

end Go.Ev.Try
