/- Chapter 09: the laws WheelAll and WheelAsks in plain Lean. -/
import Derived.Test.YtccjmkhfjplidaaWh14
set_option linter.all false
namespace Go.Ev.Try
set_option maxRecDepth 10000
open Go.Proofs

section
variable {p : Option (Nat × Nat)} {l : Nat} {c : Cap} {tg : Option Tgt} {cs : List AV} {B : Nat}

theorem wheelAll_true (w0 : Arg 0 [.int .i64, .int .i64, .int .i64] B p l c cs) : ∃ n, RetK (fun kk => outriderlaw09_WheelAll_6 n p l c (H0 [(tg, cs)]) kk) True' := by
  obtain ⟨os, rfl, _, row⟩ := open_ops (rows := [(tg, cs)]) rfl w0
  refine ⟨2000, fun kk hk => ?_⟩
  show outriderlaw09_WheelAll_6 2000 p os.length c (H0 [(tg, cs)]) kk = some ()
  rw [outriderlaw09_WheelAll_6_eq]
  generalize H0 [(tg, cs)] = a at *
  obtain ⟨r, h1, e1, m1, b, B', rfl, w1, hB⟩ := Wheel.new a (n := 2000) (by omega)
  rw [e1, Option.bind_some, eqVK_ptr Try.underlying24, Option.isNone_some, cond_false]
  by_cases hos : os.length ≤ 500
  · rw [show decide ((os.length : Int) > 500) = false by simp; omega, outriderlaw09_WheelAll_6_J0_eq, cond_false]
    refine plays_ret (row.mod0 m1) (fun x hx hxB => by have := Row.lt row x hx; have := hB x hxB; omega) w1 hos (Nat.le_refl _) _ fun r h2 ⟨q1, q2, q3, q4, q5⟩ => ?_
    simp only [newK_eq]
    rw [wrK_of (n := 2) (get_new_self _ _) rfl (by simp) rfl, spl_all _ _ (by simp), set_new]
    refine alive_ret _ (by omega) _ fun r2 h3 ⟨e, _⟩ => ?_
    rw [e, cond_true, q2]
    exact hk _ _ rfl
  · rw [show decide ((os.length : Int) > 500) = true by simp; omega, outriderlaw09_WheelAll_6_J0_eq, cond_true, eqVK_ptr Try.underlying24, Option.isNone_some, Bool.not_false, cond_true]
    exact alive_ret _ (by omega) _ fun r2 h3 ⟨e, _⟩ => hk _ _ e

theorem wheelAsks_true (w0 : Arg 0 [.int .i64, .int .i64, .int .i64] B p l c cs) {id : Int} (_ : (Lit.int .i64 id).wf = true) : ∃ n, RetK (fun kk => outriderlaw09_WheelAsks_8 n p l c id (H0 [(tg, cs)]) kk) True' := by
  obtain ⟨os, rfl, _, row⟩ := open_ops (rows := [(tg, cs)]) rfl w0
  refine ⟨2000, fun kk hk => ?_⟩
  show outriderlaw09_WheelAsks_8 2000 p os.length c id (H0 [(tg, cs)]) kk = some ()
  rw [outriderlaw09_WheelAsks_8_eq]
  generalize H0 [(tg, cs)] = a at *
  obtain ⟨r, h1, e1, m1, b, B', rfl, w1, hB⟩ := Wheel.new a (n := 2000) (by omega)
  rw [e1, Option.bind_some, eqVK_ptr Try.underlying24, Option.isNone_some, cond_false]
  by_cases hos : os.length ≤ 500
  · rw [show decide ((os.length : Int) > 500) = false by simp; omega, outriderlaw09_WheelAsks_8_J0_eq, cond_false]
    refine plays_ret (row.mod0 m1) (fun x hx hxB => by have := Row.lt row x hx; have := hB x hxB; omega) w1 hos (Nat.le_refl _) _ fun r h2 ⟨q1, q2, q3, q4, q5⟩ => ?_
    simp only [newK_eq]
    rw [wrK_of (n := 2) (get_new_self _ _) rfl (by simp) rfl, spl_all _ _ (by simp), set_new]
    have m2 : Mod [] h2 (h2.new (.cells [.int .i64 r.1, .slice r.2.1 r.2.2.1 r.2.2.2.1] false)) := (Mod.refl _ _).new _
    have w2 := q4.mod0 m2
    rw [w2.when 2000 id, Option.bind_some]
    simp only
    rw [aggK_all (n := 2) (get_new_self _ _) rfl]
    simp only [lc_cons, l0_nil, asInt_int, asSlice_slice]
    have hl := runT_len os (0, [])
    obtain ⟨r3, h3, e3, f3, m3⟩ := refWhen (nw := r.1) (Row.mod0 q3 m2) (by simp only [List.length_nil] at hl; omega) (n := 2000) (by simp only [List.length_nil] at hl; omega) id
    rw [e3, Option.bind_some]
    refine alive_ret _ (by omega) _ fun r2 h3 ⟨e, _⟩ => ?_
    rw [e, cond_true, q2, cond_true, f3, show ((whenT (lk (runT (0, []) os).2 id)).1 == (whenT (lk (runT (0, []) os).2 id)).1) = true by simp, cond_true]
    exact hk _ _ (by simp [True'])
  · rw [show decide ((os.length : Int) > 500) = true by simp; omega, outriderlaw09_WheelAsks_8_J0_eq, cond_true, eqVK_ptr Try.underlying24, Option.isNone_some, Bool.not_false, cond_true]
    exact alive_ret _ (by omega) _ fun r2 h3 ⟨e, _⟩ => hk _ _ e
end

end Go.Ev.Try
