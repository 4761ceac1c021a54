/- Chapter 10: FlowsSteps, FlowsAll, FlowsAsks are true. -/
import Derived.Test.YtgaflglknjjalaaFw16
import Derived.Test.YtgaflglknjjalaaEvUq
set_option linter.all false
namespace Go.Ev.Try
set_option maxRecDepth 10000
open Go.Proofs

abbrev ksO : List FK := [.int .i64, .int .i64, .int .i64, .int .i64, .str, .str, .int .i64, .int .i64, .int .i64, .int .i64, .int .i64]

theorem open_script {rows : Rows0} {i : Nat} {p : Option (Nat × Nat)} {l : Nat} {c : Cap} {tg : Option Tgt} {cs : List AV} (hi : rows[i]? = some (tg, cs)) (w : Arg i ksO 104 p l c cs ∧ Strs 1048576 cs) :
    ∃ os : List Opx, os.length = l ∧ ORow (H0 rows) p l c os ∧ ∀ o ∈ os, okO o := by
  obtain ⟨xs, h1, _, h3, h4⟩ := Row.of_argB (enc := encO) (P := okO) hi w encO_len fun vs hv hs => by
    obtain ⟨_, _, rfl, b0, hv0⟩ := fits_cons hv
    obtain ⟨_, _, rfl, b1, hv1⟩ := fits_cons hv0
    obtain ⟨_, _, rfl, b2, hv2⟩ := fits_cons hv1
    obtain ⟨_, _, rfl, b3, hv3⟩ := fits_cons hv2
    obtain ⟨_, _, rfl, b4, hv4⟩ := fits_cons hv3
    obtain ⟨_, _, rfl, b5, hv5⟩ := fits_cons hv4
    obtain ⟨_, _, rfl, b6, hv6⟩ := fits_cons hv5
    obtain ⟨_, _, rfl, b7, hv7⟩ := fits_cons hv6
    obtain ⟨_, _, rfl, b8, hv8⟩ := fits_cons hv7
    obtain ⟨_, _, rfl, b9, hv9⟩ := fits_cons hv8
    obtain ⟨_, _, rfl, b10, hv10⟩ := fits_cons hv9
    obtain rfl := fits_nil hv10
    obtain ⟨a0, rfl, _⟩ := b0
    obtain ⟨a1, rfl, _⟩ := b1
    obtain ⟨a2, rfl, _⟩ := b2
    obtain ⟨a3, rfl, _⟩ := b3
    obtain ⟨a4, rfl, _⟩ := b4
    obtain ⟨a5, rfl, _⟩ := b5
    obtain ⟨a6, rfl, _⟩ := b6
    obtain ⟨a7, rfl, _⟩ := b7
    obtain ⟨a8, rfl, _⟩ := b8
    obtain ⟨a9, rfl, _⟩ := b9
    obtain ⟨a10, rfl, _⟩ := b10
    exact ⟨⟨a0, a1, a2, ⟨⟨a3, a4, a5, a6, a7⟩, a8, a9, a10⟩⟩, rfl, hs a4 (by simp), hs a5 (by simp)⟩
  exact ⟨xs, h1, h3, h4⟩

/-- a table is made of the key, and a script that is not too long is begun -/
theorem begin_ret {α : Type} {h : H} {key : List Int} (hk : Bytes key) (hk2 : key.length = 16) {n : Nat} {f : Option (Nat × Nat) × H → Option (α × H)} {Q : α → H → Prop} (k : ∀ b h', h.next ≤ b → Tab h' b key [] → Mod [] h h' → Ret (f (some (b, 0), h')) Q) :
    Ret (newK (.cells (u8s key) false) h fun i1 h2 => aggK h2 i1 0 16 fun l3 => (flows_New_17 n l3 h2).bind f) Q := by
  refine newK_ret fun i1 h1 g1 e1 n1 m1 => ?_
  rw [g1.all (by simp [hk2])]
  refine (New_ret h1 hk hk2 n).bind fun z h2 ⟨b, z1, z2, t, m2⟩ => ?_
  subst z1
  exact k b h2 (by have := m1.next; omega) t (m1.trans m2)

theorem alive_end {h : H} {n : Nat} (hn : 10000000 ≤ n) : Ret ((outriderlaw10_alive_10 n h).bind fun r7 => some (r7.1, r7.2)) True' := (alive_ret h hn).bind fun z h' ⟨z1, _⟩ => .pure z1

theorem FlowsAll_ret {h : H} {key : List Int} (hk : Bytes key) (hk2 : key.length = 16) {p : Option (Nat × Nat)} {l : Nat} {c : Cap} {os : List Opx} (r : ORow h p l c os) (hl : os.length = l) (ho : ∀ o ∈ os, okO o) {n : Nat} (hn : 10000000 ≤ n) :
    Ret (outriderlaw10_FlowsAll_5 n (u8s key) p l c h) True' := by
  rw [outriderlaw10_FlowsAll_5_eq]
  refine begin_ret hk hk2 fun b h2 hb t m => ?_
  dsimp only
  rw [eqVK_ptr Try.underlying33, Option.isNone_some, cond_false, outriderlaw10_FlowsAll_5_J0_eq]
  by_cases hl6 : (l : Int) > 600
  · rw [decide_eq_true hl6, cond_true, eqVK_ptr Try.underlying33, Option.isNone_some, Bool.not_false, cond_true]
    exact alive_end hn
  · rw [decide_eq_false hl6, cond_false]
    refine (plays_ret (Row.mod0 r m) (by omega) (fun x hx => by have := Row.lt r x hx; omega) ho hn t).bind fun z h3 ⟨q, ql, qc, z1, q1, q2, q3, q4⟩ => ?_
    subst z1
    dsimp only
    refine (alive_ret h3 hn).bind fun z h4 ⟨z1, m4⟩ => ?_
    subst z1
    dsimp only
    rw [cond_true, cond_true]
    refine ((q3.mod0 m4).All (by omega)).bind fun y h5 ⟨y1, y2⟩ => ?_
    dsimp only
    have hy := Row.len y1.row encE_len (by omega)
    have := q3.len
    refine (plain_ret (l := run [] os) y1.row (by omega) hn).bind fun x h6 ⟨x1, x2⟩ => ?_
    dsimp only
    have hx := Row.len x1.row encE_len (by omega)
    rw [Same_eq (l := run [] os) (m := run [] os) x1.row (Row.mod0 q1 ((m4.trans y2).trans x2)) (by omega) hn, Option.bind_some]
    refine .pure ?_
    show decide _ = true
    simp

theorem flowsAll_true {rows : Rows0} {c0 cs : List AV} {p : Option (Nat × Nat)} {l : Nat} {c : Cap} {tg : Option Tgt} (w0 : Fits ks16 c0 ∧ Strs 1048576 c0) (w1 : Arg 0 ksO 104 p l c cs ∧ Strs 1048576 cs) :
    ∃ n h', outriderlaw10_FlowsAll_5 n c0 p l c (H0 ((tg, cs) :: rows)) = some (true, h') := by
  obtain ⟨key, rfl, hk2, hk⟩ := key_of w0.1
  obtain ⟨os, hl, r, ho⟩ := open_script (rows := (tg, cs) :: rows) rfl w1
  obtain ⟨h', e⟩ := (FlowsAll_ret hk hk2 r hl ho (n := 10000000) (by omega)).true
  exact ⟨_, h', e⟩

theorem FlowsAsks_ret {h : H} {key : List Int} (hk : Bytes key) (hk2 : key.length = 16) {p : Option (Nat × Nat)} {l : Nat} {c : Cap} {os : List Opx} (r : ORow h p l c os) (hl : os.length = l) (ho : ∀ o ∈ os, okO o) (f : Fl) (hf : okF f) {n : Nat} (hn : 10000000 ≤ n) :
    Ret (outriderlaw10_FlowsAsks_6 n (u8s key) p l c f.pr f.fr f.to f.po f.de h) True' := by
  rw [outriderlaw10_FlowsAsks_6_eq]
  refine newK_ret fun i1 h1 g1 e1 n1 m1 => ?_
  refine newK_ret fun i3 h3 g3 e3 n3 m3 => ?_
  have g3' : At h3 i3 (.cells (encF f) false) := g3
  rw [(g1.mod0 m3).all (by simp [hk2])]
  refine (New_ret h3 hk hk2 n).bind fun z h4 ⟨b, z1, z2, t, m4⟩ => ?_
  subst z1
  dsimp only
  have mm := (m1.trans m3).trans m4
  rw [eqVK_ptr Try.underlying33, Option.isNone_some, cond_false, outriderlaw10_FlowsAsks_6_J0_eq]
  by_cases hl6 : (l : Int) > 600
  · rw [decide_eq_true hl6, cond_true, eqVK_ptr Try.underlying33, Option.isNone_some, Bool.not_false, cond_true]
    exact alive_end hn
  · rw [decide_eq_false hl6, cond_false]
    refine (plays_ret (Row.mod0 r mm) (by omega) (fun x hx => by have := Row.lt r x hx; have := (m1.trans m3).next; omega) ho hn t).bind fun z h5 ⟨q, ql, qc, z1, q1, q2, q3, q4⟩ => ?_
    subst z1
    dsimp only
    have g5 := (g3'.mod0 m4).mod q4 (by simp; have := g3'.lt; omega)
    rw [nnK_some', g5.all (encF_len f), rdF]
    refine (q3.Get f hf hn).bind fun y h6 ⟨y1, y2⟩ => ?_
    subst y1
    dsimp only [tupE]
    refine boxK_ret rfl rfl rfl fun i30 h7 g7 e7 n7 m7 => ?_
    have g7' : At h7 i30 (.cells (encE ((getE (run [] os) f).getD z0)) false) := g7
    have k7 := y2.trans m7
    rw [nnK_some', (g5.mod0 k7).all (encF_len f), rdF]
    have hq := Row.len q1 encE_len (by omega)
    have := q3.len
    refine (refGet_ret (Row.mod0 q1 k7) (by omega) f hn).bind fun y h8 ⟨y1, y3⟩ => ?_
    subst y1
    dsimp only [tupE]
    refine boxK_ret rfl rfl rfl fun i52 h9 g9 e9 n9 m9 => ?_
    have g9' : At h9 i52 (.cells (encE ((getE (run [] os) f).getD z0)) false) := g9
    refine (alive_ret h9 hn).bind fun z h10 ⟨z1, m10⟩ => ?_
    subst z1
    dsimp only
    rw [cond_true, (((g7'.mod0 y3).mod0 m9).mod0 m10).all (encE_len _), rdE, (g9'.mod0 m10).all (encE_len _), rdE, eqE_dec, decide_eq_true rfl, cond_true]
    refine .pure ?_
    show (_ == _) = true
    simp

theorem flowsAsks_true {rows : Rows0} {c0 cs : List AV} {p : Option (Nat × Nat)} {l : Nat} {c : Cap} {tg : Option Tgt} {pr po de : Int} {fr to : ByteArray} (w0 : Fits ks16 c0 ∧ Strs 1048576 c0) (w1 : Arg 0 ksO 104 p l c cs ∧ Strs 1048576 cs)
    (_ : (Lit.int .i64 pr).wf = true) (h1 : fr.size ≤ 1048576) (h2 : to.size ≤ 1048576) (_ : (Lit.int .i64 po).wf = true) (_ : (Lit.int .i64 de).wf = true) :
    ∃ n h', outriderlaw10_FlowsAsks_6 n c0 p l c pr fr to po de (H0 ((tg, cs) :: rows)) = some (true, h') := by
  obtain ⟨key, rfl, hk2, hk⟩ := key_of w0.1
  obtain ⟨os, hl, r, ho⟩ := open_script (rows := (tg, cs) :: rows) rfl w1
  obtain ⟨h', e⟩ := (FlowsAsks_ret hk hk2 r hl ho ⟨pr, fr, to, po, de⟩ ⟨h1, h2⟩ (n := 10000000) (by omega)).true
  exact ⟨_, h', e⟩

end Go.Ev.Try
