/- Chapter 10: FlowsSteps, FlowsAll, FlowsAsks are true. -/
import Derived.Test.YtgaflglknjjalaaFw16
import Derived.Test.YtgaflglknjjalaaEvUq
set_option linter.all false
namespace Go.Ev.Try
set_option maxRecDepth 10000
open Go.Proofs

abbrev ksO : List FK := [.int .i64, .int .i64, .int .i64, .int .i64, .str, .str, .int .i64, .int .i64, .int .i64, .int .i64, .int .i64]

theorem open_script {rows : Rows0} {i : Nat} {p : Option (Nat × Nat)} {l : Nat} {c : Cap} {tg : Option Tgt} {cs : List AV} (hi : rows[i]? = some (tg, cs)) (w : Arg i ksO 104 p l c cs ∧ Strs 1048576 cs) :
    ∃ os : List Opx, os.length = l ∧ ORow (H0 rows) p l c os ∧ ∀ o ∈ os, okO o := by
  obtain ⟨xs, h1, _, h3, h4⟩ := Row.of_argB (enc := encO) (P := okO) hi w encO_len fun vs hv hs => by
    obtain ⟨_, _, rfl, b0, hv0⟩ := fits_cons hv
    obtain ⟨_, _, rfl, b1, hv1⟩ := fits_cons hv0
    obtain ⟨_, _, rfl, b2, hv2⟩ := fits_cons hv1
    obtain ⟨_, _, rfl, b3, hv3⟩ := fits_cons hv2
    obtain ⟨_, _, rfl, b4, hv4⟩ := fits_cons hv3
    obtain ⟨_, _, rfl, b5, hv5⟩ := fits_cons hv4
    obtain ⟨_, _, rfl, b6, hv6⟩ := fits_cons hv5
    obtain ⟨_, _, rfl, b7, hv7⟩ := fits_cons hv6
    obtain ⟨_, _, rfl, b8, hv8⟩ := fits_cons hv7
    obtain ⟨_, _, rfl, b9, hv9⟩ := fits_cons hv8
    obtain ⟨_, _, rfl, b10, hv10⟩ := fits_cons hv9
    obtain rfl := fits_nil hv10
    obtain ⟨a0, rfl, _⟩ := b0
    obtain ⟨a1, rfl, _⟩ := b1
    obtain ⟨a2, rfl, _⟩ := b2
    obtain ⟨a3, rfl, _⟩ := b3
    obtain ⟨a4, rfl, _⟩ := b4
    obtain ⟨a5, rfl, _⟩ := b5
    obtain ⟨a6, rfl, _⟩ := b6
    obtain ⟨a7, rfl, _⟩ := b7
    obtain ⟨a8, rfl, _⟩ := b8
    obtain ⟨a9, rfl, _⟩ := b9
    obtain ⟨a10, rfl, _⟩ := b10
    exact ⟨⟨a0, a1, a2, ⟨⟨a3, a4, a5, a6, a7⟩, a8, a9, a10⟩⟩, rfl, hs a4 (by simp), hs a5 (by simp)⟩
  exact ⟨xs, h1, h3, h4⟩

theorem FlowsSteps_ret (h : H) (a0 a1 : Int) (f : Fl) (hf : okF f) {n : Nat} (hn : 10000000 ≤ n) : Ret (outriderlaw10_FlowsSteps_3 n a0 a1 f.pr f.fr f.to f.po f.de h) True' := by
  rw [outriderlaw10_FlowsSteps_3_eq]
  refine newK_ret fun i1 h1 g1 e1 n1 m1 => ?_
  have g1' : At h1 i1 (.cells (encF f) false) := g1
  refine (alive_ret h1 hn).bind fun z h2 ⟨z1, m2⟩ => ?_
  subst z1
  dsimp only
  rw [cond_true, Step_eq, Option.bind_some, refStep_eq, Option.bind_some]
  dsimp only
  rw [show (stepI a0 a1 == stepI a0 a1) = true by simp, cond_true, Life_eq, Option.bind_some]
  refine (refLife_ret a0 n h2).bind fun y h3 ⟨y1, m3⟩ => ?_
  subst y1
  dsimp only
  have hk : Bytes (7 :: List.replicate 15 0) := fun x hx => by
    rcases List.mem_cons.1 hx with rfl | hx
    · exact ⟨by decide, by decide⟩
    · rw [List.eq_of_mem_replicate hx]; exact ⟨by decide, by decide⟩
  have g3 := (g1'.mod0 m2).mod0 m3
  rw [show (lifeI a0 == lifeI a0) = true by simp, cond_true, g3.all (encF_len f), rdF]
  refine (Hash_ret h3 hk (by simp) f hf hn).bind fun x h4 ⟨x1, m4⟩ => ?_
  dsimp only
  rw [minus_quiet m4, minus_none, (g3.mod0 m4).all (encF_len f), rdF]
  refine (refHash_ret h4 hk (by simp) f hf hn).bind fun w h5 ⟨w1, m5⟩ => ?_
  subst x1
  subst w1
  refine .pure ?_
  show (_ == _) = true
  simp

theorem flowsSteps_true {a0 a1 pr po de : Int} {fr to : ByteArray} (_ : (Lit.int .i64 a0).wf = true) (_ : (Lit.int .i64 a1).wf = true) (_ : (Lit.int .i64 pr).wf = true) (h1 : fr.size ≤ 1048576) (h2 : to.size ≤ 1048576) (_ : (Lit.int .i64 po).wf = true) (_ : (Lit.int .i64 de).wf = true) :
    ∃ n h', outriderlaw10_FlowsSteps_3 n a0 a1 pr fr to po de (H0 []) = some (true, h') := by
  obtain ⟨h', e⟩ := (FlowsSteps_ret (H0 []) a0 a1 ⟨pr, fr, to, po, de⟩ ⟨h1, h2⟩ (n := 10000000) (by omega)).true
  exact ⟨_, h', e⟩

/-- a table is made of the key, and a script that is not too long is begun -/
theorem begin_ret {α : Type} {h : H} {key : List Int} (hk : Bytes key) (hk2 : key.length = 16) {n : Nat} {f : Option (Nat × Nat) × H → Option (α × H)} {Q : α → H → Prop} (k : ∀ b h', h.next ≤ b → Tab h' b key [] → Mod [] h h' → Ret (f (some (b, 0), h')) Q) :
    Ret (newK (.cells (u8s key) false) h fun i1 h2 => aggK h2 i1 0 16 fun l3 => (flows_New_17 n l3 h2).bind f) Q := by
  refine newK_ret fun i1 h1 g1 e1 n1 m1 => ?_
  rw [g1.all (by simp [hk2])]
  refine (New_ret h1 hk hk2 n).bind fun z h2 ⟨b, z1, z2, t, m2⟩ => ?_
  subst z1
  exact k b h2 (by have := m1.next; omega) t (m1.trans m2)

theorem alive_end {h : H} {n : Nat} (hn : 10000000 ≤ n) : Ret ((outriderlaw10_alive_10 n h).bind fun r7 => some (r7.1, r7.2)) True' := (alive_ret h hn).bind fun z h' ⟨z1, _⟩ => .pure z1

end Go.Ev.Try
