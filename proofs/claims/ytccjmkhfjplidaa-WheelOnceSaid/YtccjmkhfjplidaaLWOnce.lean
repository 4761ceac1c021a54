/- The given Go law WheelOnce returns true for every input, and its arguments read behind the call as they read before: 'Rows.WheelOnce..Said'. No condition. -/
import Derived.Test.YtccjmkhfjplidaaWhB
import Derived.Test.YtccjmkhfjplidaaRows
set_option linter.all false
namespace Go.Proofs.Ytccjmkhfjplidaa.wheelOnce
open Go.ChangeShapes Go.WideShapes Go.ChangeAt Go.RowKit
open Go.ChangeMaps (open_string shut_string)
open Go.Ev Go.Ev.Try

theorem own : ownKnob Try.prog.godebug = none := by kernel_rfl
theorem laidOut : laidOutB Try.prog = true := by kernel_rfl

def k0ks : List FK := [.int .i64, .int .i64, .int .i64]
def k2ks : List FK := [.int .i64]

set_option maxRecDepth 100000 in
theorem lifted (os : Os) (started : os.Started) (H : Type) (enc : TypeId × Value → H) :
    ReturnsInHanded {} Try.checked os 5 .any (Rows.wheelOnceSpec.pre6 enc Try.prog Try.f5 Rows.wheelOnceRow.domain false) (Rows.wheelOnceSpec.post enc Try.prog Try.f5 false true false false) := by
  refine returnsInHanded_of_change_sized (C := Try.checked) own started (by kernel_rfl) Try.func5
    (ChangeSpec.witness6 (enc := enc) (C := Try.checked) false ⟨#[], #[.slice none 0 0, .int .i64 0, .slice none 0 0], []⟩ 8 (by kernel_rfl) (by kernel_rfl) (by kernel_rfl) (by kernel_rfl)) ?_
  intro W base args ds gs before hval0 hW hcnd hsz _
  have hval : ∀ (j : Nat) t v, Try.f5.params[j]? = some t → args[j]? = some v → Value.okWide Try.prog W .any base t v := hval0
  have hW' := hW
  obtain ⟨p, q, hA0, hV, rfl, hfz, hnd⟩ := hW
  have hA : DataW.TrodAll enc Try.prog W 0 (fun _ => true) true Try.f5.params.toList args.toList ds p := hA0
  have hAk := hA
  rw [Try.params5] at hA hval
  obtain ⟨v0, vs0, d0, ds0, p0, q0, hargs, rfl, rfl, h0, r0⟩ := trodAll_cons hA
  obtain ⟨v1, vs1, d1, ds1, p1, q1, rfl, rfl, rfl, h1, r1⟩ := trodAll_cons r0
  obtain ⟨v2, vs2, d2, ds2, p2, q2, rfl, rfl, rfl, h2, r2⟩ := trodAll_cons r1
  obtain ⟨rfl, rfl, rfl⟩ := trodAll_nil r2
  obtain rfl : args = #[v0, v1, v2] := by cases args; simp_all
  obtain ⟨rfl, rfl⟩ := trodVars_none hV
  obtain ⟨b0, len0, cap0, rfl⟩ := okWide_slice Try.underlying22 (hval 0 22 v0 rfl rfl)
  obtain ⟨p0x, l0, c0, tg0, cs0, w0, k0, y0⟩ : ∃ p len c tg cs, Arg 0 k0ks 24 p len c cs ∧ (∀ r : Ren, r 0 = tg → VR r (.slice p len c) (.slice b0 len0 cap0)) ∧ (∀ (r : Ren) (t : Tgt), tg = some t → RowOK r W t cs) := by
    obtain ⟨fuel, hf⟩ := h0
    exact open_slice (n := 8) 0 Try.underlying22 (by kernel_rfl) (by kernel_rfl) (by decide) hf (fun el sp hd => by
      have := sized_slice hsz (j := 0) (t := 22) (by kernel_rfl) (by rw [← hd]; rfl) Try.underlying22
      rwa [show Try.checked.prog.bytesOf 28 = 24 by kernel_rfl] at this)
  obtain ⟨a1, rfl, -, -, w1⟩ := open_int Try.underlying3 (hval 1 3 v1 rfl rfl) h1
  obtain ⟨b2, len2, cap2, rfl⟩ := okWide_slice Try.underlying23 (hval 2 23 v2 rfl rfl)
  obtain ⟨p2x, l2, c2, tg2, cs2, w2, k2, y2⟩ : ∃ p len c tg cs, Arg 1 k2ks 8 p len c cs ∧ (∀ r : Ren, r 1 = tg → VR r (.slice p len c) (.slice b2 len2 cap2)) ∧ (∀ (r : Ren) (t : Tgt), tg = some t → RowOK r W t cs) := by
    obtain ⟨fuel, hf⟩ := h2
    exact open_slice (n := 8) 1 Try.underlying23 (by kernel_rfl) (by kernel_rfl) (by decide) hf (fun el sp hd => by
      have := sized_slice hsz (j := 2) (t := 23) (by kernel_rfl) (by rw [← hd]; rfl) Try.underlying23
      rwa [show Try.checked.prog.bytesOf 3 = 8 by kernel_rfl] at this)
  simp only [List.append_nil] at hW'
  obtain ⟨n, hlaw⟩ := wheelOnce_true w0 w1 w2
  refine (EntryR.run_true (outriderlaw09_WheelOnce_5_E n) (rows := [(tg0, cs0), (tg2, cs2)]) (args := [.slice p0x l0 c0, .int .i64 a1, .slice p2x l2 c2]) (by show outriderlaw09_WheelOnce_5 n p0x l0 c0 a1 p2x l2 c2 (H0 [(tg0, cs0), (tg2, cs2)]) _ = some (); exact hlaw _ fun r h' hr => by subst hr; rfl) (fun x hx t ht => by
    simp only [List.mem_cons, List.not_mem_nil, or_false] at hx
    rcases hx with rfl | rfl
    · exact y0 _ t ht
    · exact y2 _ t ht) (.cons (k0 _ rfl) (.cons (.int _ _) (.cons (k2 _ rfl) VRL.nil)))).mono fun e W' ⟨he, bel⟩ => ?_
  subst he
  exact ⟨_, rfl, _, _, _, [], _, [], hW', trodAll_mk1 (shut_bool Try.underlying4 _), trodAll_behind laidOut bel _ _ _ _ (by rw [Try.params5]; decide +kernel) hAk (fun x hx => by simpa using hW'.lt x (by simpa using hx)), rfl, bel.frame _, fun h => by cases h⟩

theorem over : Rows.wheelOnceRow.holds Try.pinned (OpenSpec.ofChange Rows.wheelOnceSpec) :=
  OpenClaim.holds_of_wide 5 Try.f5 rfl rfl rfl rfl rfl rfl rfl ⟨rfl, rfl, rfl, rfl, rfl⟩ rfl rfl rfl rfl rfl (by kernel_rfl) Try.func5 (by kernel_rfl)
    (of_decide_eq_true (by kernel_rfl)) (by unfold Func.isWrapper; first | (rw [if_pos (by decide +kernel)]; kernel_rfl) | (rw [if_neg (by decide +kernel)]; exact ⟨rfl, rfl⟩))
    (fun os started H enc _ => lifted os started H enc)

theorem proved : Rows.WheelOnceSaid := over

end Go.Proofs.Ytccjmkhfjplidaa.wheelOnce
