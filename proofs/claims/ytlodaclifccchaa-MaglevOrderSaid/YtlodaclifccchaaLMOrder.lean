/- The given Go law MaglevOrder returns true for every input, and its arguments read behind the call as they read before: 'Rows.MaglevOrder..Said'. No condition. -/
import Derived.Test.YtlodaclifccchaaMg22
import Derived.Test.YtlodaclifccchaaRows
set_option linter.all false
namespace Go.Proofs.Ytlodaclifccchaa.maglevOrder
open Go.ChangeShapes Go.WideShapes Go.ChangeAt Go.RowKit
open Go.ChangeMaps (open_string shut_string)
open Go.Ev Go.Ev.Try

theorem own : ownKnob Try.prog.godebug = none := by kernel_rfl
theorem laidOut : laidOutB Try.prog = true := by kernel_rfl

def k0ks : List FK := [.int .u8, .int .u8, .int .u8, .int .u8, .int .u8, .int .u8, .int .u8, .int .u8, .int .u8, .int .u8, .int .u8, .int .u8, .int .u8, .int .u8, .int .u8, .int .u8]
def k1ks : List FK := [.str, .int .i64]
def k2ks : List FK := [.bool]

set_option maxRecDepth 100000 in
theorem lifted (os : Os) (started : os.Started) (H : Type) (enc : TypeId × Value → H) :
    ReturnsInHanded {} Try.checked os 9 .any (Rows.maglevOrderSpec.pre6 enc Try.prog Try.f9 Rows.maglevOrderRow.domain false) (Rows.maglevOrderSpec.post enc Try.prog Try.f9 false true false false) := by
  refine returnsInHanded_of_change_sized (C := Try.checked) own started (by kernel_rfl) Try.func9
    (ChangeSpec.witness6 (enc := enc) (C := Try.checked) false ⟨#[], #[.agg #[.int .u8 0, .int .u8 0, .int .u8 0, .int .u8 0, .int .u8 0, .int .u8 0, .int .u8 0, .int .u8 0, .int .u8 0, .int .u8 0, .int .u8 0, .int .u8 0, .int .u8 0, .int .u8 0, .int .u8 0, .int .u8 0], .slice none 0 0, .agg #[.int .u64 0, .slice none 0 0]], []⟩ 8 (by kernel_rfl) (by kernel_rfl) (by kernel_rfl) (by kernel_rfl)) ?_
  intro W base args ds gs before hval0 hW hcnd hsz _
  have hval : ∀ (j : Nat) t v, Try.f9.params[j]? = some t → args[j]? = some v → Value.okWide Try.prog W .any base t v := hval0
  have hW' := hW
  obtain ⟨p, q, hA0, hV, rfl, hfz, hnd⟩ := hW
  have hA : DataW.TrodAll enc Try.prog W 0 (fun _ => true) true Try.f9.params.toList args.toList ds p := hA0
  have hAk := hA
  rw [Try.params9] at hA hval
  obtain ⟨v0, vs0, d0, ds0, p0, q0, hargs, rfl, rfl, h0, r0⟩ := trodAll_cons hA
  obtain ⟨v1, vs1, d1, ds1, p1, q1, rfl, rfl, rfl, h1, r1⟩ := trodAll_cons r0
  obtain ⟨v2, vs2, d2, ds2, p2, q2, rfl, rfl, rfl, h2, r2⟩ := trodAll_cons r1
  obtain ⟨rfl, rfl, rfl⟩ := trodAll_nil r2
  obtain rfl : args = #[v0, v1, v2] := by cases args; simp_all
  obtain ⟨rfl, rfl⟩ := trodVars_none hV
  obtain ⟨c0, w0, k0⟩ : ∃ cs, Fits k0ks cs ∧ ∀ r : Ren, VR r (.agg cs) v0 := by
    obtain ⟨fuel, hf⟩ := h0
    exact open_agg (n := 8) (by kernel_rfl) (by obtain ⟨cs, h, _⟩ := hval 0 22 v0 rfl rfl; exact ⟨cs, h⟩) hf
  obtain ⟨b1, len1, cap1, rfl⟩ := okWide_slice Try.underlying23 (hval 1 23 v1 rfl rfl)
  obtain ⟨p1x, l1, c1, tg1, cs1, w1, k1, y1⟩ : ∃ p len c tg cs, Arg 0 k1ks 24 p len c cs ∧ (∀ r : Ren, r 0 = tg → VR r (.slice p len c) (.slice b1 len1 cap1)) ∧ (∀ (r : Ren) (t : Tgt), tg = some t → RowOK r W t cs) := by
    obtain ⟨fuel, hf⟩ := h1
    exact open_slice (n := 8) 0 Try.underlying23 (by kernel_rfl) (by kernel_rfl) (by decide) hf (fun el sp hd => by
      have := sized_slice hsz (j := 1) (t := 23) (by kernel_rfl) (by rw [← hd]; rfl) Try.underlying23
      rwa [show Try.checked.prog.bytesOf 32 = 24 by kernel_rfl] at this)
  obtain ⟨a2, p2x, l2, c2, tg2, cs2, e2, w2, k2, y2⟩ : ∃ a p len c tg cs, (Lit.int .u64 a).wf = true ∧ Arg 1 k2ks 1 p len c cs ∧ (∀ r : Ren, r 1 = tg → VR r (.agg [.int .u64 a, .slice p len c]) v2) ∧ (∀ (r : Ren) (t : Tgt), tg = some t → RowOK r W t cs) := by
    obtain ⟨fuel, hf⟩ := h2
    exact open_pair (n := 8) 1 Try.underlying38 rfl rfl rfl rfl rfl Try.underlying35 (by kernel_rfl) Try.underlying36 (by kernel_rfl) (by kernel_rfl) (by kernel_rfl) (by kernel_rfl) (by decide) (by obtain ⟨cs, h, _⟩ := hval 2 38 v2 rfl rfl; exact ⟨cs, h⟩) hf (fun dd el sp hd => by
      have := sized_pair hsz (j := 2) (t := 38) (by kernel_rfl) (by rw [← hd]; rfl) Try.underlying38 rfl Try.underlying36
      rwa [show Try.checked.prog.bytesOf 4 = 1 by kernel_rfl] at this)
  simp only [List.append_nil] at hW'
  obtain ⟨n, h', hlaw⟩ := maglevOrder_true w0 w1 e2 w2
  refine (ACall.run_true (rows := [(tg1, cs1), (tg2, cs2)]) (args := [.agg c0, .slice p1x l1 c1, .agg [.int .u64 a2, .slice p2x l2 c2]]) (((outriderlaw08_MaglevOrder_9_E n).sound _ _ _ _ (by show Option.bind _ _ = _; rw [hlaw]; rfl)).acall Try.func9 (by kernel_rfl)) (fun x hx t ht => by
    simp only [List.mem_cons, List.not_mem_nil, or_false] at hx
    rcases hx with rfl | rfl
    · exact y1 _ t ht
    · exact y2 _ t ht) (.cons (k0 _) (.cons (k1 _ rfl) (.cons (k2 _ rfl) VRL.nil)))).mono fun e W' ⟨he, bel⟩ => ?_
  subst he
  exact ⟨_, rfl, _, _, _, [], _, [], hW', trodAll_mk1 (shut_bool Try.underlying4 _), trodAll_behind laidOut bel _ _ _ _ (by rw [Try.params9]; decide +kernel) hAk (fun x hx => by simpa using hW'.lt x (by simpa using hx)), rfl, bel.frame _, fun h => by cases h⟩

theorem over : Rows.maglevOrderRow.holds Try.pinned (OpenSpec.ofChange Rows.maglevOrderSpec) :=
  OpenClaim.holds_of_wide 9 Try.f9 rfl rfl rfl rfl rfl rfl rfl ⟨rfl, rfl, rfl, rfl, rfl⟩ rfl rfl rfl rfl rfl (by kernel_rfl) Try.func9 (by kernel_rfl)
    (of_decide_eq_true (by kernel_rfl)) (by unfold Func.isWrapper; first | (rw [if_pos (by decide +kernel)]; kernel_rfl) | (rw [if_neg (by decide +kernel)]; exact ⟨rfl, rfl⟩))
    (fun os started H enc _ => lifted os started H enc)

theorem proved : Rows.MaglevOrderSaid := over

end Go.Proofs.Ytlodaclifccchaa.maglevOrder
