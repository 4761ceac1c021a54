/- The given Go law HealthBoards returns true for every input, and its arguments read behind the call as they read before: 'Rows.HealthBoards..Said'. No condition. -/
import Derived.Test.YtjbojcdmfkmkiaaHp9
import Derived.Test.YtjbojcdmfkmkiaaRows
set_option linter.all false
namespace Go.Proofs.Ytjbojcdmfkmkiaa.healthBoards
open Go.ChangeShapes Go.WideShapes Go.ChangeAt Go.RowKit
open Go.ChangeMaps (open_string shut_string)
open Go.Ev Go.Ev.Try

theorem own : ownKnob Try.prog.godebug = none := by kernel_rfl
theorem laidOut : laidOutB Try.prog = true := by kernel_rfl

def k0ks : List FK := [.int .i64, .int .i64, .int .i64]
def k2ks : List FK := [.int .i64, .int .i64, .bool]

set_option maxRecDepth 100000 in
theorem lifted (os : Os) (started : os.Started) (H : Type) (enc : TypeId × Value → H) :
    ReturnsInHanded {} Try.checked os 7 .any (Rows.healthBoardsSpec.pre6 enc Try.prog Try.f7 Rows.healthBoardsRow.domain false) (Rows.healthBoardsSpec.post enc Try.prog Try.f7 false true false false) := by
  refine returnsInHanded_of_change_sized (C := Try.checked) own started (by kernel_rfl) Try.func7
    (ChangeSpec.witness6 (enc := enc) (C := Try.checked) false ⟨#[], #[.agg #[.int .i64 0, .int .i64 0, .int .i64 0], .int .i64 0, .slice none 0 0], []⟩ 8 (by kernel_rfl) (by kernel_rfl) (by kernel_rfl) (by kernel_rfl)) ?_
  intro W base args ds gs before hval0 hW hcnd hsz _
  have hval : ∀ (j : Nat) t v, Try.f7.params[j]? = some t → args[j]? = some v → Value.okWide Try.prog W .any base t v := hval0
  have hW' := hW
  obtain ⟨p, q, hA0, hV, rfl, hfz, hnd⟩ := hW
  have hA : DataW.TrodAll enc Try.prog W 0 (fun _ => true) true Try.f7.params.toList args.toList ds p := hA0
  have hAk := hA
  rw [Try.params7] at hA hval
  obtain ⟨v0, vs0, d0, ds0, p0, q0, hargs, rfl, rfl, h0, r0⟩ := trodAll_cons hA
  obtain ⟨v1, vs1, d1, ds1, p1, q1, rfl, rfl, rfl, h1, r1⟩ := trodAll_cons r0
  obtain ⟨v2, vs2, d2, ds2, p2, q2, rfl, rfl, rfl, h2, r2⟩ := trodAll_cons r1
  obtain ⟨rfl, rfl, rfl⟩ := trodAll_nil r2
  obtain rfl : args = #[v0, v1, v2] := by cases args; simp_all
  obtain ⟨rfl, rfl⟩ := trodVars_none hV
  obtain ⟨c0, w0, k0⟩ : ∃ cs, Fits k0ks cs ∧ ∀ r : Ren, VR r (.agg cs) v0 := by
    obtain ⟨fuel, hf⟩ := h0
    exact open_agg (n := 8) (by kernel_rfl) (by obtain ⟨cs, h, _⟩ := hval 0 23 v0 rfl rfl; exact ⟨cs, h⟩) hf
  obtain ⟨_, _, rfl, e0_0, z0_0⟩ := fits_cons w0
  obtain ⟨a0_0, rfl, f0_0⟩ := e0_0
  obtain ⟨_, _, rfl, e0_1, z0_1⟩ := fits_cons z0_0
  obtain ⟨a0_1, rfl, f0_1⟩ := e0_1
  obtain ⟨_, _, rfl, e0_2, z0_2⟩ := fits_cons z0_1
  obtain ⟨a0_2, rfl, f0_2⟩ := e0_2
  obtain rfl := fits_nil z0_2
  obtain ⟨a1, rfl, -, -, w1⟩ := open_int Try.underlying3 (hval 1 3 v1 rfl rfl) h1
  obtain ⟨b2, len2, cap2, rfl⟩ := okWide_slice Try.underlying46 (hval 2 46 v2 rfl rfl)
  obtain ⟨p2x, l2, c2, tg2, cs2, w2, k2, y2⟩ : ∃ p len c tg cs, Arg 0 k2ks 24 p len c cs ∧ (∀ r : Ren, r 0 = tg → VR r (.slice p len c) (.slice b2 len2 cap2)) ∧ (∀ (r : Ren) (t : Tgt), tg = some t → RowOK r W t cs) := by
    obtain ⟨fuel, hf⟩ := h2
    exact open_slice (n := 8) 0 Try.underlying46 (by kernel_rfl) (by kernel_rfl) (by decide) hf (fun el sp hd => by
      have := sized_slice hsz (j := 2) (t := 46) (by kernel_rfl) (by rw [← hd]; rfl) Try.underlying46
      rwa [show Try.checked.prog.bytesOf 56 = 24 by kernel_rfl] at this)
  simp only [List.append_nil] at hW'
  obtain ⟨n, hlaw⟩ := healthBoards_true f0_0 f0_1 f0_2 w1 w2
  refine (EntryR.run_true (outriderlaw11_HealthBoards_7_E n) (rows := [(tg2, cs2)]) (args := [.agg [.int .i64 a0_0, .int .i64 a0_1, .int .i64 a0_2], .int .i64 a1, .slice p2x l2 c2]) (by show outriderlaw11_HealthBoards_7 n a0_0 a0_1 a0_2 a1 p2x l2 c2 (H0 [(tg2, cs2)]) _ = some (); exact hlaw _ fun r h' hr => by subst hr; rfl) (fun x hx t ht => by
    simp only [List.mem_cons, List.not_mem_nil, or_false] at hx
    subst hx
    exact y2 _ t ht) (.cons (k0 _) (.cons (.int _ _) (.cons (k2 _ rfl) VRL.nil)))).mono fun e W' ⟨he, bel⟩ => ?_
  subst he
  exact ⟨_, rfl, _, _, _, [], _, [], hW', trodAll_mk1 (shut_bool Try.underlying4 _), trodAll_behind laidOut bel _ _ _ _ (by rw [Try.params7]; decide +kernel) hAk (fun x hx => by simpa using hW'.lt x (by simpa using hx)), rfl, bel.frame _, fun h => by cases h⟩

theorem over : Rows.healthBoardsRow.holds Try.pinned (OpenSpec.ofChange Rows.healthBoardsSpec) :=
  OpenClaim.holds_of_wide 7 Try.f7 rfl rfl rfl rfl rfl rfl rfl ⟨rfl, rfl, rfl, rfl, rfl⟩ rfl rfl rfl rfl rfl (by kernel_rfl) Try.func7 (by kernel_rfl)
    (of_decide_eq_true (by kernel_rfl)) (by unfold Func.isWrapper; first | (rw [if_pos (by decide +kernel)]; kernel_rfl) | (rw [if_neg (by decide +kernel)]; exact ⟨rfl, rfl⟩))
    (fun os started H enc _ => lifted os started H enc)

theorem proved : Rows.HealthBoardsSaid := over

end Go.Proofs.Ytjbojcdmfkmkiaa.healthBoards
