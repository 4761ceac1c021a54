/- The given Go law WordsAgain returns true for every input, and its arguments read behind the call as they read before: 'Rows.WordsAgain..Said'. No condition. -/
import Derived.Test.YtkikfnpanlcajaaDoorWd14
import Derived.Test.YtkikfnpanlcajaaDoorRows
import Derived.Test.YtkikfnpanlcajaaDoorCards
import Derived.Test.YtkikfnpanlcajaaDoorTie
import Derived.Lay
import Derived.MakeChecks
import Derived.Handed
import Derived.SevenTiedAt
set_option linter.all false
namespace Go.Proofs.YtkikfnpanlcajaaDoor.wordsAgain
open Go.ChangeShapes Go.WideShapes Go.ChangeAt Go.RowKit
open Go.ChangeMaps (open_string shut_string)
open Go.Ev Go.Ev.Tryd

theorem own : ownKnob Tryd.prog.godebug = none := by kernel_rfl
theorem laidOut : laidOutB Tryd.prog = true := by kernel_rfl


set_option maxRecDepth 100000 in
theorem lifted (os : Os) (started : os.Started) (H : Type) (enc : TypeId × Value → H) :
    ReturnsInHanded {} Tryd.checked os 3 .any (fun w args => (Rows.wordsAgainSpec.pre enc Tryd.prog Tryd.f3 Rows.wordsAgainRow.domain false w args ∧ laidMetH Tryd.prog Rows.wordsAgainRow.laid w) ∧ sizedMet enc Tryd.prog Tryd.f3 (OpenSpec.ofChange Rows.wordsAgainSpec) false w args) (Rows.wordsAgainSpec.post enc Tryd.prog Tryd.f3 false true false false) := by
  refine returnsInHanded_of_change_and (C := Tryd.checked) (X := fun w _ => laidMetH Tryd.prog Rows.wordsAgainRow.laid w) (fun _ _ _ hh h => h.of_heap hh) own started (by kernel_rfl) Tryd.func3
    (ChangeSpec.witness_shaped (enc := enc) (C := Tryd.checked) (os := os) (X := fun w _ => laidMetH Tryd.prog Rows.wordsAgainRow.laid w) false (World.laidAll Tryd.prog os Rows.wordsAgainRow.laid) #[.string ByteArray.empty] 8 (World.laidAll_os _ _ _)
      (World.shaped_of_ZipB (by kernel_rfl) (by kernel_rfl)) (by kernel_rfl) (by kernel_rfl) (by kernel_rfl)
      (by rw [MakeChecks.laidMetH_plain _ _ _ (by kernel_rfl)]; exact laidMet_laidAll _ (by kernel_rfl) (by kernel_rfl))) ?_
  intro W base args ds gs before hval0 hW hcnd hsz _ _
  have hval : ∀ (j : Nat) t v, Tryd.f3.params[j]? = some t → args[j]? = some v → Value.okWide Tryd.prog W .any base t v := hval0
  have hW' := hW
  obtain ⟨p, q, hA0, hV, rfl, hfz, hnd⟩ := hW
  have hA : DataW.TrodAll enc Tryd.prog W 0 (fun _ => true) true Tryd.f3.params.toList args.toList ds p := hA0
  have hAk := hA
  rw [Tryd.params3] at hA hval
  obtain ⟨v0, vs0, d0, ds0, p0, q0, hargs, rfl, rfl, h0, r0⟩ := trodAll_cons hA
  obtain ⟨rfl, rfl, rfl⟩ := trodAll_nil r0
  obtain rfl : args = #[v0] := by cases args; simp_all
  obtain ⟨rfl, rfl⟩ := trodVars_none hV
  obtain ⟨a0, rfl, rfl, -, -⟩ := open_string Tryd.underlying9 (hval 0 9 v0 rfl rfl) h0
  have w0 : a0.size ≤ reachBytes := sized_string hsz (j := 0) (t := 9) (by kernel_rfl) rfl
  simp only [List.append_nil] at hW'
  obtain ⟨n, h', hlaw⟩ := wordsAgain_true w0
  refine (ACall.run_true (rows := []) (args := [.str a0]) (((outriderlaw17_WordsAgain_3_E n).sound _ _ _ _ (by show Option.bind _ _ = _; rw [hlaw]; rfl)).acall Tryd.func3 (by kernel_rfl)) (fun x hx t ht => by simp at hx) (.cons (.str _) VRL.nil)).mono fun e W' ⟨he, bel⟩ => ?_
  subst he
  exact ⟨_, rfl, _, _, _, [], _, [], hW', trodAll_mk1 (shut_bool Tryd.underlying4 _), trodAll_behind laidOut bel _ _ _ _ (by rw [Tryd.params3]; decide +kernel) hAk (fun x hx => by simpa using hW'.lt x (by simpa using hx)), rfl, bel.frame _, fun h => by cases h⟩

theorem over : Rows.wordsAgainRow.holds Tryd.pinned (OpenSpec.ofChange Rows.wordsAgainSpec) :=
  OpenClaim.holds_of_wide 3 Tryd.f3 rfl rfl rfl rfl rfl rfl rfl ⟨rfl, rfl, rfl, rfl, rfl⟩ rfl rfl rfl rfl rfl (by kernel_rfl) Tryd.func3 (by kernel_rfl)
    (of_decide_eq_true (by kernel_rfl)) (by unfold Func.isWrapper; first | (rw [if_pos (by decide +kernel)]; kernel_rfl) | (rw [if_neg (by decide +kernel)]; exact ⟨rfl, rfl⟩))
    (fun os started H enc _ => lifted os started H enc)

theorem proved : Rows.WordsAgainCardSaid :=
  Claim7.holds_tied_plain_at .later [] [.data, .pinned] true (true, "fb29d5e1b4e47381554a1b876515700a3210eaa8cde7814af465c542fe10e6d6") false over (fun _ h => by cases h) (by kernel_rfl) (fun _ h => by cases h) wordsAgain_row_tie rfl ⟨rfl, rfl⟩ (by kernel_rfl) rfl
    (fun f fn hf hfn => by
      obtain rfl : f = 3 := Option.some.inj ((show Tryd.prog.funcNamed "outrider/outriderlaw17.WordsAgain" = some 3 by kernel_rfl).symm.trans hf) |>.symm
      obtain rfl : fn = Tryd.f3 := (Option.some.inj (Tryd.func3.symm.trans hfn)).symm
      exact ⟨by kernel_rfl, fun j t ht => by
        rw [Tryd.params3] at ht
        have hm : t ∈ [9] := by simpa using Array.mem_of_getElem? ht
        have hall : ([9].all fun u => !Tryd.prog.wantsStandIn u) = true := by kernel_rfl
        exact (show Tryd.prog.wantsStandIn t = false by simpa using List.all_eq_true.1 hall t hm)⟩)
    (by kernel_rfl)

end Go.Proofs.YtkikfnpanlcajaaDoor.wordsAgain
