/- The given Go law WordsWrites returns true for every input, and its arguments read behind the call as they read before: 'Rows.WordsWrites..Said'. No condition. -/
import Derived.Test.YtkikfnpanlcajaaDoorWr12
import Derived.LaidLaws
import Derived.Test.YtkikfnpanlcajaaDoorRows
import Derived.Test.YtkikfnpanlcajaaDoorCards
import Derived.Test.YtkikfnpanlcajaaDoorTie
import Derived.Lay
import Derived.MakeChecks
import Derived.Handed
import Derived.SevenTiedAt
set_option linter.all false
namespace Go.Proofs.YtkikfnpanlcajaaDoor.wordsWrites
open Go.ChangeShapes Go.WideShapes Go.ChangeAt Go.RowKit
open Go.ChangeMaps (open_string shut_string)
open Go.Ev Go.Ev.Tryd

theorem own : ownKnob Tryd.prog.godebug = none := by kernel_rfl
theorem laidOut : laidOutB Tryd.prog = true := by kernel_rfl

theorem tz_eq : (Rows.laid_math_bits_deBruijn64tab : DataW Unit) = Lib.tabData .u8 tzs := by kernel_rfl
theorem pow_eq : (Rows.laid_internal_strconv_uint64pow10 : DataW Unit) = Lib.tabData .u64 Lib.pow10Tab := by kernel_rfl
theorem laid_tail {P : Program} {x : String × DataW Unit} {l : List (String × DataW Unit)} {W : World} (h : laidMet P (x :: l) W) : laidMet P l W := by
  obtain ⟨ps, ⟨g', t', cs, fuel, p, q, hg', ht', hvar, hd, hq, hps⟩, hnd, hc⟩ := h
  subst hps
  exact ⟨q, hq, (List.nodup_append.1 hnd).2.1, fun b off hm => hc b off (List.mem_append.2 (.inr hm))⟩
theorem gl_objs : GL (rR (objs0 (some ⟨0, 0, 20⟩) (some ⟨3, 0, 64⟩))) := by
  intro g i h
  have e : glFind glTab g = (match Nat.beq 0 g with | true => some 0 | false => (match Nat.beq 3 g with | true => some 1 | false => none)) := rfl
  rw [e] at h
  split at h
  · rename_i hb
    cases h
    obtain rfl := Nat.eq_of_beq_eq_true hb
    exact ⟨20, rfl⟩
  · split at h
    · rename_i hb
      cases h
      obtain rfl := Nat.eq_of_beq_eq_true hb
      exact ⟨64, rfl⟩
    · cases h
def k1ks : List FK := [.int .u8, .int .u8, .int .u8, .int .u8, .int .u8, .int .u8]

set_option maxRecDepth 100000 in
theorem lifted (os : Os) (started : os.Started) (H : Type) (enc : TypeId × Value → H) :
    ReturnsInHanded {} Tryd.checked os 7 .any (fun w args => (Rows.wordsWritesSpec.pre enc Tryd.prog Tryd.f7 Rows.wordsWritesRow.domain false w args ∧ laidMetH Tryd.prog Rows.wordsWritesRow.laid w) ∧ sizedMet enc Tryd.prog Tryd.f7 (OpenSpec.ofChange Rows.wordsWritesSpec) false w args) (Rows.wordsWritesSpec.post enc Tryd.prog Tryd.f7 false true false false) := by
  refine returnsInHanded_of_change_and (C := Tryd.checked) (X := fun w _ => laidMetH Tryd.prog Rows.wordsWritesRow.laid w) (fun _ _ _ hh h => h.of_heap hh) own started (by kernel_rfl) Tryd.func7
    (ChangeSpec.witness_shaped (enc := enc) (C := Tryd.checked) (os := os) (X := fun w _ => laidMetH Tryd.prog Rows.wordsWritesRow.laid w) false (World.laidAll Tryd.prog os Rows.wordsWritesRow.laid) #[.string ByteArray.empty, .agg #[.int .u8 0, .int .u8 0, .int .u8 0, .int .u8 0, .int .u8 0, .int .u8 0]] 8 (World.laidAll_os _ _ _)
      (World.shaped_of_ZipB (by kernel_rfl) (by kernel_rfl)) (by kernel_rfl) (by kernel_rfl) (by kernel_rfl)
      (by rw [MakeChecks.laidMetH_plain _ _ _ (by kernel_rfl)]; exact laidMet_laidAll _ (by kernel_rfl) (by kernel_rfl))) ?_
  intro W base args ds gs before hval0 hW hcnd hsz hL _
  have hval : ∀ (j : Nat) t v, Tryd.f7.params[j]? = some t → args[j]? = some v → Value.okWide Tryd.prog W .any base t v := hval0
  have hW' := hW
  obtain ⟨p, q, hA0, hV, rfl, hfz, hnd⟩ := hW
  have hA : DataW.TrodAll enc Tryd.prog W 0 (fun _ => true) true Tryd.f7.params.toList args.toList ds p := hA0
  have hAk := hA
  rw [Tryd.params7] at hA hval
  obtain ⟨v0, vs0, d0, ds0, p0, q0, hargs, rfl, rfl, h0, r0⟩ := trodAll_cons hA
  obtain ⟨v1, vs1, d1, ds1, p1, q1, rfl, rfl, rfl, h1, r1⟩ := trodAll_cons r0
  obtain ⟨rfl, rfl, rfl⟩ := trodAll_nil r1
  obtain rfl : args = #[v0, v1] := by cases args; simp_all
  obtain ⟨rfl, rfl⟩ := trodVars_none hV
  obtain ⟨a0, rfl, rfl, -, -⟩ := open_string Tryd.underlying35 (hval 0 35 v0 rfl rfl) h0
  have w0 : a0.size ≤ reachBytes := sized_string hsz (j := 0) (t := 35) (by kernel_rfl) rfl
  obtain ⟨c1, w1, k1⟩ : ∃ cs, Fits k1ks cs ∧ ∀ r : Ren, VR r (.agg cs) v1 := by
    obtain ⟨fuel, hf⟩ := h1
    exact open_agg (n := 8) (by kernel_rfl) (by obtain ⟨cs, h, _⟩ := hval 1 39 v1 rfl rfl; exact ⟨cs, h⟩) hf
  simp only [List.append_nil] at hW'
  have hL' : laidMet Tryd.prog Rows.wordsWritesRow.laid W := by rwa [MakeChecks.laidMetH_plain _ _ _ (by kernel_rfl)] at hL
  have t1 : Lib.TabIs Tryd.prog W "math/bits.deBruijn64tab" .u8 tzs := by
    refine Lib.tabIs_of_head (g := 3) (t := 95) (e := 5) (n := 64) (by kernel_rfl) (by kernel_rfl) (by kernel_rfl) (by kernel_rfl) (by kernel_rfl) (by kernel_rfl) (rest := [("internal/strconv.uint64pow10", Rows.laid_internal_strconv_uint64pow10), ("unicode/utf8.acceptRanges", Rows.laid_unicode_utf8_acceptRanges), ("unicode/utf8.first", Rows.laid_unicode_utf8_first)]) ?_
    rw [← tz_eq]
    exact laid_tail hL'
  have t2 : Lib.TabIs Tryd.prog W "internal/strconv.uint64pow10" .u64 Lib.pow10Tab := by
    refine Lib.tabIs_of_head (g := 0) (t := 86) (e := 74) (n := 20) (by kernel_rfl) (by kernel_rfl) (by kernel_rfl) (by kernel_rfl) (by kernel_rfl) (by kernel_rfl) (rest := [("unicode/utf8.acceptRanges", Rows.laid_unicode_utf8_acceptRanges), ("unicode/utf8.first", Rows.laid_unicode_utf8_first)]) ?_
    rw [← pow_eq]
    exact laid_tail (laid_tail hL')
  obtain ⟨m, rfl, hm6, hmb⟩ := fits_ints (n := 6) (k := .u8) w1
  obtain ⟨h', hlaw⟩ := wordsWrites_true (t0 := some ⟨0, 0, 20⟩) (t1 := some ⟨3, 0, 64⟩) (s := a0) hm6 (fun x hx => by have := hmb x hx; simp [Lit.wf, IntKind.min, IntKind.max, IntKind.signed, IntKind.bits] at this; omega)
  refine (ACall.run_trueR (objs := objs0 (some ⟨0, 0, 20⟩) (some ⟨3, 0, 64⟩)) (args := [.str a0, .agg (m.map (.int .u8))]) ((ca_sound 9000 _ _ _ _ _ hlaw).acall Tryd.func7 (by kernel_rfl)) (fun x hx t ht => by
    simp only [objs0, List.mem_cons, List.not_mem_nil, or_false] at hx
    rcases hx with rfl | rfl
    · cases ht; exact tab_OR t2 (by kernel_rfl) _ _
    · cases ht; exact row_OR t1 (by kernel_rfl) _) (fun x hx => by
    simp only [objs0, List.mem_cons, List.not_mem_nil, or_false] at hx
    rcases hx with rfl | rfl <;> rfl) gl_objs (.cons (.str _) (.cons (k1 _) VRL.nil))).mono fun e W' ⟨he, bel⟩ => ?_
  subst he
  exact ⟨_, rfl, _, _, _, [], _, [], hW', trodAll_mk1 (shut_bool Tryd.underlying4 _), trodAll_behind laidOut bel _ _ _ _ (by rw [Tryd.params7]; decide +kernel) hAk (fun x hx => by simpa using hW'.lt x (by simpa using hx)), rfl, bel.frame _, fun h => by cases h⟩

theorem over : Rows.wordsWritesRow.holds Tryd.pinned (OpenSpec.ofChange Rows.wordsWritesSpec) :=
  OpenClaim.holds_of_wide 7 Tryd.f7 rfl rfl rfl rfl rfl rfl rfl ⟨rfl, rfl, rfl, rfl, rfl⟩ rfl rfl rfl rfl rfl (by kernel_rfl) Tryd.func7 (by kernel_rfl)
    (of_decide_eq_true (by kernel_rfl)) (by unfold Func.isWrapper; first | (rw [if_pos (by decide +kernel)]; kernel_rfl) | (rw [if_neg (by decide +kernel)]; exact ⟨rfl, rfl⟩))
    (fun os started H enc _ => lifted os started H enc)

theorem proved : Rows.WordsWritesCardSaid :=
  Claim7.holds_tied_plain_at .later [] [.data, .data, .data, .data, .pinned] true (true, "fb29d5e1b4e47381554a1b876515700a3210eaa8cde7814af465c542fe10e6d6") false over (fun _ h => by cases h) (by kernel_rfl) (fun _ h => by cases h) wordsWrites_row_tie rfl ⟨rfl, rfl⟩ (by kernel_rfl) rfl
    (fun f fn hf hfn => by
      obtain rfl : f = 7 := Option.some.inj ((show Tryd.prog.funcNamed "outrider/outriderlaw17.WordsWrites" = some 7 by kernel_rfl).symm.trans hf) |>.symm
      obtain rfl : fn = Tryd.f7 := (Option.some.inj (Tryd.func7.symm.trans hfn)).symm
      exact ⟨by kernel_rfl, fun j t ht => by
        rw [Tryd.params7] at ht
        have hm : t ∈ [35, 39] := by simpa using Array.mem_of_getElem? ht
        have hall : ([35, 39].all fun u => !Tryd.prog.wantsStandIn u) = true := by kernel_rfl
        exact (show Tryd.prog.wantsStandIn t = false by simpa using List.all_eq_true.1 hall t hm)⟩)
    (by kernel_rfl)

end Go.Proofs.YtkikfnpanlcajaaDoor.wordsWrites
