/- The given Go law FlowsAsks returns true for every input whose bulk (values and letters, each time they are reached) is at most 1048576, and its arguments read behind the call as they read before: 'Rows.FlowsAsksUptoSaid'. Condition: that bound on the input's bulk. -/
import Derived.Test.YtgaflglknjjalaaFw19
import Derived.Test.YtgaflglknjjalaaEvUp
import Derived.JoinedCond
import Derived.Test.YtgaflglknjjalaaRows
set_option linter.all false
namespace Go.Proofs.Ytgaflglknjjalaa.flowsAsks
open Go.ChangeShapes Go.WideShapes Go.ChangeAt Go.RowKit
open Go.ChangeMaps (open_string shut_string)
open Go.Ev Go.Ev.Try

theorem own : ownKnob Try.prog.godebug = none := by kernel_rfl
theorem laidOut : laidOutB Try.prog = true := by kernel_rfl

theorem part_le {H : Type} {d : DataW H} {l : List (DataW H)} (h : d ∈ l) : Rows.uptoBulk d ≤ Rows.uptoBulkAll l := by
  induction l with
  | nil => cases h
  | cons x r ih =>
    simp only [Rows.uptoBulkAll]
    cases List.mem_cons.1 h with
    | inl e => subst e; omega
    | inr e => have := ih e; omega
theorem one_le {H : Type} (d : DataW H) : 1 ≤ Rows.uptoBulk d := by
  cases d with
  | lit l => cases l <;> simp [Rows.uptoBulk]
  | nil => simp [Rows.uptoBulk]
  | ptr d => simp [Rows.uptoBulk]
  | slice elems spare => simp [Rows.uptoBulk]
  | agg parts => simp [Rows.uptoBulk]
  | iface t d => simp [Rows.uptoBulk]
  | map entries => simp [Rows.uptoBulk]
  | held h => simp [Rows.uptoBulk]
theorem many_le {H : Type} (l : List (DataW H)) : l.length ≤ Rows.uptoBulkAll l := by
  induction l with
  | nil => simp [Rows.uptoBulkAll]
  | cons x r ih => have := one_le x; simp only [Rows.uptoBulkAll, List.length_cons]; omega
theorem bulkOk {H : Type} : Bulk (Rows.uptoBulk (H := H)) where
  str l := by simp [Rows.uptoBulk]
  agg ds d h := by have := part_le h; simp only [Rows.uptoBulk]; omega
  el el sp d h := by have := part_le h; simp only [Rows.uptoBulk]; omega
  sp el sp d h := by have := part_le h; simp only [Rows.uptoBulk]; omega
theorem bulk_of {H : Type} {l r : List (DataW H)} (hk : Rows.uptoSmall H (l ++ r) = true) : ∀ d ∈ l, Rows.uptoBulk d ≤ 1048576 := fun d hd => Nat.le_trans (part_le (List.mem_append.2 (.inl hd))) (of_decide_eq_true hk)
theorem room_of {H : Type} {el sp : List (DataW H)} {d : DataW H} (hb : Rows.uptoBulk d ≤ 1048576) (hd : d = .slice el sp) {C : Nat} (hC : C ≤ 10000) : (el.length + sp.length) * C ≤ reachBytes := by
  subst hd
  have h1 := many_le el
  have h2 := many_le sp
  simp only [Rows.uptoBulk] at hb
  have h3 : (el.length + sp.length) * C ≤ 1048576 * 10000 := Nat.mul_le_mul (by omega) hC
  exact Nat.le_trans h3 (by decide)

def k0ks : List FK := [.int .u8, .int .u8, .int .u8, .int .u8, .int .u8, .int .u8, .int .u8, .int .u8, .int .u8, .int .u8, .int .u8, .int .u8, .int .u8, .int .u8, .int .u8, .int .u8]
def k1ks : List FK := [.int .i64, .int .i64, .int .i64, .int .i64, .str, .str, .int .i64, .int .i64, .int .i64, .int .i64, .int .i64]
def k2ks : List FK := [.int .i64, .str, .str, .int .i64, .int .i64]

set_option maxRecDepth 100000 in
theorem contract (H : Type) (enc : TypeId × Value → H) (W : World) (base : Nat) (args : Array Value) (ds gs : List (DataW H)) (before : List MemPlace)
    (hval0 : ∀ (j : Nat) t v, Try.f6.params[j]? = some t → args[j]? = some v → Value.okWide Try.prog W .any base t v)
    (hW : DataW.Whole enc Try.prog Try.f6.params.toList Rows.flowsAsksSpec.vars false W args.toList ds gs before) (hk : Rows.uptoSmall H (ds ++ gs) = true) :
    Calls Try.prog 6 args W fun e W' => ∃ v, e = .returned v ∧ Rows.flowsAsksSpec.post enc Try.prog Try.f6 false true false false W args v W' := by
  have hbk := bulk_of hk
  have hval : ∀ (j : Nat) t v, Try.f6.params[j]? = some t → args[j]? = some v → Value.okWide Try.prog W .any base t v := hval0
  have hW' := hW
  obtain ⟨p, q, hA0, hV, rfl, hfz, hnd⟩ := hW
  have hA : DataW.TrodAll enc Try.prog W 0 (fun _ => true) true Try.f6.params.toList args.toList ds p := hA0
  have hAk := hA
  rw [Try.params6] at hA hval
  obtain ⟨v0, vs0, d0, ds0, p0, q0, hargs, rfl, rfl, h0, r0⟩ := trodAll_cons hA
  obtain ⟨v1, vs1, d1, ds1, p1, q1, rfl, rfl, rfl, h1, r1⟩ := trodAll_cons r0
  obtain ⟨v2, vs2, d2, ds2, p2, q2, rfl, rfl, rfl, h2, r2⟩ := trodAll_cons r1
  obtain ⟨rfl, rfl, rfl⟩ := trodAll_nil r2
  obtain rfl : args = #[v0, v1, v2] := by cases args; simp_all
  obtain ⟨rfl, rfl⟩ := trodVars_none hV
  obtain ⟨c0, w0, k0⟩ : ∃ cs, (Fits k0ks cs ∧ Strs 1048576 cs) ∧ ∀ r : Ren, VR r (.agg cs) v0 := by
    obtain ⟨fuel, hf⟩ := h0
    exact open_aggB bulkOk (n := 8) (by kernel_rfl) (by obtain ⟨cs, h, _⟩ := hval 0 30 v0 rfl rfl; exact ⟨cs, h⟩) hf (hbk _ (by simp))
  obtain ⟨b1, len1, cap1, rfl⟩ := okWide_slice Try.underlying41 (hval 1 41 v1 rfl rfl)
  obtain ⟨p1x, l1, c1, tg1, cs1, w1, k1, y1⟩ : ∃ p len c tg cs, (Arg 0 k1ks 104 p len c cs ∧ Strs 1048576 cs) ∧ (∀ r : Ren, r 0 = tg → VR r (.slice p len c) (.slice b1 len1 cap1)) ∧ (∀ (r : Ren) (t : Tgt), tg = some t → RowOK r W t cs) := by
    obtain ⟨fuel, hf⟩ := h1
    exact open_sliceB bulkOk (n := 8) 0 Try.underlying41 (by kernel_rfl) (by kernel_rfl) (by decide) hf (hbk _ (by simp)) (fun el sp hd => room_of (hbk _ (by simp)) hd (by decide))
  obtain ⟨c2, w2, k2⟩ : ∃ cs, (Fits k2ks cs ∧ Strs 1048576 cs) ∧ ∀ r : Ren, VR r (.agg cs) v2 := by
    obtain ⟨fuel, hf⟩ := h2
    exact open_aggB bulkOk (n := 8) (by kernel_rfl) (by obtain ⟨cs, h, _⟩ := hval 2 24 v2 rfl rfl; exact ⟨cs, h⟩) hf (hbk _ (by simp))
  obtain ⟨w2, s2⟩ := w2
  obtain ⟨_, _, rfl, e2_0, z2_0⟩ := fits_cons w2
  obtain ⟨a2_0, rfl, f2_0⟩ := e2_0
  obtain ⟨_, _, rfl, e2_1, z2_1⟩ := fits_cons z2_0
  obtain ⟨a2_1, rfl, -⟩ := e2_1
  obtain ⟨_, _, rfl, e2_2, z2_2⟩ := fits_cons z2_1
  obtain ⟨a2_2, rfl, -⟩ := e2_2
  obtain ⟨_, _, rfl, e2_3, z2_3⟩ := fits_cons z2_2
  obtain ⟨a2_3, rfl, f2_3⟩ := e2_3
  obtain ⟨_, _, rfl, e2_4, z2_4⟩ := fits_cons z2_3
  obtain ⟨a2_4, rfl, f2_4⟩ := e2_4
  obtain rfl := fits_nil z2_4
  simp only [List.append_nil] at hW'
  obtain ⟨n, h', hlaw⟩ := flowsAsks_true w0 w1 f2_0 (s2 a2_1 (by simp)) (s2 a2_2 (by simp)) f2_3 f2_4
  refine (ACall.run_true (rows := [(tg1, cs1)]) (args := [.agg c0, .slice p1x l1 c1, .agg [.int .i64 a2_0, .str a2_1, .str a2_2, .int .i64 a2_3, .int .i64 a2_4]]) (((outriderlaw10_FlowsAsks_6_E n).sound _ _ _ _ (by show Option.bind _ _ = _; rw [hlaw]; rfl)).acall Try.func6 (by kernel_rfl)) (fun x hx t ht => by
    simp only [List.mem_cons, List.not_mem_nil, or_false] at hx
    subst hx
    exact y1 _ t ht) (.cons (k0 _) (.cons (k1 _ rfl) (.cons (k2 _) VRL.nil)))).mono fun e W' ⟨he, bel⟩ => ?_
  subst he
  exact ⟨_, rfl, _, _, _, [], _, [], hW', trodAll_mk1 (shut_bool Try.underlying4 _), trodAll_behind laidOut bel _ _ _ _ (by rw [Try.params6]; decide +kernel) hAk (fun x hx => by simpa using hW'.lt x (by simpa using hx)), rfl, bel.frame _, fun h => by cases h⟩

set_option maxRecDepth 100000 in
theorem lifted (os : Os) (started : os.Started) (H : Type) (enc : TypeId × Value → H) (F : Stop.Interp) :
    ReturnsInHanded {} Try.checked os 6 .any ((Rows.OpenSpec.upto Rows.flowsAsksSpec).pre6 enc Try.prog Try.f6 Rows.flowsAsksUptoRow.domain false) (((Rows.OpenSpec.upto Rows.flowsAsksSpec).at F).post enc Try.prog Try.f6 false true false false) := by
  refine returnsInHanded_of_cond (C := Try.checked) (s := Rows.OpenSpec.upto Rows.flowsAsksSpec) (k := Rows.uptoSmall) rfl own started (by kernel_rfl) Try.func6
    (OpenSpec.witness (enc := enc) (C := Try.checked) (s := Rows.OpenSpec.upto Rows.flowsAsksSpec) (k := Rows.uptoSmall) rfl false ⟨#[], #[.agg #[.int .u8 0, .int .u8 0, .int .u8 0, .int .u8 0, .int .u8 0, .int .u8 0, .int .u8 0, .int .u8 0, .int .u8 0, .int .u8 0, .int .u8 0, .int .u8 0, .int .u8 0, .int .u8 0, .int .u8 0, .int .u8 0], .slice none 0 0, .agg #[.int .i64 0, .string ByteArray.empty, .string ByteArray.empty, .int .i64 0, .int .i64 0]], []⟩ 8 (by kernel_rfl) (by kernel_rfl) (by kernel_rfl)
      (x := ([.agg [.lit (.int .u8 0), .lit (.int .u8 0), .lit (.int .u8 0), .lit (.int .u8 0), .lit (.int .u8 0), .lit (.int .u8 0), .lit (.int .u8 0), .lit (.int .u8 0), .lit (.int .u8 0), .lit (.int .u8 0), .lit (.int .u8 0), .lit (.int .u8 0), .lit (.int .u8 0), .lit (.int .u8 0), .lit (.int .u8 0), .lit (.int .u8 0)], .nil, .agg [.lit (.int .i64 0), .lit (.string []), .lit (.string []), .lit (.int .i64 0), .lit (.int .i64 0)]], [], [])) (by kernel_rfl) rfl (by kernel_rfl)) ?_
  intro W base args ds gs before hval hW _ hk _
  exact contract H enc W base args ds gs before hval hW hk

theorem proved : Rows.FlowsAsksUptoSaid :=
  OpenClaim.holds_of_cond 6 Try.f6 rfl rfl rfl rfl rfl rfl rfl ⟨rfl, rfl, rfl, rfl, rfl⟩ rfl rfl rfl rfl rfl (by kernel_rfl) Try.func6 (by kernel_rfl)
    (of_decide_eq_true (by kernel_rfl)) (by unfold Func.isWrapper; first | (rw [if_pos (by decide +kernel)]; kernel_rfl) | (rw [if_neg (by decide +kernel)]; exact ⟨rfl, rfl⟩))
    (fun os started H enc _ F => lifted os started H enc F)

end Go.Proofs.Ytgaflglknjjalaa.flowsAsks
