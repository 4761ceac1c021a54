/- The laws of chapter 07, in plain Lean: what the printed functions compute is true. -/
import Derived.Test.YtgaflglknjjalaaFw3
set_option linter.all false
namespace Go.Ev.Try
open Go.Proofs
set_option maxRecDepth 10000

theorem byte_wf {x : Int} (h : (Lit.int .u8 x).wf = true) : byte x := by
  simp [Lit.wf, IntKind.min, IntKind.max, IntKind.signed, IntKind.bits] at h
  exact ⟨h.1, by omega⟩

abbrev ks16 : List FK := [.int .u8, .int .u8, .int .u8, .int .u8, .int .u8, .int .u8, .int .u8, .int .u8, .int .u8, .int .u8, .int .u8, .int .u8, .int .u8, .int .u8, .int .u8, .int .u8]

theorem key_of {c : List AV} (h : Fits ks16 c) : ∃ key : List Int, c = u8s key ∧ key.length = 16 ∧ Bytes key := by
  obtain ⟨l, h1, h2, h3⟩ := fits_ints (n := 16) (k := .u8) h
  exact ⟨l, h1, h2, fun x hx => byte_wf (h3 x hx)⟩

theorem refsum_eq {h : H} (wf : h.WFx) {n : Nat} {key bs : List Int} (hk : Bytes key) (hk2 : key.length = 16) (hb : Bytes bs) {p : Option (Nat × Nat)} {len : Nat} {c : Cap} (hl : len = bs.length) (hs : Row h 1 p len c (u8s bs)) (hn : 100 + bs.length ≤ n) (hmax : bs.length < 4611686018427387904) :
    ∃ h', outriderref07_Sum_33 n (u8s key) p len c h = some (sum key bs, h') ∧ Quiet h h' ∧ h'.WFx := by
  subst hl
  rw [outriderref07_Sum_33_eq]
  simp only [newK_eq, next_new]
  have hg : (h.new (.cells (u8s key) false)).get h.next = some (.cells (u8s key) false) := get_new_self _ _
  have s1 : Row (h.new (.cells (u8s key) false)) 1 (some (h.next, 0)) 16 (.known 16) (u8s key) := .row (Nat.lt_succ_self _) hg (by rw [List.drop_zero, List.take_of_length_le (by simp [hk2])]) (by simp [hk2]) (.inr ⟨16, rfl, by decide⟩)
  have r1 := refnumber_eq hk hk2.symm (by omega) s1 (at_ := 0) (by omega) (n := n) (by omega)
  have r2 := refnumber_eq hk hk2.symm (by omega) s1 (at_ := 8) (by omega) (n := n) (by omega)
  simp only [Int.cast_ofNat_Int] at r1 r2
  rw [show outriderref07_number_51 n (some (h.next, 0)) 16 (.known 16) 0 _ = _ from r1]
  simp only [Option.bind_some]
  rw [show outriderref07_number_51 n (some (h.next, 0)) 16 (.known 16) 8 _ = _ from r2]
  simp only [Option.bind_some, next_new]
  rw [List.drop_zero, show (key.drop 8).take 8 = key.drop 8 from List.take_of_length_le (by simp [hk2])]
  have q1 : Quiet h (((h.new (.cells (u8s key) false)).new (.cells [.int .u64 0, .int .u64 0, .int .u64 0, .int .u64 0] false)).set (h.next + 1) (.cells (start key).cells false)) := (((Quiet.refl h).new _).new _).set (by omega) _
  have wf1 := WFx_put (WFx_make (WFx_make wf (.cells (u8s key) false)) (.cells [.int .u64 0, .int .u64 0, .int .u64 0, .int .u64 0] false)) (i := h.next + 1) (by simp) (.cells (start key).cells false)
  have g5 : ((h.new (.cells (u8s key) false)).new (.cells [.int .u64 0, .int .u64 0, .int .u64 0, .int .u64 0] false)).get (h.next + 1) = some (.cells [.int .u64 0, .int .u64 0, .int .u64 0, .int .u64 0] false) := get_new_self (h.new _) _
  rw [wrK_of (n := 4) g5 (by rfl) (by simp) (by rfl)]
  have hloop := refsum_loop wf (b := h.next + 1) (by omega) (n := n) (by omega) hb hmax hs (bs.length / 8) n 0 (start key) _ (by omega) (by omega) (by omega) (start_ok key) q1 wf1 (by simp) (get_set_self _ _ _)
  obtain ⟨h', e, q, wf'⟩ := hloop
  refine ⟨h', ?_, q, wf'⟩
  simp only [St.cells, start] at e
  simp only [sum, start]
  rw [List.drop_zero, Nat.zero_add] at e
  exact e

end Go.Ev.Try
