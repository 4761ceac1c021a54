/- Chapter 10: a flow's hash, the code's and the document's. -/
import Derived.Test.YtgaflglknjjalaaFw4
import Derived.Test.YtgaflglknjjalaaFwB
import Derived.Test.YtgaflglknjjalaaEvSl
import Derived.Test.YtgaflglknjjalaaEvBx
set_option linter.all false
namespace Go.Ev.Try
set_option maxRecDepth 10000
open Go.Proofs

/-- a text's bytes, as numbers -/
def nums (s : ByteArray) : List Int := s.data.toList.map fun c => (c.toNat : Int)
theorem nums_length (s : ByteArray) : (nums s).length = s.size := by simp [nums]
theorem nums_bytes (s : ByteArray) : Bytes (nums s) := by
  intro x hx
  simp only [nums, List.mem_map] at hx
  obtain ⟨c, _, rfl⟩ := hx
  have := c.toNat_lt
  exact ⟨by omega, by omega⟩
theorem nums_cells (s : ByteArray) : (s.data.toList.map fun c => AV.int .u8 c.toNat) = u8s (nums s) := by simp [nums, u8s]
theorem evSrc_str (s : ByteArray) (h : H) : evSrc 1 (.str s) h = some (s.size, u8s (nums s)) := by
  rw [← nums_cells]; rfl

def hiB (x : Int) : Int := IntKind.u8.wrap (ishr .i64 x 8)
def loB (x : Int) : Int := IntKind.u8.wrap x
theorem u8wrap (x : Int) : IntKind.u8.wrap x = x % 256 := by simp [IntKind.wrap, IntKind.bits, IntKind.signed]
theorem byte_wrap (x : Int) : byte (IntKind.u8.wrap x) := by rw [u8wrap]; unfold byte; omega
def bytesF (f : Fl) : List Int := [loB f.pr] ++ nums f.fr ++ [0] ++ nums f.to ++ [0] ++ [hiB f.po, loB f.po, hiB f.de, loB f.de]
def hashF (key : List Int) (f : Fl) : Int := sum key (bytesF f)
def okF (f : Fl) : Prop := f.fr.size ≤ 1048576 ∧ f.to.size ≤ 1048576
theorem bytesF_ok (f : Fl) : Bytes (bytesF f) := by
  intro x hx
  simp only [bytesF, List.mem_append, List.mem_cons, List.not_mem_nil, or_false] at hx
  rcases hx with ((((rfl | h) | rfl) | h) | rfl) | rfl | rfl | rfl | rfl
  · exact byte_wrap _
  · exact nums_bytes _ _ h
  · exact ⟨by decide, by decide⟩
  · exact nums_bytes _ _ h
  · exact ⟨by decide, by decide⟩
  · exact byte_wrap _
  · exact byte_wrap _
  · exact byte_wrap _
  · exact byte_wrap _
theorem bytesF_len (f : Fl) : (bytesF f).length = 1 + f.fr.size + 1 + f.to.size + 1 + 4 := by simp [bytesF, nums_length]; omega

theorem one_src (h : H) {b : Nat} {v : AV} (g : At h b (.cells [v] false)) : evSrc 1 (.slice (some (b, 0)) 1 (.known 1)) h = some (1, [v]) := by
  have r : Row h 1 (some (b, 0)) 1 (.known 1) [v] := g.row rfl (by simp) (.inr ⟨1, rfl, Nat.le_refl _⟩)
  exact r.src

theorem Hash_ret (h : H) {key : List Int} (hk : Bytes key) (hk2 : key.length = 16) (f : Fl) (hf : okF f) {n : Nat} (hn : 10000000 ≤ n) :
    Ret (flows_Hash_15 n (u8s key) f.pr f.fr f.to f.po f.de h) fun r h' => r = hashF key f ∧ Mod [] h h' := by
  obtain ⟨hf1, hf2⟩ := hf
  rw [flows_Hash_15_eq]
  refine newK_ret fun i1 h1 g1 e1 n1 m1 => ?_
  refine newK_ret fun i3 h3 g3 e3 n3 m3 => ?_
  rw [g3.cell (o := 0) rfl, asInt_int]
  refine newK_ret fun i7 h8 g7 e7 n7 m7 => ?_
  have g3a := g3.mod0 m7
  rw [g3a.cell (o := 1) rfl, asStr_str, evSrc_str]
  have gr0 : Grow h3 h8 1 (some (i7, 0)) 1 (.known 1) (u8s [loB f.pr]) := g7.grow (by omega) rfl (.inr rfl)
  have mh0 := m1.trans m3
  refine gr0.ret m7.next rfl (by rw [List.length_map, nums_length]; omega) (bytesF_cell _) (by omega) (by omega) (fun e => by
    have := nums_length f.fr; rw [e] at this; rw [List.eq_nil_of_length_eq_zero this]; rfl) fun p11 c13 h14 gr1 ma => ?_
  have k1 : Mod [] h3 h14 := m7.push gr0 ma
  refine newK_ret fun i15 h16 g15 e15 n15 m15 => ?_
  rw [one_src _ g15]
  have gr1' := gr1.mod0 m15
  have k2 := k1.trans m15
  refine gr1'.ret k2.next rfl rfl rfl (by omega) (by omega) (fun e => by cases e) fun p17 c19 h20 gr2 mb => ?_
  have k3 : Mod [] h3 h20 := k2.push gr1' mb
  have hne : ∀ {a b : H} {p : Option (Nat × Nat)} {len : Nat} {c : Cap} {vs : List AV}, Grow h3 b 1 p len c vs → i3 ∉ own p := fun g hm => by have := (g.own_ge _ hm).1; have := g3.lt; omega
  have q3 : h20.get i3 = h16.get i3 := mb.get _ (by have := k2.lt g3.lt; omega) (hne (a := h) gr1')
  rw [cellK_of (o := 2) (minus_of (g3.mod0 k3).get (not_addT (not_noT _) q3)) rfl, asStr_str, evSrc_str]
  refine gr2.ret k3.next rfl (by rw [List.length_map, nums_length]; omega) (bytesF_cell _) (by omega) (by omega) (fun e => by
    have := nums_length f.to; rw [e] at this; rw [List.eq_nil_of_length_eq_zero this]; rfl) fun p23 c25 h26 gr3 mc => ?_
  have k4 : Mod [] h3 h26 := k3.push gr2 mc
  refine newK_ret fun i27 h28 g27 e27 n27 m27 => ?_
  rw [one_src _ g27]
  have gr3' := gr3.mod0 m27
  have k5 := k4.trans m27
  refine gr3'.ret k5.next rfl rfl rfl (by omega) (by omega) (fun e => by cases e) fun p29 c31 h32 gr4 md => ?_
  have k6 : Mod [] h3 h32 := k5.push gr3' md
  have g3c := g3.mod0 k6
  rw [((g1.mod0 m3).mod0 k6).all (by simp [hk2]), g3c.cell (o := 3) rfl, asInt_int, g3c.cell (o := 3) rfl, asInt_int, g3c.cell (o := 4) rfl, asInt_int, g3c.cell (o := 4) rfl, asInt_int]
  refine newK_ret fun i42 h43 g42 e42 n42 m42 => ?_
  have r42 : Row h43 1 (some (i42, 0)) 4 (.known 4) (u8s [hiB f.po, loB f.po, hiB f.de, loB f.de]) := g42.row rfl (by simp) (.inr ⟨4, rfl, Nat.le_refl _⟩)
  rw [r42.src]
  have gr4' := gr4.mod0 m42
  have k7 := k6.trans m42
  refine gr4'.ret k7.next rfl rfl rfl (by omega) (by omega) (fun e => by cases e) fun p44 c46 h47 gr5 me => ?_
  have k8 : Mod [] h3 h47 := k7.push gr4' me
  have e5 : u8s [loB f.pr] ++ u8s (nums f.fr) ++ [AV.int .u8 0] ++ u8s (nums f.to) ++ [AV.int .u8 0] ++ u8s [hiB f.po, loB f.po, hiB f.de, loB f.de] = u8s (bytesF f) := by simp [bytesF]
  rw [e5] at gr5
  obtain ⟨h', es, q, _⟩ := sum_eq (h := h47) trivial hk hk2 (bytesF_ok f) (bytesF_len f).symm gr5.row (n := n) (by rw [bytesF_len]; omega) (by rw [bytesF_len]; omega)
  have l1 : i1 < h3.next := by omega
  rw [sameK_mod me (k7.lt l1) (fun hm => by have := (gr4'.own_ge _ hm).1; omega)]
  refine Ret.bind (P := fun r h' => r = hashF key f ∧ Mod [] h47 h') ⟨_, _, es, rfl, q.mod []⟩ fun r h'' ⟨e, m⟩ => ?_
  exact .pure ⟨e, (mh0.trans k8).trans m⟩

/-! ### the document's hash -/

end Go.Ev.Try
