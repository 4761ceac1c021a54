/- The abstract machine Ev, part V: more small laws: boxes, made rows, texts as lists of bytes. -/
import Derived.Test.YtkikfnpanlcajaaDoorEvX
import Derived.Laws.RangeString
set_option linter.all false
namespace Go.Ev

theorem set_new (h : H) (o o' : AObj) : (h.new o).set h.next o' = h.new o' := by
  simp only [H.new, H.set, H.mk.injEq, true_and]
  funext j
  split <;> rfl
theorem box_wr {β : Type} {h : H} {cs xs : List AV} {n : Nat} (hl : xs.length = n) (hc : cs.length = n) (ha : xs.all isCell = true) (f : H → Option β) : wrK (h.new (.cells cs false)) h.next 0 n xs f = f (h.new (.cells xs false)) := by
  rw [wrK_of (get_new_self _ _) hl (by omega) ha, spl_all _ _ (by omega), set_new]

theorem mkSlK_of {β : Type} {size bytes : Nat} {zs : List AV} {l : Nat} (h : H) (hl : l < 1000000) (hb : bytes ≤ 1000) (f : Nat → Nat → Nat → H → Option β) : mkSlK size bytes zs (l : Int) (l : Int) h f = f h.next l l (h.new (.cells (evTile (l * size) zs) false)) := by
  unfold mkSlK
  have hw : IntKind.i64.wrap (l : Int) = l := wrap_i64 (by omega) (by omega)
  have hm : (bytes : Int) * (l : Int) ≤ 2 ^ 48 := by
    have : bytes * l ≤ 1000 * 1000000 := Nat.mul_le_mul hb (by omega)
    have h2 : ((bytes * l : Nat) : Int) ≤ 1000000000 := by omega
    rw [← Int.natCast_mul]
    omega
  rw [hw, if_pos ⟨by omega, Int.le_refl _, by omega⟩, newK_eq]
  rfl
theorem evTile_one (n : Nat) (v : AV) : evTile n [v] = List.replicate n v := by
  apply List.ext_getElem?
  intro k
  unfold evTile
  rw [List.getElem?_map, List.getElem?_replicate]
  by_cases h : k < n
  · rw [List.getElem?_range h, if_pos h]; simp [Nat.mod_one]
  · rw [List.getElem?_eq_none (by simp; omega), if_neg h]; rfl


def True' (r : Bool) (_ : H) : Prop := r = true
theorem Ret.true {c : Option (Bool × H)} (h : Ret c True') : ∃ h', c = some (true, h') := by
  obtain ⟨r, h', e, hr⟩ := h
  subst hr
  exact ⟨h', e⟩

/-! ### texts as lists of bytes -/

def bs (s : ByteArray) : List UInt8 := s.data.toList
def mk (l : List UInt8) : ByteArray := ⟨l.toArray⟩
theorem mk_bs (s : ByteArray) : mk (bs s) = s := by cases s; simp [mk, bs]
theorem bs_mk (l : List UInt8) : bs (mk l) = l := by simp [mk, bs]
theorem bs_inj {a b : ByteArray} (h : bs a = bs b) : a = b := by rw [← mk_bs a, h, mk_bs]
theorem bs_len (s : ByteArray) : (bs s).length = s.size := rfl
theorem size_mk (l : List UInt8) : (mk l).size = l.length := rfl
theorem bs_extract (s : ByteArray) (a b : Nat) : bs (s.extract a b) = ((bs s).drop a).take (b - a) := by
  have := Lib.extract_toList s a b
  rw [bytes_toList] at this
  exact this
theorem bs_get {s : ByteArray} {i : Nat} (h : i < s.size) : (bs s)[i]? = some s[i] := by
  unfold bs
  rw [List.getElem?_eq_getElem (show i < s.data.toList.length from h)]
  rfl
theorem byteK_of {β : Type} {s : ByteArray} {i : Nat} {b : UInt8} (h : (bs s)[i]? = some b) (f : Int → Option β) : byteK s (i : Int) f = f b.toNat := by
  have hl : i < s.size := by have := (List.getElem?_eq_some_iff.1 h).1; rw [bs_len] at this; exact this
  rw [byteK_ex (by omega) (by simpa using hl)]
  rw [bs_get hl] at h
  cases h
  rfl
theorem bs_append (a b : ByteArray) : bs (a ++ b) = bs a ++ bs b := by simp [bs]

theorem decode_ge {s : ByteArray} {pos : Nat} (h : pos < s.size) (hb : 128 ≤ (s[pos]'h).toNat) : 128 ≤ (Utf8.decode s pos).1 := by
  have e : s.get! pos = s[pos] := by
    show s.data[pos]! = s.data[pos]
    exact getElem!_pos s.data pos h
  unfold Utf8.decode
  simp only [Nat.add_zero, e]
  rw [if_neg (by omega)]
  have hr : 128 ≤ Utf8.runeError := by decide
  split
  · split
    · assumption
    · exact hr
  · split
    · split
      · rename_i h; simp only [Bool.and_eq_true, decide_eq_true_eq] at h; have := h.1; simp only; omega
      · exact hr
    · split
      · split
        · rename_i h; simp only [Bool.and_eq_true, decide_eq_true_eq] at h; have := h.1; simp only; omega
        · exact hr
      · exact hr

end Go.Ev
