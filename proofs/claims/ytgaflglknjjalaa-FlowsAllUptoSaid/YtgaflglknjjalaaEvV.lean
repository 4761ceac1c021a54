/- The abstract machine Ev, part V: more small laws: boxes, made rows, texts as lists of bytes. -/
import Derived.Test.YtgaflglknjjalaaEvX
import Derived.Laws.RangeString
set_option linter.all false
namespace Go.Ev

theorem set_new (h : H) (o o' : AObj) : (h.new o).set h.next o' = h.new o' := by
  simp only [H.new, H.set, H.mk.injEq, true_and]
  funext j
  split <;> rfl
theorem box_wr {β : Type} {h : H} {cs xs : List AV} {n : Nat} (hl : xs.length = n) (hc : cs.length = n) (ha : xs.all isCell = true) (f : H → Option β) : wrK (h.new (.cells cs false)) h.next 0 n xs f = f (h.new (.cells xs false)) := by
  rw [wrK_of (get_new_self _ _) hl (by omega) ha, spl_all _ _ (by omega), set_new]

def True' (r : Bool) (_ : H) : Prop := r = true
theorem Ret.true {c : Option (Bool × H)} (h : Ret c True') : ∃ h', c = some (true, h') := by
  obtain ⟨r, h', e, hr⟩ := h
  subst hr
  exact ⟨h', e⟩

/-! ### texts as lists of bytes -/

def bs (s : ByteArray) : List UInt8 := s.data.toList
def mk (l : List UInt8) : ByteArray := ⟨l.toArray⟩
end Go.Ev
