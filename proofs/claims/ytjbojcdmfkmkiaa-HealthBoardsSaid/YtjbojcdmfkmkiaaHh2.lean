/- Chapter 09: how a wheel lies in memory; Now, Len, When, place. -/
import Derived.Test.YtjbojcdmfkmkiaaHh1
set_option linter.all false
namespace Go.Ev.Try
set_option maxRecDepth 10000

/-- a wheel at block b: the time, the maps of its slots (blocks sl), of those that are far (fm), of the times (tm) -/
structure WRep (h : H) (b : Nat) (now : Int) (sl : List Nat) (fm tm : Nat) (S : Nat → List (Int × Bool)) (F : List (Int × Bool)) (T : List (Int × Int)) : Prop where
  obj : h.get b = some (.cells (i64 now :: (sl.map (fun m => AV.map (some m)) ++ [.map (some fm), .map (some tm)])) false)
  len : sl.length = 256
  slots : ∀ k m, sl[k]? = some m → ∃ o, h.get m = some o ∧ MObj i64 AV.bool (S k) o
  far : ∃ o, h.get fm = some o ∧ MObj i64 AV.bool F o
  tim : ∃ o, h.get tm = some o ∧ MObj i64 i64 T o
  nodup : (b :: fm :: tm :: sl).Nodup
  lt : ∀ m ∈ b :: fm :: tm :: sl, m < h.next

section
variable {h : H} {b : Nat} {now : Int} {sl : List Nat} {fm tm : Nat} {S : Nat → List (Int × Bool)} {F : List (Int × Bool)} {T : List (Int × Int)}

theorem WRep.cell258 (w : WRep h b now sl fm tm S F T) : (i64 now :: (sl.map (fun m => AV.map (some m)) ++ [.map (some fm), .map (some tm)]))[258]? = some (.map (some tm)) := by
  rw [List.getElem?_cons_succ, List.getElem?_append_right (by simp [w.len])]
  simp [w.len]
theorem WRep.cell257 (w : WRep h b now sl fm tm S F T) : (i64 now :: (sl.map (fun m => AV.map (some m)) ++ [.map (some fm), .map (some tm)]))[257]? = some (.map (some fm)) := by
  rw [List.getElem?_cons_succ, List.getElem?_append_right (by simp [w.len])]
  simp [w.len]
theorem WRep.cellS (w : WRep h b now sl fm tm S F T) {k m : Nat} (hk : sl[k]? = some m) : (i64 now :: (sl.map (fun m => AV.map (some m)) ++ [.map (some fm), .map (some tm)]))[1 + k]? = some (.map (some m)) := by
  have hl := (List.getElem?_eq_some_iff.1 hk).1
  rw [Nat.add_comm, List.getElem?_cons_succ, List.getElem?_append_left (by simpa using hl), List.getElem?_map, hk]
  rfl

theorem WRep.mod {h' : H} (w : WRep h b now sl fm tm S F T) (m : Mod [] h h') : WRep h' b now sl fm tm S F T where
  obj := (m.get _ (w.lt _ (by simp)) (by simp)).trans w.obj
  len := w.len
  slots := fun k x hk => by
    obtain ⟨o, h1, h2⟩ := w.slots k x hk
    exact ⟨o, (m.get _ (w.lt _ (by simp [List.mem_of_getElem? hk])) (by simp)).trans h1, h2⟩
  far := by
    obtain ⟨o, h1, h2⟩ := w.far
    exact ⟨o, (m.get _ (w.lt _ (by simp)) (by simp)).trans h1, h2⟩
  tim := by
    obtain ⟨o, h1, h2⟩ := w.tim
    exact ⟨o, (m.get _ (w.lt _ (by simp)) (by simp)).trans h1, h2⟩
  nodup := w.nodup
  lt := fun x hx => m.lt (w.lt x hx)

/-- where a timer of a time lies -/
def placeOf (now : Int) (sl : List Nat) (fm : Nat) (at' : Int) : Nat := if at' > now ∧ at' < now + 256 then sl.getD (at' % 256).toNat 0 else fm

theorem place_eq (w : WRep h b now sl fm tm S F T) (h0 : 0 ≤ now) (h1 : now ≤ 1099511627776) {at' : Int} (ha : 0 ≤ at') (n : Nat) : wheel_Wheel_place_33 n (some (b, 0)) at' h = some (some (placeOf now sl fm at'), h) := by
  have far : wheel_Wheel_place_33_J0 n (some (b, 0)) at' false h = some (some fm, h) := by
    rw [wheel_Wheel_place_33_J0_eq, cond_false]
    simp only [nnK_some', Nat.zero_add]
    rw [cellK_of w.obj w.cell257, asMap_map]
  rw [wheel_Wheel_place_33_eq]
  simp only [nnK_some']
  rw [cellK_of w.obj rfl, asInt_int]
  unfold placeOf
  by_cases hg : at' > now
  · rw [decide_eq_true hg, cond_true, cellK_of w.obj rfl, asInt_int, wrap_i64 (by omega) (by omega)]
    by_cases hl : at' < now + 256
    · rw [decide_eq_true hl, wheel_Wheel_place_33_J0_eq, cond_true, if_pos ⟨hg, hl⟩]
      simp only [nnK_some']
      have ht : Int.tmod at' 256 = at' % 256 := Int.tmod_eq_emod_of_nonneg ha
      rw [ht, if_pos ⟨by omega, by omega⟩]
      have hk : (at' % 256).toNat < sl.length := by rw [w.len]; omega
      have hs : sl[(at' % 256).toNat]? = some sl[(at' % 256).toNat] := List.getElem?_eq_getElem hk
      rw [Nat.zero_add, cellK_of w.obj (w.cellS hs), asMap_map, List.getD_eq_getElem?_getD, hs]
      rfl
    · rw [decide_eq_false hl, if_neg (fun h => hl h.2)]
      exact far
  · rw [decide_eq_false hg, cond_false, if_neg (fun h => hg h.1)]
    exact far
end

end Go.Ev.Try
