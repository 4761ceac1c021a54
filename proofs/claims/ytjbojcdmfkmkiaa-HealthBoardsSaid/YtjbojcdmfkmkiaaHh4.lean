/- Chapter 09: New. -/
import Derived.Test.YtjbojcdmfkmkiaaHh3
set_option linter.all false
namespace Go.Ev.Try
set_option maxRecDepth 10000

theorem New_loop {a : H} {b fm tm : Nat} (hfb : fm < b) (htb : tm < b) (hft : fm ≠ tm) (hb : a.next ≤ b) (n : Nat) : ∀ (d k m : Nat) (h : H), k + d = 256 → d < m → h.next = b + 1 + k →
    h.get b = some (.cells (i64 0 :: (((List.range k).map fun j => AV.map (some (b + 1 + j))) ++ (List.replicate d (.map none) ++ [.map (some fm), .map (some tm)]))) false) → (∀ j, j < k → h.get (b + 1 + j) = some (.map [] 0)) → h.get fm = some (.map [] 0) → h.get tm = some (.map [] 0) → Mod [] a h →
    Ret (wheel_New_27_L0 n m (some (b, 0)) k h) fun r h' => r = some (b, 0) ∧ Mod [] a h' ∧ ∃ sl, WRep h' b 0 sl fm tm (fun _ => []) [] [] ∧ ∀ x ∈ sl, b < x
  | 0, k, m + 1, h, hk, _, hn, hg, hs, hf, ht, hm => by
    obtain rfl : k = 256 := by omega
    rw [wheel_New_27_L0_eq, show decide (((256 : Nat) : Int) < 256) = false by decide, cond_false]
    refine .pure ⟨rfl, hm, (List.range 256).map fun j => b + 1 + j, ⟨?_, by simp, fun j x hj => ?_, ⟨_, hf, .nil⟩, ⟨_, ht, .nil⟩, ?_, ?_⟩, ?_⟩
    · rw [hg]
      simp only [List.replicate_zero, List.nil_append, List.map_map]
      rfl
    · rw [List.getElem?_map] at hj
      obtain ⟨y, hy, rfl⟩ := Option.map_eq_some_iff.1 hj
      have hlt := (List.getElem?_eq_some_iff.1 hy).1
      have : y = j := by
        rw [List.getElem?_range (by simpa using hlt)] at hy
        exact (Option.some.inj hy).symm
      subst this
      exact ⟨_, hs y (by simpa using hlt), .nil⟩
    · simp only [List.nodup_cons, List.mem_cons, List.mem_map, List.mem_range, not_or, not_exists, not_and]
      refine ⟨⟨by omega, by omega, fun j _ => by omega⟩, ⟨hft, fun j _ => by omega⟩, fun j _ => by omega, ?_⟩
      rw [List.Nodup, List.pairwise_map]
      exact List.nodup_range.imp fun h e => h (by omega)
    · intro x hx
      simp only [List.mem_cons, List.mem_map, List.mem_range] at hx
      rcases hx with rfl | rfl | rfl | ⟨j, hj, rfl⟩ <;> omega
    · intro x hx
      obtain ⟨j, _, rfl⟩ := List.mem_map.1 hx
      omega
  | d + 1, k, m + 1, h, hk, hm, hn, hg, hs, hf, ht, hmod => by
    rw [wheel_New_27_L0_eq, show decide (((k : Nat) : Int) < 256) = true by simp; omega, cond_true]
    simp only [newK_eq, nnK_some']
    rw [if_pos ⟨by omega, by omega⟩]
    have hg1 : (h.new (.map [] 0)).get b = some (.cells (i64 0 :: (((List.range k).map fun j => AV.map (some (b + 1 + j))) ++ (List.replicate (d + 1) (.map none) ++ [.map (some fm), .map (some tm)]))) false) := (get_new_lt (by omega)).trans hg
    rw [show (0 + 1 + ((k : Nat) : Int).toNat) = k + 1 by omega, wrK_one hg1 (by simp) rfl, wrap_succ (by omega)]
    have hset : (i64 0 :: (((List.range k).map fun j => AV.map (some (b + 1 + j))) ++ (List.replicate (d + 1) (.map none) ++ [.map (some fm), .map (some tm)]))).set (k + 1) (.map (some h.next)) =
        i64 0 :: (((List.range (k + 1)).map fun j => AV.map (some (b + 1 + j))) ++ (List.replicate d (.map none) ++ [.map (some fm), .map (some tm)])) := by
      rw [List.set_cons_succ, List.set_append_right _ _ (by simp), List.length_map, List.length_range, Nat.sub_self, List.replicate_succ, List.cons_append, List.set_cons_zero, List.range_succ, List.map_append, List.append_assoc, hn]
      rfl
    rw [hset]
    refine New_loop hfb htb hft hb n d (k + 1) m _ (by omega) (by omega) (by simp; omega) (get_set_self _ _ _) (fun j hj => ?_) ?_ ?_ ((hmod.new _).set (.inl hb) _)
    · rw [get_set_ne (by omega)]
      by_cases hjk : j = k
      · subst hjk
        rw [← hn]; exact get_new_self _ _
      · rw [get_new_lt (by omega)]; exact hs j (by omega)
    · rw [get_set_ne (by omega), get_new_lt (by omega)]; exact hf
    · rw [get_set_ne (by omega), get_new_lt (by omega)]; exact ht

theorem New_ret (h : H) {n : Nat} (hn : 300 ≤ n) : Ret (wheel_New_27 n h) fun r h' => Mod [] h h' ∧ ∃ b sl fm tm, r = some (b, 0) ∧ WRep h' b 0 sl fm tm (fun _ => []) [] [] ∧ ∀ x ∈ b :: fm :: tm :: sl, h.next ≤ x := by
  rw [wheel_New_27_eq]
  simp only [newK_eq]
  have m1 : Mod [] h (h.new (.map [] 0)) := (Mod.refl _ _).new _
  have m2 := m1.new (.map [] 0)
  have loop := New_loop (a := h) (b := h.next + 2) (fm := h.next) (tm := h.next + 1) (by omega) (by omega) (by omega) (by omega) n 256 0 n
    (((h.new (.map [] 0)).new (.map [] 0)).new (.cells (i64 0 :: (((List.range 0).map fun j => AV.map (some (h.next + 2 + 1 + j))) ++ (List.replicate 256 (.map none) ++ [.map (some h.next), .map (some (h.next + 1))]))) false)) rfl (by omega) rfl (get_new_self _ _) (fun j hj => by omega)
    ((get_new_lt (by show h.next < h.next + 1 + 1; omega)).trans ((get_new_lt (by show h.next < h.next + 1; omega)).trans (get_new_self _ _))) ((get_new_lt (by show h.next + 1 < h.next + 1 + 1; omega)).trans (get_new_self _ _)) (m2.new _)
  refine Ret.mono (P := fun r h' => r = some (h.next + 2, 0) ∧ Mod [] h h' ∧ ∃ sl, WRep h' (h.next + 2) 0 sl h.next (h.next + 1) (fun _ => []) [] [] ∧ ∀ x ∈ sl, h.next + 2 < x) loop fun r h' ⟨q1, q2, sl, q3, q4⟩ => ⟨q2, h.next + 2, sl, h.next, h.next + 1, q1, q3, fun x hx => ?_⟩
  simp only [List.mem_cons] at hx
  rcases hx with rfl | rfl | rfl | hx
  · omega
  · omega
  · omega
  · have := q4 x hx; omega

end Go.Ev.Try
