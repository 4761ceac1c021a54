/- The abstract machine Ev, part Sl: a row of our own, its elements of several cells, is sorted (sortFK in plain words). -/
import Derived.Test.YtgaflglknjjalaaEvSk
set_option linter.all false
namespace Go.Ev

theorem map_decK {α : Type} {enc : α → List AV} {dec : List AV → α} (hd : ∀ x, dec (enc x) = x) : ∀ {zs : List (List AV)}, (∀ z ∈ zs, ∃ x, z = enc x) → (zs.map dec).map enc = zs
  | [], _ => rfl
  | z :: zs, h => by
    obtain ⟨x, rfl⟩ := h z (by simp)
    rw [List.map_cons, List.map_cons, hd, map_decK hd fun z hz => h z (by simp [hz])]

section
variable {α : Type} {enc : α → List AV} {dec : List AV → α} {cmp : List AV → List AV → H → Option (Int × H)} {cf : α → α → Int} {xs : List α} {k : Nat}

theorem sortFK_ret {h : H} {b : Nat} (hd : ∀ x, dec (enc x) = x) (hk : ∀ x, (enc x).length = k) (h0 : 0 < k) (hp : ∀ x, ∀ a ∈ enc x, Plain a) (hg : h.get b = some (.cells (xs.flatMap enc) false)) (hsz : xs.length < 4611686018427387904) (ho : Orders xs cf)
    (hc : ∀ vs : List α, ∀ x ∈ xs, ∀ y ∈ xs, ∃ h2, cmp (enc x) (enc y) (h.set b (.cells (vs.flatMap enc) false)).freeze = some (cf x y, h2) ∧ h2.next ≤ h.next + 1000) (c : Cap) (hne : xs.length ≠ 0) :
    ∃ ys : List α, ys.Perm xs ∧ (ys.Pairwise fun x y => ¬ cf y x < 0) ∧ sortFK k cmp (some (b, 0)) xs.length c h = some ((), (h.set b (.cells (ys.flatMap enc) false)).bump 1000) := by
  have hmem : ∀ z ∈ xs.map enc, ∃ x, x ∈ xs ∧ z = enc x := fun z hz => by
    obtain ⟨x, hx, rfl⟩ := List.mem_map.1 hz
    exact ⟨x, hx, rfl⟩
  have hfl : xs.flatMap enc = (xs.map enc).flatten := rfl
  have hlen : (xs.flatMap enc).length = xs.length * k := length_flat hk xs
  have pre : SortPreK cmp h b 0 k (xs.flatMap enc) (xs.map enc) fun u v => cf (dec u) (dec v) := {
    hg := hg
    hxs := by rw [List.drop_zero, List.length_map, ← hlen, List.take_length, hfl]
    fit := by rw [List.length_map, hlen]; omega
    small := by simpa using hsz
    kpos := h0
    len := fun z hz => by obtain ⟨x, _, rfl⟩ := hmem z hz; exact hk x
    plain := fun z hz => by obtain ⟨x, _, rfl⟩ := hmem z hz; exact hp x
    hcmp := fun ys hl hy u hu v hv => by
      obtain ⟨x, hx, rfl⟩ := hmem u hu
      obtain ⟨y, hy', rfl⟩ := hmem v hv
      have hb : (ys.map dec).map enc = ys := map_decK hd fun z hz => by obtain ⟨x, _, rfl⟩ := hmem z (hy z hz); exact ⟨x, rfl⟩
      have hyl : ys.flatten.length = (xs.flatMap enc).length := by
        rw [hlen, flat_len (k := k) fun z hz => by obtain ⟨x, _, rfl⟩ := hmem z (hy z hz); exact hk x, hl, List.length_map]
      rw [spl_all _ _ hyl, ← hb, hd, hd]
      exact hc _ x hx y hy'
    irrefl := fun u hu => by obtain ⟨x, hx, rfl⟩ := hmem u hu; rw [hd]; exact ho.irrefl x hx
    trans := fun u hu v hv t ht => by
      obtain ⟨x, hx, rfl⟩ := hmem u hu
      obtain ⟨y, hy, rfl⟩ := hmem v hv
      obtain ⟨z, hz, rfl⟩ := hmem t ht
      rw [hd, hd, hd]; exact ho.trans x hx y hy z hz
    ntrans := fun u hu v hv t ht => by
      obtain ⟨x, hx, rfl⟩ := hmem u hu
      obtain ⟨y, hy, rfl⟩ := hmem v hv
      obtain ⟨z, hz, rfl⟩ := hmem t ht
      rw [hd, hd, hd]; exact ho.ntrans x hx y hy z hz
    total := fun u hu v hv => by
      obtain ⟨x, hx, rfl⟩ := hmem u hu
      obtain ⟨y, hy, rfl⟩ := hmem v hv
      rw [hd, hd]; exact fun h1 h2 => by rw [ho.total x hx y hy h1 h2] }
  have key := sortFK_of pre c (by simpa using hne)
  have hperm := sortedOfK_perm (xs.map enc) fun u v => cf (dec u) (dec v)
  have hsorted := pre.sorted
  generalize sortedOfK (xs.map enc) (fun u v => cf (dec u) (dec v)) = zs at key hperm hsorted
  have hback : (zs.map dec).map enc = zs := map_decK hd fun z hz => by obtain ⟨x, _, rfl⟩ := hmem z (hperm.mem_iff.1 hz); exact ⟨x, rfl⟩
  refine ⟨zs.map dec, ?_, ?_, ?_⟩
  · have := hperm.map dec
    rwa [List.map_map, show dec ∘ enc = id from funext hd, List.map_id] at this
  · rw [List.pairwise_map]
    exact hsorted
  · have hzl : zs.flatten.length = (xs.flatMap enc).length := by
      rw [hlen, flat_len (k := k) fun z hz => by obtain ⟨x, _, rfl⟩ := hmem z (hperm.mem_iff.1 hz); exact hk x, hperm.length_eq, List.length_map]
    rw [spl_all _ _ hzl, List.length_map] at key
    rw [show (zs.map dec).flatMap enc = ((zs.map dec).map enc).flatten from rfl, hback]
    exact key

theorem Grow.sortK {a h : H} {p : Option (Nat × Nat)} {len : Nat} {c : Cap} (g : Grow a h k p len c (xs.flatMap enc)) (hd : ∀ x, dec (enc x) = x) (hk : ∀ x, (enc x).length = k) (h0 : 0 < k) (hp : ∀ x, ∀ a ∈ enc x, Plain a) (hsz : xs.length < 4611686018427387904) (ho : Orders xs cf)
    (hc : ∀ h' : H, h'.next = h.next → (∀ j, j ∉ own p → h'.get j = h.get j) → ∀ x ∈ xs, ∀ y ∈ xs, ∃ h2, cmp (enc x) (enc y) h'.freeze = some (cf x y, h2) ∧ h2.next ≤ h.next + 1000) :
    ∃ (ys : List α) (h' : H), ys.Perm xs ∧ (ys.Pairwise fun x y => ¬ cf y x < 0) ∧ sortFK k cmp p len c h = some ((), h') ∧ Grow a h' k p len c (ys.flatMap enc) ∧ h.next ≤ h'.next ∧ ∀ j, j ∉ own p → h'.get j = h.get j := by
  have hl : xs.length = len := Row.len g.row hk h0
  by_cases hz : len = 0
  · subst hz
    obtain rfl : xs = [] := List.eq_nil_of_length_eq_zero hl
    exact ⟨[], h, .refl _, .nil, sortFK_none _ _ _ _, g, Nat.le_refl _, fun _ _ => rfl⟩
  · rcases g.look with ⟨rfl, h2, rfl, h4⟩ | ⟨b, rfl, h1, h2, h3, h4, h5⟩
    · exact absurd h2 hz
    · subst hl
      obtain ⟨ys, q1, q2, q3⟩ := sortFK_ret (cmp := cmp) (cf := cf) hd hk h0 hp h3 hsz ho (fun vs x hx y hy => hc (h.set b (.cells (vs.flatMap enc) false)) rfl (fun j hj => get_set_ne (by simpa using hj)) x hx y hy) c hz
      have hl : ys.length = xs.length := q1.length_eq
      refine ⟨ys, _, q1, q2, q3, ⟨.inr ⟨b, rfl, h1, Nat.lt_of_lt_of_le h2 (Nat.le_add_right _ _), get_set_self _ _ _, by rw [length_flat hk, hl], h5⟩⟩, Nat.le_add_right _ _, fun j hj => get_set_ne (by simpa using hj)⟩
end

end Go.Ev
