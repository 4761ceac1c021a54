/- The abstract machine Ev, part Sp: a row of our own is sorted (sortF in plain words). -/
import Derived.Test.YtlodaclifccchaaEvSo
set_option linter.all false
namespace Go.Ev

/-- what 'cmp' is asked: a strict order of these values -/
structure Orders {α : Type} (xs : List α) (cf : α → α → Int) : Prop where
  irrefl : ∀ x ∈ xs, ¬ cf x x < 0
  trans : ∀ x ∈ xs, ∀ y ∈ xs, ∀ z ∈ xs, cf x y < 0 → cf y z < 0 → cf x z < 0
  ntrans : ∀ x ∈ xs, ∀ y ∈ xs, ∀ z ∈ xs, ¬ cf x y < 0 → ¬ cf y z < 0 → ¬ cf x z < 0
  total : ∀ x ∈ xs, ∀ y ∈ xs, ¬ cf x y < 0 → ¬ cf y x < 0 → x = y

theorem map_dec {α : Type} {enc : α → AV} {dec : AV → α} (hd : ∀ x, dec (enc x) = x) : ∀ {zs : List AV}, (∀ z ∈ zs, ∃ x, z = enc x) → (zs.map dec).map enc = zs
  | [], _ => rfl
  | z :: zs, h => by
    obtain ⟨x, rfl⟩ := h z (by simp)
    rw [List.map_cons, List.map_cons, hd, map_dec hd fun z hz => h z (by simp [hz])]

section
variable {α : Type} {enc : α → AV} {dec : AV → α} {cmp : AV → AV → H → Option (Int × H)} {cf : α → α → Int} {xs : List α}

theorem sortF_ret {h : H} {b : Nat} (hd : ∀ x, dec (enc x) = x) (hp : ∀ x, Plain (enc x)) (hg : h.get b = some (.cells (xs.map enc) false)) (hsz : xs.length < 4611686018427387904) (ho : Orders xs cf)
    (hc : ∀ vs : List α, ∀ x ∈ xs, ∀ y ∈ xs, cmp (enc x) (enc y) (h.set b (.cells (vs.map enc) false)).freeze = some (cf x y, (h.set b (.cells (vs.map enc) false)).freeze)) (c : Cap) :
    ∃ ys : List α, ys.Perm xs ∧ (ys.Pairwise fun x y => ¬ cf y x < 0) ∧ sortF cmp (some (b, 0)) xs.length c h = some ((), h.set b (.cells (ys.map enc) false)) := by
  have hmem : ∀ z ∈ xs.map enc, ∃ x, x ∈ xs ∧ z = enc x := fun z hz => by
    obtain ⟨x, hx, rfl⟩ := List.mem_map.1 hz
    exact ⟨x, hx, rfl⟩
  have pre : SortPre cmp h b 0 (xs.map enc) (xs.map enc) fun u v => cf (dec u) (dec v) := {
    hg := hg
    hxs := by rw [List.drop_zero, List.take_length]
    fit := by omega
    small := by simpa using hsz
    plain := fun z hz => by obtain ⟨x, _, rfl⟩ := hmem z hz; exact hp x
    hcmp := fun ys hl hy u hu v hv => by
      obtain ⟨x, hx, rfl⟩ := hmem u hu
      obtain ⟨y, hy', rfl⟩ := hmem v hv
      have hb : (ys.map dec).map enc = ys := map_dec hd fun z hz => by obtain ⟨x, _, rfl⟩ := hmem z (hy z hz); exact ⟨x, rfl⟩
      rw [spl_all _ _ hl, ← hb, hd, hd]
      exact hc _ x hx y hy'
    irrefl := fun u hu => by obtain ⟨x, hx, rfl⟩ := hmem u hu; rw [hd]; exact ho.irrefl x hx
    trans := fun u hu v hv t ht => by
      obtain ⟨x, hx, rfl⟩ := hmem u hu
      obtain ⟨y, hy, rfl⟩ := hmem v hv
      obtain ⟨z, hz, rfl⟩ := hmem t ht
      rw [hd, hd, hd]; exact ho.trans x hx y hy z hz
    ntrans := fun u hu v hv t ht => by
      obtain ⟨x, hx, rfl⟩ := hmem u hu
      obtain ⟨y, hy, rfl⟩ := hmem v hv
      obtain ⟨z, hz, rfl⟩ := hmem t ht
      rw [hd, hd, hd]; exact ho.ntrans x hx y hy z hz
    total := fun u hu v hv => by
      obtain ⟨x, hx, rfl⟩ := hmem u hu
      obtain ⟨y, hy, rfl⟩ := hmem v hv
      rw [hd, hd]; exact fun h1 h2 => by rw [ho.total x hx y hy h1 h2] }
  have key := sortF_of pre c
  have hperm := sortedOf_perm (xs.map enc) fun u v => cf (dec u) (dec v)
  have hsorted := pre.sorted
  generalize sortedOf (xs.map enc) (fun u v => cf (dec u) (dec v)) = zs at key hperm hsorted
  have hback : (zs.map dec).map enc = zs := map_dec hd fun z hz => by obtain ⟨x, _, rfl⟩ := hmem z (hperm.mem_iff.1 hz); exact ⟨x, rfl⟩
  refine ⟨zs.map dec, ?_, ?_, ?_⟩
  · have := hperm.map dec
    rwa [List.map_map, show dec ∘ enc = id from funext hd, List.map_id] at this
  · rw [List.pairwise_map]
    exact hsorted
  · rw [spl_all _ _ hperm.length_eq, List.length_map] at key
    rw [hback]
    exact key

theorem Grow.sort {a h : H} {p : Option (Nat × Nat)} {len : Nat} {c : Cap} (g : Grow a h 1 p len c (xs.map enc)) (hd : ∀ x, dec (enc x) = x) (hp : ∀ x, Plain (enc x)) (hsz : xs.length < 4611686018427387904) (ho : Orders xs cf)
    (hc : ∀ h' : H, h'.next = h.next → (∀ j, j ∉ own p → h'.get j = h.get j) → ∀ x ∈ xs, ∀ y ∈ xs, cmp (enc x) (enc y) h'.freeze = some (cf x y, h'.freeze)) :
    ∃ (ys : List α) (h' : H), ys.Perm xs ∧ (ys.Pairwise fun x y => ¬ cf y x < 0) ∧ sortF cmp p len c h = some ((), h') ∧ Grow a h' 1 p len c (ys.map enc) ∧ h'.next = h.next ∧ ∀ j, j ∉ own p → h'.get j = h.get j := by
  rcases g.look with ⟨rfl, rfl, rfl, h4⟩ | ⟨b, rfl, h1, h2, h3, h4, h5⟩
  · obtain rfl : xs = [] := by simpa using h4
    exact ⟨[], h, .refl _, .nil, sortF_none _ _ _ _, .nil, rfl, fun _ _ => rfl⟩
  · have hl : len = xs.length := by simpa using h4.symm
    subst hl
    obtain ⟨ys, q1, q2, q3⟩ := sortF_ret (cmp := cmp) (cf := cf) hd hp h3 hsz ho (fun vs x hx y hy => hc (h.set b (.cells (vs.map enc) false)) rfl (fun j hj => get_set_ne (by simpa using hj)) x hx y hy) c
    have hl : ys.length = xs.length := q1.length_eq
    refine ⟨ys, _, q1, q2, q3, ⟨.inr ⟨b, rfl, h1, h2, get_set_self _ _ _, by simpa using hl, h5⟩⟩, rfl, fun j hj => get_set_ne (by simpa using hj)⟩
end

/-! ### reads that are independent of a call ahead of them -/

theorem minus_of {x : H} {S : Nat → Prop} {i : Nat} {o : AObj} (hg : x.get i = some o) (hn : ¬ S i) : (x.minus S).get i = some o := (minus_get hn).trans hg
theorem not_noT (i : Nat) : ¬ noT i := fun h => h
theorem not_addT {S : Nat → Prop} {h h' : H} {i : Nat} (hS : ¬ S i) (he : h'.get i = h.get i) : ¬ addT S h h' i := fun h => h.elim hS fun ⟨_, hne⟩ => hne he
theorem minus_quiet {S : Nat → Prop} {x h h' : H} (m : Mod [] h h') : x.minus (addT S h h') = x.minus S := by rw [addT_same fun i hi => m.get i hi (by simp)]
@[simp] theorem minus_self (S : Nat → Prop) (x h : H) : x.minus (addT S h h) = x.minus S := by rw [addT_same fun _ _ => rfl]
theorem minus_none (x : H) : x.minus noT = x := minus_noT x

theorem fits_cons {k : FK} {ks : List FK} {vs : List AV} (h : Fits (k :: ks) vs) : ∃ v us, vs = v :: us ∧ k.fits v ∧ Fits ks us := by
  cases h with
  | cons a b => exact ⟨_, _, rfl, a, b⟩
theorem fits_nil {vs : List AV} (h : Fits [] vs) : vs = [] := by cases h; rfl

/-- two sorted rows of the same elements are one -/
theorem sorted_eq {α : Type} {lt : α → α → Prop} {xs ys : List α} (hp : xs.Perm ys) (h1 : xs.Pairwise lt) (h2 : ys.Pairwise lt) (ha : ∀ x ∈ xs, ∀ y ∈ xs, lt x y → lt y x → x = y) : xs = ys :=
  List.Perm.eq_of_pairwise (le := lt) (fun a b ha' hb' => ha a ha' b (hp.mem_iff.2 hb')) h1 h2 hp

end Go.Ev
