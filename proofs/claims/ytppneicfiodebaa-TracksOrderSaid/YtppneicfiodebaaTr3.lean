/- What the given package 'tracks' computes, in plain lists: slices.Sort of few texts, Down; the law's same, alive. -/
import Derived.Test.YtppneicfiodebaaTr2
set_option linter.all false
namespace Go.Ev.Try
set_option maxRecDepth 10000
open Go.Proofs

/-! ### sorting, in lists -/

/-- x goes down along those that are greater -/
def bub (x : ByteArray) : List ByteArray → List ByteArray → List ByteArray
  | [], B => x :: B
  | y :: A, B => if sLt x y = true then bub x A (y :: B) else (y :: A).reverse ++ x :: B
def srtFrom : List ByteArray → List ByteArray → List ByteArray
  | P, [] => P
  | P, x :: B => srtFrom (bub x P.reverse []) B
def srt : List ByteArray → List ByteArray
  | [] => []
  | x :: B => srtFrom [x] B

theorem bub_append (x : ByteArray) : ∀ A B C : List ByteArray, bub x A (B ++ C) = bub x A B ++ C
  | [], B, C => rfl
  | y :: A, B, C => by
    unfold bub
    split
    · exact bub_append x A (y :: B) C
    · simp
theorem bub_perm (x : ByteArray) : ∀ A B : List ByteArray, (bub x A B).Perm (x :: (A ++ B))
  | [], B => .refl _
  | y :: A, B => by
    unfold bub
    split
    · refine (bub_perm x A (y :: B)).trans (.cons _ ?_)
      exact List.perm_middle
    · refine List.perm_middle.trans (.cons _ ?_)
      exact List.Perm.append_right _ (List.reverse_perm _)
theorem bub_sorted (x : ByteArray) : ∀ A B : List ByteArray, (A.reverse ++ B).Pairwise sLe → (∀ b ∈ B, sLe x b) → (bub x A B).Pairwise sLe
  | [], B, h, hb => List.pairwise_cons.2 ⟨hb, by simpa using h⟩
  | y :: A, B, h, hb => by
    rw [List.reverse_cons, List.append_assoc, List.singleton_append] at h
    unfold bub
    split
    · rename_i hxy
      exact bub_sorted x A (y :: B) h fun b hb' => by
        rcases List.mem_cons.1 hb' with rfl | hb'
        · exact sLe_of_lt hxy
        · exact hb b hb'
    · rename_i hxy
      have hyx : sLe y x := by unfold sLe; simpa using hxy
      rw [List.reverse_cons, List.append_assoc, List.singleton_append]
      rw [List.pairwise_append] at h ⊢
      obtain ⟨h1, h2, h3⟩ := h
      rw [List.pairwise_cons] at h2
      refine ⟨h1, List.pairwise_cons.2 ⟨fun b hb' => ?_, List.pairwise_cons.2 ⟨hb, h2.2⟩⟩, fun a ha b hb' => ?_⟩
      · rcases List.mem_cons.1 hb' with rfl | hb'
        · exact hyx
        · exact h2.1 b hb'
      · rcases List.mem_cons.1 hb' with rfl | hb'
        · exact h3 a ha _ (by simp)
        · rcases List.mem_cons.1 hb' with rfl | hb'
          · exact sLe_trans (h3 a ha y (by simp)) hyx
          · exact h3 a ha b (by simp [hb'])
theorem srtFrom_spec : ∀ B P : List ByteArray, P.Pairwise sLe → (srtFrom P B).Perm (P ++ B) ∧ (srtFrom P B).Pairwise sLe
  | [], P, h => ⟨by simpa using .refl _, h⟩
  | x :: B, P, h => by
    have h1 := bub_perm x P.reverse []
    have h2 := bub_sorted x P.reverse [] (by simpa using h) (by simp)
    obtain ⟨h3, h4⟩ := srtFrom_spec B _ h2
    refine ⟨h3.trans ?_, h4⟩
    refine (List.Perm.append_right B h1).trans ?_
    rw [List.append_nil]
    refine List.Perm.trans ?_ List.perm_middle.symm
    exact .cons _ (List.Perm.append_right _ (List.reverse_perm _))
theorem srt_perm : ∀ l, (srt l).Perm l
  | [] => .refl _
  | x :: B => (srtFrom_spec B [x] (List.pairwise_singleton _ _)).1
theorem srt_sorted : ∀ l, (srt l).Pairwise sLe
  | [] => .nil
  | x :: B => (srtFrom_spec B [x] (List.pairwise_singleton _ _)).2
theorem sorted_unique {l l' : List ByteArray} (h : l.Pairwise sLe) (h' : l'.Pairwise sLe) (hp : l.Perm l') : l = l' :=
  hp.eq_of_pairwise (fun _ _ _ _ h k => sLe_antisymm h k) h h'

/-! ### insertion sort -/

theorem less_eq (n : Nat) (a b : ByteArray) (h : H) : cmp_Less_string_35 n a b h = some (sLt a b, h) := by
  rw [cmp_Less_string_35_eq, cmp_isNaN_string_45_eq]
  simp only [beq_self_eq_true, Bool.not_true, Option.bind_some, cond_false, sLt]

theorem set_two {P Q : List AV} {u v u' v' : AV} : ((P ++ u :: v :: Q).set (P.length + 1) u').set P.length v' = P ++ v' :: u' :: Q := by
  rw [List.set_append_right _ _ (by omega), show P.length + 1 - P.length = 1 by omega, List.set_append_right _ _ (by omega), Nat.sub_self]
  rfl

theorem inner {b N : Nat} {c : Cap} (hN : N < 1000) (n : Nat) (x : ByteArray) (i : Nat) (m1 : Nat) : ∀ (A B : List ByteArray) (m2 : Nat) (h : H), A.length + 1 + B.length = N → A.length < m2 → h.get b = some (.cells ((A.reverse ++ x :: B).map AV.str) false) →
    slices_insertionSortOrdered_string_29_L1 n m1 m2 (some (b, 0)) N c 0 N i A.length h = slices_insertionSortOrdered_string_29_L0 n m1 (some (b, 0)) N c 0 N (IntKind.i64.wrap ((i : Int) + 1)) (h.set b (.cells ((bub x A B).map AV.str) false))
  | [], B, m2 + 1, h, hl, hm, hg => by
    rw [slices_insertionSortOrdered_string_29_L1_eq, show decide (((([] : List ByteArray).length : Nat) : Int) > 0) = false by simp, cond_false, slices_insertionSortOrdered_string_29_J2_eq, cond_false]
    rw [show h.set b (.cells ((bub x [] B).map AV.str) false) = h from set_same hg]
  | y :: A, B, m2 + 1, h, hl, hm, hg => by
    simp only [List.length_cons] at hl hm
    have e1 : IntKind.i64.wrap ((((y :: A).length : Nat) : Int) - 1) = (A.length : Int) := by rw [wrap_i64 (by simp <;> omega) (by simp <;> omega)]; simp
    have hm' : (((y :: A).reverse ++ x :: B).map AV.str) = A.reverse.map AV.str ++ .str y :: .str x :: B.map AV.str := by simp
    have hPl : (A.reverse.map AV.str).length = A.length := by simp
    rw [hm'] at hg
    have g0 : (A.reverse.map AV.str ++ .str y :: .str x :: B.map AV.str)[A.length]? = some (.str y) := by rw [List.getElem?_append_right (by simp), hPl, Nat.sub_self]; rfl
    have g1 : (A.reverse.map AV.str ++ .str y :: .str x :: B.map AV.str)[A.length + 1]? = some (.str x) := by rw [List.getElem?_append_right (by simp), hPl, show A.length + 1 - A.length = 1 by omega]; rfl
    have i1 : 0 ≤ ((((y :: A).length : Nat)) : Int) ∧ (((y :: A).length : Nat) : Int) < (N : Int) := by simp; omega
    have i0 : 0 ≤ (A.length : Int) ∧ (A.length : Int) < (N : Int) := by omega
    have t1 : ((((y :: A).length : Nat)) : Int).toNat = A.length + 1 := rfl
    have t0 : ((A.length : Nat) : Int).toNat = A.length := rfl
    rw [slices_insertionSortOrdered_string_29_L1_eq, show decide (((((y :: A).length : Nat)) : Int) > 0) = true by simp <;> omega, cond_true, e1, if_pos i1]
    simp only [nnK_some', Nat.zero_add, t1, t0]
    rw [cellK_of hg g1, asStr_str, if_pos i0, cellK_of hg g0, asStr_str, less_eq, Option.bind_some]
    simp only
    rw [slices_insertionSortOrdered_string_29_J2_eq]
    unfold bub
    cases hlt : sLt x y with
    | false =>
      simp only [cond_false, Bool.false_eq_true, if_false]
      rw [hm', set_same hg]
    | true =>
      simp only [cond_true, if_true]
      rw [e1, if_pos i0]
      simp only [nnK_some', Nat.zero_add, t1, t0]
      rw [cellK_of hg g0, asStr_str, if_pos i1, cellK_of hg g1, asStr_str, if_pos i1, wrK_one hg (by simp) rfl]
      rw [if_pos i0, wrK_one (get_set_self _ _ _) (by simp) rfl, set_set]
      have := set_two (P := A.reverse.map AV.str) (Q := B.map AV.str) (u := .str y) (v := .str x) (u' := .str y) (v' := .str x)
      rw [hPl] at this
      rw [this]
      have hres := inner (c := c) hN n x i m1 A (y :: B) m2 (h.set b (.cells (A.reverse.map AV.str ++ .str x :: .str y :: B.map AV.str) false)) (by simp; omega) (by omega) (by rw [get_set_self]; simp)
      rw [hres, set_set]

theorem outer {b N : Nat} {c : Cap} (hN : N < 1000) {n : Nat} (hn : N < n) : ∀ (B P : List ByteArray) (m1 : Nat) (h : H), P.length + B.length = N → B.length < m1 → h.get b = some (.cells ((P ++ B).map AV.str) false) →
    slices_insertionSortOrdered_string_29_L0 n m1 (some (b, 0)) N c 0 N P.length h = some ((), h.set b (.cells ((srtFrom P B).map AV.str) false))
  | [], P, m1 + 1, h, hl, _, hg => by
    rw [slices_insertionSortOrdered_string_29_L0_eq, cast_not_lt (by simp at hl; omega), cond_false]
    rw [List.append_nil] at hg
    rw [show srtFrom P [] = P from rfl, set_same hg]
  | x :: B, P, m1 + 1, h, hl, hm, hg => by
    simp only [List.length_cons] at hl hm
    rw [slices_insertionSortOrdered_string_29_L0_eq, cast_lt (by omega), cond_true]
    have := inner (c := c) hN n x P.length m1 P.reverse B n h (by simp; omega) (by simp; omega) (by simpa using hg)
    rw [List.length_reverse] at this
    rw [this, wrap_succ (by omega)]
    have hb : bub x P.reverse B = bub x P.reverse [] ++ B := by rw [← bub_append]; rfl
    have hlen : (bub x P.reverse []).length = P.length + 1 := by rw [(bub_perm x P.reverse []).length_eq]; simp
    rw [← hlen]
    have h2 := outer (c := c) hN hn B (bub x P.reverse []) m1 (h.set b (.cells ((bub x P.reverse B).map AV.str) false)) (by omega) (by omega) (by rw [get_set_self, hb])
    rw [h2, set_set]
    rfl

theorem Len_ret (n : Nat) (x : Int) (h : H) : Ret (bits_Len_28 n x h) fun _ h' => h' = h := by
  have h2 : ∀ a r : Int, Ret (bits_Len64_39_J2 n a r h) fun _ h' => h' = h := fun a r => by
    rw [bits_Len64_39_J2_eq]
    have h0 : 0 ≤ IntKind.u8.wrap a ∧ IntKind.u8.wrap a < 256 := by simp only [IntKind.wrap, IntKind.bits, IntKind.signed]; simp; omega
    rw [byteK_ex h0.1 (by show (IntKind.u8.wrap a).toNat < 256; omega)]
    exact .pure rfl
  have h1 : ∀ a r : Int, Ret (bits_Len64_39_J1 n a r h) fun _ h' => h' = h := fun a r => by
    rw [bits_Len64_39_J1_eq]
    cases decide (a ≥ 256) <;> exact h2 _ _
  have h0 : ∀ a r : Int, Ret (bits_Len64_39_J0 n a r h) fun _ h' => h' = h := fun a r => by
    rw [bits_Len64_39_J0_eq]
    cases decide (a ≥ 65536) <;> exact h1 _ _
  rw [bits_Len_28_eq, bits_Len64_39_eq]
  refine Ret.bind (P := fun _ h' => h' = h) ?_ (by rintro r _ rfl; exact .pure rfl)
  cases decide (x ≥ 4294967296) <;> exact h0 _ _

theorem Sort_ret {a h : H} {p : Option (Nat × Nat)} {len : Nat} {c : Cap} {ss : List ByteArray} (g : Grow a h 1 p len c (ss.map AV.str)) (h12 : ss.length ≤ 12) {n : Nat} (hn : 20 ≤ n) :
    Ret (slices_Sort_string_string_25 n p len c h) fun _ h' => Grow a h' 1 p len c ((srt ss).map AV.str) ∧ Mod (own p) h h' := by
  rw [slices_Sort_string_string_25_eq]
  obtain rfl := g.row.len1
  refine (Len_ret n _ h).bind ?_
  intro r h0 e
  rw [show h0 = h from e]
  clear e h0
  dsimp only
  rw [slices_pdqsortOrdered_string_27_eq]
  obtain ⟨m, rfl⟩ : ∃ m, n = m + 1 := ⟨n - 1, by omega⟩
  rw [slices_pdqsortOrdered_string_27_L0_eq, show decide (IntKind.i64.wrap ((ss.length : Int) - 0) ≤ 12) = true by rw [wrap_i64 (by omega) (by omega)]; simp; omega, cond_true, slices_insertionSortOrdered_string_29_eq]
  cases ss with
  | nil =>
    rw [slices_insertionSortOrdered_string_29_L0_eq, show IntKind.i64.wrap (0 + 1) = 1 by decide, show decide ((1 : Int) < ((([] : List ByteArray).length : Nat) : Int)) = false by simp, cond_false]
    exact .pure ⟨g, .refl _ _⟩
  | cons x B =>
    rcases g.look with ⟨_, h0, _⟩ | ⟨b, rfl, h1, h2, h3, h4, h5⟩
    · simp at h0
    · have := outer (c := c) (by omega : (x :: B).length < 1000) (n := m + 1) (by omega) B [x] (m + 1) h (by simp; omega) (by simp at h12; omega) h3
      rw [show IntKind.i64.wrap (0 + 1) = ((([x] : List ByteArray).length : Nat) : Int) from wrap_i64 (x := 1) (by decide) (by decide), this]
      refine .pure ⟨⟨.inr ⟨b, rfl, h1, h2, get_set_self _ _ _, ?_, h5⟩⟩, (Mod.refl _ _).set (.inr (by simp)) _⟩
      have := (srt_perm (x :: B)).length_eq
      simp only [List.length_map, Nat.mul_one]
      exact this

end Go.Ev.Try
