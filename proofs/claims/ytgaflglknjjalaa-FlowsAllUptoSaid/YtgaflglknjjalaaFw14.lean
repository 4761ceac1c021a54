/- Chapter 10: the document's Expire. -/
import Derived.Test.YtgaflglknjjalaaFw13
set_option linter.all false
namespace Go.Ev.Try
set_option maxRecDepth 10000
open Go.Proofs

def insN (e : En) : List En → List En
  | [] => [e]
  | x :: l => if x.en > e.en then e :: x :: l else x :: insN e l
def goneR (now : Int) (l : List En) : List En := l.foldl (fun out e => if e.en ≤ now then insN e out else out) []
theorem goneR_snoc (now : Int) (l : List En) (e : En) : goneR now (l ++ [e]) = if e.en ≤ now then insN e (goneR now l) else goneR now l := by
  unfold goneR; rw [List.foldl_append]; rfl
theorem insN_perm (e : En) : ∀ l, (insN e l).Perm (e :: l)
  | [] => .refl _
  | x :: l => by
    unfold insN
    split
    · exact .refl _
    · exact ((insN_perm e l).cons x).trans (List.Perm.swap _ _ _)
theorem cmpN_neg {x y : En} : cmpN x y < 0 ↔ x.en < y.en ∨ (x.en = y.en ∧ aheadF x.f y.f = true) := by
  unfold cmpN orI
  rw [aheadF_iff]
  by_cases h : x.en = y.en
  · rw [cmpI_zero.2 h, if_neg (by simp)]
    constructor
    · exact fun k => .inr ⟨h, k⟩
    · rintro (k | ⟨_, k⟩)
      · omega
      · exact k
  · rw [if_pos fun e => h (cmpI_zero.1 e), cmpI_neg]
    constructor
    · exact .inl
    · rintro (k | ⟨k, _⟩)
      · exact k
      · exact absurd k h
theorem SrtN.ins {e : En} : ∀ {l : List En}, SrtN l → (∀ x ∈ l, aheadF x.f e.f = true) → SrtN (insN e l)
  | [], _, _ => by simp [insN, SrtN]
  | x :: l, h, ha => by
    have h' := List.pairwise_cons.1 h
    unfold insN
    split
    · rename_i hgt
      refine List.pairwise_cons.2 ⟨fun y hy => ?_, h⟩
      have hx : cmpN e x < 0 := cmpN_neg.2 (.inl hgt)
      rcases List.mem_cons.1 hy with rfl | hy
      · exact hx
      · exact cmpN_cmp.trans (e.en, e.f) (x.en, x.f) (y.en, y.f) hx (h'.1 y hy)
    · rename_i hgt
      refine List.pairwise_cons.2 ⟨fun y hy => ?_, SrtN.ins h'.2 fun z hz => ha z (by simp [hz])⟩
      rcases List.mem_cons.1 ((insN_perm e l).mem_iff.1 hy) with rfl | hy
      · refine cmpN_neg.2 ?_
        have := ha x (by simp)
        rcases Int.lt_or_eq_of_le (show x.en ≤ y.en by omega) with h | h
        · exact .inl h
        · exact .inr ⟨h, this⟩
      · exact h'.1 y hy
theorem goneR_gone {now : Int} {l : List En} (hs : Srt l) : Gone now l (goneR now l) := by
  have key : ∀ i, i ≤ l.length → Gone now (l.take i) (goneR now (l.take i)) := by
    intro i
    induction i with
    | zero => exact fun _ => ⟨.refl _, .nil⟩
    | succ i ih =>
      intro hi
      have ih := ih (by omega)
      have hx : l[i]? = some (l[i]'(by omega)) := List.getElem?_eq_getElem _
      generalize l[i]'(by omega) = e at hx
      have ht : l.take (i + 1) = l.take i ++ [e] := by rw [List.take_add_one, hx]; rfl
      have hpre : ∀ x ∈ l.take i, aheadF x.f e.f = true := by
        have hs' : Srt (l.take (i + 1)) := List.Pairwise.sublist (List.take_sublist _ _) hs
        rw [ht] at hs'
        exact fun x hx => (List.pairwise_append.1 hs').2.2 x hx e (by simp)
      rw [ht, goneR_snoc]
      have he : ended now (l.take i ++ [e]) = ended now (l.take i) ++ if e.en ≤ now then [e] else [] := by
        unfold ended
        rw [List.filter_append]
        congr 1
        by_cases h : e.en ≤ now <;> simp [h]
      by_cases h : e.en ≤ now
      · rw [if_pos h] at he
        rw [if_pos h]
        refine ⟨?_, ih.srt.ins fun x hx => hpre x ?_⟩
        · rw [he]
          exact (insN_perm e _).trans (((ih.perm.cons e)).trans (List.perm_append_comm (l₁ := [e])))
        · have := ih.perm.mem_iff.1 hx
          unfold ended at this
          exact (List.mem_filter.1 this).1
      · rw [if_neg h, List.append_nil] at he
        rw [if_neg h]
        exact ⟨by rw [he]; exact ih.perm, ih.srt⟩
  have := key l.length (Nat.le_refl _)
  rwa [List.take_length] at this
theorem Gone.unique {now : Int} {l ys zs : List En} (h : Gone now l ys) (k : Gone now l zs) : ys = zs := h.srt.eq k.srt (h.perm.trans k.perm.symm)

theorem lasting_snoc (now : Int) (l : List En) (e : En) : lasting now (l ++ [e]) = lasting now l ++ if e.en ≤ now then [] else [e] := by
  unfold lasting
  rw [List.filter_append]
  congr 1
  by_cases h : e.en ≤ now <;> simp [h]

theorem EGrow.snoc {a h' : H} {p' : Option (Nat × Nat)} {ql : Nat} {c' : Cap} {acc : List En} {e : En} (g' : Grow a h' 8 p' (ql + 1) c' (acc.flatMap encE ++ encE e)) : EGrow a h' p' (ql + 1) c' (acc ++ [e]) := by
  show Grow a h' 8 p' (ql + 1) c' ((acc ++ [e]).flatMap encE)
  rw [List.flatMap_append]
  simpa using g'

theorem Ins_loop {a : H} {p : Option (Nat × Nat)} {len : Nat} {c : Cap} {l : List En} (r : ERow a p len c l) (hl : len < 1000) {q : Option (Nat × Nat)} {ql : Nat} {qc : Cap} {out : List En} (ro : ERow a q ql qc out) (hql : ql < 1000) {i : Nat} {e : En} (he : l[i]? = some e) {now : Int} {n m1 : Nat} {p6 : Option (Nat × Nat)} {l6 : Nat} {c6 : Cap}
    {Q : (Option (Nat × Nat) × Nat × Cap × Option (Nat × Nat) × Nat × Cap) → H → Prop} {tgt : List En} (K : ∀ z zl zc h, EGrow a h z zl zc tgt → Mod [] a h → Ret (outriderref10_Expire_58_L0 n m1 p len c now p6 l6 c6 z zl zc ((i + 1 : Nat) : Int) h) Q) :
    ∀ (d k m2 : Nat) (acc : List En) (dn : Bool) (z : Option (Nat × Nat)) (zl : Nat) (zc : Cap) (h : H), k + d = ql → d < m2 → EGrow a h z zl zc acc → acc.length ≤ k + (if dn then 1 else 0) → tgt = (acc ++ if dn then out.drop k else insN e (out.drop k)) → Mod [] a h →
    Ret (outriderref10_Expire_58_L1 n m1 m2 p len c now p6 l6 c6 q ql qc i z zl zc dn k h) Q
  | 0, k, m2 + 1, acc, dn, z, zl, zc, h, hk, _, g, ha, ht, hm => by
    have hlen := Row.len r encE_len (by omega)
    have holen := Row.len ro encE_len (by omega)
    have hil := (List.getElem?_eq_some_iff.1 he).1
    have hzl : acc.length = zl := Row.len g.row encE_len (by omega)
    have hal : acc.length ≤ k + 1 := by revert ha; split <;> omega
    rw [List.drop_of_length_le (by omega)] at ht
    rw [outriderref10_Expire_58_L1_eq, cast_not_lt (by omega), cond_false]
    cases dn with
    | true =>
      rw [Bool.not_true, cond_false, wrap_succ (by omega)]
      exact K z zl zc h (by rw [ht]; simpa using g) hm
    | false =>
      rw [Bool.not_false, cond_true, Row.ix (Row.mod0 r hm) encE_len (by omega) he, rdE, newK_eq]
      refine Grow.push (size := 8) (bytes := 80) g hm.next (xs := encE e) rfl rfl (by omega) (by omega) (by omega) fun p' c' h' g' m' => ?_
      rw [wrap_succ (by omega)]
      exact K p' (zl + 1) c' h' (by rw [ht]; exact EGrow.snoc g') (hm.push g m')
  | d + 1, k, m2 + 1, acc, dn, z, zl, zc, h, hk, hm2, g, ha, ht, hm => by
    have hlen := Row.len r encE_len (by omega)
    have holen := Row.len ro encE_len (by omega)
    have hil := (List.getElem?_eq_some_iff.1 he).1
    have hx : out[k]? = some (out[k]'(by omega)) := List.getElem?_eq_getElem _
    have hdr : out.drop k = out[k]'(by omega) :: out.drop (k + 1) := List.drop_eq_getElem_cons (by omega)
    generalize out[k]'(by omega) = x at hx hdr
    have J3 : ∀ (acc : List En) (dn : Bool) (z : Option (Nat × Nat)) (zl : Nat) (zc : Cap) (h : H), EGrow a h z zl zc acc → acc.length ≤ k + (if dn then 1 else 0) → tgt = (acc ++ x :: if dn then out.drop (k + 1) else insN e (out.drop (k + 1))) → Mod [] a h →
        Ret (outriderref10_Expire_58_J3 n m1 m2 p len c now p6 l6 c6 q ql qc i z zl zc dn k h) Q := by
      intro acc dn z zl zc h g ha ht hm
      have hzl : acc.length = zl := Row.len g.row encE_len (by omega)
      have hal : acc.length ≤ k + 1 := by revert ha; split <;> omega
      rw [outriderref10_Expire_58_J3_eq, Row.ix (Row.mod0 ro hm) encE_len (by omega) hx, rdE, newK_eq]
      refine Grow.push (size := 8) (bytes := 80) g hm.next (xs := encE x) rfl rfl (by omega) (by omega) (by omega) fun p' c' h' g' m' => ?_
      rw [wrap_succ (by omega)]
      exact Ins_loop r hl ro hql he K d (k + 1) m2 (acc ++ [x]) dn p' (zl + 1) c' h' (by omega) (by omega) (EGrow.snoc g') (by simp; omega) (by rw [ht]; simp) (hm.push g m')
    have hzl : acc.length = zl := Row.len g.row encE_len (by omega)
    have hal : acc.length ≤ k + 1 := by revert ha; split <;> omega
    rw [outriderref10_Expire_58_L1_eq, cast_lt (by omega), cond_true]
    rw [hdr] at ht
    cases dn with
    | true =>
      rw [Bool.not_true, cond_false, outriderref10_Expire_58_J2_eq, cond_false]
      exact J3 acc true z zl zc h g ha ht hm
    | false =>
      rw [Bool.not_false, cond_true, Row.ix2 (Row.mod0 ro hm) encE_len hx 7 (v := .int .i64 x.en) rfl, asInt_int, Row.ix2 (Row.mod0 r hm) encE_len he 7 (v := .int .i64 e.en) rfl, asInt_int, outriderref10_Expire_58_J2_eq]
      simp only [Bool.false_eq_true, if_false] at ht
      unfold insN at ht
      by_cases hgt : x.en > e.en
      · rw [if_pos hgt] at ht
        rw [decide_eq_true hgt, cond_true, Row.ix (Row.mod0 r hm) encE_len (by omega) he, rdE, newK_eq]
        refine Grow.push (size := 8) (bytes := 80) g hm.next (xs := encE e) rfl rfl (by omega) (by omega) (by omega) fun p' c' h' g' m' => ?_
        exact J3 (acc ++ [e]) true p' (zl + 1) c' h' (EGrow.snoc g') (by simp at ha ⊢; omega) (by rw [ht]; simp) (hm.push g m')
      · rw [if_neg hgt] at ht
        rw [decide_eq_false hgt, cond_false]
        exact J3 acc false z zl zc h g ha ht hm

theorem goneR_len (now : Int) (l : List En) (hs : Srt l) : (goneR now l).length ≤ l.length := by
  rw [(goneR_gone hs).perm.length_eq]
  exact List.length_filter_le _ _

theorem refExp_loop {a : H} {p : Option (Nat × Nat)} {len : Nat} {c : Cap} {l : List En} (r : ERow a p len c l) (hs : Srt l) (hl : len < 500) (now : Int) {n : Nat} (hn : 1000 ≤ n) : ∀ (d i m : Nat) (p6 : Option (Nat × Nat)) (l6 : Nat) (c6 : Cap) (p7 : Option (Nat × Nat)) (l7 : Nat) (c7 : Cap) (h : H), i + d = len → d < m →
    EGrow a h p6 l6 c6 (lasting now (l.take i)) → EGrow a h p7 l7 c7 (goneR now (l.take i)) → (∀ x ∈ own p6, x ∉ own p7) → Mod [] a h →
    Ret (outriderref10_Expire_58_L0 n m p len c now p6 l6 c6 p7 l7 c7 i h) fun z h' => EGrow a h' z.1 z.2.1 z.2.2.1 (lasting now l) ∧ EGrow a h' z.2.2.2.1 z.2.2.2.2.1 z.2.2.2.2.2 (goneR now l) ∧ Mod [] a h'
  | 0, i, m + 1, p6, l6, c6, p7, l7, c7, h, hi, _, g6, g7, hd, hm => by
    have hlen := Row.len r encE_len (by omega)
    rw [outriderref10_Expire_58_L0_eq, cast_not_lt (by omega), cond_false]
    rw [List.take_of_length_le (by omega)] at g6 g7
    exact .pure ⟨g6, g7, hm⟩
  | d + 1, i, m + 1, p6, l6, c6, p7, l7, c7, h, hi, hf, g6, g7, hd, hm => by
    have hlen := Row.len r encE_len (by omega)
    have hx : l[i]? = some (l[i]'(by omega)) := List.getElem?_eq_getElem _
    generalize l[i]'(by omega) = e at hx
    have ht : l.take (i + 1) = l.take i ++ [e] := by rw [List.take_add_one, hx]; rfl
    have hsi : Srt (l.take i) := List.Pairwise.sublist (List.take_sublist _ _) hs
    have h6l : (lasting now (l.take i)).length = l6 := Row.len g6.row encE_len (by omega)
    have h7l : (goneR now (l.take i)).length = l7 := Row.len g7.row encE_len (by omega)
    have h6b : (lasting now (l.take i)).length ≤ i := Nat.le_trans (List.length_filter_le _ _) (by simp; omega)
    have h7b : (goneR now (l.take i)).length ≤ i := Nat.le_trans (goneR_len now _ hsi) (by simp; omega)
    have hlas := lasting_snoc now (l.take i) e
    have hgon := goneR_snoc now (l.take i) e
    rw [← ht] at hlas hgon
    have r' := Row.mod0 r hm
    rw [outriderref10_Expire_58_L0_eq, cast_lt (by omega), cond_true, Row.ix2 r' encE_len hx 7 (v := .int .i64 e.en) rfl, asInt_int]
    by_cases hgt : e.en > now
    · have hn' : ¬ e.en ≤ now := by omega
      rw [if_neg hn'] at hlas hgon
      rw [decide_eq_true hgt, cond_true, Row.ix r' encE_len (by omega) hx, rdE, newK_eq]
      refine Grow.push' (size := 8) (bytes := 80) g6 hm.next (xs := encE e) rfl rfl (by omega) (by omega) (by omega) fun p' c' h' g' m' hfr => ?_
      rw [wrap_succ (by omega)]
      have g7' : EGrow a h' p7 l7 c7 (goneR now (l.take (i + 1))) := by rw [hgon]; exact Grow.mod g7 m' fun x hx hx6 => hd x hx6 hx
      exact refExp_loop r hs hl now hn d (i + 1) m p' (l6 + 1) c' p7 l7 c7 h' (by omega) (by omega) (by rw [hlas]; exact EGrow.snoc g') g7' (fun x hx hx7 => by have := hfr x hx; have := (g7.own_ge x hx7).2; omega) (hm.push g6 m')
    · have hn' : e.en ≤ now := by omega
      rw [if_pos hn'] at hlas hgon
      rw [List.append_nil] at hlas
      rw [decide_eq_false hgt, cond_false]
      have := Ins_loop (a := h) r' (by omega) g7.row (by omega) hx (now := now) (n := n) (m1 := m) (p6 := p6) (l6 := l6) (c6 := c6) (tgt := goneR now (l.take (i + 1))) (fun z zl zc h2 gz mz => refExp_loop r hs hl now hn d (i + 1) m p6 l6 c6 z zl zc h2 (by omega) (by omega) (by rw [hlas]; exact g6.mod0 mz) (Grow.base gz hm.next) (fun x hx hz => by have := (g6.own_ge x hx).2; have := (gz.own_ge x hz).1; omega) (hm.trans mz)) l7 0 n [] false none 0 (.known 0) h (by omega) (by omega) .nil (by simp) (by rw [hgon]; simp) (Mod.refl _ _)
      exact this

theorem refExp_ret {h : H} {p : Option (Nat × Nat)} {len : Nat} {c : Cap} {l : List En} (r : ERow h p len c l) (hs : Srt l) (hl : len < 500) (now : Int) {n : Nat} (hn : 1000 ≤ n) :
    Ret (outriderref10_Expire_58 n p len c now h) fun z h' => EGrow h h' z.1 z.2.1 z.2.2.1 (lasting now l) ∧ EGrow h h' z.2.2.2.1 z.2.2.2.2.1 z.2.2.2.2.2 (goneR now l) ∧ Mod [] h h' := by
  rw [outriderref10_Expire_58_eq]
  exact refExp_loop r hs hl now hn len 0 n none 0 (.known 0) none 0 (.known 0) h (by omega) (by omega) .nil .nil (by simp) (Mod.refl _ _)

end Go.Ev.Try
