/- The abstract machine Ev, part Up: what comes in where its bulk is bounded: each text's length, each slice's. -/
import Derived.Test.YtgaflglknjjalaaEvS
set_option linter.all false
namespace Go.Ev

/-- a measure of what is read: no part is greater than the whole, no text longer -/
structure Bulk {H : Type} (b : DataW H → Nat) : Prop where
  str : ∀ l : List UInt8, l.length ≤ b (.lit (.string l))
  agg : ∀ (ds : List (DataW H)) (d : DataW H), d ∈ ds → b d ≤ b (.agg ds)
  el : ∀ (el sp : List (DataW H)) (d : DataW H), d ∈ el → b d ≤ b (.slice el sp)
  sp : ∀ (el sp : List (DataW H)) (d : DataW H), d ∈ sp → b d ≤ b (.slice el sp)

def Strs (B : Nat) (as : List AV) : Prop := ∀ s, AV.str s ∈ as → s.size ≤ B
theorem Strs.nil (B : Nat) : Strs B [] := fun s h => by cases h
theorem Strs.append {B : Nat} {as bs : List AV} (h : Strs B as) (k : Strs B bs) : Strs B (as ++ bs) := fun s hs => (List.mem_append.1 hs).elim (h s) (k s)

section
variable {H : Type} {enc : TypeId × Value → H} {P : Program} {w : World} {base : Nat} {spare : Nat → Bool} {held : Bool} {b : DataW H → Nat}

theorem flat_fieldsB {r : Ren} {B n m : Nat} (ih : ∀ t ks cs x, flatK P n t = some ks → DataW.trod enc P w base spare held m t cs = some x → b x.1 ≤ B → ∃ as, VRL r as cs ∧ Fits ks as ∧ Strs B as) {cs : List Value} :
    ∀ (fs : List Field) (off : Nat) (ks : List FK), flatFields P (flatK P n) fs off = some ks → (∀ (i : Nat) (f : Field), fs[i]? = some f → ∃ x, DataW.trod enc P w base spare held m f.type ((cs.drop f.offset).take (P.cellsOf f.type)) = some x ∧ b x.1 ≤ B) → cs.length = off + ks.length →
      ∃ as, VRL r as (cs.drop off) ∧ Fits ks as ∧ Strs B as
  | [], off, ks, hf, _, hl => by
    simp only [flatFields] at hf
    cases hf
    exact ⟨[], by rw [List.drop_of_length_le (by simp at hl; omega)]; exact .nil, .nil, .nil _⟩
  | fd :: fs, off, ks, hf, hx, hl => by
    simp only [flatFields] at hf
    split at hf
    · rename_i ho
      split at hf
      · rename_i l hfl
        split at hf
        · rename_i hc
          obtain ⟨ls, hls, rfl⟩ := Option.map_eq_some_iff.1 hf
          obtain ⟨x, hx0, hb⟩ := hx 0 fd rfl
          obtain ⟨as, h1, h2, h5⟩ := ih _ _ _ _ hfl hx0 hb
          obtain ⟨bs, h3, h4, h6⟩ := flat_fieldsB ih fs (off + l.length) ls hls (fun i f hi => hx (i + 1) f hi) (by simp at hl; omega)
          refine ⟨as ++ bs, ?_, h2.append h4, h5.append h6⟩
          have := h1.append h3
          rw [ho, hc] at this
          rw [← List.drop_drop, List.take_append_drop] at this
          exact this
        · cases hf
      · cases hf
    · cases hf

theorem flat_itemsB {r : Ren} {B n m e c : Nat} {ks : List FK} (hk : flatK P n e = some ks) (hc : c = ks.length) (ih : ∀ t ks cs x, flatK P n t = some ks → DataW.trod enc P w base spare held m t cs = some x → b x.1 ≤ B → ∃ as, VRL r as cs ∧ Fits ks as ∧ Strs B as) {cs : List Value} :
    ∀ (k off : Nat), (∀ i, off ≤ i → i < off + k → ∃ x, DataW.trod enc P w base spare held m e ((cs.drop (i * c)).take c) = some x ∧ b x.1 ≤ B) → cs.length = (off + k) * c → ∃ as, VRL r as (cs.drop (off * c)) ∧ Fits (List.replicate k ks).flatten as ∧ Strs B as
  | 0, off, _, hl => ⟨[], by rw [List.drop_of_length_le (by simp at hl; omega)]; exact .nil, by simpa using .nil, .nil _⟩
  | k + 1, off, hx, hl => by
    obtain ⟨x, hx0, hb⟩ := hx off (Nat.le_refl _) (by omega)
    obtain ⟨as, h1, h2, h5⟩ := ih _ _ _ _ hk hx0 hb
    obtain ⟨bs, h3, h4, h6⟩ := flat_itemsB hk hc ih k (off + 1) (fun i h1 h2 => hx i (by omega) (by omega)) (by rw [hl]; congr 1; omega)
    refine ⟨as ++ bs, ?_, ?_, h5.append h6⟩
    · have := h1.append h3
      rw [Nat.add_mul, Nat.one_mul, ← List.drop_drop, List.take_append_drop] at this
      exact this
    · rw [List.replicate_succ, List.flatten_cons]; exact h2.append h4

theorem flat_openB (hB : Bulk b) {r : Ren} {B : Nat} : ∀ (n : Nat) (fuel : Nat) (t : TypeId) (ks : List FK) (cs : List Value) (x : DataW H × List MemPlace), flatK P n t = some ks → DataW.trod enc P w base spare held fuel t cs = some x → b x.1 ≤ B → ∃ as, VRL r as cs ∧ Fits ks as ∧ Strs B as
  | 0, _, _, _, _, _, hf, _, _ => by cases hf
  | n + 1, 0, _, _, _, _, _, h, _ => by simp [DataW.trod] at h
  | n + 1, m + 1, t, ks, cs, x, hf, h, hb => by
    unfold flatK at hf
    split at hf
    · rename_i k hu
      cases hf
      unfold DataW.trod at h
      rw [hu] at h
      split at h <;> simp_all
      obtain ⟨hh, _⟩ := h
      exact ⟨[.int _ _], .cons (.int _ _) .nil, .cons ⟨_, rfl, hh.2⟩ .nil, fun s hs => by simp at hs⟩
    · rename_i hu
      cases hf
      unfold DataW.trod at h
      rw [hu] at h
      split at h <;> simp_all
      rename_i b
      exact ⟨[.bool b], .cons (.bool _) .nil, .cons ⟨_, rfl⟩ .nil, fun s hs => by simp at hs⟩
    · rename_i hu
      cases hf
      unfold DataW.trod at h
      rw [hu] at h
      split at h <;> simp_all
      rename_i s
      obtain ⟨h1, h2⟩ := h
      refine ⟨[.str s], .cons (.str _) .nil, .cons ⟨_, rfl, h1⟩ .nil, fun s' hs => ?_⟩
      obtain rfl : s' = s := by simpa using hs
      have h3 := hB.str s'.data.toList
      have h4 : s'.data.toList.length = s'.size := by rw [Array.length_toList]; rfl
      rw [← h2] at hb
      have : b (DataW.lit (.string s'.data.toList)) ≤ B := hb
      omega
    · rename_i k e hu
      split at hf
      · rename_i l hl
        split at hf
        · rename_i hc
          cases hf
          obtain ⟨xs, m', hm, hx, hlen, hxl, hel⟩ := DataW.trod_array hu h
          cases hm
          obtain ⟨as, h1, h2, h3⟩ := flat_itemsB (r := r) (c := P.cellsOf e) hl hc.1 (fun t ks cs x => flat_openB hB n m t ks cs x) k 0 (cs := cs) (fun i _ hi => by
            rw [hel i (by omega)]
            refine ⟨_, List.getElem?_eq_getElem (by omega), ?_⟩
            rw [hx] at hb
            exact Nat.le_trans (hB.agg _ _ (List.mem_map_of_mem (List.getElem_mem _))) hb) (by rw [hlen, hc.2, hc.1]; simp)
          exact ⟨as, by simpa using h1, h2, h3⟩
        · cases hf
      · cases hf
    · rename_i fs hu
      split at hf
      · rename_i l hl
        split at hf
        · rename_i hc
          cases hf
          obtain ⟨xs, m', hm, hx, hlen, hxl, hel⟩ := DataW.trod_struct hu h
          cases hm
          obtain ⟨as, h1, h2, h3⟩ := flat_fieldsB (r := r) (fun t ks cs x => flat_openB hB n m t ks cs x) fs.toList 0 ks hl (cs := cs) (fun i f hi => by
            have hi' : fs[i]? = some f := by simpa using hi
            rw [hel i f hi']
            have := (List.getElem?_eq_some_iff.1 hi).1
            refine ⟨_, List.getElem?_eq_getElem (by rw [hxl]; simpa using this), ?_⟩
            rw [hx] at hb
            exact Nat.le_trans (hB.agg _ _ (List.mem_map_of_mem (List.getElem_mem _))) hb) (by rw [hlen, hc]; simp)
          exact ⟨as, by simpa using h1, h2, h3⟩
        · cases hf
      · cases hf
    · cases hf

theorem open_itemsB (hB : Bulk b) {r : Ren} {B : Nat} {a : Addr} {n m e c : Nat} {ks : List FK} (hk : flatK P n e = some ks) (hc : c = ks.length) : ∀ (k off : Nat), (∀ i, off ≤ i → i < off + k → ∃ x, (w.cells? base (a.add (i * c)) c).bind (DataW.trod enc P w base spare held m e) = some x ∧ b x.1 ≤ B) →
    ∃ as, Fits (List.replicate k ks).flatten as ∧ Strs B as ∧ ∀ j x, as[j]? = some x → ∃ v, w.cell? (a.add (off * c + j)) = some v ∧ VR r x v
  | 0, off, _ => ⟨[], by simpa using .nil, .nil _, fun j x h => by simp at h⟩
  | k + 1, off, hx => by
    obtain ⟨x, hx0, hb⟩ := hx off (Nat.le_refl _) (by omega)
    obtain ⟨vs, hv, hx0⟩ := Option.bind_eq_some_iff.1 hx0
    obtain ⟨hl, hg⟩ := cells_mem hv
    obtain ⟨as, h1, h2, h7⟩ := flat_openB hB (r := r) n m e ks vs x hk hx0 hb
    obtain ⟨bs, h3, h8, h4⟩ := open_itemsB hB (r := r) (a := a) hk hc k (off + 1) (fun i h1 h2 => hx i (by omega) (by omega))
    have hal : as.length = c := by rw [h1.1, hl]
    refine ⟨as ++ bs, ?_, h7.append h8, fun j y hj => ?_⟩
    · rw [List.replicate_succ, List.flatten_cons]; exact h2.append h3
    · rcases Nat.lt_or_ge j c with h | h
      · rw [List.getElem?_append_left (by omega)] at hj
        have hv2 : vs[j]? = some (vs[j]'(by omega)) := List.getElem?_eq_getElem _
        refine ⟨_, ?_, h1.2 j y _ hj hv2⟩
        have := hg j h
        rw [hv2, Addr_add_add] at this
        exact this
      · rw [List.getElem?_append_right (by omega), hal] at hj
        obtain ⟨v, h5, h6⟩ := h4 _ _ hj
        refine ⟨v, ?_, h6⟩
        rw [← h5]
        congr 2
        rw [Nat.add_mul]; omega

theorem open_sliceB (hB : Bulk b) {B : Nat} {t e n : Nat} {ks : List FK} {v : Value} {x : DataW H × List MemPlace} {fuel : Nat} (i : Nat) (ht : P.underlying t = some (.slice e)) (hk : flatK P n e = some ks) (hc : P.cellsOf e = ks.length) (h0 : 0 < ks.length)
    (h : DataW.trod enc P w 0 (fun _ => true) true fuel t [v] = some x) (hb : b x.1 ≤ B) {C : Nat} (hC : ∀ el sp, x.1 = .slice el sp → (el.length + sp.length) * C ≤ reachBytes) :
    ∃ p len c tg cs, (Arg i ks C p len c cs ∧ Strs B cs) ∧ (∀ r : Ren, r i = tg → VR r (.slice p len c) v) ∧ (∀ (r : Ren) (t : Tgt), tg = some t → RowOK r w t cs) := by
  rcases DataW.trod_slice ht h with ⟨h1, _⟩ | ⟨a, len, cap, elems, rest, m, _, h1, hx, _, hl, hm, hel, hg, hr, _⟩
  · simp only [List.cons.injEq, and_true] at h1
    subst h1
    exact ⟨none, 0, .known 0, none, [], ⟨⟨⟨0, Nat.le_refl _, by simp, by simpa using .nil, .inl ⟨rfl, rfl, rfl, rfl⟩⟩⟩, .nil _⟩, fun r _ => .nilSlice, fun r t h => by cases h⟩
  · simp only [List.cons.injEq, and_true] at h1
    subst h1
    have hr := hr rfl
    have hsB : cap * C ≤ reachBytes := by
      have := hC _ _ (by rw [hx])
      simpa [hel, hr.1, Nat.add_sub_cancel' hl] using this
    rw [hx] at hb
    obtain ⟨cs, hf, hstr, hcs⟩ := open_itemsB hB (B := B) (r := noRen) (enc := enc) (w := w) (base := 0) (spare := fun _ => true) (held := true) (a := a) (m := m) (e := e) hk hc cap 0 (fun j _ hj => by
      by_cases hjl : j < len
      · rw [hg j hjl]
        exact ⟨_, List.getElem?_eq_getElem (by omega), Nat.le_trans (hB.el _ _ _ (List.mem_map_of_mem (List.getElem_mem _))) hb⟩
      · have := hr.2 (j - len) (by omega)
        rw [show len + (j - len) = j by omega] at this
        rw [this]
        exact ⟨_, List.getElem?_eq_getElem (by omega), Nat.le_trans (hB.sp _ _ _ (List.mem_map_of_mem (List.getElem_mem _))) hb⟩)
    have hlen : cs.length = cap * ks.length := by
      rw [hf.length]; simp
    by_cases hz : cap = 0
    · subst hz
      obtain rfl : len = 0 := by omega
      refine ⟨some (i, 0), 0, .known 0, none, [], ⟨⟨⟨0, Nat.le_refl _, by simp, by simpa using .nil, .inr ⟨rfl, .inr ⟨rfl, rfl⟩⟩⟩⟩, .nil _⟩, fun r _ => .sliceBare a, fun r t h => by cases h⟩
    · have hpos : 0 < cs.length := by rw [hlen]; exact Nat.mul_pos (by omega) h0
      obtain ⟨v0, hv0, _⟩ := hcs 0 _ (List.getElem?_eq_getElem hpos)
      obtain ⟨hsp, C, ce, fz, hbk, _⟩ := cell_block hv0
      have hspot : a.spot = none := by simpa [Addr.add] using hsp
      rw [Addr_add_block] at hbk
      have hcell : ∀ j y, cs[j]? = some y → ∃ u, C[a.off + j]? = some u ∧ VR noRen y u := by
        intro j y hj
        obtain ⟨u, hu, hvr⟩ := hcs j y hj
        obtain ⟨_, C', e', fz', hb', hu'⟩ := cell_block hu
        rw [Addr_add_block, hbk] at hb'
        cases hb'
        rw [Addr_add_off] at hu'
        exact ⟨u, by simpa using hu', hvr⟩
      have hsz : a.off + cs.length ≤ C.size := by
        obtain ⟨u, hu, _⟩ := hcell (cs.length - 1) _ (List.getElem?_eq_getElem (by omega))
        have := (Array.getElem?_eq_some_iff.1 hu).1
        omega
      refine ⟨some (i, 0), len, .rest ks.length, some ⟨a.block, a.off, a.off + cs.length⟩, cs, ⟨⟨⟨cap, hl, hsB, hf, .inr ⟨rfl, .inl rfl⟩⟩⟩, hstr⟩, fun r hri => ?_, fun r t h => ?_⟩
      · obtain ⟨b, o, sp⟩ := a
        simp only at hspot
        subst hspot
        exact .sliceRest (t := ⟨b, o, o + cs.length⟩) len ks.length cap hri (by simp [hlen]) hl
      · cases h
        refine ⟨C, ce, fz, hbk, hsz, Nat.le_refl _, fun j y u hj hu => ?_⟩
        obtain ⟨u', hu', hvr⟩ := hcell j y hj
        simp only at hu
        rw [hu'] at hu
        cases hu
        exact hvr.mono (noRen_le r)

theorem open_aggB (hB : Bulk b) {B : Nat} {t n : Nat} {ks : List FK} {v : Value} {x : DataW H × List MemPlace} {fuel : Nat} (hk : flatK P n t = some ks) (hv : ∃ cs, v = .agg cs) (h : DataW.trod enc P w base spare held fuel t v.cells.toList = some x) (hb : b x.1 ≤ B) :
    ∃ cs, (Fits ks cs ∧ Strs B cs) ∧ ∀ r : Ren, VR r (.agg cs) v := by
  obtain ⟨C, rfl⟩ := hv
  obtain ⟨cs, h1, h2, h3⟩ := flat_openB hB (r := noRen) n fuel t ks _ x hk h hb
  refine ⟨cs, ⟨h2, h3⟩, fun r => .agg _ _ ?_ fun i a u ha hu => ?_⟩
  · simpa [Value.cells] using h1.1
  · exact (h1.2 i a u ha (by simpa [Value.cells] using hu)).mono (noRen_le r)
end

end Go.Ev
