/- Chapter 08: New, whole. -/
import Derived.Test.YtlodaclifccchaaMg10
set_option linter.all false
namespace Go.Ev.Try
set_option maxRecDepth 10000
open Go.Proofs

theorem Row.none_len {h : H} {size len : Nat} {c : Cap} {vs : List AV} (s : Row h size none len c vs) : len = 0 := by cases s; rfl
theorem Clone_ret {h : H} {p : Option (Nat × Nat)} {len : Nat} {c : Cap} {L : List Bk} (hs : KRow h p len c L) (h1 : 1 ≤ L.length) (hl : L.length ≤ 1000) (n : Nat) :
    Ret (maglev_Backend_24 n p len c h) fun z h' => KRow h' z.1 z.2.1 z.2.2 L ∧ Mod [] h h' := by
  have hlen := Row.len hs encK_len (by omega)
  rw [maglev_Backend_24_eq, eqVK_slice Try.underlying28 hs]
  have hp : p.isNone = false := by
    cases p with
    | some _ => rfl
    | none => have := Row.none_len hs; omega
  rw [hp, cond_false, newK_eq]
  have m1 : Mod [] h (h.new (.cells [] false)) := (Mod.refl _ _).new _
  have g1 := get_new_self h (.cells [] false)
  have n1 : (h.new (.cells [] false)).next = h.next + 1 := rfl
  generalize h.new (.cells [] false) = h1 at *
  have g0 : Grow h h1 2 (some (h.next, 0)) 0 (.known 0) [] := ⟨.inr ⟨h.next, rfl, by omega, by omega, g1, rfl, .inr rfl⟩⟩
  have hs1 := Row.mod0 hs m1
  have hsl := Row.length hs1
  have hce : (L.flatMap encK).all isCell = true := by
    rw [List.all_flatMap, List.all_eq_true]
    intro s _; rfl
  refine Grow.ret (bytes := 24) g0 (by omega) hs1.src hsl hce (by omega) (by omega) (fun h0 => by
    have := Row.length hs; rw [h0] at this; exact List.eq_nil_of_length_eq_zero (by simpa using this)) fun p' c' h8 g8 m8 => ?_
  rw [List.nil_append] at g8
  refine .pure ⟨g8.row, m1.trans' m8 fun x hx hl => ?_⟩
  simp at hx
  omega

structure Tab (h : H) (tb : Nat) (L : List Bk) (P R : List Int) : Prop where
  ex : ∃ lp lc rp rl rc, h.get tb = some (.cells (tcs lp L.length lc P rp rl rc) false) ∧ KRow h lp L.length lc L ∧ Row h 1 rp rl rc (R.map i64)
  plen : P.length = 251
  lt : tb < h.next

theorem Tab.mod0 {h h' : H} {tb : Nat} {L : List Bk} {P R : List Int} (t : Tab h tb L P R) (m : Mod [] h h') : Tab h' tb L P R := by
  obtain ⟨lp, lc, rp, rl, rc, g, r1, r2⟩ := t.ex
  exact ⟨⟨lp, lc, rp, rl, rc, (m.get _ t.lt (by simp)).trans g, Row.mod0 r1 m, Row.mod0 r2 m⟩, t.plen, m.lt t.lt⟩

theorem tkOf_ok {key : List Int} {L : List Bk} (ho : okL L) {i : Nat} (hi : i < L.length) : (tkOf key L i).Ok (topTo L) := by
  have hk : L[i]? = some L[i] := List.getElem?_eq_getElem hi
  have hok := ho.2.2.1 L[i] (List.getElem_mem hi)
  have hu := u64_two (key := key) (s := nm L i)
  have h1 := hu.1.1
  have h2 := hu.2.1
  refine ⟨by unfold tkOf; simp, ?_, ?_, by unfold tkOf; simp only; omega, by unfold tkOf; simp only; omega, by unfold tkOf; simp only; omega, by unfold tkOf; simp only; omega⟩
  · show 1 ≤ wt L i
    rw [wt_of hk]; exact hok.2.2.1
  · show wt L i ≤ topTo L
    rw [wt_of hk]; exact topTo_ge (List.getElem_mem hi)
theorem IsOrd.mem {L : List Bk} {ys : List Nat} (h : IsOrd L ys) (i : Nat) : i ∈ ys ↔ i < L.length := by rw [h.perm.mem_iff, List.mem_range]
theorem tks_st {key : List Int} {L : List Bk} (ho : okL L) {ys : List Nat} (hy : IsOrd L ys) : StT (topTo L) (List.replicate 251 (-1), tks key L ys) := by
  obtain ⟨b, hb, e⟩ := topTo_ex ho
  obtain ⟨i, hi⟩ := List.getElem?_of_mem hb
  have hb1 := (ho.2.2.1 b hb).2.2.1
  refine ⟨by simp, fun x hx => ?_, ⟨(tkOf key L i, 0), ?_, ?_⟩⟩
  · unfold tks at hx
    obtain ⟨j, hj, rfl⟩ := List.mem_map.1 hx
    exact ⟨tkOf_ok ho ((hy.mem j).1 hj), Int.le_refl _, by simp only; omega⟩
  · exact List.mem_map.2 ⟨i, (hy.mem i).2 (List.getElem?_eq_some_iff.1 hi).1, rfl⟩
  · show wt L i = topTo L
    rw [wt_of hi, e]

set_option maxRecDepth 100000 in
theorem New_ret {h : H} {key : List Int} (hk : Bytes key) (hk2 : key.length = 16) {p : Option (Nat × Nat)} {len : Nat} {c : Cap} {L : List Bk} (hs : KRow h p len c L) {n : Nat} (hn : 5000 ≤ n) :
    Ret (maglev_New_10 n (u8s key) p len c h) fun z h' => Mod [] h h' ∧ if okL L then ∃ tb ys, z = (some (tb, 0), 0) ∧ IsOrd L ys ∧ Tab h' tb L (placesOf key L ys) (ringOf L ys) else z = (none, 80) := by
  have hlen := Row.len hs encK_len (by omega)
  subst hlen
  rw [maglev_New_10_eq, newK_eq, newK_eq]
  have m2 : Mod [] h ((h.new (.cells (u8s key) false)).new (.cells [.slice p L.length c] false)) := ((Mod.refl _ _).new _).new _
  have g1 : ((h.new (.cells (u8s key) false)).new (.cells [.slice p L.length c] false)).get h.next = some (.cells (u8s key) false) := (get_new_lt (Nat.lt_succ_self _)).trans (get_new_self _ _)
  have g3 : ((h.new (.cells (u8s key) false)).new (.cells [.slice p L.length c] false)).get (h.next + 1) = some (.cells [.slice p L.length c] false) := get_new_self _ _
  have n2 : ((h.new (.cells (u8s key) false)).new (.cells [.slice p L.length c] false)).next = h.next + 2 := rfl
  rw [show (h.new (.cells (u8s key) false)).next = h.next + 1 from rfl]
  generalize (h.new (.cells (u8s key) false)).new (.cells [.slice p L.length c] false) = h4 at *
  rw [cellK_of (o := 0) g3 rfl, asSlice_slice]
  refine (right_ret (Row.mod0 hs m2) (n := n) (by omega)).bind fun r h5 ⟨er, m5⟩ => ?_
  subst er
  simp only
  have hn5 := m5.next
  have m05 := m2.trans m5
  by_cases ho : okL L
  rotate_left
  · rw [decide_eq_false ho, Bool.not_false, cond_true]
    exact .pure ⟨m05, by rw [if_neg ho]⟩
  rw [decide_eq_true ho, Bool.not_true, cond_false, cellK_of (o := 0) ((m5.get _ (by omega) (by simp)).trans g3) rfl, asSlice_slice]
  refine (Clone_ret (Row.mod0 hs m05) ho.1 (by have := ho.2.1; omega) n).bind fun z h6 ⟨crow, m6⟩ => ?_
  obtain ⟨clp, cll, clc⟩ := z
  simp only at crow ⊢
  have hcl := Row.len crow encK_len (by omega)
  subst hcl
  have hn6 := m6.next
  show Ret (newK (AObj.cells (tcs clp L.length clc (List.replicate 251 0) none 0 (.known 0)) false) h6 _) _
  rw [newK_eq]
  have m7 : Mod [] h6 (h6.new (.cells (tcs clp L.length clc (List.replicate 251 0) none 0 (.known 0)) false)) := (Mod.refl _ _).new _
  have g7 := get_new_self h6 (.cells (tcs clp L.length clc (List.replicate 251 0) none 0 (.known 0)) false)
  have n7 : (h6.new (.cells (tcs clp L.length clc (List.replicate 251 0) none 0 (.known 0)) false)).next = h6.next + 1 := rfl
  generalize h6.new (.cells (tcs clp L.length clc (List.replicate 251 0) none 0 (.known 0)) false) = h7 at *
  have m47 := (m5.trans m6).trans m7
  have g17 := (m47.get _ (by omega) (by simp)).trans g1
  have g37 := (m47.get _ (by omega) (by simp)).trans g3
  rw [cellK_of (o := 0) g37 rfl, asSlice_slice]
  have lrow7 : KRow h7 p L.length c L := Row.mod0 hs (m2.trans m47)
  have crow7 : KRow h7 clp L.length clc L := Row.mod0 crow m7
  have hL := ho.2.1
  have hclt : ∀ x ∈ own clp, x < h6.next := fun x hx => Row.lt crow x hx
  have hplt : ∀ x ∈ own p, x < h.next := fun x hx => Row.lt hs x hx
  have t0 : TkRow h7 h7 key L none 0 (.known 0) [] (List.range 0) := ⟨.nil, rfl, fun i b j e => by simp at e, fun b hb => by simp at hb, .nil, Mod.refl _ _⟩
  refine New_L0 hk hk2 ho (a := h7) (i1 := h.next) (i3 := h.next + 1) (tb := h6.next) (lp := p) (lc := c) (by omega) (by omega) g17 lrow7 hn (fun q ql qc ps h8 t => ?_) L.length 0 n none 0 (.known 0) [] h7 (by omega) (by omega) t0
  obtain ⟨ys, bs, h9, hys, e9, t9⟩ := tkSort ho.2.2.2 hL t (i3 := h.next + 1) (by omega) ((t.m.get _ (by omega) (by simp)).trans g37) lrow7 n
  rw [e9, Option.bind_some]
  simp only
  have hn9 := t9.m.next
  have hql := t9.grow.row.len1
  subst hql
  have hyl : ys.length = L.length := by rw [hys.perm.length_eq, List.length_range]
  have hbl : bs.length = L.length := by rw [t9.len, hyl]
  have hbs := t9.fresh
  have hqo := fun x hx => (t9.grow.own_ge x hx)
  refine New_L1 (a := h9) (lp := clp) (ll := L.length) (lc := clc) (fun h10 m10 g10 => ?_) 251 0 n h9 (by omega) (by omega) (Mod.refl _ _) ((t9.m.get _ (by omega) (by simp)).trans g7)
  have hn10 := m10.next
  have f10 : FRep h10 h10 h6.next L clp clc q qc bs (ys.map fun i => tkOf key L i) (List.replicate 251 (-1)) (tks key L ys) := by
    refine ⟨by unfold tks; rw [List.map_map]; rfl, g10, fun i b x e1 e2 => ⟨0, fun j hj => by omega, ?_⟩, by simp, by unfold tks; rw [List.length_map]; omega, Row.mod t9.grow.row m10 fun x hx hx' => ?_, Row.mod (Row.mod0 crow7 t9.m) m10 fun x hx hx' => ?_, fun x hx => ?_, ⟨fun hx => ?_, fun hx => ?_, fun hx => ?_⟩, fun x hx => ⟨(hbs x hx).2.2, fun hx' => ?_⟩, t9.nd, ⟨by omega, fun x hx => by have := hbs x hx; omega⟩, Mod.refl _ _⟩
    · unfold tks at e2
      rw [List.getElem?_map] at e2
      obtain ⟨j, hj, rfl⟩ := Option.map_eq_some_iff.1 e2
      have := hbs b (List.mem_of_getElem? e1)
      exact (m10.get _ (by omega) (by simp; omega)).trans (t9.blk i b j e1 hj)
    · have := hqo x hx; simp at hx'; omega
    · have := hclt x hx; simp at hx'; omega
    · unfold tks at hx
      obtain ⟨j, hj, rfl⟩ := List.mem_map.1 hx
      have hjl := (hys.mem j).1 hj
      have hkk : L[j]? = some L[j] := List.getElem?_eq_getElem hjl
      refine ⟨(L[j]).1, ?_⟩
      show L[((j : Nat) : Int).toNat]? = some ((L[j]).1, wt L j)
      rw [Int.toNat_natCast, wt_of hkk, hkk]
    · have := hbs _ hx; omega
    · have := hqo _ hx; omega
    · have := hclt _ hx; omega
    · have := hbs x hx; have := hclt x hx'; omega
  have hst := tks_st (key := key) ho hys
  have hfill := fill_ret (n := n) (topTo_le ho) (by omega) (by omega) f10 hst (by unfold free; rw [List.count_replicate_self])
  refine hfill.bind fun _ h11 ⟨ts', f11⟩ => ?_
  simp only
  have hn11 := f11.m.next
  have hfl : (placesOf key L ys).length = 251 := by unfold placesOf finP; rw [runs_len]; simp
  have hne3 : h.next + 1 ∉ h6.next :: bs := fun hx => by
    rcases List.mem_cons.1 hx with hx | hx
    · omega
    · have := hbs _ hx; omega
  have g311 : h11.get (h.next + 1) = some (.cells [.slice p L.length c] false) := (f11.m.get _ (by omega) hne3).trans ((m10.get _ (by omega) (by simp; omega)).trans ((t9.m.get _ (by omega) (by simp)).trans g37))
  have lrow11 : KRow h11 p L.length c L := Row.mod (Row.mod (Row.mod0 lrow7 t9.m) m10 fun x hx hx' => by have := hplt x hx; simp at hx'; omega) f11.m fun x hx hx' => by
    have := hplt x hx
    rcases List.mem_cons.1 hx' with hx' | hx'
    · omega
    · have := hbs _ hx'; omega
  refine (New_L2 ho (a := h11) (key := key) (i3 := h.next + 1) (tb := h6.next) (lp := clp) (lc := clc) hfl hys t9.len (by omega) (by omega) (by omega) g311 lrow11 (fun hx => by have := hplt _ hx; omega) f11.row (fun hx => by have := hqo _ hx; omega) (fun i b j e1 e2 => ?_) hn bs.length 0 n h11 none 0 (.known 0) (by omega) (by omega) (Mod.refl _ _) f11.tab .nil).mono fun z h12 ⟨ez, m12, rp, rl, rc, g12, r12⟩ => ⟨?_, ?_⟩
  · have hbb := hbs b (List.mem_of_getElem? e1)
    have hil : i < ts'.length := by have := (List.getElem?_eq_some_iff.1 e1).1; have := f11.len; omega
    have hx : ts'[i]? = some ts'[i] := List.getElem?_eq_getElem hil
    obtain ⟨tr, _, gb⟩ := f11.tk i b _ e1 hx
    have hte : (ts'[i]).1 = tkOf key L j := by
      have h1 : (ts'.map (·.1))[i]? = some (ts'[i]).1 := by rw [List.getElem?_map, hx]; rfl
      rw [f11.tks, List.getElem?_map, e2] at h1
      exact (Option.some.inj h1).symm
    rw [hte] at gb
    exact ⟨by omega, by omega, _, _, gb⟩
  · refine (((m2.trans m47).trans t9.m).trans' m10 fun x hx hl => by simp at hx; omega).trans' (f11.m) (fun x hx hl => ?_) |>.trans' m12 fun x hx hl => by simp at hx; omega
    rcases List.mem_cons.1 hx with hx | hx
    · omega
    · have := hbs _ hx; omega
  · rw [if_pos ho]
    refine ⟨h6.next, ys, ez, hys, ⟨clp, clc, rp, rl, rc, g12, Row.mod f11.lrow m12 fun x hx hx' => ?_, r12⟩, hfl, by have := m12.next; omega⟩
    have := hclt x hx; simp at hx'; omega

end Go.Ev.Try
