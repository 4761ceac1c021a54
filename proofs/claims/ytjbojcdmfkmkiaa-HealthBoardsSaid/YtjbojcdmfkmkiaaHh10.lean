/- Chapter 09: Move. -/
import Derived.Test.YtjbojcdmfkmkiaaHh9
set_option linter.all false
namespace Go.Ev.Try
set_option maxRecDepth 10000

def due (upto x : Int) : Bool := decide (x ≤ upto)
/-- what was told behind k slots -/
def toldBy (now upto : Int) (k : Nat) (x : Int) : Bool := (isFar now x || decide (x ≤ now + k)) && due upto x

theorem dueOf_keys (T : List (Int × Int)) (upto : Int) (l : List (Int × Bool)) : dueOf T upto l = (keys l).filter fun id => due upto (timeOf T id) := by
  unfold dueOf keys
  rw [List.filter_map]
  rfl

section
variable {b : Nat} {now : Int} {sl : List Nat} {fm tm : Nat} {S : Nat → List (Int × Bool)} {F : List (Int × Bool)} {T : List (Int × Int)}

theorem dueOf_perm (ok : WOk now S F T) {upto : Int} {l : List (Int × Bool)} {p : Int → Bool} (hp : (keys l).Perm (idsOf p T)) : (dueOf T upto l).Perm (idsOf (fun x => p x && due upto x) T) := by
  rw [dueOf_keys, ← idsOf_map ok.nd]
  exact hp.filter _

theorem len_idsOf (p : Int → Bool) (T : List (Int × Int)) : (idsOf p T).length ≤ T.length := by
  unfold idsOf; rw [List.length_map]; exact List.length_filter_le _ _
theorem WOk.len_slot (ok : WOk now S F T) (k : Nat) : (S k).length ≤ T.length := by
  have h1 := (ok.slot k).length_eq
  have := len_idsOf (inSlot now k) T
  unfold keys at h1
  rw [List.length_map] at h1
  omega
theorem WOk.len_far (ok : WOk now S F T) : F.length ≤ T.length := by
  have h1 := ok.far.length_eq
  have := len_idsOf (isFar now) T
  unfold keys at h1
  rw [List.length_map] at h1
  omega

theorem told_step (ok : WOk now S F T) {upto : Int} {k : Nat} (hk : k + 1 ≤ 256) {acc acc' : List Int} (h1 : acc.Perm (idsOf (toldBy now upto k) T)) (h2 : acc'.Perm (acc ++ dueOf T upto (S (slotOf (now + ((k + 1 : Nat) : Int)))))) : acc'.Perm (idsOf (toldBy now upto (k + 1)) T) := by
  refine h2.trans (List.Perm.trans ?_ (idsOf_split (toldBy now upto (k + 1)) (fun x => isFar now x || decide (x ≤ now + k)) T).symm)
  have n0 := ok.n0
  refine List.Perm.append (h1.trans ?_) ((dueOf_perm ok (ok.slot _)).trans ?_)
  · rw [idsOf_congr (p := toldBy now upto k) (q := fun x => toldBy now upto (k + 1) x && (isFar now x || decide (x ≤ now + k)))]
    intro e _
    unfold toldBy isFar due
    rw [Bool.eq_iff_iff]
    simp only [Bool.and_eq_true, Bool.or_eq_true, decide_eq_true_eq]
    constructor
    · rintro ⟨h, h'⟩; exact ⟨⟨h.imp id fun h => by omega, h'⟩, h⟩
    · rintro ⟨⟨_, h'⟩, h⟩; exact ⟨h, h'⟩
  · rw [idsOf_congr (p := fun x => inSlot now (slotOf (now + ((k + 1 : Nat) : Int))) x && due upto x) (q := fun x => toldBy now upto (k + 1) x && !(isFar now x || decide (x ≤ now + k)))]
    intro e _
    unfold toldBy isFar due inSlot near slotOf
    rw [Bool.eq_iff_iff]
    simp only [Bool.and_eq_true, Bool.or_eq_true, decide_eq_true_eq, Bool.not_eq_true', Bool.or_eq_false_iff, decide_eq_false_iff_not, Decidable.not_not]
    constructor
    · rintro ⟨⟨⟨h1, h2⟩, h3⟩, h4⟩; exact ⟨⟨.inr (by omega), h4⟩, ⟨h1, h2⟩, by omega⟩
    · rintro ⟨⟨h1, h4⟩, ⟨h2, h3⟩, h5⟩
      refine ⟨⟨⟨h2, h3⟩, ?_⟩, h4⟩
      rcases h1 with h1 | h1
      · exact absurd ⟨h2, h3⟩ h1
      · congr 1; omega

theorem told_all {upto : Int} {k : Nat} (hk : (k : Int) = upto - now ∨ k = 256) : idsOf (toldBy now upto k) T = idsOf (due upto) T := by
  refine idsOf_congr fun e _ => ?_
  unfold toldBy isFar due near
  rw [Bool.eq_iff_iff]
  simp only [Bool.and_eq_true, Bool.or_eq_true, decide_eq_true_eq]
  constructor
  · exact fun h => h.2
  · intro h
    refine ⟨?_, h⟩
    by_cases hn : e.2 > now ∧ e.2 < now + 256
    · exact .inr (by omega)
    · exact .inl hn

/-- the slots that time passes -/
theorem Move_L1 {a : H} {bw bn bl : Nat} {upto : Int} (ok : WOk now S F T) (hsz : T.length < 400000) {n : Nat} (hn : T.length < n) {kk : (Option (Nat × Nat) × Nat × Cap) → H → Option Unit} {steps : Nat} (hp : steps ≤ 256)
    (hk : ∀ h' acc', DueSt a h' b now sl fm tm S F T bw bn bl upto acc' → acc'.Perm (idsOf (toldBy now upto steps) T) → (nnK (some (bw, 0)) fun b57 o58 => cellK h' b57 o58 fun v59 => asPtr v59 fun x60 => nnK (some (bl, 0)) fun b61 o62 => cellK h' b61 o62 fun v63 => asSlice v63 fun x64 n65 c66 => (wheel_Wheel_order_35 n x60 x64 n65 c66 h').bind fun r67 => nnK (some (bl, 0)) fun b68 o69 => cellK r67.2 b68 o69 fun v70 => asSlice v70 fun x71 n72 c73 => wheel_Wheel_Move_29_L2 n kk n (some (bw, 0)) (some (bn, 0)) (some (bl, 0)) x71 n72 c73 (Nat.cast n72) 0 r67.2) = some ()) :
    ∀ (d k fuel : Nat) (h : H) (acc : List Int), k + d = steps → d < fuel → DueSt a h b now sl fm tm S F T bw bn bl upto acc → acc.Perm (idsOf (toldBy now upto k) T) →
      wheel_Wheel_Move_29_L1 n kk fuel (some (bw, 0)) (some (bn, 0)) (some (bl, 0)) (some (bw, 0)) (some (bn, 0)) (some (bl, 0)) steps ((k + 1 : Nat) : Int) h = some ()
  | 0, k, fuel + 1, h, acc, hkd, _, s, hacc => by
    rw [wheel_Wheel_Move_29_L1_eq, decide_eq_false (by omega), cond_false]
    obtain rfl : k = steps := by omega
    exact hk h acc s hacc
  | d + 1, k, fuel + 1, h, acc, hkd, hf, s, hacc => by
    have n0 := ok.n0
    have n1 := ok.n1
    rw [wheel_Wheel_Move_29_L1_eq, decide_eq_true (by omega), cond_true]
    simp only [nnK_some']
    rw [cellK_of s.gw rfl, asPtr_ptr, cellK_of s.gw rfl, asPtr_ptr]
    simp only [nnK_some']
    rw [cellK_of s.w.obj rfl, asInt_int, wrap_i64 (by omega) (by omega), Int.tmod_eq_emod_of_nonneg (by omega), if_pos ⟨by omega, by omega⟩]
    have hks : ((now + ((k + 1 : Nat) : Int)) % 256).toNat < sl.length := by rw [s.w.len]; omega
    have hs : sl[((now + ((k + 1 : Nat) : Int)) % 256).toNat]? = some sl[((now + ((k + 1 : Nat) : Int)) % 256).toNat] := List.getElem?_eq_getElem hks
    rw [Nat.zero_add, cellK_of s.w.obj (s.w.cellS hs), asMap_map]
    generalize sl[((now + ((k + 1 : Nat) : Int)) % 256).toNat] = mm at hs
    obtain ⟨o, g1, g2⟩ := s.w.slots _ _ hs
    have hmm : mm ∈ b :: fm :: tm :: sl := by simp [List.mem_of_getElem? hs]
    have hal : acc.length ≤ T.length := by rw [hacc.length_eq]; exact len_idsOf _ _
    have hsl := ok.len_slot ((now + ((k + 1 : Nat) : Int)) % 256).toNat
    refine Due_ret s hmm g1 g2 (by omega) (by omega) fun h' acc' s' hacc' => ?_
    rw [wrap_succ (by omega)]
    exact Move_L1 ok hsz hn hp hk d (k + 1) fuel h' acc' (by omega) (by omega) s' (told_step ok (by omega) hacc hacc')

/-- all that were told are unset -/
theorem Move_L2 {a : H} {bw bn bl : Nat} (hab : ∀ x ∈ b :: fm :: tm :: sl, x < a.next) (hbw : bw < a.next ∧ bw ∉ b :: fm :: tm :: sl) {p : Option (Nat × Nat)} {c : Cap} {ys : List Int} (hp : ∀ x ∈ own p, x ∉ b :: fm :: tm :: sl) (hyl : ys.length < 1000000) (n : Nat) {kk : (Option (Nat × Nat) × Nat × Cap) → H → Option Unit}
    (hk : ∀ h' S' F', WRep h' b now sl fm tm S' F' (without T ys) → WOk now S' F' (without T ys) → Mod (b :: fm :: tm :: sl) a h' → (nnK (some (bw, 0)) fun b83 o84 => cellK h' b83 o84 fun v85 => asPtr v85 fun x86 => nnK (some (bn, 0)) fun b87 o88 => cellK h' b87 o88 fun v89 => asInt .i64 v89 fun x90 => wheel_Wheel_settle_36 n x86 x90 h' fun r91 h92 => nnK (some (bl, 0)) fun b93 o94 => cellK h92 b93 o94 fun v95 => asSlice v95 fun x96 n97 c98 => kk (x96, n97, c98) h92) = some ())
    (gw : a.get bw = some (.cells [.ptr (some (b, 0))] false)) (hrow : Row a 1 p ys.length c (ys.map i64)) :
    ∀ (d j fuel : Nat) (h : H) (S' : Nat → List (Int × Bool)) (F' : List (Int × Bool)), j + d = ys.length → d < fuel → WRep h b now sl fm tm S' F' (without T (ys.take j)) → WOk now S' F' (without T (ys.take j)) → Mod (b :: fm :: tm :: sl) a h →
      wheel_Wheel_Move_29_L2 n kk fuel (some (bw, 0)) (some (bn, 0)) (some (bl, 0)) p ys.length c (Nat.cast ys.length) j h = some ()
  | 0, j, fuel + 1, h, S', F', hj, _, w, ok, m => by
    rw [wheel_Wheel_Move_29_L2_eq, cast_not_lt (by omega), cond_false]
    rw [List.take_of_length_le (by omega)] at w ok
    exact hk h S' F' w ok m
  | d + 1, j, fuel + 1, h, S', F', hj, hf, w, ok, m => by
    have hlt : j < ys.length := by omega
    have hx : ys[j]? = some ys[j] := List.getElem?_eq_getElem hlt
    rw [wheel_Wheel_Move_29_L2_eq, cast_lt hlt, cond_true, (hrow.mod m hp).ix1 hx, asInt_int]
    simp only [nnK_some']
    rw [cellK_of ((m.get _ hbw.1 hbw.2).trans gw) rfl, asPtr_ptr]
    obtain ⟨h2, e2, m2, w2⟩ := Cancel_ret w n ys[j] ok.time0
    rw [e2, Option.bind_some, wrap_succ (by omega)]
    have htake : ys.take (j + 1) = ys.take j ++ [ys[j]] := by rw [List.take_add_one, hx]; rfl
    have ok2 := ok.cut ys[j]
    have hT : cutT (without T (ys.take j)) ys[j] = without T (ys.take (j + 1)) := by
      rw [cutT_eq, htake]
      unfold without
      rw [List.foldl_append]; rfl
    rw [hT] at w2 ok2
    exact Move_L2 hab hbw hp hyl n hk gw hrow d (j + 1) fuel h2 _ _ (by omega) (by omega) w2 ok2 (m.trans' m2 fun i hi _ => List.mem_cons_of_mem _ hi)

theorem without_told (ok : WOk now S F T) {upto : Int} {ys : List Int} (hp : ys.Perm (idsOf (due upto) T)) : without T ys = T.filter fun e => decide (upto < e.2) := by
  rw [without_filter]
  apply List.filter_congr
  intro e he
  rw [Bool.eq_iff_iff]
  simp only [Bool.not_eq_true', decide_eq_false_iff_not, decide_eq_true_eq]
  have : e.1 ∈ ys ↔ e.2 ≤ upto := by
    rw [hp.mem_iff, mem_idsOf]
    unfold due
    constructor
    · rintro ⟨a', h1, h2⟩
      have e1 := lk_of_mem ok.nd h1
      have e2 : lk T e.1 = some e.2 := lk_of_mem ok.nd he
      rw [e1] at e2
      cases e2
      exact of_decide_eq_true h2
    · exact fun h => ⟨e.2, he, decide_eq_true h⟩
  rw [this]; omega

/-- Move at a time that may be -/
theorem Move_ret {h : H} (w : WRep h b now sl fm tm S F T) (ok : WOk now S F T) {upto : Int} (hu0 : now ≤ upto) (hu1 : upto ≤ 1099511627776) (hsz : T.length < 400000) {n : Nat} (hn : 600 ≤ n) (hn2 : T.length < n) :
    RetK (fun kk => wheel_Wheel_Move_29 n (some (b, 0)) upto h kk) fun r h' => Mod (b :: fm :: tm :: sl) h h' ∧ ∃ (ys : List Int) (S' : Nat → List (Int × Bool)) (F' : List (Int × Bool)), Grow h h' 1 r.1 r.2.1 r.2.2 (ys.map i64) ∧ ys.Perm (idsOf (due upto) T) ∧ (ys.Pairwise fun x y => ¬ ahead T y x) ∧
      WRep h' b upto sl fm tm S' F' (T.filter fun e => decide (upto < e.2)) ∧ WOk upto S' F' (T.filter fun e => decide (upto < e.2)) := by
  intro kk hk
  have n0 := ok.n0
  have n1 := ok.n1
  show wheel_Wheel_Move_29 n (some (b, 0)) upto h kk = some ()
  have hb : b < h.next := w.lt _ (by simp)
  rw [wheel_Wheel_Move_29_eq]
  simp only [newK_eq]
  have m1 : Mod [] h (h.new (.cells [.ptr (some (b, 0))] false)) := (Mod.refl _ _).new _
  have m2 := m1.new (.cells [.int .i64 upto] false)
  have gw : ((h.new (.cells [.ptr (some (b, 0))] false)).new (.cells [.int .i64 upto] false)).get h.next = some (.cells [.ptr (some (b, 0))] false) := (get_new_lt (Nat.lt_succ_self _)).trans (get_new_self _ _)
  have gn : ((h.new (.cells [.ptr (some (b, 0))] false)).new (.cells [.int .i64 upto] false)).get (h.next + 1) = some (.cells [.int .i64 upto] false) := get_new_self _ _
  have w2 := w.mod m2
  rw [show (h.new (.cells [.ptr (some (b, 0))] false)).next = h.next + 1 from rfl]
  have hn2' : ((h.new (.cells [.ptr (some (b, 0))] false)).new (.cells [.int .i64 upto] false)).next = h.next + 2 := rfl
  generalize (h.new (.cells [.ptr (some (b, 0))] false)).new (.cells [.int .i64 upto] false) = h2 at *
  rw [cellK_of gn rfl, asInt_int, cellK_of gw rfl, asPtr_ptr]
  simp only [nnK_some']
  rw [cellK_of w2.obj rfl, asInt_int, decide_eq_false (by omega), cond_false, cellK_of gn rfl, asInt_int, decide_eq_false (by omega), wheel_Wheel_Move_29_J0_eq, cond_false]
  simp only [newK_eq, nnK_some']
  have m3 := m2.new (.cells [.slice none 0 (.known 0)] false)
  have gw3 : (h2.new (.cells [.slice none 0 (.known 0)] false)).get h.next = some (.cells [.ptr (some (b, 0))] false) := (get_new_lt (by omega)).trans gw
  have gn3 : (h2.new (.cells [.slice none 0 (.known 0)] false)).get (h.next + 1) = some (.cells [.int .i64 upto] false) := (get_new_lt (by omega)).trans gn
  have gl3 : (h2.new (.cells [.slice none 0 (.known 0)] false)).get h2.next = some (.cells [.slice none 0 (.known 0)] false) := get_new_self _ _
  have hn3 : (h2.new (.cells [.slice none 0 (.known 0)] false)).next = h.next + 3 := by show h2.next + 1 = _; omega
  have w3 := w.mod m3
  have hlt : ∀ x ∈ b :: fm :: tm :: sl, x < h.next := w.lt
  have hno : ∀ k, h.next + k ∉ b :: fm :: tm :: sl := fun k hx => by have := hlt _ hx; omega
  rw [hn2'] at gl3 ⊢
  generalize h2.new (.cells [.slice none 0 (.known 0)] false) = a at *
  have d0 : DueSt a a b now sl fm tm S F T h.next (h.next + 1) (h.next + 2) upto [] := ⟨w3, gw3, gn3, ⟨none, .known 0, gl3, .nil⟩, hno 2, by omega, by omega, fun x hx => by have := hlt x hx; omega, by omega, by omega, Nat.le_refl _, fun _ _ _ => rfl⟩
  rw [cellK_of gw3 rfl, asPtr_ptr]
  simp only [nnK_some', Nat.zero_add]
  obtain ⟨o, g1, g2⟩ := w3.far
  rw [cellK_of w3.obj w3.cell257, asMap_map]
  have hfl := ok.len_far
  refine Due_ret d0 (m := fm) (by simp) g1 g2 (by simp; omega) (by omega) fun h4 acc4 d4 hacc4 => ?_
  rw [cellK_of d4.gn rfl, asInt_int, cellK_of d4.gw rfl, asPtr_ptr]
  simp only [nnK_some']
  rw [cellK_of d4.w.obj rfl, asInt_int, wrap_i64 (by omega) (by omega)]
  obtain ⟨steps, hp1, hp2, hp3⟩ : ∃ steps : Nat, steps ≤ 256 ∧ ((steps : Int) = upto - now ∨ steps = 256) ∧ (if (256 : Int) < upto - now then 256 else upto - now) = (steps : Int) := by
    by_cases hc : (256 : Int) < upto - now
    · exact ⟨256, by omega, .inr rfl, by rw [if_pos hc]; rfl⟩
    · exact ⟨(upto - now).toNat, by omega, .inl (by omega), by rw [if_neg hc]; omega⟩
  rw [hp3]
  refine Move_L1 ok hsz hn2 hp1 (fun h5 acc5 d5 hacc5 => ?_) steps 0 n h4 acc4 (by omega) (by omega) d4 ?_
  rotate_left
  · rw [List.nil_append] at hacc4
    refine hacc4.trans ((dueOf_perm ok ok.far).trans ?_)
    rw [idsOf_congr (p := fun x => isFar now x && due upto x) (q := toldBy now upto 0)]
    intro e _
    unfold toldBy isFar near
    congr 1
    rw [Bool.eq_iff_iff]
    simp only [Bool.or_eq_true, decide_eq_true_eq]
    omega
  rw [told_all hp2] at hacc5
  simp only [nnK_some']
  rw [cellK_of d5.gw rfl, asPtr_ptr]
  obtain ⟨p, c, gl5, g5⟩ := d5.gl
  rw [cellK_of gl5 rfl, asSlice_slice]
  have hal : acc5.length ≤ T.length := by rw [hacc5.length_eq]; exact len_idsOf _ _
  obtain ⟨ys, h6, q1, q2, q3, q4, q5⟩ := order_ret d5.w ok.times d5.le d5.oldw g5 (fun x hx => by
    obtain ⟨a', h1, _⟩ := mem_idsOf.1 (hacc5.mem_iff.1 hx)
    have := ok.may _ h1
    exact ⟨this.1, this.2.1⟩) (by omega) n
  rw [q3, Option.bind_some]
  have hyl : acc5.length = ys.length := q1.length_eq.symm
  have hpa : ∀ x ∈ own p, a.next ≤ x := fun x hx => (g5.own_ge x hx).1
  have keep6 : ∀ x, x < a.next → h6.get x = h5.get x := fun x hx => q5.get x (by have := d5.le; omega) fun hp => by have := hpa x hp; omega
  have gl6 : h6.get (h.next + 2) = some (.cells [.slice p acc5.length c] false) := (keep6 _ (by omega)).trans gl5
  rw [cellK_of gl6 rfl, asSlice_slice, hyl]
  rw [hyl] at q4 gl6
  have w6 := d5.w.keep (fun x hx => keep6 x (d5.oldw x hx)) q5.next
  have hle6 : a.next ≤ h6.next := Nat.le_trans d5.le q5.next
  have hpw : ∀ x ∈ own p, x ∉ b :: fm :: tm :: sl := fun x hx hxm => by have := hpa x hx; have := d5.oldw x hxm; omega
  have mrest : Mod [] h a := m3
  have hyp : ys.Perm (idsOf (due upto) T) := q1.trans hacc5
  have hwo := without_told ok hyp
  refine Move_L2 (a := h6) (T := T) (fun x hx => Nat.lt_of_lt_of_le (d5.oldw x hx) hle6) ⟨Nat.lt_of_lt_of_le (by omega) hle6, hno 0⟩ hpw (by omega) n (fun h7 S7 F7 w7 ok7 m7 => ?_) ((keep6 _ (by omega)).trans d5.gw) q4.row ys.length 0 n h6 S F (by omega) (by omega) w6 ok (Mod.refl _ _)
  rw [hwo] at w7 ok7
  simp only [nnK_some']
  rw [cellK_of ((m7.get _ (by omega) (hno 0)).trans ((keep6 _ (by omega)).trans d5.gw)) rfl, asPtr_ptr, cellK_of ((m7.get _ (by omega) (hno 1)).trans ((keep6 _ (by omega)).trans d5.gn)) rfl, asInt_int]
  refine Settle_ret w7 ok7 hu0 hu1 (fun e he => of_decide_eq_true (List.mem_filter.1 he).2) (by have := List.length_filter_le (fun e : Int × Int => decide (upto < e.2)) T; omega) hn (by have := List.length_filter_le (fun e : Int × Int => decide (upto < e.2)) T; omega) _ fun _ h8 ⟨m8, S8, F8, w8, ok8⟩ => ?_
  have m78 := m7.trans m8
  rw [cellK_of ((m78.get _ (by omega) (hno 2)).trans gl6) rfl, asSlice_slice]
  refine hk _ _ ⟨?_, ys, S8, F8, ?_, hyp, q2, w8, ok8⟩
  · refine ⟨by have := m78.next; omega, fun j hj hS => ?_⟩
    rw [m78.get j (by omega) hS, keep6 j (by omega)]
    rw [d5.kp j (by omega) (by omega)]
    exact m3.get j hj (by simp)
  · exact (q4.mod m78 hpw).base (by omega)
end

end Go.Ev.Try
