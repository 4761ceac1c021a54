/- Chapter 09: a wheel as the document has it: the time, and all timers by rising times, and ids. -/
import Derived.Test.YtjbojcdmfkmkiaaHh11
set_option linter.all false
namespace Go.Ev.Try
set_option maxRecDepth 10000

def before (e f : Int × Int) : Prop := e.2 < f.2 ∨ e.2 = f.2 ∧ e.1 < f.1
instance (e f : Int × Int) : Decidable (before e f) := by unfold before; exact inferInstance
def told (upto : Int) (L : List (Int × Int)) : List Int := (L.filter fun e => decide (e.2 ≤ upto)).map (·.1)
def left (upto : Int) (L : List (Int × Int)) : List (Int × Int) := L.filter fun e => decide (upto < e.2)

/-- a wheel at block b whose blocks are B -/
def Wheel (h : H) (b : Nat) (B : List Nat) (now : Int) (L : List (Int × Int)) : Prop :=
  ∃ sl fm tm S F T, B = b :: fm :: tm :: sl ∧ WRep h b now sl fm tm S F T ∧ WOk now S F T ∧ T.Perm L ∧ L.Pairwise before

/-- what holds of the document's wheel -/
structure Doc (now : Int) (L : List (Int × Int)) : Prop where
  n0 : 0 ≤ now
  n1 : now ≤ 1099511627776
  nd : (L.map (·.1)).Nodup
  may : ∀ e ∈ L, may e.1 e.2
  sorted : L.Pairwise before

theorem lk_perm {V : Type} {T L : List (Int × V)} (hp : T.Perm L) (hn : (T.map (·.1)).Nodup) (id : Int) : lk T id = lk L id := by
  have hn2 := (hp.map (·.1)).nodup_iff.1 hn
  cases h : lk L id with
  | none =>
    cases h2 : lk T id with
    | none => rfl
    | some a => exact absurd rfl (lk_none h _ (hp.mem_iff.1 (lk_mem h2)))
  | some a => exact lk_of_mem hn (hp.mem_iff.2 (lk_mem h))

theorem goes_iff {a e : Int × Int} : goes a e = true ↔ before a e := by
  unfold goes before
  simp only [Bool.or_eq_true, Bool.and_eq_true, decide_eq_true_eq]
  omega
theorem ins_perm (a : Int × Int) : ∀ l, (ins a l).Perm (a :: l)
  | [] => .refl _
  | e :: l => by
    unfold ins
    split
    · exact .refl _
    · exact ((ins_perm a l).cons e).trans (List.Perm.swap a e l)
theorem ins_sorted {a : Int × Int} : ∀ {l : List (Int × Int)}, l.Pairwise before → (∀ e ∈ l, e.1 ≠ a.1) → (ins a l).Pairwise before
  | [], _, _ => by simp [ins]
  | e :: l, hs, hn => by
    rw [List.pairwise_cons] at hs
    unfold ins
    by_cases hg : goes a e = true
    · rw [if_pos hg]
      rw [goes_iff] at hg
      refine List.pairwise_cons.2 ⟨fun f hf => ?_, List.pairwise_cons.2 hs⟩
      rcases List.mem_cons.1 hf with rfl | hf
      · exact hg
      · have := hs.1 f hf
        unfold before at *
        omega
    · rw [if_neg hg]
      rw [goes_iff] at hg
      refine List.pairwise_cons.2 ⟨fun f hf => ?_, ins_sorted hs.2 fun f hf => hn f (List.mem_cons_of_mem _ hf)⟩
      rcases List.mem_cons.1 ((ins_perm a l).mem_iff.1 hf) with rfl | hf
      · have := hn e (by simp)
        unfold before at *
        omega
      · exact hs.1 f hf

theorem Doc.cancel {now : Int} {L : List (Int × Int)} (d : Doc now L) (id : Int) : Doc now (wo L id) := by
  refine ⟨d.n0, d.n1, ?_, fun e he => d.may e (List.mem_filter.1 he).1, d.sorted.filter _⟩
  exact d.nd.sublist (List.filter_sublist.map _)
theorem Doc.set {now : Int} {L : List (Int × Int)} (d : Doc now L) {id at' : Int} (hm : Go.Ev.Try.may id at') : Doc now (ins (id, at') (wo L id)) := by
  have h1 := d.cancel id
  have hno : ∀ e ∈ wo L id, e.1 ≠ id := dl_not L id
  refine ⟨d.n0, d.n1, ?_, fun e he => ?_, ins_sorted h1.sorted hno⟩
  · rw [((ins_perm (id, at') (wo L id)).map (·.1)).nodup_iff, List.map_cons, List.nodup_cons]
    refine ⟨fun hm => ?_, h1.nd⟩
    obtain ⟨e, he, hk⟩ := List.mem_map.1 hm
    exact hno e he hk
  · rcases List.mem_cons.1 ((ins_perm _ _).mem_iff.1 he) with rfl | he
    · exact hm
    · exact h1.may e he
theorem Doc.move {now : Int} {L : List (Int × Int)} (d : Doc now L) {upto : Int} (h0 : now ≤ upto) (h1 : upto ≤ 1099511627776) : Doc upto (left upto L) := by
  have := d.n0
  exact ⟨by omega, h1, d.nd.sublist (List.filter_sublist.map _), fun e he => d.may e (List.mem_filter.1 he).1, d.sorted.filter _⟩
theorem Doc.new : Doc 0 [] := ⟨by omega, by omega, by simp, fun e h => (by cases h), .nil⟩

section
variable {h : H} {b : Nat} {B : List Nat} {now : Int} {L : List (Int × Int)}

theorem Wheel.doc (w : Wheel h b B now L) : Doc now L := by
  obtain ⟨sl, fm, tm, S, F, T, rfl, w, ok, hp, hs⟩ := w
  exact ⟨ok.n0, ok.n1, (hp.map _).nodup_iff.1 ok.nd, fun e he => ok.may e (hp.mem_iff.2 he), hs⟩
theorem Wheel.keep {h' : H} (w : Wheel h b B now L) (hk : ∀ x ∈ B, h'.get x = h.get x) (hn : h.next ≤ h'.next) : Wheel h' b B now L := by
  obtain ⟨sl, fm, tm, S, F, T, rfl, w, ok, hp, hs⟩ := w
  exact ⟨sl, fm, tm, S, F, T, rfl, w.keep hk hn, ok, hp, hs⟩
theorem Wheel.lt (w : Wheel h b B now L) : ∀ x ∈ B, x < h.next := by
  obtain ⟨sl, fm, tm, S, F, T, rfl, w, ok, hp, hs⟩ := w
  exact w.lt
theorem Wheel.mod {h' : H} {S : List Nat} (w : Wheel h b B now L) (m : Mod S h h') (hS : ∀ x ∈ B, x ∉ S) : Wheel h' b B now L := w.keep (fun x hx => m.get x (w.lt x hx) (hS x hx)) m.next
theorem Wheel.mod0 {h' : H} (w : Wheel h b B now L) (m : Mod [] h h') : Wheel h' b B now L := w.mod m fun x _ => by simp
theorem Wheel.cancel (w : Wheel h b B now L) (n : Nat) (id : Int) : ∃ h', wheel_Wheel_Cancel_32 n (some (b, 0)) id h = some ((lk L id).isSome, h') ∧ Mod B h h' ∧ Wheel h' b B now (wo L id) := by
  obtain ⟨sl, fm, tm, S, F, T, rfl, w, ok, hp, hs⟩ := w
  obtain ⟨h', e, m, w'⟩ := Cancel_ret w n id ok.time0
  rw [lk_perm hp ok.nd] at e
  have ok' := ok.cut id
  refine ⟨h', e, m.sub fun i hi _ => List.mem_cons_of_mem _ hi, sl, fm, tm, _, _, _, rfl, w', ok', ?_, hs.filter _⟩
  rw [cutT_eq]
  exact hp.filter _

theorem Wheel.set (w : Wheel h b B now L) (n : Nat) {id at' : Int} (hm : may id at') : ∃ h', wheel_Wheel_Set_28 n (some (b, 0)) id at' h = some (true, h') ∧ Mod B h h' ∧ Wheel h' b B now (ins (id, at') (wo L id)) := by
  have hd := w.doc.set hm
  obtain ⟨sl, fm, tm, S, F, T, rfl, w, ok, hp, hs⟩ := w
  obtain ⟨h', e, m, w'⟩ := Set_ret w ok.n0 ok.n1 n hm ok.time0
  have ok1 := ok.cut id
  have hno : ∀ e ∈ cutT T id, e.1 ≠ id := by rw [cutT_eq]; exact dl_not T id
  have ok2 := ok1.add hm hno
  refine ⟨h', e, m.sub fun i hi _ => List.mem_cons_of_mem _ hi, sl, fm, tm, _, _, _, rfl, w', ok2, ?_, hd.sorted⟩
  rw [pt_new hno, cutT_eq]
  exact (List.perm_append_comm.trans (.cons _ (hp.filter _))).trans (ins_perm _ _).symm

theorem ahead_of {T : List (Int × Int)} (hn : (T.map (·.1)).Nodup) {e f : Int × Int} (he : e ∈ T) (hf : f ∈ T) : ahead T e.1 f.1 ↔ before e f := by
  have h1 : lk T e.1 = some e.2 := lk_of_mem hn he
  have h2 : lk T f.1 = some f.2 := lk_of_mem hn hf
  unfold ahead before timeOf
  rw [h1, h2]
  rfl

theorem Wheel.move (w : Wheel h b B now L) {upto : Int} (hu0 : now ≤ upto) (hu1 : upto ≤ 1099511627776) (hsz : L.length < 400000) {n : Nat} (hn : 600 ≤ n) (hn2 : L.length < n) :
    RetK (fun kk => wheel_Wheel_Move_29 n (some (b, 0)) upto h kk) fun r h' => Mod B h h' ∧ Grow h h' 1 r.1 r.2.1 r.2.2 ((told upto L).map i64) ∧ Wheel h' b B upto (left upto L) := by
  obtain ⟨sl, fm, tm, S, F, T, rfl, w, ok, hp, hs⟩ := w
  refine (Move_ret w ok hu0 hu1 (by rw [hp.length_eq]; exact hsz) hn (by rw [hp.length_eq]; exact hn2)).mono fun r h' ⟨m, ys, S', F', g, q1, q2, w', ok'⟩ => ⟨m, ?_, sl, fm, tm, S', F', _, rfl, w', ok', hp.filter _, hs.filter _⟩
  have : ys = told upto L := by
    refine sorted_eq (lt := fun x y => ¬ ahead T y x) ?_ q2 ?_ ?_
    · exact q1.trans ((hp.filter _).map _)
    · unfold told
      rw [List.pairwise_map]
      refine (List.Pairwise.imp_of_mem (fun {e f} he hf hb => ?_) (hs.filter _))
      rw [ahead_of ok.nd (hp.mem_iff.2 (List.mem_filter.1 hf).1) (hp.mem_iff.2 (List.mem_filter.1 he).1)]
      unfold before at *
      omega
    · intro x _ y _ h1 h2
      unfold ahead at h1 h2
      omega
  rw [← this]
  exact g

theorem Wheel.moveBad (w : Wheel h b B now L) {upto : Int} (hb : ¬ (now ≤ upto ∧ upto ≤ 1099511627776)) (n : Nat) :
    RetK (fun kk => wheel_Wheel_Move_29 n (some (b, 0)) upto h kk) fun r h' => r = (none, 0, .known 0) ∧ Mod [] h h' := by
  intro kk hk
  obtain ⟨sl, fm, tm, S, F, T, rfl, w, ok, hp, hs⟩ := w
  show wheel_Wheel_Move_29 n (some (b, 0)) upto h kk = some ()
  rw [wheel_Wheel_Move_29_eq]
  simp only [newK_eq]
  have m2 : Mod [] h ((h.new (.cells [.ptr (some (b, 0))] false)).new (.cells [.int .i64 upto] false)) := ((Mod.refl _ _).new _).new _
  have gw : ((h.new (.cells [.ptr (some (b, 0))] false)).new (.cells [.int .i64 upto] false)).get h.next = some (.cells [.ptr (some (b, 0))] false) := (get_new_lt (Nat.lt_succ_self _)).trans (get_new_self _ _)
  have gn : ((h.new (.cells [.ptr (some (b, 0))] false)).new (.cells [.int .i64 upto] false)).get (h.next + 1) = some (.cells [.int .i64 upto] false) := get_new_self _ _
  have w2 := w.mod m2
  rw [show (h.new (.cells [.ptr (some (b, 0))] false)).next = h.next + 1 from rfl]
  generalize (h.new (.cells [.ptr (some (b, 0))] false)).new (.cells [.int .i64 upto] false) = h2 at *
  have fin : wheel_Wheel_Move_29_J0 n kk (some (h.next, 0)) (some (h.next + 1, 0)) true h2 = some () := by
    rw [wheel_Wheel_Move_29_J0_eq, cond_true]
    exact hk _ _ ⟨rfl, m2⟩
  rw [cellK_of gn rfl, asInt_int, cellK_of gw rfl, asPtr_ptr]
  simp only [nnK_some']
  rw [cellK_of w2.obj rfl, asInt_int]
  by_cases h1 : upto < now
  · rw [decide_eq_true h1, cond_true]; exact fin
  · rw [decide_eq_false h1, cond_false, cellK_of gn rfl, asInt_int, decide_eq_true (show upto > 1099511627776 by omega)]
    exact fin

theorem Wheel.new (h : H) {n : Nat} (hn : 300 ≤ n) : Ret (wheel_New_27 n h) fun r h' => Mod [] h h' ∧ ∃ b B, r = some (b, 0) ∧ Wheel h' b B 0 [] ∧ ∀ x ∈ B, h.next ≤ x :=
  (New_ret h hn).mono fun r h' ⟨m, b, sl, fm, tm, e, w, hx⟩ => ⟨m, b, _, e, ⟨sl, fm, tm, _, _, _, rfl, w, WOk.new, .refl _, .nil⟩, hx⟩
end

/-! ### the calls -/

structure Op where
  kind : Int
  id : Int
  at' : Int

def moves (now upto : Int) : Prop := now ≤ upto ∧ upto ≤ 1099511627776
instance (now upto : Int) : Decidable (moves now upto) := by unfold moves; exact inferInstance

/-- the time, the timers, whether it was so, what was told -/
def doT (now : Int) (L : List (Int × Int)) (o : Op) : Int × List (Int × Int) :=
  if o.kind = 0 then (now, if may o.id o.at' then ins (o.id, o.at') (wo L o.id) else L) else if o.kind = 1 then (now, wo L o.id) else if o.kind = 2 then (if moves now o.at' then (o.at', left o.at' L) else (now, L)) else (now, L)
def doIs (L : List (Int × Int)) (o : Op) : Bool := if o.kind = 0 then decide (may o.id o.at') else if o.kind = 1 then (lk L o.id).isSome else true
def doTold (now : Int) (L : List (Int × Int)) (o : Op) : List Int := if o.kind = 2 ∧ moves now o.at' then told o.at' L else []

theorem Doc.step {now : Int} {L : List (Int × Int)} (d : Doc now L) (o : Op) : Doc (doT now L o).1 (doT now L o).2 := by
  unfold doT
  split
  · split
    · rename_i h; exact d.set h
    · exact d
  · split
    · exact d.cancel _
    · split
      · split
        · rename_i h; exact d.move h.1 h.2
        · exact d
      · exact d
theorem doT_len (now : Int) (L : List (Int × Int)) (o : Op) : (doT now L o).2.length ≤ L.length + 1 := by
  have h1 : (wo L o.id).length ≤ L.length := List.length_filter_le _ _
  have h2 : (left o.at' L).length ≤ L.length := List.length_filter_le _ _
  unfold doT
  split
  · split
    · have := (ins_perm (o.id, o.at') (wo L o.id)).length_eq
      simp only [List.length_cons] at this
      simp only; omega
    · simp
  · split
    · simp only; omega
    · split
      · split
        · simp only; omega
        · simp
      · simp

end Go.Ev.Try
