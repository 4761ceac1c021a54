/- Own texts, joined: Sp2 Sp3 Sp4 Sp5 Sp6 Sp7 Sp8 Sp9 Sp10 Sp11 Sq1 Sq3 Sq2. -/
import Derived.Test.YtongjlmclckboaaDoorM7
import Derived.Lib.ItoaLen
import Derived.LaidLaws
import Derived.KernelRfl
set_option linter.all false
/- The reader looks at the words' texts alone: blocks. -/
namespace Go.Ev.Tryd
set_option maxRecDepth 10000
open Go.Proofs

theorem n_set {st : St} {p p' : Ps} (h : nP p = p') : nS (setP st p) = setP (nS st) p' := by subst h; rfl

section
variable (s : Bs) (l : List Wd)
theorem n_named (xs : List Bs) (p : Ps) : nP (namedP s l xs p).1 = (namedP e0 (l.map nW) xs (nP p)).1 ∧ (namedP e0 (l.map nW) xs (nP p)).2 = (namedP s l xs p).2 := by
  obtain ⟨p1, w, a, is, e1, e2⟩ := n_val s l { p := p, yes := 0, sv := sv0, bk := bk0 }
  unfold namedP
  rw [show valueP s l p = (p1, w, a, is) from e1, show valueP e0 (l.map nW) (nP p) = (nP p1, w, 0, is) from e2]
  cases is with
  | false => exact ⟨rfl, rfl⟩
  | true =>
    unfold namedV
    simp only
    split
    · exact ⟨n_fail _ _ _, rfl⟩
    · split
      · exact ⟨n_fail _ _ _, rfl⟩
      · exact ⟨rfl, rfl⟩
theorem n_vip (st : St) (a : Bs) (at' : Int) : nS (vipS st a at').1 = (vipS (nS st) a 0).1 ∧ (vipS st a at').2 = (vipS (nS st) a 0).2 := by
  unfold vipS
  rw [show (nS st).p.vips = st.p.vips from rfl]
  split
  · exact ⟨n_set (n_fail _ _ _), rfl⟩
  · exact ⟨rfl, rfl⟩
theorem n_track : Nrm (trackS s l) (trackS e0 (l.map nW)) := fun st => by
  obtain ⟨h1, h2⟩ := n_named s l (st.p.trs.map (·.1)) st.p
  unfold trackS
  rw [show (nS st).p.trs = st.p.trs from rfl, show (nS st).p = nP st.p from rfl]
  generalize namedP s l (st.p.trs.map (·.1)) st.p = v at h1 h2
  generalize namedP e0 (l.map nW) (st.p.trs.map (·.1)) (nP st.p) = v0 at h1 h2
  obtain ⟨p, nm, is⟩ := v
  obtain ⟨p', r⟩ := v0
  obtain rfl : nP p = p' := h1
  obtain rfl : r = (nm, is) := h2
  cases is with
  | false => exact ⟨rfl, rfl⟩
  | true =>
    obtain ⟨p1, w, a, is, e1, e2⟩ := n_val s l { st with p := p }
    show nS (weightV s l nm st (valueP s l p)).1 = (weightV e0 (l.map nW) nm (nS st) (valueP e0 (l.map nW) (nP p))).1 ∧ (weightV s l nm st (valueP s l p)).2 = (weightV e0 (l.map nW) nm (nS st) (valueP e0 (l.map nW) (nP p))).2
    rw [show valueP s l p = (p1, w, a, is) from e1, show valueP e0 (l.map nW) (nP p) = (nP p1, w, 0, is) from e2]
    cases is with
    | false => exact ⟨rfl, rfl⟩
    | true =>
      unfold weightV
      simp only
      split
      · exact n_end s l (setP st { p1 with trs := p1.trs ++ [(nm, if (dashP w).2 = true then - (numP (bs (dashP w).1)).1 else (numP (bs (dashP w).1)).1)] })
      · exact ⟨n_set (n_fail _ _ _), rfl⟩

/-- keys, and the same without places -/
inductive KeysN : List (Bs × Key) → List (Bs × Key) → Prop
  | nil : KeysN [] []
  | cons {w : Bs} {a b : Key} {L M : List (Bs × Key)} (h1 : a.most = b.most) (h2 : a.need = b.need) (h3 : Nrm a.sem b.sem) (t : KeysN L M) : KeysN ((w, a) :: L) ((w, b) :: M)
theorem KeysN.lk {L M : List (Bs × Key)} (k : KeysN L M) (w : Bs) : (lk L w = none ∧ lk M w = none) ∨ ∃ a b, lk L w = some a ∧ lk M w = some b ∧ a.most = b.most ∧ Nrm a.sem b.sem := by
  induction k with
  | nil => exact .inl ⟨rfl, rfl⟩
  | @cons u a b L M h1 h2 h3 t ih =>
    rw [lk_cons, lk_cons]
    by_cases h : w = u
    · rw [if_pos h, if_pos h]
      exact .inr ⟨a, b, rfl, rfl, h1, h3⟩
    · rw [if_neg h, if_neg h]
      exact ih
theorem KeysN.lack {L M : List (Bs × Key)} (k : KeysN L M) (N : List (Bs × Int)) : lackB L N = lackB M N := by
  induction k with
  | nil => rfl
  | @cons u a b L M h1 h2 h3 t ih =>
    show ((a.need && decide (cnt N u = 0)) || lackB L N) = ((b.need && decide (cnt N u = 0)) || lackB M N)
    rw [h2, ih]
theorem n_body {L M : List (Bs × Key)} (k : KeysN L M) : ∀ (F : Nat) (N : List (Bs × Int)), Nrm (bodyS s l L F N) (bodyS e0 (l.map nW) M F N)
  | 0, _ => fun _ => ⟨rfl, rfl⟩
  | F + 1, N => fun st => by
    unfold bodyS closeS
    rw [show (nS st).p.k = st.p.k from rfl, n_peek, n_place, k.lack]
    split
    · split
      · exact ⟨n_set (n_fail _ _ _), rfl⟩
      · exact n_end s l (setP st { st.p with k := st.p.k + 1 })
    · rcases k.lk (peekP l st.p.k) with ⟨h1, h2⟩ | ⟨a, b, h1, h2, h3, h4⟩
      · rw [h1, h2]
        exact ⟨n_set (n_fail _ _ _), rfl⟩
      · rw [h1, h2]
        simp only [h3]
        obtain ⟨q1, q2⟩ := h4 (setP st { st.p with k := st.p.k + 1 })
        have q0 : setP (nS st) { (nS st).p with k := st.p.k + 1 } = nS (setP st { st.p with k := st.p.k + 1 }) := rfl
        rw [q0, ← q2]
        split
        · exact ⟨n_set (n_fail _ _ _), rfl⟩
        · split
          · have := n_body k F (pt N (peekP l st.p.k) (cnt N (peekP l st.p.k) + 1)) (a.sem (setP st { st.p with k := st.p.k + 1 })).1
            rw [q1] at this
            exact this
          · exact ⟨q1, rfl⟩
theorem n_block {L M : List (Bs × Key)} (k : KeysN L M) : Nrm (blockS s l L) (blockS e0 (l.map nW) M) := fun st => by
  unfold blockS
  obtain ⟨h1, h2⟩ := n_must s l ⟨#[123]⟩ st.p
  obtain ⟨h3, h4⟩ := n_must s l nl (mustP s l ⟨#[123]⟩ st.p).1
  rw [h1] at h3 h4
  rw [show (nS st).p = nP st.p from rfl, ← h2, ← h4, List.length_map]
  split
  · split
    · have := n_body s l k (l.length + 1) [] (setP st (mustP s l nl (mustP s l ⟨#[123]⟩ st.p).1).1)
      rw [n_set h3] at this
      exact this
    · exact ⟨n_set h3, rfl⟩
  · exact ⟨n_set h1, rfl⟩

theorem n_node : Nrm (nodeS s l) (nodeS e0 (l.map nW)) := n_block s l
  (.cons rfl rfl (n_card s l (put := putCard) fun _ _ => rfl) (.cons rfl rfl (n_address s l fun _ _ _ => ⟨rfl, rfl⟩) (.cons rfl rfl (n_address s l fun _ _ _ => ⟨rfl, rfl⟩) .nil)))
theorem n_vrrp : Nrm (vrrpS s l) (vrrpS e0 (l.map nW)) := fun st => by
  have := n_block s l (L := vrrpK s l) (M := vrrpK e0 (l.map nW)) (.cons rfl rfl (n_number s l (put := putId) (fun _ _ => rfl) _ _) (.cons rfl rfl (n_number s l (put := putPrio) (fun _ _ => rfl) _ _) (.cons rfl rfl (n_number s l (put := putEvery) (fun _ _ => rfl) _ _)
    (.cons rfl rfl (n_choice s l (put := putYes) (fun _ _ => rfl) _) (.cons rfl rfl (n_address s l n_vip) (.cons rfl rfl (n_track s l) .nil)))))) { st with yes := 1 }
  obtain ⟨h1, h2⟩ := this
  unfold vrrpS preS
  rw [show ({ nS st with yes := 1 } : St) = nS { st with yes := 1 } from rfl, ← h1, ← h2]
  exact ⟨rfl, rfl⟩
theorem n_backend : Nrm (backendS s l) (backendS e0 (l.map nW)) := fun st => by
  obtain ⟨h1, h2⟩ := n_named s l (st.sv.bks.map (·.name)) st.p
  unfold backendS
  rw [show (nS st).sv = st.sv from rfl, show (nS st).p = nP st.p from rfl]
  generalize namedP s l (st.sv.bks.map (·.name)) st.p = v at h1 h2
  generalize namedP e0 (l.map nW) (st.sv.bks.map (·.name)) (nP st.p) = v0 at h1 h2
  obtain ⟨p, nm, is⟩ := v
  obtain ⟨p', r⟩ := v0
  obtain rfl : nP p = p' := h1
  obtain rfl : r = (nm, is) := h2
  cases is with
  | false => exact ⟨rfl, rfl⟩
  | true =>
    obtain ⟨q1, q2⟩ := n_block s l (L := backendK s l) (M := backendK e0 (l.map nW)) (.cons rfl rfl (n_address s l fun _ _ _ => ⟨rfl, rfl⟩) (.cons rfl rfl (n_card s l (put := putBCard) fun _ _ => rfl) (.cons rfl rfl (n_number s l (put := putBPort) (fun _ _ => rfl) _ _) (.cons rfl rfl (n_number s l (put := putBWeight) (fun _ _ => rfl) _ _) .nil)))) { setP st p with bk := ⟨nm, ⟨#[]⟩, cd0, 0, 1⟩ }
    unfold backendV pushB
    simp only
    rw [show ({ setP (nS st) (nP p) with bk := ⟨nm, ⟨#[]⟩, cd0, 0, 1⟩ } : St) = nS { setP st p with bk := ⟨nm, ⟨#[]⟩, cd0, 0, 1⟩ } from rfl, ← q1, ← q2]
    exact ⟨rfl, rfl⟩
theorem n_service : Nrm (serviceS s l) (serviceS e0 (l.map nW)) := fun st => by
  obtain ⟨h1, h2⟩ := n_named s l (st.p.svs.map (·.name)) st.p
  unfold serviceS
  rw [show (nS st).p.svs = st.p.svs from rfl, show (nS st).p = nP st.p from rfl]
  generalize namedP s l (st.p.svs.map (·.name)) st.p = v at h1 h2
  generalize namedP e0 (l.map nW) (st.p.svs.map (·.name)) (nP st.p) = v0 at h1 h2
  obtain ⟨p, nm, is⟩ := v
  obtain ⟨p', r⟩ := v0
  obtain rfl : nP p = p' := h1
  obtain rfl : r = (nm, is) := h2
  cases is with
  | false => exact ⟨rfl, rfl⟩
  | true =>
    obtain ⟨q1, q2⟩ := n_block s l (L := serviceK s l) (M := serviceK e0 (l.map nW)) (.cons rfl rfl (n_choice s l (put := putSProto) (fun _ _ => rfl) _) (.cons rfl rfl (n_address s l fun _ _ _ => ⟨rfl, rfl⟩) (.cons rfl rfl (n_number s l (put := putSPort) (fun _ _ => rfl) _ _)
      (.cons rfl rfl (n_choice s l (put := putSMode) (fun _ _ => rfl) _) (.cons rfl rfl (n_choice s l (put := putSSched) (fun _ _ => rfl) _) (.cons rfl rfl (n_number s l (put := putSRise) (fun _ _ => rfl) _ _) (.cons rfl rfl (n_number s l (put := putSFall) (fun _ _ => rfl) _ _) (.cons rfl rfl (n_number s l (put := putSProbe) (fun _ _ => rfl) _ _) (.cons rfl rfl (n_backend s l) .nil))))))))) { setP st p with sv := newSv nm }
    unfold serviceV pushS
    simp only
    rw [show ({ setP (nS st) (nP p) with sv := newSv nm } : St) = nS { setP st p with sv := newSv nm } from rfl, ← q1, ← q2]
    exact ⟨rfl, rfl⟩
end
end Go.Ev.Tryd

/- The reader looks at the words' texts alone: all. -/
namespace Go.Ev.Tryd
set_option maxRecDepth 10000
open Go.Proofs

section
variable (s : Bs) (l : List Wd)
def nX (x : Bs × Int × Bool) : Bs × Int × Bool := (x.1, 0, x.2.2)
theorem n_spot (st : St) (o : Option (Bs × Int × Bool)) : nS (spotS st o).1 = (spotS (nS st) (o.map nX)).1 ∧ (spotS st o).2 = (spotS (nS st) (o.map nX)).2 := by
  cases o with
  | none => exact ⟨rfl, rfl⟩
  | some x => exact ⟨n_set (n_fail _ _ _), rfl⟩
theorem n_vips : Nrm vipsS vipsS := fun st => by
  have h := n_spot st (st.p.spots.find? (noVip st.p))
  unfold vipsS
  have : (nS st).p.spots.find? (noVip (nS st).p) = (st.p.spots.find? (noVip st.p)).map nX := by
    show (st.p.spots.map nX).find? (noVip (nS st).p) = _
    rw [List.find?_map]
    rfl
  rw [this]
  exact h
theorem n_spots : Nrm spotsS spotsS := fun st => by
  unfold spotsS
  have : (nS st).p.spots.find? (oddSpot (nS st).p) = (st.p.spots.find? (oddSpot st.p)).map nX := by
    show (st.p.spots.map nX).find? (oddSpot (nS st).p) = _
    rw [List.find?_map]
    rfl
  rw [this]
  cases st.p.spots.find? (oddSpot st.p) with
  | none => exact n_vips st
  | some x => exact ⟨n_set (n_fail _ _ _), rfl⟩
theorem n_endA (N : List (Bs × Int)) : Nrm (endA s N) (endA e0 N) := fun st => by
  unfold endA
  split
  · exact ⟨n_set (n_fail _ _ _), rfl⟩
  · exact n_spots st
theorem n_allB {L M : List (Bs × Key)} (k : KeysN L M) : ∀ (F : Nat) (N : List (Bs × Int)), Nrm (allB s l L F N) (allB e0 (l.map nW) M F N)
  | 0, _ => fun _ => ⟨rfl, rfl⟩
  | F + 1, N => fun st => by
    unfold allB
    rw [show (nS st).p.k = st.p.k from rfl, n_peek, n_place, List.length_map]
    split
    · rcases k.lk (peekP l st.p.k) with ⟨h1, h2⟩ | ⟨a, b, h1, h2, h3, h4⟩
      · rw [h1, h2]
        exact ⟨n_set (n_fail _ _ _), rfl⟩
      · rw [h1, h2]
        simp only [h3]
        obtain ⟨q1, q2⟩ := h4 (setP st { st.p with k := st.p.k + 1 })
        have q0 : setP (nS st) { (nS st).p with k := st.p.k + 1 } = nS (setP st { st.p with k := st.p.k + 1 }) := rfl
        rw [q0, ← q2]
        split
        · exact ⟨n_set (n_fail _ _ _), rfl⟩
        · split
          · have := n_allB k F (pt N (peekP l st.p.k) (cnt N (peekP l st.p.k) + 1)) (a.sem (setP st { st.p with k := st.p.k + 1 })).1
            rw [q1] at this
            exact this
          · exact ⟨q1, rfl⟩
    · exact n_endA s N st
theorem n_all : Nrm (allS s l) (allS e0 (l.map nW)) := fun st => by
  unfold allS
  rw [List.length_map]
  exact n_allB s l (L := allK s l) (M := allK e0 (l.map nW)) (.cons rfl rfl (n_node s l) (.cons rfl rfl (n_vrrp s l) (.cons rfl rfl (n_service s l) .nil))) _ _ st
end

/-- texts whose words read alike are read alike -/
theorem alike_all {s s' : Bs} {l l' : List Wd} (h : l.map nW = l'.map nW) : (allS s l st0).2 = (allS s' l' st0).2 ∧ nP (allS s l st0).1.p = nP (allS s' l' st0).1.p := by
  obtain ⟨h1, h2⟩ := n_all s l st0
  obtain ⟨h3, h4⟩ := n_all s' l' st0
  rw [h] at h1 h2
  exact ⟨h2.trans h4.symm, congrArg St.p (h1.trans h3.symm)⟩
end Go.Ev.Tryd

/- What was read is within bounds. -/
namespace Go.Ev.Tryd
set_option maxRecDepth 10000
open Go.Proofs

structure BkG (x : Bk) : Prop where
  card : CdOk x.card
  port : 0 ≤ x.port ∧ x.port ≤ 65535
  weight : 0 ≤ x.weight ∧ x.weight ≤ 65535
  name : x.name.size ≤ 40
structure SvG (x : Sv) : Prop where
  port : 0 ≤ x.port ∧ x.port ≤ 65535
  rise : 0 ≤ x.rise ∧ x.rise ≤ 65535
  fall : 0 ≤ x.fall ∧ x.fall ≤ 65535
  probe : 0 ≤ x.probe ∧ x.probe ≤ 65535
  name : x.name.size ≤ 40
  bks : ∀ b ∈ x.bks, BkG b
def bkN (l : List Sv) : Nat := (l.map fun x => x.bks.length).sum
structure GG (d : Nat) (st : St) : Prop where
  card : CdOk st.p.card
  id : 0 ≤ st.p.id ∧ st.p.id ≤ 65535
  prio : 0 ≤ st.p.prio ∧ st.p.prio ≤ 65535
  every : 0 ≤ st.p.every ∧ st.p.every ≤ 65535
  trs : ∀ x ∈ st.p.trs, -254 ≤ x.2 ∧ x.2 ≤ 254 ∧ x.1.size ≤ 40
  svs : ∀ x ∈ st.p.svs, SvG x
  sv : SvG st.sv
  bk : BkG st.bk
  tot : st.p.svs.length + bkN st.p.svs + st.sv.bks.length + d ≤ st.p.k
  vips : st.p.vips.length + d ≤ st.p.k
  ntr : st.p.trs.length + d ≤ st.p.k

/-- words go by, places are noted -/
def Sh (e : Nat) (p p' : Ps) : Prop := ∃ k b c sp, p.k + e ≤ k ∧ p' = { p with k := k, bad := b, code := c, spots := sp }
theorem Sh.set {d e : Nat} {st : St} {p' : Ps} (g : GG d st) (h : Sh e st.p p') : GG (d + e) (setP st p') := by
  obtain ⟨k, b, c, sp, hk, rfl⟩ := h
  have h1 := g.tot; have h2 := g.vips; have h3 := g.ntr
  exact ⟨g.card, g.id, g.prio, g.every, g.trs, g.svs, g.sv, g.bk, by show st.p.svs.length + bkN st.p.svs + st.sv.bks.length + (d + e) ≤ k; omega, by show st.p.vips.length + (d + e) ≤ k; omega, by show st.p.trs.length + (d + e) ≤ k; omega⟩
theorem GG.less {d d' : Nat} {st : St} (g : GG d st) (h : d' ≤ d) : GG d' st := by
  have h1 := g.tot; have h2 := g.vips; have h3 := g.ntr
  exact ⟨g.card, g.id, g.prio, g.every, g.trs, g.svs, g.sv, g.bk, by omega, by omega, by omega⟩
theorem sh_fail (p : Ps) (a c : Int) : Sh 0 p (failP p a c) := by
  unfold failP; split
  · exact ⟨p.k, a, c, p.spots, Nat.le_refl _, rfl⟩
  · exact ⟨p.k, p.bad, p.code, p.spots, Nat.le_refl _, rfl⟩
theorem sh_must (s : Bs) (l : List Wd) (w : Bs) (p : Ps) : Sh 0 p (mustP s l w p).1 := by
  unfold mustP; split
  · exact ⟨p.k + 1, p.bad, p.code, p.spots, Nat.le_succ _, rfl⟩
  · exact sh_fail _ _ _
theorem sh_value (s : Bs) (l : List Wd) (p : Ps) : Sh 0 p (valueP s l p).1 ∧ ((valueP s l p).2.2.2 = true → Sh 1 p (valueP s l p).1) := by
  unfold valueP; split
  · exact ⟨sh_fail _ _ _, fun h => by cases h⟩
  · exact ⟨⟨p.k + 1, p.bad, p.code, p.spots, Nat.le_succ _, rfl⟩, fun _ => ⟨p.k + 1, p.bad, p.code, p.spots, Nat.le_refl _, rfl⟩⟩

/-- a reader keeps to the bounds -/
def Kp (f : St → St × Bool) : Prop := ∀ d st, GG d st → GG d (f st).1

section
variable (s : Bs) (l : List Wd)
theorem kp_end : Kp (endL s l) := fun _ st g => (sh_must s l nl st.p).set g
theorem kp_number {put : St → Int → St} {lo hi : Int} (hp : ∀ d st v, lo ≤ v → v ≤ hi → GG d st → GG d (put st v)) : Kp (numberS s l put lo hi) := fun d st g => by
  unfold numberS
  have hv := (sh_value s l st.p).1
  generalize valueP s l st.p = v at hv
  obtain ⟨p, w, a, is⟩ := v
  cases is with
  | false => exact hv.set g
  | true =>
    unfold numberV
    simp only
    split
    · next h => exact kp_end s l d _ (hp d _ _ h.2.1 h.2.2 (hv.set g))
    · exact (sh_fail p a 182).set (st := setP st p) (hv.set g)
theorem kp_choice {put : St → Int → St} {L : List (Bs × Int)} (hp : ∀ d st v, v ∈ L.map (·.2) → GG d st → GG d (put st v)) : Kp (choiceS s l put L) := fun d st g => by
  unfold choiceS
  have hv := (sh_value s l st.p).1
  generalize valueP s l st.p = v at hv
  obtain ⟨p, w, a, is⟩ := v
  cases is with
  | false => exact hv.set g
  | true =>
    unfold choiceV
    simp only
    cases hl : lk L w with
    | some v => exact kp_end s l d _ (hp d _ _ (List.mem_map_of_mem (lk_mem hl)) (hv.set g))
    | none => exact (sh_fail p a 182).set (st := setP st p) (hv.set g)
theorem kp_card {put : St → Cd → St} (hc : ∀ w, CdOk (cdOf (cardP w).1)) (hp : ∀ d st v, CdOk v → GG d st → GG d (put st v)) : Kp (cardS s l put) := fun d st g => by
  unfold cardS
  have hv := (sh_value s l st.p).1
  generalize valueP s l st.p = v at hv
  obtain ⟨p, w, a, is⟩ := v
  cases is with
  | false => exact hv.set g
  | true =>
    unfold cardV
    simp only
    split
    · exact kp_end s l d _ (hp d _ _ (hc w) (hv.set g))
    · exact (sh_fail p a 182).set (st := setP st p) (hv.set g)
theorem kp_address {svc : Bool} {tk : St → Bs → Int → St × Bool} (ht : ∀ d st a at', GG (d + 1) st → GG d (tk st a at').1) : Kp (addressS s l svc tk) := fun d st g => by
  unfold addressS
  have hv := sh_value s l st.p
  generalize valueP s l st.p = v at hv
  obtain ⟨p, w, a, is⟩ := v
  cases is with
  | false => exact hv.1.set g
  | true =>
    unfold addressV
    simp only
    split
    · have g1 : GG (d + 1) (setP st { p with spots := p.spots ++ [((adrP w).1, a, svc)] }) := by
        obtain ⟨k, b, c, sp, hk, e⟩ := hv.2 rfl
        simp only at e
        refine Sh.set g ⟨k, b, c, p.spots ++ [((adrP w).1, a, svc)], hk, ?_⟩
        rw [e]
      have g2 := ht d _ (adrP w).1 a g1
      unfold thenEnd
      split
      · exact kp_end s l d _ g2
      · exact g2
    · exact (sh_fail p a 182).set (st := setP st p) (hv.1.set g)
end
end Go.Ev.Tryd

/- What was read is within bounds: blocks. -/
namespace Go.Ev.Tryd
set_option maxRecDepth 10000
open Go.Proofs

section
variable (s : Bs) (l : List Wd)
theorem kp_body {L : List (Bs × Key)} (hL : ∀ x ∈ L, Kp x.2.sem) : ∀ (F : Nat) (M : List (Bs × Int)), Kp (bodyS s l L F M)
  | 0, _ => fun _ _ g => g
  | F + 1, M => fun d st g => by
    unfold bodyS closeS
    have gk : GG d (setP st { st.p with k := st.p.k + 1 }) := Sh.set (e := 0) g ⟨st.p.k + 1, st.p.bad, st.p.code, st.p.spots, Nat.le_succ _, rfl⟩
    split
    · split
      · exact (sh_fail _ _ _).set g
      · exact kp_end s l d _ gk
    · cases hl : lk L (peekP l st.p.k) with
      | none => exact (sh_fail _ _ _).set g
      | some key =>
        simp only
        have g1 := hL _ (lk_mem hl) d _ gk
        split
        · exact (sh_fail _ _ _).set g
        · split
          · exact kp_body hL F _ d _ g1
          · exact g1
theorem kp_block {L : List (Bs × Key)} (hL : ∀ x ∈ L, Kp x.2.sem) : Kp (blockS s l L) := fun d st g => by
  unfold blockS
  have h1 := (sh_must s l ⟨#[123]⟩ st.p).set g
  have h2 : GG d (setP st (mustP s l nl (mustP s l ⟨#[123]⟩ st.p).1).1) := (sh_must s l nl (mustP s l ⟨#[123]⟩ st.p).1).set (st := setP st (mustP s l ⟨#[123]⟩ st.p).1) h1
  split
  · split
    · exact kp_body s l hL _ _ d _ h2
    · exact h2
  · exact h1
theorem sh_named (xs : List Bs) (p : Ps) : Sh 0 p (namedP s l xs p).1 ∧ ((namedP s l xs p).2.2 = true → Sh 1 p (namedP s l xs p).1 ∧ (namedP s l xs p).2.1.size ≤ 40) := by
  unfold namedP
  have hv := sh_value s l p
  generalize valueP s l p = v at hv
  obtain ⟨p1, w, a, is⟩ := v
  have hf : ∀ a c, Sh 0 p (failP p1 a c) := fun a c => by
    obtain ⟨k, b, c0, sp, hk, e⟩ := hv.1
    simp only at e
    obtain ⟨k', b', c', sp', hk', e'⟩ := sh_fail p1 a c
    exact ⟨k', b', c', sp', by rw [e] at hk'; simp only at hk'; omega, by rw [e', e]⟩
  cases is with
  | false => exact ⟨hv.1, fun h => by cases h⟩
  | true =>
    unfold namedV
    simp only
    split
    · exact ⟨hf _ _, fun h => by cases h⟩
    · split
      · exact ⟨hf _ _, fun h => by cases h⟩
      · next h40 _ => exact ⟨hv.1, fun _ => ⟨hv.2 rfl, by show w.size ≤ 40; omega⟩⟩
theorem kp_vip (d : Nat) (st : St) (a : Bs) (at' : Int) (g : GG (d + 1) st) : GG d (vipS st a at').1 := by
  unfold vipS
  split
  · exact ((sh_fail st.p at' 181).set (g.less (Nat.le_succ d)))
  · have h2 := g.vips
    have g0 := g.less (Nat.le_succ d)
    exact ⟨g0.card, g0.id, g0.prio, g0.every, g0.trs, g0.svs, g0.sv, g0.bk, g0.tot, by show (st.p.vips ++ [a]).length + d ≤ st.p.k; simp; omega, g0.ntr⟩
theorem kp_track : Kp (trackS s l) := fun d st g => by
  unfold trackS
  have hn := sh_named s l (st.p.trs.map (·.1)) st.p
  generalize namedP s l (st.p.trs.map (·.1)) st.p = v at hn
  obtain ⟨p, nm, is⟩ := v
  cases is with
  | false => exact hn.1.set g
  | true =>
    obtain ⟨h1, h40⟩ := hn.2 rfl
    have g1 : GG (d + 1) (setP st p) := h1.set g
    show GG d (weightV s l nm st (valueP s l p)).1
    have hv := (sh_value s l p).1
    generalize valueP s l p = v at hv
    obtain ⟨p2, w, a, is⟩ := v
    have g2 : GG (d + 1) (setP st p2) := Sh.set (e := 0) (st := setP st p) g1 hv
    cases is with
    | false => exact g2.less (Nat.le_succ d)
    | true =>
      unfold weightV
      simp only
      split
      · next h =>
        refine kp_end s l d _ ?_
        have h3 := g2.ntr
        have g0 := g2.less (Nat.le_succ d)
        refine ⟨g0.card, g0.id, g0.prio, g0.every, fun x hx => ?_, g0.svs, g0.sv, g0.bk, g0.tot, g0.vips, ?_⟩
        · rcases List.mem_append.1 (show x ∈ p2.trs ++ [(nm, if (dashP w).2 = true then - (numP (bs (dashP w).1)).1 else (numP (bs (dashP w).1)).1)] from hx) with hx | hx
          · exact g2.trs x hx
          · obtain rfl := List.mem_singleton.1 hx
            simp only
            refine ⟨?_, ?_, h40⟩ <;> split <;> omega
        · show (p2.trs ++ [(nm, if (dashP w).2 = true then - (numP (bs (dashP w).1)).1 else (numP (bs (dashP w).1)).1)]).length + d ≤ p2.k
          have h3' : p2.trs.length + (d + 1) ≤ p2.k := h3
          simp; omega
      · exact ((sh_fail p2 a 182).set (st := setP st p2) g2).less (Nat.le_succ d)
theorem kp_backend (hc : ∀ w, CdOk (cdOf (cardP w).1)) : Kp (backendS s l) := fun d st g => by
  unfold backendS
  have hn := sh_named s l (st.sv.bks.map (·.name)) st.p
  generalize namedP s l (st.sv.bks.map (·.name)) st.p = v at hn
  obtain ⟨p, nm, is⟩ := v
  cases is with
  | false => exact hn.1.set g
  | true =>
    obtain ⟨h1, h40⟩ := hn.2 rfl
    have g1 : GG (d + 1) (setP st p) := h1.set g
    have g2 : GG (d + 1) { setP st p with bk := ⟨nm, ⟨#[]⟩, cd0, 0, 1⟩ } := ⟨g1.card, g1.id, g1.prio, g1.every, g1.trs, g1.svs, g1.sv, ⟨⟨by simp [cd0]⟩, by simp, by simp, h40⟩, g1.tot, g1.vips, g1.ntr⟩
    have g3 := kp_block s l (L := backendK s l) (fun x hx => by
      simp only [backendK, mkK, List.mem_cons, List.not_mem_nil, or_false] at hx
      rcases hx with rfl | rfl | rfl | rfl
      · exact kp_address s l fun d st a _ g => by
          have g := g.less (Nat.le_succ d)
          exact ⟨g.card, g.id, g.prio, g.every, g.trs, g.svs, g.sv, ⟨g.bk.card, g.bk.port, g.bk.weight, g.bk.name⟩, g.tot, g.vips, g.ntr⟩
      · exact kp_card s l (put := putBCard) hc fun d st v hv g => ⟨g.card, g.id, g.prio, g.every, g.trs, g.svs, g.sv, ⟨hv, g.bk.port, g.bk.weight, g.bk.name⟩, g.tot, g.vips, g.ntr⟩
      · exact kp_number s l (put := putBPort) fun d st v h1 h2 g => ⟨g.card, g.id, g.prio, g.every, g.trs, g.svs, g.sv, ⟨g.bk.card, ⟨by show 0 ≤ v; omega, by show v ≤ 65535; omega⟩, g.bk.weight, g.bk.name⟩, g.tot, g.vips, g.ntr⟩
      · exact kp_number s l (put := putBWeight) fun d st v h1 h2 g => ⟨g.card, g.id, g.prio, g.every, g.trs, g.svs, g.sv, ⟨g.bk.card, g.bk.port, ⟨by show 0 ≤ v; omega, by show v ≤ 65535; omega⟩, g.bk.name⟩, g.tot, g.vips, g.ntr⟩) (d + 1) _ g2
    show GG d (pushB (blockS s l (backendK s l) { setP st p with bk := ⟨nm, ⟨#[]⟩, cd0, 0, 1⟩ })).1
    generalize blockS s l (backendK s l) { setP st p with bk := ⟨nm, ⟨#[]⟩, cd0, 0, 1⟩ } = r at g3
    have h3 := g3.tot
    have g4 := g3.less (Nat.le_succ d)
    refine ⟨g4.card, g4.id, g4.prio, g4.every, g4.trs, g4.svs, ⟨g4.sv.port, g4.sv.rise, g4.sv.fall, g4.sv.probe, g4.sv.name, fun b hb => ?_⟩, g4.bk, ?_, g4.vips, g4.ntr⟩
    · rcases List.mem_append.1 (show b ∈ r.1.sv.bks ++ [r.1.bk] from hb) with hb | hb
      · exact g4.sv.bks b hb
      · obtain rfl := List.mem_singleton.1 hb; exact g4.bk
    · show r.1.p.svs.length + bkN r.1.p.svs + (r.1.sv.bks ++ [r.1.bk]).length + d ≤ r.1.p.k
      simp; omega
end
end Go.Ev.Tryd

/- What was read is within bounds: the whole. -/
namespace Go.Ev.Tryd
set_option maxRecDepth 10000
open Go.Proofs

theorem sv0_g : SvG sv0 := ⟨⟨by decide, by decide⟩, ⟨by decide, by decide⟩, ⟨by decide, by decide⟩, ⟨by decide, by decide⟩, by decide, fun b hb => by cases hb⟩

section
variable (s : Bs) (l : List Wd) (hc : ∀ w, CdOk (cdOf (cardP w).1))
include hc
theorem kp_node : Kp (nodeS s l) := kp_block s l fun x hx => by
  simp only [nodeK, mkK, List.mem_cons, List.not_mem_nil, or_false] at hx
  rcases hx with rfl | rfl | rfl
  · exact kp_card s l (put := putCard) hc fun d st v hv g => ⟨hv, g.id, g.prio, g.every, g.trs, g.svs, g.sv, g.bk, g.tot, g.vips, g.ntr⟩
  · exact kp_address s l fun d st a _ g => by
      have g := g.less (Nat.le_succ d)
      exact ⟨g.card, g.id, g.prio, g.every, g.trs, g.svs, g.sv, g.bk, g.tot, g.vips, g.ntr⟩
  · exact kp_address s l fun d st a _ g => by
      have g := g.less (Nat.le_succ d)
      exact ⟨g.card, g.id, g.prio, g.every, g.trs, g.svs, g.sv, g.bk, g.tot, g.vips, g.ntr⟩
omit hc in
theorem kp_vrrp : Kp (vrrpS s l) := fun d st g => by
  have := kp_block s l (L := vrrpK s l) (fun x hx => by
    simp only [vrrpK, mkK, List.mem_cons, List.not_mem_nil, or_false] at hx
    rcases hx with rfl | rfl | rfl | rfl | rfl | rfl
    · exact kp_number s l (put := putId) fun d st v h1 h2 g => ⟨g.card, ⟨by show 0 ≤ v; omega, by show v ≤ 65535; omega⟩, g.prio, g.every, g.trs, g.svs, g.sv, g.bk, g.tot, g.vips, g.ntr⟩
    · exact kp_number s l (put := putPrio) fun d st v h1 h2 g => ⟨g.card, g.id, ⟨by show 0 ≤ v; omega, by show v ≤ 65535; omega⟩, g.every, g.trs, g.svs, g.sv, g.bk, g.tot, g.vips, g.ntr⟩
    · exact kp_number s l (put := putEvery) fun d st v h1 h2 g => ⟨g.card, g.id, g.prio, ⟨by show 0 ≤ v; omega, by show v ≤ 65535; omega⟩, g.trs, g.svs, g.sv, g.bk, g.tot, g.vips, g.ntr⟩
    · exact kp_choice s l (put := putYes) fun d st v _ g => ⟨g.card, g.id, g.prio, g.every, g.trs, g.svs, g.sv, g.bk, g.tot, g.vips, g.ntr⟩
    · exact kp_address s l kp_vip
    · exact kp_track s l) d { st with yes := 1 } ⟨g.card, g.id, g.prio, g.every, g.trs, g.svs, g.sv, g.bk, g.tot, g.vips, g.ntr⟩
  unfold vrrpS preS
  generalize blockS s l (vrrpK s l) { st with yes := 1 } = r at this
  exact ⟨this.card, this.id, this.prio, this.every, this.trs, this.svs, this.sv, this.bk, this.tot, this.vips, this.ntr⟩
omit hc in
theorem kp_sv {put : Sv → Int → Sv} {lo hi : Int} (hp : ∀ x v, lo ≤ v → v ≤ hi → SvG x → SvG (put x v)) (hb : ∀ x v, (put x v).bks = x.bks) (d : Nat) (st : St) (v : Int) (h1 : lo ≤ v) (h2 : v ≤ hi) (g : GG d st) : GG d { st with sv := put st.sv v } :=
  ⟨g.card, g.id, g.prio, g.every, g.trs, g.svs, hp _ _ h1 h2 g.sv, g.bk, by show st.p.svs.length + bkN st.p.svs + (put st.sv v).bks.length + d ≤ st.p.k; rw [hb]; exact g.tot, g.vips, g.ntr⟩
omit hc in
theorem bkN_app (a : List Sv) (x : Sv) : bkN (a ++ [x]) = bkN a + x.bks.length := by simp [bkN]
theorem kp_service : Kp (serviceS s l) := fun d st g => by
  unfold serviceS
  have hn := sh_named s l (st.p.svs.map (·.name)) st.p
  generalize namedP s l (st.p.svs.map (·.name)) st.p = v at hn
  obtain ⟨p, nm, is⟩ := v
  cases is with
  | false => exact hn.1.set g
  | true =>
    obtain ⟨h1, h40⟩ := hn.2 rfl
    have g1 : GG (d + 1) (setP st p) := h1.set g
    have g2 : GG (d + 1) { setP st p with sv := newSv nm } := ⟨g1.card, g1.id, g1.prio, g1.every, g1.trs, g1.svs, ⟨by simp [newSv], by simp [newSv], by simp [newSv], by simp [newSv], h40, by simp [newSv]⟩, g1.bk, by
      have h3 : p.svs.length + bkN p.svs + st.sv.bks.length + (d + 1) ≤ p.k := g1.tot
      show p.svs.length + bkN p.svs + 0 + (d + 1) ≤ p.k
      omega, g1.vips, g1.ntr⟩
    have g3 := kp_block s l (L := serviceK s l) (fun x hx => by
      simp only [serviceK, mkK, List.mem_cons, List.not_mem_nil, or_false] at hx
      rcases hx with rfl | rfl | rfl | rfl | rfl | rfl | rfl | rfl | rfl
      · exact kp_choice s l (put := putSProto) fun d st v _ g => ⟨g.card, g.id, g.prio, g.every, g.trs, g.svs, ⟨g.sv.port, g.sv.rise, g.sv.fall, g.sv.probe, g.sv.name, g.sv.bks⟩, g.bk, g.tot, g.vips, g.ntr⟩
      · exact kp_address s l fun d st a _ g => by
          have g := g.less (Nat.le_succ d)
          exact ⟨g.card, g.id, g.prio, g.every, g.trs, g.svs, ⟨g.sv.port, g.sv.rise, g.sv.fall, g.sv.probe, g.sv.name, g.sv.bks⟩, g.bk, g.tot, g.vips, g.ntr⟩
      · exact kp_number s l (put := putSPort) (kp_sv (put := fun x v => { x with port := v }) (fun x v h1 h2 g => ⟨⟨by show 0 ≤ v; omega, by show v ≤ 65535; omega⟩, g.rise, g.fall, g.probe, g.name, g.bks⟩) fun _ _ => rfl)
      · exact kp_choice s l (put := putSMode) fun d st v _ g => ⟨g.card, g.id, g.prio, g.every, g.trs, g.svs, ⟨g.sv.port, g.sv.rise, g.sv.fall, g.sv.probe, g.sv.name, g.sv.bks⟩, g.bk, g.tot, g.vips, g.ntr⟩
      · exact kp_choice s l (put := putSSched) fun d st v _ g => ⟨g.card, g.id, g.prio, g.every, g.trs, g.svs, ⟨g.sv.port, g.sv.rise, g.sv.fall, g.sv.probe, g.sv.name, g.sv.bks⟩, g.bk, g.tot, g.vips, g.ntr⟩
      · exact kp_number s l (put := putSRise) (kp_sv (put := fun x v => { x with rise := v }) (fun x v h1 h2 g => ⟨g.port, ⟨by show 0 ≤ v; omega, by show v ≤ 65535; omega⟩, g.fall, g.probe, g.name, g.bks⟩) fun _ _ => rfl)
      · exact kp_number s l (put := putSFall) (kp_sv (put := fun x v => { x with fall := v }) (fun x v h1 h2 g => ⟨g.port, g.rise, ⟨by show 0 ≤ v; omega, by show v ≤ 65535; omega⟩, g.probe, g.name, g.bks⟩) fun _ _ => rfl)
      · exact kp_number s l (put := putSProbe) (kp_sv (put := fun x v => { x with probe := v }) (fun x v h1 h2 g => ⟨g.port, g.rise, g.fall, ⟨by show 0 ≤ v; omega, by show v ≤ 65535; omega⟩, g.name, g.bks⟩) fun _ _ => rfl)
      · exact kp_backend s l hc) (d + 1) _ g2
    show GG d (pushS (blockS s l (serviceK s l) { setP st p with sv := newSv nm })).1
    generalize blockS s l (serviceK s l) { setP st p with sv := newSv nm } = r at g3
    have h3 := g3.tot
    have g4 := g3.less (Nat.le_succ d)
    refine ⟨g4.card, g4.id, g4.prio, g4.every, g4.trs, fun x hx => ?_, sv0_g, g4.bk, ?_, g4.vips, g4.ntr⟩
    · rcases List.mem_append.1 (show x ∈ r.1.p.svs ++ [r.1.sv] from hx) with hx | hx
      · exact g4.svs x hx
      · obtain rfl := List.mem_singleton.1 hx; exact g4.sv
    · show (r.1.p.svs ++ [r.1.sv]).length + bkN (r.1.p.svs ++ [r.1.sv]) + 0 + d ≤ r.1.p.k
      rw [bkN_app]
      simp; omega
omit hc in
theorem kp_allB {L : List (Bs × Key)} (hL : ∀ x ∈ L, Kp x.2.sem) : ∀ (F : Nat) (M : List (Bs × Int)), Kp (allB s l L F M)
  | 0, _ => fun _ _ g => g
  | F + 1, M => fun d st g => by
    unfold allB
    have gk : GG d (setP st { st.p with k := st.p.k + 1 }) := Sh.set (e := 0) g ⟨st.p.k + 1, st.p.bad, st.p.code, st.p.spots, Nat.le_succ _, rfl⟩
    split
    · cases hl : lk L (peekP l st.p.k) with
      | none => exact (sh_fail _ _ _).set g
      | some key =>
        simp only
        have g1 := hL _ (lk_mem hl) d _ gk
        split
        · exact (sh_fail _ _ _).set g
        · split
          · exact kp_allB hL F _ d _ g1
          · exact g1
    · unfold endA spotsS vipsS spotS
      split
      · exact (sh_fail _ _ _).set g
      · split
        · exact (sh_fail _ _ _).set g
        · split
          · exact (sh_fail _ _ _).set g
          · exact g
theorem kp_all : Kp (allS s l) := kp_allB s l (fun x hx => by
  simp only [allK, mkK, List.mem_cons, List.not_mem_nil, or_false] at hx
  rcases hx with rfl | rfl | rfl
  · exact kp_node s l hc
  · exact kp_vrrp s l
  · exact kp_service s l hc) _ _
end
end Go.Ev.Tryd

/- What was read is within bounds: cards; the configuration can be written. -/
namespace Go.Ev.Tryd
set_option maxRecDepth 10000
open Go.Proofs

theorem wrap_u8_in (x : Int) : 0 ≤ IntKind.u8.wrap x ∧ IntKind.u8.wrap x < 256 := by
  have : IntKind.u8.wrap x = x % 256 := by
    simp [IntKind.wrap, IntKind.signed, IntKind.bits]
  omega
theorem gout_in {rd : ByteArray → Int × Bool} {w : Nat} : ∀ {l : List ByteArray} {x : List Int}, gout rd w l = some x → ∀ y ∈ x, 0 ≤ y ∧ y < 256
  | [], x, h => by
    obtain rfl : [] = x := Option.some.inj h
    intro y hy; cases hy
  | p :: ps, x, h => by
    unfold gout at h
    split at h
    · obtain ⟨z, hz, rfl⟩ := Option.map_eq_some_iff.1 h
      intro y hy
      rcases List.mem_append.1 hy with hy | hy
      · unfold byt at hy
        split at hy
        · obtain rfl := List.mem_singleton.1 hy; exact wrap_u8_in _
        · simp only [List.mem_cons, List.not_mem_nil, or_false] at hy
          rcases hy with rfl | rfl <;> exact wrap_u8_in _
      · exact gout_in hz y hy
    · cases h
theorem cardP_in (w : Bs) : ∀ y ∈ (cardP w).1, 0 ≤ y ∧ y < 256 := by
  unfold cardP
  split
  · next x hx =>
    split
    · exact gout_in hx
    · intro y hy; simp at hy; omega
  · intro y hy; simp at hy; omega
theorem cdOf_ok : ∀ {l : List Int}, l.length = 6 → (∀ y ∈ l, 0 ≤ y ∧ y < 256) → CdOk (cdOf l)
  | [a, b, c, d, e, f], _, h => ⟨h⟩
theorem card_ok (w : Bs) : CdOk (cdOf (cardP w).1) := cdOf_ok (cardP_len w) (cardP_in w)
theorem gg0 : GG 0 st0 := ⟨⟨by simp [st0, ps0, cd0]⟩, ⟨by decide, by decide⟩, ⟨by decide, by decide⟩, ⟨by decide, by decide⟩, fun x hx => (by cases hx), fun x hx => (by cases hx), sv0_g, ⟨⟨by simp [st0, bk0, cd0]⟩, ⟨by decide, by decide⟩, ⟨by decide, by decide⟩, by decide⟩, Nat.zero_le _, Nat.zero_le _, Nat.zero_le _⟩
theorem read_ok (s : Bs) (l : List Wd) : GG 0 (allS s l st0).1 := kp_all s l card_ok 0 st0 gg0
theorem i64_of {v : Int} (h : 0 ≤ v ∧ v ≤ 65535) : i64ok v := ⟨by omega, by omega⟩
end Go.Ev.Tryd

/- What was read can be written: PsOk. -/
namespace Go.Ev.Tryd
set_option maxRecDepth 10000
open Go.Proofs

theorem len_le_bkN : ∀ {l : List Sv} {x : Sv}, x ∈ l → x.bks.length ≤ bkN l
  | y :: l, x, h => by
    have e : bkN (y :: l) = y.bks.length + bkN l := by simp [bkN]
    rw [e]
    rcases List.mem_cons.1 h with rfl | h
    · omega
    · have := len_le_bkN h; omega
theorem psOk_of {st : St} (g : GG 0 st) (hk : st.p.k ≤ 300000) : PsOk st.p := by
  have h1 := g.tot; have h2 := g.vips; have h3 := g.ntr
  refine ⟨g.card, i64_of g.id, i64_of g.prio, i64_of g.every, fun x hx => ?_, fun x hx => ?_, by omega, by omega, by omega⟩
  · have := g.trs x hx
    exact ⟨by omega, by omega⟩
  · have s := g.svs x hx
    have hl := len_le_bkN hx
    refine ⟨i64_of s.port, i64_of s.rise, i64_of s.fall, i64_of s.probe, fun b hb => ?_, by omega⟩
    have k := s.bks b hb
    exact ⟨k.card, i64_of k.port, i64_of k.weight⟩
end Go.Ev.Tryd

/- Blanks, empty lines and notes between lines are not seen. -/
namespace Go.Ev.Tryd
set_option maxRecDepth 10000
open Go.Proofs

/-- two readers of words that stand alike -/
structure Eq2 (s s' : Bs) (st st' : Rd) (k k' : Int) : Prop where
  l : st.l.map nW = st'.l.map nW
  some_ : st.some' = st'.some'
  note : st.note = st'.note
  from_ : (st.from' < 0 ∧ st'.from' < 0) ∨ (0 ≤ st.from' ∧ 0 ≤ st'.from' ∧ st.from' ≤ k ∧ k - st.from' = k' - st'.from' ∧ cut s st.from' k = cut s' st'.from' k')

theorem cut_succ {s : Bs} {x k : Int} (h0 : 0 ≤ x) (h1 : x ≤ k) {c : UInt8} (hc : (bs s)[k.toNat]? = some c) : cut s x (k + 1) = mk (bs (cut s x k) ++ [c]) := by
  unfold cut
  rw [bs_mk]
  have e1 : (k + 1).toNat - x.toNat = (k.toNat - x.toNat) + 1 := by omega
  rw [e1, List.take_add_one, List.getElem?_drop, show x.toNat + (k.toNat - x.toNat) = k.toNat by omega, hc]
  rfl
theorem eq2_end {s s' : Bs} {st st' : Rd} {k k' : Int} (e : Eq2 s s' st st' k k') : Eq2 s s' (endP s st k).1 (endP s' st' k').1 k k' ∧ (endP s st k).2 = (endP s' st' k').2 ∧ (endP s st k).1.from' < 0 ∧ (endP s' st' k').1.from' < 0 := by
  unfold endP
  rcases e.from_ with ⟨h1, h2⟩ | ⟨h1, h2, h3, h4, h5⟩
  · rw [if_pos h1, if_pos h2]
    exact ⟨e, rfl, h1, h2⟩
  · rw [if_neg (by omega), if_neg (by omega)]
    refine ⟨⟨?_, rfl, e.note, .inl ⟨(by decide : (-1 : Int) < 0), (by decide : (-1 : Int) < 0)⟩⟩, ?_, (by decide : (-1 : Int) < 0), (by decide : (-1 : Int) < 0)⟩
    · show (st.l ++ _).map nW = (st'.l ++ _).map nW
      rw [List.map_append, List.map_append, e.l]
      show _ ++ [(cut s st.from' k, 0, 0)] = _ ++ [(cut s' st'.from' k', 0, 0)]
      rw [h5]
    · rw [h5]
theorem eq2_stop {s s' : Bs} {st st' : Rd} {k k' : Int} (e : Eq2 s s' st st' k k') (h1 : st.from' < 0) (h2 : st'.from' < 0) (j j' : Int) : Eq2 s s' (stopP st k) (stopP st' k') j j' := by
  refine ⟨?_, rfl, rfl, .inl ⟨h1, h2⟩⟩
  unfold stopP
  show (if st.some' = true then st.l ++ [(mk [10], k, st.line)] else st.l).map nW = (if st'.some' = true then st'.l ++ [(mk [10], k', st'.line)] else st'.l).map nW
  rw [← e.some_]
  split
  · rw [List.map_append, List.map_append, e.l]; rfl
  · exact e.l
/-- one byte, the same in both -/
theorem eq2_take {s s' : Bs} {st st' : Rd} {k k' : Int} (e : Eq2 s s' st st' k k') (hk : 0 ≤ k) (hk' : 0 ≤ k') {c : UInt8} (hc : (bs s)[k.toNat]? = some c) (hc' : (bs s')[k'.toNat]? = some c) :
    Eq2 s s' (takeP s st c.toNat k).1 (takeP s' st' c.toNat k').1 (k + 1) (k' + 1) ∧ (takeP s st c.toNat k).2 = (takeP s' st' c.toNat k').2 := by
  obtain ⟨q1, q2, q3, q4⟩ := eq2_end e
  have keep : Eq2 s s' st st' (k + 1) (k' + 1) := ⟨e.l, e.some_, e.note, by
    rcases e.from_ with h | ⟨h1, h2, h3, h4, h5⟩
    · exact .inl h
    · refine .inr ⟨h1, h2, by omega, by omega, ?_⟩
      rw [cut_succ h1 h3 hc, cut_succ h2 (by omega) hc', h5]⟩
  have gone : Eq2 s s' (endP s st k).1 (endP s' st' k').1 (k + 1) (k' + 1) := ⟨q1.l, q1.some_, q1.note, .inl ⟨q3, q4⟩⟩
  unfold takeP
  rw [← e.note]
  split
  · exact ⟨eq2_stop q1 q3 q4 _ _, q2⟩
  split
  · exact ⟨keep, rfl⟩
  split
  · exact ⟨⟨gone.l, gone.some_, rfl, gone.from_⟩, q2⟩
  split
  · exact ⟨gone, q2⟩
  split
  · have e3 : Eq2 s s' { (endP s st k).1 with from' := k } { (endP s' st' k').1 with from' := k' } (k + 1) (k' + 1) := ⟨q1.l, q1.some_, q1.note, .inr ⟨hk, hk', by show k ≤ k + 1; omega, by show k + 1 - k = k' + 1 - k'; omega, by
      show cut s k (k + 1) = cut s' k' (k' + 1)
      rw [cut_succ hk (Int.le_refl _) hc, cut_succ hk' (Int.le_refl _) hc']
      unfold cut
      simp⟩⟩
    exact ⟨(eq2_end e3).1, q2⟩
  split
  · next h =>
    have h' : st'.from' < 0 := by
      rcases e.from_ with h2 | h2
      · exact h2.2
      · omega
    rw [if_pos h']
    exact ⟨⟨e.l, e.some_, rfl, .inr ⟨hk, hk', by show k ≤ k + 1; omega, by show k + 1 - k = k' + 1 - k'; omega, by
      show cut s k (k + 1) = cut s' k' (k' + 1)
      rw [cut_succ hk (Int.le_refl _) hc, cut_succ hk' (Int.le_refl _) hc']
      unfold cut
      simp⟩⟩, rfl⟩
  · next h =>
    have h' : ¬ st'.from' < 0 := by
      rcases e.from_ with h2 | h2
      · omega
      · omega
    rw [if_neg h']
    exact ⟨keep, rfl⟩
/-- a note goes by -/
theorem allL_note {s : Bs} {st : Rd} (h1 : st.from' < 0) (h2 : st.note = true) : ∀ (ns rest : List UInt8) (k : Int), (∀ c ∈ ns, 32 ≤ c.toNat ∧ c.toNat ≤ 126) → allL s st k (ns ++ rest) = allL s st (k + ns.length) rest
  | [], rest, k, _ => by simp
  | c :: ns, rest, k, h => by
    have hc := h c (by simp)
    have e1 : takeP s st c.toNat k = (st, true) := by
      unfold takeP
      rw [if_neg (by omega), if_pos h2]
    rw [List.cons_append, allL, if_neg (by omega), if_pos (by unfold mayP; simp; omega), e1]
    simp only [if_true]
    rw [allL_note h1 h2 ns rest (k + 1) fun c hc => h c (by simp [hc])]
    congr 1
    simp only [List.length_cons]
    push_cast
    omega
theorem allL_one {s : Bs} {st st2 : Rd} {k : Int} {c : UInt8} {rest : List UInt8} (h1 : st.from' < 0) (hm : mayP c.toNat = true) (e : takeP s st c.toNat k = (st2, true)) : allL s st k (c :: rest) = allL s st2 (k + 1) rest := by
  rw [allL, if_neg (by omega), if_pos hm, e]
  simp only [if_true]
theorem endP_none {s : Bs} {st : Rd} (h1 : st.from' < 0) (k : Int) : endP s st k = (st, true) := by unfold endP; rw [if_pos h1]
/-- blanks, a note and empty lines go by -/
theorem allL_gap {s : Bs} {st : Rd} (h1 : st.from' < 0) (h2 : st.some' = false) (h3 : st.note = false) (ns rest : List UInt8) (hn : ∀ c ∈ ns, 32 ≤ c.toNat ∧ c.toNat ≤ 126) (k : Int) :
    allL s st k (32 :: 9 :: 35 :: ((32 :: ns) ++ (10 :: 10 :: 32 :: 32 :: rest))) = allL s { st with line := st.line + 1 + 1 } (k + 8 + ns.length) rest := by
  have bl : ∀ (st : Rd), st.from' < 0 → st.note = false → ∀ k, takeP s st 32 k = (st, true) := fun st h1 h3 k => by
    unfold takeP
    rw [if_neg (by decide), if_neg (by rw [h3]; decide), if_neg (by decide), if_pos (by decide), endP_none h1]
  have tb : takeP s st 9 (k + 1) = (st, true) := by
    unfold takeP
    rw [if_neg (by decide), if_neg (by rw [h3]; decide), if_neg (by decide), if_pos (by decide), endP_none h1]
  have hs : takeP s st 35 (k + 1 + 1) = ({ st with note := true }, true) := by
    unfold takeP
    rw [if_neg (by decide), if_neg (by rw [h3]; decide), if_pos (by decide), endP_none h1]
  have n1 : ∀ (st : Rd), st.from' < 0 → st.some' = false → ∀ k, takeP s st 10 k = ({ st with line := st.line + 1, some' := false, note := false }, true) := fun st h1 h2 k => by
    unfold takeP stopP
    rw [if_pos rfl, endP_none h1]
    simp [h2]
  rw [allL_one h1 (by decide) (bl st h1 h3 k), allL_one h1 (by decide) tb, allL_one h1 (by decide) hs]
  rw [allL_note (st := { st with note := true }) h1 rfl (32 :: ns) _ _ (by
    intro c hc
    rcases List.mem_cons.1 hc with rfl | hc
    · decide
    · exact hn c hc)]
  rw [allL_one (st := { st with note := true }) h1 (by decide) (n1 { st with note := true } h1 h2 _)]
  rw [allL_one (st := { st with line := st.line + 1, some' := false, note := false }) h1 (by decide) (n1 { st with line := st.line + 1, some' := false, note := false } h1 rfl _)]
  rw [allL_one (st := { st with line := st.line + 1 + 1, some' := false, note := false }) h1 (by decide) (bl { st with line := st.line + 1 + 1, some' := false, note := false } h1 rfl _)]
  rw [allL_one (st := { st with line := st.line + 1 + 1, some' := false, note := false }) h1 (by decide) (bl { st with line := st.line + 1 + 1, some' := false, note := false } h1 rfl _)]
  have e1 : ({ st with line := st.line + 1 + 1, some' := false, note := false } : Rd) = { st with line := st.line + 1 + 1 } := by
    cases st; simp only at h2 h3; subst h2; subst h3; rfl
  have e2 : k + 1 + 1 + 1 + ((32 :: ns : List UInt8).length : Int) + 1 + 1 + 1 + 1 = k + 8 + ns.length := by simp only [List.length_cons]; push_cast; omega
  rw [e2]
  exact congrArg (fun x => allL s x (k + 8 + ns.length) rest) e1
end Go.Ev.Tryd

/- Blanks, empty lines and notes between lines are not seen: the whole text. -/
namespace Go.Ev.Tryd
set_option maxRecDepth 10000
open Go.Proofs

def gapL (ns : List UInt8) : List UInt8 := 32 :: 9 :: 35 :: ((32 :: ns) ++ [10, 10, 32, 32])
def wideL (ns : List UInt8) : List UInt8 → List UInt8
  | [] => []
  | c :: l => if c = 10 then c :: (gapL ns ++ wideL ns l) else c :: wideL ns l
/-- both fail, or the texts are the same -/
def Same2 : (List Wd) ⊕ Int → (List Wd) ⊕ Int → Prop
  | .inl l, .inl l' => l.map nW = l'.map nW
  | .inr _, .inr _ => True
  | _, _ => False
theorem wide_same {s s' : Bs} {ns : List UInt8} (hn : ∀ c ∈ ns, 32 ≤ c.toNat ∧ c.toNat ≤ 126) : ∀ (l : List UInt8) (k k' : Nat) (st st' : Rd), (bs s).drop k = l → (bs s').drop k' = wideL ns l → Eq2 s s' st st' k k' → Same2 (allL s st k l) (allL s' st' k' (wideL ns l))
  | [], k, k', st, st', _, _, e => by
    obtain ⟨q1, q2, q3, q4⟩ := eq2_end e
    show Same2 (allL s st k []) (allL s' st' k' [])
    unfold allL
    rw [← q2]
    split
    · exact (eq2_stop q1 q3 q4 0 0).l
    · trivial
  | c :: l, k, k', st, st', h, h', e => by
    have hc : (bs s)[k]? = some c := by rw [← List.head?_drop, h]; rfl
    have hd : (bs s).drop (k + 1) = l := by rw [← List.drop_drop, h]; rfl
    have hc' : (bs s')[k']? = some c := by
      rw [← List.head?_drop, h']
      unfold wideL
      split <;> rfl
    obtain ⟨q1, q2⟩ := eq2_take (c := c) e (Int.natCast_nonneg k) (Int.natCast_nonneg k') hc hc'
    have hw : wideL ns (c :: l) = c :: (if c = 10 then gapL ns ++ wideL ns l else wideL ns l) := by
      show (if c = 10 then _ else _) = _
      split <;> rfl
    have hd' : (bs s').drop (k' + 1) = (if c = 10 then gapL ns ++ wideL ns l else wideL ns l) := by rw [← List.drop_drop, h', hw]; rfl
    rw [hw, allL, allL]
    have hcond : (0 ≤ st.from' ∧ 60 < (k : Int) - st.from') ↔ (0 ≤ st'.from' ∧ 60 < (k' : Int) - st'.from') := by
      rcases e.from_ with h | h <;> omega
    by_cases h60 : 0 ≤ st.from' ∧ 60 < (k : Int) - st.from'
    · rw [if_pos h60, if_pos (hcond.1 h60)]; trivial
    rw [if_neg h60, if_neg fun q => h60 (hcond.2 q)]
    split
    · rw [← q2]
      split
      · by_cases h10 : c = 10
        · rw [if_pos h10] at hd' ⊢
          subst h10
          obtain ⟨_, _, z1, z2⟩ := eq2_end e
          have a1 : (takeP s' st' (10 : UInt8).toNat k').1 = stopP (endP s' st' k').1 k' := by unfold takeP; rw [if_pos (by decide)]
          have a0 : (takeP s st (10 : UInt8).toNat k).1 = stopP (endP s st k).1 k := by unfold takeP; rw [if_pos (by decide)]
          have f1 : (takeP s' st' (10 : UInt8).toNat k').1.from' < 0 := by rw [a1]; exact z2
          have f0 : (takeP s st (10 : UInt8).toNat k).1.from' < 0 := by rw [a0]; exact z1
          have hg := allL_gap (s := s') (st := (takeP s' st' (10 : UInt8).toNat k').1) f1 (by rw [a1]; rfl) (by rw [a1]; rfl) ns (wideL ns l) hn ((k' : Int) + 1)
          have hcat : gapL ns ++ wideL ns l = 32 :: 9 :: 35 :: ((32 :: ns) ++ (10 :: 10 :: 32 :: 32 :: wideL ns l)) := by simp [gapL]
          rw [hcat, hg]
          have hlen : (gapL ns).length = 8 + ns.length := by simp [gapL]; omega
          have := wide_same hn l (k + 1) (k' + 1 + (8 + ns.length)) (takeP s st (10 : UInt8).toNat k).1 { (takeP s' st' (10 : UInt8).toNat k').1 with line := (takeP s' st' (10 : UInt8).toNat k').1.line + 1 + 1 } hd (by rw [← List.drop_drop, hd', ← hlen, List.drop_left]) ⟨q1.l, q1.some_, q1.note, .inl ⟨f0, f1⟩⟩
          have e3 : ((k' + 1 + (8 + ns.length) : Nat) : Int) = (k' : Int) + 1 + 8 + ns.length := by omega
          rw [e3] at this
          exact this
        · rw [if_neg h10] at hd' ⊢
          exact wide_same hn l (k + 1) (k' + 1) _ _ hd hd' q1
      · trivial
    · trivial
theorem allP_wide {s s' : Bs} {ns : List UInt8} (hn : ∀ c ∈ ns, 32 ≤ c.toNat ∧ c.toNat ≤ 126) (h : bs s' = wideL ns (bs s)) : Same2 (allP s) (allP s') := by
  have := wide_same (s := s) (s' := s') hn (bs s) 0 0 rd0 rd0 rfl h ⟨rfl, rfl, rfl, .inl ⟨by decide, by decide⟩⟩
  unfold allP
  rw [h]
  exact this
end Go.Ev.Tryd

/- What was read is written in few bytes. -/
namespace Go.Ev.Tryd
set_option maxRecDepth 10000
open Go.Proofs

theorem itoa_size {v : Int} (h : i64ok v) : (itoaS v).size ≤ 2000 := by
  have := Lib.itoa_length_le v h.1 h.2
  have e : (itoaS v).size = (Lib.itoa v).length := by simp [itoaS, ByteArray.size]
  omega
theorem cdT_size {x : Cd} (h : CdOk x) : (cdT x).size ≤ 2000 := Nat.le_of_lt (mac_size (m := [x.a, x.b, x.c, x.d, x.e, x.f]) rfl h.1)
theorem pT_size (a : Bs) : (pT a).size ≤ 2000 := Nat.le_of_lt (adr_size a)

/-- lines of few short words -/
def Lw (ls : List (List Bs)) : Prop := ∀ ws ∈ ls, ws.length ≤ 3 ∧ ∀ w ∈ ws, w.size ≤ 2000
theorem Lw.app {a b : List (List Bs)} (h1 : Lw a) (h2 : Lw b) : Lw (a ++ b) := fun ws hw => (List.mem_append.1 hw).elim (h1 ws) (h2 ws)
theorem Lw.cons {a : List Bs} {b : List (List Bs)} (h1 : a.length ≤ 3 ∧ ∀ w ∈ a, w.size ≤ 2000) (h2 : Lw b) : Lw (a :: b) := fun ws hw => by
  rcases List.mem_cons.1 hw with rfl | hw
  · exact h1
  · exact h2 ws hw
theorem Lw.nil : Lw [] := fun ws hw => by cases hw
theorem renL_le {ws : List Bs} (h : ws.length ≤ 3 ∧ ∀ w ∈ ws, w.size ≤ 2000) : (renL ws).length ≤ 6010 := by
  have h1 : (Lib.join (ws.map fun x : ByteArray => x.data.toList) [32]).length ≤ (ws.map fun x : ByteArray => x.data.toList).flatten.length + ws.length := by
    have := join_le 32 (ws.map fun x : ByteArray => x.data.toList)
    rwa [List.length_map] at this
  have h2 : (ws.map fun x : ByteArray => x.data.toList).flatten.length ≤ 2000 * ws.length := flat_le h.2
  have h3 : (renL ws).length = (Lib.join (ws.map fun x : ByteArray => x.data.toList) [32]).length + 1 := by
    show (bs (joinS ws sp) ++ [10]).length = _
    rw [List.length_append, bs_len]
    rfl
  have := h.1
  have : 2000 * ws.length ≤ 2000 * 3 := Nat.mul_le_mul_left _ h.1
  omega
theorem ren_le : ∀ {ls : List (List Bs)}, Lw ls → (ren ls).length ≤ 6010 * ls.length
  | [], _ => by simp [ren]
  | a :: ls, h => by
    have h1 := renL_le (h a (by simp))
    have h2 := ren_le (ls := ls) fun ws hw => h ws (by simp [hw])
    rw [ren_cons, List.length_append, List.length_cons]
    omega
theorem lw1 {a : Bs} (h : a.size ≤ 2000) : ([a] : List Bs).length ≤ 3 ∧ ∀ w ∈ [a], w.size ≤ 2000 := ⟨by simp, by simpa using h⟩
theorem lw2 {a b : Bs} (h1 : a.size ≤ 2000) (h2 : b.size ≤ 2000) : ([a, b] : List Bs).length ≤ 3 ∧ ∀ w ∈ [a, b], w.size ≤ 2000 := ⟨by simp, by simp [h1, h2]⟩
theorem lw3 {a b c : Bs} (h1 : a.size ≤ 2000) (h2 : b.size ≤ 2000) (h3 : c.size ≤ 2000) : ([a, b, c] : List Bs).length ≤ 3 ∧ ∀ w ∈ [a, b, c], w.size ≤ 2000 := ⟨by simp, by simp [h1, h2, h3]⟩

theorem bkL_lw {x : Bk} (g : BkG x) : Lw (bkL x) ∧ (bkL x).length ≤ 6 := by
  unfold bkL
  refine ⟨((Lw.cons (lw3 (by decide) (by have := g.name; omega) (by decide)) (.cons (lw2 (by decide) (pT_size _)) (.cons (lw2 (by decide) (cdT_size g.card)) .nil))).app ?_).app (.cons (lw2 (by decide) (itoa_size (i64_of g.weight))) (.cons (lw1 (by decide)) .nil)), ?_⟩
  · split
    · exact .nil
    · exact .cons (lw2 (by decide) (itoa_size (i64_of g.port))) .nil
  · split <;> simp
theorem bks_lw : ∀ {l : List Bk}, (∀ x ∈ l, BkG x) → Lw (l.flatMap bkL) ∧ (l.flatMap bkL).length ≤ 6 * l.length
  | [], _ => ⟨.nil, by simp⟩
  | x :: l, h => by
    obtain ⟨h1, h2⟩ := bkL_lw (h x (by simp))
    obtain ⟨h3, h4⟩ := bks_lw (l := l) fun y hy => h y (by simp [hy])
    exact ⟨h1.app h3, by simp only [List.flatMap_cons, List.length_append, List.length_cons]; omega⟩
theorem pickL_size {l : List Bs} (h : ∀ w ∈ l, w.size ≤ 2000) (v : Int) : (pickL l v).size ≤ 2000 := by
  unfold pickL
  generalize (if v < 1 ∨ (l.length : Int) < v then l.length - 1 else (v - 1).toNat) = i
  rw [List.getD_eq_getElem?_getD]
  cases hi : l[i]? with
  | none => exact Nat.zero_le _
  | some w => exact h w (List.mem_of_getElem? hi)
theorem svL_lw {x : Sv} (g : SvG x) : Lw (svL x) ∧ (svL x).length ≤ 10 + 6 * x.bks.length := by
  obtain ⟨h1, h2⟩ := bks_lw g.bks
  unfold svL svH
  refine ⟨.cons (lw3 (by decide) (by have := g.name; omega) (by decide)) (.cons (lw2 (by decide) (by split <;> decide)) (.app ?_ (h1.app (.cons (lw1 (by decide)) .nil)))), ?_⟩
  · exact .cons (lw2 (by decide) (pT_size _)) (.cons (lw2 (by decide) (itoa_size (i64_of g.port))) (.cons (lw2 (by decide) (pickL_size (by decide) _)) (.cons (lw2 (by decide) (pickL_size (by decide) _))
      (.cons (lw2 (by decide) (itoa_size (i64_of g.rise))) (.cons (lw2 (by decide) (itoa_size (i64_of g.fall))) (.cons (lw2 (by decide) (itoa_size (i64_of g.probe))) .nil))))))
  · simp only [List.length_cons, List.length_append, List.length_nil]; omega
theorem svsL_lw : ∀ {l : List Sv}, (∀ x ∈ l, SvG x) → Lw (svsL l) ∧ (svsL l).length ≤ 10 * l.length + 6 * bkN l
  | [], _ => ⟨.nil, by simp [svsL]⟩
  | x :: l, h => by
    obtain ⟨h1, h2⟩ := svL_lw (h x (by simp))
    obtain ⟨h3, h4⟩ := svsL_lw (l := l) fun y hy => h y (by simp [hy])
    have e : bkN (x :: l) = x.bks.length + bkN l := by simp [bkN]
    have e2 : svsL (x :: l) = svL x ++ svsL l := rfl
    rw [e, e2]
    exact ⟨h1.app h3, by simp only [List.length_append, List.length_cons]; omega⟩
theorem printL_lw {st : St} (g : GG 0 st) : Lw (printL st.p) := by
  unfold printL headL vipsL trsL
  refine .app ?_ (.cons (lw2 (by decide) (by split <;> decide)) (.app ?_ (.app ?_ (.cons (lw1 (by decide)) (svsL_lw g.svs).1))))
  · exact .cons (lw2 (by decide) (by decide)) (.cons (lw2 (by decide) (cdT_size g.card)) (.cons (lw2 (by decide) (pT_size _)) (.cons (lw2 (by decide) (pT_size _)) (.cons (lw1 (by decide)) (.cons (lw2 (by decide) (by decide))
      (.cons (lw2 (by decide) (itoa_size (i64_of g.id))) (.cons (lw2 (by decide) (itoa_size (i64_of g.prio))) (.cons (lw2 (by decide) (itoa_size (i64_of g.every))) .nil))))))))
  · intro ws hw
    obtain ⟨a, _, rfl⟩ := List.mem_map.1 hw
    exact lw2 (by decide) (pT_size _)
  · intro ws hw
    obtain ⟨x, hx, rfl⟩ := List.mem_map.1 hw
    have := g.trs x hx
    exact lw3 (by decide) (by omega) (itoa_size ⟨by omega, by omega⟩)
theorem print_len {st : St} (g : GG 0 st) (hk : st.p.k ≤ 300000) : (ren (printL st.p)).length ≤ 1000000000000 := by
  have h1 := ren_le (printL_lw g)
  have h2 : (printL st.p).length ≤ 11 + st.p.vips.length + st.p.trs.length + (10 * st.p.svs.length + 6 * bkN st.p.svs) := by
    have := (svsL_lw g.svs).2
    simp only [printL, headL, vipsL, trsL, List.length_append, List.length_cons, List.length_map, List.length_nil]
    omega
  have := g.tot; have := g.vips; have := g.ntr
  omega
end Go.Ev.Tryd

/- The laws of chapter 18: what is read, as cells; what is written; alive. -/
namespace Go.Ev.Tryd
set_option maxRecDepth 10000
open Go.Proofs

theorem parse_inl {s : Bs} {p : Ps} (h : parseP s = .inl p) : ∃ l, allP s = .inl l ∧ (allS s l st0).2 = true ∧ (allS s l st0).1.p = p := by
  unfold parseP at h
  split at h
  · cases h
  · next l hl =>
    split at h
    · next h2 => exact ⟨l, hl, h2, Sum.inl.inj h⟩
    · cases h
def cfgP : Ps ⊕ (Int × Int) → Ps
  | .inl p => p
  | .inr _ => ps0
def atP : Ps ⊕ (Int × Int) → Int
  | .inl _ => 0
  | .inr q => q.1
def codeP : Ps ⊕ (Int × Int) → Int
  | .inl _ => 0
  | .inr q => q.2
theorem CfgAt.mod0 {h h' : H} {p : Ps} {cs : List AV} (c : CfgAt h p cs) (m : Mod [] h h') : CfgAt h' p cs := by
  obtain ⟨vp, vc, tp, tc, gp, gc, svr, e, rv, rt, rg, es, rs⟩ := c
  exact ⟨vp, vc, tp, tc, gp, gc, svr, e, rv.mod0 m, rt.mod0 m, rg.mod0 m, es, fun x hx => (rs x hx).mod0 m⟩
theorem CfgAt.zero (h : H) : CfgAt h ps0 (encC ps0 (.slice none 0 (.known 0)) (.slice none 0 (.known 0)) (.slice none 0 (.known 0))) :=
  ⟨none, .known 0, none, .known 0, none, .known 0, [], rfl, .nil, .nil, .nil, rfl, fun x hx => by cases hx⟩
theorem CfgAt.len {h : H} {p : Ps} {cs : List AV} (c : CfgAt h p cs) : cs.length = 15 ∧ cs.all isCell = true := by
  obtain ⟨vp, vc, tp, tc, gp, gc, svr, rfl, _⟩ := c
  exact ⟨rfl, rfl⟩
theorem ParseOk.cells {h : H} {r : AV} {x : Ps ⊕ (Int × Int)} (ok : ParseOk h r x) : ∃ cs, r = .tup [.agg cs, .int .i64 (atP x), .int .i64 (codeP x)] ∧ CfgAt h (cfgP x) cs ∧ (cfgP x).k ≤ 300000 := by
  cases x with
  | inl p => exact ok
  | inr q => obtain ⟨k, c⟩ := q; exact ⟨_, ok, .zero h, by show 0 ≤ _; omega⟩
/-- a configuration that was read -/
theorem cfg_st (s : Bs) : ∃ st, GG 0 st ∧ st.p = cfgP (parseP s) := by
  cases hp : parseP s with
  | inl p =>
    obtain ⟨l, _, _, h⟩ := parse_inl hp
    exact ⟨_, read_ok s l, h⟩
  | inr q => exact ⟨_, gg0, rfl⟩

structure Tb (h : H) : Prop where
  lt : 1 < h.next
  t0 : h.get 0 = some (.tab pow10AV)
  t1 : h.get 1 = some (.cells tz64 true)
theorem Tb.mod0 {h h' : H} (t : Tb h) (m : Mod [] h h') : Tb h' := ⟨m.lt t.lt, (m.get _ (by have := t.lt; omega) (by simp)).trans t.t0, (m.get _ t.lt (by simp)).trans t.t1⟩

theorem parse_kW {s : Bs} (hs : s.size ≤ 2000000) (hsw : ∀ l, allP s = .inl l → Words l ∧ l.length ≤ 300000) {n : Nat} (hn : 1000000 + s.size ≤ n) {h : H} {K : List AV → Int → Int → H → Option Unit}
    (hk : ∀ cs h', Mod [] h h' → CfgAt h' (cfgP (parseP s)) cs → (cfgP (parseP s)).k ≤ 300000 → K cs (atP (parseP s)) (codeP (parseP s)) h' = some ()) :
    cr n i_config_Parse [.str s] h (fun v h' => asTup v fun l => lA l fun x l => lI l fun y l => lI l fun z l => l0 l (K x y z h')) = some () := by
  refine Parse_retW hs hsw hn h _ fun r h' hq => ?_
  obtain ⟨m, ok⟩ := hq
  obtain ⟨cs, rfl, c, k⟩ := ok.cells
  simp only [asTup_tup, lA_of, lI_of, l0_nil]
  exact hk cs h' m c k
theorem parse_k {s : Bs} (hs : s.size ≤ 70000) {n : Nat} (hn : 1070000 ≤ n) {h : H} {K : List AV → Int → Int → H → Option Unit}
    (hk : ∀ cs h', Mod [] h h' → CfgAt h' (cfgP (parseP s)) cs → (cfgP (parseP s)).k ≤ 300000 → K cs (atP (parseP s)) (codeP (parseP s)) h' = some ()) :
    cr n i_config_Parse [.str s] h (fun v h' => asTup v fun l => lA l fun x l => lI l fun y l => lI l fun z l => l0 l (K x y z h')) = some () :=
  parse_kW (by omega) (fun _ h => allP_words hs h) (by omega) hk
/-- into a new box -/
theorem box_k {zs cs : List AV} (hz : zs.length = 15) {h : H} {p : Ps} (c : CfgAt h p cs) {F : Nat → H → Option Unit} (hF : ∀ i h', h.next ≤ i → Mod [] h h' → At h' i (.cells cs false) → CfgAt h' p cs → F i h' = some ()) :
    newK (.cells zs false) h (fun i h1 => wrK h1 i 0 15 cs fun h2 => F i h2) = some () := by
  rw [newK_eq]
  have a : At (h.new (.cells zs false)) h.next (.cells zs false) := .new _ _
  rw [wr_whole (n := 15) a hz c.len.1 c.len.2]
  have m : Mod [] h ((h.new (.cells zs false)).set h.next (.cells cs false)) := ((Mod.refl _ _).new _).set (.inl (Nat.le_refl _)) _
  exact hF _ _ (Nat.le_refl _) m (At.setSelf a _) (c.mod0 m)
theorem print_k {h : H} {p : Ps} {cs : List AV} {i : Nat} (a : At h i (.cells cs false)) (c : CfgAt h p cs) (ok : PsOk p) (hb : (ren (printL p)).length ≤ 1000000000000) (tb : Tb h) {n : Nat} (hn : 1000300 ≤ n) {F : Bs → AV × H → Option Unit}
    (hF : ∀ v h', Mod [] h h' → F (mk (ren (printL p))) (v, h') = some ()) : (aggK h i 0 15 fun l => (ca n i_config_Print [.agg l] h).bind fun q => asStr q.1 fun x => F x q) = some () := by
  rw [a.all (n := 15) c.len.1]
  obtain ⟨r, h', e, m, rfl⟩ := Print_ret ok tb.lt tb.t0 tb.t1 c hb hn
  rw [e, Option.bind_some]
  simp only [asStr_str]
  exact hF _ h' m

def aliveB : Ps ⊕ (Int × Int) → Bool
  | .inl p => decide (p.id = 7) && p.pre && decide (p.vips.length = 1)
  | .inr _ => false
theorem alive1 : aliveB (parseP s_453d3d97) = true := by decide +kernel
def badB : Ps ⊕ (Int × Int) → Bool
  | .inl _ => false
  | .inr q => decide (q = (4, 180))
theorem alive2 : badB (parseP ⟨#[110, 111, 100, 101]⟩) = true := by decide +kernel

theorem alive_k {n : Nat} (hn : 1070001 ≤ n) {h : H} {K : Bool → H → Option Unit} (hk : ∀ h', Mod [] h h' → K true h' = some ()) : cr n i_outriderlaw18_alive [] h (fun v h' => asBool v fun x => K x h') = some () := by
  obtain ⟨n, rfl⟩ : ∃ k, n = k + 1 := ⟨n - 1, by omega⟩
  obtain ⟨k, hk0⟩ : ∃ k, n = k + 1 := ⟨n - 1, by omega⟩
  rw [outriderlaw18_alive_eq]
  conv => lhs; rw [hk0, outriderlaw18_sample_eq, ← hk0]
  rw [Option.bind_some]
  simp only [asStr_str]
  have h1 := alive1
  have h2 := alive2
  refine parse_k (by decide) (by omega) fun cs h1' m1 c1 k1 => ?_
  revert h1 c1
  generalize parseP s_453d3d97 = x1
  intro h1 c1
  cases x1 with
  | inr q => cases h1
  | inl p =>
    simp only [aliveB, Bool.and_eq_true, decide_eq_true_eq] at h1
    obtain ⟨⟨e7, ep⟩, ev⟩ := h1
    refine box_k rfl c1 fun i h2' hi m2 a2 c2 => ?_
    refine parse_k (by decide) (by omega) fun cs' h3' m3 c3 k3 => ?_
    revert h2 c3
    generalize parseP ⟨#[110, 111, 100, 101]⟩ = x2
    intro h2 c3
    cases x2 with
    | inl q => cases h2
    | inr q =>
      obtain rfl : q = (4, 180) := by simpa [badB] using h2
      refine box_k rfl c3 fun j h4' hj m4 a4 c4 => ?_
      have a := (a2.mod0 m3).mod0 m4
      obtain ⟨vp, vc, tp, tc, gp, gc, svr, rfl, _⟩ := c1
      show cond ((0 : Int) == 0) (cond ((0 : Int) == 0) _ _) _ = some ()
      rw [show ((0 : Int) == 0) = true from rfl, cond_true, cond_true, a.cell (o := 8) (v := .int .i64 p.id) rfl, asInt_int, show (p.id == 7) = true by simp [cfgP] at e7 ⊢; exact e7, cond_true,
        a.cell (o := 11) (v := .bool p.pre) rfl, asBool_bool, ep, cond_true, a.cell (o := 12) rfl, asSlice_slice]
      show cond (((p.vips.length : Nat) : Int) == 1) (cond ((180 : Int) == 180) _ _) _ = some ()
      rw [ev]
      simp only [show (((1 : Nat) : Int) == 1) = true from rfl, show ((180 : Int) == 180) = true from rfl, cond_true, asBool_bool]
      exact hk _ (((m1.trans m2).trans m3).trans m4)
end Go.Ev.Tryd

/- The tables that the laws' rows list, as objects of the machine. -/
namespace Go.Ev.Tryd
open Go.Proofs

def objs0 (t0 t1 : Option Tgt) : Objs := [(t0, .tab pow10AV), (t1, .cells tz64 true)]
theorem tb_objs (t0 t1 : Option Tgt) : Tb (HR (objs0 t0 t1)) := ⟨(by decide : 1 < 2), rfl, rfl⟩
theorem gl_objs : GL (rR (objs0 (some ⟨0, 0, 20⟩) (some ⟨3, 0, 64⟩))) := by
  intro g i h
  have e : glFind glTab g = (match Nat.beq 0 g with | true => some 0 | false => (match Nat.beq 3 g with | true => some 1 | false => none)) := rfl
  rw [e] at h
  split at h
  · rename_i hb
    cases h
    obtain rfl := Nat.eq_of_beq_eq_true hb
    exact ⟨20, rfl⟩
  · split at h
    · rename_i hb
      cases h
      obtain rfl := Nat.eq_of_beq_eq_true hb
      exact ⟨64, rfl⟩
    · cases h
/-- of what a continuation says -/
def isT : AV → H → Option Unit := fun v _ => match v with | .bool true => some () | _ => none
theorem isT_true {r : AV} {h : H} (e : r = .bool true) : isT r h = some () := by subst e; rfl
end Go.Ev.Tryd

/- The law ConfigSpaced. -/
namespace Go.Ev.Tryd
set_option maxRecDepth 10000
open Go.Proofs

theorem cat_ok {β : Type} {a b : ByteArray} (h : a.size + b.size ≤ 9223372036854775807) (f : ByteArray → Option β) : catK a b f = f (a ++ b) := by
  unfold catK
  rw [if_neg (by omega)]
theorem wide_app (ns : List UInt8) : ∀ (a b : List UInt8), wideL ns (a ++ b) = wideL ns a ++ wideL ns b
  | [], _ => rfl
  | c :: a, b => by
    rw [List.cons_append, wideL, wideL, wide_app ns a b]
    split <;> simp
theorem wide_len (ns : List UInt8) : ∀ a : List UInt8, (wideL ns a).length ≤ (9 + ns.length) * a.length
  | [] => by simp [wideL]
  | c :: a => by
    have ih := wide_len ns a
    have hg : (gapL ns).length = 8 + ns.length := by simp [gapL]; omega
    rw [wideL, List.length_cons, Nat.mul_succ]
    split
    · rw [List.length_cons, List.length_append, hg]; omega
    · rw [List.length_cons]; omega

/-- the same is told of both -/
def Like : Ps ⊕ (Int × Int) → Ps ⊕ (Int × Int) → Prop
  | .inl p, .inl p' => nP p = nP p'
  | .inr a, .inr b => a.2 = b.2
  | _, _ => False
theorem like_wide {s s' : Bs} {ns : List UInt8} (hn : ∀ c ∈ ns, 32 ≤ c.toNat ∧ c.toNat ≤ 126) (h : bs s' = wideL ns (bs s)) : Like (parseP s) (parseP s') := by
  have hw := allP_wide hn h
  unfold parseP
  revert hw
  cases allP s with
  | inr k =>
    cases allP s' with
    | inr k' => intro _; rfl
    | inl l' => intro hw; cases hw
  | inl l =>
    cases allP s' with
    | inr k' => intro hw; cases hw
    | inl l' =>
      intro hw
      obtain ⟨e1, e2⟩ := alike_all (s := s) (s' := s') (show l.map nW = l'.map nW from hw)
      simp only
      rw [← e1]
      split
      · exact e2
      · show (nP (allS s l st0).1.p).code = (nP (allS s' l' st0).1.p).code
        rw [e2]
theorem like_code {x y : Ps ⊕ (Int × Int)} (h : Like x y) : codeP x = codeP y := by
  cases x <;> cases y <;> first | rfl | exact h | cases h
theorem like_print {x y : Ps ⊕ (Int × Int)} (h : Like x y) : printL (cfgP x) = printL (cfgP y) := by
  cases x with
  | inl p =>
    cases y with
    | inl p' =>
      show printL (nP p) = printL (nP p')
      rw [show nP p = nP p' from h]
    | inr b => cases h
  | inr a =>
    cases y with
    | inl p' => cases h
    | inr b => rfl

section
variable {s note : Bs} (hs : s.size ≤ 10000) (hn : note.size ≤ 100)
include hs hn
theorem spaced_end (ok : ∀ c ∈ bs note, 32 ≤ c.toNat ∧ c.toNat ≤ 126) {n : Nat} (hN : 2100000 ≤ n) {h : H} (tb : Tb h) (k m : Nat) (hk : k = s.size) {w : Bs} (hw : bs w = wideL (bs note) (bs s)) :
    RetK (fun kk => outriderlaw18_ConfigSpaced_L3 n (m + 1) s note w (s.size : Nat) (k : Nat) h kk) fun r _ => r = .bool true := by
  intro kk hkk
  have hlike := like_wide ok hw
  have hwl : w.size ≤ 1090000 := by
    have h1 := wide_len (bs note) (bs s)
    rw [← hw, bs_len, bs_len, bs_len] at h1
    have : (9 + note.size) * s.size ≤ 109 * 10000 := Nat.mul_le_mul (by omega) hs
    omega
  show outriderlaw18_ConfigSpaced_L3 n (m + 1) s note w (s.size : Nat) (k : Nat) h kk = some ()
  rw [outriderlaw18_ConfigSpaced_L3_eq, cast_not_lt (by omega), cond_false]
  obtain ⟨st1, g1, ep1⟩ := cfg_st s
  obtain ⟨st2, g2, ep2⟩ := cfg_st w
  refine parse_k (by omega) (by omega) fun cs h1 m1 c1 k1 => ?_
  refine box_k rfl c1 fun i h2 hi m2 a2 c2 => ?_
  refine parse_kW (by omega) (fun l' hl' => ?_) (by omega) fun cs' h3 m3 c3 k3 => ?_
  · have hsame := allP_wide ok hw
    rw [hl'] at hsame
    revert hsame
    cases hl : allP s with
    | inr q => intro e; cases e
    | inl l =>
      intro e
      have e : l.map nW = l'.map nW := e
      obtain ⟨w1, w2⟩ := allP_words (by omega) hl
      refine ⟨fun x hx => ?_, ?_⟩
      · have : nW x ∈ l.map nW := by rw [e]; exact List.mem_map_of_mem hx
        obtain ⟨y, hy, ey⟩ := List.mem_map.1 this
        have := w1 y hy
        rw [show x.1 = y.1 from (congrArg Prod.fst ey).symm]
        exact this
      · have := congrArg List.length e
        rw [List.length_map, List.length_map] at this
        omega
  refine box_k rfl c3 fun j h4 hj m4 a4 c4 => ?_
  refine alive_k (by omega) fun h5 m5 => ?_
  rw [cond_true]
  have e1 : (codeP (parseP s) == codeP (parseP w)) = true := by rw [like_code hlike]; simp
  rw [e1, cond_true]
  have tb5 : Tb h5 := ((((tb.mod0 m1).mod0 m2).mod0 m3).mod0 m4).mod0 m5
  refine print_k (n := n) (((a2.mod0 m3).mod0 m4).mod0 m5) (((c2.mod0 m3).mod0 m4).mod0 m5) (by rw [← ep1] at k1 ⊢; exact psOk_of g1 k1) (by rw [← ep1] at k1 ⊢; exact print_len g1 k1) tb5 (by omega) fun v6 h6 m6 => ?_
  dsimp only
  rw [minus_quiet m6, minus_none]
  refine print_k (n := n) ((a4.mod0 m5).mod0 m6) ((c4.mod0 m5).mod0 m6) (by rw [← ep2] at k3 ⊢; exact psOk_of g2 k3) (by rw [← ep2] at k3 ⊢; exact print_len g2 k3) (tb5.mod0 m6) (by omega) fun v7 h7 m7 => ?_
  dsimp only
  rw [like_print hlike]
  exact hkk _ _ (by simp)

theorem spaced_wide (ok : ∀ c ∈ bs note, 32 ≤ c.toNat ∧ c.toNat ≤ 126) {n : Nat} (hN : 2100000 ≤ n) {h : H} (tb : Tb h) : ∀ (rest pre : List UInt8) (m : Nat) (w : Bs), bs s = pre ++ rest → rest.length < m → bs w = wideL (bs note) pre →
    RetK (fun kk => outriderlaw18_ConfigSpaced_L3 n m s note w (s.size : Nat) (pre.length : Nat) h kk) fun r _ => r = .bool true
  | [], pre, m + 1, w, e, hm, hw => by
    have : pre.length = s.size := by rw [← bs_len, e, List.append_nil]
    exact spaced_end hs hn ok hN tb pre.length m this (by rw [hw, e, List.append_nil])
  | c :: rest, pre, m + 1, w, e, hm, hw => by
    intro kk hkk
    show outriderlaw18_ConfigSpaced_L3 n (m + 1) s note w (s.size : Nat) (pre.length : Nat) h kk = some ()
    have hl : pre.length + (rest.length + 1) = s.size := by rw [← bs_len, e]; simp
    have hc : (bs s)[pre.length]? = some c := by rw [e]; simp
    have hwl : w.size ≤ 1090000 := by
      have h1 := wide_len (bs note) pre
      rw [← hw, bs_len, bs_len] at h1
      have : (9 + note.size) * pre.length ≤ 109 * 10000 := Nat.mul_le_mul (by omega) (by omega)
      omega
    have hx : bs (s.extract pre.length (pre.length + 1)) = [c] := by
      rw [bs_extract, e, List.drop_left, show pre.length + 1 - pre.length = 1 by omega]; rfl
    have hxs : (s.extract pre.length (pre.length + 1)).size = 1 := by rw [← bs_len, hx]; rfl
    rw [outriderlaw18_ConfigSpaced_L3_eq, cast_lt (by omega), cond_true, wrap_succ (by omega), bnd_both (by omega) (by omega) (by omega)]
    rw [show ((pre.length : Nat) : Int).toNat = pre.length from rfl, show ((pre.length + 1 : Nat) : Int).toNat = pre.length + 1 from rfl]
    rw [cat_ok (by omega), byteK_of hc]
    have ih := fun w' hw' => spaced_wide ok hN tb rest (pre ++ [c]) m w' (by rw [e]; simp) (by simp at hm; omega) hw' kk hkk
    rw [List.length_append, List.length_singleton] at ih
    by_cases h10 : c = 10
    · rw [show (((c.toNat : Nat) : Int) == 10) = true by rw [h10]; rfl, cond_true, cat_ok (by show 4 + note.size ≤ _; omega)]
      have z1 : ((⟨#[32, 9, 35, 32]⟩ : ByteArray) ++ note).size = 4 + note.size := by rw [← bs_len, bs_append]; simp [bs_len]; rfl
      rw [cat_ok (by rw [z1]; show 4 + note.size + 4 ≤ _; omega), cat_ok (by
        have z2 : ((⟨#[32, 9, 35, 32]⟩ : ByteArray) ++ note ++ (⟨#[10, 10, 32, 32]⟩ : ByteArray)).size = 4 + note.size + 4 := by rw [← bs_len, bs_append, List.length_append, bs_len, z1]; rfl
        have z3 : (w ++ s.extract pre.length (pre.length + 1)).size = w.size + 1 := by rw [← bs_len, bs_append, List.length_append, bs_len, bs_len, hxs]
        rw [z2, z3]; omega)]
      refine ih _ ?_
      rw [bs_append, bs_append, bs_append, bs_append, hx, hw, wide_app, h10]
      simp [wideL, gapL, bs]
    · rw [show (((c.toNat : Nat) : Int) == 10) = false by
        rw [beq_eq_false_iff_ne]
        intro h'
        refine h10 (UInt8.toNat_inj.1 ?_)
        have : c.toNat = 10 := by omega
        rw [this]; rfl, cond_false]
      refine ih _ ?_
      rw [bs_append, hx, hw, wide_app]
      simp [wideL, h10]

theorem spaced_note {n : Nat} (hN : 2100000 ≤ n) {h : H} (tb : Tb h) : ∀ (rest pre : List UInt8) (m : Nat), bs note = pre ++ rest → rest.length < m → (∀ c ∈ pre, 32 ≤ c.toNat ∧ c.toNat ≤ 126) →
    RetK (fun kk => outriderlaw18_ConfigSpaced_L1 n m s note (note.size : Nat) (pre.length : Nat) h kk) fun r _ => r = .bool true
  | [], pre, m + 1, e, hm, ok => by
    intro kk hkk
    show outriderlaw18_ConfigSpaced_L1 n (m + 1) s note (note.size : Nat) (pre.length : Nat) h kk = some ()
    have : pre.length = note.size := by rw [← bs_len, e, List.append_nil]
    rw [outriderlaw18_ConfigSpaced_L1_eq, cast_not_lt (by omega), cond_false]
    exact spaced_wide hs hn (by rw [e, List.append_nil]; exact ok) hN tb (bs s) [] n ⟨#[]⟩ rfl (by rw [bs_len]; omega) rfl kk hkk
  | c :: rest, pre, m + 1, e, hm, ok => by
    intro kk hkk
    show outriderlaw18_ConfigSpaced_L1 n (m + 1) s note (note.size : Nat) (pre.length : Nat) h kk = some ()
    have hl : pre.length + (rest.length + 1) = note.size := by rw [← bs_len, e]; simp
    have hc : (bs note)[pre.length]? = some c := by rw [e]; simp
    rw [outriderlaw18_ConfigSpaced_L1_eq, cast_lt (by omega), cond_true, byteK_of hc]
    have out : outriderlaw18_ConfigSpaced_J2 n m s note (note.size : Nat) (pre.length : Nat) true h kk = some () := by
      rw [outriderlaw18_ConfigSpaced_J2_eq, cond_true]
      exact alive_k (by omega) fun h' m' => hkk _ _ rfl
    by_cases h32 : ((c.toNat : Nat) : Int) < 32
    · rw [decide_eq_true h32, cond_true]; exact out
    · rw [decide_eq_false h32, cond_false, byteK_of hc]
      by_cases h126 : ((c.toNat : Nat) : Int) > 126
      · rw [decide_eq_true h126]; exact out
      · rw [decide_eq_false h126, outriderlaw18_ConfigSpaced_J2_eq, cond_false, wrap_succ (by omega)]
        have := spaced_note hN tb rest (pre ++ [c]) m (by rw [e]; simp) (by simp at hm; omega) (fun x hx => by
          rcases List.mem_append.1 hx with hx | hx
          · exact ok x hx
          · obtain rfl := List.mem_singleton.1 hx; omega) kk hkk
        rw [List.length_append, List.length_singleton] at this
        exact this
end
theorem configSpaced_ret {s note : Bs} {n : Nat} (hN : 2100001 ≤ n) {h : H} (tb : Tb h) : RetK (fun kk => cr n i_outriderlaw18_ConfigSpaced [.str s, .str note] h kk) fun r _ => r = .bool true := by
  intro kk hkk
  obtain ⟨n, rfl⟩ : ∃ k, n = k + 1 := ⟨n - 1, by omega⟩
  show cr (n + 1) i_outriderlaw18_ConfigSpaced [.str s, .str note] h kk = some ()
  rw [outriderlaw18_ConfigSpaced_eq]
  have out : outriderlaw18_ConfigSpaced_J0 n s note true h kk = some () := by
    rw [outriderlaw18_ConfigSpaced_J0_eq, cond_true]
    exact alive_k (by omega) fun h' m' => hkk _ _ rfl
  by_cases h1 : ((s.size : Nat) : Int) > 10000
  · rw [decide_eq_true h1, cond_true]; exact out
  · rw [decide_eq_false h1, cond_false]
    by_cases h2 : ((note.size : Nat) : Int) > 100
    · rw [decide_eq_true h2]; exact out
    · rw [decide_eq_false h2, outriderlaw18_ConfigSpaced_J0_eq, cond_false]
      exact spaced_note (by omega) (by omega) (by omega) tb (bs note) [] n rfl (by rw [bs_len]; omega) (fun c hc => by cases hc) kk hkk
end Go.Ev.Tryd
