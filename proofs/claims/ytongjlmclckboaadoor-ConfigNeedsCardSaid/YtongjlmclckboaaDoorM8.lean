/- Own texts, joined: Tw4 Tw5 Tw6 Tw7 Tv1 Tv2 Tv3 Tv4 Tz1 Tx1 Tz2 Tz3 Tz4. -/
import Derived.Test.YtongjlmclckboaaDoorM7
set_option linter.all false
/- What is written is read: the blocks node and vrrp. -/
namespace Go.Ev.Tryd
set_option maxRecDepth 10000
open Go.Proofs
def optL (b : Bool) (ws : List Bs) : List (List Bs) := if b = true then [ws] else []
def nodeT (b1 b2 b3 : Bool) (p : Ps) : List (List Bs) := optL b1 [kMac, cdT p.card] ++ (optL b2 [kAddress, pT p.addr] ++ optL b3 [kPeer, pT p.peer])
def vrrpT (b1 b2 b3 : Bool) (p : Ps) : List (List Bs) := optL b1 [kId, itoaS p.id] ++ (optL b2 [kPrio, itoaS p.prio] ++ (optL b3 [kEvery, itoaS p.every] ++ ([[kPreempt, if p.pre = true then kYes else kNo]] ++ (vipsL p.vips ++ trsL p.trs))))
theorem toks_app (a b : List (List Bs)) : toks (a ++ b) = toks a ++ toks b := by simp [toks]
theorem toks_cons (a : List Bs) (b : List (List Bs)) : toks (a :: b) = (a ++ [nl]) ++ toks b := rfl
/-- the addresses that were noted are of these -/
def SpIn (sp : List (Bs × Int × Bool)) (f : Bs → Bool → Prop) : Prop := ∀ x ∈ sp, f x.1 x.2.2
section
variable {s : Bs} {l : List Wd} {L : List (Bs × Key)}
theorem opt_line {b : Bool} {w : Bs} {vs ts : List Bs} {M : List (Bs × Int)} {st st1 : St} {key : Key} (hl : lk L w = some key) (hw : w ≠ kShut) (hc : b = true → cnt M w < key.most) (hT : Tk l st.p.k (toks (optL b (w :: vs)) ++ ts))
  (hs : b = true → Tk l (st.p.k + 1) (vs ++ nl :: ts) → key.sem (setK st (st.p.k + 1)) = (st1, true)) (hk : st1.p.k = st.p.k + (vs.length + 2)) :
  ∃ M' st', st' = (if b = true then st1 else st) ∧ Walk s l L M st M' st' ∧ Tk l st'.p.k ts ∧ cnt M' w = cnt M w + (if b = true then 1 else 0) ∧ (∀ v, v ≠ w → cnt M' v = cnt M v) ∧ st'.p.k = st.p.k + (toks (optL b (w :: vs))).length := by
 cases b with
 | false => exact ⟨M, st, rfl, .refl _ _, hT, by simp, fun v _ => rfl, rfl⟩
 | true =>
  have hT : Tk l st.p.k (w :: (vs ++ nl :: ts)) := by simpa [toks, optL] using hT
  refine ⟨_, st1, rfl, .one hT hw hl (hc rfl) (hs rfl hT.next) (by show st.p.k < st1.p.k; omega), ?_, ?_, fun v hv => ?_, ?_⟩
  ·have := (Tk.app (a := vs ++ [nl]) (ts := ts) (by simpa using hT.next))
   rw [hk, show st.p.k + (vs.length + 2) = st.p.k + 1 + (vs ++ [nl]).length by simp only [List.length_append, List.length_singleton]; omega]
   exact this
  ·rw [cnt_pt]
   simp
  ·rw [cnt_pt, if_neg hv]
  ·simp only [if_true, toks, optL, List.flatMap_cons, List.flatMap_nil, List.append_nil, List.length_append, List.length_cons, List.length_nil]
   omega
theorem node_ok (b1 b2 b3 : Bool) {p : Ps} (c : CdOk p.card) (ha : p.addr.size = 4 ∨ p.addr.size = 16) (hp : p.peer.size = 4 ∨ p.peer.size = 16) {st : St} {ts : List Bs} (hT : Tk l st.p.k (kOpen :: nl :: (toks (nodeT b1 b2 b3 p) ++ kShut :: nl :: ts))) :
  ∃ st2, Tk l st2.p.k (kShut :: nl :: ts) ∧ st2.p.code = st.p.code ∧ st2.p.k = st.p.k + 2 + (toks (nodeT b1 b2 b3 p)).length ∧
   nodeS s l st = (if (b1 && (b2 && b3)) = true then (setK st2 (st2.p.k + 2), true) else (setP st2 (failP st2.p (placeP s l st2.p.k) 183), false)) ∧
   ((b1 && (b2 && b3)) = true → ∃ k sp, st2 = setP st { st.p with k := k, card := p.card, addr := p.addr, peer := p.peer, spots := st.p.spots ++ sp } ∧ SpIn sp fun a v => v = false ∧ (a = p.addr ∨ a = p.peer)) := by
 have hT1 := hT.next.next
 unfold nodeT at hT1
 rw [toks_app, toks_app, List.append_assoc, List.append_assoc] at hT1
 obtain ⟨M1, st1, hst1, w1, t1, c1, d1, e1⟩ := opt_line (s := s) (L := nodeK s l) (b := b1) (M := []) (st := setK st (st.p.k + 2)) (w := kMac) (vs := [cdT p.card]) (key := (mkK kMac 1 true (cardS s l putCard)).2) rfl (by decide) (fun _ => (by decide : cnt [] kMac < 1)) hT1
  (fun _ h => card_ok' (st := setK (setK st (st.p.k + 2)) (st.p.k + 2 + 1)) (put := putCard) (fun _ _ => rfl) c h) rfl
 obtain ⟨M2, st2, hst2, w2, t2, c2, d2, e2⟩ := opt_line (s := s) (L := nodeK s l) (b := b2) (M := M1) (st := st1) (w := kAddress) (vs := [pT p.addr]) (key := (mkK kAddress 1 true (addressS s l false (intoS putAddr))).2) rfl (by decide) (fun _ => by rw [d1 _ (by decide)]; exact (by decide : cnt [] kAddress < 1)) t1
  (fun _ h => address_ok (st := setK st1 (st1.p.k + 1)) (put := putAddr) (fun _ _ => rfl) ha h) rfl
 obtain ⟨M3, st3, hst3, w3, t3, c3, d3, e3⟩ := opt_line (s := s) (L := nodeK s l) (b := b3) (M := M2) (st := st2) (w := kPeer) (vs := [pT p.peer]) (key := (mkK kPeer 1 true (addressS s l false (intoS putPeer))).2) rfl (by decide) (fun _ => by rw [d2 _ (by decide), d1 _ (by decide)]; exact (by decide : cnt [] kPeer < 1)) t2
  (fun _ h => address_ok (st := setK st2 (st2.p.k + 1)) (put := putPeer) (fun _ _ => rfl) hp h) rfl
 have hb := block_walk hT (w1.trans (w2.trans w3)) t3
 have hlack : lackB (nodeK s l) M3 = !(b1 && (b2 && b3)) := by
  have k1 : cnt M3 kMac = 0 + (if b1 = true then 1 else 0) := by rw [d3 _ (by decide), d2 _ (by decide), c1]; rfl
  have k2 : cnt M3 kAddress = 0 + (if b2 = true then 1 else 0) := by rw [d3 _ (by decide), c2, d1 _ (by decide)]; rfl
  have k3 : cnt M3 kPeer = 0 + (if b3 = true then 1 else 0) := by rw [c3, d2 _ (by decide), d1 _ (by decide)]; rfl
  show (true && decide (cnt M3 kMac = 0) || (true && decide (cnt M3 kAddress = 0) || (true && decide (cnt M3 kPeer = 0) || false))) = _
  rw [k1, k2, k3]
  cases b1 <;> cases b2 <;> cases b3 <;> rfl
 refine ⟨st3, t3, ?_, ?_, ?_, ?_⟩
 ·rw [hst3, hst2, hst1]
  cases b1 <;> cases b2 <;> cases b3 <;> rfl
 ·unfold nodeT
  rw [e3, e2, e1, toks_app, toks_app, List.length_append, List.length_append]
  show st.p.k + 2 + _ + _ + _ = _
  omega
 ·unfold nodeS
  rw [hb, hlack]
  cases (b1 && (b2 && b3)) <;> rfl
 ·intro hall
  simp only [Bool.and_eq_true] at hall
  obtain ⟨rfl, rfl, rfl⟩ := hall
  simp only [if_true] at hst1 hst2 hst3
  subst hst1; subst hst2
  obtain ⟨x, y, hsp⟩ : ∃ x y, st3.p.spots = st.p.spots ++ [(p.addr, x, false), (p.peer, y, false)] := ⟨_, _, by rw [hst3]; exact List.append_assoc _ _ _⟩
  refine ⟨st3.p.k, [(p.addr, x, false), (p.peer, y, false)], ?_, ?_⟩
  ·rw [← hsp, hst3]
   rfl
  ·intro x hx
   simp only [List.mem_cons, List.not_mem_nil, or_false] at hx
   rcases hx with rfl | rfl
   ·exact ⟨rfl, .inl rfl⟩
   ·exact ⟨rfl, .inr rfl⟩
/-- the addresses of the block vrrp -/
theorem vips_walk : ∀ (vs : List Bs) (M : List (Bs × Int)) (st : St) (ts : List Bs), (∀ a ∈ vs, a.size = 4 ∨ a.size = 16) → (st.p.vips ++ vs).Nodup → cnt M kVip + vs.length ≤ 8 → Tk l st.p.k (toks (vipsL vs) ++ ts) →
  ∃ M2 sp, Walk s l (vrrpK s l) M st M2 (setP st { st.p with k := st.p.k + (toks (vipsL vs)).length, vips := st.p.vips ++ vs, spots := st.p.spots ++ sp }) ∧ cnt M2 kVip = cnt M kVip + vs.length ∧ (∀ w, w ≠ kVip → cnt M2 w = cnt M w) ∧ SpIn sp fun a v => v = false ∧ a ∈ vs
 | [], M, st, ts, _, _, _, hT => ⟨M, [], by
   have : setP st { st.p with k := st.p.k + (toks (vipsL [])).length, vips := st.p.vips ++ [], spots := st.p.spots ++ [] } = st := by
    simp [setP, vipsL, toks]
   rw [this]; exact .refl _ _, by simp, fun _ _ => rfl, fun x hx => by cases hx⟩
 | a :: vs, M, st, ts, hs, hn, hc, hT => by
  have hT : Tk l st.p.k (kVip :: pT a :: nl :: (toks (vipsL vs) ++ ts)) := hT
  simp only [List.length_cons] at hc
  have hna : a ∉ st.p.vips := fun h => (List.nodup_append.1 hn).2.2 a h a (by simp) rfl
  have h1 := vip_ok (s := s) (l := l) (st := setK st (st.p.k + 1)) (hs a (by simp)) hna hT.next
  have w1 : Walk s l (vrrpK s l) M st (pt M kVip (cnt M kVip + 1)) _ := Walk.one (key := (mkK kVip 8 true (addressS s l false vipS)).2) hT (by decide) rfl (by show cnt M kVip < 8; omega) h1 (by show st.p.k < st.p.k + 1 + 2; omega)
  obtain ⟨M2, sp, w2, c2, c3, q⟩ := vips_walk vs (pt M kVip (cnt M kVip + 1)) (setP (setK st (st.p.k + 1)) { (setK st (st.p.k + 1)).p with k := (setK st (st.p.k + 1)).p.k + 2, spots := (setK st (st.p.k + 1)).p.spots ++ [(a, placeP s l (setK st (st.p.k + 1)).p.k, false)], vips := (setK st (st.p.k + 1)).p.vips ++ [a] }) ts (fun x hx => hs x (by simp [hx])) (by
   show ((st.p.vips ++ [a]) ++ vs).Nodup
   simpa using hn) (by rw [cnt_pt, if_pos rfl]; omega) (show Tk l (st.p.k + 1 + 2) _ from hT.next.next.next)
  refine ⟨M2, (a, placeP s l (setK st (st.p.k + 1)).p.k, false) :: sp, ?_, ?_, fun w hw => ?_, fun x hx => ?_⟩
  ·refine w1.trans ?_
   have e : ∀ k1 k2 : Nat, k1 = k2 → setP (setP (setK st (st.p.k + 1)) { (setK st (st.p.k + 1)).p with k := (setK st (st.p.k + 1)).p.k + 2, spots := (setK st (st.p.k + 1)).p.spots ++ [(a, placeP s l (setK st (st.p.k + 1)).p.k, false)], vips := (setK st (st.p.k + 1)).p.vips ++ [a] })
     { (setP (setK st (st.p.k + 1)) { (setK st (st.p.k + 1)).p with k := (setK st (st.p.k + 1)).p.k + 2, spots := (setK st (st.p.k + 1)).p.spots ++ [(a, placeP s l (setK st (st.p.k + 1)).p.k, false)], vips := (setK st (st.p.k + 1)).p.vips ++ [a] }).p with k := k1, vips := (st.p.vips ++ [a]) ++ vs, spots := (st.p.spots ++ [(a, placeP s l (setK st (st.p.k + 1)).p.k, false)]) ++ sp }
     = setP st { st.p with k := k2, vips := st.p.vips ++ a :: vs, spots := st.p.spots ++ (a, placeP s l (setK st (st.p.k + 1)).p.k, false) :: sp } := by
    rintro k1 _ rfl
    simp [setP, setK]
   rw [← e _ _ ?_]
   ·exact w2
   ·show st.p.k + 1 + 2 + _ = st.p.k + (toks (vipsL (a :: vs))).length
    have : (toks (vipsL (a :: vs))).length = 3 + (toks (vipsL vs)).length := by
     show (kVip :: pT a :: nl :: toks (vipsL vs)).length = _
     simp only [List.length_cons]; omega
    omega
  ·rw [c2, cnt_pt, if_pos rfl]; simp only [List.length_cons]; push_cast; omega
  ·rw [c3 w hw, cnt_pt, if_neg hw]
  ·rcases List.mem_cons.1 hx with rfl | hx
   ·exact ⟨rfl, by simp⟩
   ·exact ⟨(q x hx).1, by simp [(q x hx).2]⟩
structure TrC (x : Bs × Int) : Prop where
 name : PlainW x.1
 n40 : x.1.size ≤ 40
 ne : x.2 ≠ 0
 lo : -254 ≤ x.2
 hi : x.2 ≤ 254
theorem trs_walk : ∀ (vs : List (Bs × Int)) (M : List (Bs × Int)) (st : St) (ts : List Bs), (∀ x ∈ vs, TrC x) → ((st.p.trs ++ vs).map (·.1)).Nodup → cnt M kTrack + vs.length ≤ 8 → Tk l st.p.k (toks (trsL vs) ++ ts) →
  ∃ M2, Walk s l (vrrpK s l) M st M2 (setP st { st.p with k := st.p.k + (toks (trsL vs)).length, trs := st.p.trs ++ vs }) ∧ ∀ w, w ≠ kTrack → cnt M2 w = cnt M w
 | [], M, st, ts, _, _, _, hT => ⟨M, by
   have : setP st { st.p with k := st.p.k + (toks (trsL [])).length, trs := st.p.trs ++ [] } = st := by
    simp [setP, trsL, toks]
   rw [this]; exact .refl _ _, fun _ _ => rfl⟩
 | a :: vs, M, st, ts, hs, hn, hc, hT => by
  have hT : Tk l st.p.k (kTrack :: a.1 :: itoaS a.2 :: nl :: (toks (trsL vs) ++ ts)) := hT
  simp only [List.length_cons] at hc
  have ha := hs a (by simp)
  have hna : a.1 ∉ st.p.trs.map (·.1) := fun h => by
   rw [List.map_append] at hn
   exact (List.nodup_append.1 hn).2.2 a.1 h a.1 (by simp) rfl
  have h1 := track_ok (s := s) (l := l) (st := setK st (st.p.k + 1)) ha.name ha.n40 hna ha.ne ha.lo ha.hi hT.next
  have w1 : Walk s l (vrrpK s l) M st (pt M kTrack (cnt M kTrack + 1)) _ := Walk.one (key := (mkK kTrack 8 false (trackS s l)).2) hT (by decide) rfl (by show cnt M kTrack < 8; omega) h1 (by show st.p.k < st.p.k + 1 + 3; omega)
  obtain ⟨M2, w2, c3⟩ := trs_walk vs (pt M kTrack (cnt M kTrack + 1)) (setP (setK st (st.p.k + 1)) { (setK st (st.p.k + 1)).p with k := (setK st (st.p.k + 1)).p.k + 3, trs := (setK st (st.p.k + 1)).p.trs ++ [a] }) ts (fun x hx => hs x (by simp [hx])) (by
   show (((st.p.trs ++ [a]) ++ vs).map (·.1)).Nodup
   simpa using hn) (by rw [cnt_pt, if_pos rfl]; omega) (show Tk l (st.p.k + 1 + 3) _ from hT.next.next.next.next)
  refine ⟨M2, w1.trans ?_, fun w hw => by rw [c3 w hw, cnt_pt, if_neg hw]⟩
  have e : ∀ k1 k2 : Nat, k1 = k2 → setP (setP (setK st (st.p.k + 1)) { (setK st (st.p.k + 1)).p with k := (setK st (st.p.k + 1)).p.k + 3, trs := (setK st (st.p.k + 1)).p.trs ++ [a] })
    { (setP (setK st (st.p.k + 1)) { (setK st (st.p.k + 1)).p with k := (setK st (st.p.k + 1)).p.k + 3, trs := (setK st (st.p.k + 1)).p.trs ++ [a] }).p with k := k1, trs := (st.p.trs ++ [a]) ++ vs }
    = setP st { st.p with k := k2, trs := st.p.trs ++ a :: vs } := by
   rintro k1 _ rfl
   simp [setP, setK]
  rw [← e _ _ ?_]
  ·exact w2
  ·show st.p.k + 1 + 3 + _ = st.p.k + (toks (trsL (a :: vs))).length
   have : (toks (trsL (a :: vs))).length = 4 + (toks (trsL vs)).length := by
    show (kTrack :: a.1 :: itoaS a.2 :: nl :: toks (trsL vs)).length = _
    simp only [List.length_cons]; omega
   omega
end
end Go.Ev.Tryd

/- What is written is read: the block vrrp; what a configuration is that was read. -/
namespace Go.Ev.Tryd
set_option maxRecDepth 10000
open Go.Proofs
structure BkC (A : Nat) (x : Bk) : Prop where
 name : PlainW x.name
 n40 : x.name.size ≤ 40
 addr : x.addr.size = A
 card : CdOk x.card
 port : 0 ≤ x.port ∧ x.port ≤ 65535
 weight : 1 ≤ x.weight ∧ x.weight ≤ 100
structure SvC (A : Nat) (V : List Bs) (x : Sv) : Prop where
 name : PlainW x.name
 n40 : x.name.size ≤ 40
 vip : x.vip ∈ V
 proto : x.proto = 6 ∨ x.proto = 17
 port : 1 ≤ x.port ∧ x.port ≤ 65535
 mode : x.mode = 1 ∨ x.mode = 2 ∨ x.mode = 3
 sched : x.sched = 1 ∨ x.sched = 2
 rise : 1 ≤ x.rise ∧ x.rise ≤ 20
 fall : 1 ≤ x.fall ∧ x.fall ≤ 20
 probe : 1 ≤ x.probe ∧ x.probe ≤ 10000
 bks : ∀ b ∈ x.bks, BkC A b
 nd : (x.bks.map (·.name)).Nodup
 n : 1 ≤ x.bks.length ∧ x.bks.length ≤ 16
structure CfgC (p : Ps) : Prop where
 addr : p.addr.size = 4 ∨ p.addr.size = 16
 card : CdOk p.card
 peer : p.peer.size = p.addr.size
 id : 1 ≤ p.id ∧ p.id ≤ 255
 prio : 1 ≤ p.prio ∧ p.prio ≤ 255
 every : 1 ≤ p.every ∧ p.every ≤ 4095
 vips : ∀ a ∈ p.vips, a.size = p.addr.size
 vnd : p.vips.Nodup
 vn : 1 ≤ p.vips.length ∧ p.vips.length ≤ 8
 trs : ∀ x ∈ p.trs, TrC x
 tnd : (p.trs.map (·.1)).Nodup
 tn : p.trs.length ≤ 8
 svs : ∀ x ∈ p.svs, SvC p.addr.size p.vips x
 snd : (p.svs.map (·.name)).Nodup
 sn : p.svs.length ≤ 4
section
variable {s : Bs} {l : List Wd}
theorem vrrp_ok (b1 b2 b3 : Bool) {p : Ps} (c : CfgC p) {st : St} (hv : st.p.vips = []) (ht : st.p.trs = []) (h0 : st.p.code = 0) {ts : List Bs} (hT : Tk l st.p.k (kOpen :: nl :: (toks (vrrpT b1 b2 b3 p) ++ kShut :: nl :: ts))) :
  (((b1 && (b2 && b3)) = false → (vrrpS s l st).2 = false ∧ (vrrpS s l st).1.p.code = 183 ∧ (vrrpS s l st).1.p.bad = placeP s l (st.p.k + 2 + (toks (vrrpT b1 b2 b3 p)).length)) ∧
   ((b1 && (b2 && b3)) = true → ∃ sp y, vrrpS s l st = ({ st with p := { st.p with k := st.p.k + 2 + (toks (vrrpT b1 b2 b3 p)).length + 2, id := p.id, prio := p.prio, every := p.every, pre := p.pre, vips := p.vips, trs := p.trs, spots := st.p.spots ++ sp }, yes := y }, true) ∧ SpIn sp fun a v => v = false ∧ a ∈ p.vips)) := by
 have hT1 := hT.next.next
 have hT0 : Tk l ({ st with yes := 1 } : St).p.k _ := hT
 unfold vrrpT at hT1
 rw [toks_app, toks_app, toks_app, toks_app, toks_app, List.append_assoc, List.append_assoc, List.append_assoc, List.append_assoc, List.append_assoc] at hT1
 have hY : ∃ v, (v == 1) = p.pre ∧ lk yesNo (if p.pre = true then kYes else kNo) = some v ∧ stopW (if p.pre = true then kYes else kNo) = false := by
  cases p.pre with
  | true => exact ⟨1, rfl, rfl, by decide⟩
  | false => exact ⟨0, rfl, rfl, by decide⟩
 obtain ⟨y, hy1, hy2, hy3⟩ := hY
 obtain ⟨M1, st1, hst1, w1, t1, c1, d1, e1⟩ := opt_line (s := s) (L := vrrpK s l) (b := b1) (M := []) (st := setK { st with yes := 1 } (st.p.k + 2)) (w := kId) (vs := [itoaS p.id]) (key := (mkK kId 1 true (numberS s l putId 1 255)).2) rfl (by decide) (fun _ => (by decide : cnt [] kId < 1)) hT1
  (fun _ h => number_ok (st := setK (setK { st with yes := 1 } (st.p.k + 2)) (st.p.k + 2 + 1)) (put := putId) (fun _ _ => rfl) h (plain_itoa (by have := c.id; omega) (by have := c.id; omega)) (num_itoa (by have := c.id; omega) (by have := c.id; omega)) c.id.1 c.id.2) rfl
 obtain ⟨M2, st2, hst2, w2, t2, c2, d2, e2⟩ := opt_line (s := s) (L := vrrpK s l) (b := b2) (M := M1) (st := st1) (w := kPrio) (vs := [itoaS p.prio]) (key := (mkK kPrio 1 true (numberS s l putPrio 1 255)).2) rfl (by decide) (fun _ => by rw [d1 _ (by decide)]; exact (by decide : cnt [] kPrio < 1)) t1
  (fun _ h => number_ok (st := setK st1 (st1.p.k + 1)) (put := putPrio) (fun _ _ => rfl) h (plain_itoa (by have := c.prio; omega) (by have := c.prio; omega)) (num_itoa (by have := c.prio; omega) (by have := c.prio; omega)) c.prio.1 c.prio.2) rfl
 obtain ⟨M3, st3, hst3, w3, t3, c3, d3, e3⟩ := opt_line (s := s) (L := vrrpK s l) (b := b3) (M := M2) (st := st2) (w := kEvery) (vs := [itoaS p.every]) (key := (mkK kEvery 1 true (numberS s l putEvery 1 4095)).2) rfl (by decide) (fun _ => by rw [d2 _ (by decide), d1 _ (by decide)]; exact (by decide : cnt [] kEvery < 1)) t2
  (fun _ h => number_ok (st := setK st2 (st2.p.k + 1)) (put := putEvery) (fun _ _ => rfl) h (plain_itoa (by have := c.every; omega) (by have := c.every; omega)) (num_itoa (by have := c.every; omega) (by have := c.every; omega)) c.every.1 c.every.2) rfl
 obtain ⟨M4, st4, hst4, w4, t4, c4, d4, e4⟩ := opt_line (s := s) (L := vrrpK s l) (b := true) (M := M3) (st := st3) (w := kPreempt) (vs := [if p.pre = true then kYes else kNo]) (key := (mkK kPreempt 1 false (choiceS s l putYes yesNo)).2) rfl (by decide) (fun _ => by rw [d3 _ (by decide), d2 _ (by decide), d1 _ (by decide)]; exact (by decide : cnt [] kPreempt < 1)) t3
  (fun _ h => choice_ok (st := setK st3 (st3.p.k + 1)) (put := putYes) (fun _ _ => rfl) h hy3 hy2) rfl
 simp only [if_true] at hst4
 have hv4 : st4.p.vips = [] := by
  rw [hst4]
  show st3.p.vips = []
  rw [hst3, hst2, hst1]
  cases b1 <;> cases b2 <;> cases b3 <;> exact hv
 have ht4 : st4.p.trs = [] := by
  rw [hst4]
  show st3.p.trs = []
  rw [hst3, hst2, hst1]
  cases b1 <;> cases b2 <;> cases b3 <;> exact ht
 have h04 : st4.p.code = 0 := by
  rw [hst4]
  show st3.p.code = 0
  rw [hst3, hst2, hst1]
  cases b1 <;> cases b2 <;> cases b3 <;> exact h0
 have hsz : ∀ a ∈ p.vips, a.size = 4 ∨ a.size = 16 := fun a ha => by rw [c.vips a ha]; exact c.addr
 have hcv : cnt M4 kVip = 0 := by rw [d4 _ (by decide), d3 _ (by decide), d2 _ (by decide), d1 _ (by decide)]; rfl
 have hct : cnt M4 kTrack = 0 := by rw [d4 _ (by decide), d3 _ (by decide), d2 _ (by decide), d1 _ (by decide)]; rfl
 obtain ⟨M5, sp, w5, c5, d5, hsp⟩ := vips_walk (s := s) p.vips M4 st4 (toks (trsL p.trs) ++ kShut :: nl :: ts) hsz (by rw [hv4]; exact c.vnd) (by rw [hcv]; have := c.vn; omega) t4
 obtain ⟨M6, w6, d6⟩ := trs_walk (s := s) p.trs M5 (setP st4 { st4.p with k := st4.p.k + (toks (vipsL p.vips)).length, vips := st4.p.vips ++ p.vips, spots := st4.p.spots ++ sp }) (kShut :: nl :: ts) c.trs (by
   show ((st4.p.trs ++ p.trs).map (·.1)).Nodup
   rw [ht4]; exact c.tnd) (by rw [d5 _ (by decide), hct]; have := c.tn; omega) (Tk.app t4)
 have t6 := Tk.app (k := st4.p.k + (toks (vipsL p.vips)).length) (Tk.app t4)
 have hb := block_walk (s := s) hT0 (w1.trans (w2.trans (w3.trans (w4.trans (w5.trans w6))))) t6
 have hk : st4.p.k + (toks (vipsL p.vips)).length + (toks (trsL p.trs)).length = st.p.k + 2 + (toks (vrrpT b1 b2 b3 p)).length := by
  unfold vrrpT
  rw [e4, e3, e2, e1, toks_app, toks_app, toks_app, toks_app, toks_app]
  simp only [List.length_append]
  show st.p.k + 2 + _ + _ + _ + _ + _ + _ = _
  have : (toks (optL true [kPreempt, if p.pre = true then kYes else kNo])).length = (toks [[kPreempt, if p.pre = true then kYes else kNo]]).length := rfl
  omega
 have hlack : lackB (vrrpK s l) M6 = !(b1 && (b2 && b3)) := by
  have k1 : cnt M6 kId = 0 + (if b1 = true then 1 else 0) := by rw [d6 _ (by decide), d5 _ (by decide), d4 _ (by decide), d3 _ (by decide), d2 _ (by decide), c1]; rfl
  have k2 : cnt M6 kPrio = 0 + (if b2 = true then 1 else 0) := by rw [d6 _ (by decide), d5 _ (by decide), d4 _ (by decide), d3 _ (by decide), c2, d1 _ (by decide)]; rfl
  have k3 : cnt M6 kEvery = 0 + (if b3 = true then 1 else 0) := by rw [d6 _ (by decide), d5 _ (by decide), d4 _ (by decide), c3, d2 _ (by decide), d1 _ (by decide)]; rfl
  have k4 : decide (cnt M6 kVip = 0) = false := by
   rw [d6 _ (by decide), c5, hcv]
   have := c.vn
   simp; intro h; rw [h] at this; simp at this
  show (true && decide (cnt M6 kId = 0) || (true && decide (cnt M6 kPrio = 0) || (true && decide (cnt M6 kEvery = 0) || (false && decide (cnt M6 kPreempt = 0) || (true && decide (cnt M6 kVip = 0) || (false && decide (cnt M6 kTrack = 0) || false)))))) = _
  rw [k1, k2, k3, k4]
  cases b1 <;> cases b2 <;> cases b3 <;> simp
 rw [hlack] at hb
 refine ⟨fun hall => ?_, fun hall => ?_⟩
 ·rw [hall, Bool.not_false, if_pos rfl] at hb
  unfold vrrpS
  rw [hb]
  have hf : failP (setP (setP st4 { st4.p with k := st4.p.k + (toks (vipsL p.vips)).length, vips := st4.p.vips ++ p.vips, spots := st4.p.spots ++ sp }) { (setP st4 { st4.p with k := st4.p.k + (toks (vipsL p.vips)).length, vips := st4.p.vips ++ p.vips, spots := st4.p.spots ++ sp }).p with k := (setP st4 { st4.p with k := st4.p.k + (toks (vipsL p.vips)).length, vips := st4.p.vips ++ p.vips, spots := st4.p.spots ++ sp }).p.k + (toks (trsL p.trs)).length, trs := (setP st4 { st4.p with k := st4.p.k + (toks (vipsL p.vips)).length, vips := st4.p.vips ++ p.vips, spots := st4.p.spots ++ sp }).p.trs ++ p.trs }).p
    (placeP s l (st4.p.k + (toks (vipsL p.vips)).length + (toks (trsL p.trs)).length)) 183 = _ := if_pos h04
  refine ⟨rfl, ?_, ?_⟩
  ·exact congrArg Ps.code hf
  ·rw [← hk]
   exact congrArg Ps.bad hf
 ·rw [hall, Bool.not_true, if_neg (by decide)] at hb
  simp only [Bool.and_eq_true] at hall
  obtain ⟨rfl, rfl, rfl⟩ := hall
  simp only [if_true] at hst1 hst2 hst3
  refine ⟨sp, y, ?_, hsp⟩
  unfold vrrpS
  rw [hb, ← hk]
  have e5 : st4.p.spots = st.p.spots := by rw [hst4, hst3, hst2, hst1]; rfl
  show (_, true) = (_, true)
  have hy4 : st4.yes = y := by rw [hst4]; rfl
  have hx : ∀ k : Nat, (preS (setK (setP (setP st4 { st4.p with k := st4.p.k + (toks (vipsL p.vips)).length, vips := st4.p.vips ++ p.vips, spots := st4.p.spots ++ sp }) { (setP st4 { st4.p with k := st4.p.k + (toks (vipsL p.vips)).length, vips := st4.p.vips ++ p.vips, spots := st4.p.spots ++ sp }).p with k := (setP st4 { st4.p with k := st4.p.k + (toks (vipsL p.vips)).length, vips := st4.p.vips ++ p.vips, spots := st4.p.spots ++ sp }).p.k + (toks (trsL p.trs)).length, trs := (setP st4 { st4.p with k := st4.p.k + (toks (vipsL p.vips)).length, vips := st4.p.vips ++ p.vips, spots := st4.p.spots ++ sp }).p.trs ++ p.trs }) k, true)).1
    = { st4 with p := { st4.p with k := k, pre := st4.yes == 1, vips := st4.p.vips ++ p.vips, trs := st4.p.trs ++ p.trs, spots := st4.p.spots ++ sp } } := fun _ => rfl
  refine Prod.ext ?_ rfl
  refine (hx _).trans ?_
  rw [hv4, ht4, e5, hy4, hy1, List.nil_append, List.nil_append, hst4, hst3, hst2, hst1]
  rfl
end
end Go.Ev.Tryd

/- What is written is read: backends and services. -/
namespace Go.Ev.Tryd
set_option maxRecDepth 10000
set_option maxHeartbeats 2000000
open Go.Proofs
section
variable {s : Bs} {l : List Wd}
/-- what is noted of a service -/
abbrev SpS (A : Nat) (V : List Bs) (sp : List (Bs × Int × Bool)) : Prop := SpIn sp fun a v => a.size = A ∧ (v = true → a ∈ V)
end
end Go.Ev.Tryd

/- What is written is read: all blocks; a block once more; a block with a line less. -/
namespace Go.Ev.Tryd
set_option maxRecDepth 10000
open Go.Proofs
def nodeB (b1 b2 b3 : Bool) (p : Ps) : List (List Bs) := [kNode, kOpen] :: nodeT b1 b2 b3 p
def vrrpB (b1 b2 b3 : Bool) (p : Ps) : List (List Bs) := [kVrrp, kOpen] :: vrrpT b1 b2 b3 p
section
variable {s : Bs} {l : List Wd} {p : Ps}
theorem node_ws (b1 b2 b3 : Bool) (ls : List (List Bs)) (ts : List Bs) : toks (nodeB b1 b2 b3 p ++ ([kShut] :: ls)) ++ ts = kNode :: kOpen :: nl :: (toks (nodeT b1 b2 b3 p) ++ kShut :: nl :: (toks ls ++ ts)) := by
 unfold nodeB
 rw [toks_app, toks_cons, toks_cons]
 simp
theorem vrrp_ws (b1 b2 b3 : Bool) (ls : List (List Bs)) (ts : List Bs) : toks (vrrpB b1 b2 b3 p ++ ([kShut] :: ls)) ++ ts = kVrrp :: kOpen :: nl :: (toks (vrrpT b1 b2 b3 p) ++ kShut :: nl :: (toks ls ++ ts)) := by
 unfold vrrpB
 rw [toks_app, toks_cons, toks_cons]
 simp
/-- the block node is read -/
theorem read_node (c : CfgC p) {ts : List Bs} (hT : Tk l 0 (kNode :: kOpen :: nl :: (toks (nodeT true true true p) ++ kShut :: nl :: ts))) :
  ∃ M st, Walk s l (allK s l) [] st0 M st ∧ Tk l st.p.k ts ∧ cnt M kNode = 1 ∧ cnt M kVrrp = 0 ∧ cnt M kService = 0 ∧ st.p.k = (toks (nodeB true true true p ++ [[kShut]])).length ∧ ∃ k sp, st.p = { ps0 with k := k, card := p.card, addr := p.addr, peer := p.peer, spots := sp } ∧ SpS p.addr.size p.vips sp := by
 obtain ⟨st2, t2, c2, k2, hn, hall⟩ := node_ok (s := s) (l := l) true true true c.card c.addr (by rw [c.peer]; exact c.addr) (st := setK st0 1) hT.next
 obtain ⟨k, sp, e2, hsp⟩ := hall rfl
 rw [if_pos (show (true && (true && true)) = true from rfl)] at hn
 have k2 : st2.p.k = 1 + 2 + (toks (nodeT true true true p)).length := k2
 refine ⟨_, setK st2 (st2.p.k + 2), .one (key := (mkK kNode 1 true (nodeS s l)).2) hT (by decide) rfl (by exact (by decide : cnt [] kNode < 1)) hn (by show 0 < st2.p.k + 2; omega), t2.next.next, by rw [cnt_pt]; rfl, by rw [cnt_pt]; rfl, by rw [cnt_pt]; rfl, ?_, st2.p.k + 2, sp, ?_, fun x hx => ?_⟩
 ·show st2.p.k + 2 = _
  rw [k2]
  unfold nodeB
  rw [toks_app, toks_cons, List.length_append, List.length_append]
  show _ = 2 + 1 + _ + 2
  omega
 ·have : st2.p = { ps0 with k := k, card := p.card, addr := p.addr, peer := p.peer, spots := sp } := by rw [e2]; rfl
  show { st2.p with k := st2.p.k + 2 } = _
  rw [this]
 ·obtain ⟨h1, h2⟩ := hsp x hx
  refine ⟨?_, fun h => by rw [h1] at h; cases h⟩
  rcases h2 with h | h
  ·rw [h]
  ·rw [h]; exact c.peer
theorem allB_fail {F : Nat} {M : List (Bs × Int)} {st : St} {w : Bs} {ts : List Bs} {key : Key} (hF : l.length < F + st.p.k) (hT : Tk l st.p.k (w :: ts)) (hl : lk (allK s l) w = some key) (hc : cnt M w < key.most) (hs : (key.sem (setK st (st.p.k + 1))).2 = false) : allB s l (allK s l) F M st = key.sem (setK st (st.p.k + 1)) := by
 have hlt := hT.lt
 obtain ⟨F, rfl⟩ : ∃ G, F = G + 1 := ⟨F - 1, by omega⟩
 rw [allB, if_pos hlt, hT.peek, hl]
 simp only
 rw [if_neg (by omega), show key.sem (setP st { st.p with k := st.p.k + 1 }) = key.sem (setK st (st.p.k + 1)) from rfl, if_neg (by rw [hs]; decide)]
 exact Prod.ext rfl hs.symm
/-- node with a line less -/
theorem need_node (c : CfgC p) (b1 b2 b3 : Bool) (hb : (b1 && (b2 && b3)) = false) {ts : List Bs} (hT : Tk l 0 (kNode :: kOpen :: nl :: (toks (nodeT b1 b2 b3 p) ++ kShut :: nl :: ts))) :
  (allS s l st0).2 = false ∧ (allS s l st0).1.p.code = 183 ∧ (allS s l st0).1.p.bad = placeP s l (toks (nodeB b1 b2 b3 p)).length := by
 obtain ⟨st2, t2, c2, k2, hn, -⟩ := node_ok (s := s) (l := l) b1 b2 b3 c.card c.addr (by rw [c.peer]; exact c.addr) (st := setK st0 1) hT.next
 rw [if_neg (by rw [hb]; decide)] at hn
 have h0 : st2.p.code = 0 := c2
 have hf : failP st2.p (placeP s l st2.p.k) 183 = { st2.p with bad := placeP s l st2.p.k, code := 183 } := if_pos h0
 rw [hf] at hn
 have e : allS s l st0 = nodeS s l (setK st0 1) := allB_fail (key := (mkK kNode 1 true (nodeS s l)).2) (M := []) (by show l.length < l.length + 1 + 0; omega) hT rfl (by exact (by decide : cnt [] kNode < 1)) (by rw [show (mkK kNode 1 true (nodeS s l)).2.sem (setK st0 (st0.p.k + 1)) = nodeS s l (setK st0 1) from rfl, hn])
 have k2 : st2.p.k = (toks (nodeB b1 b2 b3 p)).length := by
  rw [k2]
  show 1 + 2 + (toks (nodeT b1 b2 b3 p)).length = (toks ([kNode, kOpen] :: nodeT b1 b2 b3 p)).length
  rw [toks_cons, List.length_append]
  rfl
 rw [e, hn]
 exact ⟨rfl, rfl, by show placeP s l st2.p.k = _; rw [k2]⟩
/-- vrrp with a line less -/
theorem need_vrrp (c : CfgC p) (b1 b2 b3 : Bool) (hb : (b1 && (b2 && b3)) = false) {ts : List Bs} (hT : Tk l 0 (kNode :: kOpen :: nl :: (toks (nodeT true true true p) ++ kShut :: nl :: (kVrrp :: kOpen :: nl :: (toks (vrrpT b1 b2 b3 p) ++ kShut :: nl :: ts))))) :
  (allS s l st0).2 = false ∧ (allS s l st0).1.p.code = 183 ∧ (allS s l st0).1.p.bad = placeP s l (toks (nodeB true true true p ++ ([kShut] :: vrrpB b1 b2 b3 p))).length := by
 obtain ⟨M1, st1, w1, t1, a1, a2, a3, k1, k, sp, e1, hsp⟩ := read_node (s := s) c hT
 obtain ⟨hno, -⟩ := vrrp_ok (s := s) b1 b2 b3 c (st := setK st1 (st1.p.k + 1)) (by show st1.p.vips = []; rw [e1]; rfl) (by show st1.p.trs = []; rw [e1]; rfl) (by show st1.p.code = 0; rw [e1]; rfl) t1.next
 obtain ⟨h1, h2, h3⟩ := hno hb
 obtain ⟨F, hF, e⟩ := w1.all (l.length + 1) (Nat.lt_succ_self _)
 have e2 : allS s l st0 = vrrpS s l (setK st1 (st1.p.k + 1)) := e.trans (allB_fail (key := (mkK kVrrp 1 true (vrrpS s l)).2) hF t1 rfl (by rw [a2]; exact (by decide : (0 : Int) < 1)) h1)
 rw [e2]
 refine ⟨h1, h2, ?_⟩
 rw [h3]
 congr 1
 show st1.p.k + 1 + 2 + _ = _
 rw [k1, show nodeB true true true p ++ ([kShut] :: vrrpB b1 b2 b3 p) = (nodeB true true true p ++ [[kShut]]) ++ vrrpB b1 b2 b3 p by simp, toks_app (nodeB true true true p ++ [[kShut]]), List.length_append]
 have : (toks (vrrpB b1 b2 b3 p)).length = 2 + 1 + (toks (vrrpT b1 b2 b3 p)).length := by
  unfold vrrpB
  rw [toks_cons, List.length_append]
  rfl
 omega
end
end Go.Ev.Tryd

/- What is read is good: the words of a text. -/
namespace Go.Ev.Tryd
set_option maxRecDepth 10000
open Go.Proofs
def GoodWs (l : List Wd) : Prop := ∀ w ∈ l, w.1 = nl ∨ GoodW w.1
structure RdG (s : Bs) (st : Rd) (k : Nat) : Prop where
 l : GoodWs st.l
 from_ : 0 ≤ st.from' → st.from' < k ∧ ∀ c ∈ bs (cut s st.from' k), plainC c = true
 note : st.note = true → st.from' < 0
theorem cut_size_eq {s : Bs} {x : Int} {k : Nat} (h0 : 0 ≤ x) (h1 : x < k) (h2 : k ≤ s.size) : 1 ≤ (cut s x k).size := by
 unfold cut
 rw [← bs_len, bs_mk, List.length_take, List.length_drop, bs_len]
 omega
theorem GoodWs.snoc {l : List Wd} (h : GoodWs l) {w : Wd} (hw : w.1 = nl ∨ GoodW w.1) : GoodWs (l ++ [w]) := fun x hx => by
 rcases List.mem_append.1 hx with hx | hx
 ·exact h x hx
 ·obtain rfl := List.mem_singleton.1 hx; exact hw
theorem endP_good {s : Bs} {st : Rd} {k : Nat} (g : RdG s st k) (hk : k ≤ s.size) (h : (endP s st k).2 = true) : GoodWs (endP s st k).1.l ∧ (endP s st k).1.from' < 0 ∧ (endP s st k).1.note = st.note := by
 unfold endP at h ⊢
 split
 ·next h0 => exact ⟨g.l, h0, rfl⟩
 ·next h0 =>
  rw [if_neg h0] at h
  obtain ⟨h1, h2⟩ := g.from_ (by omega)
  exact ⟨g.l.snoc (.inr (.inl ⟨cut_size_eq (by omega) h1 hk, of_decide_eq_true h, h2⟩)), (by decide : (-1 : Int) < 0), rfl⟩
theorem takeP_good {s : Bs} {st : Rd} {k : Nat} (g : RdG s st k) {c : UInt8} (hc : (bs s)[k]? = some c) (hm : mayP c.toNat = true) (h : (takeP s st c.toNat k).2 = true) : RdG s (takeP s st c.toNat k).1 (k + 1) := by
  have hk : k < s.size := by
    rw [← bs_len]; exact (List.getElem?_eq_some_iff.1 hc).1
  have hcut1 : cut s k ((k + 1 : Nat) : Int) = mk [c] := by
    have := cut_succ (s := s) (x := k) (k := k) (by omega) (Int.le_refl _) (c := c) hc
    rw [show ((k + 1 : Nat) : Int) = (k : Int) + 1 from rfl, this]
    unfold cut
    simp [bs_mk]
  have gone : ∀ st' : Rd, GoodWs st'.l → st'.from' < 0 → RdG s st' (k + 1) := fun st' h1 h2 => ⟨h1, fun h => by omega, fun _ => h2⟩
  unfold takeP at h ⊢
  split
  · next h10 =>
    rw [if_pos h10] at h
    obtain ⟨h1, h2, h3⟩ := endP_good g (by omega) h
    refine gone _ ?_ h2
    unfold stopP
    simp only
    split
    · exact h1.snoc (.inl rfl)
    · exact h1
  next h10 =>
  rw [if_neg h10] at h
  split
  · next hn =>
    exact ⟨g.l, fun h0 => by have h0 : 0 ≤ st.from' := h0; have := g.note hn; omega, g.note⟩
  next hn =>
  rw [if_neg hn] at h
  split
  · next h35 =>
    rw [if_pos h35] at h
    obtain ⟨h1, h2, h3⟩ := endP_good g (by omega) h
    exact gone _ h1 h2
  next h35 =>
  rw [if_neg h35] at h
  split
  · next hb =>
    rw [if_pos hb] at h
    obtain ⟨h1, h2, h3⟩ := endP_good g (by omega) h
    exact gone _ h1 h2
  next hb =>
  rw [if_neg hb] at h
  split
  · next hbr =>
    rw [if_pos hbr] at h
    obtain ⟨h1, h2, h3⟩ := endP_good g (by omega) h
    refine gone _ ?_ ?_
    · unfold endP
      rw [if_neg (by show ¬ ((k : Nat) : Int) < 0; omega)]
      refine h1.snoc (.inr (.inr ?_))
      show cut s k ((k : Int) + 1) = kOpen ∨ cut s k ((k : Int) + 1) = kShut
      have hcut1 : cut s k ((k : Int) + 1) = mk [c] := hcut1
      rw [hcut1]
      rcases hbr with e | e
      · left
        have : c = 123 := UInt8.toNat_inj.1 (by have : c.toNat = 123 := by omega
                                                rw [this]; rfl)
        rw [this]; rfl
      · right
        have : c = 125 := UInt8.toNat_inj.1 (by have : c.toNat = 125 := by omega
                                                rw [this]; rfl)
        rw [this]; rfl
    · unfold endP
      rw [if_neg (by show ¬ ((k : Nat) : Int) < 0; omega)]
      exact (by decide : (-1 : Int) < 0)
  next hbr =>
  have hp : plainC c = true := by
    simp only [mayP, Bool.or_eq_true, Bool.and_eq_true, decide_eq_true_eq] at hm
    simp only [plainC, Bool.and_eq_true, decide_eq_true_eq]
    omega
  split
  · next h0 =>
    refine ⟨g.l, fun _ => ⟨by show ((k : Nat) : Int) < _; omega, fun x hx => ?_⟩, fun hh => absurd hh hn⟩
    have hx : x ∈ bs (cut s k ((k + 1 : Nat) : Int)) := hx
    rw [hcut1, bs_mk] at hx
    obtain rfl := List.mem_singleton.1 hx
    exact hp
  · next h0 =>
    obtain ⟨h1, h2⟩ := g.from_ (by omega)
    refine ⟨g.l, fun _ => ⟨by show st.from' < _; omega, fun x hx => ?_⟩, fun hh => absurd hh hn⟩
    have e := cut_succ (s := s) (x := st.from') (k := k) (by omega) (by omega) (c := c) hc
    have hx : x ∈ bs (cut s st.from' ((k : Int) + 1)) := hx
    rw [e, bs_mk] at hx
    rcases List.mem_append.1 hx with hx | hx
    · exact h2 x hx
    · obtain rfl := List.mem_singleton.1 hx
      exact hp
theorem allL_good {s : Bs} : ∀ (r : List UInt8) (k : Nat) (st : Rd), (bs s).drop k = r → RdG s st k → k ≤ s.size → ∀ l, allL s st k r = .inl l → GoodWs l
 | [], k, st, hd, g, hk, l, e => by
  unfold allL at e
  split at e
  ·next h =>
   obtain ⟨h1, h2, h3⟩ := endP_good g hk h
   obtain rfl := Sum.inl.inj e
   unfold stopP
   simp only
   split
   ·exact h1.snoc (.inl rfl)
   ·exact h1
  ·cases e
 | c :: r, k, st, hd, g, hk, l, e => by
  have hc : (bs s)[k]? = some c := by rw [← List.head?_drop, hd]; rfl
  have hd' : (bs s).drop (k + 1) = r := by rw [← List.drop_drop, hd]; rfl
  have hlt : k < s.size := by rw [← bs_len]; exact (List.getElem?_eq_some_iff.1 hc).1
  unfold allL at e
  split at e
  ·cases e
  split at e
  ·next hm =>
   split at e
   ·next ht => exact allL_good r (k + 1) _ hd' (takeP_good g hc hm ht) hlt l e
   ·cases e
  ·cases e
theorem allP_good {s : Bs} {l : List Wd} (h : allP s = .inl l) : GoodWs l :=
 allL_good (bs s) 0 rd0 rfl ⟨fun x hx => (by cases hx), fun h => (by have : (0 : Int) ≤ -1 := h; omega), fun h => (by cases h)⟩ (Nat.zero_le _) l h
theorem good_peek {l : List Wd} (g : GoodWs l) {k : Nat} (h : stopW (peekP l k) = false) : PlainW (peekP l k) := by
 unfold peekP at h ⊢
 cases hk : l[k]? with
 | none => rw [hk] at h; exact absurd (show stopW ⟨#[]⟩ = false from h) (by decide)
 | some w =>
  rw [hk] at h
  simp only at h ⊢
  rcases g w (List.mem_of_getElem? hk) with e | e | e | e
  ·rw [e] at h; exact absurd h (by decide)
  ·exact e
  ·rw [e] at h; exact absurd h (by decide)
  ·rw [e] at h; exact absurd h (by decide)
end Go.Ev.Tryd

/- What is read is good: what a reader did that told true. -/
namespace Go.Ev.Tryd
set_option maxRecDepth 10000
open Go.Proofs
/-- but for the place -/
def Sm (a b : St) : Prop := ∃ k, b = setK a k
theorem Sm.trans {a b c : St} (h1 : Sm a b) (h2 : Sm b c) : Sm a c := by
 obtain ⟨k, rfl⟩ := h1; obtain ⟨m, rfl⟩ := h2; exact ⟨m, rfl⟩
theorem Sm.k (a : St) (k : Nat) : Sm a (setK a k) := ⟨k, rfl⟩
section
variable {s : Bs} {l : List Wd}
theorem must_inv {w : Bs} {p : Ps} (h : (mustP s l w p).2 = true) : (mustP s l w p).1 = { p with k := p.k + 1 } := by
 unfold mustP at h ⊢
 split
 ·rfl
 ·next hn => rw [if_neg hn] at h; cases h
theorem end_inv {st : St} (h : (endL s l st).2 = true) : Sm st (endL s l st).1 := ⟨st.p.k + 1, by
 unfold endL at h ⊢
 rw [must_inv h]
 rfl⟩
theorem value_inv {p : Ps} (h : (valueP s l p).2.2.2 = true) : valueP s l p = ({ p with k := p.k + 1 }, peekP l p.k, placeP s l p.k, true) ∧ stopW (peekP l p.k) = false := by
 unfold valueP at h ⊢
 split
 ·next hs => rw [if_pos hs] at h; cases h
 ·next hs => exact ⟨rfl, by simpa using hs⟩
theorem val_cases {p : Ps} : (∃ p' w a, valueP s l p = (p', w, a, false)) ∨ (valueP s l p = ({ p with k := p.k + 1 }, peekP l p.k, placeP s l p.k, true) ∧ stopW (peekP l p.k) = false) := by
 cases h : (valueP s l p).2.2.2 with
 | true => exact .inr (value_inv h)
 | false => exact .inl ⟨_, _, _, Prod.ext rfl (Prod.ext rfl (Prod.ext rfl h))⟩
theorem number_inv {put : St → Int → St} {lo hi : Int} {st : St} (h : (numberS s l put lo hi st).2 = true) : ∃ k v, lo ≤ v ∧ v ≤ hi ∧ Sm (put (setK st k) v) (numberS s l put lo hi st).1 := by
 unfold numberS at h ⊢
 rcases val_cases (s := s) (l := l) (p := st.p) with ⟨p', w, a, e⟩ | ⟨e, hs⟩
 ·rw [e] at h; cases h
 ·rw [e] at h ⊢
  unfold numberV at h ⊢
  simp only at h ⊢
  split
  ·next hc =>
   rw [if_pos hc] at h
   exact ⟨st.p.k + 1, _, hc.2.1, hc.2.2, end_inv h⟩
  ·next hc => rw [if_neg hc] at h; cases h
theorem choice_inv {put : St → Int → St} {L : List (Bs × Int)} {st : St} (h : (choiceS s l put L st).2 = true) : ∃ k v, v ∈ L.map (·.2) ∧ Sm (put (setK st k) v) (choiceS s l put L st).1 := by
 unfold choiceS at h ⊢
 rcases val_cases (s := s) (l := l) (p := st.p) with ⟨p', w, a, e⟩ | ⟨e, hs⟩
 ·rw [e] at h; cases h
 ·rw [e] at h ⊢
  unfold choiceV at h ⊢
  simp only at h ⊢
  cases hl : lk L (peekP l st.p.k) with
  | none => rw [hl] at h; cases h
  | some v =>
   rw [hl] at h
   exact ⟨st.p.k + 1, v, List.mem_map_of_mem (lk_mem hl), end_inv h⟩
theorem card_inv {put : St → Cd → St} {st : St} (h : (cardS s l put st).2 = true) : ∃ k x, CdOk x ∧ Sm (put (setK st k) x) (cardS s l put st).1 := by
 unfold cardS at h ⊢
 rcases val_cases (s := s) (l := l) (p := st.p) with ⟨p', w, a, e⟩ | ⟨e, hs⟩
 ·rw [e] at h; cases h
 ·rw [e] at h ⊢
  unfold cardV at h ⊢
  simp only at h ⊢
  split
  ·next hc =>
   rw [if_pos hc] at h
   exact ⟨st.p.k + 1, _, card_ok _, end_inv h⟩
  ·next hc => rw [if_neg hc] at h; cases h
theorem nums_size (x : List Int) : (strOfNums x).size = x.length := by unfold strOfNums; show (List.toArray _).size = _; simp
theorem six_size {w : Bs} (h : (sixP w).2 = true) : (sixP w).1.size = 16 := by
 unfold sixP at h ⊢
 split
 ·next x hx =>
  rw [hx] at h
  simp only at h
  split
  ·next h6 => rw [nums_size]; exact h6
  ·next h6 => rw [if_neg h6] at h; cases h
 ·next hx => rw [hx] at h; cases h
theorem adr_size_in {w : Bs} (h : (adrP w).2 = true) : (adrP w).1.size = 4 ∨ (adrP w).1.size = 16 := by
 unfold adrP at h ⊢
 split
 ·next x hx =>
  rw [hx] at h
  simp only at h
  split
  ·next h4 => left; rw [nums_size]; exact h4
  ·next h4 => rw [if_neg h4] at h; exact .inr (six_size h)
 ·next hx => rw [hx] at h; exact .inr (six_size h)
theorem address_inv {put : St → Bs → St} {svc : Bool} {st : St} (h : (addressS s l svc (intoS put) st).2 = true) : ∃ k a at', (a.size = 4 ∨ a.size = 16) ∧ Sm (put (spot1 (setK st k) (a, at', svc)) a) (addressS s l svc (intoS put) st).1 := by
 unfold addressS at h ⊢
 rcases val_cases (s := s) (l := l) (p := st.p) with ⟨p', w, a, e⟩ | ⟨e, hs⟩
 ·rw [e] at h; cases h
 ·rw [e] at h ⊢
  unfold addressV at h ⊢
  simp only at h ⊢
  split
  ·next hc =>
   rw [if_pos hc] at h
   unfold thenEnd intoS at h ⊢
   simp only [if_true] at h ⊢
   exact ⟨st.p.k + 1, _, _, adr_size_in hc, end_inv h⟩
  ·next hc => rw [if_neg hc] at h; cases h
theorem vip_inv {st : St} (h : (addressS s l false vipS st).2 = true) : ∃ a at', (a.size = 4 ∨ a.size = 16) ∧ a ∉ st.p.vips ∧ Sm (setP st { st.p with spots := st.p.spots ++ [(a, at', false)], vips := st.p.vips ++ [a] }) (addressS s l false vipS st).1 := by
 unfold addressS at h ⊢
 rcases val_cases (s := s) (l := l) (p := st.p) with ⟨p', w, a, e⟩ | ⟨e, hs⟩
 ·rw [e] at h; cases h
 ·rw [e] at h ⊢
  unfold addressV at h ⊢
  simp only at h ⊢
  split
  ·next hc =>
   rw [if_pos hc] at h
   unfold thenEnd vipS at h ⊢
   cases hm : memB (adrP (peekP l st.p.k)).1 (setP st { st.p with k := st.p.k + 1, spots := st.p.spots ++ [((adrP (peekP l st.p.k)).1, placeP s l st.p.k, false)] }).p.vips with
   | true => rw [hm] at h; cases h
   | false =>
    rw [hm] at h
    simp only [Bool.false_eq_true, if_false, if_true] at h ⊢
    refine ⟨(adrP (peekP l st.p.k)).1, placeP s l st.p.k, adr_size_in hc, fun hx => ?_, Sm.trans ⟨st.p.k + 1, rfl⟩ (end_inv h)⟩
    have : memB (adrP (peekP l st.p.k)).1 st.p.vips = true := memB_iff.2 hx
    rw [show memB (adrP (peekP l st.p.k)).1 st.p.vips = false from hm] at this
    cases this
  ·next hc => rw [if_neg hc] at h; cases h
theorem named_inv (g : GoodWs l) {xs : List Bs} {p : Ps} (h : (namedP s l xs p).2.2 = true) : ∃ w, namedP s l xs p = ({ p with k := p.k + 1 }, w, true) ∧ PlainW w ∧ w.size ≤ 40 ∧ w ∉ xs := by
 unfold namedP at h ⊢
 rcases val_cases (s := s) (l := l) (p := p) with ⟨p', w, a, e⟩ | ⟨e, hs⟩
 ·rw [e] at h; cases h
 ·rw [e] at h ⊢
  unfold namedV at h ⊢
  simp only at h ⊢
  split
  ·next hc => rw [if_pos hc] at h; cases h
  ·next hc =>
   rw [if_neg hc] at h
   split
   ·next hm => rw [if_pos hm] at h; cases h
   ·next hm => exact ⟨_, rfl, good_peek g hs, by omega, fun hx => hm (memB_iff.2 hx)⟩
theorem named_cases (g : GoodWs l) {xs : List Bs} {p : Ps} : (∃ p' w, namedP s l xs p = (p', w, false)) ∨ ∃ w, namedP s l xs p = ({ p with k := p.k + 1 }, w, true) ∧ PlainW w ∧ w.size ≤ 40 ∧ w ∉ xs := by
 cases h : (namedP s l xs p).2.2 with
 | true => exact .inr (named_inv g h)
 | false => exact .inl ⟨_, _, Prod.ext rfl (Prod.ext rfl h)⟩
theorem track_inv (g : GoodWs l) {st : St} (h : (trackS s l st).2 = true) : ∃ x, TrC x ∧ x.1 ∉ st.p.trs.map (·.1) ∧ Sm (setP st { st.p with trs := st.p.trs ++ [x] }) (trackS s l st).1 := by
 unfold trackS at h ⊢
 rcases named_cases (s := s) g (xs := st.p.trs.map (·.1)) (p := st.p) with ⟨p', w, e⟩ | ⟨nm, e, hp, h40, hn⟩
 ·rw [e] at h; cases h
 ·rw [e] at h ⊢
  change (weightV s l nm st (valueP s l { st.p with k := st.p.k + 1 })).2 = true at h
  show ∃ x, TrC x ∧ x.1 ∉ st.p.trs.map (·.1) ∧ Sm _ (weightV s l nm st (valueP s l { st.p with k := st.p.k + 1 })).1
  rcases val_cases (s := s) (l := l) (p := { st.p with k := st.p.k + 1 }) with ⟨p', w, a, e⟩ | ⟨e, hs⟩
  ·rw [e] at h; cases h
  ·rw [e] at h ⊢
   unfold weightV at h ⊢
   simp only at h ⊢
   split
   ·next hc =>
    rw [if_pos hc] at h
    refine ⟨(nm, if (dashP (peekP l (st.p.k + 1))).2 = true then - (numP (bs (dashP (peekP l (st.p.k + 1))).1)).1 else (numP (bs (dashP (peekP l (st.p.k + 1))).1)).1), ⟨hp, h40, ?_, ?_, ?_⟩, hn, Sm.trans ⟨st.p.k + 1 + 1, rfl⟩ (end_inv h)⟩
    all_goals (simp only; split <;> omega)
   ·next hc => rw [if_neg hc] at h; cases h
/-- keys one behind the other keep what they should -/
theorem body_inv {L : List (Bs × Key)} {I : List (Bs × Int) → St → Prop} (hsm : ∀ M a b, Sm a b → I M a → I M b)
  (hstep : ∀ w key M st, lk L w = some key → cnt M w < key.most → I M st → (key.sem st).2 = true → I (pt M w (cnt M w + 1)) (key.sem st).1) : ∀ (F : Nat) (M : List (Bs × Int)) (st : St), I M st → (bodyS s l L F M st).2 = true → ∃ M', lackB L M' = false ∧ I M' (bodyS s l L F M st).1
 | 0, M, st, _, h => by cases h
 | F + 1, M, st, hI, h => by
  unfold bodyS at h ⊢
  split
  ·next hsh =>
   rw [if_pos hsh] at h
   unfold closeS at h ⊢
   cases hl : lackB L M with
   | true => rw [hl, if_pos rfl] at h; cases h
   | false =>
    rw [hl, if_neg (by decide)] at h
    rw [if_neg (by decide)]
    exact ⟨M, hl, hsm M _ _ (Sm.trans (Sm.k st (st.p.k + 1)) (end_inv h)) hI⟩
  ·next hsh =>
   rw [if_neg hsh] at h
   cases hl : lk L (peekP l st.p.k) with
   | none => rw [hl] at h; cases h
   | some key =>
    rw [hl] at h
    simp only at h ⊢
    split
    ·next hc => rw [if_pos hc] at h; cases h
    ·next hc =>
     rw [if_neg hc] at h
     split
     ·next hs =>
      rw [if_pos hs] at h
      exact body_inv hsm hstep F _ _ (hstep _ key M _ hl (by omega) (hsm M _ _ (Sm.k st (st.p.k + 1)) hI) hs) h
     ·next hs => rw [if_neg hs] at h; cases h
theorem block_inv {L : List (Bs × Key)} {I : List (Bs × Int) → St → Prop} (hsm : ∀ M a b, Sm a b → I M a → I M b)
  (hstep : ∀ w key M st, lk L w = some key → cnt M w < key.most → I M st → (key.sem st).2 = true → I (pt M w (cnt M w + 1)) (key.sem st).1) {st : St} (hI : I [] st) (h : (blockS s l L st).2 = true) : ∃ M', lackB L M' = false ∧ I M' (blockS s l L st).1 := by
 unfold blockS at h ⊢
 split
 ·next h1 =>
  rw [if_pos h1] at h
  split
  ·next h2 =>
   rw [if_pos h2] at h
   refine body_inv hsm hstep _ _ _ (hsm _ _ _ ?_ hI) h
   exact ⟨st.p.k + 1 + 1, by rw [must_inv h2, must_inv h1]; rfl⟩
  ·next h2 => rw [if_neg h2] at h; cases h
 ·next h1 => rw [if_neg h1] at h; cases h
end
end Go.Ev.Tryd

/- What is read is good: blocks. -/
namespace Go.Ev.Tryd
set_option maxRecDepth 10000
set_option maxHeartbeats 1000000
open Go.Proofs
abbrev Spots := List (Bs × Int × Bool)
def AdrIn (sp : Spots) (a : Bs) : Prop := (a.size = 4 ∨ a.size = 16) ∧ ∃ at' v, (a, at', v) ∈ sp
def VipIn (sp : Spots) (a : Bs) : Prop := (a.size = 4 ∨ a.size = 16) ∧ ∃ at', (a, at', true) ∈ sp
theorem AdrIn.app {sp : Spots} {a : Bs} (h : AdrIn sp a) (t : Spots) : AdrIn (sp ++ t) a := by
 obtain ⟨h1, x, v, h2⟩ := h; exact ⟨h1, x, v, List.mem_append.2 (.inl h2)⟩
theorem VipIn.app {sp : Spots} {a : Bs} (h : VipIn sp a) (t : Spots) : VipIn (sp ++ t) a := by
 obtain ⟨h1, x, h2⟩ := h; exact ⟨h1, x, List.mem_append.2 (.inl h2)⟩
theorem AdrIn.new {sp : Spots} {a : Bs} {x : Int} {v : Bool} (h : a.size = 4 ∨ a.size = 16) : AdrIn (sp ++ [(a, x, v)]) a := ⟨h, x, v, by simp⟩
theorem VipIn.new {sp : Spots} {a : Bs} {x : Int} (h : a.size = 4 ∨ a.size = 16) : VipIn (sp ++ [(a, x, true)]) a := ⟨h, x, by simp⟩
theorem cnt_nil (w : Bs) : cnt [] w = 0 := rfl
theorem lk_none {V : Type} (w : Bs) : lk ([] : List (Bs × V)) w = none := rfl
section
variable {s : Bs} {l : List Wd}
structure NodeI (a : St) (M : List (Bs × Int)) (st : St) : Prop where
 ex : ∃ k c ad pe sp, st = { a with p := { a.p with k := k, card := c, addr := ad, peer := pe, spots := a.p.spots ++ sp } } ∧ (cnt M kMac ≠ 0 → CdOk c) ∧ (cnt M kAddress ≠ 0 → AdrIn (a.p.spots ++ sp) ad) ∧ (cnt M kPeer ≠ 0 → AdrIn (a.p.spots ++ sp) pe)
theorem node_inv {a : St} (h : (nodeS s l a).2 = true) : ∃ k c ad pe sp, (nodeS s l a).1 = { a with p := { a.p with k := k, card := c, addr := ad, peer := pe, spots := a.p.spots ++ sp } } ∧ CdOk c ∧ AdrIn (a.p.spots ++ sp) ad ∧ AdrIn (a.p.spots ++ sp) pe := by
 obtain ⟨M', hl, ⟨k, c, ad, pe, sp, e, h1, h2, h3⟩⟩ := block_inv (I := NodeI a) (L := nodeK s l) (s := s) (l := l) (fun M x y hxy ⟨k, c, ad, pe, sp, e, h1, h2, h3⟩ => by
   obtain ⟨m, rfl⟩ := hxy
   exact ⟨m, c, ad, pe, sp, by rw [e]; rfl, h1, h2, h3⟩) (fun w key M st hk hc ⟨k, c, ad, pe, sp, e, h1, h2, h3⟩ hs => by
   simp only [nodeK, mkK] at hk
   rw [lk_cons] at hk
   split at hk
   ·next hw =>
    obtain rfl : w = kMac := hw
    obtain rfl := Option.some.inj hk
    obtain ⟨m, x, hx, j, e2⟩ := card_inv hs
    refine ⟨j, x, ad, pe, sp, by rw [e2, e]; rfl, fun _ => hx, fun h => h2 ?_, fun h => h3 ?_⟩
    ·rwa [cnt_pt, if_neg (by decide)] at h
    ·rwa [cnt_pt, if_neg (by decide)] at h
   rw [lk_cons] at hk
   split at hk
   ·next hw =>
    obtain rfl : w = kAddress := hw
    obtain rfl := Option.some.inj hk
    obtain ⟨m, x, at', hx, j, e2⟩ := address_inv hs
    refine ⟨j, c, x, pe, sp ++ [(x, at', false)], ?_, fun h => h1 ?_, fun _ => ?_, fun h => ?_⟩
    ·rw [e2, e, ← List.append_assoc]; rfl
    ·rwa [cnt_pt, if_neg (by decide)] at h
    ·rw [← List.append_assoc]; exact .new hx
    ·rw [cnt_pt, if_neg (by decide)] at h
     rw [← List.append_assoc]; exact (h3 h).app _
   rw [lk_cons] at hk
   split at hk
   ·next hw =>
    obtain rfl : w = kPeer := hw
    obtain rfl := Option.some.inj hk
    obtain ⟨m, x, at', hx, j, e2⟩ := address_inv hs
    refine ⟨j, c, ad, x, sp ++ [(x, at', false)], ?_, fun h => h1 ?_, fun h => ?_, fun _ => ?_⟩
    ·rw [e2, e, ← List.append_assoc]; rfl
    ·rwa [cnt_pt, if_neg (by decide)] at h
    ·rw [cnt_pt, if_neg (by decide)] at h
     rw [← List.append_assoc]; exact (h2 h).app _
    ·rw [← List.append_assoc]; exact .new hx
   cases hk) (st := a) ⟨a.p.k, a.p.card, a.p.addr, a.p.peer, [], by simp, fun h => absurd (cnt_nil _) h, fun h => absurd (cnt_nil _) h, fun h => absurd (cnt_nil _) h⟩ h
 have hl : (true && decide (cnt M' kMac = 0) || (true && decide (cnt M' kAddress = 0) || (true && decide (cnt M' kPeer = 0) || false))) = false := hl
 simp only [Bool.true_and, Bool.or_false, Bool.or_eq_false_iff, decide_eq_false_iff_not] at hl
 exact ⟨k, c, ad, pe, sp, e, h1 hl.1, h2 hl.2.1, h3 hl.2.2⟩
structure VrI (a : St) (M : List (Bs × Int)) (st : St) : Prop where
 ex : ∃ k i pr ev vs ts sp y, st = { a with p := { a.p with k := k, id := i, prio := pr, every := ev, vips := vs, trs := ts, spots := a.p.spots ++ sp }, yes := y } ∧
  (cnt M kId ≠ 0 → 1 ≤ i ∧ i ≤ 255) ∧ (cnt M kPrio ≠ 0 → 1 ≤ pr ∧ pr ≤ 255) ∧ (cnt M kEvery ≠ 0 → 1 ≤ ev ∧ ev ≤ 4095) ∧
  (vs.length : Int) = cnt M kVip ∧ cnt M kVip ≤ 8 ∧ vs.Nodup ∧ (∀ v ∈ vs, AdrIn (a.p.spots ++ sp) v) ∧
  (ts.length : Int) = cnt M kTrack ∧ cnt M kTrack ≤ 8 ∧ (ts.map (·.1)).Nodup ∧ (∀ x ∈ ts, TrC x)
theorem nodup_snoc {α : Type} {l : List α} {a : α} (h : l.Nodup) (ha : a ∉ l) : (l ++ [a]).Nodup := List.nodup_append.2 ⟨h, by simp, fun x hx y hy => by obtain rfl := List.mem_singleton.1 hy; exact fun e => ha (e ▸ hx)⟩
theorem vrrp_inv (g : GoodWs l) {a : St} (hv : a.p.vips = []) (ht : a.p.trs = []) (h : (vrrpS s l a).2 = true) :
  ∃ k i pr ev pre vs ts sp y, (vrrpS s l a).1 = { a with p := { a.p with k := k, id := i, prio := pr, every := ev, pre := pre, vips := vs, trs := ts, spots := a.p.spots ++ sp }, yes := y } ∧
   (1 ≤ i ∧ i ≤ 255) ∧ (1 ≤ pr ∧ pr ≤ 255) ∧ (1 ≤ ev ∧ ev ≤ 4095) ∧ (1 ≤ vs.length ∧ vs.length ≤ 8) ∧ vs.Nodup ∧ (∀ v ∈ vs, AdrIn (a.p.spots ++ sp) v) ∧ ts.length ≤ 8 ∧ (ts.map (·.1)).Nodup ∧ (∀ x ∈ ts, TrC x) := by
 unfold vrrpS preS at h ⊢
 obtain ⟨M', hl, ⟨k, i, pr, ev, vs, ts, sp, y, e, h1, h2, h3, h4, h5, h6, h7, h8, h9, h10, h11⟩⟩ := block_inv (I := VrI a) (L := vrrpK s l) (s := s) (l := l) (fun M x y hxy ⟨k, i, pr, ev, vs, ts, sp, y, e, hr⟩ => by
   obtain ⟨m, rfl⟩ := hxy
   exact ⟨m, i, pr, ev, vs, ts, sp, y, by rw [e]; rfl, hr⟩) (fun w key M st hk hc ⟨k, i, pr, ev, vs, ts, sp, y, e, h1, h2, h3, h4, h5, h6, h7, h8, h9, h10, h11⟩ hs => by
   simp only [vrrpK, mkK] at hk
   rw [lk_cons] at hk
   split at hk
   ·next hw =>
    obtain rfl : w = kId := hw
    obtain rfl := Option.some.inj hk
    obtain ⟨m, v, v0, v1, j, e2⟩ := number_inv hs
    refine ⟨j, v, pr, ev, vs, ts, sp, y, by rw [e2, e]; rfl, fun _ => ⟨v0, v1⟩, fun h => h2 ?_, fun h => h3 ?_, ?_, ?_, h6, h7, ?_, ?_, h10, h11⟩
    ·rwa [cnt_pt, if_neg (by decide)] at h
    ·rwa [cnt_pt, if_neg (by decide)] at h
    ·rw [cnt_pt, if_neg (by decide)]; exact h4
    ·rw [cnt_pt, if_neg (by decide)]; exact h5
    ·rw [cnt_pt, if_neg (by decide)]; exact h8
    ·rw [cnt_pt, if_neg (by decide)]; exact h9
   rw [lk_cons] at hk
   split at hk
   ·next hw =>
    obtain rfl : w = kPrio := hw
    obtain rfl := Option.some.inj hk
    obtain ⟨m, v, v0, v1, j, e2⟩ := number_inv hs
    refine ⟨j, i, v, ev, vs, ts, sp, y, by rw [e2, e]; rfl, fun h => h1 ?_, fun _ => ⟨v0, v1⟩, fun h => h3 ?_, ?_, ?_, h6, h7, ?_, ?_, h10, h11⟩
    ·rwa [cnt_pt, if_neg (by decide)] at h
    ·rwa [cnt_pt, if_neg (by decide)] at h
    ·rw [cnt_pt, if_neg (by decide)]; exact h4
    ·rw [cnt_pt, if_neg (by decide)]; exact h5
    ·rw [cnt_pt, if_neg (by decide)]; exact h8
    ·rw [cnt_pt, if_neg (by decide)]; exact h9
   rw [lk_cons] at hk
   split at hk
   ·next hw =>
    obtain rfl : w = kEvery := hw
    obtain rfl := Option.some.inj hk
    obtain ⟨m, v, v0, v1, j, e2⟩ := number_inv hs
    refine ⟨j, i, pr, v, vs, ts, sp, y, by rw [e2, e]; rfl, fun h => h1 ?_, fun h => h2 ?_, fun _ => ⟨v0, v1⟩, ?_, ?_, h6, h7, ?_, ?_, h10, h11⟩
    ·rwa [cnt_pt, if_neg (by decide)] at h
    ·rwa [cnt_pt, if_neg (by decide)] at h
    ·rw [cnt_pt, if_neg (by decide)]; exact h4
    ·rw [cnt_pt, if_neg (by decide)]; exact h5
    ·rw [cnt_pt, if_neg (by decide)]; exact h8
    ·rw [cnt_pt, if_neg (by decide)]; exact h9
   rw [lk_cons] at hk
   split at hk
   ·next hw =>
    obtain rfl : w = kPreempt := hw
    obtain rfl := Option.some.inj hk
    obtain ⟨m, v, _, j, e2⟩ := choice_inv hs
    refine ⟨j, i, pr, ev, vs, ts, sp, v, by rw [e2, e]; rfl, fun h => h1 ?_, fun h => h2 ?_, fun h => h3 ?_, ?_, ?_, h6, h7, ?_, ?_, h10, h11⟩
    ·rwa [cnt_pt, if_neg (by decide)] at h
    ·rwa [cnt_pt, if_neg (by decide)] at h
    ·rwa [cnt_pt, if_neg (by decide)] at h
    ·rw [cnt_pt, if_neg (by decide)]; exact h4
    ·rw [cnt_pt, if_neg (by decide)]; exact h5
    ·rw [cnt_pt, if_neg (by decide)]; exact h8
    ·rw [cnt_pt, if_neg (by decide)]; exact h9
   rw [lk_cons] at hk
   split at hk
   ·next hw =>
    obtain rfl : w = kVip := hw
    obtain rfl := Option.some.inj hk
    have hc : cnt M kVip < 8 := hc
    obtain ⟨x, at', hx, hn, j, e2⟩ := vip_inv hs
    have hn : x ∉ vs := by rw [e] at hn; exact hn
    refine ⟨j, i, pr, ev, vs ++ [x], ts, sp ++ [(x, at', false)], y, ?_, fun h => h1 ?_, fun h => h2 ?_, fun h => h3 ?_, ?_, ?_, nodup_snoc h6 hn, fun v hv => ?_, ?_, ?_, h10, h11⟩
    ·rw [e2, e, ← List.append_assoc]; rfl
    ·rwa [cnt_pt, if_neg (by decide)] at h
    ·rwa [cnt_pt, if_neg (by decide)] at h
    ·rwa [cnt_pt, if_neg (by decide)] at h
    ·rw [cnt_pt, if_pos rfl, List.length_append, List.length_singleton]; push_cast; omega
    ·rw [cnt_pt, if_pos rfl]; omega
    ·rw [← List.append_assoc]
     rcases List.mem_append.1 hv with hv | hv
     ·exact (h7 v hv).app _
     ·obtain rfl := List.mem_singleton.1 hv; exact .new hx
    ·rw [cnt_pt, if_neg (by decide)]; exact h8
    ·rw [cnt_pt, if_neg (by decide)]; exact h9
   rw [lk_cons] at hk
   split at hk
   ·next hw =>
    obtain rfl : w = kTrack := hw
    obtain rfl := Option.some.inj hk
    have hc : cnt M kTrack < 8 := hc
    obtain ⟨x, hx, hn, j, e2⟩ := track_inv g hs
    have hn : x.1 ∉ ts.map (·.1) := by rw [e] at hn; exact hn
    refine ⟨j, i, pr, ev, vs, ts ++ [x], sp, y, ?_, fun h => h1 ?_, fun h => h2 ?_, fun h => h3 ?_, ?_, ?_, h6, h7, ?_, ?_, ?_, fun z hz => ?_⟩
    ·rw [e2, e]; rfl
    ·rwa [cnt_pt, if_neg (by decide)] at h
    ·rwa [cnt_pt, if_neg (by decide)] at h
    ·rwa [cnt_pt, if_neg (by decide)] at h
    ·rw [cnt_pt, if_neg (by decide)]; exact h4
    ·rw [cnt_pt, if_neg (by decide)]; exact h5
    ·rw [cnt_pt, if_pos rfl, List.length_append, List.length_singleton]; push_cast; omega
    ·rw [cnt_pt, if_pos rfl]; omega
    ·rw [List.map_append]; exact nodup_snoc h10 hn
    ·rcases List.mem_append.1 hz with hz | hz
     ·exact h11 z hz
     ·obtain rfl := List.mem_singleton.1 hz; exact hx
   cases hk) (st := { a with yes := 1 }) ⟨a.p.k, a.p.id, a.p.prio, a.p.every, [], [], [], 1, by simp [← hv, ← ht], fun h => absurd (cnt_nil _) h, fun h => absurd (cnt_nil _) h, fun h => absurd (cnt_nil _) h, rfl, by rw [cnt_nil]; decide, .nil, fun v hv => (by cases hv), rfl, by rw [cnt_nil]; decide, .nil, fun v hv => (by cases hv)⟩ h
 have hl : (true && decide (cnt M' kId = 0) || (true && decide (cnt M' kPrio = 0) || (true && decide (cnt M' kEvery = 0) || (false && decide (cnt M' kPreempt = 0) || (true && decide (cnt M' kVip = 0) || (false && decide (cnt M' kTrack = 0) || false)))))) = false := hl
 simp only [Bool.true_and, Bool.false_and, Bool.or_false, Bool.false_or, Bool.or_eq_false_iff, decide_eq_false_iff_not] at hl
 refine ⟨k, i, pr, ev, y == 1, vs, ts, sp, y, ?_, h1 hl.1, h2 hl.2.1, h3 hl.2.2.1, ⟨by have := hl.2.2.2; omega, by omega⟩, h6, h7, by omega, h10, h11⟩
 simp only
 rw [e]
 rfl
end
end Go.Ev.Tryd

/- What is read is good: backends, services, all. -/
namespace Go.Ev.Tryd
set_option maxRecDepth 10000
set_option maxHeartbeats 2000000
open Go.Proofs
structure BkI (sp : Spots) (x : Bk) : Prop where
 name : PlainW x.name
 n40 : x.name.size ≤ 40
 addr : AdrIn sp x.addr
 card : CdOk x.card
 port : 0 ≤ x.port ∧ x.port ≤ 65535
 weight : 1 ≤ x.weight ∧ x.weight ≤ 100
theorem BkI.app {sp : Spots} {x : Bk} (h : BkI sp x) (t : Spots) : BkI (sp ++ t) x := ⟨h.name, h.n40, h.addr.app t, h.card, h.port, h.weight⟩
structure SvI (sp : Spots) (x : Sv) : Prop where
 name : PlainW x.name
 n40 : x.name.size ≤ 40
 vip : VipIn sp x.vip
 proto : x.proto = 6 ∨ x.proto = 17
 port : 1 ≤ x.port ∧ x.port ≤ 65535
 mode : x.mode = 1 ∨ x.mode = 2 ∨ x.mode = 3
 sched : x.sched = 1 ∨ x.sched = 2
 rise : 1 ≤ x.rise ∧ x.rise ≤ 20
 fall : 1 ≤ x.fall ∧ x.fall ≤ 20
 probe : 1 ≤ x.probe ∧ x.probe ≤ 10000
 bks : ∀ b ∈ x.bks, BkI sp b
 nd : (x.bks.map (·.name)).Nodup
 n : 1 ≤ x.bks.length ∧ x.bks.length ≤ 16
theorem SvI.app {sp : Spots} {x : Sv} (h : SvI sp x) (t : Spots) : SvI (sp ++ t) x := ⟨h.name, h.n40, h.vip.app t, h.proto, h.port, h.mode, h.sched, h.rise, h.fall, h.probe, fun b hb => (h.bks b hb).app t, h.nd, h.n⟩
section
variable {s : Bs} {l : List Wd}
structure BcI (a : St) (nm : Bs) (M : List (Bs × Int)) (st : St) : Prop where
 ex : ∃ k sp b, st = { a with p := { a.p with k := k, spots := a.p.spots ++ sp }, bk := b } ∧ b.name = nm ∧ (cnt M kAddress ≠ 0 → AdrIn (a.p.spots ++ sp) b.addr) ∧ CdOk b.card ∧ (0 ≤ b.port ∧ b.port ≤ 65535) ∧ (1 ≤ b.weight ∧ b.weight ≤ 100)
theorem backend_inv (g : GoodWs l) {a : St} (h : (backendS s l a).2 = true) :
  ∃ k sp b, (backendS s l a).1 = { a with p := { a.p with k := k, spots := a.p.spots ++ sp }, sv := { a.sv with bks := a.sv.bks ++ [b] }, bk := b } ∧ BkI (a.p.spots ++ sp) b ∧ b.name ∉ a.sv.bks.map (·.name) := by
 unfold backendS at h ⊢
 rcases named_cases (s := s) g (xs := a.sv.bks.map (·.name)) (p := a.p) with ⟨p', w, e⟩ | ⟨nm, e, hp, h40, hn⟩
 ·rw [e] at h; cases h
 rw [e] at h ⊢
 change (blockS s l (backendK s l) { setP a { a.p with k := a.p.k + 1 } with bk := ⟨nm, ⟨#[]⟩, cd0, 0, 1⟩ }).2 = true at h
 obtain ⟨M', hl, ⟨k, sp, b, e1, hb, h1, h2, h3, h4⟩⟩ := block_inv (I := BcI a nm) (L := backendK s l) (s := s) (l := l) (fun M x y hxy ⟨k, sp, b, e, hr⟩ => by
   obtain ⟨m, rfl⟩ := hxy
   exact ⟨m, sp, b, by rw [e]; rfl, hr⟩) (fun w key M st hk hc ⟨k, sp, b, e, hb, h1, h2, h3, h4⟩ hs => by
   simp only [backendK, mkK] at hk
   rw [lk_cons] at hk
   split at hk
   ·next hw =>
    obtain rfl : w = kAddress := hw
    obtain rfl := Option.some.inj hk
    obtain ⟨m, x, at', hx, j, e2⟩ := address_inv hs
    refine ⟨j, sp ++ [(x, at', false)], { b with addr := x }, ?_, hb, fun _ => ?_, h2, h3, h4⟩
    ·rw [e2, e, ← List.append_assoc]; rfl
    ·rw [← List.append_assoc]; exact .new hx
   rw [lk_cons] at hk
   split at hk
   ·next hw =>
    obtain rfl : w = kMac := hw
    obtain rfl := Option.some.inj hk
    obtain ⟨m, x, hx, j, e2⟩ := card_inv hs
    refine ⟨j, sp, { b with card := x }, by rw [e2, e]; rfl, hb, fun h => h1 ?_, hx, h3, h4⟩
    rwa [cnt_pt, if_neg (by decide)] at h
   rw [lk_cons] at hk
   split at hk
   ·next hw =>
    obtain rfl : w = kPort := hw
    obtain rfl := Option.some.inj hk
    obtain ⟨m, v, v0, v1, j, e2⟩ := number_inv hs
    refine ⟨j, sp, { b with port := v }, by rw [e2, e]; rfl, hb, fun h => h1 ?_, h2, ⟨by show 0 ≤ v; omega, v1⟩, h4⟩
    rwa [cnt_pt, if_neg (by decide)] at h
   rw [lk_cons] at hk
   split at hk
   ·next hw =>
    obtain rfl : w = kWeight := hw
    obtain rfl := Option.some.inj hk
    obtain ⟨m, v, v0, v1, j, e2⟩ := number_inv hs
    refine ⟨j, sp, { b with weight := v }, by rw [e2, e]; rfl, hb, fun h => h1 ?_, h2, h3, ⟨v0, v1⟩⟩
    rwa [cnt_pt, if_neg (by decide)] at h
   cases hk) (st := { setP a { a.p with k := a.p.k + 1 } with bk := ⟨nm, ⟨#[]⟩, cd0, 0, 1⟩ }) ⟨a.p.k + 1, [], ⟨nm, ⟨#[]⟩, cd0, 0, 1⟩, by simp [setP], rfl, fun h => absurd (cnt_nil _) h, ⟨by simp [cd0]⟩, ⟨by simp, by simp⟩, ⟨by simp, by simp⟩⟩ h
 have hl : (true && decide (cnt M' kAddress = 0) || (true && decide (cnt M' kMac = 0) || (false && decide (cnt M' kPort = 0) || (false && decide (cnt M' kWeight = 0) || false)))) = false := hl
 simp only [Bool.true_and, Bool.false_and, Bool.or_false, Bool.or_eq_false_iff, decide_eq_false_iff_not] at hl
 refine ⟨k, sp, b, ?_, ⟨by rw [hb]; exact hp, by rw [hb]; exact h40, h1 hl.1, h2, h3, h4⟩, by rw [hb]; exact hn⟩
 show (pushB (blockS s l (backendK s l) { setP a { a.p with k := a.p.k + 1 } with bk := ⟨nm, ⟨#[]⟩, cd0, 0, 1⟩ })).1 = _
 unfold pushB
 simp only
 rw [e1]
structure ScI (a : St) (nm : Bs) (M : List (Bs × Int)) (st : St) : Prop where
 ex : ∃ k sp x y, st = { a with p := { a.p with k := k, spots := a.p.spots ++ sp }, sv := x, bk := y } ∧ x.name = nm ∧
  (cnt M kProto ≠ 0 → x.proto = 6 ∨ x.proto = 17) ∧ (cnt M kVip ≠ 0 → VipIn (a.p.spots ++ sp) x.vip) ∧ (cnt M kPort ≠ 0 → 1 ≤ x.port ∧ x.port ≤ 65535) ∧ (cnt M kMode ≠ 0 → x.mode = 1 ∨ x.mode = 2 ∨ x.mode = 3) ∧
  (x.sched = 1 ∨ x.sched = 2) ∧ (1 ≤ x.rise ∧ x.rise ≤ 20) ∧ (1 ≤ x.fall ∧ x.fall ≤ 20) ∧ (1 ≤ x.probe ∧ x.probe ≤ 10000) ∧
  (∀ b ∈ x.bks, BkI (a.p.spots ++ sp) b) ∧ (x.bks.map (·.name)).Nodup ∧ (x.bks.length : Int) = cnt M kBackend ∧ cnt M kBackend ≤ 16
theorem service_inv (g : GoodWs l) {a : St} (h : (serviceS s l a).2 = true) :
  ∃ k sp x y, (serviceS s l a).1 = { a with p := { a.p with k := k, spots := a.p.spots ++ sp, svs := a.p.svs ++ [x] }, sv := sv0, bk := y } ∧ SvI (a.p.spots ++ sp) x ∧ x.name ∉ a.p.svs.map (·.name) := by
 unfold serviceS at h ⊢
 rcases named_cases (s := s) g (xs := a.p.svs.map (·.name)) (p := a.p) with ⟨p', w, e⟩ | ⟨nm, e, hp, h40, hn⟩
 ·rw [e] at h; cases h
 rw [e] at h ⊢
 change (blockS s l (serviceK s l) { setP a { a.p with k := a.p.k + 1 } with sv := newSv nm }).2 = true at h
 obtain ⟨M', hl, ⟨k, sp, x, y, e1, hb, h1, h2, h3, h4, h5, h6, h7, h8, h9, h10, h11, h12⟩⟩ := block_inv (I := ScI a nm) (L := serviceK s l) (s := s) (l := l) (fun M u v huv ⟨k, sp, x, y, e, hr⟩ => by
   obtain ⟨m, rfl⟩ := huv
   exact ⟨m, sp, x, y, by rw [e]; rfl, hr⟩) (fun w key M st hk hc ⟨k, sp, x, y, e, hb, h1, h2, h3, h4, h5, h6, h7, h8, h9, h10, h11, h12⟩ hs => by
   simp only [serviceK, mkK] at hk
   rw [lk_cons] at hk
   split at hk
   ·next hw =>
    obtain rfl : w = kProto := hw
    obtain rfl := Option.some.inj hk
    obtain ⟨m, v, hv, j, e2⟩ := choice_inv hs
    have hv : v = 6 ∨ v = 17 := by simpa [tcpUdp] using hv
    refine ⟨j, sp, { x with proto := v }, y, ?_, hb, fun _ => hv, fun h => h2 ?_, fun h => h3 ?_, fun h => h4 ?_, h5, h6, h7, h8, h9, h10, ?_, ?_⟩
    ·rw [e2, e]; rfl
    ·rwa [cnt_pt, if_neg (by decide)] at h
    ·rwa [cnt_pt, if_neg (by decide)] at h
    ·rwa [cnt_pt, if_neg (by decide)] at h
    ·rw [cnt_pt, if_neg (by decide)]; exact h11
    ·rw [cnt_pt, if_neg (by decide)]; exact h12
   rw [lk_cons] at hk
   split at hk
   ·next hw =>
    obtain rfl : w = kVip := hw
    obtain rfl := Option.some.inj hk
    obtain ⟨m, z, at', hz, j, e2⟩ := address_inv hs
    refine ⟨j, sp ++ [(z, at', true)], { x with vip := z }, y, ?_, hb, fun h => h1 ?_, fun _ => ?_, fun h => h3 ?_, fun h => h4 ?_, h5, h6, h7, h8, fun z hz => ?_, h10, ?_, ?_⟩
    ·rw [e2, e, ← List.append_assoc]; rfl
    ·rwa [cnt_pt, if_neg (by decide)] at h
    ·rw [← List.append_assoc]; exact .new hz
    ·rwa [cnt_pt, if_neg (by decide)] at h
    ·rwa [cnt_pt, if_neg (by decide)] at h
    ·rw [← List.append_assoc]; exact (h9 z hz).app _
    ·rw [cnt_pt, if_neg (by decide)]; exact h11
    ·rw [cnt_pt, if_neg (by decide)]; exact h12
   rw [lk_cons] at hk
   split at hk
   ·next hw =>
    obtain rfl : w = kPort := hw
    obtain rfl := Option.some.inj hk
    obtain ⟨m, v, v0, v1, j, e2⟩ := number_inv hs
    refine ⟨j, sp, { x with port := v }, y, ?_, hb, fun h => h1 ?_, fun h => h2 ?_, fun _ => ⟨v0, v1⟩, fun h => h4 ?_, h5, h6, h7, h8, h9, h10, ?_, ?_⟩
    ·rw [e2, e]; rfl
    ·rwa [cnt_pt, if_neg (by decide)] at h
    ·rwa [cnt_pt, if_neg (by decide)] at h
    ·rwa [cnt_pt, if_neg (by decide)] at h
    ·rw [cnt_pt, if_neg (by decide)]; exact h11
    ·rw [cnt_pt, if_neg (by decide)]; exact h12
   rw [lk_cons] at hk
   split at hk
   ·next hw =>
    obtain rfl : w = kMode := hw
    obtain rfl := Option.some.inj hk
    obtain ⟨m, v, hv, j, e2⟩ := choice_inv hs
    have hv : v = 1 ∨ v = 2 ∨ v = 3 := by simpa [modes] using hv
    refine ⟨j, sp, { x with mode := v }, y, ?_, hb, fun h => h1 ?_, fun h => h2 ?_, fun h => h3 ?_, fun _ => hv, h5, h6, h7, h8, h9, h10, ?_, ?_⟩
    ·rw [e2, e]; rfl
    ·rwa [cnt_pt, if_neg (by decide)] at h
    ·rwa [cnt_pt, if_neg (by decide)] at h
    ·rwa [cnt_pt, if_neg (by decide)] at h
    ·rw [cnt_pt, if_neg (by decide)]; exact h11
    ·rw [cnt_pt, if_neg (by decide)]; exact h12
   rw [lk_cons] at hk
   split at hk
   ·next hw =>
    obtain rfl : w = kSched := hw
    obtain rfl := Option.some.inj hk
    obtain ⟨m, v, hv, j, e2⟩ := choice_inv hs
    have hv : v = 1 ∨ v = 2 := by simpa [scheds] using hv
    refine ⟨j, sp, { x with sched := v }, y, ?_, hb, fun h => h1 ?_, fun h => h2 ?_, fun h => h3 ?_, fun h => h4 ?_, hv, h6, h7, h8, h9, h10, ?_, ?_⟩
    ·rw [e2, e]; rfl
    ·rwa [cnt_pt, if_neg (by decide)] at h
    ·rwa [cnt_pt, if_neg (by decide)] at h
    ·rwa [cnt_pt, if_neg (by decide)] at h
    ·rwa [cnt_pt, if_neg (by decide)] at h
    ·rw [cnt_pt, if_neg (by decide)]; exact h11
    ·rw [cnt_pt, if_neg (by decide)]; exact h12
   rw [lk_cons] at hk
   split at hk
   ·next hw =>
    obtain rfl : w = kRise := hw
    obtain rfl := Option.some.inj hk
    obtain ⟨m, v, v0, v1, j, e2⟩ := number_inv hs
    refine ⟨j, sp, { x with rise := v }, y, ?_, hb, fun h => h1 ?_, fun h => h2 ?_, fun h => h3 ?_, fun h => h4 ?_, h5, ⟨v0, v1⟩, h7, h8, h9, h10, ?_, ?_⟩
    ·rw [e2, e]; rfl
    ·rwa [cnt_pt, if_neg (by decide)] at h
    ·rwa [cnt_pt, if_neg (by decide)] at h
    ·rwa [cnt_pt, if_neg (by decide)] at h
    ·rwa [cnt_pt, if_neg (by decide)] at h
    ·rw [cnt_pt, if_neg (by decide)]; exact h11
    ·rw [cnt_pt, if_neg (by decide)]; exact h12
   rw [lk_cons] at hk
   split at hk
   ·next hw =>
    obtain rfl : w = kFall := hw
    obtain rfl := Option.some.inj hk
    obtain ⟨m, v, v0, v1, j, e2⟩ := number_inv hs
    refine ⟨j, sp, { x with fall := v }, y, ?_, hb, fun h => h1 ?_, fun h => h2 ?_, fun h => h3 ?_, fun h => h4 ?_, h5, h6, ⟨v0, v1⟩, h8, h9, h10, ?_, ?_⟩
    ·rw [e2, e]; rfl
    ·rwa [cnt_pt, if_neg (by decide)] at h
    ·rwa [cnt_pt, if_neg (by decide)] at h
    ·rwa [cnt_pt, if_neg (by decide)] at h
    ·rwa [cnt_pt, if_neg (by decide)] at h
    ·rw [cnt_pt, if_neg (by decide)]; exact h11
    ·rw [cnt_pt, if_neg (by decide)]; exact h12
   rw [lk_cons] at hk
   split at hk
   ·next hw =>
    obtain rfl : w = kProbe := hw
    obtain rfl := Option.some.inj hk
    obtain ⟨m, v, v0, v1, j, e2⟩ := number_inv hs
    refine ⟨j, sp, { x with probe := v }, y, ?_, hb, fun h => h1 ?_, fun h => h2 ?_, fun h => h3 ?_, fun h => h4 ?_, h5, h6, h7, ⟨v0, v1⟩, h9, h10, ?_, ?_⟩
    ·rw [e2, e]; rfl
    ·rwa [cnt_pt, if_neg (by decide)] at h
    ·rwa [cnt_pt, if_neg (by decide)] at h
    ·rwa [cnt_pt, if_neg (by decide)] at h
    ·rwa [cnt_pt, if_neg (by decide)] at h
    ·rw [cnt_pt, if_neg (by decide)]; exact h11
    ·rw [cnt_pt, if_neg (by decide)]; exact h12
   rw [lk_cons] at hk
   split at hk
   ·next hw =>
    obtain rfl : w = kBackend := hw
    obtain rfl := Option.some.inj hk
    have hc : cnt M kBackend < 16 := hc
    obtain ⟨m, sp2, b, e2, h13, h14⟩ := backend_inv g hs
    have h14 : b.name ∉ x.bks.map (·.name) := by rw [e] at h14; exact h14
    have h13 : BkI (a.p.spots ++ sp ++ sp2) b := by rw [e] at h13; exact h13
    refine ⟨m, sp ++ sp2, { x with bks := x.bks ++ [b] }, b, ?_, hb, fun h => h1 ?_, fun h => ?_, fun h => h3 ?_, fun h => h4 ?_, h5, h6, h7, h8, fun z hz => ?_, ?_, ?_, ?_⟩
    ·rw [e2, e, ← List.append_assoc]
    ·rwa [cnt_pt, if_neg (by decide)] at h
    ·rw [cnt_pt, if_neg (by decide)] at h; rw [← List.append_assoc]; exact (h2 h).app _
    ·rwa [cnt_pt, if_neg (by decide)] at h
    ·rwa [cnt_pt, if_neg (by decide)] at h
    ·rw [← List.append_assoc]
     rcases List.mem_append.1 hz with hz | hz
     ·exact (h9 z hz).app _
     ·obtain rfl := List.mem_singleton.1 hz; exact h13
    ·show ((x.bks ++ [b]).map (·.name)).Nodup
     rw [List.map_append]; exact nodup_snoc h10 h14
    ·show ((x.bks ++ [b]).length : Int) = _
     rw [cnt_pt, if_pos rfl, List.length_append, List.length_singleton]; push_cast; omega
    ·rw [cnt_pt, if_pos rfl]; omega
   cases hk) (st := { setP a { a.p with k := a.p.k + 1 } with sv := newSv nm }) ⟨a.p.k + 1, [], newSv nm, a.bk, by simp [setP], rfl, fun h => absurd (cnt_nil _) h, fun h => absurd (cnt_nil _) h, fun h => absurd (cnt_nil _) h, fun h => absurd (cnt_nil _) h, .inl rfl, ⟨by simp [newSv], by simp [newSv]⟩, ⟨by simp [newSv], by simp [newSv]⟩, ⟨by simp [newSv], by simp [newSv]⟩, fun b hb => (by cases hb), .nil, rfl, by rw [cnt_nil]; decide⟩ h
 have hl : (true && decide (cnt M' kProto = 0) || (true && decide (cnt M' kVip = 0) || (true && decide (cnt M' kPort = 0) || (true && decide (cnt M' kMode = 0) || (false && decide (cnt M' kSched = 0) || (false && decide (cnt M' kRise = 0) || (false && decide (cnt M' kFall = 0) || (false && decide (cnt M' kProbe = 0) || (true && decide (cnt M' kBackend = 0) || false))))))))) = false := hl
 simp only [Bool.true_and, Bool.false_and, Bool.or_false, Bool.false_or, Bool.or_eq_false_iff, decide_eq_false_iff_not] at hl
 refine ⟨k, sp, x, y, ?_, ⟨by rw [hb]; exact hp, by rw [hb]; exact h40, h2 hl.2.1, h1 hl.1, h3 hl.2.2.1, h4 hl.2.2.2.1, h5, h6, h7, h8, h9, h10, ⟨by have := hl.2.2.2.2; omega, by omega⟩⟩, by rw [hb]; exact hn⟩
 show (pushS (blockS s l (serviceK s l) { setP a { a.p with k := a.p.k + 1 } with sv := newSv nm })).1 = _
 unfold pushS
 simp only
 rw [e1]
structure AlI (M : List (Bs × Int)) (st : St) : Prop where
 node : cnt M kNode ≠ 0 → CdOk st.p.card ∧ AdrIn st.p.spots st.p.addr ∧ AdrIn st.p.spots st.p.peer
 vrrp : cnt M kVrrp ≠ 0 → (1 ≤ st.p.id ∧ st.p.id ≤ 255) ∧ (1 ≤ st.p.prio ∧ st.p.prio ≤ 255) ∧ (1 ≤ st.p.every ∧ st.p.every ≤ 4095) ∧ 1 ≤ st.p.vips.length
 none : cnt M kVrrp = 0 → st.p.vips = [] ∧ st.p.trs = []
 vips : ∀ v ∈ st.p.vips, AdrIn st.p.spots v
 vnd : st.p.vips.Nodup
 vn : st.p.vips.length ≤ 8
 trs : ∀ x ∈ st.p.trs, TrC x
 tnd : (st.p.trs.map (·.1)).Nodup
 tn : st.p.trs.length ≤ 8
 svs : ∀ x ∈ st.p.svs, SvI st.p.spots x
 snd : (st.p.svs.map (·.name)).Nodup
 sn : (st.p.svs.length : Int) = cnt M kService
 s4 : cnt M kService ≤ 4
 nn : 0 ≤ cnt M kVrrp
theorem AlI.sm {M : List (Bs × Int)} {a b : St} (h : Sm a b) (i : AlI M a) : AlI M b := by
 obtain ⟨k, rfl⟩ := h
 exact ⟨i.node, i.vrrp, i.none, i.vips, i.vnd, i.vn, i.trs, i.tnd, i.tn, i.svs, i.snd, i.sn, i.s4, i.nn⟩
theorem all_step (g : GoodWs l) {w : Bs} {key : Key} {M : List (Bs × Int)} {st : St} (hk : lk (allK s l) w = some key) (hc : cnt M w < key.most) (i : AlI M st) (hs : (key.sem st).2 = true) : AlI (pt M w (cnt M w + 1)) (key.sem st).1 := by
 simp only [allK, mkK] at hk
 rw [lk_cons] at hk
 split at hk
 ·next hw =>
  obtain rfl : w = kNode := hw
  obtain rfl := Option.some.inj hk
  obtain ⟨k, c, ad, pe, sp, e, h1, h2, h3⟩ := node_inv hs
  rw [show (⟨1, true, 0, [], [], nodeS s l⟩ : Key).sem st = nodeS s l st from rfl, e]
  have cv : cnt (pt M kNode (cnt M kNode + 1)) kVrrp = cnt M kVrrp := by rw [cnt_pt, if_neg (by decide)]
  have cs : cnt (pt M kNode (cnt M kNode + 1)) kService = cnt M kService := by rw [cnt_pt, if_neg (by decide)]
  exact ⟨fun _ => ⟨h1, h2, h3⟩, by rw [cv]; exact i.vrrp, by rw [cv]; exact i.none, fun v hv => (i.vips v hv).app _, i.vnd, i.vn, i.trs, i.tnd, i.tn, fun x hx => (i.svs x hx).app _, i.snd, by rw [cs]; exact i.sn, by rw [cs]; exact i.s4, by rw [cv]; exact i.nn⟩
 rw [lk_cons] at hk
 split at hk
 ·next hw =>
  obtain rfl : w = kVrrp := hw
  obtain rfl := Option.some.inj hk
  have hc : cnt M kVrrp < 1 := hc
  have h0 := i.none (by have := i.nn; omega)
  obtain ⟨k, i', pr, ev, pre, vs, ts, sp, y, e, h1, h2, h3, h4, h5, h6, h7, h8, h9⟩ := vrrp_inv g h0.1 h0.2 hs
  rw [show (⟨1, true, 0, [], [], vrrpS s l⟩ : Key).sem st = vrrpS s l st from rfl, e]
  have cn : cnt (pt M kVrrp (cnt M kVrrp + 1)) kNode = cnt M kNode := by rw [cnt_pt, if_neg (by decide)]
  have cs : cnt (pt M kVrrp (cnt M kVrrp + 1)) kService = cnt M kService := by rw [cnt_pt, if_neg (by decide)]
  have cv : cnt (pt M kVrrp (cnt M kVrrp + 1)) kVrrp = cnt M kVrrp + 1 := by rw [cnt_pt, if_pos rfl]
  exact ⟨fun h => (by rw [cn] at h; obtain ⟨q1, q2, q3⟩ := i.node h; exact ⟨q1, q2.app _, q3.app _⟩), fun _ => ⟨h1, h2, h3, h4.1⟩, fun h => (by have := i.nn; omega), h6, h5, h4.2, h9, h8, h7, fun x hx => (i.svs x hx).app _, i.snd, by rw [cs]; exact i.sn, by rw [cs]; exact i.s4, by have := i.nn; omega⟩
 rw [lk_cons] at hk
 split at hk
 ·next hw =>
  obtain rfl : w = kService := hw
  obtain rfl := Option.some.inj hk
  have hc : cnt M kService < 4 := hc
  obtain ⟨k, sp, x, y, e, h1, h2⟩ := service_inv g hs
  rw [show (⟨4, false, 0, [], [], serviceS s l⟩ : Key).sem st = serviceS s l st from rfl, e]
  have cn : cnt (pt M kService (cnt M kService + 1)) kNode = cnt M kNode := by rw [cnt_pt, if_neg (by decide)]
  have cv : cnt (pt M kService (cnt M kService + 1)) kVrrp = cnt M kVrrp := by rw [cnt_pt, if_neg (by decide)]
  have cs : cnt (pt M kService (cnt M kService + 1)) kService = cnt M kService + 1 := by rw [cnt_pt, if_pos rfl]
  exact ⟨fun h => (by rw [cn] at h; obtain ⟨q1, q2, q3⟩ := i.node h; exact ⟨q1, q2.app _, q3.app _⟩), by rw [cv]; exact i.vrrp, by rw [cv]; exact i.none, fun v hv => (i.vips v hv).app _, i.vnd, i.vn, i.trs, i.tnd, i.tn, fun z hz => (by
   rcases List.mem_append.1 hz with hz | hz
   ·exact (i.svs z hz).app _
   ·obtain rfl := List.mem_singleton.1 hz; exact h1), (by
   show ((st.p.svs ++ [x]).map (·.name)).Nodup
   rw [List.map_append]; exact nodup_snoc i.snd h2), (by
   show ((st.p.svs ++ [x]).length : Int) = _
   rw [cs, List.length_append, List.length_singleton]; have := i.sn; push_cast; omega), by omega, by rw [cv]; exact i.nn⟩
 cases hk
theorem all_inv (g : GoodWs l) : ∀ (F : Nat) (M : List (Bs × Int)) (st : St), AlI M st → (allB s l (allK s l) F M st).2 = true → ∃ M', cnt M' kNode ≠ 0 ∧ cnt M' kVrrp ≠ 0 ∧ AlI M' (allB s l (allK s l) F M st).1 ∧ (allB s l (allK s l) F M st).1.p.spots.find? (oddSpot (allB s l (allK s l) F M st).1.p) = none ∧ (allB s l (allK s l) F M st).1.p.spots.find? (noVip (allB s l (allK s l) F M st).1.p) = none
 | 0, M, st, _, h => by cases h
 | F + 1, M, st, i, h => by
  unfold allB at h ⊢
  split
  ·next hk =>
   rw [if_pos hk] at h
   cases hl : lk (allK s l) (peekP l st.p.k) with
   | none => rw [hl] at h; cases h
   | some key =>
    rw [hl] at h
    simp only at h ⊢
    split
    ·next hc => rw [if_pos hc] at h; cases h
    ·next hc =>
     rw [if_neg hc] at h
     split
     ·next hs =>
      rw [if_pos hs] at h
      exact all_inv g F _ _ (all_step g hl (by omega) (i.sm (Sm.k st (st.p.k + 1))) hs) h
     ·next hs => rw [if_neg hs] at h; cases h
  ·next hk =>
   rw [if_neg hk] at h
   unfold endA at h ⊢
   split
   ·next hc => rw [if_pos hc] at h; cases h
   ·next hc =>
    rw [if_neg hc] at h
    unfold spotsS at h ⊢
    cases ho : st.p.spots.find? (oddSpot st.p) with
    | some x => rw [ho] at h; cases h
    | none =>
     rw [ho] at h
     simp only at h ⊢
     unfold vipsS at h ⊢
     cases hv : st.p.spots.find? (noVip st.p) with
     | some x => rw [hv] at h; cases h
     | none =>
      exact ⟨M, fun h => hc (.inl h), fun h => hc (.inr h), i, ho, hv⟩
theorem cfg_good (hw : allP s = .inl l) (h : (allS s l st0).2 = true) : CfgC (allS s l st0).1.p := by
 have g := allP_good hw
 obtain ⟨M, h1, h2, i, ho, hv⟩ := all_inv g _ _ _ (⟨fun h => absurd (cnt_nil _) h, fun h => absurd (cnt_nil _) h, fun _ => ⟨rfl, rfl⟩, fun v hv => (by cases hv), .nil, Nat.zero_le _, fun v hv => (by cases hv), .nil, Nat.zero_le _, fun v hv => (by cases hv), .nil, rfl, (by rw [cnt_nil]; decide), (by rw [cnt_nil]; decide)⟩ : AlI [] st0) h
 rw [show allB s l (allK s l) (l.length + 1) [] st0 = allS s l st0 from rfl] at i ho hv
 generalize (allS s l st0).1 = st at i ho hv ⊢
 have hsz : ∀ {a : Bs}, AdrIn st.p.spots a → a.size = st.p.addr.size := fun ⟨_, x, v, hm⟩ => by
  have := List.find?_eq_none.1 ho _ hm
  simpa [oddSpot] using this
 have hvp : ∀ {a : Bs}, VipIn st.p.spots a → a ∈ st.p.vips := fun ⟨_, x, hm⟩ => by
  have := List.find?_eq_none.1 hv _ hm
  simpa [noVip, memB_iff] using this
 obtain ⟨n1, n2, n3⟩ := i.node h1
 obtain ⟨v1, v2, v3, v4⟩ := i.vrrp h2
 refine ⟨n2.1, n1, hsz n3, v1, v2, v3, fun a ha => hsz (i.vips a ha), i.vnd, ⟨v4, i.vn⟩, i.trs, i.tnd, i.tn, fun x hx => ?_, i.snd, by have := i.sn; have := i.s4; omega⟩
 have q := i.svs x hx
 exact ⟨q.name, q.n40, hvp q.vip, q.proto, q.port, q.mode, q.sched, q.rise, q.fall, q.probe, fun b hb => (by have r := q.bks b hb; exact ⟨r.name, r.n40, hsz r.addr, r.card, r.port, r.weight⟩), q.nd, q.n⟩
end
end Go.Ev.Tryd

/- What is written is read: the plain laws. -/
namespace Go.Ev.Tryd
set_option maxRecDepth 10000
open Go.Proofs
def plainB (w : Bs) : Bool := decide (1 ≤ w.size) && decide (w.size ≤ 60) && (bs w).all plainC
theorem plain_key {w : Bs} (h : plainB w = true) : PlainW w := by
 simp only [plainB, Bool.and_eq_true, decide_eq_true_eq] at h
 exact ⟨h.1.1, h.1.2, List.all_eq_true.1 h.2⟩
theorem good_open : GoodW kOpen := .inr (.inl rfl)
theorem good_shut : GoodW kShut := .inr (.inr rfl)
theorem GoodL.cons {a : List Bs} {b : List (List Bs)} (h0 : a ≠ []) (h1 : ∀ w ∈ a, GoodW w) (h2 : GoodL b) : GoodL (a :: b) := fun ws hw => by
 rcases List.mem_cons.1 hw with rfl | hw
 ·exact ⟨h0, h1⟩
 ·exact h2 ws hw
theorem GoodL.app {a b : List (List Bs)} (h1 : GoodL a) (h2 : GoodL b) : GoodL (a ++ b) := fun ws hw => (List.mem_append.1 hw).elim (h1 ws) (h2 ws)
theorem GoodL.nil : GoodL [] := fun ws hw => by cases hw
theorem g1 {a : Bs} (h : GoodW a) : ∀ w ∈ [a], GoodW w := by simpa using h
theorem g2 {a b : Bs} (h1 : GoodW a) (h2 : GoodW b) : ∀ w ∈ [a, b], GoodW w := by simp [h1, h2]
theorem g3 {a b c : Bs} (h1 : GoodW a) (h2 : GoodW b) (h3 : GoodW c) : ∀ w ∈ [a, b, c], GoodW w := by simp [h1, h2, h3]
theorem gk {w : Bs} (h : plainB w = true) : GoodW w := .inl (plain_key h)
theorem gi {v : Int} (h0 : -65535 ≤ v) (h1 : v ≤ 65535) : GoodW (itoaS v) := .inl (plain_itoa h0 h1)
theorem bkL_good {A : Nat} (hA : A = 4 ∨ A = 16) {x : Bk} (c : BkC A x) : GoodL (bkL x) ∧ (bkL x).length ≤ 6 := by
 unfold bkL
 refine ⟨((GoodL.cons (by simp) (g3 (gk (by decide)) (.inl c.name) good_open) (.cons (by simp) (g2 (gk (by decide)) (.inl (plain_pT (by rw [c.addr]; exact hA)))) (.cons (by simp) (g2 (gk (by decide)) (.inl (plain_cdT c.card))) .nil))).app ?_).app (.cons (by simp) (g2 (gk (by decide)) (gi (by have := c.weight; omega) (by have := c.weight; omega))) (.cons (by simp) (g1 good_shut) .nil)), ?_⟩
 ·split
  ·exact .nil
  ·exact .cons (by simp) (g2 (gk (by decide)) (gi (by have := c.port; omega) (by have := c.port; omega))) .nil
 ·split <;> simp
theorem bks_good {A : Nat} (hA : A = 4 ∨ A = 16) : ∀ {l : List Bk}, (∀ x ∈ l, BkC A x) → GoodL (l.flatMap bkL) ∧ (l.flatMap bkL).length ≤ 6 * l.length
 | [], _ => ⟨.nil, by simp⟩
 | x :: l, h => by
  obtain ⟨h1, h2⟩ := bkL_good hA (h x (by simp))
  obtain ⟨h3, h4⟩ := bks_good hA (l := l) fun y hy => h y (by simp [hy])
  exact ⟨h1.app h3, by simp only [List.flatMap_cons, List.length_append, List.length_cons]; omega⟩
theorem svL_good {A : Nat} (hA : A = 4 ∨ A = 16) {V : List Bs} (hV : ∀ a ∈ V, a.size = A) {x : Sv} (c : SvC A V x) : GoodL (svL x) ∧ (svL x).length ≤ 106 := by
 obtain ⟨h1, h2⟩ := bks_good hA c.bks
 have hmo : GoodW (pickL [kNat, kDr, kIpip] x.mode) := by rcases c.mode with h | h | h <;> rw [h] <;> exact gk (by decide)
 have hsc : GoodW (pickL [kMaglev, kSource] x.sched) := by rcases c.sched with h | h <;> rw [h] <;> exact gk (by decide)
 have hpr : GoodW (if x.proto = 6 then kTcp else kUdp) := by split <;> exact gk (by decide)
 have := c.n; have := c.port; have := c.rise; have := c.fall; have := c.probe
 unfold svL svH
 refine ⟨.cons (by simp) (g3 (gk (by decide)) (.inl c.name) good_open) (.cons (by simp) (g2 (gk (by decide)) hpr) (.app ?_ (h1.app (.cons (by simp) (g1 good_shut) .nil)))), ?_⟩
 ·exact .cons (by simp) (g2 (gk (by decide)) (.inl (plain_pT (by rw [hV _ c.vip]; exact hA)))) (.cons (by simp) (g2 (gk (by decide)) (gi (by omega) (by omega))) (.cons (by simp) (g2 (gk (by decide)) hmo) (.cons (by simp) (g2 (gk (by decide)) hsc)
   (.cons (by simp) (g2 (gk (by decide)) (gi (by omega) (by omega))) (.cons (by simp) (g2 (gk (by decide)) (gi (by omega) (by omega))) (.cons (by simp) (g2 (gk (by decide)) (gi (by omega) (by omega))) .nil))))))
 ·simp only [List.length_cons, List.length_append, List.length_nil]; omega
theorem svsL_good {A : Nat} (hA : A = 4 ∨ A = 16) {V : List Bs} (hV : ∀ a ∈ V, a.size = A) : ∀ {l : List Sv}, (∀ x ∈ l, SvC A V x) → GoodL (svsL l) ∧ (svsL l).length ≤ 106 * l.length
 | [], _ => ⟨.nil, by simp [svsL]⟩
 | x :: l, h => by
  obtain ⟨h1, h2⟩ := svL_good hA hV (h x (by simp))
  obtain ⟨h3, h4⟩ := svsL_good hA hV (l := l) fun y hy => h y (by simp [hy])
  have e2 : svsL (x :: l) = svL x ++ svsL l := rfl
  rw [e2]
  exact ⟨h1.app h3, by simp only [List.length_append, List.length_cons]; omega⟩
/-- the lines between the key lines of node and vrrp, and behind them -/
def tailL (p : Ps) : List (List Bs) := [kPreempt, if p.pre = true then kYes else kNo] :: (vipsL p.vips ++ (trsL p.trs ++ ([kShut] :: svsL p.svs)))
theorem tail_good {p : Ps} (c : CfgC p) : GoodL (tailL p) ∧ (tailL p).length ≤ 450 := by
 obtain ⟨h1, h2⟩ := svsL_good c.addr c.vips c.svs
 unfold tailL
 refine ⟨.cons (by simp) (g2 (gk (by decide)) (by split <;> exact gk (by decide))) (.app ?_ (.app ?_ (.cons (by simp) (g1 good_shut) h1))), ?_⟩
 ·intro ws hw
  obtain ⟨a, ha, rfl⟩ := List.mem_map.1 hw
  exact ⟨by simp, g2 (gk (by decide)) (.inl (plain_pT (by rw [c.vips a ha]; exact c.addr)))⟩
 ·intro ws hw
  obtain ⟨x, hx, rfl⟩ := List.mem_map.1 hw
  have t := c.trs x hx
  exact ⟨by simp, g3 (gk (by decide)) (.inl t.name) (gi (by have := t.lo; omega) (by have := t.hi; omega))⟩
 ·have := c.vn; have := c.tn; have := c.sn
  simp only [List.length_cons, List.length_append, vipsL, trsL, List.length_map]; omega
theorem head_good {p : Ps} (c : CfgC p) : GoodL (headL p) := by
 have := c.id; have := c.prio; have := c.every
 unfold headL
 exact .cons (by simp) (g2 (gk (by decide)) good_open) (.cons (by simp) (g2 (gk (by decide)) (.inl (plain_cdT c.card))) (.cons (by simp) (g2 (gk (by decide)) (.inl (plain_pT c.addr))) (.cons (by simp) (g2 (gk (by decide)) (.inl (plain_pT (by rw [c.peer]; exact c.addr)))) (.cons (by simp) (g1 good_shut) (.cons (by simp) (g2 (gk (by decide)) good_open)
  (.cons (by simp) (g2 (gk (by decide)) (gi (by omega) (by omega))) (.cons (by simp) (g2 (gk (by decide)) (gi (by omega) (by omega))) (.cons (by simp) (g2 (gk (by decide)) (gi (by omega) (by omega))) .nil))))))))
theorem print_tail (p : Ps) : printL p = headL p ++ tailL p := rfl
theorem print_good {p : Ps} (c : CfgC p) : GoodL (printL p) := (head_good c).app (tail_good c).1
theorem print_count {p : Ps} (c : CfgC p) : (printL p).length ≤ 460 := by
 rw [print_tail, List.length_append]
 have := (tail_good c).2
 show 9 + _ ≤ _
 omega
/-- good lines of few words are short -/
theorem good_ren : ∀ {ls : List (List Bs)}, GoodL ls → (∀ ws ∈ ls, ws.length ≤ 3) → (ren ls).length ≤ 190 * ls.length ∧ (toks ls).length ≤ 4 * ls.length
 | [], _, _ => ⟨by simp [ren], by simp [toks]⟩
 | ws :: ls, g, h => by
  obtain ⟨h1, h2⟩ := good_ren (ls := ls) (fun x hx => g x (by simp [hx])) fun x hx => h x (by simp [hx])
  have hw := h ws (by simp)
  have hs : ∀ w ∈ ws, w.size ≤ 60 := fun w hw => by
   rcases (g ws (by simp)).2 w hw with e | rfl | rfl
   ·exact e.short
   ·decide
   ·decide
  have a1 : (Lib.join (ws.map fun x : ByteArray => x.data.toList) [32]).length ≤ (ws.map fun x : ByteArray => x.data.toList).flatten.length + ws.length := by
   have := join_le 32 (ws.map fun x : ByteArray => x.data.toList)
   rwa [List.length_map] at this
  have a2 : (ws.map fun x : ByteArray => x.data.toList).flatten.length ≤ 60 * ws.length := flat_le hs
  have a3 : (renL ws).length = (Lib.join (ws.map fun x : ByteArray => x.data.toList) [32]).length + 1 := by
   show (bs (joinS ws sp) ++ [10]).length = _
   rw [List.length_append, bs_len]
   rfl
  have a4 : 60 * ws.length ≤ 60 * 3 := Nat.mul_le_mul_left _ hw
  rw [ren_cons, List.length_append, toks_cons, List.length_append, List.length_append, List.length_cons]
  exact ⟨by omega, by simp only [List.length_singleton]; omega⟩
theorem good_words {ls : List (List Bs)} (g : GoodL ls) (h3 : ∀ ws ∈ ls, ws.length ≤ 3) (hn : ls.length ≤ 1000) : ∀ l, allP (mk (ren ls)) = .inl l → Words l ∧ l.length ≤ 300000 := by
 intro l e
 rw [allP_ren g] at e
 obtain rfl := Sum.inl.inj e
 have hl : (linesW 1 0 ls).map (·.1) = toks ls := linesW_fst ls 1 0 g
 refine ⟨fun w hw => ?_, ?_⟩
 ·have : w.1 ∈ toks ls := by rw [← hl]; exact List.mem_map_of_mem hw
  obtain ⟨ws, h1, h2⟩ := List.mem_flatMap.1 this
  rcases List.mem_append.1 h2 with h2 | h2
  ·rcases (g ws h1).2 _ h2 with e | e | e
   ·have := e.short; omega
   ·rw [e]; decide
   ·rw [e]; decide
  ·rw [List.mem_singleton.1 h2]; decide
 ·have := congrArg List.length hl
  rw [List.length_map] at this
  have := (good_ren g h3).2
  omega
/-- lines of few words -/
def Few (ls : List (List Bs)) : Prop := ∀ ws ∈ ls, ws.length ≤ 3
theorem few_print {st : St} (g : GG 0 st) : Few (printL st.p) := fun ws hw => (printL_lw g ws hw).1
theorem tk_lines {ls : List (List Bs)} (g : GoodL ls) : Tk (linesW 1 0 ls) 0 (toks ls) := by
 unfold Tk
 rw [List.drop_zero]
 exact linesW_fst ls 1 0 g
theorem parse_ren {ls : List (List Bs)} (g : GoodL ls) : parseP (mk (ren ls)) = if (allS (mk (ren ls)) (linesW 1 0 ls) st0).2 = true then .inl (allS (mk (ren ls)) (linesW 1 0 ls) st0).1.p else .inr ((allS (mk (ren ls)) (linesW 1 0 ls) st0).1.p.bad, (allS (mk (ren ls)) (linesW 1 0 ls) st0).1.p.code) := by
 unfold parseP
 rw [allP_ren g]
/-- a key line of node or vrrp, by its number: what is ahead of it, itself, what is behind it -/
def needA (p : Ps) : Nat → List (List Bs)
 | 0 => [[kNode, kOpen]]
 | 1 => [[kNode, kOpen], [kMac, cdT p.card]]
 | 2 => [[kNode, kOpen], [kMac, cdT p.card], [kAddress, pT p.addr]]
 | 3 => [[kNode, kOpen], [kMac, cdT p.card], [kAddress, pT p.addr], [kPeer, pT p.peer], [kShut], [kVrrp, kOpen]]
 | 4 => [[kNode, kOpen], [kMac, cdT p.card], [kAddress, pT p.addr], [kPeer, pT p.peer], [kShut], [kVrrp, kOpen], [kId, itoaS p.id]]
 | _ => [[kNode, kOpen], [kMac, cdT p.card], [kAddress, pT p.addr], [kPeer, pT p.peer], [kShut], [kVrrp, kOpen], [kId, itoaS p.id], [kPrio, itoaS p.prio]]
def needK : Nat → Bs
 | 0 => kMac
 | 1 => kAddress
 | 2 => kPeer
 | 3 => kId
 | 4 => kPrio
 | _ => kEvery
def needV (p : Ps) : Nat → Bs
 | 0 => cdT p.card
 | 1 => pT p.addr
 | 2 => pT p.peer
 | 3 => itoaS p.id
 | 4 => itoaS p.prio
 | _ => itoaS p.every
def needB (p : Ps) : Nat → List (List Bs)
 | 0 => [kAddress, pT p.addr] :: [kPeer, pT p.peer] :: [kShut] :: [kVrrp, kOpen] :: [kId, itoaS p.id] :: [kPrio, itoaS p.prio] :: [kEvery, itoaS p.every] :: tailL p
 | 1 => [kPeer, pT p.peer] :: [kShut] :: [kVrrp, kOpen] :: [kId, itoaS p.id] :: [kPrio, itoaS p.prio] :: [kEvery, itoaS p.every] :: tailL p
 | 2 => [kShut] :: [kVrrp, kOpen] :: [kId, itoaS p.id] :: [kPrio, itoaS p.prio] :: [kEvery, itoaS p.every] :: tailL p
 | 3 => [kPrio, itoaS p.prio] :: [kEvery, itoaS p.every] :: tailL p
 | 4 => [kEvery, itoaS p.every] :: tailL p
 | _ => tailL p
theorem need_split (p : Ps) : ∀ k, printL p = needA p k ++ ([needK k, needV p k] :: needB p k)
 | 0 => rfl
 | 1 => rfl
 | 2 => rfl
 | 3 => rfl
 | 4 => rfl
 | _ + 5 => rfl
theorem need_go {p : Ps} {A B a b : List (List Bs)} (hg : GoodL (A ++ B)) (e : A ++ B = a ++ ([kShut] :: b)) (ex : ∃ x, a = A ++ x) (hle : (ren (A ++ B)).length ≤ (ren (printL p)).length)
  (h : (allS (mk (ren (A ++ B))) (linesW 1 0 (A ++ B)) st0).2 = false ∧ (allS (mk (ren (A ++ B))) (linesW 1 0 (A ++ B)) st0).1.p.code = 183 ∧ (allS (mk (ren (A ++ B))) (linesW 1 0 (A ++ B)) st0).1.p.bad = placeP (mk (ren (A ++ B))) (linesW 1 0 (A ++ B)) (toks a).length) :
  ∃ bad : Nat, parseP (mk (ren (A ++ B))) = .inr ((bad : Nat), 183) ∧ (ren A).length ≤ bad ∧ bad < (ren (printL p)).length := by
 obtain ⟨x, ex⟩ := ex
 obtain ⟨h1, h2, h3⟩ := h
 rw [parse_ren hg]
 refine ⟨(ren a).length, ?_, ?_, ?_⟩
 ·rw [h1, if_neg (by decide), h2, h3]
  have hga : GoodL a := fun ws hw => hg ws (by rw [e]; exact List.mem_append.2 (.inl hw))
  have := place_line (s := mk (ren (A ++ B))) (b := b) (w := kShut) (ws := []) hga
  rw [e] at this ⊢
  rw [this]
 ·rw [ex, ren_app, List.length_append]; omega
 ·rw [e, ren_app, ren_cons, List.length_append, List.length_append] at hle
  have : 0 < (renL [kShut]).length := by rw [renL_one, List.length_append]; exact Nat.lt_of_lt_of_le (by decide) (Nat.le_add_left 1 _)
  omega
theorem need_good {p : Ps} (c : CfgC p) (k : Nat) : GoodL (needA p k ++ needB p k) ∧ (ren (needA p k ++ needB p k)).length ≤ (ren (printL p)).length := by
 refine ⟨fun ws hw => print_good c ws ?_, ?_⟩
 ·rw [need_split p k]
  rcases List.mem_append.1 hw with h | h
  ·exact List.mem_append.2 (.inl h)
  ·exact List.mem_append.2 (.inr (List.mem_cons_of_mem _ h))
 ·rw [need_split p k, ren_app, ren_app, ren_cons, List.length_append, List.length_append, List.length_append]; omega
def restL (p : Ps) : List (List Bs) := [kVrrp, kOpen] :: [kId, itoaS p.id] :: [kPrio, itoaS p.prio] :: [kEvery, itoaS p.every] :: tailL p
theorem need_eqN (p : Ps) (b1 b2 b3 : Bool) {A B : List (List Bs)} (e : A ++ B = nodeB b1 b2 b3 p ++ ([kShut] :: restL p)) (hb : (b1 && (b2 && b3)) = false) (c : CfgC p) (hg : GoodL (A ++ B)) :
  (allS (mk (ren (A ++ B))) (linesW 1 0 (A ++ B)) st0).2 = false ∧ (allS (mk (ren (A ++ B))) (linesW 1 0 (A ++ B)) st0).1.p.code = 183 ∧ (allS (mk (ren (A ++ B))) (linesW 1 0 (A ++ B)) st0).1.p.bad = placeP (mk (ren (A ++ B))) (linesW 1 0 (A ++ B)) (toks (nodeB b1 b2 b3 p)).length := by
 have hT := tk_lines hg
 rw [e] at hT ⊢
 rw [← List.append_nil (toks _), node_ws, List.append_nil] at hT
 exact need_node c b1 b2 b3 hb hT
theorem need_eqV (p : Ps) (b1 b2 b3 : Bool) {A B : List (List Bs)} (e : A ++ B = nodeB true true true p ++ ([kShut] :: (vrrpB b1 b2 b3 p ++ ([kShut] :: svsL p.svs)))) (hb : (b1 && (b2 && b3)) = false) (c : CfgC p) (hg : GoodL (A ++ B)) :
  (allS (mk (ren (A ++ B))) (linesW 1 0 (A ++ B)) st0).2 = false ∧ (allS (mk (ren (A ++ B))) (linesW 1 0 (A ++ B)) st0).1.p.code = 183 ∧ (allS (mk (ren (A ++ B))) (linesW 1 0 (A ++ B)) st0).1.p.bad = placeP (mk (ren (A ++ B))) (linesW 1 0 (A ++ B)) (toks (nodeB true true true p ++ ([kShut] :: vrrpB b1 b2 b3 p))).length := by
 have hT := tk_lines hg
 rw [e] at hT ⊢
 rw [← List.append_nil (toks _), node_ws, vrrp_ws, List.append_nil] at hT
 exact need_vrrp c b1 b2 b3 hb hT
theorem need_plain {p : Ps} (c : CfgC p) (k : Nat) : ∃ bad : Nat, parseP (mk (ren (needA p k ++ needB p k))) = .inr ((bad : Nat), 183) ∧ (ren (needA p k)).length ≤ bad ∧ bad < (ren (printL p)).length := by
 obtain ⟨hg, hle⟩ := need_good c k
 have N : ∀ b1 b2 b3 x, needA p k ++ needB p k = nodeB b1 b2 b3 p ++ ([kShut] :: restL p) → (b1 && (b2 && b3)) = false → nodeB b1 b2 b3 p = needA p k ++ x → ∃ bad : Nat, parseP (mk (ren (needA p k ++ needB p k))) = .inr ((bad : Nat), 183) ∧ (ren (needA p k)).length ≤ bad ∧ bad < (ren (printL p)).length :=
  fun b1 b2 b3 x e hb ex => need_go hg e ⟨x, ex⟩ hle (need_eqN p b1 b2 b3 e hb c hg)
 have V : ∀ b1 b2 b3 x, needA p k ++ needB p k = nodeB true true true p ++ ([kShut] :: (vrrpB b1 b2 b3 p ++ ([kShut] :: svsL p.svs))) → (b1 && (b2 && b3)) = false → nodeB true true true p ++ ([kShut] :: vrrpB b1 b2 b3 p) = needA p k ++ x → ∃ bad : Nat, parseP (mk (ren (needA p k ++ needB p k))) = .inr ((bad : Nat), 183) ∧ (ren (needA p k)).length ≤ bad ∧ bad < (ren (printL p)).length :=
  fun b1 b2 b3 x e hb ex => need_go (a := nodeB true true true p ++ ([kShut] :: vrrpB b1 b2 b3 p)) (b := svsL p.svs) hg (by rw [e]; simp) ⟨x, ex⟩ hle (need_eqV p b1 b2 b3 e hb c hg)
 rcases k with _ | _ | _ | _ | _ | k
 ·exact N false true true _ rfl rfl rfl
 ·exact N true false true _ rfl rfl rfl
 ·exact N true true false [] rfl rfl rfl
 ·refine V false true true ([kPrio, itoaS p.prio] :: [kEvery, itoaS p.every] :: [kPreempt, if p.pre = true then kYes else kNo] :: (vipsL p.vips ++ trsL p.trs)) ?_ rfl ?_ <;> simp [needA, needB, tailL, nodeB, vrrpB, nodeT, vrrpT, optL]
 ·refine V true false true ([kEvery, itoaS p.every] :: [kPreempt, if p.pre = true then kYes else kNo] :: (vipsL p.vips ++ trsL p.trs)) ?_ rfl ?_ <;> simp [needA, needB, tailL, nodeB, vrrpB, nodeT, vrrpT, optL]
 ·refine V true true false ([kPreempt, if p.pre = true then kYes else kNo] :: (vipsL p.vips ++ trsL p.trs)) ?_ rfl ?_ <;> simp [needA, needB, tailL, nodeB, vrrpB, nodeT, vrrpT, optL]
end Go.Ev.Tryd

/- Who reads amiss tells a code. -/
namespace Go.Ev.Tryd
set_option maxRecDepth 10000
open Go.Proofs
theorem fail_code (p : Ps) (a : Int) {c : Int} (hc : c ≠ 0) : (failP p a c).code ≠ 0 := by
 unfold failP
 split
 ·exact hc
 ·next h => exact h
theorem fail_k (p : Ps) (a c : Int) : (failP p a c).k = p.k := (failP_k p a c).1
/-- the place stays within the words; who tells false has a code -/
def Fz (l : List Wd) (f : St → St × Bool) : Prop := ∀ st, st.p.k ≤ l.length → (f st).1.p.k ≤ l.length ∧ st.p.k ≤ (f st).1.p.k ∧ ((f st).2 = false → (f st).1.p.code ≠ 0)
section
variable (s : Bs) (l : List Wd)
theorem fz_must {w : Bs} (hw : w ≠ ⟨#[]⟩) (p : Ps) (hk : p.k ≤ l.length) : (mustP s l w p).1.k ≤ l.length ∧ p.k ≤ (mustP s l w p).1.k ∧ ((mustP s l w p).2 = false → (mustP s l w p).1.code ≠ 0) := by
 unfold mustP
 split
 ·next h => exact ⟨peekP_lt (by rw [h]; exact hw), Nat.le_succ _, fun h => by cases h⟩
 ·exact ⟨by rw [fail_k]; exact hk, by rw [fail_k]; exact Nat.le_refl _, fun _ => fail_code _ _ (by decide)⟩
theorem fz_value (p : Ps) (hk : p.k ≤ l.length) : (valueP s l p).1.k ≤ l.length ∧ p.k ≤ (valueP s l p).1.k ∧ ((valueP s l p).2.2.2 = false → (valueP s l p).1.code ≠ 0) := by
 unfold valueP
 split
 ·exact ⟨by rw [fail_k]; exact hk, by rw [fail_k]; exact Nat.le_refl _, fun _ => fail_code _ _ (by decide)⟩
 ·next h => exact ⟨peekP_lt (stopW_ne (by simpa using h)), Nat.le_succ _, fun h => by cases h⟩
theorem fz_end : Fz l (endL s l) := fun st hk => fz_must s l (by decide) st.p hk
theorem fz_at {a : Nat} {st : St} (ha : a ≤ st.p.k) (hk : st.p.k ≤ l.length) : (endL s l st).1.p.k ≤ l.length ∧ a ≤ (endL s l st).1.p.k ∧ ((endL s l st).2 = false → (endL s l st).1.p.code ≠ 0) := by
 obtain ⟨h1, h2, h3⟩ := fz_end s l st hk
 exact ⟨h1, by omega, h3⟩
theorem fz_bad {a : Nat} {st : St} {p : Ps} (ha : a ≤ p.k) (hk : p.k ≤ l.length) (at' : Int) {c : Int} (hc : c ≠ 0) : ((setP st (failP p at' c), false) : St × Bool).1.p.k ≤ l.length ∧ a ≤ ((setP st (failP p at' c), false) : St × Bool).1.p.k ∧ (((setP st (failP p at' c), false) : St × Bool).2 = false → ((setP st (failP p at' c), false) : St × Bool).1.p.code ≠ 0) :=
 ⟨by show (failP p at' c).k ≤ _; rw [fail_k]; exact hk, by show a ≤ (failP p at' c).k; rw [fail_k]; exact ha, fun _ => fail_code p at' hc⟩
theorem fz_number {put : St → Int → St} (hp : ∀ st v, (put st v).p.k = st.p.k) (lo hi : Int) : Fz l (numberS s l put lo hi) := fun st hk => by
 have hv := fz_value s l st.p hk
 unfold numberS
 generalize valueP s l st.p = v at hv
 obtain ⟨p, w, a, is⟩ := v
 obtain ⟨h1, h2, h3⟩ := hv
 cases is with
 | false => exact ⟨h1, h2, fun _ => h3 rfl⟩
 | true =>
  unfold numberV
  simp only
  split
  ·exact fz_at s l (st := put (setP st p) _) (by rw [hp]; exact h2) (by rw [hp]; exact h1)
  ·exact fz_bad l h2 h1 a (by decide)
theorem fz_choice {put : St → Int → St} (hp : ∀ st v, (put st v).p.k = st.p.k) (L : List (Bs × Int)) : Fz l (choiceS s l put L) := fun st hk => by
 have hv := fz_value s l st.p hk
 unfold choiceS
 generalize valueP s l st.p = v at hv
 obtain ⟨p, w, a, is⟩ := v
 obtain ⟨h1, h2, h3⟩ := hv
 cases is with
 | false => exact ⟨h1, h2, fun _ => h3 rfl⟩
 | true =>
  unfold choiceV
  simp only
  split
  ·exact fz_at s l (st := put (setP st p) _) (by rw [hp]; exact h2) (by rw [hp]; exact h1)
  ·exact fz_bad l h2 h1 a (by decide)
theorem fz_card {put : St → Cd → St} (hp : ∀ st v, (put st v).p.k = st.p.k) : Fz l (cardS s l put) := fun st hk => by
 have hv := fz_value s l st.p hk
 unfold cardS
 generalize valueP s l st.p = v at hv
 obtain ⟨p, w, a, is⟩ := v
 obtain ⟨h1, h2, h3⟩ := hv
 cases is with
 | false => exact ⟨h1, h2, fun _ => h3 rfl⟩
 | true =>
  unfold cardV
  simp only
  split
  ·exact fz_at s l (st := put (setP st p) _) (by rw [hp]; exact h2) (by rw [hp]; exact h1)
  ·exact fz_bad l h2 h1 a (by decide)
theorem fz_address {svc : Bool} {tk : St → Bs → Int → St × Bool} (ht : ∀ st a at', (tk st a at').1.p.k = st.p.k ∧ ((tk st a at').2 = false → (tk st a at').1.p.code ≠ 0)) : Fz l (addressS s l svc tk) := fun st hk => by
 have hv := fz_value s l st.p hk
 unfold addressS
 generalize valueP s l st.p = v at hv
 obtain ⟨p, w, a, is⟩ := v
 obtain ⟨h1, h2, h3⟩ := hv
 cases is with
 | false => exact ⟨h1, h2, fun _ => h3 rfl⟩
 | true =>
  unfold addressV
  simp only
  split
  ·obtain ⟨t1, t2⟩ := ht (setP st { p with spots := p.spots ++ [((adrP w).1, a, svc)] }) (adrP w).1 a
   unfold thenEnd
   split
   ·exact fz_at s l (by rw [t1]; exact h2) (by rw [t1]; exact h1)
   ·next hf => exact ⟨by show (tk _ _ _).1.p.k ≤ _; rw [t1]; exact h1, by show _ ≤ (tk _ _ _).1.p.k; rw [t1]; exact h2, fun _ => t2 (by simpa using hf)⟩
  ·exact fz_bad l h2 h1 a (by decide)
theorem fz_into {put : St → Bs → St} (hp : ∀ st v, (put st v).p.k = st.p.k) : ∀ st a at', (intoS put st a at').1.p.k = st.p.k ∧ ((intoS put st a at').2 = false → (intoS put st a at').1.p.code ≠ 0) := fun st a _ => ⟨hp st a, fun h => by cases h⟩
theorem fz_vip : ∀ st a at', (vipS st a at').1.p.k = st.p.k ∧ ((vipS st a at').2 = false → (vipS st a at').1.p.code ≠ 0) := fun st a at' => by
 unfold vipS
 split
 ·exact ⟨fail_k _ _ _, fun _ => fail_code _ _ (by decide)⟩
 ·exact ⟨rfl, fun h => by cases h⟩
theorem fz_named (xs : List Bs) (p : Ps) (hk : p.k ≤ l.length) : (namedP s l xs p).1.k ≤ l.length ∧ p.k ≤ (namedP s l xs p).1.k ∧ ((namedP s l xs p).2.2 = false → (namedP s l xs p).1.code ≠ 0) := by
 have hv := fz_value s l p hk
 unfold namedP
 generalize valueP s l p = v at hv
 obtain ⟨p1, w, a, is⟩ := v
 obtain ⟨h1, h2, h3⟩ := hv
 cases is with
 | false => exact ⟨h1, h2, fun _ => h3 rfl⟩
 | true =>
  unfold namedV
  simp only
  have h1 : p1.k ≤ l.length := h1
  have h2 : p.k ≤ p1.k := h2
  split
  ·exact ⟨by rw [fail_k]; exact h1, by rw [fail_k]; exact h2, fun _ => fail_code _ _ (by decide)⟩
  ·split
   ·exact ⟨by rw [fail_k]; exact h1, by rw [fail_k]; exact h2, fun _ => fail_code _ _ (by decide)⟩
   ·exact ⟨h1, h2, fun h => by cases h⟩
theorem fz_track : Fz l (trackS s l) := fun st hk => by
 have hn := fz_named s l (st.p.trs.map (·.1)) st.p hk
 unfold trackS
 generalize namedP s l (st.p.trs.map (·.1)) st.p = v at hn
 obtain ⟨p, nm, is⟩ := v
 obtain ⟨h1, h2, h3⟩ := hn
 cases is with
 | false => exact ⟨h1, h2, fun _ => h3 rfl⟩
 | true =>
  have h1 : p.k ≤ l.length := h1
  have h2 : st.p.k ≤ p.k := h2
  have hv := fz_value s l p h1
  show (weightV s l nm st (valueP s l p)).1.p.k ≤ _ ∧ _ ≤ (weightV s l nm st (valueP s l p)).1.p.k ∧ ((weightV s l nm st (valueP s l p)).2 = false → (weightV s l nm st (valueP s l p)).1.p.code ≠ 0)
  generalize valueP s l p = v at hv
  obtain ⟨p1, w, a, is⟩ := v
  obtain ⟨q1, q2, q3⟩ := hv
  have q1 : p1.k ≤ l.length := q1
  have q2 : p.k ≤ p1.k := q2
  cases is with
  | false => exact ⟨q1, by show st.p.k ≤ p1.k; omega, fun _ => q3 rfl⟩
  | true =>
   unfold weightV
   simp only
   split
   ·exact fz_at s l (st := setP st { p1 with trs := _ }) (by show st.p.k ≤ p1.k; omega) q1
   ·exact fz_bad l (by omega) q1 a (by decide)
theorem fz_body {L : List (Bs × Key)} (h0 : lk L ⟨#[]⟩ = none) (hL : ∀ x ∈ L, Fz l x.2.sem) : ∀ (F : Nat) (M : List (Bs × Int)) (st : St), l.length < F + st.p.k → st.p.k ≤ l.length → (bodyS s l L F M st).1.p.k ≤ l.length ∧ st.p.k ≤ (bodyS s l L F M st).1.p.k ∧ ((bodyS s l L F M st).2 = false → (bodyS s l L F M st).1.p.code ≠ 0)
 | 0, _, st, hF, hk => absurd hF (by omega)
 | F + 1, M, st, hF, hk => by
  unfold bodyS closeS
  split
  ·next hs =>
   split
   ·exact fz_bad l (Nat.le_refl _) hk _ (by decide)
   ·have hlt : st.p.k < l.length := peekP_lt (by rw [hs]; decide)
    exact fz_at s l (st := setP st { st.p with k := st.p.k + 1 }) (Nat.le_succ _) hlt
  ·cases hl : lk L (peekP l st.p.k) with
   | none => exact fz_bad l (Nat.le_refl _) hk _ (by decide)
   | some key =>
    have hlt : st.p.k < l.length := peekP_lt fun e => by rw [e, h0] at hl; cases hl
    have hz : Fz l key.sem := hL _ (lk_mem hl)
    obtain ⟨h1, h2, h3⟩ := hz (setP st { st.p with k := st.p.k + 1 }) hlt
    have h2 : st.p.k + 1 ≤ (key.sem (setP st { st.p with k := st.p.k + 1 })).1.p.k := h2
    simp only
    generalize key.sem (setP st { st.p with k := st.p.k + 1 }) = r at h1 h2 h3 ⊢
    split
    ·exact fz_bad l (Nat.le_refl _) hk _ (by split <;> decide)
    ·split
     ·obtain ⟨g1, g2, g3⟩ := fz_body h0 hL F (pt M (peekP l st.p.k) (cnt M (peekP l st.p.k) + 1)) r.1 (by omega) h1
      exact ⟨g1, by omega, g3⟩
     ·next hf => exact ⟨h1, by show st.p.k ≤ r.1.p.k; omega, fun _ => h3 (by simpa using hf)⟩
theorem fz_block {L : List (Bs × Key)} (h0 : lk L ⟨#[]⟩ = none) (hL : ∀ x ∈ L, Fz l x.2.sem) : Fz l (blockS s l L) := fun st hk => by
 obtain ⟨h1, h2, h3⟩ := fz_must s l (w := ⟨#[123]⟩) (by decide) st.p hk
 obtain ⟨g1, g2, g3⟩ := fz_must s l (w := nl) (by decide) (mustP s l ⟨#[123]⟩ st.p).1 h1
 unfold blockS
 split
 ·split
  ·obtain ⟨q1, q2, q3⟩ := fz_body s l h0 hL (l.length + 1) [] (setP st (mustP s l nl (mustP s l ⟨#[123]⟩ st.p).1).1) (by show l.length < l.length + 1 + _; omega) g1
   have q2 : (mustP s l nl (mustP s l ⟨#[123]⟩ st.p).1).1.k ≤ _ := q2
   exact ⟨q1, by omega, q3⟩
  ·next hf => exact ⟨g1, by show st.p.k ≤ (mustP s l nl (mustP s l ⟨#[123]⟩ st.p).1).1.k; omega, fun _ => g3 (by simpa using hf)⟩
 ·next hf => exact ⟨h1, h2, fun _ => h3 (by simpa using hf)⟩
theorem fz_node : Fz l (nodeS s l) := fz_block s l rfl fun x hx => by
 simp only [nodeK, mkK, List.mem_cons, List.not_mem_nil, or_false] at hx
 rcases hx with rfl | rfl | rfl
 ·exact fz_card s l (put := putCard) fun _ _ => rfl
 ·exact fz_address s l (fz_into (put := putAddr) fun _ _ => rfl)
 ·exact fz_address s l (fz_into (put := putPeer) fun _ _ => rfl)
theorem fz_vrrp : Fz l (vrrpS s l) := fun st hk => fz_block s l (L := vrrpK s l) rfl (fun x hx => by
 simp only [vrrpK, mkK, List.mem_cons, List.not_mem_nil, or_false] at hx
 rcases hx with rfl | rfl | rfl | rfl | rfl | rfl
 ·exact fz_number s l (put := putId) (fun _ _ => rfl) _ _
 ·exact fz_number s l (put := putPrio) (fun _ _ => rfl) _ _
 ·exact fz_number s l (put := putEvery) (fun _ _ => rfl) _ _
 ·exact fz_choice s l (put := putYes) (fun _ _ => rfl) _
 ·exact fz_address s l fz_vip
 ·exact fz_track s l) { st with yes := 1 } hk
theorem fz_backend : Fz l (backendS s l) := fun st hk => by
 have hn := fz_named s l (st.sv.bks.map (·.name)) st.p hk
 unfold backendS
 generalize namedP s l (st.sv.bks.map (·.name)) st.p = v at hn
 obtain ⟨p, nm, is⟩ := v
 obtain ⟨h1, h2, h3⟩ := hn
 cases is with
 | false => exact ⟨h1, h2, fun _ => h3 rfl⟩
 | true =>
  have h2 : st.p.k ≤ p.k := h2
  obtain ⟨g1, g2, g3⟩ := fz_block s l (L := backendK s l) rfl (fun x hx => by
   simp only [backendK, mkK, List.mem_cons, List.not_mem_nil, or_false] at hx
   rcases hx with rfl | rfl | rfl | rfl
   ·exact fz_address s l (fz_into (put := putBAddr) fun _ _ => rfl)
   ·exact fz_card s l (put := putBCard) fun _ _ => rfl
   ·exact fz_number s l (put := putBPort) (fun _ _ => rfl) _ _
   ·exact fz_number s l (put := putBWeight) (fun _ _ => rfl) _ _) { setP st p with bk := ⟨nm, ⟨#[]⟩, cd0, 0, 1⟩ } h1
  have g2 : p.k ≤ _ := g2
  exact ⟨g1, Nat.le_trans h2 g2, g3⟩
theorem fz_service : Fz l (serviceS s l) := fun st hk => by
 have hn := fz_named s l (st.p.svs.map (·.name)) st.p hk
 unfold serviceS
 generalize namedP s l (st.p.svs.map (·.name)) st.p = v at hn
 obtain ⟨p, nm, is⟩ := v
 obtain ⟨h1, h2, h3⟩ := hn
 cases is with
 | false => exact ⟨h1, h2, fun _ => h3 rfl⟩
 | true =>
  have h2 : st.p.k ≤ p.k := h2
  obtain ⟨g1, g2, g3⟩ := fz_block s l (L := serviceK s l) rfl (fun x hx => by
   simp only [serviceK, mkK, List.mem_cons, List.not_mem_nil, or_false] at hx
   rcases hx with rfl | rfl | rfl | rfl | rfl | rfl | rfl | rfl | rfl
   ·exact fz_choice s l (put := putSProto) (fun _ _ => rfl) _
   ·exact fz_address s l (fz_into (put := putSVip) fun _ _ => rfl)
   ·exact fz_number s l (put := putSPort) (fun _ _ => rfl) _ _
   ·exact fz_choice s l (put := putSMode) (fun _ _ => rfl) _
   ·exact fz_choice s l (put := putSSched) (fun _ _ => rfl) _
   ·exact fz_number s l (put := putSRise) (fun _ _ => rfl) _ _
   ·exact fz_number s l (put := putSFall) (fun _ _ => rfl) _ _
   ·exact fz_number s l (put := putSProbe) (fun _ _ => rfl) _ _
   ·exact fz_backend s l) { setP st p with sv := newSv nm } h1
  have g2 : p.k ≤ _ := g2
  exact ⟨g1, Nat.le_trans h2 g2, g3⟩
theorem fz_allB : ∀ (F : Nat) (M : List (Bs × Int)) (st : St), l.length < F + st.p.k → st.p.k ≤ l.length → (allB s l (allK s l) F M st).2 = false → (allB s l (allK s l) F M st).1.p.code ≠ 0
 | 0, _, st, hF, hk => absurd hF (by omega)
 | F + 1, M, st, hF, hk => by
  unfold allB
  split
  ·next hlt =>
   cases hl : lk (allK s l) (peekP l st.p.k) with
   | none => exact fun _ => fail_code _ _ (by decide)
   | some key =>
    have hz : Fz l key.sem := by
     have hm := lk_mem hl
     simp only [allK, mkK, List.mem_cons, List.not_mem_nil, or_false, Prod.mk.injEq] at hm
     rcases hm with ⟨_, rfl⟩ | ⟨_, rfl⟩ | ⟨_, rfl⟩
     ·exact fz_node s l
     ·exact fz_vrrp s l
     ·exact fz_service s l
    obtain ⟨h1, h2, h3⟩ := hz (setP st { st.p with k := st.p.k + 1 }) hlt
    have h2 : st.p.k + 1 ≤ (key.sem (setP st { st.p with k := st.p.k + 1 })).1.p.k := h2
    simp only
    generalize key.sem (setP st { st.p with k := st.p.k + 1 }) = r at h1 h2 h3 ⊢
    split
    ·exact fun _ => fail_code _ _ (by split <;> decide)
    ·split
     ·exact fz_allB F _ _ (by omega) h1
     ·next hf => exact fun _ => h3 (by simpa using hf)
  ·unfold endA spotsS vipsS spotS
   split
   ·exact fun _ => fail_code _ _ (by decide)
   ·split
    ·exact fun _ => fail_code _ _ (by decide)
    ·split
     ·exact fun _ => fail_code _ _ (by decide)
     ·exact fun h => by cases h
end
theorem parse_code {s : Bs} (h : codeP (parseP s) = 0) : ∃ p, parseP s = .inl p ∧ CfgC p := by
 unfold parseP at h ⊢
 cases hw : allP s with
 | inr k => rw [hw] at h; exact absurd (show (170 : Int) = 0 from h) (by decide)
 | inl l =>
  rw [hw] at h
  simp only at h ⊢
  cases ha : (allS s l st0).2 with
  | true => exact ⟨_, by rw [if_pos rfl], cfg_good hw ha⟩
  | false =>
   rw [ha, if_neg (by decide)] at h
   exact absurd h (fz_allB s l (l.length + 1) [] st0 (by show l.length < l.length + 1 + 0; omega) (Nat.zero_le _) ha)
end Go.Ev.Tryd

/- The law ConfigTwice. -/
namespace Go.Ev.Tryd
set_option maxRecDepth 10000
open Go.Proofs
theorem cat_ok' {β : Type} {a b : ByteArray} (h : a.size + b.size ≤ 9223372036854775807) (f : ByteArray → Option β) : catK a b f = f (a ++ b) := by
 unfold catK
 rw [if_neg (by omega)]
/-- good lines are read, whatever they are -/
theorem parse_kL {ls : List (List Bs)} (g : GoodL ls) (h3 : Few ls) (hn : ls.length ≤ 1000) {n : Nat} (hN : 1200000 ≤ n) {h : H} {K : List AV → Int → Int → H → Option Unit}
  (hk : ∀ cs h', Mod [] h h' → CfgAt h' (cfgP (parseP (mk (ren ls)))) cs → (cfgP (parseP (mk (ren ls)))).k ≤ 300000 → K cs (atP (parseP (mk (ren ls)))) (codeP (parseP (mk (ren ls)))) h' = some ()) :
  cr n i_config_Parse [.str (mk (ren ls))] h (fun v h' => asTup v fun l => lA l fun x l => lI l fun y l => lI l fun z l => l0 l (K x y z h')) = some () := by
 have h1 := (good_ren g h3).1
 have : (mk (ren ls)).size = (ren ls).length := rfl
 exact parse_kW (by omega) (good_words g h3 hn) (by omega) hk
end Go.Ev.Tryd

/- The law ConfigNeeds. -/
namespace Go.Ev.Tryd
set_option maxRecDepth 10000
open Go.Proofs
theorem good_byte {w : Bs} (h : GoodW w) {c : UInt8} (hc : c ∈ bs w) : c ≠ 10 ∧ c ≠ 32 := by
 rcases h with h | rfl | rfl
 ·have := plainC_of (h.all c hc)
  exact ⟨fun e => by rw [e] at this; exact absurd this.1 (by decide), fun e => by rw [e] at this; exact absurd this.1 (by decide)⟩
 ·have : c = 123 := by simpa [kOpen, bs] using hc
  rw [this]; decide
 ·have : c = 125 := by simpa [kShut, bs] using hc
  rw [this]; decide
theorem renL_body {ws : List Bs} (hg : ∀ w ∈ ws, GoodW w) : ∃ b, renL ws = b ++ [10] ∧ (10 : UInt8) ∉ b := by
 refine ⟨bs (joinS ws sp), rfl, fun h => ?_⟩
 have h : (10 : UInt8) ∈ Lib.join (ws.map bs) [32] := h
 rcases join_mem h with h | ⟨q, hq, h⟩
 ·exact absurd h (by decide)
 ·obtain ⟨w, hw, rfl⟩ := List.mem_map.1 hq
  exact (good_byte (hg w hw) h).1 rfl
theorem line_start : ∀ {ls : List (List Bs)} {i : Nat}, GoodL ls → i < (ren ls).length → (i = 0 ∨ (ren ls)[i - 1]? = some 10) → ∃ a ws b, ls = a ++ ws :: b ∧ i = (ren a).length
 | [], i, _, h, _ => by simp [ren] at h
 | ws :: ls, i, g, h, hs => by
  by_cases h0 : i = 0
  ·exact ⟨[], ws, ls, rfl, by rw [h0]; rfl⟩
  ·have hs := hs.resolve_left h0
   obtain ⟨b, eb, hb⟩ := renL_body (g ws (by simp)).2
   rw [ren_cons] at hs h
   by_cases hlt : i < (renL ws).length
   ·rw [List.getElem?_append_left (by omega), eb, List.getElem?_append_left (by rw [eb] at hlt; simp at hlt; omega)] at hs
    exact absurd (List.mem_of_getElem? hs) hb
   ·rw [List.length_append] at h
    obtain ⟨a, w, c, e, ei⟩ := line_start (ls := ls) (i := i - (renL ws).length) (fun x hx => g x (by simp [hx])) (by omega) (by
     by_cases h1 : i - (renL ws).length = 0
     ·exact .inl h1
     ·right
      rw [List.getElem?_append_right (by omega)] at hs
      rw [← hs]; congr 1; omega)
    exact ⟨ws :: a, w, c, by rw [e]; rfl, by rw [ren_cons, List.length_append]; omega⟩
theorem key_eq : ∀ {a b r : List UInt8} {y : UInt8}, (10 : UInt8) ∉ a → (32 : UInt8) ∉ a → (32 : UInt8) ∉ b → y = 10 ∨ y = 32 → (b ++ y :: r).take (a.length + 1) = a ++ [32] → a = b
 | [], [], _, _, _, _, _, _, _ => rfl
 | [], c :: b, r, y, _, _, h3, _, e => by
  simp at e
  exact absurd (by rw [e]; simp) h3
 | c :: a, [], r, y, h1, h2, _, hy, e => by
  simp at e
  rcases hy with rfl | rfl
  ·exact absurd (by rw [e.1]; simp) h1
  ·exact absurd (by rw [e.1]; simp) h2
 | c :: a, d :: b, r, y, h1, h2, h3, hy, e => by
  simp only [List.length_cons, List.cons_append, List.take_succ_cons, List.cons.injEq] at e
  rw [e.1, key_eq (a := a) (b := b) (fun h => h1 (by simp [h])) (fun h => h2 (by simp [h])) (fun h => h3 (by simp [h])) hy e.2]
theorem renL_first {w : Bs} {ws : List Bs} : ∃ y r, renL (w :: ws) = bs w ++ y :: r ∧ (y = 10 ∨ y = 32) := by
 cases ws with
 | nil => exact ⟨10, [], renL_one w, .inl rfl⟩
 | cons v ws => exact ⟨32, _, renL_more w v ws, .inr rfl⟩
/-- a line that begins with a key is a line of it -/
theorem line_key {k w : Bs} {ws : List Bs} {r : List UInt8} (hk : GoodW k) (hw : GoodW w) (h : (renL (w :: ws) ++ r).take (k.size + 1) = bs k ++ [32]) : k = w := by
 obtain ⟨y, q, e, hy⟩ := renL_first (w := w) (ws := ws)
 rw [e, List.append_assoc, List.cons_append, ← bs_len] at h
 exact bs_inj (key_eq (fun h => (good_byte hk h).1 rfl) (fun h => (good_byte hk h).2 rfl) (fun h => (good_byte hw h).2 rfl) hy h)
theorem needK_good (k : Nat) : GoodW (needK k) := by
 rcases k with _ | _ | _ | _ | _ | k
 ·exact gk (w := kMac) (by decide)
 ·exact gk (w := kAddress) (by decide)
 ·exact gk (w := kPeer) (by decide)
 ·exact gk (w := kId) (by decide)
 ·exact gk (w := kPrio) (by decide)
 ·exact gk (w := kEvery) (by decide)
theorem needA_head (p : Ps) (k : Nat) : ∀ ws ∈ needA p k, ws.head? ≠ some (needK k) := by
 rcases k with _ | _ | _ | _ | _ | k <;>
  ·intro ws hws
   simp only [needA, List.mem_cons, List.not_mem_nil, or_false] at hws
   simp only [needK]
   rcases hws with rfl | hws
   all_goals (try (rcases hws with rfl | hws))
   all_goals (try (rcases hws with rfl | hws))
   all_goals (try (rcases hws with rfl | hws))
   all_goals (try (rcases hws with rfl | hws))
   all_goals (try (rcases hws with rfl | hws))
   all_goals (try (rcases hws with rfl | hws))
   all_goals (try subst hws)
   all_goals (simp only [List.head?_cons, ne_eq, Option.some.injEq]; decide)
theorem needA_ne (p : Ps) (k : Nat) : needA p k ≠ [] := by
 rcases k with _ | _ | _ | _ | _ | k <;> simp [needA]
theorem ren_last : ∀ {ls : List (List Bs)}, ls ≠ [] → 0 < (ren ls).length ∧ (ren ls)[(ren ls).length - 1]? = some 10
 | [], h => absurd rfl h
 | [ws], _ => by
  have e : ren [ws] = bs (joinS ws sp) ++ [10] := by simp [ren, renL]
  rw [e]
  simp
 | ws :: v :: ls, _ => by
  obtain ⟨h1, h2⟩ := ren_last (ls := v :: ls) (by simp)
  rw [ren_cons, List.length_append]
  refine ⟨by omega, ?_⟩
  rw [List.getElem?_append_right (by omega), ← h2]
  congr 1; omega
/-- a text, and a key line in it -/
structure Cut3 (T : List UInt8) (A B : List (List Bs)) (K V : Bs) : Prop where
 eq : T = ren A ++ (renL [K, V] ++ ren B)
 ga : GoodL A
 gk : GoodW K
 gv : GoodW V
 ne : A ≠ []
 no : ∀ ws ∈ A, ws.head? ≠ some K
theorem Cut3.line {T : List UInt8} {A B : List (List Bs)} {K V : Bs} (c : Cut3 T A B K V) : renL [K, V] = (bs K ++ [32]) ++ (bs V ++ [10]) := by
 rw [renL_more, renL_one]; simp
theorem Cut3.len {T : List UInt8} {A B : List (List Bs)} {K V : Bs} (c : Cut3 T A B K V) : T.length = (ren A).length + ((K.size + 1) + (V.size + 1) + (ren B).length) := by
 rw [c.eq, c.line]
 simp only [List.length_append, bs_len, List.length_singleton]
theorem Cut3.go {T : List UInt8} {A B : List (List Bs)} {K V : Bs} (c : Cut3 T A B K V) {i : Nat} (hi : i < (ren A).length) (h : (T.drop i).take (K.size + 1) = bs K ++ [32]) : 0 < i ∧ T[i - 1]? ≠ some 10 := by
 refine Decidable.byContradiction fun hn => ?_
 have hs : i = 0 ∨ (ren A)[i - 1]? = some 10 := by
  by_cases h0 : i = 0
  ·exact .inl h0
  ·right
   have : T[i - 1]? = some 10 := Decidable.byContradiction fun hh => hn ⟨by omega, hh⟩
   rwa [c.eq, List.getElem?_append_left (by omega)] at this
 obtain ⟨a, ws, b, e, ei⟩ := line_start c.ga hi hs
 have hws : ws ∈ A := by rw [e]; simp
 obtain ⟨hne, hgw⟩ := c.ga ws hws
 cases ws with
 | nil => exact hne rfl
 | cons w ws =>
  have hd : T.drop i = renL (w :: ws) ++ (ren b ++ (renL [K, V] ++ ren B)) := by
   rw [c.eq, e, ren_app, ren_cons, ei, List.append_assoc, List.drop_left, List.append_assoc]
  rw [hd] at h
  have := line_key c.gk (hgw w (by simp)) h
  exact c.no _ hws (by rw [this]; rfl)
section
variable {T t : Bs} {A B : List (List Bs)} {K V : Bs}
/-- what is left is read -/
theorem needs_end (c : Cut3 (bs T) A B K V) {n : Nat} (hN : 2000000 ≤ n) {h : H} (g : GoodL (A ++ B)) (f3 : Few (A ++ B)) (hn : (A ++ B).length ≤ 1000) {bad : Nat} (hp : parseP (mk (ren (A ++ B))) = .inr ((bad : Nat), 183)) (hb1 : (ren A).length ≤ bad) (hb2 : bad < T.size) (hT : T.size ≤ 1000000) (m : Nat)
  : RetK (fun kk => outriderlaw18_ConfigNeeds_J3 n m T ((ren A).length : Nat) (((ren A).length + (K.size + 1) + V.size : Nat) : Int) false h kk) fun r _ => r = .bool true := by
 intro kk hkk
 show outriderlaw18_ConfigNeeds_J3 n m T ((ren A).length : Nat) (((ren A).length + (K.size + 1) + V.size : Nat) : Int) false h kk = some ()
 have hl := c.len
 rw [bs_len] at hl
 rw [outriderlaw18_ConfigNeeds_J3_eq, cond_false, wrap_succ (by omega), show decide ((((ren A).length + (K.size + 1) + V.size + 1 : Nat) : Int) > (Nat.cast T.size)) = false by simp; omega, cond_false,
  bnd_upto (by omega) (by omega), bnd_from (by omega) (by omega)]
 rw [show (((ren A).length : Nat) : Int).toNat = (ren A).length from rfl, show (((ren A).length + (K.size + 1) + V.size + 1 : Nat) : Int).toNat = (ren A).length + (K.size + 1) + V.size + 1 from rfl]
 have e1 : bs (T.extract 0 (ren A).length) = ren A := by
  rw [bs_extract, c.eq, List.drop_zero, Nat.sub_zero, List.take_left]
 have e2 : bs (T.extract ((ren A).length + (K.size + 1) + V.size + 1) T.size) = ren B := by
  rw [bs_extract, c.eq, ← List.append_assoc]
  have : (ren A).length + (K.size + 1) + V.size + 1 = (ren A ++ renL [K, V]).length := by
   rw [List.length_append, c.line]
   simp only [List.length_append, bs_len, List.length_singleton]
   omega
  rw [this, List.drop_left]
  refine List.take_of_length_le ?_
  rw [← this]
  omega
 have z1 : (T.extract 0 (ren A).length).size = (ren A).length := by rw [← bs_len, e1]
 have z2 : (T.extract ((ren A).length + (K.size + 1) + V.size + 1) T.size).size = (ren B).length := by rw [← bs_len, e2]
 rw [cat_ok' (by rw [z1, z2]; omega)]
 have e3 : T.extract 0 (ren A).length ++ T.extract ((ren A).length + (K.size + 1) + V.size + 1) T.size = mk (ren (A ++ B)) := bs_inj (by rw [bs_append, e1, e2, bs_mk, ren_app])
 rw [e3, newK_eq]
 obtain ⟨zs, hz⟩ : ∃ zs : List AV, zs = [(.int .u8 0), (.int .u8 0), (.int .u8 0), (.int .u8 0), (.int .u8 0), (.int .u8 0), (.str .empty), (.str .empty), (.int .i64 0), (.int .i64 0), (.int .i64 0), (.bool false), (.slice none 0 (.known 0)), (.slice none 0 (.known 0)), (.slice none 0 (.known 0))] := ⟨_, rfl⟩
 rw [← hz]
 have hz15 : zs.length = 15 := by rw [hz]; rfl
 have a0 : At (h.new (.cells zs false)) h.next (.cells zs false) := .new _ _
 generalize h.new (.cells zs false) = h0 at a0 ⊢
 generalize h.next = i at a0 ⊢
 refine parse_kL g f3 hn (by omega) fun cs h1 m1 c1 _ => ?_
 rw [hp]
 have a1 := a0.mod0 m1
 rw [hp] at c1
 rw [wr_whole (n := 15) a1 hz15 c1.len.1 c1.len.2]
 refine alive_k (by omega) fun h2 m2 => ?_
 rw [cond_true]
 show cond ((183 : Int) == 183) (cond (decide (((bad : Nat) : Int) ≥ (((ren A).length : Nat) : Int))) (kk (.bool (decide (((bad : Nat) : Int) < (Nat.cast T.size)))) h2) _) _ = some ()
 rw [show ((183 : Int) == 183) = true from rfl, cond_true, show decide (((bad : Nat) : Int) ≥ (((ren A).length : Nat) : Int)) = true by simp; omega, cond_true, cast_lt hb2]
 exact hkk _ _ rfl
/-- the line's end -/
theorem needs_line (c : Cut3 (bs T) A B K V) {n : Nat} (hT : T.size ≤ 1000000) {h : H} {kk : KK} (hend : ∀ m, outriderlaw18_ConfigNeeds_J3 n m T ((ren A).length : Nat) (((ren A).length + (K.size + 1) + V.size : Nat) : Int) false h kk = some ()) : ∀ (d j m : Nat), j + d = (ren A).length + (K.size + 1) + V.size → (ren A).length ≤ j → d < m →
  outriderlaw18_ConfigNeeds_L2 n m T ((ren A).length : Nat) (j : Nat) h kk = some ()
 | d, j, 0, _, _, hm => absurd hm (Nat.not_lt_zero _)
 | 0, j, m + 1, e, _, _ => by
  obtain rfl : j = (ren A).length + (K.size + 1) + V.size := by omega
  have hl := c.len
  rw [bs_len] at hl
  have hb : (bs T)[(ren A).length + (K.size + 1) + V.size]? = some 10 := by
   rw [c.eq, List.getElem?_append_right (by omega), c.line, List.getElem?_append_left (by simp only [List.length_append, bs_len, List.length_singleton]; omega), ← List.append_assoc, List.getElem?_append_right (by simp only [List.length_append, bs_len, List.length_singleton]; omega)]
   simp only [List.length_append, bs_len, List.length_singleton]
   rw [show (ren A).length + (K.size + 1) + V.size - (ren A).length - (K.size + 1 + V.size) = 0 by omega]
   rfl
  rw [outriderlaw18_ConfigNeeds_L2_eq, cast_lt (by omega), cond_true, byteK_of hb]
  exact hend m
 | d + 1, j, m + 1, e, hj, hm => by
  have hl := c.len
  rw [bs_len] at hl
  obtain ⟨b, eb, hb⟩ := renL_body (ws := [K, V]) (g2 c.gk c.gv)
  have hbl : b.length = K.size + 1 + V.size := by
   have := congrArg List.length (eb.symm.trans c.line)
   simp only [List.length_append, bs_len, List.length_singleton] at this
   omega
  have hlt : j - (ren A).length < b.length := by omega
  have hx : (bs T)[j]? = some b[j - (ren A).length] := by
   rw [c.eq, List.getElem?_append_right hj, eb, List.append_assoc, List.getElem?_append_left hlt, List.getElem?_eq_getElem hlt]
  have hne : b[j - (ren A).length] ≠ 10 := fun e10 => hb (e10 ▸ List.getElem_mem hlt)
  rw [outriderlaw18_ConfigNeeds_L2_eq, cast_lt (by omega), cond_true, byteK_of hx, outriderlaw18_ConfigNeeds_J3_eq]
  have : (((b[j - (ren A).length].toNat : Nat) : Int) != 10) = true := by
   rw [bne_iff_ne]
   intro h'
   refine hne (UInt8.toNat_inj.1 ?_)
   have : b[j - (ren A).length].toNat = 10 := by omega
   rw [this]; rfl
  rw [this, cond_true, wrap_succ (by omega)]
  exact needs_line c hT hend d (j + 1) m (by omega) (by omega) (by omega)
/-- the line is found -/
theorem needs_scan (c : Cut3 (bs T) A B K V) {n : Nat} (hN : 2000000 ≤ n) (hT : T.size ≤ 1000000) {h : H} {kk : KK} {ib kn : Nat} {cs : List AV} (a : At h ib (.cells cs false)) (hk6 : kn < 6) (hkey : cs[kn]? = some (.str t)) (ht : bs t = bs K ++ [32])
  (hend : ∀ m, outriderlaw18_ConfigNeeds_J3 n m T ((ren A).length : Nat) (((ren A).length + (K.size + 1) + V.size : Nat) : Int) false h kk = some ()) : ∀ (d i m : Nat), i + d = (ren A).length → d < m →
  outriderlaw18_ConfigNeeds_L0 n m (some (ib, 0)) 6 (.known 6) (kn : Nat) T (i : Nat) h kk = some ()
 | d, i, 0, _, hm => absurd hm (Nat.not_lt_zero _)
 | d, i, m + 1, e, hm => by
  have hl := c.len
  rw [bs_len] at hl
  have htl : t.size = K.size + 1 := by rw [← bs_len, ht]; simp [bs_len]
  have hif : (0 : Int) ≤ ((kn : Nat) : Int) ∧ ((kn : Nat) : Int) < (Nat.cast 6 : Int) := ⟨by omega, by omega⟩
  have hc1 : ∀ {β : Type} (k : AV → Option β), cellK h ib (0 + ((kn : Nat) : Int).toNat) k = k (.str t) := fun k => a.cell (by rw [Nat.zero_add]; exact hkey) k
  rw [outriderlaw18_ConfigNeeds_L0_eq, if_pos hif]
  simp only [nnK_some']
  rw [hc1, asStr_str, wrap_i64 (by omega) (by omega), show decide (((i : Nat) : Int) + ((t.size : Nat) : Int) < (Nat.cast T.size)) = true by simp; omega, cond_true, if_pos hif, hc1, asStr_str, wrap_i64 (by omega) (by omega),
   bnd_both (by omega) (by omega) (by omega), if_pos hif, hc1, asStr_str]
  rw [show ((i : Nat) : Int).toNat = i from rfl, show (((i : Nat) : Int) + ((t.size : Nat) : Int)).toNat = i + t.size by omega]
  have hex : bs (T.extract i (i + t.size)) = ((bs T).drop i).take (K.size + 1) := by rw [bs_extract, htl]; congr 1; omega
  have on : outriderlaw18_ConfigNeeds_J1 n m (some (ib, 0)) 6 (.known 6) (kn : Nat) T (i : Nat) true h kk = some () ∨ d = 0 := by
   rcases d with _ | d
   ·exact .inr rfl
   ·left
    rw [outriderlaw18_ConfigNeeds_J1_eq, cond_true, wrap_succ (by omega)]
    exact needs_scan c hN hT a hk6 hkey ht hend d (i + 1) m (by omega) (by omega)
  by_cases hd : d = 0
  ·-- here it is
   subst hd
   obtain rfl : i = (ren A).length := by omega
   have heq : T.extract (ren A).length ((ren A).length + t.size) = t := bs_inj (by
    rw [hex, c.eq, List.drop_left, c.line, ht, List.append_assoc]
    rw [show K.size + 1 = (bs K ++ [32]).length by rw [List.length_append, bs_len]; rfl, List.take_left])
   rw [heq]
   obtain ⟨h0, hlast⟩ := ren_last c.ne
   have hb : (bs T)[(ren A).length - 1]? = some 10 := by rw [c.eq, List.getElem?_append_left (by omega)]; exact hlast
   rw [show (!(t.toList == t.toList)) = false by simp, cond_false, show decide ((((ren A).length : Nat) : Int) > 0) = true by simp; omega, cond_true, wrap_i64 (by omega) (by omega), show (((ren A).length : Nat) : Int) - 1 = (((ren A).length - 1 : Nat) : Int) by omega, byteK_of hb]
   rw [show (((((10 : UInt8).toNat : Nat) : Int)) != 10) = false from rfl, outriderlaw18_ConfigNeeds_J1_eq, cond_false]
   exact needs_line c hT hend (K.size + 1 + V.size) (ren A).length n (by omega) (Nat.le_refl _) (by omega)
  ·have on := on.resolve_right hd
   by_cases heq : T.extract i (i + t.size) = t
   ·rw [heq]
    obtain ⟨h0, hno⟩ := c.go (i := i) (by omega) (by rw [← hex, heq, ht])
    have hlt : i - 1 < (bs T).length := by rw [bs_len]; omega
    rw [show (!(t.toList == t.toList)) = false by simp, cond_false, show decide (((i : Nat) : Int) > 0) = true by simp; omega, cond_true, wrap_i64 (by omega) (by omega), show ((i : Nat) : Int) - 1 = ((i - 1 : Nat) : Int) by omega, byteK_of (List.getElem?_eq_getElem hlt)]
    have : ((((bs T)[i - 1].toNat : Nat) : Int) != 10) = true := by
     rw [bne_iff_ne]
     intro h'
     refine hno ?_
     rw [List.getElem?_eq_getElem hlt]
     refine congrArg some (UInt8.toNat_inj.1 ?_)
     have : (bs T)[i - 1].toNat = 10 := by omega
     rw [this]; rfl
    rw [this]
    exact on
   ·have : (!((T.extract i (i + t.size)).toList == t.toList)) = true := by
     have hne : (T.extract i (i + t.size)).toList ≠ t.toList := fun h' => heq (by
      have : (T.extract i (i + t.size)).data.toList = t.data.toList := by simpa [ByteArray.toList_eq] using h'
      exact bs_inj this)
     simpa using hne
    rw [this, cond_true]
    exact on
end
end Go.Ev.Tryd

/- The law ConfigNeeds: the whole. -/
namespace Go.Ev.Tryd
set_option maxRecDepth 10000
open Go.Proofs
def keyB : Nat → Bs
 | 0 => ⟨#[109, 97, 99, 32]⟩
 | 1 => ⟨#[97, 100, 100, 114, 101, 115, 115, 32]⟩
 | 2 => ⟨#[112, 101, 101, 114, 32]⟩
 | 3 => ⟨#[105, 100, 32]⟩
 | 4 => s_4c04dcf2
 | _ => ⟨#[101, 118, 101, 114, 121, 32]⟩
theorem keyB_eq : ∀ k, k < 6 → bs (keyB k) = bs (needK k) ++ [32]
 | 0, _ => by decide +kernel
 | 1, _ => by decide +kernel
 | 2, _ => by decide +kernel
 | 3, _ => by decide +kernel
 | 4, _ => by decide +kernel
 | 5, _ => by decide +kernel
theorem need_kn (a : Int) : ∃ kn : Nat, kn < 6 ∧ Int.tmod (IntKind.i64.wrap (Int.tmod a 6 + 6)) 6 = (kn : Nat) := by
 have h1 : -6 < Int.tmod a 6 ∧ Int.tmod a 6 < 6 := ⟨by have := Int.tmod_lt_of_pos (-a) (show (0 : Int) < 6 by decide); rw [Int.neg_tmod] at this; omega, Int.tmod_lt_of_pos a (by decide)⟩
 rw [wrap_i64 (by omega) (by omega)]
 have h2 : 0 ≤ Int.tmod (Int.tmod a 6 + 6) 6 ∧ Int.tmod (Int.tmod a 6 + 6) 6 < 6 := ⟨Int.tmod_nonneg _ (by omega), Int.tmod_lt_of_pos _ (by decide)⟩
 exact ⟨(Int.tmod (Int.tmod a 6 + 6) 6).toNat, by omega, by omega⟩
theorem need_gv {p : Ps} (c : CfgC p) (k : Nat) : GoodW (needV p k) := by
 have := c.id; have := c.prio; have := c.every
 rcases k with _ | _ | _ | _ | _ | k
 ·exact .inl (plain_cdT c.card)
 ·exact .inl (plain_pT c.addr)
 ·exact .inl (plain_pT (by rw [c.peer]; exact c.addr))
 ·exact gi (by omega) (by omega)
 ·exact gi (by omega) (by omega)
 ·exact gi (by omega) (by omega)
theorem configNeeds_ret {s : Bs} {key : Int} {n : Nat} (hN : 2100001 ≤ n) {h : H} (tb : Tb h) : RetK (fun kk => cr n i_outriderlaw18_ConfigNeeds [.str s, .int .i64 key] h kk) fun r _ => r = .bool true := by
 intro kk hkk
 obtain ⟨n, rfl⟩ : ∃ k, n = k + 1 := ⟨n - 1, by omega⟩
 show cr (n + 1) i_outriderlaw18_ConfigNeeds [.str s, .int .i64 key] h kk = some ()
 rw [outriderlaw18_ConfigNeeds_eq]
 by_cases h1 : ((s.size : Nat) : Int) > 10000
 ·rw [decide_eq_true h1, cond_true]
  exact alive_k (by omega) fun h' m' => hkk _ _ rfl
 rw [decide_eq_false h1, cond_false]
 obtain ⟨st, g, ep⟩ := cfg_st s
 refine parse_k (by omega) (by omega) fun cs h1' m1 c1 k1 => ?_
 refine box_k rfl c1 fun i h2 hi m2 a2 c2 => ?_
 by_cases hc : codeP (parseP s) = 0
 ·rw [hc, show ((0 : Int) != 0) = false from rfl, cond_false]
  obtain ⟨p, e, c⟩ := parse_code hc
  have hp : cfgP (parseP s) = p := by rw [e]; rfl
  rw [hp] at ep c1 c2 k1
  have few : Few (printL p) := by rw [← ep]; exact few_print g
  have hg := print_good c
  have hcount := print_count c
  have tb2 := (tb.mod0 m1).mod0 m2
  rw [newK_eq]
  obtain ⟨ks, hks⟩ : ∃ ks : List AV, ks = [(.str (⟨#[109, 97, 99, 32]⟩ : ByteArray)), (.str (⟨#[97, 100, 100, 114, 101, 115, 115, 32]⟩ : ByteArray)), (.str (⟨#[112, 101, 101, 114, 32]⟩ : ByteArray)), (.str (⟨#[105, 100, 32]⟩ : ByteArray)), (.str s_4c04dcf2), (.str (⟨#[101, 118, 101, 114, 121, 32]⟩ : ByteArray))] := ⟨_, rfl⟩
  rw [← hks]
  have m3 : Mod [] h2 (h2.new (.cells ks false)) := (Mod.refl _ _).new _
  have a3 : At (h2.new (.cells ks false)) h2.next (.cells ks false) := .new _ _
  generalize h2.new (.cells ks false) = h3 at m3 a3 ⊢
  generalize h2.next = ib at a3 ⊢
  refine print_k (n := n) (a2.mod0 m3) (c2.mod0 m3) (by rw [← ep] at k1 ⊢; exact psOk_of g k1) (by rw [← ep] at k1 ⊢; exact print_len g k1) (tb2.mod0 m3) (by omega) fun v4 h4 m4 => ?_
  dsimp only
  have hsz : (mk (ren (printL p))).size ≤ 190 * 460 := by
   have := (good_ren hg few).1
   have e1 : (mk (ren (printL p))).size = (ren (printL p)).length := rfl
   omega
  obtain ⟨kn, hkn, ek⟩ := need_kn key
  rw [ek]
  have c3 : Cut3 (bs (mk (ren (printL p)))) (needA p kn) (needB p kn) (needK kn) (needV p kn) := by
   refine ⟨?_, fun ws hw => hg ws (by rw [need_split p kn]; exact List.mem_append.2 (.inl hw)), needK_good kn, need_gv c kn, needA_ne p kn, needA_head p kn⟩
   rw [bs_mk]
   conv => lhs; rw [need_split p kn]
   rw [ren_app, ren_cons]
  obtain ⟨hgAB, _⟩ := need_good c kn
  have hfew : Few (needA p kn ++ needB p kn) := fun ws hw => few ws (by
   rw [need_split p kn]
   rcases List.mem_append.1 hw with h | h
   ·exact List.mem_append.2 (.inl h)
   ·exact List.mem_append.2 (.inr (List.mem_cons_of_mem _ h)))
  have hcnt : (needA p kn ++ needB p kn).length ≤ 1000 := by
   have := congrArg List.length (need_split p kn)
   simp only [List.length_append, List.length_cons] at this ⊢
   omega
  obtain ⟨bad, hpar, hb1, hb2⟩ := need_plain c kn
  have hkey : ks[kn]? = some (.str (keyB kn)) := by
   rw [hks]
   rcases kn with _ | _ | _ | _ | _ | _ | kn <;> first | rfl | omega
  refine needs_scan (t := keyB kn) c3 (by omega) (by omega) (a3.mod0 m4) hkn hkey (keyB_eq kn hkn) (fun m => needs_end c3 (by omega) hgAB hfew hcnt hpar hb1 hb2 (by omega) m kk fun r h' hr => hkk r h' hr) (ren (needA p kn)).length 0 n (by omega) ?_
  have := c3.len
  rw [bs_len] at this
  omega
 ·rw [show (codeP (parseP s) != 0) = true by simpa using hc, cond_true]
  exact alive_k (by omega) fun h' m' => hkk _ _ rfl
end Go.Ev.Tryd
