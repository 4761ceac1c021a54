/- Own texts, joined: Cf1 Cf2 Cf3 Cf4 Cf5 Cf6 Cf7 Cf8 Cf9 Cf10 Cf11 Cf12 Cf13 Cf14 Cf15 Cf16. -/
import Derived.Test.YtongjlmclckboaaDoorM5
import Derived.Test.YtongjlmclckboaaDoorM4
set_option linter.all false
/- The configuration's reader: what it owns, and how that changes. -/
namespace Go.Ev.Tryd
set_option maxRecDepth 10000
open Go.Proofs
structure Cd where
 (a b c d e f : Int)
def enCd (x : Cd) : List AV := [.int .u8 x.a, .int .u8 x.b, .int .u8 x.c, .int .u8 x.d, .int .u8 x.e, .int .u8 x.f]
def cd0 : Cd := ⟨0, 0, 0, 0, 0, 0⟩
def cdOf : List Int → Cd
 | [a, b, c, d, e, f] => ⟨a, b, c, d, e, f⟩
 | _ => cd0
structure Bk where
 (name addr : Bs) (card : Cd) (port weight : Int)
structure Sv where
 (name vip : Bs) (proto port mode sched rise fall probe : Int) (bks : List Bk)
structure Ps where
 (k : Nat) (card : Cd) (addr peer : Bs) (id prio every : Int) (pre : Bool) (vips : List Bs) (trs : List (Bs × Int)) (svs : List Sv) (spots : List (Bs × Int × Bool)) (bad code : Int)
structure St where
 (p : Ps) (yes : Int) (sv : Sv) (bk : Bk)
def encB (x : Bk) : List AV := [.str x.name, .str x.addr, .int .u8 x.card.a, .int .u8 x.card.b, .int .u8 x.card.c, .int .u8 x.card.d, .int .u8 x.card.e, .int .u8 x.card.f, .int .i64 x.port, .int .i64 x.weight]
def encS (x : Sv) (v : AV) : List AV := [.str x.name, .str x.vip, .int .i64 x.proto, .int .i64 x.port, .int .i64 x.mode, .int .i64 x.sched, .int .i64 x.rise, .int .i64 x.fall, .int .i64 x.probe, v]
abbrev SvR := Sv × Pt × Cap
def encR (x : SvR) : List AV := encS x.1 (.slice x.2.1 x.1.bks.length x.2.2)
def encSp (x : Bs × Int × Bool) : List AV := [.str x.1, .int .i64 x.2.1, .bool x.2.2]
def encT (x : Bs × Int) : List AV := [.str x.1, .int .i64 x.2]
theorem encB_len : ∀ x, (encB x).length = 10 := fun _ => rfl
theorem encR_len : ∀ x, (encR x).length = 10 := fun _ => rfl
theorem encSp_len : ∀ x, (encSp x).length = 3 := fun _ => rfl
theorem encT_len : ∀ x, (encT x).length = 2 := fun _ => rfl
/-- where the reader stands, what it reads, and the blocks of what it fills besides -/
structure En where
 (a : H) (b : Nat) (s : Bs) (l : List Wd) (yes sv bk : Option Nat)
structure Gh where
 (f : Nat → Option Nat) (c : Nat → List AV) (lp : Pt) (lc sc vc tc gc bc : Cap) (svr : List SvR)
def encP (e : En) (g : Gh) (p : Ps) : List AV :=
 [.str e.s, .slice g.lp e.l.length g.lc, .int .i64 p.k, .int .u8 p.card.a, .int .u8 p.card.b, .int .u8 p.card.c, .int .u8 p.card.d, .int .u8 p.card.e, .int .u8 p.card.f,
  .str p.addr, .str p.peer, .int .i64 p.id, .int .i64 p.prio, .int .i64 p.every, .bool p.pre,
  .slice (slP g.f 2) p.vips.length g.vc, .slice (slP g.f 3) p.trs.length g.tc, .slice (slP g.f 4) p.svs.length g.gc, .slice (slP g.f 1) p.spots.length g.sc, .int .i64 p.bad, .int .i64 p.code]
structure Okp (e : En) (st : St) : Prop where
 k : st.p.k ≤ e.l.length
 spots : st.p.spots.length ≤ st.p.k
 vips : st.p.vips.length ≤ st.p.k
 trs : st.p.trs.length ≤ st.p.k
 svs : st.p.svs.length ≤ st.p.k
 bks : st.sv.bks.length ≤ st.p.k
 len : e.l.length ≤ 400000
structure InvG (e : En) (g : Gh) (h : H) (st : St) : Prop where
 ow : Own e.a g.f g.c h
 fb : g.f 0 = some e.b
 cb : g.c 0 = encP e g st.p
 lrow : Row h 3 g.lp e.l.length g.lc (e.l.flatMap encW)
 sp : Arr g.f g.c 1 3 st.p.spots.length g.sc (st.p.spots.flatMap encSp)
 vp : Arr g.f g.c 2 1 st.p.vips.length g.vc (st.p.vips.map .str)
 tp : Arr g.f g.c 3 2 st.p.trs.length g.tc (st.p.trs.flatMap encT)
 gp : Arr g.f g.c 4 10 st.p.svs.length g.gc (g.svr.flatMap encR)
 esv : g.svr.map (·.1) = st.p.svs
 rows : ∀ x ∈ g.svr, Row h 10 x.2.1 x.1.bks.length x.2.2 (x.1.bks.flatMap encB)
 rge : ∀ x ∈ g.svr, ∀ i ∈ own x.2.1, e.a.next ≤ i
 fy : g.f 5 = e.yes
 cy : g.c 5 = [.int .i64 st.yes]
 fv : g.f 6 = e.sv
 cv : g.c 6 = encS st.sv (.slice (slP g.f 7) st.sv.bks.length g.bc)
 bp : Arr g.f g.c 7 10 st.sv.bks.length g.bc (st.sv.bks.flatMap encB)
 fk : g.f 8 = e.bk
 ck : g.c 8 = encB st.bk
 kl : ∀ i, (i ∈ own g.lp ∨ ∃ x ∈ g.svr, i ∈ own x.2.1) → ∀ j, g.f j ≠ some i
 ok : Okp e st
def Inv (e : En) (h : H) (st : St) (S : List Nat) : Prop := ∃ g, S = foot g.f ∧ InvG e g h st
section
variable {e : En} {g : Gh} {h : H} {st : St} {S : List Nat}
theorem InvG.nin (i : InvG e g h st) {x : Nat} (hx : x ∈ own g.lp ∨ ∃ y ∈ g.svr, x ∈ own y.2.1) : x ∉ foot g.f := fun hm => by
 obtain ⟨j, ej⟩ := i.ow.mem.1 hm
 exact i.kl x hx j ej
theorem InvG.cell {β : Type} (i : InvG e g h st) {o : Nat} {v : AV} (hv : (encP e g st.p)[o]? = some v) (k : AV → Option β) : cellK h e.b o k = k v := i.ow.cell i.fb (by rw [i.cb]; exact hv) k
theorem Inv.frame {h' : H} (i : Inv e h st S) (m : Mod [] h h') : Inv e h' st S := by
 obtain ⟨g, rfl, i⟩ := i
 exact ⟨g, rfl, i.ow.mod0 m, i.fb, i.cb, i.lrow.mod0 m, i.sp, i.vp, i.tp, i.gp, i.esv, fun x hx => (i.rows x hx).mod0 m, i.rge, i.fy, i.cy, i.fv, i.cv, i.bp, i.fk, i.ck, i.kl, i.ok⟩
/-- the reader's own cells are written -/
theorem Inv.wrP (i : Inv e h st S) {p' : Ps} {o n : Nat} {xs : List AV} (hn : xs.length = n) (hl : o + n ≤ 21) (hc : xs.all isCell = true) (hv : ∀ g, spl (encP e g st.p) o xs = encP e g p')
  (h1 : p'.spots = st.p.spots) (h2 : p'.vips = st.p.vips) (h3 : p'.trs = st.p.trs) (h4 : p'.svs = st.p.svs) (ok : Okp e { st with p := p' }) :
  ∃ h', (∀ (β : Type) (k : H → Option β), wrK h e.b o n xs k = k h') ∧ Fr S h S h' ∧ Inv e h' { st with p := p' } S := by
 obtain ⟨g, rfl, i⟩ := i
 obtain ⟨ow, fr⟩ := i.ow.wr i.fb (encP e g p')
 refine ⟨_, fun β k => i.ow.wrK i.fb hn (by rw [i.cb]; exact hl) hc (by rw [i.cb]; exact hv g) k, fr, { g with c := up g.c 0 (encP e g p') }, rfl, ow, i.fb, up_self g.c 0 (encP e g p'), i.lrow.mod fr.mod fun b hb => i.nin (.inl hb), ?_, ?_, ?_, ?_, ?_, fun x hx => (i.rows x hx).mod fr.mod fun b hb => i.nin (.inr ⟨x, hx, hb⟩), i.rge, i.fy, i.cy, i.fv, i.cv, i.bp.neC (by decide), i.fk, i.ck, i.kl, ok⟩
 ·rw [show ({ st with p := p' } : St).p.spots = st.p.spots from h1]; exact i.sp.neC (by decide)
 ·rw [show ({ st with p := p' } : St).p.vips = st.p.vips from h2]; exact i.vp.neC (by decide)
 ·rw [show ({ st with p := p' } : St).p.trs = st.p.trs from h3]; exact i.tp.neC (by decide)
 ·rw [show ({ st with p := p' } : St).p.svs = st.p.svs from h4]; exact i.gp.neC (by decide)
 ·exact i.esv.trans h4.symm
/-- a variable of one's own is written -/
theorem Inv.wrY (i : Inv e h st S) {b : Nat} (hb : e.yes = some b) (y : Int) :
  ∃ h', (∀ (β : Type) (k : H → Option β), wrK h b 0 1 [.int .i64 y] k = k h') ∧ Fr S h S h' ∧ Inv e h' { st with yes := y } S := by
 obtain ⟨g, rfl, i⟩ := i
 have hf := i.fy.trans hb
 obtain ⟨ow, fr⟩ := i.ow.wr hf [.int .i64 y]
 refine ⟨_, fun β k => i.ow.wrK hf rfl (by rw [i.cy]; exact Nat.le_refl 1) rfl (by rw [i.cy]; rfl) k, fr, { g with c := up g.c 5 [.int .i64 y] }, rfl, ow, i.fb, i.cb, i.lrow.mod fr.mod fun b hb => i.nin (.inl hb), i.sp.neC (by decide), i.vp.neC (by decide), i.tp.neC (by decide), i.gp.neC (by decide), i.esv, fun x hx => (i.rows x hx).mod fr.mod fun b hb => i.nin (.inr ⟨x, hx, hb⟩), i.rge, i.fy, up_self g.c 5 [.int .i64 y], i.fv, i.cv, i.bp.neC (by decide), i.fk, i.ck, i.kl, ⟨i.ok.k, i.ok.spots, i.ok.vips, i.ok.trs, i.ok.svs, i.ok.bks, i.ok.len⟩⟩
theorem Inv.wrS (i : Inv e h st S) {b : Nat} (hb : e.sv = some b) {x' : Sv} {o n : Nat} {xs : List AV} (hn : xs.length = n) (hl : o + n ≤ 10) (hc : xs.all isCell = true) (hv : ∀ v, spl (encS st.sv v) o xs = encS x' v) (h1 : x'.bks = st.sv.bks) :
  ∃ h', (∀ (β : Type) (k : H → Option β), wrK h b o n xs k = k h') ∧ Fr S h S h' ∧ Inv e h' { st with sv := x' } S := by
 obtain ⟨g, rfl, i⟩ := i
 have hf := i.fv.trans hb
 obtain ⟨ow, fr⟩ := i.ow.wr hf (encS x' (.slice (slP g.f 7) st.sv.bks.length g.bc))
 refine ⟨_, fun β k => i.ow.wrK hf hn (by rw [i.cv]; exact hl) hc (by rw [i.cv]; exact hv _) k, fr, { g with c := up g.c 6 (encS x' (.slice (slP g.f 7) st.sv.bks.length g.bc)) }, rfl, ow, i.fb, i.cb, i.lrow.mod fr.mod fun b hb => i.nin (.inl hb), i.sp.neC (by decide), i.vp.neC (by decide), i.tp.neC (by decide), i.gp.neC (by decide), i.esv, fun x hx => (i.rows x hx).mod fr.mod fun b hb => i.nin (.inr ⟨x, hx, hb⟩), i.rge, i.fy, i.cy, i.fv, ?_, ?_, i.fk, i.ck, i.kl, ⟨i.ok.k, i.ok.spots, i.ok.vips, i.ok.trs, i.ok.svs, ?_, i.ok.len⟩⟩
 ·show up g.c 6 (encS x' (.slice (slP g.f 7) st.sv.bks.length g.bc)) 6 = encS x' (.slice (slP g.f 7) x'.bks.length g.bc)
  rw [up_self, h1]
 ·rw [show ({ st with sv := x' } : St).sv.bks = st.sv.bks from h1]; exact i.bp.neC (by decide)
 ·rw [show ({ st with sv := x' } : St).sv.bks = st.sv.bks from h1]; exact i.ok.bks
theorem Inv.wrB (i : Inv e h st S) {b : Nat} (hb : e.bk = some b) {x' : Bk} {o n : Nat} {xs : List AV} (hn : xs.length = n) (hl : o + n ≤ 10) (hc : xs.all isCell = true) (hv : spl (encB st.bk) o xs = encB x') :
  ∃ h', (∀ (β : Type) (k : H → Option β), wrK h b o n xs k = k h') ∧ Fr S h S h' ∧ Inv e h' { st with bk := x' } S := by
 obtain ⟨g, rfl, i⟩ := i
 have hf := i.fk.trans hb
 obtain ⟨ow, fr⟩ := i.ow.wr hf (encB x')
 refine ⟨_, fun β k => i.ow.wrK hf hn (by rw [i.ck]; exact hl) hc (by rw [i.ck]; exact hv) k, fr, { g with c := up g.c 8 (encB x') }, rfl, ow, i.fb, i.cb, i.lrow.mod fr.mod fun b hb => i.nin (.inl hb), i.sp.neC (by decide), i.vp.neC (by decide), i.tp.neC (by decide), i.gp.neC (by decide), i.esv, fun x hx => (i.rows x hx).mod fr.mod fun b hb => i.nin (.inr ⟨x, hx, hb⟩), i.rge, i.fy, i.cy, i.fv, i.cv, i.bp.neC (by decide), i.fk, up_self g.c 8 (encB x'), i.kl, ⟨i.ok.k, i.ok.spots, i.ok.vips, i.ok.trs, i.ok.svs, i.ok.bks, i.ok.len⟩⟩
end
end Go.Ev.Tryd

/- The configuration's reader: what grows. -/
namespace Go.Ev
theorem Own.neC {a h : H} {f : Nat → Option Nat} {c : Nat → List AV} {i : Nat} (o : Own a f c h) (hi : f i = none) (v : List AV) : Own a f (up c i v) h :=
 ⟨o.le, fun j y e => by
  by_cases hj : j = i
  ·rw [hj, hi] at e; cases e
  ·rw [up_ne hj]; exact o.get j y e, o.lt, o.ge, o.inj, o.top⟩
end Go.Ev
namespace Go.Ev.Tryd
set_option maxRecDepth 10000
open Go.Proofs
section
variable {e : En} {g : Gh} {h : H} {st : St} {S : List Nat}
theorem InvG.nin' {f' : Nat → Option Nat} {y : Nat} (i : InvG e g h st) (hn : h.next ≤ y) (ho : ∀ k, f' k = some y ∨ f' k = g.f k ∨ f' k = none) : ∀ x, (x ∈ own g.lp ∨ ∃ z ∈ g.svr, x ∈ own z.2.1) → ∀ k, f' k ≠ some x := by
 intro x hx k hk
 have hl : x < h.next := by
  rcases hx with hx | ⟨z, hz, hx⟩
  ·exact i.lrow.lt x hx
  ·exact (i.rows z hz).lt x hx
 rcases ho k with e' | e' | e'
 ·rw [hk] at e'; have := Option.some.inj e'; omega
 ·rw [hk] at e'; exact i.kl x hx k e'.symm
 ·rw [hk] at e'; cases e'
theorem up_cases (f : Nat → Option Nat) (j y k : Nat) : up f j (some y) k = some y ∨ up f j (some y) k = f k ∨ up f j (some y) k = none := by
 by_cases h : k = j
 ·rw [h, up_self]; exact .inl rfl
 ·rw [up_ne h]; exact .inr (.inl rfl)
/-- what an element more brings -/
def PushP (e : En) (g : Gh) (h : H) (st : St) (j size bytes len o : Nat) (cap : Cap) (xs : List AV) (st' : St) : Prop :=
 ∃ y cap' h1 h2 S', (∀ (β : Type) (k : Option (Nat × Nat) → Nat → Cap → H → Option β), appK size bytes (slP g.f j) len cap (evSrc size (.slice (some (h.next, 0)) 1 (.known 1)) (h.new (.cells xs false))) (h.new (.cells xs false)) k = k (some (y, 0)) (len + 1) cap' h1) ∧
  Fr (foot g.f) h S' h1 ∧ (∀ (β : Type) (k : H → Option β), wrK h1 e.b o 1 [.slice (some (y, 0)) (len + 1) cap'] k = k h2) ∧ Fr (foot g.f) h S' h2 ∧ Inv e h2 st' S'
theorem InvG.pushSpot (i : InvG e g h st) (x : Bs × Int × Bool) (hk : st.p.spots.length + 1 ≤ st.p.k) : PushP e g h st 1 3 32 st.p.spots.length 18 g.sc (encSp x) { st with p := { st.p with spots := st.p.spots ++ [x] } } := by
 have hl := i.ok.k; have hl2 := i.ok.len
 obtain ⟨y, cap', h1, e1, hn, ow1, ar1, fr1, m1⟩ := i.ow.push (bytes := 32) (by decide : 1 < 12) i.sp (xs := encSp x) rfl rfl (by decide) (by omega) (by omega)
 have hf0 : up g.f 1 (some y) 0 = some e.b := (up_ne (by decide)).trans i.fb
 obtain ⟨ow2, fr2⟩ := ow1.wr hf0 (encP e { g with f := up g.f 1 (some y), sc := cap' } { st.p with spots := st.p.spots ++ [x] })
 have hc0 : up g.c 1 (st.p.spots.flatMap encSp ++ encSp x) 0 = encP e g st.p := (up_ne (by decide)).trans i.cb
 refine ⟨y, cap', h1, _, _, e1, fr1, fun β k => ow1.wrK hf0 rfl (by rw [hc0]; exact (by decide : 19 ≤ 21)) rfl ?_ k, fr1.trans fr2, ?_⟩
 ·rw [hc0]
  simp only [encP, slP_up, slP_ne (f := g.f) (i := 1) (j := 2) (v := some y) (by decide), slP_ne (f := g.f) (i := 1) (j := 3) (v := some y) (by decide), slP_ne (f := g.f) (i := 1) (j := 4) (v := some y) (by decide), List.length_append]
  rfl
 ·have fr := fr1.trans fr2
  refine ⟨{ g with f := up g.f 1 (some y), sc := cap', c := up (up g.c 1 (st.p.spots.flatMap encSp ++ encSp x)) 0 (encP e { g with f := up g.f 1 (some y), sc := cap' } { st.p with spots := st.p.spots ++ [x] }) }, rfl, ow2, hf0, by simp only [up_self]; rfl, i.lrow.mod fr.mod fun b hb => i.nin (.inl hb), ?_, (i.vp.ne (by decide)).neC (by decide), (i.tp.ne (by decide)).neC (by decide), (i.gp.ne (by decide)).neC (by decide), i.esv, fun x hx => (i.rows x hx).mod fr.mod fun b hb => i.nin (.inr ⟨x, hx, hb⟩), i.rge, i.fy, i.cy, i.fv, ?_, (i.bp.ne (by decide)).neC (by decide), i.fk, i.ck, i.nin' (f' := up g.f 1 (some y)) hn (up_cases g.f 1 y), ⟨i.ok.k, ?_, i.ok.vips, i.ok.trs, i.ok.svs, i.ok.bks, i.ok.len⟩⟩
  ·have := ar1.neC (j := 0) (v := encP e { g with f := up g.f 1 (some y), sc := cap' } { st.p with spots := st.p.spots ++ [x] }) (by decide)
   simpa using this
  ·exact i.cv
  ·simpa using hk
theorem InvG.pushVip (i : InvG e g h st) (x : Bs) (hk : st.p.vips.length + 1 ≤ st.p.k) : PushP e g h st 2 1 16 st.p.vips.length 15 g.vc [.str x] { st with p := { st.p with vips := st.p.vips ++ [x] } } := by
 have hl := i.ok.k; have hl2 := i.ok.len
 obtain ⟨y, cap', h1, e1, hn, ow1, ar1, fr1, m1⟩ := i.ow.push (bytes := 16) (by decide : 2 < 12) i.vp (xs := [.str x]) rfl rfl (by decide) (by omega) (by omega)
 have hf0 : up g.f 2 (some y) 0 = some e.b := (up_ne (by decide)).trans i.fb
 obtain ⟨ow2, fr2⟩ := ow1.wr hf0 (encP e { g with f := up g.f 2 (some y), vc := cap' } { st.p with vips := st.p.vips ++ [x] })
 have hc0 : up g.c 2 (st.p.vips.map .str ++ [.str x]) 0 = encP e g st.p := (up_ne (by decide)).trans i.cb
 refine ⟨y, cap', h1, _, _, e1, fr1, fun β k => ow1.wrK hf0 rfl (by rw [hc0]; exact (by decide : 16 ≤ 21)) rfl ?_ k, fr1.trans fr2, ?_⟩
 ·rw [hc0]
  simp only [encP, slP_up, slP_ne (f := g.f) (i := 2) (j := 1) (v := some y) (by decide), slP_ne (f := g.f) (i := 2) (j := 3) (v := some y) (by decide), slP_ne (f := g.f) (i := 2) (j := 4) (v := some y) (by decide), List.length_append]
  rfl
 ·have fr := fr1.trans fr2
  refine ⟨{ g with f := up g.f 2 (some y), vc := cap', c := up (up g.c 2 (st.p.vips.map .str ++ [.str x])) 0 (encP e { g with f := up g.f 2 (some y), vc := cap' } { st.p with vips := st.p.vips ++ [x] }) }, rfl, ow2, hf0, by simp only [up_self]; rfl, i.lrow.mod fr.mod fun b hb => i.nin (.inl hb), (i.sp.ne (by decide)).neC (by decide), ?_, (i.tp.ne (by decide)).neC (by decide), (i.gp.ne (by decide)).neC (by decide), i.esv, fun x hx => (i.rows x hx).mod fr.mod fun b hb => i.nin (.inr ⟨x, hx, hb⟩), i.rge, i.fy, i.cy, i.fv, ?_, (i.bp.ne (by decide)).neC (by decide), i.fk, i.ck, i.nin' (f' := up g.f 2 (some y)) hn (up_cases g.f 2 y), ⟨i.ok.k, i.ok.spots, ?_, i.ok.trs, i.ok.svs, i.ok.bks, i.ok.len⟩⟩
  ·have := ar1.neC (j := 0) (v := encP e { g with f := up g.f 2 (some y), vc := cap' } { st.p with vips := st.p.vips ++ [x] }) (by decide)
   simpa using this
  ·exact i.cv
  ·simpa using hk
theorem InvG.pushTr (i : InvG e g h st) (x : Bs × Int) (hk : st.p.trs.length + 1 ≤ st.p.k) : PushP e g h st 3 2 24 st.p.trs.length 16 g.tc (encT x) { st with p := { st.p with trs := st.p.trs ++ [x] } } := by
 have hl := i.ok.k; have hl2 := i.ok.len
 obtain ⟨y, cap', h1, e1, hn, ow1, ar1, fr1, m1⟩ := i.ow.push (bytes := 24) (by decide : 3 < 12) i.tp (xs := encT x) rfl rfl (by decide) (by omega) (by omega)
 have hf0 : up g.f 3 (some y) 0 = some e.b := (up_ne (by decide)).trans i.fb
 obtain ⟨ow2, fr2⟩ := ow1.wr hf0 (encP e { g with f := up g.f 3 (some y), tc := cap' } { st.p with trs := st.p.trs ++ [x] })
 have hc0 : up g.c 3 (st.p.trs.flatMap encT ++ encT x) 0 = encP e g st.p := (up_ne (by decide)).trans i.cb
 refine ⟨y, cap', h1, _, _, e1, fr1, fun β k => ow1.wrK hf0 rfl (by rw [hc0]; exact (by decide : 17 ≤ 21)) rfl ?_ k, fr1.trans fr2, ?_⟩
 ·rw [hc0]
  simp only [encP, slP_up, slP_ne (f := g.f) (i := 3) (j := 1) (v := some y) (by decide), slP_ne (f := g.f) (i := 3) (j := 2) (v := some y) (by decide), slP_ne (f := g.f) (i := 3) (j := 4) (v := some y) (by decide), List.length_append]
  rfl
 ·have fr := fr1.trans fr2
  refine ⟨{ g with f := up g.f 3 (some y), tc := cap', c := up (up g.c 3 (st.p.trs.flatMap encT ++ encT x)) 0 (encP e { g with f := up g.f 3 (some y), tc := cap' } { st.p with trs := st.p.trs ++ [x] }) }, rfl, ow2, hf0, by simp only [up_self]; rfl, i.lrow.mod fr.mod fun b hb => i.nin (.inl hb), (i.sp.ne (by decide)).neC (by decide), (i.vp.ne (by decide)).neC (by decide), ?_, (i.gp.ne (by decide)).neC (by decide), i.esv, fun x hx => (i.rows x hx).mod fr.mod fun b hb => i.nin (.inr ⟨x, hx, hb⟩), i.rge, i.fy, i.cy, i.fv, ?_, (i.bp.ne (by decide)).neC (by decide), i.fk, i.ck, i.nin' (f' := up g.f 3 (some y)) hn (up_cases g.f 3 y), ⟨i.ok.k, i.ok.spots, i.ok.vips, ?_, i.ok.svs, i.ok.bks, i.ok.len⟩⟩
  ·have := ar1.neC (j := 0) (v := encP e { g with f := up g.f 3 (some y), tc := cap' } { st.p with trs := st.p.trs ++ [x] }) (by decide)
   simpa using this
  ·exact i.cv
  ·simpa using hk
/-- one who serves joins the service -/
theorem InvG.pushBk (i : InvG e g h st) {b : Nat} (hb : e.sv = some b) (x : Bk) (hk : st.sv.bks.length + 1 ≤ st.p.k) :
  ∃ y cap' h1 h2 S', (∀ (β : Type) (k : Option (Nat × Nat) → Nat → Cap → H → Option β), appK 10 56 (slP g.f 7) st.sv.bks.length g.bc (evSrc 10 (.slice (some (h.next, 0)) 1 (.known 1)) (h.new (.cells (encB x) false))) (h.new (.cells (encB x) false)) k = k (some (y, 0)) (st.sv.bks.length + 1) cap' h1) ∧
  Fr (foot g.f) h S' h1 ∧ (∀ (β : Type) (k : H → Option β), wrK h1 b 9 1 [.slice (some (y, 0)) (st.sv.bks.length + 1) cap'] k = k h2) ∧ Fr (foot g.f) h S' h2 ∧ Inv e h2 { st with sv := { st.sv with bks := st.sv.bks ++ [x] } } S' := by
 have hl := i.ok.k; have hl2 := i.ok.len
 obtain ⟨y, cap', h1, e1, hn, ow1, ar1, fr1, m1⟩ := i.ow.push (bytes := 56) (by decide : 7 < 12) i.bp (xs := encB x) rfl rfl (by decide) (by omega) (by omega)
 have hf0 : up g.f 7 (some y) 6 = some b := (up_ne (by decide)).trans (i.fv.trans hb)
 obtain ⟨ow2, fr2⟩ := ow1.wr hf0 (encS st.sv (.slice (some (y, 0)) (st.sv.bks.length + 1) cap'))
 have hc0 : up g.c 7 (st.sv.bks.flatMap encB ++ encB x) 6 = encS st.sv (.slice (slP g.f 7) st.sv.bks.length g.bc) := (up_ne (by decide)).trans i.cv
 refine ⟨y, cap', h1, _, _, e1, fr1, fun β k => ow1.wrK hf0 rfl (by rw [hc0]; exact (by decide : 10 ≤ 10)) rfl (by rw [hc0]; rfl) k, fr1.trans fr2, ?_⟩
 have fr := fr1.trans fr2
 refine ⟨{ g with f := up g.f 7 (some y), bc := cap', c := up (up g.c 7 (st.sv.bks.flatMap encB ++ encB x)) 6 (encS st.sv (.slice (some (y, 0)) (st.sv.bks.length + 1) cap')) }, rfl, ow2, i.fb, i.cb.trans ?_, i.lrow.mod fr.mod fun b hb => i.nin (.inl hb), (i.sp.ne (by decide)).neC (by decide), (i.vp.ne (by decide)).neC (by decide), (i.tp.ne (by decide)).neC (by decide), (i.gp.ne (by decide)).neC (by decide), i.esv, fun x hx => (i.rows x hx).mod fr.mod fun b hb => i.nin (.inr ⟨x, hx, hb⟩), i.rge, i.fy, i.cy, i.fv, ?_, ?_, i.fk, i.ck, i.nin' (f' := up g.f 7 (some y)) hn (up_cases g.f 7 y), ⟨i.ok.k, i.ok.spots, i.ok.vips, i.ok.trs, i.ok.svs, ?_, i.ok.len⟩⟩
 ·rfl
 ·show up (up g.c 7 (st.sv.bks.flatMap encB ++ encB x)) 6 (encS st.sv (.slice (some (y, 0)) (st.sv.bks.length + 1) cap')) 6 = encS { st.sv with bks := st.sv.bks ++ [x] } (.slice (slP (up g.f 7 (some y)) 7) (st.sv.bks ++ [x]).length cap')
  rw [up_self, slP_up, List.length_append]
  rfl
 ·have := ar1.neC (j := 6) (v := encS st.sv (.slice (some (y, 0)) (st.sv.bks.length + 1) cap')) (by decide)
  simpa using this
 ·simpa using hk
end
end Go.Ev.Tryd

/- The configuration's reader: variables come and go. -/
namespace Go.Ev.Tryd
set_option maxRecDepth 10000
open Go.Proofs
section
variable {e : En} {h h' : H} {st : St} {S : List Nat}
theorem Inv.openY (i : Inv e h st S) (he : e.yes = none) {b : Nat} {y : Int} (hb : h.next ≤ b) (ha : At h' b (.cells [.int .i64 y] false)) (m : Mod [] h h') :
  ∃ S', Fr S h S' h' ∧ Inv { e with yes := some b } h' { st with yes := y } S' := by
 obtain ⟨g, rfl, i⟩ := i
 have hf := i.fy.trans he
 obtain ⟨ow, fr⟩ := i.ow.put (i := 5) (by decide) hb ha m.of_nil
 exact ⟨_, fr, { g with f := up g.f 5 (some b), c := up g.c 5 [.int .i64 y] }, rfl, ow, i.fb, i.cb, i.lrow.mod0 m, i.sp.ne (by decide), i.vp.ne (by decide), i.tp.ne (by decide), i.gp.ne (by decide), i.esv, fun x hx => (i.rows x hx).mod0 m, i.rge, up_self g.f 5 _, up_self g.c 5 _, i.fv, i.cv, i.bp.ne (by decide), i.fk, i.ck, i.nin' (f' := up g.f 5 (some b)) hb (up_cases g.f 5 b), ⟨i.ok.k, i.ok.spots, i.ok.vips, i.ok.trs, i.ok.svs, i.ok.bks, i.ok.len⟩⟩
theorem Inv.closeY {b : Nat} (he : e.yes = none) (i : Inv { e with yes := some b } h st S) : ∃ S', Fr S h S' h ∧ Inv e h st S' := by
 obtain ⟨g, rfl, i⟩ := i
 refine ⟨_, i.ow.dropF 5, { g with f := up g.f 5 none }, rfl, i.ow.drop 5, i.fb, i.cb, i.lrow, i.sp.neF (by decide), i.vp.neF (by decide), i.tp.neF (by decide), i.gp.neF (by decide), i.esv, i.rows, i.rge, (up_self g.f 5 none).trans he.symm, i.cy, i.fv, i.cv, i.bp.neF (by decide), i.fk, i.ck, fun x hx j => ?_, ⟨i.ok.k, i.ok.spots, i.ok.vips, i.ok.trs, i.ok.svs, i.ok.bks, i.ok.len⟩⟩
 show up g.f 5 none j ≠ some x
 by_cases hj : j = 5
 ·rw [hj, up_self]; simp
 ·rw [up_ne hj]; exact i.kl x hx j
theorem Inv.openB (i : Inv e h st S) (he : e.bk = none) {b : Nat} {y : Bk} (hb : h.next ≤ b) (ha : At h' b (.cells (encB y) false)) (m : Mod [] h h') :
  ∃ S', Fr S h S' h' ∧ Inv { e with bk := some b } h' { st with bk := y } S' := by
 obtain ⟨g, rfl, i⟩ := i
 have hf := i.fk.trans he
 obtain ⟨ow, fr⟩ := i.ow.put (i := 8) (by decide) hb ha m.of_nil
 exact ⟨_, fr, { g with f := up g.f 8 (some b), c := up g.c 8 (encB y) }, rfl, ow, i.fb, i.cb, i.lrow.mod0 m, i.sp.ne (by decide), i.vp.ne (by decide), i.tp.ne (by decide), i.gp.ne (by decide), i.esv, fun x hx => (i.rows x hx).mod0 m, i.rge, i.fy, i.cy, i.fv, i.cv, i.bp.ne (by decide), up_self g.f 8 _, up_self g.c 8 _, i.nin' (f' := up g.f 8 (some b)) hb (up_cases g.f 8 b), ⟨i.ok.k, i.ok.spots, i.ok.vips, i.ok.trs, i.ok.svs, i.ok.bks, i.ok.len⟩⟩
theorem Inv.closeB {b : Nat} (he : e.bk = none) (i : Inv { e with bk := some b } h st S) : ∃ S', Fr S h S' h ∧ Inv e h st S' := by
 obtain ⟨g, rfl, i⟩ := i
 refine ⟨_, i.ow.dropF 8, { g with f := up g.f 8 none }, rfl, i.ow.drop 8, i.fb, i.cb, i.lrow, i.sp.neF (by decide), i.vp.neF (by decide), i.tp.neF (by decide), i.gp.neF (by decide), i.esv, i.rows, i.rge, i.fy, i.cy, i.fv, i.cv, i.bp.neF (by decide), (up_self g.f 8 none).trans he.symm, i.ck, fun x hx j => ?_, ⟨i.ok.k, i.ok.spots, i.ok.vips, i.ok.trs, i.ok.svs, i.ok.bks, i.ok.len⟩⟩
 show up g.f 8 none j ≠ some x
 by_cases hj : j = 8
 ·rw [hj, up_self]; simp
 ·rw [up_ne hj]; exact i.kl x hx j
theorem Inv.openS (i : Inv e h st S) (he : e.sv = none) {b : Nat} {y : Sv} (hy : y.bks = []) (hb : h.next ≤ b) (ha : At h' b (.cells (encS y (.slice none 0 (.known 0))) false)) (m : Mod [] h h') :
  ∃ S', Fr S h S' h' ∧ Inv { e with sv := some b } h' { st with sv := y } S' := by
 obtain ⟨g, rfl, i⟩ := i
 have hf := i.fv.trans he
 obtain ⟨ow, fr⟩ := (i.ow.drop 7).put (i := 6) (by decide) hb ha m.of_nil
 have hf7 : up (up g.f 7 none) 6 (some b) 7 = none := by rw [up_ne (by decide), up_self]
 refine ⟨_, (i.ow.dropF 7).trans fr, { g with f := up (up g.f 7 none) 6 (some b), c := up g.c 6 (encS y (.slice none 0 (.known 0))), bc := .known 0 }, rfl, ow, i.fb, i.cb, i.lrow.mod0 m, (i.sp.neF (by decide)).ne (by decide), (i.vp.neF (by decide)).ne (by decide), (i.tp.neF (by decide)).ne (by decide), (i.gp.neF (by decide)).ne (by decide), i.esv, fun x hx => (i.rows x hx).mod0 m, i.rge, i.fy, i.cy, up_self (up g.f 7 none) 6 (some b), ?_, ?_, i.fk, i.ck, i.nin' (f' := up (up g.f 7 none) 6 (some b)) hb fun k => ?_, ⟨i.ok.k, i.ok.spots, i.ok.vips, i.ok.trs, i.ok.svs, ?_, i.ok.len⟩⟩
 ·show up g.c 6 (encS y (.slice none 0 (.known 0))) 6 = encS y (.slice (slP (up (up g.f 7 none) 6 (some b)) 7) y.bks.length (.known 0))
  rw [up_self, hy]
  unfold slP
  rw [hf7]; rfl
 ·show Arr _ _ 7 10 y.bks.length _ (y.bks.flatMap encB)
  rw [hy]
  exact .nil hf7
 ·rcases up_cases (up g.f 7 none) 6 b k with e' | e' | e'
  ·exact .inl e'
  ·by_cases hk : k = 7
   ·rw [hk]; exact .inr (.inr hf7)
   ·rw [up_ne hk] at e'; exact .inr (.inl e')
  ·exact .inr (.inr e')
 ·show y.bks.length ≤ _
  rw [hy]; exact Nat.zero_le _
def sv0 : Sv := ⟨⟨#[]⟩, ⟨#[]⟩, 0, 0, 0, 0, 0, 0, 0, []⟩
/-- a service joins the services, and is no variable any more -/
theorem InvG.pushSv {g : Gh} {b : Nat} (he : e.sv = none) (i : InvG { e with sv := some b } g h st) (hk : st.p.svs.length + 1 ≤ st.p.k) :
    ∃ y cap' h1 h2 S', (∀ (β : Type) (k : Option (Nat × Nat) → Nat → Cap → H → Option β), appK 10 112 (slP g.f 4) st.p.svs.length g.gc (evSrc 10 (.slice (some (h.next, 0)) 1 (.known 1)) (h.new (.cells (encS st.sv (.slice (slP g.f 7) st.sv.bks.length g.bc)) false))) (h.new (.cells (encS st.sv (.slice (slP g.f 7) st.sv.bks.length g.bc)) false)) k = k (some (y, 0)) (st.p.svs.length + 1) cap' h1) ∧
    Mod (own (slP g.f 4)) h h1 ∧ (∀ (β : Type) (k : H → Option β), wrK h1 e.b 17 1 [.slice (some (y, 0)) (st.p.svs.length + 1) cap'] k = k h2) ∧ Fr (foot g.f) h S' h2 ∧ Inv e h2 { st with p := { st.p with svs := st.p.svs ++ [st.sv] }, sv := sv0 } S' := by
  have hl : st.p.k ≤ e.l.length := i.ok.k
  have hl2 : e.l.length ≤ 400000 := i.ok.len
  obtain ⟨y, cap', h1, e1, hn, ow1, ar1, fr1, m1⟩ := i.ow.push (bytes := 112) (by decide : 4 < 12) i.gp (xs := encS st.sv (.slice (slP g.f 7) st.sv.bks.length g.bc)) rfl rfl (by decide) (by omega) (by omega)
  have hf0 : up g.f 4 (some y) 0 = some e.b := (up_ne (by decide)).trans i.fb
  have hc0 : up g.c 4 (g.svr.flatMap encR ++ encS st.sv (.slice (slP g.f 7) st.sv.bks.length g.bc)) 0 = encP e g st.p := (up_ne (by decide)).trans i.cb
  obtain ⟨v, hv⟩ : ∃ v, v = encP e { g with f := up g.f 4 (some y), gc := cap' } { st.p with svs := st.p.svs ++ [st.sv] } := ⟨_, rfl⟩
  obtain ⟨ow2, fr2⟩ := ow1.wr hf0 v
  have fr := fr1.trans fr2
  have hr : Row h 10 (slP g.f 7) st.sv.bks.length g.bc (st.sv.bks.flatMap encB) := (i.bp.grow i.ow).row
  have hr7 : ∀ x, x ∈ own (slP g.f 7) → g.f 7 = some x := by
    intro x hx
    cases h7 : g.f 7 with
    | none => rw [slP, h7] at hx; simp at hx
    | some z => rw [slP, h7] at hx; obtain rfl : x = z := by simpa using hx
                rfl
  refine ⟨y, cap', h1, _, _, e1, m1, fun β k => ow1.wrK hf0 rfl (by rw [hc0]; exact (by decide : 18 ≤ 21)) rfl ?_ k, (fr.trans (ow2.dropF 6)).trans ((ow2.drop 6).dropF 7), ?_⟩
  · rw [hc0, hv]
    simp only [encP, slP_up, slP_ne (f := g.f) (i := 4) (j := 1) (v := some y) (by decide), slP_ne (f := g.f) (i := 4) (j := 2) (v := some y) (by decide), slP_ne (f := g.f) (i := 4) (j := 3) (v := some y) (by decide), List.length_append]
    rfl
  · have hff : up (up (up g.f 4 (some y)) 6 none) 7 none 6 = none := by rw [up_ne (by decide), up_self]
    have ow3 := ((ow2.drop 6).drop 7).neC hff (encS sv0 (.slice none 0 (.known 0)))
    refine ⟨{ g with f := up (up (up g.f 4 (some y)) 6 none) 7 none, c := up (up (up g.c 4 (g.svr.flatMap encR ++ encS st.sv (.slice (slP g.f 7) st.sv.bks.length g.bc))) 0 v) 6 (encS sv0 (.slice none 0 (.known 0))), gc := cap', bc := .known 0, svr := g.svr ++ [(st.sv, slP g.f 7, g.bc)] }, rfl, ow3, ?_, ?_, i.lrow.mod fr.mod fun b hb => i.nin (.inl hb),
      ((((i.sp.ne (by decide)).neC (by decide)).neF (by decide)).neF (by decide)).neC (by decide), ((((i.vp.ne (by decide)).neC (by decide)).neF (by decide)).neF (by decide)).neC (by decide), ((((i.tp.ne (by decide)).neC (by decide)).neF (by decide)).neF (by decide)).neC (by decide), ?_, ?_, ?_, ?_, i.fy, i.cy, ?_, ?_, ?_, i.fk, i.ck, ?_, ⟨i.ok.k, i.ok.spots, i.ok.vips, i.ok.trs, ?_, Nat.zero_le _, i.ok.len⟩⟩
    · exact i.fb
    · exact hv
    · have := ((((ar1.neC (j := 0) (v := v) (by decide)).neF (j := 6) (w := none) (by decide)).neF (j := 7) (w := none) (by decide)).neC (j := 6) (v := encS sv0 (.slice none 0 (.known 0))) (by decide))
      simpa [encR] using this
    · show (g.svr ++ [(st.sv, slP g.f 7, g.bc)]).map (·.1) = st.p.svs ++ [st.sv]
      rw [List.map_append, i.esv]; rfl
    · intro x hx
      rcases List.mem_append.1 hx with hx | hx
      · exact (i.rows x hx).mod fr.mod fun b hb => i.nin (.inr ⟨x, hx, hb⟩)
      · obtain rfl := List.mem_singleton.1 hx
        refine (hr.mod m1 fun b hb hb4 => ?_).mod (S := [e.b]) ((Mod.refl _ _).set (.inr (by simp)) _) fun b hb he' => ?_
        · have h7 := hr7 b hb
          cases h4 : g.f 4 with
          | none => rw [slP, h4] at hb4; simp at hb4
          | some z => rw [slP, h4] at hb4; obtain rfl : b = z := by simpa using hb4
                      exact absurd (i.ow.inj _ _ _ h7 h4) (by decide)
        · have h7 := hr7 b hb
          obtain rfl : b = e.b := by simpa using he'
          exact absurd (i.ow.inj _ _ _ h7 i.fb) (by decide)
    · intro x hx
      rcases List.mem_append.1 hx with hx | hx
      · exact i.rge x hx
      · obtain rfl := List.mem_singleton.1 hx
        intro z hz
        exact i.ow.ge 7 z (hr7 z hz)
    · exact (show up (up (up g.f 4 (some y)) 6 none) 7 none 6 = none from hff).trans he.symm
    · show up (up (up g.c 4 (g.svr.flatMap encR ++ encS st.sv (.slice (slP g.f 7) st.sv.bks.length g.bc))) 0 v) 6 (encS sv0 (.slice none 0 (.known 0))) 6 = encS sv0 (.slice (slP (up (up (up g.f 4 (some y)) 6 none) 7 none) 7) 0 (.known 0))
      rw [up_self]
      unfold slP
      rw [up_self]; rfl
    · exact .nil (up_self (up (up g.f 4 (some y)) 6 none) 7 none)
    · intro x hx j
      show up (up (up g.f 4 (some y)) 6 none) 7 none j ≠ some x
      have hx' : x < h.next ∧ ((∀ k, g.f k ≠ some x) ∨ g.f 7 = some x) := by
        rcases hx with hx | ⟨z, hz, hx⟩
        · exact ⟨i.lrow.lt x hx, .inl (i.kl x (.inl hx))⟩
        · rcases List.mem_append.1 hz with hz | hz
          · exact ⟨(i.rows z hz).lt x hx, .inl (i.kl x (.inr ⟨z, hz, hx⟩))⟩
          · obtain rfl := List.mem_singleton.1 hz
            exact ⟨hr.lt x hx, .inr (hr7 x hx)⟩
      by_cases h7 : j = 7
      · rw [h7, up_self]; simp
      · rw [up_ne h7]
        by_cases h6 : j = 6
        · rw [h6, up_self]; simp
        · rw [up_ne h6]
          by_cases h4 : j = 4
          · rw [h4, up_self]; intro e'; have := Option.some.inj e'; omega
          · rw [up_ne h4]
            rcases hx'.2 with hx2 | hx2
            · exact hx2 j
            · intro e'; exact h7 (i.ow.inj _ _ _ e' hx2)
    · simpa using hk
end
end Go.Ev.Tryd

/- The configuration's reader: its small steps. -/
namespace Go.Ev.Tryd
set_option maxRecDepth 10000
open Go.Proofs
def peekP (l : List Wd) (k : Nat) : Bs := match l[k]? with | some w => w.1 | none => ⟨#[]⟩
def placeP (s : Bs) (l : List Wd) (k : Nat) : Int := match l[k]? with | some w => w.2.1 | none => s.size
def failP (p : Ps) (at' c : Int) : Ps := if p.code = 0 then { p with bad := at', code := c } else p
def mustP (s : Bs) (l : List Wd) (w : Bs) (p : Ps) : Ps × Bool := if peekP l p.k = w then ({ p with k := p.k + 1 }, true) else (failP p (placeP s l p.k) 180, false)
def stopW (w : Bs) : Bool := decide (w = ⟨#[]⟩) || decide (w = ⟨#[10]⟩) || decide (w = ⟨#[123]⟩) || decide (w = ⟨#[125]⟩)
def valueP (s : Bs) (l : List Wd) (p : Ps) : Ps × Bs × Int × Bool := if stopW (peekP l p.k) = true then (failP p (placeP s l p.k) 180, ⟨#[]⟩, placeP s l p.k, false) else ({ p with k := p.k + 1 }, peekP l p.k, placeP s l p.k, true)
theorem peekP_lt {l : List Wd} {k : Nat} (h : peekP l k ≠ ⟨#[]⟩) : k < l.length := by
 unfold peekP at h
 split at h
 ·next w hw => exact (List.getElem?_eq_some_iff.1 hw).1
 ·exact absurd rfl h
theorem stopW_ne {w : Bs} (h : stopW w = false) : w ≠ ⟨#[]⟩ := by
 rintro rfl; simp [stopW] at h
theorem failP_k (p : Ps) (a c : Int) : (failP p a c).k = p.k ∧ (failP p a c).spots = p.spots ∧ (failP p a c).vips = p.vips ∧ (failP p a c).trs = p.trs ∧ (failP p a c).svs = p.svs := by
 unfold failP; split <;> exact ⟨rfl, rfl, rfl, rfl, rfl⟩
section
variable {e : En} {h : H} {st : St} {S : List Nat}
theorem Inv.okp (i : Inv e h st S) : Okp e st := by obtain ⟨_, _, i⟩ := i; exact i.ok
theorem Okp.fail (o : Okp e st) (a c : Int) : Okp e { st with p := failP st.p a c } := by
 obtain ⟨h1, h2, h3, h4, h5⟩ := failP_k st.p a c
 exact ⟨h1 ▸ o.k, by rw [h1, h2]; exact o.spots, by rw [h1, h3]; exact o.vips, by rw [h1, h4]; exact o.trs, by rw [h1, h5]; exact o.svs, by rw [h1]; exact o.bks, o.len⟩
theorem Okp.step (o : Okp e st) (hk : st.p.k < e.l.length) : Okp e { st with p := { st.p with k := st.p.k + 1 } } :=
 ⟨hk, Nat.le_succ_of_le o.spots, Nat.le_succ_of_le o.vips, Nat.le_succ_of_le o.trs, Nat.le_succ_of_le o.svs, Nat.le_succ_of_le o.bks, o.len⟩
theorem peek_eq (i : Inv e h st S) (n : Nat) : ca (n + 1) i_config_parser_peek [.ptr (some (e.b, 0))] h = some (.str (peekP e.l st.p.k), h) := by
 obtain ⟨g, rfl, i⟩ := i
 rw [config_parser_peek_eq]
 simp only [nnK_some', Nat.zero_add]
 rw [i.cell (o := 2) rfl, asInt_int, i.cell (o := 1) rfl, asSlice_slice]
 unfold peekP
 cases hw : e.l[st.p.k]? with
 | none =>
  have : e.l.length ≤ st.p.k := List.getElem?_eq_none_iff.1 hw
  rw [show decide ((st.p.k : Int) ≥ (Nat.cast e.l.length)) = true by simp; omega, cond_true]
 | some w =>
  have : st.p.k < e.l.length := (List.getElem?_eq_some_iff.1 hw).1
  rw [show decide ((st.p.k : Int) ≥ (Nat.cast e.l.length)) = false by simp; omega, cond_false, i.cell (o := 1) rfl, asSlice_slice, i.cell (o := 2) rfl, asInt_int, i.lrow.ix20 encW_len hw (v := .str w.1) rfl, asStr_str]
theorem place_eq (i : Inv e h st S) (n : Nat) : ca (n + 1) i_config_parser_place [.ptr (some (e.b, 0))] h = some (.int .i64 (placeP e.s e.l st.p.k), h) := by
 obtain ⟨g, rfl, i⟩ := i
 rw [config_parser_place_eq]
 simp only [nnK_some', Nat.zero_add]
 rw [i.cell (o := 2) rfl, asInt_int, i.cell (o := 1) rfl, asSlice_slice]
 unfold placeP
 cases hw : e.l[st.p.k]? with
 | none =>
  have : e.l.length ≤ st.p.k := List.getElem?_eq_none_iff.1 hw
  rw [show decide ((st.p.k : Int) ≥ (Nat.cast e.l.length)) = true by simp; omega, cond_true, i.cell (o := 0) rfl, asStr_str]
 | some w =>
  have : st.p.k < e.l.length := (List.getElem?_eq_some_iff.1 hw).1
  rw [show decide ((st.p.k : Int) ≥ (Nat.cast e.l.length)) = false by simp; omega, cond_false, i.cell (o := 1) rfl, asSlice_slice, i.cell (o := 2) rfl, asInt_int, i.lrow.ix2 encW_len hw 1 (v := .int .i64 w.2.1) rfl, asInt_int]
theorem fail_ret (i : Inv e h st S) (n : Nat) (a c : Int) : Ret (ca (n + 1) i_config_parser_fail [.ptr (some (e.b, 0)), .int .i64 a, .int .i64 c] h) fun r h' => r = .bool false ∧ Fr S h S h' ∧ Inv e h' { st with p := failP st.p a c } S := by
 have ok := i.okp.fail a c
 have i0 := i
 obtain ⟨g, rfl, i⟩ := i
 rw [config_parser_fail_eq]
 simp only [nnK_some', Nat.zero_add]
 rw [i.cell (o := 20) rfl, asInt_int]
 unfold failP at ok ⊢
 by_cases hc : st.p.code = 0
 ·rw [if_pos hc] at ok ⊢
  rw [hc, show ((0 : Int) == 0) = true from rfl, cond_true]
  obtain ⟨h1, e1, f1, i1⟩ := i0.wrP (p' := { st.p with bad := a }) (o := 19) (n := 1) (xs := [.int .i64 a]) rfl (by decide) rfl (fun _ => rfl) rfl rfl rfl rfl ⟨ok.k, ok.spots, ok.vips, ok.trs, ok.svs, ok.bks, ok.len⟩
  obtain ⟨h2, e2, f2, i2⟩ := i1.wrP (p' := { st.p with bad := a, code := c }) (o := 20) (n := 1) (xs := [.int .i64 c]) rfl (by decide) rfl (fun _ => rfl) rfl rfl rfl rfl ok
  rw [e1, e2]
  exact .pure ⟨rfl, f1.trans f2, i2⟩
 ·rw [if_neg hc] at ok ⊢
  rw [show (st.p.code == 0) = false by simpa using hc, cond_false]
  exact .pure ⟨rfl, .refl _ _, i0⟩
/-- a word is taken -/
theorem Inv.step (i : Inv e h st S) (hk : st.p.k < e.l.length) : ∃ h', (∀ (β : Type) (k : H → Option β), (cellK h e.b 2 fun v => asInt .i64 v fun x => wrK h e.b 2 1 [.int .i64 (IntKind.i64.wrap (x + 1))] k) = k h') ∧ Fr S h S h' ∧ Inv e h' { st with p := { st.p with k := st.p.k + 1 } } S := by
 have ok := i.okp
 have i0 := i
 obtain ⟨g, rfl, i⟩ := i
 obtain ⟨h1, e1, f1, i1⟩ := i0.wrP (p' := { st.p with k := st.p.k + 1 }) (o := 2) (n := 1) (xs := [.int .i64 ((st.p.k + 1 : Nat) : Int)]) rfl (by decide) rfl (fun _ => rfl) rfl rfl rfl rfl (ok.step hk)
 refine ⟨h1, fun β k => ?_, f1, i1⟩
 rw [i.cell (o := 2) rfl, asInt_int, wrap_succ (by have := ok.len; omega), e1]
theorem must_ret (i : Inv e h st S) (n : Nat) {w : Bs} (hw : w ≠ ⟨#[]⟩) : Ret (ca (n + 2) i_config_parser_must [.ptr (some (e.b, 0)), .str w] h) fun r h' => r = .bool (mustP e.s e.l w st.p).2 ∧ Fr S h S h' ∧ Inv e h' { st with p := (mustP e.s e.l w st.p).1 } S := by
 rw [config_parser_must_eq, peek_eq i, Option.bind_some, asStr_str, str_eq]
 unfold mustP
 by_cases hp : peekP e.l st.p.k = w
 ·rw [decide_eq_true hp, Bool.not_true, cond_false, if_pos hp]
  simp only [nnK_some', Nat.zero_add]
  obtain ⟨h1, e1, f1, i1⟩ := i.step (peekP_lt (by rw [hp]; exact hw))
  rw [e1]
  exact .pure ⟨rfl, f1, i1⟩
 ·rw [decide_eq_false hp, Bool.not_false, cond_true, if_neg hp, place_eq i, Option.bind_some, asInt_int]
  refine (fail_ret i n _ _).bind ?_
  rintro _ h1 ⟨rfl, f1, i1⟩
  simp only [asBool_bool]
  exact .pure ⟨rfl, f1, i1⟩
theorem value_ret (i : Inv e h st S) (n : Nat) : Ret (ca (n + 2) i_config_parser_value [.ptr (some (e.b, 0))] h) fun r h' => r = .tup [.str (valueP e.s e.l st.p).2.1, .int .i64 (valueP e.s e.l st.p).2.2.1, .bool (valueP e.s e.l st.p).2.2.2] ∧ Fr S h S h' ∧ Inv e h' { st with p := (valueP e.s e.l st.p).1 } S := by
 rw [config_parser_value_eq, peek_eq i, Option.bind_some, asStr_str, place_eq i, Option.bind_some, asInt_int]
 have key : ∀ b : Bool, b = stopW (peekP e.l st.p.k) → Ret (config_parser_value_J0 (n + 1) (some (e.b, 0)) (peekP e.l st.p.k) (placeP e.s e.l st.p.k) b h) fun r h' => r = .tup [.str (valueP e.s e.l st.p).2.1, .int .i64 (valueP e.s e.l st.p).2.2.1, .bool (valueP e.s e.l st.p).2.2.2] ∧ Fr S h S h' ∧ Inv e h' { st with p := (valueP e.s e.l st.p).1 } S := by
  rintro _ rfl
  rw [config_parser_value_J0_eq]
  unfold valueP
  cases hs : stopW (peekP e.l st.p.k) with
  | true =>
   rw [cond_true, if_pos rfl]
   refine (fail_ret i n _ _).bind ?_
   rintro _ h1 ⟨rfl, f1, i1⟩
   simp only [asBool_bool]
   exact .pure ⟨rfl, f1, i1⟩
  | false =>
   rw [cond_false, if_neg (by decide)]
   simp only [nnK_some', Nat.zero_add]
   obtain ⟨h1, e1, f1, i1⟩ := i.step (peekP_lt (stopW_ne hs))
   rw [e1]
   exact .pure ⟨rfl, f1, i1⟩
 simp only [str_eq]
 unfold stopW at key
 by_cases h1 : peekP e.l st.p.k = ⟨#[]⟩
 ·rw [decide_eq_true h1, cond_true]
  exact key _ (by rw [decide_eq_true h1]; rfl)
 rw [decide_eq_false h1, cond_false]
 by_cases h2 : peekP e.l st.p.k = ⟨#[10]⟩
 ·rw [decide_eq_true h2, cond_true]
  exact key _ (by rw [decide_eq_true h2]; simp)
 rw [decide_eq_false h2, cond_false]
 by_cases h3 : peekP e.l st.p.k = ⟨#[123]⟩
 ·rw [decide_eq_true h3, cond_true]
  exact key _ (by rw [decide_eq_true h3]; simp)
 rw [decide_eq_false h3, cond_false]
 exact key _ (by rw [decide_eq_false h1, decide_eq_false h2, decide_eq_false h3]; simp)
end
end Go.Ev.Tryd

/- The configuration's reader: what is in a list; what stands behind a dash. -/
namespace Go.Ev.Tryd
set_option maxRecDepth 10000
open Go.Proofs
def memB (w : Bs) (xs : List Bs) : Bool := xs.any fun t => decide (w = t)
theorem memB_iff {w : Bs} {xs : List Bs} : memB w xs = true ↔ w ∈ xs := by simp [memB]
theorem memB_not {w : Bs} {xs : List Bs} (h : w ∉ xs) : memB w xs = false := by
 cases hm : memB w xs with
 | false => rfl
 | true => exact absurd (memB_iff.1 hm) h
theorem addrs_loop {h : H} {p : Pt} {c : Cap} {xs : List Bs} (r : Row h 1 p xs.length c (xs.map .str)) (hx : xs.length ≤ 400000) (w : Bs) (n : Nat) : ∀ (rest pre : List Bs) (m : Nat), xs = pre ++ rest → w ∉ pre → rest.length < m →
  ∃ q : Int, api_Addr_2_L0 n m p xs.length c w (Nat.cast xs.length) (pre.length : Nat) h = some (.int .i64 q, h) ∧ decide (q ≥ 0) = memB w xs
 | [], pre, m + 1, e, hw, _ => by
  rw [api_Addr_2_L0_eq, cast_not_lt (by rw [e]; simp), cond_false]
  exact ⟨-1, rfl, by rw [e, List.append_nil, memB_not hw]; rfl⟩
 | t :: ts, pre, m + 1, e, hw, hm => by
  have hget : xs[pre.length]? = some t := by rw [e]; simp
  have hlt : pre.length < xs.length := (List.getElem?_eq_some_iff.1 hget).1
  rw [api_Addr_2_L0_eq, cast_lt hlt, cond_true, r.ix1 hget, asStr_str, str_eq]
  by_cases ht : w = t
  ·rw [decide_eq_true ht, cond_true]
   exact ⟨_, rfl, by rw [decide_eq_true (show ((pre.length : Nat) : Int) ≥ 0 by omega), memB_iff.2 (by rw [e, ht]; simp)]⟩
  ·rw [decide_eq_false ht, cond_false, wrap_succ (by omega)]
   have := addrs_loop r hx w n ts (pre ++ [t]) m (by rw [e]; simp) (by simp [hw, ht]) (by simp at hm; omega)
   simpa using this
theorem addrs_eq {h : H} {p : Pt} {c : Cap} {xs : List Bs} (r : Row h 1 p xs.length c (xs.map .str)) (hx : xs.length ≤ 400000) (w : Bs) {n : Nat} (hn : xs.length + 4 ≤ n) : ca n i_api_Addr [.slice p xs.length c, .str w] h = some (.bool (memB w xs), h) := by
 obtain ⟨n, rfl⟩ : ∃ m, n = m + 2 := ⟨n - 2, by omega⟩
 obtain ⟨q, e1, e2⟩ := addrs_loop r hx w n xs [] n rfl (by simp) (by omega)
 rw [api_Addr_eq, api_Addr_2_eq]
 rw [show api_Addr_2_L0 n n p xs.length c w (Nat.cast xs.length) 0 h = some (.int .i64 q, h) from e1, Option.bind_some, asInt_int, e2]
theorem names_loop {h : H} {p : Pt} {c : Cap} {xs : List Bs} (r : Row h 1 p xs.length c (xs.map .str)) (hx : xs.length ≤ 400000) (w : Bs) (n : Nat) : ∀ (rest pre : List Bs) (m : Nat), xs = pre ++ rest → w ∉ pre → rest.length < m →
  ∃ q : Int, slices_Index_string_string_L0 n m p xs.length c w (Nat.cast xs.length) (pre.length : Nat) h = some (.int .i64 q, h) ∧ decide (q ≥ 0) = memB w xs
 | [], pre, m + 1, e, hw, _ => by
  rw [slices_Index_string_string_L0_eq, cast_not_lt (by rw [e]; simp), cond_false]
  exact ⟨-1, rfl, by rw [e, List.append_nil, memB_not hw]; rfl⟩
 | t :: ts, pre, m + 1, e, hw, hm => by
  have hget : xs[pre.length]? = some t := by rw [e]; simp
  have hlt : pre.length < xs.length := (List.getElem?_eq_some_iff.1 hget).1
  rw [slices_Index_string_string_L0_eq, cast_lt hlt, cond_true, r.ix1 hget, asStr_str, str_eq]
  by_cases ht : w = t
  ·rw [decide_eq_true ht, cond_true]
   exact ⟨_, rfl, by rw [decide_eq_true (show ((pre.length : Nat) : Int) ≥ 0 by omega), memB_iff.2 (by rw [e, ht]; simp)]⟩
  ·rw [decide_eq_false ht, cond_false, wrap_succ (by omega)]
   have := names_loop r hx w n ts (pre ++ [t]) m (by rw [e]; simp) (by simp [hw, ht]) (by simp at hm; omega)
   simpa using this
theorem names_eq {h : H} {p : Pt} {c : Cap} {xs : List Bs} (r : Row h 1 p xs.length c (xs.map .str)) (hx : xs.length ≤ 400000) (w : Bs) {n : Nat} (hn : xs.length + 4 ≤ n) : ca n i_slices_Contains_string_string [.slice p xs.length c, .str w] h = some (.bool (memB w xs), h) := by
 obtain ⟨n, rfl⟩ : ∃ m, n = m + 2 := ⟨n - 2, by omega⟩
 obtain ⟨q, e1, e2⟩ := names_loop r hx w n xs [] n rfl (by simp) (by omega)
 rw [slices_Contains_string_string_eq, slices_Index_string_string_eq]
 rw [show slices_Index_string_string_L0 n n p xs.length c w (Nat.cast xs.length) 0 h = some (.int .i64 q, h) from e1, Option.bind_some, asInt_int, e2]
/-- what stands behind a dash -/
def dashP (w : Bs) : Bs × Bool := if (bs w).head? = some 45 then (mk ((bs w).drop 1), true) else (w, false)
theorem dash_eq (w : Bs) (n : Nat) (h : H) : ca (n + 3) i_strings_CutPrefix [.str w, .str (⟨#[45]⟩ : ByteArray)] h = some (.tup [.str (dashP w).1, .bool (dashP w).2], h) := by
 rw [strings_CutPrefix_eq, stringslite_CutPrefix_eq, stringslite_HasPrefix_eq]
 unfold dashP
 have e1 : (Nat.cast (⟨#[45]⟩ : ByteArray).size : Int) = 1 := rfl
 rw [e1]
 by_cases h0 : 1 ≤ w.size
 ·rw [show decide (((Nat.cast w.size) : Int) ≥ 1) = true by simp; omega, cond_true, bnd_upto (by omega) (by omega), Option.bind_some, asBool_bool, str_eq]
  have hx : (w.extract 0 1 = (⟨#[45]⟩ : ByteArray)) ↔ (bs w).head? = some 45 := by
   constructor
   ·intro e
    have := congrArg bs e
    rw [bs_extract] at this
    cases hb : bs w with
    | nil => rw [← bs_len, hb] at h0; simp at h0
    | cons x l =>
     rw [hb] at this
     have : [x] = [45] := this
     simpa using this
   ·intro e
    refine bs_inj ?_
    rw [bs_extract]
    cases hb : bs w with
    | nil => rw [hb] at e; simp at e
    | cons x l =>
     rw [hb] at e
     obtain rfl : x = 45 := by simpa using e
     rfl
  rw [show (1 : Int).toNat = 1 from rfl]
  by_cases hc : (bs w).head? = some 45
  ·rw [decide_eq_true (hx.2 hc), Bool.not_true, cond_false, bnd_from (by omega) (by omega), if_pos hc, Option.bind_some, asTup_tup, lS_of, lB_of, l0_nil]
   have : w.extract 1 w.size = mk ((bs w).drop 1) := bs_inj (by rw [bs_extract, bs_mk, ← bs_len, List.take_of_length_le (by simp)])
   rw [← this]
   rfl
  ·rw [decide_eq_false (fun e => hc (hx.1 e)), Bool.not_false, cond_true, if_neg hc, Option.bind_some, asTup_tup, lS_of, lB_of, l0_nil]
 ·rw [show decide (((Nat.cast w.size) : Int) ≥ 1) = false by simp; omega, cond_false, Option.bind_some, asBool_bool, Bool.not_false, cond_true]
  have hb : bs w = [] := List.length_eq_zero_iff.1 (by rw [bs_len]; omega)
  rw [hb]
  simp
end Go.Ev.Tryd

/- The configuration's reader: what reads a key. -/
namespace Go.Ev.Tryd
set_option maxRecDepth 10000
open Go.Proofs
abbrev nl : Bs := ⟨#[10]⟩
/-- a block that the reader does not own -/
structure Kept (S : List Nat) (h : H) (i : Nat) (o : AObj) : Prop where
 at_ : At h i o
 out : i ∉ S
theorem Kept.fr {S S' : List Nat} {h h' : H} {i : Nat} {o : AObj} (k : Kept S h i o) (f : Fr S h S' h') : Kept S' h' i o := by
 obtain ⟨h1, h2, h3⟩ := f.keep k.at_.lt k.out
 exact ⟨⟨h2, h1.trans k.at_.get⟩, h3⟩
theorem Kept.cell {β : Type} {S : List Nat} {h : H} {i : Nat} {v : AV} {cs : List AV} {ro : Bool} (k : Kept S h i (.cells (v :: cs) ro)) (f : AV → Option β) : cellK h i 0 f = f v := cellK_of k.at_.get rfl f
theorem callU_det {f : Nat} (hf : (fnd T.tblR f).isSome = false) (n : Nat) (args : List AV) (h : H) (k : AV → H → Option Unit) : callU T n f args h k = (ca n f args h).bind fun q => k q.1 q.2 := by
 unfold callU; rw [hf]
theorem detK {f : Nat} (hf : (fnd T.tblR f).isSome = false) {n : Nat} {args : List AV} {h : H} {Q : AV → H → Prop} (r : Ret (ca n f args h) Q) : RetK (fun kk => callU T n f args h kk) Q := by
 intro kk hk
 show callU T n f args h kk = some ()
 rw [callU_det hf]
 obtain ⟨v, h', e, q⟩ := r
 rw [e, Option.bind_some]
 exact hk v h' q
def GivesB (f : Nat) : Prop := ∀ (b : Bool) (k : AV → Option Unit), crF T.toTab f (.bool b) k = k (.bool b)
def GivesB' (f : Nat) : Prop := ∀ (b : Bool) (k : AV → R), crF T.toTab f (.bool b) k = k (.bool b)
/-- what reads a key -/
structure RdOk (e : En) (S0 : List Nat) (h0 : H) (N : Nat) (f : Nat) (x y : List AV) (sem : St → St × Bool) : Prop where
 gives : GivesB f
 run : ∀ n, N ≤ n → ∀ h S st, Fr S0 h0 S h → Inv e h st S → RetK (fun kk => callU T n f (x ++ [] ++ y) h kk) fun r h' => ∃ S', r = .bool (sem st).2 ∧ Fr S h S' h' ∧ Inv e h' (sem st).1 S'
theorem RdOk.fr {e : En} {S0 S1 : List Nat} {h0 h1 : H} {N f : Nat} {x y : List AV} {sem : St → St × Bool} (r : RdOk e S0 h0 N f x y sem) (fr : Fr S0 h0 S1 h1) : RdOk e S1 h1 N f x y sem :=
 ⟨r.gives, fun n hn h S st f' i => r.run n hn h S st (fr.trans f') i⟩
/-- where a value is laid -/
def PutOk {α : Type} (e : En) (q : Nat × Nat) (n : Nat) (enc : α → List AV) (put : St → α → St) : Prop :=
 ∀ h st S v, Inv e h st S → ∃ h', (∀ (β : Type) (k : H → Option β), wrK h q.1 q.2 n (enc v) k = k h') ∧ Fr S h S h' ∧ Inv e h' (put st v) S
def setP (st : St) (p : Ps) : St := { st with p := p }
def endL (s : Bs) (l : List Wd) (st : St) : St × Bool := (setP st (mustP s l nl st.p).1, (mustP s l nl st.p).2)
def numberV (s : Bs) (l : List Wd) (put : St → Int → St) (lo hi : Int) (st : St) : Ps × Bs × Int × Bool → St × Bool
 | (p, _, _, false) => (setP st p, false)
 | (p, w, at', true) => if (numP (bs w)).2 = true ∧ lo ≤ (numP (bs w)).1 ∧ (numP (bs w)).1 ≤ hi then endL s l (put (setP st p) (numP (bs w)).1) else (setP st (failP p at' 182), false)
def numberS (s : Bs) (l : List Wd) (put : St → Int → St) (lo hi : Int) (st : St) : St × Bool := numberV s l put lo hi st (valueP s l st.p)
section
variable {e : En} {S0 : List Nat} {h0 : H}
theorem line_ret {h : H} {S : List Nat} {st : St} (i : Inv e h st S) (n : Nat) : Ret ((ca (n + 2) i_config_parser_must [.ptr (some (e.b, 0)), .str nl] h).bind fun q => asBool q.1 fun x => some (AV.bool x, q.2) : R) fun r h' => r = .bool (endL e.s e.l st).2 ∧ Fr S h S h' ∧ Inv e h' (endL e.s e.l st).1 S := by
 refine (must_ret i n (by decide)).bind ?_
 rintro _ h1 ⟨rfl, f1, i1⟩
 simp only [asBool_bool]
 exact .pure ⟨rfl, f1, i1⟩
theorem number_rd {i1 i2 i3 i4 : Nat} {q : Nat × Nat} {lo hi : Int} {put : St → Int → St} (hp : PutOk e q 1 (fun v => [.int .i64 v]) put)
  (k1 : Kept S0 h0 i1 (.cells [.ptr (some (e.b, 0))] false)) (k2 : Kept S0 h0 i2 (.cells [.int .i64 lo] false)) (k3 : Kept S0 h0 i3 (.cells [.int .i64 hi] false)) (k4 : Kept S0 h0 i4 (.cells [.ptr (some q)] false)) :
  RdOk e S0 h0 30 i_config_parser_number_1 [] [.ptr (some (i1, 0)), .ptr (some (i2, 0)), .ptr (some (i3, 0)), .ptr (some (i4, 0))] (numberS e.s e.l put lo hi) := by
 refine ⟨fun b k => by kernel_rfl, fun n hn h S st fr i => detK (by kernel_rfl) ?_⟩
 obtain ⟨n, rfl⟩ : ∃ m, n = m + 3 := ⟨n - 3, by omega⟩
 show Ret (ca (n + 2 + 1) i_config_parser_number_1 [.ptr (some (i1, 0)), .ptr (some (i2, 0)), .ptr (some (i3, 0)), .ptr (some (i4, 0))] h) _
 rw [config_parser_number_1_eq]
 simp only [nnK_some', Nat.zero_add]
 rw [(k1.fr fr).cell, asPtr_ptr]
 refine (value_ret i n).bind ?_
 unfold numberS
 generalize valueP e.s e.l st.p = v
 obtain ⟨p1, w, a1, is⟩ := v
 rintro _ h1 ⟨rfl, f1, j1⟩
 simp only [asTup_tup, lS_of, lI_of, lB_of, l0_nil]
 refine (Number_ret w (by omega) h1).bind ?_
 rintro _ h2 ⟨m2, rfl⟩
 unfold enIB
 simp only [asTup_tup, lI_of, lB_of, l0_nil]
 have g1 : Fr S h S h2 := f1.trans (.mod0 m2)
 replace j1 := j1.frame m2
 cases is with
 | false =>
  rw [Bool.not_false, cond_true]
  exact .pure ⟨S, rfl, g1, j1⟩
 | true =>
  rw [Bool.not_true, cond_false]
  rw [show numberV e.s e.l put lo hi st (p1, w, a1, true) = if (numP (bs w)).2 = true ∧ lo ≤ (numP (bs w)).1 ∧ (numP (bs w)).1 ≤ hi then endL e.s e.l (put (setP st p1) (numP (bs w)).1) else (setP st (failP p1 a1 182), false) from rfl]
  have key : ∀ b : Bool, b = !(decide ((numP (bs w)).2 = true ∧ lo ≤ (numP (bs w)).1 ∧ (numP (bs w)).1 ≤ hi)) →
    Ret (config_parser_number_1_J0 (n + 2) (some (i1, 0)) (some (i4, 0)) a1 (numP (bs w)).1 b h2) fun r h' => ∃ S', r = .bool (if (numP (bs w)).2 = true ∧ lo ≤ (numP (bs w)).1 ∧ (numP (bs w)).1 ≤ hi then endL e.s e.l (put (setP st p1) (numP (bs w)).1)
  else (setP st (failP p1 a1 182), false)).2 ∧ Fr S h S' h' ∧ Inv e h' (if (numP (bs w)).2 = true ∧ lo ≤ (numP (bs w)).1 ∧ (numP (bs w)).1 ≤ hi then endL e.s e.l (put (setP st p1) (numP (bs w)).1)
  else (setP st (failP p1 a1 182), false)).1 S' := by
   rintro b hb
   rw [config_parser_number_1_J0_eq]
   simp only [nnK_some', Nat.zero_add]
   by_cases hc : (numP (bs w)).2 = true ∧ lo ≤ (numP (bs w)).1 ∧ (numP (bs w)).1 ≤ hi
   ·rw [decide_eq_true hc] at hb
    rw [hb, Bool.not_true, cond_false, if_pos hc, ((k4.fr fr).fr g1).cell, asPtr_ptr]
    obtain ⟨h3, e3, f3, j3⟩ := hp h2 _ S (numP (bs w)).1 j1
    rw [nnK_some', e3, (((k1.fr fr).fr g1).fr f3).cell, asPtr_ptr]
    refine (line_ret j3 n).mono ?_
    rintro _ h4 ⟨rfl, f4, j4⟩
    exact ⟨S, rfl, (g1.trans f3).trans f4, j4⟩
   ·rw [decide_eq_false hc] at hb
    rw [hb, Bool.not_false, cond_true, if_neg hc, ((k1.fr fr).fr g1).cell, asPtr_ptr]
    refine (fail_ret j1 (n + 1) _ _).bind ?_
    rintro _ h3 ⟨rfl, f3, j3⟩
    simp only [asBool_bool]
    exact .pure ⟨S, rfl, g1.trans f3, j3⟩
  cases hg : (numP (bs w)).2 with
  | false =>
   rw [Bool.not_false, cond_true]
   rw [hg] at key
   exact key _ (by simp)
  | true =>
   rw [Bool.not_true, cond_false, ((k2.fr fr).fr g1).cell, asInt_int]
   rw [hg] at key
   by_cases h1 : (numP (bs w)).1 < lo
   ·rw [decide_eq_true h1, cond_true]
    exact key _ (by simp; omega)
   ·rw [decide_eq_false h1, cond_false, ((k3.fr fr).fr g1).cell, asInt_int]
    refine key _ ?_
    by_cases h2 : hi < (numP (bs w)).1
    ·rw [decide_eq_true h2, decide_eq_false (by rintro ⟨_, _, h⟩; omega)]; rfl
    ·rw [decide_eq_false h2, decide_eq_true ⟨rfl, by omega, by omega⟩]; rfl
end
end Go.Ev.Tryd

/- The configuration's reader: what reads a choice, a card, an address. -/
namespace Go.Ev.Tryd
set_option maxRecDepth 10000
open Go.Proofs
def choiceV (s : Bs) (l : List Wd) (put : St → Int → St) (L : List (Bs × Int)) (st : St) : Ps × Bs × Int × Bool → St × Bool
 | (p, _, _, false) => (setP st p, false)
 | (p, w, at', true) => match lk L w with | some v => endL s l (put (setP st p) v) | none => (setP st (failP p at' 182), false)
def choiceS (s : Bs) (l : List Wd) (put : St → Int → St) (L : List (Bs × Int)) (st : St) : St × Bool := choiceV s l put L st (valueP s l st.p)
def cardV (s : Bs) (l : List Wd) (put : St → Cd → St) (st : St) : Ps × Bs × Int × Bool → St × Bool
 | (p, _, _, false) => (setP st p, false)
 | (p, w, at', true) => if (cardP w).2 = true then endL s l (put (setP st p) (cdOf (cardP w).1)) else (setP st (failP p at' 182), false)
def cardS (s : Bs) (l : List Wd) (put : St → Cd → St) (st : St) : St × Bool := cardV s l put st (valueP s l st.p)
def thenEnd (s : Bs) (l : List Wd) (r : St × Bool) : St × Bool := if r.2 = true then endL s l r.1 else (r.1, false)
def addressV (s : Bs) (l : List Wd) (svc : Bool) (tk : St → Bs → Int → St × Bool) (st : St) : Ps × Bs × Int × Bool → St × Bool
 | (p, _, _, false) => (setP st p, false)
 | (p, w, at', true) => if (adrP w).2 = true then thenEnd s l (tk (setP st { p with spots := p.spots ++ [((adrP w).1, at', svc)] }) (adrP w).1 at') else (setP st (failP p at' 182), false)
def addressS (s : Bs) (l : List Wd) (svc : Bool) (tk : St → Bs → Int → St × Bool) (st : St) : St × Bool := addressV s l svc tk st (valueP s l st.p)
/-- who takes an address -/
structure TkOk (e : En) (S0 : List Nat) (h0 : H) (N : Nat) (f : Nat) (x y : List AV) (tk : St → Bs → Int → St × Bool) : Prop where
 gives : GivesB' f
 run : ∀ n, N ≤ n → ∀ h S st a at', Fr S0 h0 S h → Inv e h st S → st.p.vips.length + 1 ≤ st.p.k → Ret (ca n f (x ++ [.str a, .int .i64 at'] ++ y) h) fun r h' => ∃ S', r = .bool (tk st a at').2 ∧ Fr S h S' h' ∧ Inv e h' (tk st a at').1 S'
def intoS (put : St → Bs → St) (st : St) (a : Bs) (_ : Int) : St × Bool := (put st a, true)
def vipS (st : St) (a : Bs) (at' : Int) : St × Bool := if memB a st.p.vips = true then (setP st (failP st.p at' 181), false) else (setP st { st.p with vips := st.p.vips ++ [a] }, true)
theorem valueP_k (s : Bs) (l : List Wd) (p : Ps) : (valueP s l p).2.2.2 = true → (valueP s l p).1 = { p with k := p.k + 1 } := by
 unfold valueP
 split
 ·intro h; cases h
 ·intro _; rfl
theorem valueP_w (s : Bs) (l : List Wd) (p : Ps) : (valueP s l p).2.1 = ⟨#[]⟩ ∨ ∃ w ∈ l, (valueP s l p).2.1 = w.1 := by
 unfold valueP
 split
 ·exact .inl rfl
 ·unfold peekP
  cases hw : l[p.k]? with
  | none => exact .inl rfl
  | some w => exact .inr ⟨w, List.mem_of_getElem? hw, rfl⟩
theorem cardP_len (w : Bs) : (cardP w).1.length = 6 := by
 unfold cardP
 split
 ·split
  ·assumption
  ·rfl
 ·rfl
theorem cdOf_enc : ∀ {l : List Int}, l.length = 6 → u8s l = enCd (cdOf l)
 | [a, b, c, d, e, f], _ => rfl
section
variable {e : En} {S0 : List Nat} {h0 : H}
theorem choice_rd {i1 i2 i3 m : Nat} {o : AObj} {q : Nat × Nat} {L : List (Bs × Int)} {put : St → Int → St} (hp : PutOk e q 1 (fun v => [.int .i64 v]) put)
  (k1 : Kept S0 h0 i1 (.cells [.ptr (some (e.b, 0))] false)) (k2 : Kept S0 h0 i2 (.cells [.map (some m)] false)) (k3 : Kept S0 h0 i3 (.cells [.ptr (some q)] false)) (km : Kept S0 h0 m o) (hm : MObj AV.str (fun v => .int .i64 v) L o) :
  RdOk e S0 h0 30 i_config_parser_choice_1 [] [.ptr (some (i1, 0)), .ptr (some (i2, 0)), .ptr (some (i3, 0))] (choiceS e.s e.l put L) := by
 refine ⟨fun b k => by kernel_rfl, fun n hn h S st fr i => detK (by kernel_rfl) ?_⟩
 obtain ⟨n, rfl⟩ : ∃ m, n = m + 3 := ⟨n - 3, by omega⟩
 show Ret (ca (n + 2 + 1) i_config_parser_choice_1 [.ptr (some (i1, 0)), .ptr (some (i2, 0)), .ptr (some (i3, 0))] h) _
 rw [config_parser_choice_1_eq]
 simp only [nnK_some']
 rw [(k1.fr fr).cell, asPtr_ptr]
 refine (value_ret i n).bind ?_
 unfold choiceS
 generalize valueP e.s e.l st.p = v
 obtain ⟨p1, w, a1, is⟩ := v
 rintro _ h1 ⟨rfl, g1, j1⟩
 simp only [asTup_tup, lS_of, lI_of, lB_of, l0_nil]
 rw [((k2.fr fr).fr g1).cell, asMap_map, lookK_of keys_str ((km.fr fr).fr g1).at_.get hm]
 cases is with
 | false =>
  rw [show choiceV e.s e.l put L st (p1, w, a1, false) = (setP st p1, false) from rfl]
  cases lk L w with
  | none => rw [asInt_int, Bool.not_false, cond_true]; exact .pure ⟨S, rfl, g1, j1⟩
  | some v => rw [asInt_int, Bool.not_false, cond_true]; exact .pure ⟨S, rfl, g1, j1⟩
 | true =>
  rw [show choiceV e.s e.l put L st (p1, w, a1, true) = (match lk L w with | some v => endL e.s e.l (put (setP st p1) v) | none => (setP st (failP p1 a1 182), false)) from rfl]
  cases lk L w with
  | none =>
   simp only
   rw [asInt_int, Bool.not_true, cond_false, Bool.not_false, cond_true, ((k1.fr fr).fr g1).cell, asPtr_ptr]
   refine (fail_ret j1 (n + 1) _ _).bind ?_
   rintro _ h3 ⟨rfl, f3, j3⟩
   simp only [asBool_bool]
   exact .pure ⟨S, rfl, g1.trans f3, j3⟩
  | some v =>
   simp only
   rw [asInt_int, Bool.not_true, cond_false, cond_false, ((k3.fr fr).fr g1).cell, asPtr_ptr]
   obtain ⟨h3, e3, f3, j3⟩ := hp h1 _ S v j1
   rw [nnK_some', e3, (((k1.fr fr).fr g1).fr f3).cell, asPtr_ptr]
   refine (line_ret j3 n).mono ?_
   rintro _ h4 ⟨rfl, f4, j4⟩
   exact ⟨S, rfl, (g1.trans f3).trans f4, j4⟩
theorem card_rd {i1 i2 : Nat} {q : Nat × Nat} {N : Nat} {put : St → Cd → St} (hp : PutOk e q 6 enCd put) (hw : ∀ w ∈ e.l, w.1.size < 90000 ∧ w.1.size + 70 ≤ N) (hN : 70 ≤ N)
  (k1 : Kept S0 h0 i1 (.cells [.ptr (some (e.b, 0))] false)) (k2 : Kept S0 h0 i2 (.cells [.ptr (some q)] false)) :
  RdOk e S0 h0 N i_config_parser_card_1 [] [.ptr (some (i1, 0)), .ptr (some (i2, 0))] (cardS e.s e.l put) := by
 refine ⟨fun b k => by kernel_rfl, fun n hn h S st fr i => detK (by kernel_rfl) ?_⟩
 obtain ⟨n, rfl⟩ : ∃ m, n = m + 3 := ⟨n - 3, by omega⟩
 show Ret (ca (n + 2 + 1) i_config_parser_card_1 [.ptr (some (i1, 0)), .ptr (some (i2, 0))] h) _
 rw [config_parser_card_1_eq]
 simp only [nnK_some']
 rw [(k1.fr fr).cell, asPtr_ptr]
 refine (value_ret i n).bind ?_
 unfold cardS
 have hws := valueP_w e.s e.l st.p
 generalize valueP e.s e.l st.p = v at hws
 obtain ⟨p1, w, a1, is⟩ := v
 have hsz : w.size < 90000 ∧ w.size + 70 ≤ N := by
  rcases hws with e' | ⟨x, hx, e'⟩
  ·obtain rfl : w = ⟨#[]⟩ := e'
   exact ⟨by decide, hN⟩
  ·obtain rfl : w = x.1 := e'
   exact hw x hx
 rintro _ h1 ⟨rfl, g1, j1⟩
 simp only [asTup_tup, lS_of, lI_of, lB_of, l0_nil]
 refine (Card_ret hsz.1 (by omega) h1).bind ?_
 rintro _ h2 ⟨m2, rfl⟩
 unfold enRB
 simp only [asTup_tup, lA_of, lB_of, l0_nil]
 rw [cdOf_enc (cardP_len w), newK_eq, box_wr (n := 6) rfl rfl rfl]
 have m3 : Mod [] h1 (h2.new (.cells (enCd (cdOf (cardP w).1)) false)) := m2.new _
 have g2 : Fr S h S (h2.new (.cells (enCd (cdOf (cardP w).1)) false)) := g1.trans (.mod0 m3)
 replace j1 := j1.frame m3
 have hg : (h2.new (.cells (enCd (cdOf (cardP w).1)) false)).get h2.next = some (.cells (enCd (cdOf (cardP w).1)) false) := get_new_self _ _
 generalize h2.new (.cells (enCd (cdOf (cardP w).1)) false) = h3 at *
 cases is with
 | false =>
  rw [Bool.not_false, cond_true]
  exact .pure ⟨S, rfl, g2, j1⟩
 | true =>
  rw [Bool.not_true, cond_false, show cardV e.s e.l put st (p1, w, a1, true) = if (cardP w).2 = true then endL e.s e.l (put (setP st p1) (cdOf (cardP w).1)) else (setP st (failP p1 a1 182), false) from rfl]
  cases hc : (cardP w).2 with
  | false =>
   rw [Bool.not_false, cond_true, if_neg (by decide), ((k1.fr fr).fr g2).cell, asPtr_ptr]
   refine (fail_ret j1 (n + 1) _ _).bind ?_
   rintro _ h4 ⟨rfl, f3, j3⟩
   simp only [asBool_bool]
   exact .pure ⟨S, rfl, g2.trans f3, j3⟩
  | true =>
   rw [Bool.not_true, cond_false, if_pos rfl, ((k2.fr fr).fr g2).cell, asPtr_ptr, aggK_all (n := 6) hg rfl]
   obtain ⟨h4, e3, f3, j3⟩ := hp h3 _ S (cdOf (cardP w).1) j1
   rw [nnK_some', e3, (((k1.fr fr).fr g2).fr f3).cell, asPtr_ptr]
   refine (line_ret j3 n).mono ?_
   rintro _ h5 ⟨rfl, f4, j4⟩
   exact ⟨S, rfl, (g2.trans f3).trans f4, j4⟩
theorem into_tk {i1 : Nat} {q : Nat × Nat} {put : St → Bs → St} (hp : PutOk e q 1 (fun a => [.str a]) put) (k1 : Kept S0 h0 i1 (.cells [.ptr (some q)] false)) :
  TkOk e S0 h0 1 i_config_into_1 [] [.ptr (some (i1, 0))] (intoS put) := by
 refine ⟨fun b k => by kernel_rfl, fun n hn h S st a at' fr i _ => ?_⟩
 obtain ⟨n, rfl⟩ : ∃ m, n = m + 1 := ⟨n - 1, by omega⟩
 show Ret (ca (n + 1) i_config_into_1 [.str a, .int .i64 at', .ptr (some (i1, 0))] h) _
 rw [config_into_1_eq, nnK_some', (k1.fr fr).cell, asPtr_ptr, nnK_some']
 obtain ⟨h3, e3, f3, j3⟩ := hp h _ S a i
 rw [e3]
 exact .pure ⟨S, rfl, f3, j3⟩
theorem vip_tk {N : Nat} (hN : e.l.length + 10 ≤ N) : TkOk e S0 h0 N i_config_parser_vip [.ptr (some (e.b, 0))] [] vipS := by
 refine ⟨fun b k => by kernel_rfl, fun n hn h S st a at' fr i hk => ?_⟩
 obtain ⟨n, rfl⟩ : ∃ m, n = m + 2 := ⟨n - 2, by omega⟩
 show Ret (ca (n + 1 + 1) i_config_parser_vip [.ptr (some (e.b, 0)), .str a, .int .i64 at'] h) _
 have i0 := i
 have ok := i.okp
 obtain ⟨g, rfl, i⟩ := i
 rw [config_parser_vip_eq]
 simp only [nnK_some', Nat.zero_add]
 rw [i.cell (o := 15) rfl, asSlice_slice, addrs_eq (i.vp.grow i.ow).row (by have := ok.vips; have := ok.k; have := ok.len; omega) a (by have := ok.vips; have := ok.k; omega), Option.bind_some, asBool_bool]
 unfold vipS
 cases hm : memB a st.p.vips with
 | true =>
  rw [cond_true, if_pos rfl]
  refine (fail_ret i0 n _ _).bind ?_
  rintro _ h4 ⟨rfl, f3, j3⟩
  simp only [asBool_bool]
  exact .pure ⟨_, rfl, f3, j3⟩
 | false =>
  rw [cond_false, if_neg (by decide), i.cell (o := 15) rfl, asSlice_slice]
  obtain ⟨y, cap', h1, h2, S', e1, f1, e2, f2, j⟩ := i.pushVip a hk
  rw [newK_eq, e1, e2]
  exact .pure ⟨S', rfl, f2, j⟩
theorem address_rd {i1 i2 i3 : Nat} {N f : Nat} {x y : List AV} {svc : Bool} {tk : St → Bs → Int → St × Bool} (hw : ∀ w ∈ e.l, w.1.size < 90000 ∧ w.1.size + 70 ≤ N) (hN : 70 ≤ N) (ht : TkOk e S0 h0 (N - 1) f x y tk)
  (k1 : Kept S0 h0 i1 (.cells [.ptr (some (e.b, 0))] false)) (k2 : Kept S0 h0 i2 (.cells [.bool svc] false)) (k3 : Kept S0 h0 i3 (.cells [.func f x y] false)) :
  RdOk e S0 h0 N i_config_parser_address_1 [] [.ptr (some (i1, 0)), .ptr (some (i2, 0)), .ptr (some (i3, 0))] (addressS e.s e.l svc tk) := by
 refine ⟨fun b k => by kernel_rfl, fun n hn h S st fr i => detK (by kernel_rfl) ?_⟩
 obtain ⟨n, rfl⟩ : ∃ m, n = m + 3 := ⟨n - 3, by omega⟩
 show Ret (ca (n + 2 + 1) i_config_parser_address_1 [.ptr (some (i1, 0)), .ptr (some (i2, 0)), .ptr (some (i3, 0))] h) _
 rw [config_parser_address_1_eq]
 simp only [nnK_some']
 rw [(k1.fr fr).cell, asPtr_ptr]
 refine (value_ret i n).bind ?_
 unfold addressS
 have hws := valueP_w e.s e.l st.p
 have hvk := valueP_k e.s e.l st.p
 generalize valueP e.s e.l st.p = v at hws hvk
 obtain ⟨p1, w, a1, is⟩ := v
 have hsz : w.size < 90000 ∧ w.size + 70 ≤ N := by
  rcases hws with e' | ⟨x, hx, e'⟩
  ·obtain rfl : w = ⟨#[]⟩ := e'
   exact ⟨by decide, hN⟩
  ·obtain rfl : w = x.1 := e'
   exact hw x hx
 rintro _ h1 ⟨rfl, g1, j1⟩
 simp only [asTup_tup, lS_of, lI_of, lB_of, l0_nil]
 refine (Address_ret hsz.1 (by omega) h1).bind ?_
 rintro _ h2 ⟨m2, rfl⟩
 unfold enSB
 simp only [asTup_tup, lS_of, lB_of, l0_nil]
 have g2 : Fr S h S h2 := g1.trans (.mod0 m2)
 replace j1 := j1.frame m2
 cases is with
 | false =>
  rw [Bool.not_false, cond_true]
  exact .pure ⟨S, rfl, g2, j1⟩
 | true =>
  rw [Bool.not_true, cond_false, show addressV e.s e.l svc tk st (p1, w, a1, true) = if (adrP w).2 = true then thenEnd e.s e.l (tk (setP st { p1 with spots := p1.spots ++ [((adrP w).1, a1, svc)] }) (adrP w).1 a1) else (setP st (failP p1 a1 182), false) from rfl]
  cases hc : (adrP w).2 with
  | false =>
   rw [Bool.not_false, cond_true, if_neg (by decide), ((k1.fr fr).fr g2).cell, asPtr_ptr]
   refine (fail_ret j1 (n + 1) _ _).bind ?_
   rintro _ h4 ⟨rfl, f3, j3⟩
   simp only [asBool_bool]
   exact .pure ⟨S, rfl, g2.trans f3, j3⟩
  | true =>
   obtain rfl : p1 = { st.p with k := st.p.k + 1 } := hvk rfl
   have ok := i.okp
   obtain ⟨g, rfl, j1⟩ := j1
   rw [Bool.not_true, cond_false, if_pos rfl, ((k1.fr fr).fr g2).cell, asPtr_ptr, ((k1.fr fr).fr g2).cell, asPtr_ptr]
   simp only [nnK_some', Nat.zero_add]
   rw [j1.cell (o := 18) rfl, asSlice_slice, ((k2.fr fr).fr g2).cell, asBool_bool]
   obtain ⟨y', cap', h3, h4, S', e1, f1, e2, f2, j⟩ := j1.pushSpot ((adrP w).1, a1, svc) (Nat.succ_le_succ ok.spots)
   have hk1 := ((k1.fr fr).fr g2)
   dsimp only [encSp] at e1 e2 ⊢
   rw [newK_eq, e1, show blkP (some (i1, 0)) = some i1 from rfl, sameK_of (by rw [(hk1.fr f1).at_.get, get_new_lt hk1.at_.lt, hk1.at_.get])]
   rw [e2, (((k3.fr fr).fr g2).fr f2).cell, asFn_of]
   refine (ht.run (n + 2) (by omega) h4 S' _ (adrP w).1 a1 ((fr.trans g2).trans f2) j (Nat.succ_le_succ ok.vips)).bind ?_
   rintro _ h5 ⟨S5, rfl, f5, j5⟩
   rw [ht.gives, asBool_bool]
   unfold thenEnd
   unfold setP at *
   generalize tk { st with p := { { st.p with k := st.p.k + 1 } with spots := st.p.spots ++ [((adrP w).1, a1, svc)] } } (adrP w).1 a1 = r at *
   obtain ⟨st5, b5⟩ := r
   cases b5 with
   | false => exact .pure ⟨S5, rfl, (g2.trans f2).trans f5, j5⟩
   | true =>
    rw [cond_true, ((((k1.fr fr).fr g2).fr f2).fr f5).cell, asPtr_ptr]
    refine (line_ret j5 n).mono ?_
    rintro _ h6 ⟨rfl, f6, j6⟩
    exact ⟨S5, rfl, ((g2.trans f2).trans f5).trans f6, j6⟩
end
end Go.Ev.Tryd

/- The configuration's reader: names, tracks. -/
namespace Go.Ev.Tryd
set_option maxRecDepth 10000
open Go.Proofs
def namedV (xs : List Bs) : Ps × Bs × Int × Bool → Ps × Bs × Bool
 | (p, _, _, false) => (p, ⟨#[]⟩, false)
 | (p, w, at', true) => if 40 < w.size then (failP p at' 182, ⟨#[]⟩, false) else if memB w xs = true then (failP p at' 181, ⟨#[]⟩, false) else (p, w, true)
def namedP (s : Bs) (l : List Wd) (xs : List Bs) (p : Ps) : Ps × Bs × Bool := namedV xs (valueP s l p)
def weightV (s : Bs) (l : List Wd) (nm : Bs) (st : St) : Ps × Bs × Int × Bool → St × Bool
 | (p, _, _, false) => (setP st p, false)
 | (p, w, at', true) =>
  if (numP (bs (dashP w).1)).2 = true ∧ 1 ≤ (numP (bs (dashP w).1)).1 ∧ (numP (bs (dashP w).1)).1 ≤ 254 then
   endL s l (setP st { p with trs := p.trs ++ [(nm, if (dashP w).2 = true then - (numP (bs (dashP w).1)).1 else (numP (bs (dashP w).1)).1)] })
  else (setP st (failP p at' 182), false)
def trackV (s : Bs) (l : List Wd) (st : St) : Ps × Bs × Bool → St × Bool
 | (p, _, false) => (setP st p, false)
 | (p, nm, true) => weightV s l nm st (valueP s l p)
def trackS (s : Bs) (l : List Wd) (st : St) : St × Bool := trackV s l st (namedP s l (st.p.trs.map (·.1)) st.p)
theorem namedP_k (s : Bs) (l : List Wd) (xs : List Bs) (p : Ps) : (namedP s l xs p).2.2 = true → (namedP s l xs p).1 = { p with k := p.k + 1 } := by
 unfold namedP
 have hk := valueP_k s l p
 generalize valueP s l p = v at hk
 obtain ⟨p1, w, a1, is⟩ := v
 cases is with
 | false => intro h; cases h
 | true =>
  rw [show namedV xs (p1, w, a1, true) = if 40 < w.size then (failP p1 a1 182, ⟨#[]⟩, false) else if memB w xs = true then (failP p1 a1 181, ⟨#[]⟩, false) else (p1, w, true) from rfl]
  split
  ·intro h; cases h
  ·split
   ·intro h; cases h
   ·intro _; exact hk rfl
section
variable {e : En} {S : List Nat} {h : H} {st : St}
theorem Inv.ltS (i : Inv e h st S) : ∀ x ∈ S, x < h.next := by
 obtain ⟨g, rfl, i⟩ := i
 intro x hx
 obtain ⟨j, e⟩ := i.ow.mem.1 hx
 exact i.ow.lt j x e
theorem named_ret (i : Inv e h st S) {q : Pt} {c : Cap} {xs : List Bs} (r : Row h 1 q xs.length c (xs.map .str)) (hx : xs.length ≤ 400000) (hq : ∀ b ∈ own q, b ∉ S) {n : Nat} (hn : xs.length + 10 ≤ n) :
  Ret (ca n i_config_parser_named [.ptr (some (e.b, 0)), .slice q xs.length c] h) fun r h' => r = .tup [.str (namedP e.s e.l xs st.p).2.1, .bool (namedP e.s e.l xs st.p).2.2] ∧ Fr S h S h' ∧ Inv e h' (setP st (namedP e.s e.l xs st.p).1) S := by
 obtain ⟨n, rfl⟩ : ∃ m, n = m + 3 := ⟨n - 3, by omega⟩
 rw [config_parser_named_eq]
 refine (value_ret i n).bind ?_
 unfold namedP
 generalize valueP e.s e.l st.p = v
 obtain ⟨p1, w, a1, is⟩ := v
 rintro _ h1 ⟨rfl, g1, j1⟩
 simp only [asTup_tup, lS_of, lI_of, lB_of, l0_nil]
 cases is with
 | false =>
  rw [Bool.not_false, cond_true]
  exact .pure ⟨rfl, g1, j1⟩
 | true =>
  rw [Bool.not_true, cond_false, show namedV xs (p1, w, a1, true) = if 40 < w.size then (failP p1 a1 182, ⟨#[]⟩, false) else if memB w xs = true then (failP p1 a1 181, ⟨#[]⟩, false) else (p1, w, true) from rfl]
  by_cases h40 : 40 < w.size
  ·rw [show decide ((Nat.cast w.size : Int) > 40) = true by simp; omega, cond_true, if_pos h40]
   refine (fail_ret j1 (n + 1) _ _).bind ?_
   rintro _ h4 ⟨rfl, f3, j3⟩
   simp only [asBool_bool]
   exact .pure ⟨rfl, g1.trans f3, j3⟩
  ·rw [show decide ((Nat.cast w.size : Int) > 40) = false by simp; omega, cond_false, if_neg h40, names_eq (r.mod g1.mod hq) hx w (by omega), Option.bind_some, asBool_bool]
   cases memB w xs with
   | true =>
    rw [cond_true, if_pos rfl]
    refine (fail_ret j1 (n + 1) _ _).bind ?_
    rintro _ h4 ⟨rfl, f3, j3⟩
    simp only [asBool_bool]
    exact .pure ⟨rfl, g1.trans f3, j3⟩
   | false =>
    rw [cond_false, if_neg (by decide)]
    exact .pure ⟨rfl, g1, j1⟩
/-- the names of what is there -/
theorem track_names {a : H} {q : Pt} {c : Cap} {xs : List (Bs × Int)} (r : Row a 2 q xs.length c (xs.flatMap encT)) (hx : xs.length ≤ 400000) (a0 : Pt) (n : Nat) : ∀ (rest pre : List (Bs × Int)) (m : Nat) (h : H) (p : Pt) (d : Cap), xs = pre ++ rest → rest.length < m → Mod [] a h → Grow a h 1 p pre.length d ((pre.map (·.1)).map .str) →
  ∃ m' p' d' h', config_parser_track_L0 n m a0 p pre.length d q xs.length c (Nat.cast xs.length) (pre.length : Nat) h = config_parser_track_L0 n (m' + 1) a0 p' xs.length d' q xs.length c (Nat.cast xs.length) (Nat.cast xs.length) h' ∧ Mod [] a h' ∧ Grow a h' 1 p' xs.length d' ((xs.map (·.1)).map .str)
 | [], pre, m + 1, h, p, d, e, _, hm, g => by
  rw [List.append_nil] at e
  subst e
  exact ⟨m, p, d, h, rfl, hm, g⟩
 | t :: ts, pre, m + 1, h, p, d, e, hl, hm, g => by
  have hget : xs[pre.length]? = some t := by rw [e]; simp
  have hlt : pre.length < xs.length := (List.getElem?_eq_some_iff.1 hget).1
  rw [config_parser_track_L0_eq, cast_lt hlt, cond_true, (r.mod0 hm).ix encT_len (by decide) hget]
  simp only [encT, lS_of, lI_of, l0_nil]
  rw [newK_eq, box_wr (n := 2) rfl rfl rfl, cellK_of (get_new_self _ _) rfl, asStr_str, newK_eq]
  have m1 : Mod [] h (h.new (.cells [.str t.1, .int .i64 t.2] false)) := (Mod.refl _ _).new _
  obtain ⟨p', d', h', e1, g', m', hn⟩ := (g.mod0 m1).pushE (bytes := 16) (hm.trans m1).next (xs := [.str t.1]) rfl rfl (by decide) (by omega) (by omega)
  rw [e1, wrap_succ (by omega)]
  have hm' : Mod [] a h' := (hm.trans m1).trans' m' fun x hx hl => by have := (g.own_ge x hx).1; omega
  have := track_names r hx a0 n ts (pre ++ [t]) m h' p' d' (by rw [e]; simp) (by simp at hl; omega) hm' (by simpa using g')
  simpa using this
theorem track_rd (e : En) (S0 : List Nat) (h0 : H) {N : Nat} (hN : e.l.length + 40 ≤ N) : RdOk e S0 h0 N i_config_parser_track [.ptr (some (e.b, 0))] [] (trackS e.s e.l) := by
 refine ⟨fun b k => by kernel_rfl, fun n hn h S st fr i => detK (by kernel_rfl) ?_⟩
 obtain ⟨n, rfl⟩ : ∃ m, n = m + 5 := ⟨n - 5, by omega⟩
 show Ret (ca (n + 4 + 1) i_config_parser_track [.ptr (some (e.b, 0))] h) _
 have ok := i.okp
 have hk := ok.k
 have hll := ok.len
 have htr := ok.trs
 have i0 := i
 obtain ⟨g, rfl, i⟩ := i
 rw [config_parser_track_eq]
 simp only [nnK_some', Nat.zero_add]
 rw [i.cell (o := 16) rfl, asSlice_slice]
 obtain ⟨m', p', d', h1, e1, m1, g1⟩ := track_names (i.tp.grow i.ow).row (by omega) (some (e.b, 0)) (n + 4) st.p.trs [] (n + 4) h none (.known 0) rfl (by omega) (.refl _ _) .nil
 rw [show config_parser_track_L0 (n + 4) (n + 4) (some (e.b, 0)) none 0 (.known 0) (slP g.f 3) st.p.trs.length g.tc (Nat.cast st.p.trs.length) 0 h = _ from e1]
 rw [config_parser_track_L0_eq, cast_not_lt (Nat.le_refl _), cond_false]
 have i1 := i0.frame m1
 have f1 : Fr (foot g.f) h (foot g.f) h1 := .mod0 m1
 have hS : ∀ b ∈ own p', b ∉ foot g.f := fun b hb hm => by
  have := (g1.own_ge b hb).1
  have := i0.ltS b hm
  omega
 have hr : Row h1 1 p' (st.p.trs.map (·.1)).length d' ((st.p.trs.map (·.1)).map .str) := by rw [List.length_map]; exact g1.row
 have hnm := named_ret i1 hr (by rw [List.length_map]; omega) hS (n := n + 4) (by rw [List.length_map]; omega)
 rw [List.length_map] at hnm
 refine hnm.bind ?_
 unfold trackS
 have hvk := namedP_k e.s e.l (st.p.trs.map (·.1)) st.p
 generalize namedP e.s e.l (st.p.trs.map (·.1)) st.p = v at hvk
 obtain ⟨p1, nm, is⟩ := v
 rintro _ h2 ⟨rfl, f2, j2⟩
 simp only [asTup_tup, lS_of, lI_of, lB_of, l0_nil]
 cases is with
 | false =>
  rw [Bool.not_false, cond_true]
  exact .pure ⟨_, rfl, f1.trans f2, j2⟩
 | true =>
  obtain rfl : p1 = { st.p with k := st.p.k + 1 } := hvk rfl
  rw [Bool.not_true, cond_false]
  have hv := value_ret j2 (n + 2)
  rw [show (setP st ({ st.p with k := st.p.k + 1 }, nm, true).1).p = { st.p with k := st.p.k + 1 } from rfl] at hv
  have hvk := valueP_k e.s e.l { st.p with k := st.p.k + 1 }
  rw [show trackV e.s e.l st ({ st.p with k := st.p.k + 1 }, nm, true) = weightV e.s e.l nm st (valueP e.s e.l { st.p with k := st.p.k + 1 }) from rfl]
  generalize valueP e.s e.l { st.p with k := st.p.k + 1 } = v at hvk hv ⊢
  obtain ⟨p1, w, a1, is⟩ := v
  refine hv.bind ?_
  rintro _ h3 ⟨rfl, f3, j3⟩
  simp only [asTup_tup, lS_of, lI_of, lB_of, l0_nil]
  have f13 := (f1.trans f2).trans f3
  cases is with
  | false =>
   rw [Bool.not_false, cond_true]
   exact .pure ⟨_, rfl, f13, j3⟩
  | true =>
   obtain rfl : p1 = { st.p with k := st.p.k + 1 + 1 } := hvk rfl
   rw [Bool.not_true, cond_false, dash_eq, Option.bind_some, asTup_tup, lS_of, lB_of, l0_nil]
   refine (Number_ret _ (by omega) h3).bind ?_
   rintro _ h4 ⟨m4, rfl⟩
   unfold enIB
   simp only [asTup_tup, lI_of, lB_of, l0_nil]
   replace j3 := j3.frame m4
   replace f13 := f13.trans (.mod0 m4)
   rw [show weightV e.s e.l nm st ({ st.p with k := st.p.k + 1 + 1 }, w, a1, true) = if (numP (bs (dashP w).1)).2 = true ∧ 1 ≤ (numP (bs (dashP w).1)).1 ∧ (numP (bs (dashP w).1)).1 ≤ 254 then
   endL e.s e.l (setP st { st.p with k := st.p.k + 1 + 1, trs := st.p.trs ++ [(nm, if (dashP w).2 = true then - (numP (bs (dashP w).1)).1 else (numP (bs (dashP w).1)).1)] })
  else (setP st (failP { st.p with k := st.p.k + 1 + 1 } a1 182), false) from rfl]
   have key : ∀ b : Bool, b = !(decide ((numP (bs (dashP w).1)).2 = true ∧ 1 ≤ (numP (bs (dashP w).1)).1 ∧ (numP (bs (dashP w).1)).1 ≤ 254)) →
     Ret (config_parser_track_J1 (n + 4) (some (e.b, 0)) nm a1 (dashP w).2 (numP (bs (dashP w).1)).1 b h4) fun r h' => ∃ S', r = .bool (if (numP (bs (dashP w).1)).2 = true ∧ 1 ≤ (numP (bs (dashP w).1)).1 ∧ (numP (bs (dashP w).1)).1 ≤ 254 then
   endL e.s e.l (setP st { st.p with k := st.p.k + 1 + 1, trs := st.p.trs ++ [(nm, if (dashP w).2 = true then - (numP (bs (dashP w).1)).1 else (numP (bs (dashP w).1)).1)] })
  else (setP st (failP { st.p with k := st.p.k + 1 + 1 } a1 182), false)).2 ∧ Fr (foot g.f) h S' h' ∧ Inv e h' (if (numP (bs (dashP w).1)).2 = true ∧ 1 ≤ (numP (bs (dashP w).1)).1 ∧ (numP (bs (dashP w).1)).1 ≤ 254 then
   endL e.s e.l (setP st { st.p with k := st.p.k + 1 + 1, trs := st.p.trs ++ [(nm, if (dashP w).2 = true then - (numP (bs (dashP w).1)).1 else (numP (bs (dashP w).1)).1)] })
  else (setP st (failP { st.p with k := st.p.k + 1 + 1 } a1 182), false)).1 S' := by
    intro b hb
    rw [config_parser_track_J1_eq]
    by_cases hc : (numP (bs (dashP w).1)).2 = true ∧ 1 ≤ (numP (bs (dashP w).1)).1 ∧ (numP (bs (dashP w).1)).1 ≤ 254
    ·rw [decide_eq_true hc] at hb
     rw [hb, Bool.not_true, cond_false, if_pos hc]
     have push : ∀ x : Int, Ret (config_parser_track_J2 (n + 4) (some (e.b, 0)) nm x h4) fun r h' => ∃ S', r = .bool (endL e.s e.l (setP st { st.p with k := st.p.k + 1 + 1, trs := st.p.trs ++ [(nm, x)] })).2 ∧ Fr (foot g.f) h S' h' ∧ Inv e h' (endL e.s e.l (setP st { st.p with k := st.p.k + 1 + 1, trs := st.p.trs ++ [(nm, x)] })).1 S' := by
      intro x
      obtain ⟨g3, hg3, j3⟩ := j3
      rw [config_parser_track_J2_eq]
      simp only [nnK_some', Nat.zero_add]
      rw [j3.cell (o := 16) rfl, asSlice_slice]
      obtain ⟨y', cap', h5, h6, S', e5, f5, e6, f6, j6⟩ := j3.pushTr (nm, x) (by show st.p.trs.length + 1 ≤ st.p.k + 1 + 1; omega)
      dsimp only [encT, setP] at e5 e6 ⊢
      rw [newK_eq, e5, e6]
      refine (line_ret j6 (n + 2)).mono ?_
      rintro _ h7 ⟨rfl, f7, j7⟩
      rw [← hg3] at f6
      exact ⟨_, rfl, (f13.trans f6).trans f7, j7⟩
     cases (dashP w).2 with
     | true =>
      rw [cond_true, wrap_i64 (by omega) (by omega), if_pos rfl, Int.zero_sub]
      exact push _
     | false =>
      rw [cond_false, if_neg (by decide)]
      exact push _
    ·rw [decide_eq_false hc] at hb
     rw [hb, Bool.not_false, cond_true, if_neg hc]
     refine (fail_ret j3 (n + 3) _ _).bind ?_
     rintro _ h5 ⟨rfl, f5, j5⟩
     simp only [asBool_bool]
     exact .pure ⟨_, rfl, f13.trans f5, j5⟩
   cases hg : (numP (bs (dashP w).1)).2 with
   | false =>
    rw [Bool.not_false, cond_true]
    rw [hg] at key
    exact key _ (by simp)
   | true =>
    rw [Bool.not_true, cond_false]
    rw [hg] at key
    by_cases h1 : (numP (bs (dashP w).1)).1 < 1
    ·rw [decide_eq_true h1, cond_true]
     exact key _ (by simp; omega)
    ·rw [decide_eq_false h1, cond_false]
     refine key _ ?_
     by_cases h2 : 254 < (numP (bs (dashP w).1)).1
     ·rw [decide_eq_true h2, decide_eq_false (by rintro ⟨_, _, h⟩; omega)]; rfl
     ·rw [decide_eq_false h2, decide_eq_true ⟨rfl, by omega, by omega⟩]; rfl
end
end Go.Ev.Tryd

/- The configuration's reader: a block. -/
namespace Go.Ev
section
variable {K V : Type}
theorem perm_map_inv {α β : Type} {f : α → β} {l : List β} {L : List α} (h : l.Perm (L.map f)) : ∃ L' : List α, L'.Perm L ∧ l = L'.map f := by
 generalize hM : L.map f = M at h
 induction h generalizing L with
 | nil => exact ⟨[], by rw [List.map_eq_nil_iff] at hM; rw [hM], rfl⟩
 | cons x p ih =>
  cases L with
  | nil => cases hM
  | cons y L =>
   simp only [List.map_cons, List.cons.injEq] at hM
   obtain ⟨L', h1, rfl⟩ := ih hM.2
   exact ⟨y :: L', h1.cons y, by rw [List.map_cons, hM.1]⟩
 | swap x y l =>
  match L, hM with
  | a :: b :: L, hM =>
   simp only [List.map_cons, List.cons.injEq] at hM
   obtain ⟨rfl, rfl, rfl⟩ := hM
   exact ⟨b :: a :: L, .swap _ _ _, rfl⟩
 | trans p q ih1 ih2 =>
  obtain ⟨L1, h1, e1⟩ := ih2 hM
  obtain ⟨L2, h2, e2⟩ := ih1 e1.symm
  exact ⟨L2, h2.trans h1, e2⟩
theorem born_of {ek : K → AV} {ev : V → AV} : ∀ {es : List (AV × AV × Nat)} {L : List (K × V)}, (es.map fun e => (e.1, e.2.1)) = L.map (fun e => (ek e.1, ev e.2)) → ∃ LL : List (K × V × Nat), es = LL.map (fun x => (ek x.1, ev x.2.1, x.2.2)) ∧ LL.map (fun x => (x.1, x.2.1)) = L
 | [], [], _ => ⟨[], rfl, rfl⟩
 | [], _ :: _, h => by cases h
 | _ :: _, [], h => by cases h
 | (a, b, c) :: es, (k, v) :: L, h => by
  simp only [List.map_cons, List.cons.injEq, Prod.mk.injEq] at h
  obtain ⟨⟨rfl, rfl⟩, h⟩ := h
  obtain ⟨LL, rfl, rfl⟩ := born_of h
  exact ⟨(k, v, c) :: LL, rfl, rfl⟩
theorem MObj.of_perm {ek : K → AV} {ev : V → AV} {es : List (AV × AV × Nat)} {clk : Nat} {L : List (K × V)} (hp : (es.map fun e => (e.1, e.2.1)).Perm (L.map fun e => (ek e.1, ev e.2))) (hn : (es.map (·.2.2)).Nodup) (hb : ∀ e ∈ es, e.2.2 < clk) :
  ∃ L', L'.Perm L ∧ MObj ek ev L' (.map es clk) := by
 obtain ⟨L', h1, e1⟩ := perm_map_inv hp
 obtain ⟨LL, rfl, e2⟩ := born_of e1
 refine ⟨L', h1, LL, clk, rfl, e2, ?_, ?_⟩
 ·simpa [List.map_map, Function.comp_def] using hn
 ·intro x hx
  exact hb _ (List.mem_map_of_mem hx)
theorem lk_perm [DecidableEq K] {L L' : List (K × V)} (hp : L'.Perm L) (hn : (L.map (·.1)).Nodup) (k : K) : lk L' k = lk L k := by
 induction hp with
 | nil => rfl
 | cons x p ih =>
  rw [lk_cons, lk_cons]
  simp only [List.map_cons, List.nodup_cons] at hn
  rw [ih hn.2]
 | swap x y l =>
  simp only [List.map_cons, List.nodup_cons, List.mem_cons, not_or] at hn
  rw [lk_cons, lk_cons, lk_cons, lk_cons]
  by_cases h1 : k = x.1 <;> by_cases h2 : k = y.1
  ·exact absurd (h1.symm.trans h2) hn.1.1
  ·simp only [if_pos h1, if_neg h2]
  ·simp only [if_neg h1, if_pos h2]
  ·simp only [if_neg h1, if_neg h2]
 | trans p q ih1 ih2 => rw [ih1 ((q.map _).nodup_iff.2 hn), ih2 hn]
theorem lk_mem [DecidableEq K] {L : List (K × V)} {k : K} {v : V} (h : lk L k = some v) : (k, v) ∈ L := by
 unfold lk at h
 cases hf : L.find? fun e => decide (k = e.1) with
 | none => rw [hf] at h; cases h
 | some e =>
  rw [hf] at h
  obtain rfl : e.2 = v := by simpa using h
  have h1 := List.find?_some hf
  have h2 := List.mem_of_find?_eq_some hf
  obtain rfl : k = e.1 := by simpa using h1
  exact h2
end
end Go.Ev
namespace Go.Ev.Tryd
set_option maxRecDepth 10000
open Go.Proofs
structure Key where
 (most : Int) (need : Bool) (f : Nat) (x y : List AV) (sem : St → St × Bool)
def encK (k : Key) : AV := .agg [.int .i64 k.most, .bool k.need, .func k.f k.x k.y]
def encN (v : Int) : AV := .int .i64 v
def cnt (M : List (Bs × Int)) (w : Bs) : Int := (lk M w).getD 0
def lackB (L : List (Bs × Key)) (M : List (Bs × Int)) : Bool := L.any fun x => x.2.need && decide (cnt M x.1 = 0)
def closeS (s : Bs) (l : List Wd) (L : List (Bs × Key)) (M : List (Bs × Int)) (st : St) : St × Bool :=
 if lackB L M = true then (setP st (failP st.p (placeP s l st.p.k) 183), false) else endL s l (setP st { st.p with k := st.p.k + 1 })
def bodyS (s : Bs) (l : List Wd) (L : List (Bs × Key)) : Nat → List (Bs × Int) → St → St × Bool
 | 0, _, st => (st, false)
 | F + 1, M, st =>
  if peekP l st.p.k = ⟨#[125]⟩ then closeS s l L M st
  else match lk L (peekP l st.p.k) with
   | none => (setP st (failP st.p (placeP s l st.p.k) 180), false)
   | some key =>
    if key.most ≤ cnt M (peekP l st.p.k) then (setP st (failP st.p (placeP s l st.p.k) (if key.most = 1 then 181 else 184)), false)
    else if (key.sem (setP st { st.p with k := st.p.k + 1 })).2 = true then bodyS s l L F (pt M (peekP l st.p.k) (cnt M (peekP l st.p.k) + 1)) (key.sem (setP st { st.p with k := st.p.k + 1 })).1
    else ((key.sem (setP st { st.p with k := st.p.k + 1 })).1, false)
def blockS (s : Bs) (l : List Wd) (L : List (Bs × Key)) (st : St) : St × Bool :=
 if (mustP s l ⟨#[123]⟩ st.p).2 = true then
  if (mustP s l nl (mustP s l ⟨#[123]⟩ st.p).1).2 = true then bodyS s l L (l.length + 1) [] (setP st (mustP s l nl (mustP s l ⟨#[123]⟩ st.p).1).1)
  else (setP st (mustP s l nl (mustP s l ⟨#[123]⟩ st.p).1).1, false)
 else (setP st (mustP s l ⟨#[123]⟩ st.p).1, false)
theorem lackB_perm {L L' : List (Bs × Key)} (hp : L'.Perm L) (M : List (Bs × Int)) : lackB L' M = lackB L M := by
 unfold lackB
 rw [Bool.eq_iff_iff, List.any_eq_true, List.any_eq_true]
 exact ⟨fun ⟨x, h, k⟩ => ⟨x, hp.mem_iff.1 h, k⟩, fun ⟨x, h, k⟩ => ⟨x, hp.mem_iff.2 h, k⟩⟩
theorem cnt_look {β : Type} {h : H} {m : Nat} {o : AObj} {M : List (Bs × Int)} (hg : h.get m = some o) (ho : MObj AV.str encN M o) (w : Bs) (f : Int → Option β) : (lookK (.int .i64 0) (some m) (.str w) h fun v _ => asInt .i64 v f) = f (cnt M w) := by
 rw [lookK_of keys_str hg ho]
 unfold cnt
 cases lk M w <;> rfl
section
variable {e : En} {S0 S : List Nat} {h0 h hb : H} {st : St}
/-- each key is looked at, in whatever order -/
theorem block_range (i : Inv e hb st S) {im mm it n : Nat} {M : List (Bs × Int)} {oM : AObj} (kM : At hb mm oM) (hM : MObj AV.str encN M oM) {LL : List (Bs × Key × Nat)} {clk : Nat} (hn : 6 ≤ n) (him : im < hb.next) (hit : hb.next ≤ it) (hk : st.p.k < e.l.length)
  {kk : AV → H → Option Unit} (hkk : ∀ r h', (r = .bool (closeS e.s e.l (LL.map fun x => (x.1, x.2.1)) M st).2 ∧ Fr S hb S h' ∧ Inv e h' (closeS e.s e.l (LL.map fun x => (x.1, x.2.1)) M st).1 S) → kk r h' = some ()) :
  ∀ (c m : Nat) (h : H) (done rest : List (Bs × Key × Nat)), rest.length = c → c < m → Mod [] hb h → it < h.next → Iter h it im AV.str encK LL clk done rest → (∀ x ∈ done, (x.2.1.need && decide (cnt M x.1 = 0)) = false) → config_parser_block_L3 n m (some (e.b, 0)) (some mm) (some (it, 0)) h kk = some () := by
 classical
 intro c
 induction c with
 | zero =>
  intro m h done rest hr hm md hi itr hd
  obtain ⟨m, rfl⟩ : ∃ k, m = k + 1 := ⟨m - 1, by omega⟩
  obtain rfl : rest = [] := List.length_eq_zero_iff.1 hr
  rw [config_parser_block_L3_eq]
  simp only [nnK_some']
  refine itr.next (fun x rest' h' hp => absurd hp.length_eq (by simp)) fun _ => ?_
  have hl : lackB (LL.map fun x => (x.1, x.2.1)) M = false := by
   cases hq : lackB (LL.map fun x => (x.1, x.2.1)) M with
   | false => rfl
   | true =>
    obtain ⟨x, hx, hx2⟩ := List.any_eq_true.1 hq
    obtain ⟨y, hy, rfl⟩ := List.mem_map.1 hx
    have := itr.perm.mem_iff.2 hy
    rw [List.append_nil] at this
    rw [hd y this] at hx2; cases hx2
  have j := i.frame md
  unfold closeS at hkk
  rw [if_neg (by rw [hl]; decide)] at hkk
  obtain ⟨h1, e1, f1, j1⟩ := j.step hk
  simp only [Nat.zero_add]
  rw [e1]
  obtain ⟨n, rfl⟩ : ∃ k, n = k + 2 := ⟨n - 2, by omega⟩
  obtain ⟨r, h2, e2, rfl, f2, j2⟩ := must_ret j1 n (w := nl) (by decide)
  rw [e2, Option.bind_some, asBool_bool]
  exact hkk _ _ ⟨rfl, ((Fr.mod0 md).trans f1).trans f2, j2⟩
 | succ c ih =>
  intro m h done rest hr hm md hi itr hd
  obtain ⟨m, rfl⟩ : ∃ k, m = k + 1 := ⟨m - 1, by omega⟩
  rw [config_parser_block_L3_eq]
  simp only [nnK_some']
  refine itr.next (fun x rest' h' hp h1 h2 it' => ?_) fun hr' => by rw [hr'] at hr; cases hr
  have md' : Mod [] hb h' := ⟨by rw [h1]; exact md.next, fun j hj _ => by rw [h2 j (by omega)]; exact md.get j hj (by simp)⟩
  rw [it'.entry, asStr_str]
  simp only [encK, asAgg_agg, lI_of, lB_of, lc_cons, l0_nil]
  rw [newK_eq, box_wr (n := 3) rfl rfl rfl, cellK_of (get_new_self _ _) rfl, asBool_bool]
  have md2 : Mod [] hb (h'.new (.cells [.int .i64 x.2.1.most, .bool x.2.1.need, .func x.2.1.f x.2.1.x x.2.1.y] false)) := md'.new _
  have hx : x ∈ rest := hp.mem_iff.2 (by simp)
  have key : ∀ b : Bool, b = (x.2.1.need && decide (cnt M x.1 = 0)) → config_parser_block_J4 n m (some (e.b, 0)) (some mm) (some (it, 0)) b (h'.new (.cells [.int .i64 x.2.1.most, .bool x.2.1.need, .func x.2.1.f x.2.1.x x.2.1.y] false)) kk = some () := by
   intro b hb'
   rw [config_parser_block_J4_eq]
   cases b with
   | true =>
    have hl : lackB (LL.map fun x => (x.1, x.2.1)) M = true := List.any_eq_true.2 ⟨(x.1, x.2.1), List.mem_map.2 ⟨x, itr.perm.mem_iff.1 (by simp [hx]), rfl⟩, hb'.symm⟩
    unfold closeS at hkk
    rw [if_pos hl] at hkk
    have j := i.frame md2
    obtain ⟨n, rfl⟩ : ∃ k, n = k + 1 := ⟨n - 1, by omega⟩
    rw [cond_true, place_eq j, Option.bind_some, asInt_int]
    obtain ⟨r, h3, e3, rfl, f3, j3⟩ := fail_ret j n (placeP e.s e.l st.p.k) 183
    rw [e3, Option.bind_some, asBool_bool]
    exact hkk _ _ ⟨rfl, (Fr.mod0 md2).trans f3, j3⟩
   | false =>
    rw [cond_false]
    refine ih m _ (done ++ [x]) rest' (by have := hp.length_eq; simp at this; omega) (by omega) md2 (by show it < h'.next + 1; omega) (it'.move (get_new_lt (md'.lt him)) (get_new_lt (by omega))) fun y hy => ?_
    ·rcases List.mem_append.1 hy with hy | hy
     ·exact hd y hy
     ·obtain rfl := List.mem_singleton.1 hy
      exact hb'.symm
  generalize h'.new (.cells [.int .i64 x.2.1.most, .bool x.2.1.need, .func x.2.1.f x.2.1.x x.2.1.y] false) = h2 at md2 key ⊢
  cases hnd : x.2.1.need with
  | true =>
   rw [cond_true, cnt_look ((md2.get _ kM.lt (by simp)).trans kM.get) hM]
   rw [hnd] at key
   exact key _ (by by_cases hq : cnt M x.1 = 0 <;> simp [hq])
  | false =>
   rw [cond_false]
   rw [hnd] at key
   exact key _ rfl
theorem Row.cellsAt {h : H} {size : Nat} {p : Option (Nat × Nat)} {len : Nat} {c : Cap} {vs : List AV} (s : Row h size p len c vs) : ∀ b ∈ own p, ∃ cs ro, h.get b = some (.cells cs ro) := by
  cases s with
  | nil => simp
  | row _ hg => intro b hb; obtain rfl := by simpa using hb
                exact ⟨_, _, hg⟩
/-- a map is no part of the reader -/
theorem Inv.setMap (i : Inv e h st S) {mm : Nat} {es : List (AV × AV × Nat)} {clk : Nat} (k : Kept S h mm (.map es clk)) (o' : AObj) : Inv e (h.set mm o') st S := by
 obtain ⟨g, rfl, i⟩ := i
 have m : Mod [mm] h (h.set mm o') := (Mod.refl _ _).set (.inr (by simp)) _
 have hr : ∀ {size : Nat} {p : Option (Nat × Nat)} {len : Nat} {c : Cap} {vs : List AV}, Row h size p len c vs → Row (h.set mm o') size p len c vs := fun r => r.mod m fun b hb hm => by
  obtain rfl : b = mm := by simpa using hm
  obtain ⟨cs, ro, e1⟩ := Row.cellsAt r b hb
  rw [k.at_.get] at e1; cases e1
 exact ⟨g, rfl, ⟨i.ow.le, fun j x e1 => (m.get x (i.ow.lt j x e1) (by
  simp only [List.mem_singleton]
  rintro rfl
  exact k.out (i.ow.mem.2 ⟨j, e1⟩))).trans (i.ow.get j x e1), i.ow.lt, i.ow.ge, i.ow.inj, i.ow.top⟩, i.fb, i.cb, hr i.lrow, i.sp, i.vp, i.tp, i.gp, i.esv, fun x hx => hr (i.rows x hx), i.rge, i.fy, i.cy, i.fv, i.cv, i.bp, i.fk, i.ck, i.kl, i.ok⟩
theorem Kept.set {i mm : Nat} {o : AObj} (k : Kept S h i o) (hi : i ≠ mm) (o' : AObj) : Kept S (h.set mm o') i o := ⟨⟨k.at_.lt, (get_set_ne hi).trans k.at_.get⟩, k.out⟩
theorem setNewF (f : Fr S0 h0 S h) {mm : Nat} (hm : h0.next ≤ mm) (o' : AObj) : Fr S0 h0 S (h.set mm o') := ⟨f.mod.set (.inl hm) _, f.own⟩
theorem cnt_pt (M : List (Bs × Int)) (w w' : Bs) (v : Int) : cnt (pt M w v) w' = if w' = w then v else cnt M w' := by
 unfold cnt
 rw [lk_pt]
 split <;> rfl
/-- the keys of a block -/
structure KeysOk (e : En) (S0 : List Nat) (h0 : H) (N : Nat) (L : List (Bs × Key)) : Prop where
 rd : ∀ x ∈ L, RdOk e S0 h0 N x.2.f x.2.x x.2.y x.2.sem
 mono : ∀ x ∈ L, ∀ st : St, st.p.k ≤ (x.2.sem st).1.p.k
 none : lk L ⟨#[]⟩ = none
 most : ∀ x ∈ L, x.2.most ≤ 1000
 few : L.length ≤ 1000
theorem block_loop {N n : Nat} {L : List (Bs × Key)} (ks : KeysOk e S0 h0 N L) (hN : N ≤ n) (hn : 1100 ≤ n) {im mm : Nat} {oL : AObj} (kL : Kept S0 h0 im oL) (hL : MObj AV.str encK L oL)
  (kk : AV → H → Option Unit) : ∀ (F m : Nat) (M : List (Bs × Int)) (oM : AObj) (h : H) (S : List Nat) (st : St), Inv e h st S → Fr S0 h0 S h → Kept S h mm oM → MObj AV.str encN M oM → h0.next ≤ mm → (∀ w, 0 ≤ cnt M w ∧ cnt M w ≤ 1000) → e.l.length < st.p.k + F → F ≤ m →
   (∀ r h', (∃ S', r = .bool (bodyS e.s e.l L F M st).2 ∧ Fr S0 h0 S' h' ∧ Inv e h' (bodyS e.s e.l L F M st).1 S') → kk r h' = some ()) →
   config_parser_block_L1 n m (some (e.b, 0)) (some im) (some mm) h kk = some () := by
 intro F
 induction F with
 | zero =>
  intro m M oM h S st i fr km hM hne hcn hF _ _
  have := i.okp.k
  omega
 | succ F ih =>
  intro m M oM h S st i fr km hM hne hcn hF hm hkk
  obtain ⟨m, rfl⟩ : ∃ k, m = k + 1 := ⟨m - 1, by omega⟩
  obtain ⟨n', rfl⟩ : ∃ k, n = k + 1 := ⟨n - 1, by omega⟩
  have kim := kL.fr fr
  rw [config_parser_block_L1_eq, place_eq i, Option.bind_some, asInt_int, peek_eq i, Option.bind_some, asStr_str, lookK_of keys_str kim.at_.get hL, str_eq]
  unfold bodyS at hkk
  by_cases hsh : peekP e.l st.p.k = ⟨#[125]⟩
  ·rw [if_pos hsh] at hkk
   rw [decide_eq_true hsh]
   have hk : st.p.k < e.l.length := peekP_lt (by rw [hsh]; decide)
   have fin : ∀ h2 : H, Mod [] h h2 → (rangeMK (some im) h2 fun i23 h24 => config_parser_block_L3 (n' + 1) (n' + 1) (some (e.b, 0)) (some mm) (some (i23, 0)) h24 kk) = some () := by
    intro h2 md
    have kim2 : Kept S h2 im oL := kim.fr (.mod0 md)
    obtain ⟨LL, clk, hLL, it, e1, itr⟩ := Iter.begin kim2.at_.get hL kim2.at_.lt
    rw [e1]
    have km2 : Kept S h2 mm oM := km.fr (.mod0 md)
    have hlen : LL.length ≤ 1000 := by have := ks.few; rw [← hLL, List.length_map] at this; exact this
    refine block_range (i.frame md) km2.at_ hM (by omega) kim2.at_.lt (Nat.le_refl _) hk (fun r h' hq => ?_) LL.length (n' + 1) _ [] LL rfl (by omega) ((Mod.refl _ _).new _) (Nat.lt_succ_self _) itr (by simp)
    rw [hLL] at hq
    obtain ⟨h3, h4, h5⟩ := hq
    exact hkk r h' ⟨S, h3, (fr.trans (Fr.mod0 md)).trans h4, h5⟩
   cases lk L (peekP e.l st.p.k) with
   | none =>
    simp only [asAgg_agg, lI_of, lB_of, lc_cons, l0_nil]
    rw [newK_eq, box_wr (n := 3) rfl rfl rfl, cond_true]
    exact fin _ ((Mod.refl _ _).new _)
   | some key =>
    simp only [encK, asAgg_agg, lI_of, lB_of, lc_cons, l0_nil]
    rw [newK_eq, box_wr (n := 3) rfl rfl rfl, cond_true]
    exact fin _ ((Mod.refl _ _).new _)
  ·rw [if_neg hsh] at hkk
   rw [decide_eq_false hsh]
   cases hlk : lk L (peekP e.l st.p.k) with
   | none =>
    rw [hlk] at hkk
    simp only [asAgg_agg, lI_of, lB_of, lc_cons, l0_nil]
    rw [newK_eq, box_wr (n := 3) rfl rfl rfl, cond_false, Bool.not_false, cond_true]
    obtain ⟨r, h2, e2, rfl, f2, j2⟩ := fail_ret (i.frame (((Mod.refl [] h).new (.cells [.int .i64 0, .bool false, .nilFunc] false)))) n' (placeP e.s e.l st.p.k) 180
    rw [e2, Option.bind_some, asBool_bool]
    exact hkk _ _ ⟨S, rfl, (fr.trans (Fr.mod0 ((Mod.refl [] h).new _))).trans f2, j2⟩
   | some key =>
    rw [hlk] at hkk
    have hmem : (peekP e.l st.p.k, key) ∈ L := lk_mem hlk
    have hne0 : peekP e.l st.p.k ≠ ⟨#[]⟩ := fun e' => by rw [e', ks.none] at hlk; cases hlk
    have hk := peekP_lt hne0
    generalize hw : peekP e.l st.p.k = w at hkk hmem hsh hlk hne0 ⊢
    simp only [encK, asAgg_agg, lI_of, lB_of, lc_cons, l0_nil]
    rw [newK_eq, box_wr (n := 3) rfl rfl rfl, cond_false, Bool.not_true, cond_false]
    have md : Mod [] h (h.new (.cells [.int .i64 key.most, .bool key.need, .func key.f key.x key.y] false)) := (Mod.refl _ _).new _
    have kb : Kept S (h.new (.cells [.int .i64 key.most, .bool key.need, .func key.f key.x key.y] false)) h.next (.cells [.int .i64 key.most, .bool key.need, .func key.f key.x key.y] false) := ⟨.new _ _, fun hx => by have := i.ltS _ hx; omega⟩
    have hbn : mm ≠ h.next := fun e' => by have := km.at_.lt; omega
    generalize h.next = b at kb hbn ⊢
    generalize h.new (.cells [.int .i64 key.most, .bool key.need, .func key.f key.x key.y] false) = h1 at md kb ⊢
    have i1 := i.frame md
    have km1 := km.fr (.mod0 md)
    rw [cnt_look km1.at_.get hM, kb.cell, asInt_int]
    have key1 : ∀ d : Bool, d = decide (key.most ≤ cnt M w ∧ key.most = 1) → config_parser_block_J2 (n' + 1) m (some (e.b, 0)) (some im) (some mm) (placeP e.s e.l st.p.k) w (some (b, 0)) d h1 kk = some () := by
     intro d hd
     rw [config_parser_block_J2_eq]
     cases d with
     | true =>
      have hd' := of_decide_eq_true hd.symm
      rw [cond_true]
      obtain ⟨r, h2, e2, rfl, f2, j2⟩ := fail_ret i1 n' (placeP e.s e.l st.p.k) 181
      rw [e2, Option.bind_some, asBool_bool]
      refine hkk _ _ ⟨S, ?_, (fr.trans (Fr.mod0 md)).trans f2, ?_⟩
      ·simp only [if_pos hd'.1]
      ·simp only [if_pos hd'.1, if_pos hd'.2]; exact j2
     | false =>
      have hd' := of_decide_eq_false hd.symm
      rw [cond_false, cnt_look km1.at_.get hM, nnK_some', kb.cell, asInt_int]
      by_cases hmo : key.most ≤ cnt M w
      ·have h1' : key.most ≠ 1 := fun e' => hd' ⟨hmo, e'⟩
       rw [decide_eq_true (show cnt M w ≥ key.most from hmo), cond_true]
       obtain ⟨r, h2, e2, rfl, f2, j2⟩ := fail_ret i1 n' (placeP e.s e.l st.p.k) 184
       rw [e2, Option.bind_some, asBool_bool]
       refine hkk _ _ ⟨S, ?_, (fr.trans (Fr.mod0 md)).trans f2, ?_⟩
       ·simp only [if_pos hmo]
       ·simp only [if_pos hmo, if_neg h1']; exact j2
      ·rw [decide_eq_false (show ¬ cnt M w ≥ key.most from hmo), cond_false, cnt_look km1.at_.get hM]
       obtain ⟨o', hM', e3⟩ := putK_of (β := Unit) keys_str km1.at_.get hM w (cnt M w + 1)
       have hwr : IntKind.i64.wrap (cnt M w + 1) = cnt M w + 1 := by have := hcn w; exact wrap_i64 (by omega) (by omega)
       rw [hwr, show (AV.int .i64 (cnt M w + 1)) = encN (cnt M w + 1) from rfl, e3, nnK_some']
       simp only [Nat.zero_add, nnK_some']
       obtain ⟨LM, clkM, hoM, _⟩ := hM
       have i2 : Inv e (h1.set mm o') st S := i1.setMap (hoM ▸ km1) o'
       obtain ⟨h3, e4, f4, i3⟩ := i2.step hk
       rw [e4]
       have kb3 := (kb.set hbn.symm o').fr f4
       rw [cellK_of kb3.at_.get rfl, asFn_of]
       have fr3 : Fr S0 h0 S h3 := (setNewF (fr.trans (.mod0 md)) hne o').trans f4
       have rd := ks.rd _ hmem
       have mono := ks.mono _ hmem (setP st { st.p with k := st.p.k + 1 })
       have hmost := ks.most _ hmem
       have km3 : Kept S h3 mm o' := Kept.fr (h := h1.set mm o') ⟨⟨km1.at_.lt, get_set_self _ _ _⟩, km1.out⟩ f4
       refine rd.run (n' + 1) hN h3 S _ fr3 i3 _ fun r h4 hq => ?_
       obtain ⟨S4, rfl, f5, i5⟩ := hq
       rw [rd.gives, asBool_bool]
       simp only [if_neg hmo] at hkk
       change ∀ r h', (∃ S', r = .bool (if (key.sem (setP st { st.p with k := st.p.k + 1 })).2 = true then bodyS e.s e.l L F (pt M w (cnt M w + 1)) (key.sem (setP st { st.p with k := st.p.k + 1 })).1 else ((key.sem (setP st { st.p with k := st.p.k + 1 })).1, false)).2 ∧ Fr S0 h0 S' h' ∧ Inv e h' (if (key.sem (setP st { st.p with k := st.p.k + 1 })).2 = true then bodyS e.s e.l L F (pt M w (cnt M w + 1)) (key.sem (setP st { st.p with k := st.p.k + 1 })).1 else ((key.sem (setP st { st.p with k := st.p.k + 1 })).1, false)).1 S') → kk r h' = some () at hkk
       change Inv e h4 (key.sem (setP st { st.p with k := st.p.k + 1 })).1 S4 at i5
       change st.p.k + 1 ≤ (key.sem (setP st { st.p with k := st.p.k + 1 })).1.p.k at mono
       show (bif !(key.sem (setP st { st.p with k := st.p.k + 1 })).2 then kk (.bool false) h4 else config_parser_block_L1 (n' + 1) m (some (e.b, 0)) (some im) (some mm) h4 kk) = some ()
       cases hsem : (key.sem (setP st { st.p with k := st.p.k + 1 })).2 with
       | false =>
        rw [Bool.not_false, cond_true]
        rw [hsem] at hkk
        exact hkk _ _ ⟨S4, rfl, fr3.trans f5, i5⟩
       | true =>
        rw [Bool.not_true, cond_false]
        rw [hsem] at hkk
        refine ih m (pt M w (cnt M w + 1)) o' h4 S4 _ i5 (fr3.trans f5) (km3.fr f5) hM' hne (fun w' => ?_) (by omega) (by omega) fun r h' hq => hkk r h' ?_
        ·rw [cnt_pt]
         have := hcn w
         split
         ·simp only at hmost; omega
         ·exact hcn w'
        ·simpa using hq
    by_cases hmo : cnt M w ≥ key.most
    ·rw [decide_eq_true hmo, cond_true, kb.cell, asInt_int]
     refine key1 _ ?_
     by_cases h1' : key.most = 1
     ·rw [decide_eq_true (show key.most ≤ cnt M w ∧ key.most = 1 from ⟨hmo, h1'⟩), h1']; rfl
     ·rw [decide_eq_false (fun q => h1' q.2)]; simpa using h1'
    ·rw [decide_eq_false hmo, cond_false]
     exact key1 _ (decide_eq_false fun q => hmo q.1).symm
end
end Go.Ev.Tryd

/- The configuration's reader: a block as a whole; the readers of keys are made. -/
namespace Go.Ev.Tryd
set_option maxRecDepth 10000
open Go.Proofs
section
variable {e : En} {S : List Nat} {h : H} {st : St}
theorem block_ret {n N : Nat} {L L0 : List (Bs × Key)} (ks : KeysOk e S h N L) (i : Inv e h st S) {im : Nat} {oL : AObj} (kL : Kept S h im oL) (hL : MObj AV.str encK L oL) (hN : N + 2 ≤ n) (h1 : 1110 ≤ n) (h2 : e.l.length + 5 ≤ n) (he : blockS e.s e.l L st = blockS e.s e.l L0 st) :
  RetK (fun kk => cr n i_config_parser_block [.ptr (some (e.b, 0)), .map (some im)] h kk) fun r h' => ∃ S', r = .bool (blockS e.s e.l L0 st).2 ∧ Fr S h S' h' ∧ Inv e h' (blockS e.s e.l L0 st).1 S' := by
 rw [← he]
 intro kk hkk
 obtain ⟨n, rfl⟩ : ∃ k, n = k + 3 := ⟨n - 3, by omega⟩
 show cr (n + 2 + 1) i_config_parser_block [.ptr (some (e.b, 0)), .map (some im)] h kk = some ()
 rw [config_parser_block_eq]
 obtain ⟨r, h3, e3, rfl, f3, j3⟩ := must_ret i n (w := ⟨#[123]⟩) (by decide)
 rw [e3, Option.bind_some, asBool_bool]
 unfold blockS at hkk
 cases hm : (mustP e.s e.l ⟨#[123]⟩ st.p).2 with
 | false =>
  rw [if_neg (by rw [hm]; decide)] at hkk
  rw [Bool.not_false, cond_true, config_parser_block_J0_eq, cond_true]
  exact hkk _ _ ⟨S, rfl, f3, j3⟩
 | true =>
  rw [if_pos hm] at hkk
  rw [Bool.not_true, cond_false]
  obtain ⟨r, h4, e4, rfl, f4, j4⟩ := must_ret j3 n (w := nl) (by decide)
  rw [e4, Option.bind_some, asBool_bool, config_parser_block_J0_eq]
  change Inv e h4 (setP st (mustP e.s e.l nl (mustP e.s e.l ⟨#[123]⟩ st.p).1).1) S at j4
  show (bif !(mustP e.s e.l nl (mustP e.s e.l ⟨#[123]⟩ st.p).1).2 then kk (.bool false) h4 else newK (.map [] 0) h4 fun i5 h6 => config_parser_block_L1 (n + 2) (n + 2) (some (e.b, 0)) (some im) (some i5) h6 kk) = some ()
  cases hm2 : (mustP e.s e.l nl (mustP e.s e.l ⟨#[123]⟩ st.p).1).2 with
  | false =>
   rw [if_neg (by rw [hm2]; decide)] at hkk
   rw [Bool.not_false, cond_true]
   exact hkk _ _ ⟨S, rfl, f3.trans f4, j4⟩
  | true =>
   rw [if_pos hm2] at hkk
   rw [Bool.not_true, cond_false, newK_eq]
   have md : Mod [] h4 (h4.new (.map [] 0)) := (Mod.refl _ _).new _
   refine block_loop ks (by omega) (by omega) kL hL kk (e.l.length + 1) (n + 2) [] (.map [] 0) _ S _ (j4.frame md) ((f3.trans f4).trans (.mod0 md)) ⟨.new _ _, fun hx => by have := j4.ltS _ hx; omega⟩ .nil (f3.trans f4).mod.next (fun w => by simp [cnt, lk]) (by omega) (by omega) fun r h' hq => ?_
   exact hkk r h' hq
/-- the order of the keys does not matter -/
theorem bodyS_perm {s : Bs} {l : List Wd} {L L' : List (Bs × Key)} (hp : L'.Perm L) (hn : (L.map (·.1)).Nodup) : ∀ (F : Nat) (M : List (Bs × Int)) (st : St), bodyS s l L' F M st = bodyS s l L F M st
 | 0, _, _ => rfl
 | F + 1, M, st => by
  unfold bodyS closeS
  rw [lackB_perm hp, lk_perm hp hn]
  cases lk L (peekP l st.p.k) with
  | none => rfl
  | some key => simp only [bodyS_perm hp hn F]
theorem blockS_perm {s : Bs} {l : List Wd} {L L' : List (Bs × Key)} (hp : L'.Perm L) (hn : (L.map (·.1)).Nodup) (st : St) : blockS s l L' st = blockS s l L st := by
 unfold blockS
 rw [bodyS_perm hp hn]
theorem KeysOk.perm {S0 : List Nat} {h0 : H} {N : Nat} {L L' : List (Bs × Key)} (ks : KeysOk e S0 h0 N L) (hp : L'.Perm L) (hn : (L.map (·.1)).Nodup) : KeysOk e S0 h0 N L' :=
 ⟨fun x hx => ks.rd x (hp.mem_iff.1 hx), fun x hx => ks.mono x (hp.mem_iff.1 hx), by rw [lk_perm hp hn]; exact ks.none, fun x hx => ks.most x (hp.mem_iff.1 hx), by rw [hp.length_eq]; exact ks.few⟩
/-- what a maker gives -/
def Made (e : En) (S : List Nat) (N : Nat) (sem : St → St × Bool) (h : H) (r : AV) (h' : H) : Prop := Mod [] h h' ∧ ∃ f x y, r = .func f x y ∧ RdOk e S h' N f x y sem
def MadeT (e : En) (S : List Nat) (N : Nat) (tk : St → Bs → Int → St × Bool) (h : H) (r : AV) (h' : H) : Prop := Mod [] h h' ∧ ∃ f x y, r = .func f x y ∧ TkOk e S h' N f x y tk
theorem kept_new {h : H} (hS : ∀ x ∈ S, x < h.next) (o : AObj) : Kept S (h.new o) h.next o := ⟨.new _ _, fun hx => by have := hS _ hx; omega⟩
theorem Kept.mod0 {h' : H} {i : Nat} {o : AObj} (k : Kept S h i o) (m : Mod [] h h') : Kept S h' i o := k.fr (.mod0 m)
theorem number_mk (hS : ∀ x ∈ S, x < h.next) {q : Nat × Nat} {put : St → Int → St} (hp : PutOk e q 1 (fun v => [.int .i64 v]) put) (lo hi : Int) (n : Nat) :
  Ret (ca (n + 1) i_config_parser_number [.ptr (some (e.b, 0)), .ptr (some q), .int .i64 lo, .int .i64 hi] h) (Made e S 30 (numberS e.s e.l put lo hi) h) := by
 rw [config_parser_number_eq]
 simp only [newK_eq]
 have m1 : Mod [] h (h.new (.cells [.ptr (some (e.b, 0))] false)) := (Mod.refl _ _).new _
 have m2 := m1.new (.cells [.ptr (some q)] false)
 have m3 := m2.new (.cells [.int .i64 lo] false)
 have m4 := m3.new (.cells [.int .i64 hi] false)
 have hl : ∀ {h' : H}, Mod [] h h' → ∀ x ∈ S, x < h'.next := fun m x hx => m.lt (hS x hx)
 refine .pure ⟨m4, _, _, _, rfl, number_rd hp ?_ ?_ ?_ ?_⟩
 ·exact (((kept_new hS _).mod0 ((Mod.refl _ _).new _)).mod0 ((Mod.refl _ _).new _)).mod0 ((Mod.refl _ _).new _)
 ·exact (kept_new (hl m2) _).mod0 ((Mod.refl _ _).new _)
 ·exact kept_new (hl m3) _
 ·exact ((kept_new (hl m1) _).mod0 ((Mod.refl _ _).new _)).mod0 ((Mod.refl _ _).new _)
theorem choice_mk (hS : ∀ x ∈ S, x < h.next) {q : Nat × Nat} {put : St → Int → St} (hp : PutOk e q 1 (fun v => [.int .i64 v]) put) {m : Nat} (hm : m < h.next) (n : Nat) :
  Ret (ca (n + 1) i_config_parser_choice [.ptr (some (e.b, 0)), .ptr (some q), .map (some m)] h) fun r h' => Mod [] h h' ∧ ∃ y, r = .func i_config_parser_choice_1 [] y ∧ ∀ (S2 : List Nat) (h2 : H) (o : AObj) (L : List (Bs × Int)), (∀ j oj, Kept S h' j oj → j ≠ m → Kept S2 h2 j oj) → Kept S2 h2 m o → MObj AV.str (fun v => .int .i64 v) L o → RdOk e S2 h2 30 i_config_parser_choice_1 [] y (choiceS e.s e.l put L) := by
 rw [config_parser_choice_eq]
 simp only [newK_eq]
 have m1 : Mod [] h (h.new (.cells [.ptr (some (e.b, 0))] false)) := (Mod.refl _ _).new _
 have m2 := m1.new (.cells [.ptr (some q)] false)
 have m3 := m2.new (.cells [.map (some m)] false)
 have hl : ∀ {h' : H}, Mod [] h h' → ∀ x ∈ S, x < h'.next := fun m x hx => m.lt (hS x hx)
 refine .pure ⟨m3, _, rfl, fun S2 h2 o L hk km hm' => choice_rd hp (hk _ _ ?_ ?_) (hk _ _ ?_ ?_) (hk _ _ ?_ ?_) km hm'⟩
 ·exact ((kept_new hS _).mod0 ((Mod.refl _ _).new _)).mod0 ((Mod.refl _ _).new _)
 ·omega
 ·exact (kept_new (hl m2) _)
 ·show h.next + 1 + 1 ≠ m; omega
 ·exact (kept_new (hl m1) _).mod0 ((Mod.refl _ _).new _)
 ·show h.next + 1 ≠ m; omega
theorem card_mk (hS : ∀ x ∈ S, x < h.next) {N : Nat} (hw : ∀ w ∈ e.l, w.1.size < 90000 ∧ w.1.size + 70 ≤ N) (hN : 70 ≤ N) {q : Nat × Nat} {put : St → Cd → St} (hp : PutOk e q 6 enCd put) (n : Nat) :
  Ret (ca (n + 1) i_config_parser_card [.ptr (some (e.b, 0)), .ptr (some q)] h) (Made e S N (cardS e.s e.l put) h) := by
 rw [config_parser_card_eq]
 simp only [newK_eq]
 have m1 : Mod [] h (h.new (.cells [.ptr (some (e.b, 0))] false)) := (Mod.refl _ _).new _
 have m2 := m1.new (.cells [.ptr (some q)] false)
 have hl : ∀ {h' : H}, Mod [] h h' → ∀ x ∈ S, x < h'.next := fun m x hx => m.lt (hS x hx)
 refine .pure ⟨m2, _, _, _, rfl, card_rd hp hw hN ?_ ?_⟩
 ·exact (kept_new hS _).mod0 ((Mod.refl _ _).new _)
 ·exact kept_new (hl m1) _
theorem into_mk (hS : ∀ x ∈ S, x < h.next) {q : Nat × Nat} {put : St → Bs → St} (hp : PutOk e q 1 (fun a => [.str a]) put) (n : Nat) :
  Ret (ca (n + 1) i_config_into [.ptr (some q)] h) (MadeT e S 1 (intoS put) h) := by
 rw [config_into_eq, newK_eq]
 exact .pure ⟨(Mod.refl _ _).new _, _, _, _, rfl, into_tk hp (kept_new hS _)⟩
theorem TkOk.fr {S0 S1 : List Nat} {h0 h1 : H} {N f : Nat} {x y : List AV} {tk : St → Bs → Int → St × Bool} (r : TkOk e S0 h0 N f x y tk) (fr : Fr S0 h0 S1 h1) : TkOk e S1 h1 N f x y tk :=
 ⟨r.gives, fun n hn h S st a at' f' i => r.run n hn h S st a at' (fr.trans f') i⟩
theorem TkOk.more {S0 : List Nat} {h0 : H} {N N' f : Nat} {x y : List AV} {tk : St → Bs → Int → St × Bool} (r : TkOk e S0 h0 N f x y tk) (h : N ≤ N') : TkOk e S0 h0 N' f x y tk := ⟨r.gives, fun n hn => r.run n (by omega)⟩
theorem RdOk.more {S0 : List Nat} {h0 : H} {N N' f : Nat} {x y : List AV} {sem : St → St × Bool} (r : RdOk e S0 h0 N f x y sem) (h : N ≤ N') : RdOk e S0 h0 N' f x y sem := ⟨r.gives, fun n hn => r.run n (by omega)⟩
theorem address_mk (hS : ∀ x ∈ S, x < h.next) {N : Nat} (hw : ∀ w ∈ e.l, w.1.size < 90000 ∧ w.1.size + 70 ≤ N) (hN : 70 ≤ N) (svc : Bool) {f : Nat} {x y : List AV} {tk : St → Bs → Int → St × Bool} (ht : TkOk e S h (N - 1) f x y tk) (n : Nat) :
  Ret (ca (n + 1) i_config_parser_address [.ptr (some (e.b, 0)), .bool svc, .func f x y] h) (Made e S N (addressS e.s e.l svc tk) h) := by
 rw [config_parser_address_eq]
 simp only [newK_eq]
 have m1 : Mod [] h (h.new (.cells [.ptr (some (e.b, 0))] false)) := (Mod.refl _ _).new _
 have m2 := m1.new (.cells [.bool svc] false)
 have m3 := m2.new (.cells [.func f x y] false)
 have hl : ∀ {h' : H}, Mod [] h h' → ∀ x ∈ S, x < h'.next := fun m x hx => m.lt (hS x hx)
 refine .pure ⟨m3, _, _, _, rfl, address_rd hw hN (ht.fr (.mod0 m3)) ?_ ?_ ?_⟩
 ·exact ((kept_new hS _).mod0 ((Mod.refl _ _).new _)).mod0 ((Mod.refl _ _).new _)
 ·exact (kept_new (hl m1) _).mod0 ((Mod.refl _ _).new _)
 ·exact kept_new (hl m2) _
theorem once_eq (need : Bool) (f : Nat) (x y : List AV) (h : H) (n : Nat) : ca (n + 1) i_config_once [.bool need, .func f x y] h = some (.agg [.int .i64 1, .bool need, .func f x y], h.new (.cells [.int .i64 1, .bool need, .func f x y] false)) := by
 rw [config_once_eq, newK_eq, box_wr (n := 3) rfl rfl rfl, aggK_all (n := 3) (get_new_self _ _) rfl]
 simp only [lI_of, lB_of, lc_cons, l0_nil]
end
end Go.Ev.Tryd

/- The configuration's reader: the block node. -/
namespace Go.Ev
theorem Mod.newO {S : List Nat} {a h : H} (q : Mod S a h) (o : Option AObj) : Mod S a (h.newO o) := ⟨by rw [next_newO]; exact Nat.le_succ_of_le q.next, fun i hi hS => by
 have hl := Nat.lt_of_lt_of_le hi q.next
 rw [get_newO (by omega)]; exact q.get i hi hS⟩
theorem restK_ret {hid : List Nat} {ins : List (Nat × AV × AV)} {h : H} {f : H → Option Unit} (h1 : ∀ q ∈ ins, q.1 ∈ hid) (h2 : ∀ i ∈ hid, i < h.next) (h3 : ins.Pairwise fun a b => a.1 = b.1 → keyCmp a.2.1 b.2.1 = some false) (hf : ∀ h', RestR hid ins h h' → f h' = some ()) : restK hid ins h f = some () := by
 unfold restK
 exact if_pos ⟨⟨h1, h2, h3⟩, hf⟩
theorem RestR.fr {hid S : List Nat} {ins : List (Nat × AV × AV)} {h h' : H} (r : RestR hid ins h h') : Fr (hid ++ S) h S h' :=
 ⟨⟨Nat.le_of_eq r.1.symm, fun i _ hS => r.2.1 i fun hi => hS (List.mem_append_left _ hi)⟩, fun i hi => .inl (List.mem_append_right _ hi)⟩
theorem RestR.mod {hid : List Nat} {ins : List (Nat × AV × AV)} {h0 h h' : H} (r : RestR hid ins h h') (m : Mod [] h0 h) (hh : ∀ i ∈ hid, h0.next ≤ i) : Mod [] h0 h' :=
 ⟨by rw [r.1]; exact m.next, fun i hi _ => by
  rw [r.2.1 i fun hm => by have := hh i hm; omega]
  exact m.get i hi (by simp)⟩
end Go.Ev
namespace Go.Ev.Tryd
set_option maxRecDepth 10000
open Go.Proofs
def forK (x : Bs × Key) : Bs × Key := (x.1, { x.2 with f := 0, x := [], y := [] })
theorem lk_forK (L : List (Bs × Key)) (w : Bs) : lk (L.map forK) w = (lk L w).map fun k => (forK (w, k)).2 := by
 induction L with
 | nil => rfl
 | cons x L ih =>
  rw [List.map_cons, lk_cons, lk_cons, ih]
  show (if w = x.1 then _ else _) = _
  split <;> rfl
theorem lackB_forK (L : List (Bs × Key)) (M : List (Bs × Int)) : lackB (L.map forK) M = lackB L M := by
 unfold lackB
 rw [List.any_map]; rfl
theorem bodyS_forK {s : Bs} {l : List Wd} {L : List (Bs × Key)} : ∀ (F : Nat) (M : List (Bs × Int)) (st : St), bodyS s l (L.map forK) F M st = bodyS s l L F M st
 | 0, _, _ => rfl
 | F + 1, M, st => by
  unfold bodyS closeS
  rw [lackB_forK, lk_forK]
  cases lk L (peekP l st.p.k) with
  | none => rfl
  | some key => simp only [Option.map_some, bodyS_forK F]; rfl
theorem blockS_forK {s : Bs} {l : List Wd} {L : List (Bs × Key)} (st : St) : blockS s l (L.map forK) st = blockS s l L st := by
 unfold blockS
 rw [bodyS_forK]
/-- keys as they are, without who reads them -/
def mkK (w : Bs) (most : Int) (need : Bool) (sem : St → St × Bool) : Bs × Key := (w, ⟨most, need, 0, [], [], sem⟩)
def putCard (st : St) (v : Cd) : St := setP st { st.p with card := v }
def putAddr (st : St) (v : Bs) : St := setP st { st.p with addr := v }
def putPeer (st : St) (v : Bs) : St := setP st { st.p with peer := v }
def putId (st : St) (v : Int) : St := setP st { st.p with id := v }
def putPrio (st : St) (v : Int) : St := setP st { st.p with prio := v }
def putEvery (st : St) (v : Int) : St := setP st { st.p with every := v }
def kMac : Bs := ⟨#[109, 97, 99]⟩
def kAddress : Bs := ⟨#[97, 100, 100, 114, 101, 115, 115]⟩
def kPeer : Bs := ⟨#[112, 101, 101, 114]⟩
def nodeK (s : Bs) (l : List Wd) : List (Bs × Key) := [mkK kMac 1 true (cardS s l putCard), mkK kAddress 1 true (addressS s l false (intoS putAddr)), mkK kPeer 1 true (addressS s l false (intoS putPeer))]
def nodeS (s : Bs) (l : List Wd) (st : St) : St × Bool := blockS s l (nodeK s l) st
theorem putOk_p {e : En} {α : Type} {o n : Nat} {enc : α → List AV} {put : Ps → α → Ps} (hn : ∀ v, (enc v).length = n) (hl : o + n ≤ 21) (hc : ∀ v, (enc v).all isCell = true) (hv : ∀ g p v, spl (encP e g p) o (enc v) = encP e g (put p v))
  (hs : ∀ p v, (put p v).spots = p.spots ∧ (put p v).vips = p.vips ∧ (put p v).trs = p.trs ∧ (put p v).svs = p.svs ∧ (put p v).k = p.k) : PutOk e (e.b, o) n enc (fun st v => setP st (put st.p v)) := by
 intro h st S v i
 obtain ⟨h1, h2, h3, h4, h5⟩ := hs st.p v
 have ok := i.okp
 exact i.wrP (hn v) hl (hc v) (fun g => hv g st.p v) h1 h2 h3 h4 ⟨by show (put st.p v).k ≤ _; rw [h5]; exact ok.k, by show (put st.p v).spots.length ≤ (put st.p v).k; rw [h1, h5]; exact ok.spots, by show (put st.p v).vips.length ≤ (put st.p v).k; rw [h2, h5]; exact ok.vips, by show (put st.p v).trs.length ≤ (put st.p v).k; rw [h3, h5]; exact ok.trs, by show (put st.p v).svs.length ≤ (put st.p v).k; rw [h4, h5]; exact ok.svs, by show st.sv.bks.length ≤ (put st.p v).k; rw [h5]; exact ok.bks, ok.len⟩
theorem put_card (e : En) : PutOk e (e.b, 3) 6 enCd putCard := putOk_p (put := fun p v => { p with card := v }) (fun _ => rfl) (by decide) (fun _ => rfl) (fun _ _ _ => rfl) fun _ _ => ⟨rfl, rfl, rfl, rfl, rfl⟩
theorem put_addr (e : En) : PutOk e (e.b, 9) 1 (fun a => [.str a]) putAddr := putOk_p (put := fun p v => { p with addr := v }) (fun _ => rfl) (by decide) (fun _ => rfl) (fun _ _ _ => rfl) fun _ _ => ⟨rfl, rfl, rfl, rfl, rfl⟩
theorem put_peer (e : En) : PutOk e (e.b, 10) 1 (fun a => [.str a]) putPeer := putOk_p (put := fun p v => { p with peer := v }) (fun _ => rfl) (by decide) (fun _ => rfl) (fun _ _ _ => rfl) fun _ _ => ⟨rfl, rfl, rfl, rfl, rfl⟩
theorem put_id (e : En) : PutOk e (e.b, 11) 1 (fun v => [.int .i64 v]) putId := putOk_p (put := fun p v => { p with id := v }) (fun _ => rfl) (by decide) (fun _ => rfl) (fun _ _ _ => rfl) fun _ _ => ⟨rfl, rfl, rfl, rfl, rfl⟩
theorem put_prio (e : En) : PutOk e (e.b, 12) 1 (fun v => [.int .i64 v]) putPrio := putOk_p (put := fun p v => { p with prio := v }) (fun _ => rfl) (by decide) (fun _ => rfl) (fun _ _ _ => rfl) fun _ _ => ⟨rfl, rfl, rfl, rfl, rfl⟩
theorem put_every (e : En) : PutOk e (e.b, 13) 1 (fun v => [.int .i64 v]) putEvery := putOk_p (put := fun p v => { p with every := v }) (fun _ => rfl) (by decide) (fun _ => rfl) (fun _ _ _ => rfl) fun _ _ => ⟨rfl, rfl, rfl, rfl, rfl⟩
theorem mustP_k (s : Bs) (l : List Wd) (w : Bs) (p : Ps) : p.k ≤ (mustP s l w p).1.k := by
 unfold mustP
 split
 ·exact Nat.le_succ _
 ·rw [(failP_k _ _ _).1]; exact Nat.le_refl _
theorem valueP_le (s : Bs) (l : List Wd) (p : Ps) : p.k ≤ (valueP s l p).1.k := by
 unfold valueP
 split
 ·rw [(failP_k _ _ _).1]; exact Nat.le_refl _
 ·exact Nat.le_succ _
theorem endL_k (s : Bs) (l : List Wd) (st : St) : st.p.k ≤ (endL s l st).1.p.k := mustP_k s l nl st.p
theorem numberS_k {s : Bs} {l : List Wd} {put : St → Int → St} (hp : ∀ st v, (put st v).p.k = st.p.k) (lo hi : Int) (st : St) : st.p.k ≤ (numberS s l put lo hi st).1.p.k := by
 unfold numberS
 have hv := valueP_le s l st.p
 generalize valueP s l st.p = v at hv
 obtain ⟨p, w, a, is⟩ := v
 cases is with
 | false => exact hv
 | true =>
  rw [show numberV s l put lo hi st (p, w, a, true) = if (numP (bs w)).2 = true ∧ lo ≤ (numP (bs w)).1 ∧ (numP (bs w)).1 ≤ hi then endL s l (put (setP st p) (numP (bs w)).1) else (setP st (failP p a 182), false) from rfl]
  split
  ·refine Nat.le_trans hv (Nat.le_trans ?_ (endL_k _ _ _))
   rw [hp]; exact Nat.le_refl _
  ·show st.p.k ≤ (failP p a 182).k
   rw [(failP_k _ _ _).1]; exact hv
theorem choiceS_k {s : Bs} {l : List Wd} {put : St → Int → St} (hp : ∀ st v, (put st v).p.k = st.p.k) (L : List (Bs × Int)) (st : St) : st.p.k ≤ (choiceS s l put L st).1.p.k := by
 unfold choiceS
 have hv := valueP_le s l st.p
 generalize valueP s l st.p = v at hv
 obtain ⟨p, w, a, is⟩ := v
 cases is with
 | false => exact hv
 | true =>
  rw [show choiceV s l put L st (p, w, a, true) = (match lk L w with | some v => endL s l (put (setP st p) v) | none => (setP st (failP p a 182), false)) from rfl]
  split
  ·refine Nat.le_trans hv (Nat.le_trans ?_ (endL_k _ _ _))
   rw [hp]; exact Nat.le_refl _
  ·show st.p.k ≤ (failP p a 182).k
   rw [(failP_k _ _ _).1]; exact hv
theorem cardS_k {s : Bs} {l : List Wd} {put : St → Cd → St} (hp : ∀ st v, (put st v).p.k = st.p.k) (st : St) : st.p.k ≤ (cardS s l put st).1.p.k := by
 unfold cardS
 have hv := valueP_le s l st.p
 generalize valueP s l st.p = v at hv
 obtain ⟨p, w, a, is⟩ := v
 cases is with
 | false => exact hv
 | true =>
  rw [show cardV s l put st (p, w, a, true) = if (cardP w).2 = true then endL s l (put (setP st p) (cdOf (cardP w).1)) else (setP st (failP p a 182), false) from rfl]
  split
  ·refine Nat.le_trans hv (Nat.le_trans ?_ (endL_k _ _ _))
   rw [hp]; exact Nat.le_refl _
  ·show st.p.k ≤ (failP p a 182).k
   rw [(failP_k _ _ _).1]; exact hv
theorem addressS_k {s : Bs} {l : List Wd} {svc : Bool} {tk : St → Bs → Int → St × Bool} (hp : ∀ st a at', (tk st a at').1.p.k = st.p.k) (st : St) : st.p.k ≤ (addressS s l svc tk st).1.p.k := by
 unfold addressS
 have hv := valueP_le s l st.p
 generalize valueP s l st.p = v at hv
 obtain ⟨p, w, a, is⟩ := v
 cases is with
 | false => exact hv
 | true =>
  rw [show addressV s l svc tk st (p, w, a, true) = if (adrP w).2 = true then thenEnd s l (tk (setP st { p with spots := p.spots ++ [((adrP w).1, a, svc)] }) (adrP w).1 a) else (setP st (failP p a 182), false) from rfl]
  split
  ·have := hp (setP st { p with spots := p.spots ++ [((adrP w).1, a, svc)] }) (adrP w).1 a
   unfold thenEnd
   split
   ·refine Nat.le_trans hv (Nat.le_trans ?_ (endL_k _ _ _))
    rw [this]; exact Nat.le_refl _
   ·refine Nat.le_trans hv ?_
    show p.k ≤ (tk _ _ _).1.p.k
    rw [this]; exact Nat.le_refl _
  ·show st.p.k ≤ (failP p a 182).k
   rw [(failP_k _ _ _).1]; exact hv
theorem bodyS_k {s : Bs} {l : List Wd} {L : List (Bs × Key)} (hL : ∀ x ∈ L, ∀ st : St, st.p.k ≤ (x.2.sem st).1.p.k) : ∀ (F : Nat) (M : List (Bs × Int)) (st : St), st.p.k ≤ (bodyS s l L F M st).1.p.k
 | 0, _, _ => Nat.le_refl _
 | F + 1, M, st => by
  unfold bodyS
  split
  ·unfold closeS
   split
   ·show st.p.k ≤ (failP _ _ _).k
    rw [(failP_k _ _ _).1]; exact Nat.le_refl _
   ·exact Nat.le_trans (Nat.le_succ _) (endL_k s l (setP st { st.p with k := st.p.k + 1 }))
  ·split
   ·show st.p.k ≤ (failP _ _ _).k
    rw [(failP_k _ _ _).1]; exact Nat.le_refl _
   ·next key hlk =>
    have h1 : st.p.k ≤ (key.sem (setP st { st.p with k := st.p.k + 1 })).1.p.k := Nat.le_trans (Nat.le_succ _) (hL _ (lk_mem hlk) (setP st { st.p with k := st.p.k + 1 }))
    split
    ·show st.p.k ≤ (failP _ _ _).k
     rw [(failP_k _ _ _).1]; exact Nat.le_refl _
    ·split
     ·exact Nat.le_trans h1 (bodyS_k hL F _ _)
     ·exact h1
theorem blockS_k {s : Bs} {l : List Wd} {L : List (Bs × Key)} (hL : ∀ x ∈ L, ∀ st : St, st.p.k ≤ (x.2.sem st).1.p.k) (st : St) : st.p.k ≤ (blockS s l L st).1.p.k := by
 unfold blockS
 have h1 := mustP_k s l ⟨#[123]⟩ st.p
 have h2 := mustP_k s l nl (mustP s l ⟨#[123]⟩ st.p).1
 split
 ·split
  ·exact Nat.le_trans (Nat.le_trans h1 h2) (bodyS_k hL _ _ (setP st (mustP s l nl (mustP s l ⟨#[123]⟩ st.p).1).1))
  ·exact Nat.le_trans h1 h2
 ·exact h1
end Go.Ev.Tryd

/- The configuration's reader: the block node. -/
namespace Go.Ev.Tryd
set_option maxRecDepth 10000
open Go.Proofs
theorem relK {f : Nat} (hf : (fnd T.tblR f).isSome = true) {n : Nat} {args : List AV} {h : H} {Q : AV → H → Prop} (r : RetK (fun kk => cr n f args h kk) Q) : RetK (fun kk => callU T n f args h kk) Q := by
 intro kk hk
 show callU T n f args h kk = some ()
 unfold callU
 rw [hf]
 exact r kk hk
theorem newHK_eq {β : Type} (h : H) (f : Nat → H → Option β) : newHK h f = f h.next (h.newO none) := rfl
def insK (m : Nat) (L : List (Bs × Key)) : List (Nat × AV × AV) := L.map fun x => (m, .str x.1, encK x.2)
theorem pairwise_keys {m : Nat} {L : List (Bs × Key)} (hn : (L.map (·.1)).Nodup) : (insK m L).Pairwise fun a b => a.1 = b.1 → keyCmp a.2.1 b.2.1 = some false := by
 unfold insK
 rw [List.pairwise_map]
 rw [List.Nodup, List.pairwise_map] at hn
 refine hn.imp fun {a b} h _ => ?_
 rw [keys_str]
 simp [h]
section
variable {e : En} {S : List Nat} {h : H} {st : St}
/-- the keys' map is filled: the block is read -/
theorem keys_block {hid : List Nat} {m : Nat} {L L0 : List (Bs × Key)} {ins : List (Nat × AV × AV)} {hb h : H} (i : Inv e hb st S) (md : Mod [] hb h) (hh : ∀ x ∈ hid, hb.next ≤ x) (hm : m ∈ hid) (hlt : m < h.next) (hins : (ins.filter fun q => q.1 == m).map (·.2) = L.map fun x => (.str x.1, encK x.2))
  {h' : H} (r : RestR hid ins h h') {N n : Nat} (ks : KeysOk e S h' N L) (hn : (L.map (·.1)).Nodup) (hL0 : L.map forK = L0) (hN : N + 2 ≤ n) (h1 : 1110 ≤ n) (h2 : e.l.length + 5 ≤ n) :
  RetK (fun kk => cr n i_config_parser_block [.ptr (some (e.b, 0)), .map (some m)] h' kk) fun r h'' => ∃ S', r = .bool (blockS e.s e.l L0 st).2 ∧ Fr S hb S' h'' ∧ Inv e h'' (blockS e.s e.l L0 st).1 S' := by
 have md' : Mod [] hb h' := r.mod md hh
 obtain ⟨es, clk, hg, hp, hnd, hbn⟩ := r.2.2 m hm
 rw [hins] at hp
 obtain ⟨L', hp', hM⟩ := MObj.of_perm (ek := AV.str) (ev := encK) hp hnd hbn
 replace hlt : m < h'.next := by rw [r.1]; exact hlt
 have i' := i.frame md'
 refine (block_ret (ks.perm hp' hn) i' ⟨⟨hlt, hg⟩, fun hx => by have := i.ltS _ hx; have := hh m hm; omega⟩ hM hN h1 h2 (L0 := L0) ?_).mono ?_
 ·rw [blockS_perm hp' hn, ← hL0, blockS_forK]
 ·rintro r h2 ⟨S', e1, f1, j1⟩
  exact ⟨S', e1, (Fr.mod0 md').trans f1, j1⟩
def Words (l : List Wd) : Prop := ∀ w ∈ l, w.1.size ≤ 80000
theorem once_k {S : List Nat} {h : H} {N n : Nat} {sem : St → St × Bool} {c : Option (AV × H)} (r : Ret c (Made e S N sem h)) {need : Bool} {k : Int → Bool → AV → AV × H → Option Unit}
  (hk : ∀ f x y h' v, Mod [] h h' → RdOk e S h' N f x y sem → k 1 need (.func f x y) (v, h') = some ()) :
  (c.bind fun q => asFn q.1 fun f x y => (ca (n + 1) i_config_once [.bool need, .func f x y] q.2).bind fun q' => asAgg q'.1 fun l => lI l fun i l => lB l fun b l => lc l fun v l => l0 l (k i b v q')) = some () := by
 obtain ⟨r, h1, rfl, m1, f, x, y, rfl, rd⟩ := r
 rw [Option.bind_some, asFn_of, once_eq, Option.bind_some]
 simp only [asAgg_agg, lI_of, lB_of, lc_cons, l0_nil]
 exact hk f x y _ _ (m1.new _) (rd.fr (.mod0 ((Mod.refl _ _).new _)))
theorem fn_k {S : List Nat} {h : H} {N : Nat} {tk : St → Bs → Int → St × Bool} {c : Option (AV × H)} (r : Ret c (MadeT e S N tk h)) {k : Nat → List AV → List AV → AV × H → Option Unit}
  (hk : ∀ f x y h' v, Mod [] h h' → TkOk e S h' N f x y tk → k f x y (v, h') = some ()) : (c.bind fun q => asFn q.1 fun f x y => k f x y q) = some () := by
 obtain ⟨r, h1, rfl, m1, f, x, y, rfl, rd⟩ := r
 rw [Option.bind_some, asFn_of]
 exact hk f x y _ _ m1 rd
theorem node_rd (e : En) (S0 : List Nat) (h0 : H) (hw : Words e.l) {N : Nat} (hN : 90000 + e.l.length ≤ N) : RdOk e S0 h0 N i_config_parser_node [.ptr (some (e.b, 0))] [] (nodeS e.s e.l) := by
 refine ⟨fun b k => by kernel_rfl, fun n hn h S st _ i => relK (by kernel_rfl) ?_⟩
 intro kk hkk
 obtain ⟨n, rfl⟩ : ∃ k, n = k + 2 := ⟨n - 2, by omega⟩
 show cr (n + 1 + 1) i_config_parser_node [.ptr (some (e.b, 0))] h kk = some ()
 have hw' : ∀ w ∈ e.l, w.1.size < 90000 ∧ w.1.size + 70 ≤ 80070 := fun w hx => by have := hw w hx; omega
 rw [config_parser_node_eq, newHK_eq]
 simp only [nnK_some', Nat.zero_add]
 have hS := i.ltS
 have m0 : Mod [] h (h.newO none) := (Mod.refl _ _).newO _
 have hS0 : ∀ x ∈ [h.next] ++ S, x < (h.newO none).next := by
  intro x hx
  rw [next_newO]
  rcases List.mem_append.1 hx with hx | hx
  ·obtain rfl := List.mem_singleton.1 hx; exact Nat.lt_succ_self _
  ·exact Nat.lt_succ_of_lt (hS x hx)
 have up : ∀ {h' h'' : H}, Mod [] h' h'' → (∀ x ∈ [h.next] ++ S, x < h'.next) → ∀ x ∈ [h.next] ++ S, x < h''.next := fun m hh x hx => m.lt (hh x hx)
 refine once_k (card_mk hS0 hw' (by omega) (put_card e) n) fun f1 x1 y1 h1 v1 m1 d1 => ?_
 have u1 := up m1 hS0
 refine fn_k (into_mk u1 (put_addr e) n) fun f2 x2 y2 h2 v2 m2 d2 => ?_
 have u2 := up m2 u1
 refine once_k (address_mk u2 hw' (by omega) false (d2.more (N' := 80069) (by omega)) n) fun f3 x3 y3 h3 v3 m3 d3 => ?_
 have u3 := up m3 u2
 refine fn_k (into_mk u3 (put_peer e) n) fun f4 x4 y4 h4 v4 m4 d4 => ?_
 have u4 := up m4 u3
 refine once_k (address_mk u4 hw' (by omega) false (d4.more (N' := 80069) (by omega)) n) fun f5 x5 y5 h5 v5 m5 d5 => ?_
 have md : Mod [] h h5 := ((((m0.trans m1).trans m2).trans m3).trans m4).trans m5
 have d3' := (d3.fr (.mod0 (m4.trans m5)))
 have d1' := (d1.fr (.mod0 (((m2.trans m3).trans m4).trans m5)))
 have hlt : h.next < h5.next := up m5 u4 h.next (by simp)
 refine restK_ret (by simp) (by simpa using hlt) (pairwise_keys (m := h.next) (L := [(kMac, ⟨1, true, f1, x1, y1, cardS e.s e.l putCard⟩), (kAddress, ⟨1, true, f3, x3, y3, addressS e.s e.l false (intoS putAddr)⟩), (kPeer, ⟨1, true, f5, x5, y5, addressS e.s e.l false (intoS putPeer)⟩)]) (by simp [kMac, kAddress, kPeer])) fun h6 r => ?_
 have fr : Fr ([h.next] ++ S) h5 S h6 := r.fr
 refine keys_block (n := n + 1) (N := 80070) (L := [(kMac, ⟨1, true, f1, x1, y1, cardS e.s e.l putCard⟩), (kAddress, ⟨1, true, f3, x3, y3, addressS e.s e.l false (intoS putAddr)⟩), (kPeer, ⟨1, true, f5, x5, y5, addressS e.s e.l false (intoS putPeer)⟩)]) (L0 := nodeK e.s e.l) i md (by simp) (List.mem_singleton.2 rfl) hlt (by simp [encK, kMac, kAddress, kPeer]) r ⟨?_, ?_, rfl, ?_, by simp⟩ (by simp [kMac, kAddress, kPeer]) rfl (by omega) (by omega) (by omega) _ fun r' h7 hq => ?_
 ·intro x hx
  simp only [List.mem_cons, List.not_mem_nil, or_false] at hx
  rcases hx with rfl | rfl | rfl
  ·exact d1'.fr fr
  ·exact d3'.fr fr
  ·exact d5.fr fr
 ·intro x hx
  simp only [List.mem_cons, List.not_mem_nil, or_false] at hx
  rcases hx with rfl | rfl | rfl
  ·exact cardS_k fun _ _ => rfl
  ·exact addressS_k fun _ _ _ => rfl
  ·exact addressS_k fun _ _ _ => rfl
 ·intro x hx
  simp only [List.mem_cons, List.not_mem_nil, or_false] at hx
  rcases hx with rfl | rfl | rfl <;> exact (by decide : (1 : Int) ≤ 1000)
 ·obtain ⟨S', rfl, f7, j7⟩ := hq
  rw [asBool_bool]
  exact hkk _ _ ⟨S', rfl, f7, j7⟩
end
end Go.Ev.Tryd

/- The configuration's reader: the block vrrp. -/
namespace Go.Ev.Tryd
set_option maxRecDepth 10000
open Go.Proofs
def putYes (st : St) (v : Int) : St := { st with yes := v }
def kId : Bs := ⟨#[105, 100]⟩
def kPrio : Bs := ⟨#[112, 114, 105, 111, 114, 105, 116, 121]⟩
def kEvery : Bs := ⟨#[101, 118, 101, 114, 121]⟩
def kYes : Bs := ⟨#[121, 101, 115]⟩
def kNo : Bs := ⟨#[110, 111]⟩
def kPreempt : Bs := ⟨#[112, 114, 101, 101, 109, 112, 116]⟩
def kVip : Bs := ⟨#[118, 105, 112]⟩
def kTrack : Bs := ⟨#[116, 114, 97, 99, 107]⟩
def yesNo : List (Bs × Int) := [(kYes, 1), (kNo, 0)]
def vrrpK (s : Bs) (l : List Wd) : List (Bs × Key) := [mkK kId 1 true (numberS s l putId 1 255), mkK kPrio 1 true (numberS s l putPrio 1 255), mkK kEvery 1 true (numberS s l putEvery 1 4095), mkK kPreempt 1 false (choiceS s l putYes yesNo), mkK kVip 8 true (addressS s l false vipS), mkK kTrack 8 false (trackS s l)]
def preS (r : St × Bool) : St × Bool := (setP r.1 { r.1.p with pre := r.1.yes == 1 }, r.2)
def vrrpS (s : Bs) (l : List Wd) (st : St) : St × Bool := preS (blockS s l (vrrpK s l) { st with yes := 1 })
theorem choiceS_perm {s : Bs} {l : List Wd} {put : St → Int → St} {L L' : List (Bs × Int)} (hp : L'.Perm L) (hn : (L.map (·.1)).Nodup) : choiceS s l put L' = choiceS s l put L := by
 funext st
 unfold choiceS
 generalize valueP s l st.p = v
 obtain ⟨p, w, a, is⟩ := v
 cases is with
 | false => rfl
 | true =>
  show (match lk L' w with | some v => endL s l (put (setP st p) v) | none => (setP st (failP p a 182), false)) = (match lk L w with | some v => endL s l (put (setP st p) v) | none => (setP st (failP p a 182), false))
  rw [lk_perm hp hn]
theorem trackS_k (s : Bs) (l : List Wd) (st : St) : st.p.k ≤ (trackS s l st).1.p.k := by
 have hn : st.p.k ≤ (namedP s l (st.p.trs.map (·.1)) st.p).1.k := by
  unfold namedP
  have hv := valueP_le s l st.p
  generalize valueP s l st.p = v at hv
  obtain ⟨p, w, a, is⟩ := v
  cases is with
  | false => exact hv
  | true =>
   rw [show namedV (st.p.trs.map (·.1)) (p, w, a, true) = if 40 < w.size then (failP p a 182, ⟨#[]⟩, false) else if memB w (st.p.trs.map (·.1)) = true then (failP p a 181, ⟨#[]⟩, false) else (p, w, true) from rfl]
   split
   ·show st.p.k ≤ (failP p a 182).k
    rw [(failP_k _ _ _).1]; exact hv
   ·split
    ·show st.p.k ≤ (failP p a 181).k
     rw [(failP_k _ _ _).1]; exact hv
    ·exact hv
 unfold trackS
 generalize namedP s l (st.p.trs.map (·.1)) st.p = v at hn
 obtain ⟨p, nm, is⟩ := v
 cases is with
 | false => exact hn
 | true =>
  show st.p.k ≤ (weightV s l nm st (valueP s l p)).1.p.k
  have hv := Nat.le_trans hn (valueP_le s l p)
  generalize valueP s l p = v at hv
  obtain ⟨p, w, a, is⟩ := v
  cases is with
  | false => exact hv
  | true =>
   unfold weightV
   simp only
   split
   ·exact Nat.le_trans hv (endL_k s l (setP st { p with trs := p.trs ++ [(nm, if (dashP w).2 = true then - (numP (bs (dashP w).1)).1 else (numP (bs (dashP w).1)).1)] }))
   ·show st.p.k ≤ (failP p a 182).k
    rw [(failP_k _ _ _).1]; exact hv
theorem vipS_k (st : St) (a : Bs) (at' : Int) : (vipS st a at').1.p.k = st.p.k := by
 unfold vipS
 split
 ·exact (failP_k _ _ _).1
 ·rfl
section
variable {e : En} {S : List Nat} {h : H} {st : St}
theorem once_g {h : H} {n : Nat} {P : Nat → List AV → List AV → H → Prop} {c : Option (AV × H)} (r : Ret c fun r h' => Mod [] h h' ∧ ∃ f x y, r = .func f x y ∧ P f x y h') {need : Bool} {k : Int → Bool → AV → AV × H → Option Unit}
  (hk : ∀ f x y h' h'' v, Mod [] h h' → P f x y h' → Mod [] h' h'' → k 1 need (.func f x y) (v, h'') = some ()) :
  (c.bind fun q => asFn q.1 fun f x y => (ca (n + 1) i_config_once [.bool need, .func f x y] q.2).bind fun q' => asAgg q'.1 fun l => lI l fun i l => lB l fun b l => lc l fun v l => l0 l (k i b v q')) = some () := by
 obtain ⟨r, h1, rfl, m1, f, x, y, rfl, rd⟩ := r
 rw [Option.bind_some, asFn_of, once_eq, Option.bind_some]
 simp only [asAgg_agg, lI_of, lB_of, lc_cons, l0_nil]
 exact hk f x y _ _ _ m1 rd ((Mod.refl _ _).new _)
theorem fnM_k {S : List Nat} {h : H} {N : Nat} {sem : St → St × Bool} {c : Option (AV × H)} (r : Ret c (Made e S N sem h)) {k : Nat → List AV → List AV → AV × H → Option Unit}
  (hk : ∀ f x y h' v, Mod [] h h' → RdOk e S h' N f x y sem → k f x y (v, h') = some ()) : (c.bind fun q => asFn q.1 fun f x y => k f x y q) = some () := by
 obtain ⟨r, h1, rfl, m1, f, x, y, rfl, rd⟩ := r
 rw [Option.bind_some, asFn_of]
 exact hk f x y _ _ m1 rd
theorem put_yes {e : En} {b : Nat} (he : e.yes = some b) : PutOk e (b, 0) 1 (fun v => [.int .i64 v]) putYes := fun _ _ _ v i => i.wrY he v
theorem Inv.cellY (i : Inv e h st S) {b : Nat} (he : e.yes = some b) {β : Type} (k : AV → Option β) : cellK h b 0 k = k (.int .i64 st.yes) := by
 obtain ⟨g, rfl, i⟩ := i
 exact i.ow.cell (i.fy.trans he) (by rw [i.cy]; rfl) k
theorem restChoice {hid S : List Nat} {ins : List (Nat × AV × AV)} {h h' : H} (r : RestR hid ins h h') {m : Nat} (hm : m ∈ hid) (hlt : m < h.next) (hS : m ∉ S) {L : List (Bs × Int)} (hins : (ins.filter fun q => q.1 == m).map (·.2) = L.map fun x => (AV.str x.1, AV.int .i64 x.2)) :
  ∃ L' o, L'.Perm L ∧ Kept S h' m o ∧ MObj AV.str (fun v => .int .i64 v) L' o := by
 obtain ⟨es, clk, hg, hp, hnd, hbn⟩ := r.2.2 m hm
 rw [hins] at hp
 obtain ⟨L', hp', hM⟩ := MObj.of_perm (ek := AV.str) (ev := fun v => AV.int .i64 v) hp hnd hbn
 exact ⟨L', _, hp', ⟨⟨by rw [r.1]; exact hlt, hg⟩, hS⟩, hM⟩
theorem key_str (a b : Bs) : keyCmp (.str a) (.str b) = some (decide (a = b)) := keys_str a b
theorem vrrp_rd (e : En) (hy : e.yes = none) (S0 : List Nat) (h0 : H) (hw : Words e.l) {N : Nat} (hN : 90000 + e.l.length ≤ N) : RdOk e S0 h0 N i_config_parser_vrrp [.ptr (some (e.b, 0))] [] (vrrpS e.s e.l) := by
 refine ⟨fun b k => by kernel_rfl, fun n hn h S st _ i0 => relK (by kernel_rfl) ?_⟩
 intro kk hkk
 obtain ⟨n, rfl⟩ : ∃ k, n = k + 2 := ⟨n - 2, by omega⟩
 show cr (n + 1 + 1) i_config_parser_vrrp [.ptr (some (e.b, 0))] h kk = some ()
 have hw' : ∀ w ∈ e.l, w.1.size < 90000 ∧ w.1.size + 70 ≤ 80100 + e.l.length := fun w hx => by have := hw w hx; omega
 rw [config_parser_vrrp_eq, newK_eq, box_wr (n := 1) rfl rfl rfl]
 have ma : Mod [] h (h.new (.cells [.int .i64 1] false)) := (Mod.refl _ _).new _
 obtain ⟨S, fa, i⟩ := i0.openY hy (Nat.le_refl h.next) (.new h (.cells [.int .i64 1] false)) ma
 generalize h.next = by_ at i ⊢
 generalize h.new (.cells [.int .i64 1] false) = ha at i fa ⊢
 rw [newHK_eq]
 simp only [nnK_some', Nat.zero_add]
 have hS := i.ltS
 have m0 : Mod [] ha (ha.newO none) := (Mod.refl _ _).newO _
 have hS0 : ∀ x ∈ [ha.next] ++ S, x < (ha.newO none).next := by
  intro x hx
  rw [next_newO]
  rcases List.mem_append.1 hx with hx | hx
  ·obtain rfl := List.mem_singleton.1 hx; exact Nat.lt_succ_self _
  ·exact Nat.lt_succ_of_lt (hS x hx)
 have up : ∀ {T : List Nat} {h' h'' : H}, Mod [] h' h'' → (∀ x ∈ T, x < h'.next) → ∀ x ∈ T, x < h''.next := fun m hh x hx => m.lt (hh x hx)
 refine once_k (number_mk hS0 (put_id { e with yes := some by_ }) 1 255 n) fun f1 x1 y1 h1 v1 m1 d1 => ?_
 have u1 := up m1 hS0
 refine once_k (number_mk u1 (put_prio { e with yes := some by_ }) 1 255 n) fun f2 x2 y2 h2 v2 m2 d2 => ?_
 have u2 := up m2 u1
 refine once_k (number_mk u2 (put_every { e with yes := some by_ }) 1 4095 n) fun f3 x3 y3 h3 v3 m3 d3 => ?_
 have u3 := up m3 u2
 rw [newHK_eq]
 have m4 : Mod [] h3 (h3.newO none) := (Mod.refl _ _).newO _
 have u4 : ∀ x ∈ [ha.next, h3.next] ++ S, x < (h3.newO none).next := by
  intro x hx
  rw [next_newO]
  simp only [List.cons_append, List.nil_append, List.mem_cons] at hx
  rcases hx with rfl | rfl | hx
  ·exact Nat.lt_succ_of_lt (u3 _ (by simp))
  ·exact Nat.lt_succ_self _
  ·exact Nat.lt_succ_of_lt (u3 _ (by simp [hx]))
 have hne : ha.next ≠ h3.next := fun e' => by have := u3 ha.next (by simp); omega
 have T : ∀ {h' h'' : H}, Mod [] h' h'' → h'.next ≤ h3.next → Fr ([ha.next] ++ S) h' ([ha.next, h3.next] ++ S) h'' := fun m hl => ⟨m.of_nil, fun y hy => by
  simp only [List.cons_append, List.nil_append, List.mem_cons] at hy ⊢
  rcases hy with rfl | rfl | hy
  ·exact .inl (.inl rfl)
  ·exact .inr hl
  ·exact .inl (.inr hy)⟩
 have hc := choice_mk (e := { e with yes := some by_ }) (S := [ha.next, h3.next] ++ S) u4 (put_yes rfl) (m := h3.next) (u4 h3.next (by simp)) (n := n)
 refine once_g (P := fun f x y h' => f = i_config_parser_choice_1 ∧ x = [] ∧ ∀ (S2 : List Nat) (h2 : H) (o : AObj) (L : List (Bs × Int)), (∀ j oj, Kept ([ha.next, h3.next] ++ S) h' j oj → j ≠ h3.next → Kept S2 h2 j oj) → Kept S2 h2 h3.next o → MObj AV.str (fun v => .int .i64 v) L o → RdOk { e with yes := some by_ } S2 h2 30 i_config_parser_choice_1 [] y (choiceS e.s e.l putYes L)) (hc.mono fun r h' ⟨q1, y, q2, q3⟩ => ⟨q1, _, _, y, q2, rfl, rfl, q3⟩) fun f5 x5 y5 h5 h6 v6 m5 P5 m6 => ?_
 obtain ⟨rfl, rfl, P5⟩ := P5
 have u6 := up (m5.trans m6) u4
 refine fnM_k (address_mk (e := { e with yes := some by_ }) (N := 80100 + e.l.length) u6 hw' (by omega) false (vip_tk (by show e.l.length + 10 ≤ _; omega)) n) fun f7 x7 y7 h7 v7 m7 d7 => ?_
 have u7 := up m7 u6
 have m47 : Mod [] h3 h7 := ((m4.trans m5).trans m6).trans m7
 have md : Mod [] ha h7 := (((m0.trans m1).trans m2).trans m3).trans m47
 have g1 := d1.fr (T ((m2.trans m3).trans m47) (m2.trans m3).next)
 have g2 := d2.fr (T (m3.trans m47) m3.next)
 have g3 := d3.fr (T m47 (Nat.le_refl _))
 refine restK_ret (by simp) (by simpa using ⟨u7 ha.next (by simp), u7 h3.next (by simp)⟩) (by simp [List.pairwise_cons, key_str, hne, hne.symm]) fun h8 r => ?_
 dsimp only at r ⊢
 have fr : Fr ([ha.next, h3.next] ++ S) h7 S h8 := r.fr
 have hout : h3.next ∉ S := fun hx => by have := hS _ hx; have := (m0.trans ((m1.trans m2).trans m3)).next; omega
 obtain ⟨LC, oC, hpC, kC, hC⟩ := restChoice r (S := S) (m := h3.next) (by simp) (u7 h3.next (by simp)) hout (L := yesNo) (by simp [yesNo, kYes, kNo, hne])
 have g5 := P5 S h8 oC LC (fun j oj k _ => (k.mod0 (m6.trans m7)).fr fr) kC hC
 rw [choiceS_perm hpC (by simp [yesNo, kYes, kNo])] at g5
 refine keys_block (n := n + 1) (N := 80200 + e.l.length) (L := [(kId, ⟨1, true, f1, x1, y1, numberS e.s e.l putId 1 255⟩), (kPrio, ⟨1, true, f2, x2, y2, numberS e.s e.l putPrio 1 255⟩), (kEvery, ⟨1, true, f3, x3, y3, numberS e.s e.l putEvery 1 4095⟩), (kPreempt, ⟨1, false, i_config_parser_choice_1, [], y5, choiceS e.s e.l putYes yesNo⟩), (kVip, ⟨8, true, f7, x7, y7, addressS e.s e.l false vipS⟩), (kTrack, ⟨8, false, i_config_parser_track, [.ptr (some (e.b, 0))], [], trackS e.s e.l⟩)]) (L0 := vrrpK e.s e.l) i md (by simp; exact (m0.trans ((m1.trans m2).trans m3)).next) (by simp) (u7 ha.next (by simp)) (by simp [encK, kId, kPrio, kEvery, kPreempt, kVip, kTrack, hne.symm]) r ⟨?_, ?_, rfl, ?_, by simp⟩ (by simp [kId, kPrio, kEvery, kPreempt, kVip, kTrack]) rfl (by omega) (by omega) (by simp; omega) _ fun r' h9 hq => ?_
 ·intro x hx
  simp only [List.mem_cons, List.not_mem_nil, or_false] at hx
  rcases hx with rfl | rfl | rfl | rfl | rfl | rfl
  ·exact RdOk.more (N := 30) (g1.fr fr) (by omega)
  ·exact RdOk.more (N := 30) (g2.fr fr) (by omega)
  ·exact RdOk.more (N := 30) (g3.fr fr) (by omega)
  ·exact RdOk.more (N := 30) g5 (by omega)
  ·exact RdOk.more (N := 80100 + e.l.length) (d7.fr fr) (by omega)
  ·exact track_rd _ _ _ (by simp; omega)
 ·intro x hx
  simp only [List.mem_cons, List.not_mem_nil, or_false] at hx
  rcases hx with rfl | rfl | rfl | rfl | rfl | rfl
  ·exact numberS_k (put := putId) (fun _ _ => rfl) _ _
  ·exact numberS_k (put := putPrio) (fun _ _ => rfl) _ _
  ·exact numberS_k (put := putEvery) (fun _ _ => rfl) _ _
  ·exact choiceS_k (put := putYes) (fun _ _ => rfl) _
  ·exact addressS_k vipS_k
  ·exact trackS_k _ _
 ·intro x hx
  simp only [List.mem_cons, List.not_mem_nil, or_false] at hx
  rcases hx with rfl | rfl | rfl | rfl | rfl | rfl <;> first | exact (by decide : (1 : Int) ≤ 1000) | exact (by decide : (8 : Int) ≤ 1000)
 ·obtain ⟨S', rfl, f7, j7⟩ := hq
  rw [asBool_bool, j7.cellY rfl, asInt_int]
  have ok := j7.okp
  obtain ⟨h10, e10, f10, j10⟩ := j7.wrP (p' := { (blockS e.s e.l (vrrpK e.s e.l) { st with yes := 1 }).1.p with pre := (blockS e.s e.l (vrrpK e.s e.l) { st with yes := 1 }).1.yes == 1 }) (o := 14) (n := 1) (xs := [.bool ((blockS e.s e.l (vrrpK e.s e.l) { st with yes := 1 }).1.yes == 1)]) rfl (by decide) rfl (fun _ => rfl) rfl rfl rfl rfl ⟨ok.k, ok.spots, ok.vips, ok.trs, ok.svs, ok.bks, ok.len⟩
  obtain ⟨S'', fc, jc⟩ := Inv.closeY hy j10
  rw [e10]
  exact hkk _ _ ⟨S'', rfl, ((fa.trans f7).trans f10).trans fc, jc⟩
end
end Go.Ev.Tryd

/- The configuration's reader: what stays as it was; a backend. -/
namespace Go.Ev.Tryd
set_option maxRecDepth 10000
open Go.Proofs
structure Steps (R : St → St → Prop) : Prop where
 refl : ∀ st, R st st
 trans : ∀ {a b c}, R a b → R b c → R a c
 set : ∀ st p, p.svs = st.p.svs → R st (setP st p)
theorem failP_svs (p : Ps) (a c : Int) : (failP p a c).svs = p.svs := (failP_k p a c).2.2.2.2
theorem mustP_svs (s : Bs) (l : List Wd) (w : Bs) (p : Ps) : (mustP s l w p).1.svs = p.svs := by
 unfold mustP; split
 ·rfl
 ·exact failP_svs _ _ _
theorem valueP_svs (s : Bs) (l : List Wd) (p : Ps) : (valueP s l p).1.svs = p.svs := by
 unfold valueP; split
 ·exact failP_svs _ _ _
 ·rfl
section
variable {R : St → St → Prop} (hR : Steps R) {s : Bs} {l : List Wd}
include hR
theorem endL_R (st : St) : R st (endL s l st).1 := hR.set _ _ (mustP_svs s l nl st.p)
theorem numberS_R {put : St → Int → St} (hp : ∀ st v, R st (put st v)) (lo hi : Int) (st : St) : R st (numberS s l put lo hi st).1 := by
 unfold numberS
 have hv := valueP_svs s l st.p
 generalize valueP s l st.p = v at hv
 obtain ⟨p, w, a, is⟩ := v
 cases is with
 | false => exact hR.set _ _ hv
 | true =>
  rw [show numberV s l put lo hi st (p, w, a, true) = if (numP (bs w)).2 = true ∧ lo ≤ (numP (bs w)).1 ∧ (numP (bs w)).1 ≤ hi then endL s l (put (setP st p) (numP (bs w)).1) else (setP st (failP p a 182), false) from rfl]
  split
  ·exact hR.trans (hR.trans (hR.set st p hv) (hp _ _)) (endL_R hR _)
  ·exact hR.set _ _ ((failP_svs _ _ _).trans hv)
theorem choiceS_R {put : St → Int → St} (hp : ∀ st v, R st (put st v)) (L : List (Bs × Int)) (st : St) : R st (choiceS s l put L st).1 := by
 unfold choiceS
 have hv := valueP_svs s l st.p
 generalize valueP s l st.p = v at hv
 obtain ⟨p, w, a, is⟩ := v
 cases is with
 | false => exact hR.set _ _ hv
 | true =>
  rw [show choiceV s l put L st (p, w, a, true) = (match lk L w with | some v => endL s l (put (setP st p) v) | none => (setP st (failP p a 182), false)) from rfl]
  split
  ·exact hR.trans (hR.trans (hR.set st p hv) (hp _ _)) (endL_R hR _)
  ·exact hR.set _ _ ((failP_svs _ _ _).trans hv)
theorem cardS_R {put : St → Cd → St} (hp : ∀ st v, R st (put st v)) (st : St) : R st (cardS s l put st).1 := by
 unfold cardS
 have hv := valueP_svs s l st.p
 generalize valueP s l st.p = v at hv
 obtain ⟨p, w, a, is⟩ := v
 cases is with
 | false => exact hR.set _ _ hv
 | true =>
  rw [show cardV s l put st (p, w, a, true) = if (cardP w).2 = true then endL s l (put (setP st p) (cdOf (cardP w).1)) else (setP st (failP p a 182), false) from rfl]
  split
  ·exact hR.trans (hR.trans (hR.set st p hv) (hp _ _)) (endL_R hR _)
  ·exact hR.set _ _ ((failP_svs _ _ _).trans hv)
theorem addressS_R {svc : Bool} {put : St → Bs → St} (hp : ∀ st v, R st (put st v)) (st : St) : R st (addressS s l svc (intoS put) st).1 := by
 unfold addressS
 have hv := valueP_svs s l st.p
 generalize valueP s l st.p = v at hv
 obtain ⟨p, w, a, is⟩ := v
 cases is with
 | false => exact hR.set _ _ hv
 | true =>
  rw [show addressV s l svc (intoS put) st (p, w, a, true) = if (adrP w).2 = true then thenEnd s l (intoS put (setP st { p with spots := p.spots ++ [((adrP w).1, a, svc)] }) (adrP w).1 a) else (setP st (failP p a 182), false) from rfl]
  split
  ·have h1 : R st (put (setP st { p with spots := p.spots ++ [((adrP w).1, a, svc)] }) (adrP w).1) := hR.trans (hR.set st { p with spots := p.spots ++ [((adrP w).1, a, svc)] } hv) (hp _ _)
   exact hR.trans h1 (endL_R hR _)
  ·exact hR.set _ _ ((failP_svs _ _ _).trans hv)
theorem bodyS_R {L : List (Bs × Key)} (hL : ∀ x ∈ L, ∀ st : St, R st (x.2.sem st).1) : ∀ (F : Nat) (M : List (Bs × Int)) (st : St), R st (bodyS s l L F M st).1
 | 0, _, _ => hR.refl _
 | F + 1, M, st => by
  unfold bodyS
  split
  ·unfold closeS
   split
   ·exact hR.set _ _ (failP_svs _ _ _)
   ·exact hR.trans (hR.set st { st.p with k := st.p.k + 1 } rfl) (endL_R hR _)
  ·split
   ·exact hR.set _ _ (failP_svs _ _ _)
   ·next key hlk =>
    have h1 : R st (key.sem (setP st { st.p with k := st.p.k + 1 })).1 := hR.trans (hR.set st { st.p with k := st.p.k + 1 } rfl) (hL _ (lk_mem hlk) _)
    split
    ·exact hR.set _ _ (failP_svs _ _ _)
    ·split
     ·exact hR.trans h1 (bodyS_R hL F _ _)
     ·exact h1
theorem blockS_R {L : List (Bs × Key)} (hL : ∀ x ∈ L, ∀ st : St, R st (x.2.sem st).1) (st : St) : R st (blockS s l L st).1 := by
 unfold blockS
 have h1 := mustP_svs s l ⟨#[123]⟩ st.p
 have h2 := (mustP_svs s l nl (mustP s l ⟨#[123]⟩ st.p).1).trans h1
 split
 ·split
  ·exact hR.trans (hR.set st _ h2) (bodyS_R hR hL _ _ _)
  ·exact hR.set _ _ h2
 ·exact hR.set _ _ h1
end
def sameBks (a b : St) : Prop := b.sv.bks = a.sv.bks
theorem steps_bks : Steps sameBks := ⟨fun _ => rfl, fun h k => Eq.trans k h, fun _ _ _ => rfl⟩
def sameSvs (a b : St) : Prop := b.p.svs = a.p.svs
theorem steps_svs : Steps sameSvs := ⟨fun _ => rfl, fun h k => Eq.trans k h, fun _ _ h => h⟩
def putBAddr (st : St) (v : Bs) : St := { st with bk := { st.bk with addr := v } }
def putBCard (st : St) (v : Cd) : St := { st with bk := { st.bk with card := v } }
def putBPort (st : St) (v : Int) : St := { st with bk := { st.bk with port := v } }
def putBWeight (st : St) (v : Int) : St := { st with bk := { st.bk with weight := v } }
def kPort : Bs := ⟨#[112, 111, 114, 116]⟩
def kWeight : Bs := ⟨#[119, 101, 105, 103, 104, 116]⟩
def backendK (s : Bs) (l : List Wd) : List (Bs × Key) := [mkK kAddress 1 true (addressS s l false (intoS putBAddr)), mkK kMac 1 true (cardS s l putBCard), mkK kPort 1 false (numberS s l putBPort 1 65535), mkK kWeight 1 false (numberS s l putBWeight 1 100)]
def pushB (r : St × Bool) : St × Bool := ({ r.1 with sv := { r.1.sv with bks := r.1.sv.bks ++ [r.1.bk] } }, r.2)
def backendV (s : Bs) (l : List Wd) (st : St) : Ps × Bs × Bool → St × Bool
 | (p, _, false) => (setP st p, false)
 | (p, nm, true) => pushB (blockS s l (backendK s l) { setP st p with bk := ⟨nm, ⟨#[]⟩, cd0, 0, 1⟩ })
def backendS (s : Bs) (l : List Wd) (st : St) : St × Bool := backendV s l st (namedP s l (st.sv.bks.map (·.name)) st.p)
theorem backendK_k (s : Bs) (l : List Wd) : ∀ x ∈ backendK s l, ∀ st : St, st.p.k ≤ (x.2.sem st).1.p.k := by
 intro x hx
 simp only [backendK, mkK, List.mem_cons, List.not_mem_nil, or_false] at hx
 rcases hx with rfl | rfl | rfl | rfl
 ·exact addressS_k fun _ _ _ => rfl
 ·exact cardS_k (put := putBCard) fun _ _ => rfl
 ·exact numberS_k (put := putBPort) (fun _ _ => rfl) _ _
 ·exact numberS_k (put := putBWeight) (fun _ _ => rfl) _ _
theorem backendK_R {R : St → St → Prop} (hR : Steps R) (hb : ∀ st b, R st { st with bk := b }) (s : Bs) (l : List Wd) : ∀ x ∈ backendK s l, ∀ st : St, R st (x.2.sem st).1 := by
 intro x hx
 simp only [backendK, mkK, List.mem_cons, List.not_mem_nil, or_false] at hx
 rcases hx with rfl | rfl | rfl | rfl
 ·exact addressS_R hR fun st v => hb st _
 ·exact cardS_R hR (put := putBCard) fun st v => hb st _
 ·exact numberS_R hR (put := putBPort) (fun st v => hb st _) _ _
 ·exact numberS_R hR (put := putBWeight) (fun st v => hb st _) _ _
theorem namedP_le (s : Bs) (l : List Wd) (xs : List Bs) (p : Ps) : p.k ≤ (namedP s l xs p).1.k ∧ (namedP s l xs p).1.svs = p.svs := by
 unfold namedP
 have hv := valueP_le s l p
 have hs := valueP_svs s l p
 generalize valueP s l p = v at hv hs
 obtain ⟨p1, w, a, is⟩ := v
 cases is with
 | false => exact ⟨hv, hs⟩
 | true =>
  rw [show namedV xs (p1, w, a, true) = if 40 < w.size then (failP p1 a 182, ⟨#[]⟩, false) else if memB w xs = true then (failP p1 a 181, ⟨#[]⟩, false) else (p1, w, true) from rfl]
  split
  ·exact ⟨by show p.k ≤ (failP p1 a 182).k; rw [(failP_k _ _ _).1]; exact hv, (failP_svs _ _ _).trans hs⟩
  ·split
   ·exact ⟨by show p.k ≤ (failP p1 a 181).k; rw [(failP_k _ _ _).1]; exact hv, (failP_svs _ _ _).trans hs⟩
   ·exact ⟨hv, hs⟩
theorem backendS_k (s : Bs) (l : List Wd) (st : St) : st.p.k ≤ (backendS s l st).1.p.k := by
 unfold backendS
 have hn := (namedP_le s l (st.sv.bks.map (·.name)) st.p).1
 generalize namedP s l (st.sv.bks.map (·.name)) st.p = v at hn
 obtain ⟨p, nm, is⟩ := v
 cases is with
 | false => exact hn
 | true => exact Nat.le_trans hn (blockS_k (backendK_k s l) { setP st p with bk := ⟨nm, ⟨#[]⟩, cd0, 0, 1⟩ })
theorem backendS_svs (s : Bs) (l : List Wd) (st : St) : sameSvs st (backendS s l st).1 := by
 unfold backendS
 have hn := (namedP_le s l (st.sv.bks.map (·.name)) st.p).2
 generalize namedP s l (st.sv.bks.map (·.name)) st.p = v at hn
 obtain ⟨p, nm, is⟩ := v
 cases is with
 | false => exact hn
 | true => exact (blockS_R steps_svs (s := s) (l := l) (backendK_R steps_svs (fun _ _ => rfl) s l) { setP st p with bk := ⟨nm, ⟨#[]⟩, cd0, 0, 1⟩ }).trans hn
section
variable {e : En} {S : List Nat} {h : H} {st : St}
theorem put_baddr {b : Nat} (he : e.bk = some b) : PutOk e (b, 1) 1 (fun a => [.str a]) putBAddr := fun _ st _ v i => i.wrB he (x' := { st.bk with addr := v }) rfl (by decide : 1 + 1 ≤ 10) rfl rfl
theorem put_bcard {b : Nat} (he : e.bk = some b) : PutOk e (b, 2) 6 enCd putBCard := fun _ st _ v i => i.wrB he (x' := { st.bk with card := v }) rfl (by decide : 2 + 6 ≤ 10) rfl rfl
theorem put_bport {b : Nat} (he : e.bk = some b) : PutOk e (b, 8) 1 (fun v => [.int .i64 v]) putBPort := fun _ st _ v i => i.wrB he (x' := { st.bk with port := v }) rfl (by decide : 8 + 1 ≤ 10) rfl rfl
theorem put_bweight {b : Nat} (he : e.bk = some b) : PutOk e (b, 9) 1 (fun v => [.int .i64 v]) putBWeight := fun _ st _ v i => i.wrB he (x' := { st.bk with weight := v }) rfl (by decide : 9 + 1 ≤ 10) rfl rfl
theorem backend_names {a : H} {q : Pt} {c : Cap} {xs : List Bk} (r : Row a 10 q xs.length c (xs.flatMap encB)) (hx : xs.length ≤ 400000) (a0 a1 : Pt) (n : Nat) (kk : KK) : ∀ (rest pre : List Bk) (m : Nat) (h : H) (p : Pt) (d : Cap), xs = pre ++ rest → rest.length < m → Mod [] a h → Grow a h 1 p pre.length d ((pre.map (·.name)).map .str) →
  ∃ m' p' d' h', config_parser_backend_L0 n m a0 a1 p pre.length d q xs.length c (Nat.cast xs.length) (pre.length : Nat) h kk = config_parser_backend_L0 n (m' + 1) a0 a1 p' xs.length d' q xs.length c (Nat.cast xs.length) (Nat.cast xs.length) h' kk ∧ Mod [] a h' ∧ Grow a h' 1 p' xs.length d' ((xs.map (·.name)).map .str)
 | [], pre, m + 1, h, p, d, e, _, hm, g => by
  rw [List.append_nil] at e
  subst e
  exact ⟨m, p, d, h, rfl, hm, g⟩
 | t :: ts, pre, m + 1, h, p, d, e, hl, hm, g => by
  have hget : xs[pre.length]? = some t := by rw [e]; simp
  have hlt : pre.length < xs.length := (List.getElem?_eq_some_iff.1 hget).1
  rw [config_parser_backend_L0_eq, cast_lt hlt, cond_true, (r.mod0 hm).ix encB_len (by decide) hget]
  rw [newK_eq, box_wr (n := 10) rfl rfl rfl, cellK_of (get_new_self _ _) rfl, asStr_str, newK_eq]
  have m1 : Mod [] h (h.new (.cells (encB t) false)) := (Mod.refl _ _).new _
  obtain ⟨p', d', h', e1, g', m', hn⟩ := (g.mod0 m1).pushE (bytes := 16) (hm.trans m1).next (xs := [.str t.name]) rfl rfl (by decide) (by omega) (by omega)
  rw [e1, wrap_succ (by omega)]
  have hm' : Mod [] a h' := (hm.trans m1).trans' m' fun x hx hl => by have := (g.own_ge x hx).1; omega
  have := backend_names r hx a0 a1 n kk ts (pre ++ [t]) m h' p' d' (by rw [e]; simp) (by simp at hl; omega) hm' (by simpa using g')
  simpa using this
theorem putKey {m : Nat} {o : AObj} {L : List (Bs × Key)} (hg : h.get m = some o) (ho : MObj AV.str encK L o) (w : Bs) (k : Key) (hw : ∀ x ∈ L, w ≠ x.1) : ∃ o', MObj AV.str encK (L ++ [(w, k)]) o' ∧ ∀ f : H → Option Unit, putK (some m) (.str w) (.agg [.int .i64 k.most, .bool k.need, .func k.f k.x k.y]) h f = f (h.set m o') := by
 obtain ⟨o', h1, h2⟩ := putK_of (β := Unit) keys_str hg ho w k
 refine ⟨o', ?_, h2⟩
 have : pt L w k = L ++ [(w, k)] := by
  unfold pt
  rw [if_neg]
  rw [List.any_eq_true]
  rintro ⟨x, hx, e'⟩
  exact hw x hx (of_decide_eq_true e')
 rwa [this] at h1
end
end Go.Ev.Tryd

/- The configuration's reader: a backend, walked. -/
namespace Go.Ev.Tryd
set_option maxRecDepth 10000
open Go.Proofs
section
variable {e : En} {S : List Nat} {h : H} {st : St}
theorem Inv.aggB (i : Inv e h st S) {b : Nat} (he : e.bk = some b) {β : Type} (k : List AV → Option β) : aggK h b 0 10 k = k (encB st.bk) := by
 obtain ⟨g, rfl, i⟩ := i
 have := i.ow.get 8 b (i.fk.trans he)
 rw [i.ck] at this
 exact aggK_all (n := 10) this rfl k
/-- a map of one's own is filled -/
theorem keptSet {S : List Nat} {h : H} {m : Nat} {o : AObj} (k : Kept S h m o) (o' : AObj) : Kept S (h.set m o') m o' := ⟨⟨k.at_.lt, get_set_self _ _ _⟩, k.out⟩
theorem frSet {S : List Nat} {m : Nat} (hm : m ∈ S) (h : H) (o' : AObj) : Fr S h S (h.set m o') := ⟨(Mod.refl _ _).set (.inr hm) _, fun _ h => .inl h⟩
theorem frLess {S T : List Nat} (hs : ∀ x ∈ S, x ∈ T) (h : H) : Fr T h S h := ⟨Mod.refl _ _, fun x hx => .inl (hs x hx)⟩
theorem backend_ret {X : Nat} (hs : e.sv = some X) (hb0 : e.bk = none) (hw : Words e.l) (i : Inv e h st S) {n : Nat} (hn : 81000 + e.l.length ≤ n) :
  RetK (fun kk => cr n i_config_parser_backend [.ptr (some (e.b, 0)), .ptr (some (X, 0))] h kk) fun r h' => ∃ S', r = .bool (backendS e.s e.l st).2 ∧ Fr S h S' h' ∧ Inv e h' (backendS e.s e.l st).1 S' := by
 intro kk hkk
 obtain ⟨n, rfl⟩ : ∃ k, n = k + 2 := ⟨n - 2, by omega⟩
 show cr (n + 1 + 1) i_config_parser_backend [.ptr (some (e.b, 0)), .ptr (some (X, 0))] h kk = some ()
 have hw' : ∀ w ∈ e.l, w.1.size < 90000 ∧ w.1.size + 70 ≤ 80070 := fun w hx => by have := hw w hx; omega
 have ok := i.okp
 have okb := ok.bks
 have hk := ok.k
 have hll := ok.len
 have i0 := i
 obtain ⟨g, rfl, i⟩ := i
 rw [config_parser_backend_eq]
 simp only [nnK_some', Nat.zero_add]
 rw [i.ow.cell (i.fv.trans hs) (p := 9) (v := .slice (slP g.f 7) st.sv.bks.length g.bc) (by rw [i.cv]; rfl), asSlice_slice]
 obtain ⟨m', p', d', h1, e1, m1, g1⟩ := backend_names (i.bp.grow i.ow).row (by omega) (some (e.b, 0)) (some (X, 0)) (n + 1) kk st.sv.bks [] (n + 1) h none (.known 0) rfl (by omega) (.refl _ _) .nil
 rw [show config_parser_backend_L0 (n + 1) (n + 1) (some (e.b, 0)) (some (X, 0)) none 0 (.known 0) (slP g.f 7) st.sv.bks.length g.bc (Nat.cast st.sv.bks.length) 0 h kk = _ from e1]
 rw [config_parser_backend_L0_eq, cast_not_lt (Nat.le_refl _), cond_false]
 have i1 := i0.frame m1
 have f1 : Fr (foot g.f) h (foot g.f) h1 := .mod0 m1
 have hS : ∀ b ∈ own p', b ∉ foot g.f := fun b hb hm => by
  have := (g1.own_ge b hb).1
  have := i0.ltS b hm
  omega
 generalize hSS : foot g.f = S at *
 have hr : Row h1 1 p' (st.sv.bks.map (·.name)).length d' ((st.sv.bks.map (·.name)).map .str) := by rw [List.length_map]; exact g1.row
 have hnm := named_ret i1 hr (by rw [List.length_map]; omega) hS (n := n + 1) (by rw [List.length_map]; omega)
 rw [List.length_map] at hnm
 unfold backendS at hkk
 have hvk := namedP_k e.s e.l (st.sv.bks.map (·.name)) st.p
 generalize namedP e.s e.l (st.sv.bks.map (·.name)) st.p = v at hvk hnm hkk
 obtain ⟨p1, nm, is⟩ := v
 obtain ⟨r, h2, e2, rfl, f2, j2⟩ := hnm
 rw [e2, Option.bind_some]
 simp only [asTup_tup, lS_of, lI_of, lB_of, l0_nil]
 cases is with
 | false =>
  rw [Bool.not_false, cond_true]
  exact hkk _ _ ⟨S, rfl, f1.trans f2, j2⟩
 | true =>
  obtain rfl : p1 = { st.p with k := st.p.k + 1 } := hvk rfl
  rw [Bool.not_true, cond_false, newK_eq, box_wr (n := 10) rfl rfl rfl]
  obtain ⟨S1, f3, j3⟩ := j2.openB hb0 (y := ⟨nm, ⟨#[]⟩, cd0, 0, 1⟩) (Nat.le_refl h2.next) (.new h2 (.cells (encB ⟨nm, ⟨#[]⟩, cd0, 0, 1⟩) false)) ((Mod.refl _ _).new _)
  show (newK (.map [] 0) (h2.new (.cells (encB ⟨nm, ⟨#[]⟩, cd0, 0, 1⟩) false)) fun i30 h31 => _) = _
  generalize h2.next = bb at j3 ⊢
  generalize hb_ : h2.new (.cells (encB ⟨nm, ⟨#[]⟩, cd0, 0, 1⟩) false) = hb at j3 f3 ⊢
  have f03 := (f1.trans f2).trans f3
  rw [newK_eq]
  have hS1 := j3.ltS
  have m0 : Mod [] hb (hb.new (.map [] 0)) := (Mod.refl _ _).new _
  have k0 : Kept S1 (hb.new (.map [] 0)) hb.next (.map [] 0) := kept_new hS1 _
  have u0 : ∀ x ∈ [hb.next] ++ S1, x < (hb.new (.map [] 0)).next := by
   intro x hx
   show x < hb.next + 1
   rcases List.mem_append.1 hx with hx | hx
   ·obtain rfl := List.mem_singleton.1 hx; exact Nat.lt_succ_self _
   ·exact Nat.lt_succ_of_lt (hS1 x hx)
  have up : ∀ {T : List Nat} {h' h'' : H}, Mod [] h' h'' → (∀ x ∈ T, x < h'.next) → ∀ x ∈ T, x < h''.next := fun m hh x hx => m.lt (hh x hx)
  generalize hb.new (.map [] 0) = c0 at m0 k0 u0 ⊢
  refine fn_k (into_mk (e := { e with bk := some bb }) u0 (put_baddr rfl) n) fun fA xA yA c1 v1 mA dA => ?_
  have u1 := up mA u0
  refine once_k (address_mk (e := { e with bk := some bb }) u1 hw' (by omega) false (dA.more (N' := 80069) (by omega)) n) fun f1' x1 y1 c2 v2 mB d1 => ?_
  have u2 := up mB u1
  have k2 : Kept S1 c2 hb.next (.map [] 0) := (k0.mod0 mA).mod0 mB
  obtain ⟨o1, hM1, e1'⟩ := putKey k2.at_.get .nil kAddress ⟨1, true, f1', x1, y1, addressS e.s e.l false (intoS putBAddr)⟩ (by simp)
  dsimp only
  rw [show (⟨#[97, 100, 100, 114, 101, 115, 115]⟩ : ByteArray) = kAddress from rfl, e1']
  have t2 := frSet (m := hb.next) (S := [hb.next] ++ S1) (by simp) c2 o1
  have k2' := keptSet k2 o1
  have md2 : Mod [] hb (c2.set hb.next o1) := ((m0.trans mA).trans mB).set (.inl (Nat.le_refl _)) _
  have u2' : ∀ x ∈ [hb.next] ++ S1, x < (c2.set hb.next o1).next := u2
  generalize c2.set hb.next o1 = c2' at t2 k2' md2 u2' ⊢
  refine once_k (card_mk (e := { e with bk := some bb }) u2' hw' (by omega) (put_bcard rfl) n) fun f2' x2 y2 c3 v3 mC d2 => ?_
  have u3 := up mC u2'
  have k3 := k2'.mod0 mC
  obtain ⟨o2, hM2, e2'⟩ := putKey k3.at_.get hM1 kMac ⟨1, true, f2', x2, y2, cardS e.s e.l putBCard⟩ (by simp [kMac, kAddress])
  dsimp only
  rw [show (⟨#[109, 97, 99]⟩ : ByteArray) = kMac from rfl, e2']
  have t3 := frSet (m := hb.next) (S := [hb.next] ++ S1) (by simp) c3 o2
  have k3' := keptSet k3 o2
  have md3 : Mod [] hb (c3.set hb.next o2) := (md2.trans mC).set (.inl (Nat.le_refl _)) _
  have u3' : ∀ x ∈ [hb.next] ++ S1, x < (c3.set hb.next o2).next := u3
  generalize c3.set hb.next o2 = c3' at t3 k3' md3 u3' ⊢
  refine once_k (number_mk (e := { e with bk := some bb }) u3' (put_bport rfl) 1 65535 n) fun f3' x3 y3 c4 v4 mD d3 => ?_
  have u4 := up mD u3'
  have k4 := k3'.mod0 mD
  obtain ⟨o3, hM3, e3'⟩ := putKey k4.at_.get hM2 kPort ⟨1, false, f3', x3, y3, numberS e.s e.l putBPort 1 65535⟩ (by simp [kMac, kAddress, kPort])
  dsimp only
  rw [show (⟨#[112, 111, 114, 116]⟩ : ByteArray) = kPort from rfl, e3']
  have t4 := frSet (m := hb.next) (S := [hb.next] ++ S1) (by simp) c4 o3
  have k4' := keptSet k4 o3
  have md4 : Mod [] hb (c4.set hb.next o3) := (md3.trans mD).set (.inl (Nat.le_refl _)) _
  have u4' : ∀ x ∈ [hb.next] ++ S1, x < (c4.set hb.next o3).next := u4
  generalize c4.set hb.next o3 = c4' at t4 k4' md4 u4' ⊢
  refine once_k (number_mk (e := { e with bk := some bb }) u4' (put_bweight rfl) 1 100 n) fun f4' x4 y4 c5 v5 mE d4 => ?_
  have k5 := k4'.mod0 mE
  obtain ⟨o4, hM4, e4'⟩ := putKey k5.at_.get hM3 kWeight ⟨1, false, f4', x4, y4, numberS e.s e.l putBWeight 1 100⟩ (by simp [kMac, kAddress, kPort, kWeight])
  dsimp only
  rw [show (⟨#[119, 101, 105, 103, 104, 116]⟩ : ByteArray) = kWeight from rfl, e4']
  have t5 := frSet (m := hb.next) (S := [hb.next] ++ S1) (by simp) c5 o4
  have k5' := keptSet k5 o4
  have md5 : Mod [] hb (c5.set hb.next o4) := (md4.trans mE).set (.inl (Nat.le_refl _)) _
  generalize c5.set hb.next o4 = c5' at t5 k5' md5 ⊢
  have less : Fr ([hb.next] ++ S1) c5' S1 c5' := frLess (by simp +contextual) _
  have F4 := t5.trans less
  have F3 := ((t4.trans (.mod0 mE)).trans F4)
  have F2 := ((t3.trans (.mod0 mD)).trans F3)
  have F1 := ((t2.trans (.mod0 mC)).trans F2)
  have q1 := d1.fr F1
  have q2 := d2.fr F2
  have q3 := d3.fr F3
  have q4 := d4.fr F4
  refine block_ret (n := n + 1) (N := 80070) (e := { e with bk := some bb }) (L0 := backendK e.s e.l) ⟨?_, ?_, rfl, ?_, by simp⟩ (j3.frame md5) k5' hM4 (by omega) (by omega) (by show e.l.length + 5 ≤ _; omega) (blockS_forK (L := [(kAddress, ⟨1, true, f1', x1, y1, addressS e.s e.l false (intoS putBAddr)⟩), (kMac, ⟨1, true, f2', x2, y2, cardS e.s e.l putBCard⟩), (kPort, ⟨1, false, f3', x3, y3, numberS e.s e.l putBPort 1 65535⟩), (kWeight, ⟨1, false, f4', x4, y4, numberS e.s e.l putBWeight 1 100⟩)]) _).symm _ fun r' h9 hq => ?_
  ·intro x hx
   simp only [List.nil_append, List.cons_append, List.mem_cons, List.not_mem_nil, or_false] at hx
   rcases hx with rfl | rfl | rfl | rfl
   ·exact q1
   ·exact q2
   ·exact RdOk.more (N := 30) q3 (by omega)
   ·exact RdOk.more (N := 30) q4 (by omega)
  ·intro x hx
   simp only [List.nil_append, List.cons_append, List.mem_cons, List.not_mem_nil, or_false] at hx
   rcases hx with rfl | rfl | rfl | rfl
   ·exact addressS_k fun _ _ _ => rfl
   ·exact cardS_k (put := putBCard) fun _ _ => rfl
   ·exact numberS_k (put := putBPort) (fun _ _ => rfl) _ _
   ·exact numberS_k (put := putBWeight) (fun _ _ => rfl) _ _
  ·intro x hx
   simp only [List.nil_append, List.cons_append, List.mem_cons, List.not_mem_nil, or_false] at hx
   rcases hx with rfl | rfl | rfl | rfl <;> exact (by decide : (1 : Int) ≤ 1000)
  ·obtain ⟨S', rfl, f7, j7⟩ := hq
   rw [asBool_bool]
   have hbk : sameBks _ _ := blockS_R steps_bks (s := e.s) (l := e.l) (backendK_R steps_bks (fun _ _ => rfl) e.s e.l) { setP st { st.p with k := st.p.k + 1 } with bk := ⟨nm, ⟨#[]⟩, cd0, 0, 1⟩ }
   have hkk' := blockS_k (s := e.s) (l := e.l) (backendK_k e.s e.l) { setP st { st.p with k := st.p.k + 1 } with bk := ⟨nm, ⟨#[]⟩, cd0, 0, 1⟩ }
   change ∀ r h', (∃ S', r = .bool (pushB (blockS e.s e.l (backendK e.s e.l) { setP st { st.p with k := st.p.k + 1 } with bk := ⟨nm, ⟨#[]⟩, cd0, 0, 1⟩ })).2 ∧ Fr S h S' h' ∧ Inv e h' (pushB (blockS e.s e.l (backendK e.s e.l) { setP st { st.p with k := st.p.k + 1 } with bk := ⟨nm, ⟨#[]⟩, cd0, 0, 1⟩ })).1 S') → kk r h' = some () at hkk
   change Inv _ h9 (blockS e.s e.l (backendK e.s e.l) { setP st { st.p with k := st.p.k + 1 } with bk := ⟨nm, ⟨#[]⟩, cd0, 0, 1⟩ }).1 S' at j7
   change (_ : St).sv.bks = st.sv.bks at hbk
   change st.p.k + 1 ≤ _ at hkk'
   show (cellK h9 X 9 fun v94 => _) = some ()
   change (cellK h9 X 9 fun v94 => asSlice v94 fun x95 n96 c97 => aggK h9 bb 0 10 fun l98 => if l98.length = 10 ∧ 0 + 10 ≤ 10 then newK (.cells (List.append (List.append [] l98) []) false) h9 fun i99 h100 => appK 10 56 x95 n96 c97 (evSrc 10 (.slice (some (i99, 0)) 1 (.known 1)) h100) h100 fun p101 n102 c103 h104 => wrK h104 X 9 1 [.slice p101 n102 c103] fun h107 => kk (.bool (blockS e.s e.l (backendK e.s e.l) { setP st { st.p with k := st.p.k + 1 } with bk := ⟨nm, ⟨#[]⟩, cd0, 0, 1⟩ }).2) h107 else none) = some ()
   generalize blockS e.s e.l (backendK e.s e.l) { setP st { st.p with k := st.p.k + 1 } with bk := ⟨nm, ⟨#[]⟩, cd0, 0, 1⟩ } = w at hkk j7 hbk hkk' ⊢
   have j7' := j7
   obtain ⟨g7, rfl, j7⟩ := j7
   rw [j7.ow.cell (j7.fv.trans hs) (p := 9) (v := .slice (slP g7.f 7) w.1.sv.bks.length g7.bc) (by rw [j7.cv]; rfl), asSlice_slice, j7'.aggB rfl, if_pos ⟨rfl, by decide⟩]
   obtain ⟨y', cap', h10, h11, S10, e10, f10, e11, f11, j11⟩ := j7.pushBk hs w.1.bk (by rw [hbk]; omega)
   rw [newK_eq, show List.append (List.append [] (encB w.1.bk)) [] = encB w.1.bk by simp, e10, e11]
   obtain ⟨S12, f12, j12⟩ := Inv.closeB hb0 j11
   exact hkk _ _ ⟨S12, rfl, (((f03.trans (.mod0 md5)).trans f7).trans f11).trans f12, j12⟩
theorem service1_rd {X i1 i2 : Nat} {S0 : List Nat} {h0 : H} (hs : e.sv = some X) (hb0 : e.bk = none) (hw : Words e.l) (k1 : Kept S0 h0 i1 (.cells [.ptr (some (e.b, 0))] false)) (k2 : Kept S0 h0 i2 (.cells [.ptr (some (X, 0))] false)) {N : Nat} (hN : 81010 + e.l.length ≤ N) :
  RdOk e S0 h0 N i_config_parser_service_1 [] [.ptr (some (i1, 0)), .ptr (some (i2, 0))] (backendS e.s e.l) := by
 refine ⟨fun b k => by kernel_rfl, fun n hn h S st fr i => relK (by kernel_rfl) ?_⟩
 intro kk hkk
 obtain ⟨n, rfl⟩ : ∃ k, n = k + 1 := ⟨n - 1, by omega⟩
 show cr (n + 1) i_config_parser_service_1 [.ptr (some (i1, 0)), .ptr (some (i2, 0))] h kk = some ()
 rw [config_parser_service_1_eq]
 simp only [nnK_some']
 rw [(k1.fr fr).cell, asPtr_ptr, (k2.fr fr).cell, asPtr_ptr]
 refine backend_ret hs hb0 hw i (by omega) _ fun r h' hq => ?_
 obtain ⟨S', rfl, f7, j7⟩ := hq
 rw [asBool_bool]
 exact hkk _ _ ⟨S', rfl, f7, j7⟩
end
end Go.Ev.Tryd

/- The configuration's reader: a service. -/
namespace Go.Ev
theorem minus_quiet {S : Nat → Prop} {x h h' : H} (m : Mod [] h h') : x.minus (addT S h h') = x.minus S := by rw [addT_same fun i hi => m.get i hi (by simp)]
theorem minus_none (x : H) : x.minus noT = x := minus_noT x
end Go.Ev
namespace Go.Ev.Tryd
set_option maxRecDepth 10000
open Go.Proofs
def putSProto (st : St) (v : Int) : St := { st with sv := { st.sv with proto := v } }
def putSVip (st : St) (v : Bs) : St := { st with sv := { st.sv with vip := v } }
def putSPort (st : St) (v : Int) : St := { st with sv := { st.sv with port := v } }
def putSMode (st : St) (v : Int) : St := { st with sv := { st.sv with mode := v } }
def putSSched (st : St) (v : Int) : St := { st with sv := { st.sv with sched := v } }
def putSRise (st : St) (v : Int) : St := { st with sv := { st.sv with rise := v } }
def putSFall (st : St) (v : Int) : St := { st with sv := { st.sv with fall := v } }
def putSProbe (st : St) (v : Int) : St := { st with sv := { st.sv with probe := v } }
def kTcp : Bs := ⟨#[116, 99, 112]⟩
def kUdp : Bs := ⟨#[117, 100, 112]⟩
def kProto : Bs := ⟨#[112, 114, 111, 116, 111]⟩
def kNat : Bs := ⟨#[110, 97, 116]⟩
def kDr : Bs := ⟨#[100, 114]⟩
def kIpip : Bs := ⟨#[105, 112, 105, 112]⟩
def kMode : Bs := ⟨#[109, 111, 100, 101]⟩
def kMaglev : Bs := ⟨#[109, 97, 103, 108, 101, 118]⟩
def kSource : Bs := ⟨#[115, 111, 117, 114, 99, 101]⟩
def kSched : Bs := ⟨#[115, 99, 104, 101, 100, 117, 108, 101]⟩
def kRise : Bs := ⟨#[114, 105, 115, 101]⟩
def kFall : Bs := ⟨#[102, 97, 108, 108]⟩
def kProbe : Bs := ⟨#[112, 114, 111, 98, 101]⟩
def kBackend : Bs := ⟨#[98, 97, 99, 107, 101, 110, 100]⟩
def tcpUdp : List (Bs × Int) := [(kTcp, 6), (kUdp, 17)]
def modes : List (Bs × Int) := [(kNat, 1), (kDr, 2), (kIpip, 3)]
def scheds : List (Bs × Int) := [(kMaglev, 1), (kSource, 2)]
def serviceK (s : Bs) (l : List Wd) : List (Bs × Key) := [mkK kProto 1 true (choiceS s l putSProto tcpUdp), mkK kVip 1 true (addressS s l true (intoS putSVip)), mkK kPort 1 true (numberS s l putSPort 1 65535), mkK kMode 1 true (choiceS s l putSMode modes), mkK kSched 1 false (choiceS s l putSSched scheds),
 mkK kRise 1 false (numberS s l putSRise 1 20), mkK kFall 1 false (numberS s l putSFall 1 20), mkK kProbe 1 false (numberS s l putSProbe 1 10000), mkK kBackend 16 true (backendS s l)]
def pushS (r : St × Bool) : St × Bool := ({ r.1 with p := { r.1.p with svs := r.1.p.svs ++ [r.1.sv] }, sv := sv0 }, r.2)
def newSv (nm : Bs) : Sv := ⟨nm, ⟨#[]⟩, 0, 0, 0, 1, 1, 1, 100, []⟩
def serviceV (s : Bs) (l : List Wd) (st : St) : Ps × Bs × Bool → St × Bool
 | (p, _, false) => (setP st p, false)
 | (p, nm, true) => pushS (blockS s l (serviceK s l) { setP st p with sv := newSv nm })
def serviceS (s : Bs) (l : List Wd) (st : St) : St × Bool := serviceV s l st (namedP s l (st.p.svs.map (·.name)) st.p)
theorem serviceK_k (s : Bs) (l : List Wd) : ∀ x ∈ serviceK s l, ∀ st : St, st.p.k ≤ (x.2.sem st).1.p.k := by
 intro x hx
 simp only [serviceK, mkK, List.mem_cons, List.not_mem_nil, or_false] at hx
 rcases hx with rfl | rfl | rfl | rfl | rfl | rfl | rfl | rfl | rfl
 ·exact choiceS_k (put := putSProto) (fun _ _ => rfl) _
 ·exact addressS_k fun _ _ _ => rfl
 ·exact numberS_k (put := putSPort) (fun _ _ => rfl) _ _
 ·exact choiceS_k (put := putSMode) (fun _ _ => rfl) _
 ·exact choiceS_k (put := putSSched) (fun _ _ => rfl) _
 ·exact numberS_k (put := putSRise) (fun _ _ => rfl) _ _
 ·exact numberS_k (put := putSFall) (fun _ _ => rfl) _ _
 ·exact numberS_k (put := putSProbe) (fun _ _ => rfl) _ _
 ·exact backendS_k _ _
theorem serviceK_svs (s : Bs) (l : List Wd) : ∀ x ∈ serviceK s l, ∀ st : St, sameSvs st (x.2.sem st).1 := by
 intro x hx
 simp only [serviceK, mkK, List.mem_cons, List.not_mem_nil, or_false] at hx
 rcases hx with rfl | rfl | rfl | rfl | rfl | rfl | rfl | rfl | rfl
 ·exact choiceS_R steps_svs (put := putSProto) (fun _ _ => rfl) _
 ·exact addressS_R steps_svs fun _ _ => rfl
 ·exact numberS_R steps_svs (put := putSPort) (fun _ _ => rfl) _ _
 ·exact choiceS_R steps_svs (put := putSMode) (fun _ _ => rfl) _
 ·exact choiceS_R steps_svs (put := putSSched) (fun _ _ => rfl) _
 ·exact numberS_R steps_svs (put := putSRise) (fun _ _ => rfl) _ _
 ·exact numberS_R steps_svs (put := putSFall) (fun _ _ => rfl) _ _
 ·exact numberS_R steps_svs (put := putSProbe) (fun _ _ => rfl) _ _
 ·exact backendS_svs _ _
theorem serviceS_k (s : Bs) (l : List Wd) (st : St) : st.p.k ≤ (serviceS s l st).1.p.k := by
 unfold serviceS
 have hn := (namedP_le s l (st.p.svs.map (·.name)) st.p).1
 generalize namedP s l (st.p.svs.map (·.name)) st.p = v at hn
 obtain ⟨p, nm, is⟩ := v
 cases is with
 | false => exact hn
 | true => exact Nat.le_trans hn (blockS_k (serviceK_k s l) { setP st p with sv := newSv nm })
section
variable {e : En} {S : List Nat} {h : H} {st : St}
theorem putOk_s {α : Type} {b o n : Nat} {enc : α → List AV} {put : Sv → α → Sv} (he : e.sv = some b) (hn : ∀ v, (enc v).length = n) (hl : o + n ≤ 10) (hc : ∀ v, (enc v).all isCell = true) (hv : ∀ x v w, spl (encS x w) o (enc v) = encS (put x v) w) (hs : ∀ x v, (put x v).bks = x.bks) : PutOk e (b, o) n enc (fun st v => { st with sv := put st.sv v }) :=
 fun _ st _ v i => i.wrS he (hn v) hl (hc v) (fun w => hv st.sv v w) (hs _ _)
theorem put_sproto {b : Nat} (he : e.sv = some b) : PutOk e (b, 2) 1 (fun v => [.int .i64 v]) putSProto := putOk_s he (put := fun x v => { x with proto := v }) (fun _ => rfl) (by decide) (fun _ => rfl) (fun _ _ _ => rfl) fun _ _ => rfl
theorem put_svip {b : Nat} (he : e.sv = some b) : PutOk e (b, 1) 1 (fun v => [.str v]) putSVip := putOk_s he (put := fun x v => { x with vip := v }) (fun _ => rfl) (by decide) (fun _ => rfl) (fun _ _ _ => rfl) fun _ _ => rfl
theorem put_sport {b : Nat} (he : e.sv = some b) : PutOk e (b, 3) 1 (fun v => [.int .i64 v]) putSPort := putOk_s he (put := fun x v => { x with port := v }) (fun _ => rfl) (by decide) (fun _ => rfl) (fun _ _ _ => rfl) fun _ _ => rfl
theorem put_smode {b : Nat} (he : e.sv = some b) : PutOk e (b, 4) 1 (fun v => [.int .i64 v]) putSMode := putOk_s he (put := fun x v => { x with mode := v }) (fun _ => rfl) (by decide) (fun _ => rfl) (fun _ _ _ => rfl) fun _ _ => rfl
theorem put_ssched {b : Nat} (he : e.sv = some b) : PutOk e (b, 5) 1 (fun v => [.int .i64 v]) putSSched := putOk_s he (put := fun x v => { x with sched := v }) (fun _ => rfl) (by decide) (fun _ => rfl) (fun _ _ _ => rfl) fun _ _ => rfl
theorem put_srise {b : Nat} (he : e.sv = some b) : PutOk e (b, 6) 1 (fun v => [.int .i64 v]) putSRise := putOk_s he (put := fun x v => { x with rise := v }) (fun _ => rfl) (by decide) (fun _ => rfl) (fun _ _ _ => rfl) fun _ _ => rfl
theorem put_sfall {b : Nat} (he : e.sv = some b) : PutOk e (b, 7) 1 (fun v => [.int .i64 v]) putSFall := putOk_s he (put := fun x v => { x with fall := v }) (fun _ => rfl) (by decide) (fun _ => rfl) (fun _ _ _ => rfl) fun _ _ => rfl
theorem put_sprobe {b : Nat} (he : e.sv = some b) : PutOk e (b, 8) 1 (fun v => [.int .i64 v]) putSProbe := putOk_s he (put := fun x v => { x with probe := v }) (fun _ => rfl) (by decide) (fun _ => rfl) (fun _ _ _ => rfl) fun _ _ => rfl
theorem service_names {a : H} {q : Pt} {c : Cap} {xs : List SvR} (r : Row a 10 q xs.length c (xs.flatMap encR)) (hx : xs.length ≤ 400000) (a1 : Pt) (n : Nat) (kk : KK) : ∀ (rest pre : List SvR) (m : Nat) (h : H) (p : Pt) (d : Cap), xs = pre ++ rest → rest.length < m → Mod [] a h → Grow a h 1 p pre.length d ((pre.map (·.1.name)).map .str) →
  ∃ m' p' d' h', config_parser_service_L0 n m a1 p pre.length d q xs.length c (Nat.cast xs.length) (pre.length : Nat) h kk = config_parser_service_L0 n (m' + 1) a1 p' xs.length d' q xs.length c (Nat.cast xs.length) (Nat.cast xs.length) h' kk ∧ Mod [] a h' ∧ Grow a h' 1 p' xs.length d' ((xs.map (·.1.name)).map .str)
 | [], pre, m + 1, h, p, d, e, _, hm, g => by
  rw [List.append_nil] at e
  subst e
  exact ⟨m, p, d, h, rfl, hm, g⟩
 | t :: ts, pre, m + 1, h, p, d, e, hl, hm, g => by
  have hget : xs[pre.length]? = some t := by rw [e]; simp
  have hlt : pre.length < xs.length := (List.getElem?_eq_some_iff.1 hget).1
  rw [config_parser_service_L0_eq, cast_lt hlt, cond_true, (r.mod0 hm).ix encR_len (by decide) hget]
  simp only [encR, encS, lS_of, lI_of, lL_of, l0_nil]
  rw [newK_eq, box_wr (n := 10) rfl rfl rfl, cellK_of (get_new_self _ _) rfl, asStr_str, newK_eq]
  have m1 : Mod [] h (h.new (.cells (encS t.1 (.slice t.2.1 t.1.bks.length t.2.2)) false)) := (Mod.refl _ _).new _
  obtain ⟨p', d', h', e1, g', m', hn⟩ := (g.mod0 m1).pushE (bytes := 16) (hm.trans m1).next (xs := [.str t.1.name]) rfl rfl (by decide) (by omega) (by omega)
  dsimp only [encS] at e1
  rw [e1, wrap_succ (by omega)]
  have hm' : Mod [] a h' := (hm.trans m1).trans' m' fun x hx hl => by have := (g.own_ge x hx).1; omega
  have := service_names r hx a1 n kk ts (pre ++ [t]) m h' p' d' (by rw [e]; simp) (by simp at hl; omega) hm' (by simpa using g')
  simpa using this
theorem once_s {h : H} {n b1 : Nat} (hb : b1 < h.next) {P : Nat → List AV → List AV → H → Prop} {c : Option (AV × H)} (r : Ret c fun r h' => Mod [] h h' ∧ ∃ f x y, r = .func f x y ∧ P f x y h') {need : Bool} {k : Int → Bool → AV → AV × H → AV × H → Option Unit}
  (hk : ∀ f x y h' h'' v v', Mod [] h h' → P f x y h' → Mod [] h' h'' → k 1 need (.func f x y) (v, h') (v', h'') = some ()) :
  (c.bind fun q => asFn q.1 fun f x y => sameK h q.2 (blkP (some (b1, 0))) ((ca (n + 1) i_config_once [.bool need, .func f x y] q.2).bind fun q' => asAgg q'.1 fun l => lI l fun i l => lB l fun b l => lc l fun v l => l0 l (sameK q.2 q'.2 (blkP (some (b1, 0))) (k i b v q q')))) = some () := by
 obtain ⟨r, h1, rfl, m1, f, x, y, rfl, rd⟩ := r
 rw [Option.bind_some, asFn_of, once_eq, Option.bind_some]
 simp only [asAgg_agg, lI_of, lB_of, lc_cons, l0_nil]
 have m2 : Mod [] h1 (h1.new (.cells [.int .i64 1, .bool need, .func f x y] false)) := (Mod.refl _ _).new _
 rw [show blkP (some (b1, 0)) = some b1 from rfl, sameK_mod m1 hb (by simp), sameK_mod m2 (m1.lt hb) (by simp)]
 exact hk f x y _ _ _ _ m1 rd m2
theorem fn_s {S : List Nat} {h : H} {N b1 : Nat} (hb : b1 < h.next) {tk : St → Bs → Int → St × Bool} {c : Option (AV × H)} (r : Ret c (MadeT e S N tk h)) {k : Nat → List AV → List AV → AV × H → Option Unit}
  (hk : ∀ f x y h' v, Mod [] h h' → TkOk e S h' N f x y tk → k f x y (v, h') = some ()) : (c.bind fun q => asFn q.1 fun f x y => sameK h q.2 (blkP (some (b1, 0))) (sameK h q.2 (blkP (some (b1, 0))) (k f x y q))) = some () := by
 obtain ⟨r, h1, rfl, m1, f, x, y, rfl, rd⟩ := r
 rw [Option.bind_some, asFn_of, show blkP (some (b1, 0)) = some b1 from rfl, sameK_mod m1 hb (by simp), sameK_mod m1 hb (by simp)]
 exact hk f x y _ _ m1 rd
theorem made_g {S : List Nat} {h : H} {N : Nat} {sem : St → St × Bool} {c : Option (AV × H)} (r : Ret c (Made e S N sem h)) : Ret c fun r h' => Mod [] h h' ∧ ∃ f x y, r = .func f x y ∧ RdOk e S h' N f x y sem := r
/-- what a choice's maker gives -/
def ChP (e : En) (S : List Nat) (m : Nat) (put : St → Int → St) (f : Nat) (x y : List AV) (h' : H) : Prop :=
 f = i_config_parser_choice_1 ∧ x = [] ∧ ∀ (S2 : List Nat) (h2 : H) (o : AObj) (L : List (Bs × Int)), (∀ j oj, Kept S h' j oj → j ≠ m → Kept S2 h2 j oj) → Kept S2 h2 m o → MObj AV.str (fun v => .int .i64 v) L o → RdOk e S2 h2 30 i_config_parser_choice_1 [] y (choiceS e.s e.l put L)
theorem choice_g (hS : ∀ x ∈ S, x < h.next) {q : Nat × Nat} {put : St → Int → St} (hp : PutOk e q 1 (fun v => [.int .i64 v]) put) {m : Nat} (hm : m < h.next) (n : Nat) :
  Ret (ca (n + 1) i_config_parser_choice [.ptr (some (e.b, 0)), .ptr (some q), .map (some m)] h) fun r h' => Mod [] h h' ∧ ∃ f x y, r = .func f x y ∧ ChP e S m put f x y h' :=
 (choice_mk hS hp hm n).mono fun r h' ⟨q1, y, q2, q3⟩ => ⟨q1, _, _, y, q2, rfl, rfl, q3⟩
end
end Go.Ev.Tryd
