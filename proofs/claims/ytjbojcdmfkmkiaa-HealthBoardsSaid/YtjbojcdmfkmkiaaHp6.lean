/- Chapter 11: the law HealthDue in plain Lean. -/
import Derived.Test.YtjbojcdmfkmkiaaHp5
set_option linter.all false
namespace Go.Ev.Try
set_option maxRecDepth 10000
open Go.Proofs

/-- when all are due, t ticks into a round that begins behind the time T -/
def late (T E : Int) (ks : List Nat) : List (Int × Int) := ks.map fun k : Nat => ((k : Int), (k : Int) + 1 + T + E)
def dueL (T E : Int) (many t : Nat) : List (Int × Int) := late T 0 (List.range' t (many - t)) ++ late T E (List.range (min t many))

theorem late_mem {T E : Int} {ks : List Nat} {e : Int × Int} : e ∈ late T E ks ↔ ∃ k ∈ ks, e = ((k : Int), (k : Int) + 1 + T + E) := by
  unfold late
  rw [List.mem_map]
  constructor
  · rintro ⟨k, h1, rfl⟩; exact ⟨k, h1, rfl⟩
  · rintro ⟨k, h1, rfl⟩; exact ⟨k, h1, rfl⟩

theorem told_none {u : Int} {L : List (Int × Int)} (h : ∀ e ∈ L, u < e.2) : told u L = [] ∧ left u L = L := by
  constructor
  · unfold told
    rw [List.map_eq_nil_iff, List.filter_eq_nil_iff]
    intro e he h'
    have := h e he
    have := of_decide_eq_true h'
    omega
  · unfold left
    rw [List.filter_eq_self]
    intro e he
    exact decide_eq_true (h e he)
theorem told_cons_due {u : Int} {e : Int × Int} {L : List (Int × Int)} (he : e.2 ≤ u) (h : ∀ e ∈ L, u < e.2) : told u (e :: L) = [e.1] ∧ left u (e :: L) = L := by
  obtain ⟨h1, h2⟩ := told_none h
  constructor
  · unfold told at *
    rw [List.filter_cons, if_pos (by simpa using he), List.map_cons, h1]
  · unfold left at *
    rw [List.filter_cons, if_neg (by simp; omega), h2]

theorem due_step {T E now : Int} {many t : Nat} (hE : (many : Int) ≤ E) (ht : (t : Int) < E) (hnow : now ≤ 1 + T + t) (hmax : 1 + T + t ≤ latest) : bMove E now (dueL T E many t) (1 + T + t) = (1 + T + t, dueL T E many (t + 1)) ∧ bTold now (dueL T E many t) (1 + T + t) = if t < many then [(t : Int)] else [] := by
  have hmv : moves now (1 + T + t) := ⟨hnow, by unfold latest at hmax; omega⟩
  unfold bMove bTold moveT moveTold
  rw [if_neg (show ¬ 1 + T + (t : Int) > latest by omega), if_neg (show ¬ 1 + T + (t : Int) > latest by omega)]
  simp only [if_pos hmv]
  by_cases htm : t < many
  · have e1 : dueL T E many t = ((t : Int), (t : Int) + 1 + T + 0) :: (late T 0 (List.range' (t + 1) (many - (t + 1))) ++ late T E (List.range t)) := by
      unfold dueL
      rw [show many - t = (many - (t + 1)) + 1 by omega, List.range'_succ, show min t many = t by omega]
      rfl
    have hrest : ∀ e ∈ late T 0 (List.range' (t + 1) (many - (t + 1))) ++ late T E (List.range t), 1 + T + (t : Int) < e.2 ∧ e.1 ≠ (t : Int) ∧ e.2 < (t : Int) + 1 + T + E := by
      intro e he
      rcases List.mem_append.1 he with he | he
      · obtain ⟨k, hk, rfl⟩ := late_mem.1 he
        rw [List.mem_range'_1] at hk
        simp only
        omega
      · obtain ⟨k, hk, rfl⟩ := late_mem.1 he
        rw [List.mem_range] at hk
        simp only
        omega
    obtain ⟨h1, h2⟩ := told_cons_due (u := 1 + T + t) (e := ((t : Int), (t : Int) + 1 + T + 0)) (by simp only; omega) fun e he => (hrest e he).1
    rw [e1, h1, h2, if_pos htm]
    refine ⟨?_, rfl⟩
    congr 1
    unfold resets
    simp only [List.foldl_cons, List.foldl_nil]
    have hwo : wo (late T 0 (List.range' (t + 1) (many - (t + 1))) ++ late T E (List.range t)) (t : Int) = late T 0 (List.range' (t + 1) (many - (t + 1))) ++ late T E (List.range t) := by
      unfold wo
      rw [List.filter_eq_self]
      intro e he
      have := (hrest e he).2.1
      simp; omega
    rw [hwo, ins_last fun e he => by
      have := (hrest e he).2.2
      unfold before
      simp only
      omega]
    unfold dueL
    rw [List.append_assoc, show min (t + 1) many = t + 1 by omega, List.range_succ]
    congr 1
    unfold late
    rw [List.map_append]
    simp only [List.map_cons, List.map_nil]
    congr 3
    omega
  · have e1 : ∀ s, many ≤ s → dueL T E many s = late T E (List.range many) := fun s hs => by
      unfold dueL
      rw [show many - s = 0 by omega, show min s many = many by omega]
      rfl
    rw [e1 t (by omega), e1 (t + 1) (by omega)]
    obtain ⟨h1, h2⟩ := told_none (u := 1 + T + t) (L := late T E (List.range many)) fun e he => by
      obtain ⟨k, hk, rfl⟩ := late_mem.1 he
      simp only
      omega
    rw [h1, h2, if_neg htm]
    exact ⟨rfl, rfl⟩

theorem dueL_end {T E : Int} {many : Nat} {e : Nat} (he : many ≤ e) : dueL T E many e = dueL (T + E) E many 0 := by
  unfold dueL
  rw [show many - e = 0 by omega, show min e many = many by omega, show min 0 many = 0 by omega, Nat.sub_zero, ← List.range_eq_range']
  simp only [late, List.range'_zero, List.map_nil, List.nil_append, List.range_zero, List.append_nil]
  apply List.map_congr_left
  intro k _
  congr 1
  omega
theorem dueL_start (E : Int) (many : Nat) : layT many = dueL 0 E many 0 := by
  unfold dueL layT late
  rw [show min 0 many = 0 by omega, Nat.sub_zero, ← List.range_eq_range']
  simp

def metL (many t : Nat) : List Int := (List.range many).map fun k => if k < t then 1 else 0
theorem metL_get {many t k : Nat} (hk : k < many) : (metL many t)[k]? = some (if k < t then 1 else 0) := by
  unfold metL
  rw [List.getElem?_map, List.getElem?_range hk]; rfl
theorem metL_set {many t : Nat} : (metL many t).set t 1 = metL many (t + 1) := by
  apply List.ext_getElem?
  intro k
  rw [List.getElem?_set]
  unfold metL
  simp only [List.getElem?_map, List.length_map, List.length_range]
  by_cases hk : t = k
  · subst hk
    rw [if_pos rfl]
    by_cases hm : t < many
    · rw [if_pos hm, List.getElem?_range hm]; simp
    · rw [if_neg hm, List.getElem?_eq_none (by simp; omega)]; rfl
  · rw [if_neg hk]
    by_cases hm : k < many
    · rw [List.getElem?_range hm]
      simp only [Option.map_some]
      congr 1
      by_cases h1 : k < t
      · rw [if_pos h1, if_pos (by omega)]
      · rw [if_neg h1, if_neg (by omega)]
    · rw [List.getElem?_eq_none (by simp; omega)]; rfl
theorem metL_more {many t : Nat} (h : many ≤ t) : metL many t = metL many many := by
  unfold metL
  apply List.map_congr_left
  intro k hk
  rw [List.mem_range] at hk
  rw [if_pos (by omega), if_pos hk]
theorem tile_one {x : AV} (n : Nat) : evTile n [x] = List.replicate n x := by
  unfold evTile
  rw [List.map_congr_left (g := fun _ => x) fun i _ => by simp [Nat.mod_one], List.map_const', List.length_range]
theorem metL_zero (many : Nat) : metL many 0 = List.replicate many 0 := by
  unfold metL
  simp only [Nat.not_lt_zero, if_false]
  rw [List.map_const', List.length_range]

section
variable {r : Rul} {bb : Nat} {p : Option (Nat × Nat)} {c : Cap} {ps : List Nat} {st : List (Bool × Int)} {wb : Nat} {WB : List Nat}

theorem due_L5 {h : H} {mb many : Nat} (gm : h.get mb = some (.cells ((metL many many).map i64) false)) (hm16 : many ≤ 16) (mc : Cap) {n : Nat} (kk : Bool → H → Option Unit) (m1 : Nat) (ib : Nat) (rho : Int) : ∀ (d j m : Nat), j + d = many → d < m →
    outriderlaw11_HealthDue_4_L5 n kk m1 m many (some (ib, 0)) (some (bb, 0)) rho (some (mb, 0)) many mc many j h = outriderlaw11_HealthDue_4_L1 n kk m1 many (some (ib, 0)) (some (bb, 0)) (IntKind.i64.wrap (rho + 1)) h
  | 0, j, m + 1, hj, _ => by rw [outriderlaw11_HealthDue_4_L5_eq, cast_not_lt (by omega), cond_false]
  | d + 1, j, m + 1, hj, hf => by
    have ih := due_L5 gm hm16 mc (n := n) kk m1 ib rho d (j + 1) m (by omega) (by omega)
    rw [outriderlaw11_HealthDue_4_L5_eq, cast_lt (by omega), cond_true, if_pos ⟨by omega, by omega⟩]
    simp only [nnK_some', Nat.zero_add]
    rw [cellK_of (o := (j : Int).toNat) gm (by rw [show (j : Int).toNat = j by omega, List.getElem?_map, metL_get (by omega), if_pos (by omega)]; rfl), asInt_int, show ((1 : Int) != 1) = false by decide, cond_false, wrap_succ (by omega)]
    exact ih

theorem due_L2 (ho : okR r) {many : Nat} (hps : ps.length = many) (hm16 : many ≤ 16) (hE : (many : Int) ≤ r.every) (hE5 : r.every ≤ 500) {ib mb : Nat} (hmb : mb ∉ bblocks bb p ps WB ∧ mb ≠ ib) (hib : ib ∉ bblocks bb p ps WB) {rho : Nat} (hrho : rho < 3) {n : Nat} (hn : 2000 ≤ n) {mc : Cap} {kk : Bool → H → Option Unit} {m1 : Nat} {a : H} (hma : mb < a.next) (hia : ib < a.next)
    (hend : ∀ h', BRep h' bb r p c ps st wb WB ((rho + 1 : Nat) * r.every) (dueL ((rho + 1 : Nat) * r.every) r.every many 0) → h'.get ib = some (.cells (rcells r) false) → Mod (mb :: bblocks bb p ps WB) a h' → outriderlaw11_HealthDue_4_L1 n kk m1 many (some (ib, 0)) (some (bb, 0)) (IntKind.i64.wrap ((rho : Int) + 1)) h' = some ()) :
    ∀ (d t m : Nat) (h : H), (t : Int) + d = r.every → d < m → BRep h bb r p c ps st wb WB ((rho : Int) * r.every + t) (dueL ((rho : Int) * r.every) r.every many t) → h.get ib = some (.cells (rcells r) false) → h.get mb = some (.cells ((metL many t).map i64) false) → Mod (mb :: bblocks bb p ps WB) a h →
      outriderlaw11_HealthDue_4_L2 n kk m1 m many (some (ib, 0)) (some (bb, 0)) rho (some (mb, 0)) many mc rho r.every t h = some ()
  | 0, t, m + 1, h, htd, _, b, gi, gm, hm => by
    rw [outriderlaw11_HealthDue_4_L2_eq, decide_eq_false (by omega), cond_false]
    have htm : many ≤ t := by omega
    rw [metL_more htm] at gm
    refine Eq.trans (due_L5 gm hm16 mc kk m1 ib rho many 0 n (by omega) (by omega)) (hend h ?_ gi hm)
    have e1 : ((rho : Int) * r.every + t) = ((rho + 1 : Nat) : Int) * r.every := by
      rw [Int.natCast_add, Int.add_mul]; omega
    rw [e1, dueL_end htm] at b
    have e2 : (rho : Int) * r.every + r.every = ((rho + 1 : Nat) : Int) * r.every := by
      rw [Int.natCast_add, Int.add_mul]; omega
    rw [e2] at b
    exact b
  | d + 1, t, m + 1, h, htd, hf, b, gi, gm, hm => by
    have hr := ho
    unfold okR at hr
    have hb : 0 ≤ (rho : Int) * r.every ∧ (rho : Int) * r.every ≤ 1000 := by
      have : rho = 0 ∨ rho = 1 ∨ rho = 2 := by omega
      rcases this with rfl | rfl | rfl <;> simp <;> omega
    have hle := hm.next
    rw [outriderlaw11_HealthDue_4_L2_eq, decide_eq_true (by omega), cond_true]
    simp only [nnK_some', Nat.zero_add]
    rw [cellK_of (o := 2) gi rfl, asInt_int, wrap_i64 (x := (rho : Int) * r.every) (by omega) (by omega), wrap_i64 (x := 1 + (rho : Int) * r.every) (by omega) (by omega), wrap_i64 (x := 1 + (rho : Int) * r.every + t) (by omega) (by omega)]
    obtain ⟨s1, s2⟩ := due_step (T := (rho : Int) * r.every) (now := (rho : Int) * r.every + t) hE (t := t) (by omega) (by omega) (by unfold latest; omega)
    have hLlen : (dueL ((rho : Int) * r.every) r.every many t).length < 1000 := by
      unfold dueL late
      simp only [List.length_append, List.length_map, List.length_range', List.length_range]
      omega
    refine MoveB_ret b ho (1 + (rho : Int) * r.every + t) hLlen (n := n) (by omega) _ fun q h2 ⟨m2, g2, b2⟩ => ?_
    rw [s1] at b2
    rw [s2] at g2
    have hbl : ∀ x ∈ WB, x ∈ bblocks bb p ps WB := fun x hx => by simp [bblocks, hx]
    have hn2 := m2.next
    have gi2 : h2.get ib = some (.cells (rcells r) false) := (m2.get _ (by omega) fun hx => hib (hbl _ hx)).trans gi
    have gm2 : h2.get mb = some (.cells ((metL many t).map i64) false) := (m2.get _ (by omega) fun hx => hmb.1 (hbl _ hx)).trans gm
    have m02 : Mod (mb :: bblocks bb p ps WB) a h2 := hm.trans (m2.sub fun i hi _ => List.mem_cons_of_mem _ (hbl _ hi))
    have hnow : (rho : Int) * r.every + ((t + 1 : Nat) : Int) = 1 + (rho : Int) * r.every + t := by omega
    have ih := fun h => due_L2 ho hps hm16 hE hE5 hmb hib hrho hn (mc := mc) (kk := kk) (m1 := m1) hma hia hend d (t + 1) m h (by omega) (by omega)
    rw [hnow] at ih
    by_cases htm : t < many
    · rw [if_pos htm] at g2
      have hl := g2.row.len1
      simp only [List.length_cons, List.length_nil, Nat.zero_add] at hl
      have hrow2 := g2.row
      rw [← hl] at hrow2 ⊢
      obtain ⟨n', rfl⟩ : ∃ n', n = n' + 2 := ⟨n - 2, by omega⟩
      rw [outriderlaw11_HealthDue_4_L3_eq, show decide ((0 : Int) < ((1 : Nat) : Int)) = true by decide, cond_true]
      have := hrow2.ix1 (k := 0) (x := (t : Int)) rfl (β := Unit)
      simp only [Int.natCast_zero] at this
      rw [this, asInt_int, decide_eq_false (by omega), cond_false, decide_eq_false (by omega), outriderlaw11_HealthDue_4_J4_eq, cond_false, if_pos ⟨by omega, by omega⟩]
      simp only [nnK_some', Nat.zero_add]
      rw [cellK_of (o := (t : Int).toNat) gm2 (by rw [show (t : Int).toNat = t by omega, List.getElem?_map, metL_get htm, if_neg (by omega)]; rfl), asInt_int, if_pos ⟨by omega, by omega⟩, wrap_i64 (x := 0 + 1) (by omega) (by omega), wrK_one gm2 (by simp [metL]; omega) rfl]
      have hset : (((metL many t).map i64).set (t : Int).toNat (AV.int .i64 (0 + 1))) = (metL many (t + 1)).map i64 := by
        rw [show (t : Int).toNat = t by omega, ← metL_set, List.map_set]; rfl
      rw [hset, outriderlaw11_HealthDue_4_L3_eq, show decide (((0 : Int) + 1) < ((1 : Nat) : Int)) = false by decide, cond_false, wrap_succ (by omega)]
      refine ih _ (b2.mod (S := [mb]) ((Mod.refl _ _).set (.inr (by simp)) _) fun x hx hx' => by simp at hx'; exact hmb.1 (hx' ▸ hx)) ((get_set_ne (Ne.symm hmb.2)).trans gi2) (get_set_self _ _ _) (m02.set (.inr (by simp)) _)
    · rw [if_neg htm] at g2
      have hl := g2.row.len1
      simp only [List.length_nil] at hl
      rw [← hl]
      obtain ⟨n', rfl⟩ : ∃ n', n = n' + 1 := ⟨n - 1, by omega⟩
      rw [outriderlaw11_HealthDue_4_L3_eq, show decide ((0 : Int) < ((0 : Nat) : Int)) = false by decide, cond_false, wrap_succ (by omega)]
      refine ih h2 b2 gi2 ?_ m02
      rw [metL_more (by omega), ← metL_more (t := t) (by omega)]
      exact gm2

theorem due_L1 (ho : okR r) {many : Nat} (hps : ps.length = many) (hm1 : 1 ≤ many) (hm16 : many ≤ 16) (hE : (many : Int) ≤ r.every) (hE5 : r.every ≤ 500) {ib : Nat} (hib : ib ∉ bblocks bb p ps WB) {n : Nat} (hn : 2000 ≤ n) {kk : Bool → H → Option Unit} (hk : ∀ h, kk true h = some ()) :
    ∀ (d rho m : Nat) (h : H), rho + d = 3 → d < m → BRep h bb r p c ps st wb WB ((rho : Int) * r.every) (dueL ((rho : Int) * r.every) r.every many 0) → ib < h.next → h.get ib = some (.cells (rcells r) false) →
      outriderlaw11_HealthDue_4_L1 n kk m many (some (ib, 0)) (some (bb, 0)) rho h = some ()
  | 0, rho, m + 1, h, hr, _, b, hi, gi => by
    rw [outriderlaw11_HealthDue_4_L1_eq, decide_eq_false (by omega), cond_false]
    exact alive_ret h (by omega) _ fun q h' ⟨e, _⟩ => by rw [e]; exact hk _
  | d + 1, rho, m + 1, h, hr, hf, b, hi, gi => by
    have hrr := ho
    unfold okR at hrr
    rw [outriderlaw11_HealthDue_4_L1_eq, decide_eq_true (by omega), cond_true]
    rw [mkSlK_of h (by omega) (by omega), Nat.mul_one, tile_one]
    simp only [nnK_some', Nat.zero_add]
    have m1 : Mod [] h (h.new (.cells (List.replicate many (.int .i64 0)) false)) := (Mod.refl _ _).new _
    have g1 := get_new_self h (.cells (List.replicate many (.int .i64 0)) false)
    have n1 : (h.new (.cells (List.replicate many (.int .i64 0)) false)).next = h.next + 1 := rfl
    generalize h.new (.cells (List.replicate many (.int .i64 0)) false) = h1 at *
    have gi1 := (m1.get _ hi (by simp)).trans gi
    rw [cellK_of (o := 2) gi1 rfl, asInt_int]
    have hlt := b.lt
    refine due_L2 (bb := bb) (p := p) (c := c) (st := st) (wb := wb) (WB := WB) (mb := h.next) (mc := .known many) ho hps hm16 hE hE5 ⟨fun hx => by have := hlt _ hx; omega, by omega⟩ hib (rho := rho) (by omega) hn (a := h1) (by omega) (by omega) (fun h' b' gi' m' => ?_) r.every.toNat 0 n h1 (by omega) (by omega) ?_ gi1 ?_ (Mod.refl _ _)
    · rw [wrap_succ (by omega)]
      exact due_L1 ho hps hm1 hm16 hE hE5 hib hn hk d (rho + 1) m h' (by omega) (by omega) b' (by have := m'.next; omega) gi'
    · have := b.mod0 m1
      simpa using this
    · rw [g1, metL_zero, List.map_replicate]

section
variable {x y z : Int}

theorem healthDue_true (_ : (Lit.int .i64 x).wf = true) (_ : (Lit.int .i64 y).wf = true) (_ : (Lit.int .i64 z).wf = true) {many : Int} (_ : (Lit.int .i64 many).wf = true) : ∃ n, RetK (fun kk => outriderlaw11_HealthDue_4 n x y z many (H0 []) kk) True' := by
  refine ⟨2000, fun kk hk0 => ?_⟩
  have hk : ∀ h, kk true h = some () := fun h => hk0 _ _ rfl
  show outriderlaw11_HealthDue_4 2000 x y z many (H0 []) kk = some ()
  obtain ⟨r, hr1, hr2, hr3⟩ : ∃ r : Rul, r.rise = x ∧ r.fall = y ∧ r.every = z := ⟨⟨x, y, z⟩, rfl, rfl, rfl⟩
  rw [← hr1, ← hr2, ← hr3, outriderlaw11_HealthDue_4_eq, newK_eq]
  generalize H0 [] = h0 at *
  have m0 : Mod [] h0 (h0.new (.cells (rcells r) false)) := (Mod.refl _ _).new _
  have g0 := get_new_self h0 (.cells (rcells r) false)
  have n0 : (h0.new (.cells (rcells r) false)).next = h0.next + 1 := rfl
  rw [show (AObj.cells [.int .i64 r.rise, .int .i64 r.fall, .int .i64 r.every] false) = .cells (rcells r) false from rfl]
  generalize h0.new (.cells (rcells r) false) = h1 at *
  rw [aggK_all (n := 3) g0 rfl]
  simp only [rcells, lc_cons, l0_nil, asInt_int]
  obtain ⟨q, h2, e2, m2, d2⟩ := Lay_ret r many h1 (n := 2000) (by omega)
  rw [e2, Option.bind_some]
  have g2 := (m2.get _ (by omega) (by simp)).trans g0
  have early : ∀ ptr, outriderlaw11_HealthDue_4_J0 2000 kk many (some (h0.next, 0)) ptr true h2 = some () := fun ptr => by
    rw [outriderlaw11_HealthDue_4_J0_eq, cond_true]
    exact alive_ret h2 (by omega) _ fun q h' ⟨e, _⟩ => by rw [e]; exact hk _
  by_cases ho : okR r ∧ 1 ≤ many ∧ many ≤ 16
  · rw [if_pos ho] at d2
    obtain ⟨bb, bp, bc, ps, wb, WB, rfl, hpl, b, hfr⟩ := d2
    simp only
    rw [show ((0 : Int) != 0) = false by decide, cond_false, eqVK_ptr Try.underlying33, Option.isNone_some, cond_false, cellK_of (o := 2) g2 rfl, asInt_int]
    by_cases hE : r.every < many
    · rw [decide_eq_true hE, cond_true]; exact early _
    · rw [decide_eq_false hE, cond_false, cellK_of (o := 2) g2 rfl, asInt_int]
      by_cases hE5 : r.every > 500
      · rw [decide_eq_true hE5]; exact early _
      · rw [decide_eq_false hE5, outriderlaw11_HealthDue_4_J0_eq, cond_false]
        obtain ⟨mm, hmm⟩ : ∃ mm : Nat, many = mm := ⟨many.toNat, by omega⟩
        subst hmm
        have hn2 := m2.next
        simp only [Int.toNat_natCast] at hpl b
        refine due_L1 (p := bp) (c := bc) (st := List.replicate mm (false, 0)) (wb := wb) (WB := WB) ho.1 hpl (by omega) (by omega) (by omega) (by omega) (ib := h0.next) (fun hx => by have := hfr _ hx; omega) (by omega) hk 3 0 2000 h2 rfl (by omega) ?_ (by omega) g2
        rw [show (((0 : Nat) : Int) * r.every) = 0 by simp, ← dueL_start]
        exact b
  · rw [if_neg ho] at d2
    subst d2
    simp only
    rw [show ((1 : Int) != 0) = true by decide, cond_true]
    exact early _
end
end

end Go.Ev.Try
