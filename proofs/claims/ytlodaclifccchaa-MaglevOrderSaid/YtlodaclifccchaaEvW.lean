/- The abstract machine Ev, part W: a region whose order is drawn, and whose last operation waits for all others. -/
import Derived.Test.YtlodaclifccchaaEvZ
set_option linter.all false
namespace Go.Ev
open Go.RowKit

section
variable {P : Program} {ops : Array Oper} {Q : Exit → Act → World → Prop} {n : Nat}

/-- the ways out of a region, its normal end but as told -/
def endBy (Q : Exit → Act → World → Prop) (R : Act → World → Prop) : Exit → Act → World → Prop
  | .normal, a, w => R a w
  | e, a, w => Q e a w

theorem wp_endBy {R : Act → World → Prop} {o : Oper} {a : Act} {w : World} {K : Act → World → Prop} : o.wp P a w K (endBy Q R) = o.wp P a w K Q := by
  unfold Oper.wp
  cases (execOp a.eval o).run P w with
  | ok v w' => cases v <;> rfl
  | halt h w' => cases h <;> rfl

theorem outs_endBy {R : Act → World → Prop} : LetsOut (endBy Q R) = LetsOut Q := rfl

theorem pop_get {i : Nat} (hn : ops.size = n + 1) (hi : i < n) : ops.pop[i]? = ops[i]? := by
  rw [Array.getElem?_pop, if_pos (by omega)]

/-- each operation waits for earlier ones alone, and asks after earlier ones alone -/
structure Tidy (ops : Array Oper) : Prop where
  after : ∀ (j : Nat) o, ops[j]? = some o → ∀ e ∈ o.after, Region.binds .any e = true → e.on < j
  guard : ∀ (j : Nat) o g b, ops[j]? = some o → o.guard = some (g, b) → g < j

def Shut (ops : Array Oper) (listed : Array Bool) : Prop := ∀ m o, ops[m]? = some o → listed.getD m false = true → ∀ e ∈ o.after, Region.binds .any e = true → listed.getD e.on false = true

theorem getD_both {l : Array Bool} {i : Nat} (h : i < l.size) : l.getD i true = l.getD i false := by simp [h]

theorem none_ready (ht : Tidy ops) {listed : Array Bool} (hs : listed.size = ops.size) (hr : Region.ready .any ops listed = []) : ∀ i, i < ops.size → listed.getD i true = true := by
  intro i
  induction i using Nat.strongRecOn with
  | _ i ih =>
    intro hi
    cases hl : listed.getD i true with
    | true => rfl
    | false =>
      have ho : ops[i]? = some ops[i] := Array.getElem?_eq_getElem hi
      have : i ∈ Region.ready .any ops listed := mem_ready.2 ⟨hl, _, ho, fun e he hb => by
        have h1 := ht.after _ _ ho e he hb
        have h2 := ih e.on h1 (by omega)
        rwa [getD_both (by omega)] at h2⟩
      rw [hr] at this; cases this

theorem all_ready {listed : Array Bool} (hs : listed.size = ops.size) (h : ∀ i, i < ops.size → listed.getD i true = true) : Region.ready .any ops listed = [] := by
  rw [List.eq_nil_iff_forall_not_mem]
  intro j hj
  obtain ⟨h1, o, h2, _⟩ := mem_ready.1 hj
  have := h j (Array.getElem?_eq_some_iff.1 h2).1
  rw [this] at h1; cases h1

theorem set_getD {l : Array Bool} {i j : Nat} (hi : i < l.size) : (l.setIfInBounds i true).getD j true = if j = i then true else l.getD j true := by
  by_cases h : j = i
  · subst h; simp [hi]
  · rw [if_neg h]
    simp only [Array.getD_eq_getD_getElem?]
    rw [Array.getElem?_setIfInBounds_ne (Ne.symm h)]

theorem wpAny_last (hn : ops.size = n + 1) (ht : Tidy ops) (hcov : ∀ listed : Array Bool, listed.size = n + 1 → Shut ops listed → n ∈ Region.ready .any ops listed → ∀ i, i < n → listed.getD i true = true) :
    ∀ (fuel : Nat) (listed listed' : Array Bool) (a : Act) (w : World), listed'.size = n → listed.size = n + 1 → (∀ i, i < n → listed.getD i true = listed'.getD i true) → listed.getD n true = false → Shut ops listed →
      wpAny P .any ops.pop (endBy Q fun a w => wpOp P ops Q n (fun a w => Q .normal a w) a w) fuel listed' a w → wpAny P .any ops Q (fuel + 1) listed a w := by
  have hps : ops.pop.size = n := by simp [hn]
  have ht' : Tidy ops.pop := ⟨fun j o ho => ht.after j o (by
      have hj := (Array.getElem?_eq_some_iff.1 ho).1
      rwa [pop_get hn (by omega)] at ho), fun j o g b ho => ht.guard j o g b (by
      have hj := (Array.getElem?_eq_some_iff.1 ho).1
      rwa [pop_get hn (by omega)] at ho)⟩
  -- when all others are done
  have fin : ∀ (fuel : Nat) (listed : Array Bool) (a : Act) (w : World), listed.size = n + 1 → (∀ i, i < n → listed.getD i true = true) → listed.getD n true = false → wpOp P ops Q n (fun a w => Q .normal a w) a w → wpAny P .any ops Q (fuel + 1) listed a w := by
    intro fuel listed a w hs hall hn0 hw
    refine ⟨fun hr => ?_, fun i hi => ?_⟩
    · have := none_ready ht (by omega) hr n (by omega)
      rw [this] at hn0; cases hn0
    · obtain ⟨h1, o, h2, _⟩ := mem_ready.1 hi
      have hi1 := (Array.getElem?_eq_some_iff.1 h2).1
      have hin : i = n := by
        refine Nat.le_antisymm (by omega) (Nat.le_of_not_lt fun hlt => ?_)
        rw [hall i hlt] at h1; cases h1
      subst hin
      refine wpOp_mono (fun a w hq => ?_) hw
      have hr : Region.ready .any ops (listed.setIfInBounds i true) = [] := all_ready (by simp; omega) fun j hj => by
        rw [set_getD (by omega)]
        split
        · rfl
        · exact hall j (by omega)
      cases fuel with
      | zero => exact ⟨hr, hq⟩
      | succ f => exact ⟨fun _ => hq, fun j hj => by rw [hr] at hj; cases hj⟩
  intro fuel
  induction fuel with
  | zero =>
    intro listed listed' a w hs' hs hsame hn0 hshut h
    obtain ⟨hr, hq⟩ := h
    have hall := none_ready ht' (by omega) hr
    exact fin 0 listed a w hs (fun i hi => by rw [hsame i hi]; exact hall i (by omega)) hn0 hq
  | succ fuel ih =>
    intro listed listed' a w hs' hs hsame hn0 hshut h
    obtain ⟨h1, h2⟩ := h
    refine ⟨fun hr => ?_, fun i hi => ?_⟩
    · have := none_ready ht (by omega) hr n (by omega)
      rw [this] at hn0; cases hn0
    · obtain ⟨g1, o, g2, g3⟩ := mem_ready.1 hi
      have hi1 := (Array.getElem?_eq_some_iff.1 g2).1
      by_cases hin : i = n
      · subst hin
        have hall := hcov listed hs hshut hi
        have hr : Region.ready .any ops.pop listed' = [] := all_ready (by omega) fun j hj => by rw [← hsame j (by omega)]; exact hall j (by omega)
        have := fin (fuel + 1) listed a w hs hall hn0 (h1 hr)
        exact this.2 i hi
      · have hlt : i < n := by omega
        have hmem : i ∈ Region.ready .any ops.pop listed' := mem_ready.2 ⟨by rw [← hsame i hlt]; exact g1, o, by rw [pop_get hn hlt]; exact g2, fun e he hb => by
          have e1 := ht.after i o g2 e he hb
          have e2 := g3 e he hb
          rw [← getD_both (by omega)] at e2 ⊢
          rw [← hsame e.on (by omega)]; exact e2⟩
        have hw := h2 i hmem
        have hmono := wpOp_mono (K' := wpAny P .any ops Q (fuel + 1) (listed.setIfInBounds i true)) (fun a w hk => ih (listed.setIfInBounds i true) (listed'.setIfInBounds i true) a w (by simp [hs']) (by simp [hs]) (fun j hj => by
            rw [set_getD (by omega), set_getD (by omega), hsame j hj]) (by rw [set_getD (by omega), if_neg (by omega)]; exact hn0) (by
              intro m om hom hm e he hb
              have hml := (Array.getElem?_eq_some_iff.1 hom).1
              have hem := ht.after m om hom e he hb
              rw [← getD_both (by simp; omega), set_getD (by omega)] at hm ⊢
              by_cases hei : e.on = i
              · rw [if_pos hei]
              · rw [if_neg hei]
                by_cases hmi : m = i
                · subst hmi
                  rw [hom] at g2
                  cases g2
                  have := g3 e he hb
                  rw [getD_both (by omega)]; exact this
                · rw [if_neg hmi] at hm
                  have := hshut m om hom (by rw [← getD_both (by omega)]; exact hm) e he hb
                  rw [getD_both (by omega)]; exact this) hk) hw
        -- the same operation, in the whole region
        unfold wpOp at hmono ⊢
        rw [pop_get hn hlt] at hmono
        rw [g2] at hmono ⊢
        simp only at hmono ⊢
        have hwant : Region.wanted o (yielded ops.pop a.tmps) = Region.wanted o (yielded ops a.tmps) := by
          unfold Region.wanted
          split
          · rfl
          · rename_i g b hg
            have := ht.guard i o g b g2 hg
            unfold yielded
            rw [pop_get hn (by omega)]
        rw [hwant] at hmono
        rw [wp_endBy, outs_endBy] at hmono
        exact hmono
end

theorem region_wpAny {P : Program} {call : CallFn} (hcall : call.Sound P) {ops : Array Oper} (hok : okRegion P ops = true) {s s' : AState} (h : evOpsQ P call ops ops.toList 0 s.1 s.2 noT = some s')
    {r : Ren} {a : Act} {w : World} (hfr : FR r s.1 a) (hrel : Rel r s.2 w) (hfree : ∀ i, s.2.next ≤ i → i < s'.2.next → r i = none) {Q : Exit → Act → World → Prop} (hQ : ∀ r' a' w', FR r' s'.1 a' → a'.defers = a.defers → Post r s.2 w r' s'.2 w' → Q .normal a' w') :
    wpAny P .any ops Q ops.size (Array.replicate ops.size false) a w := by
  obtain ⟨F, Hs, V, e1, e2, e3, e4, e5, e6, e7⟩ := run_of_evOpsQ h (fun j => by simp)
  have hsz : ops.toList.length = ops.size := by simp
  rw [hsz] at e3 e4 e5 e6 e7
  have hrun : Run P call ops ops.size F Hs V := ⟨fun k hk => by have := e5 k hk; simpa using this, fun k hk hq hs => e6 k hk (by simpa using hq) (by simpa using hs), fun k hk hs => by
      obtain ⟨S, _, g1, g2⟩ := e7 k hk (by simpa using hs)
      exact ⟨S, fun m hm hq => g1 m hm (by simpa using hq), fun o ho => g2 o (by simpa using ho)⟩⟩
  have hw : Post r s.2 w r s.2 w := Post.refl hrel
  have hlen : (F 0).length = a.tmps.size := by rw [e1]; simpa using hfr.1
  refine region_any hcall hok hrun (r0 := r) (w0 := w) (ds := a.defers) (by rw [e2]; exact hrel.wf) (by rw [e2, e4]; exact hfree) (fun r' a' w' h1 h2 h3 => ?_) ops.size _ r a w (by simp) ?_ ?_ ?_
  · rw [e2, e4] at h3
    rw [e3] at h1
    exact hQ r' a' w' h1 h2 (hw.trans h3)
  · intro m o ho hm' e he hb
    rw [getD_rep] at hm'; cases hm'
  · have := List.length_filter_le (fun i => !(Array.replicate ops.size false).getD i true) (List.range ops.size)
    simpa using this
  · intro D hD
    have hno : ∀ m, ¬ D m := fun m h => by have := (hD m).1 h; rw [getD_rep] at this; cases this
    have hcont : ∀ i, contD ops.size Hs D i = (Hs 0).get i := fun i => contD_agree (Nat.zero_le _) fun m _ _ => ⟨fun h => absurd h (hno m), fun h => by omega⟩
    refine ⟨Ren.le_refl _, (fun i t h1 h2 => by rw [h1] at h2; cases h2), hlen.symm, fun t ht => ?_, fun i t o h1 h2 => ?_, fun i k ti tk oi ok h1 h2 h3 h4 => ?_, hw.rel.bound, fun _ _ _ => rfl, Nat.le_refl _, .refl _, (fun i t h1 h2 => by rw [h1] at h2; cases h2), fun m _ h => absurd h (hno m), fun m _ h => absurd h (hno m), rfl⟩
    · rw [slotD_agree hrun ht (Nat.zero_le _) fun m _ _ => ⟨fun h => absurd h (hno m), fun h => by omega⟩, e1]
      exact opd_VR hfr (.tmp t)
    · rw [hcont, e2] at h2
      exact hw.rel.obj i t o h1 h2
    · rw [hcont, e2] at h3 h4
      exact hw.rel.inj i k ti tk oi ok h1 h2 h3 h4

/-- a drawn region whose last operation waits for all others -/
def okLast (P : Program) (ops : Array Oper) (n : Nat) : Bool :=
  decide (ops.size = n + 1) && okRegion P ops.pop && okM ops (masks ops) && ((List.range n).all fun i => (masks ops n).testBit i) &&
    ((List.range (n + 1)).all fun j => match ops[j]? with | some o => (match o.guard with | some (g, _) => decide (g < j) | none => true) | none => true)

theorem masks_listed {ops : Array Oper} (hM : okM ops (masks ops) = true) {listed : Array Bool} (hs : listed.size = ops.size) (hshut : Shut ops listed) :
    ∀ (j : Nat) o, ops[j]? = some o → (∀ e ∈ o.after, Region.binds .any e = true → listed.getD e.on false = true) → ∀ i, i < j → (masks ops j).testBit i = true → listed.getD i true = true := by
  intro j
  induction j using Nat.strongRecOn with
  | _ j ih =>
    intro o ho hl i hi hb
    have hj := (Array.getElem?_eq_some_iff.1 ho).1
    obtain ⟨h1, h2⟩ := okM_spec hM ho
    obtain ⟨e, he, hbe, hcase⟩ := h2 i hi hb
    have hel := hl e he hbe
    have hej := h1 e he hbe
    rcases hcase with rfl | ⟨hlt, hbit⟩
    · rw [getD_both (by omega)]; exact hel
    · exact ih e.on hej _ (Array.getElem?_eq_getElem (by omega)) (hshut e.on _ (Array.getElem?_eq_getElem (by omega)) hel) i hlt hbit

noncomputable def regL (P : Program) (ck : CK) (rt : List (EntryR P)) (N : Nat) (ops : Array Oper) (n : Nat) : KC Unit := fun A h kn _ _ =>
  evOpsK P ck ops.pop N true ops.pop.toList 0 A h noT fun A' h' =>
    match ops[n]? with
    | some o => evStepR P ck rt ops N A' o h' fun A'' v h'' => kn (kput N A'' o.dst v) h''
    | none => none

theorem DenG.regionL {P : Program} (hm : P.follows .mixedOrders = true) {ck : CK} (hck : ck.call.Sound P) {rt : List (EntryR P)} {N id n : Nat} {ops : Array Oper} (hok : okLast P ops n = true) : DenG true P N (.region id ops true) (regL P ck rt N ops n) := by
  simp only [okLast, Bool.and_eq_true, decide_eq_true_eq] at hok
  obtain ⟨⟨⟨⟨hn, hpop⟩, hM⟩, hcov⟩, hgd⟩ := hok
  have ho : ops[n]? = some (ops[n]'(by omega)) := Array.getElem?_eq_getElem (by omega)
  generalize ops[n]'(by omega) = o at ho
  have key : ∀ A h (kn : KF → H → Option Unit) kr ke, regL P ck rt N ops n A h kn ke kr = some () → ∃ fr' A' h', evOpsQ P ck.call ops.pop ops.pop.toList 0 ((List.range N).map (look A)) h noT = some (fr', h') ∧ AF N A' fr' ∧ evStepR P ck rt ops N A' o h' (fun A'' v h'' => kn (kput N A'' o.dst v) h'') = some () := by
    intro A h kn kr ke e
    unfold regL at e
    rw [ho] at e
    obtain ⟨fr', A', h', h1, h2, h3⟩ := evOpsK_some (fr := (List.range N).map (look A)) e ⟨by simp, fun t ht => by rw [List.getD_eq_getElem?_getD, List.getElem?_map, List.getElem?_range ht]; rfl⟩
    exact ⟨fr', A', h', by simpa using h1, h2, h3⟩
  have ht : Tidy ops := ⟨fun j q hq => (okM_spec hM hq).1, fun j q g b hq hg => by
    have hj := (Array.getElem?_eq_some_iff.1 hq).1
    have := List.all_eq_true.1 hgd j (List.mem_range.2 (by omega))
    rw [hq] at this
    simp only [hg, decide_eq_true_eq] at this
    exact this⟩
  refine ⟨fun A h kn ke kr x e => ?_, fun r a w A h kn ke kr x B e hfr hsz hrel hfree hB Q hQ => ?_⟩
  · cases x
    obtain ⟨fr', A', h', h1, h2, h3⟩ := key A h kn kr ke e
    obtain ⟨A2, v, h'', e2, g2, w2⟩ := stepR_ends hck h3
    have g1 := evOpsQ_grows hck h1
    exact ⟨.normal, _, h'', e2, Nat.le_trans g1.1 g2, fun hw => w2 (g1.2 hw)⟩
  · cases x
    obtain ⟨fr', A', h', h1, h2, h3⟩ := key A h kn kr ke e
    have hfree' : ∀ i, h.next ≤ i → r i = none := fun i hi => hfree i hi (B.all rfl i)
    have hfr' : FR r ((List.range N).map (look A)) a := by
      refine ⟨by simpa using hsz.symm, fun t x v hx hv => ?_⟩
      have ht : t < N := by have := (List.getElem?_eq_some_iff.1 hx).1; simpa using this
      rw [List.getElem?_map, List.getElem?_range ht] at hx
      simp at hx
      subst hx
      have := hfr t (by rw [hsz]; exact ht)
      simp only [Act.eval, Array.getD_eq_getD_getElem?] at this
      rw [← Array.getElem?_toList, hv] at this
      exact this
    have hw0 : Post r h w r h { w with drawn := w.drawn + 1 } := Post.same hrel rfl ⟨rfl, rfl, rfl, Nat.le_succ _⟩
    refine wp_region_any hm ?_
    have hsub : wpAny P .any ops.pop (endBy Q fun a w => wpOp P ops Q n (fun a w => Q .normal a w) a w) ops.pop.size (Array.replicate ops.pop.size false) a { w with drawn := w.drawn + 1 } := by
      refine region_wpAny hck hpop (s := ((List.range N).map (look A), h)) (s' := (fr', h')) h1 hfr' hw0.rel (fun i hi _ => hfree' i hi) fun r' a' w' q1 q2 q3 => ?_
      have hsz' : a'.tmps.size = N := by rw [← h2.1]; simpa using q1.1.symm
      have hA' : FRk r' A' a' := fun t ht => by
        rw [h2.2 t (by rw [← hsz']; exact ht)]
        exact opd_VR q1 (.tmp t)
      show wpOp P ops Q n (fun a w => Q .normal a w) a' w'
      unfold wpOp
      rw [ho]
      refine stepR_wp hck h3 hA' hsz' q3.rel (free_all (hw0.trans q3) hfree') Q (fun a w => Q .normal a w) fun r'' v v' A'' h'' w'' k1 k2 k3 k4 => ?_
      exact hQ r'' (a'.put o.dst v') w'' _ h'' .normal ((k2.mono k3.le).put hsz' o.dst k1) (by rw [size_put]; exact hsz') (by rw [← q2]; cases o.dst <;> rfl) ((hw0.trans q3).trans k3) k4
    have hps : ops.pop.size = n := by simp [hn]
    rw [hps] at hsub
    rw [hn]
    refine wpAny_last hn ht (fun listed hs hshut hr i hi => ?_) n (Array.replicate (n + 1) false) (Array.replicate n false) a _ (by simp) (by simp) (fun i hi => ?_) (by simp) (fun m om hom hm' e he hb => by rw [getD_rep] at hm'; cases hm') hsub
    · obtain ⟨_, q, hq, hl⟩ := mem_ready.1 hr
      rw [ho] at hq
      cases hq
      exact masks_listed hM (by omega) hshut n o ho hl i hi (List.all_eq_true.1 hcov i (List.mem_range.2 hi))
    · have e1 : i < n + 1 := by omega
      simp [hi, e1]

theorem denRegionL {P : Program} {N i n : Nat} {c : Code} {ops : Array Oper} {ck : CK} {rt : List (EntryR P)} (h : c = .region i ops true) (hm : P.follows .mixedOrders = true) (hck : ck.call.Sound P) (hok : okLast P ops n = true) : DenG true P N c (regL P ck rt N ops n) := h ▸ DenG.regionL hm hck hok

end Go.Ev
