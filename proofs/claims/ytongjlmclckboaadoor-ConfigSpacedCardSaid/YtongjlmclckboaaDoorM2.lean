/- Own texts, joined: EvH EvI EvJ EvK EvL EvM EvN EvP. -/
import Derived.Test.YtongjlmclckboaaDoorM1
import Derived.LoopN
set_option linter.all false
/- The abstract machine Ev, part H: one operation of any kind, calls among them. -/
namespace Go.Ev

def evCopy (P : Program) (ts : List TypeId) (xs : List AV) (h : H) : Option (AV × H) :=
  match ts[0]?, xs with
  | some t1, [d, x] =>
    match P.underlying t1 with
    | some (.slice e) =>
      (P.info? e).bind fun inf => (evSrc inf.size x h).bind fun q =>
      match d with
      | .slice none 0 (.known 0) => some (.int .i64 0, h)
      | .slice (some (i, o)) len _ =>
        if Nat.min q.1 len = 0 then some (.int .i64 0, h) else
        match h.get i with
        | some (.cells old false) =>
          if o + (q.2.take (Nat.min q.1 len * inf.size)).length ≤ old.length ∧ (q.2.take (Nat.min q.1 len * inf.size)).all isCell = true then
            some (.int .i64 (Nat.min q.1 len : Nat), h.set i (.cells (spl old o (q.2.take (Nat.min q.1 len * inf.size))) false))
          else none
        | _ => none
      | _ => none
    | _ => none
  | _, _ => none

theorem evCopy_sim {P : Program} {r : Ren} {h h' : H} {w : World} (hrel : Rel r h w) {ts : Array TypeId} {ty : TypeId} {xs : List AV} {xs' : Array Value} {v : AV}
    (hs : evCopy P ts.toList xs h = some (v, h')) (hx : VRL r xs xs'.toList) :
    ∃ v' w', (Builtin.copy_ ts ty xs').run P w = .ok v' w' ∧ VR r v v' ∧ Post r h w r h' w' := by
  unfold evCopy at hs
  split at hs
  · rename_i t1 d x ht1
    obtain ⟨d', ys, hxs, hvd, hx⟩ := hx.inv_cons
    obtain ⟨x', ys', rfl, hvx, hx⟩ := hx.inv_cons
    obtain rfl : ys' = [] := List.eq_nil_of_length_eq_zero hx.1.symm
    obtain rfl : xs' = #[d', x'] := Array.ext' hxs
    have h1 : ts[0]? = some t1 := by rw [← Array.getElem?_toList]; exact ht1
    split at hs
    · rename_i e hu1
      obtain ⟨inf, hinf, hs⟩ := Option.bind_eq_some_iff.1 hs
      obtain ⟨⟨n, news⟩, hsrc, hs⟩ := Option.bind_eq_some_iff.1 hs
      obtain ⟨nv, hnv, hnl, hnrun⟩ := evSrc_sim (P := P) hrel hsrc hvx
      have hsz : P.cellsOf e = inf.size := by simp [Program.cellsOf, hinf]
      have run0 : ∀ base len c w', (base = none → w' = w) → (∀ a, base = some a → (storeCells a (nv.take (Nat.min n len * inf.size))).run P w = .ok () w') →
          (Builtin.copy_ ts ty #[.slice base len c, x']).run P w = .ok (goInt (Nat.min n len)) w' := by
        intro base len c w' hnone hst
        have hf := (hnrun w rfl).2 (Nat.min n len) (Nat.min_le_left _ _)
        simp only [Builtin.copy_, h1, List.getElem?_toArray, List.getElem?_cons_zero, List.getElem?_cons_succ, Sem.run_bind, run_underlying hu1, Result.andThen_ok, (hnrun w rfl).1, run_sizeOf w hinf, hsz, hf]
        cases base with
        | none => simp [hnone rfl]
        | some a => simp [hst a rfl]
      simp only at hs
      split at hs
      · cases hs
        cases hvd
        refine ⟨_, w, run0 _ _ _ w (fun _ => rfl) (fun a ha => by cases ha), ?_, Post.refl hrel⟩
        have : Nat.min n 0 = 0 := Nat.min_eq_right (Nat.zero_le _)
        rw [this]; exact .int _ _
      · rename_i i o len c _ _
        split at hs
        · rename_i h0
          cases hs
          have key : ∀ a c', ∃ v' w', (Builtin.copy_ ts ty #[.slice (some a) len c', x']).run P w = .ok v' w' ∧ VR r (.int .i64 0) v' ∧ Post r h w r h w' := by
            intro a c'
            refine ⟨_, w, run0 _ _ _ w (fun h => by cases h) (fun a' ha => by rw [h0]; simp [storeCells]), ?_, Post.refl hrel⟩
            rw [h0]; exact .int _ _
          cases hvd <;> exact key _ _
        · rename_i h0
          split at hs
          · rename_i old hg
            split at hs
            · rename_i hb
              cases hs
              have key : ∀ (t : Tgt) c', r i = some t → ∃ v' w', (Builtin.copy_ ts ty #[.slice (some ⟨t.blk, t.base + o, none⟩) len c', x']).run P w = .ok v' w' ∧ VR r (.int .i64 (Nat.min n len : Nat)) v' ∧
                  Post r h w r (h.set i (.cells (spl old o (news.take (Nat.min n len * inf.size))) false)) w' := by
                intro t c' ht
                obtain ⟨w', hw', hpost⟩ := write_row (P := P) hrel ht hg (hnv.take (Nat.min n len * inf.size)) hb.2 (o := o) hb.1
                refine ⟨_, w', run0 _ _ _ w' (fun h => by cases h) (fun a' ha => by cases ha; exact hw'), .int _ _, hpost⟩
              cases hvd with
              | slice _ _ ht => exact key _ _ ht
              | sliceRest _ _ _ ht _ _ => exact key _ _ ht
              | sliceBare _ => exact absurd (Nat.min_eq_right (Nat.zero_le _)) h0
              | sliceEnd _ _ _ => exact absurd (Nat.min_eq_right (Nat.zero_le _)) h0
            · cases hs
          · cases hs
      · cases hs
    · cases hs
  · cases hs

def evNext (it : AV) (h : H) : Option (AV × H) :=
  match it with
  | .ptr (some (i, 0)) =>
    match h.get i with
    | some (.siter s pos) =>
      if pos < s.size then some (.tup [.bool true, .int .i64 pos, .int .i32 (Utf8.decode s pos).1], h.set i (.siter s (pos + (Utf8.decode s pos).2)))
      else some (.tup [.bool false], h)
    | _ => none
  | _ => none

theorem VR_tup {r : Ren} {as : List AV} {vs : List Value} (h : VRL r as vs) : VR r (.tup as) (.tuple vs.toArray) :=
  .tup _ _ (by simpa using h.1) fun i a v ha hv => h.2 i a v ha (by simpa using hv)

theorem evNext_sim {P : Program} {r : Ren} {h h' : H} {w : World} (hrel : Rel r h w) {it v : AV} {it' : Value} {ty : TypeId} (hs : evNext it h = some (v, h')) (hx : VR r it it') :
    ∃ v' w', (Instr.next it' true ty).run P w = .ok v' w' ∧ VR r v v' ∧ Post r h w r h' w' := by
  unfold evNext at hs
  split at hs
  · rename_i i
    split at hs
    · rename_i s pos hg
      cases hx with
      | ptr ht =>
      rename_i t
      obtain ⟨hb, h0⟩ := hrel.obj _ _ _ ht hg
      have hget : (getObj t.blk).run P w = .ok (.stringIter s pos) w := by simp [getObj, Sem.run, hb]
      simp only [h0, Nat.add_zero]
      split at hs
      · rename_i hp
        cases hs
        refine ⟨_, { w with heap := w.heap.setIfInBounds t.blk (.stringIter s (pos + (Utf8.decode s pos).2)) }, ?_, VR_tup (vs := [.bool true, goInt pos, .int .i32 (Utf8.decode s pos).1]) (.cons (.bool _) (.cons (.int _ _) (.cons (.int _ _) .nil))), ?_⟩
        · simp only [Instr.next, Sem.run_bind, hget, Result.andThen_ok, hp, if_true, setObj, Sem.run, hb]
          rfl
        · have hlt := World.block_lt hb
          refine Post.of_set hrel ht hg rfl rfl (by simp) ⟨rfl, rfl, rfl, fun _ => Nat.le_refl _⟩ (fun b hbb => by simp [Array.getElem?_setIfInBounds_ne (Ne.symm hbb)]) ⟨by simp [hlt], h0⟩
      · rename_i hp
        cases hs
        refine ⟨_, w, ?_, VR_tup (vs := [.bool false]) (.cons (.bool _) .nil), Post.refl hrel⟩
        simp only [Instr.next, Sem.run_bind, hget, Result.andThen_ok, hp, if_false]
        rfl
    · cases hs
  · cases hs

def evPutM (P : Program) (t : TypeId) (m k v : AV) (h : H) : Option H :=
  match P.underlying t, m with
  | some (.map kt _), .map m => (match P.underlying kt with | some kd => if keyKind kd k = true then evMapPut m k v h else none | none => none)
  | _, _ => none

theorem evPutM_sim {P : Program} {r : Ren} {h h' : H} {w : World} (hrel : Rel r h w) {t : TypeId} {m k v : AV} {m' k' v' : Value} (hs : evPutM P t m k v h = some h') (hm : VR r m m') (hk : VR r k k') (hv : VR r v v') :
    ∃ w', (Instr.mapUpdate t m' k' v').run P w = .ok () w' ∧ Post r h w r h' w' := by
  unfold evPutM at hs
  split at hs
  · rename_i kt e mm hu
    split at hs
    · rename_i kd hkd
      split at hs
      · rename_i hkk
        exact evMapPut_sim hrel hu hkd hkk hs hm hk hv
      · cases hs
    · cases hs
  · cases hs

def evDelM (P : Program) (ts : List TypeId) (xs : List AV) (h : H) : Option (AV × H) :=
  match ts, xs with
  | [t, _], [.map m, k] => (match P.underlying t with | some (.map kt _) => (match P.underlying kt with | some kd => if keyKind kd k = true then (evMapDel m k h).map fun h' => (.tup [], h') else none | none => none) | _ => none)
  | _, _ => none

def evClearM (P : Program) (ts : List TypeId) (xs : List AV) (h : H) : Option (AV × H) :=
  match ts, xs with
  | [t], [.map m] => (match P.underlying t with | some (.map _ _) => (evMapClear m h).map fun h' => (.tup [], h') | _ => none)
  | _, _ => none

def evFull (P : Program) (ρ : Operand → AV) (op : Op) (h : H) : Option (AV × H) :=
  match op with
  | .store t a x => (evStore P t (ρ a) (ρ x) h).map fun h' => (.junk, h')
  | .next it true => evNext (ρ it) h
  | .mapUpdate t m k x => (evPutM P t (ρ m) (ρ k) (ρ x) h).map fun h' => (.junk, h')
  | .insert t m k x => (evPutM P t (ρ m) (ρ k) (ρ x) h).map fun h' => (.junk, h')
  | .call c =>
    match c.callee with
    | .builtin .append => evAppend P c.argTypes.toList (c.args.toList.map ρ) h
    | .builtin .copy => evCopy P c.argTypes.toList (c.args.toList.map ρ) h
    | .builtin .delete => evDelM P c.argTypes.toList (c.args.toList.map ρ) h
    | .builtin .clear => evClearM P c.argTypes.toList (c.args.toList.map ρ) h
    | _ => none
  | _ => none

theorem evFull_sim {P : Program} {r : Ren} {h h' : H} {w : World} (hrel : Rel r h w) (hfree : ∀ i, h.next ≤ i → i < h'.next → r i = none) {ρ : Operand → AV} {ρ' : Operand → Value} (hρ : ∀ x, VR r (ρ x) (ρ' x)) (o : Oper) {v : AV}
    (hs : evFull P ρ o.op h = some (v, h')) :
    ∃ r' v' w' n, (execOp ρ' o).run P w = .ok n w' ∧ (n = .value v' ∨ (n = .skip ∧ v' = undef)) ∧ VR r' v v' ∧ Post r h w r' h' w' := by
  unfold evFull at hs
  cases hop : o.op <;> simp only [hop] at hs <;> try (cases hs; done)
  case store t a x =>
    obtain ⟨h'', hst, hs⟩ := Option.map_eq_some_iff.1 hs
    cases hs
    obtain ⟨w', hr, hp⟩ := evStore_sim (P := P) hrel hst (hρ a) (hρ x)
    exact ⟨r, undef, w', .skip, by simp [execOp, hop, hr], .inr ⟨rfl, rfl⟩, .junk _, hp⟩
  case mapUpdate t m k x =>
    obtain ⟨h'', hst, hs⟩ := Option.map_eq_some_iff.1 hs
    cases hs
    obtain ⟨w', hr, hp⟩ := evPutM_sim (P := P) hrel hst (hρ m) (hρ k) (hρ x)
    exact ⟨r, undef, w', .skip, by simp [execOp, hop, hr], .inr ⟨rfl, rfl⟩, .junk _, hp⟩
  case insert t m k x =>
    obtain ⟨h'', hst, hs⟩ := Option.map_eq_some_iff.1 hs
    cases hs
    obtain ⟨w', hr, hp⟩ := evPutM_sim (P := P) hrel hst (hρ m) (hρ k) (hρ x)
    exact ⟨r, undef, w', .skip, by simp [execOp, hop, hr], .inr ⟨rfl, rfl⟩, .junk _, hp⟩
  case next it b =>
    cases b <;> simp only at hs
    · cases hs
    · obtain ⟨v', w', hr, hv, hp⟩ := evNext_sim (P := P) (ty := o.type) hrel hs (hρ it)
      exact ⟨r, v', w', .value v', by simp [execOp, hop, hr], .inl rfl, hv, hp⟩
  case call c =>
    have hargs := VRL_ops hρ c.args
    split at hs
    · rename_i hb
      obtain ⟨r', v', w', hr, hv, hp⟩ := evAppend_sim (P := P) (ty := o.type) hrel hfree hs hargs
      exact ⟨r', v', w', .value v', by simp [execOp, hop, resolve, hb, invoke, builtin, hr], .inl rfl, hv, hp⟩
    · rename_i hb
      obtain ⟨v', w', hr, hv, hp⟩ := evCopy_sim (P := P) (ty := o.type) hrel hs hargs
      exact ⟨r, v', w', .value v', by simp [execOp, hop, resolve, hb, invoke, builtin, hr], .inl rfl, hv, hp⟩
    · rename_i hb
      unfold evDelM at hs
      split at hs
      · rename_i t t2 m k hts hxs
        split at hs
        · rename_i kt e hu
          split at hs
          · rename_i kd hkd
            split at hs
            · rename_i hkk
              obtain ⟨h2, hd, hs⟩ := Option.map_eq_some_iff.1 hs
              cases hs
              rw [hxs] at hargs
              obtain ⟨m', vs', hcs, hm, hr⟩ := hargs.inv_cons
              obtain ⟨k', vs'', hcs2, hk, hr2⟩ := hr.inv_cons
              have hvs : vs'' = [] := List.eq_nil_of_length_eq_zero hr2.1.symm
              subst hvs
              subst hcs2
              have e1 : c.argTypes = #[t, t2] := by rw [← Array.toList_inj]; simpa using hts
              have e2 : c.args.map ρ' = #[m', k'] := by rw [← Array.toList_inj]; simpa using hcs
              obtain ⟨w', hrun, hp⟩ := evMapDel_sim (P := P) (ty := o.type) (t2 := t2) hrel hu hkd hkk hd hm hk
              exact ⟨r, .tuple #[], w', .value (.tuple #[]), by simp [execOp, hop, resolve, hb, invoke, builtin, e1, e2, hrun], .inl rfl, VR_tup (vs := []) .nil, hp⟩
            · cases hs
          · cases hs
        · cases hs
      · cases hs
    · rename_i hb
      unfold evClearM at hs
      split at hs
      · rename_i t m hts hxs
        split at hs
        · rename_i kt e hu
          obtain ⟨h2, hd, hs⟩ := Option.map_eq_some_iff.1 hs
          cases hs
          rw [hxs] at hargs
          obtain ⟨m', vs', hcs, hm, hr⟩ := hargs.inv_cons
          have hvs : vs' = [] := List.eq_nil_of_length_eq_zero hr.1.symm
          subst hvs
          have e1 : c.argTypes = #[t] := by rw [← Array.toList_inj]; simpa using hts
          have e2 : c.args.map ρ' = #[m'] := by rw [← Array.toList_inj]; simpa using hcs
          obtain ⟨w', hrun, hp⟩ := evMapClear_sim (P := P) (ty := o.type) hrel hu hd hm
          exact ⟨r, .tuple #[], w', .value (.tuple #[]), by simp [execOp, hop, resolve, hb, invoke, builtin, e1, e2, hrun], .inl rfl, VR_tup (vs := []) .nil, hp⟩
        · cases hs
      · cases hs
    · cases hs

/-! ### calls -/

abbrev CallFn := FuncId → List AV → H → Option (AV × H)

structure ACall (P : Program) (f : FuncId) (args : List AV) (h : H) (v : AV) (h' : H) : Prop where
  there : ∃ fn, P.funcs[f]? = some fn ∧ fn.body.isNone = false ∧ (fn.name == "runtime.NumGoroutine") = false
  next : h.next ≤ h'.next
  wf : (∀ i o, h.get i = some o → i < h.next) → ∀ i o, h'.get i = some o → i < h'.next
  sim : ∀ (r : Ren) (w : World) (args' : Array Value), Rel r h w → (∀ i, h.next ≤ i → i < h'.next → r i = none) → VRL r args args'.toList →
    Calls P f args' w fun e w' => ∃ r' v', e = .returned v' ∧ VR r' v v' ∧ Post r h w r' h' w'

/-- a function without a body, which the model has a stand-in for -/
structure XCall (P : Program) (f : FuncId) (args : List AV) (h : H) (v : AV) (h' : H) : Prop where
  there : ∃ fn e, P.funcs[f]? = some fn ∧ fn.body.isNone = true ∧ (fn.name == "runtime.NumGoroutine") = false ∧ (Extern.findNext fn).isNone = true ∧ Extern.find fn = some e ∧
    ∀ (r : Ren) (w : World) (args' : Array Value), Rel r h w → (∀ i, h.next ≤ i → i < h'.next → r i = none) → VRL r args args'.toList → ∃ r' v' w', (e args').run P w = .ok v' w' ∧ VR r' v v' ∧ Post r h w r' h' w'
  next : h.next ≤ h'.next
  wf : (∀ i o, h.get i = some o → i < h.next) → ∀ i o, h'.get i = some o → i < h'.next

def Called (P : Program) (f : FuncId) (args : List AV) (h : H) (v : AV) (h' : H) : Prop := ACall P f args h v h' ∨ XCall P f args h v h'
theorem Called.next {P : Program} {f : FuncId} {args : List AV} {h : H} {v : AV} {h' : H} (c : Called P f args h v h') : h.next ≤ h'.next := c.elim (·.next) (·.next)
theorem Called.wf {P : Program} {f : FuncId} {args : List AV} {h : H} {v : AV} {h' : H} (c : Called P f args h v h') : (∀ i o, h.get i = some o → i < h.next) → ∀ i o, h'.get i = some o → i < h'.next := c.elim (·.wf) (·.wf)
def CallFn.Sound (P : Program) (call : CallFn) : Prop := ∀ f args h v h', call f args h = some (v, h') → Called P f args h v h'

inductive Class where
  | pure | alloc | read | full
  deriving DecidableEq

def sliceD (P : Program) (t : TypeId) : Bool := match P.underlying t with | some (.slice _) => true | _ => false

def mapD (P : Program) (t : TypeId) : Bool := match P.underlying t with | some (.map _ _) => true | _ => false

def cls (P : Program) (op : Op) : Class :=
  match op with
  | .alloc _ => .alloc
  | .box _ _ => .alloc
  | .buildSlice _ _ _ => .alloc
  | .makeMap _ _ => .alloc
  | .makeSlice _ _ _ => .alloc
  | .range _ _ => .alloc
  | .load _ _ => .read
  | .lookup _ _ _ _ => .read
  | .convert s d _ => if sliceD P d then .alloc else if sliceD P s then .read else .pure
  | .insert _ _ _ _ => .full
  | .call c => match c.callee with | .builtin .len => if mapD P (c.argTypes.toList.headD 0) then .read else .pure | .builtin .max => .pure | .builtin .min => .pure | _ => .full
  | .store _ _ _ => .full
  | .next _ _ => .full
  | .mapUpdate _ _ _ _ => .full
  | _ => .pure

def evOper (P : Program) (call : CallFn) (ρ : Operand → AV) (op : Op) (h : H) : Option (AV × H) :=
  match cls P op with
  | .pure => (evPure P ρ op).map fun v => (v, h)
  | .alloc => (evAlloc P ρ op).map fun q => (q.2 h.next, h.newO q.1)
  | .read => (evRead P ρ op h).map fun v => (v, h)
  | .full =>
    match op with
    | .call c =>
      match c.callee with
      | .value x => match ρ x with | .func f first caps => call f (first ++ c.args.toList.map ρ ++ caps) h | _ => none
      | _ => evFull P ρ op h
    | _ => evFull P ρ op h

/-- what carrying out one operation leads to -/
def Leads (P : Program) (o : Oper) (a : Act) (w : World) (Φ : Value → World → Prop) : Prop :=
  ∀ (Q : Exit → Act → World → Prop) (K : Act → World → Prop), (∀ v' w', Φ v' w' → K (a.put o.dst v') w') → o.wp P a w K Q

theorem Leads.of_run {P : Program} {o : Oper} {a : Act} {w w' : World} {Φ : Value → World → Prop} {n : Next} {v' : Value} (hr : (execOp a.eval o).run P w = .ok n w') (hn : n = .value v' ∨ (n = .skip ∧ v' = undef)) (h : Φ v' w') : Leads P o a w Φ := by
  intro Q K hK
  unfold Oper.wp
  rw [hr]
  rcases hn with rfl | ⟨rfl, rfl⟩
  · exact hK _ _ h
  · exact hK _ _ h

theorem pure_leads {P : Program} {r : Ren} {ρ : Operand → AV} {o : Oper} {a : Act} (hρ : ∀ x, VR r (ρ x) (a.eval x)) {v : AV} (h : evPure P ρ o.op = some v) (w : World) : Leads P o a w fun v' w' => VR r v v' ∧ w' = w := by
  obtain ⟨v', hv, hr⟩ := evPure_sim hρ o h
  exact Leads.of_run (hr w) (.inl rfl) ⟨hv, rfl⟩

theorem read_leads {P : Program} {r : Ren} {ρ : Operand → AV} {o : Oper} {a : Act} (hρ : ∀ x, VR r (ρ x) (a.eval x)) {v : AV} {h : H} {w : World} (hrel : Rel r h w) (hv : evRead P ρ o.op h = some v) : Leads P o a w fun v' w' => VR r v v' ∧ w' = w := by
  obtain ⟨v', hv, hr⟩ := evRead_sim hrel hρ o hv
  exact Leads.of_run hr (.inl rfl) ⟨hv, rfl⟩

/-- what a new block brings: in whatever world, whatever else lies there -/
theorem alloc_leads {P : Program} {r : Ren} {ρ : Operand → AV} {o : Oper} {a : Act} (hρ : ∀ x, VR r (ρ x) (a.eval x)) {ob : Option AObj} {mk : Nat → AV} (h : evAlloc P ρ o.op = some (ob, mk)) (w : World) :
    Leads P o a w fun v' w' => ∃ row, w'.heap.size = w.heap.size + 1 ∧ Env w w' ∧ (∀ b, b < w.heap.size → w'.heap[b]? = w.heap[b]?) ∧
      (∀ x, ob = some x → ∀ r' : Ren, r.le r' → OR r' w' ⟨w.heap.size, 0, row⟩ x) ∧ (∀ r' i, r'.le r' → r' i = some ⟨w.heap.size, 0, row⟩ → VR r' (mk i) v') := by
  obtain ⟨s, hs, hm⟩ := evAlloc_sim (P := P) hρ o h
  obtain ⟨row, v', w', h1, h2, he, h3, h4, h5⟩ := hm.run w
  exact Leads.of_run (n := .value v') (by rw [hs]; simp [h1]) (.inl rfl) ⟨row, h2, he, h3, h4, h5⟩

theorem full_leads {P : Program} {call : CallFn} (hcall : call.Sound P) {r : Ren} {ρ : Operand → AV} {o : Oper} {a : Act} (hρ : ∀ x, VR r (ρ x) (a.eval x)) {v : AV} {h h' : H} {w : World} (hrel : Rel r h w)
    (hfree : ∀ i, h.next ≤ i → i < h'.next → r i = none) (hc : cls P o.op = .full) (hv : evOper P call ρ o.op h = some (v, h')) :
    Leads P o a w fun v' w' => ∃ r', VR r' v v' ∧ Post r h w r' h' w' := by
  unfold evOper at hv
  rw [hc] at hv
  simp only at hv
  have main : evFull P ρ o.op h = some (v, h') → Leads P o a w fun v' w' => ∃ r', VR r' v v' ∧ Post r h w r' h' w' := by
    intro hf
    obtain ⟨r', v', w', n, hr, hn, hv, hp⟩ := evFull_sim hrel hfree hρ o hf
    exact Leads.of_run hr hn ⟨r', hv, hp⟩
  split at hv
  · rename_i c hop
    split at hv
    · rename_i x hx
      have hxv := hρ x
      split at hv
      · rename_i f first caps hfx
        rw [hfx] at hxv
        generalize hq : a.eval x = q at hxv
        cases hxv with
        | func _ _ _ first' caps' h1 h2 h3 h4 =>
        have hac0 := hcall _ _ _ _ _ hv
        have hargs : VRL r (first ++ c.args.toList.map ρ ++ caps) (first' ++ c.args.map a.eval ++ caps').toList := by
          rw [Array.toList_append, Array.toList_append]
          have e1 : VRL r first first'.toList := ⟨by simpa using h1, fun i x v hx hv => h3 i x v hx (by simpa using hv)⟩
          have e2 : VRL r caps caps'.toList := ⟨by simpa using h2, fun i x v hx hv => h4 i x v hx (by simpa using hv)⟩
          exact (e1.append (VRL_ops hρ c.args)).append e2
        rcases hac0 with hac | hax
        rotate_left
        · obtain ⟨fn, e, hfn, hbody, hname, hnx, hex, hsim⟩ := hax.there
          obtain ⟨r', v', w', hr, hv', hp⟩ := hsim r w _ hrel hfree hargs
          have hn1 : ¬ fn.name = "runtime.NumGoroutine" := by simpa using hname
          have hb1 : fn.body = none := by simpa using hbody
          have hnx1 : Extern.findNext fn = none := by simpa using hnx
          rw [Array.append_assoc] at hr
          refine Leads.of_run (n := .value v') ?_ (.inl rfl) ⟨r', hv', hp⟩
          simp [execOp, hop, resolve, hx, hq, Deferred.ofValue, invoke, callFunc, hfn, hb1, hn1, hnx1, hex, hr]
        obtain ⟨fn, hfn, hbody, hname⟩ := hac.there
        have hsim := hac.sim r w _ hrel hfree hargs
        intro Q K hK
        unfold Oper.wp
        have hr : (execOp a.eval o).run P w = .ok (.enter f (first' ++ c.args.map a.eval ++ caps')) w := by
          have hn1 : ¬ fn.name = "runtime.NumGoroutine" := by simpa using hname
          have hb1 : ¬ fn.body = none := fun e => by rw [e] at hbody; cases hbody
          simp [execOp, hop, resolve, hx, hq, Deferred.ofValue, invoke, callFunc, hfn, hb1, hn1]
        rw [hr, Oper.upon_enter]
        refine hsim.mono fun e w' he => ?_
        obtain ⟨r', v', rfl, hv', hp⟩ := he
        exact hK _ _ ⟨r', hv', hp⟩
      · cases hv
    · exact main hv
  · exact main hv

end Go.Ev

/- The abstract machine Ev, part I: a row of operations in the text's order. -/
namespace Go.Ev

def putD (fr : List AV) (d : Option Tmp) (v : AV) : List AV := match d with | some d => fr.set d v | none => fr

theorem FR.putD {r : Ren} {fr : List AV} {a : Act} (h : FR r fr a) (d : Option Tmp) {x : AV} {v : Value} (hv : VR r x v) : FR r (putD fr d x) (a.put d v) := FR.put h d hv

theorem FR.mono {r r' : Ren} (hr : r.le r') {fr : List AV} {a : Act} (h : FR r fr a) : FR r' fr a := VRL.mono hr h

def evWanted (ops : Array Oper) (ρ : Operand → AV) (o : Oper) : Option Bool :=
  match o.guard with
  | none => some true
  | some (j, want) =>
    match (ops[j]?).bind (·.dst) with
    | none => some false
    | some t => match ρ (.tmp t) with | .bool b => some (b == want) | .tup [] => some false | _ => none

theorem wanted_sim {r : Ren} {ops : Array Oper} {ρ : Operand → AV} {a : Act} {o : Oper} {b : Bool} (h : evWanted ops ρ o = some b)
    (hρ : ∀ t, (∃ j w, o.guard = some (j, w) ∧ (ops[j]?).bind (·.dst) = some t) → VR r (ρ (.tmp t)) (a.eval (.tmp t))) : Region.wanted o (yielded ops a.tmps) = b := by
  unfold evWanted at h
  unfold Region.wanted
  split at h
  · rename_i hg; rw [hg]; cases h; rfl
  · rename_i j want hg
    rw [hg]
    simp only
    split at h
    · rename_i hd
      cases h
      simp [yielded, hd]
    · rename_i t hd
      have hv := hρ t ⟨j, want, hg, hd⟩
      have hy : ∀ v, a.eval (.tmp t) = v → v ≠ undef → a.tmps[t]? = some v := by
        intro v hv hne
        simp only [Act.eval] at hv
        cases hq : a.tmps[t]? with
        | none => rw [Array.getD_eq_getD_getElem?, hq] at hv; exact absurd hv.symm hne
        | some u => rw [Array.getD_eq_getD_getElem?, hq] at hv; simp at hv; rw [hv]
      split at h
      · rename_i c hc
        cases h
        rw [hc] at hv
        generalize hq : a.eval (.tmp t) = q at hv
        cases hv
        have := hy _ hq (by intro e; cases e)
        simp only [yielded, hd, Option.bind_some, this]
        cases c <;> cases want <;> rfl
      · rename_i hc
        cases h
        rw [hc] at hv
        generalize hq : a.eval (.tmp t) = q at hv
        cases hv with
        | tup _ vs h1 h2 =>
        have hvs : vs = #[] := Array.eq_empty_of_size_eq_zero (by simpa using h1.symm)
        subst hvs
        have : ∀ b, a.tmps[t]? ≠ some (.bool b) := by
          intro b hb
          simp only [Act.eval] at hq
          rw [Array.getD_eq_getD_getElem?, hb] at hq
          simp at hq
        have hn : yielded ops a.tmps j = none := by
          unfold yielded
          rw [hd]
          cases hq2 : a.tmps[t]? with
          | none => simp [hq2]
          | some u => cases u <;> first | (simp [hq2]; done) | exact absurd hq2 (this _)
        rw [hn]; rfl
      · cases h

def evStep (P : Program) (call : CallFn) (ops : Array Oper) (o : Oper) (ρ : Operand → AV) (h : H) : Option (AV × H) :=
  (evWanted ops ρ o).bind fun b => if b then evOper P call ρ o.op h else some (.tup [], h)

def evOps (P : Program) (call : CallFn) (ops : Array Oper) : List Oper → List AV → H → Option (List AV × H)
  | [], fr, h => some (fr, h)
  | o :: rest, fr, h => (evStep P call ops o (opd fr) h).bind fun q => evOps P call ops rest (putD fr o.dst q.1) q.2

/-! ### what every operation leaves of a heap -/

def H.WF (h : H) : Prop := ∀ i o, h.get i = some o → i < h.next

theorem WF_set {h : H} {i : Nat} {o o' : AObj} (hw : h.WF) (hg : h.get i = some o) : (h.set i o').WF := by
  intro j oj hj
  simp only [H.set] at hj ⊢
  split at hj
  · rename_i e; subst e; exact hw _ _ hg
  · exact hw _ _ hj

theorem WF_new {h : H} {o : AObj} (hw : h.WF) : (h.new o).WF := by
  intro j oj hj
  simp only [H.new] at hj ⊢
  split at hj
  · omega
  · have := hw _ _ hj; omega

theorem WF_newO {h : H} {o : Option AObj} (hw : h.WF) : (h.newO o).WF := by
  cases o with
  | some o => exact WF_new hw
  | none => exact fun i x hi => Nat.lt_succ_of_lt (hw i x hi)
theorem WF_kill {h : H} {i : Nat} (hw : h.WF) : (h.kill i).WF := by
  intro j oj hj
  simp only [H.kill] at hj ⊢
  split at hj
  · cases hj
  · exact hw _ _ hj

theorem evPutM_grows {P : Program} {t : TypeId} {m k v : AV} {h h' : H} (hs : evPutM P t m k v h = some h') : h.next ≤ h'.next ∧ (h.WF → h'.WF) := by
  unfold evPutM at hs
  split at hs
  · split at hs
    · split at hs
      · unfold evMapPut at hs
        split at hs
        · cases hs
        · split at hs
          · rename_i hg
            obtain ⟨es, _, rfl⟩ := Option.map_eq_some_iff.1 hs
            exact ⟨Nat.le_refl _, fun hw => WF_set hw hg⟩
          · cases hs
      · cases hs
    · cases hs
  · cases hs

theorem evDelM_grows {P : Program} {ts : List TypeId} {xs : List AV} {v : AV} {h h' : H} (hs : evDelM P ts xs h = some (v, h')) : h.next ≤ h'.next ∧ (h.WF → h'.WF) := by
  unfold evDelM at hs
  split at hs
  · split at hs
    · split at hs
      · split at hs
        · obtain ⟨h2, hd, hs⟩ := Option.map_eq_some_iff.1 hs
          cases hs
          unfold evMapDel at hd
          split at hd
          · cases hd; exact ⟨Nat.le_refl _, id⟩
          · split at hd
            · rename_i hg
              obtain ⟨es, _, rfl⟩ := Option.map_eq_some_iff.1 hd
              exact ⟨Nat.le_refl _, fun hw => WF_set hw hg⟩
            · cases hd
        · cases hs
      · cases hs
    · cases hs
  · cases hs

theorem evClearM_grows {P : Program} {ts : List TypeId} {xs : List AV} {v : AV} {h h' : H} (hs : evClearM P ts xs h = some (v, h')) : h.next ≤ h'.next ∧ (h.WF → h'.WF) := by
  unfold evClearM at hs
  split at hs
  · split at hs
    · obtain ⟨h2, hd, hs⟩ := Option.map_eq_some_iff.1 hs
      cases hs
      unfold evMapClear at hd
      split at hd
      · cases hd; exact ⟨Nat.le_refl _, id⟩
      · split at hd
        · rename_i hg
          cases hd
          exact ⟨Nat.le_refl _, fun hw => WF_set hw hg⟩
        · cases hd
    · cases hs
  · cases hs

theorem evFull_grows {P : Program} {ρ : Operand → AV} {op : Op} {h h' : H} {v : AV} (hs : evFull P ρ op h = some (v, h')) : h.next ≤ h'.next ∧ (h.WF → h'.WF) := by
  unfold evFull at hs
  split at hs
  · obtain ⟨h'', hst, hs⟩ := Option.map_eq_some_iff.1 hs
    cases hs
    unfold evStore at hst
    split at hst
    · split at hst
      · rename_i hg
        split at hst
        · cases hst; exact ⟨Nat.le_refl _, fun hw => WF_set hw hg⟩
        · cases hst
      · cases hst
    · cases hst
  · unfold evNext at hs
    split at hs
    · split at hs
      · rename_i hg
        split at hs
        · cases hs; exact ⟨Nat.le_refl _, fun hw => WF_set hw hg⟩
        · cases hs; exact ⟨Nat.le_refl _, id⟩
      · cases hs
    · cases hs
  · obtain ⟨h'', hst, hs⟩ := Option.map_eq_some_iff.1 hs
    cases hs; exact evPutM_grows hst
  · obtain ⟨h'', hst, hs⟩ := Option.map_eq_some_iff.1 hs
    cases hs; exact evPutM_grows hst
  · split at hs
    · unfold evAppend at hs
      split at hs
      · split at hs
        · split at hs
          · cases hs
          · obtain ⟨inf, _, hs⟩ := Option.bind_eq_some_iff.1 hs
            obtain ⟨zs, _, hs⟩ := Option.bind_eq_some_iff.1 hs
            obtain ⟨q, _, hs⟩ := Option.bind_eq_some_iff.1 hs
            split at hs
            · unfold evApp at hs
              repeat' split at hs
              all_goals first
                | (cases hs; done)
                | (cases hs; exact ⟨Nat.le_refl _, id⟩)
                | (cases hs; exact ⟨by simp [H.new, H.kill], fun hw => WF_new hw⟩)
                | (cases hs; exact ⟨by simp [H.new, H.kill], fun hw => WF_new (WF_kill hw)⟩)
                | (rename_i hg _; cases hs; exact ⟨Nat.le_refl _, fun hw => WF_set hw hg⟩)
            · cases hs
        · cases hs
      · cases hs
    · unfold evCopy at hs
      split at hs
      · split at hs
        · obtain ⟨inf, _, hs⟩ := Option.bind_eq_some_iff.1 hs
          obtain ⟨q, _, hs⟩ := Option.bind_eq_some_iff.1 hs
          repeat' split at hs
          all_goals first
            | (cases hs; done)
            | (cases hs; exact ⟨Nat.le_refl _, id⟩)
            | (rename_i hg _; cases hs; exact ⟨Nat.le_refl _, fun hw => WF_set hw hg⟩)
        · cases hs
      · cases hs
    · exact evDelM_grows hs
    · exact evClearM_grows hs
    · cases hs
  · cases hs

theorem evOper_grows {P : Program} {call : CallFn} (hcall : call.Sound P) {ρ : Operand → AV} {op : Op} {h h' : H} {v : AV} (hs : evOper P call ρ op h = some (v, h')) : h.next ≤ h'.next ∧ (h.WF → h'.WF) := by
  unfold evOper at hs
  split at hs
  · obtain ⟨x, _, hs⟩ := Option.map_eq_some_iff.1 hs; cases hs; exact ⟨Nat.le_refl _, id⟩
  · obtain ⟨x, _, hs⟩ := Option.map_eq_some_iff.1 hs; cases hs; exact ⟨by rw [next_newO]; omega, fun hw => WF_newO hw⟩
  · obtain ⟨x, _, hs⟩ := Option.map_eq_some_iff.1 hs; cases hs; exact ⟨Nat.le_refl _, id⟩
  · split at hs
    · split at hs
      · split at hs
        · have := hcall _ _ _ _ _ hs; exact ⟨this.next, this.wf⟩
        · cases hs
      · exact evFull_grows hs
    · exact evFull_grows hs

theorem evStep_grows {P : Program} {call : CallFn} (hcall : call.Sound P) {ops : Array Oper} {o : Oper} {ρ : Operand → AV} {h h' : H} {v : AV} (hs : evStep P call ops o ρ h = some (v, h')) : h.next ≤ h'.next ∧ (h.WF → h'.WF) := by
  unfold evStep at hs
  obtain ⟨b, _, hs⟩ := Option.bind_eq_some_iff.1 hs
  split at hs
  · exact evOper_grows hcall hs
  · cases hs; exact ⟨Nat.le_refl _, id⟩

theorem evOps_grows {P : Program} {call : CallFn} (hcall : call.Sound P) {ops : Array Oper} : ∀ {l : List Oper} {fr fr' : List AV} {h h' : H}, evOps P call ops l fr h = some (fr', h') → h.next ≤ h'.next ∧ (h.WF → h'.WF)
  | [], fr, fr', h, h', hs => by simp only [evOps] at hs; cases hs; exact ⟨Nat.le_refl _, id⟩
  | o :: rest, fr, fr', h, h', hs => by
    simp only [evOps] at hs
    obtain ⟨⟨v, h1⟩, h2, hs⟩ := Option.bind_eq_some_iff.1 hs
    have g1 := evStep_grows hcall h2
    have g2 := evOps_grows hcall hs
    exact ⟨Nat.le_trans g1.1 g2.1, fun hw => g2.2 (g1.2 hw)⟩

/-! ### one operation, of whatever kind -/

theorem oper_leads {P : Program} {call : CallFn} (hcall : call.Sound P) {r : Ren} {ρ : Operand → AV} {o : Oper} {a : Act} (hρ : ∀ x, VR r (ρ x) (a.eval x)) {v : AV} {h h' : H} {w : World} (hrel : Rel r h w)
    (hfree : ∀ i, h.next ≤ i → i < h'.next → r i = none) (hv : evOper P call ρ o.op h = some (v, h')) :
    Leads P o a w fun v' w' => ∃ r', VR r' v v' ∧ Post r h w r' h' w' := by
  cases hc : cls P o.op with
  | full => exact full_leads hcall hρ hrel hfree hc hv
  | pure =>
    unfold evOper at hv
    rw [hc] at hv
    obtain ⟨x, hx, hv⟩ := Option.map_eq_some_iff.1 hv
    cases hv
    intro Q K hK
    exact pure_leads hρ hx w Q K fun v' w' ⟨h1, h2⟩ => hK _ _ ⟨r, h1, by rw [h2]; exact Post.refl hrel⟩
  | read =>
    unfold evOper at hv
    rw [hc] at hv
    obtain ⟨x, hx, hv⟩ := Option.map_eq_some_iff.1 hv
    cases hv
    intro Q K hK
    exact read_leads hρ hrel hx Q K fun v' w' ⟨h1, h2⟩ => hK _ _ ⟨r, h1, by rw [h2]; exact Post.refl hrel⟩
  | alloc =>
    unfold evOper at hv
    rw [hc] at hv
    obtain ⟨⟨ob, mk⟩, hx, hv⟩ := Option.map_eq_some_iff.1 hv
    cases hv
    have hl := alloc_leads hρ hx w
    intro Q K hK
    refine hl Q K fun v' w' ⟨row, h1, he, h2, h3, h4⟩ => hK _ _ ⟨r.put h.next ⟨w.heap.size, 0, row⟩, ?_, ?_⟩
    · exact h4 _ _ (Ren.le_refl _) (by simp [Ren.put])
    · exact Post.of_newO (base := 0) (row := row) hrel (hfree _ (Nat.le_refl _) (by simp [next_newO])) h1 he h2 h3

theorem step_wp {P : Program} {call : CallFn} (hcall : call.Sound P) {r : Ren} {ops : Array Oper} {ρ : Operand → AV} {o : Oper} {a : Act} (hρ : ∀ x, VR r (ρ x) (a.eval x)) {v : AV} {h h' : H} {w : World} (hrel : Rel r h w)
    (hfree : ∀ i, h.next ≤ i → i < h'.next → r i = none) (hv : evStep P call ops o ρ h = some (v, h')) (Q : Exit → Act → World → Prop) (K : Act → World → Prop)
    (hK : ∀ v' w', (∃ r', VR r' v v' ∧ Post r h w r' h' w') → K (a.put o.dst v') w') :
    if Region.wanted o (yielded ops a.tmps) then o.wp P a w K Q ∨ (o.asks P a w ∧ LetsOut Q) else K (a.put o.dst undef) w := by
  unfold evStep at hv
  obtain ⟨b, hb, hv⟩ := Option.bind_eq_some_iff.1 hv
  have hw := wanted_sim hb (fun t _ => hρ _)
  rw [hw]
  cases b
  · simp at hv
    obtain ⟨rfl, rfl⟩ := hv
    exact hK undef w ⟨r, VR_tup (vs := []) .nil, Post.refl hrel⟩
  · simp at hv
    exact .inl (oper_leads hcall hρ hrel hfree hv Q K hK)

theorem evOps_wp {P : Program} {call : CallFn} (hcall : call.Sound P) {ops : Array Oper} {Q : Exit → Act → World → Prop} : ∀ {l : List Oper} {fr fr' : List AV} {h h' : H} {r : Ren} {a : Act} {w : World},
    evOps P call ops l fr h = some (fr', h') → FR r fr a → Rel r h w → (∀ i, h.next ≤ i → i < h'.next → r i = none) →
    (∀ r' a' w', FR r' fr' a' → a'.defers = a.defers → Post r h w r' h' w' → Q .normal a' w') → wpList P ops Q l a w
  | [], fr, fr', h, h', r, a, w, hs, hfr, hrel, hfree, hQ => by
    simp only [evOps] at hs
    cases hs
    exact hQ r a w hfr rfl (Post.refl hrel)
  | o :: rest, fr, fr', h, h', r, a, w, hs, hfr, hrel, hfree, hQ => by
    simp only [evOps] at hs
    obtain ⟨⟨v, h1⟩, h2, hs⟩ := Option.bind_eq_some_iff.1 hs
    have g1 := evStep_grows hcall h2
    have g2 := evOps_grows hcall hs
    have hf1 : ∀ i, h.next ≤ i → i < h1.next → r i = none := fun i a b => hfree i a (Nat.lt_of_lt_of_le b g2.1)
    have := step_wp (ops := ops) (o := o) (a := a) hcall (opd_VR hfr hrel.glob) hrel hf1 h2 Q (wpList P ops Q rest) (fun v' w' ⟨r', hv', hp⟩ => by
      refine evOps_wp hcall hs ((hfr.mono hp.le).putD o.dst hv') hp.rel (fun i hi1 hi2 => ?_) fun r'' a'' w'' hfr'' hd'' hp'' => hQ r'' a'' w'' hfr'' (by rw [hd'']; cases o.dst <;> rfl) (hp.trans hp'')
      cases hr : r' i with
      | none => rfl
      | some t =>
        have hn := hfree i (Nat.le_trans hp.next hi1) hi2
        have := hp.dom i t hr hn
        simp only at hi1
        omega)
    unfold wpList
    exact this

end Go.Ev

/- The abstract machine Ev, part J: a region that draws its order: whatever order is drawn, it comes to what the text's order comes to. -/
namespace Go.Ev

/-! ### the last one of a row that did a thing -/

open Classical in
noncomputable def pr {α : Type} (init : α) (val : Nat → α) (W : Nat → Prop) : Nat → α
  | 0 => init
  | m + 1 => if W m then val m else pr init val W m

theorem pr_congr {α : Type} {init : α} {val : Nat → α} {W W' : Nat → Prop} : ∀ {n : Nat}, (∀ m, m < n → (W m ↔ W' m)) → pr init val W n = pr init val W' n
  | 0, _ => rfl
  | n + 1, h => by
    have ih := pr_congr (init := init) (val := val) (n := n) fun m hm => h m (by omega)
    have hn := h n (by omega)
    simp only [pr, ih]
    by_cases hw : W n
    · rw [if_pos hw, if_pos (hn.1 hw)]
    · rw [if_neg hw, if_neg fun e => hw (hn.2 e)]

theorem pr_none {α : Type} {init : α} {val : Nat → α} {W : Nat → Prop} {j : Nat} : ∀ {n : Nat}, j ≤ n → (∀ m, m < n → W m → m < j) → pr init val W n = pr init val W j
  | 0, hj, _ => by
    have e : j = 0 := by omega
    subst e; rfl
  | n + 1, hj, h => by
    rcases Nat.lt_or_ge n j with hlt | hge
    · have e : j = n + 1 := by omega
      subst e; rfl
    · have hw : ¬ W n := fun e => by have := h n (by omega) e; omega
      simp only [pr]
      rw [if_neg hw, pr_none hge fun m hm => h m (by omega)]

/-! ### the static look at a region -/

def okM (ops : Array Oper) (M : Nat → Nat) : Bool :=
  (List.range ops.size).all fun j => match ops[j]? with
    | none => false
    | some o => o.after.all (fun e => !Region.binds .any e || decide (e.on < j)) &&
        (List.range j).all fun i => !(M j).testBit i || o.after.any fun e => Region.binds .any e && (e.on == i || (decide (i < e.on) && (M e.on).testBit i))

def okCls (x y : Class) : Bool :=
  match x, y with
  | .full, .full => false
  | _, _ => true

/-- an operation of the greatest kind, of which some that read are independent: it may change nothing that was there -/
def needQuiet (P : Program) (ops : Array Oper) (M : Nat → Nat) (k : Nat) : Bool :=
  match ops[k]? with
  | none => false
  | some o => cls P o.op == .full && (List.range ops.size).any fun j => match ops[j]? with
    | none => false
    | some oj => cls P oj.op == .read && !((M k).testBit j || (M j).testBit k)

/-- neither waits for the other -/
def indepB (M : Nat → Nat) (k j : Nat) : Bool := !((M k).testBit j || (M j).testBit k)

/-- the operand by which an operation that reads finds what it reads -/
def mainV (ρ : Operand → AV) : Op → AV
  | .load _ a => ρ a
  | .convert _ _ x => ρ x
  | .lookup _ m _ _ => ρ m
  | .call c => (match c.args.toList with | x :: _ => ρ x | [] => .junk)
  | _ => .junk
def refOf : AV → Option Nat
  | .ptr (some (b, _)) => some b
  | .slice (some (b, _)) _ _ => some b
  | .map (some b) => some b
  | _ => none

/-- an operation that reads, independent of one of the greatest kind ahead of it in the text -/
def shyB (P : Program) (ops : Array Oper) (M : Nat → Nat) (j : Nat) : Bool :=
  match ops[j]? with
  | none => false
  | some o => cls P o.op == .read && (List.range j).any fun k => match ops[k]? with
    | none => false
    | some ok => cls P ok.op == .full && !((M k).testBit j || (M j).testBit k)

def okPairs (P : Program) (ops : Array Oper) (M : Nat → Nat) : Bool :=
  (List.range ops.size).all fun j => (List.range j).all fun i =>
    (M j).testBit i || match ops[i]?, ops[j]? with
      | some oi, some oj => oi.apart ops oj && oj.apart ops oi && okCls (cls P oi.op) (cls P oj.op)
      | _, _ => false

def masks (ops : Array Oper) (k : Nat) : Nat := (Region.before ops).getD k 0

/-- the masks say nothing of a number that is not below -/
def okHigh (ops : Array Oper) (M : Nat → Nat) : Bool := (List.range ops.size).all fun j => decide (M j < 2 ^ j)

def okRegion (P : Program) (ops : Array Oper) : Bool := okM ops (masks ops) && okHigh ops (masks ops) && okPairs P ops (masks ops)

/-- a heap without some objects -/
noncomputable def H.minus (h : H) (S : Nat → Prop) : H := ⟨h.next, fun i => open Classical in if S i then none else h.get i⟩
def noT : Nat → Prop := fun _ => False
/-- what an operation touched, too -/
def addT (S : Nat → Prop) (h h' : H) : Nat → Prop := fun i => S i ∨ (i < h.next ∧ h'.get i ≠ h.get i)

/-- a part of a heap -/
structure Sub (h1 h : H) : Prop where
  next : h1.next = h.next
  get : ∀ i o, h1.get i = some o → h.get i = some o
theorem minus_sub (h : H) (S : Nat → Prop) : Sub (h.minus S) h := ⟨rfl, fun i o e => by
  simp only [H.minus] at e
  split at e
  · cases e
  · exact e⟩
theorem minus_get {h : H} {S : Nat → Prop} {i : Nat} (hi : ¬ S i) : (h.minus S).get i = h.get i := by simp only [H.minus]; rw [if_neg hi]
theorem minus_noT (h : H) : h.minus noT = h := by
  cases h
  unfold H.minus
  congr 1
  funext i
  rw [if_neg (show ¬ noT i from fun h => h)]
theorem addT_same {S : Nat → Prop} {h h' : H} (hq : ∀ i, i < h.next → h'.get i = h.get i) : addT S h h' = S := by
  funext i
  exact propext ⟨fun h => h.elim id fun ⟨h1, h2⟩ => absurd (hq i h1) h2, .inl⟩

theorem evLook_sub {z : AV} {m : Option Nat} {k : AV} {h1 h : H} (s : Sub h1 h) {q : AV × Bool} (hq : evLook z m k h1 = some q) : evLook z m k h = some q := by
  unfold evLook at hq ⊢
  split at hq
  · exact hq
  · split at hq
    · rename_i hg; rw [s.get _ _ hg]; exact hq
    · rename_i hg; rw [s.get _ _ hg]; exact hq
    · cases hq
theorem evMapLen_sub {m : Option Nat} {h1 h : H} (s : Sub h1 h) {n : Nat} (hn : evMapLen m h1 = some n) : evMapLen m h = some n := by
  unfold evMapLen at hn ⊢
  split at hn
  · exact hn
  · split at hn
    · rename_i hg; rw [s.get _ _ hg]; exact hn
    · cases hn

theorem evRead_sub {P : Program} {ρ : Operand → AV} {op : Op} {h1 h : H} (s : Sub h1 h) {v : AV} (hv : evRead P ρ op h1 = some v) : evRead P ρ op h = some v := by
  unfold evRead at hv ⊢
  split at hv
  · rename_i t a
    unfold evLoad at hv ⊢
    split at hv
    · split at hv
      · rename_i hg
        rw [s.get _ _ hg]
        exact hv
      · cases hv
    · cases hv
  · unfold evConvR at hv ⊢
    split at hv
    · split at hv
      · rename_i hu
        unfold evBytesStr at hv ⊢
        split at hv
        · exact hv
        · split at hv
          · rename_i h0; rw [if_pos h0]; exact hv
          · rename_i h0
            rw [if_neg h0]
            split at hv
            · rename_i hg
              rw [s.get _ _ hg]
              exact hv
            · cases hv
        · cases hv
      · cases hv
    · cases hv
  · unfold evLookup at hv ⊢
    split at hv
    · split at hv
      · split at hv
        · rename_i hkk
          obtain ⟨z, hz, hv⟩ := Option.bind_eq_some_iff.1 hv
          obtain ⟨q, hq, rfl⟩ := Option.map_eq_some_iff.1 hv
          rw [if_pos hkk, hz, Option.bind_some, evLook_sub s hq]; rfl
        · cases hv
      · cases hv
    · cases hv
  · split at hv
    · unfold evLenM at hv ⊢
      split at hv
      · split at hv
        · obtain ⟨n, hn, rfl⟩ := Option.map_eq_some_iff.1 hv
          rw [evMapLen_sub s hn]; rfl
        · cases hv
      · cases hv
    · cases hv
  · cases hv

/-- an operation that reads a part of a heap, reads the heap -/
theorem evStep_sub {P : Program} {call : CallFn} {ops : Array Oper} {o : Oper} {ρ : Operand → AV} {h1 h h2 : H} (s : Sub h1 h) (hc : cls P o.op = .read) {v : AV} (hv : evStep P call ops o ρ h1 = some (v, h2)) : h2 = h1 ∧ evStep P call ops o ρ h = some (v, h) := by
  unfold evStep at hv ⊢
  obtain ⟨b, hb, hv⟩ := Option.bind_eq_some_iff.1 hv
  rw [hb]
  cases b with
  | false =>
    simp only [Bool.false_eq_true, if_false, Option.some.injEq, Prod.mk.injEq] at hv
    obtain ⟨rfl, rfl⟩ := hv
    exact ⟨rfl, rfl⟩
  | true =>
    simp only [if_true] at hv
    unfold evOper at hv
    rw [hc] at hv
    obtain ⟨x, hx, hv⟩ := Option.map_eq_some_iff.1 hv
    cases hv
    refine ⟨rfl, ?_⟩
    simp only [Option.bind_some, if_true]
    unfold evOper
    rw [hc]
    simp only
    rw [evRead_sub s hx]; rfl

theorem minus_minus (h : H) (S T : Nat → Prop) : (h.minus S).minus T = h.minus fun i => S i ∨ T i := by
  unfold H.minus
  congr 1
  funext i
  by_cases h1 : T i
  · rw [if_pos h1, if_pos (.inr h1)]
  · rw [if_neg h1]
    by_cases h2 : S i
    · simp only; rw [if_pos h2, if_pos (.inl h2)]
    · simp only; rw [if_neg h2, if_neg (fun h => h.elim h2 h1)]

theorem evRead_local {P : Program} {ρ : Operand → AV} {op : Op} {h : H} {S : Nat → Prop} {v : AV} (hv : evRead P ρ op h = some v) (hb : ∀ b, refOf (mainV ρ op) = some b → ¬ S b) : evRead P ρ op (h.minus S) = some v := by
  unfold evRead at hv ⊢
  split at hv
  · rename_i t a
    unfold evLoad at hv ⊢
    split at hv
    · rename_i i o h1 h2
      rw [minus_get (hb i (by simp [mainV, refOf, h2]))]
      exact hv
    · cases hv
  · rename_i s d x
    unfold evConvR at hv ⊢
    split at hv
    · split at hv
      · unfold evBytesStr at hv ⊢
        split at hv
        · exact hv
        · rename_i i o len c h2
          split at hv
          · rename_i h0; rw [if_pos h0]; exact hv
          · rename_i h0
            rw [if_neg h0, minus_get (hb i (by simp [mainV, refOf, h2]))]
            exact hv
        · cases hv
      · cases hv
    · cases hv
  · rename_i t m k ok
    unfold evLookup at hv ⊢
    split at hv
    · rename_i kt e m' h1 h2
      have hl : ∀ z, evLook z m' (ρ k) (h.minus S) = evLook z m' (ρ k) h := fun z => by
        cases m' with
        | none => rfl
        | some b => unfold evLook; simp only; rw [minus_get (hb b (by simp [mainV, refOf, h2]))]
      simp only [hl]
      exact hv
    · cases hv
  · rename_i c
    split at hv
    · unfold evLenM at hv ⊢
      split at hv
      · rename_i t0 m' h1 h2
        have hl : evMapLen m' (h.minus S) = evMapLen m' h := by
          cases m' with
          | none => rfl
          | some b =>
            unfold evMapLen
            simp only
            rw [minus_get (hb b ?_)]
            cases hc : c.args.toList with
            | nil => rw [hc] at h2; cases h2
            | cons x l => rw [hc] at h2; simp only [List.map_cons, List.cons.injEq] at h2; simp [mainV, refOf, hc, h2.1]
        rw [hl]
        exact hv
      · cases hv
    · cases hv
  · cases hv

/-- an operation that reads is not in need of what it doesn't look at -/
theorem evStep_local {P : Program} {call : CallFn} {ops : Array Oper} {o : Oper} {ρ : Operand → AV} {h h2 : H} (hc : cls P o.op = .read) {v : AV} (hv : evStep P call ops o ρ h = some (v, h2)) {S : Nat → Prop} (hb : ∀ b, refOf (mainV ρ o.op) = some b → ¬ S b) :
    evStep P call ops o ρ (h.minus S) = some (v, h.minus S) := by
  unfold evStep at hv ⊢
  obtain ⟨b, hbb, hv⟩ := Option.bind_eq_some_iff.1 hv
  rw [hbb]
  cases b with
  | false =>
    simp only [Bool.false_eq_true, if_false, Option.some.injEq, Prod.mk.injEq] at hv
    obtain ⟨rfl, rfl⟩ := hv
    rfl
  | true =>
    simp only [if_true] at hv
    unfold evOper at hv
    rw [hc] at hv
    obtain ⟨x, hx, hv⟩ := Option.map_eq_some_iff.1 hv
    cases hv
    simp only [Option.bind_some, if_true]
    unfold evOper
    rw [hc]
    simp only
    rw [evRead_local hx hb]; rfl

theorem shy_read {P : Program} {ops : Array Oper} {M : Nat → Nat} {j : Nat} {o : Oper} (ho : ops[j]? = some o) (h : shyB P ops M j = true) : cls P o.op = .read := by
  unfold shyB at h
  rw [ho] at h
  simp only [Bool.and_eq_true, beq_iff_eq] at h
  exact h.1

/-- reads ahead of it that are independent read what is as it was -/
def keptQ (M : Nat → Nat) (k : Nat) (h h' : H) (Js : List (Nat × AV)) : Prop := ∀ e ∈ Js, indepB M k e.1 = true → ∀ b, refOf e.2 = some b → h'.get b = h.get b
/-- the reads so far, by what they looked at -/
def pushJ (P : Program) (k : Nat) (o : Oper) (v : AV) (Js : List (Nat × AV)) : List (Nat × AV) := if cls P o.op = .read then (k, v) :: Js else Js

open Classical in
/-- the operations in the text's order; S: what those touched of which reads behind them are independent; Js: the reads so far -/
noncomputable def evOpsQ (P : Program) (call : CallFn) (ops : Array Oper) : List Oper → Nat → List AV → H → (Nat → Prop) → List (Nat × AV) → Option (List AV × H)
  | [], _, fr, h, _, _ => some (fr, h)
  | o :: rest, k, fr, h, S, Js =>
    if shyB P ops (masks ops) k = true then (evStep P call ops o (opd fr) (h.minus S)).bind fun q => evOpsQ P call ops rest (k + 1) (putD fr o.dst q.1) h S (pushJ P k o (mainV (opd fr) o.op) Js)
    else (evStep P call ops o (opd fr) h).bind fun q =>
      if needQuiet P ops (masks ops) k = true then
        (if keptQ (masks ops) k h q.2 Js then evOpsQ P call ops rest (k + 1) (putD fr o.dst q.1) q.2 (addT S h q.2) (pushJ P k o (mainV (opd fr) o.op) Js) else none)
      else evOpsQ P call ops rest (k + 1) (putD fr o.dst q.1) q.2 S (pushJ P k o (mainV (opd fr) o.op) Js)

/-! ### the run in the text's order, as a row of states -/

/-- E: those of whose step nothing is told but that it grows the heap -/
structure Run (E : Nat → Prop) (P : Program) (call : CallFn) (ops : Array Oper) (n : Nat) (F : Nat → List AV) (Hs : Nat → H) (V : Nat → AV) : Prop where
  step : ∀ k, k < n → ∃ o, ops[k]? = some o ∧ (evStep P call ops o (opd (F k)) (Hs k) = some (V k, Hs (k + 1)) ∨ (E k ∧ ((Hs k).next ≤ (Hs (k + 1)).next ∧ ((Hs k).WF → (Hs (k + 1)).WF)) ∧ ((∃ i, i < (Hs k).next ∧ (Hs (k + 1)).get i ≠ (Hs k).get i) → cls P o.op = .full))) ∧ F (k + 1) = putD (F k) o.dst (V k)
  kept : ∀ k, k < n → needQuiet P ops (masks ops) k = true → ∀ j oj, j < k → ops[j]? = some oj → cls P oj.op = .read → indepB (masks ops) k j = true → ∀ b, refOf (mainV (opd (F j)) oj.op) = some b → (Hs (k + 1)).get b = (Hs k).get b
  shy : ∀ k, k < n → ¬ E k → shyB P ops (masks ops) k = true → ∃ S : Nat → Prop, (∀ m, m < k → needQuiet P ops (masks ops) m = true → indepB (masks ops) m k = true → ∀ i, i < (Hs m).next → (Hs (m + 1)).get i ≠ (Hs m).get i → S i) ∧
    ∀ o, ops[k]? = some o → evStep P call ops o (opd (F k)) ((Hs k).minus S) = some (V k, (Hs k).minus S)

theorem run_of_evOpsQ {P : Program} {call : CallFn} {ops : Array Oper} : ∀ {l : List Oper} {k : Nat} {fr fr' : List AV} {h h' : H} {S : Nat → Prop} {Js : List (Nat × AV)}, evOpsQ P call ops l k fr h S Js = some (fr', h') → (∀ j, j < l.length → l[j]? = ops[k + j]?) →
    ∃ (F : Nat → List AV) (Hs : Nat → H) (V : Nat → AV), F 0 = fr ∧ Hs 0 = h ∧ F l.length = fr' ∧ Hs l.length = h' ∧
      (∀ m, m < l.length → ∃ o, ops[k + m]? = some o ∧ evStep P call ops o (opd (F m)) (Hs m) = some (V m, Hs (m + 1)) ∧ F (m + 1) = putD (F m) o.dst (V m)) ∧
      (∀ m, m < l.length → needQuiet P ops (masks ops) (k + m) = true → (∀ e ∈ Js, indepB (masks ops) (k + m) e.1 = true → ∀ b, refOf e.2 = some b → (Hs (m + 1)).get b = (Hs m).get b) ∧
        ∀ j oj, j < m → ops[k + j]? = some oj → cls P oj.op = .read → indepB (masks ops) (k + m) (k + j) = true → ∀ b, refOf (mainV (opd (F j)) oj.op) = some b → (Hs (m + 1)).get b = (Hs m).get b) ∧
      ∀ m, m < l.length → shyB P ops (masks ops) (k + m) = true → ∃ S' : Nat → Prop, (∀ i, S i → S' i) ∧ (∀ p, p < m → needQuiet P ops (masks ops) (k + p) = true → ∀ i, i < (Hs p).next → (Hs (p + 1)).get i ≠ (Hs p).get i → S' i) ∧
        ∀ o, ops[k + m]? = some o → evStep P call ops o (opd (F m)) ((Hs m).minus S') = some (V m, (Hs m).minus S')
  | [], k, fr, fr', h, h', S, Js, hs, hl => by
    simp only [evOpsQ] at hs
    cases hs
    exact ⟨fun _ => fr, fun _ => h, fun _ => .junk, rfl, rfl, rfl, rfl, fun m hm => by simp at hm, fun m hm => by simp at hm, fun m hm => by simp at hm⟩
  | o :: rest, k, fr, fr', h, h', S, Js, hs, hl => by
    simp only [evOpsQ] at hs
    have h0 : ops[k]? = some o := by have := hl 0 (by simp); simpa using this.symm
    have hl' : ∀ j, j < rest.length → rest[j]? = ops[k + 1 + j]? := fun j hj => by have := hl (j + 1) (by simpa using hj); simpa [Nat.add_assoc, Nat.add_comm 1 j] using this
    -- one step: the value, the heap behind it, what was touched
    have key : ∃ v h1 S1, evStep P call ops o (opd fr) h = some (v, h1) ∧ evOpsQ P call ops rest (k + 1) (putD fr o.dst v) h1 S1 (pushJ P k o (mainV (opd fr) o.op) Js) = some (fr', h') ∧
        (needQuiet P ops (masks ops) k = true → keptQ (masks ops) k h h1 Js) ∧
        (∀ i, S i → S1 i) ∧ (needQuiet P ops (masks ops) k = true → ∀ i, i < h.next → h1.get i ≠ h.get i → S1 i) ∧
        (shyB P ops (masks ops) k = true → evStep P call ops o (opd fr) (h.minus S) = some (v, h.minus S)) := by
      split at hs
      · rename_i hsh
        obtain ⟨⟨v, h1⟩, h2, hs⟩ := Option.bind_eq_some_iff.1 hs
        obtain ⟨e1, e2⟩ := evStep_sub (minus_sub h S) (shy_read h0 hsh) h2
        subst e1
        exact ⟨v, h, S, e2, hs, fun _ _ _ _ _ _ => rfl, fun _ h => h, fun _ i _ hne => absurd rfl hne, fun _ => h2⟩
      · rename_i hsh
        obtain ⟨⟨v, h1⟩, h2, hs⟩ := Option.bind_eq_some_iff.1 hs
        simp only at hs
        split at hs
        · split at hs
          · rename_i hq
            exact ⟨v, h1, _, h2, hs, fun _ => hq, fun _ h => .inl h, fun _ i hi hne => .inr ⟨hi, hne⟩, fun h => absurd h hsh⟩
          · cases hs
        · rename_i hn
          exact ⟨v, h1, S, h2, hs, fun h => absurd h hn, fun _ h => h, fun h => absurd h hn, fun h => absurd h hsh⟩
    obtain ⟨v, h1, S1, k1, k2, k3, k4, k5, k6⟩ := key
    obtain ⟨F, Hs, V, e1, e2, e3, e4, e5, e6, e7⟩ := run_of_evOpsQ k2 hl'
    refine ⟨fun m => match m with | 0 => fr | m + 1 => F m, fun m => match m with | 0 => h | m + 1 => Hs m, fun m => match m with | 0 => v | m + 1 => V m, rfl, rfl, e3, e4, fun m hm => ?_, fun m hm hq => ?_, fun m hm hq => ?_⟩
    · cases m with
      | zero => exact ⟨o, h0, by simp only; rw [e2]; exact k1, by simp only; rw [e1]⟩
      | succ m =>
        obtain ⟨o', q1, q2, q3⟩ := e5 m (by simpa using hm)
        exact ⟨o', by rw [← q1]; congr 1; omega, q2, q3⟩
    · cases m with
      | zero =>
        refine ⟨fun e he hi b hb => ?_, fun j oj hj => absurd hj (by omega)⟩
        simp only
        rw [e2]
        exact k3 hq e he hi b hb
      | succ m =>
        have hq' : needQuiet P ops (masks ops) (k + 1 + m) = true := by rw [← hq]; congr 1; omega
        obtain ⟨q1, q2⟩ := e6 m (by simpa using hm) hq'
        have ek : k + (m + 1) = k + 1 + m := by omega
        refine ⟨fun e he hi b hb => q1 e ?_ (by rw [← ek]; exact hi) b hb, fun j oj hj hoj hc hi b hb => ?_⟩
        · unfold pushJ; split
          · exact List.mem_cons_of_mem _ he
          · exact he
        · cases j with
          | zero =>
            rw [Nat.add_zero, h0] at hoj
            cases hoj
            refine q1 (k, mainV (opd fr) o.op) ?_ (by rw [← ek]; exact hi) b hb
            unfold pushJ
            rw [if_pos hc]
            exact List.mem_cons_self
          | succ j => exact q2 j oj (by omega) (by rw [← hoj]; congr 1; omega) hc (by rw [← ek, show k + 1 + j = k + (j + 1) by omega]; exact hi) b hb
    · cases m with
      | zero => exact ⟨S, fun _ h => h, fun p hp => by omega, fun o' ho' => by
          rw [Nat.add_zero, h0] at ho'
          cases ho'
          exact k6 hq⟩
      | succ m =>
        obtain ⟨S', q1, q2, q3⟩ := e7 m (by simpa using hm) (by rw [← hq]; congr 1; omega)
        refine ⟨S', fun i hi => q1 i (k4 i hi), fun p hp hnq i hi hne => ?_, fun o' ho' => q3 o' (by rw [← ho']; congr 1; omega)⟩
        cases p with
        | zero =>
          simp only at hi hne
          rw [e2] at hne
          exact q1 i (k5 hnq i hi hne)
        | succ p => exact q2 p (by omega) (by rw [← hnq]; congr 1; omega) i hi hne


section
variable {E : Nat → Prop} {P : Program} {call : CallFn} {ops : Array Oper} {n : Nat} {F : Nat → List AV} {Hs : Nat → H} {V : Nat → AV}

def Wr (ops : Array Oper) (t : Tmp) (m : Nat) : Prop := ∃ o, ops[m]? = some o ∧ o.dst = some t
def Tc (Hs : Nat → H) (i m : Nat) : Prop := (Hs (m + 1)).get i ≠ (Hs m).get i

noncomputable def slotD (ops : Array Oper) (n : Nat) (F : Nat → List AV) (V : Nat → AV) (D : Nat → Prop) (t : Tmp) : AV := pr ((F 0).getD t .junk) V (fun m => D m ∧ Wr ops t m) n
noncomputable def contD (n : Nat) (Hs : Nat → H) (D : Nat → Prop) (i : Nat) : Option AObj := pr ((Hs 0).get i) (fun m => (Hs (m + 1)).get i) (fun m => D m ∧ Tc Hs i m) n

theorem get_pr (i : Nat) : ∀ k, (Hs k).get i = pr ((Hs 0).get i) (fun m => (Hs (m + 1)).get i) (Tc Hs i) k
  | 0 => rfl
  | k + 1 => by
    simp only [pr]
    by_cases h : Tc Hs i k
    · rw [if_pos h]
    · rw [if_neg h, ← get_pr i k]; exact Classical.not_not.1 h

theorem contD_agree {D : Nat → Prop} {i j : Nat} (hj : j ≤ n) (h : ∀ m, m < n → Tc Hs i m → (D m ↔ m < j)) : contD n Hs D i = (Hs j).get i := by
  unfold contD
  rw [pr_congr (W' := fun m => m < j ∧ Tc Hs i m) (fun m hm => ⟨fun ⟨a, b⟩ => ⟨(h m hm b).1 a, b⟩, fun ⟨a, b⟩ => ⟨(h m hm b).2 a, b⟩⟩), pr_none hj (fun m _ h => h.1), get_pr i j]
  exact pr_congr fun m hm => ⟨fun h => h.2, fun h => ⟨hm, h⟩⟩

theorem length_F (hrun : Run E P call ops n F Hs V) : ∀ k, k ≤ n → (F k).length = (F 0).length
  | 0, _ => rfl
  | k + 1, hk => by
    obtain ⟨o, _, _, h3⟩ := hrun.step k (by omega)
    rw [h3, ← length_F hrun k (by omega)]
    unfold putD
    split <;> simp

theorem F_pr (hrun : Run E P call ops n F Hs V) {t : Tmp} (ht : t < (F 0).length) : ∀ k, k ≤ n → (F k).getD t .junk = pr ((F 0).getD t .junk) V (Wr ops t) k
  | 0, _ => rfl
  | k + 1, hk => by
    obtain ⟨o, h1, _, h3⟩ := hrun.step k (by omega)
    have ih := F_pr hrun ht k (by omega)
    have hl := length_F hrun k (by omega)
    simp only [pr]
    by_cases h : Wr ops t k
    · rw [if_pos h, h3]
      obtain ⟨o', q1, q2⟩ := h
      rw [h1] at q1
      cases q1
      rw [q2]
      simp only [putD]
      rw [List.getD_eq_getElem?_getD, List.getElem?_set_self (by rw [hl]; exact ht)]
      rfl
    · rw [if_neg h, ← ih, h3]
      cases hd : o.dst with
      | none => rfl
      | some d =>
        have hne : d ≠ t := fun e => h ⟨o, h1, by rw [hd, e]⟩
        simp only [putD]
        rw [List.getD_eq_getElem?_getD, List.getD_eq_getElem?_getD, List.getElem?_set_ne hne]

theorem slotD_agree (hrun : Run E P call ops n F Hs V) {D : Nat → Prop} {t : Tmp} (ht : t < (F 0).length) {j : Nat} (hj : j ≤ n) (h : ∀ m, m < n → Wr ops t m → (D m ↔ m < j)) : slotD ops n F V D t = (F j).getD t .junk := by
  unfold slotD
  rw [pr_congr (W' := fun m => m < j ∧ Wr ops t m) (fun m hm => ⟨fun ⟨a, b⟩ => ⟨(h m hm b).1 a, b⟩, fun ⟨a, b⟩ => ⟨(h m hm b).2 a, b⟩⟩), pr_none hj (fun m _ h => h.1), F_pr hrun ht j hj]
  exact pr_congr fun m hm => ⟨fun h => h.2, fun h => ⟨hm, h⟩⟩

theorem Hs_mono (hcall : call.Sound P) (hrun : Run E P call ops n F Hs V) {k : Nat} : ∀ {m : Nat}, k ≤ m → m ≤ n → (Hs k).next ≤ (Hs m).next
  | 0, hk, _ => by
    have e : k = 0 := by omega
    subst e; exact Nat.le_refl _
  | m + 1, hk, hm => by
    rcases Nat.lt_or_ge m k with h | h
    · have e : k = m + 1 := by omega
      subst e; exact Nat.le_refl _
    · obtain ⟨o, _, h2, _⟩ := hrun.step m (by omega)
      refine Nat.le_trans (Hs_mono hcall hrun h (by omega)) ?_
      rcases h2 with h2 | h2
      · exact (evStep_grows hcall h2).1
      · exact h2.2.1.1

theorem Hs_wf (hcall : call.Sound P) (hrun : Run E P call ops n F Hs V) (h0 : (Hs 0).WF) : ∀ k, k ≤ n → (Hs k).WF
  | 0, _ => h0
  | k + 1, hk => by
    obtain ⟨o, _, h2, _⟩ := hrun.step k (by omega)
    rcases h2 with h2 | h2
    · exact (evStep_grows hcall h2).2 (Hs_wf hcall hrun h0 k (by omega))
    · exact h2.2.1.2 (Hs_wf hcall hrun h0 k (by omega))

/-- where operations that have come up (D) stand -/
structure Inv (P : Program) (ops : Array Oper) (n : Nat) (F : Nat → List AV) (Hs : Nat → H) (V : Nat → AV) (r0 : Ren) (w0 : World) (ds : List Deferred) (D : Nat → Prop) (r : Ren) (a : Act) (w : World) : Prop where
  le : r0.le r
  dom : ∀ i t, r i = some t → r0 i = none → ∃ k, k < n ∧ D k ∧ (Hs k).next ≤ i ∧ i < (Hs (k + 1)).next
  sz : a.tmps.size = (F 0).length
  slot : ∀ t, t < (F 0).length → VR r (slotD ops n F V D t) (a.eval (.tmp t))
  obj : ∀ i t o, r i = some t → contD n Hs D i = some o → OR r w t o
  inj : ∀ i j ti tj oi oj, r i = some ti → r j = some tj → contD n Hs D i = some oi → contD n Hs D j = some oj → ti.blk = tj.blk → i = j ∨ (oi.ro = true ∧ oj.ro = true)
  bound : ∀ i t, r i = some t → t.blk < w.heap.size
  keep : Keep r0 (Hs 0) w0 w
  size : w0.heap.size ≤ w.heap.size
  env : Env w0 w
  fresh : ∀ i t, r0 i = none → r i = some t → w0.heap.size ≤ t.blk ∨ ∃ j tj o, r0 j = some tj ∧ tj.blk = t.blk ∧ (Hs 0).get j = some o ∧ o.ro = false
  touch : ∀ m, m < n → D m → ∀ i, i < (Hs m).next → Tc Hs i m → ∃ t, r i = some t
  ro : ∀ m, m < n → D m → ∀ i o, i < (Hs m).next → (Hs (m + 1)).get i = some o → ∃ o', (Hs m).get i = some o' ∧ o'.ro = o.ro
  defers : a.defers = ds
  gl : GL r0

end

end Go.Ev

/- The abstract machine Ev, part K: one more operation of a drawn region comes up. -/
namespace Go.Ev

/-! ### an operation looks at its operands alone -/

theorem evOper_congr {P : Program} {call : CallFn} {ρ ρ' : Operand → AV} (op : Op) (h : H) (hx : ∀ x ∈ op.operands, ρ x = ρ' x) : evOper P call ρ op h = evOper P call ρ' op h := by
  have list : ∀ (xs : Array Operand), (∀ x ∈ xs, ρ x = ρ' x) → xs.toList.map ρ = xs.toList.map ρ' := fun xs hh => List.map_congr_left fun x hm => hh x (by simpa using hm)
  have parts : ∀ (ps : Array (Nat × Operand)), (∀ x ∈ (ps.toList.map (·.2)).toArray, ρ x = ρ' x) → ps.toList.map (fun p => (p.1, ρ p.2)) = ps.toList.map (fun p => (p.1, ρ' p.2)) := fun ps hh =>
    List.map_congr_left fun p hm => by rw [hh p.2 (by simp only [List.mem_toArray, List.mem_map]; exact ⟨p, hm, rfl⟩)]
  unfold evOper
  cases op <;> simp only [Op.operands] at hx <;> simp only [cls]
  case call c =>
    have hargs : c.args.toList.map ρ = c.args.toList.map ρ' := list _ fun x hm => hx x (by simp [Call.operands, hm])
    cases hc : c.callee with
    | value f =>
      have hf : ρ f = ρ' f := hx f (by simp [Call.operands, hc])
      simp only [hf, hargs]
    | invoke r m => simp only [evFull, hc]
    | builtin b => cases b <;> simp only [evPure, evRead, evAlloc, evFull, hc, hargs]
  case build t ps => simp only [evPure, parts ps hx]
  case buildSlice t l ps => simp only [evAlloc, parts ps hx]
  case makeFunc fn a b =>
    have h1 := list a fun x hm => hx x (by simp [hm])
    have h2 := list b fun x hm => hx x (by simp [hm])
    cases fn <;> simp only [evPure, h1, h2]
  case slice t x lo hi mx =>
    have h1 : ρ x = ρ' x := hx x (by simp)
    have h2 : lo.map ρ = lo.map ρ' := by cases lo with | none => rfl | some y => simp only [Option.map_some]; rw [hx y (by simp)]
    have h3 : hi.map ρ = hi.map ρ' := by cases hi with | none => rfl | some y => simp only [Option.map_some]; rw [hx y (by simp)]
    have h4 : mx.map ρ = mx.map ρ' := by cases mx with | none => rfl | some y => simp only [Option.map_some]; rw [hx y (by simp)]
    simp only [evPure, h1, h2, h3, h4]
  case convert s d x => simp only [evPure, evAlloc, evRead, evFull, hx x (by simp)]
  case makeMap t r =>
    cases r with
    | none => simp only [evAlloc]
    | some x => simp only [evAlloc, hx x (by simp)]
  case next it b => cases b <;> simp only [evFull, hx it (by simp)]
  all_goals first
    | rfl
    | (simp only [evPure, evAlloc, evRead, evFull]; done)
    | (simp only [evPure, evAlloc, evRead, evFull]; simp only [List.mem_toArray, List.mem_cons, List.not_mem_nil, or_false, forall_eq_or_imp, forall_eq] at hx; simp only [hx])

def restrict (ops : Array Oper) (o : Oper) (fr : List AV) (x : Operand) : AV :=
  match x with
  | .tmp t => if t ∈ o.looksAt ops then fr.getD t .junk else .junk
  | x => opd fr x

theorem evStep_restrict {P : Program} {call : CallFn} {ops : Array Oper} {o : Oper} {fr : List AV} {h : H} : evStep P call ops o (restrict ops o fr) h = evStep P call ops o (opd fr) h := by
  have hop : ∀ x ∈ o.op.operands, restrict ops o fr x = opd fr x := by
    intro x hx
    cases x with
    | tmp t =>
      have ht : t ∈ o.looksAt ops := List.mem_append_left _ (List.mem_filterMap.2 ⟨.tmp t, by simpa using hx, rfl⟩)
      simp [restrict, ht, opd]
    | _ => rfl
  have hw : evWanted ops (restrict ops o fr) o = evWanted ops (opd fr) o := by
    unfold evWanted
    cases hg : o.guard with
    | none => rfl
    | some q =>
      obtain ⟨j, want⟩ := q
      simp only
      cases hd : (ops[j]?).bind (·.dst) with
      | none => rfl
      | some t =>
        have ht : t ∈ o.looksAt ops := List.mem_append_right _ (by simp [hg, hd])
        simp [restrict, ht, opd]
  unfold evStep
  rw [hw]
  congr 1
  funext b
  rw [evOper_congr o.op h hop]

section
variable {P : Program} {call : CallFn} {ops : Array Oper} {F : Nat → List AV} {Hs : Nat → H} {V : Nat → AV} {r0 : Ren} {w0 : World} {ds : List Deferred}

theorem okM_spec {M : Nat → Nat} (hM : okM ops M = true) {j : Nat} {o : Oper} (ho : ops[j]? = some o) :
    (∀ e ∈ o.after, Region.binds .any e = true → e.on < j) ∧ ∀ i, i < j → (M j).testBit i = true → ∃ e ∈ o.after, Region.binds .any e = true ∧ (e.on = i ∨ (i < e.on ∧ (M e.on).testBit i = true)) := by
  have h1 := List.all_eq_true.1 hM j (List.mem_range.2 (Array.getElem?_eq_some_iff.1 ho).1)
  simp only [ho, Bool.and_eq_true] at h1
  obtain ⟨h1, h2⟩ := h1
  refine ⟨fun e he hb => ?_, fun i hi ht => ?_⟩
  · have := Array.all_eq_true_iff_forall_mem.1 h1 e he
    simpa [hb] using this
  · have := List.all_eq_true.1 h2 i (List.mem_range.2 hi)
    simp only [ht, Bool.not_true, Bool.false_or] at this
    obtain ⟨e, he, hb⟩ := Array.any_eq_true'.1 this
    simp only [Bool.and_eq_true, Bool.or_eq_true, beq_iff_eq, decide_eq_true_eq] at hb
    exact ⟨e, he, hb.1, hb.2⟩

theorem bits_closed {M : Nat → Nat} (hM : okM ops M = true) {D : Nat → Prop} (closed : ∀ m o, ops[m]? = some o → D m → ∀ e ∈ o.after, Region.binds .any e = true → D e.on) :
    ∀ (m : Nat), D m → m < ops.size → ∀ i, i < m → (M m).testBit i = true → D i := by
  intro m
  induction m using Nat.strongRecOn with
  | _ m ih =>
    intro hD hm i hi ht
    have ho : ops[m]? = some ops[m] := Array.getElem?_eq_getElem hm
    obtain ⟨hlt, hspec⟩ := okM_spec hM ho
    obtain ⟨e, he, hb, hor⟩ := hspec i hi ht
    have hDe := closed m _ ho hD e he hb
    rcases hor with rfl | ⟨h1, h2⟩
    · exact hDe
    · have := hlt e he hb
      exact ih e.on this hDe (by omega) i h1 h2

theorem bits_ready {M : Nat → Nat} (hM : okM ops M = true) {D : Nat → Prop} (closed : ∀ m o, ops[m]? = some o → D m → ∀ e ∈ o.after, Region.binds .any e = true → D e.on) {j : Nat} {o : Oper} (ho : ops[j]? = some o)
    (ready : ∀ e ∈ o.after, Region.binds .any e = true → D e.on) : ∀ i, i < j → (M j).testBit i = true → D i := by
  intro i hi ht
  obtain ⟨hlt, hspec⟩ := okM_spec hM ho
  obtain ⟨e, he, hb, hor⟩ := hspec i hi ht
  have hj := (Array.getElem?_eq_some_iff.1 ho).1
  rcases hor with rfl | ⟨h1, h2⟩
  · exact ready e he hb
  · have := hlt e he hb
    exact bits_closed hM closed e.on (ready e he hb) (by omega) i h1 h2

theorem okPairs_spec {M : Nat → Nat} (hP : okPairs P ops M = true) {i j : Nat} {oi oj : Oper} (hij : i < j) (hi : ops[i]? = some oi) (hj : ops[j]? = some oj) (hb : (M j).testBit i = false) :
    oi.apart ops oj = true ∧ oj.apart ops oi = true ∧ okCls (cls P oi.op) (cls P oj.op) = true := by
  have h1 := List.all_eq_true.1 hP j (List.mem_range.2 (Array.getElem?_eq_some_iff.1 hj).1)
  have h2 := List.all_eq_true.1 h1 i (List.mem_range.2 hij)
  simp only [hb, Bool.false_or, hi, hj, Bool.and_eq_true] at h2
  exact ⟨h2.1.1, h2.1.2, h2.2⟩

/-- what is known of an operation that may come up now, and of any other one -/
structure Turn (P : Program) (ops : Array Oper) (D : Nat → Prop) (j : Nat) : Prop where
  /-- either the two wait for each other, or they are independent -/
  other : ∀ m om oj, m < ops.size → m ≠ j → ops[m]? = some om → ops[j]? = some oj →
    (D m ↔ m < j) ∨ (om.apart ops oj = true ∧ oj.apart ops om = true ∧ okCls (cls P om.op) (cls P oj.op) = true ∧ okCls (cls P oj.op) (cls P om.op) = true ∧
      (cls P om.op = .full → cls P oj.op = .read → needQuiet P ops (masks ops) m = true) ∧ indepB (masks ops) m j = true)

theorem needQuiet_of {M : Nat → Nat} {k j : Nat} {ok oj : Oper} (hk : ops[k]? = some ok) (hj : ops[j]? = some oj) (h1 : cls P ok.op = .full) (h2 : cls P oj.op = .read) (hb : ((M k).testBit j || (M j).testBit k) = false) : needQuiet P ops M k = true := by
  unfold needQuiet
  simp only [hk, h1, beq_self_eq_true, Bool.true_and]
  refine List.any_eq_true.2 ⟨j, List.mem_range.2 (Array.getElem?_eq_some_iff.1 hj).1, ?_⟩
  simp [hj, h2, hb]

theorem shy_of {M : Nat → Nat} {k j : Nat} {ok oj : Oper} (hk : ops[k]? = some ok) (hj : ops[j]? = some oj) (h1 : cls P ok.op = .full) (h2 : cls P oj.op = .read) (hb : ((M k).testBit j || (M j).testBit k) = false) (hlt : k < j) : shyB P ops M j = true := by
  unfold shyB
  simp only [hj, h2, beq_self_eq_true, Bool.true_and]
  refine List.any_eq_true.2 ⟨k, List.mem_range.2 hlt, ?_⟩
  simp [hk, h1, hb]
theorem okCls_symm {x y : Class} (h : okCls x y = true) : okCls y x = true := by cases x <;> cases y <;> first | rfl | exact h

theorem high_spec {M : Nat → Nat} (h : okHigh ops M = true) {j i : Nat} (hj : j < ops.size) (hi : j ≤ i) : (M j).testBit i = false := by
  have := List.all_eq_true.1 h j (List.mem_range.2 hj)
  simp only [decide_eq_true_eq] at this
  exact Nat.testBit_lt_two_pow (Nat.lt_of_lt_of_le this (Nat.pow_le_pow_right (by omega) hi))

theorem turn_of (hM : okM ops (masks ops) = true) (hH : okHigh ops (masks ops) = true) (hP : okPairs P ops (masks ops) = true) {D : Nat → Prop} (closed : ∀ m o, ops[m]? = some o → D m → ∀ e ∈ o.after, Region.binds .any e = true → D e.on) {j : Nat} {o : Oper} (ho : ops[j]? = some o)
    (hDj : ¬ D j) (ready : ∀ e ∈ o.after, Region.binds .any e = true → D e.on) : Turn P ops D j := by
  refine ⟨fun m om oj hm hne hom hoj => ?_⟩
  have hjs := (Array.getElem?_eq_some_iff.1 ho).1
  rcases Nat.lt_or_ge m j with hlt | hge
  · cases hb : (masks ops j).testBit m with
    | true => exact .inl ⟨fun _ => hlt, fun _ => bits_ready hM closed ho ready m hlt hb⟩
    | false =>
      obtain ⟨h1, h2, h3⟩ := okPairs_spec hP hlt hom hoj hb
      have hb2 : (masks ops m).testBit j = false := high_spec hH hm (by omega)
      exact .inr ⟨h1, h2, h3, okCls_symm h3, fun a b => needQuiet_of hom hoj a b (by simp [hb, hb2]), by simp [indepB, hb, hb2]⟩
  · have hlt : j < m := by omega
    cases hb : (masks ops m).testBit j with
    | true => exact .inl ⟨fun hD => absurd (bits_closed hM closed m hD hm j hlt hb) hDj, fun h => by omega⟩
    | false =>
      obtain ⟨h1, h2, h3⟩ := okPairs_spec hP hlt hoj hom hb
      have hb2 : (masks ops j).testBit m = false := high_spec hH hjs (by omega)
      exact .inr ⟨h2, h1, okCls_symm h3, h3, fun a b => needQuiet_of hom hoj a b (by simp [hb, hb2]), by simp [indepB, hb, hb2]⟩

end

end Go.Ev

/- The abstract machine Ev, part L: a drawn region, whatever order is drawn. -/
namespace Go.Ev

section
variable {E : Nat → Prop} {P : Program} {call : CallFn} {ops : Array Oper} {n : Nat} {F : Nat → List AV} {Hs : Nat → H} {V : Nat → AV} {r0 : Ren} {w0 : World} {ds : List Deferred}

/-- D and j besides -/
def With (D : Nat → Prop) (j : Nat) (m : Nat) : Prop := D m ∨ m = j

theorem with_iff {D : Nat → Prop} {j m : Nat} (h : m ≠ j → (D m ↔ m < j)) : With D j m ↔ m < j + 1 := by
  unfold With
  by_cases e : m = j
  · subst e; simp
  · have := h e
    constructor
    · rintro (h1 | h1)
      · have := this.1 h1; omega
      · exact absurd h1 e
    · intro h1
      exact .inl (this.2 (by omega))

theorem slot_with (hn : n = ops.size) {D : Nat → Prop} {j : Nat} (hj : j < n) {oj : Oper} (hoj : ops[j]? = some oj) (turn : Turn P ops D j) (hDj : ¬ D j) (t : Tmp) :
    (oj.dst = some t → slotD ops n F V (With D j) t = V j) ∧ (oj.dst ≠ some t → slotD ops n F V (With D j) t = slotD ops n F V D t) := by
  constructor
  · intro hd
    have key : ∀ m, m < n → Wr ops t m → (With D j m ↔ m < j + 1) := by
      intro m hm ⟨om, hom, hdm⟩
      refine with_iff fun hne => ?_
      rcases turn.other m om oj (hn ▸ hm) hne hom hoj with h | ⟨hap, _⟩
      · exact h
      · exact absurd hd ((Oper.apart_spec hap).2.1 t hdm)
    unfold slotD
    rw [pr_congr (W' := fun m => m < j + 1 ∧ Wr ops t m) (fun m hm => ⟨fun ⟨a, b⟩ => ⟨(key m hm b).1 a, b⟩, fun ⟨a, b⟩ => ⟨(key m hm b).2 a, b⟩⟩), pr_none (j := j + 1) (by omega) (fun m _ h => h.1)]
    simp only [pr]
    rw [if_pos ⟨by omega, oj, hoj, hd⟩]
  · intro hd
    unfold slotD
    refine pr_congr fun m hm => ?_
    constructor
    · rintro ⟨h | rfl, hw⟩
      · exact ⟨h, hw⟩
      · obtain ⟨om, hom, hdm⟩ := hw
        rw [hoj] at hom
        cases hom
        exact absurd hdm hd
    · rintro ⟨h, hw⟩
      exact ⟨.inl h, hw⟩

theorem cont_same {D : Nat → Prop} {j i : Nat} (h : ¬ Tc Hs i j) : contD n Hs (With D j) i = contD n Hs D i := by
  unfold contD
  refine pr_congr fun m hm => ?_
  constructor
  · rintro ⟨h1 | rfl, hw⟩
    · exact ⟨h1, hw⟩
    · exact absurd hw h
  · rintro ⟨h1, hw⟩
    exact ⟨.inl h1, hw⟩

/-- the operation's operands, where it comes up -/
theorem operands_at (hrun : Run E P call ops n F Hs V) (hn : n = ops.size) {D : Nat → Prop} {r : Ren} {a : Act} {w : World} (inv : Inv P ops n F Hs V r0 w0 ds D r a w) {j : Nat} (hj : j < n) {oj : Oper} (hoj : ops[j]? = some oj)
    (turn : Turn P ops D j) (hDj : ¬ D j) : ∀ x, VR r (restrict ops oj (F j) x) (a.eval x) := by
  intro x
  cases x with
  | tmp t =>
    simp only [restrict]
    split
    · rename_i ht
      rcases Nat.lt_or_ge t (F 0).length with hlt | hge
      · have := slotD_agree (D := D) hrun hlt (j := j) (by omega) (fun m hm ⟨om, hom, hdm⟩ => by
          by_cases e : m = j
          · subst e; exact ⟨fun h => absurd h hDj, fun h => by omega⟩
          · rcases turn.other m om oj (hn ▸ hm) e hom hoj with h | ⟨hap, _⟩
            · exact h
            · exact absurd ht ((Oper.apart_spec hap).1 t hdm))
        rw [← this]
        exact inv.slot t hlt
      · rw [List.getD_eq_getElem?_getD, List.getElem?_eq_none (by rw [length_F hrun j (by omega)]; exact hge)]
        exact .junk _
    · exact .junk _
  | const v => exact VR_ofValue r v
  | global g => exact (inv.gl.mono inv.le).vr g
  | func f => exact .func f [] [] #[] #[] rfl rfl (fun i a v h => by simp at h) (fun i a v h => by simp at h)

theorem eval_put (a : Act) (d : Option Tmp) (v : Value) (t : Tmp) (ht : t < a.tmps.size) : (a.put d v).eval (.tmp t) = if d = some t then v else a.eval (.tmp t) := by
  cases d with
  | none => simp [Act.put]
  | some d =>
    by_cases e : d = t
    · subst e; simp [Act.put, Act.eval, ht]
    · simp [Act.put, Act.eval, e, Array.getElem?_setIfInBounds_ne e]

/-- what the heap's part of Inv asks behind operation j -/
structure Behind (n : Nat) (Hs : Nat → H) (r0 : Ren) (w0 : World) (D : Nat → Prop) (j : Nat) (r r' : Ren) (w w' : World) : Prop where
  le : r.le r'
  /-- what stands for a block that was there stood for it before -/
  alias : ∀ i t o, r' i = some t → contD n Hs (With D j) i = some o → w.heap.size ≤ t.blk ∨ ∃ k tk ok, r k = some tk ∧ tk.blk = t.blk ∧ contD n Hs D k = some ok
  dom : ∀ i t, r' i = some t → r i = none → (Hs j).next ≤ i ∧ i < (Hs (j + 1)).next
  obj : ∀ i t o, r' i = some t → contD n Hs (With D j) i = some o → OR r' w' t o
  inj : ∀ i k ti tk oi ok, r' i = some ti → r' k = some tk → contD n Hs (With D j) i = some oi → contD n Hs (With D j) k = some ok → ti.blk = tk.blk → i = k ∨ (oi.ro = true ∧ ok.ro = true)
  bound : ∀ i t, r' i = some t → t.blk < w'.heap.size
  keep : Keep r0 (Hs 0) w0 w'
  size : w0.heap.size ≤ w'.heap.size
  env : Env w0 w'
  fresh : ∀ i t, r0 i = none → r' i = some t → w0.heap.size ≤ t.blk ∨ ∃ k tk o, r0 k = some tk ∧ tk.blk = t.blk ∧ (Hs 0).get k = some o ∧ o.ro = false
  touch : ∀ i, i < (Hs j).next → Tc Hs i j → ∃ t, r' i = some t
  ro : ∀ i o, i < (Hs j).next → (Hs (j + 1)).get i = some o → ∃ o', (Hs j).get i = some o' ∧ o'.ro = o.ro

theorem inv_behind (hrun : Run E P call ops n F Hs V) (hn : n = ops.size) {D : Nat → Prop} {r r' : Ren} {a : Act} {w w' : World} (inv : Inv P ops n F Hs V r0 w0 ds D r a w) {j : Nat} (hj : j < n) {oj : Oper} (hoj : ops[j]? = some oj)
    (turn : Turn P ops D j) (hDj : ¬ D j) (b : Behind n Hs r0 w0 D j r r' w w') {v' : Value} (hv : VR r' (V j) v') : Inv P ops n F Hs V r0 w0 ds (With D j) r' (a.put oj.dst v') w' where
  le := Ren.le_trans inv.le b.le
  dom := fun i t h1 h2 => by
    cases hr : r i with
    | none => have := b.dom i t h1 hr; exact ⟨j, hj, .inr rfl, this.1, this.2⟩
    | some t' =>
      obtain ⟨k, hk, hD, h3⟩ := inv.dom i t' hr h2
      exact ⟨k, hk, .inl hD, h3⟩
  sz := by
    rw [← inv.sz]
    cases oj.dst <;> simp [Act.put]
  slot := fun t ht => by
    have hs := slot_with (F := F) (V := V) hn hj hoj turn hDj t
    rw [eval_put _ _ _ _ (by rw [inv.sz]; exact ht)]
    by_cases hd : oj.dst = some t
    · rw [if_pos hd, hs.1 hd]; exact hv
    · rw [if_neg hd, hs.2 hd]; exact (inv.slot t ht).mono b.le
  obj := b.obj
  inj := b.inj
  bound := b.bound
  keep := b.keep
  size := b.size
  env := b.env
  fresh := b.fresh
  touch := fun m hm hD i hi ht => by
    rcases hD with hD | rfl
    · obtain ⟨t, h⟩ := inv.touch m hm hD i hi ht
      exact ⟨t, b.le i t h⟩
    · exact b.touch i hi ht
  ro := fun m hm hD i o hi ho => by
    rcases hD with hD | rfl
    · exact inv.ro m hm hD i o hi ho
    · exact b.ro i o hi ho
  defers := by rw [← inv.defers]; cases oj.dst <;> rfl
  gl := inv.gl

/-- an operation that changes nothing -/
theorem behind_same {D : Nat → Prop} {r : Ren} {a : Act} {w : World} (inv : Inv P ops n F Hs V r0 w0 ds D r a w) {j : Nat} (hH : Hs (j + 1) = Hs j) : Behind n Hs r0 w0 D j r r w w where
  le := Ren.le_refl _
  alias := fun i t o h1 h2 => .inr ⟨i, t, o, h1, rfl, by rwa [cont_same (by simp [Tc, hH])] at h2⟩
  dom := fun i t h1 h2 => by rw [h1] at h2; cases h2
  obj := fun i t o h1 h2 => by
    rw [cont_same (by simp [Tc, hH])] at h2
    exact inv.obj i t o h1 h2
  inj := fun i k ti tk oi ok h1 h2 h3 h4 => by
    rw [cont_same (by simp [Tc, hH])] at h3 h4
    exact inv.inj i k ti tk oi ok h1 h2 h3 h4
  bound := inv.bound
  keep := inv.keep
  size := inv.size
  env := inv.env
  fresh := inv.fresh
  touch := fun i _ h => absurd (by rw [hH]) h
  ro := fun i o _ h => ⟨o, by rw [← hH]; exact h, rfl⟩

/-- a new block -/
theorem behind_alloc (hcall : call.Sound P) (hrun : Run E P call ops n F Hs V) (wf0 : (Hs 0).WF) (free : ∀ i, (Hs 0).next ≤ i → i < (Hs n).next → r0 i = none) {D : Nat → Prop} {r : Ren} {a : Act} {w w' : World} (inv : Inv P ops n F Hs V r0 w0 ds D r a w) {j : Nat} (hj : j < n) (hDj : ¬ D j)
    {ob : Option AObj} {row : Nat} (hH : Hs (j + 1) = (Hs j).newO ob) (h1 : w'.heap.size = w.heap.size + 1) (he : Env w w') (h2 : ∀ b, b < w.heap.size → w'.heap[b]? = w.heap[b]?) (h3 : ∀ x, ob = some x → ∀ r' : Ren, r.le r' → OR r' w' ⟨w.heap.size, 0, row⟩ x) :
    Behind n Hs r0 w0 D j r (r.put (Hs j).next ⟨w.heap.size, 0, row⟩) w w' := by
  have hnew : r (Hs j).next = none := by
    cases hr : r (Hs j).next with
    | none => rfl
    | some t =>
      have hm := Hs_mono hcall hrun (Nat.zero_le j) (by omega : j ≤ n)
      have hm2 : (Hs (j + 1)).next ≤ (Hs n).next := Hs_mono hcall hrun (by omega) (Nat.le_refl _)
      have hnx : (Hs (j + 1)).next = (Hs j).next + 1 := by rw [hH, next_newO]
      obtain ⟨k, hk, hD, h4, h5⟩ := inv.dom _ t hr (free _ hm (by omega))
      exfalso
      rcases Nat.lt_trichotomy k j with h | h | h
      · have := Hs_mono hcall hrun (show k + 1 ≤ j from h) (by omega : j ≤ n); omega
      · subst h; exact hDj hD
      · have := Hs_mono hcall hrun (show j + 1 ≤ k from h) (by omega : k ≤ n); omega
  have hwf := Hs_wf hcall hrun wf0 j (by omega)
  have hold : (Hs j).get (Hs j).next = none := by
    cases hg : (Hs j).get (Hs j).next with
    | none => rfl
    | some o => have := hwf _ _ hg; omega
  have hget : ∀ i, (Hs (j + 1)).get i = if i = (Hs j).next then ob else (Hs j).get i := fun i => by
    rw [hH]
    by_cases e : i = (Hs j).next
    · rw [if_pos e, e, get_newO_self hold]
    · rw [if_neg e, get_newO e]
  have hnt : ∀ i, i ≠ (Hs j).next → ¬ Tc Hs i j := fun i hi h => h (by rw [hget, if_neg hi])
  have hcn : contD n Hs (With D j) (Hs j).next = ob := by
    have := contD_agree (n := n) (Hs := Hs) (D := With D j) (i := (Hs j).next) (j := j + 1) (by omega) (fun m hm ht => with_iff fun hne => by
      rcases Nat.lt_or_ge m j with h | h
      · -- nothing has touched it before
        exfalso
        have hm1 := Hs_mono hcall hrun (show m + 1 ≤ j from h) (by omega : j ≤ n)
        have g1 : (Hs (m + 1)).get (Hs j).next = none := by
          cases hg : (Hs (m + 1)).get (Hs j).next with
          | none => rfl
          | some o => have := Hs_wf hcall hrun wf0 (m + 1) (by omega) _ _ hg; omega
        have hm2 := Hs_mono hcall hrun (show m ≤ j by omega) (by omega : j ≤ n)
        have g2 : (Hs m).get (Hs j).next = none := by
          cases hg : (Hs m).get (Hs j).next with
          | none => rfl
          | some o => have := Hs_wf hcall hrun wf0 m (by omega) _ _ hg; omega
        exact ht (by rw [g1, g2])
      · refine ⟨fun hD => ?_, fun h' => by omega⟩
        have hjm : j < m := by omega
        have hm1 := Hs_mono hcall hrun (show j + 1 ≤ m from hjm) (by omega : m ≤ n)
        have hnx : (Hs (j + 1)).next = (Hs j).next + 1 := by rw [hH, next_newO]
        obtain ⟨t, hr⟩ := inv.touch m hm hD _ (by omega) ht
        rw [hnew] at hr; cases hr)
    rw [this, hget, if_pos rfl]
  refine ⟨Ren.le_put hnew, fun i t o h4 h5 => ?_, fun i t h4 h5 => ?_, fun i t o h4 h5 => ?_, fun i k ti tk oi ok h4 h5 h6 h7 e => ?_, fun i t h4 => ?_, fun b hb hk => ?_, by have := inv.size; omega, inv.env.trans he, fun i t h4 h5 => ?_, fun i hi ht => ?_, fun i o hi ho => ?_⟩
  · unfold Ren.put at h4
    split at h4
    · cases h4; exact .inl (Nat.le_refl _)
    · rename_i e
      rw [cont_same (hnt i e)] at h5
      exact .inr ⟨i, t, o, h4, rfl, h5⟩
  · unfold Ren.put at h4
    split at h4
    · rename_i e; subst e; rw [hH, next_newO]; exact ⟨Nat.le_refl _, Nat.lt_succ_self _⟩
    · rw [h4] at h5; cases h5
  · unfold Ren.put at h4
    split at h4
    · rename_i e; subst e; cases h4
      rw [hcn] at h5
      exact h3 _ h5 _ (Ren.le_put hnew)
    · rename_i e
      rw [cont_same (hnt i e)] at h5
      exact (inv.obj i t o h4 h5).move (Ren.le_put hnew) (h2 _ (inv.bound i t h4))
  · unfold Ren.put at h4 h5
    split at h4 <;> split at h5
    · left; omega
    · rename_i e1 e2; cases h4
      have := inv.bound k tk h5; simp at e; omega
    · rename_i e1 e2; cases h5
      have := inv.bound i ti h4; simp at e; omega
    · rename_i e1 e2
      rw [cont_same (hnt i e1)] at h6
      rw [cont_same (hnt k e2)] at h7
      exact inv.inj i k ti tk oi ok h4 h5 h6 h7 e
  · unfold Ren.put at h4
    split at h4
    · cases h4; simp; omega
    · have := inv.bound i t h4; omega
  · have := inv.size
    rw [h2 b (by omega)]
    exact inv.keep b hb hk
  · unfold Ren.put at h5
    split at h5
    · cases h5; exact .inl inv.size
    · exact inv.fresh i t h4 h5
  · exact absurd ht (hnt i (by omega))
  · rw [hget, if_neg (by omega)] at ho
    exact ⟨o, ho, rfl⟩

end

end Go.Ev

/- The abstract machine Ev, part M: a drawn region, whatever order is drawn: the end of its proof. -/
namespace Go.Ev

section
variable {E : Nat → Prop} {P : Program} {call : CallFn} {ops : Array Oper} {n : Nat} {F : Nat → List AV} {Hs : Nat → H} {V : Nat → AV} {r0 : Ren} {w0 : World} {ds : List Deferred}

theorem touch_full (hcall : call.Sound P) (hrun : Run E P call ops n F Hs V) {m : Nat} (hm : m < n) {om : Oper} (hom : ops[m]? = some om) {i : Nat} (hi : i < (Hs m).next) (ht : Tc Hs i m) : cls P om.op = .full := by
  obtain ⟨o, h1, h2, _⟩ := hrun.step m hm
  rw [hom] at h1
  cases h1
  rcases h2 with h2 | h2
  case inr => exact h2.2.2 ⟨i, hi, ht⟩
  unfold evStep at h2
  obtain ⟨b, _, h2⟩ := Option.bind_eq_some_iff.1 h2
  cases b
  · simp at h2; exact absurd (by rw [h2.2]) ht
  · simp at h2
    unfold evOper at h2
    cases hc : cls P om.op with
    | full => rfl
    | pure => rw [hc] at h2; obtain ⟨x, _, h3⟩ := Option.map_eq_some_iff.1 h2; exact absurd (by rw [(Prod.mk.inj h3).2]) ht
    | read => rw [hc] at h2; obtain ⟨x, _, h3⟩ := Option.map_eq_some_iff.1 h2; exact absurd (by rw [(Prod.mk.inj h3).2]) ht
    | alloc =>
      rw [hc] at h2
      obtain ⟨x, _, h3⟩ := Option.map_eq_some_iff.1 h2
      refine absurd ?_ ht
      rw [← (Prod.mk.inj h3).2]
      exact get_newO (by omega)

theorem same_interval (hcall : call.Sound P) (hrun : Run E P call ops n F Hs V) {k m i : Nat} (hk : k < n) (hm : m < n) (h1 : (Hs k).next ≤ i) (h2 : i < (Hs (k + 1)).next) (h3 : (Hs m).next ≤ i) (h4 : i < (Hs (m + 1)).next) : k = m := by
  rcases Nat.lt_trichotomy k m with h | h | h
  · have := Hs_mono hcall hrun (show k + 1 ≤ m from h) (by omega : m ≤ n); omega
  · exact h
  · have := Hs_mono hcall hrun (show m + 1 ≤ k from h) (by omega : k ≤ n); omega

theorem made_by (hcall : call.Sound P) (hrun : Run E P call ops n F Hs V) (wf0 : (Hs 0).WF) {m i : Nat} (hm : m < n) (hi : (Hs m).next ≤ i) (ht : Tc Hs i m) : i < (Hs (m + 1)).next := by
  cases hg : (Hs (m + 1)).get i with
  | some o => exact Hs_wf hcall hrun wf0 (m + 1) hm i o hg
  | none =>
    refine absurd ?_ ht
    rw [hg]
    cases hg2 : (Hs m).get i with
    | none => rfl
    | some o => have := Hs_wf hcall hrun wf0 m (by omega) i o hg2; omega

variable (hcall : call.Sound P) (hrun : Run E P call ops n F Hs V) (wf0 : (Hs 0).WF) (hn : n = ops.size) (free : ∀ i, (Hs 0).next ≤ i → i < (Hs n).next → r0 i = none)
include hcall hrun wf0 hn free

theorem listed_of {D : Nat → Prop} {r : Ren} {a : Act} {w : World} (inv : Inv P ops n F Hs V r0 w0 ds D r a w) {m i : Nat} {t : Tgt} (hm : m < n) (h1 : (Hs m).next ≤ i) (h2 : i < (Hs (m + 1)).next) (hr : r i = some t) : D m := by
  have _ := wf0
  have hz := Hs_mono hcall hrun (Nat.zero_le m) (by omega : m ≤ n)
  have ht := Hs_mono hcall hrun (show m + 1 ≤ n from hm) (Nat.le_refl n)
  obtain ⟨k, hk, hD, h3, h4⟩ := inv.dom i t hr (free i (by omega) (by omega))
  have := same_interval hcall hrun hk hm h3 h4 h1 h2
  subst this; exact hD

theorem cont_at {D : Nat → Prop} {r : Ren} {a : Act} {w : World} (inv : Inv P ops n F Hs V r0 w0 ds D r a w) {j : Nat} (hj : j < n) {oj : Oper} (hoj : ops[j]? = some oj) (turn : Turn P ops D j) (hDj : ¬ D j)
    {S : Nat → Prop} (hc : cls P oj.op = .full ∨ (cls P oj.op = .read ∧ ∀ m om, m < n → m ≠ j → ops[m]? = some om → cls P om.op = .full → indepB (masks ops) m j = true → ∀ i, i < (Hs m).next → (Hs (m + 1)).get i ≠ (Hs m).get i → S i)) {i : Nat} {t : Tgt} (hr : r i = some t) (hi : i < (Hs j).next) (hS : ¬ S i) : contD n Hs D i = (Hs j).get i := by
  refine contD_agree (by omega) fun m hm ht => ?_
  by_cases e : m = j
  · subst e; exact ⟨fun h => absurd h hDj, fun h => by omega⟩
  · have hom : ops[m]? = some ops[m] := Array.getElem?_eq_getElem (by omega)
    rcases Nat.lt_or_ge i (Hs m).next with hlt | hge
    · have hf := touch_full hcall hrun hm hom hlt ht
      rcases turn.other m _ oj (hn ▸ hm) e hom hoj with h | ⟨_, _, hcl, _, _, hq2⟩
      · exact h
      · rcases hc with hc | ⟨hc, hc2⟩
        · rw [hf, hc] at hcl; cases hcl
        · exact absurd (hc2 m _ hm e hom hf hq2 i hlt ht) hS
    · have h2 := made_by hcall hrun wf0 hm hge ht
      have hmj : m < j := by
        rcases Nat.lt_or_ge m j with h | h
        · exact h
        · have := Hs_mono hcall hrun h (by omega : m ≤ n); omega
      exact ⟨fun _ => hmj, fun _ => listed_of hcall hrun wf0 hn free inv hm hge h2 hr⟩

theorem rel_minus {D : Nat → Prop} {r : Ren} {a : Act} {w : World} (inv : Inv P ops n F Hs V r0 w0 ds D r a w) {j : Nat} (hj : j < n) {oj : Oper} (hoj : ops[j]? = some oj) (turn : Turn P ops D j) (hDj : ¬ D j)
    {S : Nat → Prop} (hc : cls P oj.op = .full ∨ (cls P oj.op = .read ∧ ∀ m om, m < n → m ≠ j → ops[m]? = some om → cls P om.op = .full → indepB (masks ops) m j = true → ∀ i, i < (Hs m).next → (Hs (m + 1)).get i ≠ (Hs m).get i → S i)) : Rel r ((Hs j).minus S) w := by
  have hwf := Hs_wf hcall hrun wf0 j (by omega)
  have hcont : ∀ i t o, r i = some t → ((Hs j).minus S).get i = some o → contD n Hs D i = some o := fun i t o hr hg => by
    by_cases hS : S i
    · simp only [H.minus] at hg
      rw [if_pos hS] at hg
      cases hg
    · rw [minus_get hS] at hg
      rw [cont_at hcall hrun wf0 hn free inv hj hoj turn hDj hc hr (hwf i o hg) hS]; exact hg
  exact ⟨fun i o hg => hwf i o ((minus_sub _ S).get i o hg), fun i t o hr hg => inv.obj i t o hr (hcont i t o hr hg), fun i k ti tk oi ok h1 h2 h3 h4 e => inv.inj i k ti tk oi ok h1 h2 (hcont _ _ _ h1 h3) (hcont _ _ _ h2 h4) e, inv.bound, inv.gl.mono inv.le⟩

theorem rel_at {D : Nat → Prop} {r : Ren} {a : Act} {w : World} (inv : Inv P ops n F Hs V r0 w0 ds D r a w) {j : Nat} (hj : j < n) {oj : Oper} (hoj : ops[j]? = some oj) (turn : Turn P ops D j) (hDj : ¬ D j)
    (hc : cls P oj.op = .full) : Rel r (Hs j) w := by
  have := rel_minus (S := noT) hcall hrun wf0 hn free inv hj hoj turn hDj (.inl hc)
  rwa [minus_noT] at this

theorem free_at {D : Nat → Prop} {r : Ren} {a : Act} {w : World} (inv : Inv P ops n F Hs V r0 w0 ds D r a w) {j : Nat} (hj : j < n) (hDj : ¬ D j) : ∀ i, (Hs j).next ≤ i → i < (Hs (j + 1)).next → r i = none := by
  intro i h1 h2
  cases hr : r i with
  | none => rfl
  | some t => exact absurd (listed_of hcall hrun wf0 hn free inv hj h1 h2 hr) hDj

theorem old_id {i : Nat} {t : Tgt} (hr : r0 i = some t) {j : Nat} (hj : j ≤ n) {o : AObj} (hg : (Hs j).get i = some o) : i < (Hs 0).next := by
  have _ := hn
  have h1 := Hs_wf hcall hrun wf0 j hj i o hg
  have h2 := Hs_mono hcall hrun hj (Nat.le_refl n)
  rcases Nat.lt_or_ge i (Hs 0).next with h | h
  · exact h
  · rw [free i h (by omega)] at hr; cases hr

theorem ro_back {D : Nat → Prop} {r : Ren} {a : Act} {w : World} (inv : Inv P ops n F Hs V r0 w0 ds D r a w) {j : Nat} (hj : j < n) {oj : Oper} (hoj : ops[j]? = some oj) (turn : Turn P ops D j) (hc : cls P oj.op = .full) {i : Nat} (hi : i < (Hs 0).next) :
    ∀ k, k ≤ j → ∀ o, (Hs k).get i = some o → ∃ o0, (Hs 0).get i = some o0 ∧ o0.ro = o.ro
  | 0, _, o, h => ⟨o, h, rfl⟩
  | k + 1, hk, o, h => by
    have _ := wf0
    have _ := free
    have hkn : k < n := by omega
    have hik : i < (Hs k).next := Nat.lt_of_lt_of_le hi (Hs_mono hcall hrun (Nat.zero_le k) (by omega))
    by_cases ht : Tc Hs i k
    · have hom : ops[k]? = some ops[k] := Array.getElem?_eq_getElem (by omega)
      have hf := touch_full hcall hrun hkn hom hik ht
      have hD : D k := by
        rcases turn.other k _ oj (hn ▸ hkn) (by omega) hom hoj with h | ⟨_, _, hcl, _⟩
        · exact h.2 (by omega)
        · rw [hf, hc] at hcl; cases hcl
      obtain ⟨o', h1, h2⟩ := inv.ro k hkn hD i o hik h
      obtain ⟨o0, h3, h4⟩ := ro_back inv hj hoj turn hc hi k (by omega) o' h1
      exact ⟨o0, h3, h4.trans h2⟩
    · exact ro_back inv hj hoj turn hc hi k (by omega) o (by rw [← Classical.not_not.1 ht]; exact h)

theorem behind_full {D : Nat → Prop} {r r' : Ren} {a : Act} {w w' : World} (inv : Inv P ops n F Hs V r0 w0 ds D r a w) {j : Nat} (hj : j < n) {oj : Oper} (hoj : ops[j]? = some oj) (turn : Turn P ops D j) (hDj : ¬ D j)
    (hc : cls P oj.op = .full) (p : Post r (Hs j) w r' (Hs (j + 1)) w') : Behind n Hs r0 w0 D j r r' w w' := by
  have hwf := Hs_wf hcall hrun wf0 j (by omega)
  have hwf' := Hs_wf hcall hrun wf0 (j + 1) (by omega)
  have hcat : ∀ {i t}, r i = some t → i < (Hs j).next → contD n Hs D i = (Hs j).get i := fun hr hi => cont_at (S := noT) hcall hrun wf0 hn free inv hj hoj turn hDj (.inl hc) hr hi (fun h => h)
  have hback : ∀ {i t}, r' i = some t → i < (Hs j).next → r i = some t := by
    intro i t h1 h2
    cases hr : r i with
    | none => have := p.dom i t h1 hr; omega
    | some t' => have := p.le i t' hr; rw [h1] at this; rw [this]
  have hback2 : ∀ {i t}, r' i = some t → (Hs (j + 1)).next ≤ i → r i = some t := by
    intro i t h1 h2
    cases hr : r i with
    | none => have := p.dom i t h1 hr; omega
    | some t' => have := p.le i t' hr; rw [h1] at this; rw [this]
  have hcaft : ∀ {i t}, r' i = some t → i < (Hs (j + 1)).next → contD n Hs (With D j) i = (Hs (j + 1)).get i := by
    intro i t hr hi
    refine contD_agree (by omega) fun m hm ht => with_iff fun e => ?_
    have hom : ops[m]? = some ops[m] := Array.getElem?_eq_getElem (by omega)
    rcases Nat.lt_or_ge i (Hs m).next with hlt | hge
    · have hf := touch_full hcall hrun hm hom hlt ht
      rcases turn.other m _ oj (hn ▸ hm) e hom hoj with h | ⟨_, _, hcl, _⟩
      · exact h
      · rw [hf, hc] at hcl; cases hcl
    · have h2 := made_by hcall hrun wf0 hm hge ht
      have hmj : m < j := by
        rcases Nat.lt_or_ge m j with h | h
        · exact h
        · have := Hs_mono hcall hrun (show j + 1 ≤ m by omega) (by omega : m ≤ n); omega
      have hij : i < (Hs j).next := Nat.lt_of_lt_of_le h2 (Hs_mono hcall hrun (show m + 1 ≤ j from hmj) (by omega))
      exact ⟨fun _ => hmj, fun _ => listed_of hcall hrun wf0 hn free inv hm hge h2 (hback hr hij)⟩
  have hhigh : ∀ {i}, (Hs (j + 1)).next ≤ i → ¬ Tc Hs i j := by
    intro i hi ht
    have := p.next
    refine ht ?_
    have g1 : (Hs (j + 1)).get i = none := by
      cases hg : (Hs (j + 1)).get i with
      | none => rfl
      | some o => have := hwf' i o hg; omega
    have g2 : (Hs j).get i = none := by
      cases hg : (Hs j).get i with
      | none => rfl
      | some o => have := hwf i o hg; omega
    rw [g1, g2]
  -- a block that a later operation has made
  have hkeepHigh : ∀ {i t o}, r i = some t → (Hs (j + 1)).next ≤ i → contD n Hs D i = some o → w'.heap[t.blk]? = w.heap[t.blk]? := by
    intro i t o hr hi hcn
    refine p.keep _ (inv.bound i t hr) fun i2 t2 o2 h1 h2 h3 => ?_
    have hi2 := hwf i2 o2 h3
    rcases inv.inj i2 i t2 t o2 o h1 hr (by rw [hcat h1 hi2]; exact h3) hcn h2 with e | e
    · have := p.next; omega
    · exact e.1
  -- an id below and one above
  have hmix : ∀ {i k ti tk oi ok}, r' i = some ti → i < (Hs (j + 1)).next → (Hs (j + 1)).get i = some oi → r k = some tk → (Hs (j + 1)).next ≤ k → contD n Hs D k = some ok → ti.blk = tk.blk → oi.ro = true ∧ ok.ro = true := by
    intro i k ti tk oi ok h1 h2 h3 h4 h5 h6 e
    have hnx := p.next
    cases hr : r i with
    | none =>
      rcases p.fresh i ti hr h1 with hf | ⟨q, tq, oq, hq1, hq2, hq3, hq4⟩
      · have := inv.bound k tk h4; omega
      · have hq5 := hwf q oq hq3
        rcases inv.inj q k tq tk oq ok hq1 h4 (by rw [hcat hq1 hq5]; exact hq3) h6 (hq2.trans e) with e2 | e2
        · omega
        · rw [e2.1] at hq4; cases hq4
    | some t' =>
      have := p.le i t' hr
      rw [h1] at this
      cases this
      have hi : i < (Hs j).next := by
        rcases p.gap i _ hr with h | h
        · exact h
        · omega
      obtain ⟨o', ho', hro⟩ := p.roKeep i oi hi h3
      rcases inv.inj i k _ tk o' ok hr h4 (by rw [hcat hr hi]; exact ho') h6 e with e2 | e2
      · omega
      · exact ⟨by rw [← hro]; exact e2.1, e2.2⟩
  refine ⟨p.le, fun i t o h1 h2 => ?_, p.dom, fun i t o h4 h5 => ?_, fun i k ti tk oi ok h4 h5 h6 h7 e => ?_, p.rel.bound, fun b hb hk => ?_, Nat.le_trans inv.size p.size, inv.env.trans p.env, fun i t h4 h5 => ?_, fun i hi ht => ?_, fun i o hi ho => p.roKeep i o hi ho⟩
  · rcases Nat.lt_or_ge i (Hs (j + 1)).next with hlt | hge
    · rw [hcaft h1 hlt] at h2
      cases hr : r i with
      | none =>
        rcases p.fresh i t hr h1 with hf | ⟨q, tq, oq, hq1, hq2, hq3, hq4⟩
        · exact .inl hf
        · exact .inr ⟨q, tq, oq, hq1, hq2, by rw [hcat hq1 (hwf q oq hq3)]; exact hq3⟩
      | some t' =>
        have := p.le i t' hr
        rw [h1] at this
        cases this
        have hi : i < (Hs j).next := by
          rcases p.gap i _ hr with h | h
          · exact h
          · omega
        obtain ⟨o', ho', hro⟩ := p.roKeep i o hi h2
        exact .inr ⟨i, _, o', hr, rfl, by rw [hcat hr hi]; exact ho'⟩
    · have hr := hback2 h1 hge
      rw [cont_same (hhigh hge)] at h2
      exact .inr ⟨i, t, o, hr, rfl, h2⟩
  · rcases Nat.lt_or_ge i (Hs (j + 1)).next with hlt | hge
    · rw [hcaft h4 hlt] at h5
      exact p.rel.obj i t o h4 h5
    · have hr := hback2 h4 hge
      rw [cont_same (hhigh hge)] at h5
      exact (inv.obj i t o hr h5).move p.le (hkeepHigh hr hge h5)
  · rcases Nat.lt_or_ge i (Hs (j + 1)).next with hi | hi <;> rcases Nat.lt_or_ge k (Hs (j + 1)).next with hk | hk
    · rw [hcaft h4 hi] at h6
      rw [hcaft h5 hk] at h7
      exact p.rel.inj i k ti tk oi ok h4 h5 h6 h7 e
    · rw [hcaft h4 hi] at h6
      rw [cont_same (hhigh hk)] at h7
      exact .inr (hmix h4 hi h6 (hback2 h5 hk) hk h7 e)
    · rw [cont_same (hhigh hi)] at h6
      rw [hcaft h5 hk] at h7
      exact .inr (And.symm (hmix h5 hk h7 (hback2 h4 hi) hi h6 e.symm))
    · rw [cont_same (hhigh hi)] at h6
      rw [cont_same (hhigh hk)] at h7
      exact inv.inj i k ti tk oi ok (hback2 h4 hi) (hback2 h5 hk) h6 h7 e
  · rw [p.keep b (Nat.lt_of_lt_of_le hb inv.size) fun i t o h1 h2 h3 => ?_]
    · exact inv.keep b hb hk
    · cases hr0 : r0 i with
      | none =>
        rcases inv.fresh i t hr0 h1 with hf | ⟨q, tq, oq, hq1, hq2, hq3, hq4⟩
        · omega
        · have := hk q tq oq hq1 (hq2.trans h2) hq3
          rw [this] at hq4; cases hq4
      | some t0 =>
        have := inv.le i t0 hr0
        rw [h1] at this
        cases this
        have hi0 := old_id hcall hrun wf0 hn free hr0 (by omega : j ≤ n) h3
        obtain ⟨o0, g1, g2⟩ := ro_back hcall hrun wf0 hn free inv hj hoj turn hc hi0 j (Nat.le_refl j) o h3
        rw [← g2]
        exact hk i _ o0 hr0 h2 g1
  · cases hr : r i with
    | some t' =>
      have := p.le i t' hr
      rw [h5] at this
      cases this
      exact inv.fresh i _ h4 hr
    | none =>
      rcases p.fresh i t hr h5 with hf | ⟨q, tq, oq, hq1, hq2, hq3, hq4⟩
      · exact .inl (Nat.le_trans inv.size hf)
      · cases hq0 : r0 q with
        | none =>
          rcases inv.fresh q tq hq0 hq1 with hf | ⟨q2, tq2, oq2, g1, g2, g3, g4⟩
          · exact .inl (by omega)
          · exact .inr ⟨q2, tq2, oq2, g1, g2.trans hq2, g3, g4⟩
        | some tq0 =>
          have := inv.le q tq0 hq0
          rw [hq1] at this
          cases this
          have hi0 := old_id hcall hrun wf0 hn free hq0 (by omega : j ≤ n) hq3
          obtain ⟨o0, g1, g2⟩ := ro_back hcall hrun wf0 hn free inv hj hoj turn hc hi0 j (Nat.le_refl j) oq hq3
          exact .inr ⟨q, _, o0, hq0, hq2, g1, by rw [g2]; exact hq4⟩
  · obtain ⟨t, h⟩ := p.touch i hi ht
    exact ⟨t, p.le i t h⟩

end

end Go.Ev

/- The abstract machine Ev, part N: regions, code, functions: what the abstract machine computes, the model's machine comes to. -/
namespace Go.Ev

section
variable {E : Nat → Prop} {P : Program} {call : CallFn} {ops : Array Oper} {n : Nat} {F : Nat → List AV} {Hs : Nat → H} {V : Nat → AV} {r0 : Ren} {w0 : World} {ds : List Deferred}
variable (hcall : call.Sound P) (hrun : Run E P call ops n F Hs V) (wf0 : (Hs 0).WF) (hn : n = ops.size) (free : ∀ i, (Hs 0).next ≤ i → i < (Hs n).next → r0 i = none)
include hcall hrun wf0 hn free

theorem inv_step {D : Nat → Prop} {r : Ren} {a : Act} {w : World} (inv : Inv P ops n F Hs V r0 w0 ds D r a w) {j : Nat} (hj : j < n) {oj : Oper} (hoj : ops[j]? = some oj) (turn : Turn P ops D j) (hDj : ¬ D j) (hE : ¬ E j)
    (Q : Exit → Act → World → Prop) (K : Act → World → Prop) (hK : ∀ r' a' w', Inv P ops n F Hs V r0 w0 ds (With D j) r' a' w' → Behind n Hs r0 w0 D j r r' w w' → w.heap.size ≤ w'.heap.size → (∀ b, b < w.heap.size → (∀ i t o, r i = some t → t.blk = b → contD n Hs D i = some o → o.ro = true) → w'.heap[b]? = w.heap[b]?) → K a' w') : wpOp P ops Q j K a w := by
  obtain ⟨o, ho, hst, _⟩ := hrun.step j hj
  rw [hoj] at ho
  cases ho
  replace hst := hst.resolve_right fun h => hE h.1
  rw [← evStep_restrict] at hst
  have hρ := operands_at (Hs := Hs) hrun hn inv hj hoj turn hDj
  unfold wpOp
  simp only [hoj]
  unfold evStep at hst
  obtain ⟨b, hb, hst⟩ := Option.bind_eq_some_iff.1 hst
  rw [wanted_sim hb fun t _ => hρ _]
  cases b with
  | false =>
    simp at hst
    simp only [Bool.false_eq_true, if_false]
    refine hK r _ w (inv_behind hrun hn inv hj hoj turn hDj (behind_same inv hst.2.symm) ?_) (behind_same inv hst.2.symm) (Nat.le_refl _) fun _ _ _ => rfl
    rw [← hst.1]
    exact VR_tup (vs := []) .nil
  | true =>
    simp at hst
    simp only [if_true]
    refine .inl ?_
    cases hc : cls P oj.op with
    | full =>
      have hrel := rel_at hcall hrun wf0 hn free inv hj hoj turn hDj hc
      have hfr := free_at hcall hrun wf0 hn free inv hj hDj
      exact full_leads hcall hρ hrel hfr hc hst Q K fun v' w' ⟨r', hv, hp⟩ => hK r' _ w' (inv_behind hrun hn inv hj hoj turn hDj (behind_full hcall hrun wf0 hn free inv hj hoj turn hDj hc hp) hv) (behind_full hcall hrun wf0 hn free inv hj hoj turn hDj hc hp) hp.size fun b hb hk => hp.keep b hb fun i t o h1 h2 h3 => hk i t o h1 h2 (by
        rw [cont_at (S := noT) hcall hrun wf0 hn free inv hj hoj turn hDj (.inl hc) h1 (Hs_wf hcall hrun wf0 j (by omega) i o h3) (fun h => h)]; exact h3)
    | pure =>
      unfold evOper at hst
      rw [hc] at hst
      obtain ⟨x, hx, hst⟩ := Option.map_eq_some_iff.1 hst
      obtain ⟨rfl, hH⟩ := Prod.mk.inj hst
      exact pure_leads hρ hx w Q K fun v' w' ⟨hv, e⟩ => by subst e; exact hK r _ _ (inv_behind hrun hn inv hj hoj turn hDj (behind_same inv hH.symm) hv) (behind_same inv hH.symm) (Nat.le_refl _) fun _ _ _ => rfl
    | read =>
      have ⟨h0, hrel, hst0⟩ : ∃ h0, Rel r h0 w ∧ evOper P call (restrict ops oj (F j)) oj.op h0 = some (V j, h0) := by
        -- what reads behind earlier ones may not look at
        have ⟨S1, g1, g2⟩ : ∃ S1 : Nat → Prop, (∀ m om, m < j → ops[m]? = some om → cls P om.op = .full → indepB (masks ops) m j = true → ∀ i, i < (Hs m).next → (Hs (m + 1)).get i ≠ (Hs m).get i → S1 i) ∧ evStep P call ops oj (opd (F j)) ((Hs j).minus S1) = some (V j, (Hs j).minus S1) := by
          cases hsh : shyB P ops (masks ops) j with
          | false =>
            refine ⟨noT, fun m om hmj hom hf hi => ?_, ?_⟩
            · have hi' : ((masks ops m).testBit j || (masks ops j).testBit m) = false := by simpa [indepB] using hi
              have := shy_of (M := masks ops) hom hoj hf hc hi' hmj
              rw [hsh] at this; cases this
            · obtain ⟨o, ho, hs, _⟩ := hrun.step j hj
              rw [hoj] at ho
              cases ho
              exact evStep_local hc (hs.resolve_right fun h => hE h.1) fun b _ h => h
          | true =>
            obtain ⟨S, q1, q2⟩ := hrun.shy j hj hE hsh
            exact ⟨S, fun m om hmj hom hf hi => q1 m hmj (needQuiet_of hom hoj hf hc (by simpa [indepB] using hi)) hi, q2 oj hoj⟩
        have g3 := evStep_local (S := fun i => ∃ m om, j < m ∧ m < n ∧ ops[m]? = some om ∧ cls P om.op = .full ∧ indepB (masks ops) m j = true ∧ (Hs (m + 1)).get i ≠ (Hs m).get i) hc g2 (fun b hb ⟨m, om, k1, k2, k3, k4, k5, k6⟩ => k6 (hrun.kept m k2 (needQuiet_of k3 hoj k4 hc (by simpa [indepB] using k5)) j oj k1 hoj hc k5 b hb))
        rw [minus_minus] at g3
        rw [← evStep_restrict] at g3
        unfold evStep at g3
        rw [hb] at g3
        simp only [Option.bind_some, if_true] at g3
        refine ⟨_, rel_minus (S := fun i => S1 i ∨ ∃ m om, j < m ∧ m < n ∧ ops[m]? = some om ∧ cls P om.op = .full ∧ indepB (masks ops) m j = true ∧ (Hs (m + 1)).get i ≠ (Hs m).get i) hcall hrun wf0 hn free inv hj hoj turn hDj (.inr ⟨hc, fun m om hm hne hom hf hi i hlt ht => ?_⟩), g3⟩
        rcases Nat.lt_or_ge m j with hmj | hmj
        · exact .inl (g1 m om hmj hom hf hi i hlt ht)
        · exact .inr ⟨m, om, by omega, hm, hom, hf, hi, ht⟩
      unfold evOper at hst hst0
      rw [hc] at hst hst0
      obtain ⟨_, _, hst⟩ := Option.map_eq_some_iff.1 hst
      obtain ⟨_, hH⟩ := Prod.mk.inj hst
      obtain ⟨x, hx, hst0⟩ := Option.map_eq_some_iff.1 hst0
      obtain ⟨rfl, _⟩ := Prod.mk.inj hst0
      exact read_leads hρ hrel hx Q K fun v' w' ⟨hv, e⟩ => by subst e; exact hK r _ _ (inv_behind hrun hn inv hj hoj turn hDj (behind_same inv hH.symm) hv) (behind_same inv hH.symm) (Nat.le_refl _) fun _ _ _ => rfl
    | alloc =>
      unfold evOper at hst
      rw [hc] at hst
      obtain ⟨⟨ob, mk⟩, hx, hst⟩ := Option.map_eq_some_iff.1 hst
      obtain ⟨hV, hH⟩ := Prod.mk.inj hst
      have hl := alloc_leads hρ hx w
      exact hl Q K fun v' w' ⟨row, h1, he, h2, h3, h4⟩ => by
        have hb := behind_alloc hcall hrun wf0 free inv hj hDj (row := row) hH.symm h1 he h2 h3
        refine hK _ _ w' (inv_behind hrun hn inv hj hoj turn hDj hb ?_) hb (by omega) fun b hb _ => h2 b hb
        rw [← hV]
        refine h4 _ _ (Ren.le_refl _) ?_
        simp [Ren.put]

theorem inv_end {D : Nat → Prop} {r : Ren} {a : Act} {w : World} (inv : Inv P ops n F Hs V r0 w0 ds D r a w) (hD : ∀ m, m < n → D m) (hfrl : (F 0).length = a.tmps.size) : FR r (F n) a ∧ Post r0 (Hs 0) w0 r (Hs n) w := by
  have hcont : ∀ i, contD n Hs D i = (Hs n).get i := fun i => contD_agree (Nat.le_refl n) fun m hm _ => ⟨fun _ => hm, fun _ => hD m hm⟩
  refine ⟨⟨by rw [length_F hrun n (Nat.le_refl n)]; simpa using hfrl, fun t x v hx hv => ?_⟩, ⟨inv.le, fun i t h1 h2 => ?_, ⟨Hs_wf hcall hrun wf0 n (Nat.le_refl n), fun i t o h1 h2 => inv.obj i t o h1 (by rw [hcont]; exact h2), fun i k ti tk oi ok h1 h2 h3 h4 => inv.inj i k ti tk oi ok h1 h2 (by rw [hcont]; exact h3) (by rw [hcont]; exact h4), inv.bound, inv.gl.mono inv.le⟩, inv.keep, inv.env, inv.size, Hs_mono hcall hrun (Nat.zero_le n) (Nat.le_refl n), inv.fresh, fun i o hi ho => ?_, fun i t h1 => ?_, fun i hi hne => ?_⟩⟩
  · have hlt : t < (F 0).length := by rw [← length_F hrun n (Nat.le_refl n)]; exact (List.getElem?_eq_some_iff.1 hx).1
    have h1 := inv.slot t hlt
    rw [slotD_agree hrun hlt (Nat.le_refl n) (fun m hm _ => ⟨fun _ => hm, fun _ => hD m hm⟩), List.getD_eq_getElem?_getD, hx] at h1
    simp only [Act.eval, Array.getD_eq_getD_getElem?] at h1
    rw [← Array.getElem?_toList, hv] at h1
    exact h1
  · obtain ⟨k, hk, _, h3, h4⟩ := inv.dom i t h1 h2
    have := Hs_mono hcall hrun (Nat.zero_le k) (by omega : k ≤ n)
    have := Hs_mono hcall hrun (show k + 1 ≤ n from hk) (Nat.le_refl n)
    exact ⟨by omega, by omega⟩
  · have : ∀ k, k ≤ n → ∀ o, (Hs k).get i = some o → ∃ o0, (Hs 0).get i = some o0 ∧ o0.ro = o.ro := by
      intro k
      induction k with
      | zero => intro _ o h; exact ⟨o, h, rfl⟩
      | succ k ih =>
        intro hk o h
        obtain ⟨o', h1, h2⟩ := inv.ro k hk (hD k hk) i o (Nat.lt_of_lt_of_le hi (Hs_mono hcall hrun (Nat.zero_le k) (by omega))) h
        obtain ⟨o0, h3, h4⟩ := ih (by omega) o' h1
        exact ⟨o0, h3, h4.trans h2⟩
    exact this n (Nat.le_refl n) o ho
  · rcases Nat.lt_or_ge i (Hs 0).next with h | h
    · exact .inl h
    · rcases Nat.lt_or_ge i (Hs n).next with h' | h'
      · rw [free i h h'] at h1; cases h1
      · exact .inr h'
  · have : ∃ m, m < n ∧ Tc Hs i m := by
      refine Classical.byContradiction fun hno => hne ?_
      have : ∀ k, k ≤ n → (Hs k).get i = (Hs 0).get i := by
        intro k
        induction k with
        | zero => intro _; rfl
        | succ k ih =>
          intro hk
          rw [← ih (by omega)]
          exact Classical.byContradiction fun h => hno ⟨k, hk, h⟩
      exact this n (Nat.le_refl n)
    obtain ⟨m, hm, ht⟩ := this
    obtain ⟨t, hr⟩ := inv.touch m hm (hD m hm) i (Nat.lt_of_lt_of_le hi (Hs_mono hcall hrun (Nat.zero_le m) (by omega))) ht
    cases hr0 : r0 i with
    | some t0 => exact ⟨t0, rfl⟩
    | none =>
      obtain ⟨k, hk, _, h3, h4⟩ := inv.dom i t hr hr0
      have := Hs_mono hcall hrun (Nat.zero_le k) (by omega : k ≤ n)
      omega

end

theorem filter_lt {α : Type} {p p' : α → Bool} {x : α} : ∀ {l : List α}, (∀ y, p' y = true → p y = true) → x ∈ l → p x = true → p' x = false → (l.filter p').length < (l.filter p).length
  | [], _, hx, _, _ => by cases hx
  | y :: l, h, hx, h1, h2 => by
    have hle : ∀ l : List α, (l.filter p').length ≤ (l.filter p).length := by
      intro l
      induction l with
      | nil => simp
      | cons z l ih =>
        simp only [List.filter_cons]
        by_cases hz : p' z = true
        · rw [if_pos hz, if_pos (h z hz)]; simp; exact ih
        · rw [if_neg hz]
          split
          · simp; omega
          · exact ih
    simp only [List.filter_cons]
    rcases List.mem_cons.1 hx with rfl | hm
    · rw [if_pos h1, if_neg (by simp [h2])]
      have := hle l
      simp; omega
    · have ih := filter_lt (l := l) h hm h1 h2
      by_cases hz : p' y = true
      · rw [if_pos hz, if_pos (h y hz)]; simp; exact ih
      · rw [if_neg hz]
        split
        · simp; omega
        · exact ih

/-- **A drawn region: whatever order is drawn.** -/
theorem region_any {E : Nat → Prop} {P : Program} {call : CallFn} (hcall : call.Sound P) {ops : Array Oper} {F : Nat → List AV} {Hs : Nat → H} {V : Nat → AV} {r0 : Ren} {w0 : World} {ds : List Deferred}
    (hok : okRegion P ops = true) (hrun : Run E P call ops ops.size F Hs V) (wf0 : (Hs 0).WF) (free : ∀ i, (Hs 0).next ≤ i → i < (Hs ops.size).next → r0 i = none) {Q : Exit → Act → World → Prop}
    (hQ : ∀ r a w, FR r (F ops.size) a → a.defers = ds → Post r0 (Hs 0) w0 r (Hs ops.size) w → Q .normal a w) :
    ∀ (fuel : Nat) (listed : Array Bool) (r : Ren) (a : Act) (w : World), listed.size = ops.size → (∀ m, m < ops.size → E m → listed.getD m false = true) → (∀ m o, ops[m]? = some o → listed.getD m false = true → ∀ e ∈ o.after, Region.binds .any e = true → listed.getD e.on false = true) →
      ((List.range ops.size).filter fun i => !listed.getD i true).length ≤ fuel → (∀ D : Nat → Prop, (∀ m, D m ↔ listed.getD m false = true) → Inv P ops ops.size F Hs V r0 w0 ds D r a w) → wpAny P .any ops Q fuel listed a w := by
  simp only [okRegion, Bool.and_eq_true] at hok
  obtain ⟨⟨hM, hH⟩, hP⟩ := hok
  have done : ∀ (listed : Array Bool) (r : Ren) (a : Act) (w : World), listed.size = ops.size → (∀ i, i < ops.size → listed.getD i true = true) →
      (∀ D : Nat → Prop, (∀ m, D m ↔ listed.getD m false = true) → Inv P ops ops.size F Hs V r0 w0 ds D r a w) → Q .normal a w := by
    intro listed r a w hsz hall hinv
    have inv := hinv (fun m => listed.getD m false = true) fun m => Iff.rfl
    have hD : ∀ m, m < ops.size → listed.getD m false = true := fun m hm => by
      have := hall m hm
      simp [hsz, hm] at this ⊢; exact this
    obtain ⟨h1, h2⟩ := inv_end hcall hrun wf0 rfl free inv hD inv.sz.symm
    exact hQ r a w h1 inv.defers h2
  have minimal : ∀ (listed : Array Bool), listed.size = ops.size → Region.ready .any ops listed = [] → ∀ i, i < ops.size → listed.getD i true = true := by
    intro listed hsz hr i
    induction i using Nat.strongRecOn with
    | _ i ih =>
      intro hi
      cases hl : listed.getD i true with
      | true => rfl
      | false =>
        have ho : ops[i]? = some ops[i] := Array.getElem?_eq_getElem hi
        have : i ∈ Region.ready .any ops listed := mem_ready.2 ⟨hl, _, ho, fun e he hb => by
          have h1 := (okM_spec hM ho).1 e he hb
          have h2 := ih e.on h1 (by omega)
          have h3 : e.on < listed.size := by omega
          simp [h3] at h2 ⊢; exact h2⟩
        rw [hr] at this; cases this
  intro fuel
  induction fuel with
  | zero =>
    intro listed r a w hsz hEl hcl hfu hinv
    have hall : ∀ i, i < ops.size → listed.getD i true = true := by
      intro i hi
      cases hl : listed.getD i true with
      | true => rfl
      | false =>
        have hm : i ∈ (List.range ops.size).filter fun i => !listed.getD i true := List.mem_filter.2 ⟨List.mem_range.2 hi, by rw [hl]; rfl⟩
        have : (List.range ops.size).filter (fun i => !listed.getD i true) = [] := List.eq_nil_of_length_eq_zero (by omega)
        rw [this] at hm; cases hm
    refine ⟨?_, done listed r a w hsz hall hinv⟩
    cases hr : Region.ready .any ops listed with
    | nil => rfl
    | cons x xs =>
      have hx : x ∈ Region.ready .any ops listed := by rw [hr]; simp
      obtain ⟨h1, o, h2, _⟩ := mem_ready.1 hx
      rw [hall x (Array.getElem?_eq_some_iff.1 h2).1] at h1; cases h1
  | succ fuel ih =>
    intro listed r a w hsz hEl hcl hfu hinv
    refine ⟨fun hr => done listed r a w hsz (minimal listed hsz hr) hinv, fun j hj => ?_⟩
    obtain ⟨hjl, oj, hoj, hready⟩ := mem_ready.1 hj
    have hjs := (Array.getElem?_eq_some_iff.1 hoj).1
    have inv := hinv (fun m => listed.getD m false = true) fun m => Iff.rfl
    have hDj : ¬ (listed.getD j false = true) := fun h => by
      have h3 : j < listed.size := by omega
      simp [h3] at h hjl; rw [h] at hjl; cases hjl
    have turn := turn_of (P := P) hM hH hP (D := fun m => listed.getD m false = true) hcl hoj hDj hready
    refine inv_step hcall hrun wf0 rfl free inv hjs hoj turn hDj (fun h => hDj (hEl j hjs h)) Q _ fun r' a' w' inv' _ _ _ => ih _ r' a' w' (by simp [hsz]) (fun m hm h => getD_set_true (hEl m hm h)) ?_ ?_ ?_
    · intro m o ho hm e he hb
      by_cases hmj : j = m
      · subst hmj
        rw [hoj] at ho
        cases ho
        exact getD_set_true (hready e he hb)
      · rw [getD_set_ne false hmj] at hm
        exact getD_set_true (hcl m o ho hm e he hb)
    · have := filter_lt (l := List.range ops.size) (p := fun i => !listed.getD i true) (p' := fun i => !(listed.setIfInBounds j true).getD i true) (x := j) (fun y hy => by
          by_cases hyj : j = y
          · subst hyj; rw [hjl]; rfl
          · rw [getD_set_ne true hyj] at hy; exact hy) (List.mem_range.2 hjs) (by rw [hjl]; rfl) (by
          have h3 : j < listed.size := by omega
          simp [h3])
      omega
    · intro D hD
      have hDe : D = With (fun m => listed.getD m false = true) j := by
        funext m
        refine propext ((hD m).trans ?_)
        unfold With
        by_cases hmj : j = m
        · subst hmj
          have h3 : j < listed.size := by omega
          simp [h3]
        · rw [getD_set_ne false hmj]
          exact ⟨.inl, fun h => h.resolve_right fun e => hmj e.symm⟩
      rw [hDe]; exact inv'

/-! ### code -/

inductive AExit where
  | normal
  | exit (id : Nat)
  | ret
  deriving DecidableEq

def AExit.to : AExit → Exit
  | .normal => .normal
  | .exit id => .exit id
  | .ret => .ret

abbrev AState := List AV × H

noncomputable def evRegion (P : Program) (call : CallFn) (ops : Array Oper) (draw : Bool) (s : AState) : Option AState :=
  if draw then evOpsQ P call ops ops.toList 0 s.1 s.2 noT [] else evOps P call ops ops.toList s.1 s.2

theorem evOpsQ_grows {P : Program} {call : CallFn} (hcall : call.Sound P) {ops : Array Oper} : ∀ {l : List Oper} {k : Nat} {fr fr' : List AV} {h h' : H} {S : Nat → Prop} {Js : List (Nat × AV)}, evOpsQ P call ops l k fr h S Js = some (fr', h') → h.next ≤ h'.next ∧ (h.WF → h'.WF)
  | [], k, fr, fr', h, h', S, Js, hs => by simp only [evOpsQ] at hs; cases hs; exact ⟨Nat.le_refl _, id⟩
  | o :: rest, k, fr, fr', h, h', S, Js, hs => by
    simp only [evOpsQ] at hs
    split at hs
    · obtain ⟨⟨v, h1⟩, h2, hs⟩ := Option.bind_eq_some_iff.1 hs
      exact evOpsQ_grows hcall hs
    · obtain ⟨⟨v, h1⟩, h2, hs⟩ := Option.bind_eq_some_iff.1 hs
      have g1 := evStep_grows hcall h2
      simp only at hs
      split at hs
      · split at hs
        · exact ⟨Nat.le_trans g1.1 (evOpsQ_grows hcall hs).1, fun hw => (evOpsQ_grows hcall hs).2 (g1.2 hw)⟩
        · cases hs
      · exact ⟨Nat.le_trans g1.1 (evOpsQ_grows hcall hs).1, fun hw => (evOpsQ_grows hcall hs).2 (g1.2 hw)⟩

theorem evRegion_grows {P : Program} {call : CallFn} (hcall : call.Sound P) {ops : Array Oper} {draw : Bool} {s s' : AState} (h : evRegion P call ops draw s = some s') : s.2.next ≤ s'.2.next ∧ (s.2.WF → s'.2.WF) := by
  unfold evRegion at h
  split at h
  · exact evOpsQ_grows hcall h
  · exact evOps_grows hcall h

/-- what a piece of code leads to -/
def Ends (P : Program) (c : Code) (r : Ren) (s : AState) (a : Act) (w : World) (e : AExit) (s' : AState) : Prop :=
  ∀ Q : Exit → Act → World → Prop, (∀ r' a' w', FR r' s'.1 a' → a'.defers = a.defers → Post r s.2 w r' s'.2 w' → Q e.to a' w') → c.wp P Q a w

theorem getD_rep (m j : Nat) : (Array.replicate m false).getD j false = false := by
  rcases Nat.lt_or_ge j m with h | h
  · simp [h]
  · simp [h]

theorem region_ends {P : Program} (hm : P.follows .mixedOrders = true) {call : CallFn} (hcall : call.Sound P) {id : Nat} {ops : Array Oper} {draw : Bool} (hok : (!draw || okRegion P ops) = true) {s s' : AState} (h : evRegion P call ops draw s = some s')
    {r : Ren} {a : Act} {w : World} (hfr : FR r s.1 a) (hrel : Rel r s.2 w) (hfree : ∀ i, s.2.next ≤ i → i < s'.2.next → r i = none) : Ends P (.region id ops draw) r s a w .normal s' := by
  intro Q hQ
  unfold evRegion at h
  cases draw with
  | false =>
    simp only [Bool.false_eq_true, if_false] at h
    exact wp_region_list (evOps_wp hcall h hfr hrel hfree fun r' a' w' h1 h2 h3 => hQ r' a' w' h1 h2 h3)
  | true =>
    simp only [if_true] at h
    simp only [Bool.not_true, Bool.false_or] at hok
    obtain ⟨F, Hs, V, e1, e2, e3, e4, e5, e6, e7⟩ := run_of_evOpsQ h (fun j _ => by simp)
    have hsz : ops.toList.length = ops.size := by simp
    rw [hsz] at e3 e4 e5 e6 e7
    have hrun : Run (fun _ => False) P call ops ops.size F Hs V := ⟨fun k hk => by
      obtain ⟨o, g1, g2, g3⟩ := e5 k hk
      exact ⟨o, by simpa using g1, .inl g2, g3⟩, fun k hk hq j oj hj hoj hc hi b hb => (e6 k hk (by simpa using hq)).2 j oj hj (by simpa using hoj) hc (by simpa using hi) b hb, fun k hk _ hs => by
      obtain ⟨S, _, g1, g2⟩ := e7 k hk (by simpa using hs)
      exact ⟨S, fun m hm hq _ => g1 m hm (by simpa using hq), fun o ho => g2 o (by simpa using ho)⟩⟩
    have hw : Post r s.2 w r s.2 w.drew := Post.same hrel rfl ⟨rfl, rfl, rfl, fun _ => Nat.le_succ _⟩
    refine wp_region_any hm ?_
    have hlen : (F 0).length = a.tmps.size := by rw [e1]; simpa using hfr.1
    refine region_any hcall hok hrun (r0 := r) (w0 := w.drew) (ds := a.defers) (by rw [e2]; exact hrel.wf) (by rw [e2, e4]; exact hfree) (fun r' a' w' h1 h2 h3 => ?_) ops.size _ r a w.drew (by simp) (fun _ _ h => h.elim) ?_ ?_ ?_
    · rw [e2, e4] at h3
      rw [e3] at h1
      exact hQ r' a' w' h1 h2 (hw.trans h3)
    · intro m o ho hm' e he hb
      rw [getD_rep] at hm'; cases hm'
    · have := List.length_filter_le (fun i => !(Array.replicate ops.size false).getD i true) (List.range ops.size)
      simpa using this
    · intro D hD
      have hno : ∀ m, ¬ D m := fun m h => by have := (hD m).1 h; rw [getD_rep] at this; cases this
      have hcont : ∀ i, contD ops.size Hs D i = (Hs 0).get i := fun i => contD_agree (Nat.zero_le _) fun m _ _ => ⟨fun h => absurd h (hno m), fun h => by omega⟩
      refine ⟨Ren.le_refl _, (fun i t h1 h2 => by rw [h1] at h2; cases h2), hlen.symm, fun t ht => ?_, fun i t o h1 h2 => ?_, fun i k ti tk oi ok h1 h2 h3 h4 => ?_, hw.rel.bound, fun _ _ _ => rfl, Nat.le_refl _, .refl _, (fun i t h1 h2 => by rw [h1] at h2; cases h2), fun m _ h => absurd h (hno m), fun m _ h => absurd h (hno m), rfl, hrel.glob⟩
      · rw [slotD_agree hrun ht (Nat.zero_le _) fun m _ _ => ⟨fun h => absurd h (hno m), fun h => by omega⟩, e1]
        exact opd_VR hfr hrel.glob (.tmp t)
      · rw [hcont, e2] at h2
        exact hw.rel.obj i t o h1 h2
      · rw [hcont, e2] at h3 h4
        exact hw.rel.inj i k ti tk oi ok h1 h2 h3 h4

theorem Ends.seq {P : Program} {x y : Code} {r : Ren} {s s1 s' : AState} {a : Act} {w : World} {e : AExit} (h : Ends P x r s a w .normal s1)
    (h2 : ∀ r' a' w', FR r' s1.1 a' → a'.defers = a.defers → Post r s.2 w r' s1.2 w' → Ends P y r' s1 a' w' e s') : Ends P (.seq x y) r s a w e s' := by
  intro Q hQ
  refine wp_seq (h _ fun r' a' w' g1 g2 g3 => ?_)
  exact h2 r' a' w' g1 g2 g3 Q fun r'' a'' w'' k1 k2 k3 => hQ r'' a'' w'' k1 (k2.trans g2) (g3.trans k3)

theorem Ends.block {P : Program} {id : Nat} {c : Code} {r : Ren} {s s' : AState} {a : Act} {w : World} {e : AExit} (h : Ends P c r s a w e s') : Ends P (.block id c) r s a w (if e = .exit id then .normal else e) s' := by
  intro Q hQ
  refine wp_block (h _ fun r' a' w' g1 g2 g3 => ?_)
  have := hQ r' a' w' g1 g2 g3
  cases e with
  | normal => exact this
  | ret => exact this
  | exit j =>
    show Exit.inBlock id Q (.exit j) a' w'
    simp only [Exit.inBlock]
    by_cases hj : j = id
    · subst hj
      simp only [if_true] at this ⊢; exact this
    · rw [if_neg hj]
      rw [if_neg (by intro e; cases e; exact hj rfl)] at this
      exact this

/-! ### functions -/

def oneOf (vs : List AV) : AV := match vs with | [v] => v | vs => .tup vs

def resSem (tmps : Array Value) (x : ResultVar) : Sem Value :=
  match x with
  | .tmp t => pure (tmps.getD t undef)
  | .cell a t => do loadVar t (← asAddr (tmps.getD a undef))

theorem VR_oneOf {r : Ren} {vs : List AV} {vs' : List Value} (h : VRL r vs vs') : VR r (oneOf vs) (if h : vs'.toArray.size = 1 then vs'.toArray[0] else .tuple vs'.toArray) := by
  match vs, vs', h with
  | [], [], h => exact VR_tup h
  | [v], [v'], h => exact h.2 0 v v' rfl rfl
  | v :: u :: vs, v' :: u' :: vs', h =>
    simp only [oneOf]
    rw [dif_neg (by simp)]
    exact VR_tup h
  | [], _ :: _, h => have := h.1; simp at this
  | _ :: _, [], h => have := h.1; simp at this
  | [_], _ :: _ :: _, h => have := h.1; simp at this
  | _ :: _ :: _, [_], h => have := h.1; simp at this

end Go.Ev

/- The abstract machine Ev, part P: the same computing, each test ahead of what follows (so that it unfolds into plain nested terms), values in their types' shapes. -/
namespace Go.Ev

abbrev KF := List (Nat × AV)

def look : KF → Nat → AV
  | [], _ => .junk
  | (d, v) :: A, t => match Nat.beq d t with | true => v | false => look A t

def kopd (N : Nat) (A : KF) : Operand → AV
  | .tmp t => match Nat.blt t N with | true => look A t | false => .junk
  | .const v => ofValue v
  | .global g => glV g
  | .func f => .func f [] []

def kput (N : Nat) (A : KF) (d : Option Tmp) (v : AV) : KF :=
  match d with
  | none => A
  | some d => match Nat.blt d N with | true => (d, v) :: A | false => A

/-- a table of functions, each test ahead of what follows -/
structure CK where
  run : ∀ {β : Type}, FuncId → List AV → H → (AV → H → Option β) → Option β
  nat : ∀ {β : Type} (f : FuncId) (args : List AV) (h : H) (k : AV → H → Option β), run f args h k = (run f args h fun v h' => some (v, h')).bind fun q => k q.1 q.2

def CK.call (c : CK) : CallFn := fun f args h => c.run f args h fun v h' => some (v, h')

section
variable {β : Type}

def nnK (p : Option (Nat × Nat)) (f : Nat → Nat → Option β) : Option β := match p with | some (b, o) => f b o | none => none
def offK (o : Nat) (n : Int) (s : Nat) : Nat := match Nat.beq s 1 with | true => o + n.toNat | false => o + n.toNat * s

/-! ### shapes -/

def asInt (k : IntKind) (v : AV) (f : Int → Option β) : Option β := match v with | .int k' n => if k' = k then f n else none | _ => none
def asBool (v : AV) (f : Bool → Option β) : Option β := match v with | .bool b => f b | _ => none
def asStr (v : AV) (f : ByteArray → Option β) : Option β := match v with | .str s => f s | _ => none
def asPtr (v : AV) (f : Option (Nat × Nat) → Option β) : Option β := match v with | .ptr p => f p | _ => none
def asSlice (v : AV) (f : Option (Nat × Nat) → Nat → Cap → Option β) : Option β := match v with | .slice p l c => f p l c | _ => none
def asMap (v : AV) (f : Option Nat → Option β) : Option β := match v with | .map m => f m | _ => none
def asAgg (v : AV) (f : List AV → Option β) : Option β := match v with | .agg l => f l | _ => none

def l0 (l : List AV) (f : Option β) : Option β := match l with | [] => f | _ => none
def lc (l : List AV) (f : AV → List AV → Option β) : Option β := match l with | v :: vs => f v vs | _ => none
theorem l0_some {l : List AV} {f : Option β} {x : β} (h : l0 l f = some x) : l = [] ∧ f = some x := by
  unfold l0 at h; split at h
  · exact ⟨rfl, h⟩
  · cases h
theorem lc_some {l : List AV} {f : AV → List AV → Option β} {x : β} (h : lc l f = some x) : ∃ v vs, l = v :: vs ∧ f v vs = some x := by
  unfold lc at h; split at h
  · exact ⟨_, _, rfl, h⟩
  · cases h

inductive Shape where
  | int (k : IntKind)
  | bool
  | str
  | ptr
  | slice
  | map
  | any
  /-- so many cells, not looked into -/
  | row
  /-- cells of these shapes -/
  | cells (l : List Shape)

mutual
def shapeK : Shape → AV → (AV → Option β) → Option β
  | .int k, v, f => asInt k v fun n => f (.int k n)
  | .bool, v, f => asBool v fun b => f (.bool b)
  | .str, v, f => asStr v fun s => f (.str s)
  | .ptr, v, f => asPtr v fun p => f (.ptr p)
  | .slice, v, f => asSlice v fun p l c => f (.slice p l c)
  | .map, v, f => asMap v fun m => f (.map m)
  | .any, v, f => f v
  | .row, v, f => asAgg v fun l => f (.agg l)
  | .cells l, v, f => asAgg v fun vs => shapesK l vs fun us => f (.agg us)
def shapesK : List Shape → List AV → (List AV → Option β) → Option β
  | [], vs, f => l0 vs (f [])
  | s :: ss, vs, f => lc vs fun v vs => shapeK s v fun u => shapesK ss vs fun us => f (u :: us)
end

theorem asInt_some {k : IntKind} {v : AV} {f : Int → Option β} {x : β} (h : asInt k v f = some x) : ∃ n, v = .int k n ∧ f n = some x := by
  unfold asInt at h; split at h
  · split at h
    · rename_i e; subst e; exact ⟨_, rfl, h⟩
    · cases h
  · cases h
theorem asBool_some {v : AV} {f : Bool → Option β} {x : β} (h : asBool v f = some x) : ∃ b, v = .bool b ∧ f b = some x := by
  unfold asBool at h; split at h
  · exact ⟨_, rfl, h⟩
  · cases h
theorem asStr_some {v : AV} {f : ByteArray → Option β} {x : β} (h : asStr v f = some x) : ∃ b, v = .str b ∧ f b = some x := by
  unfold asStr at h; split at h
  · exact ⟨_, rfl, h⟩
  · cases h
theorem asPtr_some {v : AV} {f : Option (Nat × Nat) → Option β} {x : β} (h : asPtr v f = some x) : ∃ b, v = .ptr b ∧ f b = some x := by
  unfold asPtr at h; split at h
  · exact ⟨_, rfl, h⟩
  · cases h
theorem asSlice_some {v : AV} {f : Option (Nat × Nat) → Nat → Cap → Option β} {x : β} (h : asSlice v f = some x) : ∃ p l c, v = .slice p l c ∧ f p l c = some x := by
  unfold asSlice at h; split at h
  · exact ⟨_, _, _, rfl, h⟩
  · cases h
theorem asMap_some {v : AV} {f : Option Nat → Option β} {x : β} (h : asMap v f = some x) : ∃ b, v = .map b ∧ f b = some x := by
  unfold asMap at h; split at h
  · exact ⟨_, rfl, h⟩
  · cases h
theorem asAgg_some {v : AV} {f : List AV → Option β} {x : β} (h : asAgg v f = some x) : ∃ b, v = .agg b ∧ f b = some x := by
  unfold asAgg at h; split at h
  · exact ⟨_, rfl, h⟩
  · cases h

mutual
theorem shapeK_some : ∀ (s : Shape) {v : AV} {f : AV → Option β} {x : β}, shapeK s v f = some x → f v = some x
  | .int k, v, f, x, h => by simp only [shapeK] at h; obtain ⟨n, rfl, h2⟩ := asInt_some h; exact h2
  | .bool, v, f, x, h => by simp only [shapeK] at h; obtain ⟨n, rfl, h2⟩ := asBool_some h; exact h2
  | .str, v, f, x, h => by simp only [shapeK] at h; obtain ⟨n, rfl, h2⟩ := asStr_some h; exact h2
  | .ptr, v, f, x, h => by simp only [shapeK] at h; obtain ⟨n, rfl, h2⟩ := asPtr_some h; exact h2
  | .slice, v, f, x, h => by simp only [shapeK] at h; obtain ⟨_, _, _, rfl, h2⟩ := asSlice_some h; exact h2
  | .map, v, f, x, h => by simp only [shapeK] at h; obtain ⟨n, rfl, h2⟩ := asMap_some h; exact h2
  | .any, v, f, x, h => by simpa only [shapeK] using h
  | .row, v, f, x, h => by simp only [shapeK] at h; obtain ⟨n, rfl, h2⟩ := asAgg_some h; exact h2
  | .cells l, v, f, x, h => by simp only [shapeK] at h; obtain ⟨n, rfl, h2⟩ := asAgg_some h; exact shapesK_some l h2
theorem shapesK_some : ∀ (ss : List Shape) {vs : List AV} {f : List AV → Option β} {x : β}, shapesK ss vs f = some x → f vs = some x
  | [], vs, f, x, h => by
    simp only [shapesK] at h
    obtain ⟨rfl, h⟩ := l0_some h
    exact h
  | s :: ss, vs, f, x, h => by
    simp only [shapesK] at h
    obtain ⟨v, vs', rfl, h⟩ := lc_some h
    have h2 := shapeK_some s h; exact shapesK_some ss (f := fun us => f (_ :: us)) h2
end

/-- the shape of a cell's type -/
def cellShape (P : Program) (t : TypeId) : Shape :=
  match P.underlying t with
  | some (.int k) => .int k
  | some .bool => .bool
  | some .string => .str
  | some (.pointer _) => .ptr
  | some (.slice _) => .slice
  | some (.map _ _) => .map
  | _ => .any

/-- the cells of a struct, structs within it too -/
def flatShape (P : Program) : Nat → TypeId → Option (List Shape)
  | 0, _ => none
  | d + 1, t =>
    match P.underlying t with
    | some (.struct fs) => fs.toList.foldr (fun f acc => match flatShape P d f.type, acc with | some a, some b => some (a ++ b) | _, _ => none) (some [])
    | some (.array _ _) => none
    | _ => some [cellShape P t]

/-- a struct whose fields are cells, and not too many, is looked into; any other row is not -/
def rowShape (P : Program) (t : TypeId) : Shape :=
  match P.underlying t with
  | some (.struct _) => (match flatShape P 5 t with | some l => (match Nat.ble l.length 24 with | true => .cells l | false => .row) | none => .row)
  | some (.array _ _) => .row
  | _ => cellShape P t

/-! ### memory -/

def cellK (h : H) (i o : Nat) (f : AV → Option β) : Option β := match h.get i with | some (.cells cs _) => (match cs[o]? with | some v => f v | none => none) | _ => none
def aggK (h : H) (i o n : Nat) (f : List AV → Option β) : Option β := match h.get i with | some (.cells cs _) => if o + n ≤ cs.length then f ((cs.drop o).take n) else none | _ => none
def wrK (h : H) (i o n : Nat) (xs : List AV) (f : H → Option β) : Option β :=
  match h.get i with
  | some (.cells cs false) => if xs.length = n ∧ o + xs.length ≤ cs.length ∧ xs.all isCell = true then f (h.set i (.cells (spl cs o xs) false)) else none
  | _ => none

def loadK (P : Program) (t : TypeId) (p : AV) (h : H) (k : AV → Option β) : Option β :=
  match P.underlying t with
  | none => none
  | some d => asPtr p fun p => nnK p fun i o =>
    match aggB d with
    | false => cellK h i o fun v => shapeK (cellShape P t) v k
    | true => match P.info? t with | none => none | some inf => aggK h i o inf.size fun l => shapeK (rowShape P t) (.agg l) k

theorem loadK_some {P : Program} {t : TypeId} {p : AV} {h : H} {k : AV → Option β} {x : β} (e : loadK P t p h k = some x) : ∃ v, evLoad P t p h = some v ∧ k v = some x := by
  unfold loadK at e
  (try dsimp only at e); split at e
  · cases e
  · rename_i d hu
    obtain ⟨p, hx, e'⟩ := asPtr_some e
    clear e; subst hx; have e := e'; clear e'
    unfold nnK at e
    (try dsimp only at e); split at e
    · rename_i i o
      (try dsimp only at e); split at e
      · rename_i ha
        unfold cellK at e
        (try dsimp only at e); split at e
        · rename_i cs ro hg
          (try dsimp only at e); split at e
          · rename_i v hv
            exact ⟨v, by simp [evLoad, hu, hg, ha, hv], shapeK_some _ e⟩
          · cases e
        · cases e
      · rename_i ha
        (try dsimp only at e); split at e
        · cases e
        · rename_i inf hi
          unfold aggK at e
          (try dsimp only at e); split at e
          · rename_i cs ro hg
            (try dsimp only at e); split at e
            · rename_i hb
              refine ⟨_, ?_, shapeK_some _ e⟩
              have : P.cellsOf t = inf.size := by simp [Program.cellsOf, hi]
              simp [evLoad, hu, hg, ha, hi, this, hb]
            · cases e
          · cases e
    · cases e

def storeK (P : Program) (t : TypeId) (p x : AV) (h : H) (k : H → Option β) : Option β :=
  match P.info? t, acells x with
  | some inf, some xs => asPtr p fun p => nnK p fun i o => wrK h i o inf.size xs k
  | _, _ => none

theorem storeK_some {P : Program} {t : TypeId} {p y : AV} {h : H} {k : H → Option β} {x : β} (e : storeK P t p y h k = some x) : ∃ h', evStore P t p y h = some h' ∧ k h' = some x := by
  unfold storeK at e
  (try dsimp only at e); split at e
  · rename_i inf xs hi hxs
    obtain ⟨p, hx, e'⟩ := asPtr_some e
    clear e; subst hx; have e := e'; clear e'
    unfold nnK at e
    (try dsimp only at e); split at e
    · rename_i i o
      unfold wrK at e
      (try dsimp only at e); split at e
      · rename_i cs hg
        (try dsimp only at e); split at e
        · rename_i hb
          refine ⟨_, ?_, e⟩
          have : P.cellsOf t = inf.size := by simp [Program.cellsOf, hi]
          simp only [evStore, hxs, hg]
          rw [if_pos ⟨by rw [hi]; rfl, by rw [this]; exact hb.1, hb.2⟩]
        · cases e
      · cases e
    · cases e
  · cases e

/-! ### indexes, slices -/

def indexAddrK (P : Program) (t : TypeId) (x i : AV) (k : AV → Option β) : Option β :=
  match P.underlying t with
  | some (.array len e) =>
    (match P.info? e with
     | none => none
     | some inf => asPtr x fun p => nnK p fun b o => match i with | .int _ n => if 0 ≤ n ∧ n < len then k (.ptr (some (b, offK o n inf.size))) else none | _ => none)
  | some (.slice e) =>
    (match P.info? e with
     | none => none
     | some inf => asSlice x fun p len _ => match i with | .int _ n => if 0 ≤ n ∧ n < len then nnK p fun b o => k (.ptr (some (b, offK o n inf.size))) else none | _ => none)
  | _ => none

theorem offK_eq (o : Nat) (n : Int) (s : Nat) : offK o n s = o + n.toNat * s := by
  unfold offK
  split
  · rename_i h; have := Nat.eq_of_beq_eq_true h; subst this; simp
  · rfl

theorem indexAddrK_some {P : Program} {t : TypeId} {y i : AV} {k : AV → Option β} {x : β} (e : indexAddrK P t y i k = some x) : ∃ v, evIndexAddr P t y i = some v ∧ k v = some x := by
  unfold indexAddrK at e
  (try dsimp only at e); split at e
  · rename_i len el hu
    (try dsimp only at e); split at e
    · cases e
    · rename_i inf hi
      have hc : P.cellsOf el = inf.size := by simp [Program.cellsOf, hi]
      obtain ⟨p, hx, e'⟩ := asPtr_some e
      clear e; subst hx; have e := e'; clear e'
      unfold nnK at e
      (try dsimp only at e); split at e
      · (try dsimp only at e); split at e
        · (try dsimp only at e); split at e
          · rename_i hb
            refine ⟨_, ?_, e⟩
            simp only [evIndexAddr, hu, hi, hc, offK_eq]
            rw [if_pos ⟨hb.1, hb.2, rfl⟩]
          · cases e
        · cases e
      · cases e
  · rename_i el hu
    (try dsimp only at e); split at e
    · cases e
    · rename_i inf hi
      have hc : P.cellsOf el = inf.size := by simp [Program.cellsOf, hi]
      obtain ⟨p, len, c, hx, e'⟩ := asSlice_some e
      clear e; subst hx; have e := e'; clear e'
      (try dsimp only at e); split at e
      · (try dsimp only at e); split at e
        · rename_i hb
          unfold nnK at e
          (try dsimp only at e); split at e
          · refine ⟨_, ?_, e⟩
            simp only [evIndexAddr, hu, hi, hc, offK_eq]
            rw [if_pos ⟨hb.1, hb.2, rfl⟩]
          · cases e
        · cases e
      · cases e
  · cases e

def atK (l : List AV) (o : Nat) (f : AV → Option β) : Option β := match l[o]? with | some v => f v | none => none
def byteK (s : ByteArray) (n : Int) (f : Int → Option β) : Option β := if 0 ≤ n then (match s[n.toNat]? with | some b => f b.toNat | none => none) else none

def partK (P : Program) (t : TypeId) (cs : List AV) (off : Nat) (k : AV → Option β) : Option β :=
  match P.underlying t with
  | none => none
  | some d =>
    match aggB d with
    | true => (match P.info? t with | none => none | some inf => shapeK (rowShape P t) (.agg ((cs.drop off).take inf.size)) k)
    | false => atK cs off fun v => shapeK (cellShape P t) v k

theorem partK_some {P : Program} {t : TypeId} {cs : List AV} {off : Nat} {k : AV → Option β} {x : β} (e : partK P t cs off k = some x) : ∃ v, evPart P t cs off = some v ∧ k v = some x := by
  unfold partK at e
  (try dsimp only at e); split at e
  · cases e
  · rename_i d hu
    (try dsimp only at e); split at e
    · rename_i ha
      (try dsimp only at e); split at e
      · cases e
      · rename_i inf hi
        have hc : P.cellsOf t = inf.size := by simp [Program.cellsOf, hi]
        exact ⟨_, by simp [evPart, hu, ha, hi, hc], shapeK_some _ e⟩
    · rename_i ha
      unfold atK at e
      (try dsimp only at e); split at e
      · rename_i v hv
        exact ⟨v, by simp [evPart, hu, ha, hv], shapeK_some _ e⟩
      · cases e

def indexK (P : Program) (t : TypeId) (x i : AV) (k : AV → Option β) : Option β :=
  match P.underlying t with
  | some (.array len e) =>
    (match P.info? e with
     | none => none
     | some inf => asAgg x fun cs => match i with | .int _ n => if 0 ≤ n ∧ n < len then partK P e cs (offK 0 n inf.size) k else none | _ => none)
  | some .string => asStr x fun s => match i with | .int _ n => byteK s n fun c => k (.int .u8 c) | _ => none
  | _ => none

theorem indexK_some {P : Program} {t : TypeId} {y i : AV} {k : AV → Option β} {x : β} (e : indexK P t y i k = some x) : ∃ v, evIndex P t y i = some v ∧ k v = some x := by
  unfold indexK at e
  (try dsimp only at e); split at e
  · rename_i len el hu
    (try dsimp only at e); split at e
    · cases e
    · rename_i inf hi
      have hc : P.cellsOf el = inf.size := by simp [Program.cellsOf, hi]
      obtain ⟨cs, hx, e'⟩ := asAgg_some e
      clear e; subst hx; have e := e'; clear e'
      (try dsimp only at e); split at e
      · (try dsimp only at e); split at e
        · rename_i hb
          obtain ⟨v, hv, hk⟩ := partK_some e
          refine ⟨v, ?_, hk⟩
          rw [offK_eq, Nat.zero_add] at hv
          simp only [evIndex, hu, hi, hc]
          rw [if_pos hb]; simpa using hv
        · cases e
      · cases e
  · rename_i hu
    obtain ⟨s, hx, e'⟩ := asStr_some e
    clear e; subst hx; have e := e'; clear e'
    (try dsimp only at e); split at e
    · unfold byteK at e
      (try dsimp only at e); split at e
      · rename_i hb
        (try dsimp only at e); split at e
        · rename_i b hs
          refine ⟨_, ?_, e⟩
          simp only [evIndex, hu]
          rw [if_pos hb, hs]; rfl
        · cases e
      · cases e
    · cases e
  · cases e

def slK (size : Nat) (p : Option (Nat × Nat)) (len : Nat) (c : Cap) (lo hi mx : Option AV) (f : Option (Nat × Nat) → Nat → Cap → Option β) : Option β :=
  match evSliceS size (.slice p len c) lo hi mx with
  | some (.slice p' l' c') => f p' l' c'
  | _ => none

def bndK (n h m : Nat) (lo hi mx : Option AV) (f : Nat → Nat → Nat → Option β) : Option β := match evBounds n h lo hi mx with | some (l, hh, mm) => f l hh mm | none => none

def sliceK (P : Program) (t : TypeId) (x : AV) (lo hi mx : Option AV) (k : AV → Option β) : Option β :=
  match P.underlying t with
  | some (.array n e) =>
    (match P.info? e with
     | none => none
     | some inf => asPtr x fun p => nnK p fun b o => bndK n n 0 lo hi mx fun l h m => k (.slice (some (b, if m = l then o else o + l * inf.size)) (h - l) (.known (m - l))))
  | some .string => (match mx with | some _ => none | none => asStr x fun s => bndK s.size s.size 0 lo hi none fun l h _ => k (.str (s.extract l h)))
  | some (.slice e) => (match P.info? e with | none => none | some inf => asSlice x fun p len c => slK inf.size p len c lo hi mx fun p l c => k (.slice p l c))
  | _ => none

theorem sliceK_some {P : Program} {t : TypeId} {y : AV} {lo hi mx : Option AV} {k : AV → Option β} {x : β} (e : sliceK P t y lo hi mx k = some x) : ∃ v, evSlice P t y lo hi mx = some v ∧ k v = some x := by
  unfold sliceK at e
  (try dsimp only at e); split at e
  · rename_i n el hu
    (try dsimp only at e); split at e
    · cases e
    · rename_i inf hi'
      have hc : P.cellsOf el = inf.size := by simp [Program.cellsOf, hi']
      obtain ⟨p, hx, e'⟩ := asPtr_some e
      clear e; subst hx; have e := e'; clear e'
      unfold nnK at e
      (try dsimp only at e); split at e
      · unfold bndK at e
        (try dsimp only at e); split at e
        · rename_i l hh mm hb
          refine ⟨_, ?_, e⟩
          simp [evSlice, hu, hi', hc, hb]
        · cases e
      · cases e
  · rename_i hu
    (try dsimp only at e); split at e
    · cases e
    · obtain ⟨s, hx, e'⟩ := asStr_some e
      clear e; subst hx; have e := e'; clear e'
      unfold bndK at e
      (try dsimp only at e); split at e
      · rename_i l hh mm hb
        refine ⟨_, ?_, e⟩
        simp [evSlice, hu, hb]
      · cases e
  · rename_i el hu
    (try dsimp only at e); split at e
    · cases e
    · rename_i inf hi'
      have hc : P.cellsOf el = inf.size := by simp [Program.cellsOf, hi']
      obtain ⟨p, len, c, hx, e'⟩ := asSlice_some e
      clear e; subst hx; have e := e'; clear e'
      unfold slK at e
      (try dsimp only at e); split at e
      · rename_i hs
        refine ⟨_, ?_, e⟩
        simp [evSlice, hu, hi', hc, hs]
      · cases e
  · cases e

/-! ### append, copy, texts -/

def appK (size bytes : Nat) (p : Option (Nat × Nat)) (len : Nat) (c : Cap) (src : Option (Nat × List AV)) (h : H) (f : Option (Nat × Nat) → Nat → Cap → H → Option β) : Option β :=
  match src with
  | none => none
  | some q => match evApp size bytes q.1 q.2 (.slice p len c) h with | some (.slice p' l' c', h') => f p' l' c' h' | _ => none

def appendK (P : Program) (ts : List TypeId) (xs : List AV) (h : H) (k : AV → H → Option β) : Option β :=
  match ts, xs with
  | [t1, t2], [s, x] =>
    match P.underlying t1, P.underlying t2 with
    | some (.slice e), some d2 =>
      (match isIntD d2 with
       | true => none
       | false => match P.info? e, evZero P e with
         | some inf, some zs => (match Nat.beq zs.length inf.size && Nat.blt 0 inf.size with
           | true => asSlice s fun p len c => appK inf.size inf.bytes p len c (evSrc inf.size x h) h fun p l c h' => k (.slice p l c) h'
           | false => none)
         | _, _ => none)
    | _, _ => none
  | _, _ => none

theorem appendK_some {P : Program} {ts : List TypeId} {xs : List AV} {h : H} {k : AV → H → Option β} {x : β} (e : appendK P ts xs h k = some x) : ∃ v h', evAppend P ts xs h = some (v, h') ∧ k v h' = some x := by
  unfold appendK at e
  (try dsimp only at e); split at e
  · (try dsimp only at e); split at e
    · rename_i el d2 hu1 hu2
      (try dsimp only at e); split at e
      · cases e
      · rename_i hd
        (try dsimp only at e); split at e
        · rename_i inf zs hi hz
          (try dsimp only at e); split at e
          · rename_i hb
            simp only [Bool.and_eq_true] at hb
            obtain ⟨hb1, hb2⟩ := hb
            have hb1 := Nat.eq_of_beq_eq_true hb1
            have hb2 : 0 < inf.size := by simpa [Nat.blt_eq] using hb2
            obtain ⟨p, len, c, hx, e'⟩ := asSlice_some e
            clear e; subst hx; have e := e'; clear e'
            unfold appK at e
            (try dsimp only at e); split at e
            · cases e
            · rename_i q hq
              (try dsimp only at e); split at e
              · rename_i hap
                refine ⟨_, _, ?_, e⟩
                simp [evAppend, hu1, hu2, hd, hi, hz, hq, hb1, hb2, hap]
              · cases e
          · cases e
        · cases e
    · cases e
  · cases e

def cpyK (size : Nat) (P : Program) (ts : List TypeId) (xs : List AV) (h : H) (f : Int → H → Option β) : Option β :=
  match evCopy P ts xs h with
  | some (.int .i64 n, h') => f n h'
  | _ => none

def catK (a b : ByteArray) (f : ByteArray → Option β) : Option β := if ((a.size + b.size : Nat) : Int) > 9223372036854775807 then none else f (a ++ b)
def bsK (h : H) (x : AV) (f : ByteArray → Option β) : Option β := match evBytesStr h x with | some (.str s) => f s | _ => none

def nextK (h : H) (i : Nat) (f : Int → Int → H → Option β) (g : Option β) : Option β :=
  match h.get i with
  | some (.siter s pos) => if pos < s.size then f pos (Utf8.decode s pos).1 (h.set i (.siter s (pos + (Utf8.decode s pos).2))) else g
  | _ => none

/-! ### arithmetic -/

def binK (op : BinOp) (x y : AV) (k : AV → Option β) : Option β :=
  match x, y with
  | .int kd a, .int kd' b =>
    match op with
    | .shl => if b < 0 then none else k (.int kd (kd.wrap (a * 2 ^ min b.toNat kd.bits)))
    | .shr => if b < 0 then none else k (.int kd (a.fdiv (2 ^ min b.toNat kd.bits)))
    | .quo => if kd = kd' then (if b = 0 then none else k (.int kd (kd.wrap (a.tdiv b)))) else none
    | .rem => if kd = kd' then (if b = 0 then none else k (.int kd (a.tmod b))) else none
    | op => if kd = kd' then (match evInt op kd a b with | some v => k v | none => none) else none
  | .str a, .str b => match op with | .add => catK a b fun s => k (.str s) | op => match evStr op a b with | some v => k v | none => none
  | _, _ => none

theorem binK_some {op : BinOp} {y z : AV} {k : AV → Option β} {x : β} (e : binK op y z k = some x) : ∃ v, evBin op y z = some v ∧ k v = some x := by
  unfold binK at e
  (try dsimp only at e); split at e
  · (try dsimp only at e); split at e
    · (try dsimp only at e); split at e
      · cases e
      · rename_i hb; exact ⟨_, by simp [evBin, hb], e⟩
    · (try dsimp only at e); split at e
      · cases e
      · rename_i hb; exact ⟨_, by simp [evBin, hb], e⟩
    · (try dsimp only at e); split at e
      · rename_i hk
        (try dsimp only at e); split at e
        · cases e
        · rename_i hb; exact ⟨_, by simp [evBin, hk, evInt, hb], e⟩
      · cases e
    · (try dsimp only at e); split at e
      · rename_i hk
        (try dsimp only at e); split at e
        · cases e
        · rename_i hb; exact ⟨_, by simp [evBin, hk, evInt, hb], e⟩
      · cases e
    · rename_i h1 h2 h3 h4
      (try dsimp only at e); split at e
      · rename_i hk
        (try dsimp only at e); split at e
        · rename_i v hv
          refine ⟨v, ?_, e⟩
          unfold evBin
          cases op <;> first | exact absurd rfl h1 | exact absurd rfl h2 | (simp only [hk, if_true]; rw [← hk]; exact hv)
        · cases e
      · cases e
  · (try dsimp only at e); split at e
    · unfold catK at e
      (try dsimp only at e); split at e
      · cases e
      · rename_i hb; exact ⟨_, by simp only [evBin, evStr]; rw [if_neg hb], e⟩
    · (try dsimp only at e); split at e
      · rename_i v hv; exact ⟨v, hv, e⟩
      · cases e
  · cases e

/-! ### equality, as one truth value -/

def eqFieldsB (P : Program) (eq : TypeId → AV → AV → Option Bool) (xs ys : List AV) : List Field → Option Bool
  | [] => some true
  | f :: fs =>
    match f.name == "_" with
    | true => eqFieldsB P eq xs ys fs
    | false =>
      match evPart P f.type xs f.offset, evPart P f.type ys f.offset with
      | some a, some b => (match eq f.type a b, eqFieldsB P eq xs ys fs with | some r, some q => some (r && q) | _, _ => none)
      | _, _ => none

def eqItemsB (P : Program) (eq : TypeId → AV → AV → Option Bool) (e : TypeId) (c : Nat) (xs ys : List AV) : List Nat → Option Bool
  | [] => some true
  | i :: is =>
    match evPart P e xs (i * c), evPart P e ys (i * c) with
    | some a, some b => (match eq e a b, eqItemsB P eq e c xs ys is with | some r, some q => some (r && q) | _, _ => none)
    | _, _ => none

theorem eqFieldsB_some {P : Program} {eq eq' : TypeId → AV → AV → Option Bool} (he : ∀ t x y b, eq t x y = some b → eq' t x y = some b) {xs ys : List AV} : ∀ {fs : List Field} {b : Bool}, eqFieldsB P eq xs ys fs = some b → evFields P eq' xs ys fs = some b
  | [], b, h => h
  | f :: fs, b, h => by
    simp only [eqFieldsB] at h
    simp only [evFields]
    split at h
    · rename_i hn
      rw [if_neg (by simpa using hn)]
      exact eqFieldsB_some he h
    · rename_i hn
      rw [if_pos (by simpa using hn)]
      split at h
      · rename_i a c ha hc
        split at h
        · rename_i r q hr hq
          cases h
          simp only [ha, hc, he _ _ _ _ hr, Option.bind_some]
          cases r
          · simp
          · simp; exact eqFieldsB_some he hq
        · cases h
      · cases h

theorem eqItemsB_some {P : Program} {eq eq' : TypeId → AV → AV → Option Bool} (he : ∀ t x y b, eq t x y = some b → eq' t x y = some b) {e : TypeId} {c : Nat} {xs ys : List AV} : ∀ {is : List Nat} {b : Bool}, eqItemsB P eq e c xs ys is = some b → evItems P eq' e c xs ys is = some b
  | [], b, h => h
  | i :: is, b, h => by
    simp only [eqItemsB] at h
    simp only [evItems]
    split at h
    · rename_i a c' ha hc
      split at h
      · rename_i r q hr hq
        cases h
        simp only [ha, hc, he _ _ _ _ hr, Option.bind_some]
        cases r
        · simp
        · simp; exact eqItemsB_some he hq
      · cases h
    · cases h

def evEqB (P : Program) : Nat → TypeId → AV → AV → Option Bool
  | 0 => fun _ _ _ => none
  | d + 1 => fun t x y =>
    match P.underlying t with
    | some (.struct fs) => match x, y with | .agg xs, .agg ys => (match P.stoodInHeld t with | true => none | false => eqFieldsB P (evEqB P d) xs ys fs.toList) | _, _ => none
    | some (.array n e) => match x, y with | .agg xs, .agg ys => (match P.info? e with | some inf => eqItemsB P (evEqB P d) e inf.size xs ys (List.range n) | none => none) | _, _ => none
    | _ => evEq P 1 t x y

theorem evEq_one {P : Program} {t : TypeId} {x y : AV} {b : Bool} (hs : ∀ fs, P.underlying t ≠ some (.struct fs)) (ha : ∀ n e, P.underlying t ≠ some (.array n e)) (h : evEq P 1 t x y = some b) (d : Nat) : evEq P (d + 1) t x y = some b := by
  simp only [evEq] at h ⊢
  split at h <;> first
    | exact h
    | (rename_i hu; exact absurd hu (hs _))
    | (rename_i hu; exact absurd hu (ha _ _))
    | cases h

theorem evEqB_some {P : Program} : ∀ (d : Nat) (t : TypeId) (x y : AV) (b : Bool), evEqB P d t x y = some b → evEq P d t x y = some b
  | 0, t, x, y, b, h => by simp [evEqB] at h
  | d + 1, t, x, y, b, h => by
    simp only [evEqB] at h
    split at h
    · rename_i fs hu
      split at h
      · split at h
        · cases h
        · rename_i hp
          simp only [evEq, hu, hp]
          exact eqFieldsB_some (evEqB_some d) h
      · cases h
    · rename_i n e hu
      split at h
      · split at h
        · rename_i inf hi
          have hc : P.cellsOf e = inf.size := by simp [Program.cellsOf, hi]
          simp only [evEq, hu, hi, hc]
          exact eqItemsB_some (evEqB_some d) h
        · cases h
      · cases h
    · rename_i hs ha
      exact evEq_one hs ha h d

def eqK (P : Program) (op : BinOp) (t : TypeId) (x y : AV) (k : AV → Option β) : Option β :=
  match P.eqGuardType P.depth t with
  | true => none
  | false =>
    match op with
    | .eql => (match evEqB P Op.maxDepth t x y with | some b => k (.bool b) | none => none)
    | .neq => (match evEqB P Op.maxDepth t x y with | some b => k (.bool (!b)) | none => none)
    | _ => none

theorem eqK_some {P : Program} {op : BinOp} {t : TypeId} {y z : AV} {k : AV → Option β} {x : β} (e : eqK P op t y z k = some x) : ∃ v, evEqOp P op t y z = some v ∧ k v = some x := by
  unfold eqK at e
  (try dsimp only at e); split at e
  · cases e
  · rename_i hg
    (try dsimp only at e); split at e
    · (try dsimp only at e); split at e
      · rename_i b hb; exact ⟨_, by simp [evEqOp, hg, evEqB_some _ _ _ _ _ hb], e⟩
      · cases e
    · (try dsimp only at e); split at e
      · rename_i b hb; exact ⟨_, by simp [evEqOp, hg, evEqB_some _ _ _ _ _ hb], e⟩
      · cases e
    · cases e

end

end Go.Ev
