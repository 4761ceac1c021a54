/- The abstract machine Ev, part H: one operation of any kind, calls among them. -/
import Derived.Test.YtkikfnpanlcajaaDoorEvG
set_option linter.all false
namespace Go.Ev

def evCopy (P : Program) (ts : List TypeId) (xs : List AV) (h : H) : Option (AV × H) :=
  match ts[0]?, xs with
  | some t1, [d, x] =>
    match P.underlying t1 with
    | some (.slice e) =>
      (P.info? e).bind fun inf => (evSrc inf.size x h).bind fun q =>
      match d with
      | .slice none 0 (.known 0) => some (.int .i64 0, h)
      | .slice (some (i, o)) len _ =>
        if Nat.min q.1 len = 0 then some (.int .i64 0, h) else
        match h.get i with
        | some (.cells old false) =>
          if o + (q.2.take (Nat.min q.1 len * inf.size)).length ≤ old.length ∧ (q.2.take (Nat.min q.1 len * inf.size)).all isCell = true then
            some (.int .i64 (Nat.min q.1 len : Nat), h.set i (.cells (spl old o (q.2.take (Nat.min q.1 len * inf.size))) false))
          else none
        | _ => none
      | _ => none
    | _ => none
  | _, _ => none

theorem evCopy_sim {P : Program} {r : Ren} {h h' : H} {w : World} (hrel : Rel r h w) {ts : Array TypeId} {ty : TypeId} {xs : List AV} {xs' : Array Value} {v : AV}
    (hs : evCopy P ts.toList xs h = some (v, h')) (hx : VRL r xs xs'.toList) :
    ∃ v' w', (Builtin.copy_ ts ty xs').run P w = .ok v' w' ∧ VR r v v' ∧ Post r h w r h' w' := by
  unfold evCopy at hs
  split at hs
  · rename_i t1 d x ht1
    obtain ⟨d', ys, hxs, hvd, hx⟩ := hx.inv_cons
    obtain ⟨x', ys', rfl, hvx, hx⟩ := hx.inv_cons
    obtain rfl : ys' = [] := List.eq_nil_of_length_eq_zero hx.1.symm
    obtain rfl : xs' = #[d', x'] := Array.ext' hxs
    have h1 : ts[0]? = some t1 := by rw [← Array.getElem?_toList]; exact ht1
    split at hs
    · rename_i e hu1
      obtain ⟨inf, hinf, hs⟩ := Option.bind_eq_some_iff.1 hs
      obtain ⟨⟨n, news⟩, hsrc, hs⟩ := Option.bind_eq_some_iff.1 hs
      obtain ⟨nv, hnv, hnl, hnrun⟩ := evSrc_sim (P := P) hrel hsrc hvx
      have hsz : P.cellsOf e = inf.size := by simp [Program.cellsOf, hinf]
      have run0 : ∀ base len c w', (base = none → w' = w) → (∀ a, base = some a → (storeCells a (nv.take (Nat.min n len * inf.size))).run P w = .ok () w') →
          (Builtin.copy_ ts ty #[.slice base len c, x']).run P w = .ok (goInt (Nat.min n len)) w' := by
        intro base len c w' hnone hst
        have hf := (hnrun w rfl).2 (Nat.min n len) (Nat.min_le_left _ _)
        simp only [Builtin.copy_, h1, List.getElem?_toArray, List.getElem?_cons_zero, List.getElem?_cons_succ, Sem.run_bind, run_underlying hu1, Result.andThen_ok, (hnrun w rfl).1, run_sizeOf w hinf, hsz, hf]
        cases base with
        | none => simp [hnone rfl]
        | some a => simp [hst a rfl]
      simp only at hs
      split at hs
      · cases hs
        cases hvd
        refine ⟨_, w, run0 _ _ _ w (fun _ => rfl) (fun a ha => by cases ha), ?_, Post.refl hrel⟩
        have : Nat.min n 0 = 0 := Nat.min_eq_right (Nat.zero_le _)
        rw [this]; exact .int _ _
      · rename_i i o len c _ _
        split at hs
        · rename_i h0
          cases hs
          have key : ∀ a c', ∃ v' w', (Builtin.copy_ ts ty #[.slice (some a) len c', x']).run P w = .ok v' w' ∧ VR r (.int .i64 0) v' ∧ Post r h w r h w' := by
            intro a c'
            refine ⟨_, w, run0 _ _ _ w (fun h => by cases h) (fun a' ha => by rw [h0]; simp [storeCells]), ?_, Post.refl hrel⟩
            rw [h0]; exact .int _ _
          cases hvd <;> exact key _ _
        · rename_i h0
          split at hs
          · rename_i old hg
            split at hs
            · rename_i hb
              cases hs
              have key : ∀ (t : Tgt) c', r i = some t → ∃ v' w', (Builtin.copy_ ts ty #[.slice (some ⟨t.blk, t.base + o, none⟩) len c', x']).run P w = .ok v' w' ∧ VR r (.int .i64 (Nat.min n len : Nat)) v' ∧
                  Post r h w r (h.set i (.cells (spl old o (news.take (Nat.min n len * inf.size))) false)) w' := by
                intro t c' ht
                obtain ⟨w', hw', hpost⟩ := write_row (P := P) hrel ht hg (hnv.take (Nat.min n len * inf.size)) hb.2 (o := o) hb.1
                refine ⟨_, w', run0 _ _ _ w' (fun h => by cases h) (fun a' ha => by cases ha; exact hw'), .int _ _, hpost⟩
              cases hvd with
              | slice _ _ ht => exact key _ _ ht
              | sliceRest _ _ _ ht _ _ => exact key _ _ ht
              | sliceBare _ => exact absurd (Nat.min_eq_right (Nat.zero_le _)) h0
              | sliceEnd _ _ _ => exact absurd (Nat.min_eq_right (Nat.zero_le _)) h0
            · cases hs
          · cases hs
      · cases hs
    · cases hs
  · cases hs

def evNext (it : AV) (h : H) : Option (AV × H) :=
  match it with
  | .ptr (some (i, 0)) =>
    match h.get i with
    | some (.siter s pos) =>
      if pos < s.size then some (.tup [.bool true, .int .i64 pos, .int .i32 (Utf8.decode s pos).1], h.set i (.siter s (pos + (Utf8.decode s pos).2)))
      else some (.tup [.bool false], h)
    | _ => none
  | _ => none

theorem VR_tup {r : Ren} {as : List AV} {vs : List Value} (h : VRL r as vs) : VR r (.tup as) (.tuple vs.toArray) :=
  .tup _ _ (by simpa using h.1) fun i a v ha hv => h.2 i a v ha (by simpa using hv)

theorem evNext_sim {P : Program} {r : Ren} {h h' : H} {w : World} (hrel : Rel r h w) {it v : AV} {it' : Value} {ty : TypeId} (hs : evNext it h = some (v, h')) (hx : VR r it it') :
    ∃ v' w', (Instr.next it' true ty).run P w = .ok v' w' ∧ VR r v v' ∧ Post r h w r h' w' := by
  unfold evNext at hs
  split at hs
  · rename_i i
    split at hs
    · rename_i s pos hg
      cases hx with
      | ptr ht =>
      rename_i t
      obtain ⟨hb, h0⟩ := hrel.obj _ _ _ ht hg
      have hget : (getObj t.blk).run P w = .ok (.stringIter s pos) w := by simp [getObj, Sem.run, hb]
      simp only [h0, Nat.add_zero]
      split at hs
      · rename_i hp
        cases hs
        refine ⟨_, { w with heap := w.heap.setIfInBounds t.blk (.stringIter s (pos + (Utf8.decode s pos).2)) }, ?_, VR_tup (vs := [.bool true, goInt pos, .int .i32 (Utf8.decode s pos).1]) (.cons (.bool _) (.cons (.int _ _) (.cons (.int _ _) .nil))), ?_⟩
        · simp only [Instr.next, Sem.run_bind, hget, Result.andThen_ok, hp, if_true, setObj, Sem.run, hb]
          rfl
        · have hlt := World.block_lt hb
          refine Post.of_set hrel ht hg rfl rfl (by simp) ⟨rfl, rfl, rfl, fun _ => Nat.le_refl _⟩ (fun b hbb => by simp [Array.getElem?_setIfInBounds_ne (Ne.symm hbb)]) ⟨by simp [hlt], h0⟩
      · rename_i hp
        cases hs
        refine ⟨_, w, ?_, VR_tup (vs := [.bool false]) (.cons (.bool _) .nil), Post.refl hrel⟩
        simp only [Instr.next, Sem.run_bind, hget, Result.andThen_ok, hp, if_false]
        rfl
    · cases hs
  · cases hs

def evPutM (P : Program) (t : TypeId) (m k v : AV) (h : H) : Option H :=
  match P.underlying t, m with
  | some (.map kt _), .map m => (match P.underlying kt with | some kd => if keyKind kd k = true then evMapPut m k v h else none | none => none)
  | _, _ => none

theorem evPutM_sim {P : Program} {r : Ren} {h h' : H} {w : World} (hrel : Rel r h w) {t : TypeId} {m k v : AV} {m' k' v' : Value} (hs : evPutM P t m k v h = some h') (hm : VR r m m') (hk : VR r k k') (hv : VR r v v') :
    ∃ w', (Instr.mapUpdate t m' k' v').run P w = .ok () w' ∧ Post r h w r h' w' := by
  unfold evPutM at hs
  split at hs
  · rename_i kt e mm hu
    split at hs
    · rename_i kd hkd
      split at hs
      · rename_i hkk
        exact evMapPut_sim hrel hu hkd hkk hs hm hk hv
      · cases hs
    · cases hs
  · cases hs

def evDelM (P : Program) (ts : List TypeId) (xs : List AV) (h : H) : Option (AV × H) :=
  match ts, xs with
  | [t, _], [.map m, k] => (match P.underlying t with | some (.map kt _) => (match P.underlying kt with | some kd => if keyKind kd k = true then (evMapDel m k h).map fun h' => (.tup [], h') else none | none => none) | _ => none)
  | _, _ => none

def evClearM (P : Program) (ts : List TypeId) (xs : List AV) (h : H) : Option (AV × H) :=
  match ts, xs with
  | [t], [.map m] => (match P.underlying t with | some (.map _ _) => (evMapClear m h).map fun h' => (.tup [], h') | _ => none)
  | _, _ => none

def evFull (P : Program) (ρ : Operand → AV) (op : Op) (h : H) : Option (AV × H) :=
  match op with
  | .store t a x => (evStore P t (ρ a) (ρ x) h).map fun h' => (.junk, h')
  | .next it true => evNext (ρ it) h
  | .mapUpdate t m k x => (evPutM P t (ρ m) (ρ k) (ρ x) h).map fun h' => (.junk, h')
  | .insert t m k x => (evPutM P t (ρ m) (ρ k) (ρ x) h).map fun h' => (.junk, h')
  | .call c =>
    match c.callee with
    | .builtin .append => evAppend P c.argTypes.toList (c.args.toList.map ρ) h
    | .builtin .copy => evCopy P c.argTypes.toList (c.args.toList.map ρ) h
    | .builtin .delete => evDelM P c.argTypes.toList (c.args.toList.map ρ) h
    | .builtin .clear => evClearM P c.argTypes.toList (c.args.toList.map ρ) h
    | _ => none
  | _ => none

theorem evFull_sim {P : Program} {r : Ren} {h h' : H} {w : World} (hrel : Rel r h w) (hfree : ∀ i, h.next ≤ i → i < h'.next → r i = none) {ρ : Operand → AV} {ρ' : Operand → Value} (hρ : ∀ x, VR r (ρ x) (ρ' x)) (o : Oper) {v : AV}
    (hs : evFull P ρ o.op h = some (v, h')) :
    ∃ r' v' w' n, (execOp ρ' o).run P w = .ok n w' ∧ (n = .value v' ∨ (n = .skip ∧ v' = undef)) ∧ VR r' v v' ∧ Post r h w r' h' w' := by
  unfold evFull at hs
  cases hop : o.op <;> simp only [hop] at hs <;> try (cases hs; done)
  case store t a x =>
    obtain ⟨h'', hst, hs⟩ := Option.map_eq_some_iff.1 hs
    cases hs
    obtain ⟨w', hr, hp⟩ := evStore_sim (P := P) hrel hst (hρ a) (hρ x)
    exact ⟨r, undef, w', .skip, by simp [execOp, hop, hr], .inr ⟨rfl, rfl⟩, .junk _, hp⟩
  case mapUpdate t m k x =>
    obtain ⟨h'', hst, hs⟩ := Option.map_eq_some_iff.1 hs
    cases hs
    obtain ⟨w', hr, hp⟩ := evPutM_sim (P := P) hrel hst (hρ m) (hρ k) (hρ x)
    exact ⟨r, undef, w', .skip, by simp [execOp, hop, hr], .inr ⟨rfl, rfl⟩, .junk _, hp⟩
  case insert t m k x =>
    obtain ⟨h'', hst, hs⟩ := Option.map_eq_some_iff.1 hs
    cases hs
    obtain ⟨w', hr, hp⟩ := evPutM_sim (P := P) hrel hst (hρ m) (hρ k) (hρ x)
    exact ⟨r, undef, w', .skip, by simp [execOp, hop, hr], .inr ⟨rfl, rfl⟩, .junk _, hp⟩
  case next it b =>
    cases b <;> simp only at hs
    · cases hs
    · obtain ⟨v', w', hr, hv, hp⟩ := evNext_sim (P := P) (ty := o.type) hrel hs (hρ it)
      exact ⟨r, v', w', .value v', by simp [execOp, hop, hr], .inl rfl, hv, hp⟩
  case call c =>
    have hargs := VRL_ops hρ c.args
    split at hs
    · rename_i hb
      obtain ⟨r', v', w', hr, hv, hp⟩ := evAppend_sim (P := P) (ty := o.type) hrel hfree hs hargs
      exact ⟨r', v', w', .value v', by simp [execOp, hop, resolve, hb, invoke, builtin, hr], .inl rfl, hv, hp⟩
    · rename_i hb
      obtain ⟨v', w', hr, hv, hp⟩ := evCopy_sim (P := P) (ty := o.type) hrel hs hargs
      exact ⟨r, v', w', .value v', by simp [execOp, hop, resolve, hb, invoke, builtin, hr], .inl rfl, hv, hp⟩
    · rename_i hb
      unfold evDelM at hs
      split at hs
      · rename_i t t2 m k hts hxs
        split at hs
        · rename_i kt e hu
          split at hs
          · rename_i kd hkd
            split at hs
            · rename_i hkk
              obtain ⟨h2, hd, hs⟩ := Option.map_eq_some_iff.1 hs
              cases hs
              rw [hxs] at hargs
              obtain ⟨m', vs', hcs, hm, hr⟩ := hargs.inv_cons
              obtain ⟨k', vs'', hcs2, hk, hr2⟩ := hr.inv_cons
              have hvs : vs'' = [] := List.eq_nil_of_length_eq_zero hr2.1.symm
              subst hvs
              subst hcs2
              have e1 : c.argTypes = #[t, t2] := by rw [← Array.toList_inj]; simpa using hts
              have e2 : c.args.map ρ' = #[m', k'] := by rw [← Array.toList_inj]; simpa using hcs
              obtain ⟨w', hrun, hp⟩ := evMapDel_sim (P := P) (ty := o.type) (t2 := t2) hrel hu hkd hkk hd hm hk
              exact ⟨r, .tuple #[], w', .value (.tuple #[]), by simp [execOp, hop, resolve, hb, invoke, builtin, e1, e2, hrun], .inl rfl, VR_tup (vs := []) .nil, hp⟩
            · cases hs
          · cases hs
        · cases hs
      · cases hs
    · rename_i hb
      unfold evClearM at hs
      split at hs
      · rename_i t m hts hxs
        split at hs
        · rename_i kt e hu
          obtain ⟨h2, hd, hs⟩ := Option.map_eq_some_iff.1 hs
          cases hs
          rw [hxs] at hargs
          obtain ⟨m', vs', hcs, hm, hr⟩ := hargs.inv_cons
          have hvs : vs' = [] := List.eq_nil_of_length_eq_zero hr.1.symm
          subst hvs
          have e1 : c.argTypes = #[t] := by rw [← Array.toList_inj]; simpa using hts
          have e2 : c.args.map ρ' = #[m'] := by rw [← Array.toList_inj]; simpa using hcs
          obtain ⟨w', hrun, hp⟩ := evMapClear_sim (P := P) (ty := o.type) hrel hu hd hm
          exact ⟨r, .tuple #[], w', .value (.tuple #[]), by simp [execOp, hop, resolve, hb, invoke, builtin, e1, e2, hrun], .inl rfl, VR_tup (vs := []) .nil, hp⟩
        · cases hs
      · cases hs
    · cases hs

/-! ### calls -/

abbrev CallFn := FuncId → List AV → H → Option (AV × H)

structure ACall (P : Program) (f : FuncId) (args : List AV) (h : H) (v : AV) (h' : H) : Prop where
  there : ∃ fn, P.funcs[f]? = some fn ∧ fn.body.isNone = false ∧ (fn.name == "runtime.NumGoroutine") = false
  next : h.next ≤ h'.next
  wf : (∀ i o, h.get i = some o → i < h.next) → ∀ i o, h'.get i = some o → i < h'.next
  sim : ∀ (r : Ren) (w : World) (args' : Array Value), Rel r h w → (∀ i, h.next ≤ i → i < h'.next → r i = none) → VRL r args args'.toList →
    Calls P f args' w fun e w' => ∃ r' v', e = .returned v' ∧ VR r' v v' ∧ Post r h w r' h' w'

/-- a function without a body, which the model has a stand-in for -/
structure XCall (P : Program) (f : FuncId) (args : List AV) (h : H) (v : AV) (h' : H) : Prop where
  there : ∃ fn e, P.funcs[f]? = some fn ∧ fn.body.isNone = true ∧ (fn.name == "runtime.NumGoroutine") = false ∧ (Extern.findNext fn).isNone = true ∧ Extern.find fn = some e ∧
    ∀ (r : Ren) (w : World) (args' : Array Value), Rel r h w → (∀ i, h.next ≤ i → i < h'.next → r i = none) → VRL r args args'.toList → ∃ r' v' w', (e args').run P w = .ok v' w' ∧ VR r' v v' ∧ Post r h w r' h' w'
  next : h.next ≤ h'.next
  wf : (∀ i o, h.get i = some o → i < h.next) → ∀ i o, h'.get i = some o → i < h'.next

def Called (P : Program) (f : FuncId) (args : List AV) (h : H) (v : AV) (h' : H) : Prop := ACall P f args h v h' ∨ XCall P f args h v h'
theorem Called.next {P : Program} {f : FuncId} {args : List AV} {h : H} {v : AV} {h' : H} (c : Called P f args h v h') : h.next ≤ h'.next := c.elim (·.next) (·.next)
theorem Called.wf {P : Program} {f : FuncId} {args : List AV} {h : H} {v : AV} {h' : H} (c : Called P f args h v h') : (∀ i o, h.get i = some o → i < h.next) → ∀ i o, h'.get i = some o → i < h'.next := c.elim (·.wf) (·.wf)
theorem Called.acall {P : Program} {f : FuncId} {args : List AV} {h : H} {v : AV} {h' : H} {fn : Func} (hf : P.funcs[f]? = some fn) (hb : fn.body.isNone = false) (c : Called P f args h v h') : ACall P f args h v h' :=
  c.elim id fun x => by
    obtain ⟨fn', e, h1, h2, _⟩ := x.there
    rw [hf] at h1; cases h1
    rw [hb] at h2; cases h2

def CallFn.Sound (P : Program) (call : CallFn) : Prop := ∀ f args h v h', call f args h = some (v, h') → Called P f args h v h'

inductive Class where
  | pure | alloc | read | full
  deriving DecidableEq

def sliceD (P : Program) (t : TypeId) : Bool := match P.underlying t with | some (.slice _) => true | _ => false

def mapD (P : Program) (t : TypeId) : Bool := match P.underlying t with | some (.map _ _) => true | _ => false

def cls (P : Program) (op : Op) : Class :=
  match op with
  | .alloc _ => .alloc
  | .box _ _ => .alloc
  | .buildSlice _ _ _ => .alloc
  | .makeMap _ _ => .alloc
  | .makeSlice _ _ _ => .alloc
  | .range _ _ => .alloc
  | .load _ _ => .read
  | .lookup _ _ _ _ => .read
  | .convert s d _ => if sliceD P d then .alloc else if sliceD P s then .read else .pure
  | .insert _ _ _ _ => .full
  | .call c => match c.callee with | .builtin .len => if mapD P (c.argTypes.toList.headD 0) then .read else .pure | .builtin .max => .pure | .builtin .min => .pure | _ => .full
  | .store _ _ _ => .full
  | .next _ _ => .full
  | .mapUpdate _ _ _ _ => .full
  | _ => .pure

def evOper (P : Program) (call : CallFn) (ρ : Operand → AV) (op : Op) (h : H) : Option (AV × H) :=
  match cls P op with
  | .pure => (evPure P ρ op).map fun v => (v, h)
  | .alloc => (evAlloc P ρ op).map fun q => (q.2 h.next, h.new q.1)
  | .read => (evRead P ρ op h).map fun v => (v, h)
  | .full =>
    match op with
    | .call c =>
      match c.callee with
      | .value x => match ρ x with | .func f first caps => call f (first ++ c.args.toList.map ρ ++ caps) h | _ => none
      | _ => evFull P ρ op h
    | _ => evFull P ρ op h

/-- what carrying out one operation leads to -/
def Leads (P : Program) (o : Oper) (a : Act) (w : World) (Φ : Value → World → Prop) : Prop :=
  ∀ (Q : Exit → Act → World → Prop) (K : Act → World → Prop), (∀ v' w', Φ v' w' → K (a.put o.dst v') w') → o.wp P a w K Q

theorem Leads.of_run {P : Program} {o : Oper} {a : Act} {w w' : World} {Φ : Value → World → Prop} {n : Next} {v' : Value} (hr : (execOp a.eval o).run P w = .ok n w') (hn : n = .value v' ∨ (n = .skip ∧ v' = undef)) (h : Φ v' w') : Leads P o a w Φ := by
  intro Q K hK
  unfold Oper.wp
  rw [hr]
  rcases hn with rfl | ⟨rfl, rfl⟩
  · exact hK _ _ h
  · exact hK _ _ h

theorem pure_leads {P : Program} {r : Ren} {ρ : Operand → AV} {o : Oper} {a : Act} (hρ : ∀ x, VR r (ρ x) (a.eval x)) {v : AV} (h : evPure P ρ o.op = some v) (w : World) : Leads P o a w fun v' w' => VR r v v' ∧ w' = w := by
  obtain ⟨v', hv, hr⟩ := evPure_sim hρ o h
  exact Leads.of_run (hr w) (.inl rfl) ⟨hv, rfl⟩

theorem read_leads {P : Program} {r : Ren} {ρ : Operand → AV} {o : Oper} {a : Act} (hρ : ∀ x, VR r (ρ x) (a.eval x)) {v : AV} {h : H} {w : World} (hrel : Rel r h w) (hv : evRead P ρ o.op h = some v) : Leads P o a w fun v' w' => VR r v v' ∧ w' = w := by
  obtain ⟨v', hv, hr⟩ := evRead_sim hrel hρ o hv
  exact Leads.of_run hr (.inl rfl) ⟨hv, rfl⟩

/-- what a new block brings: in whatever world, whatever else lies there -/
theorem alloc_leads {P : Program} {r : Ren} {ρ : Operand → AV} {o : Oper} {a : Act} (hρ : ∀ x, VR r (ρ x) (a.eval x)) {ob : AObj} {mk : Nat → AV} (h : evAlloc P ρ o.op = some (ob, mk)) (w : World) :
    ob.ro = false ∧ Leads P o a w fun v' w' => ∃ row, w'.heap.size = w.heap.size + 1 ∧ Env w w' ∧ (∀ b, b < w.heap.size → w'.heap[b]? = w.heap[b]?) ∧
      (∀ r' : Ren, r.le r' → OR r' w' ⟨w.heap.size, 0, row⟩ ob) ∧ (∀ r' i, r'.le r' → r' i = some ⟨w.heap.size, 0, row⟩ → VR r' (mk i) v') := by
  obtain ⟨s, hs, hm⟩ := evAlloc_sim (P := P) hρ o h
  obtain ⟨row, v', w', h1, h2, he, h3, h4, h5⟩ := hm.run w
  exact ⟨hm.ro, Leads.of_run (n := .value v') (by rw [hs]; simp [h1]) (.inl rfl) ⟨row, h2, he, h3, h4, h5⟩⟩

theorem full_leads {P : Program} {call : CallFn} (hcall : call.Sound P) {r : Ren} {ρ : Operand → AV} {o : Oper} {a : Act} (hρ : ∀ x, VR r (ρ x) (a.eval x)) {v : AV} {h h' : H} {w : World} (hrel : Rel r h w)
    (hfree : ∀ i, h.next ≤ i → i < h'.next → r i = none) (hc : cls P o.op = .full) (hv : evOper P call ρ o.op h = some (v, h')) :
    Leads P o a w fun v' w' => ∃ r', VR r' v v' ∧ Post r h w r' h' w' := by
  unfold evOper at hv
  rw [hc] at hv
  simp only at hv
  have main : evFull P ρ o.op h = some (v, h') → Leads P o a w fun v' w' => ∃ r', VR r' v v' ∧ Post r h w r' h' w' := by
    intro hf
    obtain ⟨r', v', w', n, hr, hn, hv, hp⟩ := evFull_sim hrel hfree hρ o hf
    exact Leads.of_run hr hn ⟨r', hv, hp⟩
  split at hv
  · rename_i c hop
    split at hv
    · rename_i x hx
      have hxv := hρ x
      split at hv
      · rename_i f first caps hfx
        rw [hfx] at hxv
        generalize hq : a.eval x = q at hxv
        cases hxv with
        | func _ _ _ first' caps' h1 h2 h3 h4 =>
        have hac0 := hcall _ _ _ _ _ hv
        have hargs : VRL r (first ++ c.args.toList.map ρ ++ caps) (first' ++ c.args.map a.eval ++ caps').toList := by
          rw [Array.toList_append, Array.toList_append]
          have e1 : VRL r first first'.toList := ⟨by simpa using h1, fun i x v hx hv => h3 i x v hx (by simpa using hv)⟩
          have e2 : VRL r caps caps'.toList := ⟨by simpa using h2, fun i x v hx hv => h4 i x v hx (by simpa using hv)⟩
          exact (e1.append (VRL_ops hρ c.args)).append e2
        rcases hac0 with hac | hax
        rotate_left
        · obtain ⟨fn, e, hfn, hbody, hname, hnx, hex, hsim⟩ := hax.there
          obtain ⟨r', v', w', hr, hv', hp⟩ := hsim r w _ hrel hfree hargs
          have hn1 : ¬ fn.name = "runtime.NumGoroutine" := by simpa using hname
          have hb1 : fn.body = none := by simpa using hbody
          have hnx1 : Extern.findNext fn = none := by simpa using hnx
          rw [Array.append_assoc] at hr
          refine Leads.of_run (n := .value v') ?_ (.inl rfl) ⟨r', hv', hp⟩
          simp [execOp, hop, resolve, hx, hq, Deferred.ofValue, invoke, callFunc, hfn, hb1, hn1, hnx1, hex, hr]
        obtain ⟨fn, hfn, hbody, hname⟩ := hac.there
        have hsim := hac.sim r w _ hrel hfree hargs
        intro Q K hK
        unfold Oper.wp
        have hr : (execOp a.eval o).run P w = .ok (.enter f (first' ++ c.args.map a.eval ++ caps')) w := by
          have hn1 : ¬ fn.name = "runtime.NumGoroutine" := by simpa using hname
          have hb1 : ¬ fn.body = none := fun e => by rw [e] at hbody; cases hbody
          simp [execOp, hop, resolve, hx, hq, Deferred.ofValue, invoke, callFunc, hfn, hb1, hn1]
        rw [hr, Oper.upon_enter]
        refine hsim.mono fun e w' he => ?_
        obtain ⟨r', v', rfl, hv', hp⟩ := he
        exact hK _ _ ⟨r', hv', hp⟩
      · cases hv
    · exact main hv
  · exact main hv

end Go.Ev
