/- The abstract machine Ev, part E: what an operation does: one that looks at no memory (evPure), one that makes a block (evAlloc). -/
import Derived.Test.YtkikfnpanlcajaaDoorEvD
set_option linter.all false
namespace Go.Ev

def acells : AV → Option (List AV)
  | .agg cs => some cs
  | .junk => none
  | .tup _ => none
  | v => some [v]

theorem acells_sim {r : Ren} {a : AV} {v : Value} {cs : List AV} (h : acells a = some cs) (hv : VR r a v) : VRL r cs v.cells.toList := by
  have one : ∀ (a : AV) (v : Value), VR r a v → VRL r [a] [v] := fun a v h => VRL.cons h VRL.nil
  have hv0 := hv
  cases hv <;> simp only [acells] at h <;> first
    | (cases h; done)
    | (cases h; exact one _ _ hv0)
    | (cases h
       rename_i h1 h2
       exact ⟨by simpa [Value.cells] using h1, fun i a v ha hv => h2 i a v ha (by simpa [Value.cells] using hv)⟩)

def evZero (P : Program) (t : TypeId) : Option (List AV) := ((P.info? t).bind (·.zero)).map fun v => v.cells.toList.map scal

theorem evZero_sim {P : Program} {t : TypeId} {zs : List AV} (h : evZero P t = some zs) : ∃ i z, P.info? t = some i ∧ i.zero = some z ∧ (∀ w, (zeroValue t).run P w = .ok z w) ∧ ∀ r : Ren, VRL r zs z.cells.toList := by
  unfold evZero at h
  obtain ⟨z, hz, rfl⟩ := Option.map_eq_some_iff.1 h
  obtain ⟨i, hi, hz⟩ := Option.bind_eq_some_iff.1 hz
  refine ⟨i, z, hi, hz, fun w => by simp [zeroValue, typeInfo, hi, hz], fun r => ⟨by simp, fun j a v ha hv => ?_⟩⟩
  rw [List.getElem?_map, hv] at ha
  simp at ha
  subst ha
  exact VR_scal r v

/-! ### filling -/

def evFill (place : Nat → Option (Nat × Nat)) (cells : List AV) : List (Nat × AV) → Option (List AV)
  | [] => some cells
  | (i, v) :: rest =>
    match place i, acells v with
    | some (off, size), some cs => if cs.length = size ∧ off + size ≤ cells.length then evFill place (cells.take off ++ cs ++ cells.drop (off + size)) rest else none
    | _, _ => none

theorem foldl_splice (off : Nat) : ∀ (l : List Value) (k : Nat) (A : Array Value), off + k + l.length ≤ A.size →
    ((l.zipIdx k).foldl (fun cs (c, j) => cs.setIfInBounds (off + j) c) A).toList = A.toList.take (off + k) ++ l ++ A.toList.drop (off + k + l.length)
  | [], k, A, _ => by simp
  | c :: l, k, A, h => by
    simp only [List.length_cons] at h
    rw [List.zipIdx_cons, List.foldl_cons, foldl_splice off l (k + 1) _ (by simp; omega)]
    have hlt : off + k < A.toList.length := by simp; omega
    simp only [Array.toList_setIfInBounds, List.length_cons]
    rw [show off + (k + 1) = off + k + 1 by omega, List.take_succ_eq_append_getElem (by simp; omega), List.take_set_of_le (Nat.le_refl _), List.getElem_set_self, List.drop_set_of_lt (by omega),
      show off + k + (l.length + 1) = off + k + 1 + l.length by omega]
    simp

theorem VRL.splice {r : Ren} {cells cs : List AV} {A vs : List Value} (h : VRL r cells A) (hc : VRL r cs vs) (off : Nat) :
    VRL r (cells.take off ++ cs ++ cells.drop (off + cs.length)) (A.take off ++ vs ++ A.drop (off + vs.length)) := by
  rw [← hc.1]
  exact ((h.take off).append hc).append (h.drop _)

theorem evFill_sim {r : Ren} {place : Nat → Option (Nat × Nat)} : ∀ {parts : List (Nat × AV)} {parts' : List (Nat × Value)} {cells out : List AV} {A : Array Value}, evFill place cells parts = some out → VRL r cells A.toList →
    parts.length = parts'.length → (∀ (i : Nat) x y, parts[i]? = some x → parts'[i]? = some y → x.1 = y.1 ∧ VR r x.2 y.2) → ∃ B, Instr.fill place A parts' = some B ∧ VRL r out B.toList
  | [], parts', cells, out, A, h, hA, hl, hp => by
    cases parts' with
    | nil => simp only [evFill] at h; cases h; exact ⟨A, rfl, hA⟩
    | cons _ _ => simp at hl
  | (i, v) :: rest, parts', cells, out, A, h, hA, hl, hp => by
    cases parts' with
    | nil => simp at hl
    | cons y rest' =>
      obtain ⟨i', v'⟩ := y
      obtain ⟨hii, hv⟩ := hp 0 _ _ rfl rfl
      simp only at hii hv
      subst hii
      simp only [evFill] at h
      split at h
      · rename_i off size cs hpl hcs
        split at h
        · rename_i hb
          obtain ⟨hb1, hb2⟩ := hb
          have hc := acells_sim hcs hv
          have hsz : v'.cells.size = size := by rw [← hb1]; simpa using hc.1.symm
          have hAs : A.size = cells.length := by simpa using hA.1.symm
          have hfold : (Array.foldl (fun cs (c, j) => cs.setIfInBounds (off + j) c) A v'.cells.zipIdx).toList = A.toList.take off ++ v'.cells.toList ++ A.toList.drop (off + v'.cells.toList.length) := by
            rw [← Array.foldl_toList, Array.toList_zipIdx]
            have := foldl_splice off v'.cells.toList 0 A (by simp; omega)
            simpa using this
          obtain ⟨B, hB, hout⟩ := evFill_sim (parts := rest) (parts' := rest') (A := Array.foldl (fun cs (c, j) => cs.setIfInBounds (off + j) c) A v'.cells.zipIdx) h (by
            rw [hfold, ← hb1]; exact hA.splice hc off) (by simpa using hl) (fun j x y hx hy => hp (j + 1) x y (by simpa using hx) (by simpa using hy))
          refine ⟨B, ?_, hout⟩
          simp only [Instr.fill, hpl]
          rw [if_neg (by simp [hsz]; omega)]
          exact hB
        · cases h
      · cases h

def fieldPlaces (P : Program) (fs : List Field) : Option (List (Nat × Nat)) := fs.mapM fun f => (P.info? f.type).map fun i => (f.offset, i.size)

def evBuild (P : Program) (t : TypeId) (parts : List (Nat × AV)) : Option AV :=
  (evZero P t).bind fun zs =>
  match P.underlying t with
  | some (.struct fs) => (fieldPlaces P fs.toList).bind fun ps => (evFill (ps[·]?) zs parts).map .agg
  | some (.array _ e) => (P.info? e).bind fun i => (evFill (fun j => some (j * i.size, i.size)) zs parts).map .agg
  | _ => none

theorem run_places {P : Program} (w : World) : ∀ (fs : List Field) (ps : List (Nat × Nat)), fieldPlaces P fs = some ps →
    (fs.mapM (fun f => do pure (f.offset, ← sizeOf f.type)) : Sem (List (Nat × Nat))).run P w = .ok ps w
  | [], ps, h => by simp [fieldPlaces] at h; subst h; rfl
  | f :: fs, ps, h => by
    simp only [fieldPlaces, List.mapM_cons, bind, Option.bind_eq_some_iff, pure, Option.some.injEq] at h
    obtain ⟨p, hp, qs, hq, rfl⟩ := h
    obtain ⟨i, hi, rfl⟩ := Option.map_eq_some_iff.1 hp
    have ih := run_places w fs qs hq
    rw [List.mapM_cons]
    simp only [Sem.run_bind, run_sizeOf w hi, Result.andThen_ok, Sem.run_pure, ih]
    simp [Program.cellsOf, hi]

theorem run_mapM_array {P : Program} {w : World} {α : Type} {f : Field → Sem α} {fs : Array Field} {ps : List α} (h : (fs.toList.mapM f).run P w = .ok ps w) : (fs.mapM f).run P w = .ok ps.toArray w := by
  rw [Array.mapM_eq_mapM_toList]
  simp [h]

theorem evBuild_sim {P : Program} {r : Ren} {t : TypeId} {parts : List (Nat × AV)} {parts' : Array (Nat × Value)} {v : AV} (h : evBuild P t parts = some v)
    (hl : parts.length = parts'.size) (hp : ∀ (i : Nat) x y, parts[i]? = some x → parts'[i]? = some y → x.1 = y.1 ∧ VR r x.2 y.2) :
    ∃ v', VR r v v' ∧ ∀ w, (Instr.build t parts').run P w = .ok v' w := by
  unfold evBuild at h
  obtain ⟨zs, hz, h⟩ := Option.bind_eq_some_iff.1 h
  obtain ⟨i, z, hi, hzz, hrun, hvz⟩ := evZero_sim hz
  split at h
  · rename_i fs hu
    obtain ⟨ps, hps, h⟩ := Option.bind_eq_some_iff.1 h
    obtain ⟨out, ho, rfl⟩ := Option.map_eq_some_iff.1 h
    obtain ⟨B, hB, hout⟩ := evFill_sim (parts' := parts'.toList) ho (hvz r) (by simpa using hl) (fun j x y hx hy => hp j x y hx (by simpa using hy))
    refine ⟨.agg B, .agg _ _ (by simpa using hout.1) (fun j a v ha hv => hout.2 j a v ha (by simpa using hv)), fun w => ?_⟩
    have h1 := run_mapM_array (run_places (P := P) w fs.toList ps hps)
    have h2 : Instr.fill (fun x => ps.toArray[x]?) z.cells parts'.toList = some B := by simpa using hB
    simp only [Instr.build, Sem.run_bind, hrun, Result.andThen_ok, run_underlying hu, h1, h2, Sem.run_pure]
  · rename_i n e hu
    obtain ⟨ie, hie, h⟩ := Option.bind_eq_some_iff.1 h
    obtain ⟨out, ho, rfl⟩ := Option.map_eq_some_iff.1 h
    obtain ⟨B, hB, hout⟩ := evFill_sim (parts' := parts'.toList) ho (hvz r) (by simpa using hl) (fun j x y hx hy => hp j x y hx (by simpa using hy))
    refine ⟨.agg B, .agg _ _ (by simpa using hout.1) (fun j a v ha hv => hout.2 j a v ha (by simpa using hv)), fun w => ?_⟩
    have hsz : P.cellsOf e = ie.size := by simp [Program.cellsOf, hie]
    simp only [Instr.build, Sem.run_bind, hrun, Result.andThen_ok, run_underlying hu, run_sizeOf w hie, hsz, hB, Sem.run_pure]
  · cases h

/-! ### builtins that look at no memory -/

def evLen (P : Program) (ts : List TypeId) (xs : List AV) : Option AV :=
  match ts[0]?, xs[0]? with
  | some t, some x =>
    match P.underlying t with
    | some .string => match x with | .str s => some (.int .i64 s.size) | _ => none
    | some (.array n _) => some (.int .i64 n)
    | some (.pointer arr) => match P.underlying arr with | some (.array n _) => some (.int .i64 n) | _ => none
    | some (.slice _) => match x with | .slice _ n _ => some (.int .i64 n) | _ => none
    | some (.map _ _) => match x with | .map none => some (.int .i64 0) | _ => none
    | _ => none
  | _, _ => none

theorem evLen_sim {P : Program} {r : Ren} {ts : Array TypeId} {ty : TypeId} {xs : List AV} {xs' : Array Value} {v : AV} (h : evLen P ts.toList xs = some v) (hx : VRL r xs xs'.toList) :
    ∃ v', VR r v v' ∧ ∀ w, (Builtin.len_ ts ty xs').run P w = .ok v' w := by
  unfold evLen at h
  split at h
  · rename_i t x ht hx0
    have hlt : 0 < xs'.toList.length := by rw [← hx.1]; exact (List.getElem?_eq_some_iff.1 hx0).1
    have hx0' : xs'[0]? = some xs'.toList[0] := by rw [← Array.getElem?_toList]; exact List.getElem?_eq_getElem hlt
    have hv := hx.2 0 x _ hx0 (List.getElem?_eq_getElem hlt)
    have ht' : ts[0]? = some t := by rw [← Array.getElem?_toList]; exact ht
    generalize xs'.toList[0] = x' at hv hx0'
    split at h
    · rename_i hu
      split at h
      · cases h; cases hv; exact ⟨_, .int _ _, fun w => by simp [Builtin.len_, ht', hx0', run_underlying hu, goInt]⟩
      · cases h
    · rename_i hu
      cases h; exact ⟨_, .int _ _, fun w => by simp [Builtin.len_, ht', hx0', run_underlying hu, goInt]⟩
    · rename_i arr hu
      split at h
      · rename_i hu2; cases h; exact ⟨_, .int _ _, fun w => by simp [Builtin.len_, ht', hx0', run_underlying hu, run_underlying hu2, goInt]⟩
      · cases h
    · rename_i hu
      split at h
      · cases h; cases hv <;> exact ⟨_, .int _ _, fun w => by simp [Builtin.len_, ht', hx0', run_underlying hu, goInt]⟩
      · cases h
    · rename_i hu
      split at h
      · cases h; cases hv; exact ⟨_, .int _ _, fun w => by simp [Builtin.len_, ht', hx0', run_underlying hu, goInt]⟩
      · cases h
    · cases h
  · cases h

def evMx (mx : Bool) (x y : AV) : Option AV :=
  match x, y with
  | .int k a, .int _ b => some (.int k (if mx then (if b > a then b else a) else (if b < a then b else a)))
  | _, _ => none

def evMxs (mx : Bool) : AV → List AV → Option AV
  | x, [] => some x
  | x, y :: ys => (evMx mx x y).bind fun z => evMxs mx z ys

theorem evMxs_sim_max {P : Program} {r : Ren} : ∀ {ys : List AV} {ys' : List Value} {x v : AV} {x' : Value}, evMxs true x ys = some v → VR r x x' → VRL r ys ys' → ∃ v', VR r v v' ∧ ∀ w, (ys'.foldlM Builtin.max2 x').run P w = .ok v' w
  | [], ys', x, v, x', h, hx, hy => by
    cases ys' with
    | nil => simp only [evMxs] at h; cases h; exact ⟨x', hx, fun w => rfl⟩
    | cons _ _ => have := hy.1; simp at this
  | y :: ys, ys', x, v, x', h, hx, hy => by
    obtain ⟨y', ys'', rfl, hy1, hy2⟩ := hy.inv_cons
    simp only [evMxs] at h
    obtain ⟨z, hz, h⟩ := Option.bind_eq_some_iff.1 h
    unfold evMx at hz
    split at hz
    · cases hz
      cases hx; cases hy1
      obtain ⟨v', hv, hr⟩ := evMxs_sim_max h (.int _ _) hy2
      exact ⟨v', hv, fun w => by rw [List.foldlM_cons]; simpa [Builtin.max2] using hr w⟩
    · cases hz

theorem evMxs_sim_min {P : Program} {r : Ren} : ∀ {ys : List AV} {ys' : List Value} {x v : AV} {x' : Value}, evMxs false x ys = some v → VR r x x' → VRL r ys ys' → ∃ v', VR r v v' ∧ ∀ w, (ys'.foldlM Builtin.min2 x').run P w = .ok v' w
  | [], ys', x, v, x', h, hx, hy => by
    cases ys' with
    | nil => simp only [evMxs] at h; cases h; exact ⟨x', hx, fun w => rfl⟩
    | cons _ _ => have := hy.1; simp at this
  | y :: ys, ys', x, v, x', h, hx, hy => by
    obtain ⟨y', ys'', rfl, hy1, hy2⟩ := hy.inv_cons
    simp only [evMxs] at h
    obtain ⟨z, hz, h⟩ := Option.bind_eq_some_iff.1 h
    unfold evMx at hz
    split at hz
    · cases hz
      cases hx; cases hy1
      obtain ⟨v', hv, hr⟩ := evMxs_sim_min h (.int _ _) hy2
      exact ⟨v', hv, fun w => by rw [List.foldlM_cons]; simpa [Builtin.min2] using hr w⟩
    · cases hz

def evBuiltin (P : Program) (b : Builtin) (ts : List TypeId) (xs : List AV) : Option AV :=
  match b with
  | .len => evLen P ts xs
  | .max => match xs with | x :: ys => evMxs true x ys | [] => none
  | .min => match xs with | x :: ys => evMxs false x ys | [] => none
  | _ => none

/-- a row's first cells as an array -/
def evArr (P : Program) (t : TypeId) (x : AV) : Option AV :=
  match P.underlying t, x with
  | some (.array n _), .slice (some (i, o)) len _ => if n ≤ len ∧ 0 < len then some (.ptr (some (i, o))) else none
  | _, _ => none

theorem evArr_sim {P : Program} {r : Ren} {t : TypeId} {x v : AV} {x' : Value} (h : evArr P t x = some v) (hx : VR r x x') : ∃ v', VR r v v' ∧ ∀ w, (Instr.arrayAt t x').run P w = .ok v' w := by
  unfold evArr at h
  split at h
  · rename_i n e i o len c hu
    split at h
    · rename_i hb
      cases h
      cases hx with
      | slice len c hr => exact ⟨_, .ptr hr, fun w => by simp [Instr.arrayAt, run_underlying hu, Nat.not_lt.2 hb.1]⟩
      | sliceRest len size cap hr hc hl => exact ⟨_, .ptr hr, fun w => by simp [Instr.arrayAt, run_underlying hu, Nat.not_lt.2 hb.1]⟩
      | sliceBare a => omega
      | sliceEnd a size hr => omega
    · cases h
  · cases h

def evPure (P : Program) (ρ : Operand → AV) (op : Op) : Option AV :=
  match op with
  | .sliceToArrayPointer t x => evArr P t (ρ x)
  | .move x => some (ρ x)
  | .assign x => some (ρ x)
  | .pick c a b => match ρ c with | .bool t => some (if t then ρ a else ρ b) | _ => none
  | .build t parts => evBuild P t (parts.toList.map fun p => (p.1, ρ p.2))
  | .nilCheck x => evNil (ρ x)
  | .binOp op t x y _ => if notIntStr (ρ x) then evEqOp P op t (ρ x) (ρ y) else evBin op (ρ x) (ρ y)
  | .unOp op _ x => evUn op (ρ x)
  | .convert src dst x => evConv P src dst (ρ x)
  | .makeFunc (.func f) first captured => some (.func f (first.toList.map ρ) (captured.toList.map ρ))
  | .slice t x lo hi mx => evSlice P t (ρ x) (lo.map ρ) (hi.map ρ) (mx.map ρ)
  | .fieldAddr t x f => evFieldAddr P t (ρ x) f
  | .field t x f => evField P t (ρ x) f
  | .indexAddr t x i => evIndexAddr P t (ρ x) (ρ i)
  | .index t x i => evIndex P t (ρ x) (ρ i)
  | .extract t i => evExtract (ρ t) i
  | .call c => match c.callee with | .builtin b => evBuiltin P b c.argTypes.toList (c.args.toList.map ρ) | _ => none
  | _ => none

theorem VRL_ops {r : Ren} {ρ : Operand → AV} {ρ' : Operand → Value} (hρ : ∀ x, VR r (ρ x) (ρ' x)) (xs : Array Operand) : VRL r (xs.toList.map ρ) (xs.map ρ').toList := by
  rw [Array.toList_map]
  exact VRL.map _ _ _ fun x _ => hρ x

theorem VR_func {r : Ren} {ρ : Operand → AV} {ρ' : Operand → Value} (hρ : ∀ x, VR r (ρ x) (ρ' x)) (f : FuncId) (a b : Array Operand) :
    VR r (.func f (a.toList.map ρ) (b.toList.map ρ)) (.func (.func f) (a.map ρ') (b.map ρ')) := by
  have h1 := VRL_ops hρ a
  have h2 := VRL_ops hρ b
  exact .func f _ _ _ _ (by simp) (by simp) (fun i x v hx hv => h1.2 i x v hx (by simpa using hv)) (fun i x v hx hv => h2.2 i x v hx (by simpa using hv))

theorem evNil_sim {P : Program} {r : Ren} {x v : AV} {x' : Value} (h : evNil x = some v) (hx : VR r x x') (o : Oper) (ρ' : Operand → Value) (y : Operand) (ho : o.op = .nilCheck y) (hy : ρ' y = x') :
    ∃ v', VR r v v' ∧ ∀ w, (execOp ρ' o).run P w = .ok (.value v') w := by
  unfold evNil at h
  split at h
  · cases h
    refine ⟨x', hx, fun w => ?_⟩
    cases hx
    simp [execOp, ho, hy]
  · cases h
    refine ⟨x', hx, fun w => ?_⟩
    cases hx
    simp [execOp, ho, hy]
  · cases h

theorem evPure_sim {P : Program} {r : Ren} {ρ : Operand → AV} {ρ' : Operand → Value} (hρ : ∀ x, VR r (ρ x) (ρ' x)) (o : Oper) {v : AV} (h : evPure P ρ o.op = some v) :
    ∃ v', VR r v v' ∧ ∀ w, (execOp ρ' o).run P w = .ok (.value v') w := by
  have wrap : ∀ {s : Sem Value}, (∃ v', VR r v v' ∧ ∀ w, s.run P w = .ok v' w) → execOp ρ' o = (do pure (.value (← s))) → ∃ v', VR r v v' ∧ ∀ w, (execOp ρ' o).run P w = .ok (.value v') w := by
    intro s ⟨v', hv, hs⟩ he
    exact ⟨v', hv, fun w => by rw [he]; simp [hs]⟩
  unfold evPure at h
  cases hop : o.op <;> simp only [hop] at h <;> try (cases h; done)
  case move x => cases h; exact ⟨_, hρ x, fun w => by simp [execOp, hop]⟩
  case assign x => cases h; exact ⟨_, hρ x, fun w => by simp [execOp, hop]⟩
  case pick c a b =>
    split at h
    · rename_i t ht
      cases h
      have hc := hρ c
      rw [ht] at hc
      refine ⟨if t then ρ' a else ρ' b, by cases t <;> simp <;> exact hρ _, fun w => ?_⟩
      cases hc' : ρ' c <;> rw [hc'] at hc <;> cases hc
      simp [execOp, hop, hc', asBool]
    · cases h
  case build t parts =>
    refine wrap (evBuild_sim (parts' := parts.map fun p => (p.1, ρ' p.2)) h (by simp) fun i x y hx hy => ?_) (by simp [execOp, hop])
    rw [List.getElem?_map] at hx
    rw [Array.getElem?_map, ← Array.getElem?_toList] at hy
    cases hq : parts.toList[i]? with
    | none => simp [hq] at hx
    | some p => rw [hq] at hx hy; simp at hx hy; subst hx; subst hy; exact ⟨rfl, hρ _⟩
  case nilCheck x => exact evNil_sim h (hρ x) o ρ' x hop rfl
  case binOp op t x y u =>
    split at h
    · rename_i hn
      exact wrap (evEqOp_sim h hn (hρ x) (hρ y) x y) (by simp [execOp, hop])
    · exact wrap (evBin_sim (t := t) h (hρ x) (hρ y) x y) (by simp [execOp, hop])
  case unOp op t x => exact wrap (evUn_sim h (hρ x)) (by simp [execOp, hop])
  case convert s d x => exact wrap (evConv_sim h (hρ x)) (by simp [execOp, hop])
  case makeFunc fn a b =>
    cases fn <;> simp only at h <;> try (cases h; done)
    cases h
    exact ⟨_, VR_func hρ _ a b, fun w => by simp [execOp, hop, Instr.makeFunc]⟩
  case slice t x lo hi mx => exact wrap (evSlice_sim h (hρ x) (OVR.map hρ lo) (OVR.map hρ hi) (OVR.map hρ mx)) (by simp [execOp, hop])
  case fieldAddr t x f => exact wrap (evFieldAddr_sim h (hρ x)) (by simp [execOp, hop])
  case field t x f => exact wrap (evField_sim h (hρ x)) (by simp [execOp, hop])
  case indexAddr t x i => exact wrap (evIndexAddr_sim h (hρ x) (hρ i)) (by simp [execOp, hop])
  case index t x i => exact wrap (evIndex_sim h (hρ x) (hρ i)) (by simp [execOp, hop])
  case sliceToArrayPointer t x => exact wrap (evArr_sim h (hρ x)) (by simp [execOp, hop])
  case extract t i => exact wrap (evExtract_sim h (hρ t)) (by simp [execOp, hop])
  case call c =>
    split at h
    · rename_i b hb
      have hargs := VRL_ops hρ c.args
      have he : execOp ρ' o = builtin b c.argTypes o.type (c.args.map fun | .const _ => true | _ => false) (c.args.map ρ') := by simp [execOp, hop, resolve, hb, invoke]; rfl
      unfold evBuiltin at h
      split at h
      · refine wrap (evLen_sim (ty := o.type) h hargs) (by rw [he]; simp [builtin])
      · split at h
        · rename_i x ys hxs
          rw [hxs] at hargs
          obtain ⟨x', ys', hxs', hx, hys⟩ := hargs.inv_cons
          refine wrap (s := Builtin.max_ c.argTypes o.type (c.args.map ρ')) ?_ (by rw [he]; simp [builtin])
          obtain ⟨v', hv, hr⟩ := evMxs_sim_max (P := P) h hx hys
          exact ⟨v', hv, fun w => by unfold Builtin.max_; rw [hxs']; exact hr w⟩
        · cases h
      · split at h
        · rename_i x ys hxs
          rw [hxs] at hargs
          obtain ⟨x', ys', hxs', hx, hys⟩ := hargs.inv_cons
          refine wrap (s := Builtin.min_ c.argTypes o.type (c.args.map ρ')) ?_ (by rw [he]; simp [builtin])
          obtain ⟨v', hv, hr⟩ := evMxs_sim_min (P := P) h hx hys
          exact ⟨v', hv, fun w => by unfold Builtin.min_; rw [hxs']; exact hr w⟩
        · cases h
      · cases h
    · cases h

end Go.Ev
