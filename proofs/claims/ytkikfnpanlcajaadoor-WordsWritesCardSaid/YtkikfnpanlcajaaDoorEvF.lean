/- The abstract machine Ev, part F: operations that make a block, read memory, write memory. -/
import Derived.Test.YtkikfnpanlcajaaDoorEvE
set_option linter.all false
namespace Go.Ev

def isCell : AV → Bool
  | .junk => false
  | .agg _ => false
  | .tup _ => false
  | _ => true

theorem isCell_sim {r : Ren} {a : AV} {v : Value} (h : isCell a = true) (hv : VR r a v) : v.oneCell' = true := by
  cases hv <;> first | rfl | (simp [isCell] at h)

theorem isCell_all {r : Ren} {as : List AV} {vs : List Value} (h : as.all isCell = true) (hv : VRL r as vs) : ∀ v ∈ vs, v.oneCell' = true := by
  intro v hm
  obtain ⟨i, hi⟩ := List.getElem?_of_mem hm
  have hlt : i < as.length := by rw [hv.1]; exact (List.getElem?_eq_some_iff.1 hi).1
  have ha : as[i]? = some as[i] := List.getElem?_eq_getElem hlt
  exact isCell_sim (List.all_eq_true.1 h _ (List.mem_of_getElem? ha)) (hv.2 i _ v ha hi)

/-! ### making -/

structure Made (P : Program) (r : Ren) (ob : AObj) (mk : Nat → AV) (s : Sem Value) : Prop where
  ro : ob.ro = false
  run : ∀ w, ∃ row v' w', s.run P w = .ok v' w' ∧ w'.heap.size = w.heap.size + 1 ∧ Env w w' ∧ (∀ b, b < w.heap.size → w'.heap[b]? = w.heap[b]?) ∧
    (∀ r' : Ren, r.le r' → OR r' w' ⟨w.heap.size, 0, row⟩ ob) ∧ (∀ r' i, r'.le r' → r' i = some ⟨w.heap.size, 0, row⟩ → VR r' (mk i) v')

theorem alloc_new (w : World) (o : Obj) : (w.alloc o).heap[w.heap.size]? = some o := by
  show (w.heap.push o)[w.heap.size]? = some o
  simp

theorem alloc_old {w : World} {o : Obj} {i : Nat} (h : i < w.heap.size) : (w.alloc o).heap[i]? = w.heap[i]? := by
  show (w.heap.push o)[i]? = w.heap[i]?
  rw [Array.getElem?_push, if_neg (Nat.ne_of_lt h)]

theorem OR_alloc {r : Ren} {w : World} {cs : List AV} {C : Array Value} {e : TypeId} (h : VRL r cs C.toList) : ∀ r' : Ren, r.le r' → OR r' (w.alloc (.cells C e)) ⟨w.heap.size, 0, C.size⟩ (.cells cs false) := by
  intro r' hr
  refine ⟨C, e, (0, 0), alloc_new w _, Nat.le_refl _, ?_, fun i a v ha hv => ?_, fun _ off _ => by simp⟩
  · have := h.1; simp at this; simp [this]
  · simp only [Nat.zero_add] at hv
    rw [← Array.getElem?_toList] at hv
    exact (h.2 i a v ha hv).mono hr

def evTile (n : Nat) (zs : List AV) : List AV := (List.range n).map fun i => zs.getD (i % zs.length) .junk

theorem evTile_sim {r : Ren} {zs : List AV} {zero : Array Value} (h : VRL r zs zero.toList) (n : Nat) :
    VRL r (evTile n zs) ((Array.range n).map (zero[· % zero.size]!)).toList := by
  have hl : zs.length = zero.size := by simpa using h.1
  unfold evTile
  rw [Array.toList_map, Array.toList_range]
  refine VRL.map _ _ _ fun i _ => ?_
  rw [hl]
  rcases Nat.eq_zero_or_pos zero.size with h0 | h0
  · have : zs = [] := List.eq_nil_of_length_eq_zero (by omega)
    subst this
    simp; exact .junk _
  · have hlt : i % zero.size < zero.size := Nat.mod_lt _ h0
    have h1 : zs[i % zero.size]? = some (zs[i % zero.size]'(by omega)) := List.getElem?_eq_getElem (by omega)
    rw [List.getD_eq_getElem?_getD, h1]
    have h2 : zero.toList[i % zero.size]? = some (zero[i % zero.size]) := by simp [hlt]
    have := h.2 _ _ _ h1 h2
    simpa [getElem!_pos, hlt] using this

def evAlloc (P : Program) (ρ : Operand → AV) (op : Op) : Option (AObj × (Nat → AV)) :=
  match op with
  | .alloc e => (evZero P e).map fun zs => (.cells zs false, fun i => .ptr (some (i, 0)))
  | .box _ x => (acells (ρ x)).map fun cs => (.cells cs false, fun i => .ptr (some (i, 0)))
  | .buildSlice t len parts =>
    match P.underlying t with
    | some (.slice e) => (P.info? e).bind fun inf =>
      if len * inf.size > 2 ^ 24 then none else
      (evZero P e).bind fun zs =>
      (evFill (fun j => some (j * inf.size, inf.size)) (evTile (len * inf.size) zs) (parts.toList.map fun p => (p.1, ρ p.2))).map fun cs =>
        (.cells cs false, fun i => .slice (some (i, 0)) len (.known len))
    | _ => none
  | .makeMap t none => some (.map [] 0, fun i => .map (some i))
  | .makeSlice t l c =>
    match P.underlying t, ρ l, ρ c with
    | some (.slice e), .int _ l, .int _ c => (P.info? e).bind fun inf => (evZero P e).bind fun zs =>
      if 0 ≤ IntKind.i64.wrap l ∧ IntKind.i64.wrap l ≤ IntKind.i64.wrap c ∧ ¬ (inf.bytes * IntKind.i64.wrap c > 2 ^ 48) then
        some (.cells (evTile ((IntKind.i64.wrap c).toNat * inf.size) zs) false, fun i => .slice (some (i, 0)) (IntKind.i64.wrap l).toNat (.known (IntKind.i64.wrap c).toNat))
      else none
    | _, _, _ => none
  | .convert s d x =>
    match P.underlying s, P.underlying d, ρ x with
    | some _, some (.slice e), .str b => match P.underlying e with
      | some (.int .u8) => some (.cells (b.data.toList.map fun c => .int .u8 c.toNat) false, fun i => .slice (some (i, 0)) b.size (.rest 1))
      | _ => none
    | _, _, _ => none
  | .range t x =>
    match P.underlying t, ρ x with
    | some .string, .str b => some (.siter b 0, fun i => .ptr (some (i, 0)))
    | _, _ => none
  | _ => none

theorem heap_freeze_size (w : World) (a : Addr) (n : Nat) : (w.freeze a n).heap.size = w.heap.size := by
  unfold World.freeze; split
  · rfl
  · simp

theorem evAlloc_sim {P : Program} {r : Ren} {ρ : Operand → AV} {ρ' : Operand → Value} (hρ : ∀ x, VR r (ρ x) (ρ' x)) (o : Oper) {ob : AObj} {mk : Nat → AV} (h : evAlloc P ρ o.op = some (ob, mk)) :
    ∃ s, execOp ρ' o = (do pure (.value (← s))) ∧ Made P r ob mk s := by
  unfold evAlloc at h
  cases hop : o.op <;> simp only [hop] at h <;> try (cases h; done)
  case alloc e =>
    obtain ⟨zs, hz, h⟩ := Option.map_eq_some_iff.1 h
    cases h
    obtain ⟨i, z, hi, hzz, hrun, hvz⟩ := evZero_sim hz
    refine ⟨Instr.alloc e true (.tuple #[]), by simp only [execOp, hop], rfl, fun w => ⟨z.cells.size, .pointer (some ⟨w.heap.size, 0, none⟩), w.alloc (.cells z.cells e), by simp only [Instr.alloc, Sem.run_bind, hrun, Result.andThen_ok, newVar, newRow, run_newObj, Sem.run_pure, World.alloc_eq], World.size_alloc .., ⟨rfl, rfl, rfl, fun _ => Nat.le_refl _⟩, fun b hb => alloc_old hb, OR_alloc (hvz r), fun r' i _ hi => ?_⟩⟩
    exact .ptr (t := ⟨w.heap.size, 0, z.cells.size⟩) hi
  case box e x =>
    obtain ⟨cs, hc, h⟩ := Option.map_eq_some_iff.1 h
    cases h
    have hv := acells_sim hc (hρ x)
    refine ⟨Instr.box e (ρ' x), by simp only [execOp, hop], rfl, fun w => ⟨(ρ' x).cells.size, .pointer (some ⟨w.heap.size, 0, none⟩), w.alloc (.cells (ρ' x).cells e), by simp only [Instr.box, Sem.run_bind, Result.andThen_ok, newVar, newRow, run_newObj, Sem.run_pure, World.alloc_eq], World.size_alloc .., ⟨rfl, rfl, rfl, fun _ => Nat.le_refl _⟩, fun b hb => alloc_old hb, OR_alloc hv, fun r' i _ hi => ?_⟩⟩
    exact .ptr (t := ⟨w.heap.size, 0, _⟩) hi
  case buildSlice t len parts =>
    split at h
    · rename_i e hu
      obtain ⟨inf, hinf, h⟩ := Option.bind_eq_some_iff.1 h
      split at h
      · cases h
      · rename_i hsmall
        obtain ⟨zs, hz, h⟩ := Option.bind_eq_some_iff.1 h
        obtain ⟨cs, hc, h⟩ := Option.map_eq_some_iff.1 h
        cases h
        obtain ⟨i, z, hi, hzz, hrun, hvz⟩ := evZero_sim hz
        have hsz : P.cellsOf e = inf.size := by simp [Program.cellsOf, hinf]
        have hzrun : ∀ w, ((if len * inf.size = 0 then pure #[] else do pure (← zeroValue e).cells) : Sem (Array Value)).run P w = .ok (if len * inf.size = 0 then #[] else z.cells) w := by
          intro w; split <;> simp [hrun]
        have htile : VRL r (evTile (len * inf.size) zs) ((Array.range (len * inf.size)).map ((if len * inf.size = 0 then #[] else z.cells)[· % (if len * inf.size = 0 then #[] else z.cells).size]!)).toList := by
          split
          · rename_i h0; rw [h0]; simp [evTile]; exact VRL.nil
          · exact evTile_sim (hvz r) _
        obtain ⟨B, hB, hout⟩ := evFill_sim (parts' := (parts.map fun p => (p.1, ρ' p.2)).toList) hc htile (by simp) (fun i x y hx hy => by
          rw [List.getElem?_map] at hx
          rw [Array.toList_map, List.getElem?_map] at hy
          cases hq : parts.toList[i]? with
          | none => simp [hq] at hx
          | some p => rw [hq] at hx hy; simp at hx hy; subst hx; subst hy; exact ⟨rfl, hρ _⟩)
        refine ⟨Instr.buildSlice t len (parts.map fun (i, x) => (i, ρ' x)), by simp only [execOp, hop], rfl, fun w => ⟨B.size, .slice (some ⟨w.heap.size, 0, none⟩) len len, w.alloc (.cells B e), ?_, World.size_alloc .., ⟨rfl, rfl, rfl, fun _ => Nat.le_refl _⟩, fun b hb => alloc_old hb, OR_alloc hout, fun r' i _ hi => ?_⟩⟩
        · have hs2 : ¬ (16777216 < len * inf.size) := by simpa using hsmall
          by_cases hn : len * inf.size = 0
          · rw [hn] at hB
            simp only [if_true] at hB
            simp [Instr.buildSlice, run_underlying hu, run_sizeOf w hinf, hsz, hn]
            simp at hB
            simp [hB, newRow]
          · simp only [hn, if_false] at hB
            simp [Instr.buildSlice, run_underlying hu, run_sizeOf w hinf, hsz, hn, hs2, hrun]
            simp at hB
            simp [hB, newRow]
        · exact .slice (t := ⟨w.heap.size, 0, _⟩) len len hi
    · cases h
  case makeMap t res =>
    cases res with
    | none =>
      simp only at h
      cases h
      refine ⟨Instr.makeMap t none, by simp only [execOp, hop, Option.map_none], rfl, fun w => ⟨0, _, _, by simp only [Instr.makeMap, Sem.run_bind, Sem.run_pure, run_newObj, Result.andThen_ok, World.alloc_eq]; rfl, World.size_alloc .., ⟨rfl, rfl, rfl, fun _ => Nat.le_refl _⟩, fun b hb => alloc_old hb, fun r' _ => ⟨#[], alloc_new w _, ⟨[], .nil, rfl, fun i x e hx => by simp at hx⟩, .nil⟩, fun r' i _ hi => ?_⟩⟩
      exact .map (t := ⟨w.heap.size, 0, 0⟩) hi
    | some _ => simp at h
  case makeSlice t l c =>
    split at h
    · rename_i e kl ln kc cn hu hl hc
      obtain ⟨inf, hinf, h⟩ := Option.bind_eq_some_iff.1 h
      obtain ⟨zs, hz, h⟩ := Option.bind_eq_some_iff.1 h
      split at h
      · rename_i hb
        obtain ⟨h0, h1, h2⟩ := hb
        cases h
        obtain ⟨i, z, hi, hzz, hrun, hvz⟩ := evZero_sim hz
        have hsz : P.cellsOf e = inf.size := by simp [Program.cellsOf, hinf]
        have hl' := hρ l
        have hc' := hρ c
        rw [hl] at hl'
        rw [hc] at hc'
        obtain ⟨hl'⟩ : ∃ _ : True, ρ' l = .int kl ln := ⟨trivial, by cases hq : ρ' l <;> rw [hq] at hl' <;> cases hl'; rfl⟩
        obtain ⟨hc'⟩ : ∃ _ : True, ρ' c = .int kc cn := ⟨trivial, by cases hq : ρ' c <;> rw [hq] at hc' <;> cases hc'; rfl⟩
        rename_i hl'' hc''
        have htile : VRL r (evTile ((IntKind.i64.wrap cn).toNat * inf.size) zs) ((Array.range ((IntKind.i64.wrap cn).toNat * inf.size)).map ((if (IntKind.i64.wrap cn).toNat * inf.size = 0 then #[] else z.cells)[· % (if (IntKind.i64.wrap cn).toNat * inf.size = 0 then #[] else z.cells).size]!)).toList := by
          split
          · rename_i h0; rw [h0]; simp [evTile]; exact VRL.nil
          · exact evTile_sim (hvz r) _
        refine ⟨Instr.makeSlice t (ρ' l) (ρ' c), by simp only [execOp, hop], rfl, fun w => ⟨_, .slice (some ⟨w.heap.size, 0, none⟩) (IntKind.i64.wrap ln).toNat (IntKind.i64.wrap cn).toNat, w.alloc (.cells _ e), ?_, World.size_alloc .., ⟨rfl, rfl, rfl, fun _ => Nat.le_refl _⟩, fun b hb => alloc_old hb, OR_alloc htile, fun r' i _ hi => ?_⟩⟩
        · have hzrun : ∀ w, ((if (IntKind.i64.wrap cn).toNat * inf.size = 0 then pure #[] else do pure (← zeroValue e).cells) : Sem (Array Value)).run P w = .ok (if (IntKind.i64.wrap cn).toNat * inf.size = 0 then #[] else z.cells) w := by
            intro w; split <;> simp [hrun]
          have hcond : ((decide (IntKind.i64.wrap cn < 0) || decide (inf.bytes * IntKind.i64.wrap cn > 2 ^ 48)) || decide (IntKind.i64.wrap ln < 0) || decide (IntKind.i64.wrap ln > IntKind.i64.wrap cn)) = false := by
            simp only [Bool.or_eq_false_iff, decide_eq_false_iff_not]
            refine ⟨⟨⟨by omega, h2⟩, by omega⟩, by omega⟩
          by_cases hn : (IntKind.i64.wrap cn).toNat * inf.size = 0
          all_goals
            simp only [Instr.makeSlice, Sem.run_bind, run_underlying hu, Result.andThen_ok, hl'', hc'', asInt, asIntOf, Sem.run_pure, typeInfo, run_program, hinf, hcond, Bool.false_eq_true, if_false, run_askRoom, run_sizeOf w hinf, hsz, hn, if_true, hrun]
            simp [newRow]
        · exact .slice (t := ⟨w.heap.size, 0, _⟩) _ _ hi
      · cases h
    · cases h
  case convert s d x =>
    split at h
    · rename_i ds e b hs hd hx
      split at h
      · rename_i he
        cases h
        have hx' := hρ x
        rw [hx] at hx'
        have hx'' : ρ' x = .string b := by cases hq : ρ' x <;> rw [hq] at hx' <;> cases hx'; rfl
        refine ⟨convert s d (ρ' x), by simp only [execOp, hop], rfl, fun w => ?_⟩
        have hcap := grownCap_ge w b.size 0 e
        generalize hcp : grownCap w b.size 0 e = cap at hcap
        have hcp' : (Question.appendCap b.size 0 e).cut (w.tape w.drawn (.appendCap b.size 0 e)) = cap := hcp
        let C : Array Value := b.data.map (fun c => Value.int .u8 c.toNat) ++ Array.replicate (cap - b.size) (.int .u8 0)
        have hCs : C.size = cap := by
          have : b.data.size = b.size := rfl
          simp [C, this]; omega
        refine ⟨cap, .slice (some ⟨w.heap.size, 0, none⟩) b.size cap, (w.drew.alloc (.cells C e)).freeze { block := w.heap.size, off := cap } 1, ?_, ?_, ?_, ?_, ?_, ?_⟩
        · have hsh : (w.drew.alloc (.cells C e)).shape? w.heap.size = some (e, cap) := by
            have := alloc_new w.drew (.cells C e)
            simp only [World.size_drew] at this
            unfold World.shape?
            rw [this]
            simp [hCs]
          simp only [convert, Sem.run_bind, run_underlying hs, run_underlying hd, run_underlying he, Result.andThen_ok, hx'', Conv.stringToBytes, run_choose, Question.forced, Bool.false_eq_true, if_false, hcp', World.drew_eq, newRow, run_newObj, World.alloc_eq, Sem.run_pure, World.size_drew, markStringish, run_shape]
          simp only [C] at hsh
          simp only [hsh, Sem.run_bind, run_freeze, Result.andThen_ok, Sem.run_pure]
          rfl
        · rw [heap_freeze_size, World.size_alloc]; rfl
        · unfold World.freeze; rw [if_neg (by omega)]; exact ⟨rfl, rfl, rfl, fun _ => Nat.le_succ _⟩
        · intro b' hb'
          have h1 : (w.drew.alloc (.cells C e)).heap[b']? = w.heap[b']? := alloc_old (w := w.drew) hb'
          rw [← h1]
          unfold World.freeze
          rw [if_neg (by omega)]
          rw [Array.getElem?_modify, if_neg (by simp; omega)]
        · intro r' hr
          refine ⟨C, e, (cap, cap + 1), ?_, by simp [hCs], ?_, fun i a v ha hv => ?_, fun _ off ho => by simp only; omega⟩
          · have h1 := alloc_new w.drew (.cells C e)
            simp only [World.size_drew] at h1
            unfold World.freeze
            rw [if_neg (by omega)]
            simp only []
            rw [Array.getElem?_modify, if_pos rfl, h1]
            simp
          · have : b.data.toList.length = b.size := rfl
            simp [this]; omega
          · simp only [Nat.zero_add] at hv
            rw [List.getElem?_map] at ha
            cases hq : b.data.toList[i]? with
            | none => simp [hq] at ha
            | some c =>
              rw [hq] at ha
              simp at ha
              have hlt : i < b.data.size := by simpa using (List.getElem?_eq_some_iff.1 hq).1
              have : C[i]? = some (.int .u8 c.toNat) := by
                simp only [C]
                rw [Array.getElem?_append_left (by simpa using hlt), Array.getElem?_map, ← Array.getElem?_toList, hq]
                rfl
              rw [this] at hv
              cases hv
              subst ha
              exact .int _ _
        · intro r' i _ hi
          exact .sliceRest (t := ⟨w.heap.size, 0, cap⟩) _ 1 cap hi (by simp) hcap
      · cases h
    · cases h
  case range t x =>
    split at h
    · rename_i b hu hx
      cases h
      have hx' := hρ x
      rw [hx] at hx'
      have hx'' : ρ' x = .string b := by cases hq : ρ' x <;> rw [hq] at hx' <;> cases hx'; rfl
      refine ⟨Instr.range t (ρ' x), by simp only [execOp, hop], rfl, fun w => ⟨0, _, _, by simp only [Instr.range, Sem.run_bind, run_underlying hu, Result.andThen_ok, hx'', Sem.run_pure, run_newObj, World.alloc_eq]; rfl, World.size_alloc .., ⟨rfl, rfl, rfl, fun _ => Nat.le_refl _⟩, fun b hb => alloc_old hb, fun r' _ => ⟨alloc_new w _, rfl⟩, fun r' i _ hi => ?_⟩⟩
      exact .ptr (t := ⟨w.heap.size, 0, 0⟩) hi
    · cases h

end Go.Ev
