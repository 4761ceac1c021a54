/- The abstract machine Ev, part G: operations that read memory, and that write it. -/
import Derived.Test.YtkikfnpanlcajaaDoorEvFm
set_option linter.all false
namespace Go.Ev

theorem cell_of {r : Ren} {w : World} {t : Tgt} {cs : List AV} {ro : Bool} (h : OR r w t (.cells cs ro)) {i : Nat} {a : AV} (ha : cs[i]? = some a) :
    ∃ v, w.cell? ⟨t.blk, t.base + i, none⟩ = some v ∧ VR r a v := by
  obtain ⟨C, e, fz, h1, h2, h3, h4, h5⟩ := h
  have hlt : i < cs.length := (List.getElem?_eq_some_iff.1 ha).1
  have hC : t.base + i < C.size := by omega
  exact ⟨C[t.base + i], by simp [World.cell?, h1, hC], h4 i a _ ha (Array.getElem?_eq_getElem hC)⟩

/-- the cells of a row, as values -/
theorem cells_of {r : Ren} {w : World} {t : Tgt} {cs : List AV} {ro : Bool} (h : OR r w t (.cells cs ro)) (o n : Nat) (hn : o + n ≤ cs.length) :
    ∃ vs : List Value, VRL r ((cs.drop o).take n) vs ∧ vs.length = n ∧ ∀ (j : Nat) v, vs[j]? = some v → w.cell? ((⟨t.blk, t.base + o, none⟩ : Addr).add j) = some v := by
  have hex : ∀ i, i < n → ∃ v, w.cell? ⟨t.blk, t.base + (o + i), none⟩ = some v ∧ VR r (cs.getD (o + i) .junk) v := by
    intro i hi
    have ha : cs[o + i]? = some (cs[o + i]'(by omega)) := List.getElem?_eq_getElem (by omega)
    obtain ⟨v, h1, h2⟩ := cell_of h ha
    exact ⟨v, h1, by rw [List.getD_eq_getElem?_getD, ha]; exact h2⟩
  have hc : ∀ i, ∃ v, i < n → w.cell? ⟨t.blk, t.base + (o + i), none⟩ = some v ∧ VR r (cs.getD (o + i) .junk) v := by
    intro i
    by_cases hi : i < n
    · obtain ⟨v, hv⟩ := hex i hi; exact ⟨v, fun _ => hv⟩
    · exact ⟨undef, fun h => absurd h hi⟩
  obtain ⟨f, hf⟩ : ∃ f : Nat → Value, ∀ i, i < n → w.cell? ⟨t.blk, t.base + (o + i), none⟩ = some (f i) ∧ VR r (cs.getD (o + i) .junk) (f i) := ⟨fun i => Classical.choose (hc i), fun i => Classical.choose_spec (hc i)⟩
  refine ⟨(List.range n).map f, ⟨by simp; omega, fun i a v ha hv => ?_⟩, by simp, fun j v hj => ?_⟩
  · rw [List.getElem?_take] at ha
    split at ha
    · rename_i hi
      rw [List.getElem?_map, List.getElem?_range hi] at hv
      simp at hv
      subst hv
      have := (hf i hi).2
      rw [List.getElem?_drop] at ha
      rwa [List.getD_eq_getElem?_getD, ha] at this
    · cases ha
  · have hi : j < n := by
      have := (List.getElem?_eq_some_iff.1 hj).1
      simpa using this
    rw [List.getElem?_map, List.getElem?_range hi] at hj
    simp at hj
    subst hj
    rw [Addr_add, Nat.add_assoc]
    exact (hf j hi).1

def evLoad (P : Program) (t : TypeId) (p : AV) (h : H) : Option AV :=
  match P.underlying t, p with
  | some d, .ptr (some (i, o)) =>
    match h.get i with
    | some (.cells cs _) => if aggB d then (if (P.info? t).isSome ∧ o + P.cellsOf t ≤ cs.length then some (.agg ((cs.drop o).take (P.cellsOf t))) else none) else cs[o]?
    | _ => none
  | _, _ => none

theorem run_loadVar {P : Program} {r : Ren} {h : H} {w : World} (hrel : Rel r h w) {t : TypeId} {p v : AV} {p' : Value} (hv : evLoad P t p h = some v) (hp : VR r p p') :
    ∃ a v', p' = .pointer (some a) ∧ VR r v v' ∧ (loadVar t a).run P w = .ok v' w := by
  unfold evLoad at hv
  split at hv
  · rename_i d i o hu
    cases hp with
    | ptr ht =>
      split at hv
      · rename_i cs ro hg
        have hor := hrel.obj _ _ _ ht hg
        split at hv
        · rename_i ha
          split at hv
          · rename_i hb
            obtain ⟨hsome, hb⟩ := hb
            obtain ⟨inf, hinf⟩ := Option.isSome_iff_exists.1 hsome
            cases hv
            obtain ⟨vs, h1, h2, h3⟩ := cells_of hor o _ hb
            refine ⟨_, .agg vs.toArray, rfl, .agg _ _ (by simpa using h1.1) (fun i a v ha hv => h1.2 i a v ha (by simpa using hv)), ?_⟩
            have := run_loadCells_list (P := P) w _ vs h3
            rw [h2] at this
            simp only [loadVar, Sem.run_bind, run_isAgg hu, Result.andThen_ok, ha, if_true, run_sizeOf w hinf, this, Sem.run_pure]
          · cases hv
        · rename_i ha
          obtain ⟨v', h1, h2⟩ := cell_of hor hv
          refine ⟨_, v', rfl, h2, ?_⟩
          simp only [loadVar, Sem.run_bind, run_isAgg hu, Result.andThen_ok, ha, Bool.false_eq_true, if_false, run_load, h1]
      · cases hv
  · cases hv

def evNums (l : List AV) : Option (List Int) := l.mapM fun x => match x with | .int .u8 n => some n | _ => none

theorem evNums_sim {r : Ren} : ∀ {l : List AV} {vs : List Value} {ns : List Int}, evNums l = some ns → VRL r l vs → vs = ns.map (Value.int .u8)
  | [], vs, ns, h, hv => by
    cases vs with
    | nil => simp [evNums] at h; subst h; rfl
    | cons _ _ => have := hv.1; simp at this
  | a :: l, vs, ns, h, hv => by
    obtain ⟨v, vs', rfl, h1, h2⟩ := hv.inv_cons
    simp only [evNums, List.mapM_cons, bind, Option.bind_eq_some_iff, pure, Option.some.injEq] at h
    obtain ⟨n, hn, ms, hm, rfl⟩ := h
    split at hn
    · cases hn
      cases h1
      rw [evNums_sim (l := l) hm h2]; rfl
    · cases hn

def evBytesStr (h : H) (x : AV) : Option AV :=
  match x with
  | .slice none _ _ => some (.str .empty)
  | .slice (some (i, o)) len _ =>
    if len = 0 then some (.str .empty) else
    match h.get i with
    | some (.cells cs _) => if o + len ≤ cs.length then (evNums ((cs.drop o).take len)).map fun ns => .str (strOfNums ns) else none
    | _ => none
  | _ => none

def evConvR (P : Program) (s d : TypeId) (x : AV) (h : H) : Option AV :=
  match P.underlying s, P.underlying d with
  | some (.slice e), some .string => match P.underlying e with | some (.int .u8) => evBytesStr h x | _ => none
  | _, _ => none

/-- a map's length -/
def evLenM (P : Program) (ts : List TypeId) (xs : List AV) (h : H) : Option AV :=
  match ts, xs with
  | [t], [.map m] => (match P.underlying t with | some (.map _ _) => (evMapLen m h).map fun n : Nat => AV.int .i64 (Nat.cast n) | _ => none)
  | _, _ => none

def evRead (P : Program) (ρ : Operand → AV) (op : Op) (h : H) : Option AV :=
  match op with
  | .load t a => evLoad P t (ρ a) h
  | .convert s d x => evConvR P s d (ρ x) h
  | .lookup t m k ok => evLookup P t (ρ m) (ρ k) ok h
  | .call c => (match c.callee with | .builtin .len => evLenM P c.argTypes.toList (c.args.toList.map ρ) h | _ => none)
  | _ => none

theorem run_bytesStr {P : Program} {w : World} {a : Addr} {len cap : Nat} {ns : List Int} (h : (loadCells a len).run P w = .ok (ns.map (Value.int .u8)).toArray w) :
    (Conv.bytesToString (.slice (some a) len cap)).run P w = .ok (.string (strOfNums ns)) w := by
  rw [run_bytesToString w _ len cap ns h, foldl_push_bytes]
  simp [strOfNums, ByteArray.empty, ByteArray.emptyWithCapacity]
  rfl

theorem evRead_sim {P : Program} {r : Ren} {h : H} {w : World} (hrel : Rel r h w) {ρ : Operand → AV} {ρ' : Operand → Value} (hρ : ∀ x, VR r (ρ x) (ρ' x)) (o : Oper) {v : AV} (hv : evRead P ρ o.op h = some v) :
    ∃ v', VR r v v' ∧ (execOp ρ' o).run P w = .ok (.value v') w := by
  unfold evRead at hv
  cases hop : o.op <;> simp only [hop] at hv <;> try (cases hv; done)
  case lookup t m k ok =>
    obtain ⟨v', h1, h2⟩ := evLookup_sim (P := P) hrel hv (hρ m) (hρ k)
    exact ⟨v', h1, by simp [execOp, hop, h2]⟩
  case call c =>
    split at hv
    · rename_i hb
      unfold evLenM at hv
      split at hv
      · rename_i t m hts hxs
        split at hv
        · rename_i kt e hu
          obtain ⟨n, hn, rfl⟩ := Option.map_eq_some_iff.1 hv
          have hargs := VRL_ops hρ c.args
          rw [hxs] at hargs
          obtain ⟨m', vs', hcs, hm, hr⟩ := hargs.inv_cons
          have hvs : vs' = [] := List.eq_nil_of_length_eq_zero hr.1.symm
          subst hvs
          have e1 : c.argTypes = #[t] := by rw [← Array.toList_inj]; simpa using hts
          have e2 : c.args.map ρ' = #[m'] := by rw [← Array.toList_inj]; simpa using hcs
          have hlen := evMapLen_sim (P := P) (ty := o.type) hrel hu hn hm
          exact ⟨_, .int _ _, by simp [execOp, hop, resolve, hb, invoke, builtin, e1, e2, hlen, goInt]⟩
        · cases hv
      · cases hv
    · cases hv
  case load t a =>
    obtain ⟨ad, v', h1, h2, h3⟩ := run_loadVar hrel hv (hρ a)
    exact ⟨v', h2, by simp only [execOp, hop, h1, Instr.loadAt, Instr.sureAddr, Sem.run_bind, Sem.run_pure, Result.andThen_ok, h3]⟩
  case convert s d x =>
    unfold evConvR at hv
    split at hv
    · rename_i e hs hd
      split at hv
      · rename_i he
        have hx := hρ x
        have key : ∃ v', VR r v v' ∧ ∃ a l c, ρ' x = .slice a l c ∧ (Conv.bytesToString (ρ' x)).run P w = .ok v' w := by
          unfold evBytesStr at hv
          generalize ρ x = y at hv hx
          generalize ρ' x = y' at hx
          split at hv
          · cases hv
            cases hx
            exact ⟨_, .str _, _, _, _, rfl, by simp [Conv.bytesToString]⟩
          · rename_i i o' len c
            have zero : ∀ (a : Addr) c', (Conv.bytesToString (.slice (some a) 0 c')).run P w = .ok (.string .empty) w := fun a c' =>
              run_bytesStr (ns := []) (by simp [loadCells, loadCellsFrom])
            split at hv
            · rename_i h0
              subst h0
              cases hv
              cases hx <;> exact ⟨_, .str _, _, _, _, rfl, zero _ _⟩
            · rename_i h0
              split at hv
              · rename_i cs ro hg
                split at hv
                · rename_i hb
                  obtain ⟨ns, hn, rfl⟩ := Option.map_eq_some_iff.1 hv
                  have main : ∀ (t : Tgt) c', r i = some t → (Conv.bytesToString (.slice (some ⟨t.blk, t.base + o', none⟩) len c')).run P w = .ok (.string (strOfNums ns)) w := by
                    intro t c' ht
                    obtain ⟨vs, h1, h2, h3⟩ := cells_of (hrel.obj _ _ _ ht hg) o' len hb
                    have h4 := evNums_sim hn h1
                    subst h4
                    have h5 := run_loadCells_list (P := P) w _ _ h3
                    rw [h2] at h5
                    exact run_bytesStr h5
                  cases hx with
                  | slice _ _ ht => exact ⟨_, .str _, _, _, _, rfl, main _ _ ht⟩
                  | sliceRest _ _ _ ht _ _ => exact ⟨_, .str _, _, _, _, rfl, main _ _ ht⟩
                  | sliceBare _ => exact absurd rfl h0
                  | sliceEnd _ _ _ => exact absurd rfl h0
                · cases hv
              · cases hv
          · cases hv
        obtain ⟨v', hv', a, l, c, hx', hrun⟩ := key
        refine ⟨v', hv', ?_⟩
        rw [hx'] at hrun
        simp only [execOp, hop, hx', Sem.run_bind, run_convert_bytes_string w s d e a l c hs he hd, hrun, Result.andThen_ok, Sem.run_pure]
      · cases hv
    · cases hv

/-! ### writing -/

def spl : List AV → Nat → List AV → List AV
  | l, _, [] => l
  | l, o, x :: xs => spl (l.set o x) (o + 1) xs

theorem length_spl : ∀ (xs : List AV) (l : List AV) (o : Nat), (spl l o xs).length = l.length
  | [], _, _ => rfl
  | x :: xs, l, o => by rw [spl, length_spl xs]; simp

theorem spl_get : ∀ (xs : List AV) (l : List AV) (o : Nat), o + xs.length ≤ l.length → ∀ k, (spl l o xs)[k]? = if o ≤ k ∧ k < o + xs.length then xs[k - o]? else l[k]?
  | [], l, o, _, k => by rw [spl, if_neg (by simp <;> omega)]
  | x :: xs, l, o, h, k => by
    simp only [List.length_cons] at h
    rw [spl, spl_get xs _ _ (by simp; omega)]
    simp only [List.length_cons]
    by_cases hk0 : k = o
    · subst hk0
      rw [if_neg (by omega), if_pos (by omega)]
      simp [show k < l.length by omega]
    · by_cases hk1 : o + 1 ≤ k ∧ k < o + 1 + xs.length
      · rw [if_pos hk1, if_pos (by omega)]
        obtain ⟨j, hj⟩ : ∃ j, k - o = j + 1 := ⟨k - o - 1, by omega⟩
        rw [hj, List.getElem?_cons_succ]
        congr 1
        omega
      · rw [if_neg hk1, if_neg (by omega), List.getElem?_set_ne (by omega)]

theorem OR_wrote {r : Ren} {w w' : World} {t : Tgt} {cs xs : List AV} {vs : List Value} {o : Nat} (h : OR r w t (.cells cs false)) (hw : Wrote w w' t.blk (t.base + o) vs) (hx : VRL r xs vs) (hl : o + xs.length ≤ cs.length) :
    OR r w' t (.cells (spl cs o xs) false) := by
  obtain ⟨C, e, fz, h1, h2, h3, h4, h5⟩ := h
  obtain ⟨C', hc', hs', hk⟩ := hw.here _ _ _ h1
  refine ⟨C', e, fz, hc', by omega, by rw [length_spl]; exact h3, fun i a v ha hv => ?_, fun hr off ho => h5 hr off (by omega)⟩
  rw [spl_get _ _ _ hl] at ha
  rw [hk, ← hx.1] at hv
  by_cases hi : o ≤ i ∧ i < o + xs.length
  · rw [if_pos hi] at ha
    rw [if_pos (by omega), show t.base + i - (t.base + o) = i - o by omega] at hv
    exact hx.2 _ a v ha hv
  · rw [if_neg hi] at ha
    rw [if_neg (by omega)] at hv
    exact h4 i a v ha hv

theorem OR_room {r : Ren} {w : World} {t : Tgt} {cs : List AV} (h : OR r w t (.cells cs false)) : ∃ C e fz, w.heap[t.blk]? = some (.cells C e fz) ∧ t.row ≤ C.size ∧ t.base + cs.length ≤ t.row ∧ ∀ off, off < C.size → ¬ (fz.1 ≤ off ∧ off < fz.2) := by
  obtain ⟨C, e, fz, h1, h2, h3, h4, h5⟩ := h
  exact ⟨C, e, fz, h1, h2, h3, h5 rfl⟩

/-- some cells of one of our rows are written -/
theorem write_row {P : Program} {r : Ren} {h : H} {w : World} (hrel : Rel r h w) {i : Nat} {t : Tgt} (ht : r i = some t) {cs : List AV} (hg : h.get i = some (.cells cs false)) {xs : List AV} {vs : List Value} (hx : VRL r xs vs)
    (hcell : xs.all isCell = true) {o : Nat} (hl : o + xs.length ≤ cs.length) :
    ∃ w', (storeCells ⟨t.blk, t.base + o, none⟩ vs).run P w = .ok () w' ∧ Post r h w r (h.set i (.cells (spl cs o xs) false)) w' := by
  have hor := hrel.obj _ _ _ ht hg
  obtain ⟨C, e, fz, h1, h2, h3, h5⟩ := OR_room hor
  obtain ⟨w', hr, hw⟩ := run_storeCells_blk (P := P) (b := t.blk) (o := t.base + o) vs 0 w C e fz h1 (by rw [← hx.1]; omega) h5 (isCell_all hcell hx)
  refine ⟨w', hr, Post.of_set hrel ht hg rfl rfl hw.size hw.env hw.other (OR_wrote hor (by simpa using hw) hx hl)⟩

def evStore (P : Program) (t : TypeId) (p x : AV) (h : H) : Option H :=
  match acells x, p with
  | some xs, .ptr (some (i, o)) =>
    match h.get i with
    | some (.cells cs false) => if (P.info? t).isSome ∧ xs.length = P.cellsOf t ∧ o + xs.length ≤ cs.length ∧ xs.all isCell = true then some (h.set i (.cells (spl cs o xs) false)) else none
    | _ => none
  | _, _ => none

structure Full (P : Program) (r : Ren) (h : H) (w : World) (s : Sem Next) (v : AV) (h' : H) : Prop where
  out : ∃ r' v' w' n, s.run P w = .ok n w' ∧ (n = .value v' ∨ (n = .skip ∧ v' = undef)) ∧ VR r' v v' ∧ Post r h w r' h' w'

theorem evStore_sim {P : Program} {r : Ren} {h h' : H} {w : World} (hrel : Rel r h w) {t : TypeId} {p x : AV} {p' x' : Value} (hs : evStore P t p x h = some h') (hp : VR r p p') (hx : VR r x x') :
    ∃ w', (Instr.storeAt t p' x').run P w = .ok () w' ∧ Post r h w r h' w' := by
  unfold evStore at hs
  split at hs
  · rename_i xs i o hxs
    split at hs
    · rename_i cs hg
      split at hs
      · rename_i hb
        obtain ⟨hsome, hsz, hl, hcell⟩ := hb
        obtain ⟨inf, hinf⟩ := Option.isSome_iff_exists.1 hsome
        cases hs
        have hv := acells_sim hxs hx
        cases hp with
        | ptr ht =>
          obtain ⟨w', hr, hpost⟩ := write_row (P := P) hrel ht hg hv hcell hl
          refine ⟨w', ?_, hpost⟩
          have hsz' : x'.cells.size = P.cellsOf t := by rw [← hsz]; simpa using hv.1.symm
          simp only [Instr.storeAt, Instr.sureAddr, Sem.run_bind, Sem.run_pure, Result.andThen_ok, storeVar, run_sizeOf w hinf]
          rw [if_neg (by simp [hsz'])]
          simpa using hr
      · cases hs
    · cases hs
  · cases hs

/-! ### append, copy -/

def evSrc (size : Nat) (x : AV) (h : H) : Option (Nat × List AV) :=
  match x with
  | .slice none 0 (.known 0) => some (0, [])
  | .slice (some (i, o)) n _ =>
    if n = 0 then some (0, []) else
    match h.get i with
    | some (.cells cs _) => if o + n * size ≤ cs.length then some (n, (cs.drop o).take (n * size)) else none
    | _ => none
  | .str s => if size = 1 then some (s.size, s.data.toList.map fun c => .int .u8 c.toNat) else none
  | _ => none

/-- what is to be appended, or copied: so many elements, of these cells, in every world with these blocks -/
theorem evSrc_sim {P : Program} {r : Ren} {h : H} {w : World} (hrel : Rel r h w) {size n : Nat} {x : AV} {x' : Value} {xs : List AV} (hs : evSrc size x h = some (n, xs)) (hx : VR r x x') :
    ∃ vs : List Value, VRL r xs vs ∧ vs.length = n * size ∧ (∀ w', w'.heap = w.heap → (Builtin.lenOf x').run P w' = .ok n w' ∧ ∀ m, m ≤ n → (Builtin.firstCells size m x').run P w' = .ok (vs.take (m * size)).toArray w') := by
  unfold evSrc at hs
  split at hs
  · cases hs
    cases hx
    exact ⟨[], .nil, by simp, fun w' _ => ⟨by simp [Builtin.lenOf], fun m hm => by (obtain rfl : m = 0 := (by omega)); simp [Builtin.firstCells]⟩⟩
  · rename_i i o len c
    split at hs
    · rename_i h0
      subst h0
      cases hs
      have key : ∀ (a : Addr) c', (∀ w', w'.heap = w.heap → (Builtin.lenOf (.slice (some a) 0 c')).run P w' = .ok 0 w' ∧ ∀ m, m ≤ 0 → (Builtin.firstCells size m (.slice (some a) 0 c')).run P w' = .ok (([] : List Value).take (m * size)).toArray w') :=
        fun a c' w' _ => ⟨by simp [Builtin.lenOf], fun m hm => by (obtain rfl : m = 0 := (by omega)); simp [Builtin.firstCells, loadCells, loadCellsFrom]⟩
      cases hx <;> exact ⟨[], .nil, by simp, key _ _⟩
    · rename_i h0
      split at hs
      · rename_i cs ro hg
        split at hs
        · rename_i hb
          cases hs
          have main : ∀ (t : Tgt) c', r i = some t → ∃ vs : List Value, VRL r ((cs.drop o).take (n * size)) vs ∧ vs.length = n * size ∧
              (∀ w', w'.heap = w.heap → (Builtin.lenOf (.slice (some ⟨t.blk, t.base + o, none⟩) n c')).run P w' = .ok n w' ∧ ∀ m, m ≤ n → (Builtin.firstCells size m (.slice (some ⟨t.blk, t.base + o, none⟩) n c')).run P w' = .ok (vs.take (m * size)).toArray w') := by
            intro t c' ht
            obtain ⟨vs, h1, h2, h3⟩ := cells_of (hrel.obj _ _ _ ht hg) o _ hb
            refine ⟨vs, h1, h2, fun w' hw' => ⟨by simp [Builtin.lenOf], fun m hm => ?_⟩⟩
            have hms : m * size ≤ n * size := Nat.mul_le_mul_right _ hm
            have h4 := run_loadCells_list (P := P) w' ⟨t.blk, t.base + o, none⟩ (vs.take (m * size)) (fun j v hj => by
              rw [List.getElem?_take] at hj
              split at hj
              · have := h3 j v hj
                unfold World.cell? at this ⊢
                rw [hw']; exact this
              · cases hj)
            rw [List.length_take, h2, Nat.min_eq_left hms] at h4
            simpa [Builtin.firstCells] using h4
          cases hx with
          | slice _ _ ht => exact main _ _ ht
          | sliceRest _ _ _ ht _ _ => exact main _ _ ht
          | sliceBare _ => exact absurd rfl h0
          | sliceEnd _ _ _ => exact absurd rfl h0
        · cases hs
      · cases hs
  · rename_i s
    split at hs
    · rename_i h1
      subst h1
      cases hs
      cases hx
      have hlen : s.data.toList.length = s.size := rfl
      refine ⟨s.data.toList.map fun c => .int .u8 c.toNat, VRL.map _ _ _ fun c _ => .int _ _, by simp [hlen], fun w' _ => ⟨by simp [Builtin.lenOf], fun m hm => ?_⟩⟩
      simp only [Builtin.firstCells, Sem.run_pure]
      congr 1
      apply Array.ext'
      simp [ByteArray.data_extract, List.map_take]
    · cases hs
  · cases hs

theorem not_int {d : TypeDesc} (hd : ∀ k, d ≠ .int k) : (match d with | .int _ => true | _ => false) = false := by
  cases d <;> first | rfl | exact absurd rfl (hd _)

/-- append, where it grows: a new row -/
theorem run_append_new {P : Program} {w : World} {ts : Array TypeId} {ty t1 t2 e : TypeId} {d2 : TypeDesc} {inf : TypeInfo} {z : Value} (h1 : ts[0]? = some t1) (h2 : ts[1]? = some t2) (hu1 : P.underlying t1 = some (.slice e)) (hu2 : P.underlying t2 = some d2)
    (hd2 : ∀ k, d2 ≠ .int k) (hi : P.info? e = some inf) (hz : inf.zero = some z) (hzs : z.cells.size = inf.size) {base : Option Addr} {sLen sCap n : Nat} {x' : Value} {olds news : List Value}
    (ho : ∀ w', w'.heap = w.heap → (Builtin.firstCells inf.size sLen (.slice base sLen sCap)).run P w' = .ok olds.toArray w') (hol : olds.length = sLen * inf.size)
    (hn : ∀ w', w'.heap = w.heap → (Builtin.lenOf x').run P w' = .ok n w' ∧ (Builtin.firstCells inf.size n x').run P w' = .ok news.toArray w') (hnl : news.length = n * inf.size)
    (hg : sCap < sLen + n) (hb : (sLen + n) * inf.bytes ≤ 140737488355328) (h63 : sLen + n ≤ 9223372036854775807) :
    ∃ cap w', sLen + n ≤ cap ∧ (Builtin.append_ ts ty #[.slice base sLen sCap, x']).run P w = .ok (.slice (some ⟨w.heap.size, 0, none⟩) (sLen + n) cap) w' ∧
      Env w w' ∧ ∃ C : Array Value, w'.heap = w.heap.push (.cells C e) ∧ C.size = cap * inf.size ∧ ∀ k, k < (sLen + n) * inf.size → C[k]? = (olds ++ news)[k]? := by
  have hcap := grownCap_ge w (sLen + n) sCap e
  generalize hcp : grownCap w (sLen + n) sCap e = cap at hcap
  have hcp' : (Question.appendCap (sLen + n) sCap e).cut (w.tape w.drawn (.appendCap (sLen + n) sCap e)) = cap := hcp
  have hfit := growslice_fits (bytes := inf.bytes) hg hb
  have h63' : ¬ (9223372036854775807 < ((sLen : Int) + (n : Int))) := by omega
  have hng : ¬ (sLen + n ≤ sCap) := by omega
  have h48 : ¬ (281474976710656 < Builtin.nextslicecap (sLen + n) sCap * inf.bytes) := by omega
  have hl := (hn w rfl).1
  have hfn := (hn w.drew rfl).2
  have hfo := ho w.drew rfl
  refine ⟨cap, w.drew.alloc (.cells (olds.toArray ++ news.toArray ++ Builtin.zeroCells z.cells (cap - (sLen + n))) e), hcap, ?_, ⟨rfl, rfl, rfl, fun _ => Nat.le_succ _⟩, olds.toArray ++ news.toArray ++ Builtin.zeroCells z.cells (cap - (sLen + n)), rfl, ?_, ?_⟩
  · simp only [Builtin.append_, h1, h2, List.getElem?_toArray, List.getElem?_cons_zero, List.getElem?_cons_succ, Sem.run_bind, run_underlying hu1, run_underlying hu2, Result.andThen_ok, Sem.run_pure, run_sizeOf w hi, Bool.false_eq_true, if_false, hl]
    have hsz : P.cellsOf e = inf.size := by simp [Program.cellsOf, hi]
    rw [if_neg hng]
    simp [typeInfo, hi, h63', h48, hcp', Question.forced, hsz, hfo, hfn, zeroValue, hz, newRow]
    congr 2
    apply Array.ext'
    simp [List.append_assoc]
  · simp only [Array.size_append, List.size_toArray, size_zeroCells, hzs, hol, hnl, ← Nat.add_mul]
    congr 1
    omega
  · intro k hk
    have hlen : (olds ++ news).length = (sLen + n) * inf.size := by simp [hol, hnl, Nat.add_mul]
    rw [Array.getElem?_append_left (by simp [hol, hnl, ← Nat.add_mul]; exact hk)]
    rw [← Array.getElem?_toList]
    simp

/-- append, where there is room -/
theorem run_append_room {P : Program} {w w' : World} {ts : Array TypeId} {ty t1 t2 e : TypeId} {d2 : TypeDesc} {inf : TypeInfo} (h1 : ts[0]? = some t1) (h2 : ts[1]? = some t2) (hu1 : P.underlying t1 = some (.slice e)) (hu2 : P.underlying t2 = some d2)
    (hd2 : ∀ k, d2 ≠ .int k) (hi : P.info? e = some inf) {base : Option Addr} {sLen sCap n : Nat} {x' : Value} {news : List Value}
    (hn : (Builtin.lenOf x').run P w = .ok n w ∧ (Builtin.firstCells inf.size n x').run P w = .ok news.toArray w)
    (hg : sLen + n ≤ sCap) (hst : ∀ a, base = some a → (storeCells (a.add (sLen * inf.size)) news).run P w = .ok () w') (hnone : base = none → w' = w) :
    (Builtin.append_ ts ty #[.slice base sLen sCap, x']).run P w = .ok (.slice base (sLen + n) sCap) w' := by
  have hsz : P.cellsOf e = inf.size := by simp [Program.cellsOf, hi]
  simp only [Builtin.append_, h1, h2, List.getElem?_toArray, List.getElem?_cons_zero, List.getElem?_cons_succ, Sem.run_bind, run_underlying hu1, run_underlying hu2, Result.andThen_ok, Sem.run_pure, run_sizeOf w hi, Bool.false_eq_true, if_false, hn.1]
  rw [if_pos hg]
  cases base with
  | none => simp [hsz, hn.2, hnone rfl]
  | some a => simp [hsz, hn.2, hst a rfl]


def isIntD : TypeDesc → Bool
  | .int _ => true
  | _ => false

def evApp (size bytes n : Nat) (news : List AV) (s : AV) (h : H) : Option (AV × H) :=
  match s with
  | .slice none 0 (.known 0) =>
    if n = 0 then some (s, h) else
    if n * bytes ≤ 140737488355328 ∧ n ≤ 9223372036854775807 then some (.slice (some (h.next, 0)) n (.rest size), h.new (.cells news false)) else none
  | .slice (some (i, o)) len (.known c) =>
    if len + n ≤ c then
      if n = 0 then some (s, h) else
      match h.get i with
      | some (.cells old false) => if o + len * size + news.length ≤ old.length ∧ news.all isCell = true then some (.slice (some (i, o)) (len + n) (.known c), h.set i (.cells (spl old (o + len * size) news) false)) else none
      | _ => none
    else
    if (len + n) * bytes ≤ 140737488355328 ∧ len + n ≤ 9223372036854775807 then
      match h.get i with
      | some (.cells old _) => if o + len * size ≤ old.length then some (.slice (some (h.next, 0)) (len + n) (.rest size), h.new (.cells ((old.drop o).take (len * size) ++ news) false)) else none
      | _ => none
    else none
  | .slice (some (i, o)) len (.rest sz) =>
    if n = 0 then some (s, h) else
    if sz = size ∧ (len + n) * bytes ≤ 140737488355328 ∧ len + n ≤ 9223372036854775807 then
      match h.get i with
      | some (.cells old false) => if o + len * size = old.length ∧ news.all isCell = true then some (.slice (some (h.next, 0)) (len + n) (.rest size), (h.kill i).new (.cells (old.drop o ++ news) false)) else none
      | _ => none
    else none
  | _ => none

def evAppend (P : Program) (ts : List TypeId) (xs : List AV) (h : H) : Option (AV × H) :=
  match ts[0]?, ts[1]?, xs with
  | some t1, some t2, [s, x] =>
    match P.underlying t1, P.underlying t2 with
    | some (.slice e), some d2 =>
      if isIntD d2 then none else
      (P.info? e).bind fun inf => (evZero P e).bind fun zs => (evSrc inf.size x h).bind fun q =>
      if zs.length = inf.size ∧ 0 < inf.size then evApp inf.size inf.bytes q.1 q.2 s h else none
    | _, _ => none
  | _, _, _ => none

/-- a new row that append has made -/
theorem OR_grown {r : Ren} {w w' : World} {C : Array Value} {e : TypeId} {cs : List AV} {vs : List Value} {cap size n : Nat} (hp : w'.heap = w.heap.push (.cells C e)) (hC : C.size = cap * size) (hcap : n ≤ cap)
    (hx : VRL r cs vs) (hl : vs.length = n * size) (hk : ∀ k, k < n * size → C[k]? = vs[k]?) : ∀ r' : Ren, r.le r' → OR r' w' ⟨w.heap.size, 0, cap * size⟩ (.cells cs false) := by
  intro r' hr
  have hle : n * size ≤ cap * size := Nat.mul_le_mul_right _ hcap
  refine ⟨C, e, (0, 0), by simp [hp], by simp [hC], by simp only [Nat.zero_add]; rw [hx.1, hl]; exact hle, fun i a v ha hv => ?_, fun _ off _ => by simp⟩
  simp only [Nat.zero_add] at hv
  have hlt : i < cs.length := (List.getElem?_eq_some_iff.1 ha).1
  rw [hk i (by rw [← hl, ← hx.1]; exact hlt)] at hv
  exact (hx.2 i a v ha hv).mono hr

theorem Post_grown {r : Ren} {h : H} {w w' : World} (henv : Env w w') (hrel : Rel r h w) (hno : r h.next = none) {C : Array Value} {e : TypeId} {cs : List AV} {vs : List Value} {cap size n : Nat} (hp : w'.heap = w.heap.push (.cells C e)) (hC : C.size = cap * size) (hcap : n ≤ cap)
    (hx : VRL r cs vs) (hl : vs.length = n * size) (hk : ∀ k, k < n * size → C[k]? = vs[k]?) :
    Post r h w (r.put h.next ⟨w.heap.size, 0, cap * size⟩) (h.new (.cells cs false)) w' ∧ VR (r.put h.next ⟨w.heap.size, 0, cap * size⟩) (.slice (some (h.next, 0)) n (.rest size)) (.slice (some ⟨w.heap.size, 0, none⟩) n cap) :=
  ⟨Post.of_new (base := 0) (row := cap * size) hrel hno (by simp [hp]) henv (fun b hb => by rw [hp, Array.getElem?_push, if_neg (Nat.ne_of_lt hb)]) (OR_grown hp hC hcap hx hl hk),
   .sliceRest (t := ⟨w.heap.size, 0, cap * size⟩) _ _ cap (by simp [Ren.put]) (by simp) hcap⟩

theorem evApp_sim {P : Program} {r : Ren} {h h' : H} {w : World} (hrel : Rel r h w) (hfree : ∀ i, h.next ≤ i → i < h'.next → r i = none) {ts : Array TypeId} {ty t1 t2 e : TypeId} {d2 : TypeDesc} {inf : TypeInfo} {z : Value}
    (h1 : ts[0]? = some t1) (h2 : ts[1]? = some t2) (hu1 : P.underlying t1 = some (.slice e)) (hu2 : P.underlying t2 = some d2) (hd2 : ∀ k, d2 ≠ .int k) (hinf : P.info? e = some inf) (hz : inf.zero = some z) (hzs : z.cells.size = inf.size)
    {n : Nat} {news : List AV} {nv : List Value} {s v : AV} {s' x' : Value} (hnv : VRL r news nv) (hnl : nv.length = n * inf.size)
    (hn1 : ∀ w', w'.heap = w.heap → (Builtin.lenOf x').run P w' = .ok n w' ∧ (Builtin.firstCells inf.size n x').run P w' = .ok nv.toArray w')
    (hs : evApp inf.size inf.bytes n news s h = some (v, h')) (hvs : VR r s s') :
    ∃ r' v' w', (Builtin.append_ ts ty #[s', x']).run P w = .ok v' w' ∧ VR r' v v' ∧ Post r h w r' h' w' := by
  have zero : n = 0 → ∀ base len cap, len ≤ cap → (Builtin.append_ ts ty #[.slice base len cap, x']).run P w = .ok (.slice base len cap) w := by
    intro h0 base len cap hle
    subst h0
    have hnv0 : nv = [] := List.eq_nil_of_length_eq_zero (by simpa using hnl)
    subst hnv0
    exact run_append_room (n := 0) (ty := ty) h1 h2 hu1 hu2 hd2 hinf (hn1 w rfl) (by omega) (fun a _ => rfl) (fun _ => rfl)
  unfold evApp at hs
  split at hs
  · cases hvs
    split at hs
    · rename_i h0
      cases hs
      exact ⟨r, _, w, zero h0 _ _ _ (Nat.le_refl _), .nilSlice, Post.refl hrel⟩
    · rename_i h0
      split at hs
      · rename_i hb
        cases hs
        obtain ⟨cap, w', hcap, hrun, henv, C, hC1, hC2, hC3⟩ := run_append_new (ty := ty) (olds := []) h1 h2 hu1 hu2 hd2 hinf hz hzs (base := none) (sLen := 0) (sCap := 0) (fun w' _ => by simp [Builtin.firstCells]) (by simp) hn1 hnl (by omega) (by simpa using hb.1) (by simpa using hb.2)
        simp only [Nat.zero_add, List.nil_append] at hrun hC3 hcap
        obtain ⟨hp, hv⟩ := Post_grown henv hrel (hfree _ (Nat.le_refl _) (by simp [H.new])) hC1 hC2 hcap hnv hnl hC3
        exact ⟨_, _, w', hrun, hv, hp⟩
      · cases hs
  · rename_i i o len c
    cases hvs with
    | sliceBare a =>
      split at hs
      · rename_i hle
        have h0 : n = 0 := by omega
        rw [if_pos h0] at hs
        cases hs
        exact ⟨r, _, w, zero h0 _ _ _ (Nat.le_refl _), .sliceBare a, Post.refl hrel⟩
      · rename_i hle
        split at hs
        · rename_i hb
          split at hs
          · rename_i old ro hg
            split at hs
            · rename_i hlo
              cases hs
              obtain ⟨cap, w', hcap, hrun, henv, C, hC1, hC2, hC3⟩ := run_append_new (ty := ty) (olds := []) h1 h2 hu1 hu2 hd2 hinf hz hzs (base := some a) (sLen := 0) (sCap := 0) (fun w' hw' => by simp [Builtin.firstCells, loadCells, loadCellsFrom]) (by simp) hn1 hnl (by omega) hb.1 hb.2
              obtain ⟨hp, hv⟩ := Post_grown henv hrel (hfree _ (Nat.le_refl _) (by simp [H.new])) hC1 hC2 hcap hnv (by simp [hnl]) (by simpa using hC3)
              refine ⟨_, _, w', hrun, hv, ?_⟩
              simpa using hp
            · cases hs
          · cases hs
        · cases hs
    | slice _ _ ht =>
    split at hs
    · rename_i hle
      split at hs
      · rename_i h0
        cases hs
        exact ⟨r, _, w, zero h0 _ _ _ (by omega), .slice _ _ ht, Post.refl hrel⟩
      · rename_i h0
        split at hs
        · rename_i old hg
          split at hs
          · rename_i hb
            cases hs
            obtain ⟨w', hw', hpost⟩ := write_row (P := P) hrel ht hg hnv hb.2 (o := o + len * inf.size) hb.1
            refine ⟨r, _, w', run_append_room (n := n) (ty := ty) h1 h2 hu1 hu2 hd2 hinf (hn1 w rfl) hle (fun a ha => ?_) (fun h => by cases h), .slice _ _ ht, hpost⟩
            cases ha
            rw [Addr_add, Nat.add_assoc]
            exact hw'
          · cases hs
        · cases hs
    · rename_i hle
      split at hs
      · rename_i hb
        split at hs
        · rename_i old ro hg
          split at hs
          · rename_i hlo
            cases hs
            obtain ⟨ov, ho1, ho2, ho3⟩ := cells_of (hrel.obj _ _ _ ht hg) o (len * inf.size) hlo
            obtain ⟨cap, w', hcap, hrun, henv, C, hC1, hC2, hC3⟩ := run_append_new (ty := ty) (olds := ov) h1 h2 hu1 hu2 hd2 hinf hz hzs (base := some ⟨_, _, none⟩) (sLen := len) (sCap := c) (fun w' hw' => by
              refine run_firstCells_some w' _ _ _ _ _ ov ho2 fun j v hj => ?_
              have := ho3 j v hj
              unfold World.cell? at this ⊢
              rw [hw']; exact this) ho2 hn1 hnl (by omega) hb.1 hb.2
            obtain ⟨hp, hv⟩ := Post_grown henv hrel (hfree _ (Nat.le_refl _) (by simp [H.new])) hC1 hC2 hcap (ho1.append hnv) (by simp [ho2, hnl, Nat.add_mul]) hC3
            exact ⟨_, _, w', hrun, hv, hp⟩
          · cases hs
        · cases hs
      · cases hs
  · rename_i i o len sz
    split at hs
    · rename_i h0
      cases hs
      cases hvs with
      | sliceRest _ _ cap ht hc hl => exact ⟨r, _, w, zero h0 _ _ _ hl, .sliceRest _ _ _ ht hc hl, Post.refl hrel⟩
      | sliceEnd a _ ht => exact ⟨r, _, w, zero h0 _ _ _ (Nat.le_refl _), .sliceEnd a _ ht, Post.refl hrel⟩
    · rename_i h0
      split at hs
      · rename_i hb
        obtain ⟨rfl, hb1, hb2⟩ := hb
        split at hs
        · rename_i old hg
          split at hs
          · rename_i ho
            obtain ⟨ho, hcell⟩ := ho
            cases hs
            have hno : r h.next = none := hfree _ (Nat.le_refl _) (by simp [H.new, H.kill])
            have hold : (old.drop o).length = len * inf.size := by simp; omega
            -- where it grows into a new row
            have grows : ∀ (t0 : Tgt) (base : Addr) (cap : Nat) (ov : List Value), r i = some t0 → VRL r (old.drop o) ov → ov.length = len * inf.size → (∀ w', w'.heap = w.heap → (Builtin.firstCells inf.size len (.slice (some base) len cap)).run P w' = .ok ov.toArray w') → cap < len + n →
                ∃ r' v' w', (Builtin.append_ ts ty #[.slice (some base) len cap, x']).run P w = .ok v' w' ∧ VR r' (.slice (some (h.next, 0)) (len + n) (.rest inf.size)) v' ∧ Post r h w r' ((h.kill i).new (.cells (old.drop o ++ news) false)) w' := by
              intro t0 base cap ov ht0 ho1 ho2 ho3 hlt
              obtain ⟨cap', w', hcap, hrun, henv, C, hC1, hC2, hC3⟩ := run_append_new (ty := ty) (olds := ov) h1 h2 hu1 hu2 hd2 hinf hz hzs (base := some base) (sLen := len) (sCap := cap) ho3 ho2 hn1 hnl hlt hb1 hb2
              have hk := Post.of_kill ht0 hrel
              obtain ⟨hp, hv⟩ := Post_grown (h := h.kill i) henv hk.rel hno hC1 hC2 hcap (ho1.append hnv) (by simp [ho2, hnl, Nat.add_mul]) hC3
              exact ⟨_, _, w', hrun, hv, hk.trans hp⟩
            cases hvs with
            | sliceEnd a _ ht =>
              exact grows _ a 0 [] ht (by rw [List.eq_nil_of_length_eq_zero (l := old.drop o) (by simpa using hold)]; exact .nil) (by simp) (fun w' _ => by simp [Builtin.firstCells, loadCells, loadCellsFrom]) (by omega)
            | sliceRest _ _ cap ht hc hl =>
              rename_i t
              have hor := hrel.obj _ _ _ ht hg
              obtain ⟨ov, ho1, ho2, ho3⟩ := cells_of hor o (len * inf.size) (by omega)
              rw [List.take_of_length_le (by omega)] at ho1
              by_cases hfit : len + n ≤ cap
              · -- in its place
                obtain ⟨C, e', fz, g1, g2, g3, g5⟩ := OR_room hor
                have hmul : (len + n) * inf.size ≤ cap * inf.size := Nat.mul_le_mul_right _ hfit
                rw [Nat.add_mul] at hmul
                obtain ⟨w', hst, hw⟩ := run_storeCells_blk (P := P) (b := t.blk) (o := t.base + o + len * inf.size) nv 0 w C e' fz g1 (by omega) g5 (isCell_all hcell hnv)
                simp only [Nat.add_zero] at hw
                refine ⟨r.put h.next ⟨t.blk, t.base + o, t.row⟩, _, w', run_append_room (n := n) (ty := ty) h1 h2 hu1 hu2 hd2 hinf (hn1 w rfl) hfit (fun a ha => ?_) (fun h => by cases h), ?_, Post.of_again hrel ht hg rfl rfl hno rfl hw.size hw.env hw.other fun r' hr' => ?_⟩
                · cases ha
                  rw [Addr_add]
                  exact hst
                · exact .sliceRest (t := ⟨t.blk, t.base + o, t.row⟩) _ _ cap (by simp [Ren.put]) (by simpa using hc) hfit
                · obtain ⟨C0, e0, fz0, q1, q2, q3, q4, q5⟩ := hor
                  rw [q1] at g1
                  cases g1
                  obtain ⟨C', c1, c2, c3⟩ := hw.here _ _ _ q1
                  refine ⟨C', e', fz, c1, by simp; omega, ?_, fun k a v ha hv => ?_, fun _ off hoff => g5 off (by omega)⟩
                  · simp only [List.length_append, hold, hnv.1, hnl]; omega
                  · simp only at hv
                    rw [c3] at hv
                    rcases Nat.lt_or_ge k (len * inf.size) with hk | hk
                    · rw [if_neg (by omega)] at hv
                      rw [List.getElem?_append_left (by omega), List.getElem?_drop] at ha
                      exact (q4 (o + k) a v ha (by rw [← Nat.add_assoc]; exact hv)).mono hr'
                    · rw [List.getElem?_append_right (by omega), hold] at ha
                      have hk2 : k - len * inf.size < news.length := (List.getElem?_eq_some_iff.1 ha).1
                      rw [hnv.1] at hk2
                      rw [if_pos (by omega), show t.base + o + k - (t.base + o + len * inf.size) = k - len * inf.size by omega] at hv
                      exact (hnv.2 _ a v ha hv).mono hr'
              · exact grows _ _ cap ov ht ho1 ho2 (fun w' hw' => by
                  refine run_firstCells_some w' _ _ _ _ _ ov ho2 fun j v hj => ?_
                  have := ho3 j v hj
                  unfold World.cell? at this ⊢
                  rw [hw']; exact this) (by omega)
          · cases hs
        · cases hs
      · cases hs
  · cases hs

theorem evAppend_sim {P : Program} {r : Ren} {h h' : H} {w : World} (hrel : Rel r h w) (hfree : ∀ i, h.next ≤ i → i < h'.next → r i = none) {ts : Array TypeId} {ty : TypeId} {xs : List AV} {xs' : Array Value} {v : AV}
    (hs : evAppend P ts.toList xs h = some (v, h')) (hx : VRL r xs xs'.toList) :
    ∃ r' v' w', (Builtin.append_ ts ty xs').run P w = .ok v' w' ∧ VR r' v v' ∧ Post r h w r' h' w' := by
  unfold evAppend at hs
  split at hs
  · rename_i t1 t2 s x ht1 ht2
    obtain ⟨s', ys, hxs, hvs, hx⟩ := hx.inv_cons
    obtain ⟨x', ys', rfl, hvx, hx⟩ := hx.inv_cons
    obtain rfl : ys' = [] := List.eq_nil_of_length_eq_zero hx.1.symm
    obtain rfl : xs' = #[s', x'] := Array.ext' hxs
    have h1 : ts[0]? = some t1 := by rw [← Array.getElem?_toList]; exact ht1
    have h2 : ts[1]? = some t2 := by rw [← Array.getElem?_toList]; exact ht2
    split at hs
    · rename_i e d2 hu1 hu2
      split at hs
      · cases hs
      · rename_i hd2
        have hd2' : ∀ k, d2 ≠ .int k := fun k hk => by subst hk; exact hd2 rfl
        obtain ⟨inf, hinf, hs⟩ := Option.bind_eq_some_iff.1 hs
        obtain ⟨zs, hzs, hs⟩ := Option.bind_eq_some_iff.1 hs
        obtain ⟨⟨n, news⟩, hsrc, hs⟩ := Option.bind_eq_some_iff.1 hs
        obtain ⟨inf', z, hinf', hz, hzrun, hzv⟩ := evZero_sim hzs
        rw [hinf] at hinf'
        cases hinf'
        obtain ⟨nv, hnv, hnl, hnrun⟩ := evSrc_sim (P := P) hrel hsrc hvx
        simp only at hs
        split at hs
        · rename_i hzl
          have hzs' : z.cells.size = inf.size := by rw [← hzl.1]; simpa using (hzv r).1.symm
          exact evApp_sim hrel hfree h1 h2 hu1 hu2 hd2' hinf hz hzs' hnv hnl (fun w' hw' => ⟨(hnrun w' hw').1, by rw [(hnrun w' hw').2 n (Nat.le_refl _), ← hnl, List.take_length]⟩) hs hvs
        · cases hs
    · cases hs
  · cases hs

end Go.Ev
