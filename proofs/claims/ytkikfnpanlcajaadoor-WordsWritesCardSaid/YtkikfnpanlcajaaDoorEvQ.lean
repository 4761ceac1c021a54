/- The abstract machine Ev, part Q: operations, regions, code and functions, each test ahead of what follows; what they compute the model's machine comes to. -/
import Derived.Test.YtkikfnpanlcajaaDoorEvP
import Derived.Scope
set_option linter.all false
namespace Go.Ev

section
variable {β : Type}

def fieldAddrK (P : Program) (t : TypeId) (x : AV) (f : Nat) (k : AV → Option β) : Option β :=
  match P.underlying t with
  | some (.struct fs) =>
    (match fs[f]? with
     | none => none
     | some fd => match P.info? fd.type with
       | none => none
       | some inf => match Nat.beq inf.size 0 with | true => none | false => asPtr x fun p => nnK p fun b o => k (.ptr (some (b, o + fd.offset))))
  | _ => none

theorem fieldAddrK_some {P : Program} {t : TypeId} {y : AV} {f : Nat} {k : AV → Option β} {x : β} (e : fieldAddrK P t y f k = some x) : ∃ v, evFieldAddr P t y f = some v ∧ k v = some x := by
  unfold fieldAddrK at e
  split at e
  · rename_i fs hu
    split at e
    · cases e
    · rename_i fd hf
      split at e
      · cases e
      · rename_i inf hi
        have hc : P.cellsOf fd.type = inf.size := by simp [Program.cellsOf, hi]
        split at e
        · cases e
        · rename_i hz
          obtain ⟨p, hx, e'⟩ := asPtr_some e
          clear e; subst hx; have e := e'; clear e'
          unfold nnK at e
          split at e
          · have hne : inf.size ≠ 0 := fun h0 => by rw [h0] at hz; cases hz
            refine ⟨_, ?_, e⟩
            simp [evFieldAddr, hu, hf, hi, hc, hne]
          · cases e
  · cases e

def fieldK (P : Program) (t : TypeId) (x : AV) (f : Nat) (k : AV → Option β) : Option β :=
  match P.underlying t with
  | some (.struct fs) => (match fs[f]? with | none => none | some fd => asAgg x fun cs => partK P fd.type cs fd.offset k)
  | _ => none

theorem fieldK_some {P : Program} {t : TypeId} {y : AV} {f : Nat} {k : AV → Option β} {x : β} (e : fieldK P t y f k = some x) : ∃ v, evField P t y f = some v ∧ k v = some x := by
  unfold fieldK at e
  split at e
  · rename_i fs hu
    split at e
    · cases e
    · rename_i fd hf
      obtain ⟨p, hx, e'⟩ := asAgg_some e
      clear e; subst hx; have e := e'; clear e'
      obtain ⟨v, hv, hk⟩ := partK_some e
      exact ⟨v, by simp [evField, hu, hf, hv], hk⟩
  · cases e

def nilK (x : AV) (k : AV → Option β) : Option β :=
  match x with
  | .func f a b => k (.func f a b)
  | x => asPtr x fun p => nnK p fun b o => k (.ptr (some (b, o)))

theorem nilK_some {y : AV} {k : AV → Option β} {x : β} (e : nilK y k = some x) : ∃ v, evNil y = some v ∧ k v = some x := by
  unfold nilK at e
  split at e
  · exact ⟨_, rfl, e⟩
  · obtain ⟨p, hx, e'⟩ := asPtr_some e
    clear e; subst hx; have e := e'; clear e'
    unfold nnK at e
    split at e
    · exact ⟨_, rfl, e⟩
    · cases e

def arrK (P : Program) (t : TypeId) (x : AV) (k : AV → Option β) : Option β :=
  match P.underlying t with
  | some (.array n _) => asSlice x fun p len _ => if n ≤ len ∧ 0 < len then nnK p fun b o => k (.ptr (some (b, o))) else none
  | _ => none

theorem arrK_some {P : Program} {t : TypeId} {y : AV} {k : AV → Option β} {x : β} (e : arrK P t y k = some x) : ∃ v, evArr P t y = some v ∧ k v = some x := by
  unfold arrK at e
  split at e
  · rename_i n el hu
    obtain ⟨p, l, c, hx, e'⟩ := asSlice_some e
    clear e; subst hx; have e := e'; clear e'
    split at e
    · rename_i hb
      unfold nnK at e
      split at e
      · exact ⟨_, by simp only [evArr, hu]; rw [if_pos hb], e⟩
      · cases e
    · cases e
  · cases e

/-- what is built of parts: the parts' lengths are asked one after another -/
def fillK (place : Nat → Option (Nat × Nat)) : List (Nat × AV) → List AV → (List AV → Option β) → Option β
  | [], cells, f => f cells
  | (i, v) :: rest, cells, f =>
    match place i, acells v with
    | some (off, size), some cs => if cs.length = size ∧ off + size ≤ cells.length then fillK place rest (cells.take off ++ cs ++ cells.drop (off + size)) f else none
    | _, _ => none
theorem fillK_some {place : Nat → Option (Nat × Nat)} {f : List AV → Option β} {x : β} : ∀ {parts : List (Nat × AV)} {cells : List AV}, fillK place parts cells f = some x → ∃ out, evFill place cells parts = some out ∧ f out = some x
  | [], cells, e => ⟨cells, rfl, e⟩
  | (i, v) :: rest, cells, e => by
    unfold fillK at e
    split at e
    · rename_i off size cs h1 h2
      split at e
      · rename_i hc
        obtain ⟨out, h3, h4⟩ := fillK_some e
        exact ⟨out, by unfold evFill; simp only [h1, h2]; rw [if_pos hc]; exact h3, h4⟩
      · cases e
    · cases e
def buildK (P : Program) (t : TypeId) (parts : List (Nat × AV)) (f : AV → Option β) : Option β :=
  match evZero P t with
  | none => none
  | some zs =>
    match P.underlying t with
    | some (.struct fs) => (match fieldPlaces P fs.toList with | some ps => fillK (ps[·]?) parts zs fun out => f (.agg out) | none => none)
    | some (.array _ e) => (match P.info? e with | some i => fillK (fun j => some (j * i.size, i.size)) parts zs fun out => f (.agg out) | none => none)
    | _ => none
theorem buildK_some {P : Program} {t : TypeId} {parts : List (Nat × AV)} {f : AV → Option β} {x : β} (e : buildK P t parts f = some x) : ∃ v, evBuild P t parts = some v ∧ f v = some x := by
  unfold buildK at e
  split at e
  · cases e
  · rename_i zs hz
    split at e
    · rename_i fs hu
      split at e
      · rename_i ps hp
        obtain ⟨out, h1, h2⟩ := fillK_some e
        exact ⟨_, by unfold evBuild; simp only [hz, hu, hp, Option.bind_some, h1, Option.map_some], h2⟩
      · cases e
    · rename_i n el hu
      split at e
      · rename_i i hi
        obtain ⟨out, h1, h2⟩ := fillK_some e
        exact ⟨_, by unfold evBuild; simp only [hz, hu, hi, Option.bind_some, h1, Option.map_some], h2⟩
      · cases e
    · cases e

def pickK (c a b : AV) (k : AV → Option β) : Option β :=
  match a, b with
  | .bool x, .bool y => asBool c fun t => k (.bool (cond t x y))
  | a, b => asBool c fun t => cond t (k a) (k b)

def convRK (P : Program) (s d : TypeId) (x : AV) (h : H) (k : AV → Option β) : Option β :=
  match P.underlying s, P.underlying d with
  | some (.slice e), some .string => (match P.underlying e with | some (.int .u8) => bsK h x fun s => k (.str s) | _ => none)
  | _, _ => none

theorem convRK_some {P : Program} {s d : TypeId} {y : AV} {h : H} {k : AV → Option β} {x : β} (e : convRK P s d y h k = some x) : ∃ v, evConvR P s d y h = some v ∧ k v = some x := by
  unfold convRK at e
  split at e
  · rename_i hs hd
    split at e
    · rename_i he
      unfold bsK at e
      split at e
      · rename_i b hb
        exact ⟨_, by simp [evConvR, hs, hd, he, hb], e⟩
      · cases e
    · cases e
  · cases e

def newK (o : AObj) (h : H) (f : Nat → H → Option β) : Option β := f h.next (h.new o)

def mkSlK (size bytes : Nat) (zs : List AV) (l c : Int) (h : H) (f : Nat → Nat → Nat → H → Option β) : Option β :=
  if 0 ≤ IntKind.i64.wrap l ∧ IntKind.i64.wrap l ≤ IntKind.i64.wrap c ∧ ¬ (bytes * IntKind.i64.wrap c > 2 ^ 48) then
    newK (.cells (evTile ((IntKind.i64.wrap c).toNat * size) zs) false) h fun i h' => f i (IntKind.i64.wrap l).toNat (IntKind.i64.wrap c).toNat h'
  else none

def makeSliceK (P : Program) (t : TypeId) (l c : AV) (h : H) (k : AV → H → Option β) : Option β :=
  match P.underlying t with
  | some (.slice e) =>
    (match P.info? e, evZero P e with
     | some inf, some zs => (match l, c with | .int _ l, .int _ c => mkSlK inf.size inf.bytes zs l c h fun i l c h' => k (.slice (some (i, 0)) l (.known c)) h' | _, _ => none)
     | _, _ => none)
  | _ => none

theorem makeSliceK_some {P : Program} {ρ : Operand → AV} {t : TypeId} {l c : Operand} {h : H} {k : AV → H → Option β} {x : β} (e : makeSliceK P t (ρ l) (ρ c) h k = some x) :
    ∃ q, evAlloc P ρ (.makeSlice t l c) = some q ∧ k (q.2 h.next) (h.new q.1) = some x := by
  unfold makeSliceK at e
  split at e
  · rename_i el hu
    split at e
    · rename_i inf zs hi hz
      split at e
      · rename_i kl ln kc cn hl hc
        unfold mkSlK at e
        split at e
        · rename_i hb
          refine ⟨(.cells (evTile ((IntKind.i64.wrap cn).toNat * inf.size) zs) false, fun i => .slice (some (i, 0)) (IntKind.i64.wrap ln).toNat (.known (IntKind.i64.wrap cn).toNat)), ?_, e⟩
          simp only [evAlloc, hu, hl, hc, hi, hz, Option.bind_some]
          rw [if_pos hb]
        · cases e
      · cases e
    · cases e
  · cases e

/-! ### maps -/

def keyK (kd : TypeDesc) (k : AV) (x : Option β) : Option β := match keyKind kd k with | true => x | false => none
def lookK (z : AV) (m : Option Nat) (k : AV) (h : H) (f : AV → Bool → Option β) : Option β := match evLook z m k h with | some (v, b) => f v b | none => none
def putK (m : Option Nat) (k v : AV) (h : H) (f : H → Option β) : Option β := match evMapPut m k v h with | some h' => f h' | none => none
def delK (m : Option Nat) (k : AV) (h : H) (f : H → Option β) : Option β := match evMapDel m k h with | some h' => f h' | none => none
def clrK (m : Option Nat) (h : H) (f : H → Option β) : Option β := match evMapClear m h with | some h' => f h' | none => none
def lenMK (m : Option Nat) (h : H) (f : Int → Option β) : Option β := match evMapLen m h with | some n => f (Nat.cast n) | none => none

theorem keyK_some {kd : TypeDesc} {k : AV} {y : Option β} {x : β} (e : keyK kd k y = some x) : keyKind kd k = true ∧ y = some x := by
  unfold keyK at e
  split at e
  · rename_i h; exact ⟨h, e⟩
  · cases e

def lookupK (P : Program) (t : TypeId) (m k : AV) (ok : Bool) (h : H) (f : AV → Option β) : Option β :=
  match P.underlying t with
  | some (.map kt e) =>
    (match P.underlying kt, zeroV P e with
     | some kd, some z => asMap m fun m => keyK kd k (lookK z m k h fun v b => shapeK (rowShape P e) v fun v => f (okV ok v b))
     | _, _ => none)
  | _ => none

theorem lookupK_some {P : Program} {t : TypeId} {m k : AV} {ok : Bool} {h : H} {f : AV → Option β} {x : β} (e : lookupK P t m k ok h f = some x) : ∃ v, evLookup P t m k ok h = some v ∧ f v = some x := by
  unfold lookupK at e
  split at e
  · rename_i kt el hu
    split at e
    · rename_i kd z hkd hz
      obtain ⟨mm, rfl, e⟩ := asMap_some e
      obtain ⟨hk, e⟩ := keyK_some e
      unfold lookK at e
      split at e
      · rename_i v b hl
        exact ⟨okV ok v b, by simp [evLookup, hu, hkd, hk, hz, hl], shapeK_some (rowShape P el) (f := fun v => f (okV ok v b)) e⟩
      · cases e
    · cases e
  · cases e

def mapPutK (P : Program) (t : TypeId) (m k v : AV) (h : H) (f : H → Option β) : Option β :=
  match P.underlying t with
  | some (.map kt _) => (match P.underlying kt with | some kd => asMap m fun m => keyK kd k (putK m k v h f) | none => none)
  | _ => none

theorem mapPutK_some {P : Program} {t : TypeId} {m k v : AV} {h : H} {f : H → Option β} {x : β} (e : mapPutK P t m k v h f = some x) : ∃ h', evPutM P t m k v h = some h' ∧ f h' = some x := by
  unfold mapPutK at e
  split at e
  · rename_i kt el hu
    split at e
    · rename_i kd hkd
      obtain ⟨mm, rfl, e⟩ := asMap_some e
      obtain ⟨hk, e⟩ := keyK_some e
      unfold putK at e
      split at e
      · rename_i h' hp
        exact ⟨h', by simp [evPutM, hu, hkd, hk, hp], e⟩
      · cases e
    · cases e
  · cases e

def mapDelK (P : Program) (ts : List TypeId) (xs : List AV) (h : H) (f : AV → H → Option β) : Option β :=
  match ts, xs with
  | [t, _], [m, k] => (match P.underlying t with | some (.map kt _) => (match P.underlying kt with | some kd => asMap m fun m => keyK kd k (delK m k h fun h' => f (.tup []) h') | none => none) | _ => none)
  | _, _ => none

theorem mapDelK_some {P : Program} {ts : List TypeId} {xs : List AV} {h : H} {f : AV → H → Option β} {x : β} (e : mapDelK P ts xs h f = some x) : ∃ v h', evDelM P ts xs h = some (v, h') ∧ f v h' = some x := by
  unfold mapDelK at e
  split at e
  · split at e
    · rename_i kt el hu
      split at e
      · rename_i kd hkd
        obtain ⟨mm, rfl, e⟩ := asMap_some e
        obtain ⟨hk, e⟩ := keyK_some e
        unfold delK at e
        split at e
        · rename_i h' hp
          exact ⟨_, h', by simp [evDelM, hu, hkd, hk, hp], e⟩
        · cases e
      · cases e
    · cases e
  · cases e

def mapClrK (P : Program) (ts : List TypeId) (xs : List AV) (h : H) (f : AV → H → Option β) : Option β :=
  match ts, xs with
  | [t], [m] => (match P.underlying t with | some (.map _ _) => asMap m fun m => clrK m h fun h' => f (.tup []) h' | _ => none)
  | _, _ => none

theorem mapClrK_some {P : Program} {ts : List TypeId} {xs : List AV} {h : H} {f : AV → H → Option β} {x : β} (e : mapClrK P ts xs h f = some x) : ∃ v h', evClearM P ts xs h = some (v, h') ∧ f v h' = some x := by
  unfold mapClrK at e
  split at e
  · split at e
    · rename_i kt el hu
      obtain ⟨mm, rfl, e2⟩ := asMap_some e
      clear e; have e := e2; clear e2
      unfold clrK at e
      split at e
      · rename_i h' hp
        exact ⟨_, h', by simp [evClearM, hu, hp], e⟩
      · cases e
    · cases e
  · cases e

def mapLenK (P : Program) (ts : List TypeId) (xs : List AV) (h : H) (f : AV → Option β) : Option β :=
  match ts, xs with
  | [t], [m] => (match P.underlying t with | some (.map _ _) => asMap m fun m => lenMK m h fun n => f (.int .i64 n) | _ => none)
  | _, _ => none

theorem mapLenK_some {P : Program} {ts : List TypeId} {xs : List AV} {h : H} {f : AV → Option β} {x : β} (e : mapLenK P ts xs h f = some x) : ∃ v, evLenM P ts xs h = some v ∧ f v = some x := by
  unfold mapLenK at e
  split at e
  · split at e
    · rename_i kt el hu
      obtain ⟨mm, rfl, e2⟩ := asMap_some e
      clear e; have e := e2; clear e2
      unfold lenMK at e
      split at e
      · rename_i n hp
        exact ⟨_, by simp [evLenM, hu, hp], e⟩
      · cases e
    · cases e
  · cases e

def rest (P : Program) (ck : CK) (ρ : Operand → AV) (op : Op) (h : H) (k : AV → H → Option β) : Option β :=
  match evOper P ck.call ρ op h with
  | some q => k q.1 q.2
  | none => none

def extK (x : AV) (i : Nat) (k : AV → Option β) : Option β := match x with | .tup vs => (match vs[i]? with | some v => k v | none => none) | _ => none
theorem extK_some {y : AV} {i : Nat} {k : AV → Option β} {x : β} (e : extK y i k = some x) : ∃ v, evExtract y i = some v ∧ k v = some x := by
  unfold extK at e
  split at e
  · split at e
    · rename_i v hv; exact ⟨v, hv, e⟩
    · cases e
  · cases e

def evOperK (P : Program) (ck : CK) (ρ : Operand → AV) (op : Op) (h : H) (k : AV → H → Option β) : Option β :=
  match op with
  | .move x => k (ρ x) h
  | .assign x => k (ρ x) h
  | .build t parts => buildK P t (parts.toList.map fun p => (p.1, ρ p.2)) fun v => k v h
  | .pick c a b => pickK (ρ c) (ρ a) (ρ b) fun v => k v h
  | .nilCheck x => nilK (ρ x) fun v => k v h
  | .binOp op t x y _ => (match notIntStr (ρ x) with | true => eqK P op t (ρ x) (ρ y) fun v => k v h | false => binK op (ρ x) (ρ y) fun v => k v h)
  | .slice t x lo hi mx => sliceK P t (ρ x) (lo.map ρ) (hi.map ρ) (mx.map ρ) fun v => k v h
  | .indexAddr t x i => indexAddrK P t (ρ x) (ρ i) fun v => k v h
  | .index t x i => indexK P t (ρ x) (ρ i) fun v => k v h
  | .sliceToArrayPointer t x => arrK P t (ρ x) fun v => k v h
  | .fieldAddr t x f => fieldAddrK P t (ρ x) f fun v => k v h
  | .field t x f => fieldK P t (ρ x) f fun v => k v h
  | .extract x i => extK (ρ x) i fun v => k v h
  | .load t a => loadK P t (ρ a) h fun v => k v h
  | .store t a x => storeK P t (ρ a) (ρ x) h fun h' => k .junk h'
  | .makeSlice t l c => makeSliceK P t (ρ l) (ρ c) h k
  | .lookup t m i ok => lookupK P t (ρ m) (ρ i) ok h fun v => k v h
  | .mapUpdate t m i x => mapPutK P t (ρ m) (ρ i) (ρ x) h fun h' => k .junk h'
  | .insert t m i x => mapPutK P t (ρ m) (ρ i) (ρ x) h fun h' => k .junk h'
  | .convert s d x => (match sliceD P d, sliceD P s with | false, true => convRK P s d (ρ x) h fun v => k v h | _, _ => rest P ck ρ (.convert s d x) h k)
  | .next it true => asPtr (ρ it) fun p => nnK p fun i o => (match o with | 0 => nextK h i (fun pos c h' => k (.tup [.bool true, .int .i64 pos, .int .i32 c]) h') (k (.tup [.bool false]) h) | _ => none)
  | .call c =>
    (match c.callee with
     | .value x => match ρ x with | .func f first caps => ck.run f (first ++ c.args.toList.map ρ ++ caps) h k | _ => none
     | .builtin .append => appendK P c.argTypes.toList (c.args.toList.map ρ) h k
     | .builtin .copy => cpyK 0 P c.argTypes.toList (c.args.toList.map ρ) h fun n h' => k (.int .i64 n) h'
     | .builtin .delete => mapDelK P c.argTypes.toList (c.args.toList.map ρ) h k
     | .builtin .clear => mapClrK P c.argTypes.toList (c.args.toList.map ρ) h k
     | .builtin .len => (match mapD P (c.argTypes.toList.headD 0) with | true => mapLenK P c.argTypes.toList (c.args.toList.map ρ) h fun v => k v h | false => rest P ck ρ (.call c) h k)
     | _ => rest P ck ρ (.call c) h k)
  | op => rest P ck ρ op h k

theorem rest_some {P : Program} {ck : CK} {ρ : Operand → AV} {op : Op} {h : H} {k : AV → H → Option β} {x : β} (e : rest P ck ρ op h k = some x) : ∃ v h', evOper P ck.call ρ op h = some (v, h') ∧ k v h' = some x := by
  unfold rest at e
  split at e
  · rename_i q hq; exact ⟨q.1, q.2, hq, e⟩
  · cases e

theorem evOperK_some {P : Program} {ck : CK} {ρ : Operand → AV} {op : Op} {h : H} {k : AV → H → Option β} {x : β} (e : evOperK P ck ρ op h k = some x) : ∃ v h', evOper P ck.call ρ op h = some (v, h') ∧ k v h' = some x := by
  have pure : ∀ {v : AV}, cls P op = .pure → evPure P ρ op = some v → k v h = some x → ∃ v h', evOper P ck.call ρ op h = some (v, h') ∧ k v h' = some x := fun {v} hc hv hk => ⟨v, h, by unfold evOper; rw [hc]; simp [hv], hk⟩
  have read : ∀ {v : AV}, cls P op = .read → evRead P ρ op h = some v → k v h = some x → ∃ v h', evOper P ck.call ρ op h = some (v, h') ∧ k v h' = some x := fun {v} hc hv hk => ⟨v, h, by unfold evOper; rw [hc]; simp [hv], hk⟩
  unfold evOperK at e
  split at e
  · exact pure rfl rfl e
  · exact pure rfl rfl e
  · obtain ⟨v, hv, hk⟩ := buildK_some e; exact pure rfl hv hk
  · rename_i c a b
    unfold pickK at e
    split at e
    · rename_i p q ha hb
      obtain ⟨t, ht, e⟩ := asBool_some e
      refine pure rfl (v := .bool (cond t p q)) ?_ e
      simp only [evPure, ht, ha, hb]
      cases t <;> rfl
    · obtain ⟨t, ht, e⟩ := asBool_some e
      cases t
      · exact pure rfl (v := ρ b) (by simp [evPure, ht]) e
      · exact pure rfl (v := ρ a) (by simp [evPure, ht]) e
  · obtain ⟨v, hv, hk⟩ := nilK_some e; exact pure rfl hv hk
  · split at e
    · rename_i hn
      obtain ⟨v, hv, hk⟩ := eqK_some e
      exact pure rfl (by simp only [evPure]; rw [if_pos hn]; exact hv) hk
    · rename_i hn
      obtain ⟨v, hv, hk⟩ := binK_some e
      exact pure rfl (by simp only [evPure]; rw [if_neg (by simp [hn])]; exact hv) hk
  · obtain ⟨v, hv, hk⟩ := sliceK_some e; exact pure rfl hv hk
  · obtain ⟨v, hv, hk⟩ := indexAddrK_some e; exact pure rfl hv hk
  · obtain ⟨v, hv, hk⟩ := indexK_some e; exact pure rfl hv hk
  · obtain ⟨v, hv, hk⟩ := arrK_some e; exact pure rfl hv hk
  · obtain ⟨v, hv, hk⟩ := fieldAddrK_some e; exact pure rfl hv hk
  · obtain ⟨v, hv, hk⟩ := fieldK_some e; exact pure rfl hv hk
  · obtain ⟨v, hv, hk⟩ := extK_some e; exact pure rfl hv hk
  · obtain ⟨v, hv, hk⟩ := loadK_some e; exact read rfl hv hk
  · rename_i t a y
    obtain ⟨h', hv, hk⟩ := storeK_some e
    exact ⟨.junk, h', by simp [evOper, cls, evFull, hv], hk⟩
  · obtain ⟨q, hv, hk⟩ := makeSliceK_some e
    exact ⟨q.2 h.next, h.new q.1, by simp [evOper, cls, hv], hk⟩
  · obtain ⟨v, hv, hk⟩ := lookupK_some e; exact read rfl hv hk
  · obtain ⟨h', hv, hk⟩ := mapPutK_some e
    exact ⟨.junk, h', by simp [evOper, cls, evFull, hv], hk⟩
  · obtain ⟨h', hv, hk⟩ := mapPutK_some e
    exact ⟨.junk, h', by simp [evOper, cls, evFull, hv], hk⟩
  · rename_i s d y
    split at e
    · rename_i hd hs
      obtain ⟨v, hv, hk⟩ := convRK_some e
      exact read (by simp [cls, hd, hs]) hv hk
    · exact rest_some e
  · rename_i it
    obtain ⟨p, hp, e⟩ := asPtr_some e
    unfold nnK at e
    split at e
    · (try dsimp only at e); split at e
      · rename_i i
        unfold nextK at e
        split at e
        · rename_i s pos hg
          split at e
          · rename_i hlt
            exact ⟨_, _, by simp [evOper, cls, evFull, evNext, hp, hg, hlt] <;> exact ⟨rfl, rfl⟩, e⟩
          · rename_i hlt
            exact ⟨_, _, by simp [evOper, cls, evFull, evNext, hp, hg, hlt] <;> exact ⟨rfl, rfl⟩, e⟩
        · cases e
      · cases e
    · cases e
  · rename_i c
    split at e
    · rename_i y hy
      split at e
      · rename_i f first caps hf
        rw [ck.nat] at e
        obtain ⟨q, hq, hk⟩ := Option.bind_eq_some_iff.1 e
        refine ⟨q.1, q.2, ?_, hk⟩
        simp only [evOper, cls, hy, hf]
        exact hq
      · cases e
    · rename_i hb
      obtain ⟨v, h', hv, hk⟩ := appendK_some e
      exact ⟨v, h', by simp only [evOper, cls, hb, evFull]; exact hv, hk⟩
    · rename_i hb
      unfold cpyK at e
      split at e
      · rename_i n h' hv
        exact ⟨_, h', by simp only [evOper, cls, hb, evFull]; exact hv, e⟩
      · cases e
    · rename_i hb
      obtain ⟨v, h', hv, hk⟩ := mapDelK_some e
      exact ⟨v, h', by simp only [evOper, cls, hb, evFull]; exact hv, hk⟩
    · rename_i hb
      obtain ⟨v, h', hv, hk⟩ := mapClrK_some e
      exact ⟨v, h', by simp only [evOper, cls, hb, evFull]; exact hv, hk⟩
    · rename_i hb
      split at e
      · rename_i hm
        obtain ⟨v, hv, hk⟩ := mapLenK_some e
        exact read (by simp only [cls, hb, hm]; rfl) (by simp only [evRead, hb]; exact hv) hk
      · exact rest_some e
    · exact rest_some e
  · exact rest_some e

/-! ### rows of operations -/

/-- what an operation tells is looked at in its type's shape, where nothing else tells it -/
def stepK (P : Program) (op : Op) (t : TypeId) (v : AV) (k : AV → Option β) : Option β :=
  match op with
  | .extract _ _ => shapeK (rowShape P t) v k
  | .call c => (match c.callee with | .value _ => shapeK (rowShape P t) v k | _ => k v)
  | _ => k v
theorem stepK_some {P : Program} {op : Op} {t : TypeId} {v : AV} {k : AV → Option β} {x : β} (e : stepK P op t v k = some x) : k v = some x := by
  unfold stepK at e
  split at e
  · exact shapeK_some _ e
  · split at e
    · exact shapeK_some _ e
    · exact e
  · exact e

def evStepK (P : Program) (ck : CK) (ops : Array Oper) (N : Nat) (A : KF) (o : Oper) (h : H) (k : KF → AV → H → Option β) : Option β :=
  match o.guard with
  | none => evOperK P ck (kopd N A) o.op h fun v h' => stepK P o.op o.type v fun v => k A v h'
  | some (j, want) =>
    match (ops[j]?).bind (·.dst) with
    | none => k A (.tup []) h
    | some t =>
      match kopd N A (.tmp t) with
      | .tup [] => k A (.tup []) h
      | v => asBool v fun b => cond b
          (match want with | true => evOperK P ck (kopd N (kput N A (some t) (.bool true))) o.op h fun v h' => stepK P o.op o.type v fun v => k (kput N A (some t) (.bool true)) v h' | false => k (kput N A (some t) (.bool true)) (.tup []) h)
          (match want with | true => k (kput N A (some t) (.bool false)) (.tup []) h | false => evOperK P ck (kopd N (kput N A (some t) (.bool false))) o.op h fun v h' => stepK P o.op o.type v fun v => k (kput N A (some t) (.bool false)) v h')

theorem free_B {r r' : Ren} {h h1 : H} {w w' : World} {B : Nat → Prop} (p : Post r h w r' h1 w') (hfree : ∀ i, h.next ≤ i → B i → r i = none) : ∀ i, h1.next ≤ i → B i → r' i = none := by
  intro i hi1 hi2
  cases hr : r' i with
  | none => rfl
  | some t =>
    have hn := hfree i (Nat.le_trans p.next hi1) hi2
    have := p.dom i t hr hn
    omega

theorem blt_of {a b : Nat} (h : a < b) : Nat.blt a b = true := by simp [Nat.blt_eq, h]
theorem of_blt {a b : Nat} (h : Nat.blt a b = true) : a < b := by simpa [Nat.blt_eq] using h

theorem look_put {N : Nat} {A : KF} {d t : Nat} {v : AV} (hd : d < N) : look (kput N A (some d) v) t = if d = t then v else look A t := by
  simp only [kput, blt_of hd, look]
  by_cases e : d = t
  · subst e; simp
  · have : Nat.beq d t = false := by rw [← Bool.not_eq_true]; intro h; exact e (Nat.eq_of_beq_eq_true h)
    rw [this, if_neg e]

theorem kopd_put_same {N : Nat} {A : KF} {t : Nat} {v : AV} (h : kopd N A (.tmp t) = v) (hv : v ≠ .junk) : kopd N (kput N A (some t) v) = kopd N A := by
  have ht : t < N := by
    simp only [kopd] at h
    split at h
    · rename_i hb; exact of_blt hb
    · exact absurd h.symm hv
  funext x
  cases x with
  | tmp u =>
    simp only [kopd] at h ⊢
    rw [look_put ht]
    by_cases e : t = u
    · subst e; rw [if_pos rfl, ← h]; simp [blt_of ht]
    · rw [if_neg e]
  | _ => rfl

theorem evStepK_some {P : Program} {ck : CK} {ops : Array Oper} {N : Nat} {A : KF} {o : Oper} {h : H} {k : KF → AV → H → Option β} {x : β} (e : evStepK P ck ops N A o h k = some x) :
    ∃ v h' A', evStep P ck.call ops o (kopd N A) h = some (v, h') ∧ kopd N A' = kopd N A ∧ k A' v h' = some x := by
  unfold evStepK at e
  split at e
  · rename_i hg
    obtain ⟨v, h', h1, h2⟩ := evOperK_some e
    exact ⟨v, h', A, by simp [evStep, evWanted, hg, h1], rfl, stepK_some h2⟩
  · rename_i j want hg
    split at e
    · rename_i hd
      exact ⟨_, _, A, by simp only [evStep, evWanted, hg, hd, Option.bind_some]; rfl, rfl, e⟩
    · rename_i t hd
      split at e
      · rename_i hv
        exact ⟨_, _, A, by simp only [evStep, evWanted, hg, hd, hv, Option.bind_some]; rfl, rfl, e⟩
      · obtain ⟨b, hb, e'⟩ := asBool_some e
        clear e; have e := e'; clear e'
        have hsame := kopd_put_same hb (by intro e; cases e)
        cases b <;> cases want <;> simp only [cond_true, cond_false] at e
        · obtain ⟨v, h', h1, h2⟩ := evOperK_some e
          rw [hsame] at h1
          exact ⟨v, h', _, by simp [evStep, evWanted, hg, hd, hb, h1], hsame, stepK_some h2⟩
        · exact ⟨_, _, _, by simp only [evStep, evWanted, hg, hd, hb, Option.bind_some]; rfl, hsame, e⟩
        · exact ⟨_, _, _, by simp only [evStep, evWanted, hg, hd, hb, Option.bind_some]; rfl, hsame, e⟩
        · obtain ⟨v, h', h1, h2⟩ := evOperK_some e
          rw [hsame] at h1
          exact ⟨v, h', _, by simp [evStep, evWanted, hg, hd, hb, h1], hsame, stepK_some h2⟩

open Classical in
/-- a block is as it was -/
noncomputable def sameK (h h' : H) (b : Option Nat) (x : Option β) : Option β := match b with | none => x | some b => if h'.get b = h.get b then x else none
def blkP (p : Option (Nat × Nat)) : Option Nat := match p with | some (b, _) => some b | none => none
/-- what earlier reads looked at is as it was -/
noncomputable def keptK (M : Nat → Nat) (k : Nat) (h h' : H) : List (Nat × AV) → Option β → Option β
  | [], x => x
  | (j, v) :: l, x => match indepB M k j with
    | false => keptK M k h h' l x
    | true => match v with
      | .ptr p => sameK h h' (blkP p) (keptK M k h h' l x)
      | .slice p _ _ => sameK h h' (blkP p) (keptK M k h h' l x)
      | .map m => sameK h h' m (keptK M k h h' l x)
      | _ => keptK M k h h' l x
theorem sameK_some {h h' : H} {b : Option Nat} {x : Option β} {y : β} (e : sameK h h' b x = some y) : (∀ c, b = some c → h'.get c = h.get c) ∧ x = some y := by
  unfold sameK at e
  split at e
  · exact ⟨fun c hc => by (cases hc), e⟩
  · split at e
    · rename_i hq; exact ⟨fun c hc => by cases hc; exact hq, e⟩
    · cases e
theorem blkP_ref (p : Option (Nat × Nat)) : blkP p = refOf (.ptr p) := by cases p <;> rfl
theorem blkP_refS (p : Option (Nat × Nat)) (n : Nat) (c : Cap) : blkP p = refOf (.slice p n c) := by cases p <;> rfl
theorem mapRef (m : Option Nat) : refOf (.map m) = m := by cases m <;> rfl
theorem keptK_some {M : Nat → Nat} {k : Nat} {h h' : H} {y : β} : ∀ {l : List (Nat × AV)} {x : Option β}, keptK M k h h' l x = some y → keptQ M k h h' l ∧ x = some y
  | [], x, e => ⟨fun q hq => by (cases hq), e⟩
  | (j, v) :: l, x, e => by
    simp only [keptK] at e
    have cons : ∀ (_ : keptQ M k h h' l), (indepB M k j = true → ∀ b, refOf v = some b → h'.get b = h.get b) → keptQ M k h h' ((j, v) :: l) := fun hl hv q hq hi b hb => by
      rcases List.mem_cons.1 hq with rfl | hq
      · exact hv hi b hb
      · exact hl q hq hi b hb
    split at e
    · rename_i hi
      obtain ⟨h1, h2⟩ := keptK_some e
      exact ⟨cons h1 fun h => absurd (h.symm.trans hi) (by decide), h2⟩
    · split at e
      · obtain ⟨h0, e⟩ := sameK_some e
        obtain ⟨h1, h2⟩ := keptK_some e
        exact ⟨cons h1 fun _ b hb => h0 b (by rw [blkP_ref]; exact hb), h2⟩
      · obtain ⟨h0, e⟩ := sameK_some e
        obtain ⟨h1, h2⟩ := keptK_some e
        exact ⟨cons h1 fun _ b hb => h0 b (by rw [blkP_refS]; exact hb), h2⟩
      · obtain ⟨h0, e⟩ := sameK_some e
        obtain ⟨h1, h2⟩ := keptK_some e
        exact ⟨cons h1 fun _ b hb => h0 b ((mapRef _).symm.trans hb), h2⟩
      · obtain ⟨h1, h2⟩ := keptK_some e
        rename_i hn1 hn2 hn3
        refine ⟨cons h1 fun _ b hb => ?_, h2⟩
        unfold refOf at hb
        split at hb
        · exact absurd rfl (hn1 _)
        · exact absurd rfl (hn2 _ _ _)
        · exact absurd rfl (hn3 _)
        · cases hb

noncomputable def evOpsK (P : Program) (ck : CK) (ops : Array Oper) (N : Nat) (draw : Bool) : List Oper → Nat → KF → H → (Nat → Prop) → List (Nat × AV) → (KF → H → Option β) → Option β
  | [], _, A, h, _, _, k => k A h
  | o :: l, i, A, h, S, Js, k =>
    match draw && shyB P ops (masks ops) i with
    | true => evStepK P ck ops N A o (h.minus S) fun A' v _ => evOpsK P ck ops N draw l (i + 1) (kput N A' o.dst v) h S (pushJ P i o (mainV (kopd N A) o.op) Js) k
    | false => evStepK P ck ops N A o h fun A' v h' =>
      match draw && needQuiet P ops (masks ops) i with
      | false => evOpsK P ck ops N draw l (i + 1) (kput N A' o.dst v) h' S (pushJ P i o (mainV (kopd N A) o.op) Js) k
      | true => keptK (masks ops) i h h' Js (evOpsK P ck ops N draw l (i + 1) (kput N A' o.dst v) h' (addT S h h') (pushJ P i o (mainV (kopd N A) o.op) Js) k)

/-- the two sorts of frames -/
def AF (N : Nat) (A : KF) (fr : List AV) : Prop := fr.length = N ∧ ∀ t, t < N → look A t = fr.getD t .junk

theorem AF.opd {N : Nat} {A : KF} {fr : List AV} (h : AF N A fr) : opd fr = kopd N A := by
  funext x
  cases x with
  | tmp t =>
    simp only [Ev.opd, kopd]
    split
    · rename_i hb; rw [h.2 t (of_blt hb)]
    · rename_i hb
      have : ¬ t < N := fun hlt => by rw [blt_of hlt] at hb; cases hb
      rw [List.getD_eq_getElem?_getD, List.getElem?_eq_none (by rw [h.1]; exact Nat.le_of_not_lt this)]; rfl
  | _ => rfl

theorem AF.of_same {N : Nat} {A A' : KF} {fr : List AV} (h : AF N A fr) (hs : kopd N A' = kopd N A) : AF N A' fr := by
  refine ⟨h.1, fun t ht => ?_⟩
  have := congrFun hs (.tmp t)
  simp only [kopd, blt_of ht] at this
  rw [this]; exact h.2 t ht

theorem AF.put {N : Nat} {A : KF} {fr : List AV} (h : AF N A fr) (d : Option Tmp) (v : AV) : AF N (kput N A d v) (putD fr d v) := by
  cases d with
  | none => exact h
  | some d =>
    refine ⟨by simp [putD, h.1], fun t ht => ?_⟩
    by_cases hd : d < N
    · rw [look_put hd]
      simp only [putD]
      by_cases e : d = t
      · subst e
        rw [if_pos rfl, List.getD_eq_getElem?_getD, List.getElem?_set_self (by rw [h.1]; exact ht)]; rfl
      · rw [if_neg e, List.getD_eq_getElem?_getD, List.getElem?_set_ne e, ← List.getD_eq_getElem?_getD]
        exact h.2 t ht
    · have hb : Nat.blt d N = false := by rw [← Bool.not_eq_true]; intro h; exact hd (of_blt h)
      simp only [kput, hb, putD]
      have hne : d ≠ t := by intro e; rw [e] at hd; exact hd ht
      rw [List.getD_eq_getElem?_getD, List.getElem?_set_ne hne, ← List.getD_eq_getElem?_getD]
      exact h.2 t ht

theorem evOpsK_some {P : Program} {ck : CK} {ops : Array Oper} {N : Nat} {draw : Bool} {x : β} : ∀ {l : List Oper} {i : Nat} {A : KF} {h : H} {S : Nat → Prop} {Js : List (Nat × AV)} {k : KF → H → Option β} {fr : List AV}, evOpsK P ck ops N draw l i A h S Js k = some x → AF N A fr →
    ∃ fr' A' h', (if draw then evOpsQ P ck.call ops l i fr h S Js else evOps P ck.call ops l fr h) = some (fr', h') ∧ AF N A' fr' ∧ k A' h' = some x
  | [], i, A, h, S, Js, k, fr, e, hA => ⟨fr, A, h, by cases draw <;> rfl, hA, e⟩
  | o :: l, i, A, h, S, Js, k, fr, e, hA => by
    simp only [evOpsK] at e
    have hmain : mainV (kopd N A) o.op = mainV (opd fr) o.op := by rw [hA.opd]
    cases draw with
    | false =>
      simp only [Bool.false_and] at e
      obtain ⟨v, h', A', h1, h2, e⟩ := evStepK_some e
      rw [← hA.opd] at h1
      obtain ⟨fr', A'', h'', g1, g2, g3⟩ := evOpsK_some e ((hA.of_same h2).put o.dst v)
      exact ⟨fr', A'', h'', by simp only [Bool.false_eq_true, if_false] at g1 ⊢; simp only [evOps, h1, Option.bind_some]; exact g1, g2, g3⟩
    | true =>
      simp only [Bool.true_and] at e
      split at e
      · rename_i hsh
        obtain ⟨v, h', A', h1, h2, e⟩ := evStepK_some e
        rw [← hA.opd] at h1
        obtain ⟨fr', A'', h'', g1, g2, g3⟩ := evOpsK_some e ((hA.of_same h2).put o.dst v)
        exact ⟨fr', A'', h'', by simp only [if_true] at g1 ⊢; simp only [evOpsQ]; rw [if_pos hsh, h1, Option.bind_some, ← hmain]; exact g1, g2, g3⟩
      · rename_i hsh
        have hsh' : ¬ shyB P ops (masks ops) i = true := by rw [hsh]; simp
        obtain ⟨v, h', A', h1, h2, e⟩ := evStepK_some e
        rw [← hA.opd] at h1
        split at e
        · rename_i hq
          obtain ⟨fr', A'', h'', g1, g2, g3⟩ := evOpsK_some e ((hA.of_same h2).put o.dst v)
          exact ⟨fr', A'', h'', by simp only [if_true] at g1 ⊢; simp only [evOpsQ]; rw [if_neg hsh', h1, Option.bind_some, ← hmain]; simp only [hq, Bool.false_eq_true, if_false]; exact g1, g2, g3⟩
        · rename_i hq
          obtain ⟨hkept, e⟩ := keptK_some e
          obtain ⟨fr', A'', h'', g1, g2, g3⟩ := evOpsK_some e ((hA.of_same h2).put o.dst v)
          exact ⟨fr', A'', h'', by simp only [if_true] at g1 ⊢; simp only [evOpsQ]; rw [if_neg hsh', h1, Option.bind_some, ← hmain]; simp only [hq, if_true]; rw [if_pos hkept]; exact g1, g2, g3⟩

/-! ### code -/

abbrev KC (β : Type) := KF → H → (KF → H → Option β) → (Nat → KF → H → Option β) → (KF → H → Option β) → Option β

def skipC : KC β := fun A h kn _ _ => kn A h
noncomputable def regC (P : Program) (ck : CK) (N : Nat) (ops : Array Oper) (draw : Bool) : KC β := fun A h kn _ _ => evOpsK P ck ops N draw ops.toList 0 A h noT [] kn
def seqC (X Y : KC β) : KC β := fun A h kn ke kr => X A h (fun A h => Y A h kn ke kr) ke kr
def condC (N : Nat) (c : Operand) (X Y : KC β) : KC β := fun A h kn ke kr => asBool (kopd N A c) fun b => cond b (X A h kn ke kr) (Y A h kn ke kr)
def blockC (id : Nat) (X : KC β) : KC β := fun A h kn ke kr => X A h kn (fun i A h => cond (Nat.beq i id) (kn A h) (ke i A h)) kr
def loopR (X : KC β) : Nat → KC β
  | 0 => fun _ _ _ _ _ => none
  | n + 1 => fun A h kn ke kr => X A h (fun A h => loopR X n A h kn ke kr) ke kr
def exitC (id : Nat) : KC β := fun A h _ ke _ => ke id A h
def retC : KC β := fun A h _ _ kr => kr A h
def norm (live : List Nat) (A : KF) : KF := live.map fun t => (t, look A t)
def normC (live : List Nat) (X : KC β) : KC β := fun A h kn ke kr => X (norm live A) h kn ke kr

def FRk (r : Ren) (A : KF) (a : Act) : Prop := ∀ t, t < a.tmps.size → VR r (look A t) (a.eval (.tmp t))

def leaves (kn : KF → H → Option β) (ke : Nat → KF → H → Option β) (kr : KF → H → Option β) : AExit → KF → H → Option β
  | .normal => kn
  | .exit i => ke i
  | .ret => kr

/-- the numbers that new blocks may get; S: all -/
structure Bnd (S : Bool) where
  set : Nat → Prop
  all : S = true → ∀ i, set i

/-- X stands for code c; S: its runs may end in unlike ways -/
structure DenG (S : Bool) (P : Program) (N : Nat) (c : Code) (X : KC β) : Prop where
  ends : ∀ A h kn ke kr x, X A h kn ke kr = some x → ∃ e A' h', leaves kn ke kr e A' h' = some x ∧ h.next ≤ h'.next ∧ (h.WF → h'.WF)
  sim : ∀ (r : Ren) (a : Act) (w : World) A h kn ke kr x (B : Bnd S), X A h kn ke kr = some x → FRk r A a → a.tmps.size = N → Rel r h w → (∀ i, h.next ≤ i → B.set i → r i = none) →
    (∀ e A' h', leaves kn ke kr e A' h' = some x → ∀ i, i < h'.next → B.set i) →
    ∀ Q : Exit → Act → World → Prop, (∀ r' a' w' A' h' e, FRk r' A' a' → a'.tmps.size = N → a'.defers = a.defers → Post r h w r' h' w' → leaves kn ke kr e A' h' = some x → Q e.to a' w') → c.wp P Q a w

theorem DenG.grows {S : Bool} {P : Program} {N : Nat} {c : Code} {X : KC β} (d : DenG S P N c X) (A : KF) (h : H) (kn : KF → H → Option β) (ke : Nat → KF → H → Option β) (kr : KF → H → Option β) (x : β) (B : Bnd S) (e : X A h kn ke kr = some x)
    (hB : ∀ e A' h', leaves kn ke kr e A' h' = some x → ∀ i, i < h'.next → B.set i) : ∀ i, i < h.next → B.set i := by
  obtain ⟨e', A', h', h1, h2, _⟩ := d.ends A h kn ke kr x e
  exact fun i hi => hB _ _ _ h1 i (Nat.lt_of_lt_of_le hi h2)

theorem DenG.skip {S : Bool} {P : Program} {N : Nat} : DenG S P N .skip (skipC : KC β) where
  ends := fun A h kn ke kr x e => ⟨.normal, A, h, e, Nat.le_refl _, fun h => h⟩
  sim := fun r a w A h kn ke kr x B e hfr hsz hrel hfree hB Q hQ => wp_skip (hQ r a w A h .normal hfr hsz rfl (Post.refl hrel) e)

theorem DenG.label {S : Bool} {P : Program} {N l : Nat} : DenG S P N (.label l) (skipC : KC β) where
  ends := fun A h kn ke kr x e => ⟨.normal, A, h, e, Nat.le_refl _, fun h => h⟩
  sim := fun r a w A h kn ke kr x B e hfr hsz hrel hfree hB Q hQ => wp_label (hQ r a w A h .normal hfr hsz rfl (Post.refl hrel) e)

/-- a scope through which the run goes without a goto -/
theorem DenG.scope {S : Bool} {P : Program} {N : Nat} {c : Code} {X : KC β} (d : DenG S P N c X) : DenG S P N (.scope c) X where
  ends := d.ends
  sim := fun r a w A h kn ke kr x B e hfr hsz hrel hfree hB Q hQ => by
    refine wp_scope_straight (d.sim r a w A h kn ke kr x B e hfr hsz hrel hfree hB _ fun r' a' w' A' h' e' g1 g2 g3 g4 g5 => ?_)
    have := hQ r' a' w' A' h' e' g1 g2 g3 g4 g5
    cases e' with
    | normal => exact this
    | exit i => exact this
    | ret => exact this

theorem DenG.exit {S : Bool} {P : Program} {N id : Nat} : DenG S P N (.exit id) (exitC id : KC β) where
  ends := fun A h kn ke kr x e => ⟨.exit id, A, h, e, Nat.le_refl _, fun h => h⟩
  sim := fun r a w A h kn ke kr x B e hfr hsz hrel hfree hB Q hQ => wp_exit (hQ r a w A h (.exit id) hfr hsz rfl (Post.refl hrel) e)

theorem DenG.ret {S : Bool} {P : Program} {N : Nat} : DenG S P N .ret (retC : KC β) where
  ends := fun A h kn ke kr x e => ⟨.ret, A, h, e, Nat.le_refl _, fun h => h⟩
  sim := fun r a w A h kn ke kr x B e hfr hsz hrel hfree hB Q hQ => wp_ret (hQ r a w A h .ret hfr hsz rfl (Post.refl hrel) e)

theorem FRk.norm {r : Ren} {A : KF} {a : Act} (h : FRk r A a) (live : List Nat) : FRk r (norm live A) a := by
  intro t ht
  have : look (Ev.norm live A) t = look A t ∨ look (Ev.norm live A) t = .junk := by
    unfold Ev.norm
    induction live with
    | nil => exact .inr rfl
    | cons u l ih =>
      simp only [List.map_cons, look]
      split
      · rename_i hb; have := Nat.eq_of_beq_eq_true hb; subst this; exact .inl rfl
      · exact ih
  rcases this with e | e
  · rw [e]; exact h t ht
  · rw [e]; exact .junk _

theorem DenG.norm {S : Bool} {P : Program} {N : Nat} {c : Code} {X : KC β} (live : List Nat) (d : DenG S P N c X) : DenG S P N c (normC live X) where
  ends := fun A h kn ke kr x e => d.ends _ h kn ke kr x e
  sim := fun r a w A h kn ke kr x B e hfr hsz hrel hfree hB Q hQ => d.sim r a w _ h kn ke kr x B e (hfr.norm live) hsz hrel hfree hB Q hQ

theorem leaves_seq {kn : KF → H → Option β} {ke : Nat → KF → H → Option β} {kr : KF → H → Option β} {Y : KC β} {S : Bool} {P : Program} {N : Nat} {c : Code} (d : DenG S P N c Y) {x : β} {B : Bnd S} (hB : ∀ e A' h', leaves kn ke kr e A' h' = some x → ∀ i, i < h'.next → B.set i) :
    ∀ e A' h', leaves (fun A h => Y A h kn ke kr) ke kr e A' h' = some x → ∀ i, i < h'.next → B.set i := by
  intro e A' h' he
  cases e with
  | normal => exact d.grows A' h' kn ke kr x B he hB
  | exit i => exact hB (.exit i) A' h' he
  | ret => exact hB .ret A' h' he

theorem DenG.seq {S : Bool} {P : Program} {N : Nat} {c1 c2 : Code} {X Y : KC β} (d1 : DenG S P N c1 X) (d2 : DenG S P N c2 Y) : DenG S P N (.seq c1 c2) (seqC X Y) where
  ends := fun A h kn ke kr x e => by
    obtain ⟨e', A', h', h1, h2, h3⟩ := d1.ends A h _ ke kr x e
    cases e' with
    | normal =>
      obtain ⟨e'', A'', h'', k1, k2, k3⟩ := d2.ends A' h' kn ke kr x h1
      exact ⟨e'', A'', h'', k1, Nat.le_trans h2 k2, fun hw => k3 (h3 hw)⟩
    | exit i => exact ⟨.exit i, A', h', h1, h2, h3⟩
    | ret => exact ⟨.ret, A', h', h1, h2, h3⟩
  sim := fun r a w A h kn ke kr x B e hfr hsz hrel hfree hB Q hQ => by
    refine wp_seq (d1.sim r a w A h _ ke kr x B e hfr hsz hrel hfree (leaves_seq d2 hB) _ fun r' a' w' A' h' e' g1 g2 g3 g4 g5 => ?_)
    cases e' with
    | normal =>
      exact d2.sim r' a' w' A' h' kn ke kr x B g5 g1 g2 g4.rel (free_B g4 hfree) hB Q fun r'' a'' w'' A'' h'' e'' k1 k2 k3 k4 k5 => hQ r'' a'' w'' A'' h'' e'' k1 k2 (k3.trans g3) (g4.trans k4) k5
    | exit i => exact hQ r' a' w' A' h' (.exit i) g1 g2 g3 g4 g5
    | ret => exact hQ r' a' w' A' h' .ret g1 g2 g3 g4 g5

theorem eval_slot {r : Ren} {N : Nat} {A : KF} {a : Act} (hfr : FRk r A a) (hsz : a.tmps.size = N) (hg : GL r) (x : Operand) : VR r (kopd N A x) (a.eval x) := by
  cases x with
  | tmp t =>
    simp only [kopd]
    split
    · rename_i hb; exact hfr t (by rw [hsz]; exact of_blt hb)
    · exact .junk _
  | const v => exact VR_ofValue r v
  | global g => exact hg.vr g
  | func f => exact .func f [] [] #[] #[] rfl rfl (fun i a v h => by simp at h) (fun i a v h => by simp at h)

theorem DenG.cond {S : Bool} {P : Program} {N : Nat} {c : Operand} {c1 c2 : Code} {X Y : KC β} (d1 : DenG S P N c1 X) (d2 : DenG S P N c2 Y) : DenG S P N (.cond c c1 c2) (condC N c X Y) where
  ends := fun A h kn ke kr x e => by
    obtain ⟨b, _, e⟩ := asBool_some e
    cases b
    · exact d2.ends A h kn ke kr x e
    · exact d1.ends A h kn ke kr x e
  sim := fun r a w A h kn ke kr x B e hfr hsz hrel hfree hB Q hQ => by
    obtain ⟨b, hb, e⟩ := asBool_some e
    have hv := eval_slot hfr hsz hrel.glob c
    rw [hb] at hv
    have hc : a.eval c = .bool b := by
      generalize hq : a.eval c = q at hv
      cases hv; rfl
    refine wp_cond hc ?_
    cases b
    · exact d2.sim r a w A h kn ke kr x B e hfr hsz hrel hfree hB Q hQ
    · exact d1.sim r a w A h kn ke kr x B e hfr hsz hrel hfree hB Q hQ

theorem leaves_block {kn : KF → H → Option β} {ke : Nat → KF → H → Option β} {kr : KF → H → Option β} {id : Nat} {e : AExit} {A : KF} {h : H} :
    leaves kn (fun i A h => cond (Nat.beq i id) (kn A h) (ke i A h)) kr e A h = leaves kn ke kr (if e = .exit id then .normal else e) A h := by
  cases e with
  | normal => rfl
  | ret => rfl
  | exit i =>
    simp only [leaves]
    by_cases hi : i = id
    · subst hi; simp [leaves]
    · have : Nat.beq i id = false := by rw [← Bool.not_eq_true]; intro h; exact hi (Nat.eq_of_beq_eq_true h)
      rw [this, if_neg (by intro e; cases e; exact hi rfl)]
      rfl

theorem DenG.block {S : Bool} {P : Program} {N id : Nat} {c : Code} {X : KC β} (d : DenG S P N c X) : DenG S P N (.block id c) (blockC id X) where
  ends := fun A h kn ke kr x e => by
    obtain ⟨e', A', h', h1, h2, h3⟩ := d.ends A h kn _ kr x e
    rw [leaves_block] at h1
    exact ⟨_, A', h', h1, h2, h3⟩
  sim := fun r a w A h kn ke kr x B e hfr hsz hrel hfree hB Q hQ => by
    refine wp_block (d.sim r a w A h kn _ kr x B e hfr hsz hrel hfree (fun e' A' h' he => by rw [leaves_block] at he; exact hB _ _ _ he) _ fun r' a' w' A' h' e' g1 g2 g3 g4 g5 => ?_)
    rw [leaves_block] at g5
    have := hQ r' a' w' A' h' _ g1 g2 g3 g4 g5
    cases e' with
    | normal => exact this
    | ret => exact this
    | exit j =>
      show Exit.inBlock id Q (.exit j) a' w'
      simp only [Exit.inBlock]
      by_cases hj : j = id
      · subst hj
        simp only [if_true] at this ⊢; exact this
      · rw [if_neg hj]
        rw [if_neg (by intro e; cases e; exact hj rfl)] at this
        exact this

theorem DenG.loop {S : Bool} {P : Program} {N : Nat} {c : Code} {X : KC β} (d : DenG S P N c X) (n : Nat) : DenG S P N (.loop c) (loopR X n) where
  ends := by
    induction n with
    | zero => intro A h kn ke kr x e; cases e
    | succ n ih =>
      intro A h kn ke kr x e
      obtain ⟨e', A', h', h1, h2, h3⟩ := d.ends A h _ ke kr x e
      cases e' with
      | normal =>
        obtain ⟨e'', A'', h'', k1, k2, k3⟩ := ih A' h' kn ke kr x h1
        exact ⟨e'', A'', h'', k1, Nat.le_trans h2 k2, fun hw => k3 (h3 hw)⟩
      | exit i => exact ⟨.exit i, A', h', h1, h2, h3⟩
      | ret => exact ⟨.ret, A', h', h1, h2, h3⟩
  sim := by
    have grow : ∀ n A h kn ke kr x (B : Bnd S), (loopR X n : KC β) A h kn ke kr = some x → (∀ e A' h', leaves kn ke kr e A' h' = some x → ∀ i, i < h'.next → B.set i) → ∀ i, i < h.next → B.set i := by
      intro n
      induction n with
      | zero => intro A h kn ke kr x B e hB; cases e
      | succ n ih =>
        intro A h kn ke kr x B e hB
        refine d.grows A h _ ke kr x B e fun e' A' h' he => ?_
        cases e' with
        | normal => exact ih A' h' kn ke kr x B he hB
        | exit i => exact hB (.exit i) A' h' he
        | ret => exact hB .ret A' h' he
    intro r a w A h kn ke kr x B e hfr hsz hrel hfree hB Q hQ
    refine wp_loop_rounds n ?_
    revert r a w A h
    induction n with
    | zero => intro r a w A h e; cases e
    | succ n ih =>
      intro r a w A h e hfr hsz hrel hfree hQ
      rw [rounds_succ]
      refine d.sim r a w A h _ ke kr x B e hfr hsz hrel hfree (fun e' A' h' he => ?_) _ fun r' a' w' A' h' e' g1 g2 g3 g4 g5 => ?_
      · cases e' with
        | normal => exact grow n A' h' kn ke kr x B he hB
        | exit i => exact hB (.exit i) A' h' he
        | ret => exact hB .ret A' h' he
      · cases e' with
        | normal => exact ih r' a' w' A' h' g5 g1 g2 g4.rel (free_B g4 hfree) fun r'' a'' w'' A'' h'' e'' k1 k2 k3 k4 k5 => hQ r'' a'' w'' A'' h'' e'' k1 k2 (k3.trans g3) (g4.trans k4) k5
        | exit i => exact hQ r' a' w' A' h' (.exit i) g1 g2 g3 g4 g5
        | ret => exact hQ r' a' w' A' h' .ret g1 g2 g3 g4 g5

theorem DenG.region {S : Bool} {P : Program} (hm : P.follows .mixedOrders = true) {ck : CK} (hck : ck.call.Sound P) {N id : Nat} {ops : Array Oper} {draw : Bool} (hok : (!draw || okRegion P ops) = true) : DenG S P N (.region id ops draw) (regC P ck N ops draw : KC β) := by
  have key : ∀ A h (kn : KF → H → Option β) x, evOpsK P ck ops N draw ops.toList 0 A h noT [] kn = some x → ∃ fr' A' h', evRegion P ck.call ops draw ((List.range N).map (look A), h) = some (fr', h') ∧ AF N A' fr' ∧ kn A' h' = some x := by
    intro A h kn x e
    obtain ⟨fr', A', h', h1, h2, h3⟩ := evOpsK_some (fr := (List.range N).map (look A)) e ⟨by simp, fun t ht => by rw [List.getD_eq_getElem?_getD, List.getElem?_map, List.getElem?_range ht]; rfl⟩
    exact ⟨fr', A', h', h1, h2, h3⟩
  refine ⟨fun A h kn ke kr x e => ?_, fun r a w A h kn ke kr x B e hfr hsz hrel hfree hB Q hQ => ?_⟩
  · obtain ⟨fr', A', h', h1, h2, h3⟩ := key A h kn x e
    exact ⟨.normal, A', h', h3, evRegion_grows hck h1⟩
  · obtain ⟨fr', A', h', h1, h2, h3⟩ := key A h kn x e
    have hb := hB .normal A' h' h3
    have hfr' : FR r ((List.range N).map (look A)) a := by
      refine ⟨by simpa using hsz.symm, fun t x v hx hv => ?_⟩
      have ht : t < N := by have := (List.getElem?_eq_some_iff.1 hx).1; simpa using this
      rw [List.getElem?_map, List.getElem?_range ht] at hx
      simp at hx
      subst hx
      have := hfr t (by rw [hsz]; exact ht)
      simp only [Act.eval, Array.getD_eq_getD_getElem?] at this
      rw [← Array.getElem?_toList, hv] at this
      exact this
    refine region_ends hm hck hok h1 hfr' hrel (fun i a b => hfree i a (hb i b)) Q fun r' a' w' g1 g2 g3 => ?_
    have hsz' : a'.tmps.size = N := by rw [← h2.1]; simpa using g1.1.symm
    refine hQ r' a' w' A' h' .normal (fun t ht => ?_) hsz' g2 g3 h3
    rw [h2.2 t (by rw [← hsz']; exact ht)]
    exact opd_VR g1 g3.rel.glob (.tmp t)


abbrev Den (P : Program) (N : Nat) (c : Code) (X : KC β) : Prop := DenG false P N c X

/-! ### functions -/

def resK (P : Program) (N : Nat) (A : KF) (h : H) : List ResultVar → (List AV → Option β) → Option β
  | [], k => k []
  | .tmp t :: xs, k => resK P N A h xs fun vs => k (kopd N A (.tmp t) :: vs)
  | .cell a t :: xs, k => loadK P t (kopd N A (.tmp a)) h fun v => resK P N A h xs fun vs => k (v :: vs)

def argsF : List AV → Nat → KF
  | [], _ => []
  | v :: vs, i => (i, v) :: argsF vs (i + 1)

def bodyK (P : Program) (N : Nat) (results : Array ResultVar) (X : KC β) (args : List AV) (h : H) (k : AV → H → Option β) : Option β :=
  X (argsF args 0) h (fun A h => resK P N A h results.toList fun vs => k (oneOf vs) h) (fun _ _ _ => none) (fun A h => resK P N A h results.toList fun vs => k (oneOf vs) h)

theorem resK_some {P : Program} {N : Nat} {A : KF} {h : H} {r : Ren} {a : Act} {w : World} (hfr : FRk r A a) (hsz : a.tmps.size = N) (hrel : Rel r h w) {x : β} : ∀ {xs : List ResultVar} {k : List AV → Option β}, resK P N A h xs k = some x →
    ∃ vs vs', k vs = some x ∧ VRL r vs vs' ∧ (xs.mapM (resSem a.tmps)).run P w = .ok vs' w
  | [], k, e => ⟨[], [], e, .nil, rfl⟩
  | .tmp t :: xs, k, e => by
    simp only [resK] at e
    obtain ⟨vs, vs', h1, h2, h3⟩ := resK_some hfr hsz hrel e
    refine ⟨_, a.eval (.tmp t) :: vs', h1, .cons (eval_slot hfr hsz hrel.glob _) h2, ?_⟩
    rw [List.mapM_cons]
    simp only [Sem.run_bind, resSem, Sem.run_pure, Result.andThen_ok, h3]
    rfl
  | .cell ad t :: xs, k, e => by
    simp only [resK] at e
    obtain ⟨v, hv, e⟩ := loadK_some e
    obtain ⟨vs, vs', h1, h2, h3⟩ := resK_some hfr hsz hrel e
    obtain ⟨q, v', g1, g2, g3⟩ := run_loadVar hrel hv (eval_slot hfr hsz hrel.glob (.tmp ad))
    refine ⟨_, v' :: vs', h1, .cons g2 h2, ?_⟩
    have : a.tmps.getD ad undef = .pointer (some q) := g1
    rw [List.mapM_cons]
    simp only [Sem.run_bind, resSem, this, asAddr, Sem.run_pure, Result.andThen_ok, g3, h3]

theorem look_argsF : ∀ (vs : List AV) (i t : Nat), look (argsF vs i) t = if i ≤ t ∧ t < i + vs.length then vs.getD (t - i) .junk else .junk
  | [], i, t => by rw [if_neg (by simp <;> omega)]; rfl
  | v :: vs, i, t => by
    simp only [argsF, look]
    split
    · rename_i hb
      have := Nat.eq_of_beq_eq_true hb
      subst this
      rw [if_pos (by simp)]
      simp
    · rename_i hb
      have hne : i ≠ t := fun e => by subst e; simp at hb
      rw [look_argsF vs (i + 1) t]
      simp only [List.length_cons]
      by_cases hc : i + 1 ≤ t ∧ t < i + 1 + vs.length
      · rw [if_pos hc, if_pos (by omega)]
        obtain ⟨j, hj⟩ : ∃ j, t - i = j + 1 := ⟨t - i - 1, by omega⟩
        rw [hj, List.getD_cons_succ]
        congr 1; omega
      · rw [if_neg hc, if_neg (by omega)]

/-- **What a function's body computes, the function comes to.** -/
theorem acall_of {P : Program} {N : Nat} {c : Code} {X : KC β} (d : Den P N c X) {f : FuncId} {fn : Func} (hfn : P.funcs[f]? = some fn) (hbody : fn.body = some c) (hname : (fn.name == "runtime.NumGoroutine") = false) (hN : fn.ntmps = N)
    {args : List AV} (hlen : args.length ≤ N) {h : H} {k : AV → H → Option β} {x : β} (e : bodyK P N fn.results X args h k = some x) {v0 : AV} {h0 : H} (hk : ∀ v h, k v h = some x → v = v0 ∧ h = h0) : ACall P f args h v0 h0 := by
  have main : ∀ (A' : KF) (h' : H) (xs : List ResultVar) (k' : List AV → Option β), resK P N A' h' xs k' = some x → ∃ vs, k' vs = some x := by
    intro A' h' xs
    induction xs with
    | nil => intro k' e; exact ⟨[], e⟩
    | cons y ys ih =>
      intro k' e
      cases y with
      | tmp t => simp only [resK] at e; obtain ⟨vs, hv⟩ := ih _ e; exact ⟨_, hv⟩
      | cell ad t => simp only [resK] at e; obtain ⟨v, _, e⟩ := loadK_some e; obtain ⟨vs, hv⟩ := ih _ e; exact ⟨_, hv⟩
  have hE : ∀ e A' h', leaves (fun A h => resK P N A h fn.results.toList fun vs => k (oneOf vs) h) (fun _ _ _ => none) (fun A h => resK P N A h fn.results.toList fun vs => k (oneOf vs) h) e A' h' = some x → h' = h0 := by
    intro e A' h' he
    cases e with
    | normal => obtain ⟨vs, hv⟩ := main _ _ _ _ he; exact (hk _ _ hv).2
    | ret => obtain ⟨vs, hv⟩ := main _ _ _ _ he; exact (hk _ _ hv).2
    | exit i => cases he
  have hB : ∀ e A' h', leaves (fun A h => resK P N A h fn.results.toList fun vs => k (oneOf vs) h) (fun _ _ _ => none) (fun A h => resK P N A h fn.results.toList fun vs => k (oneOf vs) h) e A' h' = some x → ∀ i, i < h'.next → i < h0.next :=
    fun e A' h' he i hi => by rw [hE e A' h' he] at hi; exact hi
  obtain ⟨e1, A1, h1, l1, g1, w1⟩ := d.ends _ h _ _ _ x e
  have h1e := hE _ _ _ l1
  subst h1e
  refine ⟨⟨fn, hfn, by rw [hbody]; rfl, hname⟩, g1, w1, fun r w args' hrel hfree hargs => ?_⟩
  refine calls_of_wp hfn hbody ?_
  have hl : args.length = args'.size := by simpa using hargs.1
  have hsz : (args' ++ Array.replicate (fn.ntmps - args'.size) undef).size = N := by simp [hN]; omega
  refine d.sim r _ w _ h _ _ _ x ⟨fun i => i < h1.next, fun h => by cases h⟩ e (fun t ht => ?_) hsz hrel hfree hB _ fun r' a' w' A' h' e' g1 g2 g3 g4 g5 => ?_
  · rw [look_argsF]
    simp only [Nat.zero_le, true_and, Nat.zero_add, Nat.sub_zero]
    split
    · rename_i hlt
      have h1 : args[t]? = some args[t] := List.getElem?_eq_getElem hlt
      have h2 : args'.toList[t]? = some (args'.toList[t]'(by simpa [← hl] using hlt)) := List.getElem?_eq_getElem _
      have := hargs.2 t _ _ h1 h2
      rw [List.getD_eq_getElem?_getD, h1]
      simp only [Act.eval, Array.getD_eq_getD_getElem?]
      rw [Array.getElem?_append_left (by omega), ← Array.getElem?_toList, h2]
      exact this
    · exact .junk _
  · have fin : ∀ A' h', FRk r' A' a' → Post r h w r' h' w' → resK P N A' h' fn.results.toList (fun vs => k (oneOf vs) h') = some x →
        a'.defers = [] ∧ ∃ v, (results fn a'.tmps).run P w' = .ok v w' ∧ ∃ r' v', Ending.returned v = .returned v' ∧ VR r' v0 v' ∧ Post r h w r' h1 w' := by
      intro A' h' g1 g4 g5
      obtain ⟨vs, vs', q1, q2, q3⟩ := resK_some g1 g2 g4.rel g5
      obtain ⟨e1, e2⟩ := hk _ _ q1
      refine ⟨g3, (if h : vs'.toArray.size = 1 then vs'.toArray[0] else .tuple vs'.toArray), ?_, r', _, rfl, ?_, by rw [← e2]; exact g4⟩
      · show Sem.run P (do let vs ← fn.results.mapM (resSem a'.tmps); pure (if h : vs.size = 1 then vs[0] else .tuple vs)) w' = _
        rw [Array.mapM_eq_mapM_toList]
        simp only [Sem.run_bind, Sem.run_map, q3, Result.andThen_ok, Sem.run_pure]
      · rw [← e1]; exact VR_oneOf q2
    cases e' with
    | normal => exact fin A' h' g1 g4 g5
    | ret => exact fin A' h' g1 g4 g5
    | exit i => cases g5

end

end Go.Ev
