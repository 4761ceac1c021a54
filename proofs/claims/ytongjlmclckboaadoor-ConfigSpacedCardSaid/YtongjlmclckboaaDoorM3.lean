/- Own texts, joined: EvQ EvR EvS EvT EvU EvX EvV EvY EvZ EvW. -/
import Derived.Test.YtongjlmclckboaaDoorM2
import Derived.Scope
import Derived.ProofKit
import Derived.OpenShut
import Derived.ShutString
import Derived.ChangeOld
import Derived.Below
import Derived.Carry
import Derived.SizedLaws
import Derived.Laws.Strings
import Derived.Lib.Bytealg
import Derived.Laws.RangeString
set_option linter.all false
/- The abstract machine Ev, part Q: operations, regions, code and functions, each test ahead of what follows; what they compute the model's machine comes to. -/
namespace Go.Ev

section
variable {β : Type}

def fieldAddrK (P : Program) (t : TypeId) (x : AV) (f : Nat) (k : AV → Option β) : Option β :=
  match P.underlying t with
  | some (.struct fs) =>
    (match fs[f]? with
     | none => none
     | some fd => match P.info? fd.type with
       | none => none
       | some inf => match Nat.beq inf.size 0 with | true => none | false => asPtr x fun p => nnK p fun b o => k (.ptr (some (b, o + fd.offset))))
  | _ => none

theorem fieldAddrK_some {P : Program} {t : TypeId} {y : AV} {f : Nat} {k : AV → Option β} {x : β} (e : fieldAddrK P t y f k = some x) : ∃ v, evFieldAddr P t y f = some v ∧ k v = some x := by
  unfold fieldAddrK at e
  split at e
  · rename_i fs hu
    split at e
    · cases e
    · rename_i fd hf
      split at e
      · cases e
      · rename_i inf hi
        have hc : P.cellsOf fd.type = inf.size := by simp [Program.cellsOf, hi]
        split at e
        · cases e
        · rename_i hz
          obtain ⟨p, hx, e'⟩ := asPtr_some e
          clear e; subst hx; have e := e'; clear e'
          unfold nnK at e
          split at e
          · have hne : inf.size ≠ 0 := fun h0 => by rw [h0] at hz; cases hz
            refine ⟨_, ?_, e⟩
            simp [evFieldAddr, hu, hf, hi, hc, hne]
          · cases e
  · cases e

def fieldK (P : Program) (t : TypeId) (x : AV) (f : Nat) (k : AV → Option β) : Option β :=
  match P.underlying t with
  | some (.struct fs) => (match fs[f]? with | none => none | some fd => asAgg x fun cs => partK P fd.type cs fd.offset k)
  | _ => none

theorem fieldK_some {P : Program} {t : TypeId} {y : AV} {f : Nat} {k : AV → Option β} {x : β} (e : fieldK P t y f k = some x) : ∃ v, evField P t y f = some v ∧ k v = some x := by
  unfold fieldK at e
  split at e
  · rename_i fs hu
    split at e
    · cases e
    · rename_i fd hf
      obtain ⟨p, hx, e'⟩ := asAgg_some e
      clear e; subst hx; have e := e'; clear e'
      obtain ⟨v, hv, hk⟩ := partK_some e
      exact ⟨v, by simp [evField, hu, hf, hv], hk⟩
  · cases e

def nilK (x : AV) (k : AV → Option β) : Option β :=
  match x with
  | .func f a b => k (.func f a b)
  | x => asPtr x fun p => nnK p fun b o => k (.ptr (some (b, o)))

theorem nilK_some {y : AV} {k : AV → Option β} {x : β} (e : nilK y k = some x) : ∃ v, evNil y = some v ∧ k v = some x := by
  unfold nilK at e
  split at e
  · exact ⟨_, rfl, e⟩
  · obtain ⟨p, hx, e'⟩ := asPtr_some e
    clear e; subst hx; have e := e'; clear e'
    unfold nnK at e
    split at e
    · exact ⟨_, rfl, e⟩
    · cases e

def arrK (P : Program) (t : TypeId) (x : AV) (k : AV → Option β) : Option β :=
  match P.underlying t with
  | some (.array n _) => asSlice x fun p len _ => if n ≤ len ∧ 0 < len then nnK p fun b o => k (.ptr (some (b, o))) else none
  | _ => none

theorem arrK_some {P : Program} {t : TypeId} {y : AV} {k : AV → Option β} {x : β} (e : arrK P t y k = some x) : ∃ v, evArr P t y = some v ∧ k v = some x := by
  unfold arrK at e
  split at e
  · rename_i n el hu
    obtain ⟨p, l, c, hx, e'⟩ := asSlice_some e
    clear e; subst hx; have e := e'; clear e'
    split at e
    · rename_i hb
      unfold nnK at e
      split at e
      · exact ⟨_, by simp only [evArr, hu]; rw [if_pos hb], e⟩
      · cases e
    · cases e
  · cases e

/-- what is built of parts: the parts' lengths are asked one after another -/
def fillK (place : Nat → Option (Nat × Nat)) : List (Nat × AV) → List AV → (List AV → Option β) → Option β
  | [], cells, f => f cells
  | (i, v) :: rest, cells, f =>
    match place i, acells v with
    | some (off, size), some cs => if cs.length = size ∧ off + size ≤ cells.length then fillK place rest (cells.take off ++ cs ++ cells.drop (off + size)) f else none
    | _, _ => none
theorem fillK_some {place : Nat → Option (Nat × Nat)} {f : List AV → Option β} {x : β} : ∀ {parts : List (Nat × AV)} {cells : List AV}, fillK place parts cells f = some x → ∃ out, evFill place cells parts = some out ∧ f out = some x
  | [], cells, e => ⟨cells, rfl, e⟩
  | (i, v) :: rest, cells, e => by
    unfold fillK at e
    split at e
    · rename_i off size cs h1 h2
      split at e
      · rename_i hc
        obtain ⟨out, h3, h4⟩ := fillK_some e
        exact ⟨out, by unfold evFill; simp only [h1, h2]; rw [if_pos hc]; exact h3, h4⟩
      · cases e
    · cases e
def buildK (P : Program) (t : TypeId) (parts : List (Nat × AV)) (f : AV → Option β) : Option β :=
  match evZero P t with
  | none => none
  | some zs =>
    match P.underlying t with
    | some (.struct fs) => (match fieldPlaces P fs.toList with | some ps => fillK (ps[·]?) parts zs fun out => f (.agg out) | none => none)
    | some (.array _ e) => (match P.info? e with | some i => fillK (fun j => some (j * i.size, i.size)) parts zs fun out => f (.agg out) | none => none)
    | _ => none
theorem buildK_some {P : Program} {t : TypeId} {parts : List (Nat × AV)} {f : AV → Option β} {x : β} (e : buildK P t parts f = some x) : ∃ v, evBuild P t parts = some v ∧ f v = some x := by
  unfold buildK at e
  split at e
  · cases e
  · rename_i zs hz
    split at e
    · rename_i fs hu
      split at e
      · rename_i ps hp
        obtain ⟨out, h1, h2⟩ := fillK_some e
        exact ⟨_, by unfold evBuild; simp only [hz, hu, hp, Option.bind_some, h1, Option.map_some], h2⟩
      · cases e
    · rename_i n el hu
      split at e
      · rename_i i hi
        obtain ⟨out, h1, h2⟩ := fillK_some e
        exact ⟨_, by unfold evBuild; simp only [hz, hu, hi, Option.bind_some, h1, Option.map_some], h2⟩
      · cases e
    · cases e

/-- a row made of parts -/
def buildSliceK (P : Program) (t : TypeId) (len : Nat) (parts : List (Nat × AV)) (h : H) (k : AV → H → Option β) : Option β :=
  match P.underlying t with
  | some (.slice e) =>
    (match P.info? e with
     | some inf =>
       (match Nat.ble (len * inf.size) 16777216 with
        | true => (match evZero P e with | some zs => fillK (fun j => some (j * inf.size, inf.size)) parts (evTile (len * inf.size) zs) fun cs => k (.slice (some (h.next, 0)) len (.known len)) (h.new (.cells cs false)) | none => none)
        | false => none)
     | none => none)
  | _ => none
theorem buildSliceK_some {P : Program} {ρ : Operand → AV} {t : TypeId} {len : Nat} {parts : Array (Nat × Operand)} {h : H} {k : AV → H → Option β} {x : β} (e : buildSliceK P t len (parts.toList.map fun p => (p.1, ρ p.2)) h k = some x) :
    ∃ q, evAlloc P ρ (.buildSlice t len parts) = some q ∧ k (q.2 h.next) (h.newO q.1) = some x := by
  unfold buildSliceK at e
  split at e
  · rename_i el hu
    split at e
    · rename_i inf hi
      split at e
      · rename_i hb
        split at e
        · rename_i zs hz
          obtain ⟨out, h1, h2⟩ := fillK_some e
          have hb' : ¬ (len * inf.size > 2 ^ 24) := by have := Nat.le_of_ble_eq_true hb; omega
          refine ⟨(some (.cells out false), fun i => .slice (some (i, 0)) len (.known len)), ?_, h2⟩
          unfold evAlloc
          simp only [hu, hi, Option.bind_some, if_neg hb', hz, h1, Option.map_some]
        · cases e
      · cases e
    · cases e
  · cases e

def pickK (c a b : AV) (k : AV → Option β) : Option β :=
  match a, b with
  | .bool x, .bool y => asBool c fun t => k (.bool (cond t x y))
  | a, b => asBool c fun t => cond t (k a) (k b)

def convRK (P : Program) (s d : TypeId) (x : AV) (h : H) (k : AV → Option β) : Option β :=
  match P.underlying s, P.underlying d with
  | some (.slice e), some .string => (match P.underlying e with | some (.int .u8) => bsK h x fun s => k (.str s) | _ => none)
  | _, _ => none

theorem convRK_some {P : Program} {s d : TypeId} {y : AV} {h : H} {k : AV → Option β} {x : β} (e : convRK P s d y h k = some x) : ∃ v, evConvR P s d y h = some v ∧ k v = some x := by
  unfold convRK at e
  split at e
  · rename_i hs hd
    split at e
    · rename_i he
      unfold bsK at e
      split at e
      · rename_i b hb
        exact ⟨_, by simp [evConvR, hs, hd, he, hb], e⟩
      · cases e
    · cases e
  · cases e

def newK (o : AObj) (h : H) (f : Nat → H → Option β) : Option β := f h.next (h.new o)

def mkSlK (size bytes : Nat) (zs : List AV) (l c : Int) (h : H) (f : Nat → Nat → Nat → H → Option β) : Option β :=
  if 0 ≤ IntKind.i64.wrap l ∧ IntKind.i64.wrap l ≤ IntKind.i64.wrap c ∧ ¬ (bytes * IntKind.i64.wrap c > 2 ^ 48) then
    newK (.cells (evTile ((IntKind.i64.wrap c).toNat * size) zs) false) h fun i h' => f i (IntKind.i64.wrap l).toNat (IntKind.i64.wrap c).toNat h'
  else none

def makeSliceK (P : Program) (t : TypeId) (l c : AV) (h : H) (k : AV → H → Option β) : Option β :=
  match P.underlying t with
  | some (.slice e) =>
    (match P.info? e, evZero P e with
     | some inf, some zs => (match l, c with | .int _ l, .int _ c => mkSlK inf.size inf.bytes zs l c h fun i l c h' => k (.slice (some (i, 0)) l (.known c)) h' | _, _ => none)
     | _, _ => none)
  | _ => none

theorem makeSliceK_some {P : Program} {ρ : Operand → AV} {t : TypeId} {l c : Operand} {h : H} {k : AV → H → Option β} {x : β} (e : makeSliceK P t (ρ l) (ρ c) h k = some x) :
    ∃ q, evAlloc P ρ (.makeSlice t l c) = some q ∧ k (q.2 h.next) (h.newO q.1) = some x := by
  unfold makeSliceK at e
  split at e
  · rename_i el hu
    split at e
    · rename_i inf zs hi hz
      split at e
      · rename_i kl ln kc cn hl hc
        unfold mkSlK at e
        split at e
        · rename_i hb
          refine ⟨(some (.cells (evTile ((IntKind.i64.wrap cn).toNat * inf.size) zs) false), fun i => .slice (some (i, 0)) (IntKind.i64.wrap ln).toNat (.known (IntKind.i64.wrap cn).toNat)), ?_, e⟩
          simp only [evAlloc, hu, hl, hc, hi, hz, Option.bind_some]
          rw [if_pos hb]
        · cases e
      · cases e
    · cases e
  · cases e

/-! ### maps -/

def keyK (kd : TypeDesc) (k : AV) (x : Option β) : Option β := match keyKind kd k with | true => x | false => none
def lookK (z : AV) (m : Option Nat) (k : AV) (h : H) (f : AV → Bool → Option β) : Option β := match evLook z m k h with | some (v, b) => f v b | none => none
def putK (m : Option Nat) (k v : AV) (h : H) (f : H → Option β) : Option β := match evMapPut m k v h with | some h' => f h' | none => none
def delK (m : Option Nat) (k : AV) (h : H) (f : H → Option β) : Option β := match evMapDel m k h with | some h' => f h' | none => none
def clrK (m : Option Nat) (h : H) (f : H → Option β) : Option β := match evMapClear m h with | some h' => f h' | none => none
def lenMK (m : Option Nat) (h : H) (f : Int → Option β) : Option β := match evMapLen m h with | some n => f (Nat.cast n) | none => none

theorem keyK_some {kd : TypeDesc} {k : AV} {y : Option β} {x : β} (e : keyK kd k y = some x) : keyKind kd k = true ∧ y = some x := by
  unfold keyK at e
  split at e
  · rename_i h; exact ⟨h, e⟩
  · cases e

def lookupK (P : Program) (t : TypeId) (m k : AV) (ok : Bool) (h : H) (f : AV → Option β) : Option β :=
  match P.underlying t with
  | some (.map kt e) =>
    (match P.underlying kt, zeroV P e with
     | some kd, some z => asMap m fun m => keyK kd k (lookK z m k h fun v b => shapeK (rowShape P e) v fun v => f (okV ok v b))
     | _, _ => none)
  | _ => none

theorem lookupK_some {P : Program} {t : TypeId} {m k : AV} {ok : Bool} {h : H} {f : AV → Option β} {x : β} (e : lookupK P t m k ok h f = some x) : ∃ v, evLookup P t m k ok h = some v ∧ f v = some x := by
  unfold lookupK at e
  split at e
  · rename_i kt el hu
    split at e
    · rename_i kd z hkd hz
      obtain ⟨mm, rfl, e⟩ := asMap_some e
      obtain ⟨hk, e⟩ := keyK_some e
      unfold lookK at e
      split at e
      · rename_i v b hl
        exact ⟨okV ok v b, by simp [evLookup, hu, hkd, hk, hz, hl], shapeK_some (rowShape P el) (f := fun v => f (okV ok v b)) e⟩
      · cases e
    · cases e
  · cases e

def mapPutK (P : Program) (t : TypeId) (m k v : AV) (h : H) (f : H → Option β) : Option β :=
  match P.underlying t with
  | some (.map kt _) => (match P.underlying kt with | some kd => asMap m fun m => keyK kd k (putK m k v h f) | none => none)
  | _ => none

theorem mapPutK_some {P : Program} {t : TypeId} {m k v : AV} {h : H} {f : H → Option β} {x : β} (e : mapPutK P t m k v h f = some x) : ∃ h', evPutM P t m k v h = some h' ∧ f h' = some x := by
  unfold mapPutK at e
  split at e
  · rename_i kt el hu
    split at e
    · rename_i kd hkd
      obtain ⟨mm, rfl, e⟩ := asMap_some e
      obtain ⟨hk, e⟩ := keyK_some e
      unfold putK at e
      split at e
      · rename_i h' hp
        exact ⟨h', by simp [evPutM, hu, hkd, hk, hp], e⟩
      · cases e
    · cases e
  · cases e

def mapDelK (P : Program) (ts : List TypeId) (xs : List AV) (h : H) (f : AV → H → Option β) : Option β :=
  match ts, xs with
  | [t, _], [m, k] => (match P.underlying t with | some (.map kt _) => (match P.underlying kt with | some kd => asMap m fun m => keyK kd k (delK m k h fun h' => f (.tup []) h') | none => none) | _ => none)
  | _, _ => none

theorem mapDelK_some {P : Program} {ts : List TypeId} {xs : List AV} {h : H} {f : AV → H → Option β} {x : β} (e : mapDelK P ts xs h f = some x) : ∃ v h', evDelM P ts xs h = some (v, h') ∧ f v h' = some x := by
  unfold mapDelK at e
  split at e
  · split at e
    · rename_i kt el hu
      split at e
      · rename_i kd hkd
        obtain ⟨mm, rfl, e⟩ := asMap_some e
        obtain ⟨hk, e⟩ := keyK_some e
        unfold delK at e
        split at e
        · rename_i h' hp
          exact ⟨_, h', by simp [evDelM, hu, hkd, hk, hp], e⟩
        · cases e
      · cases e
    · cases e
  · cases e

def mapClrK (P : Program) (ts : List TypeId) (xs : List AV) (h : H) (f : AV → H → Option β) : Option β :=
  match ts, xs with
  | [t], [m] => (match P.underlying t with | some (.map _ _) => asMap m fun m => clrK m h fun h' => f (.tup []) h' | _ => none)
  | _, _ => none

theorem mapClrK_some {P : Program} {ts : List TypeId} {xs : List AV} {h : H} {f : AV → H → Option β} {x : β} (e : mapClrK P ts xs h f = some x) : ∃ v h', evClearM P ts xs h = some (v, h') ∧ f v h' = some x := by
  unfold mapClrK at e
  split at e
  · split at e
    · rename_i kt el hu
      obtain ⟨mm, rfl, e2⟩ := asMap_some e
      clear e; have e := e2; clear e2
      unfold clrK at e
      split at e
      · rename_i h' hp
        exact ⟨_, h', by simp [evClearM, hu, hp], e⟩
      · cases e
    · cases e
  · cases e

def mapLenK (P : Program) (ts : List TypeId) (xs : List AV) (h : H) (f : AV → Option β) : Option β :=
  match ts, xs with
  | [t], [m] => (match P.underlying t with | some (.map _ _) => asMap m fun m => lenMK m h fun n => f (.int .i64 n) | _ => none)
  | _, _ => none

theorem mapLenK_some {P : Program} {ts : List TypeId} {xs : List AV} {h : H} {f : AV → Option β} {x : β} (e : mapLenK P ts xs h f = some x) : ∃ v, evLenM P ts xs h = some v ∧ f v = some x := by
  unfold mapLenK at e
  split at e
  · split at e
    · rename_i kt el hu
      obtain ⟨mm, rfl, e2⟩ := asMap_some e
      clear e; have e := e2; clear e2
      unfold lenMK at e
      split at e
      · rename_i n hp
        exact ⟨_, by simp [evLenM, hu, hp], e⟩
      · cases e
    · cases e
  · cases e

def rest (P : Program) (ck : CK) (ρ : Operand → AV) (op : Op) (h : H) (k : AV → H → Option β) : Option β :=
  match evOper P ck.call ρ op h with
  | some q => k q.1 q.2
  | none => none

def extK (x : AV) (i : Nat) (k : AV → Option β) : Option β := match x with | .tup vs => (match vs[i]? with | some v => k v | none => none) | _ => none
theorem extK_some {y : AV} {i : Nat} {k : AV → Option β} {x : β} (e : extK y i k = some x) : ∃ v, evExtract y i = some v ∧ k v = some x := by
  unfold extK at e
  split at e
  · split at e
    · rename_i v hv; exact ⟨v, hv, e⟩
    · cases e
  · cases e

def evOperK (P : Program) (ck : CK) (ρ : Operand → AV) (op : Op) (h : H) (k : AV → H → Option β) : Option β :=
  match op with
  | .move x => k (ρ x) h
  | .assign x => k (ρ x) h
  | .build t parts => buildK P t (parts.toList.map fun p => (p.1, ρ p.2)) fun v => k v h
  | .pick c a b => pickK (ρ c) (ρ a) (ρ b) fun v => k v h
  | .nilCheck x => nilK (ρ x) fun v => k v h
  | .binOp op t x y _ => (match notIntStr (ρ x) with | true => eqK P op t (ρ x) (ρ y) fun v => k v h | false => binK op (ρ x) (ρ y) fun v => k v h)
  | .slice t x lo hi mx => sliceK P t (ρ x) (lo.map ρ) (hi.map ρ) (mx.map ρ) fun v => k v h
  | .indexAddr t x i => indexAddrK P t (ρ x) (ρ i) fun v => k v h
  | .index t x i => indexK P t (ρ x) (ρ i) fun v => k v h
  | .sliceToArrayPointer t x => arrK P t (ρ x) fun v => k v h
  | .fieldAddr t x f => fieldAddrK P t (ρ x) f fun v => k v h
  | .field t x f => fieldK P t (ρ x) f fun v => k v h
  | .extract x i => extK (ρ x) i fun v => k v h
  | .load t a => loadK P t (ρ a) h fun v => k v h
  | .store t a x => storeK P t (ρ a) (ρ x) h fun h' => k .junk h'
  | .makeSlice t l c => makeSliceK P t (ρ l) (ρ c) h k
  | .buildSlice t len parts => buildSliceK P t len (parts.toList.map fun p => (p.1, ρ p.2)) h k
  | .lookup t m i ok => lookupK P t (ρ m) (ρ i) ok h fun v => k v h
  | .mapUpdate t m i x => mapPutK P t (ρ m) (ρ i) (ρ x) h fun h' => k .junk h'
  | .insert t m i x => mapPutK P t (ρ m) (ρ i) (ρ x) h fun h' => k .junk h'
  | .convert s d x => (match sliceD P d, sliceD P s with | false, true => convRK P s d (ρ x) h fun v => k v h | _, _ => rest P ck ρ (.convert s d x) h k)
  | .next it true => asPtr (ρ it) fun p => nnK p fun i o => (match o with | 0 => nextK h i (fun pos c h' => k (.tup [.bool true, .int .i64 pos, .int .i32 c]) h') (k (.tup [.bool false]) h) | _ => none)
  | .call c =>
    (match c.callee with
     | .value x => match ρ x with | .func f first caps => ck.run f (first ++ c.args.toList.map ρ ++ caps) h k | _ => none
     | .builtin .append => appendK P c.argTypes.toList (c.args.toList.map ρ) h k
     | .builtin .copy => cpyK 0 P c.argTypes.toList (c.args.toList.map ρ) h fun n h' => k (.int .i64 n) h'
     | .builtin .delete => mapDelK P c.argTypes.toList (c.args.toList.map ρ) h k
     | .builtin .clear => mapClrK P c.argTypes.toList (c.args.toList.map ρ) h k
     | .builtin .len => (match mapD P (c.argTypes.toList.headD 0) with | true => mapLenK P c.argTypes.toList (c.args.toList.map ρ) h fun v => k v h | false => rest P ck ρ (.call c) h k)
     | _ => rest P ck ρ (.call c) h k)
  | op => rest P ck ρ op h k

theorem rest_some {P : Program} {ck : CK} {ρ : Operand → AV} {op : Op} {h : H} {k : AV → H → Option β} {x : β} (e : rest P ck ρ op h k = some x) : ∃ v h', evOper P ck.call ρ op h = some (v, h') ∧ k v h' = some x := by
  unfold rest at e
  split at e
  · rename_i q hq; exact ⟨q.1, q.2, hq, e⟩
  · cases e

theorem evOperK_some {P : Program} {ck : CK} {ρ : Operand → AV} {op : Op} {h : H} {k : AV → H → Option β} {x : β} (e : evOperK P ck ρ op h k = some x) : ∃ v h', evOper P ck.call ρ op h = some (v, h') ∧ k v h' = some x := by
  have pure : ∀ {v : AV}, cls P op = .pure → evPure P ρ op = some v → k v h = some x → ∃ v h', evOper P ck.call ρ op h = some (v, h') ∧ k v h' = some x := fun {v} hc hv hk => ⟨v, h, by unfold evOper; rw [hc]; simp [hv], hk⟩
  have read : ∀ {v : AV}, cls P op = .read → evRead P ρ op h = some v → k v h = some x → ∃ v h', evOper P ck.call ρ op h = some (v, h') ∧ k v h' = some x := fun {v} hc hv hk => ⟨v, h, by unfold evOper; rw [hc]; simp [hv], hk⟩
  unfold evOperK at e
  split at e
  · exact pure rfl rfl e
  · exact pure rfl rfl e
  · obtain ⟨v, hv, hk⟩ := buildK_some e; exact pure rfl hv hk
  · rename_i c a b
    unfold pickK at e
    split at e
    · rename_i p q ha hb
      obtain ⟨t, ht, e⟩ := asBool_some e
      refine pure rfl (v := .bool (cond t p q)) ?_ e
      simp only [evPure, ht, ha, hb]
      cases t <;> rfl
    · obtain ⟨t, ht, e⟩ := asBool_some e
      cases t
      · exact pure rfl (v := ρ b) (by simp [evPure, ht]) e
      · exact pure rfl (v := ρ a) (by simp [evPure, ht]) e
  · obtain ⟨v, hv, hk⟩ := nilK_some e; exact pure rfl hv hk
  · split at e
    · rename_i hn
      obtain ⟨v, hv, hk⟩ := eqK_some e
      exact pure rfl (by simp only [evPure]; rw [if_pos hn]; exact hv) hk
    · rename_i hn
      obtain ⟨v, hv, hk⟩ := binK_some e
      exact pure rfl (by simp only [evPure]; rw [if_neg (by simp [hn])]; exact hv) hk
  · obtain ⟨v, hv, hk⟩ := sliceK_some e; exact pure rfl hv hk
  · obtain ⟨v, hv, hk⟩ := indexAddrK_some e; exact pure rfl hv hk
  · obtain ⟨v, hv, hk⟩ := indexK_some e; exact pure rfl hv hk
  · obtain ⟨v, hv, hk⟩ := arrK_some e; exact pure rfl hv hk
  · obtain ⟨v, hv, hk⟩ := fieldAddrK_some e; exact pure rfl hv hk
  · obtain ⟨v, hv, hk⟩ := fieldK_some e; exact pure rfl hv hk
  · obtain ⟨v, hv, hk⟩ := extK_some e; exact pure rfl hv hk
  · obtain ⟨v, hv, hk⟩ := loadK_some e; exact read rfl hv hk
  · rename_i t a y
    obtain ⟨h', hv, hk⟩ := storeK_some e
    exact ⟨.junk, h', by simp [evOper, cls, evFull, hv], hk⟩
  · obtain ⟨q, hv, hk⟩ := makeSliceK_some e
    exact ⟨q.2 h.next, h.newO q.1, by simp [evOper, cls, hv], hk⟩
  · obtain ⟨q, hv, hk⟩ := buildSliceK_some e
    exact ⟨q.2 h.next, h.newO q.1, by simp [evOper, cls, hv], hk⟩
  · obtain ⟨v, hv, hk⟩ := lookupK_some e; exact read rfl hv hk
  · obtain ⟨h', hv, hk⟩ := mapPutK_some e
    exact ⟨.junk, h', by simp [evOper, cls, evFull, hv], hk⟩
  · obtain ⟨h', hv, hk⟩ := mapPutK_some e
    exact ⟨.junk, h', by simp [evOper, cls, evFull, hv], hk⟩
  · rename_i s d y
    split at e
    · rename_i hd hs
      obtain ⟨v, hv, hk⟩ := convRK_some e
      exact read (by simp [cls, hd, hs]) hv hk
    · exact rest_some e
  · rename_i it
    obtain ⟨p, hp, e⟩ := asPtr_some e
    unfold nnK at e
    split at e
    · (try dsimp only at e); split at e
      · rename_i i
        unfold nextK at e
        split at e
        · rename_i s pos hg
          split at e
          · rename_i hlt
            exact ⟨_, _, by simp [evOper, cls, evFull, evNext, hp, hg, hlt] <;> exact ⟨rfl, rfl⟩, e⟩
          · rename_i hlt
            exact ⟨_, _, by simp [evOper, cls, evFull, evNext, hp, hg, hlt] <;> exact ⟨rfl, rfl⟩, e⟩
        · cases e
      · cases e
    · cases e
  · rename_i c
    split at e
    · rename_i y hy
      split at e
      · rename_i f first caps hf
        rw [ck.nat] at e
        obtain ⟨q, hq, hk⟩ := Option.bind_eq_some_iff.1 e
        refine ⟨q.1, q.2, ?_, hk⟩
        simp only [evOper, cls, hy, hf]
        exact hq
      · cases e
    · rename_i hb
      obtain ⟨v, h', hv, hk⟩ := appendK_some e
      exact ⟨v, h', by simp only [evOper, cls, hb, evFull]; exact hv, hk⟩
    · rename_i hb
      unfold cpyK at e
      split at e
      · rename_i n h' hv
        exact ⟨_, h', by simp only [evOper, cls, hb, evFull]; exact hv, e⟩
      · cases e
    · rename_i hb
      obtain ⟨v, h', hv, hk⟩ := mapDelK_some e
      exact ⟨v, h', by simp only [evOper, cls, hb, evFull]; exact hv, hk⟩
    · rename_i hb
      obtain ⟨v, h', hv, hk⟩ := mapClrK_some e
      exact ⟨v, h', by simp only [evOper, cls, hb, evFull]; exact hv, hk⟩
    · rename_i hb
      split at e
      · rename_i hm
        obtain ⟨v, hv, hk⟩ := mapLenK_some e
        exact read (by simp only [cls, hb, hm]; rfl) (by simp only [evRead, hb]; exact hv) hk
      · exact rest_some e
    · exact rest_some e
  · exact rest_some e

/-! ### rows of operations -/

/-- what an operation tells is looked at in its type's shape, where nothing else tells it -/
def stepK (P : Program) (op : Op) (t : TypeId) (v : AV) (k : AV → Option β) : Option β :=
  match op with
  | .extract _ _ => shapeK (rowShape P t) v k
  | .call c => (match c.callee with | .value _ => shapeK (rowShape P t) v k | _ => k v)
  | _ => k v
theorem stepK_some {P : Program} {op : Op} {t : TypeId} {v : AV} {k : AV → Option β} {x : β} (e : stepK P op t v k = some x) : k v = some x := by
  unfold stepK at e
  split at e
  · exact shapeK_some _ e
  · split at e
    · exact shapeK_some _ e
    · exact e
  · exact e

def evStepK (P : Program) (ck : CK) (ops : Array Oper) (N : Nat) (A : KF) (o : Oper) (h : H) (k : KF → AV → H → Option β) : Option β :=
  match o.guard with
  | none => evOperK P ck (kopd N A) o.op h fun v h' => stepK P o.op o.type v fun v => k A v h'
  | some (j, want) =>
    match (ops[j]?).bind (·.dst) with
    | none => k A (.tup []) h
    | some t =>
      match kopd N A (.tmp t) with
      | .tup [] => k A (.tup []) h
      | v => asBool v fun b => cond b
          (match want with | true => evOperK P ck (kopd N (kput N A (some t) (.bool true))) o.op h fun v h' => stepK P o.op o.type v fun v => k (kput N A (some t) (.bool true)) v h' | false => k (kput N A (some t) (.bool true)) (.tup []) h)
          (match want with | true => k (kput N A (some t) (.bool false)) (.tup []) h | false => evOperK P ck (kopd N (kput N A (some t) (.bool false))) o.op h fun v h' => stepK P o.op o.type v fun v => k (kput N A (some t) (.bool false)) v h')

theorem free_B {r r' : Ren} {h h1 : H} {w w' : World} {B : Nat → Prop} (p : Post r h w r' h1 w') (hfree : ∀ i, h.next ≤ i → B i → r i = none) : ∀ i, h1.next ≤ i → B i → r' i = none := by
  intro i hi1 hi2
  cases hr : r' i with
  | none => rfl
  | some t =>
    have hn := hfree i (Nat.le_trans p.next hi1) hi2
    have := p.dom i t hr hn
    omega

theorem blt_of {a b : Nat} (h : a < b) : Nat.blt a b = true := by simp [Nat.blt_eq, h]
theorem of_blt {a b : Nat} (h : Nat.blt a b = true) : a < b := by simpa [Nat.blt_eq] using h

theorem look_put {N : Nat} {A : KF} {d t : Nat} {v : AV} (hd : d < N) : look (kput N A (some d) v) t = if d = t then v else look A t := by
  simp only [kput, blt_of hd, look]
  by_cases e : d = t
  · subst e; simp
  · have : Nat.beq d t = false := by rw [← Bool.not_eq_true]; intro h; exact e (Nat.eq_of_beq_eq_true h)
    rw [this, if_neg e]

theorem kopd_put_same {N : Nat} {A : KF} {t : Nat} {v : AV} (h : kopd N A (.tmp t) = v) (hv : v ≠ .junk) : kopd N (kput N A (some t) v) = kopd N A := by
  have ht : t < N := by
    simp only [kopd] at h
    split at h
    · rename_i hb; exact of_blt hb
    · exact absurd h.symm hv
  funext x
  cases x with
  | tmp u =>
    simp only [kopd] at h ⊢
    rw [look_put ht]
    by_cases e : t = u
    · subst e; rw [if_pos rfl, ← h]; simp [blt_of ht]
    · rw [if_neg e]
  | _ => rfl

theorem evStepK_some {P : Program} {ck : CK} {ops : Array Oper} {N : Nat} {A : KF} {o : Oper} {h : H} {k : KF → AV → H → Option β} {x : β} (e : evStepK P ck ops N A o h k = some x) :
    ∃ v h' A', evStep P ck.call ops o (kopd N A) h = some (v, h') ∧ kopd N A' = kopd N A ∧ k A' v h' = some x := by
  unfold evStepK at e
  split at e
  · rename_i hg
    obtain ⟨v, h', h1, h2⟩ := evOperK_some e
    exact ⟨v, h', A, by simp [evStep, evWanted, hg, h1], rfl, stepK_some h2⟩
  · rename_i j want hg
    split at e
    · rename_i hd
      exact ⟨_, _, A, by simp only [evStep, evWanted, hg, hd, Option.bind_some]; rfl, rfl, e⟩
    · rename_i t hd
      split at e
      · rename_i hv
        exact ⟨_, _, A, by simp only [evStep, evWanted, hg, hd, hv, Option.bind_some]; rfl, rfl, e⟩
      · obtain ⟨b, hb, e'⟩ := asBool_some e
        clear e; have e := e'; clear e'
        have hsame := kopd_put_same hb (by intro e; cases e)
        cases b <;> cases want <;> simp only [cond_true, cond_false] at e
        · obtain ⟨v, h', h1, h2⟩ := evOperK_some e
          rw [hsame] at h1
          exact ⟨v, h', _, by simp [evStep, evWanted, hg, hd, hb, h1], hsame, stepK_some h2⟩
        · exact ⟨_, _, _, by simp only [evStep, evWanted, hg, hd, hb, Option.bind_some]; rfl, hsame, e⟩
        · exact ⟨_, _, _, by simp only [evStep, evWanted, hg, hd, hb, Option.bind_some]; rfl, hsame, e⟩
        · obtain ⟨v, h', h1, h2⟩ := evOperK_some e
          rw [hsame] at h1
          exact ⟨v, h', _, by simp [evStep, evWanted, hg, hd, hb, h1], hsame, stepK_some h2⟩

open Classical in
/-- a block is as it was -/
noncomputable def sameK (h h' : H) (b : Option Nat) (x : Option β) : Option β := match b with | none => x | some b => if h'.get b = h.get b then x else none
def blkP (p : Option (Nat × Nat)) : Option Nat := match p with | some (b, _) => some b | none => none
/-- what earlier reads looked at is as it was -/
noncomputable def keptK (M : Nat → Nat) (k : Nat) (h h' : H) : List (Nat × AV) → Option β → Option β
  | [], x => x
  | (j, v) :: l, x => match indepB M k j with
    | false => keptK M k h h' l x
    | true => match v with
      | .ptr p => sameK h h' (blkP p) (keptK M k h h' l x)
      | .slice p _ _ => sameK h h' (blkP p) (keptK M k h h' l x)
      | .map m => sameK h h' m (keptK M k h h' l x)
      | _ => keptK M k h h' l x
theorem sameK_some {h h' : H} {b : Option Nat} {x : Option β} {y : β} (e : sameK h h' b x = some y) : (∀ c, b = some c → h'.get c = h.get c) ∧ x = some y := by
  unfold sameK at e
  split at e
  · exact ⟨fun c hc => by (cases hc), e⟩
  · split at e
    · rename_i hq; exact ⟨fun c hc => by cases hc; exact hq, e⟩
    · cases e
theorem blkP_ref (p : Option (Nat × Nat)) : blkP p = refOf (.ptr p) := by cases p <;> rfl
theorem blkP_refS (p : Option (Nat × Nat)) (n : Nat) (c : Cap) : blkP p = refOf (.slice p n c) := by cases p <;> rfl
theorem mapRef (m : Option Nat) : refOf (.map m) = m := by cases m <;> rfl
theorem keptK_some {M : Nat → Nat} {k : Nat} {h h' : H} {y : β} : ∀ {l : List (Nat × AV)} {x : Option β}, keptK M k h h' l x = some y → keptQ M k h h' l ∧ x = some y
  | [], x, e => ⟨fun q hq => by (cases hq), e⟩
  | (j, v) :: l, x, e => by
    simp only [keptK] at e
    have cons : ∀ (_ : keptQ M k h h' l), (indepB M k j = true → ∀ b, refOf v = some b → h'.get b = h.get b) → keptQ M k h h' ((j, v) :: l) := fun hl hv q hq hi b hb => by
      rcases List.mem_cons.1 hq with rfl | hq
      · exact hv hi b hb
      · exact hl q hq hi b hb
    split at e
    · rename_i hi
      obtain ⟨h1, h2⟩ := keptK_some e
      exact ⟨cons h1 fun h => absurd (h.symm.trans hi) (by decide), h2⟩
    · split at e
      · obtain ⟨h0, e⟩ := sameK_some e
        obtain ⟨h1, h2⟩ := keptK_some e
        exact ⟨cons h1 fun _ b hb => h0 b (by rw [blkP_ref]; exact hb), h2⟩
      · obtain ⟨h0, e⟩ := sameK_some e
        obtain ⟨h1, h2⟩ := keptK_some e
        exact ⟨cons h1 fun _ b hb => h0 b (by rw [blkP_refS]; exact hb), h2⟩
      · obtain ⟨h0, e⟩ := sameK_some e
        obtain ⟨h1, h2⟩ := keptK_some e
        exact ⟨cons h1 fun _ b hb => h0 b ((mapRef _).symm.trans hb), h2⟩
      · obtain ⟨h1, h2⟩ := keptK_some e
        rename_i hn1 hn2 hn3
        refine ⟨cons h1 fun _ b hb => ?_, h2⟩
        unfold refOf at hb
        split at hb
        · exact absurd rfl (hn1 _)
        · exact absurd rfl (hn2 _ _ _)
        · exact absurd rfl (hn3 _)
        · cases hb

noncomputable def evOpsK (P : Program) (ck : CK) (ops : Array Oper) (N : Nat) (draw : Bool) : List Oper → Nat → KF → H → (Nat → Prop) → List (Nat × AV) → (KF → H → Option β) → Option β
  | [], _, A, h, _, _, k => k A h
  | o :: l, i, A, h, S, Js, k =>
    match draw && shyB P ops (masks ops) i with
    | true => evStepK P ck ops N A o (h.minus S) fun A' v _ => evOpsK P ck ops N draw l (i + 1) (kput N A' o.dst v) h S (pushJ P i o (mainV (kopd N A) o.op) Js) k
    | false => evStepK P ck ops N A o h fun A' v h' =>
      match draw && needQuiet P ops (masks ops) i with
      | false => evOpsK P ck ops N draw l (i + 1) (kput N A' o.dst v) h' S (pushJ P i o (mainV (kopd N A) o.op) Js) k
      | true => keptK (masks ops) i h h' Js (evOpsK P ck ops N draw l (i + 1) (kput N A' o.dst v) h' (addT S h h') (pushJ P i o (mainV (kopd N A) o.op) Js) k)

/-- the two sorts of frames -/
def AF (N : Nat) (A : KF) (fr : List AV) : Prop := fr.length = N ∧ ∀ t, t < N → look A t = fr.getD t .junk

theorem AF.opd {N : Nat} {A : KF} {fr : List AV} (h : AF N A fr) : opd fr = kopd N A := by
  funext x
  cases x with
  | tmp t =>
    simp only [Ev.opd, kopd]
    split
    · rename_i hb; rw [h.2 t (of_blt hb)]
    · rename_i hb
      have : ¬ t < N := fun hlt => by rw [blt_of hlt] at hb; cases hb
      rw [List.getD_eq_getElem?_getD, List.getElem?_eq_none (by rw [h.1]; exact Nat.le_of_not_lt this)]; rfl
  | _ => rfl

theorem AF.of_same {N : Nat} {A A' : KF} {fr : List AV} (h : AF N A fr) (hs : kopd N A' = kopd N A) : AF N A' fr := by
  refine ⟨h.1, fun t ht => ?_⟩
  have := congrFun hs (.tmp t)
  simp only [kopd, blt_of ht] at this
  rw [this]; exact h.2 t ht

theorem AF.put {N : Nat} {A : KF} {fr : List AV} (h : AF N A fr) (d : Option Tmp) (v : AV) : AF N (kput N A d v) (putD fr d v) := by
  cases d with
  | none => exact h
  | some d =>
    refine ⟨by simp [putD, h.1], fun t ht => ?_⟩
    by_cases hd : d < N
    · rw [look_put hd]
      simp only [putD]
      by_cases e : d = t
      · subst e
        rw [if_pos rfl, List.getD_eq_getElem?_getD, List.getElem?_set_self (by rw [h.1]; exact ht)]; rfl
      · rw [if_neg e, List.getD_eq_getElem?_getD, List.getElem?_set_ne e, ← List.getD_eq_getElem?_getD]
        exact h.2 t ht
    · have hb : Nat.blt d N = false := by rw [← Bool.not_eq_true]; intro h; exact hd (of_blt h)
      simp only [kput, hb, putD]
      have hne : d ≠ t := by intro e; rw [e] at hd; exact hd ht
      rw [List.getD_eq_getElem?_getD, List.getElem?_set_ne hne, ← List.getD_eq_getElem?_getD]
      exact h.2 t ht

theorem evOpsK_some {P : Program} {ck : CK} {ops : Array Oper} {N : Nat} {draw : Bool} {x : β} : ∀ {l : List Oper} {i : Nat} {A : KF} {h : H} {S : Nat → Prop} {Js : List (Nat × AV)} {k : KF → H → Option β} {fr : List AV}, evOpsK P ck ops N draw l i A h S Js k = some x → AF N A fr →
    ∃ fr' A' h', (if draw then evOpsQ P ck.call ops l i fr h S Js else evOps P ck.call ops l fr h) = some (fr', h') ∧ AF N A' fr' ∧ k A' h' = some x
  | [], i, A, h, S, Js, k, fr, e, hA => ⟨fr, A, h, by cases draw <;> rfl, hA, e⟩
  | o :: l, i, A, h, S, Js, k, fr, e, hA => by
    simp only [evOpsK] at e
    have hmain : mainV (kopd N A) o.op = mainV (opd fr) o.op := by rw [hA.opd]
    cases draw with
    | false =>
      simp only [Bool.false_and] at e
      obtain ⟨v, h', A', h1, h2, e⟩ := evStepK_some e
      rw [← hA.opd] at h1
      obtain ⟨fr', A'', h'', g1, g2, g3⟩ := evOpsK_some e ((hA.of_same h2).put o.dst v)
      exact ⟨fr', A'', h'', by simp only [Bool.false_eq_true, if_false] at g1 ⊢; simp only [evOps, h1, Option.bind_some]; exact g1, g2, g3⟩
    | true =>
      simp only [Bool.true_and] at e
      split at e
      · rename_i hsh
        obtain ⟨v, h', A', h1, h2, e⟩ := evStepK_some e
        rw [← hA.opd] at h1
        obtain ⟨fr', A'', h'', g1, g2, g3⟩ := evOpsK_some e ((hA.of_same h2).put o.dst v)
        exact ⟨fr', A'', h'', by simp only [if_true] at g1 ⊢; simp only [evOpsQ]; rw [if_pos hsh, h1, Option.bind_some, ← hmain]; exact g1, g2, g3⟩
      · rename_i hsh
        have hsh' : ¬ shyB P ops (masks ops) i = true := by rw [hsh]; simp
        obtain ⟨v, h', A', h1, h2, e⟩ := evStepK_some e
        rw [← hA.opd] at h1
        split at e
        · rename_i hq
          obtain ⟨fr', A'', h'', g1, g2, g3⟩ := evOpsK_some e ((hA.of_same h2).put o.dst v)
          exact ⟨fr', A'', h'', by simp only [if_true] at g1 ⊢; simp only [evOpsQ]; rw [if_neg hsh', h1, Option.bind_some, ← hmain]; simp only [hq, Bool.false_eq_true, if_false]; exact g1, g2, g3⟩
        · rename_i hq
          obtain ⟨hkept, e⟩ := keptK_some e
          obtain ⟨fr', A'', h'', g1, g2, g3⟩ := evOpsK_some e ((hA.of_same h2).put o.dst v)
          exact ⟨fr', A'', h'', by simp only [if_true] at g1 ⊢; simp only [evOpsQ]; rw [if_neg hsh', h1, Option.bind_some, ← hmain]; simp only [hq, if_true]; rw [if_pos hkept]; exact g1, g2, g3⟩

/-! ### code -/

abbrev KC (β : Type) := KF → H → (KF → H → Option β) → (Nat → KF → H → Option β) → (KF → H → Option β) → Option β

def skipC : KC β := fun A h kn _ _ => kn A h
noncomputable def regC (P : Program) (ck : CK) (N : Nat) (ops : Array Oper) (draw : Bool) : KC β := fun A h kn _ _ => evOpsK P ck ops N draw ops.toList 0 A h noT [] kn
def seqC (X Y : KC β) : KC β := fun A h kn ke kr => X A h (fun A h => Y A h kn ke kr) ke kr
def condC (N : Nat) (c : Operand) (X Y : KC β) : KC β := fun A h kn ke kr => asBool (kopd N A c) fun b => cond b (X A h kn ke kr) (Y A h kn ke kr)
def blockC (id : Nat) (X : KC β) : KC β := fun A h kn ke kr => X A h kn (fun i A h => cond (Nat.beq i id) (kn A h) (ke i A h)) kr
def loopR (X : KC β) : Nat → KC β
  | 0 => fun _ _ _ _ _ => none
  | n + 1 => fun A h kn ke kr => X A h (fun A h => loopR X n A h kn ke kr) ke kr
def exitC (id : Nat) : KC β := fun A h _ ke _ => ke id A h
def retC : KC β := fun A h _ _ kr => kr A h
def norm (live : List Nat) (A : KF) : KF := live.map fun t => (t, look A t)
def normC (live : List Nat) (X : KC β) : KC β := fun A h kn ke kr => X (norm live A) h kn ke kr

def FRk (r : Ren) (A : KF) (a : Act) : Prop := ∀ t, t < a.tmps.size → VR r (look A t) (a.eval (.tmp t))

def leaves (kn : KF → H → Option β) (ke : Nat → KF → H → Option β) (kr : KF → H → Option β) : AExit → KF → H → Option β
  | .normal => kn
  | .exit i => ke i
  | .ret => kr

/-- the numbers that new blocks may get; S: all -/
structure Bnd (S : Bool) where
  set : Nat → Prop
  all : S = true → ∀ i, set i

/-- X stands for code c; S: its runs may end in unlike ways -/
structure DenG (S : Bool) (P : Program) (N : Nat) (c : Code) (X : KC β) : Prop where
  ends : ∀ A h kn ke kr x, X A h kn ke kr = some x → ∃ e A' h', leaves kn ke kr e A' h' = some x ∧ h.next ≤ h'.next ∧ (h.WF → h'.WF)
  sim : ∀ (r : Ren) (a : Act) (w : World) A h kn ke kr x (B : Bnd S), X A h kn ke kr = some x → FRk r A a → a.tmps.size = N → Rel r h w → (∀ i, h.next ≤ i → B.set i → r i = none) →
    (∀ e A' h', leaves kn ke kr e A' h' = some x → ∀ i, i < h'.next → B.set i) →
    ∀ Q : Exit → Act → World → Prop, (∀ r' a' w' A' h' e, FRk r' A' a' → a'.tmps.size = N → a'.defers = a.defers → Post r h w r' h' w' → leaves kn ke kr e A' h' = some x → Q e.to a' w') → c.wp P Q a w

theorem DenG.grows {S : Bool} {P : Program} {N : Nat} {c : Code} {X : KC β} (d : DenG S P N c X) (A : KF) (h : H) (kn : KF → H → Option β) (ke : Nat → KF → H → Option β) (kr : KF → H → Option β) (x : β) (B : Bnd S) (e : X A h kn ke kr = some x)
    (hB : ∀ e A' h', leaves kn ke kr e A' h' = some x → ∀ i, i < h'.next → B.set i) : ∀ i, i < h.next → B.set i := by
  obtain ⟨e', A', h', h1, h2, _⟩ := d.ends A h kn ke kr x e
  exact fun i hi => hB _ _ _ h1 i (Nat.lt_of_lt_of_le hi h2)

theorem DenG.skip {S : Bool} {P : Program} {N : Nat} : DenG S P N .skip (skipC : KC β) where
  ends := fun A h kn ke kr x e => ⟨.normal, A, h, e, Nat.le_refl _, fun h => h⟩
  sim := fun r a w A h kn ke kr x B e hfr hsz hrel hfree hB Q hQ => wp_skip (hQ r a w A h .normal hfr hsz rfl (Post.refl hrel) e)

theorem DenG.label {S : Bool} {P : Program} {N l : Nat} : DenG S P N (.label l) (skipC : KC β) where
  ends := fun A h kn ke kr x e => ⟨.normal, A, h, e, Nat.le_refl _, fun h => h⟩
  sim := fun r a w A h kn ke kr x B e hfr hsz hrel hfree hB Q hQ => wp_label (hQ r a w A h .normal hfr hsz rfl (Post.refl hrel) e)

/-- a scope through which the run goes without a goto -/
theorem DenG.scope {S : Bool} {P : Program} {N : Nat} {c : Code} {X : KC β} (d : DenG S P N c X) : DenG S P N (.scope c) X where
  ends := d.ends
  sim := fun r a w A h kn ke kr x B e hfr hsz hrel hfree hB Q hQ => by
    refine wp_scope_straight (d.sim r a w A h kn ke kr x B e hfr hsz hrel hfree hB _ fun r' a' w' A' h' e' g1 g2 g3 g4 g5 => ?_)
    have := hQ r' a' w' A' h' e' g1 g2 g3 g4 g5
    cases e' with
    | normal => exact this
    | exit i => exact this
    | ret => exact this

theorem DenG.exit {S : Bool} {P : Program} {N id : Nat} : DenG S P N (.exit id) (exitC id : KC β) where
  ends := fun A h kn ke kr x e => ⟨.exit id, A, h, e, Nat.le_refl _, fun h => h⟩
  sim := fun r a w A h kn ke kr x B e hfr hsz hrel hfree hB Q hQ => wp_exit (hQ r a w A h (.exit id) hfr hsz rfl (Post.refl hrel) e)

theorem DenG.ret {S : Bool} {P : Program} {N : Nat} : DenG S P N .ret (retC : KC β) where
  ends := fun A h kn ke kr x e => ⟨.ret, A, h, e, Nat.le_refl _, fun h => h⟩
  sim := fun r a w A h kn ke kr x B e hfr hsz hrel hfree hB Q hQ => wp_ret (hQ r a w A h .ret hfr hsz rfl (Post.refl hrel) e)

theorem FRk.norm {r : Ren} {A : KF} {a : Act} (h : FRk r A a) (live : List Nat) : FRk r (norm live A) a := by
  intro t ht
  have : look (Ev.norm live A) t = look A t ∨ look (Ev.norm live A) t = .junk := by
    unfold Ev.norm
    induction live with
    | nil => exact .inr rfl
    | cons u l ih =>
      simp only [List.map_cons, look]
      split
      · rename_i hb; have := Nat.eq_of_beq_eq_true hb; subst this; exact .inl rfl
      · exact ih
  rcases this with e | e
  · rw [e]; exact h t ht
  · rw [e]; exact .junk _

theorem DenG.norm {S : Bool} {P : Program} {N : Nat} {c : Code} {X : KC β} (live : List Nat) (d : DenG S P N c X) : DenG S P N c (normC live X) where
  ends := fun A h kn ke kr x e => d.ends _ h kn ke kr x e
  sim := fun r a w A h kn ke kr x B e hfr hsz hrel hfree hB Q hQ => d.sim r a w _ h kn ke kr x B e (hfr.norm live) hsz hrel hfree hB Q hQ

theorem leaves_seq {kn : KF → H → Option β} {ke : Nat → KF → H → Option β} {kr : KF → H → Option β} {Y : KC β} {S : Bool} {P : Program} {N : Nat} {c : Code} (d : DenG S P N c Y) {x : β} {B : Bnd S} (hB : ∀ e A' h', leaves kn ke kr e A' h' = some x → ∀ i, i < h'.next → B.set i) :
    ∀ e A' h', leaves (fun A h => Y A h kn ke kr) ke kr e A' h' = some x → ∀ i, i < h'.next → B.set i := by
  intro e A' h' he
  cases e with
  | normal => exact d.grows A' h' kn ke kr x B he hB
  | exit i => exact hB (.exit i) A' h' he
  | ret => exact hB .ret A' h' he

theorem DenG.seq {S : Bool} {P : Program} {N : Nat} {c1 c2 : Code} {X Y : KC β} (d1 : DenG S P N c1 X) (d2 : DenG S P N c2 Y) : DenG S P N (.seq c1 c2) (seqC X Y) where
  ends := fun A h kn ke kr x e => by
    obtain ⟨e', A', h', h1, h2, h3⟩ := d1.ends A h _ ke kr x e
    cases e' with
    | normal =>
      obtain ⟨e'', A'', h'', k1, k2, k3⟩ := d2.ends A' h' kn ke kr x h1
      exact ⟨e'', A'', h'', k1, Nat.le_trans h2 k2, fun hw => k3 (h3 hw)⟩
    | exit i => exact ⟨.exit i, A', h', h1, h2, h3⟩
    | ret => exact ⟨.ret, A', h', h1, h2, h3⟩
  sim := fun r a w A h kn ke kr x B e hfr hsz hrel hfree hB Q hQ => by
    refine wp_seq (d1.sim r a w A h _ ke kr x B e hfr hsz hrel hfree (leaves_seq d2 hB) _ fun r' a' w' A' h' e' g1 g2 g3 g4 g5 => ?_)
    cases e' with
    | normal =>
      exact d2.sim r' a' w' A' h' kn ke kr x B g5 g1 g2 g4.rel (free_B g4 hfree) hB Q fun r'' a'' w'' A'' h'' e'' k1 k2 k3 k4 k5 => hQ r'' a'' w'' A'' h'' e'' k1 k2 (k3.trans g3) (g4.trans k4) k5
    | exit i => exact hQ r' a' w' A' h' (.exit i) g1 g2 g3 g4 g5
    | ret => exact hQ r' a' w' A' h' .ret g1 g2 g3 g4 g5

theorem eval_slot {r : Ren} {N : Nat} {A : KF} {a : Act} (hfr : FRk r A a) (hsz : a.tmps.size = N) (hg : GL r) (x : Operand) : VR r (kopd N A x) (a.eval x) := by
  cases x with
  | tmp t =>
    simp only [kopd]
    split
    · rename_i hb; exact hfr t (by rw [hsz]; exact of_blt hb)
    · exact .junk _
  | const v => exact VR_ofValue r v
  | global g => exact hg.vr g
  | func f => exact .func f [] [] #[] #[] rfl rfl (fun i a v h => by simp at h) (fun i a v h => by simp at h)

theorem DenG.cond {S : Bool} {P : Program} {N : Nat} {c : Operand} {c1 c2 : Code} {X Y : KC β} (d1 : DenG S P N c1 X) (d2 : DenG S P N c2 Y) : DenG S P N (.cond c c1 c2) (condC N c X Y) where
  ends := fun A h kn ke kr x e => by
    obtain ⟨b, _, e⟩ := asBool_some e
    cases b
    · exact d2.ends A h kn ke kr x e
    · exact d1.ends A h kn ke kr x e
  sim := fun r a w A h kn ke kr x B e hfr hsz hrel hfree hB Q hQ => by
    obtain ⟨b, hb, e⟩ := asBool_some e
    have hv := eval_slot hfr hsz hrel.glob c
    rw [hb] at hv
    have hc : a.eval c = .bool b := by
      generalize hq : a.eval c = q at hv
      cases hv; rfl
    refine wp_cond hc ?_
    cases b
    · exact d2.sim r a w A h kn ke kr x B e hfr hsz hrel hfree hB Q hQ
    · exact d1.sim r a w A h kn ke kr x B e hfr hsz hrel hfree hB Q hQ

theorem leaves_block {kn : KF → H → Option β} {ke : Nat → KF → H → Option β} {kr : KF → H → Option β} {id : Nat} {e : AExit} {A : KF} {h : H} :
    leaves kn (fun i A h => cond (Nat.beq i id) (kn A h) (ke i A h)) kr e A h = leaves kn ke kr (if e = .exit id then .normal else e) A h := by
  cases e with
  | normal => rfl
  | ret => rfl
  | exit i =>
    simp only [leaves]
    by_cases hi : i = id
    · subst hi; simp [leaves]
    · have : Nat.beq i id = false := by rw [← Bool.not_eq_true]; intro h; exact hi (Nat.eq_of_beq_eq_true h)
      rw [this, if_neg (by intro e; cases e; exact hi rfl)]
      rfl

theorem DenG.block {S : Bool} {P : Program} {N id : Nat} {c : Code} {X : KC β} (d : DenG S P N c X) : DenG S P N (.block id c) (blockC id X) where
  ends := fun A h kn ke kr x e => by
    obtain ⟨e', A', h', h1, h2, h3⟩ := d.ends A h kn _ kr x e
    rw [leaves_block] at h1
    exact ⟨_, A', h', h1, h2, h3⟩
  sim := fun r a w A h kn ke kr x B e hfr hsz hrel hfree hB Q hQ => by
    refine wp_block (d.sim r a w A h kn _ kr x B e hfr hsz hrel hfree (fun e' A' h' he => by rw [leaves_block] at he; exact hB _ _ _ he) _ fun r' a' w' A' h' e' g1 g2 g3 g4 g5 => ?_)
    rw [leaves_block] at g5
    have := hQ r' a' w' A' h' _ g1 g2 g3 g4 g5
    cases e' with
    | normal => exact this
    | ret => exact this
    | exit j =>
      show Exit.inBlock id Q (.exit j) a' w'
      simp only [Exit.inBlock]
      by_cases hj : j = id
      · subst hj
        simp only [if_true] at this ⊢; exact this
      · rw [if_neg hj]
        rw [if_neg (by intro e; cases e; exact hj rfl)] at this
        exact this

theorem DenG.loop {S : Bool} {P : Program} {N : Nat} {c : Code} {X : KC β} (d : DenG S P N c X) (n : Nat) : DenG S P N (.loop c) (loopR X n) where
  ends := by
    induction n with
    | zero => intro A h kn ke kr x e; cases e
    | succ n ih =>
      intro A h kn ke kr x e
      obtain ⟨e', A', h', h1, h2, h3⟩ := d.ends A h _ ke kr x e
      cases e' with
      | normal =>
        obtain ⟨e'', A'', h'', k1, k2, k3⟩ := ih A' h' kn ke kr x h1
        exact ⟨e'', A'', h'', k1, Nat.le_trans h2 k2, fun hw => k3 (h3 hw)⟩
      | exit i => exact ⟨.exit i, A', h', h1, h2, h3⟩
      | ret => exact ⟨.ret, A', h', h1, h2, h3⟩
  sim := by
    have grow : ∀ n A h kn ke kr x (B : Bnd S), (loopR X n : KC β) A h kn ke kr = some x → (∀ e A' h', leaves kn ke kr e A' h' = some x → ∀ i, i < h'.next → B.set i) → ∀ i, i < h.next → B.set i := by
      intro n
      induction n with
      | zero => intro A h kn ke kr x B e hB; cases e
      | succ n ih =>
        intro A h kn ke kr x B e hB
        refine d.grows A h _ ke kr x B e fun e' A' h' he => ?_
        cases e' with
        | normal => exact ih A' h' kn ke kr x B he hB
        | exit i => exact hB (.exit i) A' h' he
        | ret => exact hB .ret A' h' he
    intro r a w A h kn ke kr x B e hfr hsz hrel hfree hB Q hQ
    refine wp_loop_rounds n ?_
    revert r a w A h
    induction n with
    | zero => intro r a w A h e; cases e
    | succ n ih =>
      intro r a w A h e hfr hsz hrel hfree hQ
      rw [rounds_succ]
      refine d.sim r a w A h _ ke kr x B e hfr hsz hrel hfree (fun e' A' h' he => ?_) _ fun r' a' w' A' h' e' g1 g2 g3 g4 g5 => ?_
      · cases e' with
        | normal => exact grow n A' h' kn ke kr x B he hB
        | exit i => exact hB (.exit i) A' h' he
        | ret => exact hB .ret A' h' he
      · cases e' with
        | normal => exact ih r' a' w' A' h' g5 g1 g2 g4.rel (free_B g4 hfree) fun r'' a'' w'' A'' h'' e'' k1 k2 k3 k4 k5 => hQ r'' a'' w'' A'' h'' e'' k1 k2 (k3.trans g3) (g4.trans k4) k5
        | exit i => exact hQ r' a' w' A' h' (.exit i) g1 g2 g3 g4 g5
        | ret => exact hQ r' a' w' A' h' .ret g1 g2 g3 g4 g5

theorem DenG.region {S : Bool} {P : Program} (hm : P.follows .mixedOrders = true) {ck : CK} (hck : ck.call.Sound P) {N id : Nat} {ops : Array Oper} {draw : Bool} (hok : (!draw || okRegion P ops) = true) : DenG S P N (.region id ops draw) (regC P ck N ops draw : KC β) := by
  have key : ∀ A h (kn : KF → H → Option β) x, evOpsK P ck ops N draw ops.toList 0 A h noT [] kn = some x → ∃ fr' A' h', evRegion P ck.call ops draw ((List.range N).map (look A), h) = some (fr', h') ∧ AF N A' fr' ∧ kn A' h' = some x := by
    intro A h kn x e
    obtain ⟨fr', A', h', h1, h2, h3⟩ := evOpsK_some (fr := (List.range N).map (look A)) e ⟨by simp, fun t ht => by rw [List.getD_eq_getElem?_getD, List.getElem?_map, List.getElem?_range ht]; rfl⟩
    exact ⟨fr', A', h', h1, h2, h3⟩
  refine ⟨fun A h kn ke kr x e => ?_, fun r a w A h kn ke kr x B e hfr hsz hrel hfree hB Q hQ => ?_⟩
  · obtain ⟨fr', A', h', h1, h2, h3⟩ := key A h kn x e
    exact ⟨.normal, A', h', h3, evRegion_grows hck h1⟩
  · obtain ⟨fr', A', h', h1, h2, h3⟩ := key A h kn x e
    have hb := hB .normal A' h' h3
    have hfr' : FR r ((List.range N).map (look A)) a := by
      refine ⟨by simpa using hsz.symm, fun t x v hx hv => ?_⟩
      have ht : t < N := by have := (List.getElem?_eq_some_iff.1 hx).1; simpa using this
      rw [List.getElem?_map, List.getElem?_range ht] at hx
      simp at hx
      subst hx
      have := hfr t (by rw [hsz]; exact ht)
      simp only [Act.eval, Array.getD_eq_getD_getElem?] at this
      rw [← Array.getElem?_toList, hv] at this
      exact this
    refine region_ends hm hck hok h1 hfr' hrel (fun i a b => hfree i a (hb i b)) Q fun r' a' w' g1 g2 g3 => ?_
    have hsz' : a'.tmps.size = N := by rw [← h2.1]; simpa using g1.1.symm
    refine hQ r' a' w' A' h' .normal (fun t ht => ?_) hsz' g2 g3 h3
    rw [h2.2 t (by rw [← hsz']; exact ht)]
    exact opd_VR g1 g3.rel.glob (.tmp t)


abbrev Den (P : Program) (N : Nat) (c : Code) (X : KC β) : Prop := DenG false P N c X

/-! ### functions -/

def resK (P : Program) (N : Nat) (A : KF) (h : H) : List ResultVar → (List AV → Option β) → Option β
  | [], k => k []
  | .tmp t :: xs, k => resK P N A h xs fun vs => k (kopd N A (.tmp t) :: vs)
  | .cell a t :: xs, k => loadK P t (kopd N A (.tmp a)) h fun v => resK P N A h xs fun vs => k (v :: vs)

def argsF : List AV → Nat → KF
  | [], _ => []
  | v :: vs, i => (i, v) :: argsF vs (i + 1)

def bodyK (P : Program) (N : Nat) (results : Array ResultVar) (X : KC β) (args : List AV) (h : H) (k : AV → H → Option β) : Option β :=
  X (argsF args 0) h (fun A h => resK P N A h results.toList fun vs => k (oneOf vs) h) (fun _ _ _ => none) (fun A h => resK P N A h results.toList fun vs => k (oneOf vs) h)

theorem resK_some {P : Program} {N : Nat} {A : KF} {h : H} {r : Ren} {a : Act} {w : World} (hfr : FRk r A a) (hsz : a.tmps.size = N) (hrel : Rel r h w) {x : β} : ∀ {xs : List ResultVar} {k : List AV → Option β}, resK P N A h xs k = some x →
    ∃ vs vs', k vs = some x ∧ VRL r vs vs' ∧ (xs.mapM (resSem a.tmps)).run P w = .ok vs' w
  | [], k, e => ⟨[], [], e, .nil, rfl⟩
  | .tmp t :: xs, k, e => by
    simp only [resK] at e
    obtain ⟨vs, vs', h1, h2, h3⟩ := resK_some hfr hsz hrel e
    refine ⟨_, a.eval (.tmp t) :: vs', h1, .cons (eval_slot hfr hsz hrel.glob _) h2, ?_⟩
    rw [List.mapM_cons]
    simp only [Sem.run_bind, resSem, Sem.run_pure, Result.andThen_ok, h3]
    rfl
  | .cell ad t :: xs, k, e => by
    simp only [resK] at e
    obtain ⟨v, hv, e⟩ := loadK_some e
    obtain ⟨vs, vs', h1, h2, h3⟩ := resK_some hfr hsz hrel e
    obtain ⟨q, v', g1, g2, g3⟩ := run_loadVar hrel hv (eval_slot hfr hsz hrel.glob (.tmp ad))
    refine ⟨_, v' :: vs', h1, .cons g2 h2, ?_⟩
    have : a.tmps.getD ad undef = .pointer (some q) := g1
    rw [List.mapM_cons]
    simp only [Sem.run_bind, resSem, this, asAddr, Sem.run_pure, Result.andThen_ok, g3, h3]

theorem look_argsF : ∀ (vs : List AV) (i t : Nat), look (argsF vs i) t = if i ≤ t ∧ t < i + vs.length then vs.getD (t - i) .junk else .junk
  | [], i, t => by rw [if_neg (by simp <;> omega)]; rfl
  | v :: vs, i, t => by
    simp only [argsF, look]
    split
    · rename_i hb
      have := Nat.eq_of_beq_eq_true hb
      subst this
      rw [if_pos (by simp)]
      simp
    · rename_i hb
      have hne : i ≠ t := fun e => by subst e; simp at hb
      rw [look_argsF vs (i + 1) t]
      simp only [List.length_cons]
      by_cases hc : i + 1 ≤ t ∧ t < i + 1 + vs.length
      · rw [if_pos hc, if_pos (by omega)]
        obtain ⟨j, hj⟩ : ∃ j, t - i = j + 1 := ⟨t - i - 1, by omega⟩
        rw [hj, List.getD_cons_succ]
        congr 1; omega
      · rw [if_neg hc, if_neg (by omega)]

/-- **What a function's body computes, the function comes to.** -/
theorem acall_of {P : Program} {N : Nat} {c : Code} {X : KC β} (d : Den P N c X) {f : FuncId} {fn : Func} (hfn : P.funcs[f]? = some fn) (hbody : fn.body = some c) (hname : (fn.name == "runtime.NumGoroutine") = false) (hN : fn.ntmps = N)
    {args : List AV} (hlen : args.length ≤ N) {h : H} {k : AV → H → Option β} {x : β} (e : bodyK P N fn.results X args h k = some x) {v0 : AV} {h0 : H} (hk : ∀ v h, k v h = some x → v = v0 ∧ h = h0) : ACall P f args h v0 h0 := by
  have main : ∀ (A' : KF) (h' : H) (xs : List ResultVar) (k' : List AV → Option β), resK P N A' h' xs k' = some x → ∃ vs, k' vs = some x := by
    intro A' h' xs
    induction xs with
    | nil => intro k' e; exact ⟨[], e⟩
    | cons y ys ih =>
      intro k' e
      cases y with
      | tmp t => simp only [resK] at e; obtain ⟨vs, hv⟩ := ih _ e; exact ⟨_, hv⟩
      | cell ad t => simp only [resK] at e; obtain ⟨v, _, e⟩ := loadK_some e; obtain ⟨vs, hv⟩ := ih _ e; exact ⟨_, hv⟩
  have hE : ∀ e A' h', leaves (fun A h => resK P N A h fn.results.toList fun vs => k (oneOf vs) h) (fun _ _ _ => none) (fun A h => resK P N A h fn.results.toList fun vs => k (oneOf vs) h) e A' h' = some x → h' = h0 := by
    intro e A' h' he
    cases e with
    | normal => obtain ⟨vs, hv⟩ := main _ _ _ _ he; exact (hk _ _ hv).2
    | ret => obtain ⟨vs, hv⟩ := main _ _ _ _ he; exact (hk _ _ hv).2
    | exit i => cases he
  have hB : ∀ e A' h', leaves (fun A h => resK P N A h fn.results.toList fun vs => k (oneOf vs) h) (fun _ _ _ => none) (fun A h => resK P N A h fn.results.toList fun vs => k (oneOf vs) h) e A' h' = some x → ∀ i, i < h'.next → i < h0.next :=
    fun e A' h' he i hi => by rw [hE e A' h' he] at hi; exact hi
  obtain ⟨e1, A1, h1, l1, g1, w1⟩ := d.ends _ h _ _ _ x e
  have h1e := hE _ _ _ l1
  subst h1e
  refine ⟨⟨fn, hfn, by rw [hbody]; rfl, hname⟩, g1, w1, fun r w args' hrel hfree hargs => ?_⟩
  refine calls_of_wp hfn hbody ?_
  have hl : args.length = args'.size := by simpa using hargs.1
  have hsz : (args' ++ Array.replicate (fn.ntmps - args'.size) undef).size = N := by simp [hN]; omega
  refine d.sim r _ w _ h _ _ _ x ⟨fun i => i < h1.next, fun h => by cases h⟩ e (fun t ht => ?_) hsz hrel hfree hB _ fun r' a' w' A' h' e' g1 g2 g3 g4 g5 => ?_
  · rw [look_argsF]
    simp only [Nat.zero_le, true_and, Nat.zero_add, Nat.sub_zero]
    split
    · rename_i hlt
      have h1 : args[t]? = some args[t] := List.getElem?_eq_getElem hlt
      have h2 : args'.toList[t]? = some (args'.toList[t]'(by simpa [← hl] using hlt)) := List.getElem?_eq_getElem _
      have := hargs.2 t _ _ h1 h2
      rw [List.getD_eq_getElem?_getD, h1]
      simp only [Act.eval, Array.getD_eq_getD_getElem?]
      rw [Array.getElem?_append_left (by omega), ← Array.getElem?_toList, h2]
      exact this
    · exact .junk _
  · have fin : ∀ A' h', FRk r' A' a' → Post r h w r' h' w' → resK P N A' h' fn.results.toList (fun vs => k (oneOf vs) h') = some x →
        a'.defers = [] ∧ ∃ v, (results fn a'.tmps).run P w' = .ok v w' ∧ ∃ r' v', Ending.returned v = .returned v' ∧ VR r' v0 v' ∧ Post r h w r' h1 w' := by
      intro A' h' g1 g4 g5
      obtain ⟨vs, vs', q1, q2, q3⟩ := resK_some g1 g2 g4.rel g5
      obtain ⟨e1, e2⟩ := hk _ _ q1
      refine ⟨g3, (if h : vs'.toArray.size = 1 then vs'.toArray[0] else .tuple vs'.toArray), ?_, r', _, rfl, ?_, by rw [← e2]; exact g4⟩
      · show Sem.run P (do let vs ← fn.results.mapM (resSem a'.tmps); pure (if h : vs.size = 1 then vs[0] else .tuple vs)) w' = _
        rw [Array.mapM_eq_mapM_toList]
        simp only [Sem.run_bind, Sem.run_map, q3, Result.andThen_ok, Sem.run_pure]
      · rw [← e1]; exact VR_oneOf q2
    cases e' with
    | normal => exact fin A' h' g1 g4 g5
    | ret => exact fin A' h' g1 g4 g5
    | exit i => cases g5

end

end Go.Ev

/- The abstract machine Ev, part R: loops with the slots that live on, tables of functions, and small names for what is printed. -/
namespace Go.Ev

section
variable {β : Type}

/-- a loop; at each round's head only the slots 'live' are kept -/
def loopL (live : List Nat) (X : KC β) : Nat → KC β
  | 0 => fun _ _ _ _ _ => none
  | n + 1 => fun A h kn ke kr => X A h (fun A h => loopL live X n (norm live A) h kn ke kr) ke kr

theorem DenG.loopL {S : Bool} {P : Program} {N : Nat} {c : Code} {X : KC β} (live : List Nat) (d : DenG S P N c X) (n : Nat) : DenG S P N (.loop c) (loopL live X n) where
  ends := by
    induction n with
    | zero => intro A h kn ke kr x e; cases e
    | succ n ih =>
      intro A h kn ke kr x e
      obtain ⟨e', A', h', h1, h2, h3⟩ := d.ends A h _ ke kr x e
      cases e' with
      | normal =>
        obtain ⟨e'', A'', h'', k1, k2, k3⟩ := ih _ h' kn ke kr x h1
        exact ⟨e'', A'', h'', k1, Nat.le_trans h2 k2, fun hw => k3 (h3 hw)⟩
      | exit i => exact ⟨.exit i, A', h', h1, h2, h3⟩
      | ret => exact ⟨.ret, A', h', h1, h2, h3⟩
  sim := by
    have grow : ∀ n A h kn ke kr x (B : Bnd S), (Ev.loopL live X n : KC β) A h kn ke kr = some x → (∀ e A' h', leaves kn ke kr e A' h' = some x → ∀ i, i < h'.next → B.set i) → ∀ i, i < h.next → B.set i := by
      intro n
      induction n with
      | zero => intro A h kn ke kr x B e hB; cases e
      | succ n ih =>
        intro A h kn ke kr x B e hB
        refine d.grows A h _ ke kr x B e fun e' A' h' he => ?_
        cases e' with
        | normal => exact ih _ h' kn ke kr x B he hB
        | exit i => exact hB (.exit i) A' h' he
        | ret => exact hB .ret A' h' he
    intro r a w A h kn ke kr x B e hfr hsz hrel hfree hB Q hQ
    refine wp_loop_rounds n ?_
    revert r a w A h
    induction n with
    | zero => intro r a w A h e; cases e
    | succ n ih =>
      intro r a w A h e hfr hsz hrel hfree hQ
      rw [rounds_succ]
      refine d.sim r a w A h _ ke kr x B e hfr hsz hrel hfree (fun e' A' h' he => ?_) _ fun r' a' w' A' h' e' g1 g2 g3 g4 g5 => ?_
      · cases e' with
        | normal => exact grow n _ h' kn ke kr x B he hB
        | exit i => exact hB (.exit i) A' h' he
        | ret => exact hB .ret A' h' he
      · cases e' with
        | normal => exact ih r' a' w' _ h' g5 (g1.norm live) g2 g4.rel (free_B g4 hfree) fun r'' a'' w'' A'' h'' e'' k1 k2 k3 k4 k5 => hQ r'' a'' w'' A'' h'' e'' k1 k2 (k3.trans g3) (g4.trans k4) k5
        | exit i => exact hQ r' a' w' A' h' (.exit i) g1 g2 g3 g4 g5
        | ret => exact hQ r' a' w' A' h' .ret g1 g2 g3 g4 g5

/-! ### results -/

def asTup (v : AV) (f : List AV → Option β) : Option β := match v with | .tup vs => f vs | _ => none
def asFunc (id : FuncId) (v : AV) (f : List AV → List AV → Option β) : Option β := match v with | .func g a b => cond (Nat.beq g id) (f a b) none | _ => none

theorem asTup_some {v : AV} {f : List AV → Option β} {x : β} (h : asTup v f = some x) : ∃ vs, v = .tup vs ∧ f vs = some x := by
  unfold asTup at h; split at h
  · exact ⟨_, rfl, h⟩
  · cases h
section
variable {γ : Type} (g : β → Option γ)
theorem asInt_bind (k : IntKind) (v : AV) (f : Int → Option β) : (asInt k v f).bind g = asInt k v fun n => (f n).bind g := by unfold asInt; split <;> (try split) <;> rfl
theorem asBool_bind (v : AV) (f : Bool → Option β) : (asBool v f).bind g = asBool v fun n => (f n).bind g := by unfold asBool; split <;> rfl
theorem asStr_bind (v : AV) (f : ByteArray → Option β) : (asStr v f).bind g = asStr v fun n => (f n).bind g := by unfold asStr; split <;> rfl
theorem asPtr_bind (v : AV) (f : Option (Nat × Nat) → Option β) : (asPtr v f).bind g = asPtr v fun n => (f n).bind g := by unfold asPtr; split <;> rfl
theorem asSlice_bind (v : AV) (f : Option (Nat × Nat) → Nat → Cap → Option β) : (asSlice v f).bind g = asSlice v fun p l c => (f p l c).bind g := by unfold asSlice; split <;> rfl
theorem asMap_bind (v : AV) (f : Option Nat → Option β) : (asMap v f).bind g = asMap v fun n => (f n).bind g := by unfold asMap; split <;> rfl
theorem asAgg_bind (v : AV) (f : List AV → Option β) : (asAgg v f).bind g = asAgg v fun n => (f n).bind g := by unfold asAgg; split <;> rfl
theorem asTup_bind (v : AV) (f : List AV → Option β) : (asTup v f).bind g = asTup v fun n => (f n).bind g := by unfold asTup; split <;> rfl
theorem l0_bind (l : List AV) (f : Option β) : (l0 l f).bind g = l0 l (f.bind g) := by unfold l0; split <;> rfl
theorem lc_bind (l : List AV) (f : AV → List AV → Option β) : (lc l f).bind g = lc l fun v vs => (f v vs).bind g := by unfold lc; split <;> rfl
theorem asFunc_bind (id : FuncId) (v : AV) (f : List AV → List AV → Option β) : (asFunc id v f).bind g = asFunc id v fun a b => (f a b).bind g := by
  unfold asFunc; split
  · rename_i q a b; cases Nat.beq q id <;> rfl
  · rfl
end

end

/-! ### tables -/

structure Entry (P : Program) where
  id : FuncId
  run : ∀ {β : Type}, List AV → H → (AV → H → Option β) → Option β
  nat : ∀ {β : Type} (args : List AV) (h : H) (k : AV → H → Option β), run args h k = (run args h fun v h' => some (v, h')).bind fun q => k q.1 q.2
  sound : ∀ args h v h', (run args h fun v h' => some (v, h')) = some (v, h') → Called P id args h v h'
  fits : List AV → Bool := fun _ => true

def runOf {P : Program} {β : Type} : List (Entry P) → FuncId → List AV → H → (AV → H → Option β) → Option β
  | [], _, _, _, _ => none
  | e :: l, f, args, h, k => cond (Nat.beq e.id f && e.fits args) (e.run args h k) (runOf l f args h k)

theorem runOf_nat {P : Program} {β : Type} (f : FuncId) (args : List AV) (h : H) (k : AV → H → Option β) : ∀ l : List (Entry P), runOf l f args h k = (runOf l f args h fun v h' => some (v, h')).bind fun q => k q.1 q.2
  | [] => rfl
  | e :: l => by
    simp only [runOf]
    cases Nat.beq e.id f && e.fits args with
    | true => exact e.nat args h k
    | false => exact runOf_nat f args h k l

def tableOf {P : Program} (l : List (Entry P)) : CK := ⟨runOf l, fun f args h k => runOf_nat f args h k l⟩

theorem tableOf_sound {P : Program} (l : List (Entry P)) : (tableOf l).call.Sound P := by
  intro f args h v h' e
  change runOf l f args h (fun v h' => some (v, h')) = some (v, h') at e
  induction l with
  | nil => cases e
  | cons x l ih =>
    simp only [runOf] at e
    cases hb : Nat.beq x.id f && x.fits args with
    | true =>
      rw [hb] at e
      have := Nat.eq_of_beq_eq_true (Bool.and_eq_true_iff.1 hb).1
      subst this
      exact x.sound args h v h' e
    | false => rw [hb] at e; exact ih e

/-! ### where a piece of code lies -/

def bodyOf (f : Func) : Code := match f.body with | some c => c | none => .skip

/-! ### small names -/

def iand (k : IntKind) (a b : Int) : Int := k.wrap (BitVec.ofInt k.bits a &&& BitVec.ofInt k.bits b).toNat
def ior (k : IntKind) (a b : Int) : Int := k.wrap (BitVec.ofInt k.bits a ||| BitVec.ofInt k.bits b).toNat
def ishl (k : IntKind) (a b : Int) : Int := k.wrap (a * 2 ^ min b.toNat k.bits)
def ishr (k : IntKind) (a b : Int) : Int := a.fdiv (2 ^ min b.toNat k.bits)

/-! ### the same, said of a place in a function's code -/

end Go.Ev

namespace Go.Ev
/-! ### what stays closed: so that two texts that name the same thing meet by its name -/

theorem shutEx {α : Type} (x : α) : ∃ y : α, y = x := ⟨x, rfl⟩
noncomputable def shutK {α : Type} (x : α) : α := Classical.choose (shutEx x)
theorem shutK_eq {α : Type} (x : α) : shutK x = x := Classical.choose_spec (shutEx x)
theorem shutD {β : Type} {S : Bool} {P : Program} {N : Nat} {c : Code} {X : KC β} (d : DenG S P N c X) : DenG S P N c (shutK X) := by rw [shutK_eq]; exact d
end Go.Ev

/- The abstract machine Ev, part S: from a row's arguments to the abstract machine, and from what it computes to the row's call. -/
namespace Go.Ev
open Go.RowKit

/-! ### rows that came in: nobody writes them -/

abbrev Rows0 := List (Option Tgt × List AV)

def H0 (rows : Rows0) : H := ⟨rows.length, fun i => (rows[i]?).map fun x => .cells x.2 true⟩
def r0 (rows : Rows0) : Ren := fun i => (rows[i]?).bind fun x => x.1

/-- a row that came in stands in the world -/
def RowOK (r : Ren) (w : World) (t : Tgt) (cs : List AV) : Prop :=
  ∃ C e fz, w.heap[t.blk]? = some (.cells C e fz) ∧ t.row ≤ C.size ∧ t.base + cs.length ≤ t.row ∧ ∀ (i : Nat) (a : AV) (v : Value), cs[i]? = some a → C[t.base + i]? = some v → VR r a v

theorem rel0 {rows : Rows0} {w : World} (h : ∀ x ∈ rows, ∀ t, x.1 = some t → RowOK (r0 rows) w t x.2) (hg : GL (r0 rows)) : Rel (r0 rows) (H0 rows) w where
  wf := fun i o hi => by
    simp only [H0, Option.map_eq_some_iff] at hi ⊢
    obtain ⟨x, hx, _⟩ := hi
    exact (List.getElem?_eq_some_iff.1 hx).1
  obj := fun i t o hr hi => by
    simp only [H0, Option.map_eq_some_iff, r0, Option.bind_eq_some_iff] at hi hr
    obtain ⟨x, hx, rfl⟩ := hi
    obtain ⟨y, hy, ht⟩ := hr
    rw [hx] at hy; cases hy
    obtain ⟨C, e, fz, h1, h2, h3, h4⟩ := h x (List.mem_of_getElem? hx) t ht
    exact ⟨C, e, fz, h1, h2, h3, h4, fun h => by cases h⟩
  inj := fun i j ti tj oi oj _ _ hi hj _ => by
    simp only [H0, Option.map_eq_some_iff] at hi hj
    obtain ⟨x, _, rfl⟩ := hi
    obtain ⟨y, _, rfl⟩ := hj
    exact .inr ⟨rfl, rfl⟩
  bound := fun i t hr => by
    simp only [r0, Option.bind_eq_some_iff] at hr
    obtain ⟨y, hy, ht⟩ := hr
    obtain ⟨C, e, fz, h1, _⟩ := h y (List.mem_of_getElem? hy) t ht
    exact World.block_lt h1
  glob := hg

theorem GL.none {rows : Rows0} (e : glTab = []) : GL (r0 rows) := fun g i h => by rw [e] at h; cases h

/-- **What the abstract machine computes from rows that nobody writes, the call comes to; and it turns nothing that was there.** -/
theorem ACall.run {P : Program} {f : FuncId} {args : List AV} {rows : Rows0} {v : AV} {h' : H} (c : ACall P f args (H0 rows) v h') {w : World} {args' : Array Value}
    (h : ∀ x ∈ rows, ∀ t, x.1 = some t → RowOK (r0 rows) w t x.2) (ha : VRL (r0 rows) args args'.toList) (hg : GL (r0 rows) := by exact GL.none rfl) :
    Calls P f args' w fun e w' => (∃ r' v', e = .returned v' ∧ VR r' v v') ∧ Below w.heap.size w w' := by
  refine (c.sim (r0 rows) w args' (rel0 h hg) (fun i hi _ => ?_) ha).mono fun e w' ⟨r', v', he, hv, hp⟩ => ⟨⟨r', v', he, hv⟩, ⟨hp.env.1, hp.env.2.1, hp.env.2.2.1, hp.size, fun b hb => hp.keep b hb fun i t o _ _ ho => ?_⟩⟩
  · simp only [H0] at hi
    simp [r0, List.getElem?_eq_none hi]
  · simp only [H0, Option.map_eq_some_iff] at ho
    obtain ⟨x, _, rfl⟩ := ho
    rfl

/-! ### plain data: cells that are numbers, truth values, texts -/

inductive FK where
  | int (k : IntKind)
  | bool
  | str

def FK.fits : FK → AV → Prop
  | .int k, v => ∃ n, v = .int k n ∧ (Lit.int k n).wf = true
  | .bool, v => ∃ b, v = .bool b
  | .str, v => ∃ s, v = .str s ∧ s.size ≤ maxLen

inductive Fits : List FK → List AV → Prop
  | nil : Fits [] []
  | cons {k : FK} {v : AV} {ks : List FK} {vs : List AV} : k.fits v → Fits ks vs → Fits (k :: ks) (v :: vs)

theorem Fits.append {ks ls : List FK} {vs us : List AV} (h : Fits ks vs) (h' : Fits ls us) : Fits (ks ++ ls) (vs ++ us) := by
  induction h with
  | nil => exact h'
  | cons a _ ih => exact .cons a ih
theorem Fits.length {ks : List FK} {vs : List AV} (h : Fits ks vs) : vs.length = ks.length := by
  induction h with
  | nil => rfl
  | cons a _ ih => simp [ih]

section
variable {H : Type} {enc : TypeId × Value → H} {P : Program} {w : World} {base : Nat} {spare : Nat → Bool} {held : Bool}

/-- What is known of a slice that came in: its row's cells, all of them (the spare ones too), and how the slice's value looks. -/
structure Arg (i : Nat) (ks : List FK) (B : Nat) (p : Option (Nat × Nat)) (len : Nat) (c : Cap) (cs : List AV) : Prop where
  look : ∃ cap, len ≤ cap ∧ cap * B ≤ reachBytes ∧ Fits (List.replicate cap ks).flatten cs ∧ ((p = none ∧ len = 0 ∧ c = .known 0 ∧ cap = 0) ∨ (p = some (i, 0) ∧ (c = .rest ks.length ∨ (c = .known 0 ∧ cap = 0))))

end

/-! ### a row's arguments behind the call read as they did -/

theorem trodAll_behind {H : Type} {enc : TypeId × Value → H} {P : Program} (hl : laidOutB P = true) {W W' : World} (hb : Below W.heap.size W W') : ∀ (ts : List TypeId) (vs : List Value) (ds : List (DataW H)) (ps : List MemPlace),
    (∀ t ∈ ts, P.readableRec t = true ∧ t < P.types.size) → DataW.TrodAll enc P W 0 (fun _ => true) true ts vs ds ps → (∀ x ∈ ps, x.block < W.heap.size) → DataW.TrodAll enc P W' 0 (fun b => decide (b < W.heap.size)) true ts vs ds ps
  | [], vs, ds, ps, _, h, _ => by
    cases vs <;> cases ds <;> first | exact h | cases h
  | t :: ts, vs, ds, ps, hr, h, hlt => by
    cases vs with
    | nil => cases ds <;> cases h
    | cons v vs =>
      cases ds with
      | nil => cases h
      | cons d ds =>
        obtain ⟨p, q, h1, h2, rfl⟩ := h
        exact ⟨p, q, Below.trod hl (hr t (by simp)).1 (hr t (by simp)).2 h1 hb (fun x hx => hlt x (by simp [hx])), trodAll_behind hl hb ts vs ds q (fun t ht => hr t (by simp [ht])) h2 (fun x hx => hlt x (by simp [hx])), rfl⟩

end Go.Ev

/- The abstract machine Ev, part T: small laws for proofs about printed functions: heaps, cells, rows, numbers. -/
namespace Go.Ev

/-! ### heaps -/

@[simp] theorem get_new_self (h : H) (o : AObj) : (h.new o).get h.next = some o := by simp [H.new]
theorem get_new_lt {h : H} {o : AObj} {i : Nat} (hi : i < h.next) : (h.new o).get i = h.get i := by simp only [H.new]; rw [if_neg (by omega)]
@[simp] theorem next_new (h : H) (o : AObj) : (h.new o).next = h.next + 1 := rfl
@[simp] theorem get_set_self (h : H) (i : Nat) (o : AObj) : (h.set i o).get i = some o := by simp [H.set]
theorem get_set_ne {h : H} {i j : Nat} {o : AObj} (hi : j ≠ i) : (h.set i o).get j = h.get j := by simp only [H.set]; rw [if_neg hi]
@[simp] theorem next_set (h : H) (i : Nat) (o : AObj) : (h.set i o).next = h.next := rfl
@[simp] theorem set_set (h : H) (i : Nat) (o o' : AObj) : (h.set i o).set i o' = h.set i o' := by
  simp only [H.set, H.mk.injEq, true_and]; funext j; split <;> rfl

/-- what was there is as it was -/
structure Quiet (h h' : H) : Prop where
  next : h.next ≤ h'.next
  get : ∀ i, i < h.next → h'.get i = h.get i

theorem Quiet.refl (h : H) : Quiet h h := ⟨Nat.le_refl _, fun _ _ => rfl⟩
theorem Quiet.trans {a b c : H} (h : Quiet a b) (k : Quiet b c) : Quiet a c := ⟨Nat.le_trans h.next k.next, fun i hi => (k.get i (Nat.lt_of_lt_of_le hi h.next)).trans (h.get i hi)⟩
theorem Quiet.new {a h : H} (q : Quiet a h) (o : AObj) : Quiet a (h.new o) := ⟨Nat.le_trans q.next (Nat.le_succ _), fun i hi => (get_new_lt (Nat.lt_of_lt_of_le hi q.next)).trans (q.get i hi)⟩
theorem Quiet.set {a h : H} (q : Quiet a h) {b : Nat} (hb : a.next ≤ b) (o : AObj) : Quiet a (h.set b o) := ⟨q.next, fun i hi => (get_set_ne (by omega)).trans (q.get i hi)⟩
/-! ### steps -/

/-- not by unfolding: what is rewritten with it is not compared -/
theorem nr {α : Sort _} {a b : α} (h : a = b) : a = b := h

section
variable {β : Type}
@[simp] theorem nnK_some' (b o : Nat) (f : Nat → Nat → Option β) : nnK (some (b, o)) f = f b o := nr rfl
@[simp] theorem asInt_int (k : IntKind) (n : Int) (f : Int → Option β) : asInt k (.int k n) f = f n := by simp [asInt]
@[simp] theorem asBool_bool (b : Bool) (f : Bool → Option β) : asBool (.bool b) f = f b := nr rfl
@[simp] theorem asStr_str (s : ByteArray) (f : ByteArray → Option β) : asStr (.str s) f = f s := nr rfl
@[simp] theorem asPtr_ptr (p : Option (Nat × Nat)) (f : Option (Nat × Nat) → Option β) : asPtr (.ptr p) f = f p := nr rfl
@[simp] theorem asSlice_slice (p : Option (Nat × Nat)) (l : Nat) (c : Cap) (f : Option (Nat × Nat) → Nat → Cap → Option β) : asSlice (.slice p l c) f = f p l c := nr rfl
@[simp] theorem asMap_map (p : Option Nat) (f : Option Nat → Option β) : asMap (.map p) f = f p := nr rfl
@[simp] theorem asAgg_agg (l : List AV) (f : List AV → Option β) : asAgg (.agg l) f = f l := nr rfl
@[simp] theorem l0_nil (f : Option β) : l0 [] f = f := nr rfl
@[simp] theorem lc_cons (v : AV) (l : List AV) (f : AV → List AV → Option β) : lc (v :: l) f = f v l := nr rfl
@[simp] theorem newK_eq (o : AObj) (h : H) (f : Nat → H → Option β) : newK o h f = f h.next (h.new o) := nr rfl
theorem atK_of {l : List AV} {o : Nat} {v : AV} (hv : l[o]? = some v) (f : AV → Option β) : atK l o f = f v := by simp [atK, hv]
theorem cellK_of {h : H} {i o : Nat} {cs : List AV} {ro : Bool} {v : AV} (hg : h.get i = some (.cells cs ro)) (hv : cs[o]? = some v) (f : AV → Option β) : cellK h i o f = f v := by simp [cellK, hg, hv]
theorem aggK_of {h : H} {i o n : Nat} {cs : List AV} {ro : Bool} (hg : h.get i = some (.cells cs ro)) (hn : o + n ≤ cs.length) (f : List AV → Option β) : aggK h i o n f = f ((cs.drop o).take n) := by simp [aggK, hg, hn]
theorem aggK_all {h : H} {i n : Nat} {cs : List AV} {ro : Bool} (hg : h.get i = some (.cells cs ro)) (hn : cs.length = n) (f : List AV → Option β) : aggK h i 0 n f = f cs := by
  rw [aggK_of hg (by omega)]; simp [← hn]
theorem wrK_of {h : H} {i o n : Nat} {cs xs : List AV} (hg : h.get i = some (.cells cs false)) (hn : xs.length = n) (hl : o + n ≤ cs.length) (hc : xs.all isCell = true) (f : H → Option β) :
    wrK h i o n xs f = f (h.set i (.cells (spl cs o xs) false)) := by
  simp only [wrK, hg]; rw [if_pos ⟨hn, by omega, hc⟩]
theorem wrK_one {h : H} {i o : Nat} {cs : List AV} {x : AV} (hg : h.get i = some (.cells cs false)) (hl : o < cs.length) (hc : isCell x = true) (f : H → Option β) :
    wrK h i o 1 [x] f = f (h.set i (.cells (cs.set o x) false)) := wrK_of hg rfl (show o + 1 ≤ cs.length from hl) (by simp [hc]) f
@[simp] theorem blkP_some (b o : Nat) : blkP (some (b, o)) = some b := rfl
@[simp] theorem blkP_none : blkP none = none := rfl
@[simp] theorem sameK_same (h : H) (b : Option Nat) (x : Option β) : sameK h h b x = x := by cases b <;> simp [sameK]
@[simp] theorem sameK_none (h h' : H) (x : Option β) : sameK h h' none x = x := nr rfl
theorem sameK_of {h h' : H} {b : Nat} (e : h'.get b = h.get b) (x : Option β) : sameK h h' (some b) x = x := by simp only [sameK]; rw [if_pos e]
end

theorem spl_all : ∀ (xs l : List AV), xs.length = l.length → spl l 0 xs = xs := by
  intro xs l h
  apply List.ext_getElem?
  intro k
  rw [spl_get xs l 0 (by omega)]
  by_cases hk : k < xs.length
  · simp [hk]
  · rw [if_neg (by omega), List.getElem?_eq_none (by omega), List.getElem?_eq_none (by omega)]

/-! ### rows seen through slices -/

/-- the slice's elements are the cells vs (size cells each) -/
inductive SL (h : H) (size : Nat) : Option (Nat × Nat) → Nat → Cap → List AV → Prop
  | nil : SL h size none 0 (.known 0) []
  | row {b o len : Nat} {c : Cap} {cs : List AV} {ro : Bool} {vs : List AV} (hg : h.get b = some (.cells cs ro)) (hv : (cs.drop o).take (len * size) = vs) (hl : o + len * size ≤ cs.length) (hc : c = .rest size ∨ ∃ k, c = .known k ∧ len ≤ k) : SL h size (some (b, o)) len c vs

theorem SL.length {h : H} {size : Nat} {p : Option (Nat × Nat)} {len : Nat} {c : Cap} {vs : List AV} (s : SL h size p len c vs) : vs.length = len * size := by
  cases s with
  | nil => simp
  | row hg hv hl hc => subst hv; simp; omega

section
variable {β : Type}
theorem SL.at1 {h : H} {p : Option (Nat × Nat)} {len : Nat} {c : Cap} {vs : List AV} (s : SL h 1 p len c vs) {k : Nat} {v : AV} (hv : vs[k]? = some v) (f : AV → Option β) :
    (nnK p fun b o => cellK h b (o + k) f) = f v := by
  cases s with
  | nil => simp at hv
  | row hg hvs hl hc =>
    subst hvs
    have hk : k < len := by have := (List.getElem?_eq_some_iff.1 hv).1; simp at this; omega
    rw [List.getElem?_take, if_pos (by omega), List.getElem?_drop] at hv
    exact cellK_of hg hv f

theorem SL.upto {h : H} {size : Nat} {p : Option (Nat × Nat)} {len : Nat} {c : Cap} {vs : List AV} (s : SL h size p len c vs) {k : IntKind} {hi : Int} (h0 : 0 ≤ hi) (h1 : hi ≤ len) :
    ∃ p' c', SL h size p' hi.toNat c' (vs.take (hi.toNat * size)) ∧ ∀ f : Option (Nat × Nat) → Nat → Cap → Option β, slK size p len c none (some (.int k hi)) none f = f p' hi.toNat c' := by
  cases s with
  | nil =>
    obtain rfl : hi = 0 := by omega
    exact ⟨none, .known 0, by simpa using .nil, fun f => by simp [slK, evSliceS, evBounds, evBound]⟩
  | row hg hvs hl hc =>
    rename_i b o cs ro
    subst hvs
    have hmul : hi.toNat * size ≤ len * size := Nat.mul_le_mul_right _ (by omega)
    have ht : (List.take (len * size) (cs.drop o)).take (hi.toNat * size) = (cs.drop o).take (hi.toNat * size) := by rw [List.take_take, Nat.min_eq_left hmul]
    rcases hc with rfl | ⟨q, rfl, hq⟩
    · exact ⟨some (b, o), .rest size, .row hg ht.symm (by omega) (.inl rfl), fun f => by simp [slK, evSliceS, evBounds, evBound, h0, h1]⟩
    · refine ⟨some (b, o), .known q, .row hg ht.symm (by omega) (.inr ⟨q, rfl, by omega⟩), fun f => ?_⟩
      have h2 : hi ≤ q := by omega
      by_cases hq0 : q = 0
      · subst hq0
        obtain rfl : hi = 0 := by omega
        simp [slK, evSliceS, evBounds, evBound, hq]
      · simp [slK, evSliceS, evBounds, evBound, h0, h2, hq, hq0]

theorem SL.from {h : H} {size : Nat} {p : Option (Nat × Nat)} {len : Nat} {c : Cap} {vs : List AV} (s : SL h size p len c vs) {k : IntKind} {lo : Int} (h0 : 0 ≤ lo) (h1 : lo ≤ len) :
    ∃ p' c', SL h size p' (len - lo.toNat) c' (vs.drop (lo.toNat * size)) ∧ ∀ f : Option (Nat × Nat) → Nat → Cap → Option β, slK size p len c (some (.int k lo)) none none f = f p' (len - lo.toNat) c' := by
  cases s with
  | nil =>
    obtain rfl : lo = 0 := by omega
    exact ⟨none, .known 0, by simpa using .nil, fun f => by simp [slK, evSliceS, evBounds, evBound]⟩
  | row hg hvs hl hc =>
    rename_i b o cs ro
    subst hvs
    have hadd : lo.toNat * size + (len - lo.toNat) * size = len * size := by rw [← Nat.add_mul]; congr 1; omega
    have ht : ((cs.drop o).take (len * size)).drop (lo.toNat * size) = (cs.drop (o + lo.toNat * size)).take ((len - lo.toNat) * size) := by
      rw [List.drop_take, List.drop_drop]; congr 1; omega
    rcases hc with rfl | ⟨q, rfl, hq⟩
    · exact ⟨some (b, o + lo.toNat * size), .rest size, .row hg ht.symm (by omega) (.inl rfl), fun f => by simp [slK, evSliceS, evBounds, evBound, h0, h1]⟩
    · by_cases hql : q = lo.toNat
      · refine ⟨some (b, o), .known (q - lo.toNat), ?_, fun f => by
          have h2 : (len : Int) ≤ lo := by omega
          simp [slK, evSliceS, evBounds, evBound, h0, h1, hq, hql, h2]⟩
        have : len - lo.toNat = 0 := by omega
        rw [this] at ht ⊢
        exact .row hg (by rw [ht]; simp) (by omega) (.inr ⟨_, rfl, by omega⟩)
      · exact ⟨some (b, o + lo.toNat * size), .known (q - lo.toNat), .row hg ht.symm (by omega) (.inr ⟨_, rfl, by omega⟩), fun f => by simp [slK, evSliceS, evBounds, evBound, h0, h1, hq, hql]⟩
end

end Go.Ev

namespace Go.Ev
/-! ### an array that is filled place after place -/

end Go.Ev

namespace Go.Ev
/-! ### equality of arrays of numbers -/

end Go.Ev

namespace Go.Ev
/-! ### plain arguments, opened -/

/-! ### bytes and texts -/

theorem evNums_map : ∀ l : List Int, evNums (l.map (.int .u8)) = some l
  | [] => rfl
  | x :: l => by
    have := evNums_map l
    unfold evNums at this ⊢
    simp [this]

theorem bsK_of {β : Type} {h : H} {p : Option (Nat × Nat)} {len : Nat} {c : Cap} {bs : List Int} (s : SL h 1 p len c (bs.map (.int .u8))) (f : ByteArray → Option β) : bsK h (.slice p len c) f = f (strOfNums bs) := by
  have hlen := s.length
  simp only [List.length_map, Nat.mul_one] at hlen
  generalize hvs : bs.map (AV.int .u8) = vs at s
  cases s with
  | nil =>
    have : bs = [] := List.eq_nil_of_length_eq_zero hlen
    subst this
    rfl
  | row hg hv hl hc =>
    unfold bsK
    simp only [evBytesStr]
    by_cases h0 : len = 0
    · subst h0
      have : bs = [] := List.eq_nil_of_length_eq_zero hlen
      subst this
      rfl
    · rw [if_neg h0, hg]
      simp only [Nat.mul_one] at hv hl
      simp only [hl, if_true, hv, ← hvs, evNums_map, Option.map_some]

end Go.Ev

/- The abstract machine Ev, part U: what a printed function comes to (Ret), what it leaves as it was (Mod), rows (Row), rows that grow (Grow), maps. -/
namespace Go.Ev

/-! ### what comes of it -/

section
variable {α β : Type}

def Ret (c : Option (α × H)) (Q : α → H → Prop) : Prop := ∃ r h', c = some (r, h') ∧ Q r h'

theorem Ret.pure {r : α} {h : H} {Q : α → H → Prop} (q : Q r h) : Ret (some (r, h)) Q := ⟨r, h, rfl, q⟩
theorem Ret.bind {c : Option (α × H)} {P : α → H → Prop} {f : α × H → Option (β × H)} {Q : β → H → Prop} (hc : Ret c P) (hf : ∀ r h, P r h → Ret (f (r, h)) Q) : Ret (c.bind f) Q := by
  obtain ⟨r, h, rfl, p⟩ := hc
  exact hf r h p
theorem Ret.mono {c : Option (α × H)} {P Q : α → H → Prop} (hc : Ret c P) (hf : ∀ r h, P r h → Q r h) : Ret c Q := by
  obtain ⟨r, h, e, p⟩ := hc
  exact ⟨r, h, e, hf r h p⟩
end

/-! ### what is left as it was -/

structure Mod (S : List Nat) (h h' : H) : Prop where
  next : h.next ≤ h'.next
  get : ∀ i, i < h.next → i ∉ S → h'.get i = h.get i

theorem Mod.refl (S : List Nat) (h : H) : Mod S h h := ⟨Nat.le_refl _, fun _ _ _ => rfl⟩
theorem Mod.trans {S : List Nat} {a b c : H} (p : Mod S a b) (q : Mod S b c) : Mod S a c := ⟨Nat.le_trans p.next q.next, fun i hi hS => (q.get i (Nat.lt_of_lt_of_le hi p.next) hS).trans (p.get i hi hS)⟩
theorem Mod.trans' {S T : List Nat} {a b c : H} (p : Mod S a b) (q : Mod T b c) (ht : ∀ i ∈ T, i < a.next → i ∈ S) : Mod S a c :=
  ⟨Nat.le_trans p.next q.next, fun i hi hS => (q.get i (Nat.lt_of_lt_of_le hi p.next) fun h => hS (ht i h hi)).trans (p.get i hi hS)⟩
theorem Mod.sub {S T : List Nat} {a b : H} (p : Mod T a b) (ht : ∀ i ∈ T, i < a.next → i ∈ S) : Mod S a b := ⟨p.next, fun i hi hS => p.get i hi fun h => hS (ht i h hi)⟩
theorem Mod.of_nil {S : List Nat} {a b : H} (p : Mod [] a b) : Mod S a b := p.sub fun i h => by cases h
theorem Mod.new {S : List Nat} {a h : H} (q : Mod S a h) (o : AObj) : Mod S a (h.new o) := ⟨Nat.le_trans q.next (Nat.le_succ _), fun i hi hS => (get_new_lt (Nat.lt_of_lt_of_le hi q.next)).trans (q.get i hi hS)⟩
theorem Mod.set {S : List Nat} {a h : H} (q : Mod S a h) {b : Nat} (hb : a.next ≤ b ∨ b ∈ S) (o : AObj) : Mod S a (h.set b o) :=
  ⟨q.next, fun i hi hS => (get_set_ne fun e => by subst e; exact hb.elim (fun h => Nat.lt_irrefl _ (Nat.lt_of_lt_of_le hi h)) hS).trans (q.get i hi hS)⟩
theorem get_kill_ne {h : H} {i j : Nat} (hi : j ≠ i) : (h.kill i).get j = h.get j := by simp only [H.kill]; rw [if_neg hi]
@[simp] theorem next_kill (h : H) (i : Nat) : (h.kill i).next = h.next := rfl
theorem Mod.kill {S : List Nat} {a h : H} (q : Mod S a h) {b : Nat} (hb : a.next ≤ b ∨ b ∈ S) : Mod S a (h.kill b) :=
  ⟨q.next, fun i hi hS => (get_kill_ne fun e => by subst e; exact hb.elim (fun h => Nat.lt_irrefl _ (Nat.lt_of_lt_of_le hi h)) hS).trans (q.get i hi hS)⟩
theorem Mod.lt {S : List Nat} {a b : H} (m : Mod S a b) {i : Nat} (h : i < a.next) : i < b.next := Nat.lt_of_lt_of_le h m.next
theorem Quiet.mod {a b : H} (m : Quiet a b) (S : List Nat) : Mod S a b := ⟨m.next, fun i h _ => m.get i h⟩
theorem sameK_mod {β : Type} {h h' : H} {S : List Nat} (q : Mod S h h') {b : Nat} (hb : b < h.next) (hS : b ∉ S) (x : Option β) : sameK h h' (some b) x = x := sameK_of (q.get b hb hS) x

def own (p : Option (Nat × Nat)) : List Nat := match p with | some (b, _) => [b] | none => []
@[simp] theorem own_none : own none = [] := rfl
@[simp] theorem own_some (b o : Nat) : own (some (b, o)) = [b] := rfl

/-! ### numbers -/

theorem wrap_i64 {x : Int} (h0 : -9223372036854775808 ≤ x) (h1 : x < 9223372036854775808) : IntKind.i64.wrap x = x := by
  simp only [IntKind.wrap, IntKind.bits, IntKind.signed]
  simp; split <;> omega
theorem wrap_u64 {x : Int} (h0 : 0 ≤ x) (h1 : x < 18446744073709551616) : IntKind.u64.wrap x = x := by
  simp only [IntKind.wrap, IntKind.bits, IntKind.signed]
  simp; omega
theorem wrap_u8 {x : Int} (h0 : 0 ≤ x) (h1 : x < 256) : IntKind.u8.wrap x = x := by
  simp only [IntKind.wrap, IntKind.bits, IntKind.signed]
  simp; omega
theorem wrap_succ {k : Nat} (h : k < 9223372036854775807) : IntKind.i64.wrap ((k : Int) + 1) = ((k + 1 : Nat) : Int) := by
  rw [wrap_i64 (by omega) (by omega)]; rfl
theorem cast_lt {a b : Nat} (h : a < b) : decide ((a : Int) < (b : Int)) = true := by simp; omega
theorem cast_not_lt {a b : Nat} (h : b ≤ a) : decide ((a : Int) < (b : Int)) = false := by simp; omega

/-! ### rows -/

section
variable {α β : Type}

theorem length_flat {enc : α → List AV} {s : Nat} (hs : ∀ x, (enc x).length = s) : ∀ xs : List α, (xs.flatMap enc).length = xs.length * s
  | [] => by simp
  | x :: xs => by rw [List.flatMap_cons, List.length_append, length_flat hs xs, hs, List.length_cons, Nat.add_mul]; omega

theorem drop_flat {enc : α → List AV} {s : Nat} (hs : ∀ x, (enc x).length = s) : ∀ (xs : List α) (k : Nat), (xs.flatMap enc).drop (k * s) = (xs.drop k).flatMap enc
  | xs, 0 => by simp
  | [], k + 1 => by simp
  | x :: xs, k + 1 => by
    rw [List.flatMap_cons, List.drop_succ_cons, ← drop_flat hs xs k, Nat.add_mul, Nat.one_mul, Nat.add_comm, ← List.drop_drop, ← hs x, List.drop_left]

theorem flat_at {enc : α → List AV} {s : Nat} (hs : ∀ x, (enc x).length = s) {xs : List α} {k : Nat} {x : α} (hx : xs[k]? = some x) : ((xs.flatMap enc).drop (k * s)).take s = enc x := by
  rw [drop_flat hs]
  obtain ⟨h, rfl⟩ := List.getElem?_eq_some_iff.1 hx
  rw [List.drop_eq_getElem_cons h, List.flatMap_cons, ← hs xs[k], List.take_left]

theorem flat_get {enc : α → List AV} {s : Nat} (hs : ∀ x, (enc x).length = s) {xs : List α} {k : Nat} {x : α} (hx : xs[k]? = some x) {j : Nat} (hj : j < s) : (xs.flatMap enc)[k * s + j]? = (enc x)[j]? := by
  rw [← flat_at hs hx, List.getElem?_take, if_pos hj, List.getElem?_drop]
end

inductive Row (h : H) (size : Nat) : Option (Nat × Nat) → Nat → Cap → List AV → Prop
  | nil : Row h size none 0 (.known 0) []
  | row {b o len : Nat} {c : Cap} {cs : List AV} {ro : Bool} {vs : List AV} (hb : b < h.next) (hg : h.get b = some (.cells cs ro)) (hv : (cs.drop o).take (len * size) = vs) (hl : o + len * size ≤ cs.length) (hc : c = .rest size ∨ ∃ k, c = .known k ∧ len ≤ k) : Row h size (some (b, o)) len c vs

theorem Row.length {h : H} {size : Nat} {p : Option (Nat × Nat)} {len : Nat} {c : Cap} {vs : List AV} (s : Row h size p len c vs) : vs.length = len * size := by
  cases s with
  | nil => simp
  | row hb hg hv hl hc => subst hv; simp; omega

theorem Row.mod {h h' : H} {S : List Nat} {size : Nat} {p : Option (Nat × Nat)} {len : Nat} {c : Cap} {vs : List AV} (s : Row h size p len c vs) (m : Mod S h h') (hS : ∀ b ∈ own p, b ∉ S) : Row h' size p len c vs := by
  cases s with
  | nil => exact .nil
  | row hb hg hv hl hc => exact .row (m.lt hb) ((m.get _ hb (hS _ (by simp))).trans hg) hv hl hc
theorem Row.mod0 {h h' : H} {size : Nat} {p : Option (Nat × Nat)} {len : Nat} {c : Cap} {vs : List AV} (s : Row h size p len c vs) (m : Mod [] h h') : Row h' size p len c vs := s.mod m fun b _ => by simp
theorem Row.lt {h : H} {size : Nat} {p : Option (Nat × Nat)} {len : Nat} {c : Cap} {vs : List AV} (s : Row h size p len c vs) : ∀ b ∈ own p, b < h.next := by
  cases s with
  | nil => simp
  | row hb hg hv hl hc => simpa using hb
theorem Row.sl {h : H} {size : Nat} {p : Option (Nat × Nat)} {len : Nat} {c : Cap} {vs : List AV} (s : Row h size p len c vs) : SL h size p len c vs := by
  cases s with
  | nil => exact .nil
  | row hb hg hv hl hc => exact .row hg hv hl hc
section
variable {α β : Type}

theorem Row.at1 {h : H} {size : Nat} {p : Option (Nat × Nat)} {len : Nat} {c : Cap} {vs : List AV} (s : Row h size p len c vs) {i : Nat} {v : AV} (hv : vs[i]? = some v) (f : AV → Option β) :
    (nnK p fun b o => cellK h b (o + i) f) = f v := by
  cases s with
  | nil => simp at hv
  | row hb hg hvs hl hc =>
    subst hvs
    have hk : i < len * size := by have := (List.getElem?_eq_some_iff.1 hv).1; simp at this; omega
    rw [List.getElem?_take, if_pos (by omega), List.getElem?_drop] at hv
    exact cellK_of hg hv f
theorem Row.at2 {h : H} {size : Nat} {p : Option (Nat × Nat)} {len : Nat} {c : Cap} {vs : List AV} (s : Row h size p len c vs) {i j : Nat} {v : AV} (hv : vs[i + j]? = some v) (f : AV → Option β) :
    (nnK p fun b o => cellK h b (o + i + j) f) = f v := by
  have := s.at1 hv f
  simpa [Nat.add_assoc] using this

theorem Row.agg {enc : α → List AV} {h : H} {size : Nat} {p : Option (Nat × Nat)} {len : Nat} {c : Cap} {xs : List α} (s : Row h size p len c (xs.flatMap enc)) (hs : ∀ x, (enc x).length = size) (h0 : 0 < size) {k : Nat} {x : α} (hx : xs[k]? = some x) (f : List AV → Option β) :
    (nnK p fun b o => aggK h b (o + k * size) size f) = f (enc x) := by
  have hlen := s.length
  rw [length_flat hs] at hlen
  have hf := flat_at hs hx
  obtain ⟨hk, _⟩ := List.getElem?_eq_some_iff.1 hx
  have h1 : (k + 1) * size ≤ xs.length * size := Nat.mul_le_mul_right _ hk
  rw [Nat.add_mul, Nat.one_mul] at h1
  generalize xs.flatMap enc = vs at s hf
  cases s with
  | nil => omega
  | row hb hg hv hl hc =>
    rename_i b o cs ro
    show aggK h b (o + k * size) size f = f (enc x)
    rw [aggK_of hg (by omega), ← hf, ← hv]
    congr 1
    rw [List.drop_take, List.drop_drop, List.take_take, Nat.min_eq_left (by omega)]

/-- the index is tested, and the element taken -/
theorem Row.ix {enc : α → List AV} {h : H} {size : Nat} {p : Option (Nat × Nat)} {len : Nat} {c : Cap} {xs : List α} (s : Row h size p len c (xs.flatMap enc)) (hs : ∀ x, (enc x).length = size) (h0 : 0 < size) {k : Nat} {x : α} (hx : xs[k]? = some x) (f : List AV → Option β) :
    (if 0 ≤ (k : Int) ∧ (k : Int) < (Nat.cast len : Int) then nnK p fun b o => aggK h b (o + (k : Int).toNat * size) size f else none) = f (enc x) := by
  have hlen := s.length
  rw [length_flat hs] at hlen
  have := Nat.eq_of_mul_eq_mul_right h0 hlen
  have hk := (List.getElem?_eq_some_iff.1 hx).1
  rw [if_pos ⟨by omega, by omega⟩]
  exact s.agg hs h0 hx f
theorem Row.len {enc : α → List AV} {h : H} {size : Nat} {p : Option (Nat × Nat)} {len : Nat} {c : Cap} {xs : List α} (s : Row h size p len c (xs.flatMap enc)) (hs : ∀ x, (enc x).length = size) (h0 : 0 < size) : xs.length = len := by
  have hlen := s.length
  rw [length_flat hs] at hlen
  exact Nat.eq_of_mul_eq_mul_right h0 hlen
theorem Row.ix2 {enc : α → List AV} {h : H} {size : Nat} {p : Option (Nat × Nat)} {len : Nat} {c : Cap} {xs : List α} (s : Row h size p len c (xs.flatMap enc)) (hs : ∀ x, (enc x).length = size) {k : Nat} {x : α} (hx : xs[k]? = some x) (j : Nat) {v : AV} (hj : (enc x)[j]? = some v) (f : AV → Option β) :
    (if 0 ≤ (k : Int) ∧ (k : Int) < (Nat.cast len : Int) then nnK p fun b o => cellK h b (o + (k : Int).toNat * size + j) f else none) = f v := by
  have hj' : j < size := by have := (List.getElem?_eq_some_iff.1 hj).1; rw [hs] at this; exact this
  have hlen := s.len hs (by omega)
  have hk := (List.getElem?_eq_some_iff.1 hx).1
  rw [if_pos ⟨by omega, by omega⟩]
  exact s.at2 (i := k * size) (by rw [flat_get hs hx hj', hj]) f
theorem Row.ix20 {enc : α → List AV} {h : H} {size : Nat} {p : Option (Nat × Nat)} {len : Nat} {c : Cap} {xs : List α} (s : Row h size p len c (xs.flatMap enc)) (hs : ∀ x, (enc x).length = size) {k : Nat} {x : α} (hx : xs[k]? = some x) {v : AV} (hj : (enc x)[0]? = some v) (f : AV → Option β) :
    (if 0 ≤ (k : Int) ∧ (k : Int) < (Nat.cast len : Int) then nnK p fun b o => cellK h b (o + (k : Int).toNat * size) f else none) = f v := s.ix2 hs hx 0 hj f
/-- elements of one cell -/
theorem Row.len1 {enc : α → AV} {h : H} {p : Option (Nat × Nat)} {len : Nat} {c : Cap} {xs : List α} (s : Row h 1 p len c (xs.map enc)) : xs.length = len := by
  have := s.length; simpa using this
theorem Row.ix1 {enc : α → AV} {h : H} {p : Option (Nat × Nat)} {len : Nat} {c : Cap} {xs : List α} (s : Row h 1 p len c (xs.map enc)) {k : Nat} {x : α} (hx : xs[k]? = some x) (f : AV → Option β) :
    (if 0 ≤ (k : Int) ∧ (k : Int) < (Nat.cast len : Int) then nnK p fun b o => cellK h b (o + (k : Int).toNat) f else none) = f (enc x) := by
  have hlen := s.len1
  have hk := (List.getElem?_eq_some_iff.1 hx).1
  rw [if_pos ⟨by omega, by omega⟩]
  exact s.at1 (i := k) (by rw [List.getElem?_map, hx]; rfl) f

theorem Row.src {h : H} {size : Nat} {p : Option (Nat × Nat)} {len : Nat} {c : Cap} {vs : List AV} (s : Row h size p len c vs) : evSrc size (.slice p len c) h = some (len, vs) := by
  have hlen := s.length
  cases s with
  | nil => rfl
  | row hb hg hv hl hc =>
    by_cases h0 : len = 0
    · subst h0
      have : vs = [] := List.eq_nil_of_length_eq_zero (by rw [hlen]; simp)
      subst this
      simp [evSrc]
    · simp [evSrc, h0, hg, hl, hv]

theorem Row.upto {h : H} {size : Nat} {p : Option (Nat × Nat)} {len : Nat} {c : Cap} {vs : List AV} (s : Row h size p len c vs) {k : IntKind} {hi : Int} (h0 : 0 ≤ hi) (h1 : hi ≤ len) :
    ∃ p' c', Row h size p' hi.toNat c' (vs.take (hi.toNat * size)) ∧ own p' = own p ∧ ∀ f : Option (Nat × Nat) → Nat → Cap → Option β, slK size p len c none (some (.int k hi)) none f = f p' hi.toNat c' := by
  cases s with
  | nil =>
    obtain rfl : hi = 0 := by omega
    exact ⟨none, .known 0, by simpa using .nil, rfl, fun f => by simp [slK, evSliceS, evBounds, evBound]⟩
  | row hb hg hvs hl hc =>
    rename_i b o cs ro
    subst hvs
    have hmul : hi.toNat * size ≤ len * size := Nat.mul_le_mul_right _ (by omega)
    have ht : (List.take (len * size) (cs.drop o)).take (hi.toNat * size) = (cs.drop o).take (hi.toNat * size) := by rw [List.take_take, Nat.min_eq_left hmul]
    rcases hc with rfl | ⟨q, rfl, hq⟩
    · exact ⟨some (b, o), .rest size, .row hb hg ht.symm (by omega) (.inl rfl), rfl, fun f => by simp [slK, evSliceS, evBounds, evBound, h0, h1]⟩
    · refine ⟨some (b, o), .known q, .row hb hg ht.symm (by omega) (.inr ⟨q, rfl, by omega⟩), rfl, fun f => ?_⟩
      have h2 : hi ≤ q := by omega
      by_cases hq0 : q = 0
      · subst hq0
        obtain rfl : hi = 0 := by omega
        simp [slK, evSliceS, evBounds, evBound, hq]
      · simp [slK, evSliceS, evBounds, evBound, h0, h2, hq, hq0]

theorem Row.from {h : H} {size : Nat} {p : Option (Nat × Nat)} {len : Nat} {c : Cap} {vs : List AV} (s : Row h size p len c vs) {k : IntKind} {lo : Int} (h0 : 0 ≤ lo) (h1 : lo ≤ len) :
    ∃ p' c', Row h size p' (len - lo.toNat) c' (vs.drop (lo.toNat * size)) ∧ own p' = own p ∧ ∀ f : Option (Nat × Nat) → Nat → Cap → Option β, slK size p len c (some (.int k lo)) none none f = f p' (len - lo.toNat) c' := by
  cases s with
  | nil =>
    obtain rfl : lo = 0 := by omega
    exact ⟨none, .known 0, by simpa using .nil, rfl, fun f => by simp [slK, evSliceS, evBounds, evBound]⟩
  | row hb hg hvs hl hc =>
    rename_i b o cs ro
    subst hvs
    have hadd : lo.toNat * size + (len - lo.toNat) * size = len * size := by rw [← Nat.add_mul]; congr 1; omega
    have ht : ((cs.drop o).take (len * size)).drop (lo.toNat * size) = (cs.drop (o + lo.toNat * size)).take ((len - lo.toNat) * size) := by
      rw [List.drop_take, List.drop_drop]; congr 1; omega
    rcases hc with rfl | ⟨q, rfl, hq⟩
    · exact ⟨some (b, o + lo.toNat * size), .rest size, .row hb hg ht.symm (by omega) (.inl rfl), rfl, fun f => by simp [slK, evSliceS, evBounds, evBound, h0, h1]⟩
    · by_cases hql : q = lo.toNat
      · refine ⟨some (b, o), .known (q - lo.toNat), ?_, rfl, fun f => by
          have h2 : (len : Int) ≤ lo := by omega
          simp [slK, evSliceS, evBounds, evBound, h0, h1, hq, hql, h2]⟩
        have : len - lo.toNat = 0 := by omega
        rw [this] at ht ⊢
        exact .row hb hg (by rw [ht]; simp) (by omega) (.inr ⟨_, rfl, by omega⟩)
      · exact ⟨some (b, o + lo.toNat * size), .known (q - lo.toNat), .row hb hg ht.symm (by omega) (.inr ⟨_, rfl, by omega⟩), rfl, fun f => by simp [slK, evSliceS, evBounds, evBound, h0, h1, hq, hql]⟩

/-! ### rows that grow -/

structure Grow (a h : H) (size : Nat) (p : Option (Nat × Nat)) (len : Nat) (c : Cap) (vs : List AV) : Prop where
  look : (p = none ∧ len = 0 ∧ c = .known 0 ∧ vs = []) ∨ ∃ b, p = some (b, 0) ∧ a.next ≤ b ∧ b < h.next ∧ h.get b = some (.cells vs false) ∧ vs.length = len * size ∧ (c = .rest size ∨ c = .known len)

theorem Grow.nil {a h : H} {size : Nat} : Grow a h size none 0 (.known 0) [] := ⟨.inl ⟨rfl, rfl, rfl, rfl⟩⟩
theorem Grow.row {a h : H} {size : Nat} {p : Option (Nat × Nat)} {len : Nat} {c : Cap} {vs : List AV} (g : Grow a h size p len c vs) : Row h size p len c vs := by
  rcases g.look with ⟨rfl, rfl, rfl, rfl⟩ | ⟨b, rfl, h1, h2, h3, h4, h5⟩
  · exact .nil
  · exact .row h2 h3 (by rw [List.drop_zero, ← h4, List.take_length]) (by omega) (h5.elim .inl fun h => .inr ⟨_, h, Nat.le_refl _⟩)
theorem Grow.own_ge {a h : H} {size : Nat} {p : Option (Nat × Nat)} {len : Nat} {c : Cap} {vs : List AV} (g : Grow a h size p len c vs) : ∀ b ∈ own p, a.next ≤ b ∧ b < h.next := by
  rcases g.look with ⟨rfl, rfl, rfl, rfl⟩ | ⟨b, rfl, h1, h2, h3, h4, h5⟩
  · simp
  · simp [h1, h2]
theorem Grow.mod {a h h' : H} {S : List Nat} {size : Nat} {p : Option (Nat × Nat)} {len : Nat} {c : Cap} {vs : List AV} (g : Grow a h size p len c vs) (m : Mod S h h') (hS : ∀ b ∈ own p, b ∉ S) : Grow a h' size p len c vs := by
  rcases g.look with h0 | ⟨b, rfl, h1, h2, h3, h4, h5⟩
  · exact ⟨.inl h0⟩
  · exact ⟨.inr ⟨b, rfl, h1, m.lt h2, (m.get _ h2 (hS _ (by simp))).trans h3, h4, h5⟩⟩
theorem Grow.mod0 {a h h' : H} {size : Nat} {p : Option (Nat × Nat)} {len : Nat} {c : Cap} {vs : List AV} (g : Grow a h size p len c vs) (m : Mod [] h h') : Grow a h' size p len c vs := g.mod m fun b _ => by simp
theorem Grow.base {a a' h : H} {size : Nat} {p : Option (Nat × Nat)} {len : Nat} {c : Cap} {vs : List AV} (g : Grow a h size p len c vs) (ha : a'.next ≤ a.next) : Grow a' h size p len c vs := by
  rcases g.look with h0 | ⟨b, rfl, h1, h2⟩
  · exact ⟨.inl h0⟩
  · exact ⟨.inr ⟨b, rfl, Nat.le_trans ha h1, h2⟩⟩
theorem Grow.fresh {a h : H} (ha : a.next ≤ h.next) {size len : Nat} {vs : List AV} (hl : vs.length = len * size) {c : Cap} (hc : c = .rest size ∨ c = .known len) : Grow a (h.new (.cells vs false)) size (some (h.next, 0)) len c vs :=
  ⟨.inr ⟨h.next, rfl, ha, Nat.lt_succ_self _, get_new_self _ _, hl, hc⟩⟩

theorem Grow.app {a h : H} {size bytes : Nat} {p : Option (Nat × Nat)} {len : Nat} {c : Cap} {vs : List AV} (g : Grow a h size p len c vs) (ha : a.next ≤ h.next) {src : Option (Nat × List AV)} {n : Nat} {news : List AV} (hs : src = some (n, news)) (hn : news.length = n * size) (hcell : news.all isCell = true)
    (hb : (len + n) * bytes ≤ 140737488355328) (h63 : len + n ≤ 9223372036854775807) (hz : n = 0 → news = []) :
    ∃ p' c' h', (∀ f : Option (Nat × Nat) → Nat → Cap → H → Option β, appK size bytes p len c src h f = f p' (len + n) c' h') ∧ Grow a h' size p' (len + n) c' (vs ++ news) ∧ Mod (own p) h h' := by
  subst hs
  by_cases h0 : n = 0
  · subst h0
    obtain rfl := hz rfl
    rw [List.append_nil]
    rcases g.look with ⟨rfl, rfl, rfl, rfl⟩ | ⟨b, rfl, h1, h2, h3, h4, h5⟩
    · exact ⟨none, .known 0, h, fun f => rfl, .nil, Mod.refl _ _⟩
    · refine ⟨some (b, 0), c, h, fun f => ?_, g, Mod.refl _ _⟩
      rcases h5 with rfl | rfl
      · simp [appK, evApp]
      · simp [appK, evApp]
  · rcases g.look with ⟨rfl, rfl, rfl, rfl⟩ | ⟨b, rfl, h1, h2, h3, h4, h5⟩
    · refine ⟨some (h.next, 0), .rest size, h.new (.cells news false), fun f => ?_, ?_, (Mod.refl _ _).new _⟩
      · simp only [appK, evApp]
        rw [if_neg h0, if_pos ⟨by simpa using hb, by omega⟩, Nat.zero_add]
      · rw [List.nil_append]
        exact Grow.fresh ha (by rw [Nat.zero_add, hn]) (.inl rfl)
    · rcases h5 with rfl | rfl
      · refine ⟨some (h.next, 0), .rest size, (h.kill b).new (.cells (vs ++ news) false), fun f => ?_, ?_, ((Mod.refl _ _).kill (.inr (by simp))).new _⟩
        · simp only [appK, evApp]
          rw [if_neg h0, if_pos ⟨trivial, hb, h63⟩, h3]
          simp only [Nat.zero_add]
          rw [if_pos ⟨h4.symm, hcell⟩, List.drop_zero]
        · exact Grow.fresh (h := h.kill b) ha (by rw [List.length_append, h4, hn, Nat.add_mul]) (.inl rfl)
      · refine ⟨some (h.next, 0), .rest size, h.new (.cells (vs ++ news) false), fun f => ?_, ?_, (Mod.refl _ _).new _⟩
        · simp only [appK, evApp]
          rw [if_neg (show ¬ len + n ≤ len by omega), if_pos ⟨hb, h63⟩, h3]
          simp only [Nat.zero_add]
          rw [if_pos (Nat.le_of_eq h4.symm), List.drop_zero, ← h4, List.take_length]
        · exact Grow.fresh ha (by rw [List.length_append, h4, hn, Nat.add_mul]) (.inl rfl)

theorem Grow.ret {a h : H} {size bytes : Nat} {p : Option (Nat × Nat)} {len : Nat} {c : Cap} {vs : List AV} (g : Grow a h size p len c vs) (ha : a.next ≤ h.next) {src : Option (Nat × List AV)} {n : Nat} {news : List AV} (hs : src = some (n, news)) (hn : news.length = n * size) (hcell : news.all isCell = true)
    (hb : (len + n) * bytes ≤ 140737488355328) (h63 : len + n ≤ 9223372036854775807) (hz : n = 0 → news = []) {f : Option (Nat × Nat) → Nat → Cap → H → Option (α × H)} {Q : α → H → Prop}
    (k : ∀ p' c' h', Grow a h' size p' (len + n) c' (vs ++ news) → Mod (own p) h h' → Ret (f p' (len + n) c' h') Q) : Ret (appK size bytes p len c src h f) Q := by
  obtain ⟨p', c', h', e, g', m⟩ := g.app (β := α × H) ha hs hn hcell hb h63 hz
  rw [e]
  exact k p' c' h' g' m
/-- one element more -/
theorem Grow.push {a h : H} {size bytes : Nat} {p : Option (Nat × Nat)} {len : Nat} {c : Cap} {vs : List AV} (g : Grow a h size p len c vs) (ha : a.next ≤ h.next) {xs : List AV} (hx : xs.length = size) (hc : xs.all isCell = true) (h0 : 0 < size) (hb : (len + 1) * bytes ≤ 140737488355328) (h63 : len + 1 ≤ 9223372036854775807)
    {f : Option (Nat × Nat) → Nat → Cap → H → Option (α × H)} {Q : α → H → Prop} (k : ∀ p' c' h', Grow a h' size p' (len + 1) c' (vs ++ xs) → Mod (own p) h h' → Ret (f p' (len + 1) c' h') Q) :
    Ret (appK size bytes p len c (evSrc size (.slice (some (h.next, 0)) 1 (.known 1)) (h.new (.cells xs false))) (h.new (.cells xs false)) f) Q := by
  have m2 : Mod [] h (h.new (.cells xs false)) := (Mod.refl _ _).new _
  have r2 : Row (h.new (.cells xs false)) size (some (h.next, 0)) 1 (.known 1) xs := .row (by simp) (get_new_self _ _) (by rw [List.drop_zero, Nat.one_mul, ← hx, List.take_length]) (by omega) (.inr ⟨1, rfl, Nat.le_refl _⟩)
  exact (g.mod0 m2).ret (Nat.le_trans ha m2.next) r2.src (by omega) hc hb h63 (fun h => by cases h) fun p' c' h' g' m' => k p' c' h' g' (m2.of_nil.trans m')
/-- what grew from a on, as it was there -/
theorem Mod.push {a h h' : H} {S : List Nat} {size : Nat} {p : Option (Nat × Nat)} {len : Nat} {c : Cap} {vs : List AV} (m : Mod S a h) (g : Grow a h size p len c vs) (m' : Mod (own p) h h') : Mod S a h' :=
  m.trans' m' fun i hi hl => by have := (g.own_ge i hi).1; omega
end

/-! ### maps -/

section
variable {K V β : Type} [DecidableEq K]

/-- an object is the map of these entries -/
def MObj (ek : K → AV) (ev : V → AV) (l : List (K × V)) (o : AObj) : Prop :=
  ∃ (L : List (K × V × Nat)) (clk : Nat), o = .map (L.map fun x => (ek x.1, ev x.2.1, x.2.2)) clk ∧ L.map (fun x => (x.1, x.2.1)) = l ∧ (L.map (·.2.2)).Nodup ∧ ∀ x ∈ L, x.2.2 < clk
def Keys (ek : K → AV) : Prop := ∀ a b, keyCmp (ek a) (ek b) = some (decide (a = b))
def lk (l : List (K × V)) (k : K) : Option V := (l.find? fun e => decide (k = e.1)).map (·.2)
def pt (l : List (K × V)) (k : K) (v : V) : List (K × V) := if (l.any fun e => decide (k = e.1)) = true then l.map fun e => if k = e.1 then (k, v) else e else l ++ [(k, v)]
theorem keys_str : Keys AV.str := fun a b => by
  simp only [keyCmp]
  congr 1
  rw [Bool.eq_iff_iff, MapKept.bytes_beq]; simp
theorem MObj.nil {ek : K → AV} {ev : V → AV} : MObj ek ev ([] : List (K × V)) (.map [] 0) := ⟨[], 0, rfl, rfl, List.nodup_nil, fun x hx => by cases hx⟩

theorem find_enc {ek : K → AV} {ev : V → AV} (hk : Keys ek) (k : K) : ∀ L : List (K × V × Nat), evFind (ek k) (L.map fun x => (ek x.1, ev x.2.1, x.2.2)) = some ((L.find? fun e => decide (k = e.1)).map fun x => (ek x.1, ev x.2.1, x.2.2)) := by
  intro l
  unfold evFind
  rw [if_pos]
  · congr 1
    rw [List.find?_map]
    congr 2
    funext x
    simp [Function.comp, hk k x.1]
  · simp [hk k]

theorem lk_proj (L : List (K × V × Nat)) (k : K) : lk (L.map fun x => (x.1, x.2.1)) k = (L.find? fun e => decide (k = e.1)).map (·.2.1) := by
  unfold lk
  rw [List.find?_map, Option.map_map]
  rfl

theorem lookK_of {h : H} {m : Nat} {o : AObj} {ek : K → AV} {ev : V → AV} {l : List (K × V)} (hk : Keys ek) (hg : h.get m = some o) (ho : MObj ek ev l o) (z : AV) (k : K) (f : AV → Bool → Option β) :
    lookK z (some m) (ek k) h f = match lk l k with | some v => f (ev v) true | none => f z false := by
  obtain ⟨L, clk, rfl, rfl, _, _⟩ := ho
  rw [lk_proj]
  simp only [lookK, evLook, evLookEs, hg, find_enc hk]
  cases L.find? fun e => decide (k = e.1) <;> rfl
theorem putK_of {h : H} {m : Nat} {o : AObj} {ek : K → AV} {ev : V → AV} {l : List (K × V)} (hk : Keys ek) (hg : h.get m = some o) (ho : MObj ek ev l o) (k : K) (v : V) :
    ∃ o', MObj ek ev (pt l k v) o' ∧ ∀ f : H → Option β, putK (some m) (ek k) (ev v) h f = f (h.set m o') := by
  obtain ⟨L, clk, rfl, rfl, hn, hb⟩ := ho
  cases hf : L.find? fun e => decide (k = e.1) with
  | none =>
    rw [List.find?_eq_none] at hf
    refine ⟨.map ((L ++ [(k, v, clk)]).map fun x => (ek x.1, ev x.2.1, x.2.2)) (clk + 1), ⟨L ++ [(k, v, clk)], clk + 1, rfl, ?_, ?_, ?_⟩, fun f => ?_⟩
    · unfold pt
      rw [if_neg]
      · simp
      · simp only [List.any_map, List.any_eq_true, not_exists, not_and]
        exact fun x hx => hf x hx
    · rw [List.map_append, List.nodup_append]
      refine ⟨hn, by simp, fun a ha b hb' e => ?_⟩
      obtain ⟨x, hx, rfl⟩ := List.mem_map.1 ha
      simp at hb'
      have := hb x hx
      omega
    · intro x hx
      rcases List.mem_append.1 hx with hx | hx
      · have := hb x hx; omega
      · obtain rfl : x = (k, v, clk) := by simpa using hx
        exact Nat.lt_succ_self _
    · have hf' : (L.find? fun e => decide (k = e.1)) = none := List.find?_eq_none.2 hf
      simp only [putK, evMapPut, hg, evPutEs, find_enc hk, hf', Option.map_none, Option.map_some]
      rw [List.map_append]
      rfl
  | some x =>
    have hany : ((L.map fun x => (x.1, x.2.1)).any fun e => decide (k = e.1)) = true := by
      rw [List.any_map, List.any_eq_true]
      exact ⟨x, List.mem_of_find?_eq_some hf, List.find?_some (p := fun e : K × V × Nat => decide (k = e.1)) hf⟩
    refine ⟨.map ((L.map fun e => if k = e.1 then (k, v, e.2.2) else e).map fun x => (ek x.1, ev x.2.1, x.2.2)) clk, ⟨_, clk, rfl, ?_, ?_, ?_⟩, fun f => ?_⟩
    · unfold pt
      rw [if_pos hany, List.map_map, List.map_map]
      apply List.map_congr_left
      intro e _
      simp only [Function.comp]
      by_cases he : k = e.1 <;> simp [he]
    · rw [List.map_map]
      have : ((fun x : K × V × Nat => x.2.2) ∘ fun e => if k = e.1 then (k, v, e.2.2) else e) = fun x => x.2.2 := by
        funext e; simp only [Function.comp]; split <;> rfl
      rw [this]; exact hn
    · intro y hy
      obtain ⟨e, he, rfl⟩ := List.mem_map.1 hy
      have := hb e he
      split <;> exact this
    · simp only [putK, evMapPut, hg, evPutEs, find_enc hk, hf, Option.map_some]
      congr 3
      rw [List.map_map, List.map_map]
      apply List.map_congr_left
      intro e _
      simp only [Function.comp, hk k e.1]
      by_cases he : k = e.1 <;> simp [he]
theorem lk_nil (k : K) : lk ([] : List (K × V)) k = none := rfl
theorem lk_cons (e : K × V) (l : List (K × V)) (k : K) : lk (e :: l) k = if k = e.1 then some e.2 else lk l k := by
  unfold lk
  rw [List.find?_cons]
  by_cases h : k = e.1 <;> simp [h]
theorem lk_append (l l' : List (K × V)) (k : K) : lk (l ++ l') k = (lk l k).or (lk l' k) := by
  unfold lk
  rw [List.find?_append]
  cases List.find? (fun e => decide (k = e.1)) l <;> simp
theorem lk_none {l : List (K × V)} {k : K} : lk l k = none ↔ ∀ e ∈ l, k ≠ e.1 := by
  unfold lk
  rw [Option.map_eq_none_iff, List.find?_eq_none]
  simp
theorem lk_map {l : List (K × V)} {k k' : K} {v : V} : lk (l.map fun e => if k = e.1 then (k, v) else e) k' = if k' = k then (if (l.any fun e => decide (k = e.1)) = true then some v else none) else lk l k' := by
  induction l with
  | nil => simp [lk_nil]
  | cons e l ih =>
    rw [List.map_cons, lk_cons, ih, lk_cons, List.any_cons]
    by_cases h1 : k = e.1
    · subst h1
      by_cases h2 : k' = e.1 <;> simp [h2]
    · by_cases h2 : k' = k
      · subst h2
        simp only [h1, if_false, if_true]
        rw [show (decide False : Bool) = false from decide_eq_false id, Bool.false_or]
      · simp [h1, h2]
theorem lk_pt (l : List (K × V)) (k : K) (v : V) (k' : K) : lk (pt l k v) k' = if k' = k then some v else lk l k' := by
  unfold pt
  split
  · rename_i h; rw [lk_map, if_pos h]
  · rename_i h
    rw [lk_append, lk_cons, lk_nil]
    by_cases h2 : k' = k
    · subst h2
      have : lk l k' = none := lk_none.2 fun e he hk => h (List.any_eq_true.2 ⟨e, he, by simp [hk]⟩)
      simp [this]
    · simp [h2]
end

/-! ### nil or not -/

/-! ### texts -/

theorem bytes_toList (s : ByteArray) : s.toList = s.data.toList := ByteArray.toList_eq s
theorem toList_inj {a b : ByteArray} : a.toList = b.toList ↔ a = b := by
  constructor
  · intro h
    rw [bytes_toList, bytes_toList] at h
    obtain ⟨x⟩ := a
    obtain ⟨y⟩ := b
    simp only at h
    rw [Array.toList_inj.1 h]
  · intro h; rw [h]
theorem str_eq (a b : ByteArray) : (a.toList == b.toList) = decide (a = b) := by
  by_cases h : a = b
  · subst h; simp
  · rw [decide_eq_false h, beq_eq_false_iff_ne]
    exact fun e => h (toList_inj.1 e)
theorem length_toList (a : ByteArray) : a.toList.length = a.size := by rw [bytes_toList]; rfl
theorem byteK_ex {β : Type} {s : ByteArray} {n : Int} (h0 : 0 ≤ n) (h1 : n.toNat < s.size) (f : Int → Option β) : byteK s n f = f (s[n.toNat]'h1).toNat := by
  unfold byteK
  rw [if_pos h0, getElem?_pos s n.toNat h1]

/-! ### rows that came in -/

theorem Fits.split : ∀ {ks ls : List FK} {vs : List AV}, Fits (ks ++ ls) vs → ∃ v1 v2, vs = v1 ++ v2 ∧ Fits ks v1 ∧ Fits ls v2
  | [], ls, vs, h => ⟨[], vs, rfl, .nil, h⟩
  | k :: ks, ls, vs, h => by
    cases h with
    | cons h1 h2 =>
      obtain ⟨v1, v2, rfl, h3, h4⟩ := Fits.split h2
      exact ⟨_ :: v1, v2, rfl, .cons h1 h3, h4⟩

end Go.Ev

/- The abstract machine Ev, part X: functions that are not printed: the model's stand-ins, and what the kit's shelf says of Go's library. -/
namespace Go.Ev
open Go.RowKit

theorem VRL.nil_inv {r : Ren} {vs : List Value} (h : VRL r [] vs) : vs = [] := by
  exact List.eq_nil_of_length_eq_zero h.1.symm
theorem VRL.two {r : Ren} {a b : AV} {args' : Array Value} (h : VRL r [a, b] args'.toList) : ∃ v u, args' = #[v, u] ∧ VR r a v ∧ VR r b u := by
  obtain ⟨v, vs, e, hv, h⟩ := h.inv_cons
  obtain ⟨u, us, e2, hu, h⟩ := h.inv_cons
  obtain rfl := h.nil_inv
  subst e2
  exact ⟨v, u, by cases args'; simp_all, hv, hu⟩
theorem VRL.one {r : Ren} {a : AV} {args' : Array Value} (h : VRL r [a] args'.toList) : ∃ v, args' = #[v] ∧ VR r a v := by
  obtain ⟨v, vs, e, hv, h⟩ := h.inv_cons
  obtain rfl := h.nil_inv
  exact ⟨v, by cases args'; simp_all, hv⟩

theorem xcall_pure {P : Program} {f : FuncId} {fn : Func} {e : Array Value → Sem Value} (hf : P.funcs[f]? = some fn) (hb : fn.body.isNone = true) (hn : (fn.name == "runtime.NumGoroutine") = false) (hx : (Extern.findNext fn).isNone = true) (he : Extern.find fn = some e)
    {args : List AV} {v : AV} {h : H} (hrun : ∀ (r : Ren) (w : World) (args' : Array Value), VRL r args args'.toList → ∃ v', (e args').run P w = .ok v' w ∧ VR r v v') : XCall P f args h v h where
  there := ⟨fn, e, hf, hb, hn, hx, he, fun r w args' hrel _ ha => by
    obtain ⟨v', h1, h2⟩ := hrun r w args' ha
    exact ⟨r, v', w, h1, h2, Post.refl hrel⟩⟩
  next := Nat.le_refl _
  wf := fun h => h

def countF (s : ByteArray) (c : Int) : Int := (Lib.countByte s.data.toList c.toNat.toUInt8 : Nat)
def indexF (s : ByteArray) (c : Int) : Int := Lib.indexByte s.data.toList c.toNat.toUInt8

theorem countF_called {P : Program} {f : FuncId} {fn : Func} (hf : P.funcs[f]? = some fn) (hb : fn.body.isNone = true) (hn : (fn.name == "runtime.NumGoroutine") = false) (hx : (Extern.findNext fn).isNone = true) (he : Extern.find fn = some Extern.BytealgCount.count)
    {s : ByteArray} {c : Int} {h : H} {q : Int × H} (e : some (countF s c, h) = some q) : Called P f [.str s, .int .u8 c] h (.int .i64 q.1) q.2 := by
  cases e
  refine .inr (xcall_pure hf hb hn hx he fun r w args' ha => ?_)
  obtain ⟨v, u, rfl, h1, h2⟩ := ha.two
  cases h1; cases h2
  exact ⟨_, Lib.run_countString s c w, .int _ _⟩
theorem indexF_called {P : Program} {f : FuncId} {fn : Func} (hf : P.funcs[f]? = some fn) (hb : fn.body.isNone = true) (hn : (fn.name == "runtime.NumGoroutine") = false) (hx : (Extern.findNext fn).isNone = true) (he : Extern.find fn = some Extern.BytealgIndexByte.indexByte)
    {s : ByteArray} {c : Int} {h : H} {q : Int × H} (e : some (indexF s c, h) = some q) : Called P f [.str s, .int .u8 c] h (.int .i64 q.1) q.2 := by
  cases e
  refine .inr (xcall_pure hf hb hn hx he fun r w args' ha => ?_)
  obtain ⟨v, u, rfl, h1, h2⟩ := ha.two
  cases h1; cases h2
  exact ⟨_, Lib.run_indexByteString s c w, .int _ _⟩

theorem Row.unique {h : H} {size : Nat} {p : Option (Nat × Nat)} {len : Nat} {c : Cap} {vs us : List AV} (r : Row h size p len c vs) (s : Row h size p len c us) : vs = us := by
  cases r with
  | nil => cases s; rfl
  | row hb hg hv hl hc =>
    cases s with
    | row hb' hg' hv' hl' hc' =>
      rw [hg] at hg'
      cases hg'
      exact hv.symm.trans hv'
theorem cell_str {r : Ren} {h : H} {w : World} (hrel : Rel r h w) {b : Nat} {t : Tgt} (hr : r b = some t) {cs : List AV} {ro : Bool} (hg : h.get b = some (.cells cs ro)) {i : Nat} {a : AV} (hi : cs[i]? = some a) : ∃ v, w.cell? ⟨t.blk, t.base + i, none⟩ = some v ∧ VR r a v ∧ t.blk < w.heap.size := by
  obtain ⟨C, e, fz, h1, h2, h3, h4, h5⟩ := hrel.obj b t _ hr hg
  have hlt : t.base + i < C.size := by have := (List.getElem?_eq_some_iff.1 hi).1; omega
  exact ⟨C[t.base + i], by simp [World.cell?, h1, hlt], h4 i a _ hi (Array.getElem?_eq_getElem hlt), hrel.bound b t hr⟩

end Go.Ev

/- The abstract machine Ev, part V: more small laws: boxes, made rows, texts as lists of bytes. -/
namespace Go.Ev

theorem set_new (h : H) (o o' : AObj) : (h.new o).set h.next o' = h.new o' := by
  simp only [H.new, H.set, H.mk.injEq, true_and]
  funext j
  split <;> rfl
theorem box_wr {β : Type} {h : H} {cs xs : List AV} {n : Nat} (hl : xs.length = n) (hc : cs.length = n) (ha : xs.all isCell = true) (f : H → Option β) : wrK (h.new (.cells cs false)) h.next 0 n xs f = f (h.new (.cells xs false)) := by
  rw [wrK_of (get_new_self _ _) hl (by omega) ha, spl_all _ _ (by omega), set_new]

theorem mkSlK_of {β : Type} {size bytes : Nat} {zs : List AV} {l : Nat} (h : H) (hl : l < 1000000) (hb : bytes ≤ 1000) (f : Nat → Nat → Nat → H → Option β) : mkSlK size bytes zs (l : Int) (l : Int) h f = f h.next l l (h.new (.cells (evTile (l * size) zs) false)) := by
  unfold mkSlK
  have hw : IntKind.i64.wrap (l : Int) = l := wrap_i64 (by omega) (by omega)
  have hm : (bytes : Int) * (l : Int) ≤ 2 ^ 48 := by
    have : bytes * l ≤ 1000 * 1000000 := Nat.mul_le_mul hb (by omega)
    have h2 : ((bytes * l : Nat) : Int) ≤ 1000000000 := by omega
    rw [← Int.natCast_mul]
    omega
  rw [hw, if_pos ⟨by omega, Int.le_refl _, by omega⟩, newK_eq]
  rfl
theorem evTile_one (n : Nat) (v : AV) : evTile n [v] = List.replicate n v := by
  apply List.ext_getElem?
  intro k
  unfold evTile
  rw [List.getElem?_map, List.getElem?_replicate]
  by_cases h : k < n
  · rw [List.getElem?_range h, if_pos h]; simp [Nat.mod_one]
  · rw [List.getElem?_eq_none (by simp; omega), if_neg h]; rfl


def True' (r : Bool) (_ : H) : Prop := r = true
theorem Ret.true {c : Option (Bool × H)} (h : Ret c True') : ∃ h', c = some (true, h') := by
  obtain ⟨r, h', e, hr⟩ := h
  subst hr
  exact ⟨h', e⟩

/-! ### texts as lists of bytes -/

def bs (s : ByteArray) : List UInt8 := s.data.toList
def mk (l : List UInt8) : ByteArray := ⟨l.toArray⟩
theorem mk_bs (s : ByteArray) : mk (bs s) = s := by cases s; simp [mk, bs]
theorem bs_mk (l : List UInt8) : bs (mk l) = l := by simp [mk, bs]
theorem bs_inj {a b : ByteArray} (h : bs a = bs b) : a = b := by rw [← mk_bs a, h, mk_bs]
theorem bs_len (s : ByteArray) : (bs s).length = s.size := rfl
theorem size_mk (l : List UInt8) : (mk l).size = l.length := rfl
theorem bs_extract (s : ByteArray) (a b : Nat) : bs (s.extract a b) = ((bs s).drop a).take (b - a) := by
  have := Lib.extract_toList s a b
  rw [bytes_toList] at this
  exact this
theorem bs_get {s : ByteArray} {i : Nat} (h : i < s.size) : (bs s)[i]? = some s[i] := by
  unfold bs
  rw [List.getElem?_eq_getElem (show i < s.data.toList.length from h)]
  rfl
theorem byteK_of {β : Type} {s : ByteArray} {i : Nat} {b : UInt8} (h : (bs s)[i]? = some b) (f : Int → Option β) : byteK s (i : Int) f = f b.toNat := by
  have hl : i < s.size := by have := (List.getElem?_eq_some_iff.1 h).1; rw [bs_len] at this; exact this
  rw [byteK_ex (by omega) (by simpa using hl)]
  rw [bs_get hl] at h
  cases h
  rfl
theorem bs_append (a b : ByteArray) : bs (a ++ b) = bs a ++ bs b := by simp [bs]

theorem decode_ge {s : ByteArray} {pos : Nat} (h : pos < s.size) (hb : 128 ≤ (s[pos]'h).toNat) : 128 ≤ (Utf8.decode s pos).1 := by
  have e : s.get! pos = s[pos] := by
    show s.data[pos]! = s.data[pos]
    exact getElem!_pos s.data pos h
  unfold Utf8.decode
  simp only [Nat.add_zero, e]
  rw [if_neg (by omega)]
  have hr : 128 ≤ Utf8.runeError := by decide
  split
  · split
    · assumption
    · exact hr
  · split
    · split
      · rename_i h; simp only [Bool.and_eq_true, decide_eq_true_eq] at h; have := h.1; simp only; omega
      · exact hr
    · split
      · split
        · rename_i h; simp only [Bool.and_eq_true, decide_eq_true_eq] at h; have := h.1; simp only; omega
        · exact hr
      · exact hr

end Go.Ev

/- The abstract machine Ev, part Y: ranges over maps, whose order is drawn: functions whose runs may end in unlike ways. -/
namespace Go.Ev

/-! ### an iterator over a map -/

theorem VR_ptr0 {r : Ren} {i b row : Nat} (h : r i = some ⟨b, 0, row⟩) : VR r (.ptr (some (i, 0))) (.pointer (some ⟨b, 0, none⟩)) := .ptr (o := 0) h

/-- the iterator that a range over a map begins with -/
def evRangeM (m : Option Nat) (h : H) : Option AObj :=
  match m with
  | none => some (.miter none 0 [] 0)
  | some i => match h.mapAt i with | some (_, clk) => some (.miter (some i) clk [] clk) | none => none

theorem evRangeM_sim {P : Program} {r : Ren} {h : H} {w : World} (hrel : Rel r h w) (hfree : r h.next = none) {t kt e : TypeId} (hu : P.underlying t = some (.map kt e)) {m : Option Nat} {m' : Value} {o : AObj}
    (hs : evRangeM m h = some o) (hm : VR r (.map m) m') : ∃ w' r', (Instr.range t m').run P w = .ok (.pointer (some ⟨w.heap.size, 0, none⟩)) w' ∧ VR r' (.ptr (some (h.next, 0))) (.pointer (some ⟨w.heap.size, 0, none⟩)) ∧ Post r h w r' (h.new o) w' := by
  have go : ∀ (it : Obj), (∀ r' : Ren, r.le r' → OR r' (w.alloc it) ⟨w.heap.size, 0, 0⟩ o) → Post r h w (r.put h.next ⟨w.heap.size, 0, 0⟩) (h.new o) (w.alloc it) ∧ VR (r.put h.next ⟨w.heap.size, 0, 0⟩) (.ptr (some (h.next, 0))) (.pointer (some ⟨w.heap.size, 0, none⟩)) := by
    intro it hor
    refine ⟨Post.of_new hrel hfree (World.size_alloc ..) ⟨rfl, rfl, rfl, fun _ => Nat.le_refl _⟩ (fun b hb => alloc_old hb) hor, VR_ptr0 (row := 0) ?_⟩
    simp [Ren.put]
  cases hm with
  | nilMap =>
    simp only [evRangeM, Option.some.injEq] at hs
    subst hs
    obtain ⟨p, v⟩ := go (.mapIter none 0 #[] 0) (fun r' hr => ⟨none, alloc_new w _, rfl, .nilMap⟩)
    refine ⟨_, _, ?_, v, p⟩
    simp only [Instr.range, Sem.run_bind, run_underlying hu, Result.andThen_ok, Sem.run_pure, run_newObj, World.alloc_eq]
  | map ht =>
    simp only [evRangeM] at hs
    split at hs
    · rename_i es clk hg
      cases hs
      obtain ⟨E, hb, hrest⟩ := hrel.mapAt ht hg
      rename_i j0 t0 x0
      obtain ⟨p, v⟩ := go (.mapIter (some t0.blk) clk #[] clk) (fun r' hr => ⟨some t0.blk, alloc_new w _, rfl, .map (hr _ _ ht)⟩)
      refine ⟨_, _, ?_, v, p⟩
      simp only [Instr.range, Sem.run_bind, run_underlying hu, Result.andThen_ok, Sem.run_pure, run_getObj hb, run_newObj, World.alloc_eq]
    · cases hs

/-- what an iterator may tell next; 'none': it ends -/
def Nexts (h : H) (i : Nat) (c : Option (AV × AV × H)) : Prop :=
  match h.get i with
  | some (.miter none _ _ _) => c = none
  | some (.miter (some m) since seen _) =>
    match h.mapAt m with
    | some (es, clk) =>
      (match c with
       | none => ∀ e ∈ es, e.2.2 ∉ seen → since ≤ e.2.2
       | some (k, v, h') => ∃ e ∈ es, e.2.2 ∉ seen ∧ k = e.1 ∧ v = e.2.1 ∧ h' = h.set i (.miter (some m) since (seen ++ [e.2.2]) clk))
    | none => False
  | _ => False

/-- an iterator that may be asked -/
def Asked (h : H) (i : Nat) : Prop :=
  match h.get i with
  | some (.miter none _ _ _) => True
  | some (.miter (some m) _ seen last) => match h.mapAt m with | some (es, _) => ¬ (seen ≠ [] ∧ es ≠ [] ∧ ∀ e ∈ es, last ≤ e.2.2) | none => False
  | _ => False

/-- the model's candidates -/
def candOf (E : Array MapEntry) (seen : Array Nat) (since : Nat) : Array (Option MapEntry) :=
  let left := E.filter fun e => !seen.contains e.born
  let old := left.filter (·.born < since)
  let new := left.filter (·.born ≥ since)
  (if old.isEmpty then #[none] else #[]) ++ (old ++ new).map some

theorem cand_pos (E : Array MapEntry) (seen : Array Nat) (since : Nat) : 0 < (candOf E seen since).size := by
  unfold candOf
  simp only
  generalize (E.filter fun e => !seen.contains e.born).filter (·.born < since) = old
  by_cases ho : old.isEmpty = true
  · rw [if_pos ho]; simp; omega
  · rw [if_neg ho]
    have : 0 < old.size := by rw [Array.isEmpty_iff_size_eq_zero] at ho; omega
    simp; omega

theorem cand_mem {E : Array MapEntry} {seen : List Nat} {since : Nat} {c : Option MapEntry} (h : c ∈ candOf E seen.toArray since) :
    (c = none ∧ ∀ e ∈ E.toList, e.born ∉ seen → since ≤ e.born) ∨ ∃ e, c = some e ∧ e ∈ E.toList ∧ e.born ∉ seen := by
  unfold candOf at h
  simp only at h
  rcases Array.mem_append.1 h with h | h
  · left
    split at h
    · rename_i ho
      refine ⟨by simpa using h, fun e he hs => Nat.le_of_not_lt fun hlt => ?_⟩
      rw [Array.isEmpty_iff] at ho
      have : e ∈ (E.filter fun e => !seen.toArray.contains e.born).filter (·.born < since) := Array.mem_filter.2 ⟨Array.mem_filter.2 ⟨by simpa using he, by simpa using hs⟩, by simpa using hlt⟩
      rw [ho] at this
      simp at this
    · simp at h
  · right
    obtain ⟨e, he, rfl⟩ := Array.mem_map.1 h
    refine ⟨e, rfl, ?_⟩
    have : e ∈ E.filter fun e => !seen.toArray.contains e.born := by
      rcases Array.mem_append.1 he with he | he
      · exact (Array.mem_filter.1 he).1
      · exact (Array.mem_filter.1 he).1
    have := Array.mem_filter.1 this
    exact ⟨by simpa using this.1, by simpa using this.2⟩

theorem run_mapNext {P : Program} {w : World} {n : Nat} (hn : 0 < n) : ∃ (j : Nat) (w1 : World), j < n ∧ w1.heap = w.heap ∧ Env w w1 ∧ (choose (.mapNext n)).run P w = .ok j w1 := by
  by_cases hf : (Question.mapNext n).forced = true
  · refine ⟨0, w, hn, rfl, Env.refl w, ?_⟩
    unfold choose
    simp only [Sem.run]
    rw [if_pos hf]
  · refine ⟨w.tape w.drawn (.mapNext n) % n, { w with drawn := w.drawn + 1 }, Nat.mod_lt _ hn, rfl, ⟨rfl, rfl, rfl, fun _ => Nat.le_succ _⟩, ?_⟩
    unfold choose
    simp only [Sem.run]
    rw [if_neg hf]
    rfl

theorem Nexts_sim {P : Program} {r : Ren} {h : H} {w : World} (hrel : Rel r h w) {i : Nat} {it' : Value} {ty : TypeId} (ha : Asked h i) (hx : VR r (.ptr (some (i, 0))) it') :
    ∃ c v' w', Nexts h i c ∧ (Instr.next it' false ty).run P w = .ok v' w' ∧
      match c with
      | none => VR r (.tup [.bool false]) v' ∧ Post r h w r h w'
      | some (k, v, h') => VR r (.tup [.bool true, k, v]) v' ∧ Post r h w r h' w' := by
  unfold Asked at ha
  cases hx with
  | ptr ht =>
  rename_i t
  split at ha
  · rename_i a b c hg
    obtain ⟨m', hb, h0, hm⟩ := hrel.obj _ _ _ ht hg
    cases hm
    have hget : (getObj t.blk).run P w = .ok (.mapIter none a b.toArray c) w := by simp [getObj, Sem.run, hb]
    refine ⟨none, _, w, by unfold Nexts; rw [hg], ?_, VR_tup (vs := [.bool false]) (.cons (.bool _) .nil), Post.refl hrel⟩
    simp only [Instr.next, h0, Nat.add_zero, Sem.run_bind, hget, Result.andThen_ok]
    rfl
  · rename_i m since seen last hg
    obtain ⟨m', hb, h0, hm⟩ := hrel.obj _ _ _ ht hg
    cases hm with
    | map htm =>
    rename_i tm
    have hget : (getObj t.blk).run P w = .ok (.mapIter (some tm.blk) since seen.toArray last) w := by simp [getObj, Sem.run, hb]
    split at ha
    · rename_i es clk hgm
      obtain ⟨E, hbm, hE, hp⟩ := hrel.mapAt htm hgm
      have hgetm := run_getObj (P := P) hbm
      obtain ⟨E', hperm, hl, hpt⟩ := hE
      -- the entries on both sides
      have toE : ∀ x ∈ es, ∃ e ∈ E.toList, VR r x.1 e.key ∧ VR r x.2.1 e.val ∧ x.2.2 = e.born := by
        intro x hx
        obtain ⟨j, hj⟩ := List.getElem?_of_mem hx
        have hlt : j < E'.length := by rw [← hl]; exact (List.getElem?_eq_some_iff.1 hj).1
        exact ⟨E'[j], hperm.mem_iff.1 (List.getElem_mem hlt), hpt j x _ hj (List.getElem?_eq_getElem hlt)⟩
      have ofE : ∀ e ∈ E.toList, ∃ x ∈ es, VR r x.1 e.key ∧ VR r x.2.1 e.val ∧ x.2.2 = e.born := by
        intro e he
        obtain ⟨j, x, h1, h2, h3⟩ := mem_pair hl hpt (hperm.mem_iff.2 he)
        exact ⟨x, List.mem_of_getElem? h1, h3⟩
      have hguard : (!seen.toArray.isEmpty && !E.isEmpty && E.all (·.born ≥ last)) = false := by
        rw [← Bool.not_eq_true]
        intro hq
        simp only [Bool.and_eq_true, Bool.not_eq_true', Array.all_eq_true_iff_forall_mem, decide_eq_true_eq] at hq
        obtain ⟨⟨q1, q2⟩, q3⟩ := hq
        refine ha ⟨?_, ?_, ?_⟩
        · rintro rfl; simp at q1
        · rintro rfl
          have : E' = [] := List.length_eq_zero_iff.1 hl.symm
          subst this
          have := hperm.nil_eq
          have hE0 : E = #[] := by rw [← Array.toList_eq_nil_iff]; exact this.symm
          subst hE0; simp at q2
        · intro x hx
          obtain ⟨e, he, _, _, hb'⟩ := toE x hx
          rw [hb']; exact q3 e (by simpa using he)
      -- the draw
      obtain ⟨j, w1, hj, hw1, henv, hrun⟩ := run_mapNext (P := P) (w := w) (cand_pos E seen.toArray since)
      have hb1 : w1.heap[t.blk]? = some (.mapIter (some tm.blk) since seen.toArray last) := by rw [hw1]; exact hb
      have hp1 : Post r h w r h w1 := Post.same hrel hw1 henv
      have hcj : (candOf E seen.toArray since)[j]? = some ((candOf E seen.toArray since)[j]) := Array.getElem?_eq_getElem hj
      have hcs := cand_mem (Array.getElem_mem hj)
      generalize (candOf E seen.toArray since)[j] = cj at hcj hcs
      have hnext : (Instr.next (.pointer (some ⟨t.blk, t.base + 0, none⟩)) false ty).run P w = (match (candOf E seen.toArray since)[j]? with
          | some (some e) => (do setObj t.blk (.mapIter (some tm.blk) since (seen.toArray.push e.born) clk); pure (.tuple #[.bool true, e.key, e.val]) : Sem Value)
          | some none => pure (.tuple #[.bool false])
          | none => stuck "Next: no such candidate").run P w1 := by
        simp only [Instr.next, h0, Nat.add_zero, Sem.run_bind, hget, Result.andThen_ok, hgetm, hguard, Bool.false_eq_true, if_false]
        change Result.andThen (Sem.run P (choose (.mapNext (candOf E seen.toArray since).size)) w) _ = _
        rw [hrun]
        rfl
      rcases hcs with ⟨rfl, hno⟩ | ⟨e, rfl, he, hns⟩
      · refine ⟨none, .tuple #[.bool false], w1, ?_, ?_, VR_tup (vs := [.bool false]) (.cons (.bool _) .nil), hp1⟩
        · unfold Nexts
          rw [hg]
          simp only [hgm]
          intro x hx hns
          obtain ⟨e, he, _, _, hbn⟩ := toE x hx
          rw [hbn] at hns ⊢
          exact hno e he hns
        · rw [hnext, hcj]
          rfl
      · obtain ⟨x, hx, hv1, hv2, hbn⟩ := ofE e he
        have hlt := World.block_lt hb1
        refine ⟨some (x.1, x.2.1, h.set i (.miter (some m) since (seen ++ [x.2.2]) clk)), .tuple #[.bool true, e.key, e.val], { w1 with heap := w1.heap.setIfInBounds t.blk (.mapIter (some tm.blk) since (seen.toArray.push e.born) clk) }, ?_, ?_, VR_tup (vs := [.bool true, e.key, e.val]) (.cons (.bool _) (.cons hv1 (.cons hv2 .nil))), ?_⟩
        · unfold Nexts
          rw [hg]
          simp only [hgm]
          exact ⟨x, hx, by rw [hbn]; exact hns, rfl, rfl, rfl⟩
        · rw [hnext, hcj]
          simp only [Sem.run_bind, setObj, Sem.run, hb1, Result.andThen_ok]
          rfl
        · refine hp1.trans (Post.of_set (o' := .miter (some m) since (seen ++ [x.2.2]) clk) hp1.rel ht hg rfl rfl (by simp) ⟨rfl, rfl, rfl, fun _ => Nat.le_refl _⟩ (fun b hbb => by simp [Array.getElem?_setIfInBounds_ne (Ne.symm hbb)]) ⟨some tm.blk, ?_, h0, .map htm⟩)
          simp only [hbn]
          rw [show (seen ++ [e.born]).toArray = seen.toArray.push e.born by simp]
          simp [hlt]
    · exact absurd ha id
  · exact absurd ha id

end Go.Ev

/- The abstract machine Ev, part Z: regions, functions and tables of those whose runs may end in unlike ways. -/
namespace Go.Ev
open Go.RowKit

/-! ### the next entry, whichever it is -/

theorem Nexts_ex {h : H} {i : Nat} (ha : Asked h i) : ∃ c, Nexts h i c := by
  unfold Asked at ha
  split at ha
  · rename_i hg; exact ⟨none, by unfold Nexts; rw [hg]⟩
  · rename_i m since seen last hg
    split at ha
    · rename_i es clk hgm
      by_cases hx : ∃ e ∈ es, e.2.2 ∉ seen
      · obtain ⟨e, he, hs⟩ := hx
        exact ⟨some (e.1, e.2.1, _), by unfold Nexts; rw [hg]; simp only [hgm]; exact ⟨e, he, hs, rfl, rfl, rfl⟩⟩
      · exact ⟨none, by unfold Nexts; rw [hg]; simp only [hgm]; exact fun e he hs => absurd ⟨e, he, hs⟩ hx⟩
    · exact absurd ha id
  · exact absurd ha id

theorem Nexts_grows {h h' : H} {i : Nat} {k v : AV} (hn : Nexts h i (some (k, v, h'))) : h.next ≤ h'.next ∧ (h.WF → h'.WF) := by
  unfold Nexts at hn
  split at hn
  · cases hn
  · rename_i hg
    split at hn
    · obtain ⟨e, _, _, _, _, rfl⟩ := hn
      exact ⟨Nat.le_refl _, fun hw => WF_set hw hg⟩
    · exact absurd hn id
  · exact absurd hn id

open Classical in
noncomputable def nextMK (h : H) (i : Nat) (f : AV → AV → H → Option Unit) (g : Option Unit) : Option Unit :=
  if Asked h i ∧ ∀ c, Nexts h i c → (match c with | none => g | some (k, v, h') => f k v h') = some () then some () else none

theorem nextMK_some {h : H} {i : Nat} {f : AV → AV → H → Option Unit} {g : Option Unit} (e : nextMK h i f g = some ()) : Asked h i ∧ ∀ c, Nexts h i c → (match c with | none => g | some (k, v, h') => f k v h') = some () := by
  unfold nextMK at e
  split at e
  · assumption
  · cases e

noncomputable def rangeMK {β : Type} (m : Option Nat) (h : H) (k : Nat → H → Option β) : Option β := match evRangeM m h with | some o => k h.next (h.new o) | none => none

/-- the entry that an iterator has come to -/
def evEntry (h : H) (i : Nat) : Option (AV × AV) :=
  match h.get i with
  | some (.miter (some m) _ seen last) =>
    match h.mapAt m, seen.getLast? with
    | some (es, clk), some stamp => if clk = last then (match es.filter fun e => e.2.2 == stamp with | [e] => some (e.1, e.2.1) | _ => none) else none
    | _, _ => none
  | _ => none

theorem find_only {α : Type} {p : α → Bool} : ∀ {l : List α} {x : α}, l.filter p = [x] → l.find? p = some x
  | y :: l, x, h => by
    rw [List.filter_cons] at h
    rw [List.find?_cons]
    cases hp : p y with
    | true =>
      rw [hp] at h
      simp only [if_true, List.cons.injEq] at h
      rw [h.1]
    | false =>
      rw [hp] at h
      simp only [Bool.false_eq_true, if_false] at h
      exact find_only h

theorem evEntry_sim {P : Program} {r : Ren} {h : H} {w : World} (hrel : Rel r h w) {i : Nat} {a b : AV} {it' : Value} (hs : evEntry h i = some (a, b)) (hx : VR r (.ptr (some (i, 0))) it') :
    ∃ v', (Instr.entry it').run P w = .ok v' w ∧ VR r (.tup [a, b]) v' := by
  unfold evEntry at hs
  cases hx with
  | ptr ht =>
  rename_i t
  split at hs
  · rename_i m since seen last hg
    obtain ⟨m', hb, h0, hm⟩ := hrel.obj _ _ _ ht hg
    cases hm with
    | map htm =>
    rename_i tm
    have hget : (getObj t.blk).run P w = .ok (.mapIter (some tm.blk) since seen.toArray last) w := by simp [getObj, Sem.run, hb]
    split at hs
    · rename_i es clk stamp hgm hst
      obtain ⟨E, hbm, ⟨E', hperm, hl, hpt⟩, hp⟩ := hrel.mapAt htm hgm
      have hgetm := run_getObj (P := P) hbm
      split at hs
      · rename_i hclk
        split at hs
        · rename_i e hf
          cases hs
          have hmem : e ∈ es ∧ (e.2.2 == stamp) = true := by
            have : e ∈ es.filter fun e => e.2.2 == stamp := by rw [hf]; simp
            exact List.mem_filter.1 this
          obtain ⟨j, hj⟩ := List.getElem?_of_mem hmem.1
          have hlt : j < E'.length := by rw [← hl]; exact (List.getElem?_eq_some_iff.1 hj).1
          have hv := hpt j e _ hj (List.getElem?_eq_getElem hlt)
          -- one entry alone has that stamp
          have hlen : (E.toList.filter fun e => e.born == stamp).length = 1 := by
            rw [← (hperm.filter _).length_eq]
            have e1 : (es.filter fun e => e.2.2 == stamp).length = 1 := by rw [hf]; rfl
            rw [← e1, ← List.countP_eq_length_filter, ← List.countP_eq_length_filter]
            have hmap : E'.map (·.born) = es.map (·.2.2) := by
              apply List.ext_getElem?
              intro q
              rw [List.getElem?_map, List.getElem?_map]
              cases hq : es[q]? with
              | none =>
                have : E'[q]? = none := by
                  rw [List.getElem?_eq_none_iff] at hq ⊢
                  omega
                rw [this]; rfl
              | some x =>
                have hq2 : q < E'.length := by rw [← hl]; exact (List.getElem?_eq_some_iff.1 hq).1
                rw [List.getElem?_eq_getElem hq2]
                simp only [Option.map_some]
                rw [(hpt q x _ hq (List.getElem?_eq_getElem hq2)).2.2]
            have c1 : E'.countP (fun e => e.born == stamp) = (E'.map (·.born)).countP (· == stamp) := by rw [List.countP_map]; rfl
            have c2 : es.countP (fun e => e.2.2 == stamp) = (es.map (·.2.2)).countP (· == stamp) := by rw [List.countP_map]; rfl
            rw [c1, c2, hmap]
          obtain ⟨y, hy⟩ : ∃ y, E.toList.filter (fun e => e.born == stamp) = [y] := List.length_eq_one_iff.1 hlen
          have hye : y = E'[j] := by
            have : E'[j] ∈ E.toList.filter fun e => e.born == stamp := List.mem_filter.2 ⟨hperm.mem_iff.1 (List.getElem_mem hlt), by rw [← hv.2.2]; exact hmem.2⟩
            rw [hy] at this
            exact (List.mem_singleton.1 this).symm
          have hfind : E.find? (fun e => e.born == stamp) = some E'[j] := by
            rw [← Array.find?_toList, find_only hy, hye]
          refine ⟨.tuple #[E'[j].key, E'[j].val], ?_, VR_pair hv.1 hv.2.1⟩
          have hback : seen.toArray.back? = some stamp := by rw [List.back?_toArray]; exact hst
          have hne : (clk != last) = false := by simp [hclk]
          simp only [Instr.entry, h0, Nat.add_zero, Sem.run_bind, hget, Result.andThen_ok, hback, hgetm, hne, Bool.false_eq_true, if_false, hfind, Sem.run_pure]
        · cases hs
      · cases hs
    · cases hs
  · cases hs

noncomputable def entryK {β : Type} (h : H) (i : Nat) (f : AV → AV → Option β) : Option β := match evEntry h i with | some (a, b) => f a b | none => none

/-! ### functions whose runs may end in unlike ways -/

structure EntryR (P : Program) where
  id : FuncId
  run : List AV → H → (AV → H → Option Unit) → Option Unit
  there : ∃ fn, P.funcs[id]? = some fn ∧ fn.body.isNone = false ∧ (fn.name == "runtime.NumGoroutine") = false
  ends : ∀ args h k, run args h k = some () → ∃ v h', k v h' = some () ∧ h.next ≤ h'.next ∧ (h.WF → h'.WF)
  sim : ∀ args h k (r : Ren) (w : World) (args' : Array Value), run args h k = some () → Rel r h w → (∀ i, h.next ≤ i → r i = none) → VRL r args args'.toList →
    Calls P id args' w fun e w' => ∃ r' v v' h', e = .returned v' ∧ VR r' v v' ∧ Post r h w r' h' w' ∧ k v h' = some ()
  fits : List AV → Bool := fun _ => true

/-- what calls of functions whose runs may end in unlike ways come to -/
structure CR where
  isR : FuncId → Bool
  run : FuncId → List AV → H → (AV → H → Option Unit) → Option Unit

structure CR.Sound (P : Program) (cr : CR) : Prop where
  there : ∀ f, cr.isR f = true → ∃ fn, P.funcs[f]? = some fn ∧ fn.body.isNone = false ∧ (fn.name == "runtime.NumGoroutine") = false
  ends : ∀ f args h k, cr.isR f = true → cr.run f args h k = some () → ∃ v h', k v h' = some () ∧ h.next ≤ h'.next ∧ (h.WF → h'.WF)
  sim : ∀ f args h k (r : Ren) (w : World) (args' : Array Value), cr.isR f = true → cr.run f args h k = some () → Rel r h w → (∀ i, h.next ≤ i → r i = none) → VRL r args args'.toList →
    Calls P f args' w fun e w' => ∃ r' v v' h', e = .returned v' ∧ VR r' v v' ∧ Post r h w r' h' w' ∧ k v h' = some ()

noncomputable def evOperR (P : Program) (ck : CK) (cr : CR) (ρ : Operand → AV) (op : Op) (h : H) (k : AV → H → Option Unit) : Option Unit :=
  match op with
  | .next it false => asPtr (ρ it) fun p => nnK p fun i off => (match off with | 0 => nextMK h i (fun a b h' => k (.tup [.bool true, a, b]) h') (k (.tup [.bool false]) h) | _ => none)
  | .entry it => asPtr (ρ it) fun p => nnK p fun i off => (match off with | 0 => entryK h i fun a b => k (.tup [a, b]) h | _ => none)
  | .range t x => (match mapD P t with | true => asMap (ρ x) fun m => rangeMK m h fun i h' => k (.ptr (some (i, 0))) h' | false => evOperK P ck ρ (.range t x) h k)
  | .call c =>
    (match c.callee with
     | .value x =>
       (match ρ x with
        | .func f first caps =>
          (match cr.isR f with
           | true => cr.run f (first ++ c.args.toList.map ρ ++ caps) h k
           | false => ck.run f (first ++ c.args.toList.map ρ ++ caps) h k)
        | _ => none)
     | _ => evOperK P ck ρ (.call c) h k)
  | op => evOperK P ck ρ op h k

noncomputable def evStepR (P : Program) (ck : CK) (cr : CR) (ops : Array Oper) (N : Nat) (A : KF) (o : Oper) (h : H) (k : KF → AV → H → Option Unit) : Option Unit :=
  match o.guard with
  | none => evOperR P ck cr (kopd N A) o.op h fun v h' => stepK P o.op o.type v fun v => k A v h'
  | some (j, want) =>
    match (ops[j]?).bind (·.dst) with
    | none => k A (.tup []) h
    | some t =>
      match kopd N A (.tmp t) with
      | .tup [] => k A (.tup []) h
      | v => asBool v fun b => cond b
          (match want with | true => evOperR P ck cr (kopd N (kput N A (some t) (.bool true))) o.op h fun v h' => stepK P o.op o.type v fun v => k (kput N A (some t) (.bool true)) v h' | false => k (kput N A (some t) (.bool true)) (.tup []) h)
          (match want with | true => k (kput N A (some t) (.bool false)) (.tup []) h | false => evOperR P ck cr (kopd N (kput N A (some t) (.bool false))) o.op h fun v h' => stepK P o.op o.type v fun v => k (kput N A (some t) (.bool false)) v h')

noncomputable def evOpsR (P : Program) (ck : CK) (cr : CR) (ops : Array Oper) (N : Nat) : List Oper → KF → H → (KF → H → Option Unit) → Option Unit
  | [], A, h, k => k A h
  | o :: l, A, h, k => evStepR P ck cr ops N A o h fun A' v h' => evOpsR P ck cr ops N l (kput N A' o.dst v) h' k

noncomputable def regR (P : Program) (ck : CK) (cr : CR) (N : Nat) (ops : Array Oper) : KC Unit := fun A h kn _ _ => evOpsR P ck cr ops N ops.toList A h kn

section
variable {P : Program} {ck : CK} {cr : CR} {ops : Array Oper} {N : Nat} {o : Oper}

theorem stepR_cases {A : KF} {h : H} {k : KF → AV → H → Option Unit} (e : evStepR P ck cr ops N A o h k = some ()) :
    ∃ A' b, kopd N A' = kopd N A ∧ evWanted ops (kopd N A) o = some b ∧ (if b = true then evOperR P ck cr (kopd N A) o.op h (fun v h' => stepK P o.op o.type v fun v => k A' v h') = some () else k A' (.tup []) h = some ()) := by
  unfold evStepR at e
  split at e
  · rename_i hg
    exact ⟨A, true, rfl, by simp [evWanted, hg], e⟩
  · rename_i j want hg
    split at e
    · rename_i hd
      exact ⟨A, false, rfl, by simp only [evWanted, hg, hd], e⟩
    · rename_i t hd
      split at e
      · rename_i hv
        exact ⟨A, false, rfl, by simp only [evWanted, hg, hd, hv], e⟩
      · obtain ⟨b, hb, e'⟩ := asBool_some e
        clear e; have e := e'; clear e'
        have hsame := kopd_put_same hb (by intro e; cases e)
        cases b <;> cases want <;> simp only [cond_true, cond_false] at e
        · rw [hsame] at e
          exact ⟨_, true, hsame, by simp [evWanted, hg, hd, hb], e⟩
        · exact ⟨_, false, hsame, by simp only [evWanted, hg, hd, hb]; rfl, e⟩
        · exact ⟨_, false, hsame, by simp only [evWanted, hg, hd, hb]; rfl, e⟩
        · rw [hsame] at e
          exact ⟨_, true, hsame, by simp [evWanted, hg, hd, hb], e⟩

theorem operK_ends (hck : ck.call.Sound P) {ρ : Operand → AV} {op : Op} {h : H} {k : AV → H → Option Unit} (e : evOperK P ck ρ op h k = some ()) : ∃ v h', k v h' = some () ∧ h.next ≤ h'.next ∧ (h.WF → h'.WF) := by
  obtain ⟨v, h', h1, h2⟩ := evOperK_some e
  exact ⟨v, h', h2, evOper_grows hck h1⟩

theorem operR_ends (hck : ck.call.Sound P) (hcr : cr.Sound P) {ρ : Operand → AV} {op : Op} {h : H} {k : AV → H → Option Unit} (e : evOperR P ck cr ρ op h k = some ()) : ∃ v h', k v h' = some () ∧ h.next ≤ h'.next ∧ (h.WF → h'.WF) := by
  unfold evOperR at e
  split at e
  · obtain ⟨p, hp, e⟩ := asPtr_some e
    cases p with
    | none => cases e
    | some q =>
      obtain ⟨i, off⟩ := q
      simp only [nnK] at e
      split at e
      · obtain ⟨ha, hn⟩ := nextMK_some e
        obtain ⟨c, hc⟩ := Nexts_ex ha
        have := hn c hc
        match c, hc, this with
        | none, _, h2 => exact ⟨_, _, h2, Nat.le_refl _, id⟩
        | some (a, b, h'), hc, h2 => exact ⟨_, _, h2, Nexts_grows hc⟩
      · cases e
  · obtain ⟨p, hp, e⟩ := asPtr_some e
    cases p with
    | none => cases e
    | some q =>
      obtain ⟨i, off⟩ := q
      simp only [nnK] at e
      split at e
      · unfold entryK at e
        split at e
        · exact ⟨_, _, e, Nat.le_refl _, id⟩
        · cases e
      · cases e
  · split at e
    · obtain ⟨m, hm, e⟩ := asMap_some e
      unfold rangeMK at e
      split at e
      · exact ⟨_, _, e, Nat.le_succ _, WF_new⟩
      · cases e
    · exact operK_ends hck e
  · rename_i c
    split at e
    · rename_i x hx
      split at e
      · rename_i f first caps hfx
        split at e
        · rename_i hf
          exact hcr.ends _ _ _ _ hf e
        · exact operK_ends (ρ := ρ) (op := .call c) hck (by simp only [evOperK, hx, hfx]; exact e)
      · cases e
    · exact operK_ends hck e
  · exact operK_ends hck e

theorem stepR_ends (hck : ck.call.Sound P) (hcr : cr.Sound P) {A : KF} {h : H} {k : KF → AV → H → Option Unit} (e : evStepR P ck cr ops N A o h k = some ()) : ∃ A' v h', k A' v h' = some () ∧ h.next ≤ h'.next ∧ (h.WF → h'.WF) := by
  obtain ⟨A', b, _, _, e⟩ := stepR_cases e
  split at e
  · obtain ⟨v, h', h1, h2⟩ := operR_ends hck hcr e
    exact ⟨A', v, h', stepK_some h1, h2⟩
  · exact ⟨A', _, h, e, Nat.le_refl _, id⟩

theorem FRk.same {r : Ren} {A A' : KF} {a : Act} (h : FRk r A a) (hsz : a.tmps.size = N) (hs : kopd N A' = kopd N A) : FRk r A' a := by
  intro t ht
  have := congrFun hs (.tmp t)
  simp only [kopd, blt_of (show t < N by omega)] at this
  rw [this]; exact h t ht
theorem FRk.mono {r r' : Ren} (hr : r.le r') {A : KF} {a : Act} (h : FRk r A a) : FRk r' A a := fun t ht => (h t ht).mono hr
theorem size_put (a : Act) (d : Option Tmp) (v : Value) : (a.put d v).tmps.size = a.tmps.size := by cases d <;> simp [Act.put]
theorem FRk.put {r : Ren} {A : KF} {a : Act} (h : FRk r A a) (hsz : a.tmps.size = N) (d : Option Tmp) {x : AV} {v : Value} (hv : VR r x v) : FRk r (kput N A d x) (a.put d v) := by
  intro t ht
  rw [size_put] at ht
  cases d with
  | none => exact h t ht
  | some d =>
    by_cases hd : d < N
    · rw [look_put hd]
      by_cases e : d = t
      · subst e
        rw [if_pos rfl]
        simp only [Act.eval, Act.put]
        rw [Array.getD_eq_getD_getElem?, Array.getElem?_setIfInBounds_self, if_pos ht]
        exact hv
      · rw [if_neg e]
        have := h t ht
        simp only [Act.eval, Act.put] at this ⊢
        rw [Array.getD_eq_getD_getElem?, Array.getElem?_setIfInBounds_ne e, ← Array.getD_eq_getD_getElem?]
        exact this
    · have hb : Nat.blt d N = false := by rw [← Bool.not_eq_true]; intro h; exact hd (of_blt h)
      simp only [kput, hb]
      have := h t ht
      have hne : d ≠ t := fun e => hd (by rw [e, ← hsz]; exact ht)
      simp only [Act.eval, Act.put] at this ⊢
      rw [Array.getD_eq_getD_getElem?, Array.getElem?_setIfInBounds_ne hne, ← Array.getD_eq_getD_getElem?]
      exact this

theorem free_all {r r' : Ren} {h h' : H} {w w' : World} (p : Post r h w r' h' w') (hfree : ∀ i, h.next ≤ i → r i = none) : ∀ i, h'.next ≤ i → r' i = none := by
  intro i hi
  cases hr : r' i with
  | none => rfl
  | some t =>
    have := p.dom i t hr (hfree i (Nat.le_trans p.next hi))
    omega

theorem operK_wp (hck : ck.call.Sound P) {ρ : Operand → AV} {h : H} {k : AV → H → Option Unit} (e : evOperK P ck ρ o.op h k = some ()) {r : Ren} {a : Act} {w : World} (hρ : ∀ x, VR r (ρ x) (a.eval x)) (hrel : Rel r h w) (hfree : ∀ i, h.next ≤ i → r i = none)
    (Q : Exit → Act → World → Prop) (K : Act → World → Prop) (hK : ∀ r' v v' h' w', VR r' v v' → Post r h w r' h' w' → k v h' = some () → K (a.put o.dst v') w') : o.wp P a w K Q := by
  obtain ⟨v, h', h1, h2⟩ := evOperK_some e
  exact oper_leads hck hρ hrel (fun i a _ => hfree i a) h1 Q K fun v' w' ⟨r', hv, hp⟩ => hK r' v v' h' w' hv hp h2

theorem operR_wp (hck : ck.call.Sound P) (hcr : cr.Sound P) {ρ : Operand → AV} {h : H} {k : AV → H → Option Unit} (e : evOperR P ck cr ρ o.op h k = some ()) {r : Ren} {a : Act} {w : World} (hρ : ∀ x, VR r (ρ x) (a.eval x)) (hrel : Rel r h w) (hfree : ∀ i, h.next ≤ i → r i = none)
    (Q : Exit → Act → World → Prop) (K : Act → World → Prop) (hK : ∀ r' v v' h' w', VR r' v v' → Post r h w r' h' w' → k v h' = some () → K (a.put o.dst v') w') : o.wp P a w K Q := by
  unfold evOperR at e
  split at e
  · rename_i it hop
    obtain ⟨p, hp, e⟩ := asPtr_some e
    cases p with
    | none => cases e
    | some q =>
      obtain ⟨i, off⟩ := q
      simp only [nnK] at e
      split at e
      · obtain ⟨ha, hn⟩ := nextMK_some e
        have hx := hρ it
        rw [hp] at hx
        obtain ⟨c, v', w', hc, hrun, hres⟩ := Nexts_sim (P := P) (ty := o.type) hrel ha hx
        have hr : (execOp a.eval o).run P w = .ok (.value v') w' := by simp [execOp, hop, hrun]
        have hk := hn c hc
        match c, hc, hres, hk with
        | none, _, hres, hk => exact Leads.of_run (Φ := fun v'' w'' => v'' = v' ∧ w'' = w') hr (.inl rfl) ⟨rfl, rfl⟩ Q K fun v'' w'' ⟨e1, e2⟩ => by subst e1; subst e2; exact hK r _ _ h _ hres.1 hres.2 hk
        | some (x, y, h'), _, hres, hk => exact Leads.of_run (Φ := fun v'' w'' => v'' = v' ∧ w'' = w') hr (.inl rfl) ⟨rfl, rfl⟩ Q K fun v'' w'' ⟨e1, e2⟩ => by subst e1; subst e2; exact hK r _ _ h' _ hres.1 hres.2 hk
      · cases e
  · rename_i it hop
    obtain ⟨p, hp, e⟩ := asPtr_some e
    cases p with
    | none => cases e
    | some q =>
      obtain ⟨i, off⟩ := q
      simp only [nnK] at e
      split at e
      · unfold entryK at e
        split at e
        · rename_i x y hxy
          have hx := hρ it
          rw [hp] at hx
          obtain ⟨v', hrun, hv⟩ := evEntry_sim (P := P) hrel hxy hx
          have hr : (execOp a.eval o).run P w = .ok (.value v') w := by simp [execOp, hop, hrun]
          exact Leads.of_run (Φ := fun v'' w'' => v'' = v' ∧ w'' = w) hr (.inl rfl) ⟨rfl, rfl⟩ Q K fun v'' w'' ⟨e1, e3⟩ => by subst e1; subst e3; exact hK r _ _ h _ hv (Post.refl hrel) e
        · cases e
      · cases e
  · rename_i t x hop
    split at e
    · rename_i hd
      obtain ⟨m, hm, e⟩ := asMap_some e
      unfold rangeMK at e
      split at e
      · rename_i ob hob
        have hx := hρ x
        rw [hm] at hx
        obtain ⟨kt, el, hu⟩ : ∃ kt el, P.underlying t = some (.map kt el) := by
          unfold mapD at hd
          split at hd
          · rename_i kt el hu; exact ⟨kt, el, hu⟩
          · cases hd
        obtain ⟨w', r', hrun, hv, hp⟩ := evRangeM_sim (P := P) hrel (hfree _ (Nat.le_refl _)) hu hob hx
        have hr : (execOp a.eval o).run P w = .ok (.value (.pointer (some ⟨w.heap.size, 0, none⟩))) w' := by simp [execOp, hop, hrun]
        exact Leads.of_run (Φ := fun v'' w'' => v'' = .pointer (some ⟨w.heap.size, 0, none⟩) ∧ w'' = w') hr (.inl rfl) ⟨rfl, rfl⟩ Q K fun v'' w'' ⟨e1, e2⟩ => by subst e1; subst e2; exact hK r' _ _ _ _ hv hp e
      · cases e
    · rw [← hop] at e; exact operK_wp hck e hρ hrel hfree Q K hK
  · rename_i c hop
    split at e
    · rename_i x hx
      split at e
      · rename_i f first caps hfx
        split at e
        · rename_i hfind
          have hxv := hρ x
          rw [hfx] at hxv
          generalize hq : a.eval x = q at hxv
          cases hxv with
          | func _ _ _ first' caps' h1 h2 h3 h4 =>
          have hargs : VRL r (first ++ c.args.toList.map ρ ++ caps) (first' ++ c.args.map a.eval ++ caps').toList := by
            rw [Array.toList_append, Array.toList_append]
            have e1 : VRL r first first'.toList := ⟨by simpa using h1, fun i x v hx hv => h3 i x v hx (by simpa using hv)⟩
            have e2 : VRL r caps caps'.toList := ⟨by simpa using h2, fun i x v hx hv => h4 i x v hx (by simpa using hv)⟩
            exact (e1.append (VRL_ops hρ c.args)).append e2
          obtain ⟨fn, hfn, hbody, hname⟩ := hcr.there _ hfind
          have hsim := hcr.sim _ _ _ _ r w _ hfind e hrel hfree hargs
          unfold Oper.wp
          have hr : (execOp a.eval o).run P w = .ok (.enter f (first' ++ c.args.map a.eval ++ caps')) w := by
            have hn1 : ¬ fn.name = "runtime.NumGoroutine" := by simpa using hname
            have hb1 : ¬ fn.body = none := fun e => by rw [e] at hbody; cases hbody
            simp [execOp, hop, resolve, hx, hq, Deferred.ofValue, invoke, callFunc, hfn, hb1, hn1]
          rw [hr, Oper.upon_enter]
          refine hsim.mono fun e w' he => ?_
          obtain ⟨r', v, v', h', rfl, hv', hp, hk⟩ := he
          exact hK r' v v' h' w' hv' hp hk
        · have e' : evOperK P ck ρ (.call c) h k = some () := by simp only [evOperK, hx, hfx]; exact e
          rw [← hop] at e'; exact operK_wp hck e' hρ hrel hfree Q K hK
      · cases e
    · rw [← hop] at e; exact operK_wp hck e hρ hrel hfree Q K hK
  · exact operK_wp hck e hρ hrel hfree Q K hK

theorem stepR_wp (hck : ck.call.Sound P) (hcr : cr.Sound P) {A : KF} {h : H} {k : KF → AV → H → Option Unit} (e : evStepR P ck cr ops N A o h k = some ()) {r : Ren} {a : Act} {w : World} (hfr : FRk r A a) (hsz : a.tmps.size = N) (hrel : Rel r h w) (hfree : ∀ i, h.next ≤ i → r i = none)
    (Q : Exit → Act → World → Prop) (K : Act → World → Prop) (hK : ∀ r' v v' A' h' w', VR r' v v' → FRk r A' a → Post r h w r' h' w' → k A' v h' = some () → K (a.put o.dst v') w') :
    if Region.wanted o (yielded ops a.tmps) then o.wp P a w K Q ∨ (o.asks P a w ∧ LetsOut Q) else K (a.put o.dst undef) w := by
  have hρ : ∀ x, VR r (kopd N A x) (a.eval x) := fun x => eval_slot hfr hsz hrel.glob x
  obtain ⟨A', b, hs, hb, e⟩ := stepR_cases e
  have hw := wanted_sim hb (fun t _ => hρ _)
  rw [hw]
  cases b with
  | false =>
    simp only [Bool.false_eq_true, if_false] at e ⊢
    exact hK r _ undef A' h w (VR_tup (vs := []) .nil) (hfr.same hsz hs) (Post.refl hrel) e
  | true =>
    simp only [if_true] at e ⊢
    exact .inl (operR_wp hck hcr e hρ hrel hfree Q K fun r' v v' h' w' h1 h2 h3 => hK r' v v' A' h' w' h1 (hfr.same hsz hs) h2 (stepK_some h3))

theorem opsR_ends (hck : ck.call.Sound P) (hcr : cr.Sound P) {k : KF → H → Option Unit} : ∀ (l : List Oper) (A : KF) (h : H), evOpsR P ck cr ops N l A h k = some () → ∃ A' h', k A' h' = some () ∧ h.next ≤ h'.next ∧ (h.WF → h'.WF)
  | [], A, h, e => ⟨A, h, e, Nat.le_refl _, id⟩
  | o :: l, A, h, e => by
    obtain ⟨A1, v, h1, e1, g1, w1⟩ := stepR_ends hck hcr e
    obtain ⟨A2, h2, e2, g2, w2⟩ := opsR_ends hck hcr l _ _ e1
    exact ⟨A2, h2, e2, Nat.le_trans g1 g2, fun hw => w2 (w1 hw)⟩

theorem opsR_wp (hck : ck.call.Sound P) (hcr : cr.Sound P) {k : KF → H → Option Unit} {Q : Exit → Act → World → Prop} : ∀ (l : List Oper) (A : KF) (h : H) (r : Ren) (a : Act) (w : World), evOpsR P ck cr ops N l A h k = some () → FRk r A a → a.tmps.size = N → Rel r h w → (∀ i, h.next ≤ i → r i = none) →
    (∀ r' a' w' A' h', FRk r' A' a' → a'.tmps.size = N → a'.defers = a.defers → Post r h w r' h' w' → k A' h' = some () → Q .normal a' w') → wpList P ops Q l a w
  | [], A, h, r, a, w, e, hfr, hsz, hrel, _, hQ => hQ r a w A h hfr hsz rfl (Post.refl hrel) e
  | o :: l, A, h, r, a, w, e, hfr, hsz, hrel, hfree, hQ => by
    unfold wpList
    refine stepR_wp hck hcr e hfr hsz hrel hfree Q (wpList P ops Q l) fun r' v v' A' h' w' hv hA hp hk => ?_
    refine opsR_wp hck hcr l _ h' r' (a.put o.dst v') w' hk ((hA.mono hp.le).put hsz o.dst hv) (by rw [size_put]; exact hsz) hp.rel (free_all hp hfree) fun r'' a'' w'' A'' h'' q1 q2 q3 q4 q5 => ?_
    exact hQ r'' a'' w'' A'' h'' q1 q2 (by rw [q3]; cases o.dst <;> rfl) (hp.trans q4) q5
end

theorem DenG.regionR {P : Program} {ck : CK} (hck : ck.call.Sound P) {cr : CR} (hcr : cr.Sound P) {N id : Nat} {ops : Array Oper} : DenG true P N (.region id ops false) (regR P ck cr N ops) where
  ends := fun A h kn ke kr x e => by
    cases x
    obtain ⟨A', h', h1, h2, h3⟩ := opsR_ends hck hcr _ _ _ e
    exact ⟨.normal, A', h', h1, h2, h3⟩
  sim := fun r a w A h kn ke kr x B e hfr hsz hrel hfree hB Q hQ => by
    cases x
    exact wp_region_list (opsR_wp hck hcr _ A h r a w e hfr hsz hrel (fun i hi => hfree i hi (B.all rfl i)) fun r' a' w' A' h' q1 q2 q3 q4 q5 => hQ r' a' w' A' h' .normal q1 q2 q3 q4 q5)

/-! ### functions -/

theorem resK_ex {P : Program} {N : Nat} {A' : KF} {h' : H} {x : Unit} : ∀ (xs : List ResultVar) (k' : List AV → Option Unit), resK P N A' h' xs k' = some x → ∃ vs, k' vs = some x
  | [], k', e => ⟨[], e⟩
  | .tmp t :: ys, k', e => by
    simp only [resK] at e
    obtain ⟨vs, hv⟩ := resK_ex ys _ e
    exact ⟨_, hv⟩
  | .cell ad t :: ys, k', e => by
    simp only [resK] at e
    obtain ⟨v, _, e⟩ := loadK_some e
    obtain ⟨vs, hv⟩ := resK_ex ys _ e
    exact ⟨_, hv⟩

/-- **What a function's body computes, each of the function's runs comes to.** -/
def EntryR.of {P : Program} {N : Nat} {c : Code} {X : KC Unit} (d : DenG true P N c X) {f : FuncId} {fn : Func} (hfn : P.funcs[f]? = some fn) (hbody : fn.body = some c) (hname : (fn.name == "runtime.NumGoroutine") = false) (hN : fn.ntmps = N)
    (run : List AV → H → (AV → H → Option Unit) → Option Unit) (hrun : ∀ args h k, run args h k = some () → args.length ≤ N ∧ ∃ dec : AV → H → Option Unit, (∀ v h, dec v h = some () → k v h = some ()) ∧ bodyK P N fn.results X args h dec = some ()) (fits : List AV → Bool := fun _ => true) : EntryR P where
  id := f
  run := run
  fits := fits
  there := ⟨fn, hfn, by rw [hbody]; rfl, hname⟩
  ends := fun args h k e => by
    obtain ⟨_, dec, hdec, e⟩ := hrun args h k e
    obtain ⟨e1, A1, h1, l1, g1, w1⟩ := d.ends _ h _ _ _ _ e
    cases e1 with
    | normal => obtain ⟨vs, hv⟩ := resK_ex _ _ l1; exact ⟨_, h1, hdec _ _ hv, g1, w1⟩
    | ret => obtain ⟨vs, hv⟩ := resK_ex _ _ l1; exact ⟨_, h1, hdec _ _ hv, g1, w1⟩
    | exit i => cases l1
  sim := fun args h k r w args' e hrel hfree hargs => by
    obtain ⟨hlen, dec, hdec, e⟩ := hrun args h k e
    refine calls_of_wp hfn hbody ?_
    have hl : args.length = args'.size := by simpa using hargs.1
    have hsz : (args' ++ Array.replicate (fn.ntmps - args'.size) undef).size = N := by simp [hN]; omega
    refine d.sim r _ w _ h _ _ _ () ⟨fun _ => True, fun _ _ => trivial⟩ e (fun t ht => ?_) hsz hrel (fun i hi _ => hfree i hi) (fun _ _ _ _ _ _ => trivial) _ fun r' a' w' A' h' e' g1 g2 g3 g4 g5 => ?_
    · rw [look_argsF]
      simp only [Nat.zero_le, true_and, Nat.zero_add, Nat.sub_zero]
      split
      · rename_i hlt
        have h1 : args[t]? = some args[t] := List.getElem?_eq_getElem hlt
        have h2 : args'.toList[t]? = some (args'.toList[t]'(by simpa [← hl] using hlt)) := List.getElem?_eq_getElem _
        have := hargs.2 t _ _ h1 h2
        rw [List.getD_eq_getElem?_getD, h1]
        simp only [Act.eval, Array.getD_eq_getD_getElem?]
        rw [Array.getElem?_append_left (by omega), ← Array.getElem?_toList, h2]
        exact this
      · exact .junk _
    · have fin : ∀ A' h', FRk r' A' a' → Post r h w r' h' w' → resK P N A' h' fn.results.toList (fun vs => dec (oneOf vs) h') = some () →
          a'.defers = [] ∧ ∃ v, (results fn a'.tmps).run P w' = .ok v w' ∧ ∃ r' u v' h', Ending.returned v = .returned v' ∧ VR r' u v' ∧ Post r h w r' h' w' ∧ k u h' = some () := by
        intro A' h' g1 g4 g5
        obtain ⟨vs, vs', q1, q2, q3⟩ := resK_some g1 g2 g4.rel g5
        refine ⟨g3, (if h : vs'.toArray.size = 1 then vs'.toArray[0] else .tuple vs'.toArray), ?_, r', _, _, h', rfl, VR_oneOf q2, g4, hdec _ _ q1⟩
        show Sem.run P (do let vs ← fn.results.mapM (resSem a'.tmps); pure (if h : vs.size = 1 then vs[0] else .tuple vs)) w' = _
        rw [Array.mapM_eq_mapM_toList]
        simp only [Sem.run_bind, Sem.run_map, q3, Result.andThen_ok, Sem.run_pure]
      cases e' with
      | normal => exact fin A' h' g1 g4 g5
      | ret => exact fin A' h' g1 g4 g5
      | exit i => cases g5

end Go.Ev

/- The abstract machine Ev, part W: a region whose order is drawn, and whose last operation waits for all others. -/
namespace Go.Ev
open Go.RowKit

section
variable {P : Program} {ops : Array Oper} {Q : Exit → Act → World → Prop} {n : Nat}

/-- the ways out of a region, its normal end but as told -/
def endBy (Q : Exit → Act → World → Prop) (R : Act → World → Prop) : Exit → Act → World → Prop
  | .normal, a, w => R a w
  | e, a, w => Q e a w

theorem wp_endBy {R : Act → World → Prop} {o : Oper} {a : Act} {w : World} {K : Act → World → Prop} : o.wp P a w K (endBy Q R) = o.wp P a w K Q := by
  unfold Oper.wp
  cases (execOp a.eval o).run P w with
  | ok v w' => cases v <;> rfl
  | halt h w' => cases h <;> rfl

theorem outs_endBy {R : Act → World → Prop} : LetsOut (endBy Q R) = LetsOut Q := rfl

theorem pop_get {i : Nat} (hn : ops.size = n + 1) (hi : i < n) : ops.pop[i]? = ops[i]? := by
  rw [Array.getElem?_pop, if_pos (by omega)]

/-- each operation waits for earlier ones alone, and asks after earlier ones alone -/
structure Tidy (ops : Array Oper) : Prop where
  after : ∀ (j : Nat) o, ops[j]? = some o → ∀ e ∈ o.after, Region.binds .any e = true → e.on < j
  guard : ∀ (j : Nat) o g b, ops[j]? = some o → o.guard = some (g, b) → g < j

def Shut (ops : Array Oper) (listed : Array Bool) : Prop := ∀ m o, ops[m]? = some o → listed.getD m false = true → ∀ e ∈ o.after, Region.binds .any e = true → listed.getD e.on false = true

theorem getD_both {l : Array Bool} {i : Nat} (h : i < l.size) : l.getD i true = l.getD i false := by simp [h]

theorem none_ready (ht : Tidy ops) {listed : Array Bool} (hs : listed.size = ops.size) (hr : Region.ready .any ops listed = []) : ∀ i, i < ops.size → listed.getD i true = true := by
  intro i
  induction i using Nat.strongRecOn with
  | _ i ih =>
    intro hi
    cases hl : listed.getD i true with
    | true => rfl
    | false =>
      have ho : ops[i]? = some ops[i] := Array.getElem?_eq_getElem hi
      have : i ∈ Region.ready .any ops listed := mem_ready.2 ⟨hl, _, ho, fun e he hb => by
        have h1 := ht.after _ _ ho e he hb
        have h2 := ih e.on h1 (by omega)
        rwa [getD_both (by omega)] at h2⟩
      rw [hr] at this; cases this

theorem all_ready {listed : Array Bool} (hs : listed.size = ops.size) (h : ∀ i, i < ops.size → listed.getD i true = true) : Region.ready .any ops listed = [] := by
  rw [List.eq_nil_iff_forall_not_mem]
  intro j hj
  obtain ⟨h1, o, h2, _⟩ := mem_ready.1 hj
  have := h j (Array.getElem?_eq_some_iff.1 h2).1
  rw [this] at h1; cases h1

theorem set_getD {l : Array Bool} {i j : Nat} (hi : i < l.size) : (l.setIfInBounds i true).getD j true = if j = i then true else l.getD j true := by
  by_cases h : j = i
  · subst h; simp [hi]
  · rw [if_neg h]
    simp only [Array.getD_eq_getD_getElem?]
    rw [Array.getElem?_setIfInBounds_ne (Ne.symm h)]

theorem wpAny_last (hn : ops.size = n + 1) (ht : Tidy ops) (hcov : ∀ listed : Array Bool, listed.size = n + 1 → Shut ops listed → n ∈ Region.ready .any ops listed → ∀ i, i < n → listed.getD i true = true) :
    ∀ (fuel : Nat) (listed listed' : Array Bool) (a : Act) (w : World), listed'.size = n → listed.size = n + 1 → (∀ i, i < n → listed.getD i true = listed'.getD i true) → listed.getD n true = false → Shut ops listed →
      wpAny P .any ops.pop (endBy Q fun a w => wpOp P ops Q n (fun a w => Q .normal a w) a w) fuel listed' a w → wpAny P .any ops Q (fuel + 1) listed a w := by
  have hps : ops.pop.size = n := by simp [hn]
  have ht' : Tidy ops.pop := ⟨fun j o ho => ht.after j o (by
      have hj := (Array.getElem?_eq_some_iff.1 ho).1
      rwa [pop_get hn (by omega)] at ho), fun j o g b ho => ht.guard j o g b (by
      have hj := (Array.getElem?_eq_some_iff.1 ho).1
      rwa [pop_get hn (by omega)] at ho)⟩
  -- when all others are done
  have fin : ∀ (fuel : Nat) (listed : Array Bool) (a : Act) (w : World), listed.size = n + 1 → (∀ i, i < n → listed.getD i true = true) → listed.getD n true = false → wpOp P ops Q n (fun a w => Q .normal a w) a w → wpAny P .any ops Q (fuel + 1) listed a w := by
    intro fuel listed a w hs hall hn0 hw
    refine ⟨fun hr => ?_, fun i hi => ?_⟩
    · have := none_ready ht (by omega) hr n (by omega)
      rw [this] at hn0; cases hn0
    · obtain ⟨h1, o, h2, _⟩ := mem_ready.1 hi
      have hi1 := (Array.getElem?_eq_some_iff.1 h2).1
      have hin : i = n := by
        refine Nat.le_antisymm (by omega) (Nat.le_of_not_lt fun hlt => ?_)
        rw [hall i hlt] at h1; cases h1
      subst hin
      refine wpOp_mono (fun a w hq => ?_) hw
      have hr : Region.ready .any ops (listed.setIfInBounds i true) = [] := all_ready (by simp; omega) fun j hj => by
        rw [set_getD (by omega)]
        split
        · rfl
        · exact hall j (by omega)
      cases fuel with
      | zero => exact ⟨hr, hq⟩
      | succ f => exact ⟨fun _ => hq, fun j hj => by rw [hr] at hj; cases hj⟩
  intro fuel
  induction fuel with
  | zero =>
    intro listed listed' a w hs' hs hsame hn0 hshut h
    obtain ⟨hr, hq⟩ := h
    have hall := none_ready ht' (by omega) hr
    exact fin 0 listed a w hs (fun i hi => by rw [hsame i hi]; exact hall i (by omega)) hn0 hq
  | succ fuel ih =>
    intro listed listed' a w hs' hs hsame hn0 hshut h
    obtain ⟨h1, h2⟩ := h
    refine ⟨fun hr => ?_, fun i hi => ?_⟩
    · have := none_ready ht (by omega) hr n (by omega)
      rw [this] at hn0; cases hn0
    · obtain ⟨g1, o, g2, g3⟩ := mem_ready.1 hi
      have hi1 := (Array.getElem?_eq_some_iff.1 g2).1
      by_cases hin : i = n
      · subst hin
        have hall := hcov listed hs hshut hi
        have hr : Region.ready .any ops.pop listed' = [] := all_ready (by omega) fun j hj => by rw [← hsame j (by omega)]; exact hall j (by omega)
        have := fin (fuel + 1) listed a w hs hall hn0 (h1 hr)
        exact this.2 i hi
      · have hlt : i < n := by omega
        have hmem : i ∈ Region.ready .any ops.pop listed' := mem_ready.2 ⟨by rw [← hsame i hlt]; exact g1, o, by rw [pop_get hn hlt]; exact g2, fun e he hb => by
          have e1 := ht.after i o g2 e he hb
          have e2 := g3 e he hb
          rw [← getD_both (by omega)] at e2 ⊢
          rw [← hsame e.on (by omega)]; exact e2⟩
        have hw := h2 i hmem
        have hmono := wpOp_mono (K' := wpAny P .any ops Q (fuel + 1) (listed.setIfInBounds i true)) (fun a w hk => ih (listed.setIfInBounds i true) (listed'.setIfInBounds i true) a w (by simp [hs']) (by simp [hs]) (fun j hj => by
            rw [set_getD (by omega), set_getD (by omega), hsame j hj]) (by rw [set_getD (by omega), if_neg (by omega)]; exact hn0) (by
              intro m om hom hm e he hb
              have hml := (Array.getElem?_eq_some_iff.1 hom).1
              have hem := ht.after m om hom e he hb
              rw [← getD_both (by simp; omega), set_getD (by omega)] at hm ⊢
              by_cases hei : e.on = i
              · rw [if_pos hei]
              · rw [if_neg hei]
                by_cases hmi : m = i
                · subst hmi
                  rw [hom] at g2
                  cases g2
                  have := g3 e he hb
                  rw [getD_both (by omega)]; exact this
                · rw [if_neg hmi] at hm
                  have := hshut m om hom (by rw [← getD_both (by omega)]; exact hm) e he hb
                  rw [getD_both (by omega)]; exact this) hk) hw
        -- the same operation, in the whole region
        unfold wpOp at hmono ⊢
        rw [pop_get hn hlt] at hmono
        rw [g2] at hmono ⊢
        simp only at hmono ⊢
        have hwant : Region.wanted o (yielded ops.pop a.tmps) = Region.wanted o (yielded ops a.tmps) := by
          unfold Region.wanted
          split
          · rfl
          · rename_i g b hg
            have := ht.guard i o g b g2 hg
            unfold yielded
            rw [pop_get hn (by omega)]
        rw [hwant] at hmono
        rw [wp_endBy, outs_endBy] at hmono
        exact hmono
end

theorem region_wpAny {P : Program} {call : CallFn} (hcall : call.Sound P) {ops : Array Oper} (hok : okRegion P ops = true) {s s' : AState} (h : evOpsQ P call ops ops.toList 0 s.1 s.2 noT [] = some s')
    {r : Ren} {a : Act} {w : World} (hfr : FR r s.1 a) (hrel : Rel r s.2 w) (hfree : ∀ i, s.2.next ≤ i → i < s'.2.next → r i = none) {Q : Exit → Act → World → Prop} (hQ : ∀ r' a' w', FR r' s'.1 a' → a'.defers = a.defers → Post r s.2 w r' s'.2 w' → Q .normal a' w') :
    wpAny P .any ops Q ops.size (Array.replicate ops.size false) a w := by
  obtain ⟨F, Hs, V, e1, e2, e3, e4, e5, e6, e7⟩ := run_of_evOpsQ h (fun j _ => by simp)
  have hsz : ops.toList.length = ops.size := by simp
  rw [hsz] at e3 e4 e5 e6 e7
  have hrun : Run (fun _ => False) P call ops ops.size F Hs V := ⟨fun k hk => by
      obtain ⟨o, g1, g2, g3⟩ := e5 k hk
      exact ⟨o, by simpa using g1, .inl g2, g3⟩, fun k hk hq j oj hj hoj hc hi b hb => (e6 k hk (by simpa using hq)).2 j oj hj (by simpa using hoj) hc (by simpa using hi) b hb, fun k hk _ hs => by
      obtain ⟨S, _, g1, g2⟩ := e7 k hk (by simpa using hs)
      exact ⟨S, fun m hm hq _ => g1 m hm (by simpa using hq), fun o ho => g2 o (by simpa using ho)⟩⟩
  have hw : Post r s.2 w r s.2 w := Post.refl hrel
  have hlen : (F 0).length = a.tmps.size := by rw [e1]; simpa using hfr.1
  refine region_any hcall hok hrun (r0 := r) (w0 := w) (ds := a.defers) (by rw [e2]; exact hrel.wf) (by rw [e2, e4]; exact hfree) (fun r' a' w' h1 h2 h3 => ?_) ops.size _ r a w (by simp) (fun _ _ h => h.elim) ?_ ?_ ?_
  · rw [e2, e4] at h3
    rw [e3] at h1
    exact hQ r' a' w' h1 h2 (hw.trans h3)
  · intro m o ho hm' e he hb
    rw [getD_rep] at hm'; cases hm'
  · have := List.length_filter_le (fun i => !(Array.replicate ops.size false).getD i true) (List.range ops.size)
    simpa using this
  · intro D hD
    have hno : ∀ m, ¬ D m := fun m h => by have := (hD m).1 h; rw [getD_rep] at this; cases this
    have hcont : ∀ i, contD ops.size Hs D i = (Hs 0).get i := fun i => contD_agree (Nat.zero_le _) fun m _ _ => ⟨fun h => absurd h (hno m), fun h => by omega⟩
    refine ⟨Ren.le_refl _, (fun i t h1 h2 => by rw [h1] at h2; cases h2), hlen.symm, fun t ht => ?_, fun i t o h1 h2 => ?_, fun i k ti tk oi ok h1 h2 h3 h4 => ?_, hw.rel.bound, fun _ _ _ => rfl, Nat.le_refl _, .refl _, (fun i t h1 h2 => by rw [h1] at h2; cases h2), fun m _ h => absurd h (hno m), fun m _ h => absurd h (hno m), rfl, hrel.glob⟩
    · rw [slotD_agree hrun ht (Nat.zero_le _) fun m _ _ => ⟨fun h => absurd h (hno m), fun h => by omega⟩, e1]
      exact opd_VR hfr hrel.glob (.tmp t)
    · rw [hcont, e2] at h2
      exact hw.rel.obj i t o h1 h2
    · rw [hcont, e2] at h3 h4
      exact hw.rel.inj i k ti tk oi ok h1 h2 h3 h4

theorem masks_listed {ops : Array Oper} (hM : okM ops (masks ops) = true) {listed : Array Bool} (hs : listed.size = ops.size) (hshut : Shut ops listed) :
    ∀ (j : Nat) o, ops[j]? = some o → (∀ e ∈ o.after, Region.binds .any e = true → listed.getD e.on false = true) → ∀ i, i < j → (masks ops j).testBit i = true → listed.getD i true = true := by
  intro j
  induction j using Nat.strongRecOn with
  | _ j ih =>
    intro o ho hl i hi hb
    have hj := (Array.getElem?_eq_some_iff.1 ho).1
    obtain ⟨h1, h2⟩ := okM_spec hM ho
    obtain ⟨e, he, hbe, hcase⟩ := h2 i hi hb
    have hel := hl e he hbe
    have hej := h1 e he hbe
    rcases hcase with rfl | ⟨hlt, hbit⟩
    · rw [getD_both (by omega)]; exact hel
    · exact ih e.on hej _ (Array.getElem?_eq_getElem (by omega)) (hshut e.on _ (Array.getElem?_eq_getElem (by omega)) hel) i hlt hbit

/-! ### a drawn region from whose n-th operation on each waits for all others ahead of it -/

def pre (ops : Array Oper) (m : Nat) : Array Oper := (ops.toList.take m).toArray
theorem pre_size {ops : Array Oper} {m : Nat} (h : m ≤ ops.size) : (pre ops m).size = m := by simp [pre]; omega
theorem pre_get {ops : Array Oper} {m i : Nat} (h : i < m) : (pre ops m)[i]? = ops[i]? := by
  simp only [pre, List.getElem?_toArray, List.getElem?_take, if_pos h, Array.getElem?_toList]
theorem pre_lt {ops : Array Oper} {m i : Nat} {o : Oper} (h : (pre ops m)[i]? = some o) : i < m ∧ ops[i]? = some o := by
  simp only [pre, List.getElem?_toArray, List.getElem?_take] at h
  split at h
  · rename_i hi; exact ⟨hi, by simpa using h⟩
  · cases h
theorem pre_pop {ops : Array Oper} {m : Nat} (h : m + 1 ≤ ops.size) : (pre ops (m + 1)).pop = pre ops m := by
  apply Array.ext_getElem?
  intro i
  rw [Array.getElem?_pop, pre_size h]
  split
  · rename_i hi; rw [pre_get (by omega), pre_get (by omega)]
  · rename_i hi
    rw [Array.getElem?_eq_none (by rw [pre_size (by omega)]; omega)]
theorem pre_all (ops : Array Oper) : pre ops ops.size = ops := by
  apply Array.ext'
  show (List.take ops.size ops.toList) = ops.toList
  rw [← Array.length_toList, List.take_length]

/-- the last one waits for all others -/
def okCover (ops : Array Oper) (n : Nat) : Bool := okM ops (masks ops) && ((List.range n).all fun i => (masks ops n).testBit i)
def okGuards (ops : Array Oper) : Bool := (List.range ops.size).all fun j => match ops[j]? with | some o => (match o.guard with | some (g, _) => decide (g < j) | none => true) | none => true
def okTail (P : Program) (ops : Array Oper) (n : Nat) : Bool :=
  decide (n ≤ ops.size) && okRegion P (pre ops n) && okM ops (masks ops) && okGuards ops && ((List.range (ops.size - n)).all fun k => okCover (pre ops (n + k + 1)) (n + k))

theorem endBy_endBy {Q : Exit → Act → World → Prop} {R R' : Act → World → Prop} : endBy (endBy Q R) R' = endBy Q R' := by
  funext e a w
  cases e <;> rfl

theorem wpAny_tail {P : Program} {ops : Array Oper} {Q : Exit → Act → World → Prop} {n : Nat} (ht : Tidy ops) (hM : ∀ m, n ≤ m → m < ops.size → okCover (pre ops (m + 1)) m = true) {a : Act} {w : World}
    (h : wpAny P .any (pre ops n) (endBy Q fun a w => wpList P ops Q (ops.toList.drop n) a w) n (Array.replicate n false) a w) :
    ∀ k, n + k ≤ ops.size → wpAny P .any (pre ops (n + k)) (endBy Q fun a w => wpList P ops Q (ops.toList.drop (n + k)) a w) (n + k) (Array.replicate (n + k) false) a w
  | 0, _ => h
  | k + 1, hk => by
    have ih := wpAny_tail ht hM h k (by omega)
    have hps := pre_size (ops := ops) (m := n + k + 1) (by omega)
    have hcov := hM (n + k) (by omega) (by omega)
    simp only [okCover, Bool.and_eq_true] at hcov
    have ho : ops[n + k]? = some (ops[n + k]'(by omega)) := Array.getElem?_eq_getElem (by omega)
    generalize ops[n + k]'(by omega) = o at ho
    have hdrop : ops.toList.drop (n + k) = o :: ops.toList.drop (n + k + 1) := by
      rw [List.drop_eq_getElem_cons (by simp; omega)]
      congr 1
      rw [Array.getElem?_eq_getElem (by omega)] at ho
      simpa using ho
    have ht' : Tidy (pre ops (n + k + 1)) := ⟨fun j q hq => ht.after j q (pre_lt hq).2, fun j q g b hq => ht.guard j q g b (pre_lt hq).2⟩
    refine wpAny_last (ops := pre ops (n + k + 1)) (n := n + k) (Q := endBy Q fun a w => wpList P ops Q (ops.toList.drop (n + (k + 1))) a w) hps ht' (fun listed hs hshut hr i hi => ?_) (n + k) (Array.replicate (n + k + 1) false) (Array.replicate (n + k) false) a w (by simp) (by simp) (fun i hi => ?_) (by simp) (fun m om hom hm' e he hb => by rw [getD_rep] at hm'; cases hm') ?_
    · obtain ⟨_, q, hq, hl⟩ := mem_ready.1 hr
      rw [pre_get (by omega), ho] at hq
      cases hq
      exact masks_listed hcov.1 (by omega) hshut (n + k) o ((pre_get (by omega)).trans ho) hl i hi (List.all_eq_true.1 hcov.2 i (List.mem_range.2 hi))
    · have e1 : i < n + k + 1 := by omega
      simp [hi, e1]
    · rw [pre_pop (by omega), endBy_endBy]
      have he : (fun a w => wpList P ops Q (ops.toList.drop (n + k)) a w) = fun a w => wpOp P (pre ops (n + k + 1)) (endBy Q fun a w => wpList P ops Q (ops.toList.drop (n + (k + 1))) a w) (n + k) (fun a w => (endBy Q fun a w => wpList P ops Q (ops.toList.drop (n + (k + 1))) a w) .normal a w) a w := by
        funext a w
        rw [hdrop]
        unfold wpOp
        rw [pre_get (by omega), ho]
        simp only
        rw [wp_endBy, outs_endBy]
        have hwant : Region.wanted o (yielded (pre ops (n + k + 1)) a.tmps) = Region.wanted o (yielded ops a.tmps) := by
          unfold Region.wanted
          split
          · rfl
          · rename_i g b hg
            have := ht.guard (n + k) o g b ho hg
            unfold yielded
            rw [pre_get (by omega)]
        rw [hwant]
        rfl
      rw [he] at ih
      exact ih

noncomputable def regT (P : Program) (ck : CK) (cr : CR) (N : Nat) (ops : Array Oper) (n : Nat) : KC Unit := fun A h kn _ _ =>
  evOpsK P ck (pre ops n) N true (pre ops n).toList 0 A h noT [] fun A' h' => evOpsR P ck cr ops N (ops.toList.drop n) A' h' kn

theorem DenG.regionT {P : Program} (hm : P.follows .mixedOrders = true) {ck : CK} (hck : ck.call.Sound P) {cr : CR} (hcr : cr.Sound P) {N id n : Nat} {ops : Array Oper} (hok : okTail P ops n = true) : DenG true P N (.region id ops true) (regT P ck cr N ops n) := by
  simp only [okTail, Bool.and_eq_true, decide_eq_true_eq] at hok
  obtain ⟨⟨⟨⟨hn, hpre⟩, hM⟩, hgd⟩, hcov⟩ := hok
  have key : ∀ A h (kn : KF → H → Option Unit) kr ke, regT P ck cr N ops n A h kn ke kr = some () → ∃ fr' A' h', evOpsQ P ck.call (pre ops n) (pre ops n).toList 0 ((List.range N).map (look A)) h noT [] = some (fr', h') ∧ AF N A' fr' ∧ evOpsR P ck cr ops N (ops.toList.drop n) A' h' kn = some () := by
    intro A h kn kr ke e
    unfold regT at e
    obtain ⟨fr', A', h', h1, h2, h3⟩ := evOpsK_some (fr := (List.range N).map (look A)) e ⟨by simp, fun t ht => by rw [List.getD_eq_getElem?_getD, List.getElem?_map, List.getElem?_range ht]; rfl⟩
    exact ⟨fr', A', h', by simpa using h1, h2, h3⟩
  have ht : Tidy ops := ⟨fun j q hq => (okM_spec hM hq).1, fun j q g b hq hg => by
    have hj := (Array.getElem?_eq_some_iff.1 hq).1
    have := List.all_eq_true.1 hgd j (List.mem_range.2 (by omega))
    rw [hq] at this
    simp only [hg, decide_eq_true_eq] at this
    exact this⟩
  refine ⟨fun A h kn ke kr x e => ?_, fun r a w A h kn ke kr x B e hfr hsz hrel hfree hB Q hQ => ?_⟩
  · cases x
    obtain ⟨fr', A', h', h1, h2, h3⟩ := key A h kn kr ke e
    obtain ⟨A2, h'', e2, g2, w2⟩ := opsR_ends hck hcr _ _ _ h3
    have g1 := evOpsQ_grows hck h1
    exact ⟨.normal, _, h'', e2, Nat.le_trans g1.1 g2, fun hw => w2 (g1.2 hw)⟩
  · cases x
    obtain ⟨fr', A', h', h1, h2, h3⟩ := key A h kn kr ke e
    have hfree' : ∀ i, h.next ≤ i → r i = none := fun i hi => hfree i hi (B.all rfl i)
    have hfr' : FR r ((List.range N).map (look A)) a := by
      refine ⟨by simpa using hsz.symm, fun t x v hx hv => ?_⟩
      have ht : t < N := by have := (List.getElem?_eq_some_iff.1 hx).1; simpa using this
      rw [List.getElem?_map, List.getElem?_range ht] at hx
      simp at hx
      subst hx
      have := hfr t (by rw [hsz]; exact ht)
      simp only [Act.eval, Array.getD_eq_getD_getElem?] at this
      rw [← Array.getElem?_toList, hv] at this
      exact this
    have hw0 : Post r h w r h { w with drawn := w.drawn + 1 } := Post.same hrel rfl ⟨rfl, rfl, rfl, fun _ => Nat.le_succ _⟩
    refine wp_region_any hm ?_
    have hsub : wpAny P .any (pre ops n) (endBy Q fun a w => wpList P ops Q (ops.toList.drop n) a w) (pre ops n).size (Array.replicate (pre ops n).size false) a { w with drawn := w.drawn + 1 } := by
      refine region_wpAny hck hpre (s := ((List.range N).map (look A), h)) (s' := (fr', h')) h1 hfr' hw0.rel (fun i hi _ => hfree' i hi) fun r' a' w' q1 q2 q3 => ?_
      have hsz' : a'.tmps.size = N := by rw [← h2.1]; simpa using q1.1.symm
      have hA' : FRk r' A' a' := fun t ht => by
        rw [h2.2 t (by rw [← hsz']; exact ht)]
        exact opd_VR q1 q3.rel.glob (.tmp t)
      show wpList P ops Q (ops.toList.drop n) a' w'
      exact opsR_wp hck hcr _ A' h' r' a' w' h3 hA' hsz' q3.rel (free_all (hw0.trans q3) hfree') fun r'' a'' w'' A'' h'' k1 k2 k3 k4 k5 => hQ r'' a'' w'' A'' h'' .normal k1 k2 (by rw [k3, q2]) ((hw0.trans q3).trans k4) k5
    rw [pre_size hn] at hsub
    have := wpAny_tail ht (fun m h1 h2 => by
      have := List.all_eq_true.1 hcov (m - n) (List.mem_range.2 (by omega))
      rwa [show n + (m - n) = m by omega] at this) hsub (ops.size - n) (by omega)
    rw [show n + (ops.size - n) = ops.size by omega, pre_all] at this
    have hd : ops.toList.drop ops.size = [] := by rw [← Array.length_toList, List.drop_length]
    rw [hd] at this
    have he : (endBy Q fun a w => wpList P ops Q [] a w) = Q := by
      funext e a w
      cases e <;> rfl
    rw [he] at this
    exact this

end Go.Ev
