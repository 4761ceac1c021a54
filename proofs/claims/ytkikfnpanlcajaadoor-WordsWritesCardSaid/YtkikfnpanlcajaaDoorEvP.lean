/- The abstract machine Ev, part P: the same computing, each test ahead of what follows (so that it unfolds into plain nested terms), values in their types' shapes. -/
import Derived.Test.YtkikfnpanlcajaaDoorEvN
set_option linter.all false
namespace Go.Ev

abbrev KF := List (Nat × AV)

def look : KF → Nat → AV
  | [], _ => .junk
  | (d, v) :: A, t => match Nat.beq d t with | true => v | false => look A t

def kopd (N : Nat) (A : KF) : Operand → AV
  | .tmp t => match Nat.blt t N with | true => look A t | false => .junk
  | .const v => ofValue v
  | .global g => glV g
  | .func f => .func f [] []

def kput (N : Nat) (A : KF) (d : Option Tmp) (v : AV) : KF :=
  match d with
  | none => A
  | some d => match Nat.blt d N with | true => (d, v) :: A | false => A

/-- a table of functions, each test ahead of what follows -/
structure CK where
  run : ∀ {β : Type}, FuncId → List AV → H → (AV → H → Option β) → Option β
  nat : ∀ {β : Type} (f : FuncId) (args : List AV) (h : H) (k : AV → H → Option β), run f args h k = (run f args h fun v h' => some (v, h')).bind fun q => k q.1 q.2

def CK.call (c : CK) : CallFn := fun f args h => c.run f args h fun v h' => some (v, h')

section
variable {β : Type}

def nnK (p : Option (Nat × Nat)) (f : Nat → Nat → Option β) : Option β := match p with | some (b, o) => f b o | none => none
def offK (o : Nat) (n : Int) (s : Nat) : Nat := match Nat.beq s 1 with | true => o + n.toNat | false => o + n.toNat * s

/-! ### shapes -/

def asInt (k : IntKind) (v : AV) (f : Int → Option β) : Option β := match v with | .int k' n => if k' = k then f n else none | _ => none
def asBool (v : AV) (f : Bool → Option β) : Option β := match v with | .bool b => f b | _ => none
def asStr (v : AV) (f : ByteArray → Option β) : Option β := match v with | .str s => f s | _ => none
def asPtr (v : AV) (f : Option (Nat × Nat) → Option β) : Option β := match v with | .ptr p => f p | _ => none
def asSlice (v : AV) (f : Option (Nat × Nat) → Nat → Cap → Option β) : Option β := match v with | .slice p l c => f p l c | _ => none
def asMap (v : AV) (f : Option Nat → Option β) : Option β := match v with | .map m => f m | _ => none
def asAgg (v : AV) (f : List AV → Option β) : Option β := match v with | .agg l => f l | _ => none

def l0 (l : List AV) (f : Option β) : Option β := match l with | [] => f | _ => none
def lc (l : List AV) (f : AV → List AV → Option β) : Option β := match l with | v :: vs => f v vs | _ => none
theorem l0_some {l : List AV} {f : Option β} {x : β} (h : l0 l f = some x) : l = [] ∧ f = some x := by
  unfold l0 at h; split at h
  · exact ⟨rfl, h⟩
  · cases h
theorem lc_some {l : List AV} {f : AV → List AV → Option β} {x : β} (h : lc l f = some x) : ∃ v vs, l = v :: vs ∧ f v vs = some x := by
  unfold lc at h; split at h
  · exact ⟨_, _, rfl, h⟩
  · cases h

inductive Shape where
  | int (k : IntKind)
  | bool
  | str
  | ptr
  | slice
  | map
  | any
  /-- so many cells, not looked into -/
  | row
  /-- cells of these shapes -/
  | cells (l : List Shape)

mutual
def shapeK : Shape → AV → (AV → Option β) → Option β
  | .int k, v, f => asInt k v fun n => f (.int k n)
  | .bool, v, f => asBool v fun b => f (.bool b)
  | .str, v, f => asStr v fun s => f (.str s)
  | .ptr, v, f => asPtr v fun p => f (.ptr p)
  | .slice, v, f => asSlice v fun p l c => f (.slice p l c)
  | .map, v, f => asMap v fun m => f (.map m)
  | .any, v, f => f v
  | .row, v, f => asAgg v fun l => f (.agg l)
  | .cells l, v, f => asAgg v fun vs => shapesK l vs fun us => f (.agg us)
def shapesK : List Shape → List AV → (List AV → Option β) → Option β
  | [], vs, f => l0 vs (f [])
  | s :: ss, vs, f => lc vs fun v vs => shapeK s v fun u => shapesK ss vs fun us => f (u :: us)
end

theorem asInt_some {k : IntKind} {v : AV} {f : Int → Option β} {x : β} (h : asInt k v f = some x) : ∃ n, v = .int k n ∧ f n = some x := by
  unfold asInt at h; split at h
  · split at h
    · rename_i e; subst e; exact ⟨_, rfl, h⟩
    · cases h
  · cases h
theorem asBool_some {v : AV} {f : Bool → Option β} {x : β} (h : asBool v f = some x) : ∃ b, v = .bool b ∧ f b = some x := by
  unfold asBool at h; split at h
  · exact ⟨_, rfl, h⟩
  · cases h
theorem asStr_some {v : AV} {f : ByteArray → Option β} {x : β} (h : asStr v f = some x) : ∃ b, v = .str b ∧ f b = some x := by
  unfold asStr at h; split at h
  · exact ⟨_, rfl, h⟩
  · cases h
theorem asPtr_some {v : AV} {f : Option (Nat × Nat) → Option β} {x : β} (h : asPtr v f = some x) : ∃ b, v = .ptr b ∧ f b = some x := by
  unfold asPtr at h; split at h
  · exact ⟨_, rfl, h⟩
  · cases h
theorem asSlice_some {v : AV} {f : Option (Nat × Nat) → Nat → Cap → Option β} {x : β} (h : asSlice v f = some x) : ∃ p l c, v = .slice p l c ∧ f p l c = some x := by
  unfold asSlice at h; split at h
  · exact ⟨_, _, _, rfl, h⟩
  · cases h
theorem asMap_some {v : AV} {f : Option Nat → Option β} {x : β} (h : asMap v f = some x) : ∃ b, v = .map b ∧ f b = some x := by
  unfold asMap at h; split at h
  · exact ⟨_, rfl, h⟩
  · cases h
theorem asAgg_some {v : AV} {f : List AV → Option β} {x : β} (h : asAgg v f = some x) : ∃ b, v = .agg b ∧ f b = some x := by
  unfold asAgg at h; split at h
  · exact ⟨_, rfl, h⟩
  · cases h

mutual
theorem shapeK_some : ∀ (s : Shape) {v : AV} {f : AV → Option β} {x : β}, shapeK s v f = some x → f v = some x
  | .int k, v, f, x, h => by simp only [shapeK] at h; obtain ⟨n, rfl, h2⟩ := asInt_some h; exact h2
  | .bool, v, f, x, h => by simp only [shapeK] at h; obtain ⟨n, rfl, h2⟩ := asBool_some h; exact h2
  | .str, v, f, x, h => by simp only [shapeK] at h; obtain ⟨n, rfl, h2⟩ := asStr_some h; exact h2
  | .ptr, v, f, x, h => by simp only [shapeK] at h; obtain ⟨n, rfl, h2⟩ := asPtr_some h; exact h2
  | .slice, v, f, x, h => by simp only [shapeK] at h; obtain ⟨_, _, _, rfl, h2⟩ := asSlice_some h; exact h2
  | .map, v, f, x, h => by simp only [shapeK] at h; obtain ⟨n, rfl, h2⟩ := asMap_some h; exact h2
  | .any, v, f, x, h => by simpa only [shapeK] using h
  | .row, v, f, x, h => by simp only [shapeK] at h; obtain ⟨n, rfl, h2⟩ := asAgg_some h; exact h2
  | .cells l, v, f, x, h => by simp only [shapeK] at h; obtain ⟨n, rfl, h2⟩ := asAgg_some h; exact shapesK_some l h2
theorem shapesK_some : ∀ (ss : List Shape) {vs : List AV} {f : List AV → Option β} {x : β}, shapesK ss vs f = some x → f vs = some x
  | [], vs, f, x, h => by
    simp only [shapesK] at h
    obtain ⟨rfl, h⟩ := l0_some h
    exact h
  | s :: ss, vs, f, x, h => by
    simp only [shapesK] at h
    obtain ⟨v, vs', rfl, h⟩ := lc_some h
    have h2 := shapeK_some s h; exact shapesK_some ss (f := fun us => f (_ :: us)) h2
end

/-- the shape of a cell's type -/
def cellShape (P : Program) (t : TypeId) : Shape :=
  match P.underlying t with
  | some (.int k) => .int k
  | some .bool => .bool
  | some .string => .str
  | some (.pointer _) => .ptr
  | some (.slice _) => .slice
  | some (.map _ _) => .map
  | _ => .any

/-- the cells of a struct, structs within it too -/
def flatShape (P : Program) : Nat → TypeId → Option (List Shape)
  | 0, _ => none
  | d + 1, t =>
    match P.underlying t with
    | some (.struct fs) => fs.toList.foldr (fun f acc => match flatShape P d f.type, acc with | some a, some b => some (a ++ b) | _, _ => none) (some [])
    | some (.array _ _) => none
    | _ => some [cellShape P t]

/-- a struct whose fields are cells, and not too many, is looked into; any other row is not -/
def rowShape (P : Program) (t : TypeId) : Shape :=
  match P.underlying t with
  | some (.struct _) => (match flatShape P 5 t with | some l => (match Nat.ble l.length 24 with | true => .cells l | false => .row) | none => .row)
  | some (.array _ _) => .row
  | _ => cellShape P t

/-! ### memory -/

def cellK (h : H) (i o : Nat) (f : AV → Option β) : Option β := match h.get i with | some (.cells cs _) => (match cs[o]? with | some v => f v | none => none) | _ => none
def aggK (h : H) (i o n : Nat) (f : List AV → Option β) : Option β := match h.get i with | some (.cells cs _) => if o + n ≤ cs.length then f ((cs.drop o).take n) else none | _ => none
def wrK (h : H) (i o n : Nat) (xs : List AV) (f : H → Option β) : Option β :=
  match h.get i with
  | some (.cells cs false) => if xs.length = n ∧ o + xs.length ≤ cs.length ∧ xs.all isCell = true then f (h.set i (.cells (spl cs o xs) false)) else none
  | _ => none

def loadK (P : Program) (t : TypeId) (p : AV) (h : H) (k : AV → Option β) : Option β :=
  match P.underlying t with
  | none => none
  | some d => asPtr p fun p => nnK p fun i o =>
    match aggB d with
    | false => cellK h i o fun v => shapeK (cellShape P t) v k
    | true => match P.info? t with | none => none | some inf => aggK h i o inf.size fun l => shapeK (rowShape P t) (.agg l) k

theorem loadK_some {P : Program} {t : TypeId} {p : AV} {h : H} {k : AV → Option β} {x : β} (e : loadK P t p h k = some x) : ∃ v, evLoad P t p h = some v ∧ k v = some x := by
  unfold loadK at e
  (try dsimp only at e); split at e
  · cases e
  · rename_i d hu
    obtain ⟨p, hx, e'⟩ := asPtr_some e
    clear e; subst hx; have e := e'; clear e'
    unfold nnK at e
    (try dsimp only at e); split at e
    · rename_i i o
      (try dsimp only at e); split at e
      · rename_i ha
        unfold cellK at e
        (try dsimp only at e); split at e
        · rename_i cs ro hg
          (try dsimp only at e); split at e
          · rename_i v hv
            exact ⟨v, by simp [evLoad, hu, hg, ha, hv], shapeK_some _ e⟩
          · cases e
        · cases e
      · rename_i ha
        (try dsimp only at e); split at e
        · cases e
        · rename_i inf hi
          unfold aggK at e
          (try dsimp only at e); split at e
          · rename_i cs ro hg
            (try dsimp only at e); split at e
            · rename_i hb
              refine ⟨_, ?_, shapeK_some _ e⟩
              have : P.cellsOf t = inf.size := by simp [Program.cellsOf, hi]
              simp [evLoad, hu, hg, ha, hi, this, hb]
            · cases e
          · cases e
    · cases e

def storeK (P : Program) (t : TypeId) (p x : AV) (h : H) (k : H → Option β) : Option β :=
  match P.info? t, acells x with
  | some inf, some xs => asPtr p fun p => nnK p fun i o => wrK h i o inf.size xs k
  | _, _ => none

theorem storeK_some {P : Program} {t : TypeId} {p y : AV} {h : H} {k : H → Option β} {x : β} (e : storeK P t p y h k = some x) : ∃ h', evStore P t p y h = some h' ∧ k h' = some x := by
  unfold storeK at e
  (try dsimp only at e); split at e
  · rename_i inf xs hi hxs
    obtain ⟨p, hx, e'⟩ := asPtr_some e
    clear e; subst hx; have e := e'; clear e'
    unfold nnK at e
    (try dsimp only at e); split at e
    · rename_i i o
      unfold wrK at e
      (try dsimp only at e); split at e
      · rename_i cs hg
        (try dsimp only at e); split at e
        · rename_i hb
          refine ⟨_, ?_, e⟩
          have : P.cellsOf t = inf.size := by simp [Program.cellsOf, hi]
          simp only [evStore, hxs, hg]
          rw [if_pos ⟨by rw [hi]; rfl, by rw [this]; exact hb.1, hb.2⟩]
        · cases e
      · cases e
    · cases e
  · cases e

/-! ### indexes, slices -/

def indexAddrK (P : Program) (t : TypeId) (x i : AV) (k : AV → Option β) : Option β :=
  match P.underlying t with
  | some (.array len e) =>
    (match P.info? e with
     | none => none
     | some inf => asPtr x fun p => nnK p fun b o => match i with | .int _ n => if 0 ≤ n ∧ n < len then k (.ptr (some (b, offK o n inf.size))) else none | _ => none)
  | some (.slice e) =>
    (match P.info? e with
     | none => none
     | some inf => asSlice x fun p len _ => match i with | .int _ n => if 0 ≤ n ∧ n < len then nnK p fun b o => k (.ptr (some (b, offK o n inf.size))) else none | _ => none)
  | _ => none

theorem offK_eq (o : Nat) (n : Int) (s : Nat) : offK o n s = o + n.toNat * s := by
  unfold offK
  split
  · rename_i h; have := Nat.eq_of_beq_eq_true h; subst this; simp
  · rfl

theorem indexAddrK_some {P : Program} {t : TypeId} {y i : AV} {k : AV → Option β} {x : β} (e : indexAddrK P t y i k = some x) : ∃ v, evIndexAddr P t y i = some v ∧ k v = some x := by
  unfold indexAddrK at e
  (try dsimp only at e); split at e
  · rename_i len el hu
    (try dsimp only at e); split at e
    · cases e
    · rename_i inf hi
      have hc : P.cellsOf el = inf.size := by simp [Program.cellsOf, hi]
      obtain ⟨p, hx, e'⟩ := asPtr_some e
      clear e; subst hx; have e := e'; clear e'
      unfold nnK at e
      (try dsimp only at e); split at e
      · (try dsimp only at e); split at e
        · (try dsimp only at e); split at e
          · rename_i hb
            refine ⟨_, ?_, e⟩
            simp only [evIndexAddr, hu, hi, hc, offK_eq]
            rw [if_pos ⟨hb.1, hb.2, rfl⟩]
          · cases e
        · cases e
      · cases e
  · rename_i el hu
    (try dsimp only at e); split at e
    · cases e
    · rename_i inf hi
      have hc : P.cellsOf el = inf.size := by simp [Program.cellsOf, hi]
      obtain ⟨p, len, c, hx, e'⟩ := asSlice_some e
      clear e; subst hx; have e := e'; clear e'
      (try dsimp only at e); split at e
      · (try dsimp only at e); split at e
        · rename_i hb
          unfold nnK at e
          (try dsimp only at e); split at e
          · refine ⟨_, ?_, e⟩
            simp only [evIndexAddr, hu, hi, hc, offK_eq]
            rw [if_pos ⟨hb.1, hb.2, rfl⟩]
          · cases e
        · cases e
      · cases e
  · cases e

def atK (l : List AV) (o : Nat) (f : AV → Option β) : Option β := match l[o]? with | some v => f v | none => none
def byteK (s : ByteArray) (n : Int) (f : Int → Option β) : Option β := if 0 ≤ n then (match s[n.toNat]? with | some b => f b.toNat | none => none) else none

def partK (P : Program) (t : TypeId) (cs : List AV) (off : Nat) (k : AV → Option β) : Option β :=
  match P.underlying t with
  | none => none
  | some d =>
    match aggB d with
    | true => (match P.info? t with | none => none | some inf => shapeK (rowShape P t) (.agg ((cs.drop off).take inf.size)) k)
    | false => atK cs off fun v => shapeK (cellShape P t) v k

theorem partK_some {P : Program} {t : TypeId} {cs : List AV} {off : Nat} {k : AV → Option β} {x : β} (e : partK P t cs off k = some x) : ∃ v, evPart P t cs off = some v ∧ k v = some x := by
  unfold partK at e
  (try dsimp only at e); split at e
  · cases e
  · rename_i d hu
    (try dsimp only at e); split at e
    · rename_i ha
      (try dsimp only at e); split at e
      · cases e
      · rename_i inf hi
        have hc : P.cellsOf t = inf.size := by simp [Program.cellsOf, hi]
        exact ⟨_, by simp [evPart, hu, ha, hi, hc], shapeK_some _ e⟩
    · rename_i ha
      unfold atK at e
      (try dsimp only at e); split at e
      · rename_i v hv
        exact ⟨v, by simp [evPart, hu, ha, hv], shapeK_some _ e⟩
      · cases e

def indexK (P : Program) (t : TypeId) (x i : AV) (k : AV → Option β) : Option β :=
  match P.underlying t with
  | some (.array len e) =>
    (match P.info? e with
     | none => none
     | some inf => asAgg x fun cs => match i with | .int _ n => if 0 ≤ n ∧ n < len then partK P e cs (offK 0 n inf.size) k else none | _ => none)
  | some .string => asStr x fun s => match i with | .int _ n => byteK s n fun c => k (.int .u8 c) | _ => none
  | _ => none

theorem indexK_some {P : Program} {t : TypeId} {y i : AV} {k : AV → Option β} {x : β} (e : indexK P t y i k = some x) : ∃ v, evIndex P t y i = some v ∧ k v = some x := by
  unfold indexK at e
  (try dsimp only at e); split at e
  · rename_i len el hu
    (try dsimp only at e); split at e
    · cases e
    · rename_i inf hi
      have hc : P.cellsOf el = inf.size := by simp [Program.cellsOf, hi]
      obtain ⟨cs, hx, e'⟩ := asAgg_some e
      clear e; subst hx; have e := e'; clear e'
      (try dsimp only at e); split at e
      · (try dsimp only at e); split at e
        · rename_i hb
          obtain ⟨v, hv, hk⟩ := partK_some e
          refine ⟨v, ?_, hk⟩
          rw [offK_eq, Nat.zero_add] at hv
          simp only [evIndex, hu, hi, hc]
          rw [if_pos hb]; simpa using hv
        · cases e
      · cases e
  · rename_i hu
    obtain ⟨s, hx, e'⟩ := asStr_some e
    clear e; subst hx; have e := e'; clear e'
    (try dsimp only at e); split at e
    · unfold byteK at e
      (try dsimp only at e); split at e
      · rename_i hb
        (try dsimp only at e); split at e
        · rename_i b hs
          refine ⟨_, ?_, e⟩
          simp only [evIndex, hu]
          rw [if_pos hb, hs]; rfl
        · cases e
      · cases e
    · cases e
  · cases e

def slK (size : Nat) (p : Option (Nat × Nat)) (len : Nat) (c : Cap) (lo hi mx : Option AV) (f : Option (Nat × Nat) → Nat → Cap → Option β) : Option β :=
  match evSliceS size (.slice p len c) lo hi mx with
  | some (.slice p' l' c') => f p' l' c'
  | _ => none

def bndK (n h m : Nat) (lo hi mx : Option AV) (f : Nat → Nat → Nat → Option β) : Option β := match evBounds n h lo hi mx with | some (l, hh, mm) => f l hh mm | none => none

def sliceK (P : Program) (t : TypeId) (x : AV) (lo hi mx : Option AV) (k : AV → Option β) : Option β :=
  match P.underlying t with
  | some (.array n e) =>
    (match P.info? e with
     | none => none
     | some inf => asPtr x fun p => nnK p fun b o => bndK n n 0 lo hi mx fun l h m => k (.slice (some (b, if m = l then o else o + l * inf.size)) (h - l) (.known (m - l))))
  | some .string => (match mx with | some _ => none | none => asStr x fun s => bndK s.size s.size 0 lo hi none fun l h _ => k (.str (s.extract l h)))
  | some (.slice e) => (match P.info? e with | none => none | some inf => asSlice x fun p len c => slK inf.size p len c lo hi mx fun p l c => k (.slice p l c))
  | _ => none

theorem sliceK_some {P : Program} {t : TypeId} {y : AV} {lo hi mx : Option AV} {k : AV → Option β} {x : β} (e : sliceK P t y lo hi mx k = some x) : ∃ v, evSlice P t y lo hi mx = some v ∧ k v = some x := by
  unfold sliceK at e
  (try dsimp only at e); split at e
  · rename_i n el hu
    (try dsimp only at e); split at e
    · cases e
    · rename_i inf hi'
      have hc : P.cellsOf el = inf.size := by simp [Program.cellsOf, hi']
      obtain ⟨p, hx, e'⟩ := asPtr_some e
      clear e; subst hx; have e := e'; clear e'
      unfold nnK at e
      (try dsimp only at e); split at e
      · unfold bndK at e
        (try dsimp only at e); split at e
        · rename_i l hh mm hb
          refine ⟨_, ?_, e⟩
          simp [evSlice, hu, hi', hc, hb]
        · cases e
      · cases e
  · rename_i hu
    (try dsimp only at e); split at e
    · cases e
    · obtain ⟨s, hx, e'⟩ := asStr_some e
      clear e; subst hx; have e := e'; clear e'
      unfold bndK at e
      (try dsimp only at e); split at e
      · rename_i l hh mm hb
        refine ⟨_, ?_, e⟩
        simp [evSlice, hu, hb]
      · cases e
  · rename_i el hu
    (try dsimp only at e); split at e
    · cases e
    · rename_i inf hi'
      have hc : P.cellsOf el = inf.size := by simp [Program.cellsOf, hi']
      obtain ⟨p, len, c, hx, e'⟩ := asSlice_some e
      clear e; subst hx; have e := e'; clear e'
      unfold slK at e
      (try dsimp only at e); split at e
      · rename_i hs
        refine ⟨_, ?_, e⟩
        simp [evSlice, hu, hi', hc, hs]
      · cases e
  · cases e

/-! ### append, copy, texts -/

def appK (size bytes : Nat) (p : Option (Nat × Nat)) (len : Nat) (c : Cap) (src : Option (Nat × List AV)) (h : H) (f : Option (Nat × Nat) → Nat → Cap → H → Option β) : Option β :=
  match src with
  | none => none
  | some q => match evApp size bytes q.1 q.2 (.slice p len c) h with | some (.slice p' l' c', h') => f p' l' c' h' | _ => none

def appendK (P : Program) (ts : List TypeId) (xs : List AV) (h : H) (k : AV → H → Option β) : Option β :=
  match ts, xs with
  | [t1, t2], [s, x] =>
    match P.underlying t1, P.underlying t2 with
    | some (.slice e), some d2 =>
      (match isIntD d2 with
       | true => none
       | false => match P.info? e, evZero P e with
         | some inf, some zs => (match Nat.beq zs.length inf.size && Nat.blt 0 inf.size with
           | true => asSlice s fun p len c => appK inf.size inf.bytes p len c (evSrc inf.size x h) h fun p l c h' => k (.slice p l c) h'
           | false => none)
         | _, _ => none)
    | _, _ => none
  | _, _ => none

theorem appendK_some {P : Program} {ts : List TypeId} {xs : List AV} {h : H} {k : AV → H → Option β} {x : β} (e : appendK P ts xs h k = some x) : ∃ v h', evAppend P ts xs h = some (v, h') ∧ k v h' = some x := by
  unfold appendK at e
  (try dsimp only at e); split at e
  · (try dsimp only at e); split at e
    · rename_i el d2 hu1 hu2
      (try dsimp only at e); split at e
      · cases e
      · rename_i hd
        (try dsimp only at e); split at e
        · rename_i inf zs hi hz
          (try dsimp only at e); split at e
          · rename_i hb
            simp only [Bool.and_eq_true] at hb
            obtain ⟨hb1, hb2⟩ := hb
            have hb1 := Nat.eq_of_beq_eq_true hb1
            have hb2 : 0 < inf.size := by simpa [Nat.blt_eq] using hb2
            obtain ⟨p, len, c, hx, e'⟩ := asSlice_some e
            clear e; subst hx; have e := e'; clear e'
            unfold appK at e
            (try dsimp only at e); split at e
            · cases e
            · rename_i q hq
              (try dsimp only at e); split at e
              · rename_i hap
                refine ⟨_, _, ?_, e⟩
                simp [evAppend, hu1, hu2, hd, hi, hz, hq, hb1, hb2, hap]
              · cases e
          · cases e
        · cases e
    · cases e
  · cases e

def cpyK (size : Nat) (P : Program) (ts : List TypeId) (xs : List AV) (h : H) (f : Int → H → Option β) : Option β :=
  match evCopy P ts xs h with
  | some (.int .i64 n, h') => f n h'
  | _ => none

def catK (a b : ByteArray) (f : ByteArray → Option β) : Option β := if ((a.size + b.size : Nat) : Int) > 9223372036854775807 then none else f (a ++ b)
def bsK (h : H) (x : AV) (f : ByteArray → Option β) : Option β := match evBytesStr h x with | some (.str s) => f s | _ => none

def nextK (h : H) (i : Nat) (f : Int → Int → H → Option β) (g : Option β) : Option β :=
  match h.get i with
  | some (.siter s pos) => if pos < s.size then f pos (Utf8.decode s pos).1 (h.set i (.siter s (pos + (Utf8.decode s pos).2))) else g
  | _ => none

/-! ### arithmetic -/

def binK (op : BinOp) (x y : AV) (k : AV → Option β) : Option β :=
  match x, y with
  | .int kd a, .int kd' b =>
    match op with
    | .shl => if b < 0 then none else k (.int kd (kd.wrap (a * 2 ^ min b.toNat kd.bits)))
    | .shr => if b < 0 then none else k (.int kd (a.fdiv (2 ^ min b.toNat kd.bits)))
    | .quo => if kd = kd' then (if b = 0 then none else k (.int kd (kd.wrap (a.tdiv b)))) else none
    | .rem => if kd = kd' then (if b = 0 then none else k (.int kd (a.tmod b))) else none
    | op => if kd = kd' then (match evInt op kd a b with | some v => k v | none => none) else none
  | .str a, .str b => match op with | .add => catK a b fun s => k (.str s) | op => match evStr op a b with | some v => k v | none => none
  | _, _ => none

theorem binK_some {op : BinOp} {y z : AV} {k : AV → Option β} {x : β} (e : binK op y z k = some x) : ∃ v, evBin op y z = some v ∧ k v = some x := by
  unfold binK at e
  (try dsimp only at e); split at e
  · (try dsimp only at e); split at e
    · (try dsimp only at e); split at e
      · cases e
      · rename_i hb; exact ⟨_, by simp [evBin, hb], e⟩
    · (try dsimp only at e); split at e
      · cases e
      · rename_i hb; exact ⟨_, by simp [evBin, hb], e⟩
    · (try dsimp only at e); split at e
      · rename_i hk
        (try dsimp only at e); split at e
        · cases e
        · rename_i hb; exact ⟨_, by simp [evBin, hk, evInt, hb], e⟩
      · cases e
    · (try dsimp only at e); split at e
      · rename_i hk
        (try dsimp only at e); split at e
        · cases e
        · rename_i hb; exact ⟨_, by simp [evBin, hk, evInt, hb], e⟩
      · cases e
    · rename_i h1 h2 h3 h4
      (try dsimp only at e); split at e
      · rename_i hk
        (try dsimp only at e); split at e
        · rename_i v hv
          refine ⟨v, ?_, e⟩
          unfold evBin
          cases op <;> first | exact absurd rfl h1 | exact absurd rfl h2 | (simp only [hk, if_true]; rw [← hk]; exact hv)
        · cases e
      · cases e
  · (try dsimp only at e); split at e
    · unfold catK at e
      (try dsimp only at e); split at e
      · cases e
      · rename_i hb; exact ⟨_, by simp only [evBin, evStr]; rw [if_neg hb], e⟩
    · (try dsimp only at e); split at e
      · rename_i v hv; exact ⟨v, hv, e⟩
      · cases e
  · cases e

/-! ### equality, as one truth value -/

def eqFieldsB (P : Program) (eq : TypeId → AV → AV → Option Bool) (xs ys : List AV) : List Field → Option Bool
  | [] => some true
  | f :: fs =>
    match f.name == "_" with
    | true => eqFieldsB P eq xs ys fs
    | false =>
      match evPart P f.type xs f.offset, evPart P f.type ys f.offset with
      | some a, some b => (match eq f.type a b, eqFieldsB P eq xs ys fs with | some r, some q => some (r && q) | _, _ => none)
      | _, _ => none

def eqItemsB (P : Program) (eq : TypeId → AV → AV → Option Bool) (e : TypeId) (c : Nat) (xs ys : List AV) : List Nat → Option Bool
  | [] => some true
  | i :: is =>
    match evPart P e xs (i * c), evPart P e ys (i * c) with
    | some a, some b => (match eq e a b, eqItemsB P eq e c xs ys is with | some r, some q => some (r && q) | _, _ => none)
    | _, _ => none

theorem eqFieldsB_some {P : Program} {eq eq' : TypeId → AV → AV → Option Bool} (he : ∀ t x y b, eq t x y = some b → eq' t x y = some b) {xs ys : List AV} : ∀ {fs : List Field} {b : Bool}, eqFieldsB P eq xs ys fs = some b → evFields P eq' xs ys fs = some b
  | [], b, h => h
  | f :: fs, b, h => by
    simp only [eqFieldsB] at h
    simp only [evFields]
    split at h
    · rename_i hn
      rw [if_neg (by simpa using hn)]
      exact eqFieldsB_some he h
    · rename_i hn
      rw [if_pos (by simpa using hn)]
      split at h
      · rename_i a c ha hc
        split at h
        · rename_i r q hr hq
          cases h
          simp only [ha, hc, he _ _ _ _ hr, Option.bind_some]
          cases r
          · simp
          · simp; exact eqFieldsB_some he hq
        · cases h
      · cases h

theorem eqItemsB_some {P : Program} {eq eq' : TypeId → AV → AV → Option Bool} (he : ∀ t x y b, eq t x y = some b → eq' t x y = some b) {e : TypeId} {c : Nat} {xs ys : List AV} : ∀ {is : List Nat} {b : Bool}, eqItemsB P eq e c xs ys is = some b → evItems P eq' e c xs ys is = some b
  | [], b, h => h
  | i :: is, b, h => by
    simp only [eqItemsB] at h
    simp only [evItems]
    split at h
    · rename_i a c' ha hc
      split at h
      · rename_i r q hr hq
        cases h
        simp only [ha, hc, he _ _ _ _ hr, Option.bind_some]
        cases r
        · simp
        · simp; exact eqItemsB_some he hq
      · cases h
    · cases h

/-- equality of rows of plain cells that are not looked into -/
def eqRow : List AV → List AV → Option Bool
  | [], [] => some true
  | x :: xs, y :: ys =>
    match x, y with
    | .int k a, .int k' b => if k = k' then (match eqRow xs ys with | some q => some (a == b && q) | none => none) else none
    | _, _ => none
  | _, _ => none

def evEqB (P : Program) : Nat → TypeId → AV → AV → Option Bool
  | 0 => fun _ _ _ => none
  | d + 1 => fun t x y =>
    match P.underlying t with
    | some (.struct fs) => match x, y with | .agg xs, .agg ys => (match P.stoodInHeld t with | true => none | false => eqFieldsB P (evEqB P d) xs ys fs.toList) | _, _ => none
    | some (.array n e) => match x, y with | .agg xs, .agg ys => (match P.info? e with | some inf => eqItemsB P (evEqB P d) e inf.size xs ys (List.range n) | none => none) | _, _ => none
    | _ => evEq P 1 t x y

theorem evEq_one {P : Program} {t : TypeId} {x y : AV} {b : Bool} (hs : ∀ fs, P.underlying t ≠ some (.struct fs)) (ha : ∀ n e, P.underlying t ≠ some (.array n e)) (h : evEq P 1 t x y = some b) (d : Nat) : evEq P (d + 1) t x y = some b := by
  simp only [evEq] at h ⊢
  split at h <;> first
    | exact h
    | (rename_i hu; exact absurd hu (hs _))
    | (rename_i hu; exact absurd hu (ha _ _))
    | cases h

theorem evEqB_some {P : Program} : ∀ (d : Nat) (t : TypeId) (x y : AV) (b : Bool), evEqB P d t x y = some b → evEq P d t x y = some b
  | 0, t, x, y, b, h => by simp [evEqB] at h
  | d + 1, t, x, y, b, h => by
    simp only [evEqB] at h
    split at h
    · rename_i fs hu
      split at h
      · split at h
        · cases h
        · rename_i hp
          simp only [evEq, hu, hp]
          exact eqFieldsB_some (evEqB_some d) h
      · cases h
    · rename_i n e hu
      split at h
      · split at h
        · rename_i inf hi
          have hc : P.cellsOf e = inf.size := by simp [Program.cellsOf, hi]
          simp only [evEq, hu, hi, hc]
          exact eqItemsB_some (evEqB_some d) h
        · cases h
      · cases h
    · rename_i hs ha
      exact evEq_one hs ha h d

def eqK (P : Program) (op : BinOp) (t : TypeId) (x y : AV) (k : AV → Option β) : Option β :=
  match P.eqGuardType P.depth t with
  | true => none
  | false =>
    match op with
    | .eql => (match evEqB P Op.maxDepth t x y with | some b => k (.bool b) | none => none)
    | .neq => (match evEqB P Op.maxDepth t x y with | some b => k (.bool (!b)) | none => none)
    | _ => none

theorem eqK_some {P : Program} {op : BinOp} {t : TypeId} {y z : AV} {k : AV → Option β} {x : β} (e : eqK P op t y z k = some x) : ∃ v, evEqOp P op t y z = some v ∧ k v = some x := by
  unfold eqK at e
  (try dsimp only at e); split at e
  · cases e
  · rename_i hg
    (try dsimp only at e); split at e
    · (try dsimp only at e); split at e
      · rename_i b hb; exact ⟨_, by simp [evEqOp, hg, evEqB_some _ _ _ _ _ hb], e⟩
      · cases e
    · (try dsimp only at e); split at e
      · rename_i b hb; exact ⟨_, by simp [evEqOp, hg, evEqB_some _ _ _ _ _ hb], e⟩
      · cases e
    · cases e

end

end Go.Ev
