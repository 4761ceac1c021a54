/- The abstract machine Ev, part B: the operations that look at no memory, and that each stands for the model's own. -/
import Derived.Test.YtkikfnpanlcajaaDoorEvA
set_option linter.all false
namespace Go.Ev

def scal : Value → AV
  | .bool b => .bool b
  | .int k n => .int k n
  | .string s => .str s
  | .pointer none => .ptr none
  | .slice none 0 0 => .slice none 0 (.known 0)
  | .map none => .map none
  | .nilFunc => .nilFunc
  | _ => .junk

def ofValue : Value → AV
  | .agg cs => .agg (cs.toList.map scal)
  | v => scal v

theorem VR_scal (r : Ren) (v : Value) : VR r (scal v) v := by
  unfold scal
  split <;> first | constructor

theorem VR_ofValue (r : Ren) (v : Value) : VR r (ofValue v) v := by
  unfold ofValue
  split
  · rename_i cs
    refine .agg _ _ (by simp) fun i a v h1 h2 => ?_
    rw [List.getElem?_map] at h1
    rw [← Array.getElem?_toList] at h2
    rw [h2] at h1
    simp at h1
    subst h1
    exact VR_scal r v
  · exact VR_scal r _

def opd (fr : List AV) : Operand → AV
  | .tmp t => fr.getD t .junk
  | .const v => ofValue v
  | .global g => glV g
  | .func f => .func f [] []

def FR (r : Ren) (fr : List AV) (a : Act) : Prop := VRL r fr a.tmps.toList

theorem opd_VR {r : Ren} {fr : List AV} {a : Act} (h : FR r fr a) (hg : GL r) (x : Operand) : VR r (opd fr x) (a.eval x) := by
  cases x with
  | tmp t =>
    simp only [opd, Act.eval]
    cases hf : fr[t]? with
    | none => rw [List.getD_eq_getElem?_getD, hf]; exact .junk _
    | some av =>
      have hl : t < a.tmps.toList.length := by rw [← h.1]; exact (List.getElem?_eq_some_iff.1 hf).1
      have h2 : a.tmps.toList[t]? = some a.tmps.toList[t] := List.getElem?_eq_getElem hl
      have := h.2 t av _ hf h2
      rw [List.getD_eq_getElem?_getD, hf]
      rw [Array.getD_eq_getD_getElem?, ← Array.getElem?_toList, h2]
      exact this
  | const v => exact VR_ofValue r v
  | global g => exact hg.vr g
  | func f => exact .func f [] [] #[] #[] rfl rfl (fun i a v h => by simp at h) (fun i a v h => by simp at h)

theorem FR.put {r : Ren} {fr : List AV} {a : Act} (h : FR r fr a) (d : Option Tmp) {x : AV} {v : Value} (hv : VR r x v) :
    FR r (match d with | some d => fr.set d x | none => fr) (a.put d v) := by
  cases d with
  | none => exact h
  | some d =>
    have := VRL.set h d hv
    simpa [FR, Act.put] using this

/-! ### arithmetic -/

def evInt (op : BinOp) (k : IntKind) (a b : Int) : Option AV :=
  match op with
  | .add => some (.int k (k.wrap (a + b)))
  | .sub => some (.int k (k.wrap (a - b)))
  | .mul => some (.int k (k.wrap (a * b)))
  | .quo => if b = 0 then none else some (.int k (k.wrap (a.tdiv b)))
  | .rem => if b = 0 then none else some (.int k (a.tmod b))
  | .and => some (.int k (k.wrap (BitVec.ofInt k.bits a &&& BitVec.ofInt k.bits b).toNat))
  | .or => some (.int k (k.wrap (BitVec.ofInt k.bits a ||| BitVec.ofInt k.bits b).toNat))
  | .xor => some (.int k (k.wrap (BitVec.ofInt k.bits a ^^^ BitVec.ofInt k.bits b).toNat))
  | .andNot => some (.int k (k.wrap (BitVec.ofInt k.bits a &&& ~~~ BitVec.ofInt k.bits b).toNat))
  | .eql => some (.bool (a == b))
  | .neq => some (.bool (a != b))
  | .lss => some (.bool (a < b))
  | .leq => some (.bool (a ≤ b))
  | .gtr => some (.bool (a > b))
  | .geq => some (.bool (a ≥ b))
  | .shl => none
  | .shr => none

def evStr (op : BinOp) (a b : ByteArray) : Option AV :=
  match op with
  | .add => if ((a.size + b.size : Nat) : Int) > 9223372036854775807 then none else some (.str (a ++ b))
  | .eql => some (.bool (a.toList == b.toList))
  | .neq => some (.bool (!(a.toList == b.toList)))
  | .lss => some (.bool (Op.bytesLess a.toList b.toList))
  | .leq => some (.bool (Op.bytesLess a.toList b.toList || a.toList == b.toList))
  | .gtr => some (.bool (!(Op.bytesLess a.toList b.toList || a.toList == b.toList)))
  | .geq => some (.bool (!(Op.bytesLess a.toList b.toList)))
  | _ => none

def evBin (op : BinOp) (x y : AV) : Option AV :=
  match x, y with
  | .int k a, .int k' b =>
    match op with
    | .shl => if b < 0 then none else some (.int k (k.wrap (a * 2 ^ min b.toNat k.bits)))
    | .shr => if b < 0 then none else some (.int k (a.fdiv (2 ^ min b.toNat k.bits)))
    | op => if k = k' then evInt op k a b else none
  | .str a, .str b => evStr op a b
  | _, _ => none

theorem evBin_sim {P : Program} {r : Ren} {op : BinOp} {t : TypeId} {x y v : AV} {x' y' : Value} (h : evBin op x y = some v) (hx : VR r x x') (hy : VR r y y') (ox oy : Operand) :
    ∃ v', VR r v v' ∧ ∀ w, ((do eqGuard op t ox oy x' y'; binOp op t x' y') : Sem Value).run P w = .ok v' w := by
  unfold evBin at h
  split at h
  · rename_i k a k' b
    cases hx
    cases hy
    have hg : ∀ w, (eqGuard op t ox oy (.int k a) (.int k' b)).run P w = .ok () w := by intro w; unfold eqGuard; split <;> rfl
    split at h
    · split at h
      · cases h
      · rename_i hb
        cases h
        exact ⟨_, .int _ _, fun w => by simp [hg, binOp, Op.shift, hb]⟩
    · split at h
      · cases h
      · rename_i hb
        cases h
        exact ⟨_, .int _ _, fun w => by simp [hg, binOp, Op.shift, hb]⟩
    · rename_i hs1 hs2
      split at h
      · rename_i hk
        subst hk
        cases op <;> simp only [evInt] at h <;> first
          | exact absurd rfl hs1
          | exact absurd rfl hs2
          | (cases h; first
              | exact ⟨_, .int _ _, fun w => by simp [hg, binOp, Op.intArith, Op.intBits]⟩
              | exact ⟨_, .bool _, fun w => by simp [hg, binOp, Op.intCmp]⟩)
          | (split at h
             · cases h
             · rename_i hb; cases h; exact ⟨_, .int _ _, fun w => by simp [hg, binOp, Op.intDiv, hb]⟩)
      · cases h
  · rename_i a b
    cases hx
    cases hy
    have hg : ∀ w, (eqGuard op t ox oy (.string a) (.string b)).run P w = .ok () w := by intro w; unfold eqGuard; split <;> rfl
    cases op <;> simp only [evStr] at h <;> first
      | (cases h; done)
      | (cases h; exact ⟨_, .bool _, fun w => by simp [hg, binOp, Op.stringOp]⟩)
      | (split at h
         · cases h
         · rename_i hb
           cases h
           refine ⟨_, .str _, fun w => ?_⟩
           have hb' : ¬ (((a.size + b.size : Nat) : Int) > IntKind.i64.max) := hb
           simp only [Sem.run_bind, hg, Result.andThen_ok, binOp, Op.stringOp]
           rw [if_neg hb']; rfl)
  · cases h

/-! ### parts -/

def aggB : TypeDesc → Bool
  | .struct _ => true
  | .array _ _ => true
  | _ => false

def evPart (P : Program) (t : TypeId) (cs : List AV) (off : Nat) : Option AV :=
  match P.underlying t with
  | none => none
  | some d => if aggB d then (if (P.info? t).isSome then some (.agg ((cs.drop off).take (P.cellsOf t))) else none) else cs[off]?

theorem run_isAgg {P : Program} {t : TypeId} {d : TypeDesc} (h : P.underlying t = some d) (w : World) : (isAgg t).run P w = .ok (aggB d) w := by
  unfold isAgg
  simp only [Sem.run_bind, run_underlying h, Result.andThen_ok]
  cases d <;> rfl

theorem VR_extract {r : Ren} {cs : List AV} {vs : Array Value} (h1 : cs.length = vs.size) (h2 : ∀ (i : Nat) (a : AV) (v : Value), cs[i]? = some a → vs[i]? = some v → VR r a v) (off n : Nat) :
    VR r (.agg ((cs.drop off).take n)) (.agg (vs.extract off (off + n))) := by
  refine .agg _ _ (by simp [h1]; omega) fun i a v ha hv => ?_
  rw [Array.getElem?_extract] at hv
  rw [List.getElem?_take] at ha
  split at ha
  · rw [List.getElem?_drop] at ha
    split at hv
    · exact h2 _ a v ha hv
    · cases hv
  · cases ha

theorem evPart_sim {P : Program} {r : Ren} {t : TypeId} {cs : List AV} {off : Nat} {v : AV} {vs : Array Value} (h : evPart P t cs off = some v)
    (h1 : cs.length = vs.size) (h2 : ∀ (i : Nat) (a : AV) (v : Value), cs[i]? = some a → vs[i]? = some v → VR r a v) :
    ∃ v', VR r v v' ∧ ∀ w, (part t vs off).run P w = .ok v' w := by
  unfold evPart at h
  split at h
  · cases h
  · rename_i d hu
    split at h
    · rename_i ha
      split at h
      · rename_i hi
        cases h
        obtain ⟨i, hi⟩ := Option.isSome_iff_exists.1 hi
        exact ⟨_, VR_extract h1 h2 off (P.cellsOf t), fun w => by simp [part, run_isAgg hu, ha, run_sizeOf w hi]⟩
      · cases h
    · rename_i ha
      have hlt : off < vs.size := by rw [← h1]; exact (List.getElem?_eq_some_iff.1 h).1
      have hv : vs[off]? = some vs[off] := Array.getElem?_eq_getElem hlt
      exact ⟨vs[off], h2 off v _ h hv, fun w => by simp [part, run_isAgg hu, ha, hv]⟩

/-! ### equality of plain values -/

def evFields (P : Program) (eq : TypeId → AV → AV → Option Bool) (xs ys : List AV) : List Field → Option Bool
  | [] => some true
  | f :: fs =>
    if f.name ≠ "_" then
      match evPart P f.type xs f.offset, evPart P f.type ys f.offset with
      | some a, some b => (eq f.type a b).bind fun r => if r then evFields P eq xs ys fs else some false
      | _, _ => none
    else evFields P eq xs ys fs

def evItems (P : Program) (eq : TypeId → AV → AV → Option Bool) (e : TypeId) (c : Nat) (xs ys : List AV) : List Nat → Option Bool
  | [] => some true
  | i :: is =>
    match evPart P e xs (i * c), evPart P e ys (i * c) with
    | some a, some b => (eq e a b).bind fun r => if r then evItems P eq e c xs ys is else some false
    | _, _ => none

/-- 'x == y' at type t: none: not told here. -/
def evEq (P : Program) : Nat → TypeId → AV → AV → Option Bool
  | 0 => fun _ _ _ => none
  | d + 1 => fun t x y =>
    match P.underlying t with
    | some .bool => match x, y with | .bool a, .bool b => some (a == b) | _, _ => none
    | some (.int _) => match x, y with | .int k a, .int k' b => if k = k' then some (a == b) else none | _, _ => none
    | some .string => match x, y with | .str a, .str b => some (a.toList == b.toList) | _, _ => none
    | some (.pointer _) => match x, y with | .ptr none, .ptr b => some b.isNone | .ptr (some _), .ptr none => some false | _, _ => none
    | some (.slice _) => match x, y with | .slice none _ _, .slice b _ _ => some b.isNone | .slice (some _) _ _, .slice none _ _ => some false | _, _ => none
    | some (.map _ _) => match x, y with | .map none, .map b => some b.isNone | .map (some _), .map none => some false | _, _ => none
    | some (.func _ _ _) => match x, y with | .nilFunc, .nilFunc => some true | .nilFunc, .func _ _ _ => some false | .func _ _ _, .nilFunc => some false | _, _ => none
    | some (.struct fs) => match x, y with | .agg xs, .agg ys => if P.stoodInHeld t then none else evFields P (evEq P d) xs ys fs.toList | _, _ => none
    | some (.array n e) => match x, y with | .agg xs, .agg ys => if (P.info? e).isSome then evItems P (evEq P d) e (P.cellsOf e) xs ys (List.range n) else none | _, _ => none
    | _ => none

theorem evFields_sim {P : Program} {r : Ren} {d : Nat} {eq : TypeId → AV → AV → Option Bool}
    (heq : ∀ t x y b x' y', eq t x y = some b → VR r x x' → VR r y y' → ∀ w, (Op.equalIn d t x' y').run P w = .ok b w)
    {xs ys : List AV} {xs' ys' : Array Value} (hx1 : xs.length = xs'.size) (hx2 : ∀ (i : Nat) (a : AV) (v : Value), xs[i]? = some a → xs'[i]? = some v → VR r a v)
    (hy1 : ys.length = ys'.size) (hy2 : ∀ (i : Nat) (a : AV) (v : Value), ys[i]? = some a → ys'[i]? = some v → VR r a v) :
    ∀ (fs : List Field) (b : Bool), evFields P eq xs ys fs = some b → ∀ w, (Op.eqFields d xs' ys' fs).run P w = .ok b w
  | [], b, h, w => by simp only [evFields] at h; cases h; rfl
  | f :: fs, b, h, w => by
    simp only [evFields] at h
    simp only [Op.eqFields]
    split at h
    · rename_i hn
      rw [if_pos hn]
      split at h
      · rename_i a c ha hc
        obtain ⟨a', va, ra⟩ := evPart_sim ha hx1 hx2
        obtain ⟨c', vc, rc⟩ := evPart_sim hc hy1 hy2
        obtain ⟨q, hq, h⟩ := Option.bind_eq_some_iff.1 h
        simp only [Sem.run_bind, ra, rc, Result.andThen_ok, heq _ _ _ _ _ _ hq va vc]
        cases q
        · simp at h; subst h; simp
        · simp at h; simp; exact evFields_sim heq hx1 hx2 hy1 hy2 fs b h w
      · cases h
    · rename_i hn
      rw [if_neg hn]
      exact evFields_sim heq hx1 hx2 hy1 hy2 fs b h w

theorem evItems_sim {P : Program} {r : Ren} {d : Nat} {e : TypeId} {c : Nat} {eq : TypeId → AV → AV → Option Bool}
    (heq : ∀ t x y b x' y', eq t x y = some b → VR r x x' → VR r y y' → ∀ w, (Op.equalIn d t x' y').run P w = .ok b w)
    {xs ys : List AV} {xs' ys' : Array Value} (hx1 : xs.length = xs'.size) (hx2 : ∀ (i : Nat) (a : AV) (v : Value), xs[i]? = some a → xs'[i]? = some v → VR r a v)
    (hy1 : ys.length = ys'.size) (hy2 : ∀ (i : Nat) (a : AV) (v : Value), ys[i]? = some a → ys'[i]? = some v → VR r a v) :
    ∀ (is : List Nat) (b : Bool), evItems P eq e c xs ys is = some b → ∀ w, (Op.eqItems d e c xs' ys' is).run P w = .ok b w
  | [], b, h, w => by simp only [evItems] at h; cases h; rfl
  | i :: is, b, h, w => by
    simp only [evItems] at h
    simp only [Op.eqItems]
    split at h
    · rename_i a c ha hc
      obtain ⟨a', va, ra⟩ := evPart_sim ha hx1 hx2
      obtain ⟨c', vc, rc⟩ := evPart_sim hc hy1 hy2
      obtain ⟨q, hq, h⟩ := Option.bind_eq_some_iff.1 h
      simp only [Sem.run_bind, ra, rc, Result.andThen_ok, heq _ _ _ _ _ _ hq va vc]
      cases q
      · simp at h; subst h; simp
      · simp at h; simp; exact evItems_sim heq hx1 hx2 hy1 hy2 is b h w
    · cases h

theorem evEq_sim {P : Program} {r : Ren} : ∀ (d : Nat) (t : TypeId) (x y : AV) (b : Bool) (x' y' : Value), evEq P d t x y = some b → VR r x x' → VR r y y' →
    ∀ w, (Op.equalIn d t x' y').run P w = .ok b w
  | 0, t, x, y, b, x', y', h, hx, hy, w => by simp [evEq] at h
  | d + 1, t, x, y, b, x', y', h, hx, hy, w => by
    have ih := evEq_sim (P := P) (r := r) d
    simp only [evEq] at h
    split at h
    · rename_i hu
      split at h
      · cases h; cases hx; cases hy; exact run_equalIn_bool' w d t _ _ hu
      · cases h
    · rename_i hu
      split at h
      · split at h
        · rename_i hk; subst hk; cases h; cases hx; cases hy; exact run_equalIn_int w d t _ _ _ _ hu
        · cases h
      · cases h
    · rename_i hu
      split at h
      · cases h; cases hx; cases hy; exact run_equalIn_string w d t _ _ hu
      · cases h
    · rename_i hu
      split at h
      · cases h; cases hx; cases hy <;> simp [Op.equalIn, run_underlying hu]
      · cases h; cases hx; cases hy; simp [Op.equalIn, run_underlying hu]
      · cases h
    · rename_i hu
      split at h
      · cases h; cases hx; cases hy <;> simp [Op.equalIn, run_underlying hu]
      · cases h; cases hy; cases hx <;> simp [Op.equalIn, run_underlying hu]
      · cases h
    · rename_i hu
      split at h
      · cases h; cases hx; cases hy <;> simp [Op.equalIn, run_underlying hu]
      · cases h; cases hy; cases hx; simp [Op.equalIn, run_underlying hu]
      · cases h
    · rename_i hu
      split at h
      · cases h; cases hx; cases hy; simp [Op.equalIn, run_underlying hu]
      · cases h; cases hx; cases hy; simp [Op.equalIn, run_underlying hu]
      · cases h; cases hx; cases hy; simp [Op.equalIn, run_underlying hu]
      · cases h
    · rename_i fs hu
      split at h
      · split at h
        · cases h
        · rename_i xs ys hp
          cases hx with
          | agg _ xs' hx1 hx2 =>
          cases hy with
          | agg _ ys' hy1 hy2 =>
          have hf : P.fieldsOf t = fs := by simp [Program.fieldsOf, hu]
          rw [run_equalIn_struct w d t _ _ (by rw [hf]; exact hu) (by simpa using hp), hf]
          exact evFields_sim ih hx1 hx2 hy1 hy2 _ b h w
      · cases h
    · rename_i n e hu
      split at h
      · split at h
        · rename_i xs ys hi
          obtain ⟨i, hi⟩ := Option.isSome_iff_exists.1 hi
          cases hx with
          | agg _ xs' hx1 hx2 =>
          cases hy with
          | agg _ ys' hy1 hy2 =>
          rw [run_equalIn_array w d xs' ys' hu hi]
          exact evItems_sim ih hx1 hx2 hy1 hy2 _ b h w
        · cases h
      · cases h
    · cases h

/-- '==' and '!=' of what is neither two numbers nor two texts -/
def evEqOp (P : Program) (op : BinOp) (t : TypeId) (x y : AV) : Option AV :=
  match op with
  | .eql => if P.eqGuardType P.depth t then none else (evEq P Op.maxDepth t x y).map .bool
  | .neq => if P.eqGuardType P.depth t then none else (evEq P Op.maxDepth t x y).map fun b => .bool (!b)
  | _ => none

def notIntStr : AV → Bool
  | .int _ _ => false
  | .str _ => false
  | .junk => false
  | _ => true

theorem run_eqGuard_plain {P : Program} {t : TypeId} (hg : P.eqGuardType P.depth t = false) (op : BinOp) (ox oy : Operand) {x' y' : Value} (hn : ¬ (x' = .nilIface ∧ y' = .nilIface)) (w : World) :
    (eqGuard op t ox oy x' y').run P w = .ok () w := by
  unfold eqGuard
  cases op <;> first
    | rfl
    | (simp only [Bool.not_true, Bool.false_eq_true, if_false]
       split
       · exact absurd ⟨rfl, rfl⟩ hn
       · simp [hg]
       · rfl)

theorem evEqOp_sim {P : Program} {r : Ren} {op : BinOp} {t : TypeId} {x y v : AV} {x' y' : Value} (h : evEqOp P op t x y = some v) (hnx : notIntStr x = true)
    (hx : VR r x x') (hy : VR r y y') (ox oy : Operand) :
    ∃ v', VR r v v' ∧ ∀ w, ((do eqGuard op t ox oy x' y'; binOp op t x' y') : Sem Value).run P w = .ok v' w := by
  have hn : ¬ (x' = .nilIface ∧ y' = .nilIface) := fun e => by obtain ⟨rfl, _⟩ := e; cases hx; simp [notIntStr] at hnx
  have hb1 : binOp .eql t x' y' = (do pure (.bool (← Op.equal t x' y'))) := by
    cases hx <;> simp [notIntStr] at hnx <;> cases y' <;> rfl
  have hb2 : binOp .neq t x' y' = (do pure (.bool (!(← Op.equal t x' y')))) := by
    cases hx <;> simp [notIntStr] at hnx <;> cases y' <;> rfl
  unfold evEqOp at h
  split at h
  · split at h
    · cases h
    · rename_i hg
      obtain ⟨b, hb, rfl⟩ := Option.map_eq_some_iff.1 h
      refine ⟨_, .bool _, fun w => ?_⟩
      simp only [Sem.run_bind, run_eqGuard_plain (by simpa using hg) _ ox oy hn, Result.andThen_ok, hb1, Op.equal, evEq_sim _ _ _ _ _ _ _ hb hx hy w]
      rfl
  · split at h
    · cases h
    · rename_i hg
      obtain ⟨b, hb, rfl⟩ := Option.map_eq_some_iff.1 h
      refine ⟨_, .bool _, fun w => ?_⟩
      simp only [Sem.run_bind, run_eqGuard_plain (by simpa using hg) _ ox oy hn, Result.andThen_ok, hb2, Op.equal, evEq_sim _ _ _ _ _ _ _ hb hx hy w]
      rfl
  · cases h

end Go.Ev
