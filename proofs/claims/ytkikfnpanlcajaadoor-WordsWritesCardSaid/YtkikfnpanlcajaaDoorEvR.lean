/- The abstract machine Ev, part R: loops with the slots that live on, tables of functions, and small names for what is printed. -/
import Derived.Test.YtkikfnpanlcajaaDoorEvQ
set_option linter.all false
namespace Go.Ev

section
variable {β : Type}

/-- a loop; at each round's head only the slots 'live' are kept -/
def loopL (live : List Nat) (X : KC β) : Nat → KC β
  | 0 => fun _ _ _ _ _ => none
  | n + 1 => fun A h kn ke kr => X A h (fun A h => loopL live X n (norm live A) h kn ke kr) ke kr

theorem DenG.loopL {S : Bool} {P : Program} {N : Nat} {c : Code} {X : KC β} (live : List Nat) (d : DenG S P N c X) (n : Nat) : DenG S P N (.loop c) (loopL live X n) where
  ends := by
    induction n with
    | zero => intro A h kn ke kr x e; cases e
    | succ n ih =>
      intro A h kn ke kr x e
      obtain ⟨e', A', h', h1, h2, h3⟩ := d.ends A h _ ke kr x e
      cases e' with
      | normal =>
        obtain ⟨e'', A'', h'', k1, k2, k3⟩ := ih _ h' kn ke kr x h1
        exact ⟨e'', A'', h'', k1, Nat.le_trans h2 k2, fun hw => k3 (h3 hw)⟩
      | exit i => exact ⟨.exit i, A', h', h1, h2, h3⟩
      | ret => exact ⟨.ret, A', h', h1, h2, h3⟩
  sim := by
    have grow : ∀ n A h kn ke kr x (B : Bnd S), (Ev.loopL live X n : KC β) A h kn ke kr = some x → (∀ e A' h', leaves kn ke kr e A' h' = some x → ∀ i, i < h'.next → B.set i) → ∀ i, i < h.next → B.set i := by
      intro n
      induction n with
      | zero => intro A h kn ke kr x B e hB; cases e
      | succ n ih =>
        intro A h kn ke kr x B e hB
        refine d.grows A h _ ke kr x B e fun e' A' h' he => ?_
        cases e' with
        | normal => exact ih _ h' kn ke kr x B he hB
        | exit i => exact hB (.exit i) A' h' he
        | ret => exact hB .ret A' h' he
    intro r a w A h kn ke kr x B e hfr hsz hrel hfree hB Q hQ
    refine wp_loop_rounds n ?_
    revert r a w A h
    induction n with
    | zero => intro r a w A h e; cases e
    | succ n ih =>
      intro r a w A h e hfr hsz hrel hfree hQ
      rw [rounds_succ]
      refine d.sim r a w A h _ ke kr x B e hfr hsz hrel hfree (fun e' A' h' he => ?_) _ fun r' a' w' A' h' e' g1 g2 g3 g4 g5 => ?_
      · cases e' with
        | normal => exact grow n _ h' kn ke kr x B he hB
        | exit i => exact hB (.exit i) A' h' he
        | ret => exact hB .ret A' h' he
      · cases e' with
        | normal => exact ih r' a' w' _ h' g5 (g1.norm live) g2 g4.rel (free_B g4 hfree) fun r'' a'' w'' A'' h'' e'' k1 k2 k3 k4 k5 => hQ r'' a'' w'' A'' h'' e'' k1 k2 (k3.trans g3) (g4.trans k4) k5
        | exit i => exact hQ r' a' w' A' h' (.exit i) g1 g2 g3 g4 g5
        | ret => exact hQ r' a' w' A' h' .ret g1 g2 g3 g4 g5

/-! ### results -/

def asTup (v : AV) (f : List AV → Option β) : Option β := match v with | .tup vs => f vs | _ => none
def asFunc (id : FuncId) (v : AV) (f : List AV → List AV → Option β) : Option β := match v with | .func g a b => cond (Nat.beq g id) (f a b) none | _ => none

theorem asTup_some {v : AV} {f : List AV → Option β} {x : β} (h : asTup v f = some x) : ∃ vs, v = .tup vs ∧ f vs = some x := by
  unfold asTup at h; split at h
  · exact ⟨_, rfl, h⟩
  · cases h
theorem asFunc_some {id : FuncId} {v : AV} {f : List AV → List AV → Option β} {x : β} (h : asFunc id v f = some x) : ∃ a b, v = .func id a b ∧ f a b = some x := by
  unfold asFunc at h; split at h
  · rename_i g a b
    cases hb : Nat.beq g id with
    | false => rw [hb] at h; cases h
    | true => rw [hb] at h; have := Nat.eq_of_beq_eq_true hb; subst this; exact ⟨_, _, rfl, h⟩
  · cases h

section
variable {γ : Type} (g : β → Option γ)
theorem asInt_bind (k : IntKind) (v : AV) (f : Int → Option β) : (asInt k v f).bind g = asInt k v fun n => (f n).bind g := by unfold asInt; split <;> (try split) <;> rfl
theorem asBool_bind (v : AV) (f : Bool → Option β) : (asBool v f).bind g = asBool v fun n => (f n).bind g := by unfold asBool; split <;> rfl
theorem asStr_bind (v : AV) (f : ByteArray → Option β) : (asStr v f).bind g = asStr v fun n => (f n).bind g := by unfold asStr; split <;> rfl
theorem asPtr_bind (v : AV) (f : Option (Nat × Nat) → Option β) : (asPtr v f).bind g = asPtr v fun n => (f n).bind g := by unfold asPtr; split <;> rfl
theorem asSlice_bind (v : AV) (f : Option (Nat × Nat) → Nat → Cap → Option β) : (asSlice v f).bind g = asSlice v fun p l c => (f p l c).bind g := by unfold asSlice; split <;> rfl
theorem asMap_bind (v : AV) (f : Option Nat → Option β) : (asMap v f).bind g = asMap v fun n => (f n).bind g := by unfold asMap; split <;> rfl
theorem asAgg_bind (v : AV) (f : List AV → Option β) : (asAgg v f).bind g = asAgg v fun n => (f n).bind g := by unfold asAgg; split <;> rfl
theorem asTup_bind (v : AV) (f : List AV → Option β) : (asTup v f).bind g = asTup v fun n => (f n).bind g := by unfold asTup; split <;> rfl
theorem l0_bind (l : List AV) (f : Option β) : (l0 l f).bind g = l0 l (f.bind g) := by unfold l0; split <;> rfl
theorem lc_bind (l : List AV) (f : AV → List AV → Option β) : (lc l f).bind g = lc l fun v vs => (f v vs).bind g := by unfold lc; split <;> rfl
theorem asFunc_bind (id : FuncId) (v : AV) (f : List AV → List AV → Option β) : (asFunc id v f).bind g = asFunc id v fun a b => (f a b).bind g := by
  unfold asFunc; split
  · rename_i q a b; cases Nat.beq q id <;> rfl
  · rfl
end

end

/-! ### tables -/

structure Entry (P : Program) where
  id : FuncId
  run : ∀ {β : Type}, List AV → H → (AV → H → Option β) → Option β
  nat : ∀ {β : Type} (args : List AV) (h : H) (k : AV → H → Option β), run args h k = (run args h fun v h' => some (v, h')).bind fun q => k q.1 q.2
  sound : ∀ args h v h', (run args h fun v h' => some (v, h')) = some (v, h') → Called P id args h v h'
  fits : List AV → Bool := fun _ => true

/-- the function values that an entry is for -/
def fitsF (args : List AV) : List (Nat × Nat) → Bool
  | [] => true
  | (j, f) :: l => (match args[j]? with | some (.func g _ _) => Nat.beq g f | _ => false) && fitsF args l

def runOf {P : Program} {β : Type} : List (Entry P) → FuncId → List AV → H → (AV → H → Option β) → Option β
  | [], _, _, _, _ => none
  | e :: l, f, args, h, k => cond (Nat.beq e.id f && e.fits args) (e.run args h k) (runOf l f args h k)

theorem runOf_nat {P : Program} {β : Type} (f : FuncId) (args : List AV) (h : H) (k : AV → H → Option β) : ∀ l : List (Entry P), runOf l f args h k = (runOf l f args h fun v h' => some (v, h')).bind fun q => k q.1 q.2
  | [] => rfl
  | e :: l => by
    simp only [runOf]
    cases Nat.beq e.id f && e.fits args with
    | true => exact e.nat args h k
    | false => exact runOf_nat f args h k l

def tableOf {P : Program} (l : List (Entry P)) : CK := ⟨runOf l, fun f args h k => runOf_nat f args h k l⟩

theorem tableOf_sound {P : Program} (l : List (Entry P)) : (tableOf l).call.Sound P := by
  intro f args h v h' e
  change runOf l f args h (fun v h' => some (v, h')) = some (v, h') at e
  induction l with
  | nil => cases e
  | cons x l ih =>
    simp only [runOf] at e
    cases hb : Nat.beq x.id f && x.fits args with
    | true =>
      rw [hb] at e
      have := Nat.eq_of_beq_eq_true (Bool.and_eq_true_iff.1 hb).1
      subst this
      exact x.sound args h v h' e
    | false => rw [hb] at e; exact ih e

/-! ### where a piece of code lies -/

def codeAt : Code → List Nat → Code
  | c, [] => c
  | .seq a _, 0 :: p => codeAt a p
  | .seq _ b, _ :: p => codeAt b p
  | .cond _ a _, 0 :: p => codeAt a p
  | .cond _ _ b, _ :: p => codeAt b p
  | .block _ c, _ :: p => codeAt c p
  | .loop c, _ :: p => codeAt c p
  | .scope c, _ :: p => codeAt c p
  | c, _ => c

def opsAt (c : Code) (p : List Nat) : Array Oper := match codeAt c p with | .region _ ops _ => ops | _ => #[]
def condAt (c : Code) (p : List Nat) : Operand := match codeAt c p with | .cond x _ _ => x | _ => .global 0
def bodyOf (f : Func) : Code := match f.body with | some c => c | none => .skip

/-! ### small names -/

def iand (k : IntKind) (a b : Int) : Int := k.wrap (BitVec.ofInt k.bits a &&& BitVec.ofInt k.bits b).toNat
def ior (k : IntKind) (a b : Int) : Int := k.wrap (BitVec.ofInt k.bits a ||| BitVec.ofInt k.bits b).toNat
def ixor (k : IntKind) (a b : Int) : Int := k.wrap (BitVec.ofInt k.bits a ^^^ BitVec.ofInt k.bits b).toNat
def iandNot (k : IntKind) (a b : Int) : Int := k.wrap (BitVec.ofInt k.bits a &&& ~~~ BitVec.ofInt k.bits b).toNat
def inot (k : IntKind) (n : Int) : Int := k.wrap (BitVec.ofInt k.bits (if k.signed then -1 else k.max) ^^^ BitVec.ofInt k.bits n).toNat
def ishl (k : IntKind) (a b : Int) : Int := k.wrap (a * 2 ^ min b.toNat k.bits)
def ishr (k : IntKind) (a b : Int) : Int := a.fdiv (2 ^ min b.toNat k.bits)

def eqVK {β : Type} (P : Program) (t : TypeId) (x y : AV) (f : Bool → Option β) : Option β := match evEqB P Op.maxDepth t x y with | some b => f b | none => none

/-! ### the same, said of a place in a function's code -/

def idAt (c : Code) (p : List Nat) : Nat := match codeAt c p with | .region i _ _ => i | _ => 0

theorem denSkip {β : Type} {S : Bool} {P : Program} {N : Nat} {c : Code} (h : c = .skip) : DenG S P N c (skipC : KC β) := h ▸ DenG.skip
theorem denRet {β : Type} {S : Bool} {P : Program} {N : Nat} {c : Code} (h : c = .ret) : DenG S P N c (retC : KC β) := h ▸ DenG.ret
theorem denExit {β : Type} {S : Bool} {P : Program} {N i : Nat} {c : Code} (h : c = .exit i) : DenG S P N c (exitC i : KC β) := h ▸ DenG.exit
theorem denRegion {β : Type} {S : Bool} {P : Program} {N i : Nat} {ops : Array Oper} {draw : Bool} {c : Code} (h : c = .region i ops draw) (hm : P.follows .mixedOrders = true) {ck : CK} (hck : ck.call.Sound P) (hok : (!draw || okRegion P ops) = true) :
    DenG S P N c (regC P ck N ops draw : KC β) := h ▸ DenG.region hm hck hok
theorem denSeq {β : Type} {S : Bool} {P : Program} {N : Nat} {c c1 c2 : Code} {X Y : KC β} (h : c = .seq c1 c2) (d1 : DenG S P N c1 X) (d2 : DenG S P N c2 Y) : DenG S P N c (seqC X Y) := h ▸ d1.seq d2
theorem denCond {β : Type} {S : Bool} {P : Program} {N : Nat} {c c1 c2 : Code} {o : Operand} {X Y : KC β} (h : c = .cond o c1 c2) (d1 : DenG S P N c1 X) (d2 : DenG S P N c2 Y) : DenG S P N c (condC N o X Y) := h ▸ d1.cond d2
theorem denBlock {β : Type} {S : Bool} {P : Program} {N i : Nat} {c c1 : Code} {X : KC β} (h : c = .block i c1) (d : DenG S P N c1 X) : DenG S P N c (blockC i X) := h ▸ d.block
theorem denLabel {β : Type} {S : Bool} {P : Program} {N l : Nat} {c : Code} (h : c = .label l) : DenG S P N c (skipC : KC β) := h ▸ DenG.label
theorem denScope {β : Type} {S : Bool} {P : Program} {N : Nat} {c c1 : Code} {X : KC β} (h : c = .scope c1) (d : DenG S P N c1 X) : DenG S P N c X := h ▸ d.scope
theorem denLoop {β : Type} {S : Bool} {P : Program} {N : Nat} {c c1 : Code} {X : KC β} {live : List Nat} (h : c = .loop c1) (d : DenG S P N c1 X) (n : Nat) : DenG S P N c (loopL live X n) := h ▸ DenG.loopL live d n

end Go.Ev

namespace Go.Ev
/-! ### what stays closed: so that two texts that name the same thing meet by its name -/

theorem shutEx {α : Type} (x : α) : ∃ y : α, y = x := ⟨x, rfl⟩
noncomputable def shutK {α : Type} (x : α) : α := Classical.choose (shutEx x)
theorem shutK_eq {α : Type} (x : α) : shutK x = x := Classical.choose_spec (shutEx x)
theorem shutD {β : Type} {S : Bool} {P : Program} {N : Nat} {c : Code} {X : KC β} (d : DenG S P N c X) : DenG S P N c (shutK X) := by rw [shutK_eq]; exact d
theorem openK {β : Type} {X Y : KC β} (e : X = Y) (A : KF) (h : H) (kn : KF → H → Option β) (ke : Nat → KF → H → Option β) (kr : KF → H → Option β) : X A h kn ke kr = Y A h kn ke kr := by rw [e]
end Go.Ev
