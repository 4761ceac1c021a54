/- The abstract machine Ev: all functions of a program at once, by how deep calls and rounds may go. -/
import Derived.Test.YtkikfnpanlcajaaDoorEvU
set_option linter.all false
namespace Go.Ev

section
variable {β : Type}

/-- which slots live on, by the place's number (1: the whole; 2p, 2p + 1: the parts of p) -/
abbrev Cuts := List (Nat × List Nat)
def cutAt : Cuts → Nat → Option (List Nat)
  | [], _ => none
  | (q, l) :: cs, p => match Nat.beq q p with | true => some l | false => cutAt cs p

noncomputable def cutC (js : Cuts) (p : Nat) (X : KC β) : KC β := match cutAt js p with | some l => normC l (shutK X) | none => X
noncomputable def cutL (ls : Cuts) (p n : Nat) (X : KC β) : KC β := match cutAt ls p with | some l => normC l (loopL l (shutK X) n) | none => fun _ _ _ _ _ => none
noncomputable def regG (P : Program) (ck : CK) (N : Nat) (ops : Array Oper) (draw : Bool) : KC β := match !draw || okRegion P ops with | true => regC P ck N ops draw | false => fun _ _ _ _ _ => none

noncomputable def den (P : Program) (ck : CK) (N : Nat) (js ls : Cuts) (n : Nat) (c : Code) : Nat → KC β :=
  Code.rec (motive := fun _ => Nat → KC β) (fun _ => skipC) (fun _ ops draw _ => regG P ck N ops draw)
    (fun _ _ A B p => seqC (A (2 * p)) (cutC js (2 * p + 1) (B (2 * p + 1))))
    (fun x _ _ A B p => condC N x (A (2 * p)) (B (2 * p + 1)))
    (fun i _ A p => blockC i (A (2 * p)))
    (fun _ A p => cutL ls p n (A (2 * p)))
    (fun _ _ _ _ _ _ _ => fun _ _ _ _ _ => none)
    (fun i _ => exitC i)
    (fun _ A p => A (2 * p))
    (fun _ _ => skipC)
    (fun _ _ => fun _ _ _ _ _ => none)
    (fun _ => retC)
    (fun _ _ => fun _ _ _ _ _ => none) c

theorem DenG.none {S : Bool} {P : Program} {N : Nat} {c : Code} : DenG S P N c (fun _ _ _ _ _ => none : KC β) where
  ends := fun _ _ _ _ _ _ e => by cases e
  sim := fun _ _ _ _ _ _ _ _ _ _ e => by cases e

theorem DenG.cutC {S : Bool} {P : Program} {N : Nat} {c : Code} {js : Cuts} {p : Nat} {X : KC β} (d : DenG S P N c X) : DenG S P N c (cutC js p X) := by
  unfold Ev.cutC
  split
  · exact DenG.norm _ (shutD d)
  · exact d
theorem DenG.cutL {S : Bool} {P : Program} {N : Nat} {c : Code} {ls : Cuts} {p n : Nat} {X : KC β} (d : DenG S P N c X) : DenG S P N (.loop c) (cutL ls p n X) := by
  unfold Ev.cutL
  split
  · exact DenG.norm _ (DenG.loopL _ (shutD d) n)
  · exact DenG.none
theorem DenG.regG {S : Bool} {P : Program} (hm : P.follows .mixedOrders = true) {ck : CK} (hck : ck.call.Sound P) {N id : Nat} {ops : Array Oper} {draw : Bool} : DenG S P N (.region id ops draw) (regG P ck N ops draw : KC β) := by
  unfold Ev.regG
  split
  · rename_i h; exact DenG.region hm hck h
  · exact DenG.none

theorem den_sound {S : Bool} {P : Program} (hm : P.follows .mixedOrders = true) {ck : CK} (hck : ck.call.Sound P) {N : Nat} {js ls : Cuts} {n : Nat} : ∀ (c : Code) (p : Nat), DenG S P N c (den P ck N js ls n c p : KC β)
  | .skip, _ => DenG.skip
  | .region _ _ _, _ => DenG.regG hm hck
  | .seq a b, p => by
    show DenG S P N (.seq a b) (seqC (den P ck N js ls n a (2 * p)) (Ev.cutC js (2 * p + 1) (den P ck N js ls n b (2 * p + 1))))
    exact DenG.seq (den_sound hm hck a (2 * p)) (DenG.cutC (den_sound hm hck b (2 * p + 1)))
  | .cond _ a b, p => DenG.cond (den_sound hm hck a (2 * p)) (den_sound hm hck b (2 * p + 1))
  | .block _ c, p => DenG.block (den_sound hm hck c (2 * p))
  | .loop c, p => DenG.cutL (den_sound hm hck c (2 * p))
  | .rangeFunc _ _ _ _, _ => DenG.none
  | .exit _, _ => DenG.exit
  | .scope c, p => DenG.scope (den_sound hm hck c (2 * p))
  | .label _, _ => DenG.label
  | .goto _, _ => DenG.none
  | .ret, _ => DenG.ret
  | .refuse _, _ => DenG.none

/-! ### from within: at a place in the code, with all that follows -/

/-- on from the place at 'path', whose rounds still to go are told for each loop on the way -/
noncomputable def jmp (P : Program) (ck : CK) (N : Nat) (js ls : Cuts) (n : Nat) : List Nat → Code → Nat → List Nat → KC β
  | [], .loop c, p, m :: _ => match cutAt ls p with | some l => loopL l (shutK (den P ck N js ls n c (2 * p))) m | none => fun _ _ _ _ _ => none
  | [], c, p, _ => shutK (den P ck N js ls n c p)
  | 0 :: t, .seq a b, p, ms => fun A h kn ke kr => jmp P ck N js ls n t a (2 * p) ms A h (fun A h => cutC js (2 * p + 1) (den P ck N js ls n b (2 * p + 1)) A h kn ke kr) ke kr
  | _ :: t, .seq _ b, p, ms => fun A h kn ke kr => jmp P ck N js ls n t b (2 * p + 1) ms A h kn ke kr
  | 0 :: t, .cond _ a _, p, ms => fun A h kn ke kr => jmp P ck N js ls n t a (2 * p) ms A h kn ke kr
  | _ :: t, .cond _ _ b, p, ms => fun A h kn ke kr => jmp P ck N js ls n t b (2 * p + 1) ms A h kn ke kr
  | _ :: t, .block i c, p, ms => fun A h kn ke kr => jmp P ck N js ls n t c (2 * p) ms A h kn (fun j A h => cond (Nat.beq j i) (kn A h) (ke j A h)) kr
  | _ :: t, .scope c, p, ms => fun A h kn ke kr => jmp P ck N js ls n t c (2 * p) ms A h kn ke kr
  | _ :: t, .loop c, p, m :: ms => fun A h kn ke kr =>
    match cutAt ls p with
    | some l => jmp P ck N js ls n t c (2 * p) ms A h (fun A h => loopL l (shutK (den P ck N js ls n c (2 * p))) m (norm l A) h kn ke kr) ke kr
    | none => none
  | _, _, _, _ => fun _ _ _ _ _ => none

/-- the same, the place itself opened; a loop with one round less -/
noncomputable def jmpO (P : Program) (ck : CK) (N : Nat) (js ls : Cuts) (n : Nat) : List Nat → Code → Nat → List Nat → KC β
  | [], .loop c, p, m :: _ => match cutAt ls p with | some l => (match m with | 0 => fun _ _ _ _ _ => none | m + 1 => fun A h kn ke kr => den P ck N js ls n c (2 * p) A h (fun A h => loopL l (shutK (den P ck N js ls n c (2 * p))) m (norm l A) h kn ke kr) ke kr) | none => fun _ _ _ _ _ => none
  | [], c, p, _ => den P ck N js ls n c p
  | 0 :: t, .seq a b, p, ms => fun A h kn ke kr => jmpO P ck N js ls n t a (2 * p) ms A h (fun A h => cutC js (2 * p + 1) (den P ck N js ls n b (2 * p + 1)) A h kn ke kr) ke kr
  | _ :: t, .seq _ b, p, ms => fun A h kn ke kr => jmpO P ck N js ls n t b (2 * p + 1) ms A h kn ke kr
  | 0 :: t, .cond _ a _, p, ms => fun A h kn ke kr => jmpO P ck N js ls n t a (2 * p) ms A h kn ke kr
  | _ :: t, .cond _ _ b, p, ms => fun A h kn ke kr => jmpO P ck N js ls n t b (2 * p + 1) ms A h kn ke kr
  | _ :: t, .block i c, p, ms => fun A h kn ke kr => jmpO P ck N js ls n t c (2 * p) ms A h kn (fun j A h => cond (Nat.beq j i) (kn A h) (ke j A h)) kr
  | _ :: t, .scope c, p, ms => fun A h kn ke kr => jmpO P ck N js ls n t c (2 * p) ms A h kn ke kr
  | _ :: t, .loop c, p, m :: ms => fun A h kn ke kr =>
    match cutAt ls p with
    | some l => jmpO P ck N js ls n t c (2 * p) ms A h (fun A h => loopL l (shutK (den P ck N js ls n c (2 * p))) m (norm l A) h kn ke kr) ke kr
    | none => none
  | _, _, _, _ => fun _ _ _ _ _ => none

theorem jmp_open {P : Program} {ck : CK} {N : Nat} {js ls : Cuts} {n : Nat} (t : List Nat) : ∀ (c : Code) (p : Nat) (ms : List Nat) (A : KF) (h : H) (kn : KF → H → Option β) (ke : Nat → KF → H → Option β) (kr : KF → H → Option β),
    jmp P ck N js ls n t c p ms A h kn ke kr = jmpO P ck N js ls n t c p ms A h kn ke kr := by
  induction t with
  | nil =>
    intro c p ms A h kn ke kr
    cases c with
    | loop c =>
      cases ms with
      | nil => simp only [jmp, jmpO, shutK_eq]
      | cons m ms =>
        simp only [jmp, jmpO]
        cases cutAt ls p with
        | none => rfl
        | some l =>
          cases m with
          | zero => rfl
          | succ m => simp only [loopL, shutK_eq]
    | _ => simp only [jmp, jmpO, shutK_eq]
  | cons x t ih =>
    intro c p ms A h kn ke kr
    cases c with
    | seq a b => cases x <;> simp only [jmp, jmpO, ih]
    | cond y a b => cases x <;> simp only [jmp, jmpO, ih]
    | block i c => simp only [jmp, jmpO, ih]
    | scope c => simp only [jmp, jmpO, ih]
    | loop c => cases ms <;> simp only [jmp, jmpO, ih]
    | _ => simp only [jmp, jmpO]

/-! ### a program's functions -/

/-- a function that is walked: where its ways meet, and its loops -/
structure FEnt (P : Program) where
  id : Nat
  fn : Func
  js : Cuts
  ls : Cuts
  ok : P.funcs[id]? = some fn
  nm : (fn.name == "runtime.NumGoroutine") = false
  bd : fn.body.isSome = true

def fnd {P : Program} : List (FEnt P) → Nat → Option (FEnt P)
  | [], _ => none
  | e :: l, f => match Nat.beq e.id f with | true => some e | false => fnd l f

theorem fnd_id {P : Program} {f : Nat} {e : FEnt P} : ∀ {l : List (FEnt P)}, fnd l f = some e → e.id = f
  | [], h => by cases h
  | x :: l, h => by
    unfold fnd at h
    split at h
    · rename_i hb; cases h; exact Nat.eq_of_beq_eq_true hb
    · exact fnd_id h

/-- the shape of a function's answer -/
def resShape (P : Program) : List TypeId → Option (List Shape)
  | [] => some []
  | t :: ts => match resShape P ts with | some l => some (rowShape P t :: l) | none => none

def tupK (ss : List Shape) (v : AV) (f : AV → Option β) : Option β := asTup v fun l => shapesK ss l fun us => f (.tup us)
def crc (P : Program) (rts : List TypeId) (v : AV) (f : AV → Option β) : Option β :=
  match rts with
  | [t] => shapeK (rowShape P t) v f
  | ts => tupK (ts.map (rowShape P)) v f

theorem crc_some {P : Program} {rts : List TypeId} {v : AV} {f : AV → Option β} {x : β} (h : crc P rts v f = some x) : f v = some x := by
  unfold crc at h
  split at h
  · exact shapeK_some _ h
  · unfold tupK at h
    obtain ⟨vs, rfl, h⟩ := asTup_some h
    exact shapesK_some _ (f := fun us => f (.tup us)) h

end

section
variable {β γ : Type} (g : β → Option γ)
mutual
theorem shapeK_bind : ∀ (s : Shape) (v : AV) (f : AV → Option β), (shapeK s v f).bind g = shapeK s v fun u => (f u).bind g
  | .int k, v, f => by simp only [shapeK, asInt_bind]
  | .bool, v, f => by simp only [shapeK, asBool_bind]
  | .str, v, f => by simp only [shapeK, asStr_bind]
  | .ptr, v, f => by simp only [shapeK, asPtr_bind]
  | .slice, v, f => by simp only [shapeK, asSlice_bind]
  | .map, v, f => by simp only [shapeK, asMap_bind]
  | .any, v, f => by simp only [shapeK]
  | .row, v, f => by simp only [shapeK, asAgg_bind]
  | .cells l, v, f => by
    simp only [shapeK, asAgg_bind]
    congr 1
    funext vs
    exact shapesK_bind l vs fun us => f (.agg us)
theorem shapesK_bind : ∀ (ss : List Shape) (vs : List AV) (f : List AV → Option β), (shapesK ss vs f).bind g = shapesK ss vs fun us => (f us).bind g
  | [], vs, f => by simp only [shapesK, l0_bind]
  | s :: ss, vs, f => by
    simp only [shapesK, lc_bind]
    congr 1
    funext v vs
    rw [shapeK_bind s v]
    congr 1
    funext u
    exact shapesK_bind ss vs fun us => f (u :: us)
end
theorem crc_bind (P : Program) (rts : List TypeId) (v : AV) (f : AV → Option β) : (crc P rts v f).bind g = crc P rts v fun u => (f u).bind g := by
  unfold crc
  split
  · exact shapeK_bind g _ v f
  · unfold tupK
    rw [asTup_bind]
    congr 1
    funext l
    exact shapesK_bind g _ l fun us => f (.tup us)
end

section
/-- the answers' types of a function -/
def rtsAt : List (Nat × List TypeId) → Nat → Option (List TypeId)
  | [], _ => none
  | (g, l) :: t, f => match Nat.beq g f with | true => some l | false => rtsAt t f

noncomputable def resF (P : Program) (N : Nat) (rs : Array ResultVar) : KF → H → Option (AV × H) := fun A h => resK P N A h rs.toList fun vs => some (oneOf vs, h)

/-- the tables of a program: which functions are walked; what others answer -/
structure Tab (P : Program) where
  tbl : List (FEnt P)
  leaf : Nat → CK
  sound : ∀ n, (leaf n).call.Sound P
  /-- the types of the answers that are looked at -/
  rts : List (Nat × List TypeId)

def crF {β : Type} {P : Program} (T : Tab P) (f : Nat) (v : AV) (k : AV → Option β) : Option β := match rtsAt T.rts f with | some l => crc P l v k | none => k v
theorem crF_some {β : Type} {P : Program} {T : Tab P} {f : Nat} {v : AV} {k : AV → Option β} {x : β} (h : crF T f v k = some x) : k v = some x := by
  unfold crF at h
  split at h
  · exact crc_some h
  · exact h
theorem crF_bind {β γ : Type} {P : Program} {T : Tab P} (g : β → Option γ) (f : Nat) (v : AV) (k : AV → Option β) : (crF T f v k).bind g = crF T f v fun u => (k u).bind g := by
  unfold crF
  split
  · exact crc_bind g P _ v k
  · rfl

def ckOf {P : Program} (T : Tab P) (call : CallFn) : CK where
  run := fun f args h k => (call f args h).bind fun q => crF T f q.1 fun v => k v q.2
  nat := by
    intro β f args h k
    rw [Option.bind_assoc]
    congr 1
    funext q
    rw [crF_bind]
    rfl

noncomputable def runE {P : Program} (ck : CK) (n : Nat) (e : FEnt P) (args : List AV) (h : H) : Option (AV × H) :=
  match Nat.ble args.length e.fn.ntmps with
  | true => den P ck e.fn.ntmps e.js e.ls n (bodyOf e.fn) 1 (argsF args 0) h (resF P e.fn.ntmps e.fn.results) (fun _ _ _ => none) (resF P e.fn.ntmps e.fn.results)
  | false => none

noncomputable def callF {P : Program} (T : Tab P) (n : Nat) : CallFn :=
  Nat.rec (motive := fun _ => CallFn) (fun _ _ _ => none)
    (fun n c f args h => match fnd T.tbl f with | some e => runE (ckOf T c) n e args h | none => (T.leaf n).call f args h) n

theorem ckOf_sound {P : Program} {T : Tab P} {call : CallFn} (hc : call.Sound P) : (ckOf T call).call.Sound P := by
  intro f args h v h' e
  obtain ⟨q, h1, h2⟩ := Option.bind_eq_some_iff.1 e
  have := crF_some h2
  cases this
  exact hc _ _ _ _ _ h1

theorem runE_acall {P : Program} (hm : P.follows .mixedOrders = true) {ck : CK} (hck : ck.call.Sound P) {n : Nat} {e : FEnt P} {args : List AV} {h h' : H} {v : AV} (r : runE ck n e args h = some (v, h')) : ACall P e.id args h v h' := by
  obtain ⟨c, hb⟩ := Option.isSome_iff_exists.1 e.bd
  unfold runE at r
  split at r
  · rename_i hl
    have hbo : bodyOf e.fn = c := by unfold bodyOf; rw [hb]
    rw [hbo] at r
    exact acall_of (k := fun v h => some (v, h)) (den_sound (S := false) hm hck c 1) e.ok hb e.nm rfl (Nat.le_of_ble_eq_true hl) r fun v1 h1 e1 => by cases e1; exact ⟨rfl, rfl⟩
  · cases r

theorem callF_sound {P : Program} (hm : P.follows .mixedOrders = true) (T : Tab P) : ∀ n, (callF T n).Sound P
  | 0 => fun _ _ _ _ _ e => by cases e
  | n + 1 => fun f args h v h' e => by
    change (match fnd T.tbl f with | some e => runE (ckOf T (callF T n)) n e args h | none => (T.leaf n).call f args h) = some (v, h') at e
    split at e
    · rename_i en he
      have := fnd_id he
      subst this
      exact .inl (runE_acall hm (ckOf_sound (callF_sound hm T n)) e)
    · exact T.sound n _ _ _ _ _ e

/-- on from a place of a function -/
noncomputable def J {P : Program} (T : Tab P) (n : Nat) (e : FEnt P) (t ms : List Nat) (A : KF) (h : H) : Option (AV × H) :=
  jmp P (ckOf T (callF T n)) e.fn.ntmps e.js e.ls n t (bodyOf e.fn) 1 ms A h (resF P e.fn.ntmps e.fn.results) (fun _ _ _ => none) (resF P e.fn.ntmps e.fn.results)
noncomputable def JO {P : Program} (T : Tab P) (n : Nat) (e : FEnt P) (t ms : List Nat) (A : KF) (h : H) : Option (AV × H) :=
  jmpO P (ckOf T (callF T n)) e.fn.ntmps e.js e.ls n t (bodyOf e.fn) 1 ms A h (resF P e.fn.ntmps e.fn.results) (fun _ _ _ => none) (resF P e.fn.ntmps e.fn.results)
theorem J_eq {P : Program} (T : Tab P) (n : Nat) (e : FEnt P) (t ms : List Nat) (A : KF) (h : H) : J T n e t ms A h = JO T n e t ms A h := jmp_open t _ 1 ms A h _ _ _

/-! ### small names -/

variable {β : Type}
def asFn (v : AV) (f : Nat → List AV → List AV → Option β) : Option β := match v with | .func g a b => f g a b | _ => none
def lI (l : List AV) (f : Int → List AV → Option β) : Option β := lc l fun v l => asInt .i64 v fun x => f x l
def lB (l : List AV) (f : Bool → List AV → Option β) : Option β := lc l fun v l => asBool v fun x => f x l
def lS (l : List AV) (f : ByteArray → List AV → Option β) : Option β := lc l fun v l => asStr v fun x => f x l
def lP (l : List AV) (f : Option (Nat × Nat) → List AV → Option β) : Option β := lc l fun v l => asPtr v fun x => f x l
def lL (l : List AV) (f : Option (Nat × Nat) → Nat → Cap → List AV → Option β) : Option β := lc l fun v l => asSlice v fun x n c => f x n c l
def lA (l : List AV) (f : List AV → List AV → Option β) : Option β := lc l fun v l => asAgg v fun x => f x l
def lM (l : List AV) (f : Option Nat → List AV → Option β) : Option β := lc l fun v l => asMap v fun x => f x l
@[simp] theorem extK_of {vs : List AV} {i : Nat} {v : AV} (hv : vs[i]? = some v) (k : AV → Option β) : extK (.tup vs) i k = k v := by simp only [extK, hv]
@[simp] theorem asTup_tup (l : List AV) (f : List AV → Option β) : asTup (.tup l) f = f l := nr rfl
abbrev Pt := Option (Nat × Nat)
abbrev Bs := ByteArray

@[simp] theorem lI_of (x : Int) (l : List AV) (f : Int → List AV → Option β) : lI (.int .i64 x :: l) f = f x l := nr rfl
@[simp] theorem lB_of (x : Bool) (l : List AV) (f : Bool → List AV → Option β) : lB (.bool x :: l) f = f x l := nr rfl
@[simp] theorem lS_of (x : ByteArray) (l : List AV) (f : ByteArray → List AV → Option β) : lS (.str x :: l) f = f x l := nr rfl
@[simp] theorem lP_of (x : Option (Nat × Nat)) (l : List AV) (f : Option (Nat × Nat) → List AV → Option β) : lP (.ptr x :: l) f = f x l := nr rfl
@[simp] theorem lL_of (x : Option (Nat × Nat)) (n : Nat) (c : Cap) (l : List AV) (f : Option (Nat × Nat) → Nat → Cap → List AV → Option β) : lL (.slice x n c :: l) f = f x n c l := nr rfl
@[simp] theorem lA_of (x : List AV) (l : List AV) (f : List AV → List AV → Option β) : lA (.agg x :: l) f = f x l := nr rfl
@[simp] theorem lM_of (x : Option Nat) (l : List AV) (f : Option Nat → List AV → Option β) : lM (.map x :: l) f = f x l := nr rfl
@[simp] theorem asFn_of (g : Nat) (a b : List AV) (f : Nat → List AV → List AV → Option β) : asFn (.func g a b) f = f g a b := nr rfl
end
end Go.Ev
