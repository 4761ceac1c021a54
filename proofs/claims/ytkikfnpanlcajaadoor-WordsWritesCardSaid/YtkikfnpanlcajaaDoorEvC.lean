/- The abstract machine Ev, part C: all operations that look at no memory, in one function, and that each stands for the model's own. -/
import Derived.Test.YtkikfnpanlcajaaDoorEvB
set_option linter.all false
namespace Go.Ev

def evUn (op : UnOp) (x : AV) : Option AV :=
  match op, x with
  | .neg, .int k n => some (.int k (k.wrap (0 - n)))
  | .xor, .int k n => some (.int k (k.wrap (BitVec.ofInt k.bits (if k.signed then -1 else k.max) ^^^ BitVec.ofInt k.bits n).toNat))
  | .not, .bool b => some (.bool (!b))
  | _, _ => none

theorem evUn_sim {P : Program} {r : Ren} {op : UnOp} {x v : AV} {x' : Value} (h : evUn op x = some v) (hx : VR r x x') :
    ∃ v', VR r v v' ∧ ∀ w, (Op.unary op x').run P w = .ok v' w := by
  unfold evUn at h
  split at h
  · cases h; cases hx; exact ⟨_, .int _ _, fun w => rfl⟩
  · cases h; cases hx; exact ⟨_, .int _ _, fun w => rfl⟩
  · cases h; cases hx; exact ⟨_, .bool _, fun w => rfl⟩
  · cases h

def evConv (P : Program) (src dst : TypeId) (x : AV) : Option AV :=
  match P.underlying src, P.underlying dst with
  | some _, some (.int k) => match x with | .int _ n => some (.int k (k.wrap n)) | _ => none
  | some _, some .string => match x with | .str s => some (.str s) | .int _ n => some (.str (Utf8.encode n)) | _ => none
  | _, _ => none

theorem evConv_sim {P : Program} {r : Ren} {src dst : TypeId} {x v : AV} {x' : Value} (h : evConv P src dst x = some v) (hx : VR r x x') :
    ∃ v', VR r v v' ∧ ∀ w, (convert src dst x').run P w = .ok v' w := by
  unfold evConv at h
  split at h
  · rename_i d k hs hd
    split at h
    · cases h; cases hx; exact ⟨_, .int _ _, fun w => by simp [convert, run_underlying hs, run_underlying hd, Conv.intToInt]⟩
    · cases h
  · rename_i d hs hd
    split at h
    · cases h; cases hx; exact ⟨_, .str _, fun w => by simp [convert, run_underlying hs, run_underlying hd]⟩
    · cases h; cases hx; exact ⟨_, .str _, fun w => by simp [convert, run_underlying hs, run_underlying hd, Conv.intToString]⟩
    · cases h
  · cases h

def evField (P : Program) (t : TypeId) (x : AV) (f : Nat) : Option AV :=
  match P.underlying t, x with
  | some (.struct fs), .agg cs => (fs[f]?).bind fun fd => evPart P fd.type cs fd.offset
  | _, _ => none

theorem evField_sim {P : Program} {r : Ren} {t : TypeId} {f : Nat} {x v : AV} {x' : Value} (h : evField P t x f = some v) (hx : VR r x x') :
    ∃ v', VR r v v' ∧ ∀ w, (Instr.field t x' f).run P w = .ok v' w := by
  unfold evField at h
  split at h
  · rename_i fs cs hu
    obtain ⟨fd, hf, h⟩ := Option.bind_eq_some_iff.1 h
    cases hx with
    | agg _ vs h1 h2 =>
      obtain ⟨v', hv, hr⟩ := evPart_sim h h1 h2
      exact ⟨v', hv, fun w => by simp [Instr.field, run_underlying hu, hf, asAgg, hr]⟩
  · cases h

def evIndex (P : Program) (t : TypeId) (x i : AV) : Option AV :=
  match P.underlying t, x, i with
  | some (.array len e), .agg cs, .int _ n => if 0 ≤ n ∧ n < len then (if (P.info? e).isSome then evPart P e cs (n.toNat * P.cellsOf e) else none) else none
  | some .string, .str s, .int _ n => if 0 ≤ n then (s[n.toNat]?).map fun b => .int .u8 b.toNat else none
  | _, _, _ => none

theorem evIndex_sim {P : Program} {r : Ren} {t : TypeId} {x i v : AV} {x' i' : Value} (h : evIndex P t x i = some v) (hx : VR r x x') (hi : VR r i i') :
    ∃ v', VR r v v' ∧ ∀ w, (Instr.index t x' i').run P w = .ok v' w := by
  unfold evIndex at h
  split at h
  · rename_i len e cs k n hu
    split at h
    · rename_i hb
      split at h
      · rename_i hsome
        obtain ⟨inf, hsome⟩ := Option.isSome_iff_exists.1 hsome
        cases hi
        cases hx with
        | agg _ vs h1 h2 =>
          obtain ⟨v', hv, hr⟩ := evPart_sim h h1 h2
          exact ⟨v', hv, fun w => by simp [Instr.index, asIntOf, run_underlying hu, hb, run_sizeOf w hsome, hr]⟩
      · cases h
    · cases h
  · rename_i s k n hu
    split at h
    · rename_i hb
      obtain ⟨b, hs, rfl⟩ := Option.map_eq_some_iff.1 h
      cases hi
      cases hx
      exact ⟨_, .int _ _, fun w => by simp [Instr.index, asIntOf, run_underlying hu, hb, hs]⟩
    · cases h
  · cases h

def evIndexAddr (P : Program) (t : TypeId) (x i : AV) : Option AV :=
  match P.underlying t, x, i with
  | some (.array len e), .ptr (some (b, o)), .int _ n => if 0 ≤ n ∧ n < len ∧ (P.info? e).isSome then some (.ptr (some (b, o + n.toNat * P.cellsOf e))) else none
  | some (.slice e), .slice (some (b, o)) len _, .int _ n => if 0 ≤ n ∧ n < len ∧ (P.info? e).isSome then some (.ptr (some (b, o + n.toNat * P.cellsOf e))) else none
  | _, _, _ => none

theorem Addr_add (b o k : Nat) : (⟨b, o, none⟩ : Addr).add k = ⟨b, o + k, none⟩ := by
  unfold Addr.add
  split
  · rename_i h; subst h; rfl
  · rfl

theorem VR_ptr_add {r : Ren} {i o k : Nat} {t : Tgt} (h : r i = some t) : VR r (.ptr (some (i, o + k))) (.pointer (some ((⟨t.blk, t.base + o, none⟩ : Addr).add k))) := by
  rw [Addr_add, Nat.add_assoc]; exact .ptr h

theorem evIndexAddr_sim {P : Program} {r : Ren} {t : TypeId} {x i v : AV} {x' i' : Value} (h : evIndexAddr P t x i = some v) (hx : VR r x x') (hi : VR r i i') :
    ∃ v', VR r v v' ∧ ∀ w, (Instr.indexAt t x' i').run P w = .ok v' w := by
  unfold evIndexAddr at h
  split at h
  · rename_i len e b o k n hu
    split at h
    · rename_i hb
      obtain ⟨h0, h1, hsome⟩ := hb
      obtain ⟨inf, hsome⟩ := Option.isSome_iff_exists.1 hsome
      cases h
      cases hi
      cases hx with
      | ptr ht => exact ⟨_, VR_ptr_add ht, fun w => by simp [Instr.indexAt, asIntOf, run_underlying hu, Instr.sureAddr, h0, h1, run_sizeOf w hsome]⟩
    · cases h
  · rename_i e b o len c k n hu
    split at h
    · rename_i hb
      obtain ⟨h0, h1, hsome⟩ := hb
      obtain ⟨inf, hsome⟩ := Option.isSome_iff_exists.1 hsome
      cases h
      cases hi
      cases hx with
      | slice len c ht => exact ⟨_, VR_ptr_add ht, fun w => by simp [Instr.indexAt, asIntOf, run_underlying hu, h0, h1, run_sizeOf w hsome]⟩
      | sliceRest len size cap ht hc hl => exact ⟨_, VR_ptr_add ht, fun w => by simp [Instr.indexAt, asIntOf, run_underlying hu, h0, h1, run_sizeOf w hsome]⟩
      | sliceBare a => simp at h1; omega
      | sliceEnd a size _ => simp at h1; omega
    · cases h
  · cases h

def evFieldAddr (P : Program) (t : TypeId) (x : AV) (f : Nat) : Option AV :=
  match P.underlying t, x with
  | some (.struct fs), .ptr (some (b, o)) => (fs[f]?).bind fun fd => if (P.info? fd.type).isSome ∧ P.cellsOf fd.type ≠ 0 then some (.ptr (some (b, o + fd.offset))) else none
  | _, _ => none

theorem evFieldAddr_sim {P : Program} {r : Ren} {t : TypeId} {f : Nat} {x v : AV} {x' : Value} (h : evFieldAddr P t x f = some v) (hx : VR r x x') :
    ∃ v', VR r v v' ∧ ∀ w, (Instr.fieldAt t x' f).run P w = .ok v' w := by
  unfold evFieldAddr at h
  split at h
  · rename_i fs b o hu
    obtain ⟨fd, hf, h⟩ := Option.bind_eq_some_iff.1 h
    split at h
    · rename_i hb
      obtain ⟨hsome, h0⟩ := hb
      obtain ⟨inf, hsome⟩ := Option.isSome_iff_exists.1 hsome
      cases h
      cases hx with
      | ptr ht => exact ⟨_, VR_ptr_add ht, fun w => by simp [Instr.fieldAt, run_underlying hu, hf, Instr.sureAddr, fieldPlace, run_sizeOf w hsome, h0]⟩
    · cases h
  · cases h

def evNil (x : AV) : Option AV :=
  match x with
  | .ptr (some p) => some (.ptr (some p))
  | .func f a b => some (.func f a b)
  | _ => none

def evExtract (x : AV) (i : Nat) : Option AV :=
  match x with
  | .tup vs => vs[i]?
  | _ => none

theorem evExtract_sim {P : Program} {r : Ren} {x v : AV} {x' : Value} {i : Nat} (h : evExtract x i = some v) (hx : VR r x x') :
    ∃ v', VR r v v' ∧ ∀ w, (Instr.extract x' i).run P w = .ok v' w := by
  unfold evExtract at h
  split at h
  · cases hx with
    | tup _ vs h1 h2 =>
      have hlt : i < vs.size := by rw [← h1]; exact (List.getElem?_eq_some_iff.1 h).1
      have hv : vs[i]? = some vs[i] := Array.getElem?_eq_getElem hlt
      exact ⟨_, h2 i v _ h hv, fun w => by simp [Instr.extract, hv]⟩
  · cases h

/-! ### slicing -/

def evBound (x : AV) (y : Nat) : Option Nat :=
  match x with
  | .int _ i => if 0 ≤ i ∧ i ≤ y then some i.toNat else none
  | _ => none

theorem evBound_sim {P : Program} {r : Ren} {x : AV} {x' : Value} {y n : Nat} (h : evBound x y = some n) (hx : VR r x x') (code : BoundsCode) (w : World) :
    (Instr.sliceBound x' y code).run P w = .ok n w := by
  unfold evBound at h
  split at h
  · split at h
    · rename_i hb; cases h; cases hx; simp [Instr.sliceBound, asIntOf, hb]
    · cases h
  · cases h

def evBounds (len cap : Nat) (lo hi mx : Option AV) : Option (Nat × Nat × Nat) :=
  (match mx with | some v => evBound v cap | none => some cap).bind fun m =>
  (match hi, mx with | some v, _ => evBound v m | none, none => some len | none, some _ => none).bind fun h =>
  (match lo with | some v => evBound v h | none => some 0).bind fun l => some (l, h, m)

inductive OVR (r : Ren) : Option AV → Option Value → Prop
  | none : OVR r none none
  | some {a : AV} {v : Value} (h : VR r a v) : OVR r (some a) (some v)

theorem OVR.map {r : Ren} {f : Operand → AV} {g : Operand → Value} (h : ∀ x, VR r (f x) (g x)) (x : Option Operand) : OVR r (x.map f) (x.map g) := by
  cases x with
  | none => exact .none
  | some x => exact .some (h x)

theorem evBounds_sim {P : Program} {r : Ren} {len cap : Nat} {lo hi mx : Option AV} {lo' hi' mx' : Option Value} {q : Nat × Nat × Nat} (h : evBounds len cap lo hi mx = some q)
    (h1 : OVR r lo lo') (h2 : OVR r hi hi') (h3 : OVR r mx mx') (b : Bool) (w : World) : (Instr.sliceBounds b len cap lo' hi' mx').run P w = .ok q w := by
  unfold evBounds at h
  obtain ⟨m, hm, h⟩ := Option.bind_eq_some_iff.1 h
  obtain ⟨hh, hhm, h⟩ := Option.bind_eq_some_iff.1 h
  obtain ⟨l, hl, h⟩ := Option.bind_eq_some_iff.1 h
  cases h
  unfold Instr.sliceBounds
  cases h3 with
  | none =>
    cases hm
    cases h2 with
    | none =>
      cases hhm
      cases h1 with
      | none => cases hl; simp
      | some v1 => simp [evBound_sim hl v1]
    | some v2 =>
      cases h1 with
      | none => cases hl; simp [evBound_sim hhm v2]
      | some v1 => simp [evBound_sim hhm v2, evBound_sim hl v1]
  | some v3 =>
    cases h2 with
    | none => cases hhm
    | some v2 =>
      cases h1 with
      | none => cases hl; simp [evBound_sim hhm v2, evBound_sim hm v3]
      | some v1 => simp [evBound_sim hhm v2, evBound_sim hl v1, evBound_sim hm v3]

theorem evBounds_le {len cap : Nat} {lo hi mx : Option AV} {l h m : Nat} (e : evBounds len cap lo hi mx = some (l, h, m)) (hlc : len ≤ cap) : l ≤ h ∧ h ≤ m ∧ m ≤ cap ∧ (mx = none → m = cap) := by
  unfold evBounds at e
  obtain ⟨m', hm, e⟩ := Option.bind_eq_some_iff.1 e
  obtain ⟨h', hh, e⟩ := Option.bind_eq_some_iff.1 e
  obtain ⟨l', hl, e⟩ := Option.bind_eq_some_iff.1 e
  cases e
  have bd : ∀ (x : AV) (y n : Nat), evBound x y = some n → n ≤ y := by
    intro x y n hx
    unfold evBound at hx
    split at hx
    · split at hx
      · cases hx; omega
      · cases hx
    · cases hx
  have hlh : l ≤ h := by
    split at hl
    · exact bd _ _ _ hl
    · cases hl; omega
  have hmc : m ≤ cap := by
    split at hm
    · exact bd _ _ _ hm
    · cases hm; omega
  have hhm : h ≤ m := by
    split at hh
    · exact bd _ _ _ hh
    · cases hh; cases hm; exact hlc
    · cases hh
  refine ⟨hlh, hhm, hmc, fun e => ?_⟩
  subst e; cases hm; rfl

/-- s[lo:hi:mx] of a slice with elements of 'size' cells -/
def evSliceS (size : Nat) (x : AV) (lo hi mx : Option AV) : Option AV :=
  match x with
  | .slice none 0 (.known 0) => (evBounds 0 0 lo hi mx).bind fun _ => some (.slice none 0 (.known 0))
  | .slice (some (b, o)) len (.known c) => if len ≤ c then (evBounds len c lo hi mx).bind fun (l, h, m) => some (.slice (some (b, if m = l then o else o + l * size)) (h - l) (.known (m - l))) else none
  | .slice (some (b, o)) len (.rest s) =>
    if s = size then
      match mx with
      | none => (evBounds len len lo hi none).bind fun (l, h, _) => some (.slice (some (b, o + l * size)) (h - l) (.rest s))
      | some v => if 0 < len then (evBounds len len lo hi (some v)).bind fun (l, h, m) => some (.slice (some (b, if m = l then o else o + l * size)) (h - l) (.known (m - l))) else none
    else none
  | _ => none

theorem evBound_mono {x : AV} {y z n : Nat} (h : evBound x y = some n) (hz : y ≤ z) : evBound x z = some n := by
  unfold evBound at h ⊢
  split at h
  · split at h
    · rename_i hb; cases h; simp; omega
    · cases h
  · cases h

theorem evBounds_cap {len cap : Nat} {lo hi : Option AV} {l h m : Nat} (e : evBounds len len lo hi none = some (l, h, m)) (hc : len ≤ cap) : evBounds len cap lo hi none = some (l, h, cap) := by
  unfold evBounds at e ⊢
  simp only [Option.bind_some] at e ⊢
  obtain ⟨h', hh, e⟩ := Option.bind_eq_some_iff.1 e
  obtain ⟨l', hl, e⟩ := Option.bind_eq_some_iff.1 e
  cases e
  cases hi with
  | none => simp only [Option.some.injEq] at hh; subst hh; simp only [Option.bind_some]; rw [hl]; rfl
  | some v => simp only at hh; simp only [evBound_mono hh hc, Option.bind_some]; rw [hl]; rfl

theorem evBounds_capM {len cap : Nat} {lo hi : Option AV} {v : AV} {l h m : Nat} (e : evBounds len len lo hi (some v) = some (l, h, m)) (hc : len ≤ cap) : evBounds len cap lo hi (some v) = some (l, h, m) := by
  unfold evBounds at e ⊢
  obtain ⟨m', hm, e⟩ := Option.bind_eq_some_iff.1 e
  simp only at hm
  simp only [evBound_mono hm hc, Option.bind_some]
  exact e

theorem run_slice_sl {P : Program} {t elem : TypeId} {inf : TypeInfo} (hu : P.underlying t = some (.slice elem)) (hi : P.info? elem = some inf) {a : Option Addr} {len cap : Nat}
    {lo hi' mx : Option Value} {l h m : Nat} {w : World} (hb : (Instr.sliceBounds true len cap lo hi' mx).run P w = .ok (l, h, m) w) :
    (Instr.sliceAt t (.slice a len cap) lo hi' mx).run P w = .ok (.slice (if m = l then a else a.map (·.add (l * P.cellsOf elem))) (h - l) (m - l)) w := by
  simp [Instr.sliceAt, run_underlying hu, Instr.slice, hb, run_sizeOf w hi]

theorem evSliceS_sim {P : Program} {r : Ren} {t elem : TypeId} {inf : TypeInfo} (hu : P.underlying t = some (.slice elem)) (hi : P.info? elem = some inf) {x v : AV} {x' : Value}
    {lo hi' mx : Option AV} {lo' hi'' mx' : Option Value} (h : evSliceS (P.cellsOf elem) x lo hi' mx = some v) (hx : VR r x x') (h1 : OVR r lo lo') (h2 : OVR r hi' hi'') (h3 : OVR r mx mx') :
    ∃ v', VR r v v' ∧ ∀ w, (Instr.sliceAt t x' lo' hi'' mx').run P w = .ok v' w := by
  unfold evSliceS at h
  split at h
  · obtain ⟨⟨l, hh, m⟩, hb, h⟩ := Option.bind_eq_some_iff.1 h
    cases h
    cases hx
    have hle := evBounds_le hb (Nat.le_refl _)
    obtain ⟨rfl, rfl, rfl⟩ : l = 0 ∧ hh = 0 ∧ m = 0 := by omega
    exact ⟨_, .nilSlice, fun w => by rw [run_slice_sl hu hi (evBounds_sim hb h1 h2 h3 true w)]; simp⟩
  · rename_i b o len c
    split at h
    · rename_i hlc
      obtain ⟨⟨l, hh, m⟩, hb, h⟩ := Option.bind_eq_some_iff.1 h
      cases h
      cases hx with
      | slice _ _ ht =>
        refine ⟨_, .slice (hh - l) (m - l) ht, fun w => ?_⟩
        rw [run_slice_sl hu hi (evBounds_sim hb h1 h2 h3 true w)]
        split
        · rfl
        · simp [Addr_add, Nat.add_assoc]
      | sliceBare a =>
        have hle := evBounds_le hb (Nat.le_refl _)
        obtain ⟨rfl, rfl, rfl⟩ : l = 0 ∧ hh = 0 ∧ m = 0 := by omega
        refine ⟨_, .sliceBare a, fun w => ?_⟩
        rw [run_slice_sl hu hi (evBounds_sim hb h1 h2 h3 true w)]
        simp
    · cases h
  · rename_i b o len s
    split at h
    · rename_i hs
      subst hs
      split at h
      · obtain ⟨⟨l, hh, m⟩, hb, h⟩ := Option.bind_eq_some_iff.1 h
        cases h
        have hle := evBounds_le hb (Nat.le_refl _)
        cases h3
        cases hx with
        | sliceRest _ _ cap ht hc hl =>
          rename_i tt
          have hb' := evBounds_cap hb hl
          have hrun := fun (q : Option Addr) w => run_slice_sl (w := w) (a := q) hu hi (evBounds_sim hb' h1 h2 .none true w)
          by_cases he : cap = l
          · subst he
            have h0 : hh - cap = 0 := by omega
            rw [h0]
            refine ⟨_, .sliceEnd ⟨tt.blk, tt.base + o, none⟩ _ ht, fun w => ?_⟩
            rw [hrun _ w]
            simp [h0]
          · refine ⟨_, .sliceRest (hh - l) _ (cap - l) ht ?_ (by omega), fun w => ?_⟩
            · have : l * P.cellsOf elem + (cap - l) * P.cellsOf elem = cap * P.cellsOf elem := by rw [← Nat.add_mul]; congr 1; omega
              omega
            · rw [hrun _ w]
              simp [he, Addr_add, Nat.add_assoc]
        | sliceEnd a _ ht =>
          obtain ⟨rfl, rfl, rfl⟩ : l = 0 ∧ hh = 0 ∧ m = 0 := by omega
          refine ⟨_, .sliceEnd a _ ht, fun w => ?_⟩
          rw [run_slice_sl hu hi (evBounds_sim hb h1 h2 .none true w)]
          simp
      · rename_i v3
        split at h
        · rename_i hpos
          obtain ⟨⟨l, hh, m⟩, hb, h⟩ := Option.bind_eq_some_iff.1 h
          cases h
          cases hx with
          | sliceRest _ _ cap ht hc hl =>
            have hb' := evBounds_capM hb hl
            refine ⟨_, .slice (hh - l) (m - l) ht, fun w => ?_⟩
            rw [run_slice_sl hu hi (evBounds_sim hb' h1 h2 h3 true w)]
            split
            · rfl
            · simp [Addr_add, Nat.add_assoc]
          | sliceEnd a _ _ => omega
        · cases h
    · cases h
  · cases h

def evSlice (P : Program) (t : TypeId) (x : AV) (lo hi mx : Option AV) : Option AV :=
  match P.underlying t with
  | some (.array n e) =>
    match x with
    | .ptr (some (b, o)) => if (P.info? e).isSome then (evBounds n n lo hi mx).bind fun (l, h, m) => some (.slice (some (b, if m = l then o else o + l * P.cellsOf e)) (h - l) (.known (m - l))) else none
    | _ => none
  | some .string =>
    match x, mx with
    | .str s, none => (evBounds s.size s.size lo hi none).bind fun (l, h, _) => some (.str (s.extract l h))
    | _, _ => none
  | some (.slice e) => if (P.info? e).isSome then evSliceS (P.cellsOf e) x lo hi mx else none
  | _ => none

theorem evSlice_sim {P : Program} {r : Ren} {t : TypeId} {x v : AV} {x' : Value}
    {lo hi' mx : Option AV} {lo' hi'' mx' : Option Value} (h : evSlice P t x lo hi' mx = some v) (hx : VR r x x') (h1 : OVR r lo lo') (h2 : OVR r hi' hi'') (h3 : OVR r mx mx') :
    ∃ v', VR r v v' ∧ ∀ w, (Instr.sliceAt t x' lo' hi'' mx').run P w = .ok v' w := by
  unfold evSlice at h
  split at h
  · rename_i n e hu
    split at h
    · rename_i b o
      split at h
      · rename_i hsome
        obtain ⟨inf, hsome⟩ := Option.isSome_iff_exists.1 hsome
        obtain ⟨⟨l, hh, m⟩, hb, h⟩ := Option.bind_eq_some_iff.1 h
        cases h
        cases hx with
        | ptr ht =>
          refine ⟨_, .slice (hh - l) (m - l) ht, fun w => ?_⟩
          simp only [Instr.sliceAt, Sem.run_bind, run_underlying hu, Result.andThen_ok, Instr.sureAddr, Sem.run_pure, evBounds_sim hb h1 h2 h3 false w, run_sizeOf w hsome]
          split
          · rfl
          · simp [Addr_add, Nat.add_assoc]
      · cases h
    · cases h
  · rename_i hu
    split at h
    · obtain ⟨⟨l, hh, m⟩, hb, h⟩ := Option.bind_eq_some_iff.1 h
      cases h
      cases h3
      cases hx
      refine ⟨_, .str _, fun w => ?_⟩
      have := evBounds_sim (P := P) hb h1 h2 .none false w
      simp [Instr.sliceAt, run_underlying hu, Instr.slice, this]
    · cases h
  · rename_i e hu
    split at h
    · rename_i hsome
      obtain ⟨inf, hsome⟩ := Option.isSome_iff_exists.1 hsome
      exact evSliceS_sim hu hsome h hx h1 h2 h3
    · cases h
  · cases h

end Go.Ev
