/- Chapter 09: Move's closure 'due': the ids of a map whose time has come, in whatever order. -/
import Derived.Test.YtjbojcdmfkmkiaaHh4
set_option linter.all false
namespace Go.Ev.Try
set_option maxRecDepth 10000

/-- an id's time, 0 if there is none -/
def timeOf (T : List (Int × Int)) (id : Int) : Int := (lk T id).getD 0

section
variable {b : Nat} {now : Int} {sl : List Nat} {fm tm : Nat} {S : Nat → List (Int × Bool)} {F : List (Int × Bool)} {T : List (Int × Int)}

/-- what 'due' works on: boxes of the wheel's pointer, the time, the row that grows -/
structure DueSt (a h : H) (b : Nat) (now : Int) (sl : List Nat) (fm tm : Nat) (S : Nat → List (Int × Bool)) (F : List (Int × Bool)) (T : List (Int × Int)) (bw bn bl : Nat) (upto : Int) (acc : List Int) : Prop where
  w : WRep h b now sl fm tm S F T
  gw : h.get bw = some (.cells [.ptr (some (b, 0))] false)
  gn : h.get bn = some (.cells [i64 upto] false)
  gl : ∃ p c, h.get bl = some (.cells [.slice p acc.length c] false) ∧ Grow a h 1 p acc.length c (acc.map i64)
  wl : bl ∉ b :: fm :: tm :: sl
  wn : bl ≠ bw ∧ bl ≠ bn
  old : bl < a.next
  oldw : ∀ x ∈ b :: fm :: tm :: sl, x < a.next
  lw : bw < a.next
  ln : bn < a.next
  le : a.next ≤ h.next
  kp : ∀ j, j < a.next → j ≠ bl → h.get j = a.get j

theorem DueSt.time {a h : H} {bw bn bl : Nat} {upto : Int} {acc : List Int} (d : DueSt a h b now sl fm tm S F T bw bn bl upto acc) (id : Int) (f : Int → Option Unit) :
    (nnK (some (bw, 0)) fun b13 o14 => cellK h b13 o14 fun v15 => asPtr v15 fun x16 => nnK x16 fun b17 o18 => cellK h b17 (o18 + 258) fun v19 => asMap v19 fun x20 => lookK (.int .i64 0) x20 (.int .i64 id) h fun v21 t22 => asInt .i64 v21 fun x23 => f x23) = f (timeOf T id) := by
  obtain ⟨o, h1, h2⟩ := d.w.tim
  simp only [nnK_some']
  rw [cellK_of d.gw rfl, asPtr_ptr]
  simp only [nnK_some', Nat.zero_add]
  rw [cellK_of d.w.obj d.w.cell258, asMap_map]
  have := lookK_of (β := Unit) (keys_int .i64) h1 h2 (.int .i64 0) id
  rw [this]
  unfold timeOf
  cases lk T id with
  | none => simp only [asInt_int]; rfl
  | some v => simp only [asInt_int]; rfl

theorem WRep.keep {h h' : H} (w : WRep h b now sl fm tm S F T) (hk : ∀ x ∈ b :: fm :: tm :: sl, h'.get x = h.get x) (hn : h.next ≤ h'.next) : WRep h' b now sl fm tm S F T where
  obj := (hk _ (by simp)).trans w.obj
  len := w.len
  slots := fun k x hx => by
    obtain ⟨o, h1, h2⟩ := w.slots k x hx
    exact ⟨o, (hk _ (by simp [List.mem_of_getElem? hx])).trans h1, h2⟩
  far := by
    obtain ⟨o, h1, h2⟩ := w.far
    exact ⟨o, (hk _ (by simp)).trans h1, h2⟩
  tim := by
    obtain ⟨o, h1, h2⟩ := w.tim
    exact ⟨o, (hk _ (by simp)).trans h1, h2⟩
  nodup := w.nodup
  lt := fun x hx => Nat.lt_of_lt_of_le (w.lt x hx) hn

/-- one id more; an iterator, whose block is no row, is as it was -/
theorem DueSt.push {a h : H} {bw bn bl : Nat} {upto : Int} {acc : List Int} (d : DueSt a h b now sl fm tm S F T bw bn bl upto acc) (hl : acc.length < 1000000) (id : Int) {f : H → Option Unit}
    (hf : ∀ h', DueSt a h' b now sl fm tm S F T bw bn bl upto (acc ++ [id]) → h.next ≤ h'.next → (∀ j o, j < h.next → j ≠ bl → h.get j = some o → (∀ cs ro, o ≠ .cells cs ro) → h'.get j = some o) → f h' = some ()) :
    (nnK (some (bl, 0)) fun b28 o29 => cellK h b28 o29 fun v30 => asSlice v30 fun x31 n32 c33 => newK (.cells [(.int .i64 id)] false) h fun i34 h35 => appK 1 8 x31 n32 c33 (evSrc 1 (.slice (some (i34, 0)) 1 (.known 1)) h35) h35 fun p36 n37 c38 h39 => nnK (some (bl, 0)) fun b40 o41 => wrK h39 b40 o41 1 [(.slice p36 n37 c38)] fun h42 => f h42) = some () := by
  obtain ⟨p, c, gl, g⟩ := d.gl
  simp only [nnK_some', newK_eq]
  rw [cellK_of gl rfl, asSlice_slice]
  have m2 : Mod [] h (h.new (.cells [.int .i64 id] false)) := (Mod.refl _ _).new _
  have r2 : Row (h.new (.cells [.int .i64 id] false)) 1 (some (h.next, 0)) 1 (.known 1) [.int .i64 id] := .row (by simp) (get_new_self _ _) rfl (by simp) (.inr ⟨1, rfl, Nat.le_refl _⟩)
  obtain ⟨p', c', h', e, g', m'⟩ := (g.mod0 m2).app (β := Unit) (bytes := 8) (Nat.le_trans d.le m2.next) r2.src rfl rfl (by omega) (by omega) (fun h => by cases h)
  rw [e]
  have m3 : Mod (own p) h h' := m2.of_nil.trans m'
  have hown : ∀ x ∈ own p, a.next ≤ x := fun x hx => (g.own_ge x hx).1
  have keepOld : ∀ x, x < a.next → h'.get x = h.get x := fun x hx => m3.get x (by have := d.le; omega) fun hm => by have := hown x hm; omega
  have gl' : h'.get bl = some (.cells [.slice p acc.length c] false) := (keepOld _ d.old).trans gl
  rw [wrK_one gl' (by simp) rfl]
  have hne : ∀ x, x ≠ bl → (h'.set bl (.cells ([AV.slice p acc.length c].set 0 (.slice p' (acc.length + 1) c')) false)).get x = h'.get x := fun x hx => get_set_ne hx
  refine hf _ ⟨?_, ?_, ?_, ⟨p', c', ?_, ?_⟩, d.wl, d.wn, d.old, d.oldw, d.lw, d.ln, Nat.le_trans d.le m3.next, fun j hj hjb => (hne j hjb).trans ((keepOld j hj).trans (d.kp j hj hjb))⟩ m3.next ?_
  · exact d.w.keep (fun x hx => (hne x fun e => d.wl (e ▸ hx)).trans (keepOld x (d.oldw x hx))) m3.next
  · exact (hne _ (Ne.symm d.wn.1)).trans ((keepOld _ d.lw).trans d.gw)
  · exact (hne _ (Ne.symm d.wn.2)).trans ((keepOld _ d.ln).trans d.gn)
  · rw [get_set_self]; simp
  · have := g'.mod (h' := h'.set bl (.cells ([AV.slice p acc.length c].set 0 (.slice p' (acc.length + 1) c')) false)) (S := [bl]) ((Mod.refl _ _).set (.inr (by simp)) _) fun x hx hb => by
      have h1 := (g'.own_ge x hx).1
      have h2 := d.old
      simp at hb
      omega
    simpa using this
  · intro j o hj hjb hgo hno
    rw [hne j hjb, m3.get j hj ?_, hgo]
    intro hjp
    rcases g.look with ⟨rfl, _⟩ | ⟨x, rfl, _, _, hx, _⟩
    · simp at hjp
    · simp at hjp
      subst hjp
      rw [hgo] at hx
      exact hno _ _ (Option.some.inj hx)
end

end Go.Ev.Try
