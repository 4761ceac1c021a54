/- Chapter 10 in plain words: flows, entries, their order; the document's list. -/
import Derived.Test.YtgaflglknjjalaaEvU
set_option linter.all false
namespace Go.Ev.Try

structure Fl where
  pr : Int
  fr : ByteArray
  to : ByteArray
  po : Int
  de : Int
  deriving DecidableEq

structure En where
  f : Fl
  ba : Int
  st : Int
  en : Int
  deriving DecidableEq

def encF (f : Fl) : List AV := [.int .i64 f.pr, .str f.fr, .str f.to, .int .i64 f.po, .int .i64 f.de]
def encE (e : En) : List AV := [.int .i64 e.f.pr, .str e.f.fr, .str e.f.to, .int .i64 e.f.po, .int .i64 e.f.de, .int .i64 e.ba, .int .i64 e.st, .int .i64 e.en]
theorem encF_len (f : Fl) : (encF f).length = 5 := rfl
theorem encE_len (e : En) : (encE e).length = 8 := rfl
def z0 : En := ⟨⟨0, .empty, .empty, 0, 0⟩, 0, 0, 0⟩

/-! ### the order -/

/-- three-way, by keys one behind another -/
def cmpI (a b : Int) : Int := if a < b then -1 else if b < a then 1 else 0
def cmpB (a b : ByteArray) : Int := if sLt a b then -1 else if sLt b a then 1 else 0
def orI (a b : Int) : Int := if a ≠ 0 then a else b

theorem cmpI_zero {a b : Int} : cmpI a b = 0 ↔ a = b := by
  unfold cmpI
  split
  · omega
  · split <;> omega
theorem cmpI_neg {a b : Int} : cmpI a b < 0 ↔ a < b := by
  unfold cmpI
  split
  · omega
  · split <;> omega
theorem cmpI_swap (a b : Int) : cmpI b a = - cmpI a b := by
  unfold cmpI
  by_cases h1 : a < b
  · have : ¬ b < a := by omega
    simp [h1, this]
  · by_cases h2 : b < a <;> simp [h1, h2]
theorem cmpB_zero {a b : ByteArray} : cmpB a b = 0 ↔ a = b := by
  unfold cmpB
  by_cases e : a = b
  · subst e; simp [sLt_irrefl]
  · rcases sLt_total e with h | h
    · simp [h, e]
    · simp [h, sLt_asymm h, e]
theorem cmpB_neg {a b : ByteArray} : cmpB a b < 0 ↔ sLt a b = true := by
  unfold cmpB
  by_cases h : sLt a b = true
  · simp [h]
  · rw [if_neg h]; split <;> simp_all
theorem cmpB_swap (a b : ByteArray) : cmpB b a = - cmpB a b := by
  unfold cmpB
  by_cases e : a = b
  · subst e; simp [sLt_irrefl]
  · rcases sLt_total e with h | h
    · simp [h, sLt_asymm h]
    · simp [h, sLt_asymm h]

/-- a strict order by a three-way comparison -/
structure Cmp {α : Type} (c : α → α → Int) : Prop where
  zero : ∀ a b, c a b = 0 ↔ a = b
  swap : ∀ a b, c b a = - c a b
  trans : ∀ a b d, c a b < 0 → c b d < 0 → c a d < 0

theorem Cmp.int : Cmp cmpI := ⟨fun _ _ => cmpI_zero, cmpI_swap, fun a b d h k => by rw [cmpI_neg] at *; omega⟩
theorem Cmp.str : Cmp cmpB := ⟨fun _ _ => cmpB_zero, cmpB_swap, fun a b d h k => by rw [cmpB_neg] at *; exact sLt_trans h k⟩
/-- first by one, then by another one -/
theorem Cmp.both {α β γ : Type} {c : α → α → Int} {d : β → β → Int} (hc : Cmp c) (hd : Cmp d) (f : γ → α) (g : γ → β) (inj : ∀ x y, f x = f y → g x = g y → x = y) : Cmp fun x y => orI (c (f x) (f y)) (d (g x) (g y)) where
  zero x y := by
    unfold orI
    by_cases h : c (f x) (f y) = 0
    · rw [if_neg (by simpa using h), hd.zero]
      constructor
      · exact inj x y ((hc.zero _ _).1 h)
      · rintro rfl; rfl
    · rw [if_pos h]
      constructor
      · exact fun e => absurd e h
      · rintro rfl; exact absurd ((hc.zero _ _).2 rfl) h
  swap x y := by
    unfold orI
    rw [hc.swap (f x), hd.swap (g x)]
    by_cases h : c (f x) (f y) = 0
    · rw [h]; simp
    · rw [if_pos h, if_pos (by omega)]
  trans x y z h k := by
    unfold orI at *
    by_cases h1 : c (f x) (f y) = 0
    · rw [if_neg (by simpa using h1)] at h
      have e1 := (hc.zero _ _).1 h1
      rw [e1]
      by_cases h2 : c (f y) (f z) = 0
      · rw [if_neg (by simpa using h2)] at k ⊢
        exact hd.trans _ _ _ h k
      · rw [if_pos h2] at k ⊢
        exact k
    · rw [if_pos h1] at h
      by_cases h2 : c (f y) (f z) = 0
      · have e2 := (hc.zero _ _).1 h2
        rw [← e2, if_pos h1]; exact h
      · rw [if_pos h2] at k
        have := hc.trans _ _ _ h k
        rw [if_pos (by omega)]; exact this

def cmpF (a b : Fl) : Int := orI (cmpI a.pr b.pr) (orI (cmpB a.fr b.fr) (orI (cmpI a.po b.po) (orI (cmpB a.to b.to) (cmpI a.de b.de))))
theorem cmpF_ok : Cmp cmpF := by
  have h1 : Cmp fun x y : ByteArray × Int => orI (cmpB x.1 y.1) (cmpI x.2 y.2) := Cmp.str.both Cmp.int Prod.fst Prod.snd fun x y h k => Prod.ext h k
  have h2 : Cmp fun x y : Int × ByteArray × Int => orI (cmpI x.1 y.1) (orI (cmpB x.2.1 y.2.1) (cmpI x.2.2 y.2.2)) := Cmp.int.both h1 Prod.fst Prod.snd fun x y h k => Prod.ext h k
  have h3 : Cmp fun x y : ByteArray × Int × ByteArray × Int => orI (cmpB x.1 y.1) (orI (cmpI x.2.1 y.2.1) (orI (cmpB x.2.2.1 y.2.2.1) (cmpI x.2.2.2 y.2.2.2))) := Cmp.str.both h2 Prod.fst Prod.snd fun x y h k => Prod.ext h k
  refine Cmp.int.both h3 Fl.pr (fun f => (f.fr, f.po, f.to, f.de)) fun x y h k => ?_
  cases x; cases y
  simp only [Prod.mk.injEq] at h k
  obtain ⟨rfl, rfl, rfl, rfl⟩ := k
  subst h; rfl

def aheadF (a b : Fl) : Bool := decide (cmpF a b < 0)
theorem aheadF_iff {a b : Fl} : aheadF a b = true ↔ cmpF a b < 0 := by simp [aheadF]
theorem aheadF_irrefl (a : Fl) : aheadF a a = false := by
  have := (cmpF_ok.zero a a).2 rfl
  simp [aheadF, this]
theorem aheadF_trans {a b c : Fl} (h : aheadF a b = true) (k : aheadF b c = true) : aheadF a c = true := by
  rw [aheadF_iff] at *; exact cmpF_ok.trans _ _ _ h k
theorem aheadF_asymm {a b : Fl} (h : aheadF a b = true) : aheadF b a = false := by
  rw [Bool.eq_false_iff, Ne]
  intro k
  have := aheadF_trans h k
  rw [aheadF_irrefl] at this; cases this
theorem aheadF_total {a b : Fl} (h : a ≠ b) : aheadF a b = true ∨ aheadF b a = true := by
  rw [aheadF_iff, aheadF_iff, cmpF_ok.swap a b]
  have : cmpF a b ≠ 0 := fun e => h ((cmpF_ok.zero _ _).1 e)
  omega

/-- first by the end, then by the flow -/
def cmpN (a b : En) : Int := orI (cmpI a.en b.en) (cmpF a.f b.f)

/-! ### the document's list -/

def findI : List En → Fl → Nat → Int
  | [], _, _ => -1
  | e :: l, f, i => if e.f = f then (i : Int) else findI l f (i + 1)
def getE (l : List En) (f : Fl) : Option En := l.find? fun e => decide (e.f = f)
def without (l : List En) (f : Fl) : List En := l.filter fun e => !decide (e.f = f)
def ins (e : En) : List En → List En
  | [] => [e]
  | x :: l => if aheadF e.f x.f then e :: x :: l else x :: ins e l
def withE (l : List En) (e : En) : List En := ins e (without l e.f)

/-- by rising flows -/
def Srt (l : List En) : Prop := l.Pairwise fun a b => aheadF a.f b.f = true

theorem without_sub (l : List En) (f : Fl) : (without l f).Sublist l := List.filter_sublist
theorem Srt.without {l : List En} (h : Srt l) (f : Fl) : Srt (without l f) := List.Pairwise.sublist (without_sub l f) h
theorem mem_without {l : List En} {f : Fl} {e : En} : e ∈ without l f ↔ e ∈ l ∧ e.f ≠ f := by simp [Try.without]
theorem ins_perm (e : En) : ∀ l : List En, (ins e l).Perm (e :: l)
  | [] => .refl _
  | x :: l => by
    unfold ins
    split
    · exact .refl _
    · exact ((ins_perm e l).cons x).trans (List.Perm.swap _ _ _)
theorem mem_ins {e x : En} {l : List En} : x ∈ ins e l ↔ x = e ∨ x ∈ l := by rw [(ins_perm e l).mem_iff]; simp
theorem Srt.ins {e : En} : ∀ {l : List En}, Srt l → (∀ x ∈ l, x.f ≠ e.f) → Srt (ins e l)
  | [], _, _ => by simp [Try.ins, Srt]
  | x :: l, h, hn => by
    have h' := List.pairwise_cons.1 h
    unfold Try.ins
    split
    · rename_i ha
      refine List.pairwise_cons.2 ⟨fun y hy => ?_, h⟩
      rcases List.mem_cons.1 hy with rfl | hy
      · exact ha
      · exact aheadF_trans ha (h'.1 y hy)
    · rename_i ha
      refine List.pairwise_cons.2 ⟨fun y hy => ?_, Srt.ins h'.2 fun z hz => hn z (by simp [hz])⟩
      rcases mem_ins.1 hy with rfl | hy
      · exact (aheadF_total (hn x (by simp))).resolve_right ha
      · exact h'.1 y hy
theorem withE_mem {l : List En} {e x : En} : x ∈ withE l e ↔ x = e ∨ (x ∈ l ∧ x.f ≠ e.f) := by unfold withE; rw [mem_ins, mem_without]
theorem Srt.withE {l : List En} (h : Srt l) (e : En) : Srt (withE l e) := (h.without e.f).ins fun x hx => (mem_without.1 hx).2

theorem Srt.inj {l : List En} (h : Srt l) : ∀ x ∈ l, ∀ y ∈ l, x.f = y.f → x = y := by
  induction l with
  | nil => intro x hx; cases hx
  | cons a l ih =>
    have h' := List.pairwise_cons.1 h
    intro x hx y hy e
    rcases List.mem_cons.1 hx with hx1 | hx1 <;> rcases List.mem_cons.1 hy with hy1 | hy1
    · rw [hx1, hy1]
    · have := h'.1 y hy1; rw [← hx1, e, aheadF_irrefl] at this; cases this
    · have := h'.1 x hx1; rw [← hy1, ← e, aheadF_irrefl] at this; cases this
    · exact ih h'.2 x hx1 y hy1 e
theorem Srt.nodup {l : List En} (h : Srt l) : l.Nodup := by
  refine List.Pairwise.imp (fun {a b} hab e => ?_) h
  rw [e, aheadF_irrefl] at hab; cases hab
/-- by the flows alone a sorted list is known -/
theorem Srt.eq {l m : List En} (h : Srt l) (k : Srt m) (hm : ∀ x, x ∈ l ↔ x ∈ m) : l = m := by
  have hp : l.Perm m := (List.perm_ext_iff_of_nodup h.nodup k.nodup).2 hm
  exact List.Perm.eq_of_pairwise (le := fun a b : En => aheadF a.f b.f = true) (fun a b _ _ h1 h2 => absurd h2 (by rw [aheadF_asymm h1]; decide)) h k hp

theorem getE_some {l : List En} {f : Fl} {e : En} (h : getE l f = some e) : e ∈ l ∧ e.f = f := by
  unfold getE at h
  exact ⟨List.mem_of_find?_eq_some h, by have := List.find?_some h; simpa using this⟩
theorem getE_none {l : List En} {f : Fl} : getE l f = none ↔ ∀ e ∈ l, e.f ≠ f := by simp [getE]
theorem Srt.getE {l : List En} (h : Srt l) {e : En} (he : e ∈ l) : getE l e.f = some e := by
  cases hg : Try.getE l e.f with
  | none => exact absurd rfl (getE_none.1 hg e he)
  | some x =>
    obtain ⟨h1, h2⟩ := getE_some hg
    rw [h.inj x h1 e he h2]
theorem without_len {l : List En} (h : Srt l) (f : Fl) : (without l f).length = if (getE l f).isSome then l.length - 1 else l.length := by
  induction l with
  | nil => simp [without, getE]
  | cons a l ih =>
    have h' := List.pairwise_cons.1 h
    by_cases e : a.f = f
    · have hw : without l f = l := List.filter_eq_self.2 fun x hx => by
        have := h'.1 x hx
        simp only [Bool.not_eq_true', decide_eq_false_iff_not]
        intro e2
        rw [e, e2, aheadF_irrefl] at this; cases this
      have h1 : without (a :: l) f = l := by unfold without at *; rw [List.filter_cons, if_neg (by simp [e]), hw]
      rw [h1]; simp [getE, e]
    · have h1 : without (a :: l) f = a :: without l f := by unfold without; rw [List.filter_cons, if_pos (by simp [e])]
      have h2 : getE (a :: l) f = getE l f := by unfold getE; rw [List.find?_cons]; simp [e]
      rw [h1, h2, List.length_cons, ih h'.2]
      split
      · rename_i hs
        have : l ≠ [] := fun e => by subst e; simp [getE] at hs
        have := List.length_pos_iff.2 this
        simp; omega
      · rfl
theorem withE_len {l : List En} (h : Srt l) (e : En) : (withE l e).length = if (getE l e.f).isSome then l.length else l.length + 1 := by
  unfold withE
  rw [(ins_perm e _).length_eq, List.length_cons, without_len h]
  split
  · rename_i hs
    have : l ≠ [] := fun e => by subst e; simp [getE] at hs
    have := List.length_pos_iff.2 this
    omega
  · rfl

end Go.Ev.Try
