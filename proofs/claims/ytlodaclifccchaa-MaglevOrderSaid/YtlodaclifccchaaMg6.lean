/- Chapter 08: how places are taken, in plain words. -/
import Derived.Test.YtlodaclifccchaaMg5
set_option linter.all false
namespace Go.Ev.Try
set_option maxRecDepth 10000
open Go.Proofs

/-- who takes: whose number, the weight, where it begins, how far it steps -/
structure Tk where
  k : Int
  w : Int
  at' : Int
  step : Int

def Tk.pos (t : Tk) (i : Nat) : Nat := ((t.at' + i * t.step) % 251).toNat
structure Tk.Ok (top : Int) (t : Tk) : Prop where
  k0 : 0 ≤ t.k
  w0 : 1 ≤ t.w
  w1 : t.w ≤ top
  a0 : 0 ≤ t.at'
  a1 : t.at' < 251
  s0 : 1 ≤ t.step
  s1 : t.step ≤ 250

def isFree (P : List Int) (i : Nat) : Bool := P[i]? == some (-1)
def slot (P : List Int) (t : Tk) : Option Nat := (List.range 251).find? fun i => isFree P (t.pos i)
def put (P : List Int) (t : Tk) : List Int :=
  match slot P t with
  | none => P
  | some i => P.set (t.pos i) t.k
def step1 (top : Int) (P : List Int) (x : Tk × Int) : List Int × Int := if top ≤ x.2 + x.1.w then (put P x.1, x.2 + x.1.w - top) else (P, x.2 + x.1.w)
def turnT (top : Int) : List Int → List (Tk × Int) → List Int × List (Tk × Int)
  | P, [] => (P, [])
  | P, x :: xs => ((turnT top (step1 top P x).1 xs).1, (x.1, (step1 top P x).2) :: (turnT top (step1 top P x).1 xs).2)
def runs (top : Int) : Nat → List Int × List (Tk × Int) → List Int × List (Tk × Int)
  | 0, s => s
  | n + 1, s => runs top n (turnT top s.1 s.2)
def finP (top : Int) (s : List Int × List (Tk × Int)) : List Int := (runs top 251 s).1
def free (P : List Int) : Nat := P.count (-1)

theorem Tk.pos_lt (t : Tk) (i : Nat) : t.pos i < 251 := by unfold Tk.pos; omega
theorem inv251 : ∀ s : Fin 251, s.val ≠ 0 → s.val * (s.val ^ 249 % 251) % 251 = 1 := by decide +kernel
theorem Tk.cover {top : Int} {t : Tk} (h : t.Ok top) {p : Nat} (hp : p < 251) : ∃ i, i < 251 ∧ t.pos i = p := by
  obtain ⟨a, ha⟩ : ∃ a : Nat, t.at' = a := ⟨t.at'.toNat, by have := h.a0; omega⟩
  obtain ⟨s, hs⟩ : ∃ s : Nat, t.step = s := ⟨t.step.toNat, by have := h.s0; omega⟩
  have a1 := h.a1
  have s0 := h.s0
  have s1 := h.s1
  have hv := inv251 ⟨s, by omega⟩ (by simp; omega)
  simp only at hv
  generalize s ^ 249 % 251 = v at hv
  refine ⟨(p + 251 - a) * v % 251, Nat.mod_lt _ (by decide), ?_⟩
  unfold Tk.pos
  rw [ha, hs]
  have e1 : ((a : Int) + (((p + 251 - a) * v % 251 : Nat) : Int) * (s : Int)) % 251 = (((a + (p + 251 - a) * v % 251 * s) % 251 : Nat) : Int) := by push_cast; rfl
  rw [e1, Int.toNat_natCast]
  have e2 : (p + 251 - a) * v % 251 * s % 251 = (p + 251 - a) % 251 := by
    rw [Nat.mod_mul_mod, Nat.mul_assoc, Nat.mul_comm v s, Nat.mul_mod, hv, Nat.mul_one, Nat.mod_mod]
  rw [Nat.add_mod, e2]
  omega

theorem free_zero {P : List Int} (h : free P = 0) (i : Nat) : isFree P i = false := by
  unfold isFree
  rw [beq_eq_false_iff_ne]
  intro e
  have := List.count_pos_iff.2 (List.mem_of_getElem? e)
  unfold free at h
  omega
theorem put_full {P : List Int} (h : free P = 0) (t : Tk) : put P t = P := by
  unfold put slot
  rw [List.find?_eq_none.2 fun i _ => by simp [free_zero h]]
theorem slot_some {P : List Int} {t : Tk} {i : Nat} (h : slot P t = some i) : i < 251 ∧ P[t.pos i]? = some (-1) ∧ ∀ j, j < i → P[t.pos j]? ≠ some (-1) := by
  unfold slot at h
  have h1 := List.find?_some h
  have h2 := List.mem_of_find?_eq_some h
  rw [List.mem_range] at h2
  refine ⟨h2, by simpa [isFree] using h1, fun j hj e => ?_⟩
  obtain ⟨_, l1, l2, he, hall⟩ := List.find?_eq_some_iff_append.1 h
  have hl : l1.length = i := by
    have : (List.range 251)[l1.length]? = some i := by rw [he]; simp
    rw [List.getElem?_range (by
      have := congrArg List.length he
      simp at this; omega)] at this
    exact Option.some.inj this
  have hja : j ∈ l1 := by
    have : l1[j]? = some j := by
      have h3 : (List.range 251)[j]? = some j := List.getElem?_range (by omega)
      rw [he, List.getElem?_append_left (by omega)] at h3
      exact h3
    exact List.mem_of_getElem? this
  have := hall j hja
  simp [isFree, e] at this
theorem slot_ex {top : Int} {P : List Int} {t : Tk} (ht : t.Ok top) (hl : P.length = 251) (hf : 0 < free P) : ∃ i, slot P t = some i := by
  obtain ⟨p, hp⟩ := List.getElem?_of_mem (List.count_pos_iff.1 hf)
  have hp1 := (List.getElem?_eq_some_iff.1 hp).1
  obtain ⟨i, hi, e⟩ := Tk.cover ht (p := p) (by omega)
  have : (slot P t).isSome := by
    unfold slot
    rw [List.find?_isSome]
    exact ⟨i, List.mem_range.2 hi, by simp [isFree, e, hp]⟩
  exact Option.isSome_iff_exists.1 this
theorem put_some {P : List Int} {t : Tk} {i : Nat} (h : slot P t = some i) : put P t = P.set (t.pos i) t.k := by unfold put; rw [h]
theorem put_len (P : List Int) (t : Tk) : (put P t).length = P.length := by
  unfold put
  split
  · rfl
  · rw [List.length_set]
theorem count_put {P : List Int} {t : Tk} {i : Nat} (h : slot P t = some i) (x : Int) : (put P t).count x = P.count x - (if x = -1 then 1 else 0) + (if x = t.k then 1 else 0) := by
  obtain ⟨_, h2, _⟩ := slot_some h
  obtain ⟨hlt, hv⟩ := List.getElem?_eq_some_iff.1 h2
  rw [put_some h, List.count_set hlt, hv]
  congr 1
  · congr 1
    by_cases hx : x = -1
    · simp [hx]
    · rw [if_neg hx, if_neg]
      simp; omega
  · by_cases hx : x = t.k
    · simp [hx]
    · rw [if_neg hx, if_neg]
      simp; omega
theorem free_put {P : List Int} {t : Tk} {i : Nat} (h : slot P t = some i) (hk : 0 ≤ t.k) : free (put P t) + 1 = free P := by
  have h1 := count_put h (-1)
  obtain ⟨_, h2, _⟩ := slot_some h
  have h3 := List.count_pos_iff.2 (List.mem_of_getElem? h2)
  unfold free
  rw [if_pos rfl, if_neg (by omega)] at h1
  omega
theorem free_put_le {P : List Int} {t : Tk} (hk : 0 ≤ t.k) : free (put P t) ≤ free P := by
  cases h : slot P t with
  | none => unfold put; rw [h]; exact Nat.le_refl _
  | some i => have := free_put h hk; omega

theorem step1_len (top : Int) (P : List Int) (x : Tk × Int) : (step1 top P x).1.length = P.length := by
  unfold step1
  split
  · exact put_len _ _
  · rfl
theorem step1_full {top : Int} {P : List Int} (h : free P = 0) (x : Tk × Int) : (step1 top P x).1 = P := by
  unfold step1
  split
  · exact put_full h _
  · rfl
theorem step1_le {top : Int} {P : List Int} {x : Tk × Int} (hk : 0 ≤ x.1.k) : free (step1 top P x).1 ≤ free P := by
  unfold step1
  split
  · exact free_put_le hk
  · exact Nat.le_refl _
theorem step1_credit {top : Int} {P : List Int} {x : Tk × Int} (ht : x.1.Ok top) (h0 : 0 ≤ x.2) (h1 : x.2 < top) : 0 ≤ (step1 top P x).2 ∧ (step1 top P x).2 < top := by
  have := ht.w0
  have := ht.w1
  unfold step1
  split
  · simp only; omega
  · simp only; omega

theorem turn_len (top : Int) : ∀ (xs : List (Tk × Int)) (P : List Int), (turnT top P xs).1.length = P.length
  | [], _ => rfl
  | x :: xs, P => by rw [turnT]; simp only; rw [turn_len top xs, step1_len]
theorem turn_full {top : Int} : ∀ (xs : List (Tk × Int)) {P : List Int}, free P = 0 → (turnT top P xs).1 = P
  | [], _, _ => rfl
  | x :: xs, P, h => by rw [turnT]; simp only; rw [step1_full h, turn_full xs h]
theorem turn_tk (top : Int) : ∀ (xs : List (Tk × Int)) (P : List Int), (turnT top P xs).2.map (·.1) = xs.map (·.1)
  | [], _ => rfl
  | x :: xs, P => by rw [turnT]; simp only [List.map_cons]; rw [turn_tk top xs]

/-- a row of takers, with their credits -/
def OkT (top : Int) (xs : List (Tk × Int)) : Prop := ∀ x ∈ xs, x.1.Ok top ∧ 0 ≤ x.2 ∧ x.2 < top
theorem turn_ok {top : Int} : ∀ {xs : List (Tk × Int)} {P : List Int}, OkT top xs → OkT top (turnT top P xs).2
  | [], _, h => h
  | x :: xs, P, h => by
    rw [turnT]
    intro y hy
    rcases List.mem_cons.1 hy with rfl | hy
    · obtain ⟨h1, h2, h3⟩ := h x (by simp)
      exact ⟨h1, step1_credit h1 h2 h3⟩
    · exact turn_ok (xs := xs) (fun z hz => h z (List.mem_cons_of_mem _ hz)) y hy
theorem turn_le {top : Int} : ∀ {xs : List (Tk × Int)} {P : List Int}, OkT top xs → free (turnT top P xs).1 ≤ free P
  | [], _, _ => Nat.le_refl _
  | x :: xs, P, h => by
    rw [turnT]
    exact Nat.le_trans (turn_le fun z hz => h z (List.mem_cons_of_mem _ hz)) (step1_le (h x (by simp)).1.k0)
theorem turn_lt {top : Int} : ∀ {xs : List (Tk × Int)} {P : List Int}, OkT top xs → P.length = 251 → 0 < free P → (∃ x ∈ xs, x.1.w = top) → free (turnT top P xs).1 < free P
  | [], _, _, _, _, h => by simp at h
  | x :: xs, P, h, hl, hf, ⟨y, hy, hw⟩ => by
    have hx := h x (by simp)
    have hxs : OkT top xs := fun z hz => h z (List.mem_cons_of_mem _ hz)
    rw [turnT]
    have hle := turn_le (P := (step1 top P x).1) hxs
    rcases List.mem_cons.1 hy with rfl | hy
    · have : free (step1 top P y).1 < free P := by
        unfold step1
        rw [if_pos (by omega)]
        obtain ⟨i, hi⟩ := slot_ex hx.1 hl hf
        have := free_put hi hx.1.k0
        simp only; omega
      simp only; omega
    · have h2 := step1_le (top := top) (P := P) hx.1.k0
      by_cases h0 : 0 < free (step1 top P x).1
      · have := turn_lt hxs (by rw [step1_len]; exact hl) h0 ⟨y, hy, hw⟩
        simp only; omega
      · simp only; omega

/-- a state: 251 places, takers of whom one has the greatest weight -/
structure StT (top : Int) (s : List Int × List (Tk × Int)) : Prop where
  len : s.1.length = 251
  ok : OkT top s.2
  top : ∃ x ∈ s.2, x.1.w = top
theorem StT.turn {top : Int} {s : List Int × List (Tk × Int)} (h : StT top s) : StT top (turnT top s.1 s.2) := by
  refine ⟨by rw [turn_len]; exact h.len, turn_ok h.ok, ?_⟩
  obtain ⟨x, hx, hw⟩ := h.top
  have : x.1 ∈ (turnT top s.1 s.2).2.map (·.1) := by rw [turn_tk]; exact List.mem_map.2 ⟨x, hx, rfl⟩
  obtain ⟨y, hy, e⟩ := List.mem_map.1 this
  exact ⟨y, hy, by rw [e]; exact hw⟩
theorem runs_full {top : Int} : ∀ (n : Nat) (s : List Int × List (Tk × Int)), free s.1 = 0 → (runs top n s).1 = s.1
  | 0, _, _ => rfl
  | n + 1, s, h => by
    have e := turn_full s.2 (top := top) h
    rw [runs, runs_full n _ (by rw [e]; exact h), e]
theorem runs_free {top : Int} : ∀ (n : Nat) (s : List Int × List (Tk × Int)), StT top s → free s.1 ≤ n → free (runs top n s).1 = 0
  | 0, s, _, h => by rw [runs]; omega
  | n + 1, s, hs, h => by
    by_cases h0 : 0 < free s.1
    · have := turn_lt hs.ok hs.len h0 hs.top
      rw [runs]
      exact runs_free n _ hs.turn (by omega)
    · rw [runs_full _ _ (by omega)]; omega
theorem runs_more {top : Int} : ∀ (n m : Nat) (s : List Int × List (Tk × Int)), StT top s → free s.1 ≤ n → n ≤ m → (runs top m s).1 = (runs top n s).1
  | 0, m, s, _, h, _ => by rw [runs_full m s (by omega)]; rfl
  | n + 1, m + 1, s, hs, h, hm => by
    by_cases h0 : 0 < free s.1
    · have := turn_lt hs.ok hs.len h0 hs.top
      rw [runs, runs]
      exact runs_more n m _ hs.turn (by omega) (by omega)
    · rw [runs_full _ _ (by omega), runs_full _ _ (by omega)]
theorem free_le {P : List Int} : free P ≤ P.length := List.count_le_length
theorem fin_turn {top : Int} {s : List Int × List (Tk × Int)} (hs : StT top s) : finP top (turnT top s.1 s.2) = finP top s := by
  have h1 := runs_more (top := top) 251 252 s hs (by have := free_le (P := s.1); have := hs.len; omega) (by omega)
  rw [runs] at h1
  exact h1
theorem fin_full {top : Int} {s : List Int × List (Tk × Int)} (h : free s.1 = 0) : finP top s = s.1 := runs_full _ _ h
theorem fin_free {top : Int} {s : List Int × List (Tk × Int)} (hs : StT top s) : free (finP top s) = 0 := runs_free _ _ hs (by have := free_le (P := s.1); have := hs.len; omega)
theorem runs_len {top : Int} : ∀ (n : Nat) (s : List Int × List (Tk × Int)), (runs top n s).1.length = s.1.length
  | 0, _ => rfl
  | n + 1, s => by rw [runs, runs_len n, turn_len]

end Go.Ev.Try
