/- Chapter 09: order: ids by their times, and by themselves. -/
import Derived.Test.YtjbojcdmfkmkiaaEvSp
import Derived.Test.YtjbojcdmfkmkiaaHh6
set_option linter.all false
namespace Go.Ev.Try
set_option maxRecDepth 10000

def cmpT (T : List (Int × Int)) (x y : Int) : Int := if timeOf T x ≠ timeOf T y then timeOf T x - timeOf T y else x - y
/-- x ahead of y -/
def ahead (T : List (Int × Int)) (x y : Int) : Prop := timeOf T x < timeOf T y ∨ timeOf T x = timeOf T y ∧ x < y

theorem cmpT_lt {T : List (Int × Int)} {x y : Int} : cmpT T x y < 0 ↔ ahead T x y := by
  unfold cmpT ahead
  split <;> omega
theorem orders_T (T : List (Int × Int)) (xs : List Int) : Orders xs (cmpT T) where
  irrefl x _ := by rw [cmpT_lt]; unfold ahead; omega
  trans x _ y _ z _ := by simp only [cmpT_lt]; unfold ahead; omega
  ntrans x _ y _ z _ := by simp only [cmpT_lt]; unfold ahead; omega
  total x _ y _ := by simp only [cmpT_lt]; unfold ahead; omega

/-- times, as far as a wheel has them -/
def TimesOk (T : List (Int × Int)) : Prop := ∀ id at', lk T id = some at' → may id at'
theorem TimesOk.time {T : List (Int × Int)} (ok : TimesOk T) (id : Int) : 0 ≤ timeOf T id ∧ timeOf T id ≤ 1099511627776 := by
  unfold timeOf
  cases h : lk T id with
  | none => exact ⟨Int.le_refl _, by simp⟩
  | some a => have := ok id a h; exact ⟨this.2.2.1, this.2.2.2⟩

section
variable {h : H} {b : Nat} {now : Int} {sl : List Nat} {fm tm : Nat} {S : Nat → List (Int × Bool)} {F : List (Int × Bool)} {T : List (Int × Int)}

theorem order1_eq (w : WRep h b now sl fm tm S F T) (ok : TimesOk T) {bw : Nat} (gw : h.get bw = some (.cells [.ptr (some (b, 0))] false)) (n : Nat) {x y : Int} (hx : 0 ≤ x ∧ x < 65536) (hy : 0 ≤ y ∧ y < 65536) :
    wheel_Wheel_order_1_39 n x y (some (bw, 0)) h.freeze = some (cmpT T x y, h.freeze) := by
  obtain ⟨o, h1, h2⟩ := w.tim
  have look : ∀ (id : Int) (f : Int → Option (Int × H)), (nnK (some (bw, 0)) fun b13 o14 => cellK h.freeze b13 o14 fun v15 => asPtr v15 fun x16 => nnK x16 fun b17 o18 => cellK h.freeze b17 (o18 + 258) fun v19 => asMap v19 fun x20 => lookK (.int .i64 0) x20 (.int .i64 id) h.freeze fun v21 t22 => asInt .i64 v21 fun x23 => f x23) = f (timeOf T id) := by
    intro id f
    simp only [nnK_some']
    rw [cellK_of (freeze_cells gw) rfl, asPtr_ptr]
    simp only [nnK_some', Nat.zero_add]
    rw [cellK_of (freeze_cells w.obj) w.cell258, asMap_map]
    have := lookK_frozen (β := Int × H) (keys_int .i64) h1 h2 (.int .i64 0) id
    rw [this]
    unfold timeOf
    cases lk T id with
    | none => simp only [asInt_int]; rfl
    | some v => simp only [asInt_int]; rfl
  have t1 := ok.time x
  have t2 := ok.time y
  rw [wheel_Wheel_order_1_39_eq]
  refine (look x _).trans ((look y _).trans ?_)
  unfold cmpT
  by_cases he : timeOf T x = timeOf T y
  · rw [if_neg (by simpa using he), show ((timeOf T x : Int) != timeOf T y) = false by simpa using he, cond_false, wrap_i64 (by omega) (by omega)]
  · rw [if_pos he, show ((timeOf T x : Int) != timeOf T y) = true by simpa using he, cond_true]
    refine (look x _).trans ((look y _).trans ?_)
    rw [wrap_i64 (by omega) (by omega)]

def decI : AV → Int
  | .int _ n => n
  | _ => 0

theorem order_ret (w : WRep h b now sl fm tm S F T) (ok : TimesOk T) {a : H} (ha : a.next ≤ h.next) (hw : ∀ x ∈ b :: fm :: tm :: sl, x < a.next) {p : Option (Nat × Nat)} {len : Nat} {c : Cap} {ids : List Int} (g : Grow a h 1 p len c (ids.map i64)) (hid : ∀ x ∈ ids, 0 ≤ x ∧ x < 65536) (hsz : ids.length < 1000000) (n : Nat) :
    ∃ (ys : List Int) (h' : H), ys.Perm ids ∧ (ys.Pairwise fun x y => ¬ ahead T y x) ∧ wheel_Wheel_order_35 n (some (b, 0)) p len c h = some ((), h') ∧ Grow a h' 1 p len c (ys.map i64) ∧ Mod (own p) h h' := by
  have m0 : Mod [] h (h.new (.cells [.ptr (some (b, 0))] false)) := (Mod.refl _ _).new _
  have g0 := g.mod0 m0
  have w0 := w.mod m0
  obtain ⟨ys, h', q1, q2, q3, q4, q5, q6⟩ := g0.sort (dec := decI) (cmp := fun u v h' => asInt .i64 u fun x1 => asInt .i64 v fun x2 => wheel_Wheel_order_1_39 n x1 x2 (some (h.next, 0)) h') (cf := cmpT T) (fun _ => rfl) (fun _ => trivial) (by omega) (orders_T T ids) (fun h' hn hk x hx y hy => by
    show wheel_Wheel_order_1_39 n x y (some (h.next, 0)) h'.freeze = _
    refine order1_eq (h := h') (b := b) (now := now) (sl := sl) (fm := fm) (tm := tm) (S := S) (F := F) (T := T) ?_ ok ?_ n (hid x hx) (hid y hy)
    · exact w0.keep (fun z hz => hk z fun hp => by have := (g.own_ge z hp).1; have := hw z hz; omega) (Nat.le_of_eq hn.symm)
    · rw [hk _ fun hp => by have := (g.own_ge _ hp).2; omega]
      exact get_new_self _ _)
  refine ⟨ys, h', q1, q2.imp fun {x y} hxy => by rwa [cmpT_lt] at hxy, ?_, q4, ?_⟩
  · rw [wheel_Wheel_order_35_eq]
    simp only [newK_eq]
    rw [slices_SortFunc_int_int_38_f39_eq, q3]
    rfl
  · refine ⟨by rw [q5]; exact m0.next, fun j hj hjp => (q6 j hjp).trans (m0.get j hj (by simp))⟩
end

end Go.Ev.Try
