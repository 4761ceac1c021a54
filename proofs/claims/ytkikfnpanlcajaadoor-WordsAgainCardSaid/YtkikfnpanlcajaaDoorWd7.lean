/- The law WordsNumbers in plain Lean. -/
import Derived.Test.YtkikfnpanlcajaaDoorWd6
set_option linter.all false
namespace Go.Ev.Tryd
set_option maxRecDepth 10000
open Go.Proofs

theorem alive_true (h : H) {n : Nat} (hn : 200 ≤ n) : Ret ((outriderlaw17_alive_8 n h).bind fun r => some (r.1, r.2)) True' :=
  (alive_ret h hn).bind fun _ _ h => .pure h.1

def digB (k : Int) : UInt8 := (48 + k % 10).toNat.toUInt8
theorem digB_nat {k : Int} : (digB k).toNat = (48 + k % 10).toNat := by
  have h1 : (48 + k % 10).toNat < 256 := by omega
  unfold digB
  simp only [UInt8.toNat_ofNat', Nat.toUInt8]
  exact Nat.mod_eq_of_lt h1
theorem digB_is (k : Int) : isDig (digB k) = true := by
  unfold isDig
  rw [digB_nat, decide_eq_true (by omega), decide_eq_true (by omega)]; rfl

theorem numL_step {k : Int} (h0 : 0 ≤ k) (acc : List UInt8) : numL (k / 10) (digB k :: acc) = numL k acc := by
  rw [numL, if_pos (digB_is k), digB_nat]
  congr 1
  omega

theorem cat_byte {β : Type} {h : H} {x : Int} (hx : 0 ≤ x) (s : ByteArray) (hs : s.size < 1000) (f : ByteArray → H → Option β) {Q : Option β → Prop}
    (k : Q (f (mk (digB x :: bs s)) (h.new (.cells [.int .u8 (48 + x % 10)] false)))) :
    Q (bsK (h.new (.cells [.int .u8 (48 + x % 10)] false)) (.slice (some (h.next, 0)) 1 (.known 1)) fun s4 => catK s4 s fun s5 => f s5 (h.new (.cells [.int .u8 (48 + x % 10)] false))) := by
  have r : Row (h.new (.cells [.int .u8 (48 + x % 10)] false)) 1 (some (h.next, 0)) 1 (.known 1) ([48 + x % 10].map (.int .u8)) := .row (by simp) (get_new_self _ _) rfl (by simp) (.inr ⟨1, rfl, Nat.le_refl _⟩)
  rw [bsK_of r.sl]
  unfold catK
  have hz : (strOfNums [48 + x % 10]).size = 1 := rfl
  rw [if_neg (by rw [hz]; omega)]
  have : strOfNums [48 + x % 10] ++ s = mk (digB x :: bs s) := bs_inj (by rw [bs_append, bs_mk]; rfl)
  rw [this]
  exact k

theorem Numbers_loop {x : Int} (hx0 : 0 ≤ x) (hx1 : x ≤ 999999999) {n : Nat} (hn : 200 ≤ n) : ∀ (d m : Nat) (s : ByteArray) (k : Int) (h : H), s.size + d = 10 → d < m → 0 ≤ k → k < 10 ^ (9 - s.size) → s.size ≤ 9 → numL k (bs s) = (x, true) → (k = 0 → bs s = [] ∨ bs s = [48] ∨ (bs s).head? ≠ some 48) →
    Ret (outriderlaw17_WordsNumbers_5_L1 n m x s k h) True'
  | d, m + 1, s, k, h, hd, hm, h0, h1, h9, hv, hz => by
    rw [outriderlaw17_WordsNumbers_5_L1_eq]
    have go : (k > 0 ∨ s = ⟨#[]⟩) → Ret (outriderlaw17_WordsNumbers_5_J2 n m x s k true h) True' := by
      intro hc
      have hlt : s.size < 9 := by
        rcases hc with hc | rfl
        · by_cases e : s.size = 9
          · rw [e] at h1; simp at h1; omega
          · omega
        · decide
      obtain ⟨d', rfl⟩ : ∃ d', d = d' + 1 := ⟨d - 1, by omega⟩
      rw [outriderlaw17_WordsNumbers_5_J2_eq, cond_true]
      simp only [newK_eq]
      have hk10 : k < 1000000000 := by have := pow10_le (show 9 - s.size ≤ 9 by omega); omega
      have e1 : IntKind.u8.wrap (IntKind.i64.wrap (48 + Int.tmod k 10)) = 48 + k % 10 := by
        rw [Int.tmod_eq_emod_of_nonneg h0, wrap_i64 (by omega) (by omega), wrap_u8 (by omega) (by omega)]
      have e2 : IntKind.i64.wrap (Int.tdiv k 10) = k / 10 := by
        rw [Int.tdiv_eq_ediv_of_nonneg h0, wrap_i64 (by omega) (by omega)]
      rw [e1, e2]
      refine cat_byte h0 s (by omega) (fun s5 h3 => outriderlaw17_WordsNumbers_5_L1 n m x s5 (k / 10) h3) (Q := fun c => Ret c True') ?_
      have hsz : (mk (digB k :: bs s)).size = s.size + 1 := by rw [size_mk, List.length_cons, bs_len]
      refine Numbers_loop hx0 hx1 hn d' m _ (k / 10) _ (by rw [hsz]; omega) (by omega) (by omega) ?_ (by rw [hsz]; omega) (by rw [bs_mk, numL_step h0]; exact hv) fun hk0 => ?_
      · rw [hsz]
        obtain ⟨j, hj⟩ : ∃ j, 9 - s.size = j + 1 := ⟨9 - s.size - 1, by omega⟩
        rw [hj, Int.pow_succ] at h1
        rw [show 9 - (s.size + 1) = j by omega]
        omega
      · rw [bs_mk]
        right
        rcases hc with hc | rfl
        · right
          intro e
          simp only [List.head?_cons, Option.some.injEq] at e
          have h2 := congrArg UInt8.toNat e
          rw [digB_nat] at h2
          have h3 : (48 : UInt8).toNat = 48 := rfl
          omega
        · by_cases hk : k = 0
          · left; subst hk; rfl
          · right
            intro e
            simp only [List.head?_cons, Option.some.injEq] at e
            have h2 := congrArg UInt8.toNat e
            rw [digB_nat] at h2
            have h3 : (48 : UInt8).toNat = 48 := rfl
            omega
    by_cases hk : k > 0
    · rw [decide_eq_true hk, cond_true]
      exact go (.inl hk)
    · rw [decide_eq_false hk, cond_false, str_eq]
      by_cases hs : s = ⟨#[]⟩
      · rw [decide_eq_true hs]
        exact go (.inr hs)
      · rw [decide_eq_false hs, outriderlaw17_WordsNumbers_5_J2_eq, cond_false]
        obtain rfl : k = 0 := by omega
        have hne : bs s ≠ [] := fun e => hs (bs_inj (by rw [e]; rfl))
        refine (Number_ret s (by omega) h).bind ?_
        rintro _ h2 ⟨m2, rfl⟩
        have hsz : (⟨#[48]⟩ : ByteArray).size = 1 := rfl
        have hcat : ∀ f : ByteArray → Option (Bool × H), catK (⟨#[48]⟩ : ByteArray) s f = f (mk (48 :: bs s)) := fun f => by
          unfold catK
          rw [if_neg (by rw [hsz]; omega)]
          have : (⟨#[48]⟩ : ByteArray) ++ s = mk (48 :: bs s) := bs_inj (by rw [bs_append, bs_mk]; rfl)
          rw [this]
        dsimp only
        rw [hcat]
        refine (Number_ret (mk (48 :: bs s)) (by omega) h2).bind ?_
        rintro _ h3 ⟨m3, rfl⟩
        refine (alive_ret h3 hn).bind ?_
        rintro _ h4 ⟨rfl, m4⟩
        dsimp only
        have hp : numP (bs s) = (x, true) := by
          unfold numP
          rw [if_neg, hv]
          rintro (e | e | ⟨e1, e2⟩)
          · exact hne e
          · rw [bs_len] at e; omega
          · rcases hz rfl with e | e | e
            · exact hne e
            · exact e2 e
            · exact e e1
        have hq : (numP (bs (mk (48 :: bs s)))).2 = false := by
          rw [bs_mk]
          unfold numP
          rw [if_pos (.inr (.inr ⟨rfl, fun e => by simp at e; exact hne e⟩))]
        rw [hp, hq]
        dsimp only
        rw [cond_true, cond_true, beq_self_eq_true, cond_true]
        exact .pure rfl

theorem wordsNumbers_true {x : Int} (_ : (Lit.int .i64 x).wf = true) : ∃ n h', outriderlaw17_WordsNumbers_5 n x (H0 []) = some (true, h') := by
  refine ⟨1000, Ret.true ?_⟩
  rw [outriderlaw17_WordsNumbers_5_eq]
  generalize H0 [] = h
  have al : Ret (outriderlaw17_WordsNumbers_5_J0 1000 x true h) True' := by
    rw [outriderlaw17_WordsNumbers_5_J0_eq, cond_true]
    exact alive_true h (by omega)
  by_cases h0 : x < 0
  · rw [decide_eq_true h0, cond_true]; exact al
  · rw [decide_eq_false h0, cond_false]
    by_cases h1 : x > 999999999
    · rw [decide_eq_true h1]; exact al
    · rw [decide_eq_false h1, outriderlaw17_WordsNumbers_5_J0_eq, cond_false]
      exact Numbers_loop (by omega) (by omega) (by omega) 10 1000 ⟨#[]⟩ x h rfl (by omega) (by omega) (by show x < 10 ^ 9; omega) (by decide) rfl fun _ => .inl rfl

end Go.Ev.Tryd
