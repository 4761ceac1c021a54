/- Chapter 09: the wheel's Next. -/
import Derived.Test.YtccjmkhfjplidaaEvO
import Derived.Test.YtccjmkhfjplidaaEvP09
set_option linter.all false
namespace Go.Ev.Try
set_option maxRecDepth 10000

abbrev i64 : Int → AV := .int .i64

/-- what Next tells of these times -/
def LeastOf (l : List Int) (r : Int × Bool) : Prop := (l = [] ∧ r = (0, false)) ∨ (r.2 = true ∧ r.1 ∈ l ∧ ∀ v ∈ l, r.1 ≤ v)

theorem LeastOf.perm {l l' : List Int} (hp : l.Perm l') {r : Int × Bool} (h : LeastOf l r) : LeastOf l' r := by
  rcases h with ⟨rfl, h⟩ | ⟨h1, h2, h3⟩
  · exact .inl ⟨hp.nil_eq.symm, h⟩
  · exact .inr ⟨h1, hp.mem_iff.1 h2, fun v hv => h3 v (hp.mem_iff.2 hv)⟩

theorem Next_loop {a : H} {b m : Nat} (hb : a.next ≤ b) {L : List (Int × Int × Nat)} {clk : Nat} (n : Nat) {kk : (Int × Bool) → H → Option Unit} (hk : ∀ r h', LeastOf (L.map fun x => x.2.1) r → Mod [] a h' → kk r h' = some ()) :
    ∀ (k fuel : Nat) (done rest : List (Int × Int × Nat)) (r : Int × Bool) (h : H), rest.length = k → k < fuel → Iter h b m i64 i64 L clk done rest → LeastOf (done.map fun x => x.2.1) r → Mod [] a h →
      wheel_Wheel_Next_19_L0 n kk fuel r.1 r.2 (some (b, 0)) h = some ()
  | k, fuel + 1, done, rest, (r1, r2), h, hr, hf, it, hl, hm => by
    rw [wheel_Wheel_Next_19_L0_eq]
    simp only [nnK_some']
    refine it.next (fun x rest' h' hp hn hget it' => ?_) fun he => ?_
    · rw [it'.entry]
      simp only [asInt_int]
      have hm' : Mod [] a h' := ⟨by rw [hn]; exact hm.next, fun j hj hS => (hget j (by omega)).trans (hm.get j hj hS)⟩
      have hlen : rest'.length + 1 = rest.length := by rw [hp.length_eq]; rfl
      have go : ∀ q : Int × Bool, LeastOf ((done ++ [x]).map fun x => x.2.1) q → wheel_Wheel_Next_19_L0 n kk fuel q.1 q.2 (some (b, 0)) h' = some () := fun q hq =>
        Next_loop hb n hk rest'.length fuel (done ++ [x]) rest' q h' rfl (by omega) it' hq hm'
      have take : LeastOf ((done ++ [x]).map fun x => x.2.1) (x.2.1, true) → wheel_Wheel_Next_19_J1 n kk fuel r1 r2 x.2.1 (some (b, 0)) true h' = some () := fun hq => by
        rw [wheel_Wheel_Next_19_J1_eq, cond_true]; exact go (x.2.1, true) hq
      simp only [List.map_append, List.map_cons, List.map_nil] at take go
      rcases hl with ⟨h1, h2⟩ | ⟨h1, h2, h3⟩
      · cases h2
        rw [Bool.not_false, cond_true]
        exact take (.inr ⟨rfl, by simp, fun v hv => by rw [h1] at hv; simp at hv; subst hv; exact Int.le_refl _⟩)
      · simp only at h1 h2 h3
        subst h1
        rw [Bool.not_true, cond_false]
        by_cases hlt : x.2.1 < r1
        · rw [decide_eq_true hlt]
          refine take (.inr ⟨rfl, by simp, fun v hv => ?_⟩)
          rcases List.mem_append.1 hv with hv | hv
          · have := h3 v hv; simp only; omega
          · simp at hv; subst hv; exact Int.le_refl _
        · rw [decide_eq_false hlt, wheel_Wheel_Next_19_J1_eq, cond_false]
          refine go (r1, true) (.inr ⟨rfl, by simp [h2], fun v hv => ?_⟩)
          rcases List.mem_append.1 hv with hv | hv
          · exact h3 v hv
          · simp at hv; subst hv; simp only; omega
    · subst he
      refine hk _ _ (hl.perm ?_) hm
      have := it.perm.map fun x : Int × Int × Nat => x.2.1
      simpa using this

theorem Next_ret {h : H} {b m : Nat} {cs : List AV} {o : AObj} {T : List (Int × Int)} (hg : h.get b = some (.cells cs false)) (hc : cs[258]? = some (.map (some m))) (hgm : h.get m = some o) (hm : m < h.next) (ho : MObj i64 i64 T o) {n : Nat} (hn : T.length < n) :
    RetK (fun kk => wheel_Wheel_Next_19 n (some (b, 0)) h kk) fun r h' => LeastOf (T.map (·.2)) r ∧ Mod [] h h' := by
  intro kk hk
  obtain ⟨L, clk, hL, it0, hr, it⟩ := Iter.begin hgm ho hm
  show wheel_Wheel_Next_19 n (some (b, 0)) h kk = some ()
  rw [wheel_Wheel_Next_19_eq]
  simp only [nnK_some', Nat.zero_add]
  rw [cellK_of hg hc, asMap_map, hr]
  have hv : (L.map fun x => x.2.1) = T.map (·.2) := by rw [← hL, List.map_map]; rfl
  refine Next_loop (a := h) (Nat.le_refl _) n (fun r h' hq hmod => hk r h' ⟨by rw [← hv]; exact hq, hmod⟩) L.length n [] L (0, false) _ rfl ?_ it (.inl ⟨rfl, rfl⟩) ((Mod.refl _ _).new _)
  rw [← hL, List.length_map] at hn
  exact hn

end Go.Ev.Try
