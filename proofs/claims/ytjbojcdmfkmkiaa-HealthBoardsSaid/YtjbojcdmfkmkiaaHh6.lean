/- Chapter 09: the loop of 'due'. -/
import Derived.Test.YtjbojcdmfkmkiaaHh5
set_option linter.all false
namespace Go.Ev.Try
set_option maxRecDepth 10000

section
variable {b : Nat} {now : Int} {sl : List Nat} {fm tm : Nat} {S : Nat → List (Int × Bool)} {F : List (Int × Bool)} {T : List (Int × Int)}

theorem DueSt.keep {a h h' : H} {bw bn bl : Nat} {upto : Int} {acc : List Int} (d : DueSt a h b now sl fm tm S F T bw bn bl upto acc) {i : Nat} {m : Option Nat} {since last : Nat} {seen : List Nat} (hi : a.next ≤ i) (hg : h.get i = some (.miter m since seen last))
    (hk : ∀ j, j ≠ i → h'.get j = h.get j) (hn : h'.next = h.next) : DueSt a h' b now sl fm tm S F T bw bn bl upto acc := by
  obtain ⟨p, c, gl, g⟩ := d.gl
  have hold : ∀ x, x < a.next → h'.get x = h.get x := fun x hx => hk x (by omega)
  refine ⟨d.w.keep (fun x hx => hold x (d.oldw x hx)) (by omega), (hold _ d.lw).trans d.gw, (hold _ d.ln).trans d.gn, ⟨p, c, (hold _ d.old).trans gl, ?_⟩, d.wl, d.wn, d.old, d.oldw, d.lw, d.ln, by rw [hn]; exact d.le, fun j hj hjb => (hold j hj).trans (d.kp j hj hjb)⟩
  refine g.mod (S := [i]) ⟨by omega, fun j _ hj => hk j (by simpa using hj)⟩ fun x hx hxi => ?_
  simp at hxi
  subst hxi
  rcases g.look with ⟨rfl, _⟩ | ⟨y, rfl, _, _, hy, _⟩
  · simp at hx
  · simp at hx
    subst hx
    rw [hg] at hy
    cases hy

def dueIds (T : List (Int × Int)) (upto : Int) (l : List (Int × Bool × Nat)) : List Int := (l.filter fun x => decide (timeOf T x.1 ≤ upto)).map (·.1)

theorem Due_loop {a : H} {bw bn bl : Nat} {upto : Int} {i m : Nat} (hi : a.next ≤ i) {L : List (Int × Bool × Nat)} {clk : Nat} {acc0 : List Int} (hm : m < a.next) (hmb : m ≠ bl) (hsz : acc0.length + L.length < 1000000) (n : Nat) {kk : Unit → H → Option Unit}
    (hk : ∀ h' acc', DueSt a h' b now sl fm tm S F T bw bn bl upto acc' → acc'.Perm (acc0 ++ dueIds T upto L) → kk () h' = some ()) :
    ∀ (k fuel : Nat) (done rest : List (Int × Bool × Nat)) (acc : List Int) (h : H), rest.length = k → k < fuel → i < h.next → Iter h i m i64 AV.bool L clk done rest → DueSt a h b now sl fm tm S F T bw bn bl upto acc → acc.Perm (acc0 ++ dueIds T upto done) →
      wheel_Wheel_Move_1_34_L0 n kk fuel (some (bw, 0)) (some (bn, 0)) (some (bl, 0)) (some (i, 0)) h = some ()
  | k, fuel + 1, done, rest, acc, h, hr, hf, hin, it, d, hacc => by
    rw [wheel_Wheel_Move_1_34_L0_eq, nnK_some']
    refine it.next (fun x rest' h' hp hn hget it' => ?_) fun he => ?_
    · rw [nnK_some']
      show entryK h' i _ = some ()
      rw [it'.entry, asInt_int]
      have d' := d.keep hi it.gi hget hn
      rw [d'.time x.1 (f := fun x23 => nnK (some (bn, 0)) fun b24 o25 => cellK h' b24 o25 fun v26 => asInt .i64 v26 fun x27 => _)]
      rw [nnK_some', cellK_of d'.gn rfl, asInt_int]
      have hlen : rest'.length + 1 = rest.length := by rw [hp.length_eq]; rfl
      have hdl : done.length + rest.length = L.length := by rw [← it.perm.length_eq]; simp
      have hal : acc.length ≤ acc0.length + done.length := by
        rw [hacc.length_eq, List.length_append]
        unfold dueIds
        rw [List.length_map]
        have := List.length_filter_le (fun x : Int × Bool × Nat => decide (timeOf T x.1 ≤ upto)) done
        omega
      by_cases hle : timeOf T x.1 ≤ upto
      · rw [decide_eq_true hle, cond_true]
        refine d'.push (by omega) x.1 fun h2 d2 hle2 hkeep => ?_
        have hi2 : h2.get i = h'.get i := (hkeep i _ (by omega) (by have := d.old; omega) it'.gi (fun cs ro e => by cases e)).trans it'.gi.symm
        have hm2 : h2.get m = h'.get m := (hkeep m _ (by have := d.le; omega) hmb it'.gm (fun cs ro e => by cases e)).trans it'.gm.symm
        refine Due_loop hi hm hmb hsz n hk rest'.length fuel (done ++ [x]) rest' (acc ++ [x.1]) h2 rfl (by omega) (by omega) (it'.move hm2 hi2) d2 ?_
        · have : dueIds T upto (done ++ [x]) = dueIds T upto done ++ [x.1] := by simp [dueIds, hle]
          rw [this, ← List.append_assoc]
          exact hacc.append_right _
      · rw [decide_eq_false hle, cond_false]
        refine Due_loop hi hm hmb hsz n hk rest'.length fuel (done ++ [x]) rest' acc h' rfl (by omega) (by omega) it' d' ?_
        have : dueIds T upto (done ++ [x]) = dueIds T upto done := by simp [dueIds, hle]
        rw [this]; exact hacc
    · subst he
      refine hk h acc d (hacc.trans ?_)
      have hpd : done.Perm L := by simpa using it.perm
      exact List.Perm.append_left _ ((hpd.filter _).map _)

def dueOf (T : List (Int × Int)) (upto : Int) (l : List (Int × Bool)) : List Int := (l.filter fun x => decide (timeOf T x.1 ≤ upto)).map (·.1)

theorem DueSt.new {a h : H} {bw bn bl : Nat} {upto : Int} {acc : List Int} (d : DueSt a h b now sl fm tm S F T bw bn bl upto acc) (o : AObj) : DueSt a (h.new o) b now sl fm tm S F T bw bn bl upto acc := by
  obtain ⟨p, c, gl, g⟩ := d.gl
  have m : Mod [] h (h.new o) := (Mod.refl _ _).new _
  have hold : ∀ x, x < a.next → (h.new o).get x = h.get x := fun x hx => get_new_lt (Nat.lt_of_lt_of_le hx d.le)
  exact ⟨d.w.mod m, (hold _ d.lw).trans d.gw, (hold _ d.ln).trans d.gn, ⟨p, c, (hold _ d.old).trans gl, g.mod0 m⟩, d.wl, d.wn, d.old, d.oldw, d.lw, d.ln, Nat.le_trans d.le m.next, fun j hj hjb => (hold j hj).trans (d.kp j hj hjb)⟩

/-- 'due' of a map -/
theorem Due_ret {a h : H} {bw bn bl : Nat} {upto : Int} {acc0 : List Int} (d : DueSt a h b now sl fm tm S F T bw bn bl upto acc0) {m : Nat} (hm : m ∈ b :: fm :: tm :: sl) {o : AObj} {l : List (Int × Bool)} (hg : h.get m = some o) (ho : MObj i64 AV.bool l o) (hsz : acc0.length + l.length < 1000000) {n : Nat} (hn : l.length < n) {kk : Unit → H → Option Unit}
    (hk : ∀ h' acc', DueSt a h' b now sl fm tm S F T bw bn bl upto acc' → acc'.Perm (acc0 ++ dueOf T upto l) → kk () h' = some ()) :
    wheel_Wheel_Move_1_34 n (some m) (some (bw, 0)) (some (bn, 0)) (some (bl, 0)) h kk = some () := by
  have hma := d.oldw m hm
  obtain ⟨L, clk, hL, it0, hr, it⟩ := Iter.begin hg ho (Nat.lt_of_lt_of_le hma d.le)
  have hlen : l.length = L.length := by rw [← hL, List.length_map]
  have hids : dueOf T upto l = dueIds T upto L := by
    rw [← hL]
    unfold dueOf dueIds
    rw [List.filter_map, List.map_map]
    rfl
  rw [wheel_Wheel_Move_1_34_eq, hr]
  have hmb : m ≠ bl := fun e => d.wl (by rw [← e]; exact hm)
  refine Due_loop (a := a) (b := b) (now := now) (sl := sl) (fm := fm) (tm := tm) (S := S) (F := F) (T := T) (bw := bw) (bn := bn) (bl := bl) (upto := upto) (L := L) (acc0 := acc0) d.le hma hmb (by omega) n (fun h' acc' d' hp => hk h' acc' d' (by rw [hids]; exact hp)) L.length n [] L acc0 _ rfl (by omega) (Nat.lt_succ_self _) it (d.new _) ?_
  simp [dueIds]
end

end Go.Ev.Try
