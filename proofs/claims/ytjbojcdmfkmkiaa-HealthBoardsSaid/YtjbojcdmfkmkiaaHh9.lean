/- Chapter 09: settle: the timers of the heap lie where they are to lie at a later time (those of slots that were passed are all told by then). -/
import Derived.Test.YtjbojcdmfkmkiaaHh8
set_option linter.all false
namespace Go.Ev.Try
set_option maxRecDepth 10000

section
variable {b : Nat} {now : Int} {sl : List Nat} {fm tm : Nat} {S : Nat → List (Int × Bool)} {F : List (Int × Bool)} {T : List (Int × Int)}

theorem WRep.setNow {h : H} (w : WRep h b now sl fm tm S F T) (x : Int) : WRep (h.set b (.cells ((i64 now :: (sl.map (fun m => AV.map (some m)) ++ [.map (some fm), .map (some tm)])).set 0 (i64 x)) false)) b x sl fm tm S F T := by
  have hn := w.nodup
  simp only [List.nodup_cons, List.mem_cons, not_or] at hn
  refine ⟨get_set_self _ _ _, w.len, fun j y hj => ?_, ?_, ?_, w.nodup, w.lt⟩
  · obtain ⟨o, h1, h2⟩ := w.slots j y hj
    exact ⟨o, (get_set_ne fun e : y = b => hn.1.2.2 (by rw [← e]; exact List.mem_of_getElem? hj)).trans h1, h2⟩
  · obtain ⟨o, h1, h2⟩ := w.far
    exact ⟨o, (get_set_ne fun e => hn.1.1 e.symm).trans h1, h2⟩
  · obtain ⟨o, h1, h2⟩ := w.tim
    exact ⟨o, (get_set_ne fun e => hn.1.2.1 e.symm).trans h1, h2⟩

/-- the slots that were passed are empty: nothing happens -/
theorem Settle_L0 {a : H} {upto fr : Int} (h0 : 0 ≤ fr) (h1 : fr ≤ 1099511627776) {n : Nat} (hn : 0 < n) {kk : Unit → H → Option Unit} {passed : Nat} (hp : passed ≤ 256) (he : ∀ k : Nat, 1 ≤ k → k ≤ passed → S (slotOf (fr + k)) = [])
    (hk : ∀ h', WRep h' b upto sl fm tm S F T → Mod (b :: fm :: tm :: sl) a h' → (nnK (some (b, 0)) fun b18 o19 => cellK h' b18 (o19 + 257) fun v20 => asMap v20 fun x21 => rangeMK x21 h' fun i22 h23 => wheel_Wheel_settle_36_L2 n kk n (some (b, 0)) none 0 (.known 0) (some (i22, 0)) h23) = some ()) :
    ∀ (d k fuel : Nat) (h : H), k + d = passed + 1 → d < fuel → 1 ≤ k → WRep h b upto sl fm tm S F T → Mod (b :: fm :: tm :: sl) a h → wheel_Wheel_settle_36_L0 n kk fuel (some (b, 0)) passed fr none 0 (.known 0) k h = some ()
  | 0, k, fuel + 1, h, hkd, _, _, w, m => by
    rw [wheel_Wheel_settle_36_L0_eq, decide_eq_false (by omega), cond_false]
    exact hk h w m
  | d + 1, k, fuel + 1, h, hkd, hf, hk1, w, m => by
    rw [wheel_Wheel_settle_36_L0_eq, decide_eq_true (by omega), cond_true]
    simp only [nnK_some']
    rw [wrap_i64 (by omega) (by omega), Int.tmod_eq_emod_of_nonneg (by omega), if_pos ⟨by omega, by omega⟩]
    have hks : ((fr + k) % 256).toNat < sl.length := by rw [w.len]; omega
    have hs : sl[((fr + k) % 256).toNat]? = some sl[((fr + k) % 256).toNat] := List.getElem?_eq_getElem hks
    rw [Nat.zero_add, cellK_of w.obj (w.cellS hs), asMap_map]
    generalize sl[((fr + k) % 256).toNat] = mm at hs
    obtain ⟨o, g1, g2⟩ := w.slots _ _ hs
    have hS : S ((fr + k) % 256).toNat = [] := he k hk1 (by omega)
    rw [hS] at g2
    have hmm : mm ∈ b :: fm :: tm :: sl := by simp [List.mem_of_getElem? hs]
    obtain ⟨L, clk, hL, it0, hr, it⟩ := Iter.begin g1 g2 (w.lt _ hmm)
    obtain rfl : L = [] := by simpa using hL
    rw [hr]
    obtain ⟨n', rfl⟩ : ∃ n', n = n' + 1 := ⟨n - 1, by omega⟩
    rw [wheel_Wheel_settle_36_L1_eq, nnK_some']
    refine it.next (fun x rest' h' hp' => by have := hp'.length_eq; simp at this) fun _ => ?_
    have g1' : (h.new it0).get mm = some o := (get_new_lt (w.lt _ hmm)).trans g1
    obtain ⟨o', ho', ec⟩ := clrK_of (β := Unit) g1' g2
    rw [ec, wrap_succ (by omega)]
    have w1 := (w.mod ((Mod.refl [] h).new it0)).setSlot hs ho'
    refine Settle_L0 h0 h1 hn hp he hk d (k + 1) fuel _ (by omega) (by omega) (by omega) ?_ ((m.new _).set (.inr hmm) _)
    have : (fun j => if j = ((fr + k) % 256).toNat then [] else S j) = S := by
      funext j
      by_cases hj : j = ((fr + k) % 256).toNat
      · rw [if_pos hj, hj, hS]
      · rw [if_neg hj]
    rw [this] at w1
    exact w1

/-- what settle works on -/
structure SetSt (a h : H) (b : Nat) (now : Int) (sl : List Nat) (fm tm : Nat) (S : Nat → List (Int × Bool)) (F : List (Int × Bool)) (T : List (Int × Int)) (p : Option (Nat × Nat)) (c : Cap) (ids : List Int) : Prop where
  w : WRep h b now sl fm tm S F T
  g : Grow a h 1 p ids.length c (ids.map i64)
  m : Mod (b :: fm :: tm :: sl) a h
  oldw : ∀ x ∈ b :: fm :: tm :: sl, x < a.next

theorem SetSt.quiet {a h h' : H} {p : Option (Nat × Nat)} {c : Cap} {ids : List Int} (s : SetSt a h b now sl fm tm S F T p c ids) {i : Nat} (hi : a.next ≤ i) (hip : i ∉ own p) (hk : ∀ j, j ≠ i → h'.get j = h.get j) (hn : h'.next = h.next) : SetSt a h' b now sl fm tm S F T p c ids := by
  refine ⟨s.w.keep (fun x hx => hk x fun e => by have := s.oldw x hx; omega) (by omega), s.g.mod (S := [i]) ⟨by omega, fun j _ hj => hk j (by simpa using hj)⟩ fun x hx hxi => hip ?_, ⟨by have := s.m.next; omega, fun j hj hS => (hk j (by omega)).trans (s.m.get j hj hS)⟩, s.oldw⟩
  simp at hxi
  rw [← hxi]; exact hx

theorem SetSt.new {a h : H} {p : Option (Nat × Nat)} {c : Cap} {ids : List Int} (s : SetSt a h b now sl fm tm S F T p c ids) (o : AObj) : SetSt a (h.new o) b now sl fm tm S F T p c ids :=
  ⟨s.w.mod ((Mod.refl _ _).new _), s.g.mod0 ((Mod.refl _ _).new _), s.m.new _, s.oldw⟩

theorem SetSt.push {a h : H} {p : Option (Nat × Nat)} {c : Cap} {ids : List Int} (s : SetSt a h b now sl fm tm S F T p c ids) (hl : ids.length < 1000000) (id : Int) {f : Option (Nat × Nat) → Nat → Cap → H → Option Unit}
    (hf : ∀ p' c' h', SetSt a h' b now sl fm tm S F T p' c' (ids ++ [id]) → h.next ≤ h'.next → (∀ j o, j < h.next → h.get j = some o → (∀ cs ro, o ≠ .cells cs ro) → h'.get j = some o ∧ j ∉ own p') → f p' (ids ++ [id]).length c' h' = some ()) :
    (newK (.cells [(.int .i64 id)] false) h fun i34 h35 => appK 1 8 p ids.length c (evSrc 1 (.slice (some (i34, 0)) 1 (.known 1)) h35) h35 f) = some () := by
  have m2 : Mod [] h (h.new (.cells [.int .i64 id] false)) := (Mod.refl _ _).new _
  have r2 : Row (h.new (.cells [.int .i64 id] false)) 1 (some (h.next, 0)) 1 (.known 1) [.int .i64 id] := .row (by simp) (get_new_self _ _) rfl (by simp) (.inr ⟨1, rfl, Nat.le_refl _⟩)
  obtain ⟨p', c', h', e, g', m'⟩ := (s.g.mod0 m2).app (β := Unit) (bytes := 8) (Nat.le_trans s.m.next m2.next) r2.src rfl rfl (by omega) (by omega) (fun h => by cases h)
  rw [newK_eq, e]
  have m3 : Mod (own p) h h' := m2.of_nil.trans m'
  have hown : ∀ x ∈ own p, a.next ≤ x := fun x hx => (s.g.own_ge x hx).1
  have keepOld : ∀ x, x < a.next → h'.get x = h.get x := fun x hx => m3.get x (by have := s.m.next; omega) fun hm => by have := hown x hm; omega
  have hlen : (ids ++ [id]).length = ids.length + 1 := by simp
  rw [← hlen]
  refine hf p' c' h' ⟨s.w.keep (fun x hx => keepOld x (s.oldw x hx)) m3.next, by rw [hlen]; simpa using g', ⟨Nat.le_trans s.m.next m3.next, fun j hj hS => (keepOld j hj).trans (s.m.get j hj hS)⟩, s.oldw⟩ m3.next fun j o hj hgo hno => ?_
  have h1 : h'.get j = some o := by
    rw [m3.get j hj ?_, hgo]
    intro hjp
    rcases s.g.look with ⟨rfl, _⟩ | ⟨x, rfl, _, _, hx, _⟩
    · simp at hjp
    · simp at hjp
      subst hjp
      rw [hgo] at hx
      exact hno _ _ (Option.some.inj hx)
  refine ⟨h1, fun hjp => ?_⟩
  rcases g'.look with ⟨rfl, _⟩ | ⟨x, rfl, _, _, hx, _⟩
  · simp at hjp
  · simp at hjp
    subst hjp
    rw [h1] at hx
    exact hno _ _ (Option.some.inj hx)

/-- the heap's ids, in whatever order -/
theorem Settle_L2 {a : H} {upto : Int} {i : Nat} (hi : a.next ≤ i) {L : List (Int × Bool × Nat)} {clk : Nat} (hsz : L.length < 1000000) (n : Nat) {kk : Unit → H → Option Unit}
    (hk : ∀ h' p c ids, SetSt a h' b upto sl fm tm S F T p c ids → ids.Perm (L.map (·.1)) → (nnK (some (b, 0)) fun b57 o58 => cellK h' b57 (o58 + 257) fun v59 => asMap v59 fun x60 => clrK x60 h' fun h61 => wheel_Wheel_settle_36_L3 n kk n (some (b, 0)) p ids.length c (Nat.cast ids.length) 0 h61) = some ()) :
    ∀ (k fuel : Nat) (done rest : List (Int × Bool × Nat)) (p : Option (Nat × Nat)) (c : Cap) (ids : List Int) (h : H), rest.length = k → k < fuel → i < h.next → i ∉ own p → Iter h i fm i64 AV.bool L clk done rest → SetSt a h b upto sl fm tm S F T p c ids → ids.Perm (done.map (·.1)) →
      wheel_Wheel_settle_36_L2 n kk fuel (some (b, 0)) p ids.length c (some (i, 0)) h = some ()
  | k, fuel + 1, done, rest, p, c, ids, h, hr, hf, hin, hip, it, s, hids => by
    rw [wheel_Wheel_settle_36_L2_eq, nnK_some']
    refine it.next (fun x rest' h' hp hn hget it' => ?_) fun he => ?_
    · rw [nnK_some']
      show entryK h' i _ = some ()
      rw [it'.entry, asInt_int]
      have s' := s.quiet hi hip hget hn
      have hlen : rest'.length + 1 = rest.length := by rw [hp.length_eq]; rfl
      have hdl : done.length + rest.length = L.length := by rw [← it.perm.length_eq]; simp
      have hal : ids.length = done.length := by rw [hids.length_eq]; simp
      refine s'.push (by omega) x.1 fun p2 c2 h2 s2 hle2 hkeep => ?_
      obtain ⟨q1, q2⟩ := hkeep i _ (by omega) it'.gi (fun cs ro e => by cases e)
      have q3 := (hkeep fm _ (by have := s.m.next; have := s.oldw fm (by simp); omega) it'.gm (fun cs ro e => by cases e)).1
      refine Settle_L2 hi hsz n hk rest'.length fuel (done ++ [x]) rest' p2 c2 (ids ++ [x.1]) h2 rfl (by omega) (by omega) q2 (it'.move (q3.trans it'.gm.symm) (q1.trans it'.gi.symm)) s2 ?_
      rw [List.map_append]
      exact hids.append_right _
    · subst he
      refine hk h p c ids s (hids.trans ?_)
      have hpd : done.Perm L := by simpa using it.perm
      exact hpd.map _

/-- each id is laid where its time says -/
theorem Settle_L3 {a : H} {upto : Int} (h0 : 0 ≤ upto) (h1 : upto ≤ 1099511627776) (ok : TimesOk T) (n : Nat) {kk : Unit → H → Option Unit} {p : Option (Nat × Nat)} {c : Cap} {ids : List Int} (hnd : ids.Nodup) (hsz : ids.length < 1000000)
    (hk : ∀ h' S' F', WRep h' b upto sl fm tm S' F' T → Mod (b :: fm :: tm :: sl) a h' → (∀ k, keys (S' k) = keys (S k) ++ ids.filter fun id => inSlot upto k (timeOf T id)) → keys F' = keys F ++ (ids.filter fun id => isFar upto (timeOf T id)) → kk () h' = some ())
    (hS : ∀ k, ∀ id ∈ ids, id ∉ keys (S k)) (hF : ∀ id ∈ ids, id ∉ keys F) :
    ∀ (d j fuel : Nat) (h : H) (S' : Nat → List (Int × Bool)) (F' : List (Int × Bool)), j + d = ids.length → d < fuel → SetSt a h b upto sl fm tm S' F' T p c ids → (∀ k, keys (S' k) = keys (S k) ++ (ids.take j).filter fun id => inSlot upto k (timeOf T id)) → (keys F' = keys F ++ (ids.take j).filter fun id => isFar upto (timeOf T id)) →
      wheel_Wheel_settle_36_L3 n kk fuel (some (b, 0)) p ids.length c (Nat.cast ids.length) j h = some ()
  | 0, j, fuel + 1, h, S', F', hj, _, s, hs, hff => by
    rw [wheel_Wheel_settle_36_L3_eq, cast_not_lt (by omega), cond_false]
    have : ids.take j = ids := List.take_of_length_le (by omega)
    rw [this] at hff
    exact hk h S' F' s.w s.m (fun k => by rw [hs k, this]) hff
  | d + 1, j, fuel + 1, h, S', F', hj, hf, s, hs, hff => by
    have hlt : j < ids.length := by omega
    have hx : ids[j]? = some ids[j] := List.getElem?_eq_getElem hlt
    rw [wheel_Wheel_settle_36_L3_eq, cast_lt hlt, cond_true]
    rw [s.g.row.ix1 hx, asInt_int]
    simp only [nnK_some', Nat.zero_add]
    obtain ⟨o, g1, g2⟩ := s.w.tim
    rw [cellK_of s.w.obj s.w.cell258, asMap_map]
    have hlook := lookK_of (β := Unit) (keys_int .i64) g1 g2 (.int .i64 0) ids[j]
    rw [hlook]
    have htake : ids.take (j + 1) = ids.take j ++ [ids[j]] := by rw [List.take_add_one, hx]; rfl
    have hnew : ids[j] ∉ ids.take j := by
      have : (ids.take j ++ [ids[j]]).Nodup := by rw [← htake]; exact hnd.sublist (List.take_sublist _ _)
      rw [List.nodup_append] at this
      exact fun hm => this.2.2 _ hm _ (by simp) rfl
    have hmem : ids[j] ∈ ids := List.getElem_mem hlt
    have go : ∀ at' : Int, timeOf T ids[j] = at' → 0 ≤ at' → (wheel_Wheel_place_33 n (some (b, 0)) at' h).bind (fun r73 => putK r73.1 (.int .i64 ids[j]) (.bool true) r73.2 fun h74 => wheel_Wheel_settle_36_L3 n kk fuel (some (b, 0)) p ids.length c (Nat.cast ids.length) (IntKind.i64.wrap ((j : Int) + 1)) h74) = some () := by
      intro at' hat ha
      rw [place_eq s.w h0 h1 ha, Option.bind_some]
      unfold placeOf
      simp only
      rw [wrap_succ (by omega)]
      by_cases hn : near upto at'
      · rw [if_pos (show at' > upto ∧ at' < upto + 256 from hn)]
        have hks : (at' % 256).toNat < sl.length := by rw [s.w.len]; omega
        have hsl : sl[(at' % 256).toNat]? = some sl[(at' % 256).toNat] := List.getElem?_eq_getElem hks
        rw [List.getD_eq_getElem?_getD, hsl, Option.getD_some]
        generalize sl[(at' % 256).toNat] = mm at hsl
        obtain ⟨o2, k1, k2⟩ := s.w.slots _ _ hsl
        obtain ⟨o2', ho2, e2⟩ := putK_of (β := Unit) (keys_int .i64) k1 k2 ids[j] true
        rw [e2]
        have hfr : ∀ e ∈ S' (at' % 256).toNat, e.1 ≠ ids[j] := fun e he hk => by
          have : ids[j] ∈ keys (S' (at' % 256).toNat) := by rw [← hk]; exact List.mem_map_of_mem he
          rw [hs] at this
          rcases List.mem_append.1 this with h' | h'
          · exact hS _ _ hmem h'
          · exact hnew (List.mem_filter.1 h').1
        rw [pt_new hfr] at ho2
        have hmm : mm ∈ b :: fm :: tm :: sl := by simp [List.mem_of_getElem? hsl]
        refine Settle_L3 h0 h1 ok n hnd hsz hk hS hF d (j + 1) fuel _ _ F' (by omega) (by omega) ⟨s.w.setSlot hsl ho2, s.g.mod (S := [mm]) ((Mod.refl _ _).set (.inr (by simp)) _) (fun x hx hxm => ?_), s.m.set (.inr hmm) _, s.oldw⟩ (fun k => ?_) ?_
        · have h3 := (s.g.own_ge x hx).1
          have h4 := s.oldw mm hmm
          simp at hxm; omega
        · rw [htake, List.filter_append, ← List.append_assoc, ← hs k]
          by_cases hke : k = (at' % 256).toNat
          · have : inSlot upto k (timeOf T ids[j]) = true := decide_eq_true ⟨by rw [hat]; exact hn, by rw [hat, hke]; rfl⟩
            simp only [if_pos hke]
            rw [List.filter_cons, if_pos this]
            unfold keys
            rw [List.map_append, hke]; rfl
          · have : ¬ inSlot upto k (timeOf T ids[j]) = true := fun h => hke (by have := (of_decide_eq_true h).2; rw [hat] at this; exact this.symm)
            simp only [if_neg hke]
            rw [List.filter_cons, if_neg this, List.filter_nil, List.append_nil]
        · rw [htake, List.filter_append, ← List.append_assoc, ← hff]
          have : ¬ isFar upto (timeOf T ids[j]) = true := fun h => (of_decide_eq_true h) (by rw [hat]; exact hn)
          rw [List.filter_cons, if_neg this, List.filter_nil, List.append_nil]
      · rw [if_neg (show ¬ (at' > upto ∧ at' < upto + 256) from hn)]
        obtain ⟨o2, k1, k2⟩ := s.w.far
        obtain ⟨o2', ho2, e2⟩ := putK_of (β := Unit) (keys_int .i64) k1 k2 ids[j] true
        rw [e2]
        have hfr : ∀ e ∈ F', e.1 ≠ ids[j] := fun e he hk => by
          have : ids[j] ∈ keys F' := by rw [← hk]; exact List.mem_map_of_mem he
          rw [hff] at this
          rcases List.mem_append.1 this with h' | h'
          · exact hF _ hmem h'
          · exact hnew (List.mem_filter.1 h').1
        rw [pt_new hfr] at ho2
        refine Settle_L3 h0 h1 ok n hnd hsz hk hS hF d (j + 1) fuel _ S' _ (by omega) (by omega) ⟨s.w.setFar ho2, s.g.mod (S := [fm]) ((Mod.refl _ _).set (.inr (by simp)) _) (fun x hx hxm => ?_), s.m.set (.inr (by simp)) _, s.oldw⟩ (fun k => ?_) ?_
        · have h3 := (s.g.own_ge x hx).1
          have h4 := s.oldw fm (by simp)
          simp at hxm; omega
        · rw [htake, List.filter_append, ← List.append_assoc, ← hs k]
          have : ¬ inSlot upto k (timeOf T ids[j]) = true := fun h => hn (by have := (of_decide_eq_true h).1; rwa [hat] at this)
          rw [List.filter_cons, if_neg this, List.filter_nil, List.append_nil]
        · rw [htake, List.filter_append, ← List.append_assoc, ← hff]
          have : isFar upto (timeOf T ids[j]) = true := decide_eq_true (by rw [hat]; exact hn)
          rw [List.filter_cons, if_pos this]
          unfold keys
          rw [List.map_append]; rfl
    cases hl : lk T ids[j] with
    | none =>
      simp only [asInt_int]
      exact go 0 (by unfold timeOf; rw [hl]; rfl) (Int.le_refl _)
    | some v =>
      simp only [asInt_int]
      exact go v (by unfold timeOf; rw [hl]; rfl) (ok _ _ hl).2.2.1
theorem WOk.passed (ok : WOk now S F T) {upto : Int} (hl : ∀ e ∈ T, upto < e.2) {k : Nat} (h1 : 1 ≤ k) (h2 : (k : Int) ≤ upto - now) (h3 : k ≤ 256) : S (slotOf (now + k)) = [] := by
  cases hS : S (slotOf (now + k)) with
  | nil => rfl
  | cons e l =>
    exfalso
    have hm : e.1 ∈ keys (S (slotOf (now + k))) := by rw [hS]; simp [keys]
    obtain ⟨at', q1, ⟨q2, q3⟩, q4⟩ := ok.mem_slot hm
    have := hl _ q1
    have := ok.n0
    unfold slotOf at q4
    omega

theorem Settle_ret {h : H} (w : WRep h b now sl fm tm S F T) (ok : WOk now S F T) {upto : Int} (hu0 : now ≤ upto) (hu1 : upto ≤ 1099511627776) (hl : ∀ e ∈ T, upto < e.2) (hsz : T.length < 1000000) {n : Nat} (hn : 600 ≤ n) (hn2 : T.length < n) :
    RetK (fun kk => wheel_Wheel_settle_36 n (some (b, 0)) upto h kk) fun _ h' => Mod (b :: fm :: tm :: sl) h h' ∧ ∃ S' F', WRep h' b upto sl fm tm S' F' T ∧ WOk upto S' F' T := by
  intro kk hk
  have n0 := ok.n0
  have n1 := ok.n1
  show wheel_Wheel_settle_36 n (some (b, 0)) upto h kk = some ()
  rw [wheel_Wheel_settle_36_eq]
  simp only [nnK_some']
  rw [cellK_of w.obj rfl, asInt_int, cellK_of w.obj rfl, asInt_int, wrK_one w.obj (by simp) rfl, wrap_i64 (by omega) (by omega)]
  have w1 := w.setNow upto
  have m1 : Mod (b :: fm :: tm :: sl) h (h.set b (.cells ((i64 now :: (sl.map (fun m => AV.map (some m)) ++ [.map (some fm), .map (some tm)])).set 0 (i64 upto)) false)) := (Mod.refl _ _).set (.inr (by simp)) _
  obtain ⟨passed, hp1, hp2, hp3⟩ : ∃ passed : Nat, passed ≤ 256 ∧ (passed : Int) ≤ upto - now ∧ (if (256 : Int) < upto - now then 256 else upto - now) = (passed : Int) := by
    by_cases hc : (256 : Int) < upto - now
    · exact ⟨256, by omega, by omega, by rw [if_pos hc]; rfl⟩
    · exact ⟨(upto - now).toNat, by omega, by omega, by rw [if_neg hc]; omega⟩
  rw [hp3]
  refine Settle_L0 (a := h) n0 n1 (by omega) hp1 (fun k h1 h2 => ok.passed hl h1 (by omega) (by omega)) (fun h2 w2 m2 => ?_) passed 1 n _ (by omega) (by omega) (Nat.le_refl _) w1 m1
  simp only [nnK_some', Nat.zero_add]
  rw [cellK_of w2.obj w2.cell257, asMap_map]
  obtain ⟨o, g1, g2⟩ := w2.far
  have hfl : F.length ≤ T.length := by
    have h1 := ok.far.length_eq
    have h2 : (idsOf (isFar now) T).length ≤ T.length := by unfold idsOf; rw [List.length_map]; exact List.length_filter_le _ _
    unfold keys at h1
    rw [List.length_map] at h1
    omega
  have hfm : fm < h2.next := w2.lt _ (by simp)
  obtain ⟨L, clk, hL, it0, hr, it⟩ := Iter.begin g1 g2 hfm
  have hLl : L.length = F.length := by rw [← hL, List.length_map]
  have hLk : L.map (·.1) = keys F := by rw [← hL]; unfold keys; rw [List.map_map]; rfl
  rw [hr]
  have s0 : SetSt h h2 b upto sl fm tm S F T none (.known 0) [] := ⟨w2, .nil, m2, w.lt⟩
  refine Settle_L2 (a := h) (ids := []) m2.next (L := L) (clk := clk) (by omega) n (fun h3 p c ids s3 hids => ?_) L.length n [] L none (.known 0) _ rfl (by omega) (Nat.lt_succ_self _) (by simp) it (s0.new it0) (.refl _)
  simp only [nnK_some', Nat.zero_add]
  rw [cellK_of s3.w.obj s3.w.cell257, asMap_map]
  obtain ⟨o3, k1, k2⟩ := s3.w.far
  obtain ⟨o3', ho3, e3⟩ := clrK_of (β := Unit) k1 k2
  rw [e3]
  have hids' : ids.Perm (idsOf (isFar now) T) := by rw [hLk] at hids; exact hids.trans ok.far
  have hfmb : ∀ x ∈ own p, x ∉ [fm] := fun x hx hxm => by
    have h3 := (s3.g.own_ge x hx).1
    have h4 := s3.oldw fm (by simp)
    simp at hxm; omega
  have hlenI : ids.length ≤ T.length := by
    rw [hids'.length_eq]; unfold idsOf; rw [List.length_map]; exact List.length_filter_le _ _
  have hmem : ∀ id ∈ ids, ∃ at', (id, at') ∈ T ∧ ¬ near now at' := fun id hid => by
    obtain ⟨a, h1, h2⟩ := mem_idsOf.1 (hids'.mem_iff.1 hid)
    exact ⟨a, h1, of_decide_eq_true h2⟩
  refine Settle_L3 (a := h) (S := S) (F := []) (by omega) hu1 ok.times n (hids'.nodup_iff.2 (idsOf_nodup ok.nd)) (by omega) (fun h4 S' F' w4 m4 hS' hF' => hk () h4 ⟨m4, S', F', w4, ?_⟩) (fun k id hid hk' => ?_) (fun id _ h => by cases h) ids.length 0 n _ S [] (by omega) (by omega) ⟨s3.w.setFar ho3, s3.g.mod ((Mod.refl _ _).set (.inr (by simp)) _) hfmb, s3.m.set (.inr (by simp)) _, s3.oldw⟩ (fun k => by simp) (by simp)
  · have late : ∀ e ∈ T, near now e.2 → near upto e.2 := fun e he hn => by
      have := hl e he
      unfold near at *
      omega
    refine ⟨by omega, hu1, ok.nd, ok.may, fun k => ?_, ?_⟩
    · rw [hS' k]
      have h5 := idsOf_split (inSlot upto k) (fun x => decide (near now x)) T
      refine List.Perm.trans ?_ h5.symm
      refine List.Perm.append ((ok.slot k).trans ?_) ((hids'.filter _).trans ?_)
      · rw [idsOf_congr (p := inSlot now k) (q := fun x => inSlot upto k x && decide (near now x))]
        intro e he
        simp only [inSlot]
        rw [← Bool.decide_and, decide_eq_decide]
        exact ⟨fun ⟨h1, h2⟩ => ⟨⟨late e he h1, h2⟩, h1⟩, fun ⟨⟨_, h2⟩, h1⟩ => ⟨h1, h2⟩⟩
      · rw [idsOf_map ok.nd, idsOf_congr (p := fun x => isFar now x && inSlot upto k x) (q := fun x => inSlot upto k x && !decide (near now x))]
        intro e _
        simp only [isFar]
        rw [decide_not, Bool.and_comm]
    · rw [hF', show keys ([] : List (Int × Bool)) = [] from rfl, List.nil_append]
      refine (hids'.filter _).trans ?_
      rw [idsOf_map ok.nd, idsOf_congr (p := fun x => isFar now x && isFar upto x) (q := isFar upto)]
      intro e he
      simp only [isFar]
      rw [← Bool.decide_and, decide_eq_decide]
      exact ⟨fun h => h.2, fun h => ⟨fun hn => h (late e he hn), h⟩⟩
  · obtain ⟨a1, q1, q2⟩ := hmem id hid
    obtain ⟨a2, q3, q4, _⟩ := ok.mem_slot hk'
    have e1 := lk_of_mem ok.nd q1
    rw [lk_of_mem ok.nd q3] at e1
    cases e1
    exact q2 q4

end

end Go.Ev.Try
