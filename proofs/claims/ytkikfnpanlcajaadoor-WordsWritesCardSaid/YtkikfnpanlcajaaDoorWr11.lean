/- What is written is read as it was: plain. -/
import Derived.Test.YtkikfnpanlcajaaDoorWr10
set_option linter.all false
namespace Go.Ev.Tryd
set_option maxRecDepth 10000
open Go.Proofs

theorem parts_join (c : UInt8) : ∀ {ps : List (List UInt8)}, ps ≠ [] → (∀ p ∈ ps, c ∉ p) → parts c (Lib.join ps [c]) = ps
  | [], h, _ => absurd rfl h
  | [p], _, h => by rw [Lib.join_one]; exact parts_none (h p (by simp))
  | p :: q :: ps, _, h => by
    have ih := parts_join c (ps := q :: ps) (by simp) fun x hx => h x (by simp [hx])
    have e : Lib.join (p :: q :: ps) [c] = p ++ c :: Lib.join (q :: ps) [c] := by
      unfold Lib.join
      rw [List.intercalate_cons_cons]
      simp
    rw [e, parts_split _ (h p (by simp)), ih]
theorem partsB_join (c : UInt8) {ps : List ByteArray} (h0 : ps ≠ []) (h : ∀ p ∈ ps, c ∉ bs p) : partsB c (joinS ps (mk [c])) = ps := by
  unfold partsB
  have e : bs (joinS ps (mk [c])) = Lib.join (ps.map bs) [c] := rfl
  rw [e, parts_join c (by simpa using h0) (fun p hp => by obtain ⟨q, hq, rfl⟩ := List.mem_map.1 hp; exact h q hq), List.map_map]
  exact (List.map_congr_left fun x _ => mk_bs x).trans (List.map_id _)

theorem dg_mem {b : Nat} (hb : 0 < b) : ∀ {k u : Nat} {x : UInt8}, x ∈ dg b k u → ∃ d, d < b ∧ x = dig d
  | 0, _, _, h => by simp [dg] at h
  | k + 1, u, x, h => by
    unfold dg at h
    split at h
    · rename_i hu
      simp at h
      exact ⟨u, hu, h⟩
    · rcases List.mem_append.1 h with h | h
      · exact dg_mem hb h
      · simp at h
        exact ⟨_, Nat.mod_lt _ hb, h⟩
theorem dig_no {d : Nat} (h : d < 16) : dig d ≠ 58 ∧ dig d ≠ 46 := by
  have : ∀ k : Fin 16, dig k.val ≠ 58 ∧ dig k.val ≠ 46 := by decide +kernel
  exact this ⟨d, h⟩
theorem dg_pos (b : Nat) : ∀ {k : Nat} (u : Nat), 0 < k → 0 < (dg b k u).length
  | 0, _, h => by cases h
  | k + 1, u, _ => by unfold dg; split <;> simp

theorem hexL_app : ∀ (l m : List UInt8) (n : Int), hexL n (l ++ m) = (hexL n l).bind fun v => hexL v m
  | [], _, _ => rfl
  | x :: l, m, n => by
    rw [List.cons_append, hexL, hexL.eq_2 n x l]
    cases hexD x with
    | none => rfl
    | some d =>
      simp only
      split
      · rfl
      · exact hexL_app l m _
theorem hexD_dig {d : Nat} (h : d < 16) : hexD (dig d) = some (d : Int) := by
  have : ∀ k : Fin 16, hexD (dig k.val) = some ((k.val : Nat) : Int) := by decide +kernel
  exact this ⟨d, h⟩
theorem hexL_dg : ∀ {k u : Nat}, 0 < k → u < 16 ^ k → u < 65536 → hexL 0 (dg 16 k u) = some (u : Int)
  | 0, _, h, _, _ => by cases h
  | k + 1, u, _, hu, hu2 => by
    unfold dg
    split
    · rename_i h
      unfold hexL
      rw [hexD_dig h]
      simp only
      rw [if_neg (by omega)]
      simp [hexL]
    · rename_i h
      have hlt : u / 16 < 16 ^ k := by
        rw [Nat.div_lt_iff_lt_mul (by omega)]; rw [Nat.pow_succ] at hu; exact hu
      have hk0 : 0 < k := by
        rcases Nat.eq_zero_or_pos k with e | e
        · subst e
          simp at hlt; omega
        · exact e
      rw [hexL_app, hexL_dg hk0 hlt (by omega), Option.bind_some]
      unfold hexL
      rw [hexD_dig (Nat.mod_lt _ (by omega))]
      simp only
      rw [if_neg (by omega)]
      simp only [hexL]
      congr 1
      omega

theorem hexR_hT {u : Nat} (hu : u < 65536) : hexR 1 4 (hT u) = ((u : Int), true) := by
  have h1 := dg_len 16 4 u
  have h2 := dg_pos 16 (k := 4) u (by omega)
  unfold hexR hT
  rw [bs_mk, hexL_dg (by omega) (by omega) hu]
  rw [decide_eq_true (by rw [size_mk]; omega), decide_eq_true (by rw [size_mk]; omega)]
  rfl

theorem rd10_dT (c : UInt8) : rd10 (dT c) = ((c.toNat : Int), true) := by
  rw [dT_dg]
  have : ∀ k : Fin 256, rd10 (mk (dg 10 3 k.val)) = (((k.val : Nat) : Int), true) := by decide +kernel
  exact this ⟨c.toNat, c.toNat_lt⟩
theorem gout_dT : ∀ l : List UInt8, gout rd10 1 (l.map dT) = some (l.map fun c => (c.toNat : Int))
  | [] => rfl
  | c :: l => by
    have hc := c.toNat_lt
    simp only [List.map_cons, gout, rd10_dT, if_true]
    rw [gout_dT l, Option.map_some]
    have : byt 1 (c.toNat : Int) = [(c.toNat : Int)] := by
      have : ∀ k : Fin 256, byt 1 ((k.val : Nat) : Int) = [((k.val : Nat) : Int)] := by decide +kernel
      exact this ⟨c.toNat, hc⟩
    rw [this]
    rfl
theorem byt2_pair {x y : Nat} (hx : x < 256) (hy : y < 256) : byt 2 ((256 * x + y : Nat) : Int) = [(x : Int), (y : Int)] := by
  unfold byt
  rw [if_neg (by decide)]
  have e1 : ishr .i64 ((256 * x + y : Nat) : Int) 8 = (x : Int) := by
    unfold ishr
    rw [show min (8 : Int).toNat IntKind.i64.bits = 8 from rfl, show ((2 : Int) ^ 8) = 256 from rfl, Int.fdiv_eq_ediv_of_nonneg _ (by omega)]
    omega
  have e2 : ishr .i64 ((256 * x + y : Nat) : Int) 0 = ((256 * x + y : Nat) : Int) := by
    unfold ishr
    rw [show min (0 : Int).toNat IntKind.i64.bits = 0 from rfl, show ((2 : Int) ^ 0) = 1 from rfl, Int.fdiv_eq_ediv_of_nonneg _ (by omega)]
    omega
  have w : ∀ z : Int, IntKind.u8.wrap z = z % 256 := fun z => by
    simp only [IntKind.wrap, IntKind.bits, IntKind.signed]; simp
  rw [e1, e2, w, w]
  congr 1
  · omega
  · congr 1; omega
theorem gout_hT : ∀ l : List UInt8, l.length % 2 = 0 → gout (hexR 1 4) 2 ((prs l).map hT) = some (l.map fun c => (c.toNat : Int))
  | [], _ => rfl
  | [_], h => by simp at h
  | x :: y :: l, h => by
    have hx := x.toNat_lt
    have hy := y.toNat_lt
    simp only [prs, List.map_cons, gout]
    rw [hexR_hT (by omega)]
    simp only [if_true]
    rw [gout_hT l (by simp at h; omega), Option.map_some, byt2_pair (by omega) (by omega)]
    rfl

theorem nums_of (s : ByteArray) : strOfNums ((bs s).map fun c => (c.toNat : Int)) = s := by rw [str_b8, mk_bs]
theorem prs_mem : ∀ {l : List UInt8} {u : Nat}, u ∈ prs l → u < 65536
  | [], _, h => by simp [prs] at h
  | [_], _, h => by simp [prs] at h
  | x :: y :: l, u, h => by
    have hx := x.toNat_lt
    have hy := y.toNat_lt
    simp only [prs, List.mem_cons] at h
    rcases h with rfl | h
    · omega
    · exact prs_mem h
theorem prs_len : ∀ l : List UInt8, (prs l).length = l.length / 2
  | [] => rfl
  | [_] => by simp [prs]
  | x :: y :: l => by simp only [prs, List.length_cons, prs_len l]; omega
theorem join_ge (c : UInt8) : ∀ ps : List ByteArray, (∀ p ∈ ps, 0 < p.size) → 2 * ps.length ≤ (Lib.join (ps.map bs) [c]).length + 1
  | [], _ => by simp
  | [p], h => by have := h p (by simp); simp only [List.map_cons, List.map_nil, Lib.join_one, bs_len, List.length_cons, List.length_nil]; omega
  | p :: q :: ps, h => by
    have ih := join_ge c (q :: ps) fun x hx => h x (by simp [hx])
    have h1 := h p (by simp)
    have e : Lib.join ((p :: q :: ps).map bs) [c] = bs p ++ c :: Lib.join ((q :: ps).map bs) [c] := by
      unfold Lib.join
      simp only [List.map_cons]
      rw [List.intercalate_cons_cons]
      simp
    rw [e]
    simp only [List.length_append, List.length_cons, bs_len] at ih ⊢
    omega

theorem adrP_pT (s : ByteArray) : adrP (pT s) = if s.size = 4 ∨ s.size = 16 then (s, true) else (⟨#[]⟩, false) := by
  unfold pT
  by_cases h4 : s.size = 4
  · rw [if_pos h4, if_pos (.inl h4)]
    unfold adrP
    rw [partsB_join 46 (fun e => by have := congrArg List.length e; simp [bs_len, h4] at this) (fun p hp hm => by
      obtain ⟨c, _, rfl⟩ := List.mem_map.1 hp
      rw [dT_dg, bs_mk] at hm
      obtain ⟨d, hd, e⟩ := dg_mem (by omega) hm
      exact (dig_no (by omega)).2 e.symm), gout_dT]
    simp only
    rw [if_pos (by simp [bs_len, h4]), nums_of]
  · rw [if_neg h4]
    by_cases h16 : s.size = 16
    · rw [if_pos h16, if_pos (.inr h16)]
      have hno : ∀ p ∈ (prs (bs s)).map hT, ∀ x ∈ bs p, x ≠ 58 ∧ x ≠ 46 := fun p hp x hx => by
        obtain ⟨u, _, rfl⟩ := List.mem_map.1 hp
        unfold hT at hx
        rw [bs_mk] at hx
        obtain ⟨d, hd, rfl⟩ := dg_mem (by omega) hx
        exact dig_no hd
      have hlen : (prs (bs s)).length = 8 := by rw [prs_len, bs_len, h16]
      have hne : (prs (bs s)).map hT ≠ [] := fun e => by have := congrArg List.length e; simp [hlen] at this
      have hbig := join_ge 58 ((prs (bs s)).map hT) fun p hp => by
        obtain ⟨u, _, rfl⟩ := List.mem_map.1 hp
        unfold hT; rw [size_mk]; exact dg_pos 16 u (by omega)
      simp only [List.length_map, hlen] at hbig
      have hrd : ∀ t ∈ partsB 46 (joinS ((prs (bs s)).map hT) (mk [58])), t = joinS ((prs (bs s)).map hT) (mk [58]) := by
        intro t ht
        have hnot : (46 : UInt8) ∉ bs (joinS ((prs (bs s)).map hT) (mk [58])) := by
          rw [join_tail]
          intro hm
          have hm := List.mem_of_mem_drop hm
          unfold tail1 at hm
          obtain ⟨p, hp, hx⟩ := List.mem_flatMap.1 hm
          rcases List.mem_cons.1 hx with e | hx
          · cases e
          · exact (hno p hp _ hx).2 rfl
        unfold partsB at ht
        rw [parts_none hnot] at ht
        simpa [mk_bs] using ht
      have hsix : adrP (joinS ((prs (bs s)).map hT) (mk [58])) = sixP (joinS ((prs (bs s)).map hT) (mk [58])) := by
        unfold adrP
        have : gout rd10 1 (partsB 46 (joinS ((prs (bs s)).map hT) (mk [58]))) = none := by
          have hpn : partsB 46 (joinS ((prs (bs s)).map hT) (mk [58])) ≠ [] := by unfold partsB; simpa using parts_ne 46 _
          obtain ⟨t, l, htl⟩ := List.exists_cons_of_ne_nil hpn
          rw [htl]
          have ht := hrd t (by rw [htl]; simp)
          have hf : (rd10 t).2 = false := by
            rw [ht]
            unfold rd10
            have : numP (bs (joinS ((prs (bs s)).map hT) (mk [58]))) = (0, false) := by
              unfold numP
              rw [if_pos (.inr (.inl (by show 9 < (Lib.join (((prs (bs s)).map hT).map bs) [58]).length; omega)))]
            rw [this]
            rfl
          unfold gout
          rw [hf]
          rfl
        rw [this]
      rw [hsix]
      unfold sixP
      rw [partsB_join 58 hne (fun p hp hm => (hno p hp _ hm).1 rfl), gout_hT _ (by rw [bs_len, h16])]
      simp only
      rw [if_pos (by simp [bs_len, h16]), nums_of]
    · rw [if_neg h16, if_neg (by omega)]
      decide +kernel

theorem hexR_hx2 {x : Int} (h0 : 0 ≤ x) (h1 : x < 256) : hexR 2 2 (hx2 x) = (x, true) := by
  have : ∀ k : Fin 256, hexR 2 2 (hx2 ((k.val : Nat) : Int)) = (((k.val : Nat) : Int), true) := by decide +kernel
  obtain ⟨m, rfl⟩ := Int.eq_ofNat_of_zero_le h0
  exact this ⟨m, by omega⟩
theorem gout_hx2 : ∀ l : List Int, (∀ x ∈ l, 0 ≤ x ∧ x < 256) → gout (hexR 2 2) 1 (l.map hx2) = some l
  | [], _ => rfl
  | x :: l, h => by
    have hx := h x (by simp)
    simp only [List.map_cons, gout]
    rw [hexR_hx2 hx.1 hx.2]
    simp only [if_true]
    rw [gout_hx2 l fun y hy => h y (by simp [hy]), Option.map_some]
    have : byt 1 x = [x] := by
      have : ∀ k : Fin 256, byt 1 ((k.val : Nat) : Int) = [((k.val : Nat) : Int)] := by decide +kernel
      obtain ⟨m, rfl⟩ := Int.eq_ofNat_of_zero_le hx.1
      exact this ⟨m, by omega⟩
    rw [this]
    rfl
theorem cardP_mT {m : List Int} (hm6 : m.length = 6) (hb : ∀ x ∈ m, 0 ≤ x ∧ x < 256) : cardP (mT m) = (m, true) := by
  unfold cardP mT
  rw [partsB_join 58 (fun e => by have := congrArg List.length e; simp [hm6] at this) (fun p hp hm => by
    obtain ⟨x, hx, rfl⟩ := List.mem_map.1 hp
    have hxb := hb x hx
    obtain ⟨k, rfl⟩ := Int.eq_ofNat_of_zero_le hxb.1
    rw [hx2_two (by omega)] at hm
    simp only [List.mem_cons, List.not_mem_nil, or_false] at hm
    rcases hm with e | e
    · exact (dig_no (by omega)).1 e.symm
    · exact (dig_no (by omega)).1 e.symm), gout_hx2 m hb]
  simp only
  rw [if_pos hm6]
end Go.Ev.Tryd
