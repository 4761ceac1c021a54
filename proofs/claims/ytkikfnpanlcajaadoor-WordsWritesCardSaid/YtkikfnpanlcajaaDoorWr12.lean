/- The law WordsWrites. -/
import Derived.Test.YtkikfnpanlcajaaDoorWr11
import Derived.KernelRfl
set_option linter.all false
namespace Go.Ev.Tryd
set_option maxRecDepth 10000
open Go.Proofs

theorem adr_size (s : ByteArray) : (pT s).size < 2000 := by
  unfold pT
  have key : ∀ (c : UInt8) (ps : List ByteArray), (∀ p ∈ ps, p.size ≤ 100) → ps.length ≤ 16 → (joinS ps (mk [c])).size < 2000 := by
    intro c ps h hl
    have h1 := join_le c (ps.map (·.data.toList))
    have h2 := flat_le h
    simp only [List.length_map] at h1
    have h3 : (joinS ps (mk [c])).size = (Lib.join (ps.map (·.data.toList)) [c]).length := by rw [← bs_len]; rfl
    omega
  split
  · rename_i h
    exact key 46 _ (fun p hp => by obtain ⟨x, _, rfl⟩ := List.mem_map.1 hp; exact dT_size x) (by simp [bs_len, h])
  · split
    · rename_i h
      exact key 58 _ (fun p hp => by obtain ⟨x, _, rfl⟩ := List.mem_map.1 hp; exact hT_size x) (by simp [prs_len, bs_len, h])
    · decide
theorem mac_size {m : List Int} (hm6 : m.length = 6) (hb : ∀ x ∈ m, 0 ≤ x ∧ x < 256) : (mT m).size < 2000 := by
  unfold mT
  have h1 := join_le 58 ((m.map hx2).map (·.data.toList))
  have h2 := flat_le (k := 100) (xs := m.map hx2) fun p hp => by
    obtain ⟨x, hx, rfl⟩ := List.mem_map.1 hp
    have hxb := hb x hx
    obtain ⟨k, rfl⟩ := Int.eq_ofNat_of_zero_le hxb.1
    rw [← bs_len, hx2_two (by omega)]
    simp
  simp only [List.length_map] at h1 h2
  have h3 : (joinS (m.map hx2) (mk [58])).size = (Lib.join ((m.map hx2).map (·.data.toList)) [58]).length := by rw [← bs_len]; rfl
  omega

theorem eqMac {β : Type} {xs ys : List Int} (hx : xs.length = 6) (hy : ys.length = 6) (f : Bool → Option β) : eqVK Tryd.prog 39 (.agg (u8s xs)) (.agg (u8s ys)) f = f (xs == ys) := by
  obtain ⟨inf, h1, h2⟩ := info_some (P := Tryd.prog) (t := 5) (s := 1) (by kernel_rfl)
  exact eqVK_ints (n := 6) (e := 5) (by kernel_rfl) (by kernel_rfl) h1 h2 hx hy f

def objs0 (t0 t1 : Option Tgt) : Objs := [(t0, .tab pow10AV), (t1, .cells tz64 true)]

theorem wordsWrites_true {t0 t1 : Option Tgt} {s : ByteArray} {m : List Int} (hm6 : m.length = 6) (hb : ∀ x ∈ m, 0 ≤ x ∧ x < 256) : ∃ h', ca 9000 i_outriderlaw17_WordsWrites [.str s, .agg (u8s m)] (HR (objs0 t0 t1)) = some (.bool true, h') := by
  have hr : Ret (ca 9000 i_outriderlaw17_WordsWrites [.str s, .agg (u8s m)] (HR (objs0 t0 t1))) fun r _ => r = .bool true := by
    have ht0 : (HR (objs0 t0 t1)).get 0 = some (.tab pow10AV) := rfl
    have ht1 : (HR (objs0 t0 t1)).get 1 = some (.cells tz64 true) := rfl
    have hn : (HR (objs0 t0 t1)).next = 2 := rfl
    generalize HR (objs0 t0 t1) = h at *
    rw [outriderlaw17_WordsWrites_eq]
    simp only [newK_eq]
    have m1 : Mod [] h (h.new (.cells (u8s m) false)) := (Mod.refl _ _).new _
    have g1 : (h.new (.cells (u8s m) false)).get h.next = some (.cells (u8s m) false) := get_new_self _ _
    have l1 : h.next < (h.new (.cells (u8s m) false)).next := by simp
    generalize h.new (.cells (u8s m) false) = h1 at *
    refine (AddressText_ret s (by omega) (by have := m1.next; omega) ((m1.get 0 (by omega) (by simp)).trans ht0) ((m1.get 1 (by omega) (by simp)).trans ht1)).bind ?_
    rintro _ h2 ⟨m2, rfl⟩
    simp only [asStr_str]
    have g2 := (m2.get _ l1 (by simp)).trans g1
    rw [addT_same fun i hi => m2.get i hi (by simp), minus_noT, aggK_all (n := 6) g2 (by simpa using hm6)]
    refine (CardText_ret hm6 hb (by omega) h2).bind ?_
    rintro _ h3 ⟨m3, rfl⟩
    simp only [asStr_str]
    have l2 := m2.lt l1
    have g3 := (m3.get _ l2 (by simp)).trans g2
    rw [rAddressText_eq s (by omega), Option.bind_some]
    simp only [asStr_str]
    rw [show ((pT s).toList == (pT s).toList) = true by simp, Bool.not_true, cond_false, aggK_all (n := 6) g3 (by simpa using hm6)]
    refine (rCardText_ret hm6 hb (by omega) h3).bind ?_
    rintro _ h4 ⟨m4, rfl⟩
    simp only [asStr_str]
    have l3 := m3.lt l2
    have g4 := (m4.get _ l3 (by simp)).trans g3
    change Ret (outriderlaw17_WordsWrites_J0 8999 s (some (h.next, 0)) (pT s) (mT m) (!((mT m).toList == (mT m).toList)) h4) _
    rw [show ((mT m).toList == (mT m).toList) = true by simp, Bool.not_true, outriderlaw17_WordsWrites_J0_eq, cond_false]
    have hz := adr_size s
    have hz2 := mac_size hm6 hb
    refine (Address_ret (s := pT s) (by omega) (by omega) h4).bind ?_
    rintro _ h5 ⟨m5, rfl⟩
    simp only [enSB, asTup_tup, lS_of, lB_of, l0_nil]
    refine (Card_ret (s := mT m) (by omega) (by omega) h5).bind ?_
    rintro _ h6 ⟨m6, rfl⟩
    simp only [enRB, asTup_tup, lA_of, lB_of, l0_nil, newK_eq]
    rw [cardP_mT hm6 hb]
    have l4 := m4.lt l3
    have l5 := m5.lt l4
    have g6 := (m6.get _ l5 (by simp)).trans ((m5.get _ l4 (by simp)).trans g4)
    have l6 := m6.lt l5
    have m7 : Mod [] h6 (h6.new (.cells [(.int .u8 0), (.int .u8 0), (.int .u8 0), (.int .u8 0), (.int .u8 0), (.int .u8 0)] false)) := (Mod.refl _ _).new _
    have gz : (h6.new (.cells [(.int .u8 0), (.int .u8 0), (.int .u8 0), (.int .u8 0), (.int .u8 0), (.int .u8 0)] false)).get h6.next = some (.cells [(.int .u8 0), (.int .u8 0), (.int .u8 0), (.int .u8 0), (.int .u8 0), (.int .u8 0)] false) := get_new_self _ _
    have lz : h6.next < (h6.new (.cells [(.int .u8 0), (.int .u8 0), (.int .u8 0), (.int .u8 0), (.int .u8 0), (.int .u8 0)] false)).next := by simp
    generalize h6.new (.cells [(.int .u8 0), (.int .u8 0), (.int .u8 0), (.int .u8 0), (.int .u8 0), (.int .u8 0)] false) = h7 at *
    have g7 := (m7.get _ l6 (by simp)).trans g6
    rw [wrK_of (n := 6) gz (by simpa using hm6) (by simp) (u8s_cell m), spl_all _ _ (by simpa using hm6)]
    have m8 : Mod [h6.next] h7 (h7.set h6.next (.cells (u8s m) false)) := (Mod.refl _ _).set (.inr (by simp)) _
    have g8 : (h7.set h6.next (.cells (u8s m) false)).get h.next = some (.cells (u8s m) false) := (get_set_ne (by omega)).trans g7
    have gz8 : (h7.set h6.next (.cells (u8s m) false)).get h6.next = some (.cells (u8s m) false) := get_set_self _ _ _
    have l8 : h.next < (h7.set h6.next (.cells (u8s m) false)).next := by have := m7.lt l6; simpa using this
    have lz8 : h6.next < (h7.set h6.next (.cells (u8s m) false)).next := by simpa using lz
    generalize h7.set h6.next (.cells (u8s m) false) = h8 at *
    refine (alive_ret h8 (by omega)).bind ?_
    rintro _ h9 ⟨rfl, m9⟩
    simp only [asBool_bool, cond_true, nnK_some']
    rw [aggK_all (n := 6) ((m9.get _ lz8 (by simp)).trans gz8) (by simpa using hm6), aggK_all (n := 6) ((m9.get _ l8 (by simp)).trans g8) (by simpa using hm6), eqMac hm6 hm6, show (m == m) = true by simp, cond_true, adrP_pT]
    by_cases h4' : s.size = 4
    · rw [if_pos (.inl h4'), show (((s.size : Nat) : Int) == 4) = true by simp; omega, cond_true]
      simp only [Bool.not_true, cond_false, cond_true, BEq.rfl]
      exact .pure rfl
    · rw [show (((s.size : Nat) : Int) == 4) = false by simp; omega, cond_false]
      by_cases h16 : s.size = 16
      · rw [if_pos (.inr h16), show (((s.size : Nat) : Int) == 16) = true by simp; omega]
        simp only [Bool.not_true, cond_false, cond_true, BEq.rfl]
        exact .pure rfl
      · rw [if_neg (by omega), show (((s.size : Nat) : Int) == 16) = false by simp; omega]
        simp only [Bool.not_false, cond_true, BEq.rfl]
        exact .pure rfl
  obtain ⟨r, h', e, rfl⟩ := hr
  exact ⟨h', e⟩
end Go.Ev.Tryd
