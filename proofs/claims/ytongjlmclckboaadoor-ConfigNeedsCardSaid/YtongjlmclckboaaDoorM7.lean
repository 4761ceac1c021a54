/- Own texts, joined: Cf17 Cf18 Cf19 Cf20 Cp1 Cp2 Wc10 Cp3 Cp4 Cp5 Cp6 Cp7 Sp1 Sp4 Sp5 Sp6 Sp7 Sp8 Sp9 Sp11 Sq1 Sq3 Tw1 Tw2 Tw3. -/
import Derived.Test.YtongjlmclckboaaDoorM6
import Derived.Test.YtongjlmclckboaaDoorM5
import Derived.Test.YtongjlmclckboaaDoorM4
import Derived.KernelRfl
import Derived.Lib.ItoaLen
import Derived.LaidLaws
set_option linter.all false
/- The configuration's reader: a service, walked. -/
namespace Go.Ev.Tryd
set_option maxRecDepth 10000
set_option maxHeartbeats 1000000
open Go.Proofs
theorem frUp {T T' : List Nat} {a b : H} (m : Mod [] a b) (hT : ∀ y ∈ T', y ∈ T ∨ a.next ≤ y) : Fr T a T' b := ⟨m.of_nil, hT⟩
theorem service_rd (e : En) (hs0 : e.sv = none) (hb0 : e.bk = none) (S0 : List Nat) (h0 : H) (hw : Words e.l) {N : Nat} (hN : 90000 + e.l.length ≤ N) : RdOk e S0 h0 N i_config_parser_service [.ptr (some (e.b, 0))] [] (serviceS e.s e.l) := by
  refine ⟨fun b k => by kernel_rfl, fun n hn h S st _ i => relK (by kernel_rfl) ?_⟩
  intro kk hkk
  obtain ⟨n, rfl⟩ : ∃ k, n = k + 2 := ⟨n - 2, by omega⟩
  show cr (n + 1 + 1) i_config_parser_service [.ptr (some (e.b, 0))] h kk = some ()
  have hw' : ∀ w ∈ e.l, w.1.size < 90000 ∧ w.1.size + 70 ≤ 80070 := fun w hx => by have := hw w hx; omega
  have ok := i.okp
  have oks := ok.svs
  have hk := ok.k
  have hll := ok.len
  rw [config_parser_service_eq, newK_eq]
  have ma : Mod [] h (h.new (.cells [.ptr (some (e.b, 0))] false)) := (Mod.refl _ _).new _
  have k1 : Kept S (h.new (.cells [.ptr (some (e.b, 0))] false)) h.next (.cells [.ptr (some (e.b, 0))] false) := kept_new i.ltS _
  replace i := i.frame ma
  have fa : Fr S h S (h.new (.cells [.ptr (some (e.b, 0))] false)) := .mod0 ma
  generalize h.new (.cells [.ptr (some (e.b, 0))] false) = ha at k1 i fa ⊢
  generalize h.next = b1 at k1 ⊢
  have i0 := i
  obtain ⟨g, rfl, i⟩ := i
  rw [k1.cell, asPtr_ptr]
  simp only [nnK_some', Nat.zero_add]
  rw [i.cell (o := 17) rfl, asSlice_slice]
  have hsv : st.p.svs.length = g.svr.length := by rw [← i.esv, List.length_map]
  have hnames : g.svr.map (·.1.name) = st.p.svs.map (·.name) := by rw [← i.esv, List.map_map]; rfl
  have hrow : Row ha 10 (slP g.f 4) g.svr.length g.gc (g.svr.flatMap encR) := by rw [← hsv]; exact (i.gp.grow i.ow).row
  obtain ⟨m', p', d', h1, e1, m1, g1⟩ := service_names hrow (by omega) (some (b1, 0)) (n + 1) kk g.svr [] (n + 1) ha none (.known 0) rfl (by omega) (.refl _ _) .nil
  rw [hnames] at g1
  rw [hsv]
  rw [show config_parser_service_L0 (n + 1) (n + 1) (some (b1, 0)) none 0 (.known 0) (slP g.f 4) g.svr.length g.gc (Nat.cast g.svr.length) 0 ha kk = _ from e1]
  rw [config_parser_service_L0_eq, cast_not_lt (Nat.le_refl _), cond_false]
  have i1 := i0.frame m1
  have f1 : Fr (foot g.f) ha (foot g.f) h1 := .mod0 m1
  have k2 := k1.mod0 m1
  have hS : ∀ b ∈ own p', b ∉ foot g.f := fun b hb hm => by
    have := (g1.own_ge b hb).1
    have := i0.ltS b hm
    omega
  generalize hSS : foot g.f = S at *
  have hr : Row h1 1 p' (st.p.svs.map (·.name)).length d' ((st.p.svs.map (·.name)).map .str) := by rw [List.length_map, hsv]; exact g1.row
  have hnm := named_ret i1 hr (by rw [List.length_map]; omega) hS (n := n + 1) (by rw [List.length_map]; omega)
  rw [List.length_map, hsv] at hnm
  simp only [nnK_some']
  rw [k2.cell, asPtr_ptr]
  unfold serviceS at hkk
  have hvk := namedP_k e.s e.l (st.p.svs.map (·.name)) st.p
  generalize namedP e.s e.l (st.p.svs.map (·.name)) st.p = v at hvk hnm hkk
  obtain ⟨p1, nm, is⟩ := v
  obtain ⟨r, h2, e2, rfl, f2, j2⟩ := hnm
  rw [e2, Option.bind_some]
  simp only [asTup_tup, lS_of, lB_of, l0_nil]
  cases is with
  | false =>
    rw [Bool.not_false, cond_true]
    exact hkk _ _ ⟨S, rfl, (fa.trans f1).trans f2, j2⟩
  | true =>
    obtain rfl : p1 = { st.p with k := st.p.k + 1 } := hvk rfl
    rw [Bool.not_true, cond_false, newK_eq]
    obtain ⟨S1, f3, j3⟩ := j2.openS hs0 (y := newSv nm) rfl (Nat.le_refl h2.next) (.new h2 (.cells (encS (newSv nm) (.slice none 0 (.known 0))) false)) ((Mod.refl _ _).new _)
    have k3 := (k2.fr f2).fr f3
    rw [show (AObj.cells [(.str nm), (.str .empty), (.int .i64 0), (.int .i64 0), (.int .i64 0), (.int .i64 1), (.int .i64 1), (.int .i64 1), (.int .i64 100), (.slice none 0 (.known 0))] false) = .cells (encS (newSv nm) (.slice none 0 (.known 0))) false from rfl]
    generalize h2.next = X at j3 ⊢
    generalize h2.new (.cells (encS (newSv nm) (.slice none 0 (.known 0))) false) = hA at j3 f3 k3 ⊢
    rw [newK_eq, box_wr (n := 1) rfl rfl rfl]
    have mb : Mod [] hA (hA.new (.cells [.ptr (some (X, 0))] false)) := (Mod.refl _ _).new _
    have kX : Kept S1 (hA.new (.cells [.ptr (some (X, 0))] false)) hA.next (.cells [.ptr (some (X, 0))] false) := kept_new j3.ltS _
    replace j3 := j3.frame mb
    have k4 := k3.mod0 mb
    have f4 : Fr S1 hA S1 (hA.new (.cells [.ptr (some (X, 0))] false)) := .mod0 mb
    generalize hA.new (.cells [.ptr (some (X, 0))] false) = hb at j3 k4 kX f4 ⊢
    generalize hA.next = X2 at kX ⊢
    have f04 := (((fa.trans f1).trans f2).trans f3).trans f4
    have hS1 := j3.ltS
    have rd1 : ∀ {β : Type} {hh : H}, Mod [] hb hh → ∀ f : AV → Option β, cellK hh b1 0 f = f (.ptr (some (e.b, 0))) := fun m f => (k4.mod0 m).cell f
    have rdX : ∀ {β : Type} {hh : H}, Mod [] hb hh → ∀ f : AV → Option β, cellK hh X2 0 f = f (.ptr (some (X, 0))) := fun m f => (kX.mod0 m).cell f
    have lt1 : ∀ {hh : H}, Mod [] hb hh → b1 < hh.next := fun m => (k4.mod0 m).at_.lt
    have m66 : Mod [] hb (hb.newO none) := (Mod.refl _ _).newO _
    have m76 : Mod [] hb ((hb.newO none).newO none) := m66.newO _
    rw [rd1 (.refl _ _), asPtr_ptr, newHK_eq, rd1 m66, asPtr_ptr, rdX m66, asPtr_ptr, nnK_some', newHK_eq]
    have n66 : (hb.newO none).next = hb.next + 1 := next_newO _ _
    have n76 : ((hb.newO none).newO none).next = hb.next + 2 := by rw [next_newO, n66]
    rw [n66]
    have u1 : ∀ x ∈ [hb.next, hb.next + 1] ++ S1, x < ((hb.newO none).newO none).next := by
      intro x hx
      rw [n76]
      simp only [List.cons_append, List.nil_append, List.mem_cons] at hx
      rcases hx with rfl | rfl | hx
      · omega
      · omega
      · have := hS1 x hx; omega
    have up : ∀ {T : List Nat} {h' h'' : H}, Mod [] h' h'' → (∀ x ∈ T, x < h'.next) → ∀ x ∈ T, x < h''.next := fun m hh x hx => m.lt (hh x hx)
    generalize (hb.newO none).newO none = h77 at m76 n76 u1 ⊢
    refine once_s (lt1 m76) (choice_g (e := { e with sv := some X }) u1 (put_sproto rfl) (m := hb.next + 1) (by omega) n) fun f1' x1 y1 c1 c2 v1 w1 mA P1 mB => ?_
    have M2 := (m76.trans mA).trans mB
    dsimp only
    simp only [minus_quiet mA, minus_quiet mB, minus_none]
    rw [rd1 M2, asPtr_ptr, rdX M2, asPtr_ptr, nnK_some']
    have u2 := up (mA.trans mB) u1
    refine fn_s (lt1 M2) (into_mk (e := { e with sv := some X }) u2 (put_svip rfl) n) fun fI xI yI c3 v3 mC dI => ?_
    have M3 := M2.trans mC
    have u3 := up mC u2
    dsimp only
    refine once_s (lt1 M3) (made_g (address_mk (e := { e with sv := some X }) u3 hw' (by omega) true (dI.more (N' := 80069) (by omega)) n)) fun f2' x2 y2 c4 c5 v4 w4 mD q2 mE => ?_
    have M5 := (M3.trans mD).trans mE
    dsimp only
    simp only [minus_quiet mA, minus_quiet mB, minus_quiet mC, minus_quiet mD, minus_quiet mE, minus_none]
    rw [rd1 M5, asPtr_ptr, rdX M5, asPtr_ptr, nnK_some']
    have u5 := up (mD.trans mE) u3
    refine once_s (lt1 M5) (made_g (number_mk (e := { e with sv := some X }) u5 (put_sport rfl) 1 65535 n)) fun f3' x3 y3 c6 c7 v6 w6 mF q3 mG => ?_
    have M7 := (M5.trans mF).trans mG
    dsimp only
    simp only [minus_quiet mA, minus_quiet mB, minus_quiet mC, minus_quiet mD, minus_quiet mE, minus_quiet mF, minus_quiet mG, minus_none]
    rw [rd1 M7, asPtr_ptr, rdX M7, asPtr_ptr, nnK_some', newHK_eq]
    have u7 := up (mF.trans mG) u5
    have mH : Mod [] c7 (c7.newO none) := (Mod.refl _ _).newO _
    have M8 := M7.trans mH
    have n8 : (c7.newO none).next = c7.next + 1 := next_newO _ _
    have u8 : ∀ x ∈ [hb.next, hb.next + 1, c7.next] ++ S1, x < (c7.newO none).next := by
      intro x hx
      rw [n8]
      simp only [List.cons_append, List.nil_append, List.mem_cons] at hx
      rcases hx with rfl | rfl | rfl | hx
      · have := u7 hb.next (by simp); omega
      · have := u7 (hb.next + 1) (by simp); omega
      · omega
      · have := u7 x (by simp [hx]); omega
    generalize c7.newO none = c8 at mH M8 n8 u8 ⊢
    refine once_s (lt1 M8) (choice_g (e := { e with sv := some X }) u8 (put_smode rfl) (m := c7.next) (by omega) n) fun f4' x4 y4 c9 c10 v9 w9 mI P4 mJ => ?_
    have M10 := (M8.trans mI).trans mJ
    dsimp only
    simp only [minus_quiet mA, minus_quiet mB, minus_quiet mC, minus_quiet mD, minus_quiet mE, minus_quiet mF, minus_quiet mG, minus_quiet mI, minus_quiet mJ, minus_none]
    rw [rd1 M10, asPtr_ptr, rdX M10, asPtr_ptr, nnK_some', newHK_eq]
    have u10 := up (mI.trans mJ) u8
    have mK : Mod [] c10 (c10.newO none) := (Mod.refl _ _).newO _
    have M11 := M10.trans mK
    have n11 : (c10.newO none).next = c10.next + 1 := next_newO _ _
    have u11 : ∀ x ∈ [hb.next, hb.next + 1, c7.next, c10.next] ++ S1, x < (c10.newO none).next := by
      intro x hx
      rw [n11]
      simp only [List.cons_append, List.nil_append, List.mem_cons] at hx
      rcases hx with rfl | rfl | rfl | rfl | hx
      · have := u10 hb.next (by simp); omega
      · have := u10 (hb.next + 1) (by simp); omega
      · have := u10 c7.next (by simp); omega
      · omega
      · have := u10 x (by simp [hx]); omega
    generalize c10.newO none = c11 at mK M11 n11 u11 ⊢
    refine once_s (lt1 M11) (choice_g (e := { e with sv := some X }) u11 (put_ssched rfl) (m := c10.next) (by omega) n) fun f5' x5 y5 c12 c13 v12 w12 mL P5 mM => ?_
    have M13 := (M11.trans mL).trans mM
    dsimp only
    simp only [minus_quiet mA, minus_quiet mB, minus_quiet mC, minus_quiet mD, minus_quiet mE, minus_quiet mF, minus_quiet mG, minus_quiet mI, minus_quiet mJ, minus_quiet mL, minus_quiet mM, minus_none]
    rw [rd1 M13, asPtr_ptr, rdX M13, asPtr_ptr, nnK_some']
    have u13 := up (mL.trans mM) u11
    refine once_s (lt1 M13) (made_g (number_mk (e := { e with sv := some X }) u13 (put_srise rfl) 1 20 n)) fun f6' x6 y6 c14 c15 v14 w14 mN q6 mO => ?_
    have M15 := (M13.trans mN).trans mO
    dsimp only
    simp only [minus_quiet mA, minus_quiet mB, minus_quiet mC, minus_quiet mD, minus_quiet mE, minus_quiet mF, minus_quiet mG, minus_quiet mI, minus_quiet mJ, minus_quiet mL, minus_quiet mM, minus_quiet mN, minus_quiet mO, minus_none]
    rw [rd1 M15, asPtr_ptr, rdX M15, asPtr_ptr, nnK_some']
    have u15 := up (mN.trans mO) u13
    refine once_s (lt1 M15) (made_g (number_mk (e := { e with sv := some X }) u15 (put_sfall rfl) 1 20 n)) fun f7' x7 y7 c16 c17 v16 w16 mP q7 mQ => ?_
    have M17 := (M15.trans mP).trans mQ
    dsimp only
    simp only [minus_quiet mA, minus_quiet mB, minus_quiet mC, minus_quiet mD, minus_quiet mE, minus_quiet mF, minus_quiet mG, minus_quiet mI, minus_quiet mJ, minus_quiet mL, minus_quiet mM, minus_quiet mN, minus_quiet mO, minus_quiet mP, minus_quiet mQ, minus_none]
    rw [rd1 M17, asPtr_ptr, rdX M17, asPtr_ptr, nnK_some']
    have u17 := up (mP.trans mQ) u15
    refine once_s (lt1 M17) (made_g (number_mk (e := { e with sv := some X }) u17 (put_sprobe rfl) 1 10000 n)) fun f8' x8 y8 c18 c19 v18 w18 mR q8 mS => ?_
    have M19 := (M17.trans mR).trans mS
    have u19 := up (mR.trans mS) u17
    dsimp only
    have o7 : hb.next + 2 ≤ c7.next := by rw [← n76]; exact ((((((mA.trans mB).trans mC).trans mD).trans mE).trans mF).trans mG).next
    have o10 : c7.next + 1 ≤ c10.next := by rw [← n8]; exact (mI.trans mJ).next
    have z16 := mQ.trans (mR.trans mS)
    have z14 := mO.trans (mP.trans z16)
    have z12 := mM.trans (mN.trans z14)
    have z9 := mJ.trans (mK.trans (mL.trans z12))
    have z6 := mG.trans (mH.trans (mI.trans z9))
    have z4 := mE.trans (mF.trans z6)
    have z1 := mB.trans (mC.trans (mD.trans z4))
    have t9 : Fr ([hb.next, hb.next + 1, c7.next] ++ S1) c9 ([hb.next, hb.next + 1, c7.next, c10.next] ++ S1) c19 := frUp z9 fun y hy => by
      have := mJ.next
      simp only [List.cons_append, List.nil_append, List.mem_cons] at hy ⊢
      rcases hy with rfl | rfl | rfl | rfl | hy <;> simp_all
    have t6 : Fr ([hb.next, hb.next + 1] ++ S1) c6 ([hb.next, hb.next + 1, c7.next, c10.next] ++ S1) c19 := frUp z6 fun y hy => by
      have := mG.next
      simp only [List.cons_append, List.nil_append, List.mem_cons] at hy ⊢
      rcases hy with rfl | rfl | rfl | rfl | hy
      · simp
      · simp
      · right; omega
      · right; omega
      · simp [hy]
    have t4 : Fr ([hb.next, hb.next + 1] ++ S1) c4 ([hb.next, hb.next + 1, c7.next, c10.next] ++ S1) c19 := frUp z4 fun y hy => by
      have := (mE.trans (mF.trans mG)).next
      simp only [List.cons_append, List.nil_append, List.mem_cons] at hy ⊢
      rcases hy with rfl | rfl | rfl | rfl | hy
      · simp
      · simp
      · right; omega
      · right; omega
      · simp [hy]
    have t1 : Fr ([hb.next, hb.next + 1] ++ S1) c1 ([hb.next, hb.next + 1, c7.next, c10.next] ++ S1) c19 := frUp z1 fun y hy => by
      have := (mB.trans (mC.trans (mD.trans (mE.trans (mF.trans mG))))).next
      simp only [List.cons_append, List.nil_append, List.mem_cons] at hy ⊢
      rcases hy with rfl | rfl | rfl | rfl | hy
      · simp
      · simp
      · right; omega
      · right; omega
      · simp [hy]
    obtain ⟨rfl, rfl, P1⟩ := P1
    obtain ⟨rfl, rfl, P4⟩ := P4
    obtain ⟨rfl, rfl, P5⟩ := P5
    have lt66 := u19 hb.next (by simp)
    have lt76 := u19 (hb.next + 1) (by simp)
    have lt142 := u19 c7.next (by simp)
    have lt164 := u19 c10.next (by simp)
    have d1 : hb.next ≠ c7.next := by omega
    have d1' : hb.next ≠ c10.next := by omega
    have d2 : hb.next + 1 ≠ c7.next := by omega
    have d2' : hb.next + 1 ≠ c10.next := by omega
    have d3 : c7.next ≠ c10.next := by omega
    refine restK_ret (by simp) (by simp; exact ⟨lt66, lt76, lt142, lt164⟩) (by simp [List.pairwise_cons, key_str, d1, d1', d2, d2', d3, d1.symm, d1'.symm, d2.symm, d2'.symm, d3.symm]) fun h20 r => ?_
    have fr : Fr ([hb.next, hb.next + 1, c7.next, c10.next] ++ S1) c19 S1 h20 := r.fr
    have hout : ∀ {x : Nat}, hb.next ≤ x → x ∉ S1 := fun hx hm => by have := hS1 _ hm; omega
    obtain ⟨LA, oA, hpA, kA, hMA⟩ := restChoice r (S := S1) (m := hb.next + 1) (by simp) lt76 (hout (by omega)) (L := tcpUdp) (by simp [tcpUdp, kTcp, kUdp, d2.symm, d2'.symm])
    obtain ⟨LB, oB, hpB, kB, hMB⟩ := restChoice r (S := S1) (m := c7.next) (by simp) lt142 (hout (by omega)) (L := modes) (by simp [modes, kNat, kDr, kIpip, d1, d2, d3.symm])
    obtain ⟨LC, oC, hpC, kC, hMC⟩ := restChoice r (S := S1) (m := c10.next) (by simp) lt164 (hout (by omega)) (L := scheds) (by simp [scheds, kMaglev, kSource, d1', d2', d3])
    have g1' := P1 S1 h20 oA LA (fun j oj k _ => (k.fr t1).fr fr) kA hMA
    rw [choiceS_perm hpA (by simp [tcpUdp, kTcp, kUdp])] at g1'
    have g4' := P4 S1 h20 oB LB (fun j oj k _ => (k.fr t9).fr fr) kB hMB
    rw [choiceS_perm hpB (by simp [modes, kNat, kDr, kIpip])] at g4'
    have g5' := P5 S1 h20 oC LC (fun j oj k _ => (k.mod0 z12).fr fr) kC hMC
    rw [choiceS_perm hpC (by simp [scheds, kMaglev, kSource])] at g5'
    have g2' := (q2.fr t4).fr fr
    have g3' := (q3.fr t6).fr fr
    have g6' := (q6.fr (.mod0 z14)).fr fr
    have g7' := (q7.fr (.mod0 z16)).fr fr
    have g8' := (q8.fr (.mod0 mS)).fr fr
    have M20 : Mod [] hb h20 := r.mod M19 (by simp; omega)
    have g9' : RdOk { e with sv := some X } S1 h20 (81010 + e.l.length) i_config_parser_service_1 [] [.ptr (some (b1, 0)), .ptr (some (X2, 0))] (backendS e.s e.l) := service1_rd (e := { e with sv := some X }) rfl hb0 hw (k4.mod0 M20) (kX.mod0 M20) (Nat.le_refl _)
    refine keys_block (n := n + 1) (N := 81010 + e.l.length) (e := { e with sv := some X }) (L := [(kProto, ⟨1, true, i_config_parser_choice_1, [], y1, choiceS e.s e.l putSProto tcpUdp⟩), (kVip, ⟨1, true, f2', x2, y2, addressS e.s e.l true (intoS putSVip)⟩), (kPort, ⟨1, true, f3', x3, y3, numberS e.s e.l putSPort 1 65535⟩), (kMode, ⟨1, true, i_config_parser_choice_1, [], y4, choiceS e.s e.l putSMode modes⟩), (kSched, ⟨1, false, i_config_parser_choice_1, [], y5, choiceS e.s e.l putSSched scheds⟩),
      (kRise, ⟨1, false, f6', x6, y6, numberS e.s e.l putSRise 1 20⟩), (kFall, ⟨1, false, f7', x7, y7, numberS e.s e.l putSFall 1 20⟩), (kProbe, ⟨1, false, f8', x8, y8, numberS e.s e.l putSProbe 1 10000⟩), (kBackend, ⟨16, true, i_config_parser_service_1, [], [.ptr (some (b1, 0)), .ptr (some (X2, 0))], backendS e.s e.l⟩)]) (L0 := serviceK e.s e.l) j3 M19 (by simp; omega) (by simp) lt66 (by simp [encK, kProto, kVip, kPort, kMode, kSched, kRise, kFall, kProbe, kBackend, d1.symm, d1'.symm]) r ⟨?_, ?_, rfl, ?_, by simp⟩ (by simp [kProto, kVip, kPort, kMode, kSched, kRise, kFall, kProbe, kBackend]) rfl (by omega) (by omega) (by show e.l.length + 5 ≤ _; omega) _ fun r' h21 hq => ?_
    · intro x hx
      simp only [List.mem_cons, List.not_mem_nil, or_false] at hx
      rcases hx with rfl | rfl | rfl | rfl | rfl | rfl | rfl | rfl | rfl
      · exact RdOk.more (N := 30) g1' (by omega)
      · exact RdOk.more (N := 80070) g2' (by omega)
      · exact RdOk.more (N := 30) g3' (by omega)
      · exact RdOk.more (N := 30) g4' (by omega)
      · exact RdOk.more (N := 30) g5' (by omega)
      · exact RdOk.more (N := 30) g6' (by omega)
      · exact RdOk.more (N := 30) g7' (by omega)
      · exact RdOk.more (N := 30) g8' (by omega)
      · exact g9'
    · intro x hx
      simp only [List.mem_cons, List.not_mem_nil, or_false] at hx
      rcases hx with rfl | rfl | rfl | rfl | rfl | rfl | rfl | rfl | rfl
      · exact choiceS_k (put := putSProto) (fun _ _ => rfl) _
      · exact addressS_k fun _ _ _ => rfl
      · exact numberS_k (put := putSPort) (fun _ _ => rfl) _ _
      · exact choiceS_k (put := putSMode) (fun _ _ => rfl) _
      · exact choiceS_k (put := putSSched) (fun _ _ => rfl) _
      · exact numberS_k (put := putSRise) (fun _ _ => rfl) _ _
      · exact numberS_k (put := putSFall) (fun _ _ => rfl) _ _
      · exact numberS_k (put := putSProbe) (fun _ _ => rfl) _ _
      · exact backendS_k _ _
    · intro x hx
      simp only [List.mem_cons, List.not_mem_nil, or_false] at hx
      rcases hx with rfl | rfl | rfl | rfl | rfl | rfl | rfl | rfl | rfl <;> first | exact (by decide : (1 : Int) ≤ 1000) | exact (by decide : (16 : Int) ≤ 1000)
    · obtain ⟨S', rfl, f7, j7⟩ := hq
      have hbk : sameSvs _ _ := blockS_R steps_svs (s := e.s) (l := e.l) (serviceK_svs e.s e.l) { setP st { st.p with k := st.p.k + 1 } with sv := newSv nm }
      have hkk' := blockS_k (s := e.s) (l := e.l) (serviceK_k e.s e.l) { setP st { st.p with k := st.p.k + 1 } with sv := newSv nm }
      have hkk2 : ∀ r h', (∃ S', r = .bool (pushS (blockS e.s e.l (serviceK e.s e.l) { setP st { st.p with k := st.p.k + 1 } with sv := newSv nm })).2 ∧ Fr S h S' h' ∧ Inv e h' (pushS (blockS e.s e.l (serviceK e.s e.l) { setP st { st.p with k := st.p.k + 1 } with sv := newSv nm })).1 S') → kk r h' = some () := hkk
      clear hkk
      change Inv _ h21 (blockS e.s e.l (serviceK e.s e.l) { setP st { st.p with k := st.p.k + 1 } with sv := newSv nm }).1 S' at j7
      change (_ : St).p.svs = st.p.svs at hbk
      change st.p.k + 1 ≤ _ at hkk'
      rw [asBool_bool]
      have kk1 := k4.fr f7
      have kkX := kX.fr f7
      rw [kk1.cell, asPtr_ptr, kk1.cell, asPtr_ptr]
      simp only [nnK_some', Nat.zero_add]
      show (cellK h21 e.b 17 fun v253 => _) = some ()
      change (cellK h21 e.b 17 fun v253 => asSlice v253 fun x254 n255 c256 => cellK h21 X2 0 fun v257 => asPtr v257 fun x258 => nnK x258 fun b259 o260 => aggK h21 b259 o260 10 fun l261 => lS l261 fun x263 l262 => lS l262 fun x265 l264 => lI l264 fun x267 l266 => lI l266 fun x269 l268 => lI l268 fun x271 l270 => lI l270 fun x273 l272 => lI l272 fun x275 l274 => lI l274 fun x277 l276 => lI l276 fun x279 l278 => lL l278 fun x281 n282 c283 l280 => l0 l280 (newK (.cells [(.str x263), (.str x265), (.int .i64 x267), (.int .i64 x269), (.int .i64 x271), (.int .i64 x273), (.int .i64 x275), (.int .i64 x277), (.int .i64 x279), (.slice x281 n282 c283)] false) h21 fun i284 h285 => appK 10 112 x254 n255 c256 (evSrc 10 (.slice (some (i284, 0)) 1 (.known 1)) h285) h285 fun p286 n287 c288 h289 => sameK h285 h289 (blkP (some (b1, 0))) (wrK h289 e.b 17 1 [.slice p286 n287 c288] fun h292 => kk (.bool (blockS e.s e.l (serviceK e.s e.l) { setP st { st.p with k := st.p.k + 1 } with sv := newSv nm }).2) h292))) = some ()
      generalize blockS e.s e.l (serviceK e.s e.l) { setP st { st.p with k := st.p.k + 1 } with sv := newSv nm } = w at hkk2 j7 hbk hkk' ⊢
      obtain ⟨g7, rfl, j7⟩ := j7
      rw [j7.cell (o := 17) rfl, asSlice_slice, kkX.cell, asPtr_ptr, nnK_some']
      have hX := j7.ow.get 6 X j7.fv
      rw [j7.cv] at hX
      rw [aggK_all (n := 10) hX rfl]
      simp only [encS, lS_of, lI_of, lL_of, l0_nil]
      obtain ⟨y', cap', h22, h23, S23, e22, m22, e23, f23, j23⟩ := InvG.pushSv hs0 j7 (by rw [hbk]; omega)
      dsimp only [encS] at e22 e23
      rw [newK_eq, e22, show blkP (some (b1, 0)) = some b1 from rfl, sameK_of (by rw [m22.get _ kk1.at_.lt (fun hm => kk1.out (j7.ow.mem.2 ⟨4, by
        cases h4 : g7.f 4 with
        | none => rw [slP, h4] at hm; simp at hm
        | some z => rw [slP, h4] at hm; obtain rfl : b1 = z := by simpa using hm
                    rfl⟩)), get_new_lt kk1.at_.lt]), e23]
      exact hkk2 _ _ ⟨S23, rfl, (f04.trans f7).trans f23, j23⟩
end Go.Ev.Tryd

/- The configuration's reader: all blocks. -/
namespace Go.Ev.Tryd
set_option maxRecDepth 10000
set_option maxHeartbeats 1000000
open Go.Proofs
def kNode : Bs := ⟨#[110, 111, 100, 101]⟩
def kVrrp : Bs := ⟨#[118, 114, 114, 112]⟩
def kService : Bs := ⟨#[115, 101, 114, 118, 105, 99, 101]⟩
def allK (s : Bs) (l : List Wd) : List (Bs × Key) := [mkK kNode 1 true (nodeS s l), mkK kVrrp 1 true (vrrpS s l), mkK kService 4 false (serviceS s l)]
def oddSpot (p : Ps) (x : Bs × Int × Bool) : Bool := decide (x.1.size ≠ p.addr.size)
def noVip (p : Ps) (x : Bs × Int × Bool) : Bool := x.2.2 && !memB x.1 p.vips
def spotS (st : St) : Option (Bs × Int × Bool) → St × Bool
 | some x => (setP st (failP st.p x.2.1 182), false)
 | none => (st, true)
def vipsS (st : St) : St × Bool := spotS st (st.p.spots.find? (noVip st.p))
def spotsS (st : St) : St × Bool := match st.p.spots.find? (oddSpot st.p) with
 | some x => (setP st (failP st.p x.2.1 182), false)
 | none => vipsS st
def endA (s : Bs) (M : List (Bs × Int)) (st : St) : St × Bool := if cnt M kNode = 0 ∨ cnt M kVrrp = 0 then (setP st (failP st.p s.size 183), false) else spotsS st
def allB (s : Bs) (l : List Wd) (L : List (Bs × Key)) : Nat → List (Bs × Int) → St → St × Bool
 | 0, _, st => (st, false)
 | F + 1, M, st =>
  if st.p.k < l.length then
   match lk L (peekP l st.p.k) with
   | none => (setP st (failP st.p (placeP s l st.p.k) 180), false)
   | some key =>
    if key.most ≤ cnt M (peekP l st.p.k) then (setP st (failP st.p (placeP s l st.p.k) (if key.most = 1 then 181 else 184)), false)
    else if (key.sem (setP st { st.p with k := st.p.k + 1 })).2 = true then allB s l L F (pt M (peekP l st.p.k) (cnt M (peekP l st.p.k) + 1)) (key.sem (setP st { st.p with k := st.p.k + 1 })).1
    else ((key.sem (setP st { st.p with k := st.p.k + 1 })).1, false)
  else endA s M st
def allS (s : Bs) (l : List Wd) (st : St) : St × Bool := allB s l (allK s l) (l.length + 1) [] st
theorem find_at {α : Type} {p : α → Bool} {xs pre ts : List α} {x : α} (e : xs = pre ++ x :: ts) (h : ∀ y ∈ pre, p y = false) (hx : p x = true) : xs.find? p = some x := by
 rw [e, List.find?_append, List.find?_eq_none.2 fun y hy => by rw [h y hy]; decide, List.find?_cons, hx]; rfl
theorem find_none {α : Type} {p : α → Bool} {xs : List α} (h : ∀ y ∈ xs, p y = false) : xs.find? p = none := List.find?_eq_none.2 fun y hy => by rw [h y hy]; decide
theorem allB_forK {s : Bs} {l : List Wd} {L : List (Bs × Key)} : ∀ (F : Nat) (M : List (Bs × Int)) (st : St), allB s l (L.map forK) F M st = allB s l L F M st
 | 0, _, _ => rfl
 | F + 1, M, st => by
  unfold allB
  rw [lk_forK]
  cases lk L (peekP l st.p.k) with
  | none => rfl
  | some key => simp only [Option.map_some, allB_forK F]; rfl
section
variable {e : En} {S0 S : List Nat} {h0 h hb : H} {st : St}
theorem vips_loop {g : Gh} (i : InvG e g hb st) {n : Nat} (hn : 400010 ≤ n) {kk : AV → H → Option Unit} (hkk : ∀ r h', (r = .bool (vipsS st).2 ∧ Fr (foot g.f) hb (foot g.f) h' ∧ Inv e h' (vipsS st).1 (foot g.f)) → kk r h' = some ()) :
  ∀ (rest pre : List (Bs × Int × Bool)) (m : Nat) (h : H), st.p.spots = pre ++ rest → rest.length < m → Mod [] hb h → (∀ y ∈ pre, noVip st.p y = false) →
   config_parser_all_L4 n m (some (e.b, 0)) (slP g.f 1) st.p.spots.length g.sc (Nat.cast st.p.spots.length) (pre.length : Nat) h kk = some ()
 | [], pre, m + 1, h, e1, _, md, hp => by
  rw [config_parser_all_L4_eq, cast_not_lt (by rw [e1]; simp), cond_false]
  have hf : st.p.spots.find? (noVip st.p) = none := find_none (by rw [e1, List.append_nil]; exact hp)
  unfold vipsS at hkk
  rw [hf] at hkk
  exact hkk _ _ ⟨rfl, .mod0 md, Inv.frame ⟨g, rfl, i⟩ md⟩
 | t :: ts, pre, m + 1, h, e1, hm, md, hp => by
  obtain ⟨n, rfl⟩ : ∃ k, n = k + 1 := ⟨n - 1, by omega⟩
  have hget : st.p.spots[pre.length]? = some t := by rw [e1]; simp
  have hlt : pre.length < st.p.spots.length := (List.getElem?_eq_some_iff.1 hget).1
  have ok := i.ok
  have o1 := ok.spots
  have o2 := ok.k
  have o3 := ok.len
  have o4 := ok.vips
  rw [config_parser_all_L4_eq, cast_lt hlt, cond_true, ((i.sp.grow i.ow).row.mod0 md).ix encSp_len (by decide) hget]
  simp only [encSp, lS_of, lI_of, lB_of, l0_nil]
  rw [newK_eq, box_wr (n := 3) rfl rfl rfl]
  have m1 : Mod [] hb (h.new (.cells [.str t.1, .int .i64 t.2.1, .bool t.2.2] false)) := md.new _
  have at1 : At (h.new (.cells [.str t.1, .int .i64 t.2.1, .bool t.2.2] false)) h.next (.cells [.str t.1, .int .i64 t.2.1, .bool t.2.2] false) := .new _ _
  generalize h.new (.cells [.str t.1, .int .i64 t.2.1, .bool t.2.2] false) = h1 at m1 at1 ⊢
  rw [at1.cell (v := .bool t.2.2) rfl, asBool_bool]
  have key : ∀ b : Bool, b = noVip st.p t → config_parser_all_J5 (n + 1) m (some (e.b, 0)) (some (h.next, 0)) (slP g.f 1) st.p.spots.length g.sc (Nat.cast st.p.spots.length) (pre.length : Nat) b h1 kk = some () := by
   rintro b hb'
   rw [config_parser_all_J5_eq]
   cases b with
   | true =>
    rw [cond_true, nnK_some', Nat.zero_add, at1.cell (v := .int .i64 t.2.1) rfl, asInt_int]
    obtain ⟨r, h2, e2, rfl, f2, j2⟩ := fail_ret (Inv.frame ⟨g, rfl, i⟩ m1) n t.2.1 182
    rw [e2, Option.bind_some, asBool_bool]
    have hf : st.p.spots.find? (noVip st.p) = some t := find_at e1 hp hb'.symm
    unfold vipsS at hkk
    rw [hf] at hkk
    exact hkk _ _ ⟨rfl, (Fr.mod0 m1).trans f2, j2⟩
   | false =>
    rw [cond_false, wrap_succ (by omega)]
    have := vips_loop i hn hkk ts (pre ++ [t]) m h1 (by rw [e1]; simp) (by simp at hm; omega) m1 (by
     intro y hy
     rcases List.mem_append.1 hy with hy | hy
     ·exact hp y hy
     ·obtain rfl := List.mem_singleton.1 hy; exact hb'.symm)
    simpa using this
  cases ht : t.2.2 with
  | true =>
   rw [cond_true]
   obtain ⟨_, _, j⟩ : Inv e h1 st (foot g.f) := Inv.frame ⟨g, rfl, i⟩ m1
   have jc : ∀ {o : Nat} {v : AV} (hv : (encP e g st.p)[o]? = some v) (k : AV → Option Unit), cellK h1 e.b o k = k v := fun hv k => by
    have hg : h1.get e.b = some (.cells (g.c 0) false) := (m1.get _ (i.ow.lt 0 _ i.fb) (by simp)).trans (i.ow.get 0 _ i.fb)
    exact cellK_of hg (by rw [i.cb]; exact hv) k
   simp only [nnK_some', Nat.zero_add]
   rw [jc (o := 15) rfl, asSlice_slice, at1.cell (v := .str t.1) (by rw [ht]; rfl), asStr_str, addrs_eq ((i.vp.grow i.ow).row.mod0 m1) (by omega) t.1 (by omega), Option.bind_some, asBool_bool]
   exact key _ (by unfold noVip; rw [ht]; rfl)
  | false =>
   rw [cond_false]
   exact key _ (by unfold noVip; rw [ht]; rfl)
theorem spots_loop {g : Gh} (i : InvG e g hb st) {n : Nat} (hn : 400010 ≤ n) {kk : AV → H → Option Unit} (hkk : ∀ r h', (r = .bool (spotsS st).2 ∧ Fr (foot g.f) hb (foot g.f) h' ∧ Inv e h' (spotsS st).1 (foot g.f)) → kk r h' = some ()) :
  ∀ (rest pre : List (Bs × Int × Bool)) (m : Nat) (h : H), st.p.spots = pre ++ rest → rest.length < m → Mod [] hb h → (∀ y ∈ pre, oddSpot st.p y = false) →
   config_parser_all_L3 n m (some (e.b, 0)) (slP g.f 1) st.p.spots.length g.sc (Nat.cast st.p.spots.length) (pre.length : Nat) h kk = some ()
 | [], pre, m + 1, h, e1, _, md, hp => by
  have ok := i.ok
  have o1 := ok.spots
  have o2 := ok.k
  have o3 := ok.len
  rw [config_parser_all_L3_eq, cast_not_lt (by rw [e1]; simp), cond_false]
  have hf : st.p.spots.find? (oddSpot st.p) = none := find_none (by rw [e1, List.append_nil]; exact hp)
  unfold spotsS at hkk
  rw [hf] at hkk
  have hg : h.get e.b = some (.cells (g.c 0) false) := (md.get _ (i.ow.lt 0 _ i.fb) (by simp)).trans (i.ow.get 0 _ i.fb)
  simp only [nnK_some', Nat.zero_add]
  rw [cellK_of hg (o := 18) (by rw [i.cb]; rfl), asSlice_slice]
  exact vips_loop i hn hkk st.p.spots [] n h rfl (by omega) md (by simp)
 | t :: ts, pre, m + 1, h, e1, hm, md, hp => by
  obtain ⟨n, rfl⟩ : ∃ k, n = k + 1 := ⟨n - 1, by omega⟩
  have hget : st.p.spots[pre.length]? = some t := by rw [e1]; simp
  have hlt : pre.length < st.p.spots.length := (List.getElem?_eq_some_iff.1 hget).1
  have ok := i.ok
  have o1 := ok.spots
  have o2 := ok.k
  have o3 := ok.len
  rw [config_parser_all_L3_eq, cast_lt hlt, cond_true, ((i.sp.grow i.ow).row.mod0 md).ix encSp_len (by decide) hget]
  simp only [encSp, lS_of, lI_of, lB_of, l0_nil]
  rw [newK_eq, box_wr (n := 3) rfl rfl rfl]
  have m1 : Mod [] hb (h.new (.cells [.str t.1, .int .i64 t.2.1, .bool t.2.2] false)) := md.new _
  have at1 : At (h.new (.cells [.str t.1, .int .i64 t.2.1, .bool t.2.2] false)) h.next (.cells [.str t.1, .int .i64 t.2.1, .bool t.2.2] false) := .new _ _
  generalize h.new (.cells [.str t.1, .int .i64 t.2.1, .bool t.2.2] false) = h1 at m1 at1 ⊢
  have hg : h1.get e.b = some (.cells (g.c 0) false) := (m1.get _ (i.ow.lt 0 _ i.fb) (by simp)).trans (i.ow.get 0 _ i.fb)
  rw [at1.cell (v := .str t.1) rfl, asStr_str]
  simp only [nnK_some', Nat.zero_add]
  rw [cellK_of hg (o := 9) (v := .str st.p.addr) (by rw [i.cb]; rfl), asStr_str]
  by_cases hs : t.1.size = st.p.addr.size
  ·rw [show (((Nat.cast t.1.size) : Int) != (Nat.cast st.p.addr.size)) = false by simp [hs], cond_false, wrap_succ (by omega)]
   have := spots_loop i hn hkk ts (pre ++ [t]) m h1 (by rw [e1]; simp) (by simp at hm; omega) m1 (by
    intro y hy
    rcases List.mem_append.1 hy with hy | hy
    ·exact hp y hy
    ·obtain rfl := List.mem_singleton.1 hy
     unfold oddSpot; simp [hs])
   simpa using this
  ·rw [show (((Nat.cast t.1.size) : Int) != (Nat.cast st.p.addr.size)) = true by simp; omega, cond_true, at1.cell (v := .int .i64 t.2.1) rfl, asInt_int]
   obtain ⟨r, h2, e2, rfl, f2, j2⟩ := fail_ret (Inv.frame ⟨g, rfl, i⟩ m1) n t.2.1 182
   rw [e2, Option.bind_some, asBool_bool]
   have hf : st.p.spots.find? (oddSpot st.p) = some t := find_at e1 hp (by unfold oddSpot; simp [hs])
   unfold spotsS at hkk
   rw [hf] at hkk
   exact hkk _ _ ⟨rfl, (Fr.mod0 m1).trans f2, j2⟩
end
end Go.Ev.Tryd

/- The configuration's reader: all blocks, walked. -/
namespace Go.Ev.Tryd
set_option maxRecDepth 10000
set_option maxHeartbeats 1000000
open Go.Proofs
section
variable {e : En} {S0 S : List Nat} {h0 h hb : H} {st : St}
theorem all_loop {N n : Nat} {L : List (Bs × Key)} (ks : KeysOk e S0 h0 N L) (hN : N ≤ n) (hn : 400020 ≤ n) {im : Nat} {oL : AObj} (kL : Kept S0 h0 im oL) (hL : MObj AV.str encK L oL)
  (kk : AV → H → Option Unit) : ∀ (F m mm : Nat) (M : List (Bs × Int)) (oM : AObj) (h : H) (S : List Nat) (st : St), Inv e h st S → Fr S0 h0 S h → Kept S h mm oM → MObj AV.str encN M oM → h0.next ≤ mm → (∀ w, 0 ≤ cnt M w ∧ cnt M w ≤ 1000) → e.l.length < st.p.k + F → F ≤ m →
   (∀ r h', (∃ S', r = .bool (allB e.s e.l L F M st).2 ∧ Fr S0 h0 S' h' ∧ Inv e h' (allB e.s e.l L F M st).1 S') → kk r h' = some ()) →
   config_parser_all_L0 n m (some (e.b, 0)) (some im) (some mm) h kk = some () := by
 intro F
 induction F with
 | zero =>
  intro m mm M oM h S st i fr km hM hne hcn hF hm _
  have := i.okp.k
  omega
 | succ F ih =>
  intro m mm M oM h S st i fr km hM hne hcn hF hm hkk
  obtain ⟨m, rfl⟩ : ∃ k, m = k + 1 := ⟨m - 1, by omega⟩
  obtain ⟨n', rfl⟩ : ∃ k, n = k + 1 := ⟨n - 1, by omega⟩
  have kim := kL.fr fr
  have ok := i.okp
  have jc : ∀ {o : Nat} {v : AV} (hv : ∀ g, slP g.f 1 = slP g.f 1 → (encP e g st.p)[o]? = some v) (k : AV → Option Unit), cellK h e.b o k = k v := fun hv k => by
   obtain ⟨g, rfl, i⟩ := i
   exact i.cell (hv g rfl) k
  rw [config_parser_all_L0_eq]
  simp only [nnK_some', Nat.zero_add]
  rw [jc (o := 2) (v := .int .i64 st.p.k) (fun _ _ => rfl), asInt_int]
  have hslice : ∀ k : Pt → Nat → Cap → Option Unit, (∀ p c, k p e.l.length c = some ()) → (cellK h e.b 1 fun v => asSlice v k) = some () := fun k hk => by
   obtain ⟨g, rfl, i⟩ := i
   rw [i.cell (o := 1) rfl, asSlice_slice]
   exact hk _ _
  refine hslice _ fun p c => ?_
  unfold allB at hkk
  by_cases hk : st.p.k < e.l.length
  ·rw [if_pos hk] at hkk
   rw [cast_lt hk, cond_true, place_eq i, Option.bind_some, asInt_int, peek_eq i, Option.bind_some, asStr_str, lookK_of keys_str kim.at_.get hL]
   cases hlk : lk L (peekP e.l st.p.k) with
   | none =>
    rw [hlk] at hkk
    simp only [asAgg_agg, lI_of, lB_of, lc_cons, l0_nil]
    rw [newK_eq, box_wr (n := 3) rfl rfl rfl, Bool.not_false, cond_true]
    obtain ⟨r, h2, e2, rfl, f2, j2⟩ := fail_ret (i.frame (((Mod.refl [] h).new (.cells [.int .i64 0, .bool false, .nilFunc] false)))) n' (placeP e.s e.l st.p.k) 180
    rw [e2, Option.bind_some, asBool_bool]
    exact hkk _ _ ⟨S, rfl, (fr.trans (Fr.mod0 ((Mod.refl [] h).new _))).trans f2, j2⟩
   | some key =>
    rw [hlk] at hkk
    have hmem : (peekP e.l st.p.k, key) ∈ L := lk_mem hlk
    generalize hw : peekP e.l st.p.k = w at hkk hmem hlk ⊢
    simp only [encK, asAgg_agg, lI_of, lB_of, lc_cons, l0_nil]
    rw [newK_eq, box_wr (n := 3) rfl rfl rfl, Bool.not_true, cond_false]
    have md : Mod [] h (h.new (.cells [.int .i64 key.most, .bool key.need, .func key.f key.x key.y] false)) := (Mod.refl _ _).new _
    have kb : Kept S (h.new (.cells [.int .i64 key.most, .bool key.need, .func key.f key.x key.y] false)) h.next (.cells [.int .i64 key.most, .bool key.need, .func key.f key.x key.y] false) := ⟨.new _ _, fun hx => by have := i.ltS _ hx; omega⟩
    have hbn : mm ≠ h.next := fun e' => by have := km.at_.lt; omega
    generalize h.next = b at kb hbn ⊢
    generalize h.new (.cells [.int .i64 key.most, .bool key.need, .func key.f key.x key.y] false) = h1 at md kb ⊢
    have i1 := i.frame md
    have km1 := km.fr (.mod0 md)
    rw [cnt_look km1.at_.get hM, kb.cell, asInt_int]
    have key1 : ∀ d : Bool, d = decide (key.most ≤ cnt M w ∧ key.most = 1) → config_parser_all_J1 (n' + 1) m (some (e.b, 0)) (some im) (some mm) (placeP e.s e.l st.p.k) w (some (b, 0)) d h1 kk = some () := by
     intro d hd
     rw [config_parser_all_J1_eq]
     cases d with
     | true =>
      have hd' := of_decide_eq_true hd.symm
      rw [cond_true]
      obtain ⟨r, h2, e2, rfl, f2, j2⟩ := fail_ret i1 n' (placeP e.s e.l st.p.k) 181
      rw [e2, Option.bind_some, asBool_bool]
      refine hkk _ _ ⟨S, ?_, (fr.trans (Fr.mod0 md)).trans f2, ?_⟩
      ·simp only [if_pos hd'.1]
      ·simp only [if_pos hd'.1, if_pos hd'.2]; exact j2
     | false =>
      have hd' := of_decide_eq_false hd.symm
      rw [cond_false, cnt_look km1.at_.get hM, nnK_some', kb.cell, asInt_int]
      by_cases hmo : key.most ≤ cnt M w
      ·have h1' : key.most ≠ 1 := fun e' => hd' ⟨hmo, e'⟩
       rw [decide_eq_true (show cnt M w ≥ key.most from hmo), cond_true]
       obtain ⟨r, h2, e2, rfl, f2, j2⟩ := fail_ret i1 n' (placeP e.s e.l st.p.k) 184
       rw [e2, Option.bind_some, asBool_bool]
       refine hkk _ _ ⟨S, ?_, (fr.trans (Fr.mod0 md)).trans f2, ?_⟩
       ·simp only [if_pos hmo]
       ·simp only [if_pos hmo, if_neg h1']; exact j2
      ·rw [decide_eq_false (show ¬ cnt M w ≥ key.most from hmo), cond_false, cnt_look km1.at_.get hM]
       obtain ⟨o', hM', e3⟩ := putK_of (β := Unit) keys_str km1.at_.get hM w (cnt M w + 1)
       have hwr : IntKind.i64.wrap (cnt M w + 1) = cnt M w + 1 := by have := hcn w; exact wrap_i64 (by omega) (by omega)
       rw [hwr, show (AV.int .i64 (cnt M w + 1)) = encN (cnt M w + 1) from rfl, e3, nnK_some']
       simp only [Nat.zero_add, nnK_some']
       obtain ⟨LM, clkM, hoM, _⟩ := hM
       have i2 : Inv e (h1.set mm o') st S := i1.setMap (hoM ▸ km1) o'
       obtain ⟨h3, e4, f4, i3⟩ := i2.step hk
       rw [e4]
       have kb3 := (kb.set hbn.symm o').fr f4
       rw [cellK_of kb3.at_.get rfl, asFn_of]
       have fr3 : Fr S0 h0 S h3 := (setNewF (fr.trans (.mod0 md)) hne o').trans f4
       have rd := ks.rd _ hmem
       have mono := ks.mono _ hmem (setP st { st.p with k := st.p.k + 1 })
       have hmost := ks.most _ hmem
       have km3 : Kept S h3 mm o' := Kept.fr (h := h1.set mm o') ⟨⟨km1.at_.lt, get_set_self _ _ _⟩, km1.out⟩ f4
       refine rd.run (n' + 1) hN h3 S _ fr3 i3 _ fun r h4 hq => ?_
       obtain ⟨S4, rfl, f5, i5⟩ := hq
       rw [rd.gives, asBool_bool]
       simp only [if_neg hmo] at hkk
       change ∀ r h', (∃ S', r = .bool (if (key.sem (setP st { st.p with k := st.p.k + 1 })).2 = true then allB e.s e.l L F (pt M w (cnt M w + 1)) (key.sem (setP st { st.p with k := st.p.k + 1 })).1 else ((key.sem (setP st { st.p with k := st.p.k + 1 })).1, false)).2 ∧ Fr S0 h0 S' h' ∧ Inv e h' (if (key.sem (setP st { st.p with k := st.p.k + 1 })).2 = true then allB e.s e.l L F (pt M w (cnt M w + 1)) (key.sem (setP st { st.p with k := st.p.k + 1 })).1 else ((key.sem (setP st { st.p with k := st.p.k + 1 })).1, false)).1 S') → kk r h' = some () at hkk
       change Inv e h4 (key.sem (setP st { st.p with k := st.p.k + 1 })).1 S4 at i5
       change st.p.k + 1 ≤ (key.sem (setP st { st.p with k := st.p.k + 1 })).1.p.k at mono
       show (bif !(key.sem (setP st { st.p with k := st.p.k + 1 })).2 then kk (.bool false) h4 else config_parser_all_L0 (n' + 1) m (some (e.b, 0)) (some im) (some mm) h4 kk) = some ()
       cases hsem : (key.sem (setP st { st.p with k := st.p.k + 1 })).2 with
       | false =>
        rw [Bool.not_false, cond_true]
        rw [hsem] at hkk
        exact hkk _ _ ⟨S4, rfl, fr3.trans f5, i5⟩
       | true =>
        rw [Bool.not_true, cond_false]
        rw [hsem] at hkk
        refine ih m mm (pt M w (cnt M w + 1)) o' h4 S4 _ i5 (fr3.trans f5) (km3.fr f5) hM' hne (fun w' => ?_) (by omega) (by omega) fun r h' hq => hkk r h' ?_
        ·rw [cnt_pt]
         have := hcn w
         split
         ·simp only at hmost; omega
         ·exact hcn w'
        ·simpa using hq
    by_cases hmo : cnt M w ≥ key.most
    ·rw [decide_eq_true hmo, cond_true, kb.cell, asInt_int]
     refine key1 _ ?_
     by_cases h1' : key.most = 1
     ·rw [decide_eq_true (show key.most ≤ cnt M w ∧ key.most = 1 from ⟨hmo, h1'⟩), h1']; rfl
     ·rw [decide_eq_false (fun q => h1' q.2)]; simpa using h1'
    ·rw [decide_eq_false hmo, cond_false]
     exact key1 _ (decide_eq_false fun q => hmo q.1).symm
  ·rw [if_neg hk] at hkk
   rw [cast_not_lt (by omega), cond_false]
   have fin : ∀ d : Bool, d = decide (cnt M kNode = 0 ∨ cnt M kVrrp = 0) → config_parser_all_J2 (n' + 1) (some (e.b, 0)) d h kk = some () := by
    intro d hd
    rw [config_parser_all_J2_eq]
    simp only [nnK_some', Nat.zero_add]
    unfold endA at hkk
    cases d with
    | true =>
     rw [if_pos (of_decide_eq_true hd.symm)] at hkk
     rw [cond_true, jc (o := 0) (v := .str e.s) (fun _ _ => rfl), asStr_str]
     obtain ⟨r, h2, e2, rfl, f2, j2⟩ := fail_ret i n' e.s.size 183
     rw [e2, Option.bind_some, asBool_bool]
     exact hkk _ _ ⟨S, rfl, fr.trans f2, j2⟩
    | false =>
     rw [if_neg (of_decide_eq_false hd.symm)] at hkk
     rw [cond_false]
     obtain ⟨g, rfl, i⟩ := i
     rw [i.cell (o := 18) rfl, asSlice_slice]
     refine spots_loop i (by omega) (fun r h' hq => hkk r h' ⟨_, hq.1, fr.trans hq.2.1, hq.2.2⟩) st.p.spots [] (n' + 1) h rfl (by have := ok.spots; have := ok.k; have := ok.len; omega) (.refl _ _) (by simp)
   rw [show (⟨#[110, 111, 100, 101]⟩ : ByteArray) = kNode from rfl, cnt_look km.at_.get hM]
   by_cases hc : cnt M kNode = 0
   ·rw [hc, show ((0 : Int) == 0) = true from rfl, cond_true]
    exact fin _ (by rw [hc]; simp)
   ·rw [show (cnt M kNode == 0) = false by simpa using hc, cond_false, show (⟨#[118, 114, 114, 112]⟩ : ByteArray) = kVrrp from rfl, cnt_look km.at_.get hM]
    exact fin _ (by by_cases hv : cnt M kVrrp = 0 <;> simp [hc, hv])
end
end Go.Ev.Tryd

/- The configuration is read. -/
namespace Go.Ev.Tryd
set_option maxRecDepth 10000
set_option maxHeartbeats 1000000
open Go.Proofs
def Sized (B : Nat) (l : List Wd) : Prop := ∀ w ∈ l, w.1.size ≤ B
theorem Sized.app {B : Nat} {l : List Wd} (h : Sized B l) {w : Wd} (hw : w.1.size ≤ B) : Sized B (l ++ [w]) := fun x hx => by
 rcases List.mem_append.1 hx with hx | hx
 ·exact h x hx
 ·obtain rfl := List.mem_singleton.1 hx; exact hw
theorem cut_size (s : ByteArray) (x y : Int) : (cut s x y).size ≤ s.size := by
 unfold cut
 rw [size_mk, List.length_take, List.length_drop, bs_len]
 omega
theorem endP_sized {s : ByteArray} {st : Rd} (h : Sized (s.size + 1) st.l) (k : Int) : Sized (s.size + 1) (endP s st k).1.l := by
 unfold endP
 split
 ·exact h
 ·exact h.app (Nat.le_succ_of_le (cut_size s _ _))
theorem stopP_sized {B : Nat} {st : Rd} (h : Sized (B + 1) st.l) (k : Int) : Sized (B + 1) (stopP st k).l := by
 unfold stopP
 show Sized (B + 1) (if st.some' = true then st.l ++ [(mk [10], k, st.line)] else st.l)
 split
 ·exact h.app (by rw [size_mk]; simp)
 ·exact h
theorem takeP_sized {s : ByteArray} {st : Rd} (h : Sized (s.size + 1) st.l) (c k : Int) : Sized (s.size + 1) (takeP s st c k).1.l := by
 unfold takeP
 split
 ·exact stopP_sized (endP_sized h k) k
 split
 ·exact h
 split
 ·exact endP_sized h k
 split
 ·exact endP_sized h k
 split
 ·exact endP_sized (st := { (endP s st k).1 with from' := k }) (endP_sized h k) (k + 1)
 split
 ·exact h
 ·exact h
theorem allL_sized {s : ByteArray} : ∀ (l : List UInt8) (k : Int) (st : Rd), 0 ≤ k → StOk st k → Sized (s.size + 1) st.l → ∀ ws, allL s st k l = .inl ws → Sized (s.size + 1) ws ∧ (ws.length : Int) ≤ 4 * (k + l.length) + 2
 | [], k, st, hk, ok, hs, ws, e => by
  unfold allL at e
  split at e
  ·obtain rfl := Sum.inl.inj e
   refine ⟨stopP_sized (endP_sized hs k) k, ?_⟩
   have := (endP_len s st k).1
   have h2 := ok.len
   unfold stopP
   show ((if (endP s st k).1.some' = true then (endP s st k).1.l ++ [(mk [10], k, (endP s st k).1.line)] else (endP s st k).1.l).length : Int) ≤ _
   split
   ·simp; omega
   ·simp; omega
  ·cases e
 | c :: l, k, st, hk, ok, hs, ws, e => by
  unfold allL at e
  split at e
  ·cases e
  ·split at e
   ·split at e
    ·have := allL_sized l (k + 1) _ (by omega) (takeP_ok hk ok c.toNat) (takeP_sized hs c.toNat k) ws e
     refine ⟨this.1, ?_⟩
     have := this.2
     simp only [List.length_cons]
     push_cast
     omega
    ·cases e
   ·cases e
theorem allP_words {s : ByteArray} (hs : s.size ≤ 70000) {l : List Wd} (h : allP s = .inl l) : Words l ∧ l.length ≤ 300000 := by
 obtain ⟨h1, h2⟩ := allL_sized (s := s) (bs s) 0 rd0 (by decide) ⟨by decide, by decide, by decide, by decide, by decide⟩ (fun w hw => by cases hw) l h
 rw [bs_len] at h2
 exact ⟨fun w hw => by have := h1 w hw; omega, by omega⟩
theorem all_ret {e : En} {S : List Nat} {h : H} {st : St} (hy : e.yes = none) (hs : e.sv = none) (hb : e.bk = none) (hw : Words e.l) (i : Inv e h st S) {n : Nat} (hn : 600000 + e.l.length ≤ n) :
  RetK (fun kk => cr n i_config_parser_all [.ptr (some (e.b, 0))] h kk) fun r h' => ∃ S', r = .bool (allS e.s e.l st).2 ∧ Fr S h S' h' ∧ Inv e h' (allS e.s e.l st).1 S' := by
 intro kk hkk
 obtain ⟨n, rfl⟩ : ∃ k, n = k + 2 := ⟨n - 2, by omega⟩
 show cr (n + 1 + 1) i_config_parser_all [.ptr (some (e.b, 0))] h kk = some ()
 rw [config_parser_all_eq, newK_eq]
 have hS := i.ltS
 have m0 : Mod [] h (h.new (.map [] 0)) := (Mod.refl _ _).new _
 have k0 : Kept S (h.new (.map [] 0)) h.next (.map [] 0) := kept_new hS _
 generalize h.new (.map [] 0) = c0 at m0 k0 ⊢
 rw [once_eq, Option.bind_some]
 simp only [asAgg_agg, lI_of, lB_of, lc_cons, l0_nil]
 have m1 : Mod [] c0 (c0.new (.cells [.int .i64 1, .bool true, .func i_config_parser_node [.ptr (some (e.b, 0))] []] false)) := (Mod.refl _ _).new _
 generalize c0.new (.cells [.int .i64 1, .bool true, .func i_config_parser_node [.ptr (some (e.b, 0))] []] false) = c1 at m1 ⊢
 have k1 := k0.mod0 m1
 obtain ⟨o1, hM1, e1⟩ := putKey k1.at_.get .nil kNode ⟨1, true, i_config_parser_node, [.ptr (some (e.b, 0))], [], nodeS e.s e.l⟩ (by simp)
 dsimp only at e1
 rw [show (⟨#[110, 111, 100, 101]⟩ : ByteArray) = kNode from rfl, e1]
 have k1' := keptSet k1 o1
 have md1 : Mod [] h (c1.set h.next o1) := (m0.trans m1).set (.inl (Nat.le_refl _)) _
 generalize c1.set h.next o1 = c1' at k1' md1 ⊢
 rw [once_eq, Option.bind_some]
 simp only [asAgg_agg, lI_of, lB_of, lc_cons, l0_nil]
 have m2 : Mod [] c1' (c1'.new (.cells [.int .i64 1, .bool true, .func i_config_parser_vrrp [.ptr (some (e.b, 0))] []] false)) := (Mod.refl _ _).new _
 generalize c1'.new (.cells [.int .i64 1, .bool true, .func i_config_parser_vrrp [.ptr (some (e.b, 0))] []] false) = c2 at m2 ⊢
 have k2 := k1'.mod0 m2
 obtain ⟨o2, hM2, e2⟩ := putKey k2.at_.get hM1 kVrrp ⟨1, true, i_config_parser_vrrp, [.ptr (some (e.b, 0))], [], vrrpS e.s e.l⟩ (by simp [kNode, kVrrp])
 dsimp only at e2
 rw [show (⟨#[118, 114, 114, 112]⟩ : ByteArray) = kVrrp from rfl, e2]
 have k2' := keptSet k2 o2
 have md2 : Mod [] h (c2.set h.next o2) := (md1.trans m2).set (.inl (Nat.le_refl _)) _
 generalize c2.set h.next o2 = c2' at k2' md2 ⊢
 obtain ⟨o3, hM3, e3⟩ := putKey k2'.at_.get hM2 kService ⟨4, false, i_config_parser_service, [.ptr (some (e.b, 0))], [], serviceS e.s e.l⟩ (by simp [kNode, kVrrp, kService])
 dsimp only at e3
 rw [show (⟨#[115, 101, 114, 118, 105, 99, 101]⟩ : ByteArray) = kService from rfl, e3]
 have k3' := keptSet k2' o3
 have md3 : Mod [] h (c2'.set h.next o3) := md2.set (.inl (Nat.le_refl _)) _
 generalize c2'.set h.next o3 = c3 at k3' md3 ⊢
 rw [newK_eq]
 have i3 := i.frame md3
 refine all_loop (N := 90000 + e.l.length) (n := n + 1) (L := [(kNode, ⟨1, true, i_config_parser_node, [.ptr (some (e.b, 0))], [], nodeS e.s e.l⟩), (kVrrp, ⟨1, true, i_config_parser_vrrp, [.ptr (some (e.b, 0))], [], vrrpS e.s e.l⟩), (kService, ⟨4, false, i_config_parser_service, [.ptr (some (e.b, 0))], [], serviceS e.s e.l⟩)]) (S0 := S) (h0 := c3) ⟨?_, ?_, rfl, ?_, by simp⟩ (by omega) (by omega) k3' hM3 kk (e.l.length + 1) (n + 1) c3.next [] (.map [] 0) _ S st (i3.frame ((Mod.refl _ _).new _)) (.mod0 ((Mod.refl _ _).new _)) (kept_new i3.ltS _) .nil (Nat.le_refl _) (fun w => by simp [cnt, lk]) (by omega) (by omega) fun r h' hq => ?_
 ·intro x hx
  simp only [List.mem_cons, List.not_mem_nil, or_false] at hx
  rcases hx with rfl | rfl | rfl
  ·exact node_rd e _ _ hw (Nat.le_refl _)
  ·exact vrrp_rd e hy _ _ hw (Nat.le_refl _)
  ·exact service_rd e hs hb _ _ hw (Nat.le_refl _)
 ·intro x hx
  simp only [List.mem_cons, List.not_mem_nil, or_false] at hx
  rcases hx with rfl | rfl | rfl
  ·intro st
   refine blockS_k (fun x hx => ?_) st
   simp only [nodeK, mkK, List.mem_cons, List.not_mem_nil, or_false] at hx
   rcases hx with rfl | rfl | rfl
   ·exact cardS_k (put := putCard) fun _ _ => rfl
   ·exact addressS_k fun _ _ _ => rfl
   ·exact addressS_k fun _ _ _ => rfl
  ·intro st
   refine blockS_k (st := { st with yes := 1 }) (fun x hx => ?_)
   simp only [vrrpK, mkK, List.mem_cons, List.not_mem_nil, or_false] at hx
   rcases hx with rfl | rfl | rfl | rfl | rfl | rfl
   ·exact numberS_k (put := putId) (fun _ _ => rfl) _ _
   ·exact numberS_k (put := putPrio) (fun _ _ => rfl) _ _
   ·exact numberS_k (put := putEvery) (fun _ _ => rfl) _ _
   ·exact choiceS_k (put := putYes) (fun _ _ => rfl) _
   ·exact addressS_k vipS_k
   ·exact trackS_k _ _
  ·exact serviceS_k _ _
 ·intro x hx
  simp only [List.mem_cons, List.not_mem_nil, or_false] at hx
  rcases hx with rfl | rfl | rfl <;> first | exact (by decide : (1 : Int) ≤ 1000) | exact (by decide : (4 : Int) ≤ 1000)
 ·obtain ⟨S', h1, f1, j1⟩ := hq
  have he : allB e.s e.l [(kNode, ⟨1, true, i_config_parser_node, [.ptr (some (e.b, 0))], [], nodeS e.s e.l⟩), (kVrrp, ⟨1, true, i_config_parser_vrrp, [.ptr (some (e.b, 0))], [], vrrpS e.s e.l⟩), (kService, ⟨4, false, i_config_parser_service, [.ptr (some (e.b, 0))], [], serviceS e.s e.l⟩)] (e.l.length + 1) [] st = allS e.s e.l st := (allB_forK (L := [(kNode, ⟨1, true, i_config_parser_node, [.ptr (some (e.b, 0))], [], nodeS e.s e.l⟩), (kVrrp, ⟨1, true, i_config_parser_vrrp, [.ptr (some (e.b, 0))], [], vrrpS e.s e.l⟩), (kService, ⟨4, false, i_config_parser_service, [.ptr (some (e.b, 0))], [], serviceS e.s e.l⟩)]) _ _ _).symm
  rw [he] at h1 j1
  exact hkk _ _ ⟨S', h1, (Fr.mod0 md3).trans f1, j1⟩
def ps0 : Ps := ⟨0, cd0, ⟨#[]⟩, ⟨#[]⟩, 0, 0, 0, false, [], [], [], [], 0, 0⟩
def bk0 : Bk := ⟨⟨#[]⟩, ⟨#[]⟩, cd0, 0, 0⟩
def st0 : St := ⟨ps0, 0, sv0, bk0⟩
/-- what is read: a configuration, or where what is amiss -/
def parseP (s : Bs) : Ps ⊕ (Int × Int) :=
 match allP s with
 | .inr k => .inr (k, 170)
 | .inl l => if (allS s l st0).2 = true then .inl (allS s l st0).1.p else .inr ((allS s l st0).1.p.bad, (allS s l st0).1.p.code)
/-- a configuration's cells -/
def encC (p : Ps) (v t g : AV) : List AV := [.int .u8 p.card.a, .int .u8 p.card.b, .int .u8 p.card.c, .int .u8 p.card.d, .int .u8 p.card.e, .int .u8 p.card.f, .str p.addr, .str p.peer, .int .i64 p.id, .int .i64 p.prio, .int .i64 p.every, .bool p.pre, v, t, g]
structure CfgAt (h : H) (p : Ps) (cs : List AV) : Prop where
 ex : ∃ (vp : Pt) (vc : Cap) (tp : Pt) (tc : Cap) (gp : Pt) (gc : Cap) (svr : List SvR), cs = encC p (.slice vp p.vips.length vc) (.slice tp p.trs.length tc) (.slice gp p.svs.length gc) ∧
  Row h 1 vp p.vips.length vc (p.vips.map .str) ∧ Row h 2 tp p.trs.length tc (p.trs.flatMap encT) ∧ Row h 10 gp svr.length gc (svr.flatMap encR) ∧ svr.map (·.1) = p.svs ∧ ∀ x ∈ svr, Row h 10 x.2.1 x.1.bks.length x.2.2 (x.1.bks.flatMap encB)
def ParseOk (h' : H) (r : AV) : Ps ⊕ (Int × Int) → Prop
 | .inl p => ∃ cs, r = .tup [.agg cs, .int .i64 0, .int .i64 0] ∧ CfgAt h' p cs ∧ p.k ≤ 300000
 | .inr (k, c) => r = .tup [.agg (encC ps0 (.slice none 0 (.known 0)) (.slice none 0 (.known 0)) (.slice none 0 (.known 0))), .int .i64 k, .int .i64 c]
theorem ps0_ok (e : En) (hl : e.l.length ≤ 400000) : Okp e st0 := ⟨Nat.zero_le _, Nat.le_refl _, Nat.le_refl _, Nat.le_refl _, Nat.le_refl _, Nat.le_refl _, hl⟩
theorem wr_whole {h : H} {b n : Nat} {cs ys : List AV} (g : At h b (.cells cs false)) (hc : cs.length = n) (hn : ys.length = n) (hi : ys.all isCell = true) {β : Type} (k : H → Option β) : wrK h b 0 n ys k = k (h.set b (.cells ys false)) := by
 rw [wrK_of g.get hn (by omega) hi]
 have : spl cs 0 ys = ys := by
  refine List.ext_getElem? fun k => ?_
  rw [spl_get ys cs 0 (by omega)]
  by_cases hk : k < ys.length
  ·rw [if_pos ⟨Nat.zero_le _, by omega⟩, Nat.sub_zero]
  ·rw [if_neg (by omega), List.getElem?_eq_none_iff.2 (by omega), List.getElem?_eq_none_iff.2 (by omega)]
 rw [this]
theorem At.setSelf {h : H} {b : Nat} {o : AObj} (g : At h b o) (o' : AObj) : At (h.set b o') b o' := ⟨g.lt, get_set_self _ _ _⟩
def zC : List AV := encC ps0 (.slice none 0 (.known 0)) (.slice none 0 (.known 0)) (.slice none 0 (.known 0))
def c00 : Nat → List AV := up (up (up (fun _ => []) 5 [.int .i64 0]) 6 (encS sv0 (.slice none 0 (.known 0)))) 8 (encB bk0)
theorem Parse_retW {s : Bs} (hs : s.size ≤ 2000000) (hsw : ∀ l, allP s = .inl l → Words l ∧ l.length ≤ 300000) {n : Nat} (hn : 1000000 + s.size ≤ n) (h : H) : RetK (fun kk => cr n i_config_Parse [.str s] h kk) fun r h' => Mod [] h h' ∧ ParseOk h' r (parseP s) := by
 intro kk hkk
 obtain ⟨n, rfl⟩ : ∃ k, n = k + 1 := ⟨n - 1, by omega⟩
 show cr (n + 1) i_config_Parse [.str s] h kk = some ()
 rw [config_Parse_eq, newK_eq]
 rw [show (AObj.cells [(.int .u8 0), (.int .u8 0), (.int .u8 0), (.int .u8 0), (.int .u8 0), (.int .u8 0), (.str .empty), (.str .empty), (.int .i64 0), (.int .i64 0), (.int .i64 0), (.bool false), (.slice none 0 (.known 0)), (.slice none 0 (.known 0)), (.slice none 0 (.known 0))] false) = .cells zC false from rfl]
 have m0 : Mod [] h (h.new (.cells zC false)) := (Mod.refl _ _).new _
 have a0 : At (h.new (.cells zC false)) h.next (.cells zC false) := .new _ _
 have hn0 : h.next ≤ h.next := Nat.le_refl _
 generalize hz : h.next = z at a0 ⊢
 have hz' : h.next ≤ z := by omega
 clear hn0
 generalize h.new (.cells zC false) = h1 at m0 a0 ⊢
 obtain ⟨r, h2, e2, m2, ok⟩ := All_ret (s := s) (by omega) (n := n) (by omega) h1
 rw [e2, Option.bind_some]
 have a2 := a0.mod0 m2
 unfold parseP at hkk
 cases hall : allP s with
 | inr k =>
  rw [hall] at ok hkk
  obtain rfl : r = .tup [.slice none 0 (.known 0), .int .i64 k, .int .i64 170] := ok
  simp only [asTup_tup, lL_of, lI_of, l0_nil]
  rw [show ((170 : Int) != 0) = true from rfl, cond_true]
  change wrK h2 z 0 15 zC (fun h13 => _) = some ()
  rw [wr_whole (n := 15) a2 rfl rfl rfl, (At.setSelf a2 _).all (n := 15) rfl]
  exact hkk _ _ ⟨(m0.trans m2).set (.inl hz') _, rfl⟩
 | inl l =>
  rw [hall] at ok hkk
  obtain ⟨p, c, rfl, gl⟩ := ok
  obtain ⟨hw, hlen⟩ := hsw l hall
  simp only [asTup_tup, lL_of, lI_of, l0_nil]
  rw [show ((0 : Int) != 0) = false from rfl, cond_false, newK_eq]
  obtain ⟨e, he⟩ : ∃ e : En, e = ⟨h2, h2.next, s, l, none, none, none⟩ := ⟨_, rfl⟩
  obtain ⟨g, hg⟩ : ∃ g : Gh, g = ⟨up (fun _ => none) 0 (some h2.next), up c00 0 (encP ⟨h2, h2.next, s, l, none, none, none⟩ ⟨up (fun _ => none) 0 (some h2.next), c00, p, c, .known 0, .known 0, .known 0, .known 0, .known 0, []⟩ ps0), p, c, .known 0, .known 0, .known 0, .known 0, .known 0, []⟩ := ⟨_, rfl⟩
  obtain ⟨h3, hh3⟩ : ∃ h3, h3 = h2.new (.cells (encP e g ps0) false) := ⟨_, rfl⟩
  have m3 : Mod [] h2 h3 := by rw [hh3]; exact (Mod.refl _ _).new _
  obtain ⟨ow, _⟩ := (Own.nil h2 c00).put (i := 0) (h' := h3) (v := encP e g ps0) (by decide) (Nat.le_refl h2.next) (by rw [hh3]; exact .new _ _) m3.of_nil
  have ig : InvG e g h3 st0 := by
   subst he; subst hg
   refine ⟨ow, rfl, rfl, gl.row.mod0 m3, .nil rfl, .nil rfl, .nil rfl, .nil rfl, rfl, (by intro x hx; cases hx), (by intro x hx; cases hx), rfl, rfl, rfl, rfl, .nil rfl, rfl, rfl, ?_, ps0_ok _ (by show l.length ≤ _; omega)⟩
   intro x hx j
   have hlx : x < h2.next := by
    rcases hx with hx | ⟨y, hy, _⟩
    ·exact gl.row.lt x hx
    ·cases hy
   show up (fun _ => none) 0 (some h2.next) j ≠ some x
   unfold up
   split
   ·intro e'; have := Option.some.inj e'; omega
   ·simp
  have hinv : Inv e h3 st0 (foot g.f) := ⟨g, rfl, ig⟩
  show (cr n i_config_parser_all [.ptr (some (h2.next, 0))] (h2.new (.cells [(.str s), (.slice p l.length c), _, _, _, _, _, _, _, _, _, _, _, _, _, _, _, _, _, _, _] false)) fun v18 h19 => _) = some ()
  rw [show h2.new (.cells [(.str s), (.slice p l.length c), (.int .i64 0), (.int .u8 0), (.int .u8 0), (.int .u8 0), (.int .u8 0), (.int .u8 0), (.int .u8 0), (.str .empty), (.str .empty), (.int .i64 0), (.int .i64 0), (.int .i64 0), (.bool false), (.slice none 0 (.known 0)), (.slice none 0 (.known 0)), (.slice none 0 (.known 0)), (.slice none 0 (.known 0)), (.int .i64 0), (.int .i64 0)] false) = h3 by rw [hh3, he, hg]; rfl]
  have hb : e.b = h2.next := by rw [he]
  rw [← hb]
  refine all_ret (by rw [he]) (by rw [he]) (by rw [he]) (by rw [he]; exact hw) hinv (by rw [he]; show 600000 + l.length ≤ n; omega) _ fun r h4 hq => ?_
  obtain ⟨S', rfl, f4, j4⟩ := hq
  have hes : e.s = s := by rw [he]
  have hel : e.l = l := by rw [he]
  have hea : e.a = h2 := by rw [he]
  rw [hes, hel] at j4
  rw [hes, hel, asBool_bool]
  simp only at hkk
  have hzS : z ∉ foot g.f := fun hm => by
   obtain ⟨k, e'⟩ := ig.ow.mem.1 hm
   have := ig.ow.ge k z e'
   rw [hea] at this
   have := a2.lt; omega
  have a3 := a2.mod0 m3
  have a4 := a3.mod f4.mod hzS
  have hbz : e.b ≠ z := by rw [hb]; have := a2.lt; omega
  have m4 : Mod [] h h4 := ((m0.trans m2).trans m3).trans' f4.mod fun x hx hl => by
   obtain ⟨k, e'⟩ := ig.ow.mem.1 hx
   have := ig.ow.ge k x e'
   rw [hea] at this
   have := (m0.trans m2).next; omega
  generalize allS s l st0 = w at j4 hkk ⊢
  obtain ⟨g4, hg4, j4⟩ := j4
  cases hw2 : w.2 with
  | false =>
   rw [hw2, if_neg (by decide)] at hkk
   rw [Bool.not_false, cond_true, j4.cell (o := 19) rfl, asInt_int, j4.cell (o := 20) rfl, asInt_int]
   change wrK h4 z 0 15 zC (fun h25 => _) = some ()
   rw [wr_whole (n := 15) a4 rfl rfl rfl]
   have hs1 : ∀ {β : Type} (y : Option β), sameK h4 (h4.set z (.cells zC false)) (some e.b) y = y := fun y => sameK_of (get_set_ne hbz) y
   show sameK h4 (h4.set z (.cells zC false)) (some e.b) (sameK h4 (h4.set z (.cells zC false)) (some e.b) _) = some ()
   rw [hs1, hs1, (At.setSelf a4 _).all (n := 15) rfl]
   exact hkk _ _ ⟨m4.set (.inl hz') _, rfl⟩
  | true =>
   rw [hw2, if_pos rfl] at hkk
   rw [Bool.not_true, cond_false]
   have hP : At h4 e.b (.cells (encP e g4 w.1.p) false) := ⟨j4.ow.lt 0 _ j4.fb, by rw [j4.ow.get 0 _ j4.fb, j4.cb]⟩
   rw [hP.agg (o := 3) (n := 15) (vs := encC w.1.p (.slice (slP g4.f 2) w.1.p.vips.length g4.vc) (.slice (slP g4.f 3) w.1.p.trs.length g4.tc) (.slice (slP g4.f 4) w.1.p.svs.length g4.gc)) rfl (by exact (by decide : 3 + 15 ≤ 21)), wr_whole (n := 15) a4 rfl rfl rfl, (At.setSelf a4 _).all (n := 15) rfl]
   have mz : Mod [z] h4 (h4.set z (.cells (encC w.1.p (.slice (slP g4.f 2) w.1.p.vips.length g4.vc) (.slice (slP g4.f 3) w.1.p.trs.length g4.tc) (.slice (slP g4.f 4) w.1.p.svs.length g4.gc)) false)) := (Mod.refl _ _).set (.inr (by simp)) _
   have hza : z < e.a.next := by rw [hea]; exact a2.lt
   have hge : ∀ k, ∀ x ∈ own (slP g4.f k), x ∉ [z] := fun k x hx hm => by
    obtain rfl : x = z := by simpa using hm
    cases hk : g4.f k with
    | none => rw [slP, hk] at hx; simp at hx
    | some y =>
     rw [slP, hk] at hx
     obtain rfl : x = y := by simpa using hx
     have := j4.ow.ge k x hk; omega
   refine hkk _ _ ⟨m4.set (.inl hz') _, _, rfl, ⟨_, _, _, _, _, _, g4.svr, rfl, ?_, ?_, ?_, j4.esv, ?_⟩, by have := j4.ok.k; rw [hel] at this; omega⟩
   ·exact (j4.vp.grow j4.ow).row.mod mz (hge 2)
   ·exact (j4.tp.grow j4.ow).row.mod mz (hge 3)
   ·have := (j4.gp.grow j4.ow).row
    rw [← j4.esv, List.length_map] at this
    exact this.mod mz (hge 4)
   ·intro x hx
    refine (j4.rows x hx).mod mz fun y hy hm => ?_
    obtain rfl : y = z := by simpa using hm
    have := j4.rge x hx y hy
    omega
end Go.Ev.Tryd

/- The configuration is written: a line. -/
namespace Go.Ev.Tryd
set_option maxRecDepth 10000
open Go.Proofs
abbrev sp : Bs := ⟨#[32]⟩
/-- a line's bytes -/
def renL (ws : List Bs) : List UInt8 := bs (joinS ws sp) ++ [10]
def ren (ls : List (List Bs)) : List UInt8 := ls.flatMap renL
/-- a writer at w, what it wrote, and the blocks it owns -/
inductive Wr (h : H) (w : Nat) : List UInt8 → List Nat → Prop
 | none (lt : w < h.next) (g : h.get w = some (.tc 53 [.ptr none, .slice none 0 (.known 0)] true)) : Wr h w [] [w]
 | some {j : Nat} {t : List UInt8} (lt : w < h.next) (h0 : t ≠ []) (g : h.get w = some (.tc 53 [.ptr (some (w, 0)), .slice (some (j, 0)) t.length (.rest 1)] true)) (gj : h.get j = some (.tc 5 (byteAVs (mk t)) false)) (lj : j < h.next) (ne : j ≠ w) : Wr h w t [w, j]
theorem Wr.lt {h : H} {w : Nat} {t : List UInt8} {S : List Nat} (x : Wr h w t S) : ∀ i ∈ S, i < h.next := by
 cases x with
 | none lt g => intro i hi; obtain rfl := List.mem_singleton.1 hi; exact lt
 | some lt h0 g gj lj ne =>
  intro i hi
  simp only [List.mem_cons, List.not_mem_nil, or_false] at hi
  rcases hi with rfl | rfl
  ·exact lt
  ·exact lj
theorem Wr.mod0 {h h' : H} {w : Nat} {t : List UInt8} {S : List Nat} (x : Wr h w t S) (m : Mod [] h h') : Wr h' w t S := by
 cases x with
 | none lt g => exact .none (m.lt lt) ((m.get _ lt (by simp)).trans g)
 | some lt h0 g gj lj ne => exact .some (m.lt lt) h0 ((m.get _ lt (by simp)).trans g) ((m.get _ lj (by simp)).trans gj) (m.lt lj) ne
theorem byteAVs_app (a b : List UInt8) : byteAVs (mk (a ++ b)) = byteAVs (mk a) ++ byteAVs (mk b) := by simp [byteAVs, mk]
theorem byteAVs_len (a : List UInt8) : (byteAVs (mk a)).length = a.length := by simp [byteAVs, mk]
/-- a text is written -/
theorem Wr.write {h : H} {w : Nat} {t : List UInt8} {S : List Nat} (x : Wr h w t S) {s : List UInt8} (hs : s ≠ []) (hb : t.length + s.length ≤ 140737488355328) :
  ∃ h' S', wsF 53 5 (.some (w, 0)) (mk s) h = .some h' ∧ Fr S h S' h' ∧ Wr h' w (t ++ s) S' := by
 have hpos : 0 < (mk s).size := by rw [size_mk]; exact List.length_pos_iff.2 hs
 cases x with
 | none lt g =>
  have hne : h.next ≠ w := by omega
  refine ⟨(h.new (.tc 5 (byteAVs (mk s)) false)).set w (.tc 53 [.ptr (.some (w, 0)), .slice (.some (h.next, 0)) (mk s).size (.rest 1)] true), [w, h.next], ?_, ⟨((Mod.refl _ _).new _).set (.inr (by simp)) _, fun i hi => ?_⟩, ?_⟩
  ·unfold wsF
   simp only [g]
   rw [if_pos ⟨trivial, .inl trivial, hpos⟩, if_pos (by rw [size_mk]; simpa using hb)]
  ·simp only [List.mem_cons, List.not_mem_nil, or_false] at hi ⊢
   rcases hi with rfl | rfl
   ·exact .inl rfl
   ·exact .inr (Nat.le_refl _)
  ·rw [List.nil_append]
   exact .some (Nat.lt_succ_of_lt lt) hs (by rw [get_set_self, size_mk]) (by rw [get_set_ne hne]; exact get_new_self _ _) (Nat.lt_succ_self _) hne
 | @some j t lt h0 g gj lj ne =>
  have hne : h.next ≠ w := by omega
  refine ⟨((h.kill j).new (.tc 5 (byteAVs (mk t) ++ byteAVs (mk s)) false)).set w (.tc 53 [.ptr (.some (w, 0)), .slice (.some (h.next, 0)) (t.length + (mk s).size) (.rest 1)] true), [w, h.next], ?_, ⟨(((Mod.refl _ _).kill (.inr (by simp))).new _).set (.inr (by simp)) _, fun i hi => ?_⟩, ?_⟩
  ·unfold wsF
   simp only [g]
   rw [if_pos ⟨trivial, .inr trivial, hpos⟩]
   simp only [gj]
   rw [if_pos ⟨trivial, byteAVs_len t, List.length_pos_iff.2 h0, by rw [size_mk]; exact hb, byteAVs_cell _⟩]
  ·simp only [List.mem_cons, List.not_mem_nil, or_false] at hi ⊢
   rcases hi with rfl | rfl
   ·exact .inl (.inl rfl)
   ·exact .inr (Nat.le_refl _)
  ·refine .some (j := h.next) (Nat.lt_succ_of_lt lt) (by simp [h0]) ?_ ?_ (Nat.lt_succ_self _) hne
   ·rw [get_set_self, size_mk, List.length_append]
   ·rw [get_set_ne hne, byteAVs_app]
    exact get_new_self _ _
theorem joinS_len (ws : List Bs) : (Lib.join (ws.map (·.data.toList)) sp.data.toList).length = (joinS ws sp).size := rfl
/-- a line is written -/
theorem say_ret {h : H} {w : Nat} {t : List UInt8} {S : List Nat} (x : Wr h w t S) {p : Pt} {c : Cap} {ws : List Bs} (r : Row h 1 p ws.length c (ws.map .str)) (hw : ws.length ≤ 100) (hb : t.length + (renL ws).length ≤ 1000000000000) (n : Nat) :
  Ret (ca (n + 2) i_config_writer_say [.ptr (some (w, 0)), .slice p ws.length c] h) fun r h' => r = .tup [] ∧ ∃ S', Fr S h S' h' ∧ Wr h' w (t ++ renL ws) S' := by
 have hl : (joinS ws sp).size ≤ 1000000000000 := by
  unfold renL at hb
  rw [List.length_append, bs_len] at hb
  omega
 rw [config_writer_say_eq, nnK_some', strings_Join_eq, strings_Join_32_eq, joinF_of r (by omega) (by rw [joinS_len]; omega), Option.bind_some, Option.bind_some, asStr_str]
 unfold catK
 dsimp only
 have hl' : (joinS ws (⟨#[32]⟩ : ByteArray)).size ≤ 1000000000000 := hl
 rw [if_neg (by rw [show (⟨#[10]⟩ : ByteArray).size = 1 from rfl]; omega)]
 have hm : joinS ws sp ++ (⟨#[10]⟩ : ByteArray) = mk (renL ws) := bs_inj (by rw [bs_append, bs_mk]; rfl)
 obtain ⟨h', S', e1, f1, x1⟩ := x.write (s := renL ws) (by unfold renL; simp) (by omega)
 rw [hm, strings_Builder_WriteString_eq, strings_Builder_WriteString_31_eq, e1]
 simp only [Option.bind_some, asTup_tup, lI_of, lc_cons, l0_nil]
 exact .pure ⟨rfl, S', f1, x1⟩
/-- .. of words that are laid for it -/
theorem line_k {α : Type} {h : H} {w : Nat} {t : List UInt8} {S : List Nat} (x : Wr h w t S) (ws : List Bs) (hw : ws.length ≤ 100) (hb : t.length + (renL ws).length ≤ 1000000000000) (n : Nat) {k : AV × H → Option (α × H)} {Q : α → H → Prop}
  (hk : ∀ v h' S', Fr S h S' h' → Wr h' w (t ++ renL ws) S' → Ret (k (v, h')) Q) :
  Ret (newK (.cells (ws.map .str) false) h fun i h' => (ca (n + 2) i_config_writer_say [.ptr (some (w, 0)), .slice (some (i, 0)) ws.length (.known ws.length)] h').bind fun q => asTup q.1 fun l => l0 l (k q)) Q := by
 rw [newK_eq]
 have m1 : Mod [] h (h.new (.cells (ws.map .str) false)) := (Mod.refl _ _).new _
 have row : Row (h.new (.cells (ws.map .str) false)) 1 (some (h.next, 0)) ws.length (.known ws.length) (ws.map .str) := .row (Nat.lt_succ_self _) (get_new_self _ _) (by rw [List.drop_zero, List.take_of_length_le (by simp)]) (by simp) (.inr ⟨_, rfl, Nat.le_refl _⟩)
 refine (say_ret (x.mod0 m1) row hw hb n).bind ?_
 rintro _ h2 ⟨rfl, S', f1, x1⟩
 simp only [asTup_tup, l0_nil]
 exact hk _ _ S' ((Fr.mod0 m1).trans f1) x1
/-- a key and a number -/
theorem count_k {α : Type} {h : H} {w : Nat} {t : List UInt8} {S : List Nat} (x : Wr h w t S) (h0 : h.get 0 = some (.tab pow10AV)) (key : Bs) {v : Int} (hv0 : -9223372036854775808 ≤ v) (hv1 : v ≤ 9223372036854775807) (hb : t.length + (renL [key, itoaS v]).length ≤ 1000000000000) (n : Nat) {k : AV × H → Option (α × H)} {Q : α → H → Prop}
  (hk : ∀ v' h' S', Fr S h S' h' → Wr h' w (t ++ renL [key, itoaS v]) S' → Ret (k (v', h')) Q) :
  Ret ((ca (n + 3) i_config_writer_count [.ptr (some (w, 0)), .str key, .int .i64 v] h).bind fun q => asTup q.1 fun l => l0 l (k q)) Q := by
 rw [config_writer_count_eq, strconv_Itoa_eq, strconv_Itoa_16_eq, itoaF_of h0 hv0 hv1]
 simp only [Option.bind_some, asStr_str]
 refine Ret.bind (P := fun r h' => r = .tup [] ∧ ∃ S', Fr S h S' h' ∧ Wr h' w (t ++ renL [key, itoaS v]) S') ?_ ?_
 ·refine line_k x [key, itoaS v] (by simp) hb n fun v' h' S' f1 x1 => ?_
  exact .pure ⟨rfl, S', f1, x1⟩
 ·rintro _ h2 ⟨rfl, S', f1, x1⟩
  simp only [asTup_tup, l0_nil]
  exact hk _ _ S' f1 x1
end Go.Ev.Tryd

/- The configuration is written: words of numbers, cards, backends. -/
namespace Go.Ev.Tryd
set_option maxRecDepth 10000
open Go.Proofs
def pickL (l : List Bs) (v : Int) : Bs := l.getD (if v < 1 ∨ (l.length : Int) < v then l.length - 1 else (v - 1).toNat) ⟨#[]⟩
theorem pick_eq {h : H} {p : Pt} {c : Cap} {l : List Bs} (r : Row h 1 p l.length c (l.map .str)) (hl : 0 < l.length) (hl2 : l.length ≤ 1000) {v : Int} (n : Nat) : ca (n + 1) i_config_pick [.int .i64 v, .slice p l.length c] h = some (.str (pickL l v), h) := by
 rw [config_pick_eq]
 have key : ∀ b : Bool, b = decide (v < 1 ∨ (l.length : Int) < v) → config_pick_J0 n v p l.length c b h = some (.str (pickL l v), h) := by
  intro b hb
  rw [config_pick_J0_eq]
  unfold pickL
  cases b with
  | true =>
   have hc := of_decide_eq_true hb.symm
   have hg : l[l.length - 1]? = some (l[l.length - 1]'(by omega)) := List.getElem?_eq_getElem (by omega)
   rw [cond_true, if_pos hc, wrap_i64 (by omega) (by omega), show ((Nat.cast l.length : Int) - 1) = ((l.length - 1 : Nat) : Int) by omega, r.ix1 hg, asStr_str, List.getD_eq_getElem?_getD, hg]
   rfl
  | false =>
   have hc := of_decide_eq_false hb.symm
   obtain ⟨k, hk⟩ : ∃ k : Nat, v - 1 = k := ⟨(v - 1).toNat, by omega⟩
   have hg : l[k]? = some (l[k]'(by omega)) := List.getElem?_eq_getElem (by omega)
   rw [cond_false, if_neg hc, wrap_i64 (by omega) (by omega), hk, r.ix1 hg, asStr_str, List.getD_eq_getElem?_getD, show ((k : Nat) : Int).toNat = k from rfl, hg]
   rfl
 by_cases h1 : v < 1
 ·rw [decide_eq_true h1, cond_true]
  exact key _ (by rw [decide_eq_true (.inl h1)])
 ·rw [decide_eq_false h1, cond_false]
  refine key _ ?_
  by_cases h2 : v > (l.length : Int)
  ·rw [decide_eq_true h2, decide_eq_true (Or.inr h2)]
  ·rw [decide_eq_false h2, decide_eq_false (fun q => q.elim h1 h2)]
structure CdOk (x : Cd) : Prop where
 ok : ∀ y ∈ [x.a, x.b, x.c, x.d, x.e, x.f], 0 ≤ y ∧ y < 256
def cdT (x : Cd) : Bs := joinS ([x.a, x.b, x.c, x.d, x.e, x.f].map hx2) (mk [58])
theorem card_eq {x : Cd} (ok : CdOk x) {n : Nat} (hn : 11 ≤ n) (h : H) : Ret (ca n i_words_CardText [.agg (enCd x)] h) fun r h' => Mod [] h h' ∧ r = .str (cdT x) :=
 CardText_ret (m := [x.a, x.b, x.c, x.d, x.e, x.f]) rfl ok.ok hn h
def i64ok (v : Int) : Prop := -9223372036854775808 ≤ v ∧ v ≤ 9223372036854775807
structure BkOk (x : Bk) : Prop where
 card : CdOk x.card
 port : i64ok x.port
 weight : i64ok x.weight
def kOpen : Bs := ⟨#[123]⟩
def kShut : Bs := ⟨#[125]⟩
def bkL (x : Bk) : List (List Bs) := [[kBackend, x.name, kOpen], [kAddress, pT x.addr], [kMac, cdT x.card]] ++ (if x.port = 0 then [] else [[kPort, itoaS x.port]]) ++ [[kWeight, itoaS x.weight], [kShut]]
/-- the tables that texts are made with -/
structure Tabs (S : List Nat) (h : H) : Prop where
 t0 : Kept S h 0 (.tab pow10AV)
 t1 : Kept S h 1 (.cells tz64 true)
theorem Tabs.fr {S S' : List Nat} {h h' : H} (t : Tabs S h) (f : Fr S h S' h') : Tabs S' h' := ⟨t.t0.fr f, t.t1.fr f⟩
theorem ren_cons (a : List Bs) (l : List (List Bs)) : ren (a :: l) = renL a ++ ren l := rfl
theorem ren_app (a b : List (List Bs)) : ren (a ++ b) = ren a ++ ren b := by simp [ren]
theorem addr_k {α : Type} {h : H} {S : List Nat} (tb : Tabs S h) (s : Bs) {n : Nat} (hn : 40 ≤ n) {k : Bs → AV × H → Option (α × H)} {Q : α → H → Prop} (hk : ∀ v h', Mod [] h h' → Ret (k (pT s) (v, h')) Q) :
  Ret ((ca n i_words_AddressText [.str s] h).bind fun q => asStr q.1 fun x => k x q) Q := by
 refine (AddressText_ret s hn (h := h) (by have := tb.t1.at_.lt; omega) tb.t0.at_.get tb.t1.at_.get).bind ?_
 rintro _ h' ⟨m, rfl⟩
 simp only [asStr_str]
 exact hk _ _ m
theorem card_k {α : Type} {h : H} {x : Cd} (ok : CdOk x) {n : Nat} (hn : 11 ≤ n) {k : Bs → AV × H → Option (α × H)} {Q : α → H → Prop} (hk : ∀ v h', Mod [] h h' → Ret (k (cdT x) (v, h')) Q) :
  Ret ((ca n i_words_CardText [.agg (enCd x)] h).bind fun q => asStr q.1 fun x => k x q) Q := by
 refine (card_eq ok hn h).bind ?_
 rintro _ h' ⟨m, rfl⟩
 simp only [asStr_str]
 exact hk _ _ m
end Go.Ev.Tryd

/- What is written is read as it was: plain (addresses, cards, numbers). -/
namespace Go.Ev.Tryd
set_option maxRecDepth 10000
open Go.Proofs
theorem hx2_two {x : Nat} (hx : x < 256) : bs (hx2 (x : Int)) = [dig (x / 16), dig (x % 16)] := by
 have : ∀ k : Fin 256, bs (hx2 ((k.val : Nat) : Int)) = [dig (k.val / 16), dig (k.val % 16)] := by decide +kernel
 exact this ⟨x, hx⟩
def mT (m : List Int) : ByteArray := joinS (m.map hx2) (mk [58])
def tail1 (c : UInt8) (ps : List ByteArray) : List UInt8 := ps.flatMap fun p => c :: bs p
theorem join_tail (c : UInt8) : ∀ ps : List ByteArray, bs (joinS ps (mk [c])) = (tail1 c ps).drop 1
 | [] => rfl
 | [p] => by simp [tail1, joinS, bs, Lib.join, List.intercalate]
 | p :: q :: ps => by
  have ih := join_tail c (q :: ps)
  unfold joinS Lib.join bs at ih ⊢
  simp only [List.map_cons] at ih ⊢
  rw [List.intercalate_cons_cons]
  rw [ih]
  simp [tail1, bs, mk]
theorem parts_join (c : UInt8) : ∀ {ps : List (List UInt8)}, ps ≠ [] → (∀ p ∈ ps, c ∉ p) → parts c (Lib.join ps [c]) = ps
 | [], h, _ => absurd rfl h
 | [p], _, h => by rw [Lib.join_one]; exact parts_none (h p (by simp))
 | p :: q :: ps, _, h => by
  have ih := parts_join c (ps := q :: ps) (by simp) fun x hx => h x (by simp [hx])
  have e : Lib.join (p :: q :: ps) [c] = p ++ c :: Lib.join (q :: ps) [c] := by
   unfold Lib.join
   rw [List.intercalate_cons_cons]
   simp
  rw [e, parts_split _ (h p (by simp)), ih]
theorem partsB_join (c : UInt8) {ps : List ByteArray} (h0 : ps ≠ []) (h : ∀ p ∈ ps, c ∉ bs p) : partsB c (joinS ps (mk [c])) = ps := by
 unfold partsB
 have e : bs (joinS ps (mk [c])) = Lib.join (ps.map bs) [c] := rfl
 rw [e, parts_join c (by simpa using h0) (fun p hp => by obtain ⟨q, hq, rfl⟩ := List.mem_map.1 hp; exact h q hq), List.map_map]
 exact (List.map_congr_left fun x _ => mk_bs x).trans (List.map_id _)
theorem dg_mem {b : Nat} (hb : 0 < b) : ∀ {k u : Nat} {x : UInt8}, x ∈ dg b k u → ∃ d, d < b ∧ x = dig d
 | 0, _, _, h => by simp [dg] at h
 | k + 1, u, x, h => by
  unfold dg at h
  split at h
  ·rename_i hu
   simp at h
   exact ⟨u, hu, h⟩
  ·rcases List.mem_append.1 h with h | h
   ·exact dg_mem hb h
   ·simp at h
    exact ⟨_, Nat.mod_lt _ hb, h⟩
theorem dig_no {d : Nat} (h : d < 16) : dig d ≠ 58 ∧ dig d ≠ 46 := by
 have : ∀ k : Fin 16, dig k.val ≠ 58 ∧ dig k.val ≠ 46 := by decide +kernel
 exact this ⟨d, h⟩
theorem dg_pos (b : Nat) : ∀ {k : Nat} (u : Nat), 0 < k → 0 < (dg b k u).length
 | 0, _, h => by cases h
 | k + 1, u, _ => by unfold dg; split <;> simp
theorem hexL_app : ∀ (l m : List UInt8) (n : Int), hexL n (l ++ m) = (hexL n l).bind fun v => hexL v m
 | [], _, _ => rfl
 | x :: l, m, n => by
  rw [List.cons_append, hexL, hexL.eq_2 n x l]
  cases hexD x with
  | none => rfl
  | some d =>
   simp only
   split
   ·rfl
   ·exact hexL_app l m _
theorem hexD_dig {d : Nat} (h : d < 16) : hexD (dig d) = some (d : Int) := by
 have : ∀ k : Fin 16, hexD (dig k.val) = some ((k.val : Nat) : Int) := by decide +kernel
 exact this ⟨d, h⟩
theorem hexL_dg : ∀ {k u : Nat}, 0 < k → u < 16 ^ k → u < 65536 → hexL 0 (dg 16 k u) = some (u : Int)
 | 0, _, h, _, _ => by cases h
 | k + 1, u, _, hu, hu2 => by
  unfold dg
  split
  ·rename_i h
   unfold hexL
   rw [hexD_dig h]
   simp only
   rw [if_neg (by omega)]
   simp [hexL]
  ·rename_i h
   have hlt : u / 16 < 16 ^ k := by
    rw [Nat.div_lt_iff_lt_mul (by omega)]; rw [Nat.pow_succ] at hu; exact hu
   have hk0 : 0 < k := by
    rcases Nat.eq_zero_or_pos k with e | e
    ·subst e
     simp at hlt; omega
    ·exact e
   rw [hexL_app, hexL_dg hk0 hlt (by omega), Option.bind_some]
   unfold hexL
   rw [hexD_dig (Nat.mod_lt _ (by omega))]
   simp only
   rw [if_neg (by omega)]
   simp only [hexL]
   congr 1
   omega
theorem hexR_hT {u : Nat} (hu : u < 65536) : hexR 1 4 (hT u) = ((u : Int), true) := by
 have h1 := dg_len 16 4 u
 have h2 := dg_pos 16 (k := 4) u (by omega)
 unfold hexR hT
 rw [bs_mk, hexL_dg (by omega) (by omega) hu]
 rw [decide_eq_true (by rw [size_mk]; omega), decide_eq_true (by rw [size_mk]; omega)]
 rfl
theorem rd10_dT (c : UInt8) : rd10 (dT c) = ((c.toNat : Int), true) := by
 rw [dT_dg]
 have : ∀ k : Fin 256, rd10 (mk (dg 10 3 k.val)) = (((k.val : Nat) : Int), true) := by decide +kernel
 exact this ⟨c.toNat, c.toNat_lt⟩
theorem gout_dT : ∀ l : List UInt8, gout rd10 1 (l.map dT) = some (l.map fun c => (c.toNat : Int))
 | [] => rfl
 | c :: l => by
  have hc := c.toNat_lt
  simp only [List.map_cons, gout, rd10_dT, if_true]
  rw [gout_dT l, Option.map_some]
  have : byt 1 (c.toNat : Int) = [(c.toNat : Int)] := by
   have : ∀ k : Fin 256, byt 1 ((k.val : Nat) : Int) = [((k.val : Nat) : Int)] := by decide +kernel
   exact this ⟨c.toNat, hc⟩
  rw [this]
  rfl
theorem byt2_pair {x y : Nat} (hx : x < 256) (hy : y < 256) : byt 2 ((256 * x + y : Nat) : Int) = [(x : Int), (y : Int)] := by
 unfold byt
 rw [if_neg (by decide)]
 have e1 : ishr .i64 ((256 * x + y : Nat) : Int) 8 = (x : Int) := by
  unfold ishr
  rw [show min (8 : Int).toNat IntKind.i64.bits = 8 from rfl, show ((2 : Int) ^ 8) = 256 from rfl, Int.fdiv_eq_ediv_of_nonneg _ (by omega)]
  omega
 have e2 : ishr .i64 ((256 * x + y : Nat) : Int) 0 = ((256 * x + y : Nat) : Int) := by
  unfold ishr
  rw [show min (0 : Int).toNat IntKind.i64.bits = 0 from rfl, show ((2 : Int) ^ 0) = 1 from rfl, Int.fdiv_eq_ediv_of_nonneg _ (by omega)]
  omega
 have w : ∀ z : Int, IntKind.u8.wrap z = z % 256 := fun z => by
  simp only [IntKind.wrap, IntKind.bits, IntKind.signed]; simp
 rw [e1, e2, w, w]
 congr 1
 ·omega
 ·congr 1; omega
theorem gout_hT : ∀ l : List UInt8, l.length % 2 = 0 → gout (hexR 1 4) 2 ((prs l).map hT) = some (l.map fun c => (c.toNat : Int))
 | [], _ => rfl
 | [_], h => by simp at h
 | x :: y :: l, h => by
  have hx := x.toNat_lt
  have hy := y.toNat_lt
  simp only [prs, List.map_cons, gout]
  rw [hexR_hT (by omega)]
  simp only [if_true]
  rw [gout_hT l (by simp at h; omega), Option.map_some, byt2_pair (by omega) (by omega)]
  rfl
theorem nums_of (s : ByteArray) : strOfNums ((bs s).map fun c => (c.toNat : Int)) = s := by rw [str_b8, mk_bs]
theorem prs_mem : ∀ {l : List UInt8} {u : Nat}, u ∈ prs l → u < 65536
 | [], _, h => by simp [prs] at h
 | [_], _, h => by simp [prs] at h
 | x :: y :: l, u, h => by
  have hx := x.toNat_lt
  have hy := y.toNat_lt
  simp only [prs, List.mem_cons] at h
  rcases h with rfl | h
  ·omega
  ·exact prs_mem h
theorem prs_len : ∀ l : List UInt8, (prs l).length = l.length / 2
 | [] => rfl
 | [_] => by simp [prs]
 | x :: y :: l => by simp only [prs, List.length_cons, prs_len l]; omega
theorem join_ge (c : UInt8) : ∀ ps : List ByteArray, (∀ p ∈ ps, 0 < p.size) → 2 * ps.length ≤ (Lib.join (ps.map bs) [c]).length + 1
 | [], _ => by simp
 | [p], h => by have := h p (by simp); simp only [List.map_cons, List.map_nil, Lib.join_one, bs_len, List.length_cons, List.length_nil]; omega
 | p :: q :: ps, h => by
  have ih := join_ge c (q :: ps) fun x hx => h x (by simp [hx])
  have h1 := h p (by simp)
  have e : Lib.join ((p :: q :: ps).map bs) [c] = bs p ++ c :: Lib.join ((q :: ps).map bs) [c] := by
   unfold Lib.join
   simp only [List.map_cons]
   rw [List.intercalate_cons_cons]
   simp
  rw [e]
  simp only [List.length_append, List.length_cons, bs_len] at ih ⊢
  omega
theorem adrP_pT (s : ByteArray) : adrP (pT s) = if s.size = 4 ∨ s.size = 16 then (s, true) else (⟨#[]⟩, false) := by
 unfold pT
 by_cases h4 : s.size = 4
 ·rw [if_pos h4, if_pos (.inl h4)]
  unfold adrP
  rw [partsB_join 46 (fun e => by have := congrArg List.length e; simp [bs_len, h4] at this) (fun p hp hm => by
   obtain ⟨c, _, rfl⟩ := List.mem_map.1 hp
   rw [dT_dg, bs_mk] at hm
   obtain ⟨d, hd, e⟩ := dg_mem (by omega) hm
   exact (dig_no (by omega)).2 e.symm), gout_dT]
  simp only
  rw [if_pos (by simp [bs_len, h4]), nums_of]
 ·rw [if_neg h4]
  by_cases h16 : s.size = 16
  ·rw [if_pos h16, if_pos (.inr h16)]
   have hno : ∀ p ∈ (prs (bs s)).map hT, ∀ x ∈ bs p, x ≠ 58 ∧ x ≠ 46 := fun p hp x hx => by
    obtain ⟨u, _, rfl⟩ := List.mem_map.1 hp
    unfold hT at hx
    rw [bs_mk] at hx
    obtain ⟨d, hd, rfl⟩ := dg_mem (by omega) hx
    exact dig_no hd
   have hlen : (prs (bs s)).length = 8 := by rw [prs_len, bs_len, h16]
   have hne : (prs (bs s)).map hT ≠ [] := fun e => by have := congrArg List.length e; simp [hlen] at this
   have hbig := join_ge 58 ((prs (bs s)).map hT) fun p hp => by
    obtain ⟨u, _, rfl⟩ := List.mem_map.1 hp
    unfold hT; rw [size_mk]; exact dg_pos 16 u (by omega)
   simp only [List.length_map, hlen] at hbig
   have hrd : ∀ t ∈ partsB 46 (joinS ((prs (bs s)).map hT) (mk [58])), t = joinS ((prs (bs s)).map hT) (mk [58]) := by
    intro t ht
    have hnot : (46 : UInt8) ∉ bs (joinS ((prs (bs s)).map hT) (mk [58])) := by
     rw [join_tail]
     intro hm
     have hm := List.mem_of_mem_drop hm
     unfold tail1 at hm
     obtain ⟨p, hp, hx⟩ := List.mem_flatMap.1 hm
     rcases List.mem_cons.1 hx with e | hx
     ·cases e
     ·exact (hno p hp _ hx).2 rfl
    unfold partsB at ht
    rw [parts_none hnot] at ht
    simpa [mk_bs] using ht
   have hsix : adrP (joinS ((prs (bs s)).map hT) (mk [58])) = sixP (joinS ((prs (bs s)).map hT) (mk [58])) := by
    unfold adrP
    have : gout rd10 1 (partsB 46 (joinS ((prs (bs s)).map hT) (mk [58]))) = none := by
     have hpn : partsB 46 (joinS ((prs (bs s)).map hT) (mk [58])) ≠ [] := by unfold partsB; simpa using parts_ne 46 _
     obtain ⟨t, l, htl⟩ := List.exists_cons_of_ne_nil hpn
     rw [htl]
     have ht := hrd t (by rw [htl]; simp)
     have hf : (rd10 t).2 = false := by
      rw [ht]
      unfold rd10
      have : numP (bs (joinS ((prs (bs s)).map hT) (mk [58]))) = (0, false) := by
       unfold numP
       rw [if_pos (.inr (.inl (by show 9 < (Lib.join (((prs (bs s)).map hT).map bs) [58]).length; omega)))]
      rw [this]
      rfl
     unfold gout
     rw [hf]
     rfl
    rw [this]
   rw [hsix]
   unfold sixP
   rw [partsB_join 58 hne (fun p hp hm => (hno p hp _ hm).1 rfl), gout_hT _ (by rw [bs_len, h16])]
   simp only
   rw [if_pos (by simp [bs_len, h16]), nums_of]
  ·rw [if_neg h16, if_neg (by omega)]
   decide +kernel
theorem hexR_hx2 {x : Int} (h0 : 0 ≤ x) (h1 : x < 256) : hexR 2 2 (hx2 x) = (x, true) := by
 have : ∀ k : Fin 256, hexR 2 2 (hx2 ((k.val : Nat) : Int)) = (((k.val : Nat) : Int), true) := by decide +kernel
 obtain ⟨m, rfl⟩ := Int.eq_ofNat_of_zero_le h0
 exact this ⟨m, by omega⟩
theorem gout_hx2 : ∀ l : List Int, (∀ x ∈ l, 0 ≤ x ∧ x < 256) → gout (hexR 2 2) 1 (l.map hx2) = some l
 | [], _ => rfl
 | x :: l, h => by
  have hx := h x (by simp)
  simp only [List.map_cons, gout]
  rw [hexR_hx2 hx.1 hx.2]
  simp only [if_true]
  rw [gout_hx2 l fun y hy => h y (by simp [hy]), Option.map_some]
  have : byt 1 x = [x] := by
   have : ∀ k : Fin 256, byt 1 ((k.val : Nat) : Int) = [((k.val : Nat) : Int)] := by decide +kernel
   obtain ⟨m, rfl⟩ := Int.eq_ofNat_of_zero_le hx.1
   exact this ⟨m, by omega⟩
  rw [this]
  rfl
theorem cardP_mT {m : List Int} (hm6 : m.length = 6) (hb : ∀ x ∈ m, 0 ≤ x ∧ x < 256) : cardP (mT m) = (m, true) := by
 unfold cardP mT
 rw [partsB_join 58 (fun e => by have := congrArg List.length e; simp [hm6] at this) (fun p hp hm => by
  obtain ⟨x, hx, rfl⟩ := List.mem_map.1 hp
  have hxb := hb x hx
  obtain ⟨k, rfl⟩ := Int.eq_ofNat_of_zero_le hxb.1
  rw [hx2_two (by omega)] at hm
  simp only [List.mem_cons, List.not_mem_nil, or_false] at hm
  rcases hm with e | e
  ·exact (dig_no (by omega)).1 e.symm
  ·exact (dig_no (by omega)).1 e.symm), gout_hx2 m hb]
 simp only
 rw [if_pos hm6]
theorem adr_size (s : ByteArray) : (pT s).size < 2000 := by
 unfold pT
 have key : ∀ (c : UInt8) (ps : List ByteArray), (∀ p ∈ ps, p.size ≤ 100) → ps.length ≤ 16 → (joinS ps (mk [c])).size < 2000 := by
  intro c ps h hl
  have h1 := join_le c (ps.map (·.data.toList))
  have h2 := flat_le h
  simp only [List.length_map] at h1
  have h3 : (joinS ps (mk [c])).size = (Lib.join (ps.map (·.data.toList)) [c]).length := by rw [← bs_len]; rfl
  omega
 split
 ·rename_i h
  exact key 46 _ (fun p hp => by obtain ⟨x, _, rfl⟩ := List.mem_map.1 hp; exact dT_size x) (by simp [bs_len, h])
 ·split
  ·rename_i h
   exact key 58 _ (fun p hp => by obtain ⟨x, _, rfl⟩ := List.mem_map.1 hp; exact hT_size x) (by simp [prs_len, bs_len, h])
  ·decide
theorem mac_size {m : List Int} (hm6 : m.length = 6) (hb : ∀ x ∈ m, 0 ≤ x ∧ x < 256) : (mT m).size < 2000 := by
 unfold mT
 have h1 := join_le 58 ((m.map hx2).map (·.data.toList))
 have h2 := flat_le (k := 100) (xs := m.map hx2) fun p hp => by
  obtain ⟨x, hx, rfl⟩ := List.mem_map.1 hp
  have hxb := hb x hx
  obtain ⟨k, rfl⟩ := Int.eq_ofNat_of_zero_le hxb.1
  rw [← bs_len, hx2_two (by omega)]
  simp
 simp only [List.length_map] at h1 h2
 have h3 : (joinS (m.map hx2) (mk [58])).size = (Lib.join ((m.map hx2).map (·.data.toList)) [58]).length := by rw [← bs_len]; rfl
 omega
end Go.Ev.Tryd

/- The configuration is written: a service. -/
namespace Go.Ev.Tryd
set_option maxRecDepth 10000
open Go.Proofs
structure RowK (S : List Nat) (h : H) (size : Nat) (p : Pt) (len : Nat) (c : Cap) (vs : List AV) : Prop where
 row : Row h size p len c vs
 out : ∀ b ∈ own p, b ∉ S
theorem RowK.fr {S S' : List Nat} {h h' : H} {size : Nat} {p : Pt} {len : Nat} {c : Cap} {vs : List AV} (r : RowK S h size p len c vs) (f : Fr S h S' h') : RowK S' h' size p len c vs :=
 ⟨r.row.mod f.mod r.out, fun b hb => (f.keep (r.row.lt b hb) (r.out b hb)).2.2⟩
theorem Kept.cellAt {β : Type} {S : List Nat} {h : H} {i o : Nat} {v : AV} {cs : List AV} {ro : Bool} (k : Kept S h i (.cells cs ro)) (hv : cs[o]? = some v) (f : AV → Option β) : cellK h i o f = f v := cellK_of k.at_.get hv f
/-- what a piece of the writer gives -/
def Wrote (w : Nat) (S : List Nat) (h : H) (t : List UInt8) (r : AV) (h' : H) : Prop := r = .tup [] ∧ ∃ S', Fr S h S' h' ∧ Wr h' w t S'
theorem backs_loop {w : Nat} {p : Pt} {c : Cap} {xs : List Bk} (hx : xs.length ≤ 1000000) (hok : ∀ x ∈ xs, BkOk x) (n : Nat) : ∀ (rest pre : List Bk) (m : Nat) (h : H) (t : List UInt8) (S : List Nat), xs = pre ++ rest → rest.length < m → Wr h w t S → Tabs S h → RowK S h 10 p xs.length c (xs.flatMap encB) → t.length + (ren (rest.flatMap bkL ++ [[kShut]])).length ≤ 1000000000000 →
  Ret (config_writer_service_L1 (n + 60) m (some (w, 0)) p xs.length c (Nat.cast xs.length) (pre.length : Nat) h) (Wrote w S h (t ++ ren (rest.flatMap bkL ++ [[kShut]])))
 | [], pre, m + 1, h, t, S, e1, _, x, tb, r, hb => by
  rw [config_writer_service_L1_eq, cast_not_lt (by rw [e1]; simp), cond_false]
  refine line_k x [kShut] (by simp) (by simpa [ren] using hb) (n + 58) fun v h1 S1 f1 x1 => ?_
  exact .pure ⟨rfl, S1, f1, by simpa [ren] using x1⟩
 | y :: ys, pre, m + 1, h, t, S, e1, hm, x, tb, r, hb => by
  have hget : xs[pre.length]? = some y := by rw [e1]; simp
  have hlt : pre.length < xs.length := (List.getElem?_eq_some_iff.1 hget).1
  have ok := hok y (List.mem_of_getElem? hget)
  have hl : ren ((y :: ys).flatMap bkL ++ [[kShut]]) = renL [kBackend, y.name, kOpen] ++ (renL [kAddress, pT y.addr] ++ (renL [kMac, cdT y.card] ++ (ren (if y.port = 0 then [] else [[kPort, itoaS y.port]]) ++ (renL [kWeight, itoaS y.weight] ++ (renL [kShut] ++ ren (ys.flatMap bkL ++ [[kShut]])))))) := by
   simp [ren, bkL]
  rw [hl] at hb ⊢
  simp only [List.length_append] at hb
  rw [config_writer_service_L1_eq, cast_lt hlt, cond_true, r.row.ix encB_len (by decide) hget, newK_eq, box_wr (n := 10) rfl rfl rfl]
  have m1 : Mod [] h (h.new (.cells (encB y) false)) := (Mod.refl _ _).new _
  have kb : Kept S (h.new (.cells (encB y) false)) h.next (.cells (encB y) false) := kept_new x.lt _
  have x1 := x.mod0 m1
  have F1 : Fr S h S (h.new (.cells (encB y) false)) := .mod0 m1
  generalize h.new (.cells (encB y) false) = h1 at x1 kb F1 ⊢
  generalize h.next = b at kb ⊢
  rw [kb.cellAt (v := .str y.name) rfl, asStr_str]
  refine line_k x1 [kBackend, y.name, kOpen] (by simp) (by omega) (n + 58) fun v2 h2 S2 f2 x2 => ?_
  have F2 := F1.trans f2
  have kb2 := kb.fr f2
  rw [kb2.cellAt (v := .str y.addr) rfl, asStr_str]
  refine addr_k (tb.fr F2) y.addr (by omega) fun v3 h3 m3 => ?_
  have F3 := F2.trans (.mod0 m3)
  refine line_k (x2.mod0 m3) [kAddress, pT y.addr] (by simp) (by simp only [List.length_append]; omega) (n + 58) fun v4 h4 S4 f4 x4 => ?_
  have F4 := F3.trans f4
  have kb4 := (kb2.mod0 m3).fr f4
  rw [kb4.at_.agg (o := 2) (n := 6) (vs := enCd y.card) rfl (by exact (by decide : 2 + 6 ≤ 10))]
  refine card_k ok.card (by omega) fun v5 h5 m5 => ?_
  have F5 := F4.trans (.mod0 m5)
  refine line_k (x4.mod0 m5) [kMac, cdT y.card] (by simp) (by simp only [List.length_append]; omega) (n + 58) fun v6 h6 S6 f6 x6 => ?_
  have F6 := F5.trans f6
  have kb6 := (kb4.mod0 m5).fr f6
  dsimp only
  rw [kb6.cellAt (v := .int .i64 y.port) rfl, asInt_int]
  have last : ∀ (h7 : H) (S7 : List Nat) (t7 : List UInt8), Fr S h S7 h7 → Kept S7 h7 b (.cells (encB y) false) → Wr h7 w t7 S7 → t7.length + (renL [kWeight, itoaS y.weight]).length + (renL [kShut]).length + (ren (ys.flatMap bkL ++ [[kShut]])).length ≤ 1000000000000 →
    Ret (config_writer_service_J2 (n + 60) m (some (w, 0)) (some (b, 0)) p xs.length c (Nat.cast xs.length) (pre.length : Nat) h7) (Wrote w S h (t7 ++ (renL [kWeight, itoaS y.weight] ++ (renL [kShut] ++ ren (ys.flatMap bkL ++ [[kShut]]))))) := by
   intro h7 S7 t7 F7 kb7 x7 hb7
   rw [config_writer_service_J2_eq]
   simp only [nnK_some', Nat.zero_add]
   rw [kb7.cellAt (v := .int .i64 y.weight) rfl, asInt_int]
   refine count_k x7 (tb.fr F7).t0.at_.get kWeight ok.weight.1 ok.weight.2 (by omega) (n + 57) fun v8 h8 S8 f8 x8 => ?_
   refine line_k x8 [kShut] (by simp) (by simp only [List.length_append]; omega) (n + 58) fun v9 h9 S9 f9 x9 => ?_
   have F9 := (F7.trans f8).trans f9
   rw [wrap_succ (by omega)]
   have := backs_loop hx hok n ys (pre ++ [y]) m h9 _ S9 (by rw [e1]; simp) (by simp at hm; omega) x9 (tb.fr F9) (r.fr F9) (by simp only [List.length_append]; omega)
   refine Ret.mono (by simpa using this) ?_
   rintro r' h10 ⟨q1, S10, f10, x10⟩
   exact ⟨q1, S10, F9.trans f10, by simpa using x10⟩
  by_cases hp : y.port = 0
  ·rw [show (y.port != 0) = false by simpa using hp, cond_false]
   rw [if_pos hp] at hb ⊢
   have hb0 : (ren ([] : List (List Bs))).length = 0 := rfl
   rw [hb0] at hb
   have := last h6 S6 _ F6 kb6 x6 (by simp only [List.length_append]; omega)
   simpa [ren] using this
  ·rw [show (y.port != 0) = true by simpa using hp, cond_true, kb6.cellAt (v := .int .i64 y.port) rfl, asInt_int]
   rw [if_neg hp] at hb ⊢
   have hb1 : (ren [[kPort, itoaS y.port]]).length = (renL [kPort, itoaS y.port]).length := by simp [ren]
   rw [hb1] at hb
   refine count_k x6 (tb.fr F6).t0.at_.get kPort ok.port.1 ok.port.2 (by simp only [List.length_append]; omega) (n + 57) fun v8 h8 S8 f8 x8 => ?_
   have := last h8 S8 _ (F6.trans f8) (kb6.fr f8) x8 (by simp only [List.length_append]; omega)
   simpa [ren] using this
end Go.Ev.Tryd

/- The configuration is written: services. -/
namespace Go.Ev.Tryd
set_option maxRecDepth 10000
open Go.Proofs
theorem pick_k {α : Type} {h : H} (l : List Bs) (hl : 0 < l.length) (hl2 : l.length ≤ 1000) (v : Int) (n : Nat) {k : Bs → AV × H → Option (α × H)} {Q : α → H → Prop} (hk : ∀ v' h', Mod [] h h' → Ret (k (pickL l v) (v', h')) Q) :
  Ret (newK (.cells (l.map .str) false) h fun i h' => (ca (n + 1) i_config_pick [.int .i64 v, .slice (some (i, 0)) l.length (.known l.length)] h').bind fun q => asStr q.1 fun x => k x q) Q := by
 rw [newK_eq]
 have row : Row (h.new (.cells (l.map .str) false)) 1 (some (h.next, 0)) l.length (.known l.length) (l.map .str) := .row (Nat.lt_succ_self _) (get_new_self _ _) (by rw [List.drop_zero, List.take_of_length_le (by simp)]) (by simp) (.inr ⟨_, rfl, Nat.le_refl _⟩)
 rw [pick_eq row hl hl2, Option.bind_some]
 simp only [asStr_str]
 exact hk _ _ ((Mod.refl _ _).new _)
structure SvOk (x : Sv) : Prop where
 port : i64ok x.port
 rise : i64ok x.rise
 fall : i64ok x.fall
 probe : i64ok x.probe
 bks : ∀ b ∈ x.bks, BkOk b
 few : x.bks.length ≤ 1000000
def svH (x : Sv) : List (List Bs) := [[kVip, pT x.vip], [kPort, itoaS x.port], [kMode, pickL [kNat, kDr, kIpip] x.mode], [kSched, pickL [kMaglev, kSource] x.sched], [kRise, itoaS x.rise], [kFall, itoaS x.fall], [kProbe, itoaS x.probe]]
def svL (x : Sv) : List (List Bs) := [kService, x.name, kOpen] :: [kProto, if x.proto = 6 then kTcp else kUdp] :: (svH x ++ (x.bks.flatMap bkL ++ [[kShut]]))
theorem service_w {x : Sv} (ok : SvOk x) {w : Nat} {h : H} {t : List UInt8} {S : List Nat} (wr : Wr h w t S) (tb : Tabs S h) {p : Pt} {c : Cap} (r : RowK S h 10 p x.bks.length c (x.bks.flatMap encB)) (hb : t.length + (ren (svL x)).length ≤ 1000000000000) {n : Nat} (hn : 1000100 ≤ n) :
  Ret (ca n i_config_writer_service [.ptr (some (w, 0)), .agg (encS x (.slice p x.bks.length c))] h) (Wrote w S h (t ++ ren (svL x))) := by
 obtain ⟨n, rfl⟩ : ∃ k, n = k + 61 := ⟨n - 61, by omega⟩
 show Ret (ca (n + 60 + 1) i_config_writer_service [.ptr (some (w, 0)), .agg [.str x.name, .str x.vip, .int .i64 x.proto, .int .i64 x.port, .int .i64 x.mode, .int .i64 x.sched, .int .i64 x.rise, .int .i64 x.fall, .int .i64 x.probe, .slice p x.bks.length c]] h) _
 have hl : ren (svL x) = renL [kService, x.name, kOpen] ++ (renL [kProto, if x.proto = 6 then kTcp else kUdp] ++ (renL [kVip, pT x.vip] ++ (renL [kPort, itoaS x.port] ++ (renL [kMode, pickL [kNat, kDr, kIpip] x.mode] ++ (renL [kSched, pickL [kMaglev, kSource] x.sched] ++ (renL [kRise, itoaS x.rise] ++ (renL [kFall, itoaS x.fall] ++ (renL [kProbe, itoaS x.probe] ++ ren (x.bks.flatMap bkL ++ [[kShut]]))))))))) := by
  simp [ren, svL, svH]
 rw [hl] at hb ⊢
 simp only [List.length_append] at hb
 rw [config_writer_service_eq, newK_eq]
 have m1 : Mod [] h (h.new (.cells (encS x (.slice p x.bks.length c)) false)) := (Mod.refl _ _).new _
 have kb : Kept S (h.new (.cells (encS x (.slice p x.bks.length c)) false)) h.next (.cells (encS x (.slice p x.bks.length c)) false) := kept_new wr.lt _
 have x1 := wr.mod0 m1
 have F1 : Fr S h S (h.new (.cells (encS x (.slice p x.bks.length c)) false)) := .mod0 m1
 rw [show (AObj.cells [.str x.name, .str x.vip, .int .i64 x.proto, .int .i64 x.port, .int .i64 x.mode, .int .i64 x.sched, .int .i64 x.rise, .int .i64 x.fall, .int .i64 x.probe, .slice p x.bks.length c] false) = .cells (encS x (.slice p x.bks.length c)) false from rfl]
 generalize h.new (.cells (encS x (.slice p x.bks.length c)) false) = h1 at x1 kb F1 ⊢
 generalize h.next = b at kb ⊢
 rw [kb.cellAt (v := .str x.name) rfl, asStr_str]
 refine line_k x1 [kService, x.name, kOpen] (by simp) (by omega) (n + 58) fun v2 h2 S2 f2 x2 => ?_
 have F2 := F1.trans f2
 have kb2 := kb.fr f2
 dsimp only
 rw [kb2.cellAt (v := .int .i64 x.proto) rfl, asInt_int]
 have rest : ∀ pr : Bs, pr = (if x.proto = 6 then kTcp else kUdp) → Ret (config_writer_service_J0 (n + 60) (some (w, 0)) (some (b, 0)) pr h2) (Wrote w S h (t ++ (renL [kService, x.name, kOpen] ++ (renL [kProto, if x.proto = 6 then kTcp else kUdp] ++ (renL [kVip, pT x.vip] ++ (renL [kPort, itoaS x.port] ++ (renL [kMode, pickL [kNat, kDr, kIpip] x.mode] ++ (renL [kSched, pickL [kMaglev, kSource] x.sched] ++ (renL [kRise, itoaS x.rise] ++ (renL [kFall, itoaS x.fall] ++ (renL [kProbe, itoaS x.probe] ++ ren (x.bks.flatMap bkL ++ [[kShut]])))))))))))) := by
  rintro pr rfl
  generalize (if x.proto = 6 then kTcp else kUdp) = pr at hb ⊢
  rw [config_writer_service_J0_eq]
  simp only [nnK_some', Nat.zero_add]
  refine line_k x2 [kProto, pr] (by simp) (by simp only [List.length_append]; omega) (n + 58) fun v3 h3 S3 f3 x3 => ?_
  have F3 := F2.trans f3
  have kb3 := kb2.fr f3
  rw [kb3.cellAt (v := .str x.vip) rfl, asStr_str]
  refine addr_k (tb.fr F3) x.vip (by omega) fun v4 h4 m4 => ?_
  have F4 := F3.trans (.mod0 m4)
  refine line_k (x3.mod0 m4) [kVip, pT x.vip] (by simp) (by simp only [List.length_append]; omega) (n + 58) fun v5 h5 S5 f5 x5 => ?_
  have F5 := F4.trans f5
  have kb5 := (kb3.mod0 m4).fr f5
  rw [kb5.cellAt (v := .int .i64 x.port) rfl, asInt_int]
  refine count_k x5 (tb.fr F5).t0.at_.get kPort ok.port.1 ok.port.2 (by simp only [List.length_append]; omega) (n + 57) fun v6 h6 S6 f6 x6 => ?_
  have F6 := F5.trans f6
  have kb6 := kb5.fr f6
  rw [kb6.cellAt (v := .int .i64 x.mode) rfl, asInt_int]
  refine pick_k [kNat, kDr, kIpip] (by simp) (by simp) x.mode (n + 59) fun v7 h7 m7 => ?_
  have F7 := F6.trans (.mod0 m7)
  refine line_k (x6.mod0 m7) [kMode, pickL [kNat, kDr, kIpip] x.mode] (by simp) (by simp only [List.length_append]; omega) (n + 58) fun v8 h8 S8 f8 x8 => ?_
  have F8 := F7.trans f8
  have kb8 := (kb6.mod0 m7).fr f8
  rw [kb8.cellAt (v := .int .i64 x.sched) rfl, asInt_int]
  refine pick_k [kMaglev, kSource] (by simp) (by simp) x.sched (n + 59) fun v9 h9 m9 => ?_
  have F9 := F8.trans (.mod0 m9)
  refine line_k (x8.mod0 m9) [kSched, pickL [kMaglev, kSource] x.sched] (by simp) (by simp only [List.length_append]; omega) (n + 58) fun v10 h10 S10 f10 x10 => ?_
  have F10 := F9.trans f10
  have kb10 := (kb8.mod0 m9).fr f10
  rw [kb10.cellAt (v := .int .i64 x.rise) rfl, asInt_int]
  refine count_k x10 (tb.fr F10).t0.at_.get kRise ok.rise.1 ok.rise.2 (by simp only [List.length_append]; omega) (n + 57) fun v11 h11 S11 f11 x11 => ?_
  have F11 := F10.trans f11
  have kb11 := kb10.fr f11
  rw [kb11.cellAt (v := .int .i64 x.fall) rfl, asInt_int]
  refine count_k x11 (tb.fr F11).t0.at_.get kFall ok.fall.1 ok.fall.2 (by simp only [List.length_append]; omega) (n + 57) fun v12 h12 S12 f12 x12 => ?_
  have F12 := F11.trans f12
  have kb12 := kb11.fr f12
  rw [kb12.cellAt (v := .int .i64 x.probe) rfl, asInt_int]
  refine count_k x12 (tb.fr F12).t0.at_.get kProbe ok.probe.1 ok.probe.2 (by simp only [List.length_append]; omega) (n + 57) fun v13 h13 S13 f13 x13 => ?_
  have F13 := F12.trans f13
  have kb13 := kb12.fr f13
  rw [kb13.cellAt (v := .slice p x.bks.length c) rfl, asSlice_slice]
  have := backs_loop ok.few ok.bks n x.bks [] (n + 60) h13 _ S13 rfl (by have := ok.few; omega) x13 (tb.fr F13) (r.fr F13) (by simp only [List.length_append]; omega)
  refine Ret.mono this ?_
  rintro r' h14 ⟨q1, S14, f14, x14⟩
  exact ⟨q1, S14, F13.trans f14, by simpa using x14⟩
 by_cases h6 : x.proto = 6
 ·rw [show (x.proto == 6) = true by simpa using h6, cond_true]
  exact rest _ (by rw [if_pos h6]; rfl)
 ·rw [show (x.proto == 6) = false by simpa using h6, cond_false]
  exact rest _ (by rw [if_neg h6]; rfl)
end Go.Ev.Tryd

/- The configuration is written: the whole. -/
namespace Go.Ev.Tryd
set_option maxRecDepth 10000
open Go.Proofs
structure PsOk (p : Ps) : Prop where
 card : CdOk p.card
 id : i64ok p.id
 prio : i64ok p.prio
 every : i64ok p.every
 trs : ∀ x ∈ p.trs, i64ok x.2
 svs : ∀ x ∈ p.svs, SvOk x
 fv : p.vips.length ≤ 1000000
 ft : p.trs.length ≤ 1000000
 fs : p.svs.length ≤ 1000000
def headL (p : Ps) : List (List Bs) := [[kNode, kOpen], [kMac, cdT p.card], [kAddress, pT p.addr], [kPeer, pT p.peer], [kShut], [kVrrp, kOpen], [kId, itoaS p.id], [kPrio, itoaS p.prio], [kEvery, itoaS p.every]]
def vipsL (l : List Bs) : List (List Bs) := l.map fun a => [kVip, pT a]
def trsL (l : List (Bs × Int)) : List (List Bs) := l.map fun x => [kTrack, x.1, itoaS x.2]
def svsL (l : List Sv) : List (List Bs) := l.flatMap svL
def printL (p : Ps) : List (List Bs) := headL p ++ ([kPreempt, if p.pre = true then kYes else kNo] :: (vipsL p.vips ++ (trsL p.trs ++ ([kShut] :: svsL p.svs))))
/-- what is there at last -/
def Told (S : List Nat) (h : H) (t : List UInt8) (r : AV) (h' : H) : Prop := r = .str (mk t) ∧ ∃ S', Fr S h S' h'
theorem nums_bytes (t : List UInt8) : evNums (byteAVs (mk t)) = some (t.map fun c => (c.toNat : Int)) := by
 have : byteAVs (mk t) = (t.map fun c => (c.toNat : Int)).map (.int .u8) := by simp [byteAVs, mk]
 rw [this, evNums_map]
theorem strOf_bytes (t : List UInt8) : strOfNums (t.map fun c => (c.toNat : Int)) = mk t := by
 unfold strOfNums mk
 congr 2
 rw [List.map_map]
 refine (List.map_congr_left fun c _ => ?_).trans (List.map_id t)
 simp
theorem told_of {h : H} {w : Nat} {t : List UInt8} {S : List Nat} (x : Wr h w t S) (h0 : t ≠ []) (hb : t.length ≤ 140737488355328) : ∃ h', stF 53 5 (some (w, 0)) h = some (mk t, h') ∧ ∃ S', Fr S h S' h' := by
 cases x with
 | none lt g => exact absurd rfl h0
 | @some j t lt _ g gj lj ne =>
  refine ⟨h.kill j, ?_, [w, j], ⟨(Mod.refl _ _).kill (.inr (by simp)), fun i hi => .inl hi⟩⟩
  unfold stF
  simp only [g, gj]
  rw [if_pos ⟨trivial, trivial, byteAVs_len t, List.length_pos_iff.2 h0, hb, ne⟩, nums_bytes, Option.bind_some, if_pos, strOf_bytes]
  rw [List.all_eq_true]
  intro y hy
  obtain ⟨c, _, rfl⟩ := List.mem_map.1 hy
  have := c.toNat_lt
  simp
  omega
theorem svs_loop {w : Nat} {p : Pt} {c : Cap} {xs : List SvR} (hx : xs.length ≤ 1000000) (hok : ∀ x ∈ xs, SvOk x.1) {n : Nat} (hn : 1000200 ≤ n) : ∀ (rest pre : List SvR) (m : Nat) (h : H) (t : List UInt8) (S : List Nat), xs = pre ++ rest → rest.length < m → Wr h w t S → t ≠ [] → Tabs S h → RowK S h 10 p xs.length c (xs.flatMap encR) → (∀ x ∈ xs, RowK S h 10 x.2.1 x.1.bks.length x.2.2 (x.1.bks.flatMap encB)) → t.length + (ren (svsL (rest.map (·.1)))).length ≤ 1000000000000 →
  Ret (config_Print_L3 n m (some (w, 0)) p xs.length c (Nat.cast xs.length) (pre.length : Nat) h) (Told S h (t ++ ren (svsL (rest.map (·.1)))))
 | [], pre, m + 1, h, t, S, e1, _, x, h0, tb, r, rs, hb => by
  obtain ⟨n, rfl⟩ : ∃ k, n = k + 1 := ⟨n - 1, by omega⟩
  rw [config_Print_L3_eq, cast_not_lt (by rw [e1]; simp), cond_false, nnK_some', strings_Builder_String_eq, strings_Builder_String_18_eq]
  obtain ⟨h', e2, S', f1⟩ := told_of x h0 (by omega)
  rw [e2]
  simp only [Option.bind_some, asStr_str]
  exact .pure ⟨by simp [ren, svsL], S', f1⟩
 | y :: ys, pre, m + 1, h, t, S, e1, hm, x, h0, tb, r, rs, hb => by
  have hget : xs[pre.length]? = some y := by rw [e1]; simp
  have hlt : pre.length < xs.length := (List.getElem?_eq_some_iff.1 hget).1
  have hmem := List.mem_of_getElem? hget
  have hl : ren (svsL ((y :: ys).map (·.1))) = ren (svL y.1) ++ ren (svsL (ys.map (·.1))) := by simp [ren, svsL]
  rw [hl] at hb ⊢
  rw [List.length_append] at hb
  rw [config_Print_L3_eq, cast_lt hlt, cond_true, r.row.ix encR_len (by decide) hget]
  simp only [encR, encS, lS_of, lI_of, lL_of, l0_nil]
  rw [newK_eq, box_wr (n := 10) rfl rfl rfl, aggK_all (n := 10) (get_new_self _ _) rfl]
  simp only [lS_of, lI_of, lL_of, l0_nil]
  have m1 : Mod [] h (h.new (.cells (encS y.1 (.slice y.2.1 y.1.bks.length y.2.2)) false)) := (Mod.refl _ _).new _
  change Ret ((ca n i_config_writer_service [.ptr (some (w, 0)), .agg (encS y.1 (.slice y.2.1 y.1.bks.length y.2.2))] (h.new (.cells (encS y.1 (.slice y.2.1 y.1.bks.length y.2.2)) false))).bind fun q161 => asTup q161.1 fun l162 => l0 l162 (config_Print_L3 n m (some (w, 0)) p xs.length c (Nat.cast xs.length) (IntKind.i64.wrap (((pre.length : Nat) : Int) + 1)) q161.2)) _
  have F1 : Fr S h S (h.new (.cells (encS y.1 (.slice y.2.1 y.1.bks.length y.2.2)) false)) := .mod0 m1
  refine (service_w (hok y hmem) (x.mod0 m1) (tb.fr F1) ((rs y hmem).fr F1) (by omega) (n := n) (by omega)).bind ?_
  rintro _ h2 ⟨rfl, S2, f2, x2⟩
  have F2 := F1.trans f2
  simp only [asTup_tup, l0_nil]
  rw [wrap_succ (by omega)]
  have := svs_loop hx hok hn ys (pre ++ [y]) m h2 _ S2 (by rw [e1]; simp) (by simp at hm; omega) x2 (by simp [h0]) (tb.fr F2) (r.fr F2) (fun z hz => (rs z hz).fr F2) (by rw [List.length_append]; omega)
  refine Ret.mono (by simpa using this) ?_
  rintro r' h3 ⟨q1, S3, f3⟩
  exact ⟨by simpa using q1, S3, F2.trans f3⟩
end Go.Ev.Tryd

/- The configuration is written: Print. -/
namespace Go.Ev.Tryd
set_option maxRecDepth 10000
open Go.Proofs
/-- the configuration that is written, where it lies -/
structure PrIn (S : List Nat) (h : H) (b : Nat) (p : Ps) (vp tp gp : Pt) (vc tc gc : Cap) (svr : List SvR) : Prop where
 box : Kept S h b (.cells (encC p (.slice vp p.vips.length vc) (.slice tp p.trs.length tc) (.slice gp svr.length gc)) false)
 tb : Tabs S h
 rv : RowK S h 1 vp p.vips.length vc (p.vips.map .str)
 rt : RowK S h 2 tp p.trs.length tc (p.trs.flatMap encT)
 rg : RowK S h 10 gp svr.length gc (svr.flatMap encR)
 rs : ∀ x ∈ svr, RowK S h 10 x.2.1 x.1.bks.length x.2.2 (x.1.bks.flatMap encB)
theorem PrIn.fr {S S' : List Nat} {h h' : H} {b : Nat} {p : Ps} {vp tp gp : Pt} {vc tc gc : Cap} {svr : List SvR} (i : PrIn S h b p vp tp gp vc tc gc svr) (f : Fr S h S' h') : PrIn S' h' b p vp tp gp vc tc gc svr :=
 ⟨i.box.fr f, i.tb.fr f, i.rv.fr f, i.rt.fr f, i.rg.fr f, fun x hx => (i.rs x hx).fr f⟩
section
variable {p : Ps} {vp tp gp : Pt} {vc tc gc : Cap} {svr : List SvR} {b w : Nat}
theorem trs_loop (ok : PsOk p) (es : svr.map (·.1) = p.svs) {n : Nat} (hn : 1000200 ≤ n) : ∀ (rest pre : List (Bs × Int)) (m : Nat) (h : H) (t : List UInt8) (S : List Nat), p.trs = pre ++ rest → rest.length < m → Wr h w t S → t ≠ [] → PrIn S h b p vp tp gp vc tc gc svr → t.length + (ren (trsL rest ++ ([kShut] :: svsL p.svs))).length ≤ 1000000000000 →
  Ret (config_Print_L2 n m (some (b, 0)) (some (w, 0)) tp p.trs.length tc (Nat.cast p.trs.length) (pre.length : Nat) h) (Told S h (t ++ ren (trsL rest ++ ([kShut] :: svsL p.svs))))
 | [], pre, m + 1, h, t, S, e1, _, x, h0, i, hb => by
  obtain ⟨n, rfl⟩ : ∃ k, n = k + 60 := ⟨n - 60, by omega⟩
  have hl : ren (trsL [] ++ ([kShut] :: svsL p.svs)) = renL [kShut] ++ ren (svsL p.svs) := rfl
  rw [hl] at hb ⊢
  rw [List.length_append] at hb
  rw [config_Print_L2_eq, cast_not_lt (by rw [e1]; simp), cond_false]
  refine line_k x [kShut] (by simp) (by omega) (n + 58) fun v2 h2 S2 f2 x2 => ?_
  have i2 := i.fr f2
  dsimp only
  simp only [nnK_some', Nat.zero_add]
  rw [i2.box.cellAt (v := .slice gp svr.length gc) rfl, asSlice_slice]
  have hs : svr.length = p.svs.length := by rw [← es, List.length_map]
  have := svs_loop (w := w) (xs := svr) (by rw [hs]; exact ok.fs) (fun y hy => ok.svs _ (by rw [← es]; exact List.mem_map_of_mem hy)) hn svr [] (n + 60) h2 _ S2 rfl (by have := ok.fs; omega) x2 (by simp [h0]) i2.tb i2.rg i2.rs (by rw [es, List.length_append]; omega)
  rw [es] at this
  refine Ret.mono this ?_
  rintro r' h3 ⟨q1, S3, f3⟩
  exact ⟨by simpa using q1, S3, f2.trans f3⟩
 | y :: ys, pre, m + 1, h, t, S, e1, hm, x, h0, i, hb => by
  obtain ⟨n, rfl⟩ : ∃ k, n = k + 60 := ⟨n - 60, by omega⟩
  have hget : p.trs[pre.length]? = some y := by rw [e1]; simp
  have hlt : pre.length < p.trs.length := (List.getElem?_eq_some_iff.1 hget).1
  have hmem := List.mem_of_getElem? hget
  have ft := ok.ft
  have hl : ren (trsL (y :: ys) ++ ([kShut] :: svsL p.svs)) = renL [kTrack, y.1, itoaS y.2] ++ ren (trsL ys ++ ([kShut] :: svsL p.svs)) := rfl
  rw [hl] at hb ⊢
  rw [List.length_append] at hb
  rw [config_Print_L2_eq, cast_lt hlt, cond_true, i.rt.row.ix encT_len (by decide) hget]
  simp only [encT, lS_of, lI_of, l0_nil]
  rw [newK_eq, box_wr (n := 2) rfl rfl rfl]
  have m1 : Mod [] h (h.new (.cells [.str y.1, .int .i64 y.2] false)) := (Mod.refl _ _).new _
  have at1 : At (h.new (.cells [.str y.1, .int .i64 y.2] false)) h.next (.cells [.str y.1, .int .i64 y.2] false) := .new _ _
  have F1 : Fr S h S (h.new (.cells [.str y.1, .int .i64 y.2] false)) := .mod0 m1
  generalize h.new (.cells [.str y.1, .int .i64 y.2] false) = h1 at m1 at1 F1 ⊢
  have ht := (i.fr F1).tb.t0.at_.get
  rw [at1.cell (v := .str y.1) rfl, asStr_str, at1.cell (v := .int .i64 y.2) rfl, asInt_int, strconv_Itoa_eq, strconv_Itoa_16_eq, itoaF_of ht (ok.trs y hmem).1 (ok.trs y hmem).2]
  simp only [Option.bind_some, asStr_str]
  rw [sameK_same]
  refine line_k (x.mod0 m1) [kTrack, y.1, itoaS y.2] (by simp) (by omega) (n + 58) fun v2 h2 S2 f2 x2 => ?_
  have F2 := F1.trans f2
  dsimp only
  rw [wrap_succ (by omega)]
  have := trs_loop ok es hn ys (pre ++ [y]) m h2 _ S2 (by rw [e1]; simp) (by simp at hm; omega) x2 (by simp [h0]) (i.fr F2) (by rw [List.length_append]; omega)
  refine Ret.mono (by simpa using this) ?_
  rintro r' h3 ⟨q1, S3, f3⟩
  exact ⟨by simpa using q1, S3, F2.trans f3⟩
theorem vipsP_loop (ok : PsOk p) (es : svr.map (·.1) = p.svs) {n : Nat} (hn : 1000200 ≤ n) : ∀ (rest pre : List Bs) (m : Nat) (h : H) (t : List UInt8) (S : List Nat), p.vips = pre ++ rest → rest.length < m → Wr h w t S → t ≠ [] → PrIn S h b p vp tp gp vc tc gc svr → t.length + (ren (vipsL rest ++ (trsL p.trs ++ ([kShut] :: svsL p.svs)))).length ≤ 1000000000000 →
  Ret (config_Print_L1 n m (some (b, 0)) (some (w, 0)) vp p.vips.length vc (Nat.cast p.vips.length) (pre.length : Nat) h) (Told S h (t ++ ren (vipsL rest ++ (trsL p.trs ++ ([kShut] :: svsL p.svs)))))
 | [], pre, m + 1, h, t, S, e1, _, x, h0, i, hb => by
  rw [config_Print_L1_eq, cast_not_lt (by rw [e1]; simp), cond_false]
  simp only [nnK_some', Nat.zero_add]
  rw [i.box.cellAt (v := .slice tp p.trs.length tc) rfl, asSlice_slice]
  exact trs_loop ok es hn p.trs [] n h t S rfl (by have := ok.ft; omega) x h0 i hb
 | y :: ys, pre, m + 1, h, t, S, e1, hm, x, h0, i, hb => by
  obtain ⟨n, rfl⟩ : ∃ k, n = k + 60 := ⟨n - 60, by omega⟩
  have hget : p.vips[pre.length]? = some y := by rw [e1]; simp
  have hlt : pre.length < p.vips.length := (List.getElem?_eq_some_iff.1 hget).1
  have fv := ok.fv
  have hl : ren (vipsL (y :: ys) ++ (trsL p.trs ++ ([kShut] :: svsL p.svs))) = renL [kVip, pT y] ++ ren (vipsL ys ++ (trsL p.trs ++ ([kShut] :: svsL p.svs))) := rfl
  rw [hl] at hb ⊢
  rw [List.length_append] at hb
  rw [config_Print_L1_eq, cast_lt hlt, cond_true, i.rv.row.ix1 hget, asStr_str]
  refine addr_k i.tb y (by omega) fun v1 h1 m1 => ?_
  have F1 : Fr S h S h1 := .mod0 m1
  refine line_k (x.mod0 m1) [kVip, pT y] (by simp) (by omega) (n + 58) fun v2 h2 S2 f2 x2 => ?_
  have F2 := F1.trans f2
  dsimp only
  rw [wrap_succ (by omega)]
  have := vipsP_loop ok es hn ys (pre ++ [y]) m h2 _ S2 (by rw [e1]; simp) (by simp at hm; omega) x2 (by simp [h0]) (i.fr F2) (by rw [List.length_append]; omega)
  refine Ret.mono (by simpa using this) ?_
  rintro r' h3 ⟨q1, S3, f3⟩
  exact ⟨by simpa using q1, S3, F2.trans f3⟩
end
end Go.Ev.Tryd

/- The configuration is written: the contract. -/
namespace Go.Ev.Tryd
set_option maxRecDepth 10000
open Go.Proofs
theorem Print_ret {p : Ps} (ok : PsOk p) {h : H} (h1 : 1 < h.next) (ht0 : h.get 0 = some (.tab pow10AV)) (ht1 : h.get 1 = some (.cells tz64 true)) {cs : List AV} (hc : CfgAt h p cs) (hb : (ren (printL p)).length ≤ 1000000000000) {n : Nat} (hn : 1000300 ≤ n) :
  Ret (ca n i_config_Print [.agg cs] h) fun r h' => Mod [] h h' ∧ r = .str (mk (ren (printL p))) := by
 obtain ⟨vp, vc, tp, tc, gp, gc, svr, rfl, rv, rt, rg, es, rs⟩ := hc
 have hs : svr.length = p.svs.length := by rw [← es, List.length_map]
 obtain ⟨n, rfl⟩ : ∃ k, n = k + 61 := ⟨n - 61, by omega⟩
 have hl : ren (printL p) = renL [kNode, kOpen] ++ (renL [kMac, cdT p.card] ++ (renL [kAddress, pT p.addr] ++ (renL [kPeer, pT p.peer] ++ (renL [kShut] ++ (renL [kVrrp, kOpen] ++ (renL [kId, itoaS p.id] ++ (renL [kPrio, itoaS p.prio] ++ (renL [kEvery, itoaS p.every] ++ (renL [kPreempt, if p.pre = true then kYes else kNo] ++ ren (vipsL p.vips ++ (trsL p.trs ++ ([kShut] :: svsL p.svs)))))))))))) := by
  simp [ren, printL, headL]
 rw [hl] at hb ⊢
 simp only [List.length_append] at hb
 show Ret (ca (n + 60 + 1) i_config_Print [.agg (encC p (.slice vp p.vips.length vc) (.slice tp p.trs.length tc) (.slice gp p.svs.length gc))] h) _
 rw [config_Print_eq, newK_eq, newK_eq]
 have ma : Mod [] h (h.new (.cells (encC p (.slice vp p.vips.length vc) (.slice tp p.trs.length tc) (.slice gp p.svs.length gc)) false)) := (Mod.refl _ _).new _
 have ab : At (h.new (.cells (encC p (.slice vp p.vips.length vc) (.slice tp p.trs.length tc) (.slice gp p.svs.length gc)) false)) h.next (.cells (encC p (.slice vp p.vips.length vc) (.slice tp p.trs.length tc) (.slice gp p.svs.length gc)) false) := .new _ _
 have nb : (h.new (.cells (encC p (.slice vp p.vips.length vc) (.slice tp p.trs.length tc) (.slice gp p.svs.length gc)) false)).next = h.next + 1 := rfl
 generalize h.new (.cells (encC p (.slice vp p.vips.length vc) (.slice tp p.trs.length tc) (.slice gp p.svs.length gc)) false) = ha at ma ab nb ⊢
 have mw : Mod [] ha (ha.new (.tc 53 [.ptr none, .slice none 0 (.known 0)] true)) := (Mod.refl _ _).new _
 have x0 : Wr (ha.new (.tc 53 [.ptr none, .slice none 0 (.known 0)] true)) ha.next [] [ha.next] := .none (Nat.lt_succ_self _) (get_new_self _ _)
 have mm := ma.trans mw
 generalize ha.new (.tc 53 [.ptr none, .slice none 0 (.known 0)] true) = h0 at mw x0 mm ⊢
 have low : ∀ x, x < ha.next → x ∉ [ha.next] := fun x hx hm => by have := List.mem_singleton.1 hm; omega
 have rowK : ∀ {size len : Nat} {q : Pt} {c : Cap} {vs : List AV}, Row h size q len c vs → RowK [ha.next] h0 size q len c vs := fun r => ⟨r.mod0 mm, fun y hy => low y (by have := r.lt y hy; omega)⟩
 have i0 : PrIn [ha.next] h0 h.next p vp tp gp vc tc gc svr := ⟨by rw [hs]; exact ⟨ab.mod0 mw, low _ (by omega)⟩, ⟨⟨⟨mm.lt (by omega), (mm.get _ (by omega) (by simp)).trans ht0⟩, low _ (by omega)⟩, ⟨⟨mm.lt h1, (mm.get _ h1 (by simp)).trans ht1⟩, low _ (by omega)⟩⟩, rowK rv, rowK rt, rowK rg, fun y hy => rowK (rs y hy)⟩
 have hw : h.next ≤ ha.next := by omega
 generalize ha.next = w at x0 i0 hw low rowK ⊢
 have fin : ∀ {S' : List Nat} {h' : H}, Fr [w] h0 S' h' → Mod [] h h' := fun f => mm.trans' f.mod fun x hx hl => by have := List.mem_singleton.1 hx; omega
 generalize h.next = b at i0 ⊢
 refine line_k x0 [kNode, kOpen] (by simp) (by simp only [List.length_nil]; omega) (n + 58) fun v1 g1 S1 f1 x1 => ?_
 have I1 := i0.fr f1
 dsimp only
 rw [I1.box.at_.agg (o := 0) (n := 6) (vs := enCd p.card) rfl (by exact (by decide : 0 + 6 ≤ 15))]
 refine card_k ok.card (by omega) fun v2 g2 m2 => ?_
 have F2 := f1.trans (.mod0 m2)
 refine line_k (x1.mod0 m2) [kMac, cdT p.card] (by simp) (by simp only [List.length_append, List.length_nil]; omega) (n + 58) fun v3 g3 S3 f3 x3 => ?_
 have F3 := F2.trans f3
 have I3 := i0.fr F3
 dsimp only
 rw [I3.box.cellAt (v := .str p.addr) rfl, asStr_str]
 refine addr_k I3.tb p.addr (by omega) fun v4 g4 m4 => ?_
 have F4 := F3.trans (.mod0 m4)
 refine line_k (x3.mod0 m4) [kAddress, pT p.addr] (by simp) (by simp only [List.length_append, List.length_nil]; omega) (n + 58) fun v5 g5 S5 f5 x5 => ?_
 have F5 := F4.trans f5
 have I5 := i0.fr F5
 dsimp only
 rw [I5.box.cellAt (v := .str p.peer) rfl, asStr_str]
 refine addr_k I5.tb p.peer (by omega) fun v6 g6 m6 => ?_
 have F6 := F5.trans (.mod0 m6)
 refine line_k (x5.mod0 m6) [kPeer, pT p.peer] (by simp) (by simp only [List.length_append, List.length_nil]; omega) (n + 58) fun v7 g7 S7 f7 x7 => ?_
 have F7 := F6.trans f7
 refine line_k x7 [kShut] (by simp) (by simp only [List.length_append, List.length_nil]; omega) (n + 58) fun v8 g8 S8 f8 x8 => ?_
 have F8 := F7.trans f8
 refine line_k x8 [kVrrp, kOpen] (by simp) (by simp only [List.length_append, List.length_nil]; omega) (n + 58) fun v9 g9 S9 f9 x9 => ?_
 have F9 := F8.trans f9
 have I9 := i0.fr F9
 dsimp only
 rw [I9.box.cellAt (v := .int .i64 p.id) rfl, asInt_int]
 refine count_k x9 I9.tb.t0.at_.get kId ok.id.1 ok.id.2 (by simp only [List.length_append, List.length_nil]; omega) (n + 57) fun v10 g10 S10 f10 x10 => ?_
 have F10 := F9.trans f10
 have I10 := i0.fr F10
 dsimp only
 rw [I10.box.cellAt (v := .int .i64 p.prio) rfl, asInt_int]
 refine count_k x10 I10.tb.t0.at_.get kPrio ok.prio.1 ok.prio.2 (by simp only [List.length_append, List.length_nil]; omega) (n + 57) fun v11 g11 S11 f11 x11 => ?_
 have F11 := F10.trans f11
 have I11 := i0.fr F11
 dsimp only
 rw [I11.box.cellAt (v := .int .i64 p.every) rfl, asInt_int]
 refine count_k x11 I11.tb.t0.at_.get kEvery ok.every.1 ok.every.2 (by simp only [List.length_append, List.length_nil]; omega) (n + 57) fun v12 g12 S12 f12 x12 => ?_
 have F12 := F11.trans f12
 have I12 := i0.fr F12
 dsimp only
 rw [I12.box.cellAt (v := .bool p.pre) rfl, asBool_bool]
 have rest : ∀ y : Bs, y = (if p.pre = true then kYes else kNo) → Ret (config_Print_J0 (n + 60) (some (b, 0)) (some (w, 0)) y g12) fun r h' => Mod [] h h' ∧ r = .str (mk (renL [kNode, kOpen] ++ (renL [kMac, cdT p.card] ++ (renL [kAddress, pT p.addr] ++ (renL [kPeer, pT p.peer] ++ (renL [kShut] ++ (renL [kVrrp, kOpen] ++ (renL [kId, itoaS p.id] ++ (renL [kPrio, itoaS p.prio] ++ (renL [kEvery, itoaS p.every] ++ (renL [kPreempt, if p.pre = true then kYes else kNo] ++ ren (vipsL p.vips ++ (trsL p.trs ++ ([kShut] :: svsL p.svs)))))))))))))) := by
  rintro y rfl
  generalize (if p.pre = true then kYes else kNo) = y at hb ⊢
  rw [config_Print_J0_eq]
  refine line_k x12 [kPreempt, y] (by simp) (by simp only [List.length_append, List.length_nil]; omega) (n + 58) fun v13 g13 S13 f13 x13 => ?_
  have F13 := F12.trans f13
  have I13 := i0.fr F13
  dsimp only
  simp only [nnK_some', Nat.zero_add]
  rw [I13.box.cellAt (v := .slice vp p.vips.length vc) rfl, asSlice_slice]
  have := vipsP_loop (w := w) ok es (n := n + 60) (by omega) p.vips [] (n + 60) g13 _ S13 rfl (by have := ok.fv; omega) x13 (by unfold renL; simp) I13 (by simp only [List.length_append, List.length_nil]; omega)
  refine Ret.mono this ?_
  rintro r' g14 ⟨q1, S14, f14⟩
  exact ⟨fin (F13.trans f14), by simpa using q1⟩
 have r1 := rest kYes
 have r0 := rest kNo
 generalize hQ : (fun (r : AV) (h' : H) => Mod [] h h' ∧ r = .str (mk _)) = Q at r1 r0 ⊢
 have fin2 : ∀ c : Bool, p.pre = c → Ret (cond c (config_Print_J0 (n + 60) (some (b, 0)) (some (w, 0)) kYes g12) (config_Print_J0 (n + 60) (some (b, 0)) (some (w, 0)) kNo g12)) Q := by
  intro c hc
  cases c with
  | true => exact r1 (by rw [if_pos hc])
  | false => exact r0 (by rw [if_neg (by rw [hc]; decide)])
 exact fin2 _ rfl
end Go.Ev.Tryd

/- The reader looks at the words' texts alone: but for places, its answer hangs on nothing else. -/
namespace Go.Ev.Tryd
set_option maxRecDepth 10000
open Go.Proofs
def nP (p : Ps) : Ps := { p with bad := 0, spots := p.spots.map fun x => (x.1, 0, x.2.2) }
def nS (st : St) : St := { st with p := nP st.p }
abbrev e0 : Bs := ⟨#[]⟩
section
variable (s : Bs) (l : List Wd)
end
end Go.Ev.Tryd

/- What was read is within bounds. -/
namespace Go.Ev.Tryd
set_option maxRecDepth 10000
open Go.Proofs
structure BkG (x : Bk) : Prop where
 card : CdOk x.card
 port : 0 ≤ x.port ∧ x.port ≤ 65535
 weight : 0 ≤ x.weight ∧ x.weight ≤ 65535
 name : x.name.size ≤ 40
structure SvG (x : Sv) : Prop where
 port : 0 ≤ x.port ∧ x.port ≤ 65535
 rise : 0 ≤ x.rise ∧ x.rise ≤ 65535
 fall : 0 ≤ x.fall ∧ x.fall ≤ 65535
 probe : 0 ≤ x.probe ∧ x.probe ≤ 65535
 name : x.name.size ≤ 40
 bks : ∀ b ∈ x.bks, BkG b
def bkN (l : List Sv) : Nat := (l.map fun x => x.bks.length).sum
structure GG (d : Nat) (st : St) : Prop where
 card : CdOk st.p.card
 id : 0 ≤ st.p.id ∧ st.p.id ≤ 65535
 prio : 0 ≤ st.p.prio ∧ st.p.prio ≤ 65535
 every : 0 ≤ st.p.every ∧ st.p.every ≤ 65535
 trs : ∀ x ∈ st.p.trs, -254 ≤ x.2 ∧ x.2 ≤ 254 ∧ x.1.size ≤ 40
 svs : ∀ x ∈ st.p.svs, SvG x
 sv : SvG st.sv
 bk : BkG st.bk
 tot : st.p.svs.length + bkN st.p.svs + st.sv.bks.length + d ≤ st.p.k
 vips : st.p.vips.length + d ≤ st.p.k
 ntr : st.p.trs.length + d ≤ st.p.k
/-- words go by, places are noted -/
def Sh (e : Nat) (p p' : Ps) : Prop := ∃ k b c sp, p.k + e ≤ k ∧ p' = { p with k := k, bad := b, code := c, spots := sp }
theorem Sh.set {d e : Nat} {st : St} {p' : Ps} (g : GG d st) (h : Sh e st.p p') : GG (d + e) (setP st p') := by
 obtain ⟨k, b, c, sp, hk, rfl⟩ := h
 have h1 := g.tot; have h2 := g.vips; have h3 := g.ntr
 exact ⟨g.card, g.id, g.prio, g.every, g.trs, g.svs, g.sv, g.bk, by show st.p.svs.length + bkN st.p.svs + st.sv.bks.length + (d + e) ≤ k; omega, by show st.p.vips.length + (d + e) ≤ k; omega, by show st.p.trs.length + (d + e) ≤ k; omega⟩
theorem GG.less {d d' : Nat} {st : St} (g : GG d st) (h : d' ≤ d) : GG d' st := by
 have h1 := g.tot; have h2 := g.vips; have h3 := g.ntr
 exact ⟨g.card, g.id, g.prio, g.every, g.trs, g.svs, g.sv, g.bk, by omega, by omega, by omega⟩
theorem sh_fail (p : Ps) (a c : Int) : Sh 0 p (failP p a c) := by
 unfold failP; split
 ·exact ⟨p.k, a, c, p.spots, Nat.le_refl _, rfl⟩
 ·exact ⟨p.k, p.bad, p.code, p.spots, Nat.le_refl _, rfl⟩
theorem sh_must (s : Bs) (l : List Wd) (w : Bs) (p : Ps) : Sh 0 p (mustP s l w p).1 := by
 unfold mustP; split
 ·exact ⟨p.k + 1, p.bad, p.code, p.spots, Nat.le_succ _, rfl⟩
 ·exact sh_fail _ _ _
theorem sh_value (s : Bs) (l : List Wd) (p : Ps) : Sh 0 p (valueP s l p).1 ∧ ((valueP s l p).2.2.2 = true → Sh 1 p (valueP s l p).1) := by
 unfold valueP; split
 ·exact ⟨sh_fail _ _ _, fun h => by cases h⟩
 ·exact ⟨⟨p.k + 1, p.bad, p.code, p.spots, Nat.le_succ _, rfl⟩, fun _ => ⟨p.k + 1, p.bad, p.code, p.spots, Nat.le_refl _, rfl⟩⟩
/-- a reader keeps to the bounds -/
def Kp (f : St → St × Bool) : Prop := ∀ d st, GG d st → GG d (f st).1
section
variable (s : Bs) (l : List Wd)
theorem kp_end : Kp (endL s l) := fun _ st g => (sh_must s l nl st.p).set g
theorem kp_number {put : St → Int → St} {lo hi : Int} (hp : ∀ d st v, lo ≤ v → v ≤ hi → GG d st → GG d (put st v)) : Kp (numberS s l put lo hi) := fun d st g => by
 unfold numberS
 have hv := (sh_value s l st.p).1
 generalize valueP s l st.p = v at hv
 obtain ⟨p, w, a, is⟩ := v
 cases is with
 | false => exact hv.set g
 | true =>
  unfold numberV
  simp only
  split
  ·next h => exact kp_end s l d _ (hp d _ _ h.2.1 h.2.2 (hv.set g))
  ·exact (sh_fail p a 182).set (st := setP st p) (hv.set g)
theorem kp_choice {put : St → Int → St} {L : List (Bs × Int)} (hp : ∀ d st v, v ∈ L.map (·.2) → GG d st → GG d (put st v)) : Kp (choiceS s l put L) := fun d st g => by
 unfold choiceS
 have hv := (sh_value s l st.p).1
 generalize valueP s l st.p = v at hv
 obtain ⟨p, w, a, is⟩ := v
 cases is with
 | false => exact hv.set g
 | true =>
  unfold choiceV
  simp only
  cases hl : lk L w with
  | some v => exact kp_end s l d _ (hp d _ _ (List.mem_map_of_mem (lk_mem hl)) (hv.set g))
  | none => exact (sh_fail p a 182).set (st := setP st p) (hv.set g)
theorem kp_card {put : St → Cd → St} (hc : ∀ w, CdOk (cdOf (cardP w).1)) (hp : ∀ d st v, CdOk v → GG d st → GG d (put st v)) : Kp (cardS s l put) := fun d st g => by
 unfold cardS
 have hv := (sh_value s l st.p).1
 generalize valueP s l st.p = v at hv
 obtain ⟨p, w, a, is⟩ := v
 cases is with
 | false => exact hv.set g
 | true =>
  unfold cardV
  simp only
  split
  ·exact kp_end s l d _ (hp d _ _ (hc w) (hv.set g))
  ·exact (sh_fail p a 182).set (st := setP st p) (hv.set g)
theorem kp_address {svc : Bool} {tk : St → Bs → Int → St × Bool} (ht : ∀ d st a at', GG (d + 1) st → GG d (tk st a at').1) : Kp (addressS s l svc tk) := fun d st g => by
 unfold addressS
 have hv := sh_value s l st.p
 generalize valueP s l st.p = v at hv
 obtain ⟨p, w, a, is⟩ := v
 cases is with
 | false => exact hv.1.set g
 | true =>
  unfold addressV
  simp only
  split
  ·have g1 : GG (d + 1) (setP st { p with spots := p.spots ++ [((adrP w).1, a, svc)] }) := by
    obtain ⟨k, b, c, sp, hk, e⟩ := hv.2 rfl
    simp only at e
    refine Sh.set g ⟨k, b, c, p.spots ++ [((adrP w).1, a, svc)], hk, ?_⟩
    rw [e]
   have g2 := ht d _ (adrP w).1 a g1
   unfold thenEnd
   split
   ·exact kp_end s l d _ g2
   ·exact g2
  ·exact (sh_fail p a 182).set (st := setP st p) (hv.1.set g)
end
end Go.Ev.Tryd

/- What was read is within bounds: blocks. -/
namespace Go.Ev.Tryd
set_option maxRecDepth 10000
open Go.Proofs
section
variable (s : Bs) (l : List Wd)
theorem kp_body {L : List (Bs × Key)} (hL : ∀ x ∈ L, Kp x.2.sem) : ∀ (F : Nat) (M : List (Bs × Int)), Kp (bodyS s l L F M)
 | 0, _ => fun _ _ g => g
 | F + 1, M => fun d st g => by
  unfold bodyS closeS
  have gk : GG d (setP st { st.p with k := st.p.k + 1 }) := Sh.set (e := 0) g ⟨st.p.k + 1, st.p.bad, st.p.code, st.p.spots, Nat.le_succ _, rfl⟩
  split
  ·split
   ·exact (sh_fail _ _ _).set g
   ·exact kp_end s l d _ gk
  ·cases hl : lk L (peekP l st.p.k) with
   | none => exact (sh_fail _ _ _).set g
   | some key =>
    simp only
    have g1 := hL _ (lk_mem hl) d _ gk
    split
    ·exact (sh_fail _ _ _).set g
    ·split
     ·exact kp_body hL F _ d _ g1
     ·exact g1
theorem kp_block {L : List (Bs × Key)} (hL : ∀ x ∈ L, Kp x.2.sem) : Kp (blockS s l L) := fun d st g => by
 unfold blockS
 have h1 := (sh_must s l ⟨#[123]⟩ st.p).set g
 have h2 : GG d (setP st (mustP s l nl (mustP s l ⟨#[123]⟩ st.p).1).1) := (sh_must s l nl (mustP s l ⟨#[123]⟩ st.p).1).set (st := setP st (mustP s l ⟨#[123]⟩ st.p).1) h1
 split
 ·split
  ·exact kp_body s l hL _ _ d _ h2
  ·exact h2
 ·exact h1
theorem sh_named (xs : List Bs) (p : Ps) : Sh 0 p (namedP s l xs p).1 ∧ ((namedP s l xs p).2.2 = true → Sh 1 p (namedP s l xs p).1 ∧ (namedP s l xs p).2.1.size ≤ 40) := by
 unfold namedP
 have hv := sh_value s l p
 generalize valueP s l p = v at hv
 obtain ⟨p1, w, a, is⟩ := v
 have hf : ∀ a c, Sh 0 p (failP p1 a c) := fun a c => by
  obtain ⟨k, b, c0, sp, hk, e⟩ := hv.1
  simp only at e
  obtain ⟨k', b', c', sp', hk', e'⟩ := sh_fail p1 a c
  exact ⟨k', b', c', sp', by rw [e] at hk'; simp only at hk'; omega, by rw [e', e]⟩
 cases is with
 | false => exact ⟨hv.1, fun h => by cases h⟩
 | true =>
  unfold namedV
  simp only
  split
  ·exact ⟨hf _ _, fun h => by cases h⟩
  ·split
   ·exact ⟨hf _ _, fun h => by cases h⟩
   ·next h40 _ => exact ⟨hv.1, fun _ => ⟨hv.2 rfl, by show w.size ≤ 40; omega⟩⟩
theorem kp_vip (d : Nat) (st : St) (a : Bs) (at' : Int) (g : GG (d + 1) st) : GG d (vipS st a at').1 := by
 unfold vipS
 split
 ·exact ((sh_fail st.p at' 181).set (g.less (Nat.le_succ d)))
 ·have h2 := g.vips
  have g0 := g.less (Nat.le_succ d)
  exact ⟨g0.card, g0.id, g0.prio, g0.every, g0.trs, g0.svs, g0.sv, g0.bk, g0.tot, by show (st.p.vips ++ [a]).length + d ≤ st.p.k; simp; omega, g0.ntr⟩
theorem kp_track : Kp (trackS s l) := fun d st g => by
 unfold trackS
 have hn := sh_named s l (st.p.trs.map (·.1)) st.p
 generalize namedP s l (st.p.trs.map (·.1)) st.p = v at hn
 obtain ⟨p, nm, is⟩ := v
 cases is with
 | false => exact hn.1.set g
 | true =>
  obtain ⟨h1, h40⟩ := hn.2 rfl
  have g1 : GG (d + 1) (setP st p) := h1.set g
  show GG d (weightV s l nm st (valueP s l p)).1
  have hv := (sh_value s l p).1
  generalize valueP s l p = v at hv
  obtain ⟨p2, w, a, is⟩ := v
  have g2 : GG (d + 1) (setP st p2) := Sh.set (e := 0) (st := setP st p) g1 hv
  cases is with
  | false => exact g2.less (Nat.le_succ d)
  | true =>
   unfold weightV
   simp only
   split
   ·next h =>
    refine kp_end s l d _ ?_
    have h3 := g2.ntr
    have g0 := g2.less (Nat.le_succ d)
    refine ⟨g0.card, g0.id, g0.prio, g0.every, fun x hx => ?_, g0.svs, g0.sv, g0.bk, g0.tot, g0.vips, ?_⟩
    ·rcases List.mem_append.1 (show x ∈ p2.trs ++ [(nm, if (dashP w).2 = true then - (numP (bs (dashP w).1)).1 else (numP (bs (dashP w).1)).1)] from hx) with hx | hx
     ·exact g2.trs x hx
     ·obtain rfl := List.mem_singleton.1 hx
      simp only
      refine ⟨?_, ?_, h40⟩ <;> split <;> omega
    ·show (p2.trs ++ [(nm, if (dashP w).2 = true then - (numP (bs (dashP w).1)).1 else (numP (bs (dashP w).1)).1)]).length + d ≤ p2.k
     have h3' : p2.trs.length + (d + 1) ≤ p2.k := h3
     simp; omega
   ·exact ((sh_fail p2 a 182).set (st := setP st p2) g2).less (Nat.le_succ d)
theorem kp_backend (hc : ∀ w, CdOk (cdOf (cardP w).1)) : Kp (backendS s l) := fun d st g => by
 unfold backendS
 have hn := sh_named s l (st.sv.bks.map (·.name)) st.p
 generalize namedP s l (st.sv.bks.map (·.name)) st.p = v at hn
 obtain ⟨p, nm, is⟩ := v
 cases is with
 | false => exact hn.1.set g
 | true =>
  obtain ⟨h1, h40⟩ := hn.2 rfl
  have g1 : GG (d + 1) (setP st p) := h1.set g
  have g2 : GG (d + 1) { setP st p with bk := ⟨nm, ⟨#[]⟩, cd0, 0, 1⟩ } := ⟨g1.card, g1.id, g1.prio, g1.every, g1.trs, g1.svs, g1.sv, ⟨⟨by simp [cd0]⟩, by simp, by simp, h40⟩, g1.tot, g1.vips, g1.ntr⟩
  have g3 := kp_block s l (L := backendK s l) (fun x hx => by
   simp only [backendK, mkK, List.mem_cons, List.not_mem_nil, or_false] at hx
   rcases hx with rfl | rfl | rfl | rfl
   ·exact kp_address s l fun d st a _ g => by
     have g := g.less (Nat.le_succ d)
     exact ⟨g.card, g.id, g.prio, g.every, g.trs, g.svs, g.sv, ⟨g.bk.card, g.bk.port, g.bk.weight, g.bk.name⟩, g.tot, g.vips, g.ntr⟩
   ·exact kp_card s l (put := putBCard) hc fun d st v hv g => ⟨g.card, g.id, g.prio, g.every, g.trs, g.svs, g.sv, ⟨hv, g.bk.port, g.bk.weight, g.bk.name⟩, g.tot, g.vips, g.ntr⟩
   ·exact kp_number s l (put := putBPort) fun d st v h1 h2 g => ⟨g.card, g.id, g.prio, g.every, g.trs, g.svs, g.sv, ⟨g.bk.card, ⟨by show 0 ≤ v; omega, by show v ≤ 65535; omega⟩, g.bk.weight, g.bk.name⟩, g.tot, g.vips, g.ntr⟩
   ·exact kp_number s l (put := putBWeight) fun d st v h1 h2 g => ⟨g.card, g.id, g.prio, g.every, g.trs, g.svs, g.sv, ⟨g.bk.card, g.bk.port, ⟨by show 0 ≤ v; omega, by show v ≤ 65535; omega⟩, g.bk.name⟩, g.tot, g.vips, g.ntr⟩) (d + 1) _ g2
  show GG d (pushB (blockS s l (backendK s l) { setP st p with bk := ⟨nm, ⟨#[]⟩, cd0, 0, 1⟩ })).1
  generalize blockS s l (backendK s l) { setP st p with bk := ⟨nm, ⟨#[]⟩, cd0, 0, 1⟩ } = r at g3
  have h3 := g3.tot
  have g4 := g3.less (Nat.le_succ d)
  refine ⟨g4.card, g4.id, g4.prio, g4.every, g4.trs, g4.svs, ⟨g4.sv.port, g4.sv.rise, g4.sv.fall, g4.sv.probe, g4.sv.name, fun b hb => ?_⟩, g4.bk, ?_, g4.vips, g4.ntr⟩
  ·rcases List.mem_append.1 (show b ∈ r.1.sv.bks ++ [r.1.bk] from hb) with hb | hb
   ·exact g4.sv.bks b hb
   ·obtain rfl := List.mem_singleton.1 hb; exact g4.bk
  ·show r.1.p.svs.length + bkN r.1.p.svs + (r.1.sv.bks ++ [r.1.bk]).length + d ≤ r.1.p.k
   simp; omega
end
end Go.Ev.Tryd

/- What was read is within bounds: the whole. -/
namespace Go.Ev.Tryd
set_option maxRecDepth 10000
open Go.Proofs
theorem sv0_g : SvG sv0 := ⟨⟨by decide, by decide⟩, ⟨by decide, by decide⟩, ⟨by decide, by decide⟩, ⟨by decide, by decide⟩, by decide, fun b hb => by cases hb⟩
section
variable (s : Bs) (l : List Wd) (hc : ∀ w, CdOk (cdOf (cardP w).1))
include hc
theorem kp_node : Kp (nodeS s l) := kp_block s l fun x hx => by
 simp only [nodeK, mkK, List.mem_cons, List.not_mem_nil, or_false] at hx
 rcases hx with rfl | rfl | rfl
 ·exact kp_card s l (put := putCard) hc fun d st v hv g => ⟨hv, g.id, g.prio, g.every, g.trs, g.svs, g.sv, g.bk, g.tot, g.vips, g.ntr⟩
 ·exact kp_address s l fun d st a _ g => by
   have g := g.less (Nat.le_succ d)
   exact ⟨g.card, g.id, g.prio, g.every, g.trs, g.svs, g.sv, g.bk, g.tot, g.vips, g.ntr⟩
 ·exact kp_address s l fun d st a _ g => by
   have g := g.less (Nat.le_succ d)
   exact ⟨g.card, g.id, g.prio, g.every, g.trs, g.svs, g.sv, g.bk, g.tot, g.vips, g.ntr⟩
omit hc in
theorem kp_vrrp : Kp (vrrpS s l) := fun d st g => by
 have := kp_block s l (L := vrrpK s l) (fun x hx => by
  simp only [vrrpK, mkK, List.mem_cons, List.not_mem_nil, or_false] at hx
  rcases hx with rfl | rfl | rfl | rfl | rfl | rfl
  ·exact kp_number s l (put := putId) fun d st v h1 h2 g => ⟨g.card, ⟨by show 0 ≤ v; omega, by show v ≤ 65535; omega⟩, g.prio, g.every, g.trs, g.svs, g.sv, g.bk, g.tot, g.vips, g.ntr⟩
  ·exact kp_number s l (put := putPrio) fun d st v h1 h2 g => ⟨g.card, g.id, ⟨by show 0 ≤ v; omega, by show v ≤ 65535; omega⟩, g.every, g.trs, g.svs, g.sv, g.bk, g.tot, g.vips, g.ntr⟩
  ·exact kp_number s l (put := putEvery) fun d st v h1 h2 g => ⟨g.card, g.id, g.prio, ⟨by show 0 ≤ v; omega, by show v ≤ 65535; omega⟩, g.trs, g.svs, g.sv, g.bk, g.tot, g.vips, g.ntr⟩
  ·exact kp_choice s l (put := putYes) fun d st v _ g => ⟨g.card, g.id, g.prio, g.every, g.trs, g.svs, g.sv, g.bk, g.tot, g.vips, g.ntr⟩
  ·exact kp_address s l kp_vip
  ·exact kp_track s l) d { st with yes := 1 } ⟨g.card, g.id, g.prio, g.every, g.trs, g.svs, g.sv, g.bk, g.tot, g.vips, g.ntr⟩
 unfold vrrpS preS
 generalize blockS s l (vrrpK s l) { st with yes := 1 } = r at this
 exact ⟨this.card, this.id, this.prio, this.every, this.trs, this.svs, this.sv, this.bk, this.tot, this.vips, this.ntr⟩
omit hc in
theorem kp_sv {put : Sv → Int → Sv} {lo hi : Int} (hp : ∀ x v, lo ≤ v → v ≤ hi → SvG x → SvG (put x v)) (hb : ∀ x v, (put x v).bks = x.bks) (d : Nat) (st : St) (v : Int) (h1 : lo ≤ v) (h2 : v ≤ hi) (g : GG d st) : GG d { st with sv := put st.sv v } :=
 ⟨g.card, g.id, g.prio, g.every, g.trs, g.svs, hp _ _ h1 h2 g.sv, g.bk, by show st.p.svs.length + bkN st.p.svs + (put st.sv v).bks.length + d ≤ st.p.k; rw [hb]; exact g.tot, g.vips, g.ntr⟩
omit hc in
theorem bkN_app (a : List Sv) (x : Sv) : bkN (a ++ [x]) = bkN a + x.bks.length := by simp [bkN]
theorem kp_service : Kp (serviceS s l) := fun d st g => by
 unfold serviceS
 have hn := sh_named s l (st.p.svs.map (·.name)) st.p
 generalize namedP s l (st.p.svs.map (·.name)) st.p = v at hn
 obtain ⟨p, nm, is⟩ := v
 cases is with
 | false => exact hn.1.set g
 | true =>
  obtain ⟨h1, h40⟩ := hn.2 rfl
  have g1 : GG (d + 1) (setP st p) := h1.set g
  have g2 : GG (d + 1) { setP st p with sv := newSv nm } := ⟨g1.card, g1.id, g1.prio, g1.every, g1.trs, g1.svs, ⟨by simp [newSv], by simp [newSv], by simp [newSv], by simp [newSv], h40, by simp [newSv]⟩, g1.bk, by
   have h3 : p.svs.length + bkN p.svs + st.sv.bks.length + (d + 1) ≤ p.k := g1.tot
   show p.svs.length + bkN p.svs + 0 + (d + 1) ≤ p.k
   omega, g1.vips, g1.ntr⟩
  have g3 := kp_block s l (L := serviceK s l) (fun x hx => by
   simp only [serviceK, mkK, List.mem_cons, List.not_mem_nil, or_false] at hx
   rcases hx with rfl | rfl | rfl | rfl | rfl | rfl | rfl | rfl | rfl
   ·exact kp_choice s l (put := putSProto) fun d st v _ g => ⟨g.card, g.id, g.prio, g.every, g.trs, g.svs, ⟨g.sv.port, g.sv.rise, g.sv.fall, g.sv.probe, g.sv.name, g.sv.bks⟩, g.bk, g.tot, g.vips, g.ntr⟩
   ·exact kp_address s l fun d st a _ g => by
     have g := g.less (Nat.le_succ d)
     exact ⟨g.card, g.id, g.prio, g.every, g.trs, g.svs, ⟨g.sv.port, g.sv.rise, g.sv.fall, g.sv.probe, g.sv.name, g.sv.bks⟩, g.bk, g.tot, g.vips, g.ntr⟩
   ·exact kp_number s l (put := putSPort) (kp_sv (put := fun x v => { x with port := v }) (fun x v h1 h2 g => ⟨⟨by show 0 ≤ v; omega, by show v ≤ 65535; omega⟩, g.rise, g.fall, g.probe, g.name, g.bks⟩) fun _ _ => rfl)
   ·exact kp_choice s l (put := putSMode) fun d st v _ g => ⟨g.card, g.id, g.prio, g.every, g.trs, g.svs, ⟨g.sv.port, g.sv.rise, g.sv.fall, g.sv.probe, g.sv.name, g.sv.bks⟩, g.bk, g.tot, g.vips, g.ntr⟩
   ·exact kp_choice s l (put := putSSched) fun d st v _ g => ⟨g.card, g.id, g.prio, g.every, g.trs, g.svs, ⟨g.sv.port, g.sv.rise, g.sv.fall, g.sv.probe, g.sv.name, g.sv.bks⟩, g.bk, g.tot, g.vips, g.ntr⟩
   ·exact kp_number s l (put := putSRise) (kp_sv (put := fun x v => { x with rise := v }) (fun x v h1 h2 g => ⟨g.port, ⟨by show 0 ≤ v; omega, by show v ≤ 65535; omega⟩, g.fall, g.probe, g.name, g.bks⟩) fun _ _ => rfl)
   ·exact kp_number s l (put := putSFall) (kp_sv (put := fun x v => { x with fall := v }) (fun x v h1 h2 g => ⟨g.port, g.rise, ⟨by show 0 ≤ v; omega, by show v ≤ 65535; omega⟩, g.probe, g.name, g.bks⟩) fun _ _ => rfl)
   ·exact kp_number s l (put := putSProbe) (kp_sv (put := fun x v => { x with probe := v }) (fun x v h1 h2 g => ⟨g.port, g.rise, g.fall, ⟨by show 0 ≤ v; omega, by show v ≤ 65535; omega⟩, g.name, g.bks⟩) fun _ _ => rfl)
   ·exact kp_backend s l hc) (d + 1) _ g2
  show GG d (pushS (blockS s l (serviceK s l) { setP st p with sv := newSv nm })).1
  generalize blockS s l (serviceK s l) { setP st p with sv := newSv nm } = r at g3
  have h3 := g3.tot
  have g4 := g3.less (Nat.le_succ d)
  refine ⟨g4.card, g4.id, g4.prio, g4.every, g4.trs, fun x hx => ?_, sv0_g, g4.bk, ?_, g4.vips, g4.ntr⟩
  ·rcases List.mem_append.1 (show x ∈ r.1.p.svs ++ [r.1.sv] from hx) with hx | hx
   ·exact g4.svs x hx
   ·obtain rfl := List.mem_singleton.1 hx; exact g4.sv
  ·show (r.1.p.svs ++ [r.1.sv]).length + bkN (r.1.p.svs ++ [r.1.sv]) + 0 + d ≤ r.1.p.k
   rw [bkN_app]
   simp; omega
omit hc in
theorem kp_allB {L : List (Bs × Key)} (hL : ∀ x ∈ L, Kp x.2.sem) : ∀ (F : Nat) (M : List (Bs × Int)), Kp (allB s l L F M)
 | 0, _ => fun _ _ g => g
 | F + 1, M => fun d st g => by
  unfold allB
  have gk : GG d (setP st { st.p with k := st.p.k + 1 }) := Sh.set (e := 0) g ⟨st.p.k + 1, st.p.bad, st.p.code, st.p.spots, Nat.le_succ _, rfl⟩
  split
  ·cases hl : lk L (peekP l st.p.k) with
   | none => exact (sh_fail _ _ _).set g
   | some key =>
    simp only
    have g1 := hL _ (lk_mem hl) d _ gk
    split
    ·exact (sh_fail _ _ _).set g
    ·split
     ·exact kp_allB hL F _ d _ g1
     ·exact g1
  ·unfold endA spotsS vipsS spotS
   split
   ·exact (sh_fail _ _ _).set g
   ·split
    ·exact (sh_fail _ _ _).set g
    ·split
     ·exact (sh_fail _ _ _).set g
     ·exact g
theorem kp_all : Kp (allS s l) := kp_allB s l (fun x hx => by
 simp only [allK, mkK, List.mem_cons, List.not_mem_nil, or_false] at hx
 rcases hx with rfl | rfl | rfl
 ·exact kp_node s l hc
 ·exact kp_vrrp s l
 ·exact kp_service s l hc) _ _
end
end Go.Ev.Tryd

/- What was read is within bounds: cards; the configuration can be written. -/
namespace Go.Ev.Tryd
set_option maxRecDepth 10000
open Go.Proofs
theorem wrap_u8_in (x : Int) : 0 ≤ IntKind.u8.wrap x ∧ IntKind.u8.wrap x < 256 := by
 have : IntKind.u8.wrap x = x % 256 := by
  simp [IntKind.wrap, IntKind.signed, IntKind.bits]
 omega
theorem gout_in {rd : ByteArray → Int × Bool} {w : Nat} : ∀ {l : List ByteArray} {x : List Int}, gout rd w l = some x → ∀ y ∈ x, 0 ≤ y ∧ y < 256
 | [], x, h => by
  obtain rfl : [] = x := Option.some.inj h
  intro y hy; cases hy
 | p :: ps, x, h => by
  unfold gout at h
  split at h
  ·obtain ⟨z, hz, rfl⟩ := Option.map_eq_some_iff.1 h
   intro y hy
   rcases List.mem_append.1 hy with hy | hy
   ·unfold byt at hy
    split at hy
    ·obtain rfl := List.mem_singleton.1 hy; exact wrap_u8_in _
    ·simp only [List.mem_cons, List.not_mem_nil, or_false] at hy
     rcases hy with rfl | rfl <;> exact wrap_u8_in _
   ·exact gout_in hz y hy
  ·cases h
theorem cardP_in (w : Bs) : ∀ y ∈ (cardP w).1, 0 ≤ y ∧ y < 256 := by
 unfold cardP
 split
 ·next x hx =>
  split
  ·exact gout_in hx
  ·intro y hy; simp at hy; omega
 ·intro y hy; simp at hy; omega
theorem cdOf_ok : ∀ {l : List Int}, l.length = 6 → (∀ y ∈ l, 0 ≤ y ∧ y < 256) → CdOk (cdOf l)
 | [a, b, c, d, e, f], _, h => ⟨h⟩
theorem card_ok (w : Bs) : CdOk (cdOf (cardP w).1) := cdOf_ok (cardP_len w) (cardP_in w)
theorem gg0 : GG 0 st0 := ⟨⟨by simp [st0, ps0, cd0]⟩, ⟨by decide, by decide⟩, ⟨by decide, by decide⟩, ⟨by decide, by decide⟩, fun x hx => (by cases hx), fun x hx => (by cases hx), sv0_g, ⟨⟨by simp [st0, bk0, cd0]⟩, ⟨by decide, by decide⟩, ⟨by decide, by decide⟩, by decide⟩, Nat.zero_le _, Nat.zero_le _, Nat.zero_le _⟩
theorem read_ok (s : Bs) (l : List Wd) : GG 0 (allS s l st0).1 := kp_all s l card_ok 0 st0 gg0
theorem i64_of {v : Int} (h : 0 ≤ v ∧ v ≤ 65535) : i64ok v := ⟨by omega, by omega⟩
end Go.Ev.Tryd

/- What was read can be written: PsOk. -/
namespace Go.Ev.Tryd
set_option maxRecDepth 10000
open Go.Proofs
theorem len_le_bkN : ∀ {l : List Sv} {x : Sv}, x ∈ l → x.bks.length ≤ bkN l
 | y :: l, x, h => by
  have e : bkN (y :: l) = y.bks.length + bkN l := by simp [bkN]
  rw [e]
  rcases List.mem_cons.1 h with rfl | h
  ·omega
  ·have := len_le_bkN h; omega
theorem psOk_of {st : St} (g : GG 0 st) (hk : st.p.k ≤ 300000) : PsOk st.p := by
 have h1 := g.tot; have h2 := g.vips; have h3 := g.ntr
 refine ⟨g.card, i64_of g.id, i64_of g.prio, i64_of g.every, fun x hx => ?_, fun x hx => ?_, by omega, by omega, by omega⟩
 ·have := g.trs x hx
  exact ⟨by omega, by omega⟩
 ·have s := g.svs x hx
  have hl := len_le_bkN hx
  refine ⟨i64_of s.port, i64_of s.rise, i64_of s.fall, i64_of s.probe, fun b hb => ?_, by omega⟩
  have k := s.bks b hb
  exact ⟨k.card, i64_of k.port, i64_of k.weight⟩
end Go.Ev.Tryd

/- Blanks, empty lines and notes between lines are not seen. -/
namespace Go.Ev.Tryd
set_option maxRecDepth 10000
open Go.Proofs
theorem cut_succ {s : Bs} {x k : Int} (h0 : 0 ≤ x) (h1 : x ≤ k) {c : UInt8} (hc : (bs s)[k.toNat]? = some c) : cut s x (k + 1) = mk (bs (cut s x k) ++ [c]) := by
 unfold cut
 rw [bs_mk]
 have e1 : (k + 1).toNat - x.toNat = (k.toNat - x.toNat) + 1 := by omega
 rw [e1, List.take_add_one, List.getElem?_drop, show x.toNat + (k.toNat - x.toNat) = k.toNat by omega, hc]
 rfl
theorem endP_none {s : Bs} {st : Rd} (h1 : st.from' < 0) (k : Int) : endP s st k = (st, true) := by unfold endP; rw [if_pos h1]
end Go.Ev.Tryd

/- What was read is written in few bytes. -/
namespace Go.Ev.Tryd
set_option maxRecDepth 10000
open Go.Proofs
theorem itoa_size {v : Int} (h : i64ok v) : (itoaS v).size ≤ 2000 := by
 have := Lib.itoa_length_le v h.1 h.2
 have e : (itoaS v).size = (Lib.itoa v).length := by simp [itoaS, ByteArray.size]
 omega
theorem cdT_size {x : Cd} (h : CdOk x) : (cdT x).size ≤ 2000 := Nat.le_of_lt (mac_size (m := [x.a, x.b, x.c, x.d, x.e, x.f]) rfl h.1)
theorem pT_size (a : Bs) : (pT a).size ≤ 2000 := Nat.le_of_lt (adr_size a)
/-- lines of few short words -/
def Lw (ls : List (List Bs)) : Prop := ∀ ws ∈ ls, ws.length ≤ 3 ∧ ∀ w ∈ ws, w.size ≤ 2000
theorem Lw.app {a b : List (List Bs)} (h1 : Lw a) (h2 : Lw b) : Lw (a ++ b) := fun ws hw => (List.mem_append.1 hw).elim (h1 ws) (h2 ws)
theorem Lw.cons {a : List Bs} {b : List (List Bs)} (h1 : a.length ≤ 3 ∧ ∀ w ∈ a, w.size ≤ 2000) (h2 : Lw b) : Lw (a :: b) := fun ws hw => by
 rcases List.mem_cons.1 hw with rfl | hw
 ·exact h1
 ·exact h2 ws hw
theorem Lw.nil : Lw [] := fun ws hw => by cases hw
theorem renL_le {ws : List Bs} (h : ws.length ≤ 3 ∧ ∀ w ∈ ws, w.size ≤ 2000) : (renL ws).length ≤ 6010 := by
 have h1 : (Lib.join (ws.map fun x : ByteArray => x.data.toList) [32]).length ≤ (ws.map fun x : ByteArray => x.data.toList).flatten.length + ws.length := by
  have := join_le 32 (ws.map fun x : ByteArray => x.data.toList)
  rwa [List.length_map] at this
 have h2 : (ws.map fun x : ByteArray => x.data.toList).flatten.length ≤ 2000 * ws.length := flat_le h.2
 have h3 : (renL ws).length = (Lib.join (ws.map fun x : ByteArray => x.data.toList) [32]).length + 1 := by
  show (bs (joinS ws sp) ++ [10]).length = _
  rw [List.length_append, bs_len]
  rfl
 have := h.1
 have : 2000 * ws.length ≤ 2000 * 3 := Nat.mul_le_mul_left _ h.1
 omega
theorem ren_le : ∀ {ls : List (List Bs)}, Lw ls → (ren ls).length ≤ 6010 * ls.length
 | [], _ => by simp [ren]
 | a :: ls, h => by
  have h1 := renL_le (h a (by simp))
  have h2 := ren_le (ls := ls) fun ws hw => h ws (by simp [hw])
  rw [ren_cons, List.length_append, List.length_cons]
  omega
theorem lw1 {a : Bs} (h : a.size ≤ 2000) : ([a] : List Bs).length ≤ 3 ∧ ∀ w ∈ [a], w.size ≤ 2000 := ⟨by simp, by simpa using h⟩
theorem lw2 {a b : Bs} (h1 : a.size ≤ 2000) (h2 : b.size ≤ 2000) : ([a, b] : List Bs).length ≤ 3 ∧ ∀ w ∈ [a, b], w.size ≤ 2000 := ⟨by simp, by simp [h1, h2]⟩
theorem lw3 {a b c : Bs} (h1 : a.size ≤ 2000) (h2 : b.size ≤ 2000) (h3 : c.size ≤ 2000) : ([a, b, c] : List Bs).length ≤ 3 ∧ ∀ w ∈ [a, b, c], w.size ≤ 2000 := ⟨by simp, by simp [h1, h2, h3]⟩
theorem bkL_lw {x : Bk} (g : BkG x) : Lw (bkL x) ∧ (bkL x).length ≤ 6 := by
 unfold bkL
 refine ⟨((Lw.cons (lw3 (by decide) (by have := g.name; omega) (by decide)) (.cons (lw2 (by decide) (pT_size _)) (.cons (lw2 (by decide) (cdT_size g.card)) .nil))).app ?_).app (.cons (lw2 (by decide) (itoa_size (i64_of g.weight))) (.cons (lw1 (by decide)) .nil)), ?_⟩
 ·split
  ·exact .nil
  ·exact .cons (lw2 (by decide) (itoa_size (i64_of g.port))) .nil
 ·split <;> simp
theorem bks_lw : ∀ {l : List Bk}, (∀ x ∈ l, BkG x) → Lw (l.flatMap bkL) ∧ (l.flatMap bkL).length ≤ 6 * l.length
 | [], _ => ⟨.nil, by simp⟩
 | x :: l, h => by
  obtain ⟨h1, h2⟩ := bkL_lw (h x (by simp))
  obtain ⟨h3, h4⟩ := bks_lw (l := l) fun y hy => h y (by simp [hy])
  exact ⟨h1.app h3, by simp only [List.flatMap_cons, List.length_append, List.length_cons]; omega⟩
theorem pickL_size {l : List Bs} (h : ∀ w ∈ l, w.size ≤ 2000) (v : Int) : (pickL l v).size ≤ 2000 := by
 unfold pickL
 generalize (if v < 1 ∨ (l.length : Int) < v then l.length - 1 else (v - 1).toNat) = i
 rw [List.getD_eq_getElem?_getD]
 cases hi : l[i]? with
 | none => exact Nat.zero_le _
 | some w => exact h w (List.mem_of_getElem? hi)
theorem svL_lw {x : Sv} (g : SvG x) : Lw (svL x) ∧ (svL x).length ≤ 10 + 6 * x.bks.length := by
 obtain ⟨h1, h2⟩ := bks_lw g.bks
 unfold svL svH
 refine ⟨.cons (lw3 (by decide) (by have := g.name; omega) (by decide)) (.cons (lw2 (by decide) (by split <;> decide)) (.app ?_ (h1.app (.cons (lw1 (by decide)) .nil)))), ?_⟩
 ·exact .cons (lw2 (by decide) (pT_size _)) (.cons (lw2 (by decide) (itoa_size (i64_of g.port))) (.cons (lw2 (by decide) (pickL_size (by decide) _)) (.cons (lw2 (by decide) (pickL_size (by decide) _))
   (.cons (lw2 (by decide) (itoa_size (i64_of g.rise))) (.cons (lw2 (by decide) (itoa_size (i64_of g.fall))) (.cons (lw2 (by decide) (itoa_size (i64_of g.probe))) .nil))))))
 ·simp only [List.length_cons, List.length_append, List.length_nil]; omega
theorem svsL_lw : ∀ {l : List Sv}, (∀ x ∈ l, SvG x) → Lw (svsL l) ∧ (svsL l).length ≤ 10 * l.length + 6 * bkN l
 | [], _ => ⟨.nil, by simp [svsL]⟩
 | x :: l, h => by
  obtain ⟨h1, h2⟩ := svL_lw (h x (by simp))
  obtain ⟨h3, h4⟩ := svsL_lw (l := l) fun y hy => h y (by simp [hy])
  have e : bkN (x :: l) = x.bks.length + bkN l := by simp [bkN]
  have e2 : svsL (x :: l) = svL x ++ svsL l := rfl
  rw [e, e2]
  exact ⟨h1.app h3, by simp only [List.length_append, List.length_cons]; omega⟩
theorem printL_lw {st : St} (g : GG 0 st) : Lw (printL st.p) := by
 unfold printL headL vipsL trsL
 refine .app ?_ (.cons (lw2 (by decide) (by split <;> decide)) (.app ?_ (.app ?_ (.cons (lw1 (by decide)) (svsL_lw g.svs).1))))
 ·exact .cons (lw2 (by decide) (by decide)) (.cons (lw2 (by decide) (cdT_size g.card)) (.cons (lw2 (by decide) (pT_size _)) (.cons (lw2 (by decide) (pT_size _)) (.cons (lw1 (by decide)) (.cons (lw2 (by decide) (by decide))
   (.cons (lw2 (by decide) (itoa_size (i64_of g.id))) (.cons (lw2 (by decide) (itoa_size (i64_of g.prio))) (.cons (lw2 (by decide) (itoa_size (i64_of g.every))) .nil))))))))
 ·intro ws hw
  obtain ⟨a, _, rfl⟩ := List.mem_map.1 hw
  exact lw2 (by decide) (pT_size _)
 ·intro ws hw
  obtain ⟨x, hx, rfl⟩ := List.mem_map.1 hw
  have := g.trs x hx
  exact lw3 (by decide) (by omega) (itoa_size ⟨by omega, by omega⟩)
theorem print_len {st : St} (g : GG 0 st) (hk : st.p.k ≤ 300000) : (ren (printL st.p)).length ≤ 1000000000000 := by
 have h1 := ren_le (printL_lw g)
 have h2 : (printL st.p).length ≤ 11 + st.p.vips.length + st.p.trs.length + (10 * st.p.svs.length + 6 * bkN st.p.svs) := by
  have := (svsL_lw g.svs).2
  simp only [printL, headL, vipsL, trsL, List.length_append, List.length_cons, List.length_map, List.length_nil]
  omega
 have := g.tot; have := g.vips; have := g.ntr
 omega
end Go.Ev.Tryd

/- The laws of chapter 18: what is read, as cells; what is written; alive. -/
namespace Go.Ev.Tryd
set_option maxRecDepth 10000
open Go.Proofs
theorem parse_inl {s : Bs} {p : Ps} (h : parseP s = .inl p) : ∃ l, allP s = .inl l ∧ (allS s l st0).2 = true ∧ (allS s l st0).1.p = p := by
 unfold parseP at h
 split at h
 ·cases h
 ·next l hl =>
  split at h
  ·next h2 => exact ⟨l, hl, h2, Sum.inl.inj h⟩
  ·cases h
def cfgP : Ps ⊕ (Int × Int) → Ps
 | .inl p => p
 | .inr _ => ps0
def atP : Ps ⊕ (Int × Int) → Int
 | .inl _ => 0
 | .inr q => q.1
def codeP : Ps ⊕ (Int × Int) → Int
 | .inl _ => 0
 | .inr q => q.2
theorem CfgAt.mod0 {h h' : H} {p : Ps} {cs : List AV} (c : CfgAt h p cs) (m : Mod [] h h') : CfgAt h' p cs := by
 obtain ⟨vp, vc, tp, tc, gp, gc, svr, e, rv, rt, rg, es, rs⟩ := c
 exact ⟨vp, vc, tp, tc, gp, gc, svr, e, rv.mod0 m, rt.mod0 m, rg.mod0 m, es, fun x hx => (rs x hx).mod0 m⟩
theorem CfgAt.zero (h : H) : CfgAt h ps0 (encC ps0 (.slice none 0 (.known 0)) (.slice none 0 (.known 0)) (.slice none 0 (.known 0))) :=
 ⟨none, .known 0, none, .known 0, none, .known 0, [], rfl, .nil, .nil, .nil, rfl, fun x hx => by cases hx⟩
theorem CfgAt.len {h : H} {p : Ps} {cs : List AV} (c : CfgAt h p cs) : cs.length = 15 ∧ cs.all isCell = true := by
 obtain ⟨vp, vc, tp, tc, gp, gc, svr, rfl, _⟩ := c
 exact ⟨rfl, rfl⟩
theorem ParseOk.cells {h : H} {r : AV} {x : Ps ⊕ (Int × Int)} (ok : ParseOk h r x) : ∃ cs, r = .tup [.agg cs, .int .i64 (atP x), .int .i64 (codeP x)] ∧ CfgAt h (cfgP x) cs ∧ (cfgP x).k ≤ 300000 := by
 cases x with
 | inl p => exact ok
 | inr q => obtain ⟨k, c⟩ := q; exact ⟨_, ok, .zero h, by show 0 ≤ _; omega⟩
/-- a configuration that was read -/
theorem cfg_st (s : Bs) : ∃ st, GG 0 st ∧ st.p = cfgP (parseP s) := by
 cases hp : parseP s with
 | inl p =>
  obtain ⟨l, _, _, h⟩ := parse_inl hp
  exact ⟨_, read_ok s l, h⟩
 | inr q => exact ⟨_, gg0, rfl⟩
structure Tb (h : H) : Prop where
 lt : 1 < h.next
 t0 : h.get 0 = some (.tab pow10AV)
 t1 : h.get 1 = some (.cells tz64 true)
theorem Tb.mod0 {h h' : H} (t : Tb h) (m : Mod [] h h') : Tb h' := ⟨m.lt t.lt, (m.get _ (by have := t.lt; omega) (by simp)).trans t.t0, (m.get _ t.lt (by simp)).trans t.t1⟩
theorem parse_kW {s : Bs} (hs : s.size ≤ 2000000) (hsw : ∀ l, allP s = .inl l → Words l ∧ l.length ≤ 300000) {n : Nat} (hn : 1000000 + s.size ≤ n) {h : H} {K : List AV → Int → Int → H → Option Unit}
  (hk : ∀ cs h', Mod [] h h' → CfgAt h' (cfgP (parseP s)) cs → (cfgP (parseP s)).k ≤ 300000 → K cs (atP (parseP s)) (codeP (parseP s)) h' = some ()) :
  cr n i_config_Parse [.str s] h (fun v h' => asTup v fun l => lA l fun x l => lI l fun y l => lI l fun z l => l0 l (K x y z h')) = some () := by
 refine Parse_retW hs hsw hn h _ fun r h' hq => ?_
 obtain ⟨m, ok⟩ := hq
 obtain ⟨cs, rfl, c, k⟩ := ok.cells
 simp only [asTup_tup, lA_of, lI_of, l0_nil]
 exact hk cs h' m c k
theorem parse_k {s : Bs} (hs : s.size ≤ 70000) {n : Nat} (hn : 1070000 ≤ n) {h : H} {K : List AV → Int → Int → H → Option Unit}
  (hk : ∀ cs h', Mod [] h h' → CfgAt h' (cfgP (parseP s)) cs → (cfgP (parseP s)).k ≤ 300000 → K cs (atP (parseP s)) (codeP (parseP s)) h' = some ()) :
  cr n i_config_Parse [.str s] h (fun v h' => asTup v fun l => lA l fun x l => lI l fun y l => lI l fun z l => l0 l (K x y z h')) = some () :=
 parse_kW (by omega) (fun _ h => allP_words hs h) (by omega) hk
/-- into a new box -/
theorem box_k {zs cs : List AV} (hz : zs.length = 15) {h : H} {p : Ps} (c : CfgAt h p cs) {F : Nat → H → Option Unit} (hF : ∀ i h', h.next ≤ i → Mod [] h h' → At h' i (.cells cs false) → CfgAt h' p cs → F i h' = some ()) :
  newK (.cells zs false) h (fun i h1 => wrK h1 i 0 15 cs fun h2 => F i h2) = some () := by
 rw [newK_eq]
 have a : At (h.new (.cells zs false)) h.next (.cells zs false) := .new _ _
 rw [wr_whole (n := 15) a hz c.len.1 c.len.2]
 have m : Mod [] h ((h.new (.cells zs false)).set h.next (.cells cs false)) := ((Mod.refl _ _).new _).set (.inl (Nat.le_refl _)) _
 exact hF _ _ (Nat.le_refl _) m (At.setSelf a _) (c.mod0 m)
theorem print_k {h : H} {p : Ps} {cs : List AV} {i : Nat} (a : At h i (.cells cs false)) (c : CfgAt h p cs) (ok : PsOk p) (hb : (ren (printL p)).length ≤ 1000000000000) (tb : Tb h) {n : Nat} (hn : 1000300 ≤ n) {F : Bs → AV × H → Option Unit}
  (hF : ∀ v h', Mod [] h h' → F (mk (ren (printL p))) (v, h') = some ()) : (aggK h i 0 15 fun l => (ca n i_config_Print [.agg l] h).bind fun q => asStr q.1 fun x => F x q) = some () := by
 rw [a.all (n := 15) c.len.1]
 obtain ⟨r, h', e, m, rfl⟩ := Print_ret ok tb.lt tb.t0 tb.t1 c hb hn
 rw [e, Option.bind_some]
 simp only [asStr_str]
 exact hF _ h' m
def aliveB : Ps ⊕ (Int × Int) → Bool
 | .inl p => decide (p.id = 7) && p.pre && decide (p.vips.length = 1)
 | .inr _ => false
theorem alive1 : aliveB (parseP s_453d3d97) = true := by decide +kernel
def badB : Ps ⊕ (Int × Int) → Bool
 | .inl _ => false
 | .inr q => decide (q = (4, 180))
theorem alive2 : badB (parseP ⟨#[110, 111, 100, 101]⟩) = true := by decide +kernel
theorem alive_k {n : Nat} (hn : 1070001 ≤ n) {h : H} {K : Bool → H → Option Unit} (hk : ∀ h', Mod [] h h' → K true h' = some ()) : cr n i_outriderlaw18_alive [] h (fun v h' => asBool v fun x => K x h') = some () := by
 obtain ⟨n, rfl⟩ : ∃ k, n = k + 1 := ⟨n - 1, by omega⟩
 obtain ⟨k, hk0⟩ : ∃ k, n = k + 1 := ⟨n - 1, by omega⟩
 rw [outriderlaw18_alive_eq]
 conv => lhs; rw [hk0, outriderlaw18_sample_eq, ← hk0]
 rw [Option.bind_some]
 simp only [asStr_str]
 have h1 := alive1
 have h2 := alive2
 refine parse_k (by decide) (by omega) fun cs h1' m1 c1 k1 => ?_
 revert h1 c1
 generalize parseP s_453d3d97 = x1
 intro h1 c1
 cases x1 with
 | inr q => cases h1
 | inl p =>
  simp only [aliveB, Bool.and_eq_true, decide_eq_true_eq] at h1
  obtain ⟨⟨e7, ep⟩, ev⟩ := h1
  refine box_k rfl c1 fun i h2' hi m2 a2 c2 => ?_
  refine parse_k (by decide) (by omega) fun cs' h3' m3 c3 k3 => ?_
  revert h2 c3
  generalize parseP ⟨#[110, 111, 100, 101]⟩ = x2
  intro h2 c3
  cases x2 with
  | inl q => cases h2
  | inr q =>
   obtain rfl : q = (4, 180) := by simpa [badB] using h2
   refine box_k rfl c3 fun j h4' hj m4 a4 c4 => ?_
   have a := (a2.mod0 m3).mod0 m4
   obtain ⟨vp, vc, tp, tc, gp, gc, svr, rfl, _⟩ := c1
   show cond ((0 : Int) == 0) (cond ((0 : Int) == 0) _ _) _ = some ()
   rw [show ((0 : Int) == 0) = true from rfl, cond_true, cond_true, a.cell (o := 8) (v := .int .i64 p.id) rfl, asInt_int, show (p.id == 7) = true by simp [cfgP] at e7 ⊢; exact e7, cond_true,
    a.cell (o := 11) (v := .bool p.pre) rfl, asBool_bool, ep, cond_true, a.cell (o := 12) rfl, asSlice_slice]
   show cond (((p.vips.length : Nat) : Int) == 1) (cond ((180 : Int) == 180) _ _) _ = some ()
   rw [ev]
   simp only [show (((1 : Nat) : Int) == 1) = true from rfl, show ((180 : Int) == 180) = true from rfl, cond_true, asBool_bool]
   exact hk _ (((m1.trans m2).trans m3).trans m4)
end Go.Ev.Tryd

/- The tables that the laws' rows list, as objects of the machine. -/
namespace Go.Ev.Tryd
open Go.Proofs
def objs0 (t0 t1 : Option Tgt) : Objs := [(t0, .tab pow10AV), (t1, .cells tz64 true)]
theorem tb_objs (t0 t1 : Option Tgt) : Tb (HR (objs0 t0 t1)) := ⟨(by decide : 1 < 2), rfl, rfl⟩
theorem gl_objs : GL (rR (objs0 (some ⟨0, 0, 20⟩) (some ⟨3, 0, 64⟩))) := by
 intro g i h
 have e : glFind glTab g = (match Nat.beq 0 g with | true => some 0 | false => (match Nat.beq 3 g with | true => some 1 | false => none)) := rfl
 rw [e] at h
 split at h
 ·rename_i hb
  cases h
  obtain rfl := Nat.eq_of_beq_eq_true hb
  exact ⟨20, rfl⟩
 ·split at h
  ·rename_i hb
   cases h
   obtain rfl := Nat.eq_of_beq_eq_true hb
   exact ⟨64, rfl⟩
  ·cases h
/-- of what a continuation says -/
def isT : AV → H → Option Unit := fun v _ => match v with | .bool true => some () | _ => none
theorem isT_true {r : AV} {h : H} (e : r = .bool true) : isT r h = some () := by subst e; rfl
end Go.Ev.Tryd

/- What is written is read: numbers; good words; the words of lines. -/
namespace Go.Ev.Tryd
set_option maxRecDepth 10000
open Go.Proofs
theorem numL_snoc : ∀ (l : List UInt8) (n m : Int) (x : UInt8), numL n l = (m, true) → isDig x = true → numL n (l ++ [x]) = (10 * m + ((x.toNat : Int) - 48), true)
 | [], n, m, x, h, hx => by
  obtain rfl : n = m := by simpa [numL] using h
  simp [numL, hx]
 | y :: l, n, m, x, h, hx => by
  rw [List.cons_append]
  unfold numL at h ⊢
  split at h
  ·next hy => rw [if_pos hy]; exact numL_snoc l _ m x h hx
  ·simp at h
theorem dig_nat {d : Nat} (h : d < 10) : (UInt8.ofNat (48 + d)).toNat = 48 + d ∧ isDig (UInt8.ofNat (48 + d)) = true := by
 have : (UInt8.ofNat (48 + d)).toNat = 48 + d := by rw [UInt8.toNat_ofNat']; omega
 refine ⟨this, ?_⟩
 unfold isDig
 rw [this]
 simp; omega
theorem dd_num (u : Nat) : numL 0 (Lib.decDigits u) = ((u : Int), true) := by
 induction u using Nat.strongRecOn with
 | ind u ih =>
  rw [Lib.decDigits]
  split
  ·next h =>
   obtain ⟨h1, h2⟩ := dig_nat h
   unfold numL numL
   rw [if_pos h2, h1]
   congr 1
   omega
  ·next h =>
   obtain ⟨h1, h2⟩ := dig_nat (Nat.mod_lt u (by decide : 0 < 10))
   rw [numL_snoc _ _ _ _ (ih (u / 10) (by omega)) h2, h1]
   congr 1
   omega
theorem dd_ne (u : Nat) : Lib.decDigits u ≠ [] := by
 rw [Lib.decDigits]; split <;> simp
theorem dd_head (u : Nat) : 0 < u → (Lib.decDigits u).head? ≠ some 48 := by
 induction u using Nat.strongRecOn with
 | ind u ih =>
  intro h0
  rw [Lib.decDigits]
  split
  ·next h =>
   obtain ⟨h1, _⟩ := dig_nat h
   intro e
   have e : UInt8.ofNat (48 + u) = 48 := by simpa using e
   have := congrArg UInt8.toNat e
   rw [h1] at this
   have : 48 + u = 48 := this
   omega
  ·next h =>
   have := ih (u / 10) (by omega) (by omega)
   rw [List.head?_append]
   cases hh : (Lib.decDigits (u / 10)).head? with
   | none => exact absurd (List.head?_eq_none_iff.1 hh) (dd_ne _)
   | some x => rw [hh] at this; simpa using this
theorem dd_len : ∀ (k u : Nat), u < 10 ^ (k + 1) → (Lib.decDigits u).length ≤ k + 1
 | 0, u, h => by rw [Lib.decDigits, dif_pos (by simpa using h)]; simp
 | k + 1, u, h => by
  rw [Lib.decDigits]
  split
  ·simp
  ·have := dd_len k (u / 10) (by rw [Nat.pow_succ] at h; omega)
   simp; omega
theorem dd_dig (u : Nat) : ∀ x ∈ Lib.decDigits u, isDig x = true := by
 induction u using Nat.strongRecOn with
 | ind u ih =>
  intro x hx
  rw [Lib.decDigits] at hx
  split at hx
  ·next h =>
   obtain rfl := List.mem_singleton.1 hx
   exact (dig_nat h).2
  ·next h =>
   rcases List.mem_append.1 hx with hx | hx
   ·exact ih (u / 10) (by omega) x hx
   ·obtain rfl := List.mem_singleton.1 hx
    exact (dig_nat (Nat.mod_lt u (by decide : 0 < 10))).2
theorem num_dd {u : Nat} (h : u ≤ 65535) : numP (Lib.decDigits u) = ((u : Int), true) := by
 unfold numP
 rw [if_neg ?_, dd_num]
 rintro (h1 | h1 | ⟨h1, h2⟩)
 ·exact dd_ne u h1
 ·have := dd_len 4 u (by omega); omega
 ·rcases Nat.eq_zero_or_pos u with rfl | h0
  ·exact h2 (by rw [Lib.decDigits]; rfl)
  ·exact dd_head u h0 h1
theorem itoa_bs (v : Int) : bs (itoaS v) = Lib.itoa v := by simp [itoaS, bs]
theorem num_itoa {v : Int} (h0 : 0 ≤ v) (h1 : v ≤ 65535) : numP (bs (itoaS v)) = (v, true) := by
 obtain ⟨u, rfl⟩ := Int.eq_ofNat_of_zero_le h0
 rw [itoa_bs, Lib.itoa_nonneg, num_dd (by omega)]
theorem dash_pos {v : Int} (h0 : 0 ≤ v) : dashP (itoaS v) = (itoaS v, false) := by
 obtain ⟨u, rfl⟩ := Int.eq_ofNat_of_zero_le h0
 unfold dashP
 rw [itoa_bs, Lib.itoa_nonneg, if_neg]
 intro e
 cases hd : Lib.decDigits u with
 | nil => exact dd_ne u hd
 | cons x l =>
  rw [hd] at e
  obtain rfl : x = 45 := by simpa using e
  have := dd_dig u 45 (by rw [hd]; simp)
  revert this; decide
theorem dash_neg {v : Int} (h0 : v < 0) : dashP (itoaS v) = (itoaS (-v), true) := by
 obtain ⟨u, hu⟩ : ∃ u : Nat, v = -(u : Int) := ⟨(-v).toNat, by omega⟩
 subst hu
 unfold dashP
 rw [itoa_bs, Lib.itoa_neg u (by omega), if_pos (show (45 :: Lib.decDigits u).head? = some 45 from rfl)]
 refine Prod.ext (bs_inj ?_) rfl
 rw [bs_mk, itoa_bs, Int.neg_neg, Lib.itoa_nonneg]
 rfl
def plainC (c : UInt8) : Bool := decide (33 ≤ c.toNat) && decide (c.toNat ≤ 126) && decide (c.toNat ≠ 35) && decide (c.toNat ≠ 123) && decide (c.toNat ≠ 125)
structure PlainW (w : Bs) : Prop where
 pos : 1 ≤ w.size
 short : w.size ≤ 60
 all : ∀ c ∈ bs w, plainC c = true
def GoodW (w : Bs) : Prop := PlainW w ∨ w = kOpen ∨ w = kShut
theorem plainC_of {c : UInt8} (h : plainC c = true) : 33 ≤ c.toNat ∧ c.toNat ≤ 126 ∧ c.toNat ≠ 35 ∧ c.toNat ≠ 123 ∧ c.toNat ≠ 125 := by
 simpa [plainC, and_assoc] using h
theorem plain_go {w : Bs} (h : PlainW w) : stopW w = false := by
 obtain ⟨c, hc⟩ : ∃ c, c ∈ bs w := by
  cases hw : bs w with
  | nil => have := h.pos; rw [← bs_len, hw] at this; simp at this
  | cons c l => exact ⟨c, by simp⟩
 have h1 := plainC_of (h.all c hc)
 unfold stopW
 have no : ∀ l : List UInt8, (∀ x ∈ l, x.toNat = 10 ∨ x.toNat = 123 ∨ x.toNat = 125) → w ≠ mk l := fun l hl e => by
  rw [e, bs_mk] at hc
  have := hl c hc
  omega
 change (decide (w = mk []) || decide (w = mk [10]) || decide (w = mk [123]) || decide (w = mk [125])) = false
 rw [decide_eq_false (no [] (by simp)), decide_eq_false (no [10] (by simp)), decide_eq_false (no [123] (by simp)), decide_eq_false (no [125] (by simp))]
 rfl
theorem plain_itoa {v : Int} (h0 : -65535 ≤ v) (h1 : v ≤ 65535) : PlainW (itoaS v) := by
 have hd : ∀ x, isDig x = true → plainC x = true := fun x hx => by
  simp only [isDig, plainC, Bool.and_eq_true, decide_eq_true_eq] at hx ⊢; omega
 by_cases h : v < 0
 ·obtain ⟨u, hu⟩ : ∃ u : Nat, v = -(u : Int) := ⟨(-v).toNat, by omega⟩
  subst hu
  have e : bs (itoaS (-(u : Int))) = 45 :: Lib.decDigits u := by rw [itoa_bs, Lib.itoa_neg u (by omega)]
  have hl := dd_len 4 u (by omega)
  refine ⟨by rw [← bs_len, e]; simp, by rw [← bs_len, e]; simp; omega, fun c hc => ?_⟩
  rw [e] at hc
  rcases List.mem_cons.1 hc with rfl | hc
  ·decide
  ·exact hd _ (dd_dig u c hc)
 ·obtain ⟨u, rfl⟩ := Int.eq_ofNat_of_zero_le (Int.not_lt.1 h)
  have e : bs (itoaS (u : Int)) = Lib.decDigits u := by rw [itoa_bs, Lib.itoa_nonneg]
  have hl := dd_len 4 u (by omega)
  have := List.length_pos_iff.2 (dd_ne u)
  exact ⟨by rw [← bs_len, e]; omega, by rw [← bs_len, e]; omega, fun c hc => hd _ (dd_dig u c (by rwa [e] at hc))⟩
theorem join_mem {c y : UInt8} : ∀ {ps : List (List UInt8)}, y ∈ Lib.join ps [c] → y = c ∨ ∃ p ∈ ps, y ∈ p
 | [], h => by simp [Lib.join] at h
 | [p], h => by
  simp [Lib.join, List.intercalate] at h
  exact .inr ⟨p, by simp, h⟩
 | p :: q :: ps, h => by
  have e : Lib.join (p :: q :: ps) [c] = p ++ ([c] ++ Lib.join (q :: ps) [c]) := by simp [Lib.join, List.intercalate]
  rw [e] at h
  rcases List.mem_append.1 h with h | h
  ·exact .inr ⟨p, by simp, h⟩
  ·rcases List.mem_append.1 h with h | h
   ·exact .inl (List.mem_singleton.1 h)
   ·rcases join_mem h with h | ⟨x, hx, h⟩
    ·exact .inl h
    ·exact .inr ⟨x, by simp [hx], h⟩
theorem join_plain {c : UInt8} (hc : plainC c = true) {ps : List ByteArray} {k : Nat} (h0 : ps ≠ []) (h1 : ∀ p ∈ ps, 1 ≤ p.size ∧ p.size ≤ k ∧ ∀ x ∈ bs p, plainC x = true) (hk : k * ps.length + ps.length ≤ 60) : PlainW (joinS ps (mk [c])) := by
 have hb : bs (joinS ps (mk [c])) = Lib.join (ps.map bs) [c] := by rw [show joinS ps (mk [c]) = mk (Lib.join (ps.map bs) [c]) from rfl, bs_mk]
 have h2 := join_le c (ps.map bs)
 have h3 : (ps.map bs).flatten.length ≤ k * ps.length := flat_le fun x hx => (h1 x hx).2.1
 rw [List.length_map] at h2
 refine ⟨?_, by rw [← bs_len, hb]; omega, fun x hx => ?_⟩
 ·rw [← bs_len, hb]
  cases ps with
  | nil => exact absurd rfl h0
  | cons p ps =>
   have hp := (h1 p (by simp)).1
   rw [← bs_len] at hp
   cases ps with
   | nil => simpa [Lib.join, List.intercalate] using hp
   | cons q ps =>
    have e : Lib.join ((p :: q :: ps).map bs) [c] = bs p ++ ([c] ++ Lib.join ((q :: ps).map bs) [c]) := by simp [Lib.join, List.intercalate]
    rw [e, List.length_append]; omega
 ·rw [hb] at hx
  rcases join_mem hx with rfl | ⟨p, hp, hx⟩
  ·exact hc
  ·obtain ⟨q, hq, rfl⟩ := List.mem_map.1 hp
   exact (h1 q hq).2.2 x hx
theorem dig_plain {d : Nat} (h : d < 16) : plainC (dig d) = true := by
 have : ∀ k : Fin 16, plainC (dig k.val) = true := by decide +kernel
 exact this ⟨d, h⟩
theorem dg_plain {b k u : Nat} (hb : b ≤ 16) (hb0 : 0 < b) (hk : 0 < k) : 1 ≤ (mk (dg b k u)).size ∧ (mk (dg b k u)).size ≤ k ∧ ∀ x ∈ bs (mk (dg b k u)), plainC x = true := by
 refine ⟨dg_pos b u hk, dg_len b k u, fun x hx => ?_⟩
 rw [bs_mk] at hx
 obtain ⟨d, hd, rfl⟩ := dg_mem hb0 hx
 exact dig_plain (by omega)
theorem plain_pT {a : Bs} (h : a.size = 4 ∨ a.size = 16) : PlainW (pT a) := by
 unfold pT
 rcases h with h | h
 ·rw [if_pos h]
  refine join_plain (k := 3) (by decide) ?_ (fun p hp => ?_) ?_
  ·intro e; have := congrArg List.length e; rw [List.length_map, bs_len, h] at this; cases this
  ·obtain ⟨x, _, rfl⟩ := List.mem_map.1 hp
   rw [dT_dg]; exact dg_plain (by decide) (by decide) (by decide)
  ·rw [List.length_map, bs_len, h]; decide
 ·rw [if_neg (by omega), if_pos h]
  refine join_plain (k := 4) (by decide) ?_ (fun p hp => ?_) ?_
  ·intro e; have := congrArg List.length e; rw [List.length_map, prs_len, bs_len, h] at this; cases this
  ·obtain ⟨x, _, rfl⟩ := List.mem_map.1 hp
   exact dg_plain (by decide) (by decide) (by decide)
  ·rw [List.length_map, prs_len, bs_len, h]; decide
theorem plain_cdT {x : Cd} (h : CdOk x) : PlainW (cdT x) := by
 unfold cdT
 refine join_plain (k := 2) (by decide) (by simp) (fun p hp => ?_) (by simp)
 obtain ⟨y, hy, rfl⟩ := List.mem_map.1 hp
 have hb := h.1 y hy
 obtain ⟨k, rfl⟩ := Int.eq_ofNat_of_zero_le hb.1
 have e := hx2_two (x := k) (by omega)
 refine ⟨by rw [← bs_len, e]; simp, by rw [← bs_len, e]; simp, fun c hc => ?_⟩
 rw [e] at hc
 simp only [List.mem_cons, List.not_mem_nil, or_false] at hc
 rcases hc with rfl | rfl <;> exact dig_plain (by omega)
theorem card_back {x : Cd} (h : CdOk x) : cardP (cdT x) = ([x.a, x.b, x.c, x.d, x.e, x.f], true) := cardP_mT (m := [x.a, x.b, x.c, x.d, x.e, x.f]) rfl h.1
theorem adr_back {a : Bs} (h : a.size = 4 ∨ a.size = 16) : adrP (pT a) = (a, true) := by rw [adrP_pT, if_pos h]
end Go.Ev.Tryd

/- What is written is read: the words of lines. -/
namespace Go.Ev.Tryd
set_option maxRecDepth 10000
open Go.Proofs
/-- a reader of words between two words -/
abbrev wd (w : Bs) (k line : Int) : Wd := (w, k, line)
def rs (l : List Wd) (line : Int) (b : Bool) : Rd := ⟨l, line, -1, b, false⟩
theorem cut_here {s w : Bs} {rest : List UInt8} {k : Nat} (hd : (bs s).drop k = bs w ++ rest) : cut s k ((k + w.size : Nat) : Int) = w := by
 unfold cut
 rw [show ((k : Nat) : Int).toNat = k from rfl, show ((k + w.size : Nat) : Int).toNat = k + w.size from rfl, hd, show k + w.size - k = (bs w).length by rw [bs_len]; omega, List.take_left, mk_bs]
theorem take_plain {s : Bs} {st : Rd} {c : UInt8} (hc : plainC c = true) (hn : st.note = false) (k : Int) : takeP s st c.toNat k = if st.from' < 0 then ({ st with from' := k }, true) else (st, true) := by
 have := plainC_of hc
 unfold takeP
 rw [if_neg (by omega), if_neg (by rw [hn]; decide), if_neg (by omega), if_neg (by omega), if_neg (by omega)]
theorem may_plain {c : UInt8} (hc : plainC c = true) : mayP c.toNat = true := by
 have := plainC_of hc
 unfold mayP
 simp; omega
theorem allL_plain {s : Bs} {st : Rd} {k0 : Nat} (hf : st.from' = k0) (hn : st.note = false) : ∀ (w rest : List UInt8) (j : Nat), (∀ c ∈ w, plainC c = true) → j + w.length ≤ 60 → allL s st ((k0 + j : Nat) : Int) (w ++ rest) = allL s st ((k0 + j + w.length : Nat) : Int) rest
 | [], rest, j, _, _ => rfl
 | c :: w, rest, j, h, hl => by
  have hc := h c (by simp)
  simp only [List.length_cons] at hl
  have e1 : takeP s st c.toNat ((k0 + j : Nat) : Int) = (st, true) := by rw [take_plain hc hn, if_neg (by rw [hf]; omega)]
  rw [List.cons_append, allL, if_neg (by rw [hf]; omega), if_pos (may_plain hc), e1]
  simp only [if_true]
  have := allL_plain (s := s) hf hn w rest (j + 1) (fun x hx => h x (by simp [hx])) (by omega)
  rw [show ((k0 + j : Nat) : Int) + 1 = ((k0 + (j + 1) : Nat) : Int) by omega, this]
  congr 1
  simp only [List.length_cons]
  omega
/-- a word goes by -/
theorem word_go {s w : Bs} {rest : List UInt8} {l : List Wd} {line : Int} {b : Bool} {k : Nat} (hg : GoodW w) (hd : (bs s).drop k = bs w ++ rest) :
  ∃ st : Rd, allL s (rs l line b) k (bs w ++ rest) = allL s st ((k + w.size : Nat) : Int) rest ∧ st.note = false ∧ ¬ (0 ≤ st.from' ∧ 60 < ((k + w.size : Nat) : Int) - st.from') ∧ endP s st ((k + w.size : Nat) : Int) = (rs (l ++ [wd w k line]) line true, true) := by
 rcases hg with hg | hg
 ·obtain ⟨c, u, hw⟩ : ∃ c u, bs w = c :: u := by
   cases hw : bs w with
   | nil => have := hg.pos; rw [← bs_len, hw] at this; simp at this
   | cons c u => exact ⟨c, u, rfl⟩
  have hz : w.size = u.length + 1 := by rw [← bs_len, hw]; rfl
  have hc := hg.all c (by rw [hw]; simp)
  have hs := hg.short
  refine ⟨{ rs l line b with from' := k }, ?_, rfl, ?_, ?_⟩
  ·have e1 : takeP s (rs l line b) c.toNat k = ({ rs l line b with from' := k }, true) := by rw [take_plain hc rfl, if_pos (by exact (by decide : (-1 : Int) < 0))]
   rw [hw, List.cons_append, allL, if_neg (by intro h; have : (0 : Int) ≤ -1 := h.1; omega), if_pos (may_plain hc), e1]
   simp only [if_true]
   have := allL_plain (s := s) (st := { rs l line b with from' := k }) (k0 := k) rfl rfl u rest 1 (fun x hx => hg.all x (by rw [hw]; simp [hx])) (by omega)
   rw [show ((k : Nat) : Int) + 1 = ((k + 1 : Nat) : Int) by omega, this]
   congr 1
   omega
  ·intro h
   have : 60 < ((k + w.size : Nat) : Int) - (k : Int) := h.2
   omega
  ·unfold endP
   rw [if_neg (by show ¬ ((k : Nat) : Int) < 0; omega)]
   show (({ l := l ++ [wd (cut s k ((k + w.size : Nat) : Int)) k line], line := line, from' := -1, some' := true, note := false } : Rd), decide ((cut s k ((k + w.size : Nat) : Int)).size ≤ 60)) = _
   rw [cut_here hd, decide_eq_true hs]
   rfl
 ·have brace : ∀ c : UInt8, (c = 123 ∨ c = 125) → bs w = [c] → ∃ st : Rd, allL s (rs l line b) k (bs w ++ rest) = allL s st ((k + w.size : Nat) : Int) rest ∧ st.note = false ∧ ¬ (0 ≤ st.from' ∧ 60 < ((k + w.size : Nat) : Int) - st.from') ∧ endP s st ((k + w.size : Nat) : Int) = (rs (l ++ [wd w k line]) line true, true) := by
   intro c hc hw
   have hz : w.size = 1 := by rw [← bs_len, hw]; rfl
   have hct : c.toNat = 123 ∨ c.toNat = 125 := hc.elim (fun h => .inl (by rw [h]; rfl)) fun h => .inr (by rw [h]; rfl)
   have e1 : takeP s (rs l line b) c.toNat k = (rs (l ++ [wd w k line]) line true, true) := by
    unfold takeP
    have e0 : endP s (rs l line b) k = (rs l line b, true) := endP_none (by exact (by decide : (-1 : Int) < 0)) _
    rw [if_neg (by omega), if_neg (by show ¬ (false = true); decide), if_neg (by omega), if_neg (by omega), if_pos (by omega), e0]
    unfold endP
    rw [if_neg (by show ¬ ((k : Nat) : Int) < 0; omega)]
    have hcut : cut s k ((k : Int) + 1) = w := by
     have := cut_here hd
     rw [hz] at this
     exact this
    show (({ l := l ++ [wd (cut s k ((k : Int) + 1)) k line], line := line, from' := -1, some' := true, note := false } : Rd), true) = _
    rw [hcut]
    rfl
   refine ⟨rs (l ++ [wd w k line]) line true, ?_, rfl, fun h => by have : (0 : Int) ≤ -1 := h.1; omega, endP_none (by exact (by decide : (-1 : Int) < 0)) _⟩
   rw [hw, List.singleton_append, allL, if_neg (by intro h; have : (0 : Int) ≤ -1 := h.1; omega), if_pos (by unfold mayP; simp; omega), e1, hz]
   simp only [if_true]
   rfl
  rcases hg with rfl | rfl
  ·exact brace 123 (.inl rfl) rfl
  ·exact brace 125 (.inr rfl) rfl
theorem word_sp {s w : Bs} {rest : List UInt8} {l : List Wd} {line : Int} {b : Bool} {k : Nat} (hg : GoodW w) (hd : (bs s).drop k = bs w ++ 32 :: rest) :
  allL s (rs l line b) k (bs w ++ 32 :: rest) = allL s (rs (l ++ [wd w k line]) line true) ((k + w.size + 1 : Nat) : Int) rest := by
 obtain ⟨st, e, hn, h60, he⟩ := word_go (l := l) (line := line) (b := b) hg hd
 have : takeP s st (32 : UInt8).toNat ((k + w.size : Nat) : Int) = (rs (l ++ [wd w k line]) line true, true) := by
  unfold takeP
  rw [if_neg (by decide), if_neg (by rw [hn]; decide), if_neg (by decide), if_pos (by decide), he]
 rw [e, allL, if_neg h60, if_pos (by decide), this]
 simp only [if_true]
 rfl
theorem word_nl {s w : Bs} {rest : List UInt8} {l : List Wd} {line : Int} {b : Bool} {k : Nat} (hg : GoodW w) (hd : (bs s).drop k = bs w ++ 10 :: rest) :
  allL s (rs l line b) k (bs w ++ 10 :: rest) = allL s (rs (l ++ [wd w k line, wd nl ((k + w.size : Nat) : Int) line]) (line + 1) false) ((k + w.size + 1 : Nat) : Int) rest := by
 obtain ⟨st, e, hn, h60, he⟩ := word_go (l := l) (line := line) (b := b) hg hd
 have : takeP s st (10 : UInt8).toNat ((k + w.size : Nat) : Int) = (rs (l ++ [wd w k line, wd nl ((k + w.size : Nat) : Int) line]) (line + 1) false, true) := by
  unfold takeP
  rw [if_pos (by decide), he]
  unfold stopP rs
  simp only [if_true]
  rw [List.append_assoc]
  rfl
 rw [e, allL, if_neg h60, if_pos (by decide), this]
 simp only [if_true]
 rfl
/-- the words of a line that begins at k -/
def lineW (line : Int) : Nat → List Bs → List Wd
 | _, [] => []
 | k, [w] => [wd w k line, wd nl ((k + w.size : Nat) : Int) line]
 | k, w :: ws => wd w k line :: lineW line (k + w.size + 1) ws
theorem renL_one (w : Bs) : renL [w] = bs w ++ [10] := by
 have : joinS [w] sp = w := bs_inj (by simp [joinS, Lib.join, List.intercalate, bs])
 unfold renL
 rw [this]
theorem renL_more (w v : Bs) (ws : List Bs) : renL (w :: v :: ws) = bs w ++ 32 :: renL (v :: ws) := by
 unfold renL joinS
 have e : Lib.join ((w :: v :: ws).map (·.data.toList)) sp.data.toList = bs w ++ (32 :: Lib.join ((v :: ws).map (·.data.toList)) sp.data.toList) := by simp [Lib.join, List.intercalate, bs]
 rw [e]
 simp [bs]
theorem line_go {s : Bs} (line : Int) : ∀ (ws : List Bs) (k : Nat) (l : List Wd) (b : Bool) (rest : List UInt8), ws ≠ [] → (∀ w ∈ ws, GoodW w) → (bs s).drop k = renL ws ++ rest →
  allL s (rs l line b) k (renL ws ++ rest) = allL s (rs (l ++ lineW line k ws) (line + 1) false) ((k + (renL ws).length : Nat) : Int) rest
 | [], _, _, _, _, h, _, _ => absurd rfl h
 | [w], k, l, b, rest, _, hg, hd => by
  rw [renL_one, List.append_assoc, List.singleton_append] at hd ⊢
  rw [word_nl (hg w (by simp)) hd]
  congr 1
  rw [List.length_append, bs_len, List.length_singleton]
  omega
 | w :: v :: ws, k, l, b, rest, _, hg, hd => by
  rw [renL_more, List.append_assoc, List.cons_append] at hd ⊢
  rw [word_sp (hg w (by simp)) hd]
  have hd' : (bs s).drop (k + w.size + 1) = renL (v :: ws) ++ rest := by
   have e : k + w.size + 1 = k + ((bs w).length + 1) := by rw [bs_len]; omega
   rw [e, ← List.drop_drop, hd, List.drop_append, List.drop_eq_nil_of_le (by omega)]
   simp
  rw [line_go line (v :: ws) (k + w.size + 1) (l ++ [wd w k line]) true rest (by simp) (fun x hx => hg x (List.mem_cons_of_mem _ hx)) hd']
  rw [List.append_assoc]
  congr 1
  rw [List.length_append, List.length_cons, bs_len]
  omega
/-- the words of lines -/
def linesW : Int → Nat → List (List Bs) → List Wd
 | _, _, [] => []
 | line, k, ws :: ls => lineW line k ws ++ linesW (line + 1) (k + (renL ws).length) ls
def GoodL (ls : List (List Bs)) : Prop := ∀ ws ∈ ls, ws ≠ [] ∧ ∀ w ∈ ws, GoodW w
theorem lines_go {s : Bs} : ∀ (ls : List (List Bs)) (line : Int) (k : Nat) (l : List Wd) (rest : List UInt8), GoodL ls → (bs s).drop k = ren ls ++ rest →
  allL s (rs l line false) k (ren ls ++ rest) = allL s (rs (l ++ linesW line k ls) (line + ls.length) false) ((k + (ren ls).length : Nat) : Int) rest
 | [], line, k, l, rest, _, _ => by simp [ren, linesW]
 | ws :: ls, line, k, l, rest, hg, hd => by
  rw [ren_cons, List.append_assoc] at hd ⊢
  rw [line_go line ws k l false _ (hg ws (by simp)).1 (hg ws (by simp)).2 hd]
  have hd' : (bs s).drop (k + (renL ws).length) = ren ls ++ rest := by rw [← List.drop_drop, hd, List.drop_left]
  rw [lines_go ls (line + 1) (k + (renL ws).length) _ rest (fun x hx => hg x (List.mem_cons_of_mem _ hx)) hd']
  rw [List.append_assoc]
  have e1 : line + 1 + (ls.length : Int) = line + ((ws :: ls).length : Nat) := by simp only [List.length_cons]; push_cast; omega
  have e2 : k + (renL ws).length + (ren ls).length = k + (renL ws ++ ren ls).length := by rw [List.length_append]; omega
  rw [e1, e2]
  rfl
theorem allP_ren {ls : List (List Bs)} (hg : GoodL ls) : allP (mk (ren ls)) = .inl (linesW 1 0 ls) := by
 unfold allP
 have h := lines_go (s := mk (ren ls)) ls 1 0 [] [] hg (by rw [List.drop_zero, List.append_nil, bs_mk])
 rw [List.append_nil] at h
 rw [bs_mk]
 refine h.trans ?_
 rw [List.nil_append, allL, endP_none (by exact (by decide : (-1 : Int) < 0)), if_pos rfl]
 unfold stopP rs
 simp
/-- the words' texts -/
def toks (ls : List (List Bs)) : List Bs := ls.flatMap fun ws => ws ++ [nl]
theorem lineW_fst (line : Int) : ∀ (ws : List Bs) (k : Nat), ws ≠ [] → (lineW line k ws).map (·.1) = ws ++ [nl]
 | [], _, h => absurd rfl h
 | [w], k, _ => rfl
 | w :: v :: ws, k, _ => by
  show w :: (lineW line (k + w.size + 1) (v :: ws)).map (·.1) = _
  rw [lineW_fst line (v :: ws) _ (by simp)]
  rfl
theorem linesW_fst : ∀ (ls : List (List Bs)) (line : Int) (k : Nat), GoodL ls → (linesW line k ls).map (·.1) = toks ls
 | [], _, _, _ => rfl
 | ws :: ls, line, k, hg => by
  show (lineW line k ws ++ linesW _ _ ls).map (·.1) = (ws ++ [nl]) ++ toks ls
  rw [List.map_append, lineW_fst line ws k (hg ws (by simp)).1, linesW_fst ls _ _ fun x hx => hg x (List.mem_cons_of_mem _ hx)]
theorem linesW_app : ∀ (a b : List (List Bs)) (line : Int) (k : Nat), linesW line k (a ++ b) = linesW line k a ++ linesW (line + a.length) (k + (ren a).length) b
 | [], b, line, k => by simp [linesW, ren]
 | ws :: a, b, line, k => by
  show lineW line k ws ++ linesW _ _ (a ++ b) = _ ++ _
  rw [linesW_app a b, ren_cons, List.length_append, show line + 1 + (a.length : Int) = line + ((ws :: a).length : Nat) by simp only [List.length_cons]; push_cast; omega, ← Nat.add_assoc, ← List.append_assoc]
  rfl
/-- where the first word of a line stands -/
theorem place_line {s : Bs} {a b : List (List Bs)} {w : Bs} {ws : List Bs} (hg : GoodL a) : placeP s (linesW 1 0 (a ++ (w :: ws) :: b)) (toks a).length = ((ren a).length : Nat) := by
 have hl : (linesW 1 0 a).length = (toks a).length := by rw [← linesW_fst a 1 0 hg, List.length_map]
 unfold placeP
 rw [linesW_app, List.getElem?_append_right (by omega), hl, Nat.sub_self, Nat.zero_add]
 have : ∃ y r, linesW (1 + (a.length : Int)) (ren a).length ((w :: ws) :: b) = y :: r ∧ y.2.1 = ((ren a).length : Nat) := by
  cases ws with
  | nil => exact ⟨_, _, rfl, rfl⟩
  | cons v ws => exact ⟨_, _, rfl, rfl⟩
 obtain ⟨y, r, e, ey⟩ := this
 rw [e]
 exact ey
end Go.Ev.Tryd

/- What is written is read: steps of the reader, ahead. -/
namespace Go.Ev.Tryd
set_option maxRecDepth 10000
open Go.Proofs
def setK (st : St) (k : Nat) : St := setP st { st.p with k := k }
/-- the words from one on -/
def Tk (l : List Wd) (k : Nat) (ts : List Bs) : Prop := (l.map (·.1)).drop k = ts
theorem Tk.get {l : List Wd} {k : Nat} {w : Bs} {ts : List Bs} (h : Tk l k (w :: ts)) : ∃ x, l[k]? = some x ∧ x.1 = w := by
 have : (l.map (·.1))[k]? = some w := by
  have := congrArg List.head? h
  rwa [List.head?_drop] at this
 rw [List.getElem?_map, Option.map_eq_some_iff] at this
 exact this
theorem Tk.peek {l : List Wd} {k : Nat} {w : Bs} {ts : List Bs} (h : Tk l k (w :: ts)) : peekP l k = w := by
 obtain ⟨x, e, rfl⟩ := h.get
 unfold peekP
 rw [e]
theorem Tk.lt {l : List Wd} {k : Nat} {w : Bs} {ts : List Bs} (h : Tk l k (w :: ts)) : k < l.length := by
 obtain ⟨x, e, _⟩ := h.get
 exact (List.getElem?_eq_some_iff.1 e).1
theorem Tk.next {l : List Wd} {k : Nat} {w : Bs} {ts : List Bs} (h : Tk l k (w :: ts)) : Tk l (k + 1) ts := by
 unfold Tk at *
 rw [← List.drop_drop, h]
 rfl
theorem Tk.app {l : List Wd} {k : Nat} : ∀ {a ts : List Bs}, Tk l k (a ++ ts) → Tk l (k + a.length) ts
 | [], _, h => h
 | w :: a, ts, h => by
  have := Tk.app (a := a) (Tk.next h)
  rwa [show k + 1 + a.length = k + (w :: a).length by simp only [List.length_cons]; omega] at this
section
variable {s : Bs} {l : List Wd}
theorem must_ok {p : Ps} {w : Bs} {ts : List Bs} (h : Tk l p.k (w :: ts)) : mustP s l w p = ({ p with k := p.k + 1 }, true) := by
 unfold mustP; rw [h.peek, if_pos rfl]
theorem value_ok {p : Ps} {w : Bs} {ts : List Bs} (h : Tk l p.k (w :: ts)) (hw : stopW w = false) : valueP s l p = ({ p with k := p.k + 1 }, w, placeP s l p.k, true) := by
 unfold valueP; rw [h.peek, if_neg (by rw [hw]; decide)]
theorem end_ok {st : St} {ts : List Bs} (h : Tk l st.p.k (nl :: ts)) : endL s l st = (setK st (st.p.k + 1), true) := by
 unfold endL; rw [must_ok h]; rfl
theorem end_ok' {st : St} {k : Nat} {ts : List Bs} (hk : st.p.k = k) (h : Tk l k (nl :: ts)) : endL s l st = (setK st (k + 1), true) := by
 subst hk; exact end_ok h
theorem number_ok {st : St} {put : St → Int → St} (hk : ∀ st v, (put st v).p.k = st.p.k) {lo hi v : Int} {w : Bs} {ts : List Bs} (h : Tk l st.p.k (w :: nl :: ts)) (hw : PlainW w) (hn : numP (bs w) = (v, true)) (h0 : lo ≤ v) (h1 : v ≤ hi) :
  numberS s l put lo hi st = (setK (put (setK st (st.p.k + 1)) v) (st.p.k + 2), true) := by
 unfold numberS
 rw [value_ok h (plain_go hw)]
 unfold numberV
 simp only
 rw [hn, if_pos ⟨rfl, h0, h1⟩]
 exact end_ok' (hk _ _) h.next
theorem choice_ok {st : St} {put : St → Int → St} (hk : ∀ st v, (put st v).p.k = st.p.k) {L : List (Bs × Int)} {v : Int} {w : Bs} {ts : List Bs} (h : Tk l st.p.k (w :: nl :: ts)) (hw : stopW w = false) (hn : lk L w = some v) :
  choiceS s l put L st = (setK (put (setK st (st.p.k + 1)) v) (st.p.k + 2), true) := by
 unfold choiceS
 rw [value_ok h hw]
 unfold choiceV
 simp only
 rw [hn]
 exact end_ok' (hk _ _) h.next
theorem card_ok' {st : St} {put : St → Cd → St} (hk : ∀ st v, (put st v).p.k = st.p.k) {x : Cd} (hx : CdOk x) {ts : List Bs} (h : Tk l st.p.k (cdT x :: nl :: ts)) :
  cardS s l put st = (setK (put (setK st (st.p.k + 1)) x) (st.p.k + 2), true) := by
 unfold cardS
 rw [value_ok h (plain_go (plain_cdT hx))]
 unfold cardV
 simp only
 rw [card_back hx, if_pos rfl]
 exact end_ok' (hk _ _) h.next
def spot1 (st : St) (x : Bs × Int × Bool) : St := setP st { st.p with spots := st.p.spots ++ [x] }
theorem address_ok {st : St} {put : St → Bs → St} (hk : ∀ st v, (put st v).p.k = st.p.k) {svc : Bool} {a : Bs} (ha : a.size = 4 ∨ a.size = 16) {ts : List Bs} (h : Tk l st.p.k (pT a :: nl :: ts)) :
  addressS s l svc (intoS put) st = (setK (put (spot1 (setK st (st.p.k + 1)) (a, placeP s l st.p.k, svc)) a) (st.p.k + 2), true) := by
 unfold addressS
 rw [value_ok h (plain_go (plain_pT ha))]
 unfold addressV
 simp only
 rw [adr_back ha, if_pos rfl]
 unfold thenEnd intoS
 simp only [if_true]
 exact end_ok' (hk _ _) h.next
theorem vip_ok {st : St} {a : Bs} (ha : a.size = 4 ∨ a.size = 16) (hn : a ∉ st.p.vips) {ts : List Bs} (h : Tk l st.p.k (pT a :: nl :: ts)) :
  addressS s l false vipS st = (setP st { st.p with k := st.p.k + 2, spots := st.p.spots ++ [(a, placeP s l st.p.k, false)], vips := st.p.vips ++ [a] }, true) := by
 unfold addressS
 rw [value_ok h (plain_go (plain_pT ha))]
 unfold addressV
 simp only
 rw [adr_back ha, if_pos rfl]
 have e : vipS (setP st { st.p with k := st.p.k + 1, spots := st.p.spots ++ [(a, placeP s l st.p.k, false)] }) a (placeP s l st.p.k) = (setP st { st.p with k := st.p.k + 1, spots := st.p.spots ++ [(a, placeP s l st.p.k, false)], vips := st.p.vips ++ [a] }, true) := by
  unfold vipS
  rw [if_neg (by rw [show memB a (setP st { st.p with k := st.p.k + 1, spots := st.p.spots ++ [(a, placeP s l st.p.k, false)] }).p.vips = false from memB_not hn]; decide)]
  rfl
 show thenEnd s l (vipS (setP st { st.p with k := st.p.k + 1, spots := st.p.spots ++ [(a, placeP s l st.p.k, false)] }) a (placeP s l st.p.k)) = _
 rw [e]
 unfold thenEnd
 simp only [if_true]
 exact end_ok' (k := st.p.k + 1) rfl h.next
theorem named_ok {p : Ps} {xs : List Bs} {w : Bs} {ts : List Bs} (h : Tk l p.k (w :: ts)) (hw : PlainW w) (h40 : w.size ≤ 40) (hn : w ∉ xs) : namedP s l xs p = ({ p with k := p.k + 1 }, w, true) := by
 unfold namedP
 rw [value_ok h (plain_go hw)]
 unfold namedV
 simp only
 rw [if_neg (by omega), memB_not hn, if_neg (by decide)]
theorem track_ok {st : St} {x : Bs × Int} {ts : List Bs} (hx : PlainW x.1) (h40 : x.1.size ≤ 40) (hn : x.1 ∉ st.p.trs.map (·.1)) (h0 : x.2 ≠ 0) (h1 : -254 ≤ x.2) (h2 : x.2 ≤ 254) (h : Tk l st.p.k (x.1 :: itoaS x.2 :: nl :: ts)) :
  trackS s l st = (setP st { st.p with k := st.p.k + 3, trs := st.p.trs ++ [x] }, true) := by
 unfold trackS
 rw [named_ok h hx h40 hn]
 show weightV s l x.1 st (valueP s l { st.p with k := st.p.k + 1 }) = _
 rw [value_ok (p := { st.p with k := st.p.k + 1 }) h.next (plain_go (plain_itoa (by omega) (by omega)))]
 unfold weightV
 simp only
 by_cases hneg : x.2 < 0
 ·rw [dash_neg hneg, num_itoa (v := -x.2) (by omega) (by omega), if_pos ⟨rfl, by show 1 ≤ -x.2; omega, by show -x.2 ≤ 254; omega⟩]
  simp only [if_true, Int.neg_neg]
  exact end_ok' (k := st.p.k + 1 + 1) rfl h.next.next
 ·rw [dash_pos (by omega), num_itoa (by omega) (by omega), if_pos ⟨rfl, by show 1 ≤ x.2; omega, by show x.2 ≤ 254; omega⟩]
  simp only [Bool.false_eq_true, if_false]
  exact end_ok' (k := st.p.k + 1 + 1) rfl h.next.next
/-- keys that are read one behind the other -/
inductive Walk (s : Bs) (l : List Wd) (L : List (Bs × Key)) : List (Bs × Int) → St → List (Bs × Int) → St → Prop
 | refl (M : List (Bs × Int)) (st : St) : Walk s l L M st M st
 | step {M M2 : List (Bs × Int)} {st st' st2 : St} {w : Bs} {key : Key} (hlt : st.p.k < l.length) (hp : peekP l st.p.k = w) (hw : w ≠ kShut) (hl : lk L w = some key) (hc : cnt M w < key.most) (hs : key.sem (setK st (st.p.k + 1)) = (st', true)) (hk : st.p.k < st'.p.k) (t : Walk s l L (pt M w (cnt M w + 1)) st' M2 st2) : Walk s l L M st M2 st2
variable {L : List (Bs × Key)}
theorem Walk.one {M : List (Bs × Int)} {st st' : St} {w : Bs} {ts : List Bs} {key : Key} (hT : Tk l st.p.k (w :: ts)) (hw : w ≠ kShut) (hl : lk L w = some key) (hc : cnt M w < key.most) (hs : key.sem (setK st (st.p.k + 1)) = (st', true)) (hk : st.p.k < st'.p.k) : Walk s l L M st (pt M w (cnt M w + 1)) st' :=
 .step hT.lt hT.peek hw hl hc hs hk (.refl _ _)
theorem Walk.trans {M M1 M2 : List (Bs × Int)} {st st1 st2 : St} (a : Walk s l L M st M1 st1) (b : Walk s l L M1 st1 M2 st2) : Walk s l L M st M2 st2 := by
 induction a with
 | refl => exact b
 | step h1 h2 h3 h4 h5 h6 h7 _ ih => exact .step h1 h2 h3 h4 h5 h6 h7 (ih b)
theorem Walk.body {M M2 : List (Bs × Int)} {st st2 : St} (a : Walk s l L M st M2 st2) : ∀ F, l.length < F + st.p.k → ∃ F2, l.length < F2 + st2.p.k ∧ bodyS s l L F M st = bodyS s l L F2 M2 st2 := by
 induction a with
 | refl => exact fun F hF => ⟨F, hF, rfl⟩
 | @step M M2 st st' st2 w key hlt hp hw hl hc hs hk t ih =>
  intro F hF
  obtain ⟨F, rfl⟩ : ∃ G, F = G + 1 := ⟨F - 1, by omega⟩
  obtain ⟨F2, h2, e⟩ := ih F (by omega)
  refine ⟨F2, h2, ?_⟩
  rw [← e, bodyS, hp, if_neg (show ¬ w = ⟨#[125]⟩ from hw), hl]
  simp only
  rw [if_neg (by omega), show key.sem (setP st { st.p with k := st.p.k + 1 }) = (st', true) from hs]
  simp only [if_true]
theorem Walk.all {M M2 : List (Bs × Int)} {st st2 : St} (a : Walk s l L M st M2 st2) : ∀ F, l.length < F + st.p.k → ∃ F2, l.length < F2 + st2.p.k ∧ allB s l L F M st = allB s l L F2 M2 st2 := by
 induction a with
 | refl => exact fun F hF => ⟨F, hF, rfl⟩
 | @step M M2 st st' st2 w key hlt hp hw hl hc hs hk t ih =>
  intro F hF
  obtain ⟨F, rfl⟩ : ∃ G, F = G + 1 := ⟨F - 1, by omega⟩
  obtain ⟨F2, h2, e⟩ := ih F (by omega)
  refine ⟨F2, h2, ?_⟩
  rw [← e, allB, if_pos hlt, hp, hl]
  simp only
  rw [if_neg (by omega), show key.sem (setP st { st.p with k := st.p.k + 1 }) = (st', true) from hs]
  simp only [if_true]
/-- a block: brace, lines, brace -/
theorem block_walk {M2 : List (Bs × Int)} {st st2 : St} {ts ts2 : List Bs} (hT : Tk l st.p.k (kOpen :: nl :: ts)) (a : Walk s l L [] (setK st (st.p.k + 2)) M2 st2) (hT2 : Tk l st2.p.k (kShut :: nl :: ts2)) :
  blockS s l L st = if lackB L M2 = true then (setP st2 (failP st2.p (placeP s l st2.p.k) 183), false) else (setK st2 (st2.p.k + 2), true) := by
 unfold blockS
 rw [must_ok (w := ⟨#[123]⟩) (ts := nl :: ts) hT]
 simp only [if_true]
 rw [must_ok (p := { st.p with k := st.p.k + 1 }) hT.next]
 simp only [if_true]
 obtain ⟨F2, h2, e⟩ := a.body (l.length + 1) (by show l.length < l.length + 1 + (st.p.k + 2); omega)
 have hlt := hT2.lt
 refine Eq.trans e ?_
 obtain ⟨F2, rfl⟩ : ∃ G, F2 = G + 1 := ⟨F2 - 1, by omega⟩
 rw [bodyS, hT2.peek, if_pos (show kShut = ⟨#[125]⟩ from rfl)]
 unfold closeS
 split
 ·rfl
 ·exact end_ok' (k := st2.p.k + 1) rfl hT2.next
end
end Go.Ev.Tryd
