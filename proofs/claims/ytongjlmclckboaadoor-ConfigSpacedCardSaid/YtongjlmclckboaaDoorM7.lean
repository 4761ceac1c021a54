/- Own texts, joined: Cf10 Cf11 Cf12 Cf13 Cf14 Cf15 Cf16 Cf17 Cf18 Cf19 Cf20 Cp1 Cp2 Wc10 Cp3 Cp4 Cp5 Cp6 Cp7 Sp1. -/
import Derived.Test.YtongjlmclckboaaDoorM6
import Derived.Test.YtongjlmclckboaaDoorM4
import Derived.KernelRfl
set_option linter.all false
/- The configuration's reader: a block as a whole; the readers of keys are made. -/
namespace Go.Ev.Tryd
set_option maxRecDepth 10000
open Go.Proofs

section
variable {e : En} {S : List Nat} {h : H} {st : St}

theorem block_ret {n N : Nat} {L L0 : List (Bs × Key)} (ks : KeysOk e S h N L) (i : Inv e h st S) {im : Nat} {oL : AObj} (kL : Kept S h im oL) (hL : MObj AV.str encK L oL) (hN : N + 2 ≤ n) (h1 : 1110 ≤ n) (h2 : e.l.length + 5 ≤ n) (he : blockS e.s e.l L st = blockS e.s e.l L0 st) :
    RetK (fun kk => cr n i_config_parser_block [.ptr (some (e.b, 0)), .map (some im)] h kk) fun r h' => ∃ S', r = .bool (blockS e.s e.l L0 st).2 ∧ Fr S h S' h' ∧ Inv e h' (blockS e.s e.l L0 st).1 S' := by
  rw [← he]
  intro kk hkk
  obtain ⟨n, rfl⟩ : ∃ k, n = k + 3 := ⟨n - 3, by omega⟩
  show cr (n + 2 + 1) i_config_parser_block [.ptr (some (e.b, 0)), .map (some im)] h kk = some ()
  rw [config_parser_block_eq]
  obtain ⟨r, h3, e3, rfl, f3, j3⟩ := must_ret i n (w := ⟨#[123]⟩) (by decide)
  rw [e3, Option.bind_some, asBool_bool]
  unfold blockS at hkk
  cases hm : (mustP e.s e.l ⟨#[123]⟩ st.p).2 with
  | false =>
    rw [if_neg (by rw [hm]; decide)] at hkk
    rw [Bool.not_false, cond_true, config_parser_block_J0_eq, cond_true]
    exact hkk _ _ ⟨S, rfl, f3, j3⟩
  | true =>
    rw [if_pos hm] at hkk
    rw [Bool.not_true, cond_false]
    obtain ⟨r, h4, e4, rfl, f4, j4⟩ := must_ret j3 n (w := nl) (by decide)
    rw [e4, Option.bind_some, asBool_bool, config_parser_block_J0_eq]
    change Inv e h4 (setP st (mustP e.s e.l nl (mustP e.s e.l ⟨#[123]⟩ st.p).1).1) S at j4
    show (bif !(mustP e.s e.l nl (mustP e.s e.l ⟨#[123]⟩ st.p).1).2 then kk (.bool false) h4 else newK (.map [] 0) h4 fun i5 h6 => config_parser_block_L1 (n + 2) (n + 2) (some (e.b, 0)) (some im) (some i5) h6 kk) = some ()
    cases hm2 : (mustP e.s e.l nl (mustP e.s e.l ⟨#[123]⟩ st.p).1).2 with
    | false =>
      rw [if_neg (by rw [hm2]; decide)] at hkk
      rw [Bool.not_false, cond_true]
      exact hkk _ _ ⟨S, rfl, f3.trans f4, j4⟩
    | true =>
      rw [if_pos hm2] at hkk
      rw [Bool.not_true, cond_false, newK_eq]
      have md : Mod [] h4 (h4.new (.map [] 0)) := (Mod.refl _ _).new _
      refine block_loop ks (by omega) (by omega) kL hL kk (e.l.length + 1) (n + 2) [] (.map [] 0) _ S _ (j4.frame md) ((f3.trans f4).trans (.mod0 md)) ⟨.new _ _, fun hx => by have := j4.ltS _ hx; omega⟩ .nil (f3.trans f4).mod.next (fun w => by simp [cnt, lk]) (by omega) (by omega) fun r h' hq => ?_
      exact hkk r h' hq

/-- the order of the keys does not matter -/
theorem bodyS_perm {s : Bs} {l : List Wd} {L L' : List (Bs × Key)} (hp : L'.Perm L) (hn : (L.map (·.1)).Nodup) : ∀ (F : Nat) (M : List (Bs × Int)) (st : St), bodyS s l L' F M st = bodyS s l L F M st
  | 0, _, _ => rfl
  | F + 1, M, st => by
    unfold bodyS closeS
    rw [lackB_perm hp, lk_perm hp hn]
    cases lk L (peekP l st.p.k) with
    | none => rfl
    | some key => simp only [bodyS_perm hp hn F]
theorem blockS_perm {s : Bs} {l : List Wd} {L L' : List (Bs × Key)} (hp : L'.Perm L) (hn : (L.map (·.1)).Nodup) (st : St) : blockS s l L' st = blockS s l L st := by
  unfold blockS
  rw [bodyS_perm hp hn]
theorem KeysOk.perm {S0 : List Nat} {h0 : H} {N : Nat} {L L' : List (Bs × Key)} (ks : KeysOk e S0 h0 N L) (hp : L'.Perm L) (hn : (L.map (·.1)).Nodup) : KeysOk e S0 h0 N L' :=
  ⟨fun x hx => ks.rd x (hp.mem_iff.1 hx), fun x hx => ks.mono x (hp.mem_iff.1 hx), by rw [lk_perm hp hn]; exact ks.none, fun x hx => ks.most x (hp.mem_iff.1 hx), by rw [hp.length_eq]; exact ks.few⟩

/-! ### the makers -/

/-- what a maker gives -/
def Made (e : En) (S : List Nat) (N : Nat) (sem : St → St × Bool) (h : H) (r : AV) (h' : H) : Prop := Mod [] h h' ∧ ∃ f x y, r = .func f x y ∧ RdOk e S h' N f x y sem
def MadeT (e : En) (S : List Nat) (N : Nat) (tk : St → Bs → Int → St × Bool) (h : H) (r : AV) (h' : H) : Prop := Mod [] h h' ∧ ∃ f x y, r = .func f x y ∧ TkOk e S h' N f x y tk

theorem kept_new {h : H} (hS : ∀ x ∈ S, x < h.next) (o : AObj) : Kept S (h.new o) h.next o := ⟨.new _ _, fun hx => by have := hS _ hx; omega⟩
theorem Kept.mod0 {h' : H} {i : Nat} {o : AObj} (k : Kept S h i o) (m : Mod [] h h') : Kept S h' i o := k.fr (.mod0 m)

theorem number_mk (hS : ∀ x ∈ S, x < h.next) {q : Nat × Nat} {put : St → Int → St} (hp : PutOk e q 1 (fun v => [.int .i64 v]) put) (lo hi : Int) (n : Nat) :
    Ret (ca (n + 1) i_config_parser_number [.ptr (some (e.b, 0)), .ptr (some q), .int .i64 lo, .int .i64 hi] h) (Made e S 30 (numberS e.s e.l put lo hi) h) := by
  rw [config_parser_number_eq]
  simp only [newK_eq]
  have m1 : Mod [] h (h.new (.cells [.ptr (some (e.b, 0))] false)) := (Mod.refl _ _).new _
  have m2 := m1.new (.cells [.ptr (some q)] false)
  have m3 := m2.new (.cells [.int .i64 lo] false)
  have m4 := m3.new (.cells [.int .i64 hi] false)
  have hl : ∀ {h' : H}, Mod [] h h' → ∀ x ∈ S, x < h'.next := fun m x hx => m.lt (hS x hx)
  refine .pure ⟨m4, _, _, _, rfl, number_rd hp ?_ ?_ ?_ ?_⟩
  · exact (((kept_new hS _).mod0 ((Mod.refl _ _).new _)).mod0 ((Mod.refl _ _).new _)).mod0 ((Mod.refl _ _).new _)
  · exact (kept_new (hl m2) _).mod0 ((Mod.refl _ _).new _)
  · exact kept_new (hl m3) _
  · exact ((kept_new (hl m1) _).mod0 ((Mod.refl _ _).new _)).mod0 ((Mod.refl _ _).new _)

theorem choice_mk (hS : ∀ x ∈ S, x < h.next) {q : Nat × Nat} {put : St → Int → St} (hp : PutOk e q 1 (fun v => [.int .i64 v]) put) {m : Nat} (hm : m < h.next) (n : Nat) :
    Ret (ca (n + 1) i_config_parser_choice [.ptr (some (e.b, 0)), .ptr (some q), .map (some m)] h) fun r h' => Mod [] h h' ∧ ∃ y, r = .func i_config_parser_choice_1 [] y ∧ ∀ (S2 : List Nat) (h2 : H) (o : AObj) (L : List (Bs × Int)), (∀ j oj, Kept S h' j oj → j ≠ m → Kept S2 h2 j oj) → Kept S2 h2 m o → MObj AV.str (fun v => .int .i64 v) L o → RdOk e S2 h2 30 i_config_parser_choice_1 [] y (choiceS e.s e.l put L) := by
  rw [config_parser_choice_eq]
  simp only [newK_eq]
  have m1 : Mod [] h (h.new (.cells [.ptr (some (e.b, 0))] false)) := (Mod.refl _ _).new _
  have m2 := m1.new (.cells [.ptr (some q)] false)
  have m3 := m2.new (.cells [.map (some m)] false)
  have hl : ∀ {h' : H}, Mod [] h h' → ∀ x ∈ S, x < h'.next := fun m x hx => m.lt (hS x hx)
  refine .pure ⟨m3, _, rfl, fun S2 h2 o L hk km hm' => choice_rd hp (hk _ _ ?_ ?_) (hk _ _ ?_ ?_) (hk _ _ ?_ ?_) km hm'⟩
  · exact ((kept_new hS _).mod0 ((Mod.refl _ _).new _)).mod0 ((Mod.refl _ _).new _)
  · omega
  · exact (kept_new (hl m2) _)
  · show h.next + 1 + 1 ≠ m; omega
  · exact (kept_new (hl m1) _).mod0 ((Mod.refl _ _).new _)
  · show h.next + 1 ≠ m; omega

theorem card_mk (hS : ∀ x ∈ S, x < h.next) {N : Nat} (hw : ∀ w ∈ e.l, w.1.size < 90000 ∧ w.1.size + 70 ≤ N) (hN : 70 ≤ N) {q : Nat × Nat} {put : St → Cd → St} (hp : PutOk e q 6 enCd put) (n : Nat) :
    Ret (ca (n + 1) i_config_parser_card [.ptr (some (e.b, 0)), .ptr (some q)] h) (Made e S N (cardS e.s e.l put) h) := by
  rw [config_parser_card_eq]
  simp only [newK_eq]
  have m1 : Mod [] h (h.new (.cells [.ptr (some (e.b, 0))] false)) := (Mod.refl _ _).new _
  have m2 := m1.new (.cells [.ptr (some q)] false)
  have hl : ∀ {h' : H}, Mod [] h h' → ∀ x ∈ S, x < h'.next := fun m x hx => m.lt (hS x hx)
  refine .pure ⟨m2, _, _, _, rfl, card_rd hp hw hN ?_ ?_⟩
  · exact (kept_new hS _).mod0 ((Mod.refl _ _).new _)
  · exact kept_new (hl m1) _

theorem into_mk (hS : ∀ x ∈ S, x < h.next) {q : Nat × Nat} {put : St → Bs → St} (hp : PutOk e q 1 (fun a => [.str a]) put) (n : Nat) :
    Ret (ca (n + 1) i_config_into [.ptr (some q)] h) (MadeT e S 1 (intoS put) h) := by
  rw [config_into_eq, newK_eq]
  exact .pure ⟨(Mod.refl _ _).new _, _, _, _, rfl, into_tk hp (kept_new hS _)⟩

theorem TkOk.fr {S0 S1 : List Nat} {h0 h1 : H} {N f : Nat} {x y : List AV} {tk : St → Bs → Int → St × Bool} (r : TkOk e S0 h0 N f x y tk) (fr : Fr S0 h0 S1 h1) : TkOk e S1 h1 N f x y tk :=
  ⟨r.gives, fun n hn h S st a at' f' i => r.run n hn h S st a at' (fr.trans f') i⟩
theorem TkOk.more {S0 : List Nat} {h0 : H} {N N' f : Nat} {x y : List AV} {tk : St → Bs → Int → St × Bool} (r : TkOk e S0 h0 N f x y tk) (h : N ≤ N') : TkOk e S0 h0 N' f x y tk := ⟨r.gives, fun n hn => r.run n (by omega)⟩
theorem RdOk.more {S0 : List Nat} {h0 : H} {N N' f : Nat} {x y : List AV} {sem : St → St × Bool} (r : RdOk e S0 h0 N f x y sem) (h : N ≤ N') : RdOk e S0 h0 N' f x y sem := ⟨r.gives, fun n hn => r.run n (by omega)⟩

theorem address_mk (hS : ∀ x ∈ S, x < h.next) {N : Nat} (hw : ∀ w ∈ e.l, w.1.size < 90000 ∧ w.1.size + 70 ≤ N) (hN : 70 ≤ N) (svc : Bool) {f : Nat} {x y : List AV} {tk : St → Bs → Int → St × Bool} (ht : TkOk e S h (N - 1) f x y tk) (n : Nat) :
    Ret (ca (n + 1) i_config_parser_address [.ptr (some (e.b, 0)), .bool svc, .func f x y] h) (Made e S N (addressS e.s e.l svc tk) h) := by
  rw [config_parser_address_eq]
  simp only [newK_eq]
  have m1 : Mod [] h (h.new (.cells [.ptr (some (e.b, 0))] false)) := (Mod.refl _ _).new _
  have m2 := m1.new (.cells [.bool svc] false)
  have m3 := m2.new (.cells [.func f x y] false)
  have hl : ∀ {h' : H}, Mod [] h h' → ∀ x ∈ S, x < h'.next := fun m x hx => m.lt (hS x hx)
  refine .pure ⟨m3, _, _, _, rfl, address_rd hw hN (ht.fr (.mod0 m3)) ?_ ?_ ?_⟩
  · exact ((kept_new hS _).mod0 ((Mod.refl _ _).new _)).mod0 ((Mod.refl _ _).new _)
  · exact (kept_new (hl m1) _).mod0 ((Mod.refl _ _).new _)
  · exact kept_new (hl m2) _

theorem once_eq (need : Bool) (f : Nat) (x y : List AV) (h : H) (n : Nat) : ca (n + 1) i_config_once [.bool need, .func f x y] h = some (.agg [.int .i64 1, .bool need, .func f x y], h.new (.cells [.int .i64 1, .bool need, .func f x y] false)) := by
  rw [config_once_eq, newK_eq, box_wr (n := 3) rfl rfl rfl, aggK_all (n := 3) (get_new_self _ _) rfl]
  simp only [lI_of, lB_of, lc_cons, l0_nil]
end
end Go.Ev.Tryd

/- The configuration's reader: the block node. -/
namespace Go.Ev
theorem Mod.newO {S : List Nat} {a h : H} (q : Mod S a h) (o : Option AObj) : Mod S a (h.newO o) := ⟨by rw [next_newO]; exact Nat.le_succ_of_le q.next, fun i hi hS => by
  have hl := Nat.lt_of_lt_of_le hi q.next
  rw [get_newO (by omega)]; exact q.get i hi hS⟩
theorem restK_ret {hid : List Nat} {ins : List (Nat × AV × AV)} {h : H} {f : H → Option Unit} (h1 : ∀ q ∈ ins, q.1 ∈ hid) (h2 : ∀ i ∈ hid, i < h.next) (h3 : ins.Pairwise fun a b => a.1 = b.1 → keyCmp a.2.1 b.2.1 = some false) (hf : ∀ h', RestR hid ins h h' → f h' = some ()) : restK hid ins h f = some () := by
  unfold restK
  exact if_pos ⟨⟨h1, h2, h3⟩, hf⟩
theorem RestR.fr {hid S : List Nat} {ins : List (Nat × AV × AV)} {h h' : H} (r : RestR hid ins h h') : Fr (hid ++ S) h S h' :=
  ⟨⟨Nat.le_of_eq r.1.symm, fun i _ hS => r.2.1 i fun hi => hS (List.mem_append_left _ hi)⟩, fun i hi => .inl (List.mem_append_right _ hi)⟩
theorem RestR.mod {hid : List Nat} {ins : List (Nat × AV × AV)} {h0 h h' : H} (r : RestR hid ins h h') (m : Mod [] h0 h) (hh : ∀ i ∈ hid, h0.next ≤ i) : Mod [] h0 h' :=
  ⟨by rw [r.1]; exact m.next, fun i hi _ => by
    rw [r.2.1 i fun hm => by have := hh i hm; omega]
    exact m.get i hi (by simp)⟩
end Go.Ev
namespace Go.Ev.Tryd
set_option maxRecDepth 10000
open Go.Proofs

def forK (x : Bs × Key) : Bs × Key := (x.1, { x.2 with f := 0, x := [], y := [] })
theorem lk_forK (L : List (Bs × Key)) (w : Bs) : lk (L.map forK) w = (lk L w).map fun k => (forK (w, k)).2 := by
  induction L with
  | nil => rfl
  | cons x L ih =>
    rw [List.map_cons, lk_cons, lk_cons, ih]
    show (if w = x.1 then _ else _) = _
    split <;> rfl
theorem lackB_forK (L : List (Bs × Key)) (M : List (Bs × Int)) : lackB (L.map forK) M = lackB L M := by
  unfold lackB
  rw [List.any_map]; rfl
theorem bodyS_forK {s : Bs} {l : List Wd} {L : List (Bs × Key)} : ∀ (F : Nat) (M : List (Bs × Int)) (st : St), bodyS s l (L.map forK) F M st = bodyS s l L F M st
  | 0, _, _ => rfl
  | F + 1, M, st => by
    unfold bodyS closeS
    rw [lackB_forK, lk_forK]
    cases lk L (peekP l st.p.k) with
    | none => rfl
    | some key => simp only [Option.map_some, bodyS_forK F]; rfl
theorem blockS_forK {s : Bs} {l : List Wd} {L : List (Bs × Key)} (st : St) : blockS s l (L.map forK) st = blockS s l L st := by
  unfold blockS
  rw [bodyS_forK]
/-- keys as they are, without who reads them -/
def mkK (w : Bs) (most : Int) (need : Bool) (sem : St → St × Bool) : Bs × Key := (w, ⟨most, need, 0, [], [], sem⟩)

def putCard (st : St) (v : Cd) : St := setP st { st.p with card := v }
def putAddr (st : St) (v : Bs) : St := setP st { st.p with addr := v }
def putPeer (st : St) (v : Bs) : St := setP st { st.p with peer := v }
def putId (st : St) (v : Int) : St := setP st { st.p with id := v }
def putPrio (st : St) (v : Int) : St := setP st { st.p with prio := v }
def putEvery (st : St) (v : Int) : St := setP st { st.p with every := v }
def kMac : Bs := ⟨#[109, 97, 99]⟩
def kAddress : Bs := ⟨#[97, 100, 100, 114, 101, 115, 115]⟩
def kPeer : Bs := ⟨#[112, 101, 101, 114]⟩
def nodeK (s : Bs) (l : List Wd) : List (Bs × Key) := [mkK kMac 1 true (cardS s l putCard), mkK kAddress 1 true (addressS s l false (intoS putAddr)), mkK kPeer 1 true (addressS s l false (intoS putPeer))]
def nodeS (s : Bs) (l : List Wd) (st : St) : St × Bool := blockS s l (nodeK s l) st

theorem putOk_p {e : En} {α : Type} {o n : Nat} {enc : α → List AV} {put : Ps → α → Ps} (hn : ∀ v, (enc v).length = n) (hl : o + n ≤ 21) (hc : ∀ v, (enc v).all isCell = true) (hv : ∀ g p v, spl (encP e g p) o (enc v) = encP e g (put p v))
    (hs : ∀ p v, (put p v).spots = p.spots ∧ (put p v).vips = p.vips ∧ (put p v).trs = p.trs ∧ (put p v).svs = p.svs ∧ (put p v).k = p.k) : PutOk e (e.b, o) n enc (fun st v => setP st (put st.p v)) := by
  intro h st S v i
  obtain ⟨h1, h2, h3, h4, h5⟩ := hs st.p v
  have ok := i.okp
  exact i.wrP (hn v) hl (hc v) (fun g => hv g st.p v) h1 h2 h3 h4 ⟨by show (put st.p v).k ≤ _; rw [h5]; exact ok.k, by show (put st.p v).spots.length ≤ (put st.p v).k; rw [h1, h5]; exact ok.spots, by show (put st.p v).vips.length ≤ (put st.p v).k; rw [h2, h5]; exact ok.vips, by show (put st.p v).trs.length ≤ (put st.p v).k; rw [h3, h5]; exact ok.trs, by show (put st.p v).svs.length ≤ (put st.p v).k; rw [h4, h5]; exact ok.svs, by show st.sv.bks.length ≤ (put st.p v).k; rw [h5]; exact ok.bks, ok.len⟩
theorem put_card (e : En) : PutOk e (e.b, 3) 6 enCd putCard := putOk_p (put := fun p v => { p with card := v }) (fun _ => rfl) (by decide) (fun _ => rfl) (fun _ _ _ => rfl) fun _ _ => ⟨rfl, rfl, rfl, rfl, rfl⟩
theorem put_addr (e : En) : PutOk e (e.b, 9) 1 (fun a => [.str a]) putAddr := putOk_p (put := fun p v => { p with addr := v }) (fun _ => rfl) (by decide) (fun _ => rfl) (fun _ _ _ => rfl) fun _ _ => ⟨rfl, rfl, rfl, rfl, rfl⟩
theorem put_peer (e : En) : PutOk e (e.b, 10) 1 (fun a => [.str a]) putPeer := putOk_p (put := fun p v => { p with peer := v }) (fun _ => rfl) (by decide) (fun _ => rfl) (fun _ _ _ => rfl) fun _ _ => ⟨rfl, rfl, rfl, rfl, rfl⟩
theorem put_id (e : En) : PutOk e (e.b, 11) 1 (fun v => [.int .i64 v]) putId := putOk_p (put := fun p v => { p with id := v }) (fun _ => rfl) (by decide) (fun _ => rfl) (fun _ _ _ => rfl) fun _ _ => ⟨rfl, rfl, rfl, rfl, rfl⟩
theorem put_prio (e : En) : PutOk e (e.b, 12) 1 (fun v => [.int .i64 v]) putPrio := putOk_p (put := fun p v => { p with prio := v }) (fun _ => rfl) (by decide) (fun _ => rfl) (fun _ _ _ => rfl) fun _ _ => ⟨rfl, rfl, rfl, rfl, rfl⟩
theorem put_every (e : En) : PutOk e (e.b, 13) 1 (fun v => [.int .i64 v]) putEvery := putOk_p (put := fun p v => { p with every := v }) (fun _ => rfl) (by decide) (fun _ => rfl) (fun _ _ _ => rfl) fun _ _ => ⟨rfl, rfl, rfl, rfl, rfl⟩

/-! ### the place in the text never goes back -/

theorem mustP_k (s : Bs) (l : List Wd) (w : Bs) (p : Ps) : p.k ≤ (mustP s l w p).1.k := by
  unfold mustP
  split
  · exact Nat.le_succ _
  · rw [(failP_k _ _ _).1]; exact Nat.le_refl _
theorem valueP_le (s : Bs) (l : List Wd) (p : Ps) : p.k ≤ (valueP s l p).1.k := by
  unfold valueP
  split
  · rw [(failP_k _ _ _).1]; exact Nat.le_refl _
  · exact Nat.le_succ _
theorem endL_k (s : Bs) (l : List Wd) (st : St) : st.p.k ≤ (endL s l st).1.p.k := mustP_k s l nl st.p
theorem numberS_k {s : Bs} {l : List Wd} {put : St → Int → St} (hp : ∀ st v, (put st v).p.k = st.p.k) (lo hi : Int) (st : St) : st.p.k ≤ (numberS s l put lo hi st).1.p.k := by
  unfold numberS
  have hv := valueP_le s l st.p
  generalize valueP s l st.p = v at hv
  obtain ⟨p, w, a, is⟩ := v
  cases is with
  | false => exact hv
  | true =>
    rw [show numberV s l put lo hi st (p, w, a, true) = if (numP (bs w)).2 = true ∧ lo ≤ (numP (bs w)).1 ∧ (numP (bs w)).1 ≤ hi then endL s l (put (setP st p) (numP (bs w)).1) else (setP st (failP p a 182), false) from rfl]
    split
    · refine Nat.le_trans hv (Nat.le_trans ?_ (endL_k _ _ _))
      rw [hp]; exact Nat.le_refl _
    · show st.p.k ≤ (failP p a 182).k
      rw [(failP_k _ _ _).1]; exact hv
theorem choiceS_k {s : Bs} {l : List Wd} {put : St → Int → St} (hp : ∀ st v, (put st v).p.k = st.p.k) (L : List (Bs × Int)) (st : St) : st.p.k ≤ (choiceS s l put L st).1.p.k := by
  unfold choiceS
  have hv := valueP_le s l st.p
  generalize valueP s l st.p = v at hv
  obtain ⟨p, w, a, is⟩ := v
  cases is with
  | false => exact hv
  | true =>
    rw [show choiceV s l put L st (p, w, a, true) = (match lk L w with | some v => endL s l (put (setP st p) v) | none => (setP st (failP p a 182), false)) from rfl]
    split
    · refine Nat.le_trans hv (Nat.le_trans ?_ (endL_k _ _ _))
      rw [hp]; exact Nat.le_refl _
    · show st.p.k ≤ (failP p a 182).k
      rw [(failP_k _ _ _).1]; exact hv
theorem cardS_k {s : Bs} {l : List Wd} {put : St → Cd → St} (hp : ∀ st v, (put st v).p.k = st.p.k) (st : St) : st.p.k ≤ (cardS s l put st).1.p.k := by
  unfold cardS
  have hv := valueP_le s l st.p
  generalize valueP s l st.p = v at hv
  obtain ⟨p, w, a, is⟩ := v
  cases is with
  | false => exact hv
  | true =>
    rw [show cardV s l put st (p, w, a, true) = if (cardP w).2 = true then endL s l (put (setP st p) (cdOf (cardP w).1)) else (setP st (failP p a 182), false) from rfl]
    split
    · refine Nat.le_trans hv (Nat.le_trans ?_ (endL_k _ _ _))
      rw [hp]; exact Nat.le_refl _
    · show st.p.k ≤ (failP p a 182).k
      rw [(failP_k _ _ _).1]; exact hv
theorem addressS_k {s : Bs} {l : List Wd} {svc : Bool} {tk : St → Bs → Int → St × Bool} (hp : ∀ st a at', (tk st a at').1.p.k = st.p.k) (st : St) : st.p.k ≤ (addressS s l svc tk st).1.p.k := by
  unfold addressS
  have hv := valueP_le s l st.p
  generalize valueP s l st.p = v at hv
  obtain ⟨p, w, a, is⟩ := v
  cases is with
  | false => exact hv
  | true =>
    rw [show addressV s l svc tk st (p, w, a, true) = if (adrP w).2 = true then thenEnd s l (tk (setP st { p with spots := p.spots ++ [((adrP w).1, a, svc)] }) (adrP w).1 a) else (setP st (failP p a 182), false) from rfl]
    split
    · have := hp (setP st { p with spots := p.spots ++ [((adrP w).1, a, svc)] }) (adrP w).1 a
      unfold thenEnd
      split
      · refine Nat.le_trans hv (Nat.le_trans ?_ (endL_k _ _ _))
        rw [this]; exact Nat.le_refl _
      · refine Nat.le_trans hv ?_
        show p.k ≤ (tk _ _ _).1.p.k
        rw [this]; exact Nat.le_refl _
    · show st.p.k ≤ (failP p a 182).k
      rw [(failP_k _ _ _).1]; exact hv
theorem bodyS_k {s : Bs} {l : List Wd} {L : List (Bs × Key)} (hL : ∀ x ∈ L, ∀ st : St, st.p.k ≤ (x.2.sem st).1.p.k) : ∀ (F : Nat) (M : List (Bs × Int)) (st : St), st.p.k ≤ (bodyS s l L F M st).1.p.k
  | 0, _, _ => Nat.le_refl _
  | F + 1, M, st => by
    unfold bodyS
    split
    · unfold closeS
      split
      · show st.p.k ≤ (failP _ _ _).k
        rw [(failP_k _ _ _).1]; exact Nat.le_refl _
      · exact Nat.le_trans (Nat.le_succ _) (endL_k s l (setP st { st.p with k := st.p.k + 1 }))
    · split
      · show st.p.k ≤ (failP _ _ _).k
        rw [(failP_k _ _ _).1]; exact Nat.le_refl _
      · next key hlk =>
        have h1 : st.p.k ≤ (key.sem (setP st { st.p with k := st.p.k + 1 })).1.p.k := Nat.le_trans (Nat.le_succ _) (hL _ (lk_mem hlk) (setP st { st.p with k := st.p.k + 1 }))
        split
        · show st.p.k ≤ (failP _ _ _).k
          rw [(failP_k _ _ _).1]; exact Nat.le_refl _
        · split
          · exact Nat.le_trans h1 (bodyS_k hL F _ _)
          · exact h1
theorem blockS_k {s : Bs} {l : List Wd} {L : List (Bs × Key)} (hL : ∀ x ∈ L, ∀ st : St, st.p.k ≤ (x.2.sem st).1.p.k) (st : St) : st.p.k ≤ (blockS s l L st).1.p.k := by
  unfold blockS
  have h1 := mustP_k s l ⟨#[123]⟩ st.p
  have h2 := mustP_k s l nl (mustP s l ⟨#[123]⟩ st.p).1
  split
  · split
    · exact Nat.le_trans (Nat.le_trans h1 h2) (bodyS_k hL _ _ (setP st (mustP s l nl (mustP s l ⟨#[123]⟩ st.p).1).1))
    · exact Nat.le_trans h1 h2
  · exact h1
end Go.Ev.Tryd

/- The configuration's reader: the block node. -/
namespace Go.Ev.Tryd
set_option maxRecDepth 10000
open Go.Proofs

theorem relK {f : Nat} (hf : (fnd T.tblR f).isSome = true) {n : Nat} {args : List AV} {h : H} {Q : AV → H → Prop} (r : RetK (fun kk => cr n f args h kk) Q) : RetK (fun kk => callU T n f args h kk) Q := by
  intro kk hk
  show callU T n f args h kk = some ()
  unfold callU
  rw [hf]
  exact r kk hk
theorem newHK_eq {β : Type} (h : H) (f : Nat → H → Option β) : newHK h f = f h.next (h.newO none) := rfl
def insK (m : Nat) (L : List (Bs × Key)) : List (Nat × AV × AV) := L.map fun x => (m, .str x.1, encK x.2)
theorem pairwise_keys {m : Nat} {L : List (Bs × Key)} (hn : (L.map (·.1)).Nodup) : (insK m L).Pairwise fun a b => a.1 = b.1 → keyCmp a.2.1 b.2.1 = some false := by
  unfold insK
  rw [List.pairwise_map]
  rw [List.Nodup, List.pairwise_map] at hn
  refine hn.imp fun {a b} h _ => ?_
  rw [keys_str]
  simp [h]

section
variable {e : En} {S : List Nat} {h : H} {st : St}

/-- the keys' map is filled: the block is read -/
theorem keys_block {hid : List Nat} {m : Nat} {L L0 : List (Bs × Key)} {ins : List (Nat × AV × AV)} {hb h : H} (i : Inv e hb st S) (md : Mod [] hb h) (hh : ∀ x ∈ hid, hb.next ≤ x) (hm : m ∈ hid) (hlt : m < h.next) (hins : (ins.filter fun q => q.1 == m).map (·.2) = L.map fun x => (.str x.1, encK x.2))
    {h' : H} (r : RestR hid ins h h') {N n : Nat} (ks : KeysOk e S h' N L) (hn : (L.map (·.1)).Nodup) (hL0 : L.map forK = L0) (hN : N + 2 ≤ n) (h1 : 1110 ≤ n) (h2 : e.l.length + 5 ≤ n) :
    RetK (fun kk => cr n i_config_parser_block [.ptr (some (e.b, 0)), .map (some m)] h' kk) fun r h'' => ∃ S', r = .bool (blockS e.s e.l L0 st).2 ∧ Fr S hb S' h'' ∧ Inv e h'' (blockS e.s e.l L0 st).1 S' := by
  have md' : Mod [] hb h' := r.mod md hh
  obtain ⟨es, clk, hg, hp, hnd, hbn⟩ := r.2.2 m hm
  rw [hins] at hp
  obtain ⟨L', hp', hM⟩ := MObj.of_perm (ek := AV.str) (ev := encK) hp hnd hbn
  replace hlt : m < h'.next := by rw [r.1]; exact hlt
  have i' := i.frame md'
  refine (block_ret (ks.perm hp' hn) i' ⟨⟨hlt, hg⟩, fun hx => by have := i.ltS _ hx; have := hh m hm; omega⟩ hM hN h1 h2 (L0 := L0) ?_).mono ?_
  · rw [blockS_perm hp' hn, ← hL0, blockS_forK]
  · rintro r h2 ⟨S', e1, f1, j1⟩
    exact ⟨S', e1, (Fr.mod0 md').trans f1, j1⟩

def Words (l : List Wd) : Prop := ∀ w ∈ l, w.1.size ≤ 80000

theorem once_k {S : List Nat} {h : H} {N n : Nat} {sem : St → St × Bool} {c : Option (AV × H)} (r : Ret c (Made e S N sem h)) {need : Bool} {k : Int → Bool → AV → AV × H → Option Unit}
    (hk : ∀ f x y h' v, Mod [] h h' → RdOk e S h' N f x y sem → k 1 need (.func f x y) (v, h') = some ()) :
    (c.bind fun q => asFn q.1 fun f x y => (ca (n + 1) i_config_once [.bool need, .func f x y] q.2).bind fun q' => asAgg q'.1 fun l => lI l fun i l => lB l fun b l => lc l fun v l => l0 l (k i b v q')) = some () := by
  obtain ⟨r, h1, rfl, m1, f, x, y, rfl, rd⟩ := r
  rw [Option.bind_some, asFn_of, once_eq, Option.bind_some]
  simp only [asAgg_agg, lI_of, lB_of, lc_cons, l0_nil]
  exact hk f x y _ _ (m1.new _) (rd.fr (.mod0 ((Mod.refl _ _).new _)))
theorem fn_k {S : List Nat} {h : H} {N : Nat} {tk : St → Bs → Int → St × Bool} {c : Option (AV × H)} (r : Ret c (MadeT e S N tk h)) {k : Nat → List AV → List AV → AV × H → Option Unit}
    (hk : ∀ f x y h' v, Mod [] h h' → TkOk e S h' N f x y tk → k f x y (v, h') = some ()) : (c.bind fun q => asFn q.1 fun f x y => k f x y q) = some () := by
  obtain ⟨r, h1, rfl, m1, f, x, y, rfl, rd⟩ := r
  rw [Option.bind_some, asFn_of]
  exact hk f x y _ _ m1 rd

theorem node_rd (e : En) (S0 : List Nat) (h0 : H) (hw : Words e.l) {N : Nat} (hN : 90000 + e.l.length ≤ N) : RdOk e S0 h0 N i_config_parser_node [.ptr (some (e.b, 0))] [] (nodeS e.s e.l) := by
  refine ⟨fun b k => by kernel_rfl, fun n hn h S st _ i => relK (by kernel_rfl) ?_⟩
  intro kk hkk
  obtain ⟨n, rfl⟩ : ∃ k, n = k + 2 := ⟨n - 2, by omega⟩
  show cr (n + 1 + 1) i_config_parser_node [.ptr (some (e.b, 0))] h kk = some ()
  have hw' : ∀ w ∈ e.l, w.1.size < 90000 ∧ w.1.size + 70 ≤ 80070 := fun w hx => by have := hw w hx; omega
  rw [config_parser_node_eq, newHK_eq]
  simp only [nnK_some', Nat.zero_add]
  have hS := i.ltS
  have m0 : Mod [] h (h.newO none) := (Mod.refl _ _).newO _
  have hS0 : ∀ x ∈ [h.next] ++ S, x < (h.newO none).next := by
    intro x hx
    rw [next_newO]
    rcases List.mem_append.1 hx with hx | hx
    · obtain rfl := List.mem_singleton.1 hx; exact Nat.lt_succ_self _
    · exact Nat.lt_succ_of_lt (hS x hx)
  have up : ∀ {h' h'' : H}, Mod [] h' h'' → (∀ x ∈ [h.next] ++ S, x < h'.next) → ∀ x ∈ [h.next] ++ S, x < h''.next := fun m hh x hx => m.lt (hh x hx)
  refine once_k (card_mk hS0 hw' (by omega) (put_card e) n) fun f1 x1 y1 h1 v1 m1 d1 => ?_
  have u1 := up m1 hS0
  refine fn_k (into_mk u1 (put_addr e) n) fun f2 x2 y2 h2 v2 m2 d2 => ?_
  have u2 := up m2 u1
  refine once_k (address_mk u2 hw' (by omega) false (d2.more (N' := 80069) (by omega)) n) fun f3 x3 y3 h3 v3 m3 d3 => ?_
  have u3 := up m3 u2
  refine fn_k (into_mk u3 (put_peer e) n) fun f4 x4 y4 h4 v4 m4 d4 => ?_
  have u4 := up m4 u3
  refine once_k (address_mk u4 hw' (by omega) false (d4.more (N' := 80069) (by omega)) n) fun f5 x5 y5 h5 v5 m5 d5 => ?_
  have md : Mod [] h h5 := ((((m0.trans m1).trans m2).trans m3).trans m4).trans m5
  have d3' := (d3.fr (.mod0 (m4.trans m5)))
  have d1' := (d1.fr (.mod0 (((m2.trans m3).trans m4).trans m5)))
  have hlt : h.next < h5.next := up m5 u4 h.next (by simp)
  refine restK_ret (by simp) (by simpa using hlt) (pairwise_keys (m := h.next) (L := [(kMac, ⟨1, true, f1, x1, y1, cardS e.s e.l putCard⟩), (kAddress, ⟨1, true, f3, x3, y3, addressS e.s e.l false (intoS putAddr)⟩), (kPeer, ⟨1, true, f5, x5, y5, addressS e.s e.l false (intoS putPeer)⟩)]) (by simp [kMac, kAddress, kPeer])) fun h6 r => ?_
  have fr : Fr ([h.next] ++ S) h5 S h6 := r.fr
  refine keys_block (n := n + 1) (N := 80070) (L := [(kMac, ⟨1, true, f1, x1, y1, cardS e.s e.l putCard⟩), (kAddress, ⟨1, true, f3, x3, y3, addressS e.s e.l false (intoS putAddr)⟩), (kPeer, ⟨1, true, f5, x5, y5, addressS e.s e.l false (intoS putPeer)⟩)]) (L0 := nodeK e.s e.l) i md (by simp) (List.mem_singleton.2 rfl) hlt (by simp [encK, kMac, kAddress, kPeer]) r ⟨?_, ?_, rfl, ?_, by simp⟩ (by simp [kMac, kAddress, kPeer]) rfl (by omega) (by omega) (by omega) _ fun r' h7 hq => ?_
  · intro x hx
    simp only [List.mem_cons, List.not_mem_nil, or_false] at hx
    rcases hx with rfl | rfl | rfl
    · exact d1'.fr fr
    · exact d3'.fr fr
    · exact d5.fr fr
  · intro x hx
    simp only [List.mem_cons, List.not_mem_nil, or_false] at hx
    rcases hx with rfl | rfl | rfl
    · exact cardS_k fun _ _ => rfl
    · exact addressS_k fun _ _ _ => rfl
    · exact addressS_k fun _ _ _ => rfl
  · intro x hx
    simp only [List.mem_cons, List.not_mem_nil, or_false] at hx
    rcases hx with rfl | rfl | rfl <;> exact (by decide : (1 : Int) ≤ 1000)
  · obtain ⟨S', rfl, f7, j7⟩ := hq
    rw [asBool_bool]
    exact hkk _ _ ⟨S', rfl, f7, j7⟩
end
end Go.Ev.Tryd

/- The configuration's reader: the block vrrp. -/
namespace Go.Ev.Tryd
set_option maxRecDepth 10000
open Go.Proofs

def putYes (st : St) (v : Int) : St := { st with yes := v }
def kId : Bs := ⟨#[105, 100]⟩
def kPrio : Bs := ⟨#[112, 114, 105, 111, 114, 105, 116, 121]⟩
def kEvery : Bs := ⟨#[101, 118, 101, 114, 121]⟩
def kYes : Bs := ⟨#[121, 101, 115]⟩
def kNo : Bs := ⟨#[110, 111]⟩
def kPreempt : Bs := ⟨#[112, 114, 101, 101, 109, 112, 116]⟩
def kVip : Bs := ⟨#[118, 105, 112]⟩
def kTrack : Bs := ⟨#[116, 114, 97, 99, 107]⟩
def yesNo : List (Bs × Int) := [(kYes, 1), (kNo, 0)]
def vrrpK (s : Bs) (l : List Wd) : List (Bs × Key) := [mkK kId 1 true (numberS s l putId 1 255), mkK kPrio 1 true (numberS s l putPrio 1 255), mkK kEvery 1 true (numberS s l putEvery 1 4095), mkK kPreempt 1 false (choiceS s l putYes yesNo), mkK kVip 8 true (addressS s l false vipS), mkK kTrack 8 false (trackS s l)]
def preS (r : St × Bool) : St × Bool := (setP r.1 { r.1.p with pre := r.1.yes == 1 }, r.2)
def vrrpS (s : Bs) (l : List Wd) (st : St) : St × Bool := preS (blockS s l (vrrpK s l) { st with yes := 1 })

theorem choiceS_perm {s : Bs} {l : List Wd} {put : St → Int → St} {L L' : List (Bs × Int)} (hp : L'.Perm L) (hn : (L.map (·.1)).Nodup) : choiceS s l put L' = choiceS s l put L := by
  funext st
  unfold choiceS
  generalize valueP s l st.p = v
  obtain ⟨p, w, a, is⟩ := v
  cases is with
  | false => rfl
  | true =>
    show (match lk L' w with | some v => endL s l (put (setP st p) v) | none => (setP st (failP p a 182), false)) = (match lk L w with | some v => endL s l (put (setP st p) v) | none => (setP st (failP p a 182), false))
    rw [lk_perm hp hn]
theorem trackS_k (s : Bs) (l : List Wd) (st : St) : st.p.k ≤ (trackS s l st).1.p.k := by
  have hn : st.p.k ≤ (namedP s l (st.p.trs.map (·.1)) st.p).1.k := by
    unfold namedP
    have hv := valueP_le s l st.p
    generalize valueP s l st.p = v at hv
    obtain ⟨p, w, a, is⟩ := v
    cases is with
    | false => exact hv
    | true =>
      rw [show namedV (st.p.trs.map (·.1)) (p, w, a, true) = if 40 < w.size then (failP p a 182, ⟨#[]⟩, false) else if memB w (st.p.trs.map (·.1)) = true then (failP p a 181, ⟨#[]⟩, false) else (p, w, true) from rfl]
      split
      · show st.p.k ≤ (failP p a 182).k
        rw [(failP_k _ _ _).1]; exact hv
      · split
        · show st.p.k ≤ (failP p a 181).k
          rw [(failP_k _ _ _).1]; exact hv
        · exact hv
  unfold trackS
  generalize namedP s l (st.p.trs.map (·.1)) st.p = v at hn
  obtain ⟨p, nm, is⟩ := v
  cases is with
  | false => exact hn
  | true =>
    show st.p.k ≤ (weightV s l nm st (valueP s l p)).1.p.k
    have hv := Nat.le_trans hn (valueP_le s l p)
    generalize valueP s l p = v at hv
    obtain ⟨p, w, a, is⟩ := v
    cases is with
    | false => exact hv
    | true =>
      unfold weightV
      simp only
      split
      · exact Nat.le_trans hv (endL_k s l (setP st { p with trs := p.trs ++ [(nm, if (dashP w).2 = true then - (numP (bs (dashP w).1)).1 else (numP (bs (dashP w).1)).1)] }))
      · show st.p.k ≤ (failP p a 182).k
        rw [(failP_k _ _ _).1]; exact hv
theorem vipS_k (st : St) (a : Bs) (at' : Int) : (vipS st a at').1.p.k = st.p.k := by
  unfold vipS
  split
  · exact (failP_k _ _ _).1
  · rfl

section
variable {e : En} {S : List Nat} {h : H} {st : St}
theorem once_g {h : H} {n : Nat} {P : Nat → List AV → List AV → H → Prop} {c : Option (AV × H)} (r : Ret c fun r h' => Mod [] h h' ∧ ∃ f x y, r = .func f x y ∧ P f x y h') {need : Bool} {k : Int → Bool → AV → AV × H → Option Unit}
    (hk : ∀ f x y h' h'' v, Mod [] h h' → P f x y h' → Mod [] h' h'' → k 1 need (.func f x y) (v, h'') = some ()) :
    (c.bind fun q => asFn q.1 fun f x y => (ca (n + 1) i_config_once [.bool need, .func f x y] q.2).bind fun q' => asAgg q'.1 fun l => lI l fun i l => lB l fun b l => lc l fun v l => l0 l (k i b v q')) = some () := by
  obtain ⟨r, h1, rfl, m1, f, x, y, rfl, rd⟩ := r
  rw [Option.bind_some, asFn_of, once_eq, Option.bind_some]
  simp only [asAgg_agg, lI_of, lB_of, lc_cons, l0_nil]
  exact hk f x y _ _ _ m1 rd ((Mod.refl _ _).new _)
theorem fnM_k {S : List Nat} {h : H} {N : Nat} {sem : St → St × Bool} {c : Option (AV × H)} (r : Ret c (Made e S N sem h)) {k : Nat → List AV → List AV → AV × H → Option Unit}
    (hk : ∀ f x y h' v, Mod [] h h' → RdOk e S h' N f x y sem → k f x y (v, h') = some ()) : (c.bind fun q => asFn q.1 fun f x y => k f x y q) = some () := by
  obtain ⟨r, h1, rfl, m1, f, x, y, rfl, rd⟩ := r
  rw [Option.bind_some, asFn_of]
  exact hk f x y _ _ m1 rd
theorem put_yes {e : En} {b : Nat} (he : e.yes = some b) : PutOk e (b, 0) 1 (fun v => [.int .i64 v]) putYes := fun _ _ _ v i => i.wrY he v
theorem Inv.cellY (i : Inv e h st S) {b : Nat} (he : e.yes = some b) {β : Type} (k : AV → Option β) : cellK h b 0 k = k (.int .i64 st.yes) := by
  obtain ⟨g, rfl, i⟩ := i
  exact i.ow.cell (i.fy.trans he) (by rw [i.cy]; rfl) k
theorem restChoice {hid S : List Nat} {ins : List (Nat × AV × AV)} {h h' : H} (r : RestR hid ins h h') {m : Nat} (hm : m ∈ hid) (hlt : m < h.next) (hS : m ∉ S) {L : List (Bs × Int)} (hins : (ins.filter fun q => q.1 == m).map (·.2) = L.map fun x => (AV.str x.1, AV.int .i64 x.2)) :
    ∃ L' o, L'.Perm L ∧ Kept S h' m o ∧ MObj AV.str (fun v => .int .i64 v) L' o := by
  obtain ⟨es, clk, hg, hp, hnd, hbn⟩ := r.2.2 m hm
  rw [hins] at hp
  obtain ⟨L', hp', hM⟩ := MObj.of_perm (ek := AV.str) (ev := fun v => AV.int .i64 v) hp hnd hbn
  exact ⟨L', _, hp', ⟨⟨by rw [r.1]; exact hlt, hg⟩, hS⟩, hM⟩
theorem key_str (a b : Bs) : keyCmp (.str a) (.str b) = some (decide (a = b)) := keys_str a b

theorem vrrp_rd (e : En) (hy : e.yes = none) (S0 : List Nat) (h0 : H) (hw : Words e.l) {N : Nat} (hN : 90000 + e.l.length ≤ N) : RdOk e S0 h0 N i_config_parser_vrrp [.ptr (some (e.b, 0))] [] (vrrpS e.s e.l) := by
  refine ⟨fun b k => by kernel_rfl, fun n hn h S st _ i0 => relK (by kernel_rfl) ?_⟩
  intro kk hkk
  obtain ⟨n, rfl⟩ : ∃ k, n = k + 2 := ⟨n - 2, by omega⟩
  show cr (n + 1 + 1) i_config_parser_vrrp [.ptr (some (e.b, 0))] h kk = some ()
  have hw' : ∀ w ∈ e.l, w.1.size < 90000 ∧ w.1.size + 70 ≤ 80100 + e.l.length := fun w hx => by have := hw w hx; omega
  rw [config_parser_vrrp_eq, newK_eq, box_wr (n := 1) rfl rfl rfl]
  have ma : Mod [] h (h.new (.cells [.int .i64 1] false)) := (Mod.refl _ _).new _
  obtain ⟨S, fa, i⟩ := i0.openY hy (Nat.le_refl h.next) (.new h (.cells [.int .i64 1] false)) ma
  generalize h.next = by_ at i ⊢
  generalize h.new (.cells [.int .i64 1] false) = ha at i fa ⊢
  rw [newHK_eq]
  simp only [nnK_some', Nat.zero_add]
  have hS := i.ltS
  have m0 : Mod [] ha (ha.newO none) := (Mod.refl _ _).newO _
  have hS0 : ∀ x ∈ [ha.next] ++ S, x < (ha.newO none).next := by
    intro x hx
    rw [next_newO]
    rcases List.mem_append.1 hx with hx | hx
    · obtain rfl := List.mem_singleton.1 hx; exact Nat.lt_succ_self _
    · exact Nat.lt_succ_of_lt (hS x hx)
  have up : ∀ {T : List Nat} {h' h'' : H}, Mod [] h' h'' → (∀ x ∈ T, x < h'.next) → ∀ x ∈ T, x < h''.next := fun m hh x hx => m.lt (hh x hx)
  refine once_k (number_mk hS0 (put_id { e with yes := some by_ }) 1 255 n) fun f1 x1 y1 h1 v1 m1 d1 => ?_
  have u1 := up m1 hS0
  refine once_k (number_mk u1 (put_prio { e with yes := some by_ }) 1 255 n) fun f2 x2 y2 h2 v2 m2 d2 => ?_
  have u2 := up m2 u1
  refine once_k (number_mk u2 (put_every { e with yes := some by_ }) 1 4095 n) fun f3 x3 y3 h3 v3 m3 d3 => ?_
  have u3 := up m3 u2
  rw [newHK_eq]
  have m4 : Mod [] h3 (h3.newO none) := (Mod.refl _ _).newO _
  have u4 : ∀ x ∈ [ha.next, h3.next] ++ S, x < (h3.newO none).next := by
    intro x hx
    rw [next_newO]
    simp only [List.cons_append, List.nil_append, List.mem_cons] at hx
    rcases hx with rfl | rfl | hx
    · exact Nat.lt_succ_of_lt (u3 _ (by simp))
    · exact Nat.lt_succ_self _
    · exact Nat.lt_succ_of_lt (u3 _ (by simp [hx]))
  have hne : ha.next ≠ h3.next := fun e' => by have := u3 ha.next (by simp); omega
  have T : ∀ {h' h'' : H}, Mod [] h' h'' → h'.next ≤ h3.next → Fr ([ha.next] ++ S) h' ([ha.next, h3.next] ++ S) h'' := fun m hl => ⟨m.of_nil, fun y hy => by
    simp only [List.cons_append, List.nil_append, List.mem_cons] at hy ⊢
    rcases hy with rfl | rfl | hy
    · exact .inl (.inl rfl)
    · exact .inr hl
    · exact .inl (.inr hy)⟩
  have hc := choice_mk (e := { e with yes := some by_ }) (S := [ha.next, h3.next] ++ S) u4 (put_yes rfl) (m := h3.next) (u4 h3.next (by simp)) (n := n)
  refine once_g (P := fun f x y h' => f = i_config_parser_choice_1 ∧ x = [] ∧ ∀ (S2 : List Nat) (h2 : H) (o : AObj) (L : List (Bs × Int)), (∀ j oj, Kept ([ha.next, h3.next] ++ S) h' j oj → j ≠ h3.next → Kept S2 h2 j oj) → Kept S2 h2 h3.next o → MObj AV.str (fun v => .int .i64 v) L o → RdOk { e with yes := some by_ } S2 h2 30 i_config_parser_choice_1 [] y (choiceS e.s e.l putYes L)) (hc.mono fun r h' ⟨q1, y, q2, q3⟩ => ⟨q1, _, _, y, q2, rfl, rfl, q3⟩) fun f5 x5 y5 h5 h6 v6 m5 P5 m6 => ?_
  obtain ⟨rfl, rfl, P5⟩ := P5
  have u6 := up (m5.trans m6) u4
  refine fnM_k (address_mk (e := { e with yes := some by_ }) (N := 80100 + e.l.length) u6 hw' (by omega) false (vip_tk (by show e.l.length + 10 ≤ _; omega)) n) fun f7 x7 y7 h7 v7 m7 d7 => ?_
  have u7 := up m7 u6
  have m47 : Mod [] h3 h7 := ((m4.trans m5).trans m6).trans m7
  have md : Mod [] ha h7 := (((m0.trans m1).trans m2).trans m3).trans m47
  have g1 := d1.fr (T ((m2.trans m3).trans m47) (m2.trans m3).next)
  have g2 := d2.fr (T (m3.trans m47) m3.next)
  have g3 := d3.fr (T m47 (Nat.le_refl _))
  refine restK_ret (by simp) (by simpa using ⟨u7 ha.next (by simp), u7 h3.next (by simp)⟩) (by simp [List.pairwise_cons, key_str, hne, hne.symm]) fun h8 r => ?_
  dsimp only at r ⊢
  have fr : Fr ([ha.next, h3.next] ++ S) h7 S h8 := r.fr
  have hout : h3.next ∉ S := fun hx => by have := hS _ hx; have := (m0.trans ((m1.trans m2).trans m3)).next; omega
  obtain ⟨LC, oC, hpC, kC, hC⟩ := restChoice r (S := S) (m := h3.next) (by simp) (u7 h3.next (by simp)) hout (L := yesNo) (by simp [yesNo, kYes, kNo, hne])
  have g5 := P5 S h8 oC LC (fun j oj k _ => (k.mod0 (m6.trans m7)).fr fr) kC hC
  rw [choiceS_perm hpC (by simp [yesNo, kYes, kNo])] at g5
  refine keys_block (n := n + 1) (N := 80200 + e.l.length) (L := [(kId, ⟨1, true, f1, x1, y1, numberS e.s e.l putId 1 255⟩), (kPrio, ⟨1, true, f2, x2, y2, numberS e.s e.l putPrio 1 255⟩), (kEvery, ⟨1, true, f3, x3, y3, numberS e.s e.l putEvery 1 4095⟩), (kPreempt, ⟨1, false, i_config_parser_choice_1, [], y5, choiceS e.s e.l putYes yesNo⟩), (kVip, ⟨8, true, f7, x7, y7, addressS e.s e.l false vipS⟩), (kTrack, ⟨8, false, i_config_parser_track, [.ptr (some (e.b, 0))], [], trackS e.s e.l⟩)]) (L0 := vrrpK e.s e.l) i md (by simp; exact (m0.trans ((m1.trans m2).trans m3)).next) (by simp) (u7 ha.next (by simp)) (by simp [encK, kId, kPrio, kEvery, kPreempt, kVip, kTrack, hne.symm]) r ⟨?_, ?_, rfl, ?_, by simp⟩ (by simp [kId, kPrio, kEvery, kPreempt, kVip, kTrack]) rfl (by omega) (by omega) (by simp; omega) _ fun r' h9 hq => ?_
  · intro x hx
    simp only [List.mem_cons, List.not_mem_nil, or_false] at hx
    rcases hx with rfl | rfl | rfl | rfl | rfl | rfl
    · exact RdOk.more (N := 30) (g1.fr fr) (by omega)
    · exact RdOk.more (N := 30) (g2.fr fr) (by omega)
    · exact RdOk.more (N := 30) (g3.fr fr) (by omega)
    · exact RdOk.more (N := 30) g5 (by omega)
    · exact RdOk.more (N := 80100 + e.l.length) (d7.fr fr) (by omega)
    · exact track_rd _ _ _ (by simp; omega)
  · intro x hx
    simp only [List.mem_cons, List.not_mem_nil, or_false] at hx
    rcases hx with rfl | rfl | rfl | rfl | rfl | rfl
    · exact numberS_k (put := putId) (fun _ _ => rfl) _ _
    · exact numberS_k (put := putPrio) (fun _ _ => rfl) _ _
    · exact numberS_k (put := putEvery) (fun _ _ => rfl) _ _
    · exact choiceS_k (put := putYes) (fun _ _ => rfl) _
    · exact addressS_k vipS_k
    · exact trackS_k _ _
  · intro x hx
    simp only [List.mem_cons, List.not_mem_nil, or_false] at hx
    rcases hx with rfl | rfl | rfl | rfl | rfl | rfl <;> first | exact (by decide : (1 : Int) ≤ 1000) | exact (by decide : (8 : Int) ≤ 1000)
  · obtain ⟨S', rfl, f7, j7⟩ := hq
    rw [asBool_bool, j7.cellY rfl, asInt_int]
    have ok := j7.okp
    obtain ⟨h10, e10, f10, j10⟩ := j7.wrP (p' := { (blockS e.s e.l (vrrpK e.s e.l) { st with yes := 1 }).1.p with pre := (blockS e.s e.l (vrrpK e.s e.l) { st with yes := 1 }).1.yes == 1 }) (o := 14) (n := 1) (xs := [.bool ((blockS e.s e.l (vrrpK e.s e.l) { st with yes := 1 }).1.yes == 1)]) rfl (by decide) rfl (fun _ => rfl) rfl rfl rfl rfl ⟨ok.k, ok.spots, ok.vips, ok.trs, ok.svs, ok.bks, ok.len⟩
    obtain ⟨S'', fc, jc⟩ := Inv.closeY hy j10
    rw [e10]
    exact hkk _ _ ⟨S'', rfl, ((fa.trans f7).trans f10).trans fc, jc⟩
end
end Go.Ev.Tryd

/- The configuration's reader: what stays as it was; a backend. -/
namespace Go.Ev.Tryd
set_option maxRecDepth 10000
open Go.Proofs

/-! ### what the readers leave as it was -/

structure Steps (R : St → St → Prop) : Prop where
  refl : ∀ st, R st st
  trans : ∀ {a b c}, R a b → R b c → R a c
  set : ∀ st p, p.svs = st.p.svs → R st (setP st p)

theorem failP_svs (p : Ps) (a c : Int) : (failP p a c).svs = p.svs := (failP_k p a c).2.2.2.2
theorem mustP_svs (s : Bs) (l : List Wd) (w : Bs) (p : Ps) : (mustP s l w p).1.svs = p.svs := by
  unfold mustP; split
  · rfl
  · exact failP_svs _ _ _
theorem valueP_svs (s : Bs) (l : List Wd) (p : Ps) : (valueP s l p).1.svs = p.svs := by
  unfold valueP; split
  · exact failP_svs _ _ _
  · rfl

section
variable {R : St → St → Prop} (hR : Steps R) {s : Bs} {l : List Wd}
include hR
theorem endL_R (st : St) : R st (endL s l st).1 := hR.set _ _ (mustP_svs s l nl st.p)
theorem numberS_R {put : St → Int → St} (hp : ∀ st v, R st (put st v)) (lo hi : Int) (st : St) : R st (numberS s l put lo hi st).1 := by
  unfold numberS
  have hv := valueP_svs s l st.p
  generalize valueP s l st.p = v at hv
  obtain ⟨p, w, a, is⟩ := v
  cases is with
  | false => exact hR.set _ _ hv
  | true =>
    rw [show numberV s l put lo hi st (p, w, a, true) = if (numP (bs w)).2 = true ∧ lo ≤ (numP (bs w)).1 ∧ (numP (bs w)).1 ≤ hi then endL s l (put (setP st p) (numP (bs w)).1) else (setP st (failP p a 182), false) from rfl]
    split
    · exact hR.trans (hR.trans (hR.set st p hv) (hp _ _)) (endL_R hR _)
    · exact hR.set _ _ ((failP_svs _ _ _).trans hv)
theorem choiceS_R {put : St → Int → St} (hp : ∀ st v, R st (put st v)) (L : List (Bs × Int)) (st : St) : R st (choiceS s l put L st).1 := by
  unfold choiceS
  have hv := valueP_svs s l st.p
  generalize valueP s l st.p = v at hv
  obtain ⟨p, w, a, is⟩ := v
  cases is with
  | false => exact hR.set _ _ hv
  | true =>
    rw [show choiceV s l put L st (p, w, a, true) = (match lk L w with | some v => endL s l (put (setP st p) v) | none => (setP st (failP p a 182), false)) from rfl]
    split
    · exact hR.trans (hR.trans (hR.set st p hv) (hp _ _)) (endL_R hR _)
    · exact hR.set _ _ ((failP_svs _ _ _).trans hv)
theorem cardS_R {put : St → Cd → St} (hp : ∀ st v, R st (put st v)) (st : St) : R st (cardS s l put st).1 := by
  unfold cardS
  have hv := valueP_svs s l st.p
  generalize valueP s l st.p = v at hv
  obtain ⟨p, w, a, is⟩ := v
  cases is with
  | false => exact hR.set _ _ hv
  | true =>
    rw [show cardV s l put st (p, w, a, true) = if (cardP w).2 = true then endL s l (put (setP st p) (cdOf (cardP w).1)) else (setP st (failP p a 182), false) from rfl]
    split
    · exact hR.trans (hR.trans (hR.set st p hv) (hp _ _)) (endL_R hR _)
    · exact hR.set _ _ ((failP_svs _ _ _).trans hv)
theorem addressS_R {svc : Bool} {put : St → Bs → St} (hp : ∀ st v, R st (put st v)) (st : St) : R st (addressS s l svc (intoS put) st).1 := by
  unfold addressS
  have hv := valueP_svs s l st.p
  generalize valueP s l st.p = v at hv
  obtain ⟨p, w, a, is⟩ := v
  cases is with
  | false => exact hR.set _ _ hv
  | true =>
    rw [show addressV s l svc (intoS put) st (p, w, a, true) = if (adrP w).2 = true then thenEnd s l (intoS put (setP st { p with spots := p.spots ++ [((adrP w).1, a, svc)] }) (adrP w).1 a) else (setP st (failP p a 182), false) from rfl]
    split
    · have h1 : R st (put (setP st { p with spots := p.spots ++ [((adrP w).1, a, svc)] }) (adrP w).1) := hR.trans (hR.set st { p with spots := p.spots ++ [((adrP w).1, a, svc)] } hv) (hp _ _)
      exact hR.trans h1 (endL_R hR _)
    · exact hR.set _ _ ((failP_svs _ _ _).trans hv)
theorem bodyS_R {L : List (Bs × Key)} (hL : ∀ x ∈ L, ∀ st : St, R st (x.2.sem st).1) : ∀ (F : Nat) (M : List (Bs × Int)) (st : St), R st (bodyS s l L F M st).1
  | 0, _, _ => hR.refl _
  | F + 1, M, st => by
    unfold bodyS
    split
    · unfold closeS
      split
      · exact hR.set _ _ (failP_svs _ _ _)
      · exact hR.trans (hR.set st { st.p with k := st.p.k + 1 } rfl) (endL_R hR _)
    · split
      · exact hR.set _ _ (failP_svs _ _ _)
      · next key hlk =>
        have h1 : R st (key.sem (setP st { st.p with k := st.p.k + 1 })).1 := hR.trans (hR.set st { st.p with k := st.p.k + 1 } rfl) (hL _ (lk_mem hlk) _)
        split
        · exact hR.set _ _ (failP_svs _ _ _)
        · split
          · exact hR.trans h1 (bodyS_R hL F _ _)
          · exact h1
theorem blockS_R {L : List (Bs × Key)} (hL : ∀ x ∈ L, ∀ st : St, R st (x.2.sem st).1) (st : St) : R st (blockS s l L st).1 := by
  unfold blockS
  have h1 := mustP_svs s l ⟨#[123]⟩ st.p
  have h2 := (mustP_svs s l nl (mustP s l ⟨#[123]⟩ st.p).1).trans h1
  split
  · split
    · exact hR.trans (hR.set st _ h2) (bodyS_R hR hL _ _ _)
    · exact hR.set _ _ h2
  · exact hR.set _ _ h1
end

def sameBks (a b : St) : Prop := b.sv.bks = a.sv.bks
theorem steps_bks : Steps sameBks := ⟨fun _ => rfl, fun h k => Eq.trans k h, fun _ _ _ => rfl⟩
def sameSvs (a b : St) : Prop := b.p.svs = a.p.svs
theorem steps_svs : Steps sameSvs := ⟨fun _ => rfl, fun h k => Eq.trans k h, fun _ _ h => h⟩

/-! ### a backend -/

def putBAddr (st : St) (v : Bs) : St := { st with bk := { st.bk with addr := v } }
def putBCard (st : St) (v : Cd) : St := { st with bk := { st.bk with card := v } }
def putBPort (st : St) (v : Int) : St := { st with bk := { st.bk with port := v } }
def putBWeight (st : St) (v : Int) : St := { st with bk := { st.bk with weight := v } }
def kPort : Bs := ⟨#[112, 111, 114, 116]⟩
def kWeight : Bs := ⟨#[119, 101, 105, 103, 104, 116]⟩
def backendK (s : Bs) (l : List Wd) : List (Bs × Key) := [mkK kAddress 1 true (addressS s l false (intoS putBAddr)), mkK kMac 1 true (cardS s l putBCard), mkK kPort 1 false (numberS s l putBPort 1 65535), mkK kWeight 1 false (numberS s l putBWeight 1 100)]
def pushB (r : St × Bool) : St × Bool := ({ r.1 with sv := { r.1.sv with bks := r.1.sv.bks ++ [r.1.bk] } }, r.2)
def backendV (s : Bs) (l : List Wd) (st : St) : Ps × Bs × Bool → St × Bool
  | (p, _, false) => (setP st p, false)
  | (p, nm, true) => pushB (blockS s l (backendK s l) { setP st p with bk := ⟨nm, ⟨#[]⟩, cd0, 0, 1⟩ })
def backendS (s : Bs) (l : List Wd) (st : St) : St × Bool := backendV s l st (namedP s l (st.sv.bks.map (·.name)) st.p)

theorem backendK_k (s : Bs) (l : List Wd) : ∀ x ∈ backendK s l, ∀ st : St, st.p.k ≤ (x.2.sem st).1.p.k := by
  intro x hx
  simp only [backendK, mkK, List.mem_cons, List.not_mem_nil, or_false] at hx
  rcases hx with rfl | rfl | rfl | rfl
  · exact addressS_k fun _ _ _ => rfl
  · exact cardS_k (put := putBCard) fun _ _ => rfl
  · exact numberS_k (put := putBPort) (fun _ _ => rfl) _ _
  · exact numberS_k (put := putBWeight) (fun _ _ => rfl) _ _
theorem backendK_R {R : St → St → Prop} (hR : Steps R) (hb : ∀ st b, R st { st with bk := b }) (s : Bs) (l : List Wd) : ∀ x ∈ backendK s l, ∀ st : St, R st (x.2.sem st).1 := by
  intro x hx
  simp only [backendK, mkK, List.mem_cons, List.not_mem_nil, or_false] at hx
  rcases hx with rfl | rfl | rfl | rfl
  · exact addressS_R hR fun st v => hb st _
  · exact cardS_R hR (put := putBCard) fun st v => hb st _
  · exact numberS_R hR (put := putBPort) (fun st v => hb st _) _ _
  · exact numberS_R hR (put := putBWeight) (fun st v => hb st _) _ _
theorem namedP_le (s : Bs) (l : List Wd) (xs : List Bs) (p : Ps) : p.k ≤ (namedP s l xs p).1.k ∧ (namedP s l xs p).1.svs = p.svs := by
  unfold namedP
  have hv := valueP_le s l p
  have hs := valueP_svs s l p
  generalize valueP s l p = v at hv hs
  obtain ⟨p1, w, a, is⟩ := v
  cases is with
  | false => exact ⟨hv, hs⟩
  | true =>
    rw [show namedV xs (p1, w, a, true) = if 40 < w.size then (failP p1 a 182, ⟨#[]⟩, false) else if memB w xs = true then (failP p1 a 181, ⟨#[]⟩, false) else (p1, w, true) from rfl]
    split
    · exact ⟨by show p.k ≤ (failP p1 a 182).k; rw [(failP_k _ _ _).1]; exact hv, (failP_svs _ _ _).trans hs⟩
    · split
      · exact ⟨by show p.k ≤ (failP p1 a 181).k; rw [(failP_k _ _ _).1]; exact hv, (failP_svs _ _ _).trans hs⟩
      · exact ⟨hv, hs⟩
theorem backendS_k (s : Bs) (l : List Wd) (st : St) : st.p.k ≤ (backendS s l st).1.p.k := by
  unfold backendS
  have hn := (namedP_le s l (st.sv.bks.map (·.name)) st.p).1
  generalize namedP s l (st.sv.bks.map (·.name)) st.p = v at hn
  obtain ⟨p, nm, is⟩ := v
  cases is with
  | false => exact hn
  | true => exact Nat.le_trans hn (blockS_k (backendK_k s l) { setP st p with bk := ⟨nm, ⟨#[]⟩, cd0, 0, 1⟩ })
theorem backendS_svs (s : Bs) (l : List Wd) (st : St) : sameSvs st (backendS s l st).1 := by
  unfold backendS
  have hn := (namedP_le s l (st.sv.bks.map (·.name)) st.p).2
  generalize namedP s l (st.sv.bks.map (·.name)) st.p = v at hn
  obtain ⟨p, nm, is⟩ := v
  cases is with
  | false => exact hn
  | true => exact (blockS_R steps_svs (s := s) (l := l) (backendK_R steps_svs (fun _ _ => rfl) s l) { setP st p with bk := ⟨nm, ⟨#[]⟩, cd0, 0, 1⟩ }).trans hn

section
variable {e : En} {S : List Nat} {h : H} {st : St}
theorem put_baddr {b : Nat} (he : e.bk = some b) : PutOk e (b, 1) 1 (fun a => [.str a]) putBAddr := fun _ st _ v i => i.wrB he (x' := { st.bk with addr := v }) rfl (by decide : 1 + 1 ≤ 10) rfl rfl
theorem put_bcard {b : Nat} (he : e.bk = some b) : PutOk e (b, 2) 6 enCd putBCard := fun _ st _ v i => i.wrB he (x' := { st.bk with card := v }) rfl (by decide : 2 + 6 ≤ 10) rfl rfl
theorem put_bport {b : Nat} (he : e.bk = some b) : PutOk e (b, 8) 1 (fun v => [.int .i64 v]) putBPort := fun _ st _ v i => i.wrB he (x' := { st.bk with port := v }) rfl (by decide : 8 + 1 ≤ 10) rfl rfl
theorem put_bweight {b : Nat} (he : e.bk = some b) : PutOk e (b, 9) 1 (fun v => [.int .i64 v]) putBWeight := fun _ st _ v i => i.wrB he (x' := { st.bk with weight := v }) rfl (by decide : 9 + 1 ≤ 10) rfl rfl

theorem backend_names {a : H} {q : Pt} {c : Cap} {xs : List Bk} (r : Row a 10 q xs.length c (xs.flatMap encB)) (hx : xs.length ≤ 400000) (a0 a1 : Pt) (n : Nat) (kk : KK) : ∀ (rest pre : List Bk) (m : Nat) (h : H) (p : Pt) (d : Cap), xs = pre ++ rest → rest.length < m → Mod [] a h → Grow a h 1 p pre.length d ((pre.map (·.name)).map .str) →
    ∃ m' p' d' h', config_parser_backend_L0 n m a0 a1 p pre.length d q xs.length c (Nat.cast xs.length) (pre.length : Nat) h kk = config_parser_backend_L0 n (m' + 1) a0 a1 p' xs.length d' q xs.length c (Nat.cast xs.length) (Nat.cast xs.length) h' kk ∧ Mod [] a h' ∧ Grow a h' 1 p' xs.length d' ((xs.map (·.name)).map .str)
  | [], pre, m + 1, h, p, d, e, _, hm, g => by
    rw [List.append_nil] at e
    subst e
    exact ⟨m, p, d, h, rfl, hm, g⟩
  | t :: ts, pre, m + 1, h, p, d, e, hl, hm, g => by
    have hget : xs[pre.length]? = some t := by rw [e]; simp
    have hlt : pre.length < xs.length := (List.getElem?_eq_some_iff.1 hget).1
    rw [config_parser_backend_L0_eq, cast_lt hlt, cond_true, (r.mod0 hm).ix encB_len (by decide) hget]
    rw [newK_eq, box_wr (n := 10) rfl rfl rfl, cellK_of (get_new_self _ _) rfl, asStr_str, newK_eq]
    have m1 : Mod [] h (h.new (.cells (encB t) false)) := (Mod.refl _ _).new _
    obtain ⟨p', d', h', e1, g', m', hn⟩ := (g.mod0 m1).pushE (bytes := 16) (hm.trans m1).next (xs := [.str t.name]) rfl rfl (by decide) (by omega) (by omega)
    rw [e1, wrap_succ (by omega)]
    have hm' : Mod [] a h' := (hm.trans m1).trans' m' fun x hx hl => by have := (g.own_ge x hx).1; omega
    have := backend_names r hx a0 a1 n kk ts (pre ++ [t]) m h' p' d' (by rw [e]; simp) (by simp at hl; omega) hm' (by simpa using g')
    simpa using this
theorem putKey {m : Nat} {o : AObj} {L : List (Bs × Key)} (hg : h.get m = some o) (ho : MObj AV.str encK L o) (w : Bs) (k : Key) (hw : ∀ x ∈ L, w ≠ x.1) : ∃ o', MObj AV.str encK (L ++ [(w, k)]) o' ∧ ∀ f : H → Option Unit, putK (some m) (.str w) (.agg [.int .i64 k.most, .bool k.need, .func k.f k.x k.y]) h f = f (h.set m o') := by
  obtain ⟨o', h1, h2⟩ := putK_of (β := Unit) keys_str hg ho w k
  refine ⟨o', ?_, h2⟩
  have : pt L w k = L ++ [(w, k)] := by
    unfold pt
    rw [if_neg]
    rw [List.any_eq_true]
    rintro ⟨x, hx, e'⟩
    exact hw x hx (of_decide_eq_true e')
  rwa [this] at h1
end
end Go.Ev.Tryd

/- The configuration's reader: a backend, walked. -/
namespace Go.Ev.Tryd
set_option maxRecDepth 10000
open Go.Proofs

section
variable {e : En} {S : List Nat} {h : H} {st : St}

theorem Inv.aggB (i : Inv e h st S) {b : Nat} (he : e.bk = some b) {β : Type} (k : List AV → Option β) : aggK h b 0 10 k = k (encB st.bk) := by
  obtain ⟨g, rfl, i⟩ := i
  have := i.ow.get 8 b (i.fk.trans he)
  rw [i.ck] at this
  exact aggK_all (n := 10) this rfl k
/-- a map of one's own is filled -/
theorem keptSet {S : List Nat} {h : H} {m : Nat} {o : AObj} (k : Kept S h m o) (o' : AObj) : Kept S (h.set m o') m o' := ⟨⟨k.at_.lt, get_set_self _ _ _⟩, k.out⟩
theorem frSet {S : List Nat} {m : Nat} (hm : m ∈ S) (h : H) (o' : AObj) : Fr S h S (h.set m o') := ⟨(Mod.refl _ _).set (.inr hm) _, fun _ h => .inl h⟩
theorem frLess {S T : List Nat} (hs : ∀ x ∈ S, x ∈ T) (h : H) : Fr T h S h := ⟨Mod.refl _ _, fun x hx => .inl (hs x hx)⟩

theorem backend_ret {X : Nat} (hs : e.sv = some X) (hb0 : e.bk = none) (hw : Words e.l) (i : Inv e h st S) {n : Nat} (hn : 81000 + e.l.length ≤ n) :
    RetK (fun kk => cr n i_config_parser_backend [.ptr (some (e.b, 0)), .ptr (some (X, 0))] h kk) fun r h' => ∃ S', r = .bool (backendS e.s e.l st).2 ∧ Fr S h S' h' ∧ Inv e h' (backendS e.s e.l st).1 S' := by
  intro kk hkk
  obtain ⟨n, rfl⟩ : ∃ k, n = k + 2 := ⟨n - 2, by omega⟩
  show cr (n + 1 + 1) i_config_parser_backend [.ptr (some (e.b, 0)), .ptr (some (X, 0))] h kk = some ()
  have hw' : ∀ w ∈ e.l, w.1.size < 90000 ∧ w.1.size + 70 ≤ 80070 := fun w hx => by have := hw w hx; omega
  have ok := i.okp
  have okb := ok.bks
  have hk := ok.k
  have hll := ok.len
  have i0 := i
  obtain ⟨g, rfl, i⟩ := i
  rw [config_parser_backend_eq]
  simp only [nnK_some', Nat.zero_add]
  rw [i.ow.cell (i.fv.trans hs) (p := 9) (v := .slice (slP g.f 7) st.sv.bks.length g.bc) (by rw [i.cv]; rfl), asSlice_slice]
  obtain ⟨m', p', d', h1, e1, m1, g1⟩ := backend_names (i.bp.grow i.ow).row (by omega) (some (e.b, 0)) (some (X, 0)) (n + 1) kk st.sv.bks [] (n + 1) h none (.known 0) rfl (by omega) (.refl _ _) .nil
  rw [show config_parser_backend_L0 (n + 1) (n + 1) (some (e.b, 0)) (some (X, 0)) none 0 (.known 0) (slP g.f 7) st.sv.bks.length g.bc (Nat.cast st.sv.bks.length) 0 h kk = _ from e1]
  rw [config_parser_backend_L0_eq, cast_not_lt (Nat.le_refl _), cond_false]
  have i1 := i0.frame m1
  have f1 : Fr (foot g.f) h (foot g.f) h1 := .mod0 m1
  have hS : ∀ b ∈ own p', b ∉ foot g.f := fun b hb hm => by
    have := (g1.own_ge b hb).1
    have := i0.ltS b hm
    omega
  generalize hSS : foot g.f = S at *
  have hr : Row h1 1 p' (st.sv.bks.map (·.name)).length d' ((st.sv.bks.map (·.name)).map .str) := by rw [List.length_map]; exact g1.row
  have hnm := named_ret i1 hr (by rw [List.length_map]; omega) hS (n := n + 1) (by rw [List.length_map]; omega)
  rw [List.length_map] at hnm
  unfold backendS at hkk
  have hvk := namedP_k e.s e.l (st.sv.bks.map (·.name)) st.p
  generalize namedP e.s e.l (st.sv.bks.map (·.name)) st.p = v at hvk hnm hkk
  obtain ⟨p1, nm, is⟩ := v
  obtain ⟨r, h2, e2, rfl, f2, j2⟩ := hnm
  rw [e2, Option.bind_some]
  simp only [asTup_tup, lS_of, lI_of, lB_of, l0_nil]
  cases is with
  | false =>
    rw [Bool.not_false, cond_true]
    exact hkk _ _ ⟨S, rfl, f1.trans f2, j2⟩
  | true =>
    obtain rfl : p1 = { st.p with k := st.p.k + 1 } := hvk rfl
    rw [Bool.not_true, cond_false, newK_eq, box_wr (n := 10) rfl rfl rfl]
    obtain ⟨S1, f3, j3⟩ := j2.openB hb0 (y := ⟨nm, ⟨#[]⟩, cd0, 0, 1⟩) (Nat.le_refl h2.next) (.new h2 (.cells (encB ⟨nm, ⟨#[]⟩, cd0, 0, 1⟩) false)) ((Mod.refl _ _).new _)
    show (newK (.map [] 0) (h2.new (.cells (encB ⟨nm, ⟨#[]⟩, cd0, 0, 1⟩) false)) fun i30 h31 => _) = _
    generalize h2.next = bb at j3 ⊢
    generalize hb_ : h2.new (.cells (encB ⟨nm, ⟨#[]⟩, cd0, 0, 1⟩) false) = hb at j3 f3 ⊢
    have f03 := (f1.trans f2).trans f3
    rw [newK_eq]
    have hS1 := j3.ltS
    have m0 : Mod [] hb (hb.new (.map [] 0)) := (Mod.refl _ _).new _
    have k0 : Kept S1 (hb.new (.map [] 0)) hb.next (.map [] 0) := kept_new hS1 _
    have u0 : ∀ x ∈ [hb.next] ++ S1, x < (hb.new (.map [] 0)).next := by
      intro x hx
      show x < hb.next + 1
      rcases List.mem_append.1 hx with hx | hx
      · obtain rfl := List.mem_singleton.1 hx; exact Nat.lt_succ_self _
      · exact Nat.lt_succ_of_lt (hS1 x hx)
    have up : ∀ {T : List Nat} {h' h'' : H}, Mod [] h' h'' → (∀ x ∈ T, x < h'.next) → ∀ x ∈ T, x < h''.next := fun m hh x hx => m.lt (hh x hx)
    generalize hb.new (.map [] 0) = c0 at m0 k0 u0 ⊢
    refine fn_k (into_mk (e := { e with bk := some bb }) u0 (put_baddr rfl) n) fun fA xA yA c1 v1 mA dA => ?_
    have u1 := up mA u0
    refine once_k (address_mk (e := { e with bk := some bb }) u1 hw' (by omega) false (dA.more (N' := 80069) (by omega)) n) fun f1' x1 y1 c2 v2 mB d1 => ?_
    have u2 := up mB u1
    have k2 : Kept S1 c2 hb.next (.map [] 0) := (k0.mod0 mA).mod0 mB
    obtain ⟨o1, hM1, e1'⟩ := putKey k2.at_.get .nil kAddress ⟨1, true, f1', x1, y1, addressS e.s e.l false (intoS putBAddr)⟩ (by simp)
    dsimp only
    rw [show (⟨#[97, 100, 100, 114, 101, 115, 115]⟩ : ByteArray) = kAddress from rfl, e1']
    have t2 := frSet (m := hb.next) (S := [hb.next] ++ S1) (by simp) c2 o1
    have k2' := keptSet k2 o1
    have md2 : Mod [] hb (c2.set hb.next o1) := ((m0.trans mA).trans mB).set (.inl (Nat.le_refl _)) _
    have u2' : ∀ x ∈ [hb.next] ++ S1, x < (c2.set hb.next o1).next := u2
    generalize c2.set hb.next o1 = c2' at t2 k2' md2 u2' ⊢
    refine once_k (card_mk (e := { e with bk := some bb }) u2' hw' (by omega) (put_bcard rfl) n) fun f2' x2 y2 c3 v3 mC d2 => ?_
    have u3 := up mC u2'
    have k3 := k2'.mod0 mC
    obtain ⟨o2, hM2, e2'⟩ := putKey k3.at_.get hM1 kMac ⟨1, true, f2', x2, y2, cardS e.s e.l putBCard⟩ (by simp [kMac, kAddress])
    dsimp only
    rw [show (⟨#[109, 97, 99]⟩ : ByteArray) = kMac from rfl, e2']
    have t3 := frSet (m := hb.next) (S := [hb.next] ++ S1) (by simp) c3 o2
    have k3' := keptSet k3 o2
    have md3 : Mod [] hb (c3.set hb.next o2) := (md2.trans mC).set (.inl (Nat.le_refl _)) _
    have u3' : ∀ x ∈ [hb.next] ++ S1, x < (c3.set hb.next o2).next := u3
    generalize c3.set hb.next o2 = c3' at t3 k3' md3 u3' ⊢
    refine once_k (number_mk (e := { e with bk := some bb }) u3' (put_bport rfl) 1 65535 n) fun f3' x3 y3 c4 v4 mD d3 => ?_
    have u4 := up mD u3'
    have k4 := k3'.mod0 mD
    obtain ⟨o3, hM3, e3'⟩ := putKey k4.at_.get hM2 kPort ⟨1, false, f3', x3, y3, numberS e.s e.l putBPort 1 65535⟩ (by simp [kMac, kAddress, kPort])
    dsimp only
    rw [show (⟨#[112, 111, 114, 116]⟩ : ByteArray) = kPort from rfl, e3']
    have t4 := frSet (m := hb.next) (S := [hb.next] ++ S1) (by simp) c4 o3
    have k4' := keptSet k4 o3
    have md4 : Mod [] hb (c4.set hb.next o3) := (md3.trans mD).set (.inl (Nat.le_refl _)) _
    have u4' : ∀ x ∈ [hb.next] ++ S1, x < (c4.set hb.next o3).next := u4
    generalize c4.set hb.next o3 = c4' at t4 k4' md4 u4' ⊢
    refine once_k (number_mk (e := { e with bk := some bb }) u4' (put_bweight rfl) 1 100 n) fun f4' x4 y4 c5 v5 mE d4 => ?_
    have k5 := k4'.mod0 mE
    obtain ⟨o4, hM4, e4'⟩ := putKey k5.at_.get hM3 kWeight ⟨1, false, f4', x4, y4, numberS e.s e.l putBWeight 1 100⟩ (by simp [kMac, kAddress, kPort, kWeight])
    dsimp only
    rw [show (⟨#[119, 101, 105, 103, 104, 116]⟩ : ByteArray) = kWeight from rfl, e4']
    have t5 := frSet (m := hb.next) (S := [hb.next] ++ S1) (by simp) c5 o4
    have k5' := keptSet k5 o4
    have md5 : Mod [] hb (c5.set hb.next o4) := (md4.trans mE).set (.inl (Nat.le_refl _)) _
    generalize c5.set hb.next o4 = c5' at t5 k5' md5 ⊢
    have less : Fr ([hb.next] ++ S1) c5' S1 c5' := frLess (by simp +contextual) _
    have F4 := t5.trans less
    have F3 := ((t4.trans (.mod0 mE)).trans F4)
    have F2 := ((t3.trans (.mod0 mD)).trans F3)
    have F1 := ((t2.trans (.mod0 mC)).trans F2)
    have q1 := d1.fr F1
    have q2 := d2.fr F2
    have q3 := d3.fr F3
    have q4 := d4.fr F4
    refine block_ret (n := n + 1) (N := 80070) (e := { e with bk := some bb }) (L0 := backendK e.s e.l) ⟨?_, ?_, rfl, ?_, by simp⟩ (j3.frame md5) k5' hM4 (by omega) (by omega) (by show e.l.length + 5 ≤ _; omega) (blockS_forK (L := [(kAddress, ⟨1, true, f1', x1, y1, addressS e.s e.l false (intoS putBAddr)⟩), (kMac, ⟨1, true, f2', x2, y2, cardS e.s e.l putBCard⟩), (kPort, ⟨1, false, f3', x3, y3, numberS e.s e.l putBPort 1 65535⟩), (kWeight, ⟨1, false, f4', x4, y4, numberS e.s e.l putBWeight 1 100⟩)]) _).symm _ fun r' h9 hq => ?_
    · intro x hx
      simp only [List.nil_append, List.cons_append, List.mem_cons, List.not_mem_nil, or_false] at hx
      rcases hx with rfl | rfl | rfl | rfl
      · exact q1
      · exact q2
      · exact RdOk.more (N := 30) q3 (by omega)
      · exact RdOk.more (N := 30) q4 (by omega)
    · intro x hx
      simp only [List.nil_append, List.cons_append, List.mem_cons, List.not_mem_nil, or_false] at hx
      rcases hx with rfl | rfl | rfl | rfl
      · exact addressS_k fun _ _ _ => rfl
      · exact cardS_k (put := putBCard) fun _ _ => rfl
      · exact numberS_k (put := putBPort) (fun _ _ => rfl) _ _
      · exact numberS_k (put := putBWeight) (fun _ _ => rfl) _ _
    · intro x hx
      simp only [List.nil_append, List.cons_append, List.mem_cons, List.not_mem_nil, or_false] at hx
      rcases hx with rfl | rfl | rfl | rfl <;> exact (by decide : (1 : Int) ≤ 1000)
    · obtain ⟨S', rfl, f7, j7⟩ := hq
      rw [asBool_bool]
      have hbk : sameBks _ _ := blockS_R steps_bks (s := e.s) (l := e.l) (backendK_R steps_bks (fun _ _ => rfl) e.s e.l) { setP st { st.p with k := st.p.k + 1 } with bk := ⟨nm, ⟨#[]⟩, cd0, 0, 1⟩ }
      have hkk' := blockS_k (s := e.s) (l := e.l) (backendK_k e.s e.l) { setP st { st.p with k := st.p.k + 1 } with bk := ⟨nm, ⟨#[]⟩, cd0, 0, 1⟩ }
      change ∀ r h', (∃ S', r = .bool (pushB (blockS e.s e.l (backendK e.s e.l) { setP st { st.p with k := st.p.k + 1 } with bk := ⟨nm, ⟨#[]⟩, cd0, 0, 1⟩ })).2 ∧ Fr S h S' h' ∧ Inv e h' (pushB (blockS e.s e.l (backendK e.s e.l) { setP st { st.p with k := st.p.k + 1 } with bk := ⟨nm, ⟨#[]⟩, cd0, 0, 1⟩ })).1 S') → kk r h' = some () at hkk
      change Inv _ h9 (blockS e.s e.l (backendK e.s e.l) { setP st { st.p with k := st.p.k + 1 } with bk := ⟨nm, ⟨#[]⟩, cd0, 0, 1⟩ }).1 S' at j7
      change (_ : St).sv.bks = st.sv.bks at hbk
      change st.p.k + 1 ≤ _ at hkk'
      show (cellK h9 X 9 fun v94 => _) = some ()
      change (cellK h9 X 9 fun v94 => asSlice v94 fun x95 n96 c97 => aggK h9 bb 0 10 fun l98 => if l98.length = 10 ∧ 0 + 10 ≤ 10 then newK (.cells (List.append (List.append [] l98) []) false) h9 fun i99 h100 => appK 10 56 x95 n96 c97 (evSrc 10 (.slice (some (i99, 0)) 1 (.known 1)) h100) h100 fun p101 n102 c103 h104 => wrK h104 X 9 1 [.slice p101 n102 c103] fun h107 => kk (.bool (blockS e.s e.l (backendK e.s e.l) { setP st { st.p with k := st.p.k + 1 } with bk := ⟨nm, ⟨#[]⟩, cd0, 0, 1⟩ }).2) h107 else none) = some ()
      generalize blockS e.s e.l (backendK e.s e.l) { setP st { st.p with k := st.p.k + 1 } with bk := ⟨nm, ⟨#[]⟩, cd0, 0, 1⟩ } = w at hkk j7 hbk hkk' ⊢
      have j7' := j7
      obtain ⟨g7, rfl, j7⟩ := j7
      rw [j7.ow.cell (j7.fv.trans hs) (p := 9) (v := .slice (slP g7.f 7) w.1.sv.bks.length g7.bc) (by rw [j7.cv]; rfl), asSlice_slice, j7'.aggB rfl, if_pos ⟨rfl, by decide⟩]
      obtain ⟨y', cap', h10, h11, S10, e10, f10, e11, f11, j11⟩ := j7.pushBk hs w.1.bk (by rw [hbk]; omega)
      rw [newK_eq, show List.append (List.append [] (encB w.1.bk)) [] = encB w.1.bk by simp, e10, e11]
      obtain ⟨S12, f12, j12⟩ := Inv.closeB hb0 j11
      exact hkk _ _ ⟨S12, rfl, (((f03.trans (.mod0 md5)).trans f7).trans f11).trans f12, j12⟩

theorem service1_rd {X i1 i2 : Nat} {S0 : List Nat} {h0 : H} (hs : e.sv = some X) (hb0 : e.bk = none) (hw : Words e.l) (k1 : Kept S0 h0 i1 (.cells [.ptr (some (e.b, 0))] false)) (k2 : Kept S0 h0 i2 (.cells [.ptr (some (X, 0))] false)) {N : Nat} (hN : 81010 + e.l.length ≤ N) :
    RdOk e S0 h0 N i_config_parser_service_1 [] [.ptr (some (i1, 0)), .ptr (some (i2, 0))] (backendS e.s e.l) := by
  refine ⟨fun b k => by kernel_rfl, fun n hn h S st fr i => relK (by kernel_rfl) ?_⟩
  intro kk hkk
  obtain ⟨n, rfl⟩ : ∃ k, n = k + 1 := ⟨n - 1, by omega⟩
  show cr (n + 1) i_config_parser_service_1 [.ptr (some (i1, 0)), .ptr (some (i2, 0))] h kk = some ()
  rw [config_parser_service_1_eq]
  simp only [nnK_some']
  rw [(k1.fr fr).cell, asPtr_ptr, (k2.fr fr).cell, asPtr_ptr]
  refine backend_ret hs hb0 hw i (by omega) _ fun r h' hq => ?_
  obtain ⟨S', rfl, f7, j7⟩ := hq
  rw [asBool_bool]
  exact hkk _ _ ⟨S', rfl, f7, j7⟩
end
end Go.Ev.Tryd

/- The configuration's reader: a service. -/
namespace Go.Ev
theorem minus_quiet {S : Nat → Prop} {x h h' : H} (m : Mod [] h h') : x.minus (addT S h h') = x.minus S := by rw [addT_same fun i hi => m.get i hi (by simp)]
theorem minus_none (x : H) : x.minus noT = x := minus_noT x
end Go.Ev
namespace Go.Ev.Tryd
set_option maxRecDepth 10000
open Go.Proofs

def putSProto (st : St) (v : Int) : St := { st with sv := { st.sv with proto := v } }
def putSVip (st : St) (v : Bs) : St := { st with sv := { st.sv with vip := v } }
def putSPort (st : St) (v : Int) : St := { st with sv := { st.sv with port := v } }
def putSMode (st : St) (v : Int) : St := { st with sv := { st.sv with mode := v } }
def putSSched (st : St) (v : Int) : St := { st with sv := { st.sv with sched := v } }
def putSRise (st : St) (v : Int) : St := { st with sv := { st.sv with rise := v } }
def putSFall (st : St) (v : Int) : St := { st with sv := { st.sv with fall := v } }
def putSProbe (st : St) (v : Int) : St := { st with sv := { st.sv with probe := v } }
def kTcp : Bs := ⟨#[116, 99, 112]⟩
def kUdp : Bs := ⟨#[117, 100, 112]⟩
def kProto : Bs := ⟨#[112, 114, 111, 116, 111]⟩
def kNat : Bs := ⟨#[110, 97, 116]⟩
def kDr : Bs := ⟨#[100, 114]⟩
def kIpip : Bs := ⟨#[105, 112, 105, 112]⟩
def kMode : Bs := ⟨#[109, 111, 100, 101]⟩
def kMaglev : Bs := ⟨#[109, 97, 103, 108, 101, 118]⟩
def kSource : Bs := ⟨#[115, 111, 117, 114, 99, 101]⟩
def kSched : Bs := ⟨#[115, 99, 104, 101, 100, 117, 108, 101]⟩
def kRise : Bs := ⟨#[114, 105, 115, 101]⟩
def kFall : Bs := ⟨#[102, 97, 108, 108]⟩
def kProbe : Bs := ⟨#[112, 114, 111, 98, 101]⟩
def kBackend : Bs := ⟨#[98, 97, 99, 107, 101, 110, 100]⟩
def tcpUdp : List (Bs × Int) := [(kTcp, 6), (kUdp, 17)]
def modes : List (Bs × Int) := [(kNat, 1), (kDr, 2), (kIpip, 3)]
def scheds : List (Bs × Int) := [(kMaglev, 1), (kSource, 2)]
def serviceK (s : Bs) (l : List Wd) : List (Bs × Key) := [mkK kProto 1 true (choiceS s l putSProto tcpUdp), mkK kVip 1 true (addressS s l true (intoS putSVip)), mkK kPort 1 true (numberS s l putSPort 1 65535), mkK kMode 1 true (choiceS s l putSMode modes), mkK kSched 1 false (choiceS s l putSSched scheds),
  mkK kRise 1 false (numberS s l putSRise 1 20), mkK kFall 1 false (numberS s l putSFall 1 20), mkK kProbe 1 false (numberS s l putSProbe 1 10000), mkK kBackend 16 true (backendS s l)]
def pushS (r : St × Bool) : St × Bool := ({ r.1 with p := { r.1.p with svs := r.1.p.svs ++ [r.1.sv] }, sv := sv0 }, r.2)
def newSv (nm : Bs) : Sv := ⟨nm, ⟨#[]⟩, 0, 0, 0, 1, 1, 1, 100, []⟩
def serviceV (s : Bs) (l : List Wd) (st : St) : Ps × Bs × Bool → St × Bool
  | (p, _, false) => (setP st p, false)
  | (p, nm, true) => pushS (blockS s l (serviceK s l) { setP st p with sv := newSv nm })
def serviceS (s : Bs) (l : List Wd) (st : St) : St × Bool := serviceV s l st (namedP s l (st.p.svs.map (·.name)) st.p)

theorem serviceK_k (s : Bs) (l : List Wd) : ∀ x ∈ serviceK s l, ∀ st : St, st.p.k ≤ (x.2.sem st).1.p.k := by
  intro x hx
  simp only [serviceK, mkK, List.mem_cons, List.not_mem_nil, or_false] at hx
  rcases hx with rfl | rfl | rfl | rfl | rfl | rfl | rfl | rfl | rfl
  · exact choiceS_k (put := putSProto) (fun _ _ => rfl) _
  · exact addressS_k fun _ _ _ => rfl
  · exact numberS_k (put := putSPort) (fun _ _ => rfl) _ _
  · exact choiceS_k (put := putSMode) (fun _ _ => rfl) _
  · exact choiceS_k (put := putSSched) (fun _ _ => rfl) _
  · exact numberS_k (put := putSRise) (fun _ _ => rfl) _ _
  · exact numberS_k (put := putSFall) (fun _ _ => rfl) _ _
  · exact numberS_k (put := putSProbe) (fun _ _ => rfl) _ _
  · exact backendS_k _ _
theorem serviceK_svs (s : Bs) (l : List Wd) : ∀ x ∈ serviceK s l, ∀ st : St, sameSvs st (x.2.sem st).1 := by
  intro x hx
  simp only [serviceK, mkK, List.mem_cons, List.not_mem_nil, or_false] at hx
  rcases hx with rfl | rfl | rfl | rfl | rfl | rfl | rfl | rfl | rfl
  · exact choiceS_R steps_svs (put := putSProto) (fun _ _ => rfl) _
  · exact addressS_R steps_svs fun _ _ => rfl
  · exact numberS_R steps_svs (put := putSPort) (fun _ _ => rfl) _ _
  · exact choiceS_R steps_svs (put := putSMode) (fun _ _ => rfl) _
  · exact choiceS_R steps_svs (put := putSSched) (fun _ _ => rfl) _
  · exact numberS_R steps_svs (put := putSRise) (fun _ _ => rfl) _ _
  · exact numberS_R steps_svs (put := putSFall) (fun _ _ => rfl) _ _
  · exact numberS_R steps_svs (put := putSProbe) (fun _ _ => rfl) _ _
  · exact backendS_svs _ _
theorem serviceS_k (s : Bs) (l : List Wd) (st : St) : st.p.k ≤ (serviceS s l st).1.p.k := by
  unfold serviceS
  have hn := (namedP_le s l (st.p.svs.map (·.name)) st.p).1
  generalize namedP s l (st.p.svs.map (·.name)) st.p = v at hn
  obtain ⟨p, nm, is⟩ := v
  cases is with
  | false => exact hn
  | true => exact Nat.le_trans hn (blockS_k (serviceK_k s l) { setP st p with sv := newSv nm })

section
variable {e : En} {S : List Nat} {h : H} {st : St}
theorem putOk_s {α : Type} {b o n : Nat} {enc : α → List AV} {put : Sv → α → Sv} (he : e.sv = some b) (hn : ∀ v, (enc v).length = n) (hl : o + n ≤ 10) (hc : ∀ v, (enc v).all isCell = true) (hv : ∀ x v w, spl (encS x w) o (enc v) = encS (put x v) w) (hs : ∀ x v, (put x v).bks = x.bks) : PutOk e (b, o) n enc (fun st v => { st with sv := put st.sv v }) :=
  fun _ st _ v i => i.wrS he (hn v) hl (hc v) (fun w => hv st.sv v w) (hs _ _)
theorem put_sproto {b : Nat} (he : e.sv = some b) : PutOk e (b, 2) 1 (fun v => [.int .i64 v]) putSProto := putOk_s he (put := fun x v => { x with proto := v }) (fun _ => rfl) (by decide) (fun _ => rfl) (fun _ _ _ => rfl) fun _ _ => rfl
theorem put_svip {b : Nat} (he : e.sv = some b) : PutOk e (b, 1) 1 (fun v => [.str v]) putSVip := putOk_s he (put := fun x v => { x with vip := v }) (fun _ => rfl) (by decide) (fun _ => rfl) (fun _ _ _ => rfl) fun _ _ => rfl
theorem put_sport {b : Nat} (he : e.sv = some b) : PutOk e (b, 3) 1 (fun v => [.int .i64 v]) putSPort := putOk_s he (put := fun x v => { x with port := v }) (fun _ => rfl) (by decide) (fun _ => rfl) (fun _ _ _ => rfl) fun _ _ => rfl
theorem put_smode {b : Nat} (he : e.sv = some b) : PutOk e (b, 4) 1 (fun v => [.int .i64 v]) putSMode := putOk_s he (put := fun x v => { x with mode := v }) (fun _ => rfl) (by decide) (fun _ => rfl) (fun _ _ _ => rfl) fun _ _ => rfl
theorem put_ssched {b : Nat} (he : e.sv = some b) : PutOk e (b, 5) 1 (fun v => [.int .i64 v]) putSSched := putOk_s he (put := fun x v => { x with sched := v }) (fun _ => rfl) (by decide) (fun _ => rfl) (fun _ _ _ => rfl) fun _ _ => rfl
theorem put_srise {b : Nat} (he : e.sv = some b) : PutOk e (b, 6) 1 (fun v => [.int .i64 v]) putSRise := putOk_s he (put := fun x v => { x with rise := v }) (fun _ => rfl) (by decide) (fun _ => rfl) (fun _ _ _ => rfl) fun _ _ => rfl
theorem put_sfall {b : Nat} (he : e.sv = some b) : PutOk e (b, 7) 1 (fun v => [.int .i64 v]) putSFall := putOk_s he (put := fun x v => { x with fall := v }) (fun _ => rfl) (by decide) (fun _ => rfl) (fun _ _ _ => rfl) fun _ _ => rfl
theorem put_sprobe {b : Nat} (he : e.sv = some b) : PutOk e (b, 8) 1 (fun v => [.int .i64 v]) putSProbe := putOk_s he (put := fun x v => { x with probe := v }) (fun _ => rfl) (by decide) (fun _ => rfl) (fun _ _ _ => rfl) fun _ _ => rfl

theorem service_names {a : H} {q : Pt} {c : Cap} {xs : List SvR} (r : Row a 10 q xs.length c (xs.flatMap encR)) (hx : xs.length ≤ 400000) (a1 : Pt) (n : Nat) (kk : KK) : ∀ (rest pre : List SvR) (m : Nat) (h : H) (p : Pt) (d : Cap), xs = pre ++ rest → rest.length < m → Mod [] a h → Grow a h 1 p pre.length d ((pre.map (·.1.name)).map .str) →
    ∃ m' p' d' h', config_parser_service_L0 n m a1 p pre.length d q xs.length c (Nat.cast xs.length) (pre.length : Nat) h kk = config_parser_service_L0 n (m' + 1) a1 p' xs.length d' q xs.length c (Nat.cast xs.length) (Nat.cast xs.length) h' kk ∧ Mod [] a h' ∧ Grow a h' 1 p' xs.length d' ((xs.map (·.1.name)).map .str)
  | [], pre, m + 1, h, p, d, e, _, hm, g => by
    rw [List.append_nil] at e
    subst e
    exact ⟨m, p, d, h, rfl, hm, g⟩
  | t :: ts, pre, m + 1, h, p, d, e, hl, hm, g => by
    have hget : xs[pre.length]? = some t := by rw [e]; simp
    have hlt : pre.length < xs.length := (List.getElem?_eq_some_iff.1 hget).1
    rw [config_parser_service_L0_eq, cast_lt hlt, cond_true, (r.mod0 hm).ix encR_len (by decide) hget]
    simp only [encR, encS, lS_of, lI_of, lL_of, l0_nil]
    rw [newK_eq, box_wr (n := 10) rfl rfl rfl, cellK_of (get_new_self _ _) rfl, asStr_str, newK_eq]
    have m1 : Mod [] h (h.new (.cells (encS t.1 (.slice t.2.1 t.1.bks.length t.2.2)) false)) := (Mod.refl _ _).new _
    obtain ⟨p', d', h', e1, g', m', hn⟩ := (g.mod0 m1).pushE (bytes := 16) (hm.trans m1).next (xs := [.str t.1.name]) rfl rfl (by decide) (by omega) (by omega)
    dsimp only [encS] at e1
    rw [e1, wrap_succ (by omega)]
    have hm' : Mod [] a h' := (hm.trans m1).trans' m' fun x hx hl => by have := (g.own_ge x hx).1; omega
    have := service_names r hx a1 n kk ts (pre ++ [t]) m h' p' d' (by rw [e]; simp) (by simp at hl; omega) hm' (by simpa using g')
    simpa using this

theorem once_s {h : H} {n b1 : Nat} (hb : b1 < h.next) {P : Nat → List AV → List AV → H → Prop} {c : Option (AV × H)} (r : Ret c fun r h' => Mod [] h h' ∧ ∃ f x y, r = .func f x y ∧ P f x y h') {need : Bool} {k : Int → Bool → AV → AV × H → AV × H → Option Unit}
    (hk : ∀ f x y h' h'' v v', Mod [] h h' → P f x y h' → Mod [] h' h'' → k 1 need (.func f x y) (v, h') (v', h'') = some ()) :
    (c.bind fun q => asFn q.1 fun f x y => sameK h q.2 (blkP (some (b1, 0))) ((ca (n + 1) i_config_once [.bool need, .func f x y] q.2).bind fun q' => asAgg q'.1 fun l => lI l fun i l => lB l fun b l => lc l fun v l => l0 l (sameK q.2 q'.2 (blkP (some (b1, 0))) (k i b v q q')))) = some () := by
  obtain ⟨r, h1, rfl, m1, f, x, y, rfl, rd⟩ := r
  rw [Option.bind_some, asFn_of, once_eq, Option.bind_some]
  simp only [asAgg_agg, lI_of, lB_of, lc_cons, l0_nil]
  have m2 : Mod [] h1 (h1.new (.cells [.int .i64 1, .bool need, .func f x y] false)) := (Mod.refl _ _).new _
  rw [show blkP (some (b1, 0)) = some b1 from rfl, sameK_mod m1 hb (by simp), sameK_mod m2 (m1.lt hb) (by simp)]
  exact hk f x y _ _ _ _ m1 rd m2
theorem fn_s {S : List Nat} {h : H} {N b1 : Nat} (hb : b1 < h.next) {tk : St → Bs → Int → St × Bool} {c : Option (AV × H)} (r : Ret c (MadeT e S N tk h)) {k : Nat → List AV → List AV → AV × H → Option Unit}
    (hk : ∀ f x y h' v, Mod [] h h' → TkOk e S h' N f x y tk → k f x y (v, h') = some ()) : (c.bind fun q => asFn q.1 fun f x y => sameK h q.2 (blkP (some (b1, 0))) (sameK h q.2 (blkP (some (b1, 0))) (k f x y q))) = some () := by
  obtain ⟨r, h1, rfl, m1, f, x, y, rfl, rd⟩ := r
  rw [Option.bind_some, asFn_of, show blkP (some (b1, 0)) = some b1 from rfl, sameK_mod m1 hb (by simp), sameK_mod m1 hb (by simp)]
  exact hk f x y _ _ m1 rd
theorem made_g {S : List Nat} {h : H} {N : Nat} {sem : St → St × Bool} {c : Option (AV × H)} (r : Ret c (Made e S N sem h)) : Ret c fun r h' => Mod [] h h' ∧ ∃ f x y, r = .func f x y ∧ RdOk e S h' N f x y sem := r
/-- what a choice's maker gives -/
def ChP (e : En) (S : List Nat) (m : Nat) (put : St → Int → St) (f : Nat) (x y : List AV) (h' : H) : Prop :=
  f = i_config_parser_choice_1 ∧ x = [] ∧ ∀ (S2 : List Nat) (h2 : H) (o : AObj) (L : List (Bs × Int)), (∀ j oj, Kept S h' j oj → j ≠ m → Kept S2 h2 j oj) → Kept S2 h2 m o → MObj AV.str (fun v => .int .i64 v) L o → RdOk e S2 h2 30 i_config_parser_choice_1 [] y (choiceS e.s e.l put L)
theorem choice_g (hS : ∀ x ∈ S, x < h.next) {q : Nat × Nat} {put : St → Int → St} (hp : PutOk e q 1 (fun v => [.int .i64 v]) put) {m : Nat} (hm : m < h.next) (n : Nat) :
    Ret (ca (n + 1) i_config_parser_choice [.ptr (some (e.b, 0)), .ptr (some q), .map (some m)] h) fun r h' => Mod [] h h' ∧ ∃ f x y, r = .func f x y ∧ ChP e S m put f x y h' :=
  (choice_mk hS hp hm n).mono fun r h' ⟨q1, y, q2, q3⟩ => ⟨q1, _, _, y, q2, rfl, rfl, q3⟩
end
end Go.Ev.Tryd

/- The configuration's reader: a service, walked. -/
namespace Go.Ev.Tryd
set_option maxRecDepth 10000
set_option maxHeartbeats 1000000
open Go.Proofs

theorem frUp {T T' : List Nat} {a b : H} (m : Mod [] a b) (hT : ∀ y ∈ T', y ∈ T ∨ a.next ≤ y) : Fr T a T' b := ⟨m.of_nil, hT⟩

theorem service_rd (e : En) (hs0 : e.sv = none) (hb0 : e.bk = none) (S0 : List Nat) (h0 : H) (hw : Words e.l) {N : Nat} (hN : 90000 + e.l.length ≤ N) : RdOk e S0 h0 N i_config_parser_service [.ptr (some (e.b, 0))] [] (serviceS e.s e.l) := by
  refine ⟨fun b k => by kernel_rfl, fun n hn h S st _ i => relK (by kernel_rfl) ?_⟩
  intro kk hkk
  obtain ⟨n, rfl⟩ : ∃ k, n = k + 2 := ⟨n - 2, by omega⟩
  show cr (n + 1 + 1) i_config_parser_service [.ptr (some (e.b, 0))] h kk = some ()
  have hw' : ∀ w ∈ e.l, w.1.size < 90000 ∧ w.1.size + 70 ≤ 80070 := fun w hx => by have := hw w hx; omega
  have ok := i.okp
  have oks := ok.svs
  have hk := ok.k
  have hll := ok.len
  rw [config_parser_service_eq, newK_eq]
  have ma : Mod [] h (h.new (.cells [.ptr (some (e.b, 0))] false)) := (Mod.refl _ _).new _
  have k1 : Kept S (h.new (.cells [.ptr (some (e.b, 0))] false)) h.next (.cells [.ptr (some (e.b, 0))] false) := kept_new i.ltS _
  replace i := i.frame ma
  have fa : Fr S h S (h.new (.cells [.ptr (some (e.b, 0))] false)) := .mod0 ma
  generalize h.new (.cells [.ptr (some (e.b, 0))] false) = ha at k1 i fa ⊢
  generalize h.next = b1 at k1 ⊢
  have i0 := i
  obtain ⟨g, rfl, i⟩ := i
  rw [k1.cell, asPtr_ptr]
  simp only [nnK_some', Nat.zero_add]
  rw [i.cell (o := 17) rfl, asSlice_slice]
  have hsv : st.p.svs.length = g.svr.length := by rw [← i.esv, List.length_map]
  have hnames : g.svr.map (·.1.name) = st.p.svs.map (·.name) := by rw [← i.esv, List.map_map]; rfl
  have hrow : Row ha 10 (slP g.f 4) g.svr.length g.gc (g.svr.flatMap encR) := by rw [← hsv]; exact (i.gp.grow i.ow).row
  obtain ⟨m', p', d', h1, e1, m1, g1⟩ := service_names hrow (by omega) (some (b1, 0)) (n + 1) kk g.svr [] (n + 1) ha none (.known 0) rfl (by omega) (.refl _ _) .nil
  rw [hnames] at g1
  rw [hsv]
  rw [show config_parser_service_L0 (n + 1) (n + 1) (some (b1, 0)) none 0 (.known 0) (slP g.f 4) g.svr.length g.gc (Nat.cast g.svr.length) 0 ha kk = _ from e1]
  rw [config_parser_service_L0_eq, cast_not_lt (Nat.le_refl _), cond_false]
  have i1 := i0.frame m1
  have f1 : Fr (foot g.f) ha (foot g.f) h1 := .mod0 m1
  have k2 := k1.mod0 m1
  have hS : ∀ b ∈ own p', b ∉ foot g.f := fun b hb hm => by
    have := (g1.own_ge b hb).1
    have := i0.ltS b hm
    omega
  generalize hSS : foot g.f = S at *
  have hr : Row h1 1 p' (st.p.svs.map (·.name)).length d' ((st.p.svs.map (·.name)).map .str) := by rw [List.length_map, hsv]; exact g1.row
  have hnm := named_ret i1 hr (by rw [List.length_map]; omega) hS (n := n + 1) (by rw [List.length_map]; omega)
  rw [List.length_map, hsv] at hnm
  simp only [nnK_some']
  rw [k2.cell, asPtr_ptr]
  unfold serviceS at hkk
  have hvk := namedP_k e.s e.l (st.p.svs.map (·.name)) st.p
  generalize namedP e.s e.l (st.p.svs.map (·.name)) st.p = v at hvk hnm hkk
  obtain ⟨p1, nm, is⟩ := v
  obtain ⟨r, h2, e2, rfl, f2, j2⟩ := hnm
  rw [e2, Option.bind_some]
  simp only [asTup_tup, lS_of, lB_of, l0_nil]
  cases is with
  | false =>
    rw [Bool.not_false, cond_true]
    exact hkk _ _ ⟨S, rfl, (fa.trans f1).trans f2, j2⟩
  | true =>
    obtain rfl : p1 = { st.p with k := st.p.k + 1 } := hvk rfl
    rw [Bool.not_true, cond_false, newK_eq]
    obtain ⟨S1, f3, j3⟩ := j2.openS hs0 (y := newSv nm) rfl (Nat.le_refl h2.next) (.new h2 (.cells (encS (newSv nm) (.slice none 0 (.known 0))) false)) ((Mod.refl _ _).new _)
    have k3 := (k2.fr f2).fr f3
    rw [show (AObj.cells [(.str nm), (.str .empty), (.int .i64 0), (.int .i64 0), (.int .i64 0), (.int .i64 1), (.int .i64 1), (.int .i64 1), (.int .i64 100), (.slice none 0 (.known 0))] false) = .cells (encS (newSv nm) (.slice none 0 (.known 0))) false from rfl]
    generalize h2.next = X at j3 ⊢
    generalize h2.new (.cells (encS (newSv nm) (.slice none 0 (.known 0))) false) = hA at j3 f3 k3 ⊢
    rw [newK_eq, box_wr (n := 1) rfl rfl rfl]
    have mb : Mod [] hA (hA.new (.cells [.ptr (some (X, 0))] false)) := (Mod.refl _ _).new _
    have kX : Kept S1 (hA.new (.cells [.ptr (some (X, 0))] false)) hA.next (.cells [.ptr (some (X, 0))] false) := kept_new j3.ltS _
    replace j3 := j3.frame mb
    have k4 := k3.mod0 mb
    have f4 : Fr S1 hA S1 (hA.new (.cells [.ptr (some (X, 0))] false)) := .mod0 mb
    generalize hA.new (.cells [.ptr (some (X, 0))] false) = hb at j3 k4 kX f4 ⊢
    generalize hA.next = X2 at kX ⊢
    have f04 := (((fa.trans f1).trans f2).trans f3).trans f4
    have hS1 := j3.ltS
    have rd1 : ∀ {β : Type} {hh : H}, Mod [] hb hh → ∀ f : AV → Option β, cellK hh b1 0 f = f (.ptr (some (e.b, 0))) := fun m f => (k4.mod0 m).cell f
    have rdX : ∀ {β : Type} {hh : H}, Mod [] hb hh → ∀ f : AV → Option β, cellK hh X2 0 f = f (.ptr (some (X, 0))) := fun m f => (kX.mod0 m).cell f
    have lt1 : ∀ {hh : H}, Mod [] hb hh → b1 < hh.next := fun m => (k4.mod0 m).at_.lt
    have m66 : Mod [] hb (hb.newO none) := (Mod.refl _ _).newO _
    have m76 : Mod [] hb ((hb.newO none).newO none) := m66.newO _
    rw [rd1 (.refl _ _), asPtr_ptr, newHK_eq, rd1 m66, asPtr_ptr, rdX m66, asPtr_ptr, nnK_some', newHK_eq]
    have n66 : (hb.newO none).next = hb.next + 1 := next_newO _ _
    have n76 : ((hb.newO none).newO none).next = hb.next + 2 := by rw [next_newO, n66]
    rw [n66]
    have u1 : ∀ x ∈ [hb.next, hb.next + 1] ++ S1, x < ((hb.newO none).newO none).next := by
      intro x hx
      rw [n76]
      simp only [List.cons_append, List.nil_append, List.mem_cons] at hx
      rcases hx with rfl | rfl | hx
      · omega
      · omega
      · have := hS1 x hx; omega
    have up : ∀ {T : List Nat} {h' h'' : H}, Mod [] h' h'' → (∀ x ∈ T, x < h'.next) → ∀ x ∈ T, x < h''.next := fun m hh x hx => m.lt (hh x hx)
    generalize (hb.newO none).newO none = h77 at m76 n76 u1 ⊢
    refine once_s (lt1 m76) (choice_g (e := { e with sv := some X }) u1 (put_sproto rfl) (m := hb.next + 1) (by omega) n) fun f1' x1 y1 c1 c2 v1 w1 mA P1 mB => ?_
    have M2 := (m76.trans mA).trans mB
    dsimp only
    simp only [minus_quiet mA, minus_quiet mB, minus_none]
    rw [rd1 M2, asPtr_ptr, rdX M2, asPtr_ptr, nnK_some']
    have u2 := up (mA.trans mB) u1
    refine fn_s (lt1 M2) (into_mk (e := { e with sv := some X }) u2 (put_svip rfl) n) fun fI xI yI c3 v3 mC dI => ?_
    have M3 := M2.trans mC
    have u3 := up mC u2
    dsimp only
    refine once_s (lt1 M3) (made_g (address_mk (e := { e with sv := some X }) u3 hw' (by omega) true (dI.more (N' := 80069) (by omega)) n)) fun f2' x2 y2 c4 c5 v4 w4 mD q2 mE => ?_
    have M5 := (M3.trans mD).trans mE
    dsimp only
    simp only [minus_quiet mA, minus_quiet mB, minus_quiet mC, minus_quiet mD, minus_quiet mE, minus_none]
    rw [rd1 M5, asPtr_ptr, rdX M5, asPtr_ptr, nnK_some']
    have u5 := up (mD.trans mE) u3
    refine once_s (lt1 M5) (made_g (number_mk (e := { e with sv := some X }) u5 (put_sport rfl) 1 65535 n)) fun f3' x3 y3 c6 c7 v6 w6 mF q3 mG => ?_
    have M7 := (M5.trans mF).trans mG
    dsimp only
    simp only [minus_quiet mA, minus_quiet mB, minus_quiet mC, minus_quiet mD, minus_quiet mE, minus_quiet mF, minus_quiet mG, minus_none]
    rw [rd1 M7, asPtr_ptr, rdX M7, asPtr_ptr, nnK_some', newHK_eq]
    have u7 := up (mF.trans mG) u5
    have mH : Mod [] c7 (c7.newO none) := (Mod.refl _ _).newO _
    have M8 := M7.trans mH
    have n8 : (c7.newO none).next = c7.next + 1 := next_newO _ _
    have u8 : ∀ x ∈ [hb.next, hb.next + 1, c7.next] ++ S1, x < (c7.newO none).next := by
      intro x hx
      rw [n8]
      simp only [List.cons_append, List.nil_append, List.mem_cons] at hx
      rcases hx with rfl | rfl | rfl | hx
      · have := u7 hb.next (by simp); omega
      · have := u7 (hb.next + 1) (by simp); omega
      · omega
      · have := u7 x (by simp [hx]); omega
    generalize c7.newO none = c8 at mH M8 n8 u8 ⊢
    refine once_s (lt1 M8) (choice_g (e := { e with sv := some X }) u8 (put_smode rfl) (m := c7.next) (by omega) n) fun f4' x4 y4 c9 c10 v9 w9 mI P4 mJ => ?_
    have M10 := (M8.trans mI).trans mJ
    dsimp only
    simp only [minus_quiet mA, minus_quiet mB, minus_quiet mC, minus_quiet mD, minus_quiet mE, minus_quiet mF, minus_quiet mG, minus_quiet mI, minus_quiet mJ, minus_none]
    rw [rd1 M10, asPtr_ptr, rdX M10, asPtr_ptr, nnK_some', newHK_eq]
    have u10 := up (mI.trans mJ) u8
    have mK : Mod [] c10 (c10.newO none) := (Mod.refl _ _).newO _
    have M11 := M10.trans mK
    have n11 : (c10.newO none).next = c10.next + 1 := next_newO _ _
    have u11 : ∀ x ∈ [hb.next, hb.next + 1, c7.next, c10.next] ++ S1, x < (c10.newO none).next := by
      intro x hx
      rw [n11]
      simp only [List.cons_append, List.nil_append, List.mem_cons] at hx
      rcases hx with rfl | rfl | rfl | rfl | hx
      · have := u10 hb.next (by simp); omega
      · have := u10 (hb.next + 1) (by simp); omega
      · have := u10 c7.next (by simp); omega
      · omega
      · have := u10 x (by simp [hx]); omega
    generalize c10.newO none = c11 at mK M11 n11 u11 ⊢
    refine once_s (lt1 M11) (choice_g (e := { e with sv := some X }) u11 (put_ssched rfl) (m := c10.next) (by omega) n) fun f5' x5 y5 c12 c13 v12 w12 mL P5 mM => ?_
    have M13 := (M11.trans mL).trans mM
    dsimp only
    simp only [minus_quiet mA, minus_quiet mB, minus_quiet mC, minus_quiet mD, minus_quiet mE, minus_quiet mF, minus_quiet mG, minus_quiet mI, minus_quiet mJ, minus_quiet mL, minus_quiet mM, minus_none]
    rw [rd1 M13, asPtr_ptr, rdX M13, asPtr_ptr, nnK_some']
    have u13 := up (mL.trans mM) u11
    refine once_s (lt1 M13) (made_g (number_mk (e := { e with sv := some X }) u13 (put_srise rfl) 1 20 n)) fun f6' x6 y6 c14 c15 v14 w14 mN q6 mO => ?_
    have M15 := (M13.trans mN).trans mO
    dsimp only
    simp only [minus_quiet mA, minus_quiet mB, minus_quiet mC, minus_quiet mD, minus_quiet mE, minus_quiet mF, minus_quiet mG, minus_quiet mI, minus_quiet mJ, minus_quiet mL, minus_quiet mM, minus_quiet mN, minus_quiet mO, minus_none]
    rw [rd1 M15, asPtr_ptr, rdX M15, asPtr_ptr, nnK_some']
    have u15 := up (mN.trans mO) u13
    refine once_s (lt1 M15) (made_g (number_mk (e := { e with sv := some X }) u15 (put_sfall rfl) 1 20 n)) fun f7' x7 y7 c16 c17 v16 w16 mP q7 mQ => ?_
    have M17 := (M15.trans mP).trans mQ
    dsimp only
    simp only [minus_quiet mA, minus_quiet mB, minus_quiet mC, minus_quiet mD, minus_quiet mE, minus_quiet mF, minus_quiet mG, minus_quiet mI, minus_quiet mJ, minus_quiet mL, minus_quiet mM, minus_quiet mN, minus_quiet mO, minus_quiet mP, minus_quiet mQ, minus_none]
    rw [rd1 M17, asPtr_ptr, rdX M17, asPtr_ptr, nnK_some']
    have u17 := up (mP.trans mQ) u15
    refine once_s (lt1 M17) (made_g (number_mk (e := { e with sv := some X }) u17 (put_sprobe rfl) 1 10000 n)) fun f8' x8 y8 c18 c19 v18 w18 mR q8 mS => ?_
    have M19 := (M17.trans mR).trans mS
    have u19 := up (mR.trans mS) u17
    dsimp only
    have o7 : hb.next + 2 ≤ c7.next := by rw [← n76]; exact ((((((mA.trans mB).trans mC).trans mD).trans mE).trans mF).trans mG).next
    have o10 : c7.next + 1 ≤ c10.next := by rw [← n8]; exact (mI.trans mJ).next
    have z16 := mQ.trans (mR.trans mS)
    have z14 := mO.trans (mP.trans z16)
    have z12 := mM.trans (mN.trans z14)
    have z9 := mJ.trans (mK.trans (mL.trans z12))
    have z6 := mG.trans (mH.trans (mI.trans z9))
    have z4 := mE.trans (mF.trans z6)
    have z1 := mB.trans (mC.trans (mD.trans z4))
    have t9 : Fr ([hb.next, hb.next + 1, c7.next] ++ S1) c9 ([hb.next, hb.next + 1, c7.next, c10.next] ++ S1) c19 := frUp z9 fun y hy => by
      have := mJ.next
      simp only [List.cons_append, List.nil_append, List.mem_cons] at hy ⊢
      rcases hy with rfl | rfl | rfl | rfl | hy <;> simp_all
    have t6 : Fr ([hb.next, hb.next + 1] ++ S1) c6 ([hb.next, hb.next + 1, c7.next, c10.next] ++ S1) c19 := frUp z6 fun y hy => by
      have := mG.next
      simp only [List.cons_append, List.nil_append, List.mem_cons] at hy ⊢
      rcases hy with rfl | rfl | rfl | rfl | hy
      · simp
      · simp
      · right; omega
      · right; omega
      · simp [hy]
    have t4 : Fr ([hb.next, hb.next + 1] ++ S1) c4 ([hb.next, hb.next + 1, c7.next, c10.next] ++ S1) c19 := frUp z4 fun y hy => by
      have := (mE.trans (mF.trans mG)).next
      simp only [List.cons_append, List.nil_append, List.mem_cons] at hy ⊢
      rcases hy with rfl | rfl | rfl | rfl | hy
      · simp
      · simp
      · right; omega
      · right; omega
      · simp [hy]
    have t1 : Fr ([hb.next, hb.next + 1] ++ S1) c1 ([hb.next, hb.next + 1, c7.next, c10.next] ++ S1) c19 := frUp z1 fun y hy => by
      have := (mB.trans (mC.trans (mD.trans (mE.trans (mF.trans mG))))).next
      simp only [List.cons_append, List.nil_append, List.mem_cons] at hy ⊢
      rcases hy with rfl | rfl | rfl | rfl | hy
      · simp
      · simp
      · right; omega
      · right; omega
      · simp [hy]
    obtain ⟨rfl, rfl, P1⟩ := P1
    obtain ⟨rfl, rfl, P4⟩ := P4
    obtain ⟨rfl, rfl, P5⟩ := P5
    have lt66 := u19 hb.next (by simp)
    have lt76 := u19 (hb.next + 1) (by simp)
    have lt142 := u19 c7.next (by simp)
    have lt164 := u19 c10.next (by simp)
    have d1 : hb.next ≠ c7.next := by omega
    have d1' : hb.next ≠ c10.next := by omega
    have d2 : hb.next + 1 ≠ c7.next := by omega
    have d2' : hb.next + 1 ≠ c10.next := by omega
    have d3 : c7.next ≠ c10.next := by omega
    refine restK_ret (by simp) (by simp; exact ⟨lt66, lt76, lt142, lt164⟩) (by simp [List.pairwise_cons, key_str, d1, d1', d2, d2', d3, d1.symm, d1'.symm, d2.symm, d2'.symm, d3.symm]) fun h20 r => ?_
    have fr : Fr ([hb.next, hb.next + 1, c7.next, c10.next] ++ S1) c19 S1 h20 := r.fr
    have hout : ∀ {x : Nat}, hb.next ≤ x → x ∉ S1 := fun hx hm => by have := hS1 _ hm; omega
    obtain ⟨LA, oA, hpA, kA, hMA⟩ := restChoice r (S := S1) (m := hb.next + 1) (by simp) lt76 (hout (by omega)) (L := tcpUdp) (by simp [tcpUdp, kTcp, kUdp, d2.symm, d2'.symm])
    obtain ⟨LB, oB, hpB, kB, hMB⟩ := restChoice r (S := S1) (m := c7.next) (by simp) lt142 (hout (by omega)) (L := modes) (by simp [modes, kNat, kDr, kIpip, d1, d2, d3.symm])
    obtain ⟨LC, oC, hpC, kC, hMC⟩ := restChoice r (S := S1) (m := c10.next) (by simp) lt164 (hout (by omega)) (L := scheds) (by simp [scheds, kMaglev, kSource, d1', d2', d3])
    have g1' := P1 S1 h20 oA LA (fun j oj k _ => (k.fr t1).fr fr) kA hMA
    rw [choiceS_perm hpA (by simp [tcpUdp, kTcp, kUdp])] at g1'
    have g4' := P4 S1 h20 oB LB (fun j oj k _ => (k.fr t9).fr fr) kB hMB
    rw [choiceS_perm hpB (by simp [modes, kNat, kDr, kIpip])] at g4'
    have g5' := P5 S1 h20 oC LC (fun j oj k _ => (k.mod0 z12).fr fr) kC hMC
    rw [choiceS_perm hpC (by simp [scheds, kMaglev, kSource])] at g5'
    have g2' := (q2.fr t4).fr fr
    have g3' := (q3.fr t6).fr fr
    have g6' := (q6.fr (.mod0 z14)).fr fr
    have g7' := (q7.fr (.mod0 z16)).fr fr
    have g8' := (q8.fr (.mod0 mS)).fr fr
    have M20 : Mod [] hb h20 := r.mod M19 (by simp; omega)
    have g9' : RdOk { e with sv := some X } S1 h20 (81010 + e.l.length) i_config_parser_service_1 [] [.ptr (some (b1, 0)), .ptr (some (X2, 0))] (backendS e.s e.l) := service1_rd (e := { e with sv := some X }) rfl hb0 hw (k4.mod0 M20) (kX.mod0 M20) (Nat.le_refl _)
    refine keys_block (n := n + 1) (N := 81010 + e.l.length) (e := { e with sv := some X }) (L := [(kProto, ⟨1, true, i_config_parser_choice_1, [], y1, choiceS e.s e.l putSProto tcpUdp⟩), (kVip, ⟨1, true, f2', x2, y2, addressS e.s e.l true (intoS putSVip)⟩), (kPort, ⟨1, true, f3', x3, y3, numberS e.s e.l putSPort 1 65535⟩), (kMode, ⟨1, true, i_config_parser_choice_1, [], y4, choiceS e.s e.l putSMode modes⟩), (kSched, ⟨1, false, i_config_parser_choice_1, [], y5, choiceS e.s e.l putSSched scheds⟩),
      (kRise, ⟨1, false, f6', x6, y6, numberS e.s e.l putSRise 1 20⟩), (kFall, ⟨1, false, f7', x7, y7, numberS e.s e.l putSFall 1 20⟩), (kProbe, ⟨1, false, f8', x8, y8, numberS e.s e.l putSProbe 1 10000⟩), (kBackend, ⟨16, true, i_config_parser_service_1, [], [.ptr (some (b1, 0)), .ptr (some (X2, 0))], backendS e.s e.l⟩)]) (L0 := serviceK e.s e.l) j3 M19 (by simp; omega) (by simp) lt66 (by simp [encK, kProto, kVip, kPort, kMode, kSched, kRise, kFall, kProbe, kBackend, d1.symm, d1'.symm]) r ⟨?_, ?_, rfl, ?_, by simp⟩ (by simp [kProto, kVip, kPort, kMode, kSched, kRise, kFall, kProbe, kBackend]) rfl (by omega) (by omega) (by show e.l.length + 5 ≤ _; omega) _ fun r' h21 hq => ?_
    · intro x hx
      simp only [List.mem_cons, List.not_mem_nil, or_false] at hx
      rcases hx with rfl | rfl | rfl | rfl | rfl | rfl | rfl | rfl | rfl
      · exact RdOk.more (N := 30) g1' (by omega)
      · exact RdOk.more (N := 80070) g2' (by omega)
      · exact RdOk.more (N := 30) g3' (by omega)
      · exact RdOk.more (N := 30) g4' (by omega)
      · exact RdOk.more (N := 30) g5' (by omega)
      · exact RdOk.more (N := 30) g6' (by omega)
      · exact RdOk.more (N := 30) g7' (by omega)
      · exact RdOk.more (N := 30) g8' (by omega)
      · exact g9'
    · intro x hx
      simp only [List.mem_cons, List.not_mem_nil, or_false] at hx
      rcases hx with rfl | rfl | rfl | rfl | rfl | rfl | rfl | rfl | rfl
      · exact choiceS_k (put := putSProto) (fun _ _ => rfl) _
      · exact addressS_k fun _ _ _ => rfl
      · exact numberS_k (put := putSPort) (fun _ _ => rfl) _ _
      · exact choiceS_k (put := putSMode) (fun _ _ => rfl) _
      · exact choiceS_k (put := putSSched) (fun _ _ => rfl) _
      · exact numberS_k (put := putSRise) (fun _ _ => rfl) _ _
      · exact numberS_k (put := putSFall) (fun _ _ => rfl) _ _
      · exact numberS_k (put := putSProbe) (fun _ _ => rfl) _ _
      · exact backendS_k _ _
    · intro x hx
      simp only [List.mem_cons, List.not_mem_nil, or_false] at hx
      rcases hx with rfl | rfl | rfl | rfl | rfl | rfl | rfl | rfl | rfl <;> first | exact (by decide : (1 : Int) ≤ 1000) | exact (by decide : (16 : Int) ≤ 1000)
    · obtain ⟨S', rfl, f7, j7⟩ := hq
      have hbk : sameSvs _ _ := blockS_R steps_svs (s := e.s) (l := e.l) (serviceK_svs e.s e.l) { setP st { st.p with k := st.p.k + 1 } with sv := newSv nm }
      have hkk' := blockS_k (s := e.s) (l := e.l) (serviceK_k e.s e.l) { setP st { st.p with k := st.p.k + 1 } with sv := newSv nm }
      have hkk2 : ∀ r h', (∃ S', r = .bool (pushS (blockS e.s e.l (serviceK e.s e.l) { setP st { st.p with k := st.p.k + 1 } with sv := newSv nm })).2 ∧ Fr S h S' h' ∧ Inv e h' (pushS (blockS e.s e.l (serviceK e.s e.l) { setP st { st.p with k := st.p.k + 1 } with sv := newSv nm })).1 S') → kk r h' = some () := hkk
      clear hkk
      change Inv _ h21 (blockS e.s e.l (serviceK e.s e.l) { setP st { st.p with k := st.p.k + 1 } with sv := newSv nm }).1 S' at j7
      change (_ : St).p.svs = st.p.svs at hbk
      change st.p.k + 1 ≤ _ at hkk'
      rw [asBool_bool]
      have kk1 := k4.fr f7
      have kkX := kX.fr f7
      rw [kk1.cell, asPtr_ptr, kk1.cell, asPtr_ptr]
      simp only [nnK_some', Nat.zero_add]
      show (cellK h21 e.b 17 fun v253 => _) = some ()
      change (cellK h21 e.b 17 fun v253 => asSlice v253 fun x254 n255 c256 => cellK h21 X2 0 fun v257 => asPtr v257 fun x258 => nnK x258 fun b259 o260 => aggK h21 b259 o260 10 fun l261 => lS l261 fun x263 l262 => lS l262 fun x265 l264 => lI l264 fun x267 l266 => lI l266 fun x269 l268 => lI l268 fun x271 l270 => lI l270 fun x273 l272 => lI l272 fun x275 l274 => lI l274 fun x277 l276 => lI l276 fun x279 l278 => lL l278 fun x281 n282 c283 l280 => l0 l280 (newK (.cells [(.str x263), (.str x265), (.int .i64 x267), (.int .i64 x269), (.int .i64 x271), (.int .i64 x273), (.int .i64 x275), (.int .i64 x277), (.int .i64 x279), (.slice x281 n282 c283)] false) h21 fun i284 h285 => appK 10 112 x254 n255 c256 (evSrc 10 (.slice (some (i284, 0)) 1 (.known 1)) h285) h285 fun p286 n287 c288 h289 => sameK h285 h289 (blkP (some (b1, 0))) (wrK h289 e.b 17 1 [.slice p286 n287 c288] fun h292 => kk (.bool (blockS e.s e.l (serviceK e.s e.l) { setP st { st.p with k := st.p.k + 1 } with sv := newSv nm }).2) h292))) = some ()
      generalize blockS e.s e.l (serviceK e.s e.l) { setP st { st.p with k := st.p.k + 1 } with sv := newSv nm } = w at hkk2 j7 hbk hkk' ⊢
      obtain ⟨g7, rfl, j7⟩ := j7
      rw [j7.cell (o := 17) rfl, asSlice_slice, kkX.cell, asPtr_ptr, nnK_some']
      have hX := j7.ow.get 6 X j7.fv
      rw [j7.cv] at hX
      rw [aggK_all (n := 10) hX rfl]
      simp only [encS, lS_of, lI_of, lL_of, l0_nil]
      obtain ⟨y', cap', h22, h23, S23, e22, m22, e23, f23, j23⟩ := InvG.pushSv hs0 j7 (by rw [hbk]; omega)
      dsimp only [encS] at e22 e23
      rw [newK_eq, e22, show blkP (some (b1, 0)) = some b1 from rfl, sameK_of (by rw [m22.get _ kk1.at_.lt (fun hm => kk1.out (j7.ow.mem.2 ⟨4, by
        cases h4 : g7.f 4 with
        | none => rw [slP, h4] at hm; simp at hm
        | some z => rw [slP, h4] at hm; obtain rfl : b1 = z := by simpa using hm
                    rfl⟩)), get_new_lt kk1.at_.lt]), e23]
      exact hkk2 _ _ ⟨S23, rfl, (f04.trans f7).trans f23, j23⟩
end Go.Ev.Tryd

/- The configuration's reader: all blocks. -/
namespace Go.Ev.Tryd
set_option maxRecDepth 10000
set_option maxHeartbeats 1000000
open Go.Proofs

def kNode : Bs := ⟨#[110, 111, 100, 101]⟩
def kVrrp : Bs := ⟨#[118, 114, 114, 112]⟩
def kService : Bs := ⟨#[115, 101, 114, 118, 105, 99, 101]⟩
def allK (s : Bs) (l : List Wd) : List (Bs × Key) := [mkK kNode 1 true (nodeS s l), mkK kVrrp 1 true (vrrpS s l), mkK kService 4 false (serviceS s l)]
def oddSpot (p : Ps) (x : Bs × Int × Bool) : Bool := decide (x.1.size ≠ p.addr.size)
def noVip (p : Ps) (x : Bs × Int × Bool) : Bool := x.2.2 && !memB x.1 p.vips
def spotS (st : St) : Option (Bs × Int × Bool) → St × Bool
  | some x => (setP st (failP st.p x.2.1 182), false)
  | none => (st, true)
def vipsS (st : St) : St × Bool := spotS st (st.p.spots.find? (noVip st.p))
def spotsS (st : St) : St × Bool := match st.p.spots.find? (oddSpot st.p) with
  | some x => (setP st (failP st.p x.2.1 182), false)
  | none => vipsS st
def endA (s : Bs) (M : List (Bs × Int)) (st : St) : St × Bool := if cnt M kNode = 0 ∨ cnt M kVrrp = 0 then (setP st (failP st.p s.size 183), false) else spotsS st
def allB (s : Bs) (l : List Wd) (L : List (Bs × Key)) : Nat → List (Bs × Int) → St → St × Bool
  | 0, _, st => (st, false)
  | F + 1, M, st =>
    if st.p.k < l.length then
      match lk L (peekP l st.p.k) with
      | none => (setP st (failP st.p (placeP s l st.p.k) 180), false)
      | some key =>
        if key.most ≤ cnt M (peekP l st.p.k) then (setP st (failP st.p (placeP s l st.p.k) (if key.most = 1 then 181 else 184)), false)
        else if (key.sem (setP st { st.p with k := st.p.k + 1 })).2 = true then allB s l L F (pt M (peekP l st.p.k) (cnt M (peekP l st.p.k) + 1)) (key.sem (setP st { st.p with k := st.p.k + 1 })).1
        else ((key.sem (setP st { st.p with k := st.p.k + 1 })).1, false)
    else endA s M st
def allS (s : Bs) (l : List Wd) (st : St) : St × Bool := allB s l (allK s l) (l.length + 1) [] st

theorem find_at {α : Type} {p : α → Bool} {xs pre ts : List α} {x : α} (e : xs = pre ++ x :: ts) (h : ∀ y ∈ pre, p y = false) (hx : p x = true) : xs.find? p = some x := by
  rw [e, List.find?_append, List.find?_eq_none.2 fun y hy => by rw [h y hy]; decide, List.find?_cons, hx]; rfl
theorem find_none {α : Type} {p : α → Bool} {xs : List α} (h : ∀ y ∈ xs, p y = false) : xs.find? p = none := List.find?_eq_none.2 fun y hy => by rw [h y hy]; decide
theorem allB_forK {s : Bs} {l : List Wd} {L : List (Bs × Key)} : ∀ (F : Nat) (M : List (Bs × Int)) (st : St), allB s l (L.map forK) F M st = allB s l L F M st
  | 0, _, _ => rfl
  | F + 1, M, st => by
    unfold allB
    rw [lk_forK]
    cases lk L (peekP l st.p.k) with
    | none => rfl
    | some key => simp only [Option.map_some, allB_forK F]; rfl

section
variable {e : En} {S0 S : List Nat} {h0 h hb : H} {st : St}

theorem vips_loop {g : Gh} (i : InvG e g hb st) {n : Nat} (hn : 400010 ≤ n) {kk : AV → H → Option Unit} (hkk : ∀ r h', (r = .bool (vipsS st).2 ∧ Fr (foot g.f) hb (foot g.f) h' ∧ Inv e h' (vipsS st).1 (foot g.f)) → kk r h' = some ()) :
    ∀ (rest pre : List (Bs × Int × Bool)) (m : Nat) (h : H), st.p.spots = pre ++ rest → rest.length < m → Mod [] hb h → (∀ y ∈ pre, noVip st.p y = false) →
      config_parser_all_L4 n m (some (e.b, 0)) (slP g.f 1) st.p.spots.length g.sc (Nat.cast st.p.spots.length) (pre.length : Nat) h kk = some ()
  | [], pre, m + 1, h, e1, _, md, hp => by
    rw [config_parser_all_L4_eq, cast_not_lt (by rw [e1]; simp), cond_false]
    have hf : st.p.spots.find? (noVip st.p) = none := find_none (by rw [e1, List.append_nil]; exact hp)
    unfold vipsS at hkk
    rw [hf] at hkk
    exact hkk _ _ ⟨rfl, .mod0 md, Inv.frame ⟨g, rfl, i⟩ md⟩
  | t :: ts, pre, m + 1, h, e1, hm, md, hp => by
    obtain ⟨n, rfl⟩ : ∃ k, n = k + 1 := ⟨n - 1, by omega⟩
    have hget : st.p.spots[pre.length]? = some t := by rw [e1]; simp
    have hlt : pre.length < st.p.spots.length := (List.getElem?_eq_some_iff.1 hget).1
    have ok := i.ok
    have o1 := ok.spots
    have o2 := ok.k
    have o3 := ok.len
    have o4 := ok.vips
    rw [config_parser_all_L4_eq, cast_lt hlt, cond_true, ((i.sp.grow i.ow).row.mod0 md).ix encSp_len (by decide) hget]
    simp only [encSp, lS_of, lI_of, lB_of, l0_nil]
    rw [newK_eq, box_wr (n := 3) rfl rfl rfl]
    have m1 : Mod [] hb (h.new (.cells [.str t.1, .int .i64 t.2.1, .bool t.2.2] false)) := md.new _
    have at1 : At (h.new (.cells [.str t.1, .int .i64 t.2.1, .bool t.2.2] false)) h.next (.cells [.str t.1, .int .i64 t.2.1, .bool t.2.2] false) := .new _ _
    generalize h.new (.cells [.str t.1, .int .i64 t.2.1, .bool t.2.2] false) = h1 at m1 at1 ⊢
    rw [at1.cell (v := .bool t.2.2) rfl, asBool_bool]
    have key : ∀ b : Bool, b = noVip st.p t → config_parser_all_J5 (n + 1) m (some (e.b, 0)) (some (h.next, 0)) (slP g.f 1) st.p.spots.length g.sc (Nat.cast st.p.spots.length) (pre.length : Nat) b h1 kk = some () := by
      rintro b hb'
      rw [config_parser_all_J5_eq]
      cases b with
      | true =>
        rw [cond_true, nnK_some', Nat.zero_add, at1.cell (v := .int .i64 t.2.1) rfl, asInt_int]
        obtain ⟨r, h2, e2, rfl, f2, j2⟩ := fail_ret (Inv.frame ⟨g, rfl, i⟩ m1) n t.2.1 182
        rw [e2, Option.bind_some, asBool_bool]
        have hf : st.p.spots.find? (noVip st.p) = some t := find_at e1 hp hb'.symm
        unfold vipsS at hkk
        rw [hf] at hkk
        exact hkk _ _ ⟨rfl, (Fr.mod0 m1).trans f2, j2⟩
      | false =>
        rw [cond_false, wrap_succ (by omega)]
        have := vips_loop i hn hkk ts (pre ++ [t]) m h1 (by rw [e1]; simp) (by simp at hm; omega) m1 (by
          intro y hy
          rcases List.mem_append.1 hy with hy | hy
          · exact hp y hy
          · obtain rfl := List.mem_singleton.1 hy; exact hb'.symm)
        simpa using this
    cases ht : t.2.2 with
    | true =>
      rw [cond_true]
      obtain ⟨_, _, j⟩ : Inv e h1 st (foot g.f) := Inv.frame ⟨g, rfl, i⟩ m1
      have jc : ∀ {o : Nat} {v : AV} (hv : (encP e g st.p)[o]? = some v) (k : AV → Option Unit), cellK h1 e.b o k = k v := fun hv k => by
        have hg : h1.get e.b = some (.cells (g.c 0) false) := (m1.get _ (i.ow.lt 0 _ i.fb) (by simp)).trans (i.ow.get 0 _ i.fb)
        exact cellK_of hg (by rw [i.cb]; exact hv) k
      simp only [nnK_some', Nat.zero_add]
      rw [jc (o := 15) rfl, asSlice_slice, at1.cell (v := .str t.1) (by rw [ht]; rfl), asStr_str, addrs_eq ((i.vp.grow i.ow).row.mod0 m1) (by omega) t.1 (by omega), Option.bind_some, asBool_bool]
      exact key _ (by unfold noVip; rw [ht]; rfl)
    | false =>
      rw [cond_false]
      exact key _ (by unfold noVip; rw [ht]; rfl)

theorem spots_loop {g : Gh} (i : InvG e g hb st) {n : Nat} (hn : 400010 ≤ n) {kk : AV → H → Option Unit} (hkk : ∀ r h', (r = .bool (spotsS st).2 ∧ Fr (foot g.f) hb (foot g.f) h' ∧ Inv e h' (spotsS st).1 (foot g.f)) → kk r h' = some ()) :
    ∀ (rest pre : List (Bs × Int × Bool)) (m : Nat) (h : H), st.p.spots = pre ++ rest → rest.length < m → Mod [] hb h → (∀ y ∈ pre, oddSpot st.p y = false) →
      config_parser_all_L3 n m (some (e.b, 0)) (slP g.f 1) st.p.spots.length g.sc (Nat.cast st.p.spots.length) (pre.length : Nat) h kk = some ()
  | [], pre, m + 1, h, e1, _, md, hp => by
    have ok := i.ok
    have o1 := ok.spots
    have o2 := ok.k
    have o3 := ok.len
    rw [config_parser_all_L3_eq, cast_not_lt (by rw [e1]; simp), cond_false]
    have hf : st.p.spots.find? (oddSpot st.p) = none := find_none (by rw [e1, List.append_nil]; exact hp)
    unfold spotsS at hkk
    rw [hf] at hkk
    have hg : h.get e.b = some (.cells (g.c 0) false) := (md.get _ (i.ow.lt 0 _ i.fb) (by simp)).trans (i.ow.get 0 _ i.fb)
    simp only [nnK_some', Nat.zero_add]
    rw [cellK_of hg (o := 18) (by rw [i.cb]; rfl), asSlice_slice]
    exact vips_loop i hn hkk st.p.spots [] n h rfl (by omega) md (by simp)
  | t :: ts, pre, m + 1, h, e1, hm, md, hp => by
    obtain ⟨n, rfl⟩ : ∃ k, n = k + 1 := ⟨n - 1, by omega⟩
    have hget : st.p.spots[pre.length]? = some t := by rw [e1]; simp
    have hlt : pre.length < st.p.spots.length := (List.getElem?_eq_some_iff.1 hget).1
    have ok := i.ok
    have o1 := ok.spots
    have o2 := ok.k
    have o3 := ok.len
    rw [config_parser_all_L3_eq, cast_lt hlt, cond_true, ((i.sp.grow i.ow).row.mod0 md).ix encSp_len (by decide) hget]
    simp only [encSp, lS_of, lI_of, lB_of, l0_nil]
    rw [newK_eq, box_wr (n := 3) rfl rfl rfl]
    have m1 : Mod [] hb (h.new (.cells [.str t.1, .int .i64 t.2.1, .bool t.2.2] false)) := md.new _
    have at1 : At (h.new (.cells [.str t.1, .int .i64 t.2.1, .bool t.2.2] false)) h.next (.cells [.str t.1, .int .i64 t.2.1, .bool t.2.2] false) := .new _ _
    generalize h.new (.cells [.str t.1, .int .i64 t.2.1, .bool t.2.2] false) = h1 at m1 at1 ⊢
    have hg : h1.get e.b = some (.cells (g.c 0) false) := (m1.get _ (i.ow.lt 0 _ i.fb) (by simp)).trans (i.ow.get 0 _ i.fb)
    rw [at1.cell (v := .str t.1) rfl, asStr_str]
    simp only [nnK_some', Nat.zero_add]
    rw [cellK_of hg (o := 9) (v := .str st.p.addr) (by rw [i.cb]; rfl), asStr_str]
    by_cases hs : t.1.size = st.p.addr.size
    · rw [show (((Nat.cast t.1.size) : Int) != (Nat.cast st.p.addr.size)) = false by simp [hs], cond_false, wrap_succ (by omega)]
      have := spots_loop i hn hkk ts (pre ++ [t]) m h1 (by rw [e1]; simp) (by simp at hm; omega) m1 (by
        intro y hy
        rcases List.mem_append.1 hy with hy | hy
        · exact hp y hy
        · obtain rfl := List.mem_singleton.1 hy
          unfold oddSpot; simp [hs])
      simpa using this
    · rw [show (((Nat.cast t.1.size) : Int) != (Nat.cast st.p.addr.size)) = true by simp; omega, cond_true, at1.cell (v := .int .i64 t.2.1) rfl, asInt_int]
      obtain ⟨r, h2, e2, rfl, f2, j2⟩ := fail_ret (Inv.frame ⟨g, rfl, i⟩ m1) n t.2.1 182
      rw [e2, Option.bind_some, asBool_bool]
      have hf : st.p.spots.find? (oddSpot st.p) = some t := find_at e1 hp (by unfold oddSpot; simp [hs])
      unfold spotsS at hkk
      rw [hf] at hkk
      exact hkk _ _ ⟨rfl, (Fr.mod0 m1).trans f2, j2⟩
end
end Go.Ev.Tryd

/- The configuration's reader: all blocks, walked. -/
namespace Go.Ev.Tryd
set_option maxRecDepth 10000
set_option maxHeartbeats 1000000
open Go.Proofs

section
variable {e : En} {S0 S : List Nat} {h0 h hb : H} {st : St}

theorem all_loop {N n : Nat} {L : List (Bs × Key)} (ks : KeysOk e S0 h0 N L) (hN : N ≤ n) (hn : 400020 ≤ n) {im : Nat} {oL : AObj} (kL : Kept S0 h0 im oL) (hL : MObj AV.str encK L oL)
    (kk : AV → H → Option Unit) : ∀ (F m mm : Nat) (M : List (Bs × Int)) (oM : AObj) (h : H) (S : List Nat) (st : St), Inv e h st S → Fr S0 h0 S h → Kept S h mm oM → MObj AV.str encN M oM → h0.next ≤ mm → (∀ w, 0 ≤ cnt M w ∧ cnt M w ≤ 1000) → e.l.length < st.p.k + F → F ≤ m →
      (∀ r h', (∃ S', r = .bool (allB e.s e.l L F M st).2 ∧ Fr S0 h0 S' h' ∧ Inv e h' (allB e.s e.l L F M st).1 S') → kk r h' = some ()) →
      config_parser_all_L0 n m (some (e.b, 0)) (some im) (some mm) h kk = some () := by
  intro F
  induction F with
  | zero =>
    intro m mm M oM h S st i fr km hM hne hcn hF hm _
    have := i.okp.k
    omega
  | succ F ih =>
    intro m mm M oM h S st i fr km hM hne hcn hF hm hkk
    obtain ⟨m, rfl⟩ : ∃ k, m = k + 1 := ⟨m - 1, by omega⟩
    obtain ⟨n', rfl⟩ : ∃ k, n = k + 1 := ⟨n - 1, by omega⟩
    have kim := kL.fr fr
    have ok := i.okp
    have jc : ∀ {o : Nat} {v : AV} (hv : ∀ g, slP g.f 1 = slP g.f 1 → (encP e g st.p)[o]? = some v) (k : AV → Option Unit), cellK h e.b o k = k v := fun hv k => by
      obtain ⟨g, rfl, i⟩ := i
      exact i.cell (hv g rfl) k
    rw [config_parser_all_L0_eq]
    simp only [nnK_some', Nat.zero_add]
    rw [jc (o := 2) (v := .int .i64 st.p.k) (fun _ _ => rfl), asInt_int]
    have hslice : ∀ k : Pt → Nat → Cap → Option Unit, (∀ p c, k p e.l.length c = some ()) → (cellK h e.b 1 fun v => asSlice v k) = some () := fun k hk => by
      obtain ⟨g, rfl, i⟩ := i
      rw [i.cell (o := 1) rfl, asSlice_slice]
      exact hk _ _
    refine hslice _ fun p c => ?_
    unfold allB at hkk
    by_cases hk : st.p.k < e.l.length
    · rw [if_pos hk] at hkk
      rw [cast_lt hk, cond_true, place_eq i, Option.bind_some, asInt_int, peek_eq i, Option.bind_some, asStr_str, lookK_of keys_str kim.at_.get hL]
      cases hlk : lk L (peekP e.l st.p.k) with
      | none =>
        rw [hlk] at hkk
        simp only [asAgg_agg, lI_of, lB_of, lc_cons, l0_nil]
        rw [newK_eq, box_wr (n := 3) rfl rfl rfl, Bool.not_false, cond_true]
        obtain ⟨r, h2, e2, rfl, f2, j2⟩ := fail_ret (i.frame (((Mod.refl [] h).new (.cells [.int .i64 0, .bool false, .nilFunc] false)))) n' (placeP e.s e.l st.p.k) 180
        rw [e2, Option.bind_some, asBool_bool]
        exact hkk _ _ ⟨S, rfl, (fr.trans (Fr.mod0 ((Mod.refl [] h).new _))).trans f2, j2⟩
      | some key =>
        rw [hlk] at hkk
        have hmem : (peekP e.l st.p.k, key) ∈ L := lk_mem hlk
        generalize hw : peekP e.l st.p.k = w at hkk hmem hlk ⊢
        simp only [encK, asAgg_agg, lI_of, lB_of, lc_cons, l0_nil]
        rw [newK_eq, box_wr (n := 3) rfl rfl rfl, Bool.not_true, cond_false]
        have md : Mod [] h (h.new (.cells [.int .i64 key.most, .bool key.need, .func key.f key.x key.y] false)) := (Mod.refl _ _).new _
        have kb : Kept S (h.new (.cells [.int .i64 key.most, .bool key.need, .func key.f key.x key.y] false)) h.next (.cells [.int .i64 key.most, .bool key.need, .func key.f key.x key.y] false) := ⟨.new _ _, fun hx => by have := i.ltS _ hx; omega⟩
        have hbn : mm ≠ h.next := fun e' => by have := km.at_.lt; omega
        generalize h.next = b at kb hbn ⊢
        generalize h.new (.cells [.int .i64 key.most, .bool key.need, .func key.f key.x key.y] false) = h1 at md kb ⊢
        have i1 := i.frame md
        have km1 := km.fr (.mod0 md)
        rw [cnt_look km1.at_.get hM, kb.cell, asInt_int]
        have key1 : ∀ d : Bool, d = decide (key.most ≤ cnt M w ∧ key.most = 1) → config_parser_all_J1 (n' + 1) m (some (e.b, 0)) (some im) (some mm) (placeP e.s e.l st.p.k) w (some (b, 0)) d h1 kk = some () := by
          intro d hd
          rw [config_parser_all_J1_eq]
          cases d with
          | true =>
            have hd' := of_decide_eq_true hd.symm
            rw [cond_true]
            obtain ⟨r, h2, e2, rfl, f2, j2⟩ := fail_ret i1 n' (placeP e.s e.l st.p.k) 181
            rw [e2, Option.bind_some, asBool_bool]
            refine hkk _ _ ⟨S, ?_, (fr.trans (Fr.mod0 md)).trans f2, ?_⟩
            · simp only [if_pos hd'.1]
            · simp only [if_pos hd'.1, if_pos hd'.2]; exact j2
          | false =>
            have hd' := of_decide_eq_false hd.symm
            rw [cond_false, cnt_look km1.at_.get hM, nnK_some', kb.cell, asInt_int]
            by_cases hmo : key.most ≤ cnt M w
            · have h1' : key.most ≠ 1 := fun e' => hd' ⟨hmo, e'⟩
              rw [decide_eq_true (show cnt M w ≥ key.most from hmo), cond_true]
              obtain ⟨r, h2, e2, rfl, f2, j2⟩ := fail_ret i1 n' (placeP e.s e.l st.p.k) 184
              rw [e2, Option.bind_some, asBool_bool]
              refine hkk _ _ ⟨S, ?_, (fr.trans (Fr.mod0 md)).trans f2, ?_⟩
              · simp only [if_pos hmo]
              · simp only [if_pos hmo, if_neg h1']; exact j2
            · rw [decide_eq_false (show ¬ cnt M w ≥ key.most from hmo), cond_false, cnt_look km1.at_.get hM]
              obtain ⟨o', hM', e3⟩ := putK_of (β := Unit) keys_str km1.at_.get hM w (cnt M w + 1)
              have hwr : IntKind.i64.wrap (cnt M w + 1) = cnt M w + 1 := by have := hcn w; exact wrap_i64 (by omega) (by omega)
              rw [hwr, show (AV.int .i64 (cnt M w + 1)) = encN (cnt M w + 1) from rfl, e3, nnK_some']
              simp only [Nat.zero_add, nnK_some']
              obtain ⟨LM, clkM, hoM, _⟩ := hM
              have i2 : Inv e (h1.set mm o') st S := i1.setMap (hoM ▸ km1) o'
              obtain ⟨h3, e4, f4, i3⟩ := i2.step hk
              rw [e4]
              have kb3 := (kb.set hbn.symm o').fr f4
              rw [cellK_of kb3.at_.get rfl, asFn_of]
              have fr3 : Fr S0 h0 S h3 := (setNewF (fr.trans (.mod0 md)) hne o').trans f4
              have rd := ks.rd _ hmem
              have mono := ks.mono _ hmem (setP st { st.p with k := st.p.k + 1 })
              have hmost := ks.most _ hmem
              have km3 : Kept S h3 mm o' := Kept.fr (h := h1.set mm o') ⟨⟨km1.at_.lt, get_set_self _ _ _⟩, km1.out⟩ f4
              refine rd.run (n' + 1) hN h3 S _ fr3 i3 _ fun r h4 hq => ?_
              obtain ⟨S4, rfl, f5, i5⟩ := hq
              rw [rd.gives, asBool_bool]
              simp only [if_neg hmo] at hkk
              change ∀ r h', (∃ S', r = .bool (if (key.sem (setP st { st.p with k := st.p.k + 1 })).2 = true then allB e.s e.l L F (pt M w (cnt M w + 1)) (key.sem (setP st { st.p with k := st.p.k + 1 })).1 else ((key.sem (setP st { st.p with k := st.p.k + 1 })).1, false)).2 ∧ Fr S0 h0 S' h' ∧ Inv e h' (if (key.sem (setP st { st.p with k := st.p.k + 1 })).2 = true then allB e.s e.l L F (pt M w (cnt M w + 1)) (key.sem (setP st { st.p with k := st.p.k + 1 })).1 else ((key.sem (setP st { st.p with k := st.p.k + 1 })).1, false)).1 S') → kk r h' = some () at hkk
              change Inv e h4 (key.sem (setP st { st.p with k := st.p.k + 1 })).1 S4 at i5
              change st.p.k + 1 ≤ (key.sem (setP st { st.p with k := st.p.k + 1 })).1.p.k at mono
              show (bif !(key.sem (setP st { st.p with k := st.p.k + 1 })).2 then kk (.bool false) h4 else config_parser_all_L0 (n' + 1) m (some (e.b, 0)) (some im) (some mm) h4 kk) = some ()
              cases hsem : (key.sem (setP st { st.p with k := st.p.k + 1 })).2 with
              | false =>
                rw [Bool.not_false, cond_true]
                rw [hsem] at hkk
                exact hkk _ _ ⟨S4, rfl, fr3.trans f5, i5⟩
              | true =>
                rw [Bool.not_true, cond_false]
                rw [hsem] at hkk
                refine ih m mm (pt M w (cnt M w + 1)) o' h4 S4 _ i5 (fr3.trans f5) (km3.fr f5) hM' hne (fun w' => ?_) (by omega) (by omega) fun r h' hq => hkk r h' ?_
                · rw [cnt_pt]
                  have := hcn w
                  split
                  · simp only at hmost; omega
                  · exact hcn w'
                · simpa using hq
        by_cases hmo : cnt M w ≥ key.most
        · rw [decide_eq_true hmo, cond_true, kb.cell, asInt_int]
          refine key1 _ ?_
          by_cases h1' : key.most = 1
          · rw [decide_eq_true (show key.most ≤ cnt M w ∧ key.most = 1 from ⟨hmo, h1'⟩), h1']; rfl
          · rw [decide_eq_false (fun q => h1' q.2)]; simpa using h1'
        · rw [decide_eq_false hmo, cond_false]
          exact key1 _ (decide_eq_false fun q => hmo q.1).symm
    · rw [if_neg hk] at hkk
      rw [cast_not_lt (by omega), cond_false]
      have fin : ∀ d : Bool, d = decide (cnt M kNode = 0 ∨ cnt M kVrrp = 0) → config_parser_all_J2 (n' + 1) (some (e.b, 0)) d h kk = some () := by
        intro d hd
        rw [config_parser_all_J2_eq]
        simp only [nnK_some', Nat.zero_add]
        unfold endA at hkk
        cases d with
        | true =>
          rw [if_pos (of_decide_eq_true hd.symm)] at hkk
          rw [cond_true, jc (o := 0) (v := .str e.s) (fun _ _ => rfl), asStr_str]
          obtain ⟨r, h2, e2, rfl, f2, j2⟩ := fail_ret i n' e.s.size 183
          rw [e2, Option.bind_some, asBool_bool]
          exact hkk _ _ ⟨S, rfl, fr.trans f2, j2⟩
        | false =>
          rw [if_neg (of_decide_eq_false hd.symm)] at hkk
          rw [cond_false]
          obtain ⟨g, rfl, i⟩ := i
          rw [i.cell (o := 18) rfl, asSlice_slice]
          refine spots_loop i (by omega) (fun r h' hq => hkk r h' ⟨_, hq.1, fr.trans hq.2.1, hq.2.2⟩) st.p.spots [] (n' + 1) h rfl (by have := ok.spots; have := ok.k; have := ok.len; omega) (.refl _ _) (by simp)
      rw [show (⟨#[110, 111, 100, 101]⟩ : ByteArray) = kNode from rfl, cnt_look km.at_.get hM]
      by_cases hc : cnt M kNode = 0
      · rw [hc, show ((0 : Int) == 0) = true from rfl, cond_true]
        exact fin _ (by rw [hc]; simp)
      · rw [show (cnt M kNode == 0) = false by simpa using hc, cond_false, show (⟨#[118, 114, 114, 112]⟩ : ByteArray) = kVrrp from rfl, cnt_look km.at_.get hM]
        exact fin _ (by by_cases hv : cnt M kVrrp = 0 <;> simp [hc, hv])
end
end Go.Ev.Tryd

/- The configuration is read. -/
namespace Go.Ev.Tryd
set_option maxRecDepth 10000
set_option maxHeartbeats 1000000
open Go.Proofs

/-! ### the words are short -/

def Sized (B : Nat) (l : List Wd) : Prop := ∀ w ∈ l, w.1.size ≤ B
theorem Sized.app {B : Nat} {l : List Wd} (h : Sized B l) {w : Wd} (hw : w.1.size ≤ B) : Sized B (l ++ [w]) := fun x hx => by
  rcases List.mem_append.1 hx with hx | hx
  · exact h x hx
  · obtain rfl := List.mem_singleton.1 hx; exact hw
theorem cut_size (s : ByteArray) (x y : Int) : (cut s x y).size ≤ s.size := by
  unfold cut
  rw [size_mk, List.length_take, List.length_drop, bs_len]
  omega
theorem endP_sized {s : ByteArray} {st : Rd} (h : Sized (s.size + 1) st.l) (k : Int) : Sized (s.size + 1) (endP s st k).1.l := by
  unfold endP
  split
  · exact h
  · exact h.app (Nat.le_succ_of_le (cut_size s _ _))
theorem stopP_sized {B : Nat} {st : Rd} (h : Sized (B + 1) st.l) (k : Int) : Sized (B + 1) (stopP st k).l := by
  unfold stopP
  show Sized (B + 1) (if st.some' = true then st.l ++ [(mk [10], k, st.line)] else st.l)
  split
  · exact h.app (by rw [size_mk]; simp)
  · exact h
theorem takeP_sized {s : ByteArray} {st : Rd} (h : Sized (s.size + 1) st.l) (c k : Int) : Sized (s.size + 1) (takeP s st c k).1.l := by
  unfold takeP
  split
  · exact stopP_sized (endP_sized h k) k
  split
  · exact h
  split
  · exact endP_sized h k
  split
  · exact endP_sized h k
  split
  · exact endP_sized (st := { (endP s st k).1 with from' := k }) (endP_sized h k) (k + 1)
  split
  · exact h
  · exact h
theorem allL_sized {s : ByteArray} : ∀ (l : List UInt8) (k : Int) (st : Rd), 0 ≤ k → StOk st k → Sized (s.size + 1) st.l → ∀ ws, allL s st k l = .inl ws → Sized (s.size + 1) ws ∧ (ws.length : Int) ≤ 4 * (k + l.length) + 2
  | [], k, st, hk, ok, hs, ws, e => by
    unfold allL at e
    split at e
    · obtain rfl := Sum.inl.inj e
      refine ⟨stopP_sized (endP_sized hs k) k, ?_⟩
      have := (endP_len s st k).1
      have h2 := ok.len
      unfold stopP
      show ((if (endP s st k).1.some' = true then (endP s st k).1.l ++ [(mk [10], k, (endP s st k).1.line)] else (endP s st k).1.l).length : Int) ≤ _
      split
      · simp; omega
      · simp; omega
    · cases e
  | c :: l, k, st, hk, ok, hs, ws, e => by
    unfold allL at e
    split at e
    · cases e
    · split at e
      · split at e
        · have := allL_sized l (k + 1) _ (by omega) (takeP_ok hk ok c.toNat) (takeP_sized hs c.toNat k) ws e
          refine ⟨this.1, ?_⟩
          have := this.2
          simp only [List.length_cons]
          push_cast
          omega
        · cases e
      · cases e
theorem allP_words {s : ByteArray} (hs : s.size ≤ 70000) {l : List Wd} (h : allP s = .inl l) : Words l ∧ l.length ≤ 300000 := by
  obtain ⟨h1, h2⟩ := allL_sized (s := s) (bs s) 0 rd0 (by decide) ⟨by decide, by decide, by decide, by decide, by decide⟩ (fun w hw => by cases hw) l h
  rw [bs_len] at h2
  exact ⟨fun w hw => by have := h1 w hw; omega, by omega⟩

/-! ### all blocks -/

theorem all_ret {e : En} {S : List Nat} {h : H} {st : St} (hy : e.yes = none) (hs : e.sv = none) (hb : e.bk = none) (hw : Words e.l) (i : Inv e h st S) {n : Nat} (hn : 600000 + e.l.length ≤ n) :
    RetK (fun kk => cr n i_config_parser_all [.ptr (some (e.b, 0))] h kk) fun r h' => ∃ S', r = .bool (allS e.s e.l st).2 ∧ Fr S h S' h' ∧ Inv e h' (allS e.s e.l st).1 S' := by
  intro kk hkk
  obtain ⟨n, rfl⟩ : ∃ k, n = k + 2 := ⟨n - 2, by omega⟩
  show cr (n + 1 + 1) i_config_parser_all [.ptr (some (e.b, 0))] h kk = some ()
  rw [config_parser_all_eq, newK_eq]
  have hS := i.ltS
  have m0 : Mod [] h (h.new (.map [] 0)) := (Mod.refl _ _).new _
  have k0 : Kept S (h.new (.map [] 0)) h.next (.map [] 0) := kept_new hS _
  generalize h.new (.map [] 0) = c0 at m0 k0 ⊢
  rw [once_eq, Option.bind_some]
  simp only [asAgg_agg, lI_of, lB_of, lc_cons, l0_nil]
  have m1 : Mod [] c0 (c0.new (.cells [.int .i64 1, .bool true, .func i_config_parser_node [.ptr (some (e.b, 0))] []] false)) := (Mod.refl _ _).new _
  generalize c0.new (.cells [.int .i64 1, .bool true, .func i_config_parser_node [.ptr (some (e.b, 0))] []] false) = c1 at m1 ⊢
  have k1 := k0.mod0 m1
  obtain ⟨o1, hM1, e1⟩ := putKey k1.at_.get .nil kNode ⟨1, true, i_config_parser_node, [.ptr (some (e.b, 0))], [], nodeS e.s e.l⟩ (by simp)
  dsimp only at e1
  rw [show (⟨#[110, 111, 100, 101]⟩ : ByteArray) = kNode from rfl, e1]
  have k1' := keptSet k1 o1
  have md1 : Mod [] h (c1.set h.next o1) := (m0.trans m1).set (.inl (Nat.le_refl _)) _
  generalize c1.set h.next o1 = c1' at k1' md1 ⊢
  rw [once_eq, Option.bind_some]
  simp only [asAgg_agg, lI_of, lB_of, lc_cons, l0_nil]
  have m2 : Mod [] c1' (c1'.new (.cells [.int .i64 1, .bool true, .func i_config_parser_vrrp [.ptr (some (e.b, 0))] []] false)) := (Mod.refl _ _).new _
  generalize c1'.new (.cells [.int .i64 1, .bool true, .func i_config_parser_vrrp [.ptr (some (e.b, 0))] []] false) = c2 at m2 ⊢
  have k2 := k1'.mod0 m2
  obtain ⟨o2, hM2, e2⟩ := putKey k2.at_.get hM1 kVrrp ⟨1, true, i_config_parser_vrrp, [.ptr (some (e.b, 0))], [], vrrpS e.s e.l⟩ (by simp [kNode, kVrrp])
  dsimp only at e2
  rw [show (⟨#[118, 114, 114, 112]⟩ : ByteArray) = kVrrp from rfl, e2]
  have k2' := keptSet k2 o2
  have md2 : Mod [] h (c2.set h.next o2) := (md1.trans m2).set (.inl (Nat.le_refl _)) _
  generalize c2.set h.next o2 = c2' at k2' md2 ⊢
  obtain ⟨o3, hM3, e3⟩ := putKey k2'.at_.get hM2 kService ⟨4, false, i_config_parser_service, [.ptr (some (e.b, 0))], [], serviceS e.s e.l⟩ (by simp [kNode, kVrrp, kService])
  dsimp only at e3
  rw [show (⟨#[115, 101, 114, 118, 105, 99, 101]⟩ : ByteArray) = kService from rfl, e3]
  have k3' := keptSet k2' o3
  have md3 : Mod [] h (c2'.set h.next o3) := md2.set (.inl (Nat.le_refl _)) _
  generalize c2'.set h.next o3 = c3 at k3' md3 ⊢
  rw [newK_eq]
  have i3 := i.frame md3
  refine all_loop (N := 90000 + e.l.length) (n := n + 1) (L := [(kNode, ⟨1, true, i_config_parser_node, [.ptr (some (e.b, 0))], [], nodeS e.s e.l⟩), (kVrrp, ⟨1, true, i_config_parser_vrrp, [.ptr (some (e.b, 0))], [], vrrpS e.s e.l⟩), (kService, ⟨4, false, i_config_parser_service, [.ptr (some (e.b, 0))], [], serviceS e.s e.l⟩)]) (S0 := S) (h0 := c3) ⟨?_, ?_, rfl, ?_, by simp⟩ (by omega) (by omega) k3' hM3 kk (e.l.length + 1) (n + 1) c3.next [] (.map [] 0) _ S st (i3.frame ((Mod.refl _ _).new _)) (.mod0 ((Mod.refl _ _).new _)) (kept_new i3.ltS _) .nil (Nat.le_refl _) (fun w => by simp [cnt, lk]) (by omega) (by omega) fun r h' hq => ?_
  · intro x hx
    simp only [List.mem_cons, List.not_mem_nil, or_false] at hx
    rcases hx with rfl | rfl | rfl
    · exact node_rd e _ _ hw (Nat.le_refl _)
    · exact vrrp_rd e hy _ _ hw (Nat.le_refl _)
    · exact service_rd e hs hb _ _ hw (Nat.le_refl _)
  · intro x hx
    simp only [List.mem_cons, List.not_mem_nil, or_false] at hx
    rcases hx with rfl | rfl | rfl
    · intro st
      refine blockS_k (fun x hx => ?_) st
      simp only [nodeK, mkK, List.mem_cons, List.not_mem_nil, or_false] at hx
      rcases hx with rfl | rfl | rfl
      · exact cardS_k (put := putCard) fun _ _ => rfl
      · exact addressS_k fun _ _ _ => rfl
      · exact addressS_k fun _ _ _ => rfl
    · intro st
      refine blockS_k (st := { st with yes := 1 }) (fun x hx => ?_)
      simp only [vrrpK, mkK, List.mem_cons, List.not_mem_nil, or_false] at hx
      rcases hx with rfl | rfl | rfl | rfl | rfl | rfl
      · exact numberS_k (put := putId) (fun _ _ => rfl) _ _
      · exact numberS_k (put := putPrio) (fun _ _ => rfl) _ _
      · exact numberS_k (put := putEvery) (fun _ _ => rfl) _ _
      · exact choiceS_k (put := putYes) (fun _ _ => rfl) _
      · exact addressS_k vipS_k
      · exact trackS_k _ _
    · exact serviceS_k _ _
  · intro x hx
    simp only [List.mem_cons, List.not_mem_nil, or_false] at hx
    rcases hx with rfl | rfl | rfl <;> first | exact (by decide : (1 : Int) ≤ 1000) | exact (by decide : (4 : Int) ≤ 1000)
  · obtain ⟨S', h1, f1, j1⟩ := hq
    have he : allB e.s e.l [(kNode, ⟨1, true, i_config_parser_node, [.ptr (some (e.b, 0))], [], nodeS e.s e.l⟩), (kVrrp, ⟨1, true, i_config_parser_vrrp, [.ptr (some (e.b, 0))], [], vrrpS e.s e.l⟩), (kService, ⟨4, false, i_config_parser_service, [.ptr (some (e.b, 0))], [], serviceS e.s e.l⟩)] (e.l.length + 1) [] st = allS e.s e.l st := (allB_forK (L := [(kNode, ⟨1, true, i_config_parser_node, [.ptr (some (e.b, 0))], [], nodeS e.s e.l⟩), (kVrrp, ⟨1, true, i_config_parser_vrrp, [.ptr (some (e.b, 0))], [], vrrpS e.s e.l⟩), (kService, ⟨4, false, i_config_parser_service, [.ptr (some (e.b, 0))], [], serviceS e.s e.l⟩)]) _ _ _).symm
    rw [he] at h1 j1
    exact hkk _ _ ⟨S', h1, (Fr.mod0 md3).trans f1, j1⟩

/-! ### the whole -/

def ps0 : Ps := ⟨0, cd0, ⟨#[]⟩, ⟨#[]⟩, 0, 0, 0, false, [], [], [], [], 0, 0⟩
def bk0 : Bk := ⟨⟨#[]⟩, ⟨#[]⟩, cd0, 0, 0⟩
def st0 : St := ⟨ps0, 0, sv0, bk0⟩
/-- what is read: a configuration, or where what is amiss -/
def parseP (s : Bs) : Ps ⊕ (Int × Int) :=
  match allP s with
  | .inr k => .inr (k, 170)
  | .inl l => if (allS s l st0).2 = true then .inl (allS s l st0).1.p else .inr ((allS s l st0).1.p.bad, (allS s l st0).1.p.code)

/-- a configuration's cells -/
def encC (p : Ps) (v t g : AV) : List AV := [.int .u8 p.card.a, .int .u8 p.card.b, .int .u8 p.card.c, .int .u8 p.card.d, .int .u8 p.card.e, .int .u8 p.card.f, .str p.addr, .str p.peer, .int .i64 p.id, .int .i64 p.prio, .int .i64 p.every, .bool p.pre, v, t, g]
structure CfgAt (h : H) (p : Ps) (cs : List AV) : Prop where
  ex : ∃ (vp : Pt) (vc : Cap) (tp : Pt) (tc : Cap) (gp : Pt) (gc : Cap) (svr : List SvR), cs = encC p (.slice vp p.vips.length vc) (.slice tp p.trs.length tc) (.slice gp p.svs.length gc) ∧
    Row h 1 vp p.vips.length vc (p.vips.map .str) ∧ Row h 2 tp p.trs.length tc (p.trs.flatMap encT) ∧ Row h 10 gp svr.length gc (svr.flatMap encR) ∧ svr.map (·.1) = p.svs ∧ ∀ x ∈ svr, Row h 10 x.2.1 x.1.bks.length x.2.2 (x.1.bks.flatMap encB)
def ParseOk (h' : H) (r : AV) : Ps ⊕ (Int × Int) → Prop
  | .inl p => ∃ cs, r = .tup [.agg cs, .int .i64 0, .int .i64 0] ∧ CfgAt h' p cs ∧ p.k ≤ 300000
  | .inr (k, c) => r = .tup [.agg (encC ps0 (.slice none 0 (.known 0)) (.slice none 0 (.known 0)) (.slice none 0 (.known 0))), .int .i64 k, .int .i64 c]


theorem ps0_ok (e : En) (hl : e.l.length ≤ 400000) : Okp e st0 := ⟨Nat.zero_le _, Nat.le_refl _, Nat.le_refl _, Nat.le_refl _, Nat.le_refl _, Nat.le_refl _, hl⟩

theorem wr_whole {h : H} {b n : Nat} {cs ys : List AV} (g : At h b (.cells cs false)) (hc : cs.length = n) (hn : ys.length = n) (hi : ys.all isCell = true) {β : Type} (k : H → Option β) : wrK h b 0 n ys k = k (h.set b (.cells ys false)) := by
  rw [wrK_of g.get hn (by omega) hi]
  have : spl cs 0 ys = ys := by
    refine List.ext_getElem? fun k => ?_
    rw [spl_get ys cs 0 (by omega)]
    by_cases hk : k < ys.length
    · rw [if_pos ⟨Nat.zero_le _, by omega⟩, Nat.sub_zero]
    · rw [if_neg (by omega), List.getElem?_eq_none_iff.2 (by omega), List.getElem?_eq_none_iff.2 (by omega)]
  rw [this]
theorem At.setSelf {h : H} {b : Nat} {o : AObj} (g : At h b o) (o' : AObj) : At (h.set b o') b o' := ⟨g.lt, get_set_self _ _ _⟩
def zC : List AV := encC ps0 (.slice none 0 (.known 0)) (.slice none 0 (.known 0)) (.slice none 0 (.known 0))
def c00 : Nat → List AV := up (up (up (fun _ => []) 5 [.int .i64 0]) 6 (encS sv0 (.slice none 0 (.known 0)))) 8 (encB bk0)

theorem Parse_retW {s : Bs} (hs : s.size ≤ 2000000) (hsw : ∀ l, allP s = .inl l → Words l ∧ l.length ≤ 300000) {n : Nat} (hn : 1000000 + s.size ≤ n) (h : H) : RetK (fun kk => cr n i_config_Parse [.str s] h kk) fun r h' => Mod [] h h' ∧ ParseOk h' r (parseP s) := by
  intro kk hkk
  obtain ⟨n, rfl⟩ : ∃ k, n = k + 1 := ⟨n - 1, by omega⟩
  show cr (n + 1) i_config_Parse [.str s] h kk = some ()
  rw [config_Parse_eq, newK_eq]
  rw [show (AObj.cells [(.int .u8 0), (.int .u8 0), (.int .u8 0), (.int .u8 0), (.int .u8 0), (.int .u8 0), (.str .empty), (.str .empty), (.int .i64 0), (.int .i64 0), (.int .i64 0), (.bool false), (.slice none 0 (.known 0)), (.slice none 0 (.known 0)), (.slice none 0 (.known 0))] false) = .cells zC false from rfl]
  have m0 : Mod [] h (h.new (.cells zC false)) := (Mod.refl _ _).new _
  have a0 : At (h.new (.cells zC false)) h.next (.cells zC false) := .new _ _
  have hn0 : h.next ≤ h.next := Nat.le_refl _
  generalize hz : h.next = z at a0 ⊢
  have hz' : h.next ≤ z := by omega
  clear hn0
  generalize h.new (.cells zC false) = h1 at m0 a0 ⊢
  obtain ⟨r, h2, e2, m2, ok⟩ := All_ret (s := s) (by omega) (n := n) (by omega) h1
  rw [e2, Option.bind_some]
  have a2 := a0.mod0 m2
  unfold parseP at hkk
  cases hall : allP s with
  | inr k =>
    rw [hall] at ok hkk
    obtain rfl : r = .tup [.slice none 0 (.known 0), .int .i64 k, .int .i64 170] := ok
    simp only [asTup_tup, lL_of, lI_of, l0_nil]
    rw [show ((170 : Int) != 0) = true from rfl, cond_true]
    change wrK h2 z 0 15 zC (fun h13 => _) = some ()
    rw [wr_whole (n := 15) a2 rfl rfl rfl, (At.setSelf a2 _).all (n := 15) rfl]
    exact hkk _ _ ⟨(m0.trans m2).set (.inl hz') _, rfl⟩
  | inl l =>
    rw [hall] at ok hkk
    obtain ⟨p, c, rfl, gl⟩ := ok
    obtain ⟨hw, hlen⟩ := hsw l hall
    simp only [asTup_tup, lL_of, lI_of, l0_nil]
    rw [show ((0 : Int) != 0) = false from rfl, cond_false, newK_eq]
    obtain ⟨e, he⟩ : ∃ e : En, e = ⟨h2, h2.next, s, l, none, none, none⟩ := ⟨_, rfl⟩
    obtain ⟨g, hg⟩ : ∃ g : Gh, g = ⟨up (fun _ => none) 0 (some h2.next), up c00 0 (encP ⟨h2, h2.next, s, l, none, none, none⟩ ⟨up (fun _ => none) 0 (some h2.next), c00, p, c, .known 0, .known 0, .known 0, .known 0, .known 0, []⟩ ps0), p, c, .known 0, .known 0, .known 0, .known 0, .known 0, []⟩ := ⟨_, rfl⟩
    obtain ⟨h3, hh3⟩ : ∃ h3, h3 = h2.new (.cells (encP e g ps0) false) := ⟨_, rfl⟩
    have m3 : Mod [] h2 h3 := by rw [hh3]; exact (Mod.refl _ _).new _
    obtain ⟨ow, _⟩ := (Own.nil h2 c00).put (i := 0) (h' := h3) (v := encP e g ps0) (by decide) (Nat.le_refl h2.next) (by rw [hh3]; exact .new _ _) m3.of_nil
    have ig : InvG e g h3 st0 := by
      subst he; subst hg
      refine ⟨ow, rfl, rfl, gl.row.mod0 m3, .nil rfl, .nil rfl, .nil rfl, .nil rfl, rfl, (by intro x hx; cases hx), (by intro x hx; cases hx), rfl, rfl, rfl, rfl, .nil rfl, rfl, rfl, ?_, ps0_ok _ (by show l.length ≤ _; omega)⟩
      intro x hx j
      have hlx : x < h2.next := by
        rcases hx with hx | ⟨y, hy, _⟩
        · exact gl.row.lt x hx
        · cases hy
      show up (fun _ => none) 0 (some h2.next) j ≠ some x
      unfold up
      split
      · intro e'; have := Option.some.inj e'; omega
      · simp
    have hinv : Inv e h3 st0 (foot g.f) := ⟨g, rfl, ig⟩
    show (cr n i_config_parser_all [.ptr (some (h2.next, 0))] (h2.new (.cells [(.str s), (.slice p l.length c), _, _, _, _, _, _, _, _, _, _, _, _, _, _, _, _, _, _, _] false)) fun v18 h19 => _) = some ()
    rw [show h2.new (.cells [(.str s), (.slice p l.length c), (.int .i64 0), (.int .u8 0), (.int .u8 0), (.int .u8 0), (.int .u8 0), (.int .u8 0), (.int .u8 0), (.str .empty), (.str .empty), (.int .i64 0), (.int .i64 0), (.int .i64 0), (.bool false), (.slice none 0 (.known 0)), (.slice none 0 (.known 0)), (.slice none 0 (.known 0)), (.slice none 0 (.known 0)), (.int .i64 0), (.int .i64 0)] false) = h3 by rw [hh3, he, hg]; rfl]
    have hb : e.b = h2.next := by rw [he]
    rw [← hb]
    refine all_ret (by rw [he]) (by rw [he]) (by rw [he]) (by rw [he]; exact hw) hinv (by rw [he]; show 600000 + l.length ≤ n; omega) _ fun r h4 hq => ?_
    obtain ⟨S', rfl, f4, j4⟩ := hq
    have hes : e.s = s := by rw [he]
    have hel : e.l = l := by rw [he]
    have hea : e.a = h2 := by rw [he]
    rw [hes, hel] at j4
    rw [hes, hel, asBool_bool]
    simp only at hkk
    have hzS : z ∉ foot g.f := fun hm => by
      obtain ⟨k, e'⟩ := ig.ow.mem.1 hm
      have := ig.ow.ge k z e'
      rw [hea] at this
      have := a2.lt; omega
    have a3 := a2.mod0 m3
    have a4 := a3.mod f4.mod hzS
    have hbz : e.b ≠ z := by rw [hb]; have := a2.lt; omega
    have m4 : Mod [] h h4 := ((m0.trans m2).trans m3).trans' f4.mod fun x hx hl => by
      obtain ⟨k, e'⟩ := ig.ow.mem.1 hx
      have := ig.ow.ge k x e'
      rw [hea] at this
      have := (m0.trans m2).next; omega
    generalize allS s l st0 = w at j4 hkk ⊢
    obtain ⟨g4, hg4, j4⟩ := j4
    cases hw2 : w.2 with
    | false =>
      rw [hw2, if_neg (by decide)] at hkk
      rw [Bool.not_false, cond_true, j4.cell (o := 19) rfl, asInt_int, j4.cell (o := 20) rfl, asInt_int]
      change wrK h4 z 0 15 zC (fun h25 => _) = some ()
      rw [wr_whole (n := 15) a4 rfl rfl rfl]
      have hs1 : ∀ {β : Type} (y : Option β), sameK h4 (h4.set z (.cells zC false)) (some e.b) y = y := fun y => sameK_of (get_set_ne hbz) y
      show sameK h4 (h4.set z (.cells zC false)) (some e.b) (sameK h4 (h4.set z (.cells zC false)) (some e.b) _) = some ()
      rw [hs1, hs1, (At.setSelf a4 _).all (n := 15) rfl]
      exact hkk _ _ ⟨m4.set (.inl hz') _, rfl⟩
    | true =>
      rw [hw2, if_pos rfl] at hkk
      rw [Bool.not_true, cond_false]
      have hP : At h4 e.b (.cells (encP e g4 w.1.p) false) := ⟨j4.ow.lt 0 _ j4.fb, by rw [j4.ow.get 0 _ j4.fb, j4.cb]⟩
      rw [hP.agg (o := 3) (n := 15) (vs := encC w.1.p (.slice (slP g4.f 2) w.1.p.vips.length g4.vc) (.slice (slP g4.f 3) w.1.p.trs.length g4.tc) (.slice (slP g4.f 4) w.1.p.svs.length g4.gc)) rfl (by exact (by decide : 3 + 15 ≤ 21)), wr_whole (n := 15) a4 rfl rfl rfl, (At.setSelf a4 _).all (n := 15) rfl]
      have mz : Mod [z] h4 (h4.set z (.cells (encC w.1.p (.slice (slP g4.f 2) w.1.p.vips.length g4.vc) (.slice (slP g4.f 3) w.1.p.trs.length g4.tc) (.slice (slP g4.f 4) w.1.p.svs.length g4.gc)) false)) := (Mod.refl _ _).set (.inr (by simp)) _
      have hza : z < e.a.next := by rw [hea]; exact a2.lt
      have hge : ∀ k, ∀ x ∈ own (slP g4.f k), x ∉ [z] := fun k x hx hm => by
        obtain rfl : x = z := by simpa using hm
        cases hk : g4.f k with
        | none => rw [slP, hk] at hx; simp at hx
        | some y =>
          rw [slP, hk] at hx
          obtain rfl : x = y := by simpa using hx
          have := j4.ow.ge k x hk; omega
      refine hkk _ _ ⟨m4.set (.inl hz') _, _, rfl, ⟨_, _, _, _, _, _, g4.svr, rfl, ?_, ?_, ?_, j4.esv, ?_⟩, by have := j4.ok.k; rw [hel] at this; omega⟩
      · exact (j4.vp.grow j4.ow).row.mod mz (hge 2)
      · exact (j4.tp.grow j4.ow).row.mod mz (hge 3)
      · have := (j4.gp.grow j4.ow).row
        rw [← j4.esv, List.length_map] at this
        exact this.mod mz (hge 4)
      · intro x hx
        refine (j4.rows x hx).mod mz fun y hy hm => ?_
        obtain rfl : y = z := by simpa using hm
        have := j4.rge x hx y hy
        omega
end Go.Ev.Tryd

/- The configuration is written: a line. -/
namespace Go.Ev.Tryd
set_option maxRecDepth 10000
open Go.Proofs

abbrev sp : Bs := ⟨#[32]⟩
/-- a line's bytes -/
def renL (ws : List Bs) : List UInt8 := bs (joinS ws sp) ++ [10]
def ren (ls : List (List Bs)) : List UInt8 := ls.flatMap renL

/-- a writer at w, what it wrote, and the blocks it owns -/
inductive Wr (h : H) (w : Nat) : List UInt8 → List Nat → Prop
  | none (lt : w < h.next) (g : h.get w = some (.tc 53 [.ptr none, .slice none 0 (.known 0)] true)) : Wr h w [] [w]
  | some {j : Nat} {t : List UInt8} (lt : w < h.next) (h0 : t ≠ []) (g : h.get w = some (.tc 53 [.ptr (some (w, 0)), .slice (some (j, 0)) t.length (.rest 1)] true)) (gj : h.get j = some (.tc 5 (byteAVs (mk t)) false)) (lj : j < h.next) (ne : j ≠ w) : Wr h w t [w, j]

theorem Wr.lt {h : H} {w : Nat} {t : List UInt8} {S : List Nat} (x : Wr h w t S) : ∀ i ∈ S, i < h.next := by
  cases x with
  | none lt g => intro i hi; obtain rfl := List.mem_singleton.1 hi; exact lt
  | some lt h0 g gj lj ne =>
    intro i hi
    simp only [List.mem_cons, List.not_mem_nil, or_false] at hi
    rcases hi with rfl | rfl
    · exact lt
    · exact lj
theorem Wr.mod0 {h h' : H} {w : Nat} {t : List UInt8} {S : List Nat} (x : Wr h w t S) (m : Mod [] h h') : Wr h' w t S := by
  cases x with
  | none lt g => exact .none (m.lt lt) ((m.get _ lt (by simp)).trans g)
  | some lt h0 g gj lj ne => exact .some (m.lt lt) h0 ((m.get _ lt (by simp)).trans g) ((m.get _ lj (by simp)).trans gj) (m.lt lj) ne
theorem byteAVs_app (a b : List UInt8) : byteAVs (mk (a ++ b)) = byteAVs (mk a) ++ byteAVs (mk b) := by simp [byteAVs, mk]
theorem byteAVs_len (a : List UInt8) : (byteAVs (mk a)).length = a.length := by simp [byteAVs, mk]

/-- a text is written -/
theorem Wr.write {h : H} {w : Nat} {t : List UInt8} {S : List Nat} (x : Wr h w t S) {s : List UInt8} (hs : s ≠ []) (hb : t.length + s.length ≤ 140737488355328) :
    ∃ h' S', wsF 53 5 (.some (w, 0)) (mk s) h = .some h' ∧ Fr S h S' h' ∧ Wr h' w (t ++ s) S' := by
  have hpos : 0 < (mk s).size := by rw [size_mk]; exact List.length_pos_iff.2 hs
  cases x with
  | none lt g =>
    have hne : h.next ≠ w := by omega
    refine ⟨(h.new (.tc 5 (byteAVs (mk s)) false)).set w (.tc 53 [.ptr (.some (w, 0)), .slice (.some (h.next, 0)) (mk s).size (.rest 1)] true), [w, h.next], ?_, ⟨((Mod.refl _ _).new _).set (.inr (by simp)) _, fun i hi => ?_⟩, ?_⟩
    · unfold wsF
      simp only [g]
      rw [if_pos ⟨trivial, .inl trivial, hpos⟩, if_pos (by rw [size_mk]; simpa using hb)]
    · simp only [List.mem_cons, List.not_mem_nil, or_false] at hi ⊢
      rcases hi with rfl | rfl
      · exact .inl rfl
      · exact .inr (Nat.le_refl _)
    · rw [List.nil_append]
      exact .some (Nat.lt_succ_of_lt lt) hs (by rw [get_set_self, size_mk]) (by rw [get_set_ne hne]; exact get_new_self _ _) (Nat.lt_succ_self _) hne
  | @some j t lt h0 g gj lj ne =>
    have hne : h.next ≠ w := by omega
    refine ⟨((h.kill j).new (.tc 5 (byteAVs (mk t) ++ byteAVs (mk s)) false)).set w (.tc 53 [.ptr (.some (w, 0)), .slice (.some (h.next, 0)) (t.length + (mk s).size) (.rest 1)] true), [w, h.next], ?_, ⟨(((Mod.refl _ _).kill (.inr (by simp))).new _).set (.inr (by simp)) _, fun i hi => ?_⟩, ?_⟩
    · unfold wsF
      simp only [g]
      rw [if_pos ⟨trivial, .inr trivial, hpos⟩]
      simp only [gj]
      rw [if_pos ⟨trivial, byteAVs_len t, List.length_pos_iff.2 h0, by rw [size_mk]; exact hb, byteAVs_cell _⟩]
    · simp only [List.mem_cons, List.not_mem_nil, or_false] at hi ⊢
      rcases hi with rfl | rfl
      · exact .inl (.inl rfl)
      · exact .inr (Nat.le_refl _)
    · refine .some (j := h.next) (Nat.lt_succ_of_lt lt) (by simp [h0]) ?_ ?_ (Nat.lt_succ_self _) hne
      · rw [get_set_self, size_mk, List.length_append]
      · rw [get_set_ne hne, byteAVs_app]
        exact get_new_self _ _

theorem joinS_len (ws : List Bs) : (Lib.join (ws.map (·.data.toList)) sp.data.toList).length = (joinS ws sp).size := rfl

/-- a line is written -/
theorem say_ret {h : H} {w : Nat} {t : List UInt8} {S : List Nat} (x : Wr h w t S) {p : Pt} {c : Cap} {ws : List Bs} (r : Row h 1 p ws.length c (ws.map .str)) (hw : ws.length ≤ 100) (hb : t.length + (renL ws).length ≤ 1000000000000) (n : Nat) :
    Ret (ca (n + 2) i_config_writer_say [.ptr (some (w, 0)), .slice p ws.length c] h) fun r h' => r = .tup [] ∧ ∃ S', Fr S h S' h' ∧ Wr h' w (t ++ renL ws) S' := by
  have hl : (joinS ws sp).size ≤ 1000000000000 := by
    unfold renL at hb
    rw [List.length_append, bs_len] at hb
    omega
  rw [config_writer_say_eq, nnK_some', strings_Join_eq, strings_Join_32_eq, joinF_of r (by omega) (by rw [joinS_len]; omega), Option.bind_some, Option.bind_some, asStr_str]
  unfold catK
  dsimp only
  have hl' : (joinS ws (⟨#[32]⟩ : ByteArray)).size ≤ 1000000000000 := hl
  rw [if_neg (by rw [show (⟨#[10]⟩ : ByteArray).size = 1 from rfl]; omega)]
  have hm : joinS ws sp ++ (⟨#[10]⟩ : ByteArray) = mk (renL ws) := bs_inj (by rw [bs_append, bs_mk]; rfl)
  obtain ⟨h', S', e1, f1, x1⟩ := x.write (s := renL ws) (by unfold renL; simp) (by omega)
  rw [hm, strings_Builder_WriteString_eq, strings_Builder_WriteString_31_eq, e1]
  simp only [Option.bind_some, asTup_tup, lI_of, lc_cons, l0_nil]
  exact .pure ⟨rfl, S', f1, x1⟩

/-- .. of words that are laid for it -/
theorem line_k {α : Type} {h : H} {w : Nat} {t : List UInt8} {S : List Nat} (x : Wr h w t S) (ws : List Bs) (hw : ws.length ≤ 100) (hb : t.length + (renL ws).length ≤ 1000000000000) (n : Nat) {k : AV × H → Option (α × H)} {Q : α → H → Prop}
    (hk : ∀ v h' S', Fr S h S' h' → Wr h' w (t ++ renL ws) S' → Ret (k (v, h')) Q) :
    Ret (newK (.cells (ws.map .str) false) h fun i h' => (ca (n + 2) i_config_writer_say [.ptr (some (w, 0)), .slice (some (i, 0)) ws.length (.known ws.length)] h').bind fun q => asTup q.1 fun l => l0 l (k q)) Q := by
  rw [newK_eq]
  have m1 : Mod [] h (h.new (.cells (ws.map .str) false)) := (Mod.refl _ _).new _
  have row : Row (h.new (.cells (ws.map .str) false)) 1 (some (h.next, 0)) ws.length (.known ws.length) (ws.map .str) := .row (Nat.lt_succ_self _) (get_new_self _ _) (by rw [List.drop_zero, List.take_of_length_le (by simp)]) (by simp) (.inr ⟨_, rfl, Nat.le_refl _⟩)
  refine (say_ret (x.mod0 m1) row hw hb n).bind ?_
  rintro _ h2 ⟨rfl, S', f1, x1⟩
  simp only [asTup_tup, l0_nil]
  exact hk _ _ S' ((Fr.mod0 m1).trans f1) x1
/-- a key and a number -/
theorem count_k {α : Type} {h : H} {w : Nat} {t : List UInt8} {S : List Nat} (x : Wr h w t S) (h0 : h.get 0 = some (.tab pow10AV)) (key : Bs) {v : Int} (hv0 : -9223372036854775808 ≤ v) (hv1 : v ≤ 9223372036854775807) (hb : t.length + (renL [key, itoaS v]).length ≤ 1000000000000) (n : Nat) {k : AV × H → Option (α × H)} {Q : α → H → Prop}
    (hk : ∀ v' h' S', Fr S h S' h' → Wr h' w (t ++ renL [key, itoaS v]) S' → Ret (k (v', h')) Q) :
    Ret ((ca (n + 3) i_config_writer_count [.ptr (some (w, 0)), .str key, .int .i64 v] h).bind fun q => asTup q.1 fun l => l0 l (k q)) Q := by
  rw [config_writer_count_eq, strconv_Itoa_eq, strconv_Itoa_16_eq, itoaF_of h0 hv0 hv1]
  simp only [Option.bind_some, asStr_str]
  refine Ret.bind (P := fun r h' => r = .tup [] ∧ ∃ S', Fr S h S' h' ∧ Wr h' w (t ++ renL [key, itoaS v]) S') ?_ ?_
  · refine line_k x [key, itoaS v] (by simp) hb n fun v' h' S' f1 x1 => ?_
    exact .pure ⟨rfl, S', f1, x1⟩
  · rintro _ h2 ⟨rfl, S', f1, x1⟩
    simp only [asTup_tup, l0_nil]
    exact hk _ _ S' f1 x1
end Go.Ev.Tryd

/- The configuration is written: words of numbers, cards, backends. -/
namespace Go.Ev.Tryd
set_option maxRecDepth 10000
open Go.Proofs

def pickL (l : List Bs) (v : Int) : Bs := l.getD (if v < 1 ∨ (l.length : Int) < v then l.length - 1 else (v - 1).toNat) ⟨#[]⟩
theorem pick_eq {h : H} {p : Pt} {c : Cap} {l : List Bs} (r : Row h 1 p l.length c (l.map .str)) (hl : 0 < l.length) (hl2 : l.length ≤ 1000) {v : Int} (n : Nat) : ca (n + 1) i_config_pick [.int .i64 v, .slice p l.length c] h = some (.str (pickL l v), h) := by
  rw [config_pick_eq]
  have key : ∀ b : Bool, b = decide (v < 1 ∨ (l.length : Int) < v) → config_pick_J0 n v p l.length c b h = some (.str (pickL l v), h) := by
    intro b hb
    rw [config_pick_J0_eq]
    unfold pickL
    cases b with
    | true =>
      have hc := of_decide_eq_true hb.symm
      have hg : l[l.length - 1]? = some (l[l.length - 1]'(by omega)) := List.getElem?_eq_getElem (by omega)
      rw [cond_true, if_pos hc, wrap_i64 (by omega) (by omega), show ((Nat.cast l.length : Int) - 1) = ((l.length - 1 : Nat) : Int) by omega, r.ix1 hg, asStr_str, List.getD_eq_getElem?_getD, hg]
      rfl
    | false =>
      have hc := of_decide_eq_false hb.symm
      obtain ⟨k, hk⟩ : ∃ k : Nat, v - 1 = k := ⟨(v - 1).toNat, by omega⟩
      have hg : l[k]? = some (l[k]'(by omega)) := List.getElem?_eq_getElem (by omega)
      rw [cond_false, if_neg hc, wrap_i64 (by omega) (by omega), hk, r.ix1 hg, asStr_str, List.getD_eq_getElem?_getD, show ((k : Nat) : Int).toNat = k from rfl, hg]
      rfl
  by_cases h1 : v < 1
  · rw [decide_eq_true h1, cond_true]
    exact key _ (by rw [decide_eq_true (.inl h1)])
  · rw [decide_eq_false h1, cond_false]
    refine key _ ?_
    by_cases h2 : v > (l.length : Int)
    · rw [decide_eq_true h2, decide_eq_true (Or.inr h2)]
    · rw [decide_eq_false h2, decide_eq_false (fun q => q.elim h1 h2)]

structure CdOk (x : Cd) : Prop where
  ok : ∀ y ∈ [x.a, x.b, x.c, x.d, x.e, x.f], 0 ≤ y ∧ y < 256
def cdT (x : Cd) : Bs := joinS ([x.a, x.b, x.c, x.d, x.e, x.f].map hx2) (mk [58])
theorem card_eq {x : Cd} (ok : CdOk x) {n : Nat} (hn : 11 ≤ n) (h : H) : Ret (ca n i_words_CardText [.agg (enCd x)] h) fun r h' => Mod [] h h' ∧ r = .str (cdT x) :=
  CardText_ret (m := [x.a, x.b, x.c, x.d, x.e, x.f]) rfl ok.ok hn h

def i64ok (v : Int) : Prop := -9223372036854775808 ≤ v ∧ v ≤ 9223372036854775807
structure BkOk (x : Bk) : Prop where
  card : CdOk x.card
  port : i64ok x.port
  weight : i64ok x.weight
def kOpen : Bs := ⟨#[123]⟩
def kShut : Bs := ⟨#[125]⟩
def bkL (x : Bk) : List (List Bs) := [[kBackend, x.name, kOpen], [kAddress, pT x.addr], [kMac, cdT x.card]] ++ (if x.port = 0 then [] else [[kPort, itoaS x.port]]) ++ [[kWeight, itoaS x.weight], [kShut]]

/-- the tables that texts are made with -/
structure Tabs (S : List Nat) (h : H) : Prop where
  t0 : Kept S h 0 (.tab pow10AV)
  t1 : Kept S h 1 (.cells tz64 true)
theorem Tabs.fr {S S' : List Nat} {h h' : H} (t : Tabs S h) (f : Fr S h S' h') : Tabs S' h' := ⟨t.t0.fr f, t.t1.fr f⟩

theorem ren_cons (a : List Bs) (l : List (List Bs)) : ren (a :: l) = renL a ++ ren l := rfl
theorem addr_k {α : Type} {h : H} {S : List Nat} (tb : Tabs S h) (s : Bs) {n : Nat} (hn : 40 ≤ n) {k : Bs → AV × H → Option (α × H)} {Q : α → H → Prop} (hk : ∀ v h', Mod [] h h' → Ret (k (pT s) (v, h')) Q) :
    Ret ((ca n i_words_AddressText [.str s] h).bind fun q => asStr q.1 fun x => k x q) Q := by
  refine (AddressText_ret s hn (h := h) (by have := tb.t1.at_.lt; omega) tb.t0.at_.get tb.t1.at_.get).bind ?_
  rintro _ h' ⟨m, rfl⟩
  simp only [asStr_str]
  exact hk _ _ m
theorem card_k {α : Type} {h : H} {x : Cd} (ok : CdOk x) {n : Nat} (hn : 11 ≤ n) {k : Bs → AV × H → Option (α × H)} {Q : α → H → Prop} (hk : ∀ v h', Mod [] h h' → Ret (k (cdT x) (v, h')) Q) :
    Ret ((ca n i_words_CardText [.agg (enCd x)] h).bind fun q => asStr q.1 fun x => k x q) Q := by
  refine (card_eq ok hn h).bind ?_
  rintro _ h' ⟨m, rfl⟩
  simp only [asStr_str]
  exact hk _ _ m
end Go.Ev.Tryd

/- What is written is read as it was: plain (addresses, cards, numbers). -/
namespace Go.Ev.Tryd
set_option maxRecDepth 10000
open Go.Proofs

theorem hx2_two {x : Nat} (hx : x < 256) : bs (hx2 (x : Int)) = [dig (x / 16), dig (x % 16)] := by
  have : ∀ k : Fin 256, bs (hx2 ((k.val : Nat) : Int)) = [dig (k.val / 16), dig (k.val % 16)] := by decide +kernel
  exact this ⟨x, hx⟩
def mT (m : List Int) : ByteArray := joinS (m.map hx2) (mk [58])
theorem prs_len : ∀ l : List UInt8, (prs l).length = l.length / 2
  | [] => rfl
  | [_] => by simp [prs]
  | x :: y :: l => by simp only [prs, List.length_cons, prs_len l]; omega
theorem adr_size (s : ByteArray) : (pT s).size < 2000 := by
  unfold pT
  have key : ∀ (c : UInt8) (ps : List ByteArray), (∀ p ∈ ps, p.size ≤ 100) → ps.length ≤ 16 → (joinS ps (mk [c])).size < 2000 := by
    intro c ps h hl
    have h1 := join_le c (ps.map (·.data.toList))
    have h2 := flat_le h
    simp only [List.length_map] at h1
    have h3 : (joinS ps (mk [c])).size = (Lib.join (ps.map (·.data.toList)) [c]).length := by rw [← bs_len]; rfl
    omega
  split
  · rename_i h
    exact key 46 _ (fun p hp => by obtain ⟨x, _, rfl⟩ := List.mem_map.1 hp; exact dT_size x) (by simp [bs_len, h])
  · split
    · rename_i h
      exact key 58 _ (fun p hp => by obtain ⟨x, _, rfl⟩ := List.mem_map.1 hp; exact hT_size x) (by simp [prs_len, bs_len, h])
    · decide
theorem mac_size {m : List Int} (hm6 : m.length = 6) (hb : ∀ x ∈ m, 0 ≤ x ∧ x < 256) : (mT m).size < 2000 := by
  unfold mT
  have h1 := join_le 58 ((m.map hx2).map (·.data.toList))
  have h2 := flat_le (k := 100) (xs := m.map hx2) fun p hp => by
    obtain ⟨x, hx, rfl⟩ := List.mem_map.1 hp
    have hxb := hb x hx
    obtain ⟨k, rfl⟩ := Int.eq_ofNat_of_zero_le hxb.1
    rw [← bs_len, hx2_two (by omega)]
    simp
  simp only [List.length_map] at h1 h2
  have h3 : (joinS (m.map hx2) (mk [58])).size = (Lib.join ((m.map hx2).map (·.data.toList)) [58]).length := by rw [← bs_len]; rfl
  omega

end Go.Ev.Tryd

/- The configuration is written: a service. -/
namespace Go.Ev.Tryd
set_option maxRecDepth 10000
open Go.Proofs

structure RowK (S : List Nat) (h : H) (size : Nat) (p : Pt) (len : Nat) (c : Cap) (vs : List AV) : Prop where
  row : Row h size p len c vs
  out : ∀ b ∈ own p, b ∉ S
theorem RowK.fr {S S' : List Nat} {h h' : H} {size : Nat} {p : Pt} {len : Nat} {c : Cap} {vs : List AV} (r : RowK S h size p len c vs) (f : Fr S h S' h') : RowK S' h' size p len c vs :=
  ⟨r.row.mod f.mod r.out, fun b hb => (f.keep (r.row.lt b hb) (r.out b hb)).2.2⟩
theorem Kept.cellAt {β : Type} {S : List Nat} {h : H} {i o : Nat} {v : AV} {cs : List AV} {ro : Bool} (k : Kept S h i (.cells cs ro)) (hv : cs[o]? = some v) (f : AV → Option β) : cellK h i o f = f v := cellK_of k.at_.get hv f
/-- what a piece of the writer gives -/
def Wrote (w : Nat) (S : List Nat) (h : H) (t : List UInt8) (r : AV) (h' : H) : Prop := r = .tup [] ∧ ∃ S', Fr S h S' h' ∧ Wr h' w t S'

theorem backs_loop {w : Nat} {p : Pt} {c : Cap} {xs : List Bk} (hx : xs.length ≤ 1000000) (hok : ∀ x ∈ xs, BkOk x) (n : Nat) : ∀ (rest pre : List Bk) (m : Nat) (h : H) (t : List UInt8) (S : List Nat), xs = pre ++ rest → rest.length < m → Wr h w t S → Tabs S h → RowK S h 10 p xs.length c (xs.flatMap encB) → t.length + (ren (rest.flatMap bkL ++ [[kShut]])).length ≤ 1000000000000 →
    Ret (config_writer_service_L1 (n + 60) m (some (w, 0)) p xs.length c (Nat.cast xs.length) (pre.length : Nat) h) (Wrote w S h (t ++ ren (rest.flatMap bkL ++ [[kShut]])))
  | [], pre, m + 1, h, t, S, e1, _, x, tb, r, hb => by
    rw [config_writer_service_L1_eq, cast_not_lt (by rw [e1]; simp), cond_false]
    refine line_k x [kShut] (by simp) (by simpa [ren] using hb) (n + 58) fun v h1 S1 f1 x1 => ?_
    exact .pure ⟨rfl, S1, f1, by simpa [ren] using x1⟩
  | y :: ys, pre, m + 1, h, t, S, e1, hm, x, tb, r, hb => by
    have hget : xs[pre.length]? = some y := by rw [e1]; simp
    have hlt : pre.length < xs.length := (List.getElem?_eq_some_iff.1 hget).1
    have ok := hok y (List.mem_of_getElem? hget)
    have hl : ren ((y :: ys).flatMap bkL ++ [[kShut]]) = renL [kBackend, y.name, kOpen] ++ (renL [kAddress, pT y.addr] ++ (renL [kMac, cdT y.card] ++ (ren (if y.port = 0 then [] else [[kPort, itoaS y.port]]) ++ (renL [kWeight, itoaS y.weight] ++ (renL [kShut] ++ ren (ys.flatMap bkL ++ [[kShut]])))))) := by
      simp [ren, bkL]
    rw [hl] at hb ⊢
    simp only [List.length_append] at hb
    rw [config_writer_service_L1_eq, cast_lt hlt, cond_true, r.row.ix encB_len (by decide) hget, newK_eq, box_wr (n := 10) rfl rfl rfl]
    have m1 : Mod [] h (h.new (.cells (encB y) false)) := (Mod.refl _ _).new _
    have kb : Kept S (h.new (.cells (encB y) false)) h.next (.cells (encB y) false) := kept_new x.lt _
    have x1 := x.mod0 m1
    have F1 : Fr S h S (h.new (.cells (encB y) false)) := .mod0 m1
    generalize h.new (.cells (encB y) false) = h1 at x1 kb F1 ⊢
    generalize h.next = b at kb ⊢
    rw [kb.cellAt (v := .str y.name) rfl, asStr_str]
    refine line_k x1 [kBackend, y.name, kOpen] (by simp) (by omega) (n + 58) fun v2 h2 S2 f2 x2 => ?_
    have F2 := F1.trans f2
    have kb2 := kb.fr f2
    rw [kb2.cellAt (v := .str y.addr) rfl, asStr_str]
    refine addr_k (tb.fr F2) y.addr (by omega) fun v3 h3 m3 => ?_
    have F3 := F2.trans (.mod0 m3)
    refine line_k (x2.mod0 m3) [kAddress, pT y.addr] (by simp) (by simp only [List.length_append]; omega) (n + 58) fun v4 h4 S4 f4 x4 => ?_
    have F4 := F3.trans f4
    have kb4 := (kb2.mod0 m3).fr f4
    rw [kb4.at_.agg (o := 2) (n := 6) (vs := enCd y.card) rfl (by exact (by decide : 2 + 6 ≤ 10))]
    refine card_k ok.card (by omega) fun v5 h5 m5 => ?_
    have F5 := F4.trans (.mod0 m5)
    refine line_k (x4.mod0 m5) [kMac, cdT y.card] (by simp) (by simp only [List.length_append]; omega) (n + 58) fun v6 h6 S6 f6 x6 => ?_
    have F6 := F5.trans f6
    have kb6 := (kb4.mod0 m5).fr f6
    dsimp only
    rw [kb6.cellAt (v := .int .i64 y.port) rfl, asInt_int]
    have last : ∀ (h7 : H) (S7 : List Nat) (t7 : List UInt8), Fr S h S7 h7 → Kept S7 h7 b (.cells (encB y) false) → Wr h7 w t7 S7 → t7.length + (renL [kWeight, itoaS y.weight]).length + (renL [kShut]).length + (ren (ys.flatMap bkL ++ [[kShut]])).length ≤ 1000000000000 →
        Ret (config_writer_service_J2 (n + 60) m (some (w, 0)) (some (b, 0)) p xs.length c (Nat.cast xs.length) (pre.length : Nat) h7) (Wrote w S h (t7 ++ (renL [kWeight, itoaS y.weight] ++ (renL [kShut] ++ ren (ys.flatMap bkL ++ [[kShut]]))))) := by
      intro h7 S7 t7 F7 kb7 x7 hb7
      rw [config_writer_service_J2_eq]
      simp only [nnK_some', Nat.zero_add]
      rw [kb7.cellAt (v := .int .i64 y.weight) rfl, asInt_int]
      refine count_k x7 (tb.fr F7).t0.at_.get kWeight ok.weight.1 ok.weight.2 (by omega) (n + 57) fun v8 h8 S8 f8 x8 => ?_
      refine line_k x8 [kShut] (by simp) (by simp only [List.length_append]; omega) (n + 58) fun v9 h9 S9 f9 x9 => ?_
      have F9 := (F7.trans f8).trans f9
      rw [wrap_succ (by omega)]
      have := backs_loop hx hok n ys (pre ++ [y]) m h9 _ S9 (by rw [e1]; simp) (by simp at hm; omega) x9 (tb.fr F9) (r.fr F9) (by simp only [List.length_append]; omega)
      refine Ret.mono (by simpa using this) ?_
      rintro r' h10 ⟨q1, S10, f10, x10⟩
      exact ⟨q1, S10, F9.trans f10, by simpa using x10⟩
    by_cases hp : y.port = 0
    · rw [show (y.port != 0) = false by simpa using hp, cond_false]
      rw [if_pos hp] at hb ⊢
      have hb0 : (ren ([] : List (List Bs))).length = 0 := rfl
      rw [hb0] at hb
      have := last h6 S6 _ F6 kb6 x6 (by simp only [List.length_append]; omega)
      simpa [ren] using this
    · rw [show (y.port != 0) = true by simpa using hp, cond_true, kb6.cellAt (v := .int .i64 y.port) rfl, asInt_int]
      rw [if_neg hp] at hb ⊢
      have hb1 : (ren [[kPort, itoaS y.port]]).length = (renL [kPort, itoaS y.port]).length := by simp [ren]
      rw [hb1] at hb
      refine count_k x6 (tb.fr F6).t0.at_.get kPort ok.port.1 ok.port.2 (by simp only [List.length_append]; omega) (n + 57) fun v8 h8 S8 f8 x8 => ?_
      have := last h8 S8 _ (F6.trans f8) (kb6.fr f8) x8 (by simp only [List.length_append]; omega)
      simpa [ren] using this
end Go.Ev.Tryd

/- The configuration is written: services. -/
namespace Go.Ev.Tryd
set_option maxRecDepth 10000
open Go.Proofs

theorem pick_k {α : Type} {h : H} (l : List Bs) (hl : 0 < l.length) (hl2 : l.length ≤ 1000) (v : Int) (n : Nat) {k : Bs → AV × H → Option (α × H)} {Q : α → H → Prop} (hk : ∀ v' h', Mod [] h h' → Ret (k (pickL l v) (v', h')) Q) :
    Ret (newK (.cells (l.map .str) false) h fun i h' => (ca (n + 1) i_config_pick [.int .i64 v, .slice (some (i, 0)) l.length (.known l.length)] h').bind fun q => asStr q.1 fun x => k x q) Q := by
  rw [newK_eq]
  have row : Row (h.new (.cells (l.map .str) false)) 1 (some (h.next, 0)) l.length (.known l.length) (l.map .str) := .row (Nat.lt_succ_self _) (get_new_self _ _) (by rw [List.drop_zero, List.take_of_length_le (by simp)]) (by simp) (.inr ⟨_, rfl, Nat.le_refl _⟩)
  rw [pick_eq row hl hl2, Option.bind_some]
  simp only [asStr_str]
  exact hk _ _ ((Mod.refl _ _).new _)

structure SvOk (x : Sv) : Prop where
  port : i64ok x.port
  rise : i64ok x.rise
  fall : i64ok x.fall
  probe : i64ok x.probe
  bks : ∀ b ∈ x.bks, BkOk b
  few : x.bks.length ≤ 1000000
def svH (x : Sv) : List (List Bs) := [[kVip, pT x.vip], [kPort, itoaS x.port], [kMode, pickL [kNat, kDr, kIpip] x.mode], [kSched, pickL [kMaglev, kSource] x.sched], [kRise, itoaS x.rise], [kFall, itoaS x.fall], [kProbe, itoaS x.probe]]
def svL (x : Sv) : List (List Bs) := [kService, x.name, kOpen] :: [kProto, if x.proto = 6 then kTcp else kUdp] :: (svH x ++ (x.bks.flatMap bkL ++ [[kShut]]))

theorem service_w {x : Sv} (ok : SvOk x) {w : Nat} {h : H} {t : List UInt8} {S : List Nat} (wr : Wr h w t S) (tb : Tabs S h) {p : Pt} {c : Cap} (r : RowK S h 10 p x.bks.length c (x.bks.flatMap encB)) (hb : t.length + (ren (svL x)).length ≤ 1000000000000) {n : Nat} (hn : 1000100 ≤ n) :
    Ret (ca n i_config_writer_service [.ptr (some (w, 0)), .agg (encS x (.slice p x.bks.length c))] h) (Wrote w S h (t ++ ren (svL x))) := by
  obtain ⟨n, rfl⟩ : ∃ k, n = k + 61 := ⟨n - 61, by omega⟩
  show Ret (ca (n + 60 + 1) i_config_writer_service [.ptr (some (w, 0)), .agg [.str x.name, .str x.vip, .int .i64 x.proto, .int .i64 x.port, .int .i64 x.mode, .int .i64 x.sched, .int .i64 x.rise, .int .i64 x.fall, .int .i64 x.probe, .slice p x.bks.length c]] h) _
  have hl : ren (svL x) = renL [kService, x.name, kOpen] ++ (renL [kProto, if x.proto = 6 then kTcp else kUdp] ++ (renL [kVip, pT x.vip] ++ (renL [kPort, itoaS x.port] ++ (renL [kMode, pickL [kNat, kDr, kIpip] x.mode] ++ (renL [kSched, pickL [kMaglev, kSource] x.sched] ++ (renL [kRise, itoaS x.rise] ++ (renL [kFall, itoaS x.fall] ++ (renL [kProbe, itoaS x.probe] ++ ren (x.bks.flatMap bkL ++ [[kShut]]))))))))) := by
    simp [ren, svL, svH]
  rw [hl] at hb ⊢
  simp only [List.length_append] at hb
  rw [config_writer_service_eq, newK_eq]
  have m1 : Mod [] h (h.new (.cells (encS x (.slice p x.bks.length c)) false)) := (Mod.refl _ _).new _
  have kb : Kept S (h.new (.cells (encS x (.slice p x.bks.length c)) false)) h.next (.cells (encS x (.slice p x.bks.length c)) false) := kept_new wr.lt _
  have x1 := wr.mod0 m1
  have F1 : Fr S h S (h.new (.cells (encS x (.slice p x.bks.length c)) false)) := .mod0 m1
  rw [show (AObj.cells [.str x.name, .str x.vip, .int .i64 x.proto, .int .i64 x.port, .int .i64 x.mode, .int .i64 x.sched, .int .i64 x.rise, .int .i64 x.fall, .int .i64 x.probe, .slice p x.bks.length c] false) = .cells (encS x (.slice p x.bks.length c)) false from rfl]
  generalize h.new (.cells (encS x (.slice p x.bks.length c)) false) = h1 at x1 kb F1 ⊢
  generalize h.next = b at kb ⊢
  rw [kb.cellAt (v := .str x.name) rfl, asStr_str]
  refine line_k x1 [kService, x.name, kOpen] (by simp) (by omega) (n + 58) fun v2 h2 S2 f2 x2 => ?_
  have F2 := F1.trans f2
  have kb2 := kb.fr f2
  dsimp only
  rw [kb2.cellAt (v := .int .i64 x.proto) rfl, asInt_int]
  have rest : ∀ pr : Bs, pr = (if x.proto = 6 then kTcp else kUdp) → Ret (config_writer_service_J0 (n + 60) (some (w, 0)) (some (b, 0)) pr h2) (Wrote w S h (t ++ (renL [kService, x.name, kOpen] ++ (renL [kProto, if x.proto = 6 then kTcp else kUdp] ++ (renL [kVip, pT x.vip] ++ (renL [kPort, itoaS x.port] ++ (renL [kMode, pickL [kNat, kDr, kIpip] x.mode] ++ (renL [kSched, pickL [kMaglev, kSource] x.sched] ++ (renL [kRise, itoaS x.rise] ++ (renL [kFall, itoaS x.fall] ++ (renL [kProbe, itoaS x.probe] ++ ren (x.bks.flatMap bkL ++ [[kShut]])))))))))))) := by
    rintro pr rfl
    generalize (if x.proto = 6 then kTcp else kUdp) = pr at hb ⊢
    rw [config_writer_service_J0_eq]
    simp only [nnK_some', Nat.zero_add]
    refine line_k x2 [kProto, pr] (by simp) (by simp only [List.length_append]; omega) (n + 58) fun v3 h3 S3 f3 x3 => ?_
    have F3 := F2.trans f3
    have kb3 := kb2.fr f3
    rw [kb3.cellAt (v := .str x.vip) rfl, asStr_str]
    refine addr_k (tb.fr F3) x.vip (by omega) fun v4 h4 m4 => ?_
    have F4 := F3.trans (.mod0 m4)
    refine line_k (x3.mod0 m4) [kVip, pT x.vip] (by simp) (by simp only [List.length_append]; omega) (n + 58) fun v5 h5 S5 f5 x5 => ?_
    have F5 := F4.trans f5
    have kb5 := (kb3.mod0 m4).fr f5
    rw [kb5.cellAt (v := .int .i64 x.port) rfl, asInt_int]
    refine count_k x5 (tb.fr F5).t0.at_.get kPort ok.port.1 ok.port.2 (by simp only [List.length_append]; omega) (n + 57) fun v6 h6 S6 f6 x6 => ?_
    have F6 := F5.trans f6
    have kb6 := kb5.fr f6
    rw [kb6.cellAt (v := .int .i64 x.mode) rfl, asInt_int]
    refine pick_k [kNat, kDr, kIpip] (by simp) (by simp) x.mode (n + 59) fun v7 h7 m7 => ?_
    have F7 := F6.trans (.mod0 m7)
    refine line_k (x6.mod0 m7) [kMode, pickL [kNat, kDr, kIpip] x.mode] (by simp) (by simp only [List.length_append]; omega) (n + 58) fun v8 h8 S8 f8 x8 => ?_
    have F8 := F7.trans f8
    have kb8 := (kb6.mod0 m7).fr f8
    rw [kb8.cellAt (v := .int .i64 x.sched) rfl, asInt_int]
    refine pick_k [kMaglev, kSource] (by simp) (by simp) x.sched (n + 59) fun v9 h9 m9 => ?_
    have F9 := F8.trans (.mod0 m9)
    refine line_k (x8.mod0 m9) [kSched, pickL [kMaglev, kSource] x.sched] (by simp) (by simp only [List.length_append]; omega) (n + 58) fun v10 h10 S10 f10 x10 => ?_
    have F10 := F9.trans f10
    have kb10 := (kb8.mod0 m9).fr f10
    rw [kb10.cellAt (v := .int .i64 x.rise) rfl, asInt_int]
    refine count_k x10 (tb.fr F10).t0.at_.get kRise ok.rise.1 ok.rise.2 (by simp only [List.length_append]; omega) (n + 57) fun v11 h11 S11 f11 x11 => ?_
    have F11 := F10.trans f11
    have kb11 := kb10.fr f11
    rw [kb11.cellAt (v := .int .i64 x.fall) rfl, asInt_int]
    refine count_k x11 (tb.fr F11).t0.at_.get kFall ok.fall.1 ok.fall.2 (by simp only [List.length_append]; omega) (n + 57) fun v12 h12 S12 f12 x12 => ?_
    have F12 := F11.trans f12
    have kb12 := kb11.fr f12
    rw [kb12.cellAt (v := .int .i64 x.probe) rfl, asInt_int]
    refine count_k x12 (tb.fr F12).t0.at_.get kProbe ok.probe.1 ok.probe.2 (by simp only [List.length_append]; omega) (n + 57) fun v13 h13 S13 f13 x13 => ?_
    have F13 := F12.trans f13
    have kb13 := kb12.fr f13
    rw [kb13.cellAt (v := .slice p x.bks.length c) rfl, asSlice_slice]
    have := backs_loop ok.few ok.bks n x.bks [] (n + 60) h13 _ S13 rfl (by have := ok.few; omega) x13 (tb.fr F13) (r.fr F13) (by simp only [List.length_append]; omega)
    refine Ret.mono this ?_
    rintro r' h14 ⟨q1, S14, f14, x14⟩
    exact ⟨q1, S14, F13.trans f14, by simpa using x14⟩
  by_cases h6 : x.proto = 6
  · rw [show (x.proto == 6) = true by simpa using h6, cond_true]
    exact rest _ (by rw [if_pos h6]; rfl)
  · rw [show (x.proto == 6) = false by simpa using h6, cond_false]
    exact rest _ (by rw [if_neg h6]; rfl)
end Go.Ev.Tryd

/- The configuration is written: the whole. -/
namespace Go.Ev.Tryd
set_option maxRecDepth 10000
open Go.Proofs

structure PsOk (p : Ps) : Prop where
  card : CdOk p.card
  id : i64ok p.id
  prio : i64ok p.prio
  every : i64ok p.every
  trs : ∀ x ∈ p.trs, i64ok x.2
  svs : ∀ x ∈ p.svs, SvOk x
  fv : p.vips.length ≤ 1000000
  ft : p.trs.length ≤ 1000000
  fs : p.svs.length ≤ 1000000
def headL (p : Ps) : List (List Bs) := [[kNode, kOpen], [kMac, cdT p.card], [kAddress, pT p.addr], [kPeer, pT p.peer], [kShut], [kVrrp, kOpen], [kId, itoaS p.id], [kPrio, itoaS p.prio], [kEvery, itoaS p.every]]
def vipsL (l : List Bs) : List (List Bs) := l.map fun a => [kVip, pT a]
def trsL (l : List (Bs × Int)) : List (List Bs) := l.map fun x => [kTrack, x.1, itoaS x.2]
def svsL (l : List Sv) : List (List Bs) := l.flatMap svL
def printL (p : Ps) : List (List Bs) := headL p ++ ([kPreempt, if p.pre = true then kYes else kNo] :: (vipsL p.vips ++ (trsL p.trs ++ ([kShut] :: svsL p.svs))))

/-- what is there at last -/
def Told (S : List Nat) (h : H) (t : List UInt8) (r : AV) (h' : H) : Prop := r = .str (mk t) ∧ ∃ S', Fr S h S' h'

theorem nums_bytes (t : List UInt8) : evNums (byteAVs (mk t)) = some (t.map fun c => (c.toNat : Int)) := by
  have : byteAVs (mk t) = (t.map fun c => (c.toNat : Int)).map (.int .u8) := by simp [byteAVs, mk]
  rw [this, evNums_map]
theorem strOf_bytes (t : List UInt8) : strOfNums (t.map fun c => (c.toNat : Int)) = mk t := by
  unfold strOfNums mk
  congr 2
  rw [List.map_map]
  refine (List.map_congr_left fun c _ => ?_).trans (List.map_id t)
  simp
theorem told_of {h : H} {w : Nat} {t : List UInt8} {S : List Nat} (x : Wr h w t S) (h0 : t ≠ []) (hb : t.length ≤ 140737488355328) : ∃ h', stF 53 5 (some (w, 0)) h = some (mk t, h') ∧ ∃ S', Fr S h S' h' := by
  cases x with
  | none lt g => exact absurd rfl h0
  | @some j t lt _ g gj lj ne =>
    refine ⟨h.kill j, ?_, [w, j], ⟨(Mod.refl _ _).kill (.inr (by simp)), fun i hi => .inl hi⟩⟩
    unfold stF
    simp only [g, gj]
    rw [if_pos ⟨trivial, trivial, byteAVs_len t, List.length_pos_iff.2 h0, hb, ne⟩, nums_bytes, Option.bind_some, if_pos, strOf_bytes]
    rw [List.all_eq_true]
    intro y hy
    obtain ⟨c, _, rfl⟩ := List.mem_map.1 hy
    have := c.toNat_lt
    simp
    omega

theorem svs_loop {w : Nat} {p : Pt} {c : Cap} {xs : List SvR} (hx : xs.length ≤ 1000000) (hok : ∀ x ∈ xs, SvOk x.1) {n : Nat} (hn : 1000200 ≤ n) : ∀ (rest pre : List SvR) (m : Nat) (h : H) (t : List UInt8) (S : List Nat), xs = pre ++ rest → rest.length < m → Wr h w t S → t ≠ [] → Tabs S h → RowK S h 10 p xs.length c (xs.flatMap encR) → (∀ x ∈ xs, RowK S h 10 x.2.1 x.1.bks.length x.2.2 (x.1.bks.flatMap encB)) → t.length + (ren (svsL (rest.map (·.1)))).length ≤ 1000000000000 →
    Ret (config_Print_L3 n m (some (w, 0)) p xs.length c (Nat.cast xs.length) (pre.length : Nat) h) (Told S h (t ++ ren (svsL (rest.map (·.1)))))
  | [], pre, m + 1, h, t, S, e1, _, x, h0, tb, r, rs, hb => by
    obtain ⟨n, rfl⟩ : ∃ k, n = k + 1 := ⟨n - 1, by omega⟩
    rw [config_Print_L3_eq, cast_not_lt (by rw [e1]; simp), cond_false, nnK_some', strings_Builder_String_eq, strings_Builder_String_18_eq]
    obtain ⟨h', e2, S', f1⟩ := told_of x h0 (by omega)
    rw [e2]
    simp only [Option.bind_some, asStr_str]
    exact .pure ⟨by simp [ren, svsL], S', f1⟩
  | y :: ys, pre, m + 1, h, t, S, e1, hm, x, h0, tb, r, rs, hb => by
    have hget : xs[pre.length]? = some y := by rw [e1]; simp
    have hlt : pre.length < xs.length := (List.getElem?_eq_some_iff.1 hget).1
    have hmem := List.mem_of_getElem? hget
    have hl : ren (svsL ((y :: ys).map (·.1))) = ren (svL y.1) ++ ren (svsL (ys.map (·.1))) := by simp [ren, svsL]
    rw [hl] at hb ⊢
    rw [List.length_append] at hb
    rw [config_Print_L3_eq, cast_lt hlt, cond_true, r.row.ix encR_len (by decide) hget]
    simp only [encR, encS, lS_of, lI_of, lL_of, l0_nil]
    rw [newK_eq, box_wr (n := 10) rfl rfl rfl, aggK_all (n := 10) (get_new_self _ _) rfl]
    simp only [lS_of, lI_of, lL_of, l0_nil]
    have m1 : Mod [] h (h.new (.cells (encS y.1 (.slice y.2.1 y.1.bks.length y.2.2)) false)) := (Mod.refl _ _).new _
    change Ret ((ca n i_config_writer_service [.ptr (some (w, 0)), .agg (encS y.1 (.slice y.2.1 y.1.bks.length y.2.2))] (h.new (.cells (encS y.1 (.slice y.2.1 y.1.bks.length y.2.2)) false))).bind fun q161 => asTup q161.1 fun l162 => l0 l162 (config_Print_L3 n m (some (w, 0)) p xs.length c (Nat.cast xs.length) (IntKind.i64.wrap (((pre.length : Nat) : Int) + 1)) q161.2)) _
    have F1 : Fr S h S (h.new (.cells (encS y.1 (.slice y.2.1 y.1.bks.length y.2.2)) false)) := .mod0 m1
    refine (service_w (hok y hmem) (x.mod0 m1) (tb.fr F1) ((rs y hmem).fr F1) (by omega) (n := n) (by omega)).bind ?_
    rintro _ h2 ⟨rfl, S2, f2, x2⟩
    have F2 := F1.trans f2
    simp only [asTup_tup, l0_nil]
    rw [wrap_succ (by omega)]
    have := svs_loop hx hok hn ys (pre ++ [y]) m h2 _ S2 (by rw [e1]; simp) (by simp at hm; omega) x2 (by simp [h0]) (tb.fr F2) (r.fr F2) (fun z hz => (rs z hz).fr F2) (by rw [List.length_append]; omega)
    refine Ret.mono (by simpa using this) ?_
    rintro r' h3 ⟨q1, S3, f3⟩
    exact ⟨by simpa using q1, S3, F2.trans f3⟩
end Go.Ev.Tryd

/- The configuration is written: Print. -/
namespace Go.Ev.Tryd
set_option maxRecDepth 10000
open Go.Proofs

/-- the configuration that is written, where it lies -/
structure PrIn (S : List Nat) (h : H) (b : Nat) (p : Ps) (vp tp gp : Pt) (vc tc gc : Cap) (svr : List SvR) : Prop where
  box : Kept S h b (.cells (encC p (.slice vp p.vips.length vc) (.slice tp p.trs.length tc) (.slice gp svr.length gc)) false)
  tb : Tabs S h
  rv : RowK S h 1 vp p.vips.length vc (p.vips.map .str)
  rt : RowK S h 2 tp p.trs.length tc (p.trs.flatMap encT)
  rg : RowK S h 10 gp svr.length gc (svr.flatMap encR)
  rs : ∀ x ∈ svr, RowK S h 10 x.2.1 x.1.bks.length x.2.2 (x.1.bks.flatMap encB)
theorem PrIn.fr {S S' : List Nat} {h h' : H} {b : Nat} {p : Ps} {vp tp gp : Pt} {vc tc gc : Cap} {svr : List SvR} (i : PrIn S h b p vp tp gp vc tc gc svr) (f : Fr S h S' h') : PrIn S' h' b p vp tp gp vc tc gc svr :=
  ⟨i.box.fr f, i.tb.fr f, i.rv.fr f, i.rt.fr f, i.rg.fr f, fun x hx => (i.rs x hx).fr f⟩

section
variable {p : Ps} {vp tp gp : Pt} {vc tc gc : Cap} {svr : List SvR} {b w : Nat}

theorem trs_loop (ok : PsOk p) (es : svr.map (·.1) = p.svs) {n : Nat} (hn : 1000200 ≤ n) : ∀ (rest pre : List (Bs × Int)) (m : Nat) (h : H) (t : List UInt8) (S : List Nat), p.trs = pre ++ rest → rest.length < m → Wr h w t S → t ≠ [] → PrIn S h b p vp tp gp vc tc gc svr → t.length + (ren (trsL rest ++ ([kShut] :: svsL p.svs))).length ≤ 1000000000000 →
    Ret (config_Print_L2 n m (some (b, 0)) (some (w, 0)) tp p.trs.length tc (Nat.cast p.trs.length) (pre.length : Nat) h) (Told S h (t ++ ren (trsL rest ++ ([kShut] :: svsL p.svs))))
  | [], pre, m + 1, h, t, S, e1, _, x, h0, i, hb => by
    obtain ⟨n, rfl⟩ : ∃ k, n = k + 60 := ⟨n - 60, by omega⟩
    have hl : ren (trsL [] ++ ([kShut] :: svsL p.svs)) = renL [kShut] ++ ren (svsL p.svs) := rfl
    rw [hl] at hb ⊢
    rw [List.length_append] at hb
    rw [config_Print_L2_eq, cast_not_lt (by rw [e1]; simp), cond_false]
    refine line_k x [kShut] (by simp) (by omega) (n + 58) fun v2 h2 S2 f2 x2 => ?_
    have i2 := i.fr f2
    dsimp only
    simp only [nnK_some', Nat.zero_add]
    rw [i2.box.cellAt (v := .slice gp svr.length gc) rfl, asSlice_slice]
    have hs : svr.length = p.svs.length := by rw [← es, List.length_map]
    have := svs_loop (w := w) (xs := svr) (by rw [hs]; exact ok.fs) (fun y hy => ok.svs _ (by rw [← es]; exact List.mem_map_of_mem hy)) hn svr [] (n + 60) h2 _ S2 rfl (by have := ok.fs; omega) x2 (by simp [h0]) i2.tb i2.rg i2.rs (by rw [es, List.length_append]; omega)
    rw [es] at this
    refine Ret.mono this ?_
    rintro r' h3 ⟨q1, S3, f3⟩
    exact ⟨by simpa using q1, S3, f2.trans f3⟩
  | y :: ys, pre, m + 1, h, t, S, e1, hm, x, h0, i, hb => by
    obtain ⟨n, rfl⟩ : ∃ k, n = k + 60 := ⟨n - 60, by omega⟩
    have hget : p.trs[pre.length]? = some y := by rw [e1]; simp
    have hlt : pre.length < p.trs.length := (List.getElem?_eq_some_iff.1 hget).1
    have hmem := List.mem_of_getElem? hget
    have ft := ok.ft
    have hl : ren (trsL (y :: ys) ++ ([kShut] :: svsL p.svs)) = renL [kTrack, y.1, itoaS y.2] ++ ren (trsL ys ++ ([kShut] :: svsL p.svs)) := rfl
    rw [hl] at hb ⊢
    rw [List.length_append] at hb
    rw [config_Print_L2_eq, cast_lt hlt, cond_true, i.rt.row.ix encT_len (by decide) hget]
    simp only [encT, lS_of, lI_of, l0_nil]
    rw [newK_eq, box_wr (n := 2) rfl rfl rfl]
    have m1 : Mod [] h (h.new (.cells [.str y.1, .int .i64 y.2] false)) := (Mod.refl _ _).new _
    have at1 : At (h.new (.cells [.str y.1, .int .i64 y.2] false)) h.next (.cells [.str y.1, .int .i64 y.2] false) := .new _ _
    have F1 : Fr S h S (h.new (.cells [.str y.1, .int .i64 y.2] false)) := .mod0 m1
    generalize h.new (.cells [.str y.1, .int .i64 y.2] false) = h1 at m1 at1 F1 ⊢
    have ht := (i.fr F1).tb.t0.at_.get
    rw [at1.cell (v := .str y.1) rfl, asStr_str, at1.cell (v := .int .i64 y.2) rfl, asInt_int, strconv_Itoa_eq, strconv_Itoa_16_eq, itoaF_of ht (ok.trs y hmem).1 (ok.trs y hmem).2]
    simp only [Option.bind_some, asStr_str]
    rw [sameK_same]
    refine line_k (x.mod0 m1) [kTrack, y.1, itoaS y.2] (by simp) (by omega) (n + 58) fun v2 h2 S2 f2 x2 => ?_
    have F2 := F1.trans f2
    dsimp only
    rw [wrap_succ (by omega)]
    have := trs_loop ok es hn ys (pre ++ [y]) m h2 _ S2 (by rw [e1]; simp) (by simp at hm; omega) x2 (by simp [h0]) (i.fr F2) (by rw [List.length_append]; omega)
    refine Ret.mono (by simpa using this) ?_
    rintro r' h3 ⟨q1, S3, f3⟩
    exact ⟨by simpa using q1, S3, F2.trans f3⟩

theorem vipsP_loop (ok : PsOk p) (es : svr.map (·.1) = p.svs) {n : Nat} (hn : 1000200 ≤ n) : ∀ (rest pre : List Bs) (m : Nat) (h : H) (t : List UInt8) (S : List Nat), p.vips = pre ++ rest → rest.length < m → Wr h w t S → t ≠ [] → PrIn S h b p vp tp gp vc tc gc svr → t.length + (ren (vipsL rest ++ (trsL p.trs ++ ([kShut] :: svsL p.svs)))).length ≤ 1000000000000 →
    Ret (config_Print_L1 n m (some (b, 0)) (some (w, 0)) vp p.vips.length vc (Nat.cast p.vips.length) (pre.length : Nat) h) (Told S h (t ++ ren (vipsL rest ++ (trsL p.trs ++ ([kShut] :: svsL p.svs)))))
  | [], pre, m + 1, h, t, S, e1, _, x, h0, i, hb => by
    rw [config_Print_L1_eq, cast_not_lt (by rw [e1]; simp), cond_false]
    simp only [nnK_some', Nat.zero_add]
    rw [i.box.cellAt (v := .slice tp p.trs.length tc) rfl, asSlice_slice]
    exact trs_loop ok es hn p.trs [] n h t S rfl (by have := ok.ft; omega) x h0 i hb
  | y :: ys, pre, m + 1, h, t, S, e1, hm, x, h0, i, hb => by
    obtain ⟨n, rfl⟩ : ∃ k, n = k + 60 := ⟨n - 60, by omega⟩
    have hget : p.vips[pre.length]? = some y := by rw [e1]; simp
    have hlt : pre.length < p.vips.length := (List.getElem?_eq_some_iff.1 hget).1
    have fv := ok.fv
    have hl : ren (vipsL (y :: ys) ++ (trsL p.trs ++ ([kShut] :: svsL p.svs))) = renL [kVip, pT y] ++ ren (vipsL ys ++ (trsL p.trs ++ ([kShut] :: svsL p.svs))) := rfl
    rw [hl] at hb ⊢
    rw [List.length_append] at hb
    rw [config_Print_L1_eq, cast_lt hlt, cond_true, i.rv.row.ix1 hget, asStr_str]
    refine addr_k i.tb y (by omega) fun v1 h1 m1 => ?_
    have F1 : Fr S h S h1 := .mod0 m1
    refine line_k (x.mod0 m1) [kVip, pT y] (by simp) (by omega) (n + 58) fun v2 h2 S2 f2 x2 => ?_
    have F2 := F1.trans f2
    dsimp only
    rw [wrap_succ (by omega)]
    have := vipsP_loop ok es hn ys (pre ++ [y]) m h2 _ S2 (by rw [e1]; simp) (by simp at hm; omega) x2 (by simp [h0]) (i.fr F2) (by rw [List.length_append]; omega)
    refine Ret.mono (by simpa using this) ?_
    rintro r' h3 ⟨q1, S3, f3⟩
    exact ⟨by simpa using q1, S3, F2.trans f3⟩
end
end Go.Ev.Tryd

/- The configuration is written: the contract. -/
namespace Go.Ev.Tryd
set_option maxRecDepth 10000
open Go.Proofs

theorem Print_ret {p : Ps} (ok : PsOk p) {h : H} (h1 : 1 < h.next) (ht0 : h.get 0 = some (.tab pow10AV)) (ht1 : h.get 1 = some (.cells tz64 true)) {cs : List AV} (hc : CfgAt h p cs) (hb : (ren (printL p)).length ≤ 1000000000000) {n : Nat} (hn : 1000300 ≤ n) :
    Ret (ca n i_config_Print [.agg cs] h) fun r h' => Mod [] h h' ∧ r = .str (mk (ren (printL p))) := by
  obtain ⟨vp, vc, tp, tc, gp, gc, svr, rfl, rv, rt, rg, es, rs⟩ := hc
  have hs : svr.length = p.svs.length := by rw [← es, List.length_map]
  obtain ⟨n, rfl⟩ : ∃ k, n = k + 61 := ⟨n - 61, by omega⟩
  have hl : ren (printL p) = renL [kNode, kOpen] ++ (renL [kMac, cdT p.card] ++ (renL [kAddress, pT p.addr] ++ (renL [kPeer, pT p.peer] ++ (renL [kShut] ++ (renL [kVrrp, kOpen] ++ (renL [kId, itoaS p.id] ++ (renL [kPrio, itoaS p.prio] ++ (renL [kEvery, itoaS p.every] ++ (renL [kPreempt, if p.pre = true then kYes else kNo] ++ ren (vipsL p.vips ++ (trsL p.trs ++ ([kShut] :: svsL p.svs)))))))))))) := by
    simp [ren, printL, headL]
  rw [hl] at hb ⊢
  simp only [List.length_append] at hb
  show Ret (ca (n + 60 + 1) i_config_Print [.agg (encC p (.slice vp p.vips.length vc) (.slice tp p.trs.length tc) (.slice gp p.svs.length gc))] h) _
  rw [config_Print_eq, newK_eq, newK_eq]
  have ma : Mod [] h (h.new (.cells (encC p (.slice vp p.vips.length vc) (.slice tp p.trs.length tc) (.slice gp p.svs.length gc)) false)) := (Mod.refl _ _).new _
  have ab : At (h.new (.cells (encC p (.slice vp p.vips.length vc) (.slice tp p.trs.length tc) (.slice gp p.svs.length gc)) false)) h.next (.cells (encC p (.slice vp p.vips.length vc) (.slice tp p.trs.length tc) (.slice gp p.svs.length gc)) false) := .new _ _
  have nb : (h.new (.cells (encC p (.slice vp p.vips.length vc) (.slice tp p.trs.length tc) (.slice gp p.svs.length gc)) false)).next = h.next + 1 := rfl
  generalize h.new (.cells (encC p (.slice vp p.vips.length vc) (.slice tp p.trs.length tc) (.slice gp p.svs.length gc)) false) = ha at ma ab nb ⊢
  have mw : Mod [] ha (ha.new (.tc 53 [.ptr none, .slice none 0 (.known 0)] true)) := (Mod.refl _ _).new _
  have x0 : Wr (ha.new (.tc 53 [.ptr none, .slice none 0 (.known 0)] true)) ha.next [] [ha.next] := .none (Nat.lt_succ_self _) (get_new_self _ _)
  have mm := ma.trans mw
  generalize ha.new (.tc 53 [.ptr none, .slice none 0 (.known 0)] true) = h0 at mw x0 mm ⊢
  have low : ∀ x, x < ha.next → x ∉ [ha.next] := fun x hx hm => by have := List.mem_singleton.1 hm; omega
  have rowK : ∀ {size len : Nat} {q : Pt} {c : Cap} {vs : List AV}, Row h size q len c vs → RowK [ha.next] h0 size q len c vs := fun r => ⟨r.mod0 mm, fun y hy => low y (by have := r.lt y hy; omega)⟩
  have i0 : PrIn [ha.next] h0 h.next p vp tp gp vc tc gc svr := ⟨by rw [hs]; exact ⟨ab.mod0 mw, low _ (by omega)⟩, ⟨⟨⟨mm.lt (by omega), (mm.get _ (by omega) (by simp)).trans ht0⟩, low _ (by omega)⟩, ⟨⟨mm.lt h1, (mm.get _ h1 (by simp)).trans ht1⟩, low _ (by omega)⟩⟩, rowK rv, rowK rt, rowK rg, fun y hy => rowK (rs y hy)⟩
  have hw : h.next ≤ ha.next := by omega
  generalize ha.next = w at x0 i0 hw low rowK ⊢
  have fin : ∀ {S' : List Nat} {h' : H}, Fr [w] h0 S' h' → Mod [] h h' := fun f => mm.trans' f.mod fun x hx hl => by have := List.mem_singleton.1 hx; omega
  generalize h.next = b at i0 ⊢
  refine line_k x0 [kNode, kOpen] (by simp) (by simp only [List.length_nil]; omega) (n + 58) fun v1 g1 S1 f1 x1 => ?_
  have I1 := i0.fr f1
  dsimp only
  rw [I1.box.at_.agg (o := 0) (n := 6) (vs := enCd p.card) rfl (by exact (by decide : 0 + 6 ≤ 15))]
  refine card_k ok.card (by omega) fun v2 g2 m2 => ?_
  have F2 := f1.trans (.mod0 m2)
  refine line_k (x1.mod0 m2) [kMac, cdT p.card] (by simp) (by simp only [List.length_append, List.length_nil]; omega) (n + 58) fun v3 g3 S3 f3 x3 => ?_
  have F3 := F2.trans f3
  have I3 := i0.fr F3
  dsimp only
  rw [I3.box.cellAt (v := .str p.addr) rfl, asStr_str]
  refine addr_k I3.tb p.addr (by omega) fun v4 g4 m4 => ?_
  have F4 := F3.trans (.mod0 m4)
  refine line_k (x3.mod0 m4) [kAddress, pT p.addr] (by simp) (by simp only [List.length_append, List.length_nil]; omega) (n + 58) fun v5 g5 S5 f5 x5 => ?_
  have F5 := F4.trans f5
  have I5 := i0.fr F5
  dsimp only
  rw [I5.box.cellAt (v := .str p.peer) rfl, asStr_str]
  refine addr_k I5.tb p.peer (by omega) fun v6 g6 m6 => ?_
  have F6 := F5.trans (.mod0 m6)
  refine line_k (x5.mod0 m6) [kPeer, pT p.peer] (by simp) (by simp only [List.length_append, List.length_nil]; omega) (n + 58) fun v7 g7 S7 f7 x7 => ?_
  have F7 := F6.trans f7
  refine line_k x7 [kShut] (by simp) (by simp only [List.length_append, List.length_nil]; omega) (n + 58) fun v8 g8 S8 f8 x8 => ?_
  have F8 := F7.trans f8
  refine line_k x8 [kVrrp, kOpen] (by simp) (by simp only [List.length_append, List.length_nil]; omega) (n + 58) fun v9 g9 S9 f9 x9 => ?_
  have F9 := F8.trans f9
  have I9 := i0.fr F9
  dsimp only
  rw [I9.box.cellAt (v := .int .i64 p.id) rfl, asInt_int]
  refine count_k x9 I9.tb.t0.at_.get kId ok.id.1 ok.id.2 (by simp only [List.length_append, List.length_nil]; omega) (n + 57) fun v10 g10 S10 f10 x10 => ?_
  have F10 := F9.trans f10
  have I10 := i0.fr F10
  dsimp only
  rw [I10.box.cellAt (v := .int .i64 p.prio) rfl, asInt_int]
  refine count_k x10 I10.tb.t0.at_.get kPrio ok.prio.1 ok.prio.2 (by simp only [List.length_append, List.length_nil]; omega) (n + 57) fun v11 g11 S11 f11 x11 => ?_
  have F11 := F10.trans f11
  have I11 := i0.fr F11
  dsimp only
  rw [I11.box.cellAt (v := .int .i64 p.every) rfl, asInt_int]
  refine count_k x11 I11.tb.t0.at_.get kEvery ok.every.1 ok.every.2 (by simp only [List.length_append, List.length_nil]; omega) (n + 57) fun v12 g12 S12 f12 x12 => ?_
  have F12 := F11.trans f12
  have I12 := i0.fr F12
  dsimp only
  rw [I12.box.cellAt (v := .bool p.pre) rfl, asBool_bool]
  have rest : ∀ y : Bs, y = (if p.pre = true then kYes else kNo) → Ret (config_Print_J0 (n + 60) (some (b, 0)) (some (w, 0)) y g12) fun r h' => Mod [] h h' ∧ r = .str (mk (renL [kNode, kOpen] ++ (renL [kMac, cdT p.card] ++ (renL [kAddress, pT p.addr] ++ (renL [kPeer, pT p.peer] ++ (renL [kShut] ++ (renL [kVrrp, kOpen] ++ (renL [kId, itoaS p.id] ++ (renL [kPrio, itoaS p.prio] ++ (renL [kEvery, itoaS p.every] ++ (renL [kPreempt, if p.pre = true then kYes else kNo] ++ ren (vipsL p.vips ++ (trsL p.trs ++ ([kShut] :: svsL p.svs)))))))))))))) := by
    rintro y rfl
    generalize (if p.pre = true then kYes else kNo) = y at hb ⊢
    rw [config_Print_J0_eq]
    refine line_k x12 [kPreempt, y] (by simp) (by simp only [List.length_append, List.length_nil]; omega) (n + 58) fun v13 g13 S13 f13 x13 => ?_
    have F13 := F12.trans f13
    have I13 := i0.fr F13
    dsimp only
    simp only [nnK_some', Nat.zero_add]
    rw [I13.box.cellAt (v := .slice vp p.vips.length vc) rfl, asSlice_slice]
    have := vipsP_loop (w := w) ok es (n := n + 60) (by omega) p.vips [] (n + 60) g13 _ S13 rfl (by have := ok.fv; omega) x13 (by unfold renL; simp) I13 (by simp only [List.length_append, List.length_nil]; omega)
    refine Ret.mono this ?_
    rintro r' g14 ⟨q1, S14, f14⟩
    exact ⟨fin (F13.trans f14), by simpa using q1⟩
  have r1 := rest kYes
  have r0 := rest kNo
  generalize hQ : (fun (r : AV) (h' : H) => Mod [] h h' ∧ r = .str (mk _)) = Q at r1 r0 ⊢
  have fin2 : ∀ c : Bool, p.pre = c → Ret (cond c (config_Print_J0 (n + 60) (some (b, 0)) (some (w, 0)) kYes g12) (config_Print_J0 (n + 60) (some (b, 0)) (some (w, 0)) kNo g12)) Q := by
    intro c hc
    cases c with
    | true => exact r1 (by rw [if_pos hc])
    | false => exact r0 (by rw [if_neg (by rw [hc]; decide)])
  exact fin2 _ rfl
end Go.Ev.Tryd

/- The reader looks at the words' texts alone: but for places, its answer hangs on nothing else. -/
namespace Go.Ev.Tryd
set_option maxRecDepth 10000
open Go.Proofs

def nW (w : Wd) : Wd := (w.1, 0, 0)
def nP (p : Ps) : Ps := { p with bad := 0, spots := p.spots.map fun x => (x.1, 0, x.2.2) }
def nS (st : St) : St := { st with p := nP st.p }
abbrev e0 : Bs := ⟨#[]⟩
/-- a reader of words, and the same one without places -/
def Nrm (f g : St → St × Bool) : Prop := ∀ st, nS (f st).1 = (g (nS st)).1 ∧ (f st).2 = (g (nS st)).2

section
variable (s : Bs) (l : List Wd)
theorem n_peek (k : Nat) : peekP (l.map nW) k = peekP l k := by
  unfold peekP
  rw [List.getElem?_map]
  cases l[k]? <;> rfl
theorem n_place (k : Nat) : placeP e0 (l.map nW) k = 0 := by
  unfold placeP
  rw [List.getElem?_map]
  cases l[k]? <;> rfl
theorem n_fail (p : Ps) (a c : Int) : nP (failP p a c) = failP (nP p) 0 c := by
  unfold failP
  show nP (if p.code = 0 then _ else _) = if p.code = 0 then _ else _
  split <;> rfl
theorem n_must (w : Bs) (p : Ps) : nP (mustP s l w p).1 = (mustP e0 (l.map nW) w (nP p)).1 ∧ (mustP s l w p).2 = (mustP e0 (l.map nW) w (nP p)).2 := by
  unfold mustP
  rw [show (nP p).k = p.k from rfl, n_peek, n_place]
  split
  · exact ⟨rfl, rfl⟩
  · exact ⟨n_fail _ _ _, rfl⟩
theorem n_value (p : Ps) : nP (valueP s l p).1 = (valueP e0 (l.map nW) (nP p)).1 ∧ (valueP e0 (l.map nW) (nP p)).2.1 = (valueP s l p).2.1 ∧ (valueP e0 (l.map nW) (nP p)).2.2.1 = 0 ∧ (valueP e0 (l.map nW) (nP p)).2.2.2 = (valueP s l p).2.2.2 := by
  unfold valueP
  rw [show (nP p).k = p.k from rfl, n_peek, n_place]
  split
  · exact ⟨n_fail _ _ _, rfl, rfl, rfl⟩
  · exact ⟨rfl, rfl, rfl, rfl⟩
theorem n_end : Nrm (endL s l) (endL e0 (l.map nW)) := fun st => by
  obtain ⟨h1, h2⟩ := n_must s l nl st.p
  exact ⟨congrArg (fun p => ({ nS st with p := p } : St)) h1, h2⟩
/-- behind a value -/
theorem n_val (st : St) : ∃ p w a is, valueP s l st.p = (p, w, a, is) ∧ valueP e0 (l.map nW) (nS st).p = (nP p, w, 0, is) := by
  obtain ⟨h1, h2, h3, h4⟩ := n_value s l st.p
  refine ⟨(valueP s l st.p).1, (valueP s l st.p).2.1, (valueP s l st.p).2.2.1, (valueP s l st.p).2.2.2, rfl, ?_⟩
  show valueP e0 (l.map nW) (nP st.p) = _
  rw [h1, ← h2, ← h4]
  exact Prod.ext rfl (Prod.ext rfl (Prod.ext h3 rfl))
theorem n_number {put : St → Int → St} (hp : ∀ st v, nS (put st v) = put (nS st) v) (lo hi : Int) : Nrm (numberS s l put lo hi) (numberS e0 (l.map nW) put lo hi) := fun st => by
  obtain ⟨p, w, a, is, e1, e2⟩ := n_val s l st
  unfold numberS
  rw [e1, e2]
  cases is with
  | false => exact ⟨rfl, rfl⟩
  | true =>
    unfold numberV
    simp only
    split
    · have := n_end s l (put (setP st p) (numP (bs w)).1)
      rw [hp] at this
      exact this
    · exact ⟨congrArg (fun p => ({ nS st with p := p } : St)) (n_fail p a 182), rfl⟩
theorem n_choice {put : St → Int → St} (hp : ∀ st v, nS (put st v) = put (nS st) v) (L : List (Bs × Int)) : Nrm (choiceS s l put L) (choiceS e0 (l.map nW) put L) := fun st => by
  obtain ⟨p, w, a, is, e1, e2⟩ := n_val s l st
  unfold choiceS
  rw [e1, e2]
  cases is with
  | false => exact ⟨rfl, rfl⟩
  | true =>
    unfold choiceV
    simp only
    cases lk L w with
    | some v =>
      have := n_end s l (put (setP st p) v)
      rw [hp] at this
      exact this
    | none => exact ⟨congrArg (fun p => ({ nS st with p := p } : St)) (n_fail p a 182), rfl⟩
theorem n_card {put : St → Cd → St} (hp : ∀ st v, nS (put st v) = put (nS st) v) : Nrm (cardS s l put) (cardS e0 (l.map nW) put) := fun st => by
  obtain ⟨p, w, a, is, e1, e2⟩ := n_val s l st
  unfold cardS
  rw [e1, e2]
  cases is with
  | false => exact ⟨rfl, rfl⟩
  | true =>
    unfold cardV
    simp only
    split
    · have := n_end s l (put (setP st p) (cdOf (cardP w).1))
      rw [hp] at this
      exact this
    · exact ⟨congrArg (fun p => ({ nS st with p := p } : St)) (n_fail p a 182), rfl⟩
theorem n_address {svc : Bool} {tk : St → Bs → Int → St × Bool} (ht : ∀ st a at', nS (tk st a at').1 = (tk (nS st) a 0).1 ∧ (tk st a at').2 = (tk (nS st) a 0).2) : Nrm (addressS s l svc tk) (addressS e0 (l.map nW) svc tk) := fun st => by
  obtain ⟨p, w, a, is, e1, e2⟩ := n_val s l st
  unfold addressS
  rw [e1, e2]
  cases is with
  | false => exact ⟨rfl, rfl⟩
  | true =>
    unfold addressV
    simp only
    split
    · obtain ⟨h1, h2⟩ := ht (setP st { p with spots := p.spots ++ [((adrP w).1, a, svc)] }) (adrP w).1 a
      have he : nS (setP st { p with spots := p.spots ++ [((adrP w).1, a, svc)] }) = setP (nS st) { nP p with spots := (nP p).spots ++ [((adrP w).1, 0, svc)] } := by
        unfold nS nP setP
        simp
      rw [he] at h1 h2
      unfold thenEnd
      rw [h2]
      split
      · have := n_end s l (tk (setP st { p with spots := p.spots ++ [((adrP w).1, a, svc)] }) (adrP w).1 a).1
        rw [h1] at this
        exact this
      · exact ⟨h1, rfl⟩
    · exact ⟨congrArg (fun p => ({ nS st with p := p } : St)) (n_fail p a 182), rfl⟩
end
end Go.Ev.Tryd
