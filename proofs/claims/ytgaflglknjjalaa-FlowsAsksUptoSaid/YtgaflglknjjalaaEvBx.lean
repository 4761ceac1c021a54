/- The abstract machine Ev, part Bx: blocks of one's own, in steps of one line each. -/
import Derived.Test.YtgaflglknjjalaaEvV
import Derived.Test.YtgaflglknjjalaaEvSp
set_option linter.all false
namespace Go.Ev

/-- a block, and what lies there -/
structure At (h : H) (b : Nat) (o : AObj) : Prop where
  lt : b < h.next
  get : h.get b = some o

theorem At.mod {h h' : H} {b : Nat} {o : AObj} {S : List Nat} (g : At h b o) (m : Mod S h h') (hS : b ∉ S) : At h' b o := ⟨m.lt g.lt, (m.get _ g.lt hS).trans g.get⟩
theorem At.mod0 {h h' : H} {b : Nat} {o : AObj} (g : At h b o) (m : Mod [] h h') : At h' b o := g.mod m (by simp)
theorem At.new (h : H) (o : AObj) : At (h.new o) h.next o := ⟨Nat.lt_succ_self _, get_new_self h o⟩
theorem At.row {h : H} {b n : Nat} {cs vs : List AV} {ro : Bool} {size len : Nat} {c : Cap} (g : At h b (.cells cs ro)) (hv : (cs.drop n).take (len * size) = vs) (hl : n + len * size ≤ cs.length) (hc : c = .rest size ∨ ∃ k, c = .known k ∧ len ≤ k) : Row h size (some (b, n)) len c vs := .row g.lt g.get hv hl hc
theorem At.grow {a h : H} {b : Nat} {cs : List AV} {size len : Nat} {c : Cap} (g : At h b (.cells cs false)) (hb : a.next ≤ b) (hl : cs.length = len * size) (hc : c = .rest size ∨ c = .known len) : Grow a h size (some (b, 0)) len c cs := ⟨.inr ⟨b, rfl, hb, g.lt, g.get, hl, hc⟩⟩

section
variable {α β : Type}

theorem At.cell {h : H} {b o : Nat} {cs : List AV} {ro : Bool} (g : At h b (.cells cs ro)) {v : AV} (hv : cs[o]? = some v) (f : AV → Option β) : cellK h b o f = f v := cellK_of g.get hv f
theorem At.agg {h : H} {b o n : Nat} {cs vs : List AV} {ro : Bool} (g : At h b (.cells cs ro)) (hv : (cs.drop o).take n = vs) (hl : o + n ≤ cs.length) (f : List AV → Option β) : aggK h b o n f = f vs := by rw [aggK_of g.get hl, hv]
theorem At.all {h : H} {b n : Nat} {cs : List AV} {ro : Bool} (g : At h b (.cells cs ro)) (hn : cs.length = n) (f : List AV → Option β) : aggK h b 0 n f = f cs := aggK_all g.get hn f

/-- a new block -/
theorem newK_ret {o : AObj} {h : H} {f : Nat → H → Option (α × H)} {Q : α → H → Prop} (k : ∀ b h', At h' b o → b = h.next → h'.next = b + 1 → Mod [] h h' → Ret (f b h') Q) : Ret (newK o h f) Q :=
  k h.next (h.new o) (.new h o) rfl rfl ((Mod.refl _ _).new _)
/-- a new block that is written as a whole at once -/
theorem boxK_ret {zs xs : List AV} {n : Nat} {h : H} {f : Nat → H → Option (α × H)} {Q : α → H → Prop} (hz : zs.length = n) (hx : xs.length = n) (hc : xs.all isCell = true) (k : ∀ b h', At h' b (.cells xs false) → b = h.next → h'.next = b + 1 → Mod [] h h' → Ret (f b h') Q) :
    Ret (newK (.cells zs false) h fun b h1 => wrK h1 b 0 n xs fun h2 => f b h2) Q := by
  rw [newK_eq, box_wr hx hz hc]
  exact k _ _ (.new h _) rfl rfl ((Mod.refl _ _).new _)
/-- cells written -/
theorem At.wr {h : H} {b o n : Nat} {cs xs : List AV} (g : At h b (.cells cs false)) (hn : xs.length = n) (hl : o + n ≤ cs.length) (hc : xs.all isCell = true) {f : H → Option (α × H)} {Q : α → H → Prop}
    (k : ∀ h', At h' b (.cells (spl cs o xs) false) → h'.next = h.next → Mod [b] h h' → Ret (f h') Q) : Ret (wrK h b o n xs f) Q := by
  rw [wrK_of g.get hn hl hc]
  exact k _ ⟨g.lt, get_set_self _ _ _⟩ rfl ((Mod.refl _ _).set (.inr (by simp)) _)
end

theorem Grow.push' {α : Type} {a h : H} {size bytes : Nat} {p : Option (Nat × Nat)} {len : Nat} {c : Cap} {vs : List AV} (g : Grow a h size p len c vs) (ha : a.next ≤ h.next) {xs : List AV} (hx : xs.length = size) (hc : xs.all isCell = true) (h0 : 0 < size) (hb : (len + 1) * bytes ≤ 140737488355328) (h63 : len + 1 ≤ 9223372036854775807)
    {f : Option (Nat × Nat) → Nat → Cap → H → Option (α × H)} {Q : α → H → Prop} (k : ∀ p' c' h', Grow a h' size p' (len + 1) c' (vs ++ xs) → Mod (own p) h h' → (∀ x ∈ own p', h.next ≤ x) → Ret (f p' (len + 1) c' h') Q) :
    Ret (appK size bytes p len c (evSrc size (.slice (some (h.next, 0)) 1 (.known 1)) (h.new (.cells xs false))) (h.new (.cells xs false)) f) Q := by
  have m2 : Mod [] h (h.new (.cells xs false)) := (Mod.refl _ _).new _
  have r2 : Row (h.new (.cells xs false)) size (some (h.next, 0)) 1 (.known 1) xs := .row (by simp) (get_new_self _ _) (by rw [List.drop_zero, Nat.one_mul, ← hx, List.take_length]) (by omega) (.inr ⟨1, rfl, Nat.le_refl _⟩)
  rw [r2.src]
  rcases (g.mod0 m2).look with ⟨rfl, rfl, rfl, rfl⟩ | ⟨b, rfl, h1, h2, h3, h4, h5⟩
  · simp only [appK, evApp]
    rw [if_neg (by omega), if_pos ⟨by simpa using hb, by omega⟩]
    refine k _ _ _ ?_ ((m2.new _).sub fun i h => by cases h) (by simp)
    rw [List.nil_append]
    exact Grow.fresh (Nat.le_trans ha m2.next) (by rw [hx]; simp) (.inl rfl)
  · rcases h5 with rfl | rfl
    · simp only [appK, evApp]
      rw [if_neg (by omega), if_pos ⟨trivial, hb, h63⟩, h3]
      simp only [Nat.zero_add]
      rw [if_pos ⟨h4.symm, hc⟩, List.drop_zero]
      exact k _ _ _ (Grow.fresh (h := (h.new (.cells xs false)).kill b) (Nat.le_trans ha m2.next) (by rw [List.length_append, h4, hx, Nat.add_mul, Nat.one_mul]) (.inl rfl)) ((m2.of_nil.kill (.inr (by simp))).new _) (by simp)
    · simp only [appK, evApp]
      rw [if_neg (show ¬ len + 1 ≤ len by omega), if_pos ⟨hb, h63⟩, h3]
      simp only [Nat.zero_add]
      rw [if_pos (Nat.le_of_eq h4.symm), List.drop_zero, ← h4, List.take_length]
      exact k _ _ _ (Grow.fresh (Nat.le_trans ha m2.next) (by rw [List.length_append, h4, hx, Nat.add_mul, Nat.one_mul]) (.inl rfl)) ((m2.of_nil).new _) (by simp)

theorem bytesF_cell (l : List Int) : (l.map (AV.int .u8)).all isCell = true := by
  rw [List.all_eq_true]
  intro x hx
  obtain ⟨y, _, rfl⟩ := List.mem_map.1 hx
  rfl

end Go.Ev
