/- What the functions compute, printed by evprint.py. -/
import Derived.Test.YtkikfnpanlcajaaDoorEvHR
import Derived.Test.YtkikfnpanlcajaaDoorProg
import Derived.KernelRfl
import Derived.Test.YtkikfnpanlcajaaDoorEvXj
import Derived.Test.YtkikfnpanlcajaaDoorShelf17
import Derived.Test.YtkikfnpanlcajaaDoorIt17
set_option maxRecDepth 100000
set_option linter.all false
namespace Go.Ev.Tryd
open Go.Proofs

theorem mixed : Tryd.prog.follows .mixedOrders = true := by kernel_rfl

-- 31 strconv.Itoa
noncomputable def strconv_Itoa_31_ck (n : Nat) : CK := tableOf (P := Tryd.prog) []
noncomputable def strconv_Itoa_31 (n : Nat) (a0 : Int) (h : H) : Option ((ByteArray) × H) := itoaF 0 a0 h
theorem strconv_Itoa_31_eq (n : Nat) (a0 : Int) (h : H) : strconv_Itoa_31 n a0 h = itoaF 0 a0 h := rfl
noncomputable def strconv_Itoa_31_E (n : Nat) : Entry Tryd.prog where
  id := 31
  run := fun args h k => lc args fun v1 l2 => asInt .i64 v1 fun x3 => l0 l2 ((strconv_Itoa_31 n x3 h).bind fun r => k (.str r.1) r.2)
  nat := by intro β args h k; simp only [lc_bind, l0_bind, asInt_bind, asBool_bind, asStr_bind, asPtr_bind, asSlice_bind, asMap_bind, asAgg_bind, asTup_bind, asFunc_bind, Option.bind_assoc, Option.bind_some]
  sound := by
    intro args h v h' e0
    obtain ⟨_, _, rfl, e1⟩ := lc_some e0
    obtain ⟨_, rfl, e2⟩ := asInt_some e1
    obtain ⟨rfl, e3⟩ := l0_some e2
    obtain ⟨r, hr, e4⟩ := Option.bind_eq_some_iff.1 e3
    cases e4
    exact itoaF_called (g := 0) Go.Proofs.Tryd.func31 (by kernel_rfl) (by kernel_rfl) (by kernel_rfl) (by kernel_rfl) Go.Proofs.Tryd.strconv_Itoa hr

-- 32 strings.Join
noncomputable def strings_Join_32_ck (n : Nat) : CK := tableOf (P := Tryd.prog) []
noncomputable def strings_Join_32 (n : Nat) (a0_0 : Option (Nat × Nat)) (a0_1 : Nat) (a0_2 : Cap) (a1 : ByteArray) (h : H) : Option ((ByteArray) × H) := joinF a0_0 a0_1 a0_2 a1 h
theorem strings_Join_32_eq (n : Nat) (a0_0 : Option (Nat × Nat)) (a0_1 : Nat) (a0_2 : Cap) (a1 : ByteArray) (h : H) : strings_Join_32 n a0_0 a0_1 a0_2 a1 h = joinF a0_0 a0_1 a0_2 a1 h := rfl
noncomputable def strings_Join_32_E (n : Nat) : Entry Tryd.prog where
  id := 32
  run := fun args h k => lc args fun v1 l2 => asSlice v1 fun x3 n4 c5 => lc l2 fun v6 l7 => asStr v6 fun x8 => l0 l7 ((strings_Join_32 n x3 n4 c5 x8 h).bind fun r => k (.str r.1) r.2)
  nat := by intro β args h k; simp only [lc_bind, l0_bind, asInt_bind, asBool_bind, asStr_bind, asPtr_bind, asSlice_bind, asMap_bind, asAgg_bind, asTup_bind, asFunc_bind, Option.bind_assoc, Option.bind_some]
  sound := by
    intro args h v h' e0
    obtain ⟨_, _, rfl, e1⟩ := lc_some e0
    obtain ⟨_, _, _, rfl, e2⟩ := asSlice_some e1
    obtain ⟨_, _, rfl, e3⟩ := lc_some e2
    obtain ⟨_, rfl, e4⟩ := asStr_some e3
    obtain ⟨rfl, e5⟩ := l0_some e4
    obtain ⟨r, hr, e6⟩ := Option.bind_eq_some_iff.1 e5
    cases e6
    exact joinF_called Go.Proofs.Tryd.func32 (by kernel_rfl) (by kernel_rfl) Go.Proofs.Tryd.strings_Join_none Go.Proofs.Tryd.strings_Join hr

-- 60 internal/bytealg.CountString
noncomputable def bytealg_CountString_60_ck (n : Nat) : CK := tableOf (P := Tryd.prog) []
noncomputable def bytealg_CountString_60 (n : Nat) (a0 : ByteArray) (a1 : Int) (h : H) : Option ((Int) × H) := some (countF a0 a1, h)
theorem bytealg_CountString_60_eq (n : Nat) (a0 : ByteArray) (a1 : Int) (h : H) : bytealg_CountString_60 n a0 a1 h = some (countF a0 a1, h) := rfl
noncomputable def bytealg_CountString_60_E (n : Nat) : Entry Tryd.prog where
  id := 60
  run := fun args h k => lc args fun v1 l2 => asStr v1 fun x3 => lc l2 fun v4 l5 => asInt .u8 v4 fun x6 => l0 l5 ((bytealg_CountString_60 n x3 x6 h).bind fun r => k (.int .i64 r.1) r.2)
  nat := by intro β args h k; simp only [lc_bind, l0_bind, asInt_bind, asBool_bind, asStr_bind, asPtr_bind, asSlice_bind, asMap_bind, asAgg_bind, asTup_bind, asFunc_bind, Option.bind_assoc, Option.bind_some]
  sound := by
    intro args h v h' e0
    obtain ⟨_, _, rfl, e1⟩ := lc_some e0
    obtain ⟨_, rfl, e2⟩ := asStr_some e1
    obtain ⟨_, _, rfl, e3⟩ := lc_some e2
    obtain ⟨_, rfl, e4⟩ := asInt_some e3
    obtain ⟨rfl, e5⟩ := l0_some e4
    obtain ⟨r, hr, e6⟩ := Option.bind_eq_some_iff.1 e5
    cases e6
    exact countF_called Go.Proofs.Tryd.func60 (by kernel_rfl) (by kernel_rfl) (by kernel_rfl) (by kernel_rfl) hr

-- 69 internal/bytealg.IndexByteString
noncomputable def bytealg_IndexByteString_69_ck (n : Nat) : CK := tableOf (P := Tryd.prog) []
noncomputable def bytealg_IndexByteString_69 (n : Nat) (a0 : ByteArray) (a1 : Int) (h : H) : Option ((Int) × H) := some (indexF a0 a1, h)
theorem bytealg_IndexByteString_69_eq (n : Nat) (a0 : ByteArray) (a1 : Int) (h : H) : bytealg_IndexByteString_69 n a0 a1 h = some (indexF a0 a1, h) := rfl
noncomputable def bytealg_IndexByteString_69_E (n : Nat) : Entry Tryd.prog where
  id := 69
  run := fun args h k => lc args fun v1 l2 => asStr v1 fun x3 => lc l2 fun v4 l5 => asInt .u8 v4 fun x6 => l0 l5 ((bytealg_IndexByteString_69 n x3 x6 h).bind fun r => k (.int .i64 r.1) r.2)
  nat := by intro β args h k; simp only [lc_bind, l0_bind, asInt_bind, asBool_bind, asStr_bind, asPtr_bind, asSlice_bind, asMap_bind, asAgg_bind, asTup_bind, asFunc_bind, Option.bind_assoc, Option.bind_some]
  sound := by
    intro args h v h' e0
    obtain ⟨_, _, rfl, e1⟩ := lc_some e0
    obtain ⟨_, rfl, e2⟩ := asStr_some e1
    obtain ⟨_, _, rfl, e3⟩ := lc_some e2
    obtain ⟨_, rfl, e4⟩ := asInt_some e3
    obtain ⟨rfl, e5⟩ := l0_some e4
    obtain ⟨r, hr, e6⟩ := Option.bind_eq_some_iff.1 e5
    cases e6
    exact indexF_called Go.Proofs.Tryd.func69 (by kernel_rfl) (by kernel_rfl) (by kernel_rfl) (by kernel_rfl) hr

end Go.Ev.Tryd
