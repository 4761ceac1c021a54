/- Own texts, joined: Q182 Q183 Q184 Wc0 Wc1 Wc2 Wc3 Wc4 Wc5 Wc6 Wc7 Wc8 Wc9. -/
import Derived.Test.YtongjlmclckboaaDoorM4
import Derived.Test.YtongjlmclckboaaDoorM3
import Derived.KernelRfl
set_option linter.all false
/- What the functions compute, printed by evprint2.py. -/
set_option maxRecDepth 100000
set_option linter.all false
namespace Go.Ev.Tryd
open Go.Proofs
noncomputable def strconv_formatBits_J0 (n : Nat) (a0_0 : Pt) (a0_1 : Nat) (a0_2 : Cap) (a1 a2 : Int) (a3 a4 : Bool) (a10_0 : Pt) (a10_1 : Nat) (a10_2 : Cap) (a11 : Bs) (a28 : Bool) (h : H) : R := J T.toTab n e_strconv_formatBits [1, 0, 1] [] [(0, (.slice a0_0 a0_1 a0_2)), (1, (.int .u64 a1)), (2, (.int .i64 a2)), (3, (.bool a3)), (4, (.bool a4)), (10, (.slice a10_0 a10_1 a10_2)), (11, (.str a11)), (28, (.bool a28))] h
noncomputable def strconv_formatBits_J1 (n : Nat) (a0_0 : Pt) (a0_1 : Nat) (a0_2 : Cap) (a1 a2 : Int) (a3 a4 : Bool) (a10_0 : Pt) (a10_1 : Nat) (a10_2 : Cap) (a11 : Bs) (h : H) : R := J T.toTab n e_strconv_formatBits [1, 1] [] [(0, (.slice a0_0 a0_1 a0_2)), (1, (.int .u64 a1)), (2, (.int .i64 a2)), (3, (.bool a3)), (4, (.bool a4)), (10, (.slice a10_0 a10_1 a10_2)), (11, (.str a11))] h
noncomputable def strconv_formatBits_J2 (n : Nat) (a0_0 : Pt) (a0_1 : Nat) (a0_2 : Cap) (a1 a2 : Int) (a3 a4 : Bool) (a10_0 : Pt) (a10_1 : Nat) (a10_2 : Cap) (a11 : Bs) (a12 : Pt) (a13 : Int) (h : H) : R := J T.toTab n e_strconv_formatBits [1, 1, 1, 1, 1] [] [(0, (.slice a0_0 a0_1 a0_2)), (1, (.int .u64 a1)), (2, (.int .i64 a2)), (3, (.bool a3)), (4, (.bool a4)), (10, (.slice a10_0 a10_1 a10_2)), (11, (.str a11)), (12, (.ptr a12)), (13, (.int .i64 a13))] h
noncomputable def strconv_formatBits_L3 (n m1 : Nat) (a0_0 : Pt) (a0_1 : Nat) (a0_2 : Cap) (a1 : Int) (a3 a4 : Bool) (a10_0 : Pt) (a10_1 : Nat) (a10_2 : Cap) (a11 : Bs) (a12 : Pt) (a13 a14 a15 a16 : Int) (h : H) : R := J T.toTab n e_strconv_formatBits [1, 1, 1, 1, 1, 0, 1, 0, 1, 1, 1, 0, 0] [m1] [(0, (.slice a0_0 a0_1 a0_2)), (1, (.int .u64 a1)), (3, (.bool a3)), (4, (.bool a4)), (10, (.slice a10_0 a10_1 a10_2)), (11, (.str a11)), (12, (.ptr a12)), (13, (.int .i64 a13)), (14, (.int .u64 a14)), (15, (.int .u64 a15)), (16, (.int .u64 a16))] h
noncomputable def strconv_formatBits_L4 (n m1 : Nat) (a0_0 : Pt) (a0_1 : Nat) (a0_2 : Cap) (a1 : Int) (a3 a4 : Bool) (a10_0 : Pt) (a10_1 : Nat) (a10_2 : Cap) (a11 : Bs) (a12 : Pt) (a13 a17 : Int) (h : H) : R := J T.toTab n e_strconv_formatBits [1, 1, 1, 1, 1, 0, 1, 1, 1, 0, 0] [m1] [(0, (.slice a0_0 a0_1 a0_2)), (1, (.int .u64 a1)), (3, (.bool a3)), (4, (.bool a4)), (10, (.slice a10_0 a10_1 a10_2)), (11, (.str a11)), (12, (.ptr a12)), (13, (.int .i64 a13)), (17, (.int .u64 a17))] h
noncomputable def strconv_formatBits_J5 (n : Nat) (a0_0 : Pt) (a0_1 : Nat) (a0_2 : Cap) (a3 a4 : Bool) (a10_0 : Pt) (a10_1 : Nat) (a10_2 : Cap) (a11 : Bs) (a12 : Pt) (a13 : Int) (h : H) : R := J T.toTab n e_strconv_formatBits [1, 1, 1, 1, 1, 1] [] [(0, (.slice a0_0 a0_1 a0_2)), (3, (.bool a3)), (4, (.bool a4)), (10, (.slice a10_0 a10_1 a10_2)), (11, (.str a11)), (12, (.ptr a12)), (13, (.int .i64 a13))] h
noncomputable def strconv_formatBits_J6 (n : Nat) (a0_0 : Pt) (a0_1 : Nat) (a0_2 : Cap) (a4 : Bool) (a10_0 : Pt) (a10_1 : Nat) (a10_2 : Cap) (a11 : Bs) (a12 : Pt) (a13 : Int) (h : H) : R := J T.toTab n e_strconv_formatBits [1, 1, 1, 1, 1, 1, 1] [] [(0, (.slice a0_0 a0_1 a0_2)), (4, (.bool a4)), (10, (.slice a10_0 a10_1 a10_2)), (11, (.str a11)), (12, (.ptr a12)), (13, (.int .i64 a13))] h
theorem strconv_formatBits_J0_eq (n : Nat) (a0_0 : Pt) (a0_1 : Nat) (a0_2 : Cap) (a1 a2 : Int) (a3 a4 : Bool) (a10_0 : Pt) (a10_1 : Nat) (a10_2 : Cap) (a11 : Bs) (a28 : Bool) (h : H) : strconv_formatBits_J0 n a0_0 a0_1 a0_2 a1 a2 a3 a4 a10_0 a10_1 a10_2 a11 a28 h = cond a28 (none) (strconv_formatBits_J1 n a0_0 a0_1 a0_2 a1 a2 a3 a4 a10_0 a10_1 a10_2 a11 h) := (J_eq T.toTab n e_strconv_formatBits [1, 0, 1] [] _ h).trans (by kernel_rfl)
theorem strconv_formatBits_J1_eq (n : Nat) (a0_0 : Pt) (a0_1 : Nat) (a0_2 : Cap) (a1 a2 : Int) (a3 a4 : Bool) (a10_0 : Pt) (a10_1 : Nat) (a10_2 : Cap) (a11 : Bs) (h : H) : strconv_formatBits_J1 n a0_0 a0_1 a0_2 a1 a2 a3 a4 a10_0 a10_1 a10_2 a11 h = newK (.cells [(.int .u8 0), (.int .u8 0), (.int .u8 0), (.int .u8 0), (.int .u8 0), (.int .u8 0), (.int .u8 0), (.int .u8 0), (.int .u8 0), (.int .u8 0), (.int .u8 0), (.int .u8 0), (.int .u8 0), (.int .u8 0), (.int .u8 0), (.int .u8 0), (.int .u8 0), (.int .u8 0), (.int .u8 0), (.int .u8 0), (.int .u8 0), (.int .u8 0), (.int .u8 0), (.int .u8 0), (.int .u8 0), (.int .u8 0), (.int .u8 0), (.int .u8 0), (.int .u8 0), (.int .u8 0), (.int .u8 0), (.int .u8 0), (.int .u8 0), (.int .u8 0), (.int .u8 0), (.int .u8 0), (.int .u8 0), (.int .u8 0), (.int .u8 0), (.int .u8 0), (.int .u8 0), (.int .u8 0), (.int .u8 0), (.int .u8 0), (.int .u8 0), (.int .u8 0), (.int .u8 0), (.int .u8 0), (.int .u8 0), (.int .u8 0), (.int .u8 0), (.int .u8 0), (.int .u8 0), (.int .u8 0), (.int .u8 0), (.int .u8 0), (.int .u8 0), (.int .u8 0), (.int .u8 0), (.int .u8 0), (.int .u8 0), (.int .u8 0), (.int .u8 0), (.int .u8 0), (.int .u8 0)] false) h fun i1 h2 => cond a3 (strconv_formatBits_J2 n a0_0 a0_1 a0_2 (IntKind.u64.wrap (0 - a1)) a2 a3 a4 a10_0 a10_1 a10_2 a11 (some (i1, 0)) 65 h2) (strconv_formatBits_J2 n a0_0 a0_1 a0_2 a1 a2 a3 a4 a10_0 a10_1 a10_2 a11 (some (i1, 0)) 65 h2) := (J_eq T.toTab n e_strconv_formatBits [1, 1] [] _ h).trans (by kernel_rfl)
theorem strconv_formatBits_J2_eq (n : Nat) (a0_0 : Pt) (a0_1 : Nat) (a0_2 : Cap) (a1 a2 : Int) (a3 a4 : Bool) (a10_0 : Pt) (a10_1 : Nat) (a10_2 : Cap) (a11 : Bs) (a12 : Pt) (a13 : Int) (h : H) : strconv_formatBits_J2 n a0_0 a0_1 a0_2 a1 a2 a3 a4 a10_0 a10_1 a10_2 a11 a12 a13 h = (ca n i_strconv_isPowerOfTwo [(.int .i64 a2)] h).bind fun q3 => asBool q3.1 fun x4 => cond x4 ((ca n i_bits_TrailingZeros [(.int .u64 (IntKind.u64.wrap a2))] q3.2).bind fun q5 => asInt .i64 q5.1 fun x6 => strconv_formatBits_L3 n n a0_0 a0_1 a0_2 a1 a3 a4 a10_0 a10_1 a10_2 a11 a12 a13 (IntKind.u64.wrap x6) (IntKind.u64.wrap a2) (IntKind.u64.wrap ((IntKind.u64.wrap a2) - 1)) q5.2) (strconv_formatBits_L4 n n a0_0 a0_1 a0_2 a1 a3 a4 a10_0 a10_1 a10_2 a11 a12 a13 (IntKind.u64.wrap a2) q3.2) := (J_eq T.toTab n e_strconv_formatBits [1, 1, 1, 1, 1] [] _ h).trans (by kernel_rfl)
theorem strconv_formatBits_L3_eq (n m1 : Nat) (a0_0 : Pt) (a0_1 : Nat) (a0_2 : Cap) (a1 : Int) (a3 a4 : Bool) (a10_0 : Pt) (a10_1 : Nat) (a10_2 : Cap) (a11 : Bs) (a12 : Pt) (a13 a14 a15 a16 : Int) (h : H) : strconv_formatBits_L3 n (m1 + 1) a0_0 a0_1 a0_2 a1 a3 a4 a10_0 a10_1 a10_2 a11 a12 a13 a14 a15 a16 h = cond (decide (a1 ≥ a15)) (byteK s_fdb5537d (iand .u64 a1 a16) fun y7 => nnK a12 fun b8 o9 => if 0 ≤ (IntKind.i64.wrap (a13 - 1)) ∧ (IntKind.i64.wrap (a13 - 1)) < ((65 : Nat) : Int) then wrK h b8 (o9 + ((IntKind.i64.wrap (a13 - 1))).toNat) 1 [(.int .u8 y7)] fun h10 => if a14 < 0 then none else strconv_formatBits_L3 n m1 a0_0 a0_1 a0_2 (ishr .u64 a1 a14) a3 a4 a10_0 a10_1 a10_2 a11 a12 (IntKind.i64.wrap (a13 - 1)) a14 a15 a16 h10 else none) (byteK s_fdb5537d a1 fun y11 => nnK a12 fun b12 o13 => if 0 ≤ (IntKind.i64.wrap (a13 - 1)) ∧ (IntKind.i64.wrap (a13 - 1)) < ((65 : Nat) : Int) then wrK h b12 (o13 + ((IntKind.i64.wrap (a13 - 1))).toNat) 1 [(.int .u8 y11)] fun h14 => strconv_formatBits_J5 n a0_0 a0_1 a0_2 a3 a4 a10_0 a10_1 a10_2 a11 a12 (IntKind.i64.wrap (a13 - 1)) h14 else none) := (J_eq T.toTab n e_strconv_formatBits [1, 1, 1, 1, 1, 0, 1, 0, 1, 1, 1, 0, 0] [m1 + 1] _ h).trans (by kernel_rfl)
theorem strconv_formatBits_J5_eq (n : Nat) (a0_0 : Pt) (a0_1 : Nat) (a0_2 : Cap) (a3 a4 : Bool) (a10_0 : Pt) (a10_1 : Nat) (a10_2 : Cap) (a11 : Bs) (a12 : Pt) (a13 : Int) (h : H) : strconv_formatBits_J5 n a0_0 a0_1 a0_2 a3 a4 a10_0 a10_1 a10_2 a11 a12 a13 h = cond a3 (nnK a12 fun b23 o24 => if 0 ≤ (IntKind.i64.wrap (a13 - 1)) ∧ (IntKind.i64.wrap (a13 - 1)) < ((65 : Nat) : Int) then wrK h b23 (o24 + ((IntKind.i64.wrap (a13 - 1))).toNat) 1 [(.int .u8 45)] fun h25 => strconv_formatBits_J6 n a0_0 a0_1 a0_2 a4 a10_0 a10_1 a10_2 a11 a12 (IntKind.i64.wrap (a13 - 1)) h25 else none) (strconv_formatBits_J6 n a0_0 a0_1 a0_2 a4 a10_0 a10_1 a10_2 a11 a12 a13 h) := (J_eq T.toTab n e_strconv_formatBits [1, 1, 1, 1, 1, 1] [] _ h).trans (by kernel_rfl)
theorem strconv_formatBits_J6_eq (n : Nat) (a0_0 : Pt) (a0_1 : Nat) (a0_2 : Cap) (a4 : Bool) (a10_0 : Pt) (a10_1 : Nat) (a10_2 : Cap) (a11 : Bs) (a12 : Pt) (a13 : Int) (h : H) : strconv_formatBits_J6 n a0_0 a0_1 a0_2 a4 a10_0 a10_1 a10_2 a11 a12 a13 h = cond a4 (nnK a12 fun b26 o27 => bndK 65 65 0 (some (.int .i64 a13)) none none fun lo28 hi29 mx30 => appK 1 1 a0_0 a0_1 a0_2 (evSrc 1 (.slice (some (b26, (if mx30 = lo28 then o27 else o27 + lo28 * 1))) (hi29 - lo28) (.known (mx30 - lo28))) h) h fun p31 n32 c33 h34 => some ((.tup [(.slice p31 n32 c33), (.str a11)]), h34)) (nnK a12 fun b35 o36 => bndK 65 65 0 (some (.int .i64 a13)) none none fun lo37 hi38 mx39 => bsK h (.slice (some (b35, (if mx39 = lo37 then o36 else o36 + lo37 * 1))) (hi38 - lo37) (.known (mx39 - lo37))) fun s40 => some ((.tup [(.slice a10_0 a10_1 a10_2), (.str s40)]), h)) := (J_eq T.toTab n e_strconv_formatBits [1, 1, 1, 1, 1, 1, 1] [] _ h).trans (by kernel_rfl)
theorem strconv_formatBits_eq (n : Nat) (a0_0 : Pt) (a0_1 : Nat) (a0_2 : Cap) (a1 a2 : Int) (a3 a4 : Bool) (h : H) : ca (n + 1) i_strconv_formatBits [(.slice a0_0 a0_1 a0_2), (.int .u64 a1), (.int .i64 a2), (.bool a3), (.bool a4)] h = cond (decide (a2 < (2 : Int))) (strconv_formatBits_J0 n a0_0 a0_1 a0_2 a1 a2 a3 a4 none 0 (.known 0) (⟨#[]⟩ : ByteArray) true h) (cond ((a2 : Int) == (10 : Int)) (strconv_formatBits_J0 n a0_0 a0_1 a0_2 a1 a2 a3 a4 none 0 (.known 0) (⟨#[]⟩ : ByteArray) true h) (strconv_formatBits_J0 n a0_0 a0_1 a0_2 a1 a2 a3 a4 none 0 (.known 0) (⟨#[]⟩ : ByteArray) (decide (a2 > (36 : Int))) h)) := by kernel_rfl
noncomputable def config_parser_block_J0 (n : Nat) (a0 : Pt) (a1 : Option Nat) (a19 : Bool) (h : H) (kk : KK) : Option Unit := JR T n e_config_parser_block [1, 0, 0, 1] [] [(0, (.ptr a0)), (1, (.map a1)), (19, (.bool a19))] h kk
noncomputable def config_parser_block_L1 (n m1 : Nat) (a0 : Pt) (a1 a5 : Option Nat) (h : H) (kk : KK) : Option Unit := JR T n e_config_parser_block [1, 0, 1, 1, 1, 0, 0] [m1] [(0, (.ptr a0)), (1, (.map a1)), (5, (.map a5))] h kk
noncomputable def config_parser_block_L3 (n m1 : Nat) (a0 : Pt) (a5 : Option Nat) (a81 : Pt) (h : H) (kk : KK) : Option Unit := JR T n e_config_parser_block [1, 0, 1, 1, 1, 1, 0, 1, 0] [m1] [(0, (.ptr a0)), (5, (.map a5)), (81, (.ptr a81))] h kk
noncomputable def config_parser_block_J2 (n m1 : Nat) (a0 : Pt) (a1 a5 : Option Nat) (a6 : Int) (a7 : Bs) (a8 : Pt) (a40 : Bool) (h : H) (kk : KK) : Option Unit := JR T n e_config_parser_block [1, 0, 1, 1, 1, 0, 0, 0, 0, 1, 1, 0, 0, 1, 1, 1, 1, 1] [m1] [(0, (.ptr a0)), (1, (.map a1)), (5, (.map a5)), (6, (.int .i64 a6)), (7, (.str a7)), (8, (.ptr a8)), (40, (.bool a40))] h kk
noncomputable def config_parser_block_J4 (n m1 : Nat) (a0 : Pt) (a5 : Option Nat) (a81 : Pt) (a94 : Bool) (h : H) (kk : KK) : Option Unit := JR T n e_config_parser_block [1, 0, 1, 1, 1, 1, 0, 1, 0, 0, 1, 1, 0, 1, 1] [m1] [(0, (.ptr a0)), (5, (.map a5)), (81, (.ptr a81)), (94, (.bool a94))] h kk
theorem config_parser_block_J0_eq (n : Nat) (a0 : Pt) (a1 : Option Nat) (a19 : Bool) (h : H) (kk : KK) : config_parser_block_J0 n a0 a1 a19 h kk = cond a19 (kk (.bool false) h) (newK (.map [] 0) h fun i5 h6 => config_parser_block_L1 n n a0 a1 (some i5) h6 kk) := (JR_eq T n e_config_parser_block [1, 0, 0, 1] [] _ h kk).trans (by kernel_rfl)
theorem config_parser_block_L1_eq (n m1 : Nat) (a0 : Pt) (a1 a5 : Option Nat) (h : H) (kk : KK) : config_parser_block_L1 n (m1 + 1) a0 a1 a5 h kk = (ca n i_config_parser_place [(.ptr a0)] h).bind fun q7 => asInt .i64 q7.1 fun x8 => (ca n i_config_parser_peek [(.ptr a0)] q7.2).bind fun q9 => asStr q9.1 fun x10 => lookK (.agg [(.int .i64 0), (.bool false), .nilFunc]) a1 (.str x10) q9.2 fun v11 t12 => asAgg v11 fun l13 => lI l13 fun x15 l14 => lB l14 fun x17 l16 => lc l16 fun v19 l18 => l0 l18 (newK (.cells [(.int .i64 0), (.bool false), .nilFunc] false) q9.2 fun i20 h21 => wrK h21 i20 0 3 [(.int .i64 x15), (.bool x17), v19] fun h22 => cond (x10.toList == (⟨#[125]⟩ : ByteArray).toList) (rangeMK a1 h22 fun i23 h24 => config_parser_block_L3 n n a0 a5 (some (i23, 0)) h24 kk) (cond (!t12) ((ca n i_config_parser_fail [(.ptr a0), (.int .i64 x8), (.int .i64 180)] h22).bind fun q25 => asBool q25.1 fun x26 => kk (.bool x26) q25.2) (lookK (.int .i64 0) a5 (.str x10) h22 fun v27 t28 => asInt .i64 v27 fun x29 => cellK h22 i20 0 fun v30 => asInt .i64 v30 fun x31 => cond (decide (x29 ≥ x31)) (cellK h22 i20 0 fun v32 => asInt .i64 v32 fun x33 => config_parser_block_J2 n m1 a0 a1 a5 x8 x10 (some (i20, 0)) ((x33 : Int) == (1 : Int)) h22 kk) (config_parser_block_J2 n m1 a0 a1 a5 x8 x10 (some (i20, 0)) false h22 kk)))) := (JR_eq T n e_config_parser_block [1, 0, 1, 1, 1, 0, 0] [m1 + 1] _ h kk).trans (by kernel_rfl)
theorem config_parser_block_L3_eq (n m1 : Nat) (a0 : Pt) (a5 : Option Nat) (a81 : Pt) (h : H) (kk : KK) : config_parser_block_L3 n (m1 + 1) a0 a5 a81 h kk = nnK a81 fun b34 o35 => match o35 with | 0 => nextMK h b34 (fun u36 u37 h38 => nnK a81 fun b39 o40 => match o40 with | 0 => entryK h38 b39 fun u41 u42 => asStr u41 fun x43 => asAgg u42 fun l44 => lI l44 fun x46 l45 => lB l45 fun x48 l47 => lc l47 fun v50 l49 => l0 l49 (newK (.cells [(.int .i64 0), (.bool false), .nilFunc] false) h38 fun i51 h52 => wrK h52 i51 0 3 [(.int .i64 x46), (.bool x48), v50] fun h53 => cellK h53 i51 1 fun v54 => asBool v54 fun x55 => cond x55 (lookK (.int .i64 0) a5 (.str x43) h53 fun v56 t57 => asInt .i64 v56 fun x58 => config_parser_block_J4 n m1 a0 a5 a81 ((x58 : Int) == (0 : Int)) h53 kk) (config_parser_block_J4 n m1 a0 a5 a81 false h53 kk)) | _ => none) (nnK a0 fun b59 o60 => cellK h b59 (o60 + 2) fun v61 => asInt .i64 v61 fun x62 => nnK a0 fun b63 o64 => wrK h b63 (o64 + 2) 1 [(.int .i64 (IntKind.i64.wrap (x62 + 1)))] fun h65 => (ca n i_config_parser_must [(.ptr a0), (.str (⟨#[10]⟩ : ByteArray))] h65).bind fun q66 => asBool q66.1 fun x67 => kk (.bool x67) q66.2) | _ => none := (JR_eq T n e_config_parser_block [1, 0, 1, 1, 1, 1, 0, 1, 0] [m1 + 1] _ h kk).trans (by kernel_rfl)
theorem config_parser_block_J2_eq (n m1 : Nat) (a0 : Pt) (a1 a5 : Option Nat) (a6 : Int) (a7 : Bs) (a8 : Pt) (a40 : Bool) (h : H) (kk : KK) : config_parser_block_J2 n m1 a0 a1 a5 a6 a7 a8 a40 h kk = cond a40 ((ca n i_config_parser_fail [(.ptr a0), (.int .i64 a6), (.int .i64 181)] h).bind fun q68 => asBool q68.1 fun x69 => kk (.bool x69) q68.2) (lookK (.int .i64 0) a5 (.str a7) h fun v70 t71 => asInt .i64 v70 fun x72 => nnK a8 fun b73 o74 => cellK h b73 o74 fun v75 => asInt .i64 v75 fun x76 => cond (decide (x72 ≥ x76)) ((ca n i_config_parser_fail [(.ptr a0), (.int .i64 a6), (.int .i64 184)] h).bind fun q77 => asBool q77.1 fun x78 => kk (.bool x78) q77.2) (lookK (.int .i64 0) a5 (.str a7) h fun v79 t80 => asInt .i64 v79 fun x81 => putK a5 (.str a7) (.int .i64 (IntKind.i64.wrap (x81 + 1))) h fun h82 => nnK a0 fun b83 o84 => cellK h82 b83 (o84 + 2) fun v85 => asInt .i64 v85 fun x86 => nnK a0 fun b87 o88 => wrK h82 b87 (o88 + 2) 1 [(.int .i64 (IntKind.i64.wrap (x86 + 1)))] fun h89 => nnK a8 fun b90 o91 => cellK h89 b90 (o91 + 2) fun v92 => asFn v92 fun f94 x95 y96 => callU T n f94 (x95 ++ [] ++ y96) h89 fun v98 h99 => crF T.toTab f94 v98 fun v97 => asBool v97 fun x100 => cond (!x100) (kk (.bool false) h99) (config_parser_block_L1 n m1 a0 a1 a5 h99 kk))) := (JR_eq T n e_config_parser_block [1, 0, 1, 1, 1, 0, 0, 0, 0, 1, 1, 0, 0, 1, 1, 1, 1, 1] [m1] _ h kk).trans (by kernel_rfl)
theorem config_parser_block_J4_eq (n m1 : Nat) (a0 : Pt) (a5 : Option Nat) (a81 : Pt) (a94 : Bool) (h : H) (kk : KK) : config_parser_block_J4 n m1 a0 a5 a81 a94 h kk = cond a94 ((ca n i_config_parser_place [(.ptr a0)] h).bind fun q101 => asInt .i64 q101.1 fun x102 => (ca n i_config_parser_fail [(.ptr a0), (.int .i64 x102), (.int .i64 183)] q101.2).bind fun q103 => asBool q103.1 fun x104 => kk (.bool x104) q103.2) (config_parser_block_L3 n m1 a0 a5 a81 h kk) := (JR_eq T n e_config_parser_block [1, 0, 1, 1, 1, 1, 0, 1, 0, 0, 1, 1, 0, 1, 1] [m1] _ h kk).trans (by kernel_rfl)
theorem config_parser_block_eq (n : Nat) (a0 : Pt) (a1 : Option Nat) (h : H) (kk : KK) : cr (n + 1) i_config_parser_block [(.ptr a0), (.map a1)] h kk = (ca n i_config_parser_must [(.ptr a0), (.str (⟨#[123]⟩ : ByteArray))] h).bind fun q1 => asBool q1.1 fun x2 => cond (!x2) (config_parser_block_J0 n a0 a1 true q1.2 kk) ((ca n i_config_parser_must [(.ptr a0), (.str (⟨#[10]⟩ : ByteArray))] q1.2).bind fun q3 => asBool q3.1 fun x4 => config_parser_block_J0 n a0 a1 (!x4) q3.2 kk) := by kernel_rfl
noncomputable def strconv_FormatInt_2_J0 (n : Nat) (a0 : Int) (a17 : Bool) (h : H) : R := J T.toTab n e_strconv_FormatInt_2 [1, 0, 1, 0, 0, 1] [] [(0, (.int .i64 a0)), (17, (.bool a17))] h
theorem strconv_FormatInt_2_eq (n : Nat) (a0 a1 : Int) (h : H) : ca (n + 1) i_strconv_FormatInt_2 [(.int .i64 a0), (.int .i64 a1)] h = cond ((a1 : Int) == (10 : Int)) (cond (decide ((0 : Int) ≤ a0)) (strconv_FormatInt_2_J0 n a0 (decide (a0 < (100 : Int))) h) (strconv_FormatInt_2_J0 n a0 false h)) ((ca n i_strconv_formatBits [(.slice none 0 (.known 0)), (.int .u64 (IntKind.u64.wrap a0)), (.int .i64 a1), (.bool (decide (a0 < (0 : Int)))), (.bool false)] h).bind fun q1 => asTup q1.1 fun l2 => lL l2 fun x4 n5 c6 l3 => lS l3 fun x8 l7 => l0 l7 (some ((.str x8), q1.2))) := by kernel_rfl
theorem config_parser_vrrp_eq (n : Nat) (a0 : Pt) (h : H) (kk : KK) : cr (n + 1) i_config_parser_vrrp [(.ptr a0)] h kk = newK (.cells [(.int .i64 0)] false) h fun i1 h2 => wrK h2 i1 0 1 [(.int .i64 1)] fun h3 => newHK h3 fun i4 h5 => nnK a0 fun b6 o7 => (ca n i_config_parser_number [(.ptr a0), (.ptr (some (b6, ((o7 + 3) + 8)))), (.int .i64 1), (.int .i64 255)] h5).bind fun q8 => asFn q8.1 fun f9 x10 y11 => (ca n i_config_once [(.bool true), (.func f9 x10 y11)] q8.2).bind fun q12 => asAgg q12.1 fun l13 => lI l13 fun x15 l14 => lB l14 fun x17 l16 => lc l16 fun v19 l18 => l0 l18 (nnK a0 fun b20 o21 => (ca n i_config_parser_number [(.ptr a0), (.ptr (some (b20, ((o21 + 3) + 9)))), (.int .i64 1), (.int .i64 255)] q12.2).bind fun q22 => asFn q22.1 fun f23 x24 y25 => (ca n i_config_once [(.bool true), (.func f23 x24 y25)] q22.2).bind fun q26 => asAgg q26.1 fun l27 => lI l27 fun x29 l28 => lB l28 fun x31 l30 => lc l30 fun v33 l32 => l0 l32 (nnK a0 fun b34 o35 => (ca n i_config_parser_number [(.ptr a0), (.ptr (some (b34, ((o35 + 3) + 10)))), (.int .i64 1), (.int .i64 4095)] q26.2).bind fun q36 => asFn q36.1 fun f37 x38 y39 => (ca n i_config_once [(.bool true), (.func f37 x38 y39)] q36.2).bind fun q40 => asAgg q40.1 fun l41 => lI l41 fun x43 l42 => lB l42 fun x45 l44 => lc l44 fun v47 l46 => l0 l46 (newHK q40.2 fun i48 h49 => (ca n i_config_parser_choice [(.ptr a0), (.ptr (some (i1, 0))), (.map (some i48))] h49).bind fun q50 => asFn q50.1 fun f51 x52 y53 => (ca n i_config_once [(.bool false), (.func f51 x52 y53)] q50.2).bind fun q54 => asAgg q54.1 fun l55 => lI l55 fun x57 l56 => lB l56 fun x59 l58 => lc l58 fun v61 l60 => l0 l60 ((ca n i_config_parser_address [(.ptr a0), (.bool false), (.func i_config_parser_vip [(.ptr a0)] [])] q54.2).bind fun q62 => asFn q62.1 fun f63 x64 y65 => restK [i4, i48] [(i4, (.str (⟨#[105, 100]⟩ : ByteArray)), (.agg [(.int .i64 x15), (.bool x17), v19])), (i4, (.str (⟨#[112, 114, 105, 111, 114, 105, 116, 121]⟩ : ByteArray)), (.agg [(.int .i64 x29), (.bool x31), v33])), (i4, (.str (⟨#[101, 118, 101, 114, 121]⟩ : ByteArray)), (.agg [(.int .i64 x43), (.bool x45), v47])), (i48, (.str (⟨#[121, 101, 115]⟩ : ByteArray)), (.int .i64 1)), (i48, (.str (⟨#[110, 111]⟩ : ByteArray)), (.int .i64 0)), (i4, (.str (⟨#[112, 114, 101, 101, 109, 112, 116]⟩ : ByteArray)), (.agg [(.int .i64 x57), (.bool x59), v61])), (i4, (.str (⟨#[118, 105, 112]⟩ : ByteArray)), (.agg [(.int .i64 8), (.bool true), (.func f63 x64 y65)])), (i4, (.str (⟨#[116, 114, 97, 99, 107]⟩ : ByteArray)), (.agg [(.int .i64 8), (.bool false), (.func i_config_parser_track [(.ptr a0)] [])]))] q62.2 fun h66 => cr n i_config_parser_block [(.ptr a0), (.map (some i4))] h66 fun v68 h69 => asBool v68 fun x70 => cellK h69 i1 0 fun v71 => asInt .i64 v71 fun x72 => nnK a0 fun b73 o74 => wrK h69 b73 ((o74 + 3) + 11) 1 [(.bool ((x72 : Int) == (1 : Int)))] fun h75 => kk (.bool x70) h75)))) := by kernel_rfl
noncomputable def words_All_L0 (n m1 : Nat) (a0 : Bs) (a5 : Pt) (a13 a14 : Int) (h : H) : R := J T.toTab n e_words_All [1, 1, 0, 1, 0] [m1] [(0, (.str a0)), (5, (.ptr a5)), (13, (.int .i64 a13)), (14, (.int .i64 a14))] h
noncomputable def words_All_J1 (n m1 : Nat) (a0 : Bs) (a5 : Pt) (a6 a7 a13 a14 : Int) (a34 : Bool) (h : H) : R := J T.toTab n e_words_All [1, 1, 0, 1, 0, 0, 1, 1, 0, 0, 1, 1, 0, 1, 1, 1] [m1] [(0, (.str a0)), (5, (.ptr a5)), (6, (.int .i64 a6)), (7, (.int .i64 a7)), (13, (.int .i64 a13)), (14, (.int .i64 a14)), (34, (.bool a34))] h
theorem words_All_L0_eq (n m1 : Nat) (a0 : Bs) (a5 : Pt) (a13 a14 : Int) (h : H) : words_All_L0 n (m1 + 1) a0 a5 a13 a14 h = cond (decide (a14 < a13)) (nnK a5 fun b3 o4 => cellK h b3 (o4 + 3) fun v5 => asInt .i64 v5 fun x6 => cond ((a14 : Int) == (Nat.cast a0.size)) ((ca n i_words_reader_end [(.ptr a5), (.int .i64 a14)] h).bind fun q7 => asBool q7.1 fun x8 => cond (!x8) (some ((.tup [(.slice none 0 (.known 0)), (.int .i64 x6), (.int .i64 170)]), q7.2)) ((ca n i_words_reader_stop [(.ptr a5), (.int .i64 a14)] q7.2).bind fun q9 => asTup q9.1 fun l10 => l0 l10 (words_All_L0 n m1 a0 a5 a13 (IntKind.i64.wrap (a14 + 1)) q9.2))) (cond (decide (x6 ≥ (0 : Int))) (words_All_J1 n m1 a0 a5 a14 x6 a13 a14 (decide ((IntKind.i64.wrap (a14 - x6)) > (60 : Int))) h) (words_All_J1 n m1 a0 a5 a14 x6 a13 a14 false h))) (nnK a5 fun b11 o12 => cellK h b11 (o12 + 1) fun v13 => asSlice v13 fun x14 n15 c16 => some ((.tup [(.slice x14 n15 c16), (.int .i64 0), (.int .i64 0)]), h)) := (J_eq T.toTab n e_words_All [1, 1, 0, 1, 0] [m1 + 1] _ h).trans (by kernel_rfl)
theorem words_All_J1_eq (n m1 : Nat) (a0 : Bs) (a5 : Pt) (a6 a7 a13 a14 : Int) (a34 : Bool) (h : H) : words_All_J1 n m1 a0 a5 a6 a7 a13 a14 a34 h = cond a34 (some ((.tup [(.slice none 0 (.known 0)), (.int .i64 a7), (.int .i64 170)]), h)) (byteK a0 a6 fun y17 => (ca n i_words_may [(.int .u8 y17)] h).bind fun q18 => asBool q18.1 fun x19 => cond (!x19) (some ((.tup [(.slice none 0 (.known 0)), (.int .i64 a6), (.int .i64 170)]), q18.2)) (byteK a0 a6 fun y20 => (ca n i_words_reader_take [(.ptr a5), (.int .u8 y20), (.int .i64 a6)] q18.2).bind fun q21 => asBool q21.1 fun x22 => cond (!x22) (some ((.tup [(.slice none 0 (.known 0)), (.int .i64 a7), (.int .i64 170)]), q21.2)) (words_All_L0 n m1 a0 a5 a13 (IntKind.i64.wrap (a14 + 1)) q21.2))) := (J_eq T.toTab n e_words_All [1, 1, 0, 1, 0, 0, 1, 1, 0, 0, 1, 1, 0, 1, 1, 1] [m1] _ h).trans (by kernel_rfl)
theorem words_All_eq (n : Nat) (a0 : Bs) (h : H) : ca (n + 1) i_words_All [(.str a0)] h = newK (.cells [(.str a0), (.slice none 0 (.known 0)), (.int .i64 1), (.int .i64 (-1)), (.bool false), (.bool false)] false) h fun i1 h2 => words_All_L0 n n a0 (some (i1, 0)) (IntKind.i64.wrap ((Nat.cast a0.size) + 1)) 0 h2 := by kernel_rfl
theorem config_parser_address_1_eq (n : Nat) (a0 a1 a2 : Pt) (h : H) : ca (n + 1) i_config_parser_address_1 [(.ptr a0), (.ptr a1), (.ptr a2)] h = nnK a0 fun b1 o2 => cellK h b1 o2 fun v3 => asPtr v3 fun x4 => (ca n i_config_parser_value [(.ptr x4)] h).bind fun q5 => asTup q5.1 fun l6 => lS l6 fun x8 l7 => lI l7 fun x10 l9 => lB l9 fun x12 l11 => l0 l11 ((ca n i_words_Address [(.str x8)] q5.2).bind fun q13 => asTup q13.1 fun l14 => lS l14 fun x16 l15 => lB l15 fun x18 l17 => l0 l17 (cond (!x12) (some ((.bool false), q13.2)) (cond (!x18) (nnK a0 fun b19 o20 => cellK q13.2 b19 o20 fun v21 => asPtr v21 fun x22 => (ca n i_config_parser_fail [(.ptr x22), (.int .i64 x10), (.int .i64 182)] q13.2).bind fun q23 => asBool q23.1 fun x24 => some ((.bool x24), q23.2)) (nnK a0 fun b25 o26 => cellK q13.2 b25 o26 fun v27 => asPtr v27 fun x28 => nnK a0 fun b29 o30 => cellK q13.2 b29 o30 fun v31 => asPtr v31 fun x32 => nnK x32 fun b33 o34 => cellK q13.2 b33 (o34 + 18) fun v35 => asSlice v35 fun x36 n37 c38 => nnK a1 fun b39 o40 => cellK q13.2 b39 o40 fun v41 => asBool v41 fun x42 => newK (.cells [(.str x16), (.int .i64 x10), (.bool x42)] false) q13.2 fun i43 h44 => appK 3 32 x36 n37 c38 (evSrc 3 (.slice (some (i43, 0)) 1 (.known 1)) h44) h44 fun p45 n46 c47 h48 => sameK h44 h48 (blkP a0) (nnK x28 fun b49 o50 => wrK h48 b49 (o50 + 18) 1 [(.slice p45 n46 c47)] fun h51 => nnK a2 fun b52 o53 => cellK h51 b52 o53 fun v54 => asFn v54 fun f56 x57 y58 => (ca n f56 (x57 ++ [(.str x16), (.int .i64 x10)] ++ y58) h51).bind fun q55 => crF T.toTab f56 q55.1 fun v59 => asBool v59 fun x60 => cond x60 (nnK a0 fun b61 o62 => cellK q55.2 b61 o62 fun v63 => asPtr v63 fun x64 => (ca n i_config_parser_must [(.ptr x64), (.str (⟨#[10]⟩ : ByteArray))] q55.2).bind fun q65 => asBool q65.1 fun x66 => some ((.bool x66), q65.2)) (some ((.bool false), q55.2))))))) := by kernel_rfl
noncomputable def words_CardText_L0 (n m1 : Nat) (a3_0 : Pt) (a3_1 : Nat) (a3_2 : Cap) (a6 : List AV) (a7 : Int) (h : H) : R := J T.toTab n e_words_CardText [1, 1, 0, 1, 0] [m1] [(3, (.slice a3_0 a3_1 a3_2)), (6, (.agg a6)), (7, (.int .i64 a7))] h
theorem words_CardText_L0_eq (n m1 : Nat) (a3_0 : Pt) (a3_1 : Nat) (a3_2 : Cap) (a6 : List AV) (a7 : Int) (h : H) : words_CardText_L0 n (m1 + 1) a3_0 a3_1 a3_2 a6 a7 h = cond (decide (a7 < (6 : Int))) (if 0 ≤ a7 ∧ a7 < ((6 : Nat) : Int) then atK a6 (0 + a7.toNat) fun v4 => asInt .u8 v4 fun x5 => bndK s_68c4f033.size s_68c4f033.size 0 (some (.int .u8 (ishr .u8 x5 4))) (some (.int .u8 (IntKind.u8.wrap ((ishr .u8 x5 4) + 1)))) none fun lo6 hi7 mx8 => bndK s_68c4f033.size s_68c4f033.size 0 (some (.int .u8 (iand .u8 x5 15))) (some (.int .u8 (IntKind.u8.wrap ((iand .u8 x5 15) + 1)))) none fun lo9 hi10 mx11 => catK (s_68c4f033.extract lo6 hi7) (s_68c4f033.extract lo9 hi10) fun s12 => newK (.cells [(.str s12)] false) h fun i13 h14 => appK 1 16 a3_0 a3_1 a3_2 (evSrc 1 (.slice (some (i13, 0)) 1 (.known 1)) h14) h14 fun p15 n16 c17 h18 => words_CardText_L0 n m1 p15 n16 c17 a6 (IntKind.i64.wrap (a7 + 1)) h18 else none) ((ca n i_strings_Join [(.slice a3_0 a3_1 a3_2), (.str (⟨#[58]⟩ : ByteArray))] h).bind fun q19 => asStr q19.1 fun x20 => some ((.str x20), q19.2)) := (J_eq T.toTab n e_words_CardText [1, 1, 0, 1, 0] [m1 + 1] _ h).trans (by kernel_rfl)
theorem words_CardText_eq (n : Nat) (a0 : List AV) (h : H) : ca (n + 1) i_words_CardText [(.agg a0)] h = newK (.cells a0 false) h fun i1 h2 => aggK h2 i1 0 6 fun l3 => words_CardText_L0 n n none 0 (.known 0) l3 0 h2 := by kernel_rfl
noncomputable def words_Card_J0 (n : Nat) (a2 a4_0 : Pt) (a4_1 : Nat) (a4_2 : Cap) (a17 : Bool) (h : H) : R := J T.toTab n e_words_Card [1, 1, 0, 1] [] [(2, (.ptr a2)), (4, (.slice a4_0 a4_1 a4_2)), (17, (.bool a17))] h
theorem words_Card_J0_eq (n : Nat) (a2 a4_0 : Pt) (a4_1 : Nat) (a4_2 : Cap) (a17 : Bool) (h : H) : words_Card_J0 n a2 a4_0 a4_1 a4_2 a17 h = cond a17 (nnK a2 fun b11 o12 => wrK h b11 o12 6 [(.int .u8 0), (.int .u8 0), (.int .u8 0), (.int .u8 0), (.int .u8 0), (.int .u8 0)] fun h13 => nnK a2 fun b14 o15 => aggK h13 b14 o15 6 fun l16 => some ((.tup [(.agg l16), (.bool false)]), h13)) (if 6 ≤ a4_1 ∧ 0 < a4_1 then nnK a4_0 fun b17 o18 => aggK h b17 o18 6 fun l19 => nnK a2 fun b20 o21 => wrK h b20 o21 6 l19 fun h22 => nnK a2 fun b23 o24 => aggK h22 b23 o24 6 fun l25 => some ((.tup [(.agg l25), (.bool true)]), h22) else none) := (J_eq T.toTab n e_words_Card [1, 1, 0, 1] [] _ h).trans (by kernel_rfl)
theorem words_Card_eq (n : Nat) (a0 : Bs) (h : H) : ca (n + 1) i_words_Card [(.str a0)] h = newK (.cells [(.int .u8 0), (.int .u8 0), (.int .u8 0), (.int .u8 0), (.int .u8 0), (.int .u8 0)] false) h fun i1 h2 => (ca n i_words_groups [(.str a0), (.str (⟨#[58]⟩ : ByteArray)), (.int .i64 1), (.func i_words_Card_1 [] [])] h2).bind fun q3 => asTup q3.1 fun l4 => lL l4 fun x6 n7 c8 l5 => lB l5 fun x10 l9 => l0 l9 (cond (!x10) (words_Card_J0 n (some (i1, 0)) x6 n7 c8 true q3.2) (words_Card_J0 n (some (i1, 0)) x6 n7 c8 (((Nat.cast n7) : Int) != (6 : Int)) q3.2)) := by kernel_rfl
noncomputable def strings_Count_L0 (n m1 : Nat) (a0 a1 : Bs) (a5 : Int) (h : H) : R := J T.toTab n e_strings_Count [1, 1, 1, 1, 0] [m1] [(0, (.str a0)), (1, (.str a1)), (5, (.int .i64 a5))] h
theorem strings_Count_eq (n : Nat) (a0 a1 : Bs) (h : H) : ca (n + 1) i_strings_Count [(.str a0), (.str a1)] h = cond (((Nat.cast a1.size) : Int) == (0 : Int)) ((ca n i_utf8_RuneCountInString [(.str a0)] h).bind fun q1 => asInt .i64 q1.1 fun x2 => some ((.int .i64 (IntKind.i64.wrap (x2 + 1))), q1.2)) (cond (((Nat.cast a1.size) : Int) == (1 : Int)) (byteK a1 0 fun y3 => (ca n i_bytealg_CountString [(.str a0), (.int .u8 y3)] h).bind fun q4 => asInt .i64 q4.1 fun x5 => some ((.int .i64 x5), q4.2)) (strings_Count_L0 n n a0 a1 0 h)) := by kernel_rfl
noncomputable def stringslite_Index_J0 (n : Nat) (a0 a1 : Bs) (a5 : Int) (a16 : Bool) (h : H) : R := J T.toTab n e_stringslite_Index [1, 1, 0, 0, 1] [] [(0, (.str a0)), (1, (.str a1)), (5, (.int .i64 a5)), (16, (.bool a16))] h
theorem stringslite_Index_J0_eq (n : Nat) (a0 a1 : Bs) (a5 : Int) (a16 : Bool) (h : H) : stringslite_Index_J0 n a0 a1 a5 a16 h = cond a16 (some ((.int .i64 0), h)) (cond ((a5 : Int) == (1 : Int)) (byteK a1 0 fun y1 => (ca n i_stringslite_IndexByte [(.str a0), (.int .u8 y1)] h).bind fun q2 => asInt .i64 q2.1 fun x3 => some ((.int .i64 x3), q2.2)) (cond (decide (a5 ≥ (Nat.cast a0.size))) (some ((.int .i64 (-1)), h)) (none))) := (J_eq T.toTab n e_stringslite_Index [1, 1, 0, 0, 1] [] _ h).trans (by kernel_rfl)
theorem stringslite_Index_eq (n : Nat) (a0 a1 : Bs) (h : H) : ca (n + 1) i_stringslite_Index [(.str a0), (.str a1)] h = cond (((Nat.cast a1.size) : Int) == (0 : Int)) (stringslite_Index_J0 n a0 a1 (Nat.cast a1.size) true h) (stringslite_Index_J0 n a0 a1 (Nat.cast a1.size) (a1.toList == a0.toList) h) := by kernel_rfl
theorem config_parser_vip_eq (n : Nat) (a0 : Pt) (a1 : Bs) (a2 : Int) (h : H) : ca (n + 1) i_config_parser_vip [(.ptr a0), (.str a1), (.int .i64 a2)] h = nnK a0 fun b1 o2 => cellK h b1 ((o2 + 3) + 12) fun v3 => asSlice v3 fun x4 n5 c6 => (ca n i_api_Addr [(.slice x4 n5 c6), (.str a1)] h).bind fun q7 => asBool q7.1 fun x8 => cond x8 ((ca n i_config_parser_fail [(.ptr a0), (.int .i64 a2), (.int .i64 181)] q7.2).bind fun q9 => asBool q9.1 fun x10 => some ((.bool x10), q9.2)) (nnK a0 fun b11 o12 => cellK q7.2 b11 ((o12 + 3) + 12) fun v13 => asSlice v13 fun x14 n15 c16 => newK (.cells [(.str a1)] false) q7.2 fun i17 h18 => appK 1 16 x14 n15 c16 (evSrc 1 (.slice (some (i17, 0)) 1 (.known 1)) h18) h18 fun p19 n20 c21 h22 => nnK a0 fun b23 o24 => wrK h22 b23 ((o24 + 3) + 12) 1 [(.slice p19 n20 c21)] fun h25 => some ((.bool true), h25)) := by kernel_rfl
theorem config_parser_must_eq (n : Nat) (a0 : Pt) (a1 : Bs) (h : H) : ca (n + 1) i_config_parser_must [(.ptr a0), (.str a1)] h = (ca n i_config_parser_peek [(.ptr a0)] h).bind fun q1 => asStr q1.1 fun x2 => cond (!(x2.toList == a1.toList)) ((ca n i_config_parser_place [(.ptr a0)] q1.2).bind fun q3 => asInt .i64 q3.1 fun x4 => (ca n i_config_parser_fail [(.ptr a0), (.int .i64 x4), (.int .i64 180)] q3.2).bind fun q5 => asBool q5.1 fun x6 => some ((.bool x6), q5.2)) (nnK a0 fun b7 o8 => cellK q1.2 b7 (o8 + 2) fun v9 => asInt .i64 v9 fun x10 => nnK a0 fun b11 o12 => wrK q1.2 b11 (o12 + 2) 1 [(.int .i64 (IntKind.i64.wrap (x10 + 1)))] fun h13 => some ((.bool true), h13)) := by kernel_rfl
theorem config_parser_fail_eq (n : Nat) (a0 : Pt) (a1 a2 : Int) (h : H) : ca (n + 1) i_config_parser_fail [(.ptr a0), (.int .i64 a1), (.int .i64 a2)] h = nnK a0 fun b1 o2 => cellK h b1 (o2 + 20) fun v3 => asInt .i64 v3 fun x4 => cond ((x4 : Int) == (0 : Int)) (nnK a0 fun b5 o6 => wrK h b5 (o6 + 19) 1 [(.int .i64 a1)] fun h7 => nnK a0 fun b8 o9 => wrK h7 b8 (o9 + 20) 1 [(.int .i64 a2)] fun h10 => some ((.bool false), h10)) (some ((.bool false), h)) := by kernel_rfl
theorem config_once_eq (n : Nat) (a0 : Bool) (a1_0 : Nat) (a1_1 a1_2 : List AV) (h : H) : ca (n + 1) i_config_once [(.bool a0), (.func a1_0 a1_1 a1_2)] h = newK (.cells [(.int .i64 0), (.bool false), .nilFunc] false) h fun i1 h2 => wrK h2 i1 0 3 [(.int .i64 1), (.bool a0), (.func a1_0 a1_1 a1_2)] fun h3 => aggK h3 i1 0 3 fun l4 => lI l4 fun x6 l5 => lB l5 fun x8 l7 => lc l7 fun v10 l9 => l0 l9 (some ((.agg [(.int .i64 x6), (.bool x8), v10]), h3)) := by kernel_rfl
theorem stringslite_HasPrefix_eq (n : Nat) (a0 a1 : Bs) (h : H) : ca (n + 1) i_stringslite_HasPrefix [(.str a0), (.str a1)] h = cond (decide (((Nat.cast a0.size) : Int) ≥ (Nat.cast a1.size))) (bndK a0.size a0.size 0 none (some (.int .i64 (Nat.cast a1.size))) none fun lo1 hi2 mx3 => some ((.bool ((a0.extract lo1 hi2).toList == a1.toList)), h)) (some ((.bool false), h)) := by kernel_rfl
theorem api_Addr_eq (n : Nat) (a0_0 : Pt) (a0_1 : Nat) (a0_2 : Cap) (a1 : Bs) (h : H) : ca (n + 1) i_api_Addr [(.slice a0_0 a0_1 a0_2), (.str a1)] h = (ca n i_api_Addr_2 [(.slice a0_0 a0_1 a0_2), (.str a1)] h).bind fun q1 => asInt .i64 q1.1 fun x2 => some ((.bool (decide (x2 ≥ (0 : Int)))), q1.2) := by kernel_rfl
theorem words_Card_1_eq (n : Nat) (a0 : Bs) (h : H) : ca (n + 1) i_words_Card_1 [(.str a0)] h = (ca n i_words_hex [(.str a0), (.int .i64 2), (.int .i64 2)] h).bind fun q1 => asTup q1.1 fun l2 => lI l2 fun x4 l3 => lB l3 fun x6 l5 => l0 l5 (some ((.tup [(.int .i64 x4), (.bool x6)]), q1.2)) := by kernel_rfl
theorem strings_Builder_WriteString_eq (n : Nat) (a0 : Pt) (a1 : Bs) (h : H) : ca (n + 1) i_strings_Builder_WriteString [(.ptr a0), (.str a1)] h = (strings_Builder_WriteString_31 n a0 a1 h).bind fun r => some ((.tup [(.int .i64 r.1.1), r.1.2]), r.2) := by kernel_rfl
theorem bits_TrailingZeros_eq (n : Nat) (a0 : Int) (h : H) : ca (n + 1) i_bits_TrailingZeros [(.int .u64 a0)] h = (ca n i_bits_TrailingZeros64 [(.int .u64 a0)] h).bind fun q1 => asInt .i64 q1.1 fun x2 => some ((.int .i64 x2), q1.2) := by kernel_rfl
theorem config_into_eq (n : Nat) (a0 : Pt) (h : H) : ca (n + 1) i_config_into [(.ptr a0)] h = newK (.cells [(.ptr a0)] false) h fun i1 h2 => some ((.func i_config_into_1 [] [(.ptr (some (i1, 0)))]), h2) := by kernel_rfl
end Go.Ev.Tryd

/- What the functions compute, printed by evprint2.py. -/
set_option maxRecDepth 100000
set_option linter.all false
namespace Go.Ev.Tryd
open Go.Proofs
noncomputable def config_parser_all_L0 (n m1 : Nat) (a0 : Pt) (a3 a4 : Option Nat) (h : H) (kk : KK) : Option Unit := JR T n e_config_parser_all [1, 1, 1, 0, 0] [m1] [(0, (.ptr a0)), (3, (.map a3)), (4, (.map a4))] h kk
noncomputable def config_parser_all_J1 (n m1 : Nat) (a0 : Pt) (a3 a4 : Option Nat) (a5 : Int) (a6 : Bs) (a7 : Pt) (a51 : Bool) (h : H) (kk : KK) : Option Unit := JR T n e_config_parser_all [1, 1, 1, 0, 0, 0, 1, 0, 1, 1, 0, 0, 1, 1, 1] [m1] [(0, (.ptr a0)), (3, (.map a3)), (4, (.map a4)), (5, (.int .i64 a5)), (6, (.str a6)), (7, (.ptr a7)), (51, (.bool a51))] h kk
noncomputable def config_parser_all_J2 (n : Nat) (a0 : Pt) (a98 : Bool) (h : H) (kk : KK) : Option Unit := JR T n e_config_parser_all [1, 1, 1, 1, 0, 1] [] [(0, (.ptr a0)), (98, (.bool a98))] h kk
noncomputable def config_parser_all_L3 (n m1 : Nat) (a0 a109_0 : Pt) (a109_1 : Nat) (a109_2 : Cap) (a110 a111 : Int) (h : H) (kk : KK) : Option Unit := JR T n e_config_parser_all [1, 1, 1, 1, 1, 0, 1, 0] [m1] [(0, (.ptr a0)), (109, (.slice a109_0 a109_1 a109_2)), (110, (.int .i64 a110)), (111, (.int .i64 a111))] h kk
noncomputable def config_parser_all_L4 (n m1 : Nat) (a0 a133_0 : Pt) (a133_1 : Nat) (a133_2 : Cap) (a134 a135 : Int) (h : H) (kk : KK) : Option Unit := JR T n e_config_parser_all [1, 1, 1, 1, 1, 1, 0, 1, 0] [m1] [(0, (.ptr a0)), (133, (.slice a133_0 a133_1 a133_2)), (134, (.int .i64 a134)), (135, (.int .i64 a135))] h kk
noncomputable def config_parser_all_J5 (n m1 : Nat) (a0 a12 a133_0 : Pt) (a133_1 : Nat) (a133_2 : Cap) (a134 a135 : Int) (a151 : Bool) (h : H) (kk : KK) : Option Unit := JR T n e_config_parser_all [1, 1, 1, 1, 1, 1, 0, 1, 0, 0, 1, 1, 0, 0, 1, 1] [m1] [(0, (.ptr a0)), (12, (.ptr a12)), (133, (.slice a133_0 a133_1 a133_2)), (134, (.int .i64 a134)), (135, (.int .i64 a135)), (151, (.bool a151))] h kk
theorem config_parser_all_L0_eq (n m1 : Nat) (a0 : Pt) (a3 a4 : Option Nat) (h : H) (kk : KK) : config_parser_all_L0 n (m1 + 1) a0 a3 a4 h kk = nnK a0 fun b24 o25 => cellK h b24 (o25 + 2) fun v26 => asInt .i64 v26 fun x27 => nnK a0 fun b28 o29 => cellK h b28 (o29 + 1) fun v30 => asSlice v30 fun x31 n32 c33 => cond (decide (x27 < (Nat.cast n32))) ((ca n i_config_parser_place [(.ptr a0)] h).bind fun q34 => asInt .i64 q34.1 fun x35 => (ca n i_config_parser_peek [(.ptr a0)] q34.2).bind fun q36 => asStr q36.1 fun x37 => lookK (.agg [(.int .i64 0), (.bool false), .nilFunc]) a3 (.str x37) q36.2 fun v38 t39 => asAgg v38 fun l40 => lI l40 fun x42 l41 => lB l41 fun x44 l43 => lc l43 fun v46 l45 => l0 l45 (newK (.cells [(.int .i64 0), (.bool false), .nilFunc] false) q36.2 fun i47 h48 => wrK h48 i47 0 3 [(.int .i64 x42), (.bool x44), v46] fun h49 => cond (!t39) ((ca n i_config_parser_fail [(.ptr a0), (.int .i64 x35), (.int .i64 180)] h49).bind fun q50 => asBool q50.1 fun x51 => kk (.bool x51) q50.2) (lookK (.int .i64 0) a4 (.str x37) h49 fun v52 t53 => asInt .i64 v52 fun x54 => cellK h49 i47 0 fun v55 => asInt .i64 v55 fun x56 => cond (decide (x54 ≥ x56)) (cellK h49 i47 0 fun v57 => asInt .i64 v57 fun x58 => config_parser_all_J1 n m1 a0 a3 a4 x35 x37 (some (i47, 0)) ((x58 : Int) == (1 : Int)) h49 kk) (config_parser_all_J1 n m1 a0 a3 a4 x35 x37 (some (i47, 0)) false h49 kk)))) (lookK (.int .i64 0) a4 (.str (⟨#[110, 111, 100, 101]⟩ : ByteArray)) h fun v59 t60 => asInt .i64 v59 fun x61 => cond ((x61 : Int) == (0 : Int)) (config_parser_all_J2 n a0 true h kk) (lookK (.int .i64 0) a4 (.str (⟨#[118, 114, 114, 112]⟩ : ByteArray)) h fun v62 t63 => asInt .i64 v62 fun x64 => config_parser_all_J2 n a0 ((x64 : Int) == (0 : Int)) h kk)) := (JR_eq T n e_config_parser_all [1, 1, 1, 0, 0] [m1 + 1] _ h kk).trans (by kernel_rfl)
theorem config_parser_all_J1_eq (n m1 : Nat) (a0 : Pt) (a3 a4 : Option Nat) (a5 : Int) (a6 : Bs) (a7 : Pt) (a51 : Bool) (h : H) (kk : KK) : config_parser_all_J1 n m1 a0 a3 a4 a5 a6 a7 a51 h kk = cond a51 ((ca n i_config_parser_fail [(.ptr a0), (.int .i64 a5), (.int .i64 181)] h).bind fun q65 => asBool q65.1 fun x66 => kk (.bool x66) q65.2) (lookK (.int .i64 0) a4 (.str a6) h fun v67 t68 => asInt .i64 v67 fun x69 => nnK a7 fun b70 o71 => cellK h b70 o71 fun v72 => asInt .i64 v72 fun x73 => cond (decide (x69 ≥ x73)) ((ca n i_config_parser_fail [(.ptr a0), (.int .i64 a5), (.int .i64 184)] h).bind fun q74 => asBool q74.1 fun x75 => kk (.bool x75) q74.2) (lookK (.int .i64 0) a4 (.str a6) h fun v76 t77 => asInt .i64 v76 fun x78 => putK a4 (.str a6) (.int .i64 (IntKind.i64.wrap (x78 + 1))) h fun h79 => nnK a0 fun b80 o81 => cellK h79 b80 (o81 + 2) fun v82 => asInt .i64 v82 fun x83 => nnK a0 fun b84 o85 => wrK h79 b84 (o85 + 2) 1 [(.int .i64 (IntKind.i64.wrap (x83 + 1)))] fun h86 => nnK a7 fun b87 o88 => cellK h86 b87 (o88 + 2) fun v89 => asFn v89 fun f91 x92 y93 => callU T n f91 (x92 ++ [] ++ y93) h86 fun v95 h96 => crF T.toTab f91 v95 fun v94 => asBool v94 fun x97 => cond (!x97) (kk (.bool false) h96) (config_parser_all_L0 n m1 a0 a3 a4 h96 kk))) := (JR_eq T n e_config_parser_all [1, 1, 1, 0, 0, 0, 1, 0, 1, 1, 0, 0, 1, 1, 1] [m1] _ h kk).trans (by kernel_rfl)
theorem config_parser_all_J2_eq (n : Nat) (a0 : Pt) (a98 : Bool) (h : H) (kk : KK) : config_parser_all_J2 n a0 a98 h kk = cond a98 (nnK a0 fun b98 o99 => cellK h b98 o99 fun v100 => asStr v100 fun x101 => (ca n i_config_parser_fail [(.ptr a0), (.int .i64 (Nat.cast x101.size)), (.int .i64 183)] h).bind fun q102 => asBool q102.1 fun x103 => kk (.bool x103) q102.2) (nnK a0 fun b104 o105 => cellK h b104 (o105 + 18) fun v106 => asSlice v106 fun x107 n108 c109 => config_parser_all_L3 n n a0 x107 n108 c109 (Nat.cast n108) 0 h kk) := (JR_eq T n e_config_parser_all [1, 1, 1, 1, 0, 1] [] _ h kk).trans (by kernel_rfl)
theorem config_parser_all_L3_eq (n m1 : Nat) (a0 a109_0 : Pt) (a109_1 : Nat) (a109_2 : Cap) (a110 a111 : Int) (h : H) (kk : KK) : config_parser_all_L3 n (m1 + 1) a0 a109_0 a109_1 a109_2 a110 a111 h kk = cond (decide (a111 < a110)) (if 0 ≤ (a111 : Int) ∧ a111 < (Nat.cast (a109_1) : Int) then nnK a109_0 fun b110 o111 => aggK h b110 (o111 + a111.toNat * 3) 3 fun l112 => lS l112 fun x114 l113 => lI l113 fun x116 l115 => lB l115 fun x118 l117 => l0 l117 (newK (.cells [(.str .empty), (.int .i64 0), (.bool false)] false) h fun i119 h120 => wrK h120 i119 0 3 [(.str x114), (.int .i64 x116), (.bool x118)] fun h121 => cellK h121 i119 0 fun v122 => asStr v122 fun x123 => nnK a0 fun b124 o125 => cellK h121 b124 ((o125 + 3) + 6) fun v126 => asStr v126 fun x127 => cond (((Nat.cast x123.size) : Int) != (Nat.cast x127.size)) (cellK h121 i119 1 fun v128 => asInt .i64 v128 fun x129 => (ca n i_config_parser_fail [(.ptr a0), (.int .i64 x129), (.int .i64 182)] h121).bind fun q130 => asBool q130.1 fun x131 => kk (.bool x131) q130.2) (config_parser_all_L3 n m1 a0 a109_0 a109_1 a109_2 a110 (IntKind.i64.wrap (a111 + 1)) h121 kk)) else none) (nnK a0 fun b132 o133 => cellK h b132 (o133 + 18) fun v134 => asSlice v134 fun x135 n136 c137 => config_parser_all_L4 n n a0 x135 n136 c137 (Nat.cast n136) 0 h kk) := (JR_eq T n e_config_parser_all [1, 1, 1, 1, 1, 0, 1, 0] [m1 + 1] _ h kk).trans (by kernel_rfl)
theorem config_parser_all_L4_eq (n m1 : Nat) (a0 a133_0 : Pt) (a133_1 : Nat) (a133_2 : Cap) (a134 a135 : Int) (h : H) (kk : KK) : config_parser_all_L4 n (m1 + 1) a0 a133_0 a133_1 a133_2 a134 a135 h kk = cond (decide (a135 < a134)) (if 0 ≤ (a135 : Int) ∧ a135 < (Nat.cast (a133_1) : Int) then nnK a133_0 fun b138 o139 => aggK h b138 (o139 + a135.toNat * 3) 3 fun l140 => lS l140 fun x142 l141 => lI l141 fun x144 l143 => lB l143 fun x146 l145 => l0 l145 (newK (.cells [(.str .empty), (.int .i64 0), (.bool false)] false) h fun i147 h148 => wrK h148 i147 0 3 [(.str x142), (.int .i64 x144), (.bool x146)] fun h149 => cellK h149 i147 2 fun v150 => asBool v150 fun x151 => cond x151 (nnK a0 fun b152 o153 => cellK h149 b152 ((o153 + 3) + 12) fun v154 => asSlice v154 fun x155 n156 c157 => cellK h149 i147 0 fun v158 => asStr v158 fun x159 => (ca n i_api_Addr [(.slice x155 n156 c157), (.str x159)] h149).bind fun q160 => asBool q160.1 fun x161 => config_parser_all_J5 n m1 a0 (some (i147, 0)) a133_0 a133_1 a133_2 a134 a135 (!x161) q160.2 kk) (config_parser_all_J5 n m1 a0 (some (i147, 0)) a133_0 a133_1 a133_2 a134 a135 false h149 kk)) else none) (kk (.bool true) h) := (JR_eq T n e_config_parser_all [1, 1, 1, 1, 1, 1, 0, 1, 0] [m1 + 1] _ h kk).trans (by kernel_rfl)
theorem config_parser_all_J5_eq (n m1 : Nat) (a0 a12 a133_0 : Pt) (a133_1 : Nat) (a133_2 : Cap) (a134 a135 : Int) (a151 : Bool) (h : H) (kk : KK) : config_parser_all_J5 n m1 a0 a12 a133_0 a133_1 a133_2 a134 a135 a151 h kk = cond a151 (nnK a12 fun b162 o163 => cellK h b162 (o163 + 1) fun v164 => asInt .i64 v164 fun x165 => (ca n i_config_parser_fail [(.ptr a0), (.int .i64 x165), (.int .i64 182)] h).bind fun q166 => asBool q166.1 fun x167 => kk (.bool x167) q166.2) (config_parser_all_L4 n m1 a0 a133_0 a133_1 a133_2 a134 (IntKind.i64.wrap (a135 + 1)) h kk) := (JR_eq T n e_config_parser_all [1, 1, 1, 1, 1, 1, 0, 1, 0, 0, 1, 1, 0, 0, 1, 1] [m1] _ h kk).trans (by kernel_rfl)
theorem config_parser_all_eq (n : Nat) (a0 : Pt) (h : H) (kk : KK) : cr (n + 1) i_config_parser_all [(.ptr a0)] h kk = newK (.map [] 0) h fun i1 h2 => (ca n i_config_once [(.bool true), (.func i_config_parser_node [(.ptr a0)] [])] h2).bind fun q3 => asAgg q3.1 fun l4 => lI l4 fun x6 l5 => lB l5 fun x8 l7 => lc l7 fun v10 l9 => l0 l9 (putK (some i1) (.str (⟨#[110, 111, 100, 101]⟩ : ByteArray)) (.agg [(.int .i64 x6), (.bool x8), v10]) q3.2 fun h11 => (ca n i_config_once [(.bool true), (.func i_config_parser_vrrp [(.ptr a0)] [])] h11).bind fun q12 => asAgg q12.1 fun l13 => lI l13 fun x15 l14 => lB l14 fun x17 l16 => lc l16 fun v19 l18 => l0 l18 (putK (some i1) (.str (⟨#[118, 114, 114, 112]⟩ : ByteArray)) (.agg [(.int .i64 x15), (.bool x17), v19]) q12.2 fun h20 => putK (some i1) (.str (⟨#[115, 101, 114, 118, 105, 99, 101]⟩ : ByteArray)) (.agg [(.int .i64 4), (.bool false), (.func i_config_parser_service [(.ptr a0)] [])]) h20 fun h21 => newK (.map [] 0) h21 fun i22 h23 => config_parser_all_L0 n n a0 (some i1) (some i22) h23 kk)) := by kernel_rfl
noncomputable def config_parser_backend_L0 (n m1 : Nat) (a0 a1 a5_0 : Pt) (a5_1 : Nat) (a5_2 : Cap) (a15_0 : Pt) (a15_1 : Nat) (a15_2 : Cap) (a16 a17 : Int) (h : H) (kk : KK) : Option Unit := JR T n e_config_parser_backend [1, 1, 0, 1, 0] [m1] [(0, (.ptr a0)), (1, (.ptr a1)), (5, (.slice a5_0 a5_1 a5_2)), (15, (.slice a15_0 a15_1 a15_2)), (16, (.int .i64 a16)), (17, (.int .i64 a17))] h kk
theorem config_parser_backend_L0_eq (n m1 : Nat) (a0 a1 a5_0 : Pt) (a5_1 : Nat) (a5_2 : Cap) (a15_0 : Pt) (a15_1 : Nat) (a15_2 : Cap) (a16 a17 : Int) (h : H) (kk : KK) : config_parser_backend_L0 n (m1 + 1) a0 a1 a5_0 a5_1 a5_2 a15_0 a15_1 a15_2 a16 a17 h kk = cond (decide (a17 < a16)) (if 0 ≤ (a17 : Int) ∧ a17 < (Nat.cast (a15_1) : Int) then nnK a15_0 fun b7 o8 => aggK h b7 (o8 + a17.toNat * 10) 10 fun l9 => newK (.cells [(.str .empty), (.str .empty), (.int .u8 0), (.int .u8 0), (.int .u8 0), (.int .u8 0), (.int .u8 0), (.int .u8 0), (.int .i64 0), (.int .i64 0)] false) h fun i10 h11 => wrK h11 i10 0 10 l9 fun h12 => cellK h12 i10 0 fun v13 => asStr v13 fun x14 => newK (.cells [(.str x14)] false) h12 fun i15 h16 => appK 1 16 a5_0 a5_1 a5_2 (evSrc 1 (.slice (some (i15, 0)) 1 (.known 1)) h16) h16 fun p17 n18 c19 h20 => config_parser_backend_L0 n m1 a0 a1 p17 n18 c19 a15_0 a15_1 a15_2 a16 (IntKind.i64.wrap (a17 + 1)) h20 kk else none) ((ca n i_config_parser_named [(.ptr a0), (.slice a5_0 a5_1 a5_2)] h).bind fun q21 => asTup q21.1 fun l22 => lS l22 fun x24 l23 => lB l23 fun x26 l25 => l0 l25 (cond (!x26) (kk (.bool false) q21.2) (newK (.cells [(.str .empty), (.str .empty), (.int .u8 0), (.int .u8 0), (.int .u8 0), (.int .u8 0), (.int .u8 0), (.int .u8 0), (.int .i64 0), (.int .i64 0)] false) q21.2 fun i27 h28 => wrK h28 i27 0 10 [(.str x24), (.str .empty), (.int .u8 0), (.int .u8 0), (.int .u8 0), (.int .u8 0), (.int .u8 0), (.int .u8 0), (.int .i64 0), (.int .i64 1)] fun h29 => newK (.map [] 0) h29 fun i30 h31 => (ca n i_config_into [(.ptr (some (i27, 1)))] h31).bind fun q32 => asFn q32.1 fun f33 x34 y35 => (ca n i_config_parser_address [(.ptr a0), (.bool false), (.func f33 x34 y35)] q32.2).bind fun q36 => asFn q36.1 fun f37 x38 y39 => (ca n i_config_once [(.bool true), (.func f37 x38 y39)] q36.2).bind fun q40 => asAgg q40.1 fun l41 => lI l41 fun x43 l42 => lB l42 fun x45 l44 => lc l44 fun v47 l46 => l0 l46 (putK (some i30) (.str (⟨#[97, 100, 100, 114, 101, 115, 115]⟩ : ByteArray)) (.agg [(.int .i64 x43), (.bool x45), v47]) q40.2 fun h48 => (ca n i_config_parser_card [(.ptr a0), (.ptr (some (i27, 2)))] h48).bind fun q49 => asFn q49.1 fun f50 x51 y52 => (ca n i_config_once [(.bool true), (.func f50 x51 y52)] q49.2).bind fun q53 => asAgg q53.1 fun l54 => lI l54 fun x56 l55 => lB l55 fun x58 l57 => lc l57 fun v60 l59 => l0 l59 (putK (some i30) (.str (⟨#[109, 97, 99]⟩ : ByteArray)) (.agg [(.int .i64 x56), (.bool x58), v60]) q53.2 fun h61 => (ca n i_config_parser_number [(.ptr a0), (.ptr (some (i27, 8))), (.int .i64 1), (.int .i64 65535)] h61).bind fun q62 => asFn q62.1 fun f63 x64 y65 => (ca n i_config_once [(.bool false), (.func f63 x64 y65)] q62.2).bind fun q66 => asAgg q66.1 fun l67 => lI l67 fun x69 l68 => lB l68 fun x71 l70 => lc l70 fun v73 l72 => l0 l72 (putK (some i30) (.str (⟨#[112, 111, 114, 116]⟩ : ByteArray)) (.agg [(.int .i64 x69), (.bool x71), v73]) q66.2 fun h74 => (ca n i_config_parser_number [(.ptr a0), (.ptr (some (i27, 9))), (.int .i64 1), (.int .i64 100)] h74).bind fun q75 => asFn q75.1 fun f76 x77 y78 => (ca n i_config_once [(.bool false), (.func f76 x77 y78)] q75.2).bind fun q79 => asAgg q79.1 fun l80 => lI l80 fun x82 l81 => lB l81 fun x84 l83 => lc l83 fun v86 l85 => l0 l85 (putK (some i30) (.str (⟨#[119, 101, 105, 103, 104, 116]⟩ : ByteArray)) (.agg [(.int .i64 x82), (.bool x84), v86]) q79.2 fun h87 => cr n i_config_parser_block [(.ptr a0), (.map (some i30))] h87 fun v89 h90 => asBool v89 fun x91 => nnK a1 fun b92 o93 => cellK h90 b92 (o93 + 9) fun v94 => asSlice v94 fun x95 n96 c97 => aggK h90 i27 0 10 fun l98 => if l98.length = 10 ∧ 0 + 10 ≤ 10 then newK (.cells (List.append (List.append [] l98) []) false) h90 fun i99 h100 => appK 10 56 x95 n96 c97 (evSrc 10 (.slice (some (i99, 0)) 1 (.known 1)) h100) h100 fun p101 n102 c103 h104 => nnK a1 fun b105 o106 => wrK h104 b105 (o106 + 9) 1 [(.slice p101 n102 c103)] fun h107 => kk (.bool x91) h107 else none))))))) := (JR_eq T n e_config_parser_backend [1, 1, 0, 1, 0] [m1 + 1] _ h kk).trans (by kernel_rfl)
theorem config_parser_backend_eq (n : Nat) (a0 a1 : Pt) (h : H) (kk : KK) : cr (n + 1) i_config_parser_backend [(.ptr a0), (.ptr a1)] h kk = nnK a1 fun b1 o2 => cellK h b1 (o2 + 9) fun v3 => asSlice v3 fun x4 n5 c6 => config_parser_backend_L0 n n a0 a1 none 0 (.known 0) x4 n5 c6 (Nat.cast n5) 0 h kk := by kernel_rfl
noncomputable def strings_genSplit_J0 (n : Nat) (a0 a1 : Bs) (a2 a3 : Int) (h : H) : R := J T.toTab n e_strings_genSplit [1, 1, 1, 1] [] [(0, (.str a0)), (1, (.str a1)), (2, (.int .i64 a2)), (3, (.int .i64 a3))] h
noncomputable def strings_genSplit_L1 (n m1 : Nat) (a0 a1 : Bs) (a2 a3 : Int) (a9_0 : Pt) (a9_1 : Nat) (a9_2 : Cap) (a10 : Int) (h : H) : R := J T.toTab n e_strings_genSplit [1, 1, 1, 1, 1, 1, 1, 1, 0, 0] [m1] [(0, (.str a0)), (1, (.str a1)), (2, (.int .i64 a2)), (3, (.int .i64 a3)), (9, (.slice a9_0 a9_1 a9_2)), (10, (.int .i64 a10))] h
noncomputable def strings_genSplit_J2 (n : Nat) (a0 : Bs) (a9_0 : Pt) (a9_1 : Nat) (a9_2 : Cap) (a10 : Int) (h : H) : R := J T.toTab n e_strings_genSplit [1, 1, 1, 1, 1, 1, 1, 1, 1] [] [(0, (.str a0)), (9, (.slice a9_0 a9_1 a9_2)), (10, (.int .i64 a10))] h
theorem strings_genSplit_J0_eq (n : Nat) (a0 a1 : Bs) (a2 a3 : Int) (h : H) : strings_genSplit_J0 n a0 a1 a2 a3 h = mkSlK 1 16 [(.str .empty)] (if (IntKind.i64.wrap ((Nat.cast a0.size) + 1)) < a3 then (IntKind.i64.wrap ((Nat.cast a0.size) + 1)) else a3) (if (IntKind.i64.wrap ((Nat.cast a0.size) + 1)) < a3 then (IntKind.i64.wrap ((Nat.cast a0.size) + 1)) else a3) h fun i7 n8 c9 h10 => strings_genSplit_L1 n n a0 a1 a2 (IntKind.i64.wrap ((if (IntKind.i64.wrap ((Nat.cast a0.size) + 1)) < a3 then (IntKind.i64.wrap ((Nat.cast a0.size) + 1)) else a3) - 1)) (some (i7, 0)) n8 (.known c9) 0 h10 := (J_eq T.toTab n e_strings_genSplit [1, 1, 1, 1] [] _ h).trans (by kernel_rfl)
theorem strings_genSplit_L1_eq (n m1 : Nat) (a0 a1 : Bs) (a2 a3 : Int) (a9_0 : Pt) (a9_1 : Nat) (a9_2 : Cap) (a10 : Int) (h : H) : strings_genSplit_L1 n (m1 + 1) a0 a1 a2 a3 a9_0 a9_1 a9_2 a10 h = cond (decide (a10 < a3)) ((ca n i_strings_Index [(.str a0), (.str a1)] h).bind fun q11 => asInt .i64 q11.1 fun x12 => cond (decide (x12 < (0 : Int))) (strings_genSplit_J2 n a0 a9_0 a9_1 a9_2 a10 q11.2) (bndK a0.size a0.size 0 none (some (.int .i64 (IntKind.i64.wrap (x12 + a2)))) none fun lo13 hi14 mx15 => if 0 ≤ (a10 : Int) ∧ a10 < (Nat.cast (a9_1) : Int) then nnK a9_0 fun b16 o17 => wrK q11.2 b16 (o17 + a10.toNat) 1 [(.str (a0.extract lo13 hi14))] fun h18 => bndK a0.size a0.size 0 (some (.int .i64 (IntKind.i64.wrap (x12 + (Nat.cast a1.size))))) none none fun lo19 hi20 mx21 => strings_genSplit_L1 n m1 (a0.extract lo19 hi20) a1 a2 a3 a9_0 a9_1 a9_2 (IntKind.i64.wrap (a10 + 1)) h18 else none)) (strings_genSplit_J2 n a0 a9_0 a9_1 a9_2 a10 h) := (J_eq T.toTab n e_strings_genSplit [1, 1, 1, 1, 1, 1, 1, 1, 0, 0] [m1 + 1] _ h).trans (by kernel_rfl)
theorem strings_genSplit_J2_eq (n : Nat) (a0 : Bs) (a9_0 : Pt) (a9_1 : Nat) (a9_2 : Cap) (a10 : Int) (h : H) : strings_genSplit_J2 n a0 a9_0 a9_1 a9_2 a10 h = if 0 ≤ (a10 : Int) ∧ a10 < (Nat.cast (a9_1) : Int) then nnK a9_0 fun b22 o23 => wrK h b22 (o23 + a10.toNat) 1 [(.str a0)] fun h24 => slK 1 a9_0 a9_1 a9_2 none (some (.int .i64 (IntKind.i64.wrap (a10 + 1)))) none fun p25 n26 c27 => some ((.slice p25 n26 c27), h24) else none := (J_eq T.toTab n e_strings_genSplit [1, 1, 1, 1, 1, 1, 1, 1, 1] [] _ h).trans (by kernel_rfl)
theorem strings_genSplit_eq (n : Nat) (a0 a1 : Bs) (a2 a3 : Int) (h : H) : ca (n + 1) i_strings_genSplit [(.str a0), (.str a1), (.int .i64 a2), (.int .i64 a3)] h = cond ((a3 : Int) == (0 : Int)) (some ((.slice none 0 (.known 0)), h)) (cond (a1.toList == (⟨#[]⟩ : ByteArray).toList) ((ca n i_strings_explode [(.str a0), (.int .i64 a3)] h).bind fun q1 => asSlice q1.1 fun x2 n3 c4 => some ((.slice x2 n3 c4), q1.2)) (cond (decide (a3 < (0 : Int))) ((ca n i_strings_Count [(.str a0), (.str a1)] h).bind fun q5 => asInt .i64 q5.1 fun x6 => strings_genSplit_J0 n a0 a1 a2 (IntKind.i64.wrap (x6 + 1)) q5.2) (strings_genSplit_J0 n a0 a1 a2 a3 h))) := by kernel_rfl
noncomputable def words_Number_J0 (n : Nat) (a0 : Bs) (a22 : Bool) (h : H) : R := J T.toTab n e_words_Number [1, 0, 1] [] [(0, (.str a0)), (22, (.bool a22))] h
noncomputable def words_Number_L1 (n m1 : Nat) (a4 : Int) (a24 : Pt) (h : H) : R := J T.toTab n e_words_Number [1, 1, 1, 0, 1, 0] [m1] [(4, (.int .i64 a4)), (24, (.ptr a24))] h
noncomputable def words_Number_J2 (n m1 : Nat) (a4 a6 : Int) (a24 : Pt) (a33 : Bool) (h : H) : R := J T.toTab n e_words_Number [1, 1, 1, 0, 1, 0, 0, 1, 1, 0, 1, 0, 1] [m1] [(4, (.int .i64 a4)), (6, (.int .i32 a6)), (24, (.ptr a24)), (33, (.bool a33))] h
theorem words_Number_J0_eq (n : Nat) (a0 : Bs) (a22 : Bool) (h : H) : words_Number_J0 n a0 a22 h = cond a22 (some ((.tup [(.int .i64 0), (.bool false)]), h)) (newK (.siter a0 0) h fun i2 h3 => words_Number_L1 n n 0 (some (i2, 0)) h3) := (J_eq T.toTab n e_words_Number [1, 0, 1] [] _ h).trans (by kernel_rfl)
theorem words_Number_L1_eq (n m1 : Nat) (a4 : Int) (a24 : Pt) (h : H) : words_Number_L1 n (m1 + 1) a4 a24 h = nnK a24 fun b4 o5 => match o5 with | 0 => nextK h b4 (fun q6 c7 h8 => cond (decide (c7 < (48 : Int))) (words_Number_J2 n m1 a4 c7 a24 true h8) (words_Number_J2 n m1 a4 c7 a24 (decide (c7 > (57 : Int))) h8)) (some ((.tup [(.int .i64 a4), (.bool true)]), h)) | _ => none := (J_eq T.toTab n e_words_Number [1, 1, 1, 0, 1, 0] [m1 + 1] _ h).trans (by kernel_rfl)
theorem words_Number_J2_eq (n m1 : Nat) (a4 a6 : Int) (a24 : Pt) (a33 : Bool) (h : H) : words_Number_J2 n m1 a4 a6 a24 a33 h = cond a33 (some ((.tup [(.int .i64 0), (.bool false)]), h)) (words_Number_L1 n m1 (IntKind.i64.wrap ((IntKind.i64.wrap (10 * a4)) + (IntKind.i64.wrap (IntKind.i32.wrap (a6 - 48))))) a24 h) := (J_eq T.toTab n e_words_Number [1, 1, 1, 0, 1, 0, 0, 1, 1, 0, 1, 0, 1] [m1] _ h).trans (by kernel_rfl)
theorem words_Number_eq (n : Nat) (a0 : Bs) (h : H) : ca (n + 1) i_words_Number [(.str a0)] h = cond (a0.toList == (⟨#[]⟩ : ByteArray).toList) (words_Number_J0 n a0 true h) (cond (decide ((Nat.cast a0.size) > (9 : Int))) (words_Number_J0 n a0 true h) (byteK a0 0 fun y1 => cond ((y1 : Int) == (48 : Int)) (words_Number_J0 n a0 (!(a0.toList == (⟨#[48]⟩ : ByteArray).toList)) h) (words_Number_J0 n a0 false h))) := by kernel_rfl
noncomputable def config_parser_number_1_J0 (n : Nat) (a0 a3 : Pt) (a6 a8 : Int) (a24 : Bool) (h : H) : R := J T.toTab n e_config_parser_number_1 [1, 1, 1, 0, 0, 1, 1, 1] [] [(0, (.ptr a0)), (3, (.ptr a3)), (6, (.int .i64 a6)), (8, (.int .i64 a8)), (24, (.bool a24))] h
theorem config_parser_number_1_J0_eq (n : Nat) (a0 a3 : Pt) (a6 a8 : Int) (a24 : Bool) (h : H) : config_parser_number_1_J0 n a0 a3 a6 a8 a24 h = cond a24 (nnK a0 fun b27 o28 => cellK h b27 o28 fun v29 => asPtr v29 fun x30 => (ca n i_config_parser_fail [(.ptr x30), (.int .i64 a6), (.int .i64 182)] h).bind fun q31 => asBool q31.1 fun x32 => some ((.bool x32), q31.2)) (nnK a3 fun b33 o34 => cellK h b33 o34 fun v35 => asPtr v35 fun x36 => nnK x36 fun b37 o38 => wrK h b37 o38 1 [(.int .i64 a8)] fun h39 => nnK a0 fun b40 o41 => cellK h39 b40 o41 fun v42 => asPtr v42 fun x43 => (ca n i_config_parser_must [(.ptr x43), (.str (⟨#[10]⟩ : ByteArray))] h39).bind fun q44 => asBool q44.1 fun x45 => some ((.bool x45), q44.2)) := (J_eq T.toTab n e_config_parser_number_1 [1, 1, 1, 0, 0, 1, 1, 1] [] _ h).trans (by kernel_rfl)
theorem config_parser_number_1_eq (n : Nat) (a0 a1 a2 a3 : Pt) (h : H) : ca (n + 1) i_config_parser_number_1 [(.ptr a0), (.ptr a1), (.ptr a2), (.ptr a3)] h = nnK a0 fun b1 o2 => cellK h b1 o2 fun v3 => asPtr v3 fun x4 => (ca n i_config_parser_value [(.ptr x4)] h).bind fun q5 => asTup q5.1 fun l6 => lS l6 fun x8 l7 => lI l7 fun x10 l9 => lB l9 fun x12 l11 => l0 l11 ((ca n i_words_Number [(.str x8)] q5.2).bind fun q13 => asTup q13.1 fun l14 => lI l14 fun x16 l15 => lB l15 fun x18 l17 => l0 l17 (cond (!x12) (some ((.bool false), q13.2)) (cond (!x18) (config_parser_number_1_J0 n a0 a3 x10 x16 true q13.2) (nnK a1 fun b19 o20 => cellK q13.2 b19 o20 fun v21 => asInt .i64 v21 fun x22 => cond (decide (x16 < x22)) (config_parser_number_1_J0 n a0 a3 x10 x16 true q13.2) (nnK a2 fun b23 o24 => cellK q13.2 b23 o24 fun v25 => asInt .i64 v25 fun x26 => config_parser_number_1_J0 n a0 a3 x10 x16 (decide (x16 > x26)) q13.2))))) := by kernel_rfl
theorem outriderlaw18_alive_eq (n : Nat)  (h : H) (kk : KK) : cr (n + 1) i_outriderlaw18_alive [] h kk = (ca n i_outriderlaw18_sample [] h).bind fun q1 => asStr q1.1 fun x2 => cr n i_config_Parse [(.str x2)] q1.2 fun v4 h5 => asTup v4 fun l6 => lA l6 fun x8 l7 => lI l7 fun x10 l9 => lI l9 fun x12 l11 => l0 l11 (newK (.cells [(.int .u8 0), (.int .u8 0), (.int .u8 0), (.int .u8 0), (.int .u8 0), (.int .u8 0), (.str .empty), (.str .empty), (.int .i64 0), (.int .i64 0), (.int .i64 0), (.bool false), (.slice none 0 (.known 0)), (.slice none 0 (.known 0)), (.slice none 0 (.known 0))] false) h5 fun i13 h14 => wrK h14 i13 0 15 x8 fun h15 => cr n i_config_Parse [(.str (⟨#[110, 111, 100, 101]⟩ : ByteArray))] h15 fun v17 h18 => asTup v17 fun l19 => lA l19 fun x21 l20 => lI l20 fun x23 l22 => lI l22 fun x25 l24 => l0 l24 (newK (.cells [(.int .u8 0), (.int .u8 0), (.int .u8 0), (.int .u8 0), (.int .u8 0), (.int .u8 0), (.str .empty), (.str .empty), (.int .i64 0), (.int .i64 0), (.int .i64 0), (.bool false), (.slice none 0 (.known 0)), (.slice none 0 (.known 0)), (.slice none 0 (.known 0))] false) h18 fun i26 h27 => wrK h27 i26 0 15 x21 fun h28 => cond ((x12 : Int) == (0 : Int)) (cond ((x10 : Int) == (0 : Int)) (cellK h28 i13 8 fun v29 => asInt .i64 v29 fun x30 => cond ((x30 : Int) == (7 : Int)) (cellK h28 i13 11 fun v31 => asBool v31 fun x32 => cond x32 (cellK h28 i13 12 fun v33 => asSlice v33 fun x34 n35 c36 => cond (((Nat.cast n35) : Int) == (1 : Int)) (cond ((x25 : Int) == (180 : Int)) (kk (.bool ((x23 : Int) == (4 : Int))) h28) (kk (.bool false) h28)) (kk (.bool false) h28)) (kk (.bool false) h28)) (kk (.bool false) h28)) (kk (.bool false) h28)) (kk (.bool false) h28))) := by kernel_rfl
noncomputable def config_parser_value_J0 (n : Nat) (a0 : Pt) (a5 : Bs) (a6 : Int) (a24 : Bool) (h : H) : R := J T.toTab n e_config_parser_value [1, 1, 0, 1] [] [(0, (.ptr a0)), (5, (.str a5)), (6, (.int .i64 a6)), (24, (.bool a24))] h
theorem config_parser_value_J0_eq (n : Nat) (a0 : Pt) (a5 : Bs) (a6 : Int) (a24 : Bool) (h : H) : config_parser_value_J0 n a0 a5 a6 a24 h = cond a24 ((ca n i_config_parser_fail [(.ptr a0), (.int .i64 a6), (.int .i64 180)] h).bind fun q5 => asBool q5.1 fun x6 => some ((.tup [(.str (⟨#[]⟩ : ByteArray)), (.int .i64 a6), (.bool x6)]), q5.2)) (nnK a0 fun b7 o8 => cellK h b7 (o8 + 2) fun v9 => asInt .i64 v9 fun x10 => nnK a0 fun b11 o12 => wrK h b11 (o12 + 2) 1 [(.int .i64 (IntKind.i64.wrap (x10 + 1)))] fun h13 => some ((.tup [(.str a5), (.int .i64 a6), (.bool true)]), h13)) := (J_eq T.toTab n e_config_parser_value [1, 1, 0, 1] [] _ h).trans (by kernel_rfl)
theorem config_parser_value_eq (n : Nat) (a0 : Pt) (h : H) : ca (n + 1) i_config_parser_value [(.ptr a0)] h = (ca n i_config_parser_peek [(.ptr a0)] h).bind fun q1 => asStr q1.1 fun x2 => (ca n i_config_parser_place [(.ptr a0)] q1.2).bind fun q3 => asInt .i64 q3.1 fun x4 => cond (x2.toList == (⟨#[]⟩ : ByteArray).toList) (config_parser_value_J0 n a0 x2 x4 true q3.2) (cond (x2.toList == (⟨#[10]⟩ : ByteArray).toList) (config_parser_value_J0 n a0 x2 x4 true q3.2) (cond (x2.toList == (⟨#[123]⟩ : ByteArray).toList) (config_parser_value_J0 n a0 x2 x4 true q3.2) (config_parser_value_J0 n a0 x2 x4 (x2.toList == (⟨#[125]⟩ : ByteArray).toList) q3.2))) := by kernel_rfl
noncomputable def config_pick_J0 (n : Nat) (a0 : Int) (a1_0 : Pt) (a1_1 : Nat) (a1_2 : Cap) (a12 : Bool) (h : H) : R := J T.toTab n e_config_pick [1, 0, 1] [] [(0, (.int .i64 a0)), (1, (.slice a1_0 a1_1 a1_2)), (12, (.bool a12))] h
theorem config_pick_J0_eq (n : Nat) (a0 : Int) (a1_0 : Pt) (a1_1 : Nat) (a1_2 : Cap) (a12 : Bool) (h : H) : config_pick_J0 n a0 a1_0 a1_1 a1_2 a12 h = cond a12 (if 0 ≤ ((IntKind.i64.wrap ((Nat.cast a1_1) - 1)) : Int) ∧ (IntKind.i64.wrap ((Nat.cast a1_1) - 1)) < (Nat.cast (a1_1) : Int) then nnK a1_0 fun b1 o2 => cellK h b1 (o2 + ((IntKind.i64.wrap ((Nat.cast a1_1) - 1))).toNat) fun v3 => asStr v3 fun x4 => some ((.str x4), h) else none) (if 0 ≤ ((IntKind.i64.wrap (a0 - 1)) : Int) ∧ (IntKind.i64.wrap (a0 - 1)) < (Nat.cast (a1_1) : Int) then nnK a1_0 fun b5 o6 => cellK h b5 (o6 + ((IntKind.i64.wrap (a0 - 1))).toNat) fun v7 => asStr v7 fun x8 => some ((.str x8), h) else none) := (J_eq T.toTab n e_config_pick [1, 0, 1] [] _ h).trans (by kernel_rfl)
theorem config_pick_eq (n : Nat) (a0 : Int) (a1_0 : Pt) (a1_1 : Nat) (a1_2 : Cap) (h : H) : ca (n + 1) i_config_pick [(.int .i64 a0), (.slice a1_0 a1_1 a1_2)] h = cond (decide (a0 < (1 : Int))) (config_pick_J0 n a0 a1_0 a1_1 a1_2 true h) (config_pick_J0 n a0 a1_0 a1_1 a1_2 (decide (a0 > (Nat.cast a1_1))) h) := by kernel_rfl
theorem config_parser_choice_1_eq (n : Nat) (a0 a1 a2 : Pt) (h : H) : ca (n + 1) i_config_parser_choice_1 [(.ptr a0), (.ptr a1), (.ptr a2)] h = nnK a0 fun b1 o2 => cellK h b1 o2 fun v3 => asPtr v3 fun x4 => (ca n i_config_parser_value [(.ptr x4)] h).bind fun q5 => asTup q5.1 fun l6 => lS l6 fun x8 l7 => lI l7 fun x10 l9 => lB l9 fun x12 l11 => l0 l11 (nnK a1 fun b13 o14 => cellK q5.2 b13 o14 fun v15 => asMap v15 fun x16 => lookK (.int .i64 0) x16 (.str x8) q5.2 fun v17 t18 => asInt .i64 v17 fun x19 => cond (!x12) (some ((.bool false), q5.2)) (cond (!t18) (nnK a0 fun b20 o21 => cellK q5.2 b20 o21 fun v22 => asPtr v22 fun x23 => (ca n i_config_parser_fail [(.ptr x23), (.int .i64 x10), (.int .i64 182)] q5.2).bind fun q24 => asBool q24.1 fun x25 => some ((.bool x25), q24.2)) (nnK a2 fun b26 o27 => cellK q5.2 b26 o27 fun v28 => asPtr v28 fun x29 => nnK x29 fun b30 o31 => wrK q5.2 b30 o31 1 [(.int .i64 x19)] fun h32 => nnK a0 fun b33 o34 => cellK h32 b33 o34 fun v35 => asPtr v35 fun x36 => (ca n i_config_parser_must [(.ptr x36), (.str (⟨#[10]⟩ : ByteArray))] h32).bind fun q37 => asBool q37.1 fun x38 => some ((.bool x38), q37.2)))) := by kernel_rfl
theorem config_parser_peek_eq (n : Nat) (a0 : Pt) (h : H) : ca (n + 1) i_config_parser_peek [(.ptr a0)] h = nnK a0 fun b1 o2 => cellK h b1 (o2 + 2) fun v3 => asInt .i64 v3 fun x4 => nnK a0 fun b5 o6 => cellK h b5 (o6 + 1) fun v7 => asSlice v7 fun x8 n9 c10 => cond (decide (x4 ≥ (Nat.cast n9))) (some ((.str (⟨#[]⟩ : ByteArray)), h)) (nnK a0 fun b11 o12 => cellK h b11 (o12 + 1) fun v13 => asSlice v13 fun x14 n15 c16 => nnK a0 fun b17 o18 => cellK h b17 (o18 + 2) fun v19 => asInt .i64 v19 fun x20 => if 0 ≤ (x20 : Int) ∧ x20 < (Nat.cast (n15) : Int) then nnK x14 fun b21 o22 => cellK h b21 (o22 + x20.toNat * 3) fun v23 => asStr v23 fun x24 => some ((.str x24), h) else none) := by kernel_rfl
theorem config_writer_say_eq (n : Nat) (a0 a1_0 : Pt) (a1_1 : Nat) (a1_2 : Cap) (h : H) : ca (n + 1) i_config_writer_say [(.ptr a0), (.slice a1_0 a1_1 a1_2)] h = nnK a0 fun b1 o2 => (ca n i_strings_Join [(.slice a1_0 a1_1 a1_2), (.str (⟨#[32]⟩ : ByteArray))] h).bind fun q3 => asStr q3.1 fun x4 => catK x4 (⟨#[10]⟩ : ByteArray) fun s5 => (ca n i_strings_Builder_WriteString [(.ptr (some (b1, o2))), (.str s5)] q3.2).bind fun q6 => asTup q6.1 fun l7 => lI l7 fun x9 l8 => lc l8 fun v11 l10 => l0 l10 (some ((.tup []), q6.2)) := by kernel_rfl
theorem config_parser_choice_eq (n : Nat) (a0 a1 : Pt) (a2 : Option Nat) (h : H) : ca (n + 1) i_config_parser_choice [(.ptr a0), (.ptr a1), (.map a2)] h = newK (.cells [(.ptr a0)] false) h fun i1 h2 => newK (.cells [(.ptr a1)] false) h2 fun i3 h4 => newK (.cells [(.map a2)] false) h4 fun i5 h6 => some ((.func i_config_parser_choice_1 [] [(.ptr (some (i1, 0))), (.ptr (some (i5, 0))), (.ptr (some (i3, 0)))]), h6) := by kernel_rfl
theorem words_may_eq (n : Nat) (a0 : Int) (h : H) : ca (n + 1) i_words_may [(.int .u8 a0)] h = cond ((a0 : Int) == (9 : Int)) (some ((.bool true), h)) (cond ((a0 : Int) == (10 : Int)) (some ((.bool true), h)) (cond ((a0 : Int) == (13 : Int)) (some ((.bool true), h)) (cond (decide (a0 ≥ (32 : Int))) (some ((.bool (decide (a0 ≤ (126 : Int)))), h)) (some ((.bool false), h))))) := by kernel_rfl
theorem words_Address_1_eq (n : Nat) (a0 : Bs) (h : H) : ca (n + 1) i_words_Address_1 [(.str a0)] h = (ca n i_words_Number [(.str a0)] h).bind fun q1 => asTup q1.1 fun l2 => lI l2 fun x4 l3 => lB l3 fun x6 l5 => l0 l5 (cond x6 (some ((.tup [(.int .i64 x4), (.bool (decide (x4 ≤ (255 : Int))))]), q1.2)) (some ((.tup [(.int .i64 x4), (.bool false)]), q1.2))) := by kernel_rfl
theorem stringslite_IndexByte_eq (n : Nat) (a0 : Bs) (a1 : Int) (h : H) : ca (n + 1) i_stringslite_IndexByte [(.str a0), (.int .u8 a1)] h = (ca n i_bytealg_IndexByteString [(.str a0), (.int .u8 a1)] h).bind fun q1 => asInt .i64 q1.1 fun x2 => some ((.int .i64 x2), q1.2) := by kernel_rfl
theorem strconv_FormatInt_eq (n : Nat) (a0 a1 : Int) (h : H) : ca (n + 1) i_strconv_FormatInt [(.int .i64 a0), (.int .i64 a1)] h = (ca n i_strconv_FormatInt_2 [(.int .i64 a0), (.int .i64 a1)] h).bind fun q1 => asStr q1.1 fun x2 => some ((.str x2), q1.2) := by kernel_rfl
theorem strings_Index_eq (n : Nat) (a0 a1 : Bs) (h : H) : ca (n + 1) i_strings_Index [(.str a0), (.str a1)] h = (ca n i_stringslite_Index [(.str a0), (.str a1)] h).bind fun q1 => asInt .i64 q1.1 fun x2 => some ((.int .i64 x2), q1.2) := by kernel_rfl
theorem strings_Builder_String_eq (n : Nat) (a0 : Pt) (h : H) : ca (n + 1) i_strings_Builder_String [(.ptr a0)] h = (strings_Builder_String_18 n a0 h).bind fun r => some ((.str r.1), r.2) := by kernel_rfl
end Go.Ev.Tryd

/- What the functions compute, printed by evprint2.py. -/
set_option maxRecDepth 100000
set_option linter.all false
namespace Go.Ev.Tryd
open Go.Proofs
noncomputable def config_Print_J0 (n : Nat) (a1 a3 : Pt) (a4 : Bs) (h : H) : R := J T.toTab n e_config_Print [1, 1, 1, 1, 1, 1, 1, 1, 1, 1, 1, 1, 1] [] [(1, (.ptr a1)), (3, (.ptr a3)), (4, (.str a4))] h
noncomputable def config_Print_L1 (n m1 : Nat) (a1 a3 a59_0 : Pt) (a59_1 : Nat) (a59_2 : Cap) (a60 a61 : Int) (h : H) : R := J T.toTab n e_config_Print [1, 1, 1, 1, 1, 1, 1, 1, 1, 1, 1, 1, 1, 1, 0, 1, 0] [m1] [(1, (.ptr a1)), (3, (.ptr a3)), (59, (.slice a59_0 a59_1 a59_2)), (60, (.int .i64 a60)), (61, (.int .i64 a61))] h
noncomputable def config_Print_L2 (n m1 : Nat) (a1 a3 a72_0 : Pt) (a72_1 : Nat) (a72_2 : Cap) (a73 a74 : Int) (h : H) : R := J T.toTab n e_config_Print [1, 1, 1, 1, 1, 1, 1, 1, 1, 1, 1, 1, 1, 1, 1, 0, 1, 0] [m1] [(1, (.ptr a1)), (3, (.ptr a3)), (72, (.slice a72_0 a72_1 a72_2)), (73, (.int .i64 a73)), (74, (.int .i64 a74))] h
noncomputable def config_Print_L3 (n m1 : Nat) (a3 a91_0 : Pt) (a91_1 : Nat) (a91_2 : Cap) (a92 a93 : Int) (h : H) : R := J T.toTab n e_config_Print [1, 1, 1, 1, 1, 1, 1, 1, 1, 1, 1, 1, 1, 1, 1, 1, 1, 0, 1, 0] [m1] [(3, (.ptr a3)), (91, (.slice a91_0 a91_1 a91_2)), (92, (.int .i64 a92)), (93, (.int .i64 a93))] h
theorem config_Print_J0_eq (n : Nat) (a1 a3 : Pt) (a4 : Bs) (h : H) : config_Print_J0 n a1 a3 a4 h = newK (.cells [(.str (⟨#[112, 114, 101, 101, 109, 112, 116]⟩ : ByteArray)), (.str a4)] false) h fun i54 h55 => (ca n i_config_writer_say [(.ptr a3), (.slice (some (i54, 0)) 2 (.known 2))] h55).bind fun q56 => asTup q56.1 fun l57 => l0 l57 (nnK a1 fun b58 o59 => cellK q56.2 b58 (o59 + 12) fun v60 => asSlice v60 fun x61 n62 c63 => config_Print_L1 n n a1 a3 x61 n62 c63 (Nat.cast n62) 0 q56.2) := (J_eq T.toTab n e_config_Print [1, 1, 1, 1, 1, 1, 1, 1, 1, 1, 1, 1, 1] [] _ h).trans (by kernel_rfl)
theorem config_Print_L1_eq (n m1 : Nat) (a1 a3 a59_0 : Pt) (a59_1 : Nat) (a59_2 : Cap) (a60 a61 : Int) (h : H) : config_Print_L1 n (m1 + 1) a1 a3 a59_0 a59_1 a59_2 a60 a61 h = cond (decide (a61 < a60)) (if 0 ≤ (a61 : Int) ∧ a61 < (Nat.cast (a59_1) : Int) then nnK a59_0 fun b64 o65 => cellK h b64 (o65 + a61.toNat) fun v66 => asStr v66 fun x67 => (ca n i_words_AddressText [(.str x67)] h).bind fun q68 => asStr q68.1 fun x69 => newK (.cells [(.str (⟨#[118, 105, 112]⟩ : ByteArray)), (.str x69)] false) q68.2 fun i70 h71 => (ca n i_config_writer_say [(.ptr a3), (.slice (some (i70, 0)) 2 (.known 2))] h71).bind fun q72 => asTup q72.1 fun l73 => l0 l73 (config_Print_L1 n m1 a1 a3 a59_0 a59_1 a59_2 a60 (IntKind.i64.wrap (a61 + 1)) q72.2) else none) (nnK a1 fun b74 o75 => cellK h b74 (o75 + 13) fun v76 => asSlice v76 fun x77 n78 c79 => config_Print_L2 n n a1 a3 x77 n78 c79 (Nat.cast n78) 0 h) := (J_eq T.toTab n e_config_Print [1, 1, 1, 1, 1, 1, 1, 1, 1, 1, 1, 1, 1, 1, 0, 1, 0] [m1 + 1] _ h).trans (by kernel_rfl)
theorem config_Print_L2_eq (n m1 : Nat) (a1 a3 a72_0 : Pt) (a72_1 : Nat) (a72_2 : Cap) (a73 a74 : Int) (h : H) : config_Print_L2 n (m1 + 1) a1 a3 a72_0 a72_1 a72_2 a73 a74 h = cond (decide (a74 < a73)) (if 0 ≤ (a74 : Int) ∧ a74 < (Nat.cast (a72_1) : Int) then nnK a72_0 fun b80 o81 => aggK h b80 (o81 + a74.toNat * 2) 2 fun l82 => lS l82 fun x84 l83 => lI l83 fun x86 l85 => l0 l85 (newK (.cells [(.str .empty), (.int .i64 0)] false) h fun i87 h88 => wrK h88 i87 0 2 [(.str x84), (.int .i64 x86)] fun h89 => cellK h89 i87 0 fun v90 => asStr v90 fun x91 => cellK h89 i87 1 fun v92 => asInt .i64 v92 fun x93 => (ca n i_strconv_Itoa [(.int .i64 x93)] h89).bind fun q94 => asStr q94.1 fun x95 => sameK h89 q94.2 (some i87) (newK (.cells [(.str (⟨#[116, 114, 97, 99, 107]⟩ : ByteArray)), (.str x91), (.str x95)] false) q94.2 fun i96 h97 => (ca n i_config_writer_say [(.ptr a3), (.slice (some (i96, 0)) 3 (.known 3))] h97).bind fun q98 => asTup q98.1 fun l99 => l0 l99 (config_Print_L2 n m1 a1 a3 a72_0 a72_1 a72_2 a73 (IntKind.i64.wrap (a74 + 1)) q98.2))) else none) (newK (.cells [(.str (⟨#[125]⟩ : ByteArray))] false) h fun i100 h101 => (ca n i_config_writer_say [(.ptr a3), (.slice (some (i100, 0)) 1 (.known 1))] h101).bind fun q102 => asTup q102.1 fun l103 => l0 l103 (nnK a1 fun b104 o105 => cellK q102.2 b104 (o105 + 14) fun v106 => asSlice v106 fun x107 n108 c109 => config_Print_L3 n n a3 x107 n108 c109 (Nat.cast n108) 0 q102.2)) := (J_eq T.toTab n e_config_Print [1, 1, 1, 1, 1, 1, 1, 1, 1, 1, 1, 1, 1, 1, 1, 0, 1, 0] [m1 + 1] _ h).trans (by kernel_rfl)
theorem config_Print_L3_eq (n m1 : Nat) (a3 a91_0 : Pt) (a91_1 : Nat) (a91_2 : Cap) (a92 a93 : Int) (h : H) : config_Print_L3 n (m1 + 1) a3 a91_0 a91_1 a91_2 a92 a93 h = cond (decide (a93 < a92)) (if 0 ≤ (a93 : Int) ∧ a93 < (Nat.cast (a91_1) : Int) then nnK a91_0 fun b110 o111 => aggK h b110 (o111 + a93.toNat * 10) 10 fun l112 => lS l112 fun x114 l113 => lS l113 fun x116 l115 => lI l115 fun x118 l117 => lI l117 fun x120 l119 => lI l119 fun x122 l121 => lI l121 fun x124 l123 => lI l123 fun x126 l125 => lI l125 fun x128 l127 => lI l127 fun x130 l129 => lL l129 fun x132 n133 c134 l131 => l0 l131 (newK (.cells [(.str .empty), (.str .empty), (.int .i64 0), (.int .i64 0), (.int .i64 0), (.int .i64 0), (.int .i64 0), (.int .i64 0), (.int .i64 0), (.slice none 0 (.known 0))] false) h fun i135 h136 => wrK h136 i135 0 10 [(.str x114), (.str x116), (.int .i64 x118), (.int .i64 x120), (.int .i64 x122), (.int .i64 x124), (.int .i64 x126), (.int .i64 x128), (.int .i64 x130), (.slice x132 n133 c134)] fun h137 => aggK h137 i135 0 10 fun l138 => lS l138 fun x140 l139 => lS l139 fun x142 l141 => lI l141 fun x144 l143 => lI l143 fun x146 l145 => lI l145 fun x148 l147 => lI l147 fun x150 l149 => lI l149 fun x152 l151 => lI l151 fun x154 l153 => lI l153 fun x156 l155 => lL l155 fun x158 n159 c160 l157 => l0 l157 ((ca n i_config_writer_service [(.ptr a3), (.agg [(.str x140), (.str x142), (.int .i64 x144), (.int .i64 x146), (.int .i64 x148), (.int .i64 x150), (.int .i64 x152), (.int .i64 x154), (.int .i64 x156), (.slice x158 n159 c160)])] h137).bind fun q161 => asTup q161.1 fun l162 => l0 l162 (config_Print_L3 n m1 a3 a91_0 a91_1 a91_2 a92 (IntKind.i64.wrap (a93 + 1)) q161.2))) else none) (nnK a3 fun b163 o164 => (ca n i_strings_Builder_String [(.ptr (some (b163, o164)))] h).bind fun q165 => asStr q165.1 fun x166 => some ((.str x166), q165.2)) := (J_eq T.toTab n e_config_Print [1, 1, 1, 1, 1, 1, 1, 1, 1, 1, 1, 1, 1, 1, 1, 1, 1, 0, 1, 0] [m1 + 1] _ h).trans (by kernel_rfl)
theorem config_Print_eq (n : Nat) (a0 : List AV) (h : H) : ca (n + 1) i_config_Print [(.agg a0)] h = newK (.cells a0 false) h fun i1 h2 => newK (.tc 53 [(.ptr none), (.slice none 0 (.known 0))] true) h2 fun i3 h4 => newK (.cells [(.str (⟨#[110, 111, 100, 101]⟩ : ByteArray)), (.str (⟨#[123]⟩ : ByteArray))] false) h4 fun i5 h6 => (ca n i_config_writer_say [(.ptr (some (i3, 0))), (.slice (some (i5, 0)) 2 (.known 2))] h6).bind fun q7 => asTup q7.1 fun l8 => l0 l8 (aggK q7.2 i1 0 6 fun l9 => (ca n i_words_CardText [(.agg l9)] q7.2).bind fun q10 => asStr q10.1 fun x11 => newK (.cells [(.str (⟨#[109, 97, 99]⟩ : ByteArray)), (.str x11)] false) q10.2 fun i12 h13 => (ca n i_config_writer_say [(.ptr (some (i3, 0))), (.slice (some (i12, 0)) 2 (.known 2))] h13).bind fun q14 => asTup q14.1 fun l15 => l0 l15 (cellK q14.2 i1 6 fun v16 => asStr v16 fun x17 => (ca n i_words_AddressText [(.str x17)] q14.2).bind fun q18 => asStr q18.1 fun x19 => newK (.cells [(.str (⟨#[97, 100, 100, 114, 101, 115, 115]⟩ : ByteArray)), (.str x19)] false) q18.2 fun i20 h21 => (ca n i_config_writer_say [(.ptr (some (i3, 0))), (.slice (some (i20, 0)) 2 (.known 2))] h21).bind fun q22 => asTup q22.1 fun l23 => l0 l23 (cellK q22.2 i1 7 fun v24 => asStr v24 fun x25 => (ca n i_words_AddressText [(.str x25)] q22.2).bind fun q26 => asStr q26.1 fun x27 => newK (.cells [(.str (⟨#[112, 101, 101, 114]⟩ : ByteArray)), (.str x27)] false) q26.2 fun i28 h29 => (ca n i_config_writer_say [(.ptr (some (i3, 0))), (.slice (some (i28, 0)) 2 (.known 2))] h29).bind fun q30 => asTup q30.1 fun l31 => l0 l31 (newK (.cells [(.str (⟨#[125]⟩ : ByteArray))] false) q30.2 fun i32 h33 => (ca n i_config_writer_say [(.ptr (some (i3, 0))), (.slice (some (i32, 0)) 1 (.known 1))] h33).bind fun q34 => asTup q34.1 fun l35 => l0 l35 (newK (.cells [(.str (⟨#[118, 114, 114, 112]⟩ : ByteArray)), (.str (⟨#[123]⟩ : ByteArray))] false) q34.2 fun i36 h37 => (ca n i_config_writer_say [(.ptr (some (i3, 0))), (.slice (some (i36, 0)) 2 (.known 2))] h37).bind fun q38 => asTup q38.1 fun l39 => l0 l39 (cellK q38.2 i1 8 fun v40 => asInt .i64 v40 fun x41 => (ca n i_config_writer_count [(.ptr (some (i3, 0))), (.str (⟨#[105, 100]⟩ : ByteArray)), (.int .i64 x41)] q38.2).bind fun q42 => asTup q42.1 fun l43 => l0 l43 (cellK q42.2 i1 9 fun v44 => asInt .i64 v44 fun x45 => (ca n i_config_writer_count [(.ptr (some (i3, 0))), (.str (⟨#[112, 114, 105, 111, 114, 105, 116, 121]⟩ : ByteArray)), (.int .i64 x45)] q42.2).bind fun q46 => asTup q46.1 fun l47 => l0 l47 (cellK q46.2 i1 10 fun v48 => asInt .i64 v48 fun x49 => (ca n i_config_writer_count [(.ptr (some (i3, 0))), (.str (⟨#[101, 118, 101, 114, 121]⟩ : ByteArray)), (.int .i64 x49)] q46.2).bind fun q50 => asTup q50.1 fun l51 => l0 l51 (cellK q50.2 i1 11 fun v52 => asBool v52 fun x53 => cond x53 (config_Print_J0 n (some (i1, 0)) (some (i3, 0)) (⟨#[121, 101, 115]⟩ : ByteArray) q50.2) (config_Print_J0 n (some (i1, 0)) (some (i3, 0)) (⟨#[110, 111]⟩ : ByteArray) q50.2)))))))))) := by kernel_rfl
noncomputable def config_writer_service_J0 (n : Nat) (a0 a3 : Pt) (a4 : Bs) (h : H) : R := J T.toTab n e_config_writer_service [1, 1, 1, 1] [] [(0, (.ptr a0)), (3, (.ptr a3)), (4, (.str a4))] h
noncomputable def config_writer_service_L1 (n m1 : Nat) (a0 a56_0 : Pt) (a56_1 : Nat) (a56_2 : Cap) (a57 a58 : Int) (h : H) : R := J T.toTab n e_config_writer_service [1, 1, 1, 1, 1, 1, 1, 1, 1, 1, 1, 1, 0, 1, 0] [m1] [(0, (.ptr a0)), (56, (.slice a56_0 a56_1 a56_2)), (57, (.int .i64 a57)), (58, (.int .i64 a58))] h
noncomputable def config_writer_service_J2 (n m1 : Nat) (a0 a6 a56_0 : Pt) (a56_1 : Nat) (a56_2 : Cap) (a57 a58 : Int) (h : H) : R := J T.toTab n e_config_writer_service [1, 1, 1, 1, 1, 1, 1, 1, 1, 1, 1, 1, 0, 1, 0, 0, 1, 1, 0, 0, 1, 1, 1, 1, 1] [m1] [(0, (.ptr a0)), (6, (.ptr a6)), (56, (.slice a56_0 a56_1 a56_2)), (57, (.int .i64 a57)), (58, (.int .i64 a58))] h
theorem config_writer_service_J0_eq (n : Nat) (a0 a3 : Pt) (a4 : Bs) (h : H) : config_writer_service_J0 n a0 a3 a4 h = newK (.cells [(.str (⟨#[112, 114, 111, 116, 111]⟩ : ByteArray)), (.str a4)] false) h fun i11 h12 => (ca n i_config_writer_say [(.ptr a0), (.slice (some (i11, 0)) 2 (.known 2))] h12).bind fun q13 => asTup q13.1 fun l14 => l0 l14 (nnK a3 fun b15 o16 => cellK q13.2 b15 (o16 + 1) fun v17 => asStr v17 fun x18 => (ca n i_words_AddressText [(.str x18)] q13.2).bind fun q19 => asStr q19.1 fun x20 => newK (.cells [(.str (⟨#[118, 105, 112]⟩ : ByteArray)), (.str x20)] false) q19.2 fun i21 h22 => (ca n i_config_writer_say [(.ptr a0), (.slice (some (i21, 0)) 2 (.known 2))] h22).bind fun q23 => asTup q23.1 fun l24 => l0 l24 (nnK a3 fun b25 o26 => cellK q23.2 b25 (o26 + 3) fun v27 => asInt .i64 v27 fun x28 => (ca n i_config_writer_count [(.ptr a0), (.str (⟨#[112, 111, 114, 116]⟩ : ByteArray)), (.int .i64 x28)] q23.2).bind fun q29 => asTup q29.1 fun l30 => l0 l30 (nnK a3 fun b31 o32 => cellK q29.2 b31 (o32 + 4) fun v33 => asInt .i64 v33 fun x34 => newK (.cells [(.str (⟨#[110, 97, 116]⟩ : ByteArray)), (.str (⟨#[100, 114]⟩ : ByteArray)), (.str (⟨#[105, 112, 105, 112]⟩ : ByteArray))] false) q29.2 fun i35 h36 => (ca n i_config_pick [(.int .i64 x34), (.slice (some (i35, 0)) 3 (.known 3))] h36).bind fun q37 => asStr q37.1 fun x38 => newK (.cells [(.str (⟨#[109, 111, 100, 101]⟩ : ByteArray)), (.str x38)] false) q37.2 fun i39 h40 => (ca n i_config_writer_say [(.ptr a0), (.slice (some (i39, 0)) 2 (.known 2))] h40).bind fun q41 => asTup q41.1 fun l42 => l0 l42 (nnK a3 fun b43 o44 => cellK q41.2 b43 (o44 + 5) fun v45 => asInt .i64 v45 fun x46 => newK (.cells [(.str (⟨#[109, 97, 103, 108, 101, 118]⟩ : ByteArray)), (.str (⟨#[115, 111, 117, 114, 99, 101]⟩ : ByteArray))] false) q41.2 fun i47 h48 => (ca n i_config_pick [(.int .i64 x46), (.slice (some (i47, 0)) 2 (.known 2))] h48).bind fun q49 => asStr q49.1 fun x50 => newK (.cells [(.str (⟨#[115, 99, 104, 101, 100, 117, 108, 101]⟩ : ByteArray)), (.str x50)] false) q49.2 fun i51 h52 => (ca n i_config_writer_say [(.ptr a0), (.slice (some (i51, 0)) 2 (.known 2))] h52).bind fun q53 => asTup q53.1 fun l54 => l0 l54 (nnK a3 fun b55 o56 => cellK q53.2 b55 (o56 + 6) fun v57 => asInt .i64 v57 fun x58 => (ca n i_config_writer_count [(.ptr a0), (.str (⟨#[114, 105, 115, 101]⟩ : ByteArray)), (.int .i64 x58)] q53.2).bind fun q59 => asTup q59.1 fun l60 => l0 l60 (nnK a3 fun b61 o62 => cellK q59.2 b61 (o62 + 7) fun v63 => asInt .i64 v63 fun x64 => (ca n i_config_writer_count [(.ptr a0), (.str (⟨#[102, 97, 108, 108]⟩ : ByteArray)), (.int .i64 x64)] q59.2).bind fun q65 => asTup q65.1 fun l66 => l0 l66 (nnK a3 fun b67 o68 => cellK q65.2 b67 (o68 + 8) fun v69 => asInt .i64 v69 fun x70 => (ca n i_config_writer_count [(.ptr a0), (.str (⟨#[112, 114, 111, 98, 101]⟩ : ByteArray)), (.int .i64 x70)] q65.2).bind fun q71 => asTup q71.1 fun l72 => l0 l72 (nnK a3 fun b73 o74 => cellK q71.2 b73 (o74 + 9) fun v75 => asSlice v75 fun x76 n77 c78 => config_writer_service_L1 n n a0 x76 n77 c78 (Nat.cast n77) 0 q71.2)))))))) := (J_eq T.toTab n e_config_writer_service [1, 1, 1, 1] [] _ h).trans (by kernel_rfl)
theorem config_writer_service_L1_eq (n m1 : Nat) (a0 a56_0 : Pt) (a56_1 : Nat) (a56_2 : Cap) (a57 a58 : Int) (h : H) : config_writer_service_L1 n (m1 + 1) a0 a56_0 a56_1 a56_2 a57 a58 h = cond (decide (a58 < a57)) (if 0 ≤ (a58 : Int) ∧ a58 < (Nat.cast (a56_1) : Int) then nnK a56_0 fun b79 o80 => aggK h b79 (o80 + a58.toNat * 10) 10 fun l81 => newK (.cells [(.str .empty), (.str .empty), (.int .u8 0), (.int .u8 0), (.int .u8 0), (.int .u8 0), (.int .u8 0), (.int .u8 0), (.int .i64 0), (.int .i64 0)] false) h fun i82 h83 => wrK h83 i82 0 10 l81 fun h84 => cellK h84 i82 0 fun v85 => asStr v85 fun x86 => newK (.cells [(.str (⟨#[98, 97, 99, 107, 101, 110, 100]⟩ : ByteArray)), (.str x86), (.str (⟨#[123]⟩ : ByteArray))] false) h84 fun i87 h88 => (ca n i_config_writer_say [(.ptr a0), (.slice (some (i87, 0)) 3 (.known 3))] h88).bind fun q89 => asTup q89.1 fun l90 => l0 l90 (cellK q89.2 i82 1 fun v91 => asStr v91 fun x92 => (ca n i_words_AddressText [(.str x92)] q89.2).bind fun q93 => asStr q93.1 fun x94 => newK (.cells [(.str (⟨#[97, 100, 100, 114, 101, 115, 115]⟩ : ByteArray)), (.str x94)] false) q93.2 fun i95 h96 => (ca n i_config_writer_say [(.ptr a0), (.slice (some (i95, 0)) 2 (.known 2))] h96).bind fun q97 => asTup q97.1 fun l98 => l0 l98 (aggK q97.2 i82 2 6 fun l99 => (ca n i_words_CardText [(.agg l99)] q97.2).bind fun q100 => asStr q100.1 fun x101 => newK (.cells [(.str (⟨#[109, 97, 99]⟩ : ByteArray)), (.str x101)] false) q100.2 fun i102 h103 => (ca n i_config_writer_say [(.ptr a0), (.slice (some (i102, 0)) 2 (.known 2))] h103).bind fun q104 => asTup q104.1 fun l105 => l0 l105 (cellK q104.2 i82 8 fun v106 => asInt .i64 v106 fun x107 => cond ((x107 : Int) != (0 : Int)) (cellK q104.2 i82 8 fun v108 => asInt .i64 v108 fun x109 => (ca n i_config_writer_count [(.ptr a0), (.str (⟨#[112, 111, 114, 116]⟩ : ByteArray)), (.int .i64 x109)] q104.2).bind fun q110 => asTup q110.1 fun l111 => l0 l111 (config_writer_service_J2 n m1 a0 (some (i82, 0)) a56_0 a56_1 a56_2 a57 a58 q110.2)) (config_writer_service_J2 n m1 a0 (some (i82, 0)) a56_0 a56_1 a56_2 a57 a58 q104.2)))) else none) (newK (.cells [(.str (⟨#[125]⟩ : ByteArray))] false) h fun i112 h113 => (ca n i_config_writer_say [(.ptr a0), (.slice (some (i112, 0)) 1 (.known 1))] h113).bind fun q114 => asTup q114.1 fun l115 => l0 l115 (some ((.tup []), q114.2))) := (J_eq T.toTab n e_config_writer_service [1, 1, 1, 1, 1, 1, 1, 1, 1, 1, 1, 1, 0, 1, 0] [m1 + 1] _ h).trans (by kernel_rfl)
theorem config_writer_service_J2_eq (n m1 : Nat) (a0 a6 a56_0 : Pt) (a56_1 : Nat) (a56_2 : Cap) (a57 a58 : Int) (h : H) : config_writer_service_J2 n m1 a0 a6 a56_0 a56_1 a56_2 a57 a58 h = nnK a6 fun b116 o117 => cellK h b116 (o117 + 9) fun v118 => asInt .i64 v118 fun x119 => (ca n i_config_writer_count [(.ptr a0), (.str (⟨#[119, 101, 105, 103, 104, 116]⟩ : ByteArray)), (.int .i64 x119)] h).bind fun q120 => asTup q120.1 fun l121 => l0 l121 (newK (.cells [(.str (⟨#[125]⟩ : ByteArray))] false) q120.2 fun i122 h123 => (ca n i_config_writer_say [(.ptr a0), (.slice (some (i122, 0)) 1 (.known 1))] h123).bind fun q124 => asTup q124.1 fun l125 => l0 l125 (config_writer_service_L1 n m1 a0 a56_0 a56_1 a56_2 a57 (IntKind.i64.wrap (a58 + 1)) q124.2)) := (J_eq T.toTab n e_config_writer_service [1, 1, 1, 1, 1, 1, 1, 1, 1, 1, 1, 1, 0, 1, 0, 0, 1, 1, 0, 0, 1, 1, 1, 1, 1] [m1] _ h).trans (by kernel_rfl)
theorem config_writer_service_eq (n : Nat) (a0 : Pt) (a1_0 a1_1 : Bs) (a1_2 a1_3 a1_4 a1_5 a1_6 a1_7 a1_8 : Int) (a1_9 : Pt) (a1_10 : Nat) (a1_11 : Cap) (h : H) : ca (n + 1) i_config_writer_service [(.ptr a0), (.agg [(.str a1_0), (.str a1_1), (.int .i64 a1_2), (.int .i64 a1_3), (.int .i64 a1_4), (.int .i64 a1_5), (.int .i64 a1_6), (.int .i64 a1_7), (.int .i64 a1_8), (.slice a1_9 a1_10 a1_11)])] h = newK (.cells [(.str a1_0), (.str a1_1), (.int .i64 a1_2), (.int .i64 a1_3), (.int .i64 a1_4), (.int .i64 a1_5), (.int .i64 a1_6), (.int .i64 a1_7), (.int .i64 a1_8), (.slice a1_9 a1_10 a1_11)] false) h fun i1 h2 => cellK h2 i1 0 fun v3 => asStr v3 fun x4 => newK (.cells [(.str (⟨#[115, 101, 114, 118, 105, 99, 101]⟩ : ByteArray)), (.str x4), (.str (⟨#[123]⟩ : ByteArray))] false) h2 fun i5 h6 => (ca n i_config_writer_say [(.ptr a0), (.slice (some (i5, 0)) 3 (.known 3))] h6).bind fun q7 => asTup q7.1 fun l8 => l0 l8 (cellK q7.2 i1 2 fun v9 => asInt .i64 v9 fun x10 => cond ((x10 : Int) == (6 : Int)) (config_writer_service_J0 n a0 (some (i1, 0)) (⟨#[116, 99, 112]⟩ : ByteArray) q7.2) (config_writer_service_J0 n a0 (some (i1, 0)) (⟨#[117, 100, 112]⟩ : ByteArray) q7.2)) := by kernel_rfl
noncomputable def words_hex_L0 (n m1 : Nat) (a0 : Bs) (a1 a2 a8 : Int) (a12 : Pt) (h : H) : R := J T.toTab n e_words_hex [1, 1, 0, 1, 0] [m1] [(0, (.str a0)), (1, (.int .i64 a1)), (2, (.int .i64 a2)), (8, (.int .i64 a8)), (12, (.ptr a12))] h
noncomputable def words_hex_J1 (n m1 : Nat) (a0 : Bs) (a1 a2 a8 a10 : Int) (a12 : Pt) (a16 : Bool) (h : H) : R := J T.toTab n e_words_hex [1, 1, 0, 1, 0, 0, 1, 1, 0, 1, 0, 0, 1] [m1] [(0, (.str a0)), (1, (.int .i64 a1)), (2, (.int .i64 a2)), (8, (.int .i64 a8)), (10, (.int .i32 a10)), (12, (.ptr a12)), (16, (.bool a16))] h
noncomputable def words_hex_J3 (n m1 : Nat) (a0 : Bs) (a1 a2 a8 : Int) (a12 : Pt) (h : H) : R := J T.toTab n e_words_hex [1, 1, 0, 1, 0, 0, 1, 1, 0, 1, 1] [m1] [(0, (.str a0)), (1, (.int .i64 a1)), (2, (.int .i64 a2)), (8, (.int .i64 a8)), (12, (.ptr a12))] h
noncomputable def words_hex_J2 (n m1 : Nat) (a0 : Bs) (a1 a2 a8 a10 : Int) (a12 : Pt) (a29 : Bool) (h : H) : R := J T.toTab n e_words_hex [1, 1, 0, 1, 0, 0, 1, 1, 0, 1, 0, 0, 1, 1, 1] [m1] [(0, (.str a0)), (1, (.int .i64 a1)), (2, (.int .i64 a2)), (8, (.int .i64 a8)), (10, (.int .i32 a10)), (12, (.ptr a12)), (29, (.bool a29))] h
theorem words_hex_L0_eq (n m1 : Nat) (a0 : Bs) (a1 a2 a8 : Int) (a12 : Pt) (h : H) : words_hex_L0 n (m1 + 1) a0 a1 a2 a8 a12 h = nnK a12 fun b3 o4 => match o4 with | 0 => nextK h b3 (fun q5 c6 h7 => cond (decide (c6 ≥ (48 : Int))) (words_hex_J1 n m1 a0 a1 a2 a8 c6 a12 (decide (c6 ≤ (57 : Int))) h7) (words_hex_J1 n m1 a0 a1 a2 a8 c6 a12 false h7)) (cond (decide ((Nat.cast a0.size) ≥ a1)) (some ((.tup [(.int .i64 a8), (.bool (decide ((Nat.cast a0.size) ≤ a2)))]), h)) (some ((.tup [(.int .i64 a8), (.bool false)]), h))) | _ => none := (J_eq T.toTab n e_words_hex [1, 1, 0, 1, 0] [m1 + 1] _ h).trans (by kernel_rfl)
theorem words_hex_J1_eq (n m1 : Nat) (a0 : Bs) (a1 a2 a8 a10 : Int) (a12 : Pt) (a16 : Bool) (h : H) : words_hex_J1 n m1 a0 a1 a2 a8 a10 a12 a16 h = cond a16 (words_hex_J3 n m1 a0 a1 a2 (ior .i64 (ishl .i64 a8 4) (IntKind.i64.wrap (IntKind.i32.wrap (a10 - 48)))) a12 h) (cond (decide (a10 ≥ (97 : Int))) (words_hex_J2 n m1 a0 a1 a2 a8 a10 a12 (decide (a10 ≤ (102 : Int))) h) (words_hex_J2 n m1 a0 a1 a2 a8 a10 a12 false h)) := (J_eq T.toTab n e_words_hex [1, 1, 0, 1, 0, 0, 1, 1, 0, 1, 0, 0, 1] [m1] _ h).trans (by kernel_rfl)
theorem words_hex_J3_eq (n m1 : Nat) (a0 : Bs) (a1 a2 a8 : Int) (a12 : Pt) (h : H) : words_hex_J3 n m1 a0 a1 a2 a8 a12 h = cond (decide (a8 > (65535 : Int))) (some ((.tup [(.int .i64 0), (.bool false)]), h)) (words_hex_L0 n m1 a0 a1 a2 a8 a12 h) := (J_eq T.toTab n e_words_hex [1, 1, 0, 1, 0, 0, 1, 1, 0, 1, 1] [m1] _ h).trans (by kernel_rfl)
theorem words_hex_J2_eq (n m1 : Nat) (a0 : Bs) (a1 a2 a8 a10 : Int) (a12 : Pt) (a29 : Bool) (h : H) : words_hex_J2 n m1 a0 a1 a2 a8 a10 a12 a29 h = cond a29 (words_hex_J3 n m1 a0 a1 a2 (ior .i64 (ishl .i64 a8 4) (IntKind.i64.wrap (IntKind.i32.wrap ((IntKind.i32.wrap (a10 - 97)) + 10)))) a12 h) (some ((.tup [(.int .i64 0), (.bool false)]), h)) := (J_eq T.toTab n e_words_hex [1, 1, 0, 1, 0, 0, 1, 1, 0, 1, 0, 0, 1, 1, 1] [m1] _ h).trans (by kernel_rfl)
theorem words_hex_eq (n : Nat) (a0 : Bs) (a1 a2 : Int) (h : H) : ca (n + 1) i_words_hex [(.str a0), (.int .i64 a1), (.int .i64 a2)] h = newK (.siter a0 0) h fun i1 h2 => words_hex_L0 n n a0 a1 a2 0 (some (i1, 0)) h2 := by kernel_rfl
noncomputable def words_AddressText_L0 (n m1 : Nat) (a3_0 : Pt) (a3_1 : Nat) (a3_2 : Cap) (a12_0 : Pt) (a12_1 : Nat) (a12_2 : Cap) (a13 a14 : Int) (h : H) : R := J T.toTab n e_words_AddressText [1, 1, 0, 1, 0, 1, 0, 0, 1, 0] [m1] [(3, (.slice a3_0 a3_1 a3_2)), (12, (.slice a12_0 a12_1 a12_2)), (13, (.int .i64 a13)), (14, (.int .i64 a14))] h
noncomputable def words_AddressText_L1 (n m1 : Nat) (a0 : Bs) (a3_0 : Pt) (a3_1 : Nat) (a3_2 : Cap) (a6 : Int) (h : H) : R := J T.toTab n e_words_AddressText [1, 1, 0, 1, 0, 1, 1, 1, 0, 0, 1, 0] [m1] [(0, (.str a0)), (3, (.slice a3_0 a3_1 a3_2)), (6, (.int .i64 a6))] h
theorem words_AddressText_L0_eq (n m1 : Nat) (a3_0 : Pt) (a3_1 : Nat) (a3_2 : Cap) (a12_0 : Pt) (a12_1 : Nat) (a12_2 : Cap) (a13 a14 : Int) (h : H) : words_AddressText_L0 n (m1 + 1) a3_0 a3_1 a3_2 a12_0 a12_1 a12_2 a13 a14 h = cond (decide (a14 < a13)) (if 0 ≤ (a14 : Int) ∧ a14 < (Nat.cast (a12_1) : Int) then nnK a12_0 fun b3 o4 => cellK h b3 (o4 + a14.toNat) fun v5 => asInt .u8 v5 fun x6 => (ca n i_strconv_Itoa [(.int .i64 (IntKind.i64.wrap x6))] h).bind fun q7 => asStr q7.1 fun x8 => newK (.cells [(.str x8)] false) q7.2 fun i9 h10 => appK 1 16 a3_0 a3_1 a3_2 (evSrc 1 (.slice (some (i9, 0)) 1 (.known 1)) h10) h10 fun p11 n12 c13 h14 => words_AddressText_L0 n m1 p11 n12 c13 a12_0 a12_1 a12_2 a13 (IntKind.i64.wrap (a14 + 1)) h14 else none) ((ca n i_strings_Join [(.slice a3_0 a3_1 a3_2), (.str (⟨#[46]⟩ : ByteArray))] h).bind fun q15 => asStr q15.1 fun x16 => some ((.str x16), q15.2)) := (J_eq T.toTab n e_words_AddressText [1, 1, 0, 1, 0, 1, 0, 0, 1, 0] [m1 + 1] _ h).trans (by kernel_rfl)
theorem words_AddressText_L1_eq (n m1 : Nat) (a0 : Bs) (a3_0 : Pt) (a3_1 : Nat) (a3_2 : Cap) (a6 : Int) (h : H) : words_AddressText_L1 n (m1 + 1) a0 a3_0 a3_1 a3_2 a6 h = cond (decide (a6 < (16 : Int))) (byteK a0 a6 fun y17 => byteK a0 (IntKind.i64.wrap (a6 + 1)) fun y18 => (ca n i_strconv_FormatInt [(.int .i64 (ior .i64 (ishl .i64 (IntKind.i64.wrap y17) 8) (IntKind.i64.wrap y18))), (.int .i64 16)] h).bind fun q19 => asStr q19.1 fun x20 => newK (.cells [(.str x20)] false) q19.2 fun i21 h22 => appK 1 16 a3_0 a3_1 a3_2 (evSrc 1 (.slice (some (i21, 0)) 1 (.known 1)) h22) h22 fun p23 n24 c25 h26 => words_AddressText_L1 n m1 a0 p23 n24 c25 (IntKind.i64.wrap (a6 + 2)) h26) ((ca n i_strings_Join [(.slice a3_0 a3_1 a3_2), (.str (⟨#[58]⟩ : ByteArray))] h).bind fun q27 => asStr q27.1 fun x28 => some ((.str x28), q27.2)) := (J_eq T.toTab n e_words_AddressText [1, 1, 0, 1, 0, 1, 1, 1, 0, 0, 1, 0] [m1 + 1] _ h).trans (by kernel_rfl)
theorem words_AddressText_eq (n : Nat) (a0 : Bs) (h : H) : ca (n + 1) i_words_AddressText [(.str a0)] h = cond (((Nat.cast a0.size) : Int) == (4 : Int)) (newK (.cells (a0.data.toList.map fun c => AV.int .u8 c.toNat) false) h fun i1 h2 => words_AddressText_L0 n n none 0 (.known 0) (some (i1, 0)) a0.size (.rest 1) (Nat.cast a0.size) 0 h2) (cond (((Nat.cast a0.size) : Int) == (16 : Int)) (words_AddressText_L1 n n a0 none 0 (.known 0) 0 h) (some ((.str (⟨#[]⟩ : ByteArray)), h))) := by kernel_rfl
noncomputable def words_Address_J0 (n : Nat) (a0 : Bs) (a4_0 : Pt) (a4_1 : Nat) (a4_2 : Cap) (a17 : Bool) (h : H) : R := J T.toTab n e_words_Address [1, 1, 0, 1] [] [(0, (.str a0)), (4, (.slice a4_0 a4_1 a4_2)), (17, (.bool a17))] h
noncomputable def words_Address_J1 (n : Nat) (a6_0 : Pt) (a6_1 : Nat) (a6_2 : Cap) (a30 : Bool) (h : H) : R := J T.toTab n e_words_Address [1, 1, 1, 1, 0, 1] [] [(6, (.slice a6_0 a6_1 a6_2)), (30, (.bool a30))] h
theorem words_Address_J0_eq (n : Nat) (a0 : Bs) (a4_0 : Pt) (a4_1 : Nat) (a4_2 : Cap) (a17 : Bool) (h : H) : words_Address_J0 n a0 a4_0 a4_1 a4_2 a17 h = cond a17 (bsK h (.slice a4_0 a4_1 a4_2) fun s9 => some ((.tup [(.str s9), (.bool true)]), h)) ((ca n i_words_groups [(.str a0), (.str (⟨#[58]⟩ : ByteArray)), (.int .i64 2), (.func i_words_Address_2 [] [])] h).bind fun q10 => asTup q10.1 fun l11 => lL l11 fun x13 n14 c15 l12 => lB l12 fun x17 l16 => l0 l16 (cond x17 (words_Address_J1 n x13 n14 c15 (((Nat.cast n14) : Int) == (16 : Int)) q10.2) (words_Address_J1 n x13 n14 c15 false q10.2))) := (J_eq T.toTab n e_words_Address [1, 1, 0, 1] [] _ h).trans (by kernel_rfl)
theorem words_Address_J1_eq (n : Nat) (a6_0 : Pt) (a6_1 : Nat) (a6_2 : Cap) (a30 : Bool) (h : H) : words_Address_J1 n a6_0 a6_1 a6_2 a30 h = cond a30 (bsK h (.slice a6_0 a6_1 a6_2) fun s18 => some ((.tup [(.str s18), (.bool true)]), h)) (some ((.tup [(.str (⟨#[]⟩ : ByteArray)), (.bool false)]), h)) := (J_eq T.toTab n e_words_Address [1, 1, 1, 1, 0, 1] [] _ h).trans (by kernel_rfl)
theorem words_Address_eq (n : Nat) (a0 : Bs) (h : H) : ca (n + 1) i_words_Address [(.str a0)] h = (ca n i_words_groups [(.str a0), (.str (⟨#[46]⟩ : ByteArray)), (.int .i64 1), (.func i_words_Address_1 [] [])] h).bind fun q1 => asTup q1.1 fun l2 => lL l2 fun x4 n5 c6 l3 => lB l3 fun x8 l7 => l0 l7 (cond x8 (words_Address_J0 n a0 x4 n5 c6 (((Nat.cast n5) : Int) == (4 : Int)) q1.2) (words_Address_J0 n a0 x4 n5 c6 false q1.2)) := by kernel_rfl
theorem config_parser_card_1_eq (n : Nat) (a0 a1 : Pt) (h : H) : ca (n + 1) i_config_parser_card_1 [(.ptr a0), (.ptr a1)] h = nnK a0 fun b1 o2 => cellK h b1 o2 fun v3 => asPtr v3 fun x4 => (ca n i_config_parser_value [(.ptr x4)] h).bind fun q5 => asTup q5.1 fun l6 => lS l6 fun x8 l7 => lI l7 fun x10 l9 => lB l9 fun x12 l11 => l0 l11 ((ca n i_words_Card [(.str x8)] q5.2).bind fun q13 => asTup q13.1 fun l14 => lA l14 fun x16 l15 => lB l15 fun x18 l17 => l0 l17 (newK (.cells [(.int .u8 0), (.int .u8 0), (.int .u8 0), (.int .u8 0), (.int .u8 0), (.int .u8 0)] false) q13.2 fun i19 h20 => wrK h20 i19 0 6 x16 fun h21 => cond (!x12) (some ((.bool false), h21)) (cond (!x18) (nnK a0 fun b22 o23 => cellK h21 b22 o23 fun v24 => asPtr v24 fun x25 => (ca n i_config_parser_fail [(.ptr x25), (.int .i64 x10), (.int .i64 182)] h21).bind fun q26 => asBool q26.1 fun x27 => some ((.bool x27), q26.2)) (nnK a1 fun b28 o29 => cellK h21 b28 o29 fun v30 => asPtr v30 fun x31 => aggK h21 i19 0 6 fun l32 => nnK x31 fun b33 o34 => wrK h21 b33 o34 6 l32 fun h35 => nnK a0 fun b36 o37 => cellK h35 b36 o37 fun v38 => asPtr v38 fun x39 => (ca n i_config_parser_must [(.ptr x39), (.str (⟨#[10]⟩ : ByteArray))] h35).bind fun q40 => asBool q40.1 fun x41 => some ((.bool x41), q40.2))))) := by kernel_rfl
noncomputable def api_Addr_2_L0 (n m1 : Nat) (a0_0 : Pt) (a0_1 : Nat) (a0_2 : Cap) (a1 : Bs) (a7 a8 : Int) (h : H) : R := J T.toTab n e_api_Addr_2 [1, 0, 1, 0] [m1] [(0, (.slice a0_0 a0_1 a0_2)), (1, (.str a1)), (7, (.int .i64 a7)), (8, (.int .i64 a8))] h
theorem api_Addr_2_L0_eq (n m1 : Nat) (a0_0 : Pt) (a0_1 : Nat) (a0_2 : Cap) (a1 : Bs) (a7 a8 : Int) (h : H) : api_Addr_2_L0 n (m1 + 1) a0_0 a0_1 a0_2 a1 a7 a8 h = cond (decide (a8 < a7)) (if 0 ≤ (a8 : Int) ∧ a8 < (Nat.cast (a0_1) : Int) then nnK a0_0 fun b1 o2 => cellK h b1 (o2 + a8.toNat) fun v3 => asStr v3 fun x4 => cond (a1.toList == x4.toList) (some ((.int .i64 a8), h)) (api_Addr_2_L0 n m1 a0_0 a0_1 a0_2 a1 a7 (IntKind.i64.wrap (a8 + 1)) h) else none) (some ((.int .i64 (-1)), h)) := (J_eq T.toTab n e_api_Addr_2 [1, 0, 1, 0] [m1 + 1] _ h).trans (by kernel_rfl)
theorem api_Addr_2_eq (n : Nat) (a0_0 : Pt) (a0_1 : Nat) (a0_2 : Cap) (a1 : Bs) (h : H) : ca (n + 1) i_api_Addr_2 [(.slice a0_0 a0_1 a0_2), (.str a1)] h = api_Addr_2_L0 n n a0_0 a0_1 a0_2 a1 (Nat.cast a0_1) 0 h := by kernel_rfl
theorem config_parser_named_eq (n : Nat) (a0 a1_0 : Pt) (a1_1 : Nat) (a1_2 : Cap) (h : H) : ca (n + 1) i_config_parser_named [(.ptr a0), (.slice a1_0 a1_1 a1_2)] h = (ca n i_config_parser_value [(.ptr a0)] h).bind fun q1 => asTup q1.1 fun l2 => lS l2 fun x4 l3 => lI l3 fun x6 l5 => lB l5 fun x8 l7 => l0 l7 (cond (!x8) (some ((.tup [(.str (⟨#[]⟩ : ByteArray)), (.bool false)]), q1.2)) (cond (decide ((Nat.cast x4.size) > (40 : Int))) ((ca n i_config_parser_fail [(.ptr a0), (.int .i64 x6), (.int .i64 182)] q1.2).bind fun q9 => asBool q9.1 fun x10 => some ((.tup [(.str (⟨#[]⟩ : ByteArray)), (.bool x10)]), q9.2)) ((ca n i_slices_Contains_string_string [(.slice a1_0 a1_1 a1_2), (.str x4)] q1.2).bind fun q11 => asBool q11.1 fun x12 => cond x12 ((ca n i_config_parser_fail [(.ptr a0), (.int .i64 x6), (.int .i64 181)] q11.2).bind fun q13 => asBool q13.1 fun x14 => some ((.tup [(.str (⟨#[]⟩ : ByteArray)), (.bool x14)]), q13.2)) (some ((.tup [(.str x4), (.bool true)]), q11.2))))) := by kernel_rfl
theorem config_parser_number_eq (n : Nat) (a0 a1 : Pt) (a2 a3 : Int) (h : H) : ca (n + 1) i_config_parser_number [(.ptr a0), (.ptr a1), (.int .i64 a2), (.int .i64 a3)] h = newK (.cells [(.ptr a0)] false) h fun i1 h2 => newK (.cells [(.ptr a1)] false) h2 fun i3 h4 => newK (.cells [(.int .i64 a2)] false) h4 fun i5 h6 => newK (.cells [(.int .i64 a3)] false) h6 fun i7 h8 => some ((.func i_config_parser_number_1 [] [(.ptr (some (i1, 0))), (.ptr (some (i5, 0))), (.ptr (some (i7, 0))), (.ptr (some (i3, 0)))]), h8) := by kernel_rfl
theorem stringslite_CutPrefix_eq (n : Nat) (a0 a1 : Bs) (h : H) : ca (n + 1) i_stringslite_CutPrefix [(.str a0), (.str a1)] h = (ca n i_stringslite_HasPrefix [(.str a0), (.str a1)] h).bind fun q1 => asBool q1.1 fun x2 => cond (!x2) (some ((.tup [(.str a0), (.bool false)]), q1.2)) (bndK a0.size a0.size 0 (some (.int .i64 (Nat.cast a1.size))) none none fun lo3 hi4 mx5 => some ((.tup [(.str (a0.extract lo3 hi4)), (.bool true)]), q1.2)) := by kernel_rfl
theorem slices_Contains_string_string_eq (n : Nat) (a0_0 : Pt) (a0_1 : Nat) (a0_2 : Cap) (a1 : Bs) (h : H) : ca (n + 1) i_slices_Contains_string_string [(.slice a0_0 a0_1 a0_2), (.str a1)] h = (ca n i_slices_Index_string_string [(.slice a0_0 a0_1 a0_2), (.str a1)] h).bind fun q1 => asInt .i64 q1.1 fun x2 => some ((.bool (decide (x2 ≥ (0 : Int)))), q1.2) := by kernel_rfl
theorem config_parser_card_eq (n : Nat) (a0 a1 : Pt) (h : H) : ca (n + 1) i_config_parser_card [(.ptr a0), (.ptr a1)] h = newK (.cells [(.ptr a0)] false) h fun i1 h2 => newK (.cells [(.ptr a1)] false) h2 fun i3 h4 => some ((.func i_config_parser_card_1 [] [(.ptr (some (i1, 0))), (.ptr (some (i3, 0)))]), h4) := by kernel_rfl
theorem config_into_1_eq (n : Nat) (a0 : Bs) (a1 : Int) (a2 : Pt) (h : H) : ca (n + 1) i_config_into_1 [(.str a0), (.int .i64 a1), (.ptr a2)] h = nnK a2 fun b1 o2 => cellK h b1 o2 fun v3 => asPtr v3 fun x4 => nnK x4 fun b5 o6 => wrK h b5 o6 1 [(.str a0)] fun h7 => some ((.bool true), h7) := by kernel_rfl
theorem strings_Split_eq (n : Nat) (a0 a1 : Bs) (h : H) : ca (n + 1) i_strings_Split [(.str a0), (.str a1)] h = (ca n i_strings_genSplit [(.str a0), (.str a1), (.int .i64 0), (.int .i64 (-1))] h).bind fun q1 => asSlice q1.1 fun x2 n3 c4 => some ((.slice x2 n3 c4), q1.2) := by kernel_rfl
theorem strings_Join_eq (n : Nat) (a0_0 : Pt) (a0_1 : Nat) (a0_2 : Cap) (a1 : Bs) (h : H) : ca (n + 1) i_strings_Join [(.slice a0_0 a0_1 a0_2), (.str a1)] h = (strings_Join_32 n a0_0 a0_1 a0_2 a1 h).bind fun r => some ((.str r.1), r.2) := by kernel_rfl
theorem bytealg_CountString_eq (n : Nat) (a0 : Bs) (a1 : Int) (h : H) : ca (n + 1) i_bytealg_CountString [(.str a0), (.int .u8 a1)] h = (bytealg_CountString_92 n a0 a1 h).bind fun r => some ((.int .i64 r.1), r.2) := by kernel_rfl
theorem strconv_Itoa_eq (n : Nat) (a0 : Int) (h : H) : ca (n + 1) i_strconv_Itoa [(.int .i64 a0)] h = (strconv_Itoa_16 n a0 h).bind fun r => some ((.str r.1), r.2) := by kernel_rfl
theorem outriderlaw18_sample_eq (n : Nat)  (h : H) : ca (n + 1) i_outriderlaw18_sample [] h = some ((.str s_453d3d97), h) := by kernel_rfl
end Go.Ev.Tryd

/- The trailing zeros of sixteen, by the table of math/bits. -/
set_option maxRecDepth 100000
set_option linter.all false
namespace Go.Ev.Tryd
open Go.Proofs
theorem bits_TrailingZeros64_16 (n : Nat) (h : H) : ca (n + 1) i_bits_TrailingZeros64 [(.int .u64 16)] h = cellK h 1 15 fun v1 => asInt .u8 v1 fun x2 => some ((.int .i64 (IntKind.i64.wrap x2)), h) := by kernel_rfl
end Go.Ev.Tryd

/- What the functions of chapter 17 compute, in plain lists: strings.Split at one byte; numbers, digits. -/
namespace Go.Ev.Tryd
set_option maxRecDepth 10000
open Go.Proofs
def parts (c : UInt8) : List UInt8 → List (List UInt8)
 | [] => [[]]
 | b :: l => if b = c then [] :: parts c l else match parts c l with | p :: ps => (b :: p) :: ps | [] => [[b]]
theorem parts_ne (c : UInt8) : ∀ l, parts c l ≠ []
 | [] => by simp [parts]
 | b :: l => by
  unfold parts
  split
  ·simp
  ·split <;> simp
theorem parts_none {c : UInt8} : ∀ {l : List UInt8}, c ∉ l → parts c l = [l]
 | [], _ => rfl
 | b :: l, h => by
  simp only [List.mem_cons, not_or] at h
  unfold parts
  rw [if_neg (fun e => h.1 e.symm), parts_none h.2]
theorem parts_split {c : UInt8} : ∀ {a : List UInt8} (l : List UInt8), c ∉ a → parts c (a ++ c :: l) = a :: parts c l
 | [], l, _ => by simp [parts]
 | b :: a, l, h => by
  simp only [List.mem_cons, not_or] at h
  rw [List.cons_append, parts, if_neg (fun e => h.1 e.symm), parts_split l h.2]
theorem parts_len (c : UInt8) : ∀ l : List UInt8, (parts c l).length = l.count c + 1
 | [] => rfl
 | b :: l => by
  have ih := parts_len c l
  unfold parts
  split
  ·rename_i h; subst h; simp [ih]
  ·rename_i h
   rw [List.count_cons_of_ne h]
   split
   ·rename_i p ps hp; rw [hp] at ih; simpa using ih
   ·rename_i hp; exact absurd hp (parts_ne c l)
theorem mem_split {c : UInt8} : ∀ {l : List UInt8}, c ∈ l → ∃ a b, l = a ++ c :: b ∧ c ∉ a
 | x :: l, h => by
  by_cases e : c = x
  ·subst e; exact ⟨[], l, rfl, by simp⟩
  ·obtain ⟨a, b, rfl, hn⟩ := mem_split ((List.mem_cons.1 h).resolve_left e)
   exact ⟨x :: a, b, rfl, by simp [e, hn]⟩
theorem index_split {c : UInt8} : ∀ {a : List UInt8} (b : List UInt8), c ∉ a → Lib.indexByte (a ++ c :: b) c = a.length
 | [], b, _ => by simp [Lib.indexByte]
 | x :: a, b, h => by
  simp only [List.mem_cons, not_or] at h
  rw [List.cons_append, Lib.indexByte, index_split b h.2, if_neg (by simpa using fun e => h.1 e.symm), if_neg (by simp)]
  simp
theorem u8_of (c : UInt8) : ((c.toNat : Nat) : Int).toNat.toUInt8 = c := by simp
theorem Index_eq (n : Nat) {s : ByteArray} {c : UInt8} (hs : bs s ≠ [c] ) (h : H) : ca (n + 4) i_strings_Index [.str s, .str (mk [c])] h = some (.int .i64 (Lib.indexByte (bs s) c), h) := by
 rw [strings_Index_eq, stringslite_Index_eq]
 rw [show (((mk [c]).size : Nat) : Int) = 1 from rfl, show ((1 : Int) == 0) = false by decide, cond_false, str_eq, decide_eq_false (fun e => hs (by rw [← e, bs_mk])), stringslite_Index_J0_eq, cond_false, show ((1 : Int) == 1) = true by decide, cond_true]
 rw [show (0 : Int) = ((0 : Nat) : Int) from rfl, byteK_of (i := 0) (b := c) rfl, stringslite_IndexByte_eq, bytealg_IndexByteString_eq, bytealg_IndexByteString_99_eq]
 simp only [Option.bind_some, indexF, u8_of, asInt_int]
 rfl
theorem Index_one (n : Nat) (c : UInt8) (h : H) : ca (n + 4) i_strings_Index [.str (mk [c]), .str (mk [c])] h = some (.int .i64 0, h) := by
 rw [strings_Index_eq, stringslite_Index_eq]
 rw [show (((mk [c]).size : Nat) : Int) = 1 from rfl, show ((1 : Int) == 0) = false by decide, cond_false, str_eq, decide_eq_true rfl, stringslite_Index_J0_eq, cond_true]
 simp only [Option.bind_some, asInt_int]
theorem Count_eq (n : Nat) (s : ByteArray) (c : UInt8) (h : H) : ca (n + 2) i_strings_Count [.str s, .str (mk [c])] h = some (.int .i64 (((bs s).count c : Nat) : Int), h) := by
 rw [strings_Count_eq]
 rw [show (((mk [c]).size : Nat) : Int) = 1 from rfl, show ((1 : Int) == 0) = false by decide, cond_false, show ((1 : Int) == 1) = true by decide, cond_true]
 rw [show (0 : Int) = ((0 : Nat) : Int) from rfl, byteK_of (i := 0) (b := c) rfl, bytealg_CountString_eq, bytealg_CountString_92_eq]
 simp only [Option.bind_some, countF, u8_of, Lib.countByte, asInt_int]
 rfl
theorem bnd_from {β : Type} {s : ByteArray} {lo : Int} (h0 : 0 ≤ lo) (h1 : lo ≤ s.size) (f : Nat → Nat → Nat → Option β) : bndK s.size s.size 0 (some (.int .i64 lo)) none none f = f lo.toNat s.size s.size := by
 simp [bndK, evBounds, evBound, h0, h1]
theorem bnd_upto {β : Type} {s : ByteArray} {hi : Int} (h0 : 0 ≤ hi) (h1 : hi ≤ s.size) (f : Nat → Nat → Nat → Option β) : bndK s.size s.size 0 none (some (.int .i64 hi)) none f = f 0 hi.toNat s.size := by
 simp [bndK, evBounds, evBound, h0, h1]
theorem bnd_both {β : Type} {s : ByteArray} {k k' : IntKind} {lo hi : Int} (h0 : 0 ≤ lo) (h1 : lo ≤ hi) (h2 : hi ≤ s.size) (f : Nat → Nat → Nat → Option β) : bndK s.size s.size 0 (some (.int k lo)) (some (.int k' hi)) none f = f lo.toNat hi.toNat s.size := by
 have : 0 ≤ hi := by omega
 have h3 : lo ≤ ((hi.toNat : Nat) : Int) := by omega
 simp only [bndK, evBounds, evBound, Option.bind_some]
 rw [if_pos ⟨this, h2⟩]
 simp only [Option.bind_some]
 rw [if_pos ⟨h0, h3⟩]
 rfl
theorem Split_loop {b N : Nat} (c : UInt8) (n : Nat) (hn : 4 ≤ n) (hN : N < 100000) : ∀ (k : Nat) (s : ByteArray) (ps : List ByteArray) (m : Nat) (h : H), (bs s).count c = k → ps.length + k + 1 = N → k < m → s.size < 100000 → b < h.next → h.get b = some (.cells (ps.map AV.str ++ List.replicate (k + 1) (.str .empty)) false) →
  ∃ p' c', strings_genSplit_L1 n m s (mk [c]) 0 ((N - 1 : Nat) : Int) (some (b, 0)) N (.known N) ps.length h = some (.slice p' N c', h.set b (.cells ((ps ++ (parts c (bs s)).map mk).map AV.str) false)) ∧
   Row (h.set b (.cells ((ps ++ (parts c (bs s)).map mk).map AV.str) false)) 1 p' N c' ((ps ++ (parts c (bs s)).map mk).map AV.str)
 | 0, s, ps, m + 1, h, hk, hl, _, hs, hb, hg => by
  have hno : c ∉ bs s := List.count_eq_zero.1 hk
  have hp : ps ++ (parts c (bs s)).map mk = ps ++ [s] := by rw [parts_none hno]; simp [mk_bs]
  rw [hp, strings_genSplit_L1_eq, cast_not_lt (by omega), cond_false, strings_genSplit_J2_eq, if_pos ⟨by omega, by omega⟩]
  simp only [nnK_some', Nat.zero_add]
  rw [show ((ps.length : Nat) : Int).toNat = ps.length from rfl, wrK_one hg (by simp) rfl]
  have hset : ((ps.map AV.str ++ List.replicate (0 + 1) (AV.str .empty)).set ps.length (.str s)) = (ps ++ [s]).map AV.str := by
   rw [List.set_append_right _ _ (by simp)]; simp
  rw [hset]
  have hrow : Row (h.set b (.cells ((ps ++ [s]).map AV.str) false)) 1 (some (b, 0)) N (.known N) ((ps ++ [s]).map AV.str) :=
   .row hb (get_set_self _ _ _) (by rw [List.drop_zero, List.take_of_length_le (by simp; omega)]) (by simp; omega) (.inr ⟨N, rfl, Nat.le_refl _⟩)
  obtain ⟨p', c', r', _, e⟩ := hrow.upto (β := AV × H) (k := .i64) (hi := ((ps.length + 1 : Nat) : Int)) (by omega) (by omega)
  rw [wrap_succ (by omega), e]
  refine ⟨p', c', by rw [show ((ps.length + 1 : Nat) : Int).toNat = N by omega], ?_⟩
  rw [show ((ps.length + 1 : Nat) : Int).toNat = N by omega] at r'
  rwa [List.take_of_length_le (by simp; omega)] at r'
 | k + 1, s, ps, m + 1, h, hk, hl, hm, hs, hb, hg => by
  have hmem : c ∈ bs s := List.count_pos_iff.1 (by omega)
  obtain ⟨a, r, hsp, hna⟩ := mem_split hmem
  have hidx : ca n i_strings_Index [.str s, .str (mk [c])] h = some (.int .i64 ((a.length : Nat) : Int), h) := by
   obtain ⟨n, rfl⟩ : ∃ m, n = m + 4 := ⟨n - 4, by omega⟩
   by_cases h1 : bs s = [c]
   ·have : s = mk [c] := by rw [← mk_bs s, h1]
    rw [this, Index_one]
    have ha : a = [] := by
     rw [h1] at hsp
     cases a with
     | nil => rfl
     | cons x a => have := congrArg List.length hsp; simp at this
    rw [ha]; rfl
   ·rw [Index_eq n h1, hsp, index_split r hna]
  have hsz : s.size = a.length + 1 + r.length := by rw [← bs_len, hsp]; simp; omega
  rw [strings_genSplit_L1_eq, cast_lt (by omega), cond_true, hidx, Option.bind_some]
  simp only [asInt_int]
  rw [show decide (((a.length : Nat) : Int) < 0) = false by simp, cond_false, show IntKind.i64.wrap (((a.length : Nat) : Int) + 0) = ((a.length : Nat) : Int) by rw [wrap_i64 (by omega) (by omega)]; simp, bnd_upto (by omega) (by omega), if_pos ⟨by omega, by omega⟩]
  simp only [nnK_some', Nat.zero_add]
  rw [show ((ps.length : Nat) : Int).toNat = ps.length from rfl, show ((a.length : Nat) : Int).toNat = a.length from rfl, wrK_one hg (by simp) rfl, show (((mk [c]).size : Nat) : Int) = 1 from rfl, wrap_succ (by omega), bnd_from (by omega) (by omega), wrap_succ (by omega)]
  have hx1 : s.extract 0 a.length = mk a := bs_inj (by rw [bs_extract, bs_mk, hsp]; simp)
  have hx2 : s.extract ((a.length + 1 : Nat) : Int).toNat s.size = mk r := bs_inj (by
   rw [bs_extract, bs_mk, hsp, show ((a.length + 1 : Nat) : Int).toNat = a.length + 1 from rfl, hsz, show a.length + 1 + r.length - (a.length + 1) = r.length by omega]
   rw [List.drop_append, List.drop_of_length_le (by omega), show a.length + 1 - a.length = 1 by omega]; simp)
  have hset : ((ps.map AV.str ++ List.replicate (k + 1 + 1) (AV.str .empty)).set ps.length (.str (s.extract 0 a.length))) = (ps ++ [mk a]).map AV.str ++ List.replicate (k + 1) (.str .empty) := by
   rw [hx1, List.set_append_right _ _ (by simp)]
   simp [List.replicate_succ]
  have hcount : (bs (mk r)).count c = k := by
   rw [bs_mk]
   rw [hsp, List.count_append, List.count_eq_zero.2 hna, List.count_cons_self] at hk
   omega
  rw [hset, hx2, show ps.length + 1 = (ps ++ [mk a]).length by simp]
  obtain ⟨p', c', e, r'⟩ := Split_loop (b := b) (N := N) c n hn hN k (mk r) (ps ++ [mk a]) m (h.set b (.cells ((ps ++ [mk a]).map AV.str ++ List.replicate (k + 1) (.str .empty)) false)) hcount (by simp; omega) (by omega) (by rw [size_mk]; omega) hb (get_set_self _ _ _)
  rw [set_set] at e r'
  rw [bs_mk] at e r'
  have hfin : ps ++ [mk a] ++ (parts c r).map mk = ps ++ (parts c (bs s)).map mk := by rw [hsp, parts_split r hna]; simp
  rw [hfin] at e r'
  exact ⟨p', c', e, r'⟩
theorem Split_ret {s : ByteArray} (hs : s.size < 90000) (c : UInt8) {n : Nat} (hn : s.size + 10 ≤ n) (h : H) :
  Ret (ca n i_strings_Split [.str s, .str (mk [c])] h) fun v h' => Mod [] h h' ∧ ∃ p d, v = .slice p (parts c (bs s)).length d ∧ Row h' 1 p (parts c (bs s)).length d (((parts c (bs s)).map mk).map AV.str) := by
 obtain ⟨n, rfl⟩ : ∃ m, n = m + 4 := ⟨n - 4, by omega⟩
 rw [strings_Split_eq, strings_genSplit_eq, show ((-1 : Int) == 0) = false by decide, cond_false, str_eq, decide_eq_false (fun e => by have := congrArg ByteArray.size e; rw [size_mk] at this; cases this), cond_false, show decide ((-1 : Int) < 0) = true by decide, cond_true, Count_eq, Option.bind_some]
 simp only [asInt_int]
 have hc : (bs s).count c ≤ s.size := by rw [← bs_len]; exact List.count_le_length
 rw [wrap_succ (by omega), strings_genSplit_J0_eq, wrap_succ (by omega)]
 rw [if_neg (by omega), mkSlK_of h (by omega) (by decide), wrap_i64 (by omega) (by omega), Nat.mul_one, evTile_one]
 obtain ⟨p', c', e, r'⟩ := Split_loop (b := h.next) (N := (bs s).count c + 1) c (n + 2) (by omega) (by omega) ((bs s).count c) s [] (n + 2) (h.new (.cells (List.replicate ((bs s).count c + 1) (.str .empty)) false)) rfl (by simp) (by omega) (by omega) (by simp) (get_new_self _ _)
 rw [show (((bs s).count c + 1 : Nat) : Int) - 1 = (((bs s).count c + 1 - 1 : Nat) : Int) by omega]
 rw [show ((([] : List ByteArray).length : Nat) : Int) = 0 from rfl] at e
 rw [e, Option.bind_some]
 simp only [asSlice_slice]
 rw [← parts_len] at r' ⊢
 refine .pure ⟨?_, p', c', rfl, by simpa using r'⟩
 exact ((Mod.refl _ _).new _).set (.inl (Nat.le_refl _)) _
end Go.Ev.Tryd

/- What the functions of chapter 17 compute, in plain lists: numbers, hexadecimal numbers, groups of them. -/
namespace Go.Ev.Tryd
set_option maxRecDepth 10000
open Go.Proofs
theorem nextK_end {β : Type} {h : H} {b : Nat} {s : ByteArray} {pos : Nat} (hg : h.get b = some (.siter s pos)) (hp : s.size ≤ pos) (f : Int → Int → H → Option β) (g : Option β) : nextK h b f g = g := by
 simp only [nextK, hg]; rw [if_neg (by omega)]
theorem nextK_ascii {β : Type} {h : H} {b : Nat} {s : ByteArray} {pos : Nat} {x : UInt8} (hg : h.get b = some (.siter s pos)) (hx : (bs s)[pos]? = some x) (ha : x.toNat < 128) (f : Int → Int → H → Option β) (g : Option β) : nextK h b f g = f pos x.toNat (h.set b (.siter s (pos + 1))) := by
 have hl : pos < s.size := by have := (List.getElem?_eq_some_iff.1 hx).1; rw [bs_len] at this; exact this
 rw [bs_get hl] at hx
 cases hx
 simp only [nextK, hg]
 rw [if_pos hl, decode_ascii s pos hl ha]
theorem nextK_other {β : Type} {h : H} {b : Nat} {s : ByteArray} {pos : Nat} {x : UInt8} (hg : h.get b = some (.siter s pos)) (hx : (bs s)[pos]? = some x) (ha : ¬ x.toNat < 128) : ∃ (c : Nat) (w : Nat), 128 ≤ c ∧ ∀ (f : Int → Int → H → Option β) (g : Option β), nextK h b f g = f pos c (h.set b (.siter s (pos + w))) := by
 have hl : pos < s.size := by have := (List.getElem?_eq_some_iff.1 hx).1; rw [bs_len] at this; exact this
 rw [bs_get hl] at hx
 cases hx
 refine ⟨(Utf8.decode s pos).1, (Utf8.decode s pos).2, decode_ge hl (by omega), fun f g => ?_⟩
 simp only [nextK, hg]
 rw [if_pos hl]
/-- an answer of a number and a truth value -/
def enIB (r : Int × Bool) : AV := .tup [.int .i64 r.1, .bool r.2]
def isDig (x : UInt8) : Bool := decide (48 ≤ x.toNat) && decide (x.toNat ≤ 57)
def numL : Int → List UInt8 → Int × Bool
 | n, [] => (n, true)
 | n, x :: l => if isDig x = true then numL (10 * n + ((x.toNat : Int) - 48)) l else (0, false)
/-- what a text is as a number -/
def numP (l : List UInt8) : Int × Bool := if l = [] ∨ 9 < l.length ∨ (l.head? = some 48 ∧ l ≠ [48]) then (0, false) else numL 0 l
theorem pow10_le {k : Nat} (h : k ≤ 9) : (10 : Int) ^ k ≤ 1000000000 := by
 have : ∀ k : Fin 10, (10 : Int) ^ k.val ≤ 1000000000 := by decide
 exact this ⟨k, by omega⟩
theorem wrap_i32 {x : Int} (h0 : -2147483648 ≤ x) (h1 : x < 2147483648) : IntKind.i32.wrap x = x := by
 simp only [IntKind.wrap, IntKind.bits, IntKind.signed]
 simp; split <;> omega
theorem Number_loop {a : H} {b : Nat} (hb : a.next ≤ b) {s : ByteArray} (n : Nat) : ∀ (l : List UInt8) (pos m : Nat) (acc : Int) (h : H), (bs s).drop pos = l → pos ≤ 9 → s.size ≤ 9 → l.length < m → 0 ≤ acc → acc < 10 ^ pos → Mod [] a h → h.get b = some (.siter s pos) →
  Ret (words_Number_L1 n m acc (some (b, 0)) h) fun r h' => Mod [] a h' ∧ r = enIB (numL acc l)
 | [], pos, m + 1, acc, h, hd, _, h9, _, _, _, hm, hg => by
  rw [words_Number_L1_eq]
  simp only [nnK_some']
  have := List.drop_eq_nil_iff.1 hd
  rw [bs_len] at this
  rw [nextK_end hg this]
  exact .pure ⟨hm, rfl⟩
 | x :: l, pos, m + 1, acc, h, hd, hp9, h9, hl, h0, h1, hm, hg => by
  have hx : (bs s)[pos]? = some x := by have := congrArg (·[0]?) hd; simpa using this
  have hpl : pos < s.size := by have := (List.getElem?_eq_some_iff.1 hx).1; rw [bs_len] at this; exact this
  have hd' : (bs s).drop (pos + 1) = l := by rw [← List.drop_drop, hd]; rfl
  have h10 := pow10_le hp9
  rw [words_Number_L1_eq]
  simp only [nnK_some']
  by_cases ha : x.toNat < 128
  ·rw [nextK_ascii hg hx ha]
   have hm' : Mod [] a (h.set b (.siter s (pos + 1))) := hm.set (.inl hb) _
   unfold numL isDig
   by_cases h48 : 48 ≤ x.toNat
   ·rw [show decide (((x.toNat : Nat) : Int) < 48) = false by simp; omega, cond_false, words_Number_J2_eq]
    by_cases h57 : x.toNat ≤ 57
    ·rw [show decide (((x.toNat : Nat) : Int) > 57) = false by simp; omega, cond_false, decide_eq_true h48, decide_eq_true h57]
     simp only [Bool.and_self, if_true]
     rw [wrap_i64 (x := 10 * acc) (by omega) (by omega), wrap_i32 (by omega) (by omega), wrap_i64 (x := (x.toNat : Int) - 48) (by omega) (by omega), wrap_i64 (by omega) (by omega)]
     refine Number_loop hb n l (pos + 1) m _ _ hd' (by omega) h9 (by simp at hl; omega) (by omega) ?_ hm' (get_set_self _ _ _)
     rw [Int.pow_succ]; omega
    ·rw [show decide (((x.toNat : Nat) : Int) > 57) = true by simp; omega, cond_true, decide_eq_false h57, Bool.and_false]
     exact .pure ⟨hm', rfl⟩
   ·rw [show decide (((x.toNat : Nat) : Int) < 48) = true by simp; omega, cond_true, words_Number_J2_eq, cond_true, decide_eq_false h48, Bool.false_and]
    exact .pure ⟨hm', rfl⟩
  ·obtain ⟨c, w, hc, e⟩ := nextK_other (β := AV × H) hg hx ha
   rw [e, show decide (((c : Nat) : Int) < 48) = false by simp; omega, cond_false, words_Number_J2_eq, show decide (((c : Nat) : Int) > 57) = true by simp; omega, cond_true]
   refine .pure ⟨hm.set (.inl hb) _, ?_⟩
   unfold numL isDig
   rw [decide_eq_false (show ¬ x.toNat ≤ 57 by omega), Bool.and_false]
   rfl
theorem Number_ret (s : ByteArray) {n : Nat} (hn : 20 ≤ n) (h : H) : Ret (ca n i_words_Number [.str s] h) fun r h' => Mod [] h h' ∧ r = enIB (numP (bs s)) := by
  obtain ⟨n, rfl⟩ : ∃ m, n = m + 1 := ⟨n - 1, by omega⟩
  rw [words_Number_eq, str_eq]
  by_cases h0 : s = ⟨#[]⟩
  · rw [decide_eq_true h0, cond_true, words_Number_J0_eq, cond_true]
    exact .pure ⟨.refl _ _, by subst h0; rfl⟩
  · have hne : bs s ≠ [] := fun e => h0 (bs_inj (by rw [e]; rfl))
    rw [decide_eq_false h0, cond_false]
    by_cases h9 : s.size ≤ 9
    · rw [show decide ((s.size : Int) > 9) = false by simp; omega, cond_false]
      obtain ⟨x, l, hxl⟩ := List.exists_cons_of_ne_nil hne
      rw [show (0 : Int) = ((0 : Nat) : Int) from rfl, byteK_of (i := 0) (b := x) (by rw [hxl]; rfl)]
      have go : ¬ (bs s = [] ∨ 9 < (bs s).length ∨ ((bs s).head? = some 48 ∧ bs s ≠ [48])) → Ret (words_Number_J0 n s false h) fun r h' => Mod [] h h' ∧ r = enIB (numP (bs s)) := fun hc => by
        rw [words_Number_J0_eq, cond_false]
        simp only [newK_eq]
        rw [numP, if_neg hc]
        exact Number_loop (Nat.le_refl _) n (bs s) 0 n 0 _ rfl (by omega) h9 (by rw [bs_len]; omega) (by omega) (by decide) ((Mod.refl _ _).new _) (get_new_self _ _)
      by_cases h48 : x = 48
      · subst h48
        rw [show ((((48 : UInt8).toNat : Nat) : Int) == 48) = true by decide, cond_true, str_eq]
        by_cases hs : s = ⟨#[48]⟩
        · rw [decide_eq_true hs, Bool.not_true]
          refine go ?_
          subst hs
          decide
        · rw [decide_eq_false hs, Bool.not_false, words_Number_J0_eq, cond_true]
          refine .pure ⟨.refl _ _, ?_⟩
          rw [numP, if_pos (.inr (.inr ⟨by rw [hxl]; rfl, fun e => hs (bs_inj (by rw [e]; rfl))⟩))]; rfl
      · rw [show ((x.toNat : Int) == 48) = false by
          rw [beq_eq_false_iff_ne]
          intro e
          exact h48 (UInt8.toNat_inj.1 (by have : x.toNat = 48 := by omega
                                           simpa using this)), cond_false]
        refine go ?_
        rw [hxl]
        simp
        exact ⟨by have := bs_len s; rw [hxl] at this; simp at this; omega, fun e => absurd e h48⟩
    · rw [show decide ((s.size : Int) > 9) = true by simp; omega, cond_true, words_Number_J0_eq, cond_true]
      refine .pure ⟨.refl _ _, ?_⟩
      rw [numP, if_pos (.inr (.inl (by rw [bs_len]; omega)))]; rfl
def hexD (x : UInt8) : Option Int := if isDig x = true then some ((x.toNat : Int) - 48) else if 97 ≤ x.toNat ∧ x.toNat ≤ 102 then some ((x.toNat : Int) - 87) else none
def hexL : Int → List UInt8 → Option Int
 | n, [] => some n
 | n, x :: l => match hexD x with | none => none | some d => if 65535 < 16 * n + d then none else hexL (16 * n + d) l
theorem ior_hex {x d : Int} (hx : 0 ≤ x) (hx2 : x < 1099511627776) (hd : 0 ≤ d) (hd2 : d < 16) : ior .i64 (ishl .i64 x 4) d = 16 * x + d := by
 obtain ⟨a, rfl⟩ := Int.eq_ofNat_of_zero_le hx
 obtain ⟨b, rfl⟩ := Int.eq_ofNat_of_zero_le hd
 have h1 : ishl .i64 (a : Int) 4 = ((a * 16 : Nat) : Int) := by
  unfold ishl
  rw [show min (4 : Int).toNat IntKind.i64.bits = 4 from rfl, wrap_i64 (by omega) (by omega)]
  omega
 rw [h1]
 have h4 : (BitVec.ofInt 64 ((a * 16 : Nat) : Int) ||| BitVec.ofInt 64 (b : Int)).toNat = a * 16 + b := by
  rw [BitVec.toNat_or, BitVec.ofInt_natCast, BitVec.ofInt_natCast, BitVec.toNat_ofNat, BitVec.toNat_ofNat, Nat.mod_eq_of_lt (by omega), Nat.mod_eq_of_lt (by omega)]
  rw [Nat.mul_comm, show (16 : Nat) = 2 ^ 4 from rfl, ← Nat.two_pow_add_eq_or_of_lt (by omega)]
 show IntKind.i64.wrap ((BitVec.ofInt 64 ((a * 16 : Nat) : Int) ||| BitVec.ofInt 64 (b : Int)).toNat : Nat) = _
 rw [h4, wrap_i64 (by omega) (by omega)]
 omega
def hexR (least most : Int) (s : ByteArray) : Int × Bool := match hexL 0 (bs s) with | none => (0, false) | some v => (v, decide (least ≤ s.size) && decide ((s.size : Int) ≤ most))
theorem hexD_range {x : UInt8} {d : Int} (h : hexD x = some d) : 0 ≤ d ∧ d < 16 := by
 unfold hexD isDig at h
 split at h
 ·rename_i hh; cases h; simp at hh; omega
 ·split at h
  ·rename_i hh; cases h; omega
  ·cases h
theorem hex_loop {a : H} {b : Nat} (hb : a.next ≤ b) {s : ByteArray} (least most : Int) (n : Nat) : ∀ (l : List UInt8) (pos m : Nat) (acc : Int) (h : H), (bs s).drop pos = l → l.length < m → 0 ≤ acc → acc ≤ 65535 → Mod [] a h → h.get b = some (.siter s pos) →
  Ret (words_hex_L0 n m s least most acc (some (b, 0)) h) fun r h' => Mod [] a h' ∧ r = enIB (match hexL acc l with | none => (0, false) | some v => (v, decide (least ≤ s.size) && decide ((s.size : Int) ≤ most)))
 | [], pos, m + 1, acc, h, hd, _, _, _, hm, hg => by
  rw [words_hex_L0_eq]
  simp only [nnK_some']
  have := List.drop_eq_nil_iff.1 hd
  rw [bs_len] at this
  rw [nextK_end hg this]
  by_cases h1 : (s.size : Int) ≥ least
  ·rw [decide_eq_true h1, cond_true]
   exact .pure ⟨hm, by simp [enIB, hexL, show least ≤ (s.size : Int) from h1]⟩
  ·rw [decide_eq_false h1, cond_false]
   exact .pure ⟨hm, by simp [enIB, hexL, show ¬ least ≤ (s.size : Int) from h1]⟩
 | x :: l, pos, m + 1, acc, h, hd, hl, h0, h1, hm, hg => by
  have hx : (bs s)[pos]? = some x := by have := congrArg (·[0]?) hd; simpa using this
  have hd' : (bs s).drop (pos + 1) = l := by rw [← List.drop_drop, hd]; rfl
  rw [words_hex_L0_eq]
  simp only [nnK_some']
  by_cases ha : x.toNat < 128
  ·rw [nextK_ascii hg hx ha]
   have hm' : Mod [] a (h.set b (.siter s (pos + 1))) := hm.set (.inl hb) _
   have hg' : (h.set b (.siter s (pos + 1))).get b = some (.siter s (pos + 1)) := get_set_self _ _ _
   generalize h.set b (.siter s (pos + 1)) = h' at *
   have j3 : ∀ d : Int, hexD x = some d → Ret (words_hex_J3 n m s least most (ior .i64 (ishl .i64 acc 4) d) (some (b, 0)) h') fun r h' => Mod [] a h' ∧ r = enIB (match hexL acc (x :: l) with | none => (0, false) | some v => (v, decide (least ≤ s.size) && decide ((s.size : Int) ≤ most))) := by
    intro d hd
    have hr := hexD_range hd
    rw [words_hex_J3_eq, ior_hex h0 (by omega) hr.1 hr.2]
    unfold hexL
    simp only [hd]
    by_cases hov : 65535 < 16 * acc + d
    ·rw [show decide (16 * acc + d > 65535) = true by simpa using hov, cond_true, if_pos hov]
     exact .pure ⟨hm', rfl⟩
    ·rw [show decide (16 * acc + d > 65535) = false by simpa using hov, cond_false, if_neg hov]
     exact hex_loop hb least most n l (pos + 1) m _ h' hd' (by simp at hl; omega) (by omega) (by omega) hm' hg'
   have bad : hexD x = none → Ret (some (.tup [.int .i64 0, .bool false], h')) fun r h' => Mod [] a h' ∧ r = enIB (match hexL acc (x :: l) with | none => (0, false) | some v => (v, decide (least ≤ s.size) && decide ((s.size : Int) ≤ most))) := fun hn => by
    refine .pure ⟨hm', ?_⟩
    unfold hexL
    simp only [hn, enIB]
   have j1f : ¬ isDig x = true → Ret (words_hex_J1 n m s least most acc x.toNat (some (b, 0)) false h') fun r h' => Mod [] a h' ∧ r = enIB (match hexL acc (x :: l) with | none => (0, false) | some v => (v, decide (least ≤ s.size) && decide ((s.size : Int) ≤ most))) := by
    intro hnd
    rw [words_hex_J1_eq, cond_false]
    by_cases h97 : 97 ≤ x.toNat
    ·rw [show decide (((x.toNat : Nat) : Int) ≥ 97) = true by simp; omega, cond_true, words_hex_J2_eq]
     by_cases h102 : x.toNat ≤ 102
     ·rw [show decide (((x.toNat : Nat) : Int) ≤ 102) = true by simp; omega, cond_true, wrap_i32 (x := (x.toNat : Int) - 97) (by omega) (by omega), wrap_i32 (by omega) (by omega), wrap_i64 (by omega) (by omega)]
      exact j3 _ (by unfold hexD; rw [if_neg hnd, if_pos ⟨h97, h102⟩]; congr 1; omega)
     ·rw [show decide (((x.toNat : Nat) : Int) ≤ 102) = false by simp; omega, cond_false]
      exact bad (by unfold hexD; rw [if_neg hnd, if_neg (by omega)])
    ·rw [show decide (((x.toNat : Nat) : Int) ≥ 97) = false by simp; omega, cond_false, words_hex_J2_eq, cond_false]
     exact bad (by unfold hexD; rw [if_neg hnd, if_neg (by omega)])
   by_cases h48 : 48 ≤ x.toNat
   ·rw [show decide (((x.toNat : Nat) : Int) ≥ 48) = true by simp; omega, cond_true]
    by_cases h57 : x.toNat ≤ 57
    ·rw [show decide (((x.toNat : Nat) : Int) ≤ 57) = true by simp; omega, words_hex_J1_eq, cond_true, wrap_i32 (by omega) (by omega), wrap_i64 (by omega) (by omega)]
     exact j3 _ (by unfold hexD isDig; rw [decide_eq_true h48, decide_eq_true h57]; rfl)
    ·rw [show decide (((x.toNat : Nat) : Int) ≤ 57) = false by simp; omega]
     exact j1f (by unfold isDig; rw [decide_eq_false h57]; simp)
   ·rw [show decide (((x.toNat : Nat) : Int) ≥ 48) = false by simp; omega, cond_false]
    exact j1f (by unfold isDig; rw [decide_eq_false h48]; simp)
  ·obtain ⟨c, w, hc, e⟩ := nextK_other (β := AV × H) hg hx ha
   rw [e, show decide (((c : Nat) : Int) ≥ 48) = true by simp; omega, cond_true, show decide (((c : Nat) : Int) ≤ 57) = false by simp; omega, words_hex_J1_eq, cond_false, show decide (((c : Nat) : Int) ≥ 97) = true by simp; omega, cond_true, words_hex_J2_eq, show decide (((c : Nat) : Int) ≤ 102) = false by simp; omega, cond_false]
   refine .pure ⟨hm.set (.inl hb) _, ?_⟩
   have : hexD x = none := by unfold hexD isDig; rw [decide_eq_false (show ¬ x.toNat ≤ 57 by omega)]; simp; omega
   unfold hexL
   simp only [this, enIB]
theorem hex_ret (s : ByteArray) (least most : Int) {n : Nat} (hn : s.size + 1 < n) (h : H) : Ret (ca n i_words_hex [.str s, .int .i64 least, .int .i64 most] h) fun r h' => Mod [] h h' ∧ r = enIB (hexR least most s) := by
 obtain ⟨n, rfl⟩ : ∃ m, n = m + 1 := ⟨n - 1, by omega⟩
 rw [words_hex_eq]
 simp only [newK_eq]
 exact hex_loop (Nat.le_refl _) least most n (bs s) 0 n 0 _ rfl (by rw [bs_len]; omega) (by omega) (by omega) ((Mod.refl _ _).new _) (get_new_self _ _)
end Go.Ev.Tryd

/- What the functions of chapter 17 compute, in plain lists: groups, Address, Card, CardText. -/
namespace Go.Ev.Tryd
set_option maxRecDepth 10000
open Go.Proofs
def byt (w : Nat) (v : Int) : List Int := if w = 1 then [IntKind.u8.wrap (ishr .i64 v 0)] else [IntKind.u8.wrap (ishr .i64 v 8), IntKind.u8.wrap (ishr .i64 v 0)]
/-- the bytes of all parts; none: one of them can't be read -/
def gout (rd : ByteArray → Int × Bool) (w : Nat) : List ByteArray → Option (List Int)
 | [] => some []
 | p :: ps => if (rd p).2 = true then (gout rd w ps).map (byt w (rd p).1 ++ ·) else none
abbrev u8s (l : List Int) : List AV := l.map (.int .u8)
theorem groups_gen {f : Nat} (hcr : ∀ (x : Int) (b : Bool) (k : AV → R), crF T.toTab f (.tup [.int .i64 x, .bool b]) k = k (.tup [.int .i64 x, .bool b]))
  {rd : ByteArray → Int × Bool} {n : Nat} {ss : List ByteArray} (hR : ∀ s ∈ ss, ∀ h, Ret (ca n f [.str s] h) fun r h' => Mod [] h h' ∧ r = enIB (rd s)) (hn : 10 ≤ n) {w : Nat} (hw : w = 1 ∨ w = 2)
  {a : H} {p : Option (Nat × Nat)} {c : Cap} (row : Row a 1 p ss.length c (ss.map AV.str)) (hmax : ss.length < 100000) :
  ∀ (ts pre : List ByteArray) (m : Nat) (acc : List Int) (h : H) (q : Option (Nat × Nat)) (l : Nat) (d : Cap), ss = pre ++ ts → ts.length < m → acc.length ≤ 2 * pre.length → Mod [] a h → Grow a h 1 q l d (u8s acc) →
   Ret (words_groups_L0 n m w (.func f [] []) q l d p ss.length c ss.length pre.length h) fun r h' => Mod [] a h' ∧ match gout rd w ts with | none => ∃ q l d, r = .tup [.slice q l d, .bool false] | some x => ∃ q l d, r = .tup [.slice q l d, .bool true] ∧ Grow a h' 1 q l d (u8s (acc ++ x))
 | [], pre, m + 1, acc, h, q, l, d, hx, _, _, hm, g => by
  rw [words_groups_L0_eq, cast_not_lt (by rw [hx]; simp), cond_false]
  exact .pure ⟨hm, by simp only [gout]; exact ⟨q, l, d, rfl, by simpa using g⟩⟩
 | t :: ts, pre, m + 1, acc, h, q, l, d, hx, hl, hacc, hm, g => by
  have hpl : pre.length < ss.length := by rw [hx]; simp
  rw [words_groups_L0_eq, cast_lt hpl, cond_true, (row.mod0 hm).ix1 (x := t) (by rw [hx]; simp), asStr_str, asFn_of, List.nil_append, List.append_nil]
  refine (hR t (by rw [hx]; simp) h).bind ?_
  rintro _ h1 ⟨m1, rfl⟩
  dsimp only [enIB]
  rw [hcr, extK_of rfl, asInt_int, extK_of rfl, asBool_bool]
  cases ht : (rd t).2 with
  | false =>
   rw [Bool.not_false, cond_true]
   refine .pure ⟨hm.trans m1, ?_⟩
   simp only [gout, ht, Bool.false_eq_true, if_false]
   exact ⟨_, _, _, rfl⟩
  | true =>
   rw [Bool.not_true, cond_false]
   obtain ⟨n', rfl⟩ : ∃ k, n = k + 1 + 1 + 1 := ⟨n - 3, by omega⟩
   have push : ∀ (m2 : Nat) (k : Nat) (acc : List Int) (h : H) (q : Option (Nat × Nat)) (l : Nat) (d : Cap) (Q : AV → H → Prop), k ≤ 1 → acc.length ≤ 2 * pre.length + 1 → Mod [] a h → Grow a h 1 q l d (u8s acc) →
     (∀ (q' : Option (Nat × Nat)) (l' : Nat) (d' : Cap) (h' : H), Mod [] a h' → Grow a h' 1 q' l' d' (u8s (acc ++ [IntKind.u8.wrap (ishr .i64 (rd t).1 (8 * k : Nat))])) → Ret (words_groups_L1 (n' + 1 + 1 + 1) m m2 w (.func f [] []) q' l' d' (rd t).1 (IntKind.i64.wrap ((k : Int) - 1)) p ss.length c ss.length pre.length h') Q) →
     Ret (words_groups_L1 (n' + 1 + 1 + 1) m (m2 + 1) w (.func f [] []) q l d (rd t).1 k p ss.length c ss.length pre.length h) Q := by
    intro m2 k acc h q l d Q hk hacc hm g go
    have hgl := g.row.len1
    rw [words_groups_L1_eq, show decide (((k : Nat) : Int) ≥ 0) = true by simp, cond_true, show IntKind.i64.wrap (8 * (k : Int)) = ((8 * k : Nat) : Int) by rw [wrap_i64 (by omega) (by omega)]; omega, if_neg (by omega), newK_eq]
    refine g.push hm.next rfl rfl (by decide) (by omega) (by omega) fun q' d' h' g' m' => ?_
    exact go q' _ d' h' (hm.push g m') (by simpa [u8s] using g')
   have fin : ∀ (m2 : Nat) (acc' : List Int) (h : H) (q : Option (Nat × Nat)) (l : Nat) (d : Cap), acc' = acc ++ byt w (rd t).1 → Mod [] a h → Grow a h 1 q l d (u8s acc') →
     Ret (words_groups_L1 (n' + 1 + 1 + 1) m (m2 + 1) w (.func f [] []) q l d (rd t).1 (IntKind.i64.wrap (((0 : Nat) : Int) - 1)) p ss.length c ss.length pre.length h) fun r h' => Mod [] a h' ∧ match gout rd w (t :: ts) with | none => ∃ q l d, r = .tup [.slice q l d, .bool false] | some x => ∃ q l d, r = .tup [.slice q l d, .bool true] ∧ Grow a h' 1 q l d (u8s (acc ++ x)) := by
    intro m2 acc' h q l d hacc' hm g
    rw [words_groups_L1_eq, show IntKind.i64.wrap (((0 : Nat) : Int) - 1) = -1 by decide, show decide ((-1 : Int) ≥ 0) = false by decide, cond_false, wrap_succ (by omega), show pre.length + 1 = (pre ++ [t]).length by simp]
    have hb : (byt w (rd t).1).length ≤ 2 := by unfold byt; split <;> simp
    refine (groups_gen hcr hR hn hw row hmax ts (pre ++ [t]) m acc' h q l d (by rw [hx]; simp) (by simp at hl; omega) (by rw [hacc']; simp; omega) hm g).mono fun r h' ⟨q1, q2⟩ => ⟨q1, ?_⟩
    simp only [gout, ht, if_true]
    cases hgo : gout rd w ts with
    | none => rw [hgo] at q2; exact q2
    | some x =>
     rw [hgo] at q2
     obtain ⟨q', l', d', e, q2⟩ := q2
     refine ⟨q', l', d', e, ?_⟩
     rw [hacc', List.append_assoc] at q2
     exact q2
   rcases hw with rfl | rfl
   ·rw [show IntKind.i64.wrap (((1 : Nat) : Int) - 1) = ((0 : Nat) : Int) by decide]
    refine push _ 0 acc h1 q l d _ (by omega) (by omega) (hm.trans m1) (g.mod0 m1) fun q' l' d' h' m' g' => ?_
    exact fin _ _ h' q' l' d' rfl m' g'
   ·rw [show IntKind.i64.wrap (((2 : Nat) : Int) - 1) = ((1 : Nat) : Int) by decide]
    refine push _ 1 acc h1 q l d _ (by omega) (by omega) (hm.trans m1) (g.mod0 m1) fun q' l' d' h' m' g' => ?_
    rw [show IntKind.i64.wrap (((1 : Nat) : Int) - 1) = ((0 : Nat) : Int) by decide]
    refine push _ 0 _ h' q' l' d' _ (by omega) (by simp; omega) m' g' fun q2 l2 d2 h2 m2 g2 => ?_
    exact fin _ _ h2 q2 l2 d2 (by rw [List.append_assoc]; rfl) m2 g2
def rd10 (s : ByteArray) : Int × Bool := if (numP (bs s)).2 = true then ((numP (bs s)).1, decide ((numP (bs s)).1 ≤ 255)) else ((numP (bs s)).1, false)
theorem read10 (s : ByteArray) {n : Nat} (hn : 21 ≤ n) (h : H) : Ret (ca n i_words_Address_1 [.str s] h) fun r h' => Mod [] h h' ∧ r = enIB (rd10 s) := by
 obtain ⟨n, rfl⟩ : ∃ m, n = m + 1 := ⟨n - 1, by omega⟩
 rw [words_Address_1_eq]
 refine (Number_ret s (by omega) h).bind ?_
 rintro _ h1 ⟨m1, rfl⟩
 simp only [enIB, asTup_tup, lI_of, lB_of, l0_nil]
 unfold rd10
 cases hn : (numP (bs s)).2 with
 | true => rw [cond_true]; exact .pure ⟨m1, by simp⟩
 | false => rw [cond_false]; exact .pure ⟨m1, by simp⟩
theorem read16 (s : ByteArray) {n : Nat} (hn : s.size + 2 < n) (h : H) : Ret (ca n i_words_Address_2 [.str s] h) fun r h' => Mod [] h h' ∧ r = enIB (hexR 1 4 s) := by
 obtain ⟨n, rfl⟩ : ∃ m, n = m + 1 := ⟨n - 1, by omega⟩
 rw [words_Address_2_eq]
 refine (hex_ret s 1 4 (by omega) h).bind ?_
 rintro _ h1 ⟨m1, rfl⟩
 simp only [enIB, asTup_tup, lI_of, lB_of, l0_nil]
 exact .pure ⟨m1, rfl⟩
theorem read2 (s : ByteArray) {n : Nat} (hn : s.size + 2 < n) (h : H) : Ret (ca n i_words_Card_1 [.str s] h) fun r h' => Mod [] h h' ∧ r = enIB (hexR 2 2 s) := by
 obtain ⟨n, rfl⟩ : ∃ m, n = m + 1 := ⟨n - 1, by omega⟩
 rw [words_Card_1_eq]
 refine (hex_ret s 2 2 (by omega) h).bind ?_
 rintro _ h1 ⟨m1, rfl⟩
 simp only [enIB, asTup_tup, lI_of, lB_of, l0_nil]
 exact .pure ⟨m1, rfl⟩
def partsB (c : UInt8) (s : ByteArray) : List ByteArray := (parts c (bs s)).map mk
theorem parts_size {c : UInt8} : ∀ {l p : List UInt8}, p ∈ parts c l → p.length ≤ l.length
 | [], p, h => by simp [parts] at h; subst h; simp
 | b :: l, p, h => by
  unfold parts at h
  split at h
  ·rcases List.mem_cons.1 h with rfl | h
   ·simp
   ·have := parts_size h; simp; omega
  ·split at h
   ·rename_i q qs hq
    rcases List.mem_cons.1 h with rfl | h
    ·have := parts_size (c := c) (l := l) (p := q) (by rw [hq]; simp)
     simp; omega
    ·have := parts_size (c := c) (l := l) (p := p) (by rw [hq]; simp [h])
     simp; omega
   ·simp at h; subst h; simp
def GrpOk (a h' : H) (r : AV) : Option (List Int) → Prop
 | none => ∃ q l d, r = .tup [.slice q l d, .bool false]
 | some x => ∃ q l d, r = .tup [.slice q l d, .bool true] ∧ Grow a h' 1 q l d (u8s x)
theorem groups_ret {f : Nat} (hcr : ∀ (x : Int) (b : Bool) (k : AV → R), crF T.toTab f (.tup [.int .i64 x, .bool b]) k = k (.tup [.int .i64 x, .bool b])) {rd : ByteArray → Int × Bool} {s : ByteArray} (hs : s.size < 90000) (c : UInt8) {w : Nat} (hw : w = 1 ∨ w = 2)
  (hR : ∀ t : ByteArray, t.size ≤ s.size → ∀ (n : Nat) (h : H), s.size + 59 ≤ n → Ret (ca n f [.str t] h) fun r h' => Mod [] h h' ∧ r = enIB (rd t)) {n : Nat} (hn : s.size + 60 ≤ n) (h : H) :
  Ret (ca n i_words_groups [.str s, .str (mk [c]), .int .i64 w, .func f [] []] h) fun r h' => Mod [] h h' ∧ GrpOk h h' r (gout rd w (partsB c s)) := by
 obtain ⟨n, rfl⟩ : ∃ m, n = m + 1 := ⟨n - 1, by omega⟩
 rw [words_groups_eq]
 refine (Split_ret hs c (by omega) h).bind ?_
 rintro _ h1 ⟨m1, p, d, rfl, row⟩
 simp only [asSlice_slice]
 have hlen : (partsB c s).length = (parts c (bs s)).length := by simp [partsB]
 have hle : (parts c (bs s)).length ≤ s.size + 1 := by rw [parts_len, ← bs_len]; have := List.count_le_length (a := c) (l := bs s); omega
 rw [← hlen] at row ⊢
 refine (groups_gen hcr (rd := rd) (ss := partsB c s) (fun t ht h => hR t (by
  obtain ⟨q, hq, rfl⟩ := List.mem_map.1 ht
  have := parts_size hq; rw [bs_len] at this; rw [size_mk]; omega) n h (by omega)) (by omega) hw row (by omega) (partsB c s) [] n [] h1 none 0 (.known 0) rfl (by omega) (by simp) (.refl _ _) .nil).mono fun r h' ⟨q1, q2⟩ => ⟨m1.trans q1, ?_⟩
 cases hg : gout rd w (partsB c s) with
 | none => rw [hg] at q2; exact q2
 | some x => rw [hg] at q2; obtain ⟨q, l, d, e, q2⟩ := q2; exact ⟨q, l, d, e, q2.base m1.next⟩
theorem groups10 {s : ByteArray} (hs : s.size < 90000) (c : UInt8) {n : Nat} (hn : s.size + 60 ≤ n) (h : H) : Ret (ca n i_words_groups [.str s, .str (mk [c]), .int .i64 1, .func i_words_Address_1 [] []] h) fun r h' => Mod [] h h' ∧ GrpOk h h' r (gout rd10 1 (partsB c s)) :=
 groups_ret (f := i_words_Address_1) (by intro x b k; kernel_rfl) (rd := rd10) hs c (w := 1) (.inl rfl) (fun t ht n h hn => read10 t (by omega) h) hn h
theorem groups16 {s : ByteArray} (hs : s.size < 90000) (c : UInt8) {n : Nat} (hn : s.size + 60 ≤ n) (h : H) : Ret (ca n i_words_groups [.str s, .str (mk [c]), .int .i64 2, .func i_words_Address_2 [] []] h) fun r h' => Mod [] h h' ∧ GrpOk h h' r (gout (hexR 1 4) 2 (partsB c s)) :=
 groups_ret (f := i_words_Address_2) (by intro x b k; kernel_rfl) (rd := (hexR 1 4)) hs c (w := 2) (.inr rfl) (fun t ht n h hn => read16 t (by omega) h) hn h
theorem groups2 {s : ByteArray} (hs : s.size < 90000) (c : UInt8) {n : Nat} (hn : s.size + 60 ≤ n) (h : H) : Ret (ca n i_words_groups [.str s, .str (mk [c]), .int .i64 1, .func i_words_Card_1 [] []] h) fun r h' => Mod [] h h' ∧ GrpOk h h' r (gout (hexR 2 2) 1 (partsB c s)) :=
 groups_ret (f := i_words_Card_1) (by intro x b k; kernel_rfl) (rd := (hexR 2 2)) hs c (w := 1) (.inl rfl) (fun t ht n h hn => read2 t (by omega) h) hn h
end Go.Ev.Tryd

/- What the functions of chapter 17 compute, in plain lists: Address, Card, CardText, All; the law's alive. -/
namespace Go.Ev.Tryd
set_option maxRecDepth 10000
open Go.Proofs
def GrpO (a h' : H) (q : Option (Nat × Nat)) (l : Nat) (d : Cap) (ok : Bool) : Option (List Int) → Prop
 | none => ok = false
 | some x => ok = true ∧ Grow a h' 1 q l d (u8s x)
theorem GrpOk.open {a h' : H} {r : AV} {o : Option (List Int)} (g : GrpOk a h' r o) : ∃ q l d ok, r = .tup [.slice q l d, .bool ok] ∧ GrpO a h' q l d ok o := by
 cases o with
 | none => obtain ⟨q, l, d, e⟩ := g; exact ⟨q, l, d, _, e, rfl⟩
 | some x => obtain ⟨q, l, d, e, g⟩ := g; exact ⟨q, l, d, _, e, rfl, g⟩
def enSB (r : ByteArray × Bool) : AV := .tup [.str r.1, .bool r.2]
def enRB (r : List AV × Bool) : AV := .tup [.agg r.1, .bool r.2]
def sixP (s : ByteArray) : ByteArray × Bool := match gout (hexR 1 4) 2 (partsB 58 s) with | some y => if y.length = 16 then (strOfNums y, true) else (⟨#[]⟩, false) | none => (⟨#[]⟩, false)
def adrP (s : ByteArray) : ByteArray × Bool := match gout rd10 1 (partsB 46 s) with | some x => if x.length = 4 then (strOfNums x, true) else sixP s | none => sixP s
theorem Address_ret {s : ByteArray} (hs : s.size < 90000) {n : Nat} (hn : s.size + 61 ≤ n) (h : H) : Ret (ca n i_words_Address [.str s] h) fun r h' => Mod [] h h' ∧ r = enSB (adrP s) := by
 obtain ⟨n, rfl⟩ : ∃ m, n = m + 1 := ⟨n - 1, by omega⟩
 rw [words_Address_eq]
 refine (groups10 hs 46 (by omega) h).bind ?_
 rintro _ h1 ⟨m1, g1⟩
 replace g1 := g1.open
 obtain ⟨p, l, c, ok, rfl, g1⟩ := g1
 simp only [asTup_tup, lL_of, lB_of, l0_nil]
 have six : Ret (words_Address_J0 n s p l c false h1) fun r h' => Mod [] h h' ∧ r = enSB (sixP s) := by
  rw [words_Address_J0_eq, cond_false]
  refine (groups16 hs 58 (by omega) h1).bind ?_
  rintro _ h2 ⟨m2, g2⟩
  replace g2 := g2.open
  obtain ⟨p2, l2, c2, ok2, rfl, g2⟩ := g2
  simp only [asTup_tup, lL_of, lB_of, l0_nil]
  unfold sixP
  cases hg : gout (hexR 1 4) 2 (partsB 58 s) with
  | none =>
   rw [hg] at g2
   obtain rfl : ok2 = false := g2
   rw [cond_false, words_Address_J1_eq, cond_false]
   exact .pure ⟨m1.trans m2, rfl⟩
  | some y =>
   rw [hg] at g2
   obtain ⟨h3, g3⟩ := g2
   skip
   subst h3
   obtain rfl := g3.row.len1
   rw [cond_true, words_Address_J1_eq]
   by_cases h16 : y.length = 16
   ·rw [h16, show ((Nat.cast 16 : Int) == 16) = true by decide, cond_true, bsK_of (by rw [h16] at g3; exact g3.row.sl)]
    exact .pure ⟨m1.trans m2, by simp [enSB, h16]⟩
   ·rw [show (((y.length : Nat) : Int) == 16) = false by simp; omega, cond_false]
    exact .pure ⟨m1.trans m2, by simp [enSB, h16]⟩
 unfold adrP
 cases hg : gout rd10 1 (partsB 46 s) with
 | none =>
  rw [hg] at g1
  obtain rfl : ok = false := g1
  rw [cond_false]
  exact six
 | some x =>
  rw [hg] at g1
  obtain ⟨h3, g3⟩ := g1
  skip
  subst h3
  obtain rfl := g3.row.len1
  rw [cond_true]
  by_cases h4 : x.length = 4
  ·rw [h4, show ((Nat.cast 4 : Int) == 4) = true by decide, words_Address_J0_eq, cond_true, bsK_of (by rw [h4] at g3; exact g3.row.sl)]
   exact .pure ⟨m1, by simp [enSB, h4]⟩
  ·rw [show (((x.length : Nat) : Int) == 4) = false by simp; omega]
   simp only [h4, if_false]
   exact six
def cardP (s : ByteArray) : List Int × Bool := match gout (hexR 2 2) 1 (partsB 58 s) with | some x => if x.length = 6 then (x, true) else ([0, 0, 0, 0, 0, 0], false) | none => ([0, 0, 0, 0, 0, 0], false)
theorem u8s_cell (l : List Int) : (u8s l).all isCell = true := by simp [u8s, isCell]
theorem Card_ret {s : ByteArray} (hs : s.size < 90000) {n : Nat} (hn : s.size + 61 ≤ n) (h : H) : Ret (ca n i_words_Card [.str s] h) fun r h' => Mod [] h h' ∧ r = enRB (u8s (cardP s).1, (cardP s).2) := by
 obtain ⟨n, rfl⟩ : ∃ m, n = m + 1 := ⟨n - 1, by omega⟩
 rw [words_Card_eq]
 simp only [newK_eq]
 have m0 : Mod [] h (h.new (.cells (u8s [0, 0, 0, 0, 0, 0]) false)) := (Mod.refl _ _).new _
 have g0 : (h.new (.cells (u8s [0, 0, 0, 0, 0, 0]) false)).get h.next = some (.cells (u8s [0, 0, 0, 0, 0, 0]) false) := get_new_self _ _
 have l0 : h.next < (h.new (.cells (u8s [0, 0, 0, 0, 0, 0]) false)).next := by simp
 change Ret (Option.bind (ca n i_words_groups [.str s, .str (mk [58]), .int .i64 1, .func i_words_Card_1 [] []] (h.new (.cells (u8s [0, 0, 0, 0, 0, 0]) false))) _) _
 generalize h.new (.cells (u8s [0, 0, 0, 0, 0, 0]) false) = h0 at *
 refine (groups2 hs 58 (by omega) h0).bind ?_
 rintro _ h1 ⟨m1, g1⟩
 replace g1 := g1.open
 obtain ⟨p, l, c, ok, rfl, g1⟩ := g1
 simp only [asTup_tup, lL_of, lB_of, l0_nil]
 have gb := (m1.get _ l0 (by simp)).trans g0
 have bad : Ret (words_Card_J0 n (some (h.next, 0)) p l c true h1) fun r h' => Mod [] h h' ∧ r = enRB (u8s [0, 0, 0, 0, 0, 0], false) := by
  rw [words_Card_J0_eq, cond_true]
  simp only [nnK_some']
  rw [wrK_of (n := 6) gb rfl (by simp) rfl, spl_all _ _ (by simp), aggK_all (n := 6) (get_set_self _ _ _) rfl]
  exact .pure ⟨(m0.trans m1).set (.inl (Nat.le_refl _)) _, rfl⟩
 unfold cardP
 cases hg : gout (hexR 2 2) 1 (partsB 58 s) with
 | none =>
  rw [hg] at g1
  obtain rfl : ok = false := g1
  rw [Bool.not_false, cond_true]
  exact bad
 | some x =>
  rw [hg] at g1
  obtain ⟨h3, g3⟩ := g1
  skip
  subst h3
  obtain rfl := g3.row.len1
  rw [Bool.not_true, cond_false]
  by_cases h6 : x.length = 6
  ·rw [h6, show ((Nat.cast 6 : Int) != 6) = false by decide, words_Card_J0_eq, cond_false, if_pos ⟨by omega, by omega⟩]
   rw [h6] at g3
   rcases g3.look with ⟨_, h0', _⟩ | ⟨b, rfl, hb1, hb2, hb3, hb4, hb5⟩
   ·cases h0'
   ·simp only [nnK_some']
    rw [aggK_all (n := 6) hb3 (by simpa using h6), wrK_of (n := 6) gb (by simpa using h6) (by simp) (u8s_cell x), spl_all _ _ (by simpa using h6), aggK_all (n := 6) (get_set_self _ _ _) (by simpa using h6)]
    exact .pure ⟨(m0.trans m1).set (.inl (Nat.le_refl _)) _, by simp [enRB, h6]⟩
  ·rw [show (((x.length : Nat) : Int) != 6) = true by simp; omega]
   simp only [h6, if_false]
   exact bad
abbrev HEX : ByteArray := s_68c4f033
def hx2 (x : Int) : ByteArray := HEX.extract (x / 16).toNat (x / 16 + 1).toNat ++ HEX.extract (x % 16).toNat (x % 16 + 1).toNat
theorem nibbles {x : Int} (h0 : 0 ≤ x) (h1 : x < 256) : ishr .u8 x 4 = x / 16 ∧ iand .u8 x 15 = x % 16 := by
 have : ∀ k : Fin 256, ishr .u8 (k.val : Int) 4 = (k.val : Int) / 16 ∧ iand .u8 (k.val : Int) 15 = (k.val : Int) % 16 := by decide +kernel
 obtain ⟨m, rfl⟩ := Int.eq_ofNat_of_zero_le h0
 exact this ⟨m, by omega⟩
theorem size_extract_le (s : ByteArray) (a b : Nat) : (s.extract a b).size ≤ s.size := by
 rw [← bs_len, bs_extract, ← bs_len]; simp; omega
theorem CardText_loop {a : H} {m : List Int} (hm6 : m.length = 6) (hb : ∀ x ∈ m, 0 ≤ x ∧ x < 256) (n : Nat) (hn1 : 1 ≤ n) : ∀ (ts pre : List Int) (k : Nat) (h : H) (p : Option (Nat × Nat)) (c : Cap), m = pre ++ ts → ts.length < k → Mod [] a h → Grow a h 1 p pre.length c ((pre.map hx2).map AV.str) →
  Ret (words_CardText_L0 n k p pre.length c (u8s m) pre.length h) fun r h' => Mod [] a h' ∧ r = .str (joinS (m.map hx2) (mk [58]))
 | [], pre, k + 1, h, p, c, hx, _, hm, g => by
  have : pre.length = 6 := by rw [← hm6, hx]; simp
  rw [words_CardText_L0_eq, show decide (((pre.length : Nat) : Int) < 6) = false by simp; omega, cond_false]
  obtain ⟨n, rfl⟩ : ∃ k, n = k + 1 := ⟨n - 1, by omega⟩
  rw [strings_Join_eq, strings_Join_32_eq]
  rw [List.append_nil] at hx
  subst hx
  change Ret (Option.bind (Option.bind (joinF p m.length c (mk [58]) h) _) _) _
  have hlen : (Lib.join ((m.map hx2).map (·.data.toList)) (mk [58]).data.toList).length ≤ 140737488355328 := by
   have h1 : ∀ l : List Int, l.length ≤ 6 → ((l.map hx2).map (·.data.toList)).flatten.length ≤ 32 * l.length := by
    intro l
    induction l with
    | nil => simp
    | cons x l ih =>
     intro hl
     have h2 : (hx2 x).data.toList.length ≤ 32 := by
      show (bs (hx2 x)).length ≤ 32
      unfold hx2
      rw [bs_append, List.length_append, bs_len, bs_len]
      have h3 := size_extract_le HEX (x / 16).toNat (x / 16 + 1).toNat
      have h4 := size_extract_le HEX (x % 16).toNat (x % 16 + 1).toNat
      have h5 : HEX.size = 16 := rfl
      omega
     have := ih (by simp at hl; omega)
     simp only [List.map_cons, List.flatten_cons, List.length_append, List.length_cons]
     omega
   have h2 : ∀ l : List (List UInt8), (Lib.join l [58]).length ≤ l.flatten.length + l.length := by
    intro l
    unfold Lib.join
    induction l with
    | nil => simp
    | cons x l ih =>
     cases l with
     | nil => simp
     | cons y l =>
      rw [List.intercalate_cons_cons]
      simp only [List.length_append, List.flatten_cons, List.length_cons, List.length_nil] at ih ⊢
      omega
   have h3 := h1 m (by omega)
   have h4 := h2 ((m.map hx2).map (·.data.toList))
   have h5 : (mk [58]).data.toList = [58] := rfl
   rw [h5]
   simp only [List.length_map] at h4
   omega
  rw [joinF_of g.row (by simp; omega) hlen, Option.bind_some, Option.bind_some]
  simp only [asStr_str]
  exact .pure ⟨hm, rfl⟩
 | t :: ts, pre, k + 1, h, p, c, hx, hl, hm, g => by
  have hpl : pre.length < 6 := by rw [← hm6, hx]; simp
  have ht := hb t (by rw [hx]; simp)
  have hn := nibbles ht.1 ht.2
  rw [words_CardText_L0_eq, show decide (((pre.length : Nat) : Int) < 6) = true by simp; omega, cond_true, if_pos ⟨by omega, by omega⟩, Nat.zero_add, atK_of (v := .int .u8 t) (by rw [List.getElem?_map, hx]; simp), asInt_int, hn.1, hn.2]
  rw [wrap_u8 (x := t / 16 + 1) (by omega) (by omega), wrap_u8 (x := t % 16 + 1) (by omega) (by omega)]
  rw [bnd_both (s := HEX) (by omega) (by omega) (by show t / 16 + 1 ≤ 16; omega), bnd_both (s := HEX) (by omega) (by omega) (by show t % 16 + 1 ≤ 16; omega)]
  have hcat : ∀ f : ByteArray → R, catK (HEX.extract (t / 16).toNat (t / 16 + 1).toNat) (HEX.extract (t % 16).toNat (t % 16 + 1).toNat) f = f (hx2 t) := fun f => by
   unfold catK
   have h3 := size_extract_le HEX (t / 16).toNat (t / 16 + 1).toNat
   have h4 := size_extract_le HEX (t % 16).toNat (t % 16 + 1).toNat
   have h5 : HEX.size = 16 := rfl
   rw [if_neg (by omega)]
   rfl
  rw [hcat]
  simp only [newK_eq]
  refine g.push hm.next rfl rfl (by decide) (by omega) (by omega) fun p' c' h' g' m' => ?_
  rw [wrap_succ (by omega), show pre.length + 1 = (pre ++ [t]).length by simp]
  refine CardText_loop hm6 hb n hn1 ts (pre ++ [t]) k h' p' c' (by rw [hx]; simp) (by simp at hl; omega) (hm.push g m') (by simpa using g')
theorem CardText_ret {m : List Int} (hm6 : m.length = 6) (hb : ∀ x ∈ m, 0 ≤ x ∧ x < 256) {n : Nat} (hn : 11 ≤ n) (h : H) : Ret (ca n i_words_CardText [.agg (u8s m)] h) fun r h' => Mod [] h h' ∧ r = .str (joinS (m.map hx2) (mk [58])) := by
 obtain ⟨n, rfl⟩ : ∃ m, n = m + 1 := ⟨n - 1, by omega⟩
 rw [words_CardText_eq]
 simp only [newK_eq]
 have m0 : Mod [] h (h.new (.cells (u8s m) false)) := (Mod.refl _ _).new _
 rw [aggK_all (n := 6) (get_new_self _ _) (by simpa using hm6)]
 exact (CardText_loop hm6 hb n (by omega) m [] n _ none (.known 0) rfl (by omega) (.refl _ _) .nil).mono fun r h' ⟨q1, q2⟩ => ⟨m0.trans q1, q2⟩
end Go.Ev.Tryd

/- What the functions of chapter 17 compute, in plain lists: All; the law's alive; the law WordsNumbers. -/
namespace Go.Ev.Tryd
set_option maxRecDepth 10000
open Go.Proofs
abbrev Wd := ByteArray × Int × Int
def encW (w : Wd) : List AV := [.str w.1, .int .i64 w.2.1, .int .i64 w.2.2]
theorem encW_len : ∀ x, (encW x).length = 3 := fun _ => rfl
structure Rd where
 l : List Wd
 line : Int
 from' : Int
 some' : Bool
 note : Bool
structure RdRep (a h : H) (b : Nat) (s : ByteArray) (st : Rd) : Prop where
 lb : b < a.next
 m : Mod [b] a h
 obj : ∃ p n c, h.get b = some (.cells [.str s, .slice p n c, .int .i64 st.line, .int .i64 st.from', .bool st.some', .bool st.note] false) ∧ Grow a h 3 p n c (st.l.flatMap encW)
def cut (s : ByteArray) (x y : Int) : ByteArray := mk (((bs s).drop x.toNat).take (y.toNat - x.toNat))
def endP (s : ByteArray) (st : Rd) (k : Int) : Rd × Bool :=
 if st.from' < 0 then (st, true) else ({ st with l := st.l ++ [(cut s st.from' k, st.from', st.line)], some' := true, from' := -1 }, decide ((cut s st.from' k).size ≤ 60))
def stopP (st : Rd) (k : Int) : Rd := { st with l := if st.some' = true then st.l ++ [(mk [10], k, st.line)] else st.l, some' := false, note := false, line := st.line + 1 }
def takeP (s : ByteArray) (st : Rd) (c : Int) (k : Int) : Rd × Bool :=
 if c = 10 then (stopP (endP s st k).1 k, (endP s st k).2)
 else if st.note = true then (st, true)
 else if c = 35 then ({ (endP s st k).1 with note := true }, (endP s st k).2)
 else if c = 32 ∨ c = 9 ∨ c = 13 then endP s st k
 else if c = 123 ∨ c = 125 then ((endP s { (endP s st k).1 with from' := k } (k + 1)).1, (endP s st k).2)
 else if st.from' < 0 then ({ st with from' := k }, true)
 else (st, true)
def mayP (c : Int) : Bool := decide (c = 9) || decide (c = 10) || decide (c = 13) || (decide (32 ≤ c) && decide (c ≤ 126))
theorem extract_cut {s : ByteArray} {x y : Int} : s.extract x.toNat y.toNat = cut s x y := bs_inj (by rw [bs_extract]; unfold cut; rw [bs_mk])
theorem push_word {a h : H} {b : Nat} {s : ByteArray} {line from' : Int} {some' note : Bool} {p : Option (Nat × Nat)} {nn : Nat} {c : Cap} {l : List Wd} (lb : b < a.next) (m : Mod [b] a h) (hg : h.get b = some (.cells [.str s, .slice p nn c, .int .i64 line, .int .i64 from', .bool some', .bool note] false)) (g : Grow a h 3 p nn c (l.flatMap encW)) (hl : l.length < 1000000000) (w : Wd)
  {α : Type} {f : Option (Nat × Nat) → Nat → Cap → H → Option (α × H)} {Q : α → H → Prop}
  (k : ∀ p' n' c' h', Mod [b] a h' → Mod (own p) h h' → h'.get b = some (.cells [.str s, .slice p nn c, .int .i64 line, .int .i64 from', .bool some', .bool note] false) → Grow a h' 3 p' n' c' ((l ++ [w]).flatMap encW) → Ret (f p' n' c' h') Q) :
  Ret (appK 3 32 p nn c (evSrc 3 (.slice (some (h.next, 0)) 1 (.known 1)) (h.new (.cells (encW w) false))) (h.new (.cells (encW w) false)) f) Q := by
 have hlen := g.row.len encW_len (by decide)
 refine g.push m.next rfl rfl (by decide) (by omega) (by omega) fun p' c' h' g' m' => ?_
 refine k p' _ c' h' (m.push g m') m' ((m'.get _ (m.lt lb) fun hi => ?_).trans hg) (by rw [List.flatMap_append]; simpa using g')
 have := (g.own_ge b hi).1; omega
theorem end_ret {a h : H} {b : Nat} {s : ByteArray} {st : Rd} (r : RdRep a h b s st) {k : Int} (h1 : -1 ≤ st.from') (h2 : st.from' ≤ k) (h3 : k ≤ s.size) (h4 : st.l.length < 1000000000) (n : Nat) :
  Ret (ca (n + 1) i_words_reader_end [.ptr (some (b, 0)), .int .i64 k] h) fun x h' => x = .bool (endP s st k).2 ∧ RdRep a h' b s (endP s st k).1 := by
 obtain ⟨lb, hm, p, nn, c, hg, g⟩ := r
 rw [words_reader_end_eq]
 simp only [nnK_some', Nat.zero_add]
 rw [cellK_of hg (o := 3) rfl, asInt_int]
 unfold endP
 by_cases h0 : st.from' < 0
 ·rw [decide_eq_true h0, cond_true, if_pos h0]
  exact .pure ⟨rfl, lb, hm, p, nn, c, hg, g⟩
 ·rw [decide_eq_false h0, cond_false, if_neg h0, cellK_of hg (o := 0) rfl, asStr_str, cellK_of hg (o := 3) rfl, asInt_int, bnd_both (by omega) h2 h3, cellK_of hg (o := 3) rfl, asInt_int, cellK_of hg (o := 2) rfl, asInt_int, extract_cut, newK_eq, box_wr (n := 3) rfl rfl rfl]
  have m1 : Mod [] h (h.new (.cells [.str (cut s st.from' k), .int .i64 st.from', .int .i64 st.line] false)) := (Mod.refl _ _).new _
  have gx : (h.new (.cells [.str (cut s st.from' k), .int .i64 st.from', .int .i64 st.line] false)).get h.next = some (.cells [.str (cut s st.from' k), .int .i64 st.from', .int .i64 st.line] false) := get_new_self _ _
  have lx : h.next < (h.new (.cells [.str (cut s st.from' k), .int .i64 st.from', .int .i64 st.line] false)).next := by simp
  have hbn := hm.lt lb
  have hg1 := (m1.get _ hbn (by simp)).trans hg
  have g1 := g.mod0 m1
  have hm1 : Mod [b] a _ := hm.trans m1.of_nil
  have hno : h.next ∉ own p := fun hi => by have := (g.own_ge _ hi).2; omega
  generalize h.new (.cells [.str (cut s st.from' k), .int .i64 st.from', .int .i64 st.line] false) = h5 at *
  rw [cellK_of hg1 (o := 1) rfl, asSlice_slice, aggK_all (n := 3) gx rfl]
  simp only [lS_of, lI_of, l0_nil, newK_eq]
  refine push_word lb hm1 hg1 g1 h4 (cut s st.from' k, st.from', st.line) fun p' n' c' h' hm' m' hg' g' => ?_
  have gx' := (m'.get _ lx hno).trans gx
  have hb' : b ∉ own p' := fun hi => by have := (g'.own_ge b hi).1; omega
  rw [wrK_one hg' (by simp) rfl, wrK_one (get_set_self _ _ _) (by simp) rfl, wrK_one (get_set_self _ _ _) (by simp) rfl]
  simp only [List.set_cons_succ, List.set_cons_zero, set_set]
  rw [cellK_of ((get_set_ne (by omega)).trans gx') (o := 0) rfl, asStr_str]
  have m2 : Mod [b] h' (h'.set b (.cells [.str s, .slice p' n' c', .int .i64 st.line, .int .i64 (-1), .bool true, .bool st.note] false)) := (Mod.refl _ _).set (.inr (by simp)) _
  refine .pure ⟨?_, lb, hm'.trans m2, p', n', c', get_set_self _ _ _, g'.mod m2 fun i hi => by simp; exact fun e => hb' (e ▸ hi)⟩
  congr 1
  rw [decide_eq_decide]
  omega
theorem stop_ret {a h : H} {b : Nat} {s : ByteArray} {st : Rd} (r : RdRep a h b s st) {k : Int} (h4 : st.l.length < 1000000000) (h5 : 0 ≤ st.line) (h6 : st.line < 1000000000) (n : Nat) :
  Ret (ca (n + 1) i_words_reader_stop [.ptr (some (b, 0)), .int .i64 k] h) fun r h' => r = .tup [] ∧ RdRep a h' b s (stopP st k) := by
 obtain ⟨lb, hm, p, nn, c, hg, g⟩ := r
 have fin : ∀ (h' : H) (p' : Option (Nat × Nat)) (n' : Nat) (c' : Cap) (l : List Wd) (sm : Bool), Mod [b] a h' → h'.get b = some (.cells [.str s, .slice p' n' c', .int .i64 st.line, .int .i64 st.from', .bool sm, .bool st.note] false) → Grow a h' 3 p' n' c' (l.flatMap encW) →
   Ret (words_reader_stop_J0 n (some (b, 0)) h') fun r h' => r = .tup [] ∧ RdRep a h' b s { st with l := l, some' := false, note := false, line := st.line + 1 } := by
  intro h' p' n' c' l sm hm' hg' g'
  have hb' : b ∉ own p' := fun hi => by have := (g'.own_ge b hi).1; omega
  rw [words_reader_stop_J0_eq]
  simp only [nnK_some', Nat.zero_add]
  rw [wrK_one hg' (by simp) rfl, wrK_one (get_set_self _ _ _) (by simp) rfl]
  simp only [List.set_cons_succ, List.set_cons_zero, set_set]
  rw [cellK_of (get_set_self _ _ _) (o := 2) rfl, asInt_int, wrK_one (get_set_self _ _ _) (by simp) rfl, wrap_i64 (by omega) (by omega)]
  simp only [List.set_cons_succ, List.set_cons_zero, set_set]
  have m2 : Mod [b] h' (h'.set b (.cells [.str s, .slice p' n' c', .int .i64 (st.line + 1), .int .i64 st.from', .bool false, .bool false] false)) := (Mod.refl _ _).set (.inr (by simp)) _
  exact .pure ⟨rfl, lb, hm'.trans m2, p', n', c', get_set_self _ _ _, g'.mod m2 fun i hi => by simp; exact fun e => hb' (e ▸ hi)⟩
 rw [words_reader_stop_eq]
 simp only [nnK_some', Nat.zero_add]
 rw [cellK_of hg (o := 4) rfl, asBool_bool]
 unfold stopP
 cases hs : st.some' with
 | false =>
  rw [cond_false]
  rw [hs] at hg
  simpa using fin h p nn c st.l false hm hg g
 | true =>
  rw [cond_true, cellK_of hg (o := 1) rfl, asSlice_slice, cellK_of hg (o := 2) rfl, asInt_int, newK_eq]
  refine push_word lb hm hg g h4 (mk [10], k, st.line) fun p' n' c' h' hm' m' hg' g' => ?_
  have hb' : b ∉ own p' := fun hi => by have := (g'.own_ge b hi).1; omega
  rw [wrK_one hg' (by simp) rfl]
  simp only [List.set_cons_succ, List.set_cons_zero]
  have m2 : Mod [b] h' (h'.set b (.cells [.str s, .slice p' n' c', .int .i64 st.line, .int .i64 st.from', .bool st.some', .bool st.note] false)) := (Mod.refl _ _).set (.inr (by simp)) _
  simpa using fin _ p' n' c' (st.l ++ [(mk [10], k, st.line)]) st.some' (hm'.trans m2) (get_set_self _ _ _) (g'.mod m2 fun i hi => by simp; exact fun e => hb' (e ▸ hi))
theorem RdRep.from {a h : H} {b : Nat} {s : ByteArray} {st : Rd} (r : RdRep a h b s st) (k : Int) {β : Type} (f : H → Option β) :
  ∃ h', wrK h b 3 1 [.int .i64 k] f = f h' ∧ RdRep a h' b s { st with from' := k } := by
 obtain ⟨lb, hm, p, nn, c, hg, g⟩ := r
 refine ⟨_, wrK_one hg (by simp) rfl f, ?_⟩
 simp only [List.set_cons_succ, List.set_cons_zero]
 have hb' : b ∉ own p := fun hi => by have := (g.own_ge b hi).1; omega
 have m2 : Mod [b] h (h.set b (.cells [.str s, .slice p nn c, .int .i64 st.line, .int .i64 k, .bool st.some', .bool st.note] false)) := (Mod.refl _ _).set (.inr (by simp)) _
 exact ⟨lb, hm.trans m2, p, nn, c, get_set_self _ _ _, g.mod m2 fun i hi => by simp; exact fun e => hb' (e ▸ hi)⟩
theorem RdRep.setNote {a h : H} {b : Nat} {s : ByteArray} {st : Rd} (r : RdRep a h b s st) (k : Bool) {β : Type} (f : H → Option β) :
  ∃ h', wrK h b 5 1 [.bool k] f = f h' ∧ RdRep a h' b s { st with note := k } := by
 obtain ⟨lb, hm, p, nn, c, hg, g⟩ := r
 refine ⟨_, wrK_one hg (by simp) rfl f, ?_⟩
 simp only [List.set_cons_succ, List.set_cons_zero]
 have hb' : b ∉ own p := fun hi => by have := (g.own_ge b hi).1; omega
 have m2 : Mod [b] h (h.set b (.cells [.str s, .slice p nn c, .int .i64 st.line, .int .i64 st.from', .bool st.some', .bool k] false)) := (Mod.refl _ _).set (.inr (by simp)) _
 exact ⟨lb, hm.trans m2, p, nn, c, get_set_self _ _ _, g.mod m2 fun i hi => by simp; exact fun e => hb' (e ▸ hi)⟩
end Go.Ev.Tryd

/- What the functions of chapter 17 compute, in plain lists: All whole; the law's alive; the law WordsNumbers. -/
namespace Go.Ev.Tryd
set_option maxRecDepth 10000
open Go.Proofs
theorem cond_of_true {α : Type} {b : Bool} (h : b = true) (x y : α) : cond b x y = x := by rw [h]; rfl
theorem cond_of_false {α : Type} {b : Bool} (h : b = false) (x y : α) : cond b x y = y := by rw [h]; rfl
theorem endP_len (s : ByteArray) (st : Rd) (k : Int) : (endP s st k).1.l.length ≤ st.l.length + 1 ∧ (endP s st k).1.line = st.line := by
 unfold endP; split <;> simp
theorem endP_from (s : ByteArray) (st : Rd) (k : Int) : (endP s st k).1.from' = st.from' ∨ (endP s st k).1.from' = -1 := by
 unfold endP; split <;> simp
theorem take_ret {a h : H} {b : Nat} {s : ByteArray} {st : Rd} (r : RdRep a h b s st) {k : Int} (h1 : -1 ≤ st.from') (h2 : st.from' ≤ k) (h0 : 0 ≤ k) (h3 : k + 1 ≤ s.size) (h4 : st.l.length < 900000000) (h5 : 0 ≤ st.line) (h6 : st.line < 100000000) (hs : s.size < 100000000) (c : Int) (n : Nat) :
  Ret (ca (n + 2) i_words_reader_take [.ptr (some (b, 0)), .int .u8 c, .int .i64 k] h) fun x h' => x = .bool (takeP s st c k).2 ∧ RdRep a h' b s (takeP s st c k).1 := by
 have hl := endP_len s st k
 have e1 := end_ret r h1 h2 (by omega) (by omega) n
 rw [words_reader_take_eq]
 unfold takeP
 by_cases c10 : c = 10
 ·rw [show (c == 10) = true by simpa using c10, cond_true, if_pos c10]
  refine e1.bind ?_
  rintro _ h1' ⟨rfl, r1⟩
  simp only [asBool_bool]
  refine (stop_ret r1 (k := k) (by omega) (by omega) (by omega) n).bind ?_
  rintro _ h2' ⟨rfl, r2⟩
  simp only [asTup_tup, l0_nil]
  exact .pure ⟨rfl, r2⟩
 rw [show (c == 10) = false by simpa using c10, cond_false, if_neg c10]
 obtain ⟨lb, hm, p, nn, cc, hg, g⟩ := r
 have r : RdRep a h b s st := ⟨lb, hm, p, nn, cc, hg, g⟩
 simp only [nnK_some', Nat.zero_add]
 rw [cellK_of hg (o := 5) rfl, asBool_bool]
 by_cases hnote : st.note = true
 ·rw [cond_of_true hnote, if_pos hnote]
  exact .pure ⟨rfl, r⟩
 ·rw [cond_of_false (by simpa using hnote), if_neg hnote]
  by_cases c35 : c = 35
  ·rw [show (c == 35) = true by simpa using c35, cond_true, if_pos c35]
   refine e1.bind ?_
   rintro _ h1' ⟨rfl, r1⟩
   obtain ⟨h2', e, r2⟩ := r1.setNote true (fun h10 => (some (.bool (endP s st k).2, h10) : R))
   simp only [asBool_bool]
   rw [e]
   exact .pure ⟨rfl, r2⟩
  rw [show (c == 35) = false by simpa using c35, cond_false, if_neg c35]
  have j0t : Ret (words_reader_take_J0 (n + 1) (some (b, 0)) c k true true h) fun x h' => x = .bool (endP s st k).2 ∧ RdRep a h' b s (endP s st k).1 := by
   rw [words_reader_take_J0_eq, cond_true]
   refine e1.bind ?_
   rintro _ h1' ⟨rfl, r1⟩
   simp only [asBool_bool]
   exact .pure ⟨rfl, r1⟩
  by_cases c32 : c = 32
  ·rw [show (c == 32) = true by simpa using c32, cond_true, if_pos (.inl c32)]
   exact j0t
  rw [show (c == 32) = false by simpa using c32, cond_false]
  by_cases c9 : c = 9
  ·rw [show (c == 9) = true by simpa using c9, cond_true, if_pos (.inr (.inl c9))]
   exact j0t
  rw [show (c == 9) = false by simpa using c9, cond_false]
  by_cases c13 : c = 13
  ·rw [show (c == 13) = true by simpa using c13, if_pos (.inr (.inr c13))]
   exact j0t
  rw [show (c == 13) = false by simpa using c13, if_neg (by simp [c32, c9, c13]), words_reader_take_J0_eq, cond_false]
  have j1t : Ret (words_reader_take_J1 (n + 1) (some (b, 0)) k true true h) fun x h' => x = .bool (endP s st k).2 ∧ RdRep a h' b s (endP s { (endP s st k).1 with from' := k } (k + 1)).1 := by
   rw [words_reader_take_J1_eq, cond_true]
   refine e1.bind ?_
   rintro _ h1' ⟨rfl, r1⟩
   simp only [nnK_some', Nat.zero_add, asBool_bool]
   obtain ⟨h2', e, r2⟩ := r1.from k (fun h15 => ((ca (n + 1) i_words_reader_end [.ptr (some (b, 0)), .int .i64 (IntKind.i64.wrap (k + 1))] h15).bind fun q => asBool q.1 fun x22 => some (.bool (endP s st k).2, q.2) : R))
   rw [e, wrap_i64 (by omega) (by omega)]
   refine (end_ret r2 (k := k + 1) (by first | omega | (simp only; omega)) (by first | omega | (simp only; omega)) h3 (by first | omega | (simp only; omega)) n).bind ?_
   rintro _ h3' ⟨rfl, r3⟩
   simp only [asBool_bool]
   exact .pure ⟨rfl, r3⟩
  by_cases c123 : c = 123
  ·rw [show (c == 123) = true by simpa using c123, cond_true, if_pos (.inl c123)]
   exact j1t
  rw [show (c == 123) = false by simpa using c123, cond_false]
  by_cases c125 : c = 125
  ·rw [show (c == 125) = true by simpa using c125, if_pos (.inr c125)]
   exact j1t
  rw [show (c == 125) = false by simpa using c125, if_neg (by simp [c123, c125]), words_reader_take_J1_eq, cond_false]
  simp only [nnK_some', Nat.zero_add]
  rw [cellK_of hg (o := 3) rfl, asInt_int]
  by_cases hf : st.from' < 0
  ·rw [decide_eq_true hf, cond_true, if_pos hf]
   obtain ⟨h2', e, r2⟩ := r.from k (fun h23 => (some (.bool true, h23) : R))
   rw [e]
   exact .pure ⟨rfl, r2⟩
  ·rw [decide_eq_false hf, cond_false, if_neg hf]
   exact .pure ⟨rfl, r⟩
def allL (s : ByteArray) (st : Rd) (k : Int) : List UInt8 → (List Wd) ⊕ Int
 | [] => if (endP s st k).2 = true then .inl (stopP (endP s st k).1 k).l else .inr st.from'
 | c :: l => if 0 ≤ st.from' ∧ 60 < k - st.from' then .inr st.from'
  else if mayP c.toNat = true then (if (takeP s st c.toNat k).2 = true then allL s (takeP s st c.toNat k).1 (k + 1) l else .inr st.from') else .inr k
def rd0 : Rd := ⟨[], 1, -1, false, false⟩
def allP (s : ByteArray) : (List Wd) ⊕ Int := allL s rd0 0 (bs s)
theorem may_eq (n : Nat) (c : Int) (h : H) : ca (n + 1) i_words_may [.int .u8 c] h = some (.bool (mayP c), h) := by
 rw [words_may_eq]
 unfold mayP
 by_cases c9 : c = 9
 ·simp [c9]
 by_cases c10 : c = 10
 ·simp [c10]
 by_cases c13 : c = 13
 ·simp [c13]
 rw [show (c == 9) = false by simpa using c9, show (c == 10) = false by simpa using c10, show (c == 13) = false by simpa using c13, cond_false, cond_false, cond_false, decide_eq_false c9, decide_eq_false c10, decide_eq_false c13]
 by_cases h32 : 32 ≤ c
 ·rw [decide_eq_true (show c ≥ 32 from h32), cond_true]; rfl
 ·rw [decide_eq_false (show ¬ c ≥ 32 from h32), cond_false]; rfl
def AllOk (a h' : H) (r : AV) : (List Wd) ⊕ Int → Prop
 | .inl l => ∃ p c, r = .tup [.slice p l.length c, .int .i64 0, .int .i64 0] ∧ Grow a h' 3 p l.length c (l.flatMap encW)
 | .inr k => r = .tup [.slice none 0 (.known 0), .int .i64 k, .int .i64 170]
structure StOk (st : Rd) (k : Int) : Prop where
 f0 : -1 ≤ st.from'
 fk : st.from' ≤ k
 len : (st.l.length : Int) ≤ 4 * k
 line : 0 ≤ st.line
 line2 : st.line ≤ k + 1
theorem endP_ok {s : ByteArray} {st : Rd} {k : Int} (h : StOk st k) (j : Int) : -1 ≤ (endP s st j).1.from' ∧ (endP s st j).1.from' ≤ k := by
 have := h.f0; have := h.fk
 rcases endP_from s st j with e | e <;> rw [e] <;> omega
theorem takeP_ok {s : ByteArray} {st : Rd} {k : Int} (h0 : 0 ≤ k) (h : StOk st k) (c : Int) : StOk (takeP s st c k).1 (k + 1) := by
 obtain ⟨f0, fk, hl, l1, l2⟩ := h
 have he := endP_len s st k
 have hf := endP_ok (s := s) ⟨f0, fk, hl, l1, l2⟩ k
 have he2 := endP_len s { (endP s st k).1 with from' := k } (k + 1)
 have hf2 := endP_from s { (endP s st k).1 with from' := k } (k + 1)
 simp only at he2 hf2
 unfold takeP
 split
 ·unfold stopP
  refine ⟨hf.1, by first | omega | (simp only; omega), ?_, by first | omega | (simp only; omega), by first | omega | (simp only; omega)⟩
  simp only
  split
  ·simp; omega
  ·omega
 split
 ·exact ⟨f0, by first | omega | (simp only; omega), by first | omega | (simp only; omega), l1, by first | omega | (simp only; omega)⟩
 split
 ·exact ⟨hf.1, by first | omega | (simp only; omega), by first | omega | (simp only; omega), by first | omega | (simp only; omega), by first | omega | (simp only; omega)⟩
 split
 ·exact ⟨hf.1, by first | omega | (simp only; omega), by first | omega | (simp only; omega), by first | omega | (simp only; omega), by first | omega | (simp only; omega)⟩
 split
 ·refine ⟨?_, ?_, by first | omega | (simp only; omega), by first | omega | (simp only; omega), by first | omega | (simp only; omega)⟩
  ·rcases hf2 with e | e <;> simp only [e] <;> omega
  ·rcases hf2 with e | e <;> simp only [e] <;> omega
 split
 ·exact ⟨by first | omega | (simp only; omega), by first | omega | (simp only; omega), by first | omega | (simp only; omega), l1, by first | omega | (simp only; omega)⟩
 ·exact ⟨f0, by first | omega | (simp only; omega), by first | omega | (simp only; omega), l1, by first | omega | (simp only; omega)⟩
theorem All_loop {a : H} {b : Nat} {s : ByteArray} (hs : s.size < 20000000) (n : Nat) : ∀ (l : List UInt8) (k m : Nat) (h : H) (st : Rd), (bs s).drop k = l → k + l.length = s.size → l.length + 1 < m → RdRep a h b s st → StOk st k →
  Ret (words_All_L0 (n + 2) m s (some (b, 0)) ((s.size + 1 : Nat) : Int) k h) fun r h' => Mod [b] a h' ∧ AllOk a h' r (allL s st k l)
 | [], k, m + 1 + 1, h, st, hd, hk, _, r, ok => by
  obtain ⟨f0, fk, hl, l1, l2⟩ := ok
  simp only [List.length_nil, Nat.add_zero] at hk
  obtain ⟨lb, hm, p, nn, cc, hg, g⟩ := r
  have r : RdRep a h b s st := ⟨lb, hm, p, nn, cc, hg, g⟩
  rw [words_All_L0_eq, cast_lt (by omega), cond_true]
  simp only [nnK_some', Nat.zero_add]
  rw [cellK_of hg (o := 3) rfl, asInt_int, show (((k : Nat) : Int) == (s.size : Nat)) = true by simp; omega, cond_true]
  refine (end_ret r f0 fk (by omega) (by omega) (n + 1)).bind ?_
  rintro _ h1 ⟨rfl, r1⟩
  simp only [asBool_bool]
  unfold allL
  cases hok : (endP s st k).2 with
  | false =>
   rw [Bool.not_false, cond_true]
   exact .pure ⟨r1.m, rfl⟩
  | true =>
   rw [Bool.not_true, cond_false]
   have he := endP_len s st k
   refine (stop_ret r1 (k := k) (by omega) (by omega) (by omega) (n + 1)).bind ?_
   rintro _ h2 ⟨rfl, r2⟩
   simp only [asTup_tup, l0_nil]
   obtain ⟨lb2, hm2, p2, n2, c2, hg2, g2⟩ := r2
   rw [wrap_succ (by omega), words_All_L0_eq, cast_not_lt (by omega), cond_false]
   simp only [nnK_some', Nat.zero_add]
   rw [cellK_of hg2 (o := 1) rfl, asSlice_slice]
   have hlen := g2.row.len encW_len (by decide)
   obtain rfl := hlen
   exact .pure ⟨hm2, p2, c2, rfl, g2⟩
 | c :: l, k, m + 1, h, st, hd, hk, hlm, r, ok => by
  obtain ⟨f0, fk, hl, l1, l2⟩ := ok
  simp only [List.length_cons] at hk hlm
  have hx : (bs s)[k]? = some c := by have := congrArg (·[0]?) hd; simpa using this
  have hd' : (bs s).drop (k + 1) = l := by rw [← List.drop_drop, hd]; rfl
  obtain ⟨lb, hm, p, nn, cc, hg, g⟩ := r
  have r : RdRep a h b s st := ⟨lb, hm, p, nn, cc, hg, g⟩
  rw [words_All_L0_eq, cast_lt (by omega), cond_true]
  simp only [nnK_some', Nat.zero_add]
  rw [cellK_of hg (o := 3) rfl, asInt_int, show (((k : Nat) : Int) == (s.size : Nat)) = false by simp; omega, cond_false]
  have j1 : ∀ d : Bool, d = decide (0 ≤ st.from' ∧ 60 < (k : Int) - st.from') → Ret (words_All_J1 (n + 2) m s (some (b, 0)) k st.from' ((s.size + 1 : Nat) : Int) k d h) fun r h' => Mod [b] a h' ∧ AllOk a h' r (allL s st k (c :: l)) := by
   intro d hd0
   rw [words_All_J1_eq]
   unfold allL
   by_cases hc : 0 ≤ st.from' ∧ 60 < (k : Int) - st.from'
   ·rw [hd0, decide_eq_true hc, cond_true, if_pos hc]
    exact .pure ⟨hm, rfl⟩
   ·rw [hd0, decide_eq_false hc, cond_false, if_neg hc, byteK_of hx, may_eq, Option.bind_some]
    simp only [asBool_bool]
    cases hmay : mayP c.toNat with
    | false =>
     rw [Bool.not_false, cond_true]
     exact .pure ⟨hm, rfl⟩
    | true =>
     rw [Bool.not_true, cond_false, byteK_of hx]
     refine (take_ret r f0 fk (by omega) (by omega) (by omega) l1 (by omega) (by omega) c.toNat n).bind ?_
     rintro _ h1 ⟨rfl, r1⟩
     simp only [asBool_bool]
     cases htk : (takeP s st c.toNat k).2 with
     | false =>
      rw [Bool.not_false, cond_true]
      exact .pure ⟨r1.m, rfl⟩
     | true =>
      rw [Bool.not_true, cond_false, wrap_succ (by omega)]
      have := All_loop hs n l (k + 1) m h1 _ hd' (by omega) (by omega) r1 (takeP_ok (by omega) ⟨f0, fk, hl, l1, l2⟩ c.toNat)
      simpa using this
  by_cases hf : st.from' ≥ 0
  ·rw [decide_eq_true hf, cond_true]
   refine j1 _ ?_
   rw [wrap_i64 (by omega) (by omega), decide_eq_decide]
   exact ⟨fun h => ⟨hf, h⟩, fun h => h.2⟩
  ·rw [decide_eq_false hf, cond_false]
   refine j1 _ ?_
   rw [eq_comm, decide_eq_false_iff_not]
   exact fun h => hf h.1
theorem All_ret {s : ByteArray} (hs : s.size < 20000000) {n : Nat} (hn : s.size + 11 ≤ n) (h : H) : Ret (ca n i_words_All [.str s] h) fun r h' => Mod [] h h' ∧ AllOk h h' r (allP s) := by
 obtain ⟨n, rfl⟩ : ∃ m, n = m + 2 + 1 := ⟨n - 3, by omega⟩
 rw [words_All_eq]
 simp only [newK_eq]
 rw [wrap_succ (by omega)]
 have m1 : Mod [] h (h.new (.cells [.str s, .slice none 0 (.known 0), .int .i64 1, .int .i64 (-1), .bool false, .bool false] false)) := (Mod.refl _ _).new _
 refine (All_loop (a := h.new (.cells [.str s, .slice none 0 (.known 0), .int .i64 1, .int .i64 (-1), .bool false, .bool false] false)) (b := h.next) hs n (bs s) 0 (n + 2) _ rd0 rfl (by rw [bs_len]; omega) (by rw [bs_len]; omega) ⟨by simp, .refl _ _, none, 0, .known 0, get_new_self _ _, .nil⟩ ⟨by decide, by decide, by decide, by decide, by decide⟩).mono fun r h' ⟨q1, q2⟩ => ⟨m1.trans' q1 fun i hi hl => by simp at hi; omega, ?_⟩
 change AllOk h h' r (allL s rd0 ((0 : Nat) : Int) (bs s))
 cases hall : allL s rd0 ((0 : Nat) : Int) (bs s) with
 | inl l => rw [hall] at q2; obtain ⟨p, c, e, q2⟩ := q2; exact ⟨p, c, e, q2.base m1.next⟩
 | inr k => rw [hall] at q2; exact q2
end Go.Ev.Tryd

/- Numbers as digits: the document's inBase; strconv.FormatInt at sixteen. -/
namespace Go.Ev.Tryd
set_option maxRecDepth 10000
open Go.Proofs
def dig (d : Nat) : UInt8 := (bs HEX).getD d 0
/-- the digits of a number, of which there are at most k -/
def dg (b : Nat) : Nat → Nat → List UInt8
 | 0, _ => []
 | k + 1, u => if u < b then [dig u] else dg b k (u / b) ++ [dig (u % b)]
theorem dg_len (b : Nat) : ∀ (k u : Nat), (dg b k u).length ≤ k
 | 0, _ => by simp [dg]
 | k + 1, u => by
  unfold dg
  split
  ·simp
  ·have := dg_len b k (u / b); simp; omega
end Go.Ev.Tryd

/- strconv.FormatInt at sixteen. -/
namespace Go.Ev.Tryd
set_option maxRecDepth 10000
open Go.Proofs
abbrev b8 (l : List UInt8) : List AV := l.map fun c => .int .u8 c.toNat
theorem digA {d : Nat} (h : d < 16) : (bs s_fdb5537d)[d]? = some (dig d) := by
 have : ∀ k : Fin 16, (bs s_fdb5537d)[k.val]? = some (dig k.val) := by decide +kernel
 exact this ⟨d, h⟩
theorem str_b8 (l : List UInt8) : strOfNums (l.map fun c => (c.toNat : Int)) = mk l := by
 refine bs_inj ?_
 rw [bs_mk]
 unfold bs strOfNums
 simp [Function.comp_def]
theorem b8_set {i : Nat} (l : List UInt8) (c : UInt8) (hi : 0 < i) : (List.replicate i (AV.int .u8 0) ++ b8 l).set (i - 1) (.int .u8 c.toNat) = List.replicate (i - 1) (AV.int .u8 0) ++ b8 (c :: l) := by
 obtain ⟨j, rfl⟩ : ∃ j, i = j + 1 := ⟨i - 1, by omega⟩
 simp only [Nat.add_sub_cancel]
 rw [List.set_append_left _ _ (by simp), List.replicate_succ', List.set_append_right _ _ (by simp)]
 simp [b8]
/-- the text of the last places -/
theorem fb_end {n b i : Nat} {l : List UInt8} {h : H} (hi : i + l.length = 65) (hl : 0 < l.length) (hb : b < h.next) (hg : h.get b = some (.cells (List.replicate i (AV.int .u8 0) ++ b8 l) false)) :
  strconv_formatBits_J5 n none 0 (.known 0) false false none 0 (.known 0) ⟨#[]⟩ (some (b, 0)) i h = some (.tup [.slice none 0 (.known 0), .str (mk l)], h) := by
 rw [strconv_formatBits_J5_eq, cond_false, strconv_formatBits_J6_eq, cond_false]
 simp only [nnK_some', Nat.zero_add, Nat.mul_one]
 have e1 : ∀ f : Nat → Nat → Nat → R, bndK 65 65 0 (some (.int .i64 (i : Nat))) none none f = f i 65 65 := fun f => by
  have : (i : Int) ≤ 65 := by omega
  simp [bndK, evBounds, evBound, this, show i ≤ 65 by omega]
 rw [e1, if_neg (by omega)]
 have row : Row h 1 (some (b, i)) (65 - i) (.known (65 - i)) ((l.map fun c => (c.toNat : Int)).map (.int .u8)) := by
  refine .row hb hg ?_ (by simp; omega) (.inr ⟨_, rfl, Nat.le_refl _⟩)
  rw [List.drop_append_of_le_length (by simp)]
  simp only [List.drop_replicate, Nat.sub_self, List.replicate_zero, List.nil_append]
  rw [List.take_of_length_le (by simp; omega)]
  simp [b8, Function.comp_def]
 rw [bsK_of row.sl, str_b8]
theorem shr4 {u : Nat} (h : u < 65536) : ishr .u64 (u : Nat) 4 = ((u / 16 : Nat) : Int) := by
 unfold ishr
 rw [show (min (4 : Int).toNat IntKind.u64.bits) = 4 from rfl]
 rw [show ((2 : Int) ^ 4) = ((16 : Nat) : Int) from rfl, Int.fdiv_eq_ediv_of_nonneg _ (by omega)]
 rfl
theorem and15 {u : Nat} (h : u < 65536) : iand .u64 (u : Nat) 15 = ((u % 16 : Nat) : Int) := by
 unfold iand
 have e : (BitVec.ofInt IntKind.u64.bits (u : Nat) &&& BitVec.ofInt IntKind.u64.bits 15).toNat = u % 16 := by
  rw [BitVec.toNat_and]
  rw [show (BitVec.ofInt IntKind.u64.bits (u : Nat)).toNat = u by simp [IntKind.bits]; omega, show (BitVec.ofInt IntKind.u64.bits 15).toNat = 2 ^ 4 - 1 from rfl, Nat.and_two_pow_sub_one_eq_mod]
 rw [e]
 exact wrap_u64 (by omega) (by omega)
theorem fb_loop {b n : Nat} : ∀ (k u i m : Nat) (l : List UInt8) (h : H), 0 < k → u < 16 ^ k → u < 65536 → k ≤ i → i + l.length = 65 → k < m → b < h.next → h.get b = some (.cells (List.replicate i (AV.int .u8 0) ++ b8 l) false) →
  Ret (strconv_formatBits_L3 n m none 0 (.known 0) u false false none 0 (.known 0) ⟨#[]⟩ (some (b, 0)) i 4 16 15 h) fun r h' => Mod [b] h h' ∧ r = .tup [.slice none 0 (.known 0), .str (mk (dg 16 k u ++ l))]
 | 0, _, _, _, _, _, h0, _, _, _, _, _, _, _ => by cases h0
 | k + 1, u, i, m + 1, l, h, _, hu, hu2, hki, hi, hm, hb, hg => by
  rw [strconv_formatBits_L3_eq]
  have ei : IntKind.i64.wrap ((i : Nat) - 1 : Int) = ((i - 1 : Nat) : Int) := by rw [wrap_i64 (by omega) (by omega)]; omega
  have hlen : i - 1 < (List.replicate i (AV.int .u8 0) ++ b8 l).length := by simp; omega
  unfold dg
  by_cases h1 : u < 16
  ·rw [show decide (((u : Nat) : Int) ≥ 16) = false by simp; omega, cond_false, byteK_of (digA h1), if_pos h1]
   simp only [nnK_some', Nat.zero_add]
   rw [ei, if_pos ⟨by omega, by omega⟩, show ((i - 1 : Nat) : Int).toNat = i - 1 from rfl, wrK_one hg hlen rfl, b8_set l _ (by omega)]
   rw [fb_end (i := i - 1) (l := dig u :: l) (by simp; omega) (by simp) (by simpa using hb) (get_set_self _ _ _)]
   exact .pure ⟨(Mod.refl _ _).set (.inr (by simp)) _, rfl⟩
  ·rw [show decide (((u : Nat) : Int) ≥ 16) = true by simp; omega, cond_true, and15 hu2, byteK_of (digA (Nat.mod_lt _ (by omega))), if_neg h1]
   simp only [nnK_some', Nat.zero_add]
   rw [ei, if_pos ⟨by omega, by omega⟩, show ((i - 1 : Nat) : Int).toNat = i - 1 from rfl, wrK_one hg hlen rfl, b8_set l _ (by omega), if_neg (by omega), shr4 hu2]
   have hlt : u / 16 < 16 ^ k := by
    rw [Nat.div_lt_iff_lt_mul (by omega)]; rw [Nat.pow_succ] at hu; exact hu
   have hk0 : 0 < k := by
    rcases Nat.eq_zero_or_pos k with e | e
    ·subst e
     simp at hlt; omega
    ·exact e
   have m1 : Mod [b] h (h.set b (.cells (List.replicate (i - 1) (AV.int .u8 0) ++ b8 (dig (u % 16) :: l)) false)) := (Mod.refl _ _).set (.inr (by simp)) _
   refine (fb_loop k (u / 16) (i - 1) m (dig (u % 16) :: l) _ hk0 hlt (by omega) (by omega) (by simp; omega) (by omega) (by simpa using hb) (get_set_self _ _ _)).mono fun r h' ⟨q1, q2⟩ => ⟨m1.trans q1, ?_⟩
   rw [q2, List.append_assoc]
   rfl
/-- the table of math/bits lies where it is looked for -/
def tzs : List Int := [0, 1, 56, 2, 57, 49, 28, 3, 61, 58, 42, 50, 38, 29, 17, 4, 62, 47, 59, 36, 45, 43, 51, 22, 53, 39, 33, 30, 24, 18, 12, 5, 63, 55, 48, 27, 60, 41, 37, 16, 46, 35, 44, 21, 52, 32, 23, 11, 54, 26, 40, 15, 34, 20, 31, 10, 25, 14, 19, 9, 13, 8, 7, 6]
def tz64 : List AV := tzs.map (.int .u8)
theorem hexT_ret {u : Nat} (hu : u < 65536) {n : Nat} (hn : 20 ≤ n) {h : H} (h1n : 1 < h.next) (ht : h.get 1 = some (.cells tz64 true)) : Ret (ca n i_strconv_FormatInt [.int .i64 u, .int .i64 16] h) fun r h' => Mod [] h h' ∧ r = .str (mk (dg 16 4 u)) := by
 obtain ⟨n, rfl⟩ : ∃ m, n = m + 6 := ⟨n - 6, by omega⟩
 rw [strconv_FormatInt_eq, strconv_FormatInt_2_eq, show ((16 : Int) == 10) = false by decide, cond_false, strconv_formatBits_eq]
 rw [show decide ((16 : Int) < 2) = false by decide, cond_false, show ((16 : Int) == 10) = false by decide, cond_false, show decide ((16 : Int) > 36) = false by decide, strconv_formatBits_J0_eq, cond_false, strconv_formatBits_J1_eq]
 rw [show decide (((u : Nat) : Int) < 0) = false by simp]
 simp only [newK_eq, cond_false]
 rw [strconv_formatBits_J2_eq, strconv_isPowerOfTwo_eq, show ((iand .i64 16 (IntKind.i64.wrap (16 - 1)) : Int) == 0) = true by decide +kernel]
 simp only [Option.bind_some, asBool_bool, cond_true]
 rw [bits_TrailingZeros_eq, show IntKind.u64.wrap 16 = 16 by decide, bits_TrailingZeros64_16]
 have m1 : Mod [] h (h.new (.cells (List.replicate 65 (AV.int .u8 0)) false)) := (Mod.refl _ _).new _
 change Ret (Option.bind (Option.bind (Option.bind (Option.bind (cellK (h.new (.cells (List.replicate 65 (AV.int .u8 0)) false)) 1 15 _) _) _) _) _) _
 rw [cellK_of ((m1.get 1 h1n (by simp)).trans ht) (o := 15) rfl]
 simp only [asInt_int, Option.bind_some]
 rw [show IntKind.i64.wrap 4 = 4 by decide]
 rw [show IntKind.u64.wrap 4 = 4 by decide, show IntKind.u64.wrap (16 - 1) = 15 by decide, show IntKind.u64.wrap ((u : Nat) : Int) = (u : Nat) from wrap_u64 (by omega) (by omega)]
 have k := fb_loop (n := n + 3) (b := h.next) 4 u 65 (n + 3) [] (h.new (.cells (List.replicate 65 (AV.int .u8 0)) false)) (by omega) (by omega) hu (by omega) rfl (by omega) (by simp) (by simpa [b8] using get_new_self h _)
 refine Ret.bind (P := fun r h' => Mod [] h h' ∧ r = .str (mk (dg 16 4 u))) (k.bind ?_) ?_
 ·rintro _ h1 ⟨q1, rfl⟩
  simp only [asTup_tup, lL_of, lS_of, l0_nil, List.append_nil]
  exact .pure ⟨m1.trans' q1 fun i hi hl => by simp at hi; omega, rfl⟩
 ·rintro _ h1 ⟨q1, rfl⟩
  simp only [asStr_str]
  exact .pure ⟨q1, rfl⟩
end Go.Ev.Tryd

/- AddressText: what it writes. -/
namespace Go.Ev.Tryd
set_option maxRecDepth 10000
open Go.Proofs
theorem join_le (c : UInt8) (l : List (List UInt8)) : (Lib.join l [c]).length ≤ l.flatten.length + l.length := by
 unfold Lib.join
 induction l with
 | nil => simp
 | cons x l ih =>
  cases l with
  | nil => simp
  | cons y l =>
   rw [List.intercalate_cons_cons]
   simp only [List.length_append, List.flatten_cons, List.length_cons, List.length_nil] at ih ⊢
   omega
theorem flat_le {k : Nat} : ∀ {xs : List ByteArray}, (∀ x ∈ xs, x.size ≤ k) → (xs.map (·.data.toList)).flatten.length ≤ k * xs.length
 | [], _ => by simp
 | x :: xs, h => by
  have h1 := flat_le (k := k) (xs := xs) fun y hy => h y (by simp [hy])
  have h2 : x.data.toList.length ≤ k := by have := h x (by simp); simpa using this
  simp only [List.map_cons, List.flatten_cons, List.length_append, List.length_cons, Nat.mul_add]
  omega
theorem join_small {c : UInt8} {xs : List ByteArray} (h : ∀ x ∈ xs, x.size ≤ 100) (hl : xs.length ≤ 1000) : (Lib.join (xs.map (·.data.toList)) (mk [c]).data.toList).length ≤ 140737488355328 := by
 have h1 := join_le c (xs.map (·.data.toList))
 have h2 := flat_le h
 simp only [List.length_map] at h1
 have : (mk [c]).data.toList = [c] := rfl
 rw [this]
 omega
def dT (c : UInt8) : ByteArray := itoaS c.toNat
theorem dT_dg (c : UInt8) : dT c = mk (dg 10 3 c.toNat) := by
 have : ∀ k : Fin 256, Lib.itoa ((k.val : Nat) : Int) = dg 10 3 k.val := by decide +kernel
 refine bs_inj ?_
 rw [bs_mk]
 have := this ⟨c.toNat, c.toNat_lt⟩
 simp only at this
 rw [← this]
 rfl
theorem dT_size (c : UInt8) : (dT c).size ≤ 100 := by
 rw [dT_dg, size_mk]
 have := dg_len 10 3 c.toNat
 omega
theorem Itoa_eq {n : Nat} {h : H} (ht : h.get 0 = some (.tab pow10AV)) (c : UInt8) : ca (n + 1) i_strconv_Itoa [.int .i64 (c.toNat : Nat)] h = some (.str (dT c), h) := by
 have := c.toNat_lt
 rw [strconv_Itoa_eq, strconv_Itoa_16_eq, itoaF_of ht (by omega) (by omega), Option.bind_some]
 rfl
theorem AT4_loop {a : H} {n : Nat} (hn : 2 ≤ n) {bl : List UInt8} {p : Option (Nat × Nat)} {c : Cap} (row : Row a 1 p bl.length c (bl.map fun x => AV.int .u8 x.toNat)) (hmax : bl.length ≤ 100) (ht : a.get 0 = some (.tab pow10AV)) (h0 : 0 < a.next) :
  ∀ (ts pre : List UInt8) (m : Nat) (h : H) (q : Option (Nat × Nat)) (d : Cap), bl = pre ++ ts → ts.length < m → Mod [] a h → Grow a h 1 q pre.length d ((pre.map dT).map AV.str) →
   Ret (words_AddressText_L0 n m q pre.length d p bl.length c bl.length pre.length h) fun r h' => Mod [] a h' ∧ r = .str (joinS (bl.map dT) (mk [46]))
 | [], pre, m + 1, h, q, d, hx, _, hm, g => by
  obtain ⟨n, rfl⟩ : ∃ k, n = k + 1 := ⟨n - 1, by omega⟩
  rw [List.append_nil] at hx
  subst hx
  rw [words_AddressText_L0_eq, cast_not_lt (by omega), cond_false, strings_Join_eq, strings_Join_32_eq]
  change Ret (Option.bind (Option.bind (joinF q bl.length d (mk [46]) h) _) _) _
  rw [joinF_of g.row (by simp; omega) (join_small (fun x hx => by obtain ⟨y, _, rfl⟩ := List.mem_map.1 hx; exact dT_size y) (by simp; omega)), Option.bind_some, Option.bind_some]
  simp only [asStr_str]
  exact .pure ⟨hm, rfl⟩
 | t :: ts, pre, m + 1, h, q, d, hx, hl, hm, g => by
  obtain ⟨n, rfl⟩ : ∃ k, n = k + 1 := ⟨n - 1, by omega⟩
  have hpl : pre.length < bl.length := by rw [hx]; simp
  have htn := t.toNat_lt
  rw [words_AddressText_L0_eq, cast_lt hpl, cond_true, (row.mod0 hm).ix1 (x := t) (by rw [hx]; simp), asInt_int, wrap_i64 (by omega) (by omega), Itoa_eq ((hm.get 0 h0 (by simp)).trans ht), Option.bind_some]
  simp only [asStr_str, newK_eq]
  refine g.push hm.next rfl rfl (by decide) (by omega) (by omega) fun q' d' h' g' m' => ?_
  rw [wrap_succ (by omega), show pre.length + 1 = (pre ++ [t]).length by simp]
  exact AT4_loop hn row hmax ht h0 ts (pre ++ [t]) m h' q' d' (by rw [hx]; simp) (by simp at hl; omega) (hm.push g m') (by simpa using g')
theorem ior8 {a b : Nat} (ha : a < 256) (hb : b < 256) : ior .i64 (ishl .i64 (a : Int) 8) (b : Int) = ((256 * a + b : Nat) : Int) := by
 have h1 : ishl .i64 (a : Int) 8 = ((a * 256 : Nat) : Int) := by
  unfold ishl
  rw [show min (8 : Int).toNat IntKind.i64.bits = 8 from rfl, wrap_i64 (by omega) (by omega)]
  omega
 rw [h1]
 have h4 : (BitVec.ofInt 64 ((a * 256 : Nat) : Int) ||| BitVec.ofInt 64 (b : Int)).toNat = a * 256 + b := by
  rw [BitVec.toNat_or, BitVec.ofInt_natCast, BitVec.ofInt_natCast, BitVec.toNat_ofNat, BitVec.toNat_ofNat, Nat.mod_eq_of_lt (by omega), Nat.mod_eq_of_lt (by omega)]
  rw [Nat.mul_comm, show (256 : Nat) = 2 ^ 8 from rfl, ← Nat.two_pow_add_eq_or_of_lt (by omega)]
 show IntKind.i64.wrap ((BitVec.ofInt 64 ((a * 256 : Nat) : Int) ||| BitVec.ofInt 64 (b : Int)).toNat : Nat) = _
 rw [h4, wrap_i64 (by omega) (by omega)]
 omega
def hT (u : Nat) : ByteArray := mk (dg 16 4 u)
theorem hT_size (u : Nat) : (hT u).size ≤ 100 := by
 have := dg_len 16 4 u
 unfold hT; rw [size_mk]; omega
/-- the pairs of bytes, as numbers -/
def prs : List UInt8 → List Nat
 | x :: y :: l => (256 * x.toNat + y.toNat) :: prs l
 | _ => []
theorem AT16_loop {a : H} {n : Nat} (hn : 22 ≤ n) (h1a : 1 < a.next) {s : ByteArray} (hs : s.size = 16) (ht : a.get 1 = some (.cells tz64 true)) :
  ∀ (ts : List UInt8) (j m : Nat) (pre : List Nat) (h : H) (q : Option (Nat × Nat)) (d : Cap), (bs s).drop (2 * j) = ts → j ≤ 8 → ts.length + 2 * j = 16 → ts.length < m → pre.length = j → Mod [] a h → Grow a h 1 q j d ((pre.map hT).map AV.str) →
   Ret (words_AddressText_L1 n m s q j d ((2 * j : Nat) : Int) h) fun r h' => Mod [] a h' ∧ r = .str (joinS ((pre ++ prs ts).map hT) (mk [58]))
 | [], j, m + 1, pre, h, q, d, hd, hj, hl, _, hp, hm, g => by
  obtain ⟨n, rfl⟩ : ∃ k, n = k + 1 := ⟨n - 1, by omega⟩
  simp only [List.length_nil] at hl
  subst hp
  rw [words_AddressText_L1_eq, show decide (((2 * pre.length : Nat) : Int) < 16) = false by simp; omega, cond_false, strings_Join_eq, strings_Join_32_eq]
  change Ret (Option.bind (Option.bind (joinF q pre.length d (mk [58]) h) _) _) _
  rw [joinF_of g.row (by simp; omega) (join_small (fun x hx => by obtain ⟨y, _, rfl⟩ := List.mem_map.1 hx; exact hT_size y) (by simp; omega)), Option.bind_some, Option.bind_some]
  simp only [asStr_str]
  exact .pure ⟨hm, by simp [prs]⟩
 | [_], j, _, _, _, _, _, _, _, hl, _, _, _, _ => by simp at hl; omega
 | x :: y :: ts, j, m + 1, pre, h, q, d, hd, hj, hl, hlm, hp, hm, g => by
  simp only [List.length_cons] at hl hlm
  have hx : (bs s)[2 * j]? = some x := by have := congrArg (·[0]?) hd; simpa using this
  have hy : (bs s)[2 * j + 1]? = some y := by have := congrArg (·[1]?) hd; simpa using this
  have hd' : (bs s).drop (2 * (j + 1)) = ts := by rw [show 2 * (j + 1) = 2 * j + 2 by omega, ← List.drop_drop, hd]; rfl
  have hxn := x.toNat_lt
  have hyn := y.toNat_lt
  rw [words_AddressText_L1_eq, show decide (((2 * j : Nat) : Int) < 16) = true by simp; omega, cond_true, byteK_of hx, wrap_succ (by omega), byteK_of hy, wrap_i64 (x := (x.toNat : Int)) (by omega) (by omega), wrap_i64 (x := (y.toNat : Int)) (by omega) (by omega), ior8 (by omega) (by omega)]
  refine (hexT_ret (u := 256 * x.toNat + y.toNat) (by omega) (by omega) (hm.lt h1a) ((hm.get 1 h1a (by simp)).trans ht)).bind ?_
  rintro _ h1 ⟨m1, rfl⟩
  simp only [asStr_str, newK_eq]
  have hm1 := hm.trans m1
  have g1 := g.mod0 m1
  refine g1.push hm1.next rfl rfl (by decide) (by omega) (by omega) fun q' d' h' g' m' => ?_
  rw [wrap_i64 (by omega) (by omega), show (((2 * j : Nat) : Int) + 2) = ((2 * (j + 1) : Nat) : Int) by omega]
  have := AT16_loop hn h1a hs ht ts (j + 1) m (pre ++ [256 * x.toNat + y.toNat]) h' q' d' hd' (by omega) (by omega) (by omega) (by simp [hp]) (hm1.push g1 m') (by simpa [hT] using g')
  simpa [prs] using this
def pT (s : ByteArray) : ByteArray := if s.size = 4 then joinS ((bs s).map dT) (mk [46]) else if s.size = 16 then joinS ((prs (bs s)).map hT) (mk [58]) else ⟨#[]⟩
theorem AddressText_ret (s : ByteArray) {n : Nat} (hn : 40 ≤ n) {h : H} (h1 : 1 < h.next) (ht0 : h.get 0 = some (.tab pow10AV)) (ht1 : h.get 1 = some (.cells tz64 true)) : Ret (ca n i_words_AddressText [.str s] h) fun r h' => Mod [] h h' ∧ r = .str (pT s) := by
 obtain ⟨n, rfl⟩ : ∃ k, n = k + 1 := ⟨n - 1, by omega⟩
 rw [words_AddressText_eq]
 unfold pT
 by_cases h4 : s.size = 4
 ·rw [show (((s.size : Nat) : Int) == 4) = true by simp; omega, cond_true, if_pos h4]
  simp only [newK_eq]
  have m1 : Mod [] h (h.new (.cells (s.data.toList.map fun c => AV.int .u8 c.toNat) false)) := (Mod.refl _ _).new _
  have row : Row (h.new (.cells (s.data.toList.map fun c => AV.int .u8 c.toNat) false)) 1 (some (h.next, 0)) (bs s).length (.rest 1) ((bs s).map fun x => AV.int .u8 x.toNat) :=
   .row (by simp) (get_new_self _ _) (by rw [List.drop_zero, List.take_of_length_le (by simp [bs])]; rfl) (by simp [bs]) (.inl rfl)
  have hl : (bs s).length = s.size := bs_len s
  rw [← hl]
  exact (AT4_loop (by omega) row (by omega) ((m1.get 0 (by omega) (by simp)).trans ht0) (by simp) (bs s) [] n _ none (.known 0) rfl (by omega) (.refl _ _) .nil).mono fun r h' ⟨q1, q2⟩ => ⟨m1.trans q1, q2⟩
 ·rw [show (((s.size : Nat) : Int) == 4) = false by simp; omega, cond_false, if_neg h4]
  by_cases h16 : s.size = 16
  ·rw [show (((s.size : Nat) : Int) == 16) = true by simp; omega, cond_true, if_pos h16]
   have := AT16_loop (n := n) (by omega) h1 h16 ht1 (bs s) 0 n [] h none (.known 0) rfl (by omega) (by rw [bs_len]; omega) (by rw [bs_len]; omega) rfl (.refl _ _) .nil
   simpa using this
  ·rw [show (((s.size : Nat) : Int) == 16) = false by simp; omega, cond_false, if_neg h16]
   exact .pure ⟨.refl _ _, rfl⟩
end Go.Ev.Tryd
