/- What the functions compute, printed by evprint2.py. -/
import Derived.Test.YtkikfnpanlcajaaDoorEvDn
import Derived.Test.YtkikfnpanlcajaaDoorProg
import Derived.KernelRfl
import Derived.Test.YtkikfnpanlcajaaDoorLeaf17
set_option maxRecDepth 100000
set_option linter.all false
namespace Go.Ev.Tryd
open Go.Proofs

def s_11c1601c : Bs := ⟨#[0, 1, 2, 2, 3, 3, 3, 3, 4, 4, 4, 4, 4, 4, 4, 4, 5, 5, 5, 5, 5, 5, 5, 5, 5, 5, 5, 5, 5, 5, 5, 5, 6, 6, 6, 6, 6, 6, 6, 6, 6, 6, 6, 6, 6, 6, 6, 6, 6, 6, 6, 6, 6, 6, 6, 6, 6, 6, 6, 6, 6, 6, 6, 6, 7, 7, 7, 7, 7, 7, 7, 7, 7, 7, 7, 7, 7, 7, 7, 7, 7, 7, 7, 7, 7, 7, 7, 7, 7, 7, 7, 7, 7, 7, 7, 7, 7, 7, 7, 7, 7, 7, 7, 7, 7, 7, 7, 7, 7, 7, 7, 7, 7, 7, 7, 7, 7, 7, 7, 7, 7, 7, 7, 7, 7, 7, 7, 7, 8, 8, 8, 8, 8, 8, 8, 8, 8, 8, 8, 8, 8, 8, 8, 8, 8, 8, 8, 8, 8, 8, 8, 8, 8, 8, 8, 8, 8, 8, 8, 8, 8, 8, 8, 8, 8, 8, 8, 8, 8, 8, 8, 8, 8, 8, 8, 8, 8, 8, 8, 8, 8, 8, 8, 8, 8, 8, 8, 8, 8, 8, 8, 8, 8, 8, 8, 8, 8, 8, 8, 8, 8, 8, 8, 8, 8, 8, 8, 8, 8, 8, 8, 8, 8, 8, 8, 8, 8, 8, 8, 8, 8, 8, 8, 8, 8, 8, 8, 8, 8, 8, 8, 8, 8, 8, 8, 8, 8, 8, 8, 8, 8, 8, 8, 8, 8, 8, 8, 8, 8, 8, 8, 8, 8, 8, 8, 8]⟩
def s_68c4f033 : Bs := ⟨#[48, 49, 50, 51, 52, 53, 54, 55, 56, 57, 97, 98, 99, 100, 101, 102]⟩
def s_7706fa12 : Bs := ⟨#[48, 49, 58, 97, 98, 58, 48, 48, 58, 48, 48, 58, 48, 48, 58, 48, 48]⟩
def s_87730c3d : Bs := ⟨#[48, 48, 48, 49, 48, 50, 48, 51, 48, 52, 48, 53, 48, 54, 48, 55, 48, 56, 48, 57, 49, 48, 49, 49, 49, 50, 49, 51, 49, 52, 49, 53, 49, 54, 49, 55, 49, 56, 49, 57, 50, 48, 50, 49, 50, 50, 50, 51, 50, 52, 50, 53, 50, 54, 50, 55, 50, 56, 50, 57, 51, 48, 51, 49, 51, 50, 51, 51, 51, 52, 51, 53, 51, 54, 51, 55, 51, 56, 51, 57, 52, 48, 52, 49, 52, 50, 52, 51, 52, 52, 52, 53, 52, 54, 52, 55, 52, 56, 52, 57, 53, 48, 53, 49, 53, 50, 53, 51, 53, 52, 53, 53, 53, 54, 53, 55, 53, 56, 53, 57, 54, 48, 54, 49, 54, 50, 54, 51, 54, 52, 54, 53, 54, 54, 54, 55, 54, 56, 54, 57, 55, 48, 55, 49, 55, 50, 55, 51, 55, 52, 55, 53, 55, 54, 55, 55, 55, 56, 55, 57, 56, 48, 56, 49, 56, 50, 56, 51, 56, 52, 56, 53, 56, 54, 56, 55, 56, 56, 56, 57, 57, 48, 57, 49, 57, 50, 57, 51, 57, 52, 57, 53, 57, 54, 57, 55, 57, 56, 57, 57]⟩
def s_f3e7e2c9 : Bs := ⟨#[49, 48, 46, 48, 46, 48, 46, 48, 49]⟩
def s_fdb5537d : Bs := ⟨#[48, 49, 50, 51, 52, 53, 54, 55, 56, 57, 97, 98, 99, 100, 101, 102, 103, 104, 105, 106, 107, 108, 109, 110, 111, 112, 113, 114, 115, 116, 117, 118, 119, 120, 121, 122]⟩
def i_outriderlaw17_WordsWrites : Nat := 7
def i_outriderlaw17_alive : Nat := 8
def i_words_All : Nat := 9
def i_words_Number : Nat := 10
def i_words_Address : Nat := 12
def i_words_Card : Nat := 14
def i_words_AddressText : Nat := 16
def i_words_CardText : Nat := 17
def i_outriderref17_AddressText : Nat := 18
def i_outriderref17_CardText : Nat := 19
def i_words_reader_end : Nat := 20
def i_words_reader_stop : Nat := 21
def i_words_may : Nat := 22
def i_words_reader_take : Nat := 23
def i_words_groups : Nat := 24
def i_words_Address_1 : Nat := 25
def i_words_Address_2 : Nat := 26
def i_words_hex : Nat := 27
def i_words_Card_1 : Nat := 30
def i_strconv_Itoa : Nat := 31
def i_strings_Join : Nat := 32
def i_strconv_FormatInt : Nat := 33
def i_outriderref17_inBase : Nat := 34
def i_strings_Split : Nat := 35
def i_strconv_FormatInt_2 : Nat := 40
def i_strings_genSplit : Nat := 41
def i_strconv_small : Nat := 44
def i_strconv_numDigits : Nat := 45
def i_strconv_formatBase10 : Nat := 46
def i_strconv_formatBits : Nat := 47
def i_strings_explode : Nat := 48
def i_strings_Count : Nat := 49
def i_strings_Index : Nat := 50
def i_strconv_log10Pow2 : Nat := 53
def i_bits_Len64 : Nat := 54
def i_strconv_bool2_int : Nat := 55
def i_strconv_isPowerOfTwo : Nat := 56
def i_bits_TrailingZeros : Nat := 57
def i_utf8_RuneCountInString : Nat := 58
def i_utf8_DecodeRuneInString : Nat := 59
def i_bytealg_CountString : Nat := 60
def i_stringslite_Index : Nat := 61
def i_bits_TrailingZeros32 : Nat := 62
def i_bits_TrailingZeros64 : Nat := 63
def i_utf8_decodeRuneInStringSlow : Nat := 64
def i_stringslite_IndexByte : Nat := 65
def i_bytealg_IndexString : Nat := 66
def i_bytealg_Cutover : Nat := 67
def i_bytealg_IndexRabinKarp_string : Nat := 68
def i_bytealg_IndexByteString : Nat := 69
def i_bytealg_hashStr_string : Nat := 70
noncomputable def e_outriderlaw17_WordsWrites : FEnt Tryd.prog := ⟨7, Tryd.f7, [(29, [0, 3, 5, 6, 24])], [], Go.Proofs.Tryd.func7, by kernel_rfl, by kernel_rfl⟩
noncomputable def e_outriderlaw17_alive : FEnt Tryd.prog := ⟨8, Tryd.f8, [], [], Go.Proofs.Tryd.func8, by kernel_rfl, by kernel_rfl⟩
noncomputable def e_words_All : FEnt Tryd.prog := ⟨9, Tryd.f9, [(119607, [0, 5, 6, 7, 13, 14, 34])], [(58, [0, 5, 13, 14])], Go.Proofs.Tryd.func9, by kernel_rfl, by kernel_rfl⟩
noncomputable def e_words_Number : FEnt Tryd.prog := ⟨10, Tryd.f10, [(13, [0, 22]), (15669, [4, 6, 24, 33])], [(122, [4, 24])], Go.Proofs.Tryd.func10, by kernel_rfl, by kernel_rfl⟩
noncomputable def e_words_Address : FEnt Tryd.prog := ⟨12, Tryd.f12, [(29, [0, 4, 17]), (125, [6, 30])], [], Go.Proofs.Tryd.func12, by kernel_rfl, by kernel_rfl⟩
noncomputable def e_words_Card : FEnt Tryd.prog := ⟨14, Tryd.f14, [(29, [2, 4, 17])], [], Go.Proofs.Tryd.func14, by kernel_rfl, by kernel_rfl⟩
noncomputable def e_words_AddressText : FEnt Tryd.prog := ⟨16, Tryd.f16, [], [(1874, [3, 12, 13, 14]), (7538, [0, 3, 6])], Go.Proofs.Tryd.func16, by kernel_rfl, by kernel_rfl⟩
noncomputable def e_words_CardText : FEnt Tryd.prog := ⟨17, Tryd.f17, [], [(58, [3, 6, 7])], Go.Proofs.Tryd.func17, by kernel_rfl, by kernel_rfl⟩
noncomputable def e_outriderref17_AddressText : FEnt Tryd.prog := ⟨18, Tryd.f18, [], [(250, [0, 3, 5]), (466, [0, 3, 4])], Go.Proofs.Tryd.func18, by kernel_rfl, by kernel_rfl⟩
noncomputable def e_outriderref17_CardText : FEnt Tryd.prog := ⟨19, Tryd.f19, [], [(58, [1, 3, 4])], Go.Proofs.Tryd.func19, by kernel_rfl, by kernel_rfl⟩
noncomputable def e_words_reader_end : FEnt Tryd.prog := ⟨20, Tryd.f20, [], [], Go.Proofs.Tryd.func20, by kernel_rfl, by kernel_rfl⟩
noncomputable def e_words_reader_stop : FEnt Tryd.prog := ⟨21, Tryd.f21, [(3, [0])], [], Go.Proofs.Tryd.func21, by kernel_rfl, by kernel_rfl⟩
noncomputable def e_words_may : FEnt Tryd.prog := ⟨22, Tryd.f22, [], [], Go.Proofs.Tryd.func22, by kernel_rfl, by kernel_rfl⟩
noncomputable def e_words_reader_take : FEnt Tryd.prog := ⟨23, Tryd.f23, [(3711, [0, 1, 2, 7, 31]), (14847, [0, 2, 7, 45])], [], Go.Proofs.Tryd.func23, by kernel_rfl, by kernel_rfl⟩
noncomputable def e_words_groups : FEnt Tryd.prog := ⟨24, Tryd.f24, [], [(58, [2, 3, 10, 18, 19, 20]), (59806, [2, 3, 10, 13, 15, 18, 19, 20])], Go.Proofs.Tryd.func24, by kernel_rfl, by kernel_rfl⟩
noncomputable def e_words_Address_1 : FEnt Tryd.prog := ⟨25, Tryd.f25, [], [], Go.Proofs.Tryd.func25, by kernel_rfl, by kernel_rfl⟩
noncomputable def e_words_Address_2 : FEnt Tryd.prog := ⟨26, Tryd.f26, [], [], Go.Proofs.Tryd.func26, by kernel_rfl, by kernel_rfl⟩
noncomputable def e_words_hex : FEnt Tryd.prog := ⟨27, Tryd.f27, [(3739, [0, 1, 2, 8, 12]), (14953, [0, 1, 2, 8, 10, 12, 16]), (59815, [0, 1, 2, 8, 10, 12, 29])], [(58, [0, 1, 2, 8, 12])], Go.Proofs.Tryd.func27, by kernel_rfl, by kernel_rfl⟩
noncomputable def e_words_Card_1 : FEnt Tryd.prog := ⟨30, Tryd.f30, [], [], Go.Proofs.Tryd.func30, by kernel_rfl, by kernel_rfl⟩
noncomputable def e_strconv_FormatInt : FEnt Tryd.prog := ⟨33, Tryd.f33, [], [], Go.Proofs.Tryd.func33, by kernel_rfl, by kernel_rfl⟩
noncomputable def e_outriderref17_inBase : FEnt Tryd.prog := ⟨34, Tryd.f34, [], [], Go.Proofs.Tryd.func34, by kernel_rfl, by kernel_rfl⟩
noncomputable def e_strings_Split : FEnt Tryd.prog := ⟨35, Tryd.f35, [], [], Go.Proofs.Tryd.func35, by kernel_rfl, by kernel_rfl⟩
noncomputable def e_strconv_FormatInt_2 : FEnt Tryd.prog := ⟨40, Tryd.f40, [(105, [0, 17]), (431, [0, 5, 6])], [], Go.Proofs.Tryd.func40, by kernel_rfl, by kernel_rfl⟩
noncomputable def e_strings_genSplit : FEnt Tryd.prog := ⟨41, Tryd.f41, [(31, [0, 1, 2, 3]), (1023, [0, 9, 10])], [(2044, [0, 1, 2, 3, 9, 10])], Go.Proofs.Tryd.func41, by kernel_rfl, by kernel_rfl⟩
noncomputable def e_strconv_small : FEnt Tryd.prog := ⟨44, Tryd.f44, [], [], Go.Proofs.Tryd.func44, by kernel_rfl, by kernel_rfl⟩
noncomputable def e_strconv_numDigits : FEnt Tryd.prog := ⟨45, Tryd.f45, [], [], Go.Proofs.Tryd.func45, by kernel_rfl, by kernel_rfl⟩
noncomputable def e_strconv_formatBase10 : FEnt Tryd.prog := ⟨46, Tryd.f46, [(31, [0, 4, 12]), (63, [0, 4, 12])], [(12, [0, 1, 4])], Go.Proofs.Tryd.func46, by kernel_rfl, by kernel_rfl⟩
noncomputable def e_strconv_formatBits : FEnt Tryd.prog := ⟨47, Tryd.f47, [(7, [0, 1, 2, 3, 4, 10, 11]), (13, [0, 1, 2, 3, 4, 10, 11, 28]), (63, [0, 1, 2, 3, 4, 10, 11, 12, 13]), (127, [0, 3, 4, 10, 11, 12, 13]), (255, [0, 4, 10, 11, 12, 13])], [(4060, [0, 1, 3, 4, 10, 11, 12, 13, 17]), (16220, [0, 1, 3, 4, 10, 11, 12, 13, 14, 15, 16])], Go.Proofs.Tryd.func47, by kernel_rfl, by kernel_rfl⟩
noncomputable def e_strings_explode : FEnt Tryd.prog := ⟨48, Tryd.f48, [(15, [0, 1]), (29, [0, 1, 5, 18])], [(250, [0, 1, 6, 7])], Go.Proofs.Tryd.func48, by kernel_rfl, by kernel_rfl⟩
noncomputable def e_strings_Count : FEnt Tryd.prog := ⟨49, Tryd.f49, [], [(62, [0, 1, 5])], Go.Proofs.Tryd.func49, by kernel_rfl, by kernel_rfl⟩
noncomputable def e_strings_Index : FEnt Tryd.prog := ⟨50, Tryd.f50, [], [], Go.Proofs.Tryd.func50, by kernel_rfl, by kernel_rfl⟩
noncomputable def e_strconv_log10Pow2 : FEnt Tryd.prog := ⟨53, Tryd.f53, [], [], Go.Proofs.Tryd.func53, by kernel_rfl, by kernel_rfl⟩
noncomputable def e_bits_Len64 : FEnt Tryd.prog := ⟨54, Tryd.f54, [(7, [0, 2]), (15, [0, 2]), (31, [0, 2])], [], Go.Proofs.Tryd.func54, by kernel_rfl, by kernel_rfl⟩
noncomputable def e_strconv_bool2_int : FEnt Tryd.prog := ⟨55, Tryd.f55, [], [], Go.Proofs.Tryd.func55, by kernel_rfl, by kernel_rfl⟩
noncomputable def e_strconv_isPowerOfTwo : FEnt Tryd.prog := ⟨56, Tryd.f56, [], [], Go.Proofs.Tryd.func56, by kernel_rfl, by kernel_rfl⟩
noncomputable def e_bits_TrailingZeros : FEnt Tryd.prog := ⟨57, Tryd.f57, [], [], Go.Proofs.Tryd.func57, by kernel_rfl, by kernel_rfl⟩
noncomputable def e_utf8_RuneCountInString : FEnt Tryd.prog := ⟨58, Tryd.f58, [], [(26, [2, 4])], Go.Proofs.Tryd.func58, by kernel_rfl, by kernel_rfl⟩
noncomputable def e_utf8_DecodeRuneInString : FEnt Tryd.prog := ⟨59, Tryd.f59, [(13, [0, 10])], [], Go.Proofs.Tryd.func59, by kernel_rfl, by kernel_rfl⟩
noncomputable def e_stringslite_Index : FEnt Tryd.prog := ⟨61, Tryd.f61, [(57, [0, 1, 5, 16]), (3711, [0, 1, 5, 36]), (32709, [0, 1, 5, 6, 7, 8, 9, 10]), (130837, [0, 1, 5, 6, 7, 8, 9, 10, 93]), (523359, [0, 1, 5, 6, 7, 8, 9, 10, 107]), (2093439, [0, 1, 5, 6, 7, 8, 9, 10, 132])], [(2044, [0, 1, 5, 6, 7, 8, 9, 10])], Go.Proofs.Tryd.func61, by kernel_rfl, by kernel_rfl⟩
noncomputable def e_bits_TrailingZeros32 : FEnt Tryd.prog := ⟨62, Tryd.f62, [], [], Go.Proofs.Tryd.func62, by kernel_rfl, by kernel_rfl⟩
noncomputable def e_bits_TrailingZeros64 : FEnt Tryd.prog := ⟨63, Tryd.f63, [], [], Go.Proofs.Tryd.func63, by kernel_rfl, by kernel_rfl⟩
noncomputable def e_utf8_decodeRuneInStringSlow : FEnt Tryd.prog := ⟨64, Tryd.f64, [(8189, [0, 5, 8, 10, 57]), (65533, [0, 5, 8, 10, 11, 75]), (524285, [5, 10, 11, 12, 98])], [], Go.Proofs.Tryd.func64, by kernel_rfl, by kernel_rfl⟩
noncomputable def e_stringslite_IndexByte : FEnt Tryd.prog := ⟨65, Tryd.f65, [], [], Go.Proofs.Tryd.func65, by kernel_rfl, by kernel_rfl⟩
noncomputable def e_bytealg_Cutover : FEnt Tryd.prog := ⟨67, Tryd.f67, [], [], Go.Proofs.Tryd.func67, by kernel_rfl, by kernel_rfl⟩
noncomputable def e_bytealg_IndexRabinKarp_string : FEnt Tryd.prog := ⟨68, Tryd.f68, [(253, [0, 1, 5, 6, 7, 8, 39]), (260703, [0, 1, 5, 6, 7, 8, 10, 77])], [(250, [0, 1, 5, 6, 7, 8, 9]), (1018, [0, 1, 5, 6, 7, 8, 10])], Go.Proofs.Tryd.func68, by kernel_rfl, by kernel_rfl⟩
noncomputable def e_bytealg_hashStr_string : FEnt Tryd.prog := ⟨70, Tryd.f70, [], [(58, [0, 4, 5]), (250, [4, 6, 7, 8])], Go.Proofs.Tryd.func70, by kernel_rfl, by kernel_rfl⟩
noncomputable def T : Tab Tryd.prog := ⟨[e_outriderlaw17_WordsWrites, e_outriderlaw17_alive, e_words_All, e_words_Number, e_words_Address, e_words_Card, e_words_AddressText, e_words_CardText, e_outriderref17_AddressText, e_outriderref17_CardText, e_words_reader_end, e_words_reader_stop, e_words_may, e_words_reader_take, e_words_groups, e_words_Address_1, e_words_Address_2, e_words_hex, e_words_Card_1, e_strconv_FormatInt, e_outriderref17_inBase, e_strings_Split, e_strconv_FormatInt_2, e_strings_genSplit, e_strconv_small, e_strconv_numDigits, e_strconv_formatBase10, e_strconv_formatBits, e_strings_explode, e_strings_Count, e_strings_Index, e_strconv_log10Pow2, e_bits_Len64, e_strconv_bool2_int, e_strconv_isPowerOfTwo, e_bits_TrailingZeros, e_utf8_RuneCountInString, e_utf8_DecodeRuneInString, e_stringslite_Index, e_bits_TrailingZeros32, e_bits_TrailingZeros64, e_utf8_decodeRuneInStringSlow, e_stringslite_IndexByte, e_bytealg_Cutover, e_bytealg_IndexRabinKarp_string, e_bytealg_hashStr_string], (fun n => tableOf [strconv_Itoa_31_E n, strings_Join_32_E n, bytealg_CountString_60_E n, bytealg_IndexByteString_69_E n]), (fun n => tableOf_sound _), [(7, [4]), (8, [4]), (9, [23, 3, 24]), (10, [3, 4]), (12, [35, 4]), (14, [39, 4]), (16, [9]), (17, [9]), (18, [9]), (19, [9]), (20, [4]), (21, []), (22, [4]), (23, [4]), (24, [31, 4]), (25, [3, 4]), (26, [3, 4]), (27, [3, 4]), (30, [3, 4]), (31, [9]), (32, [9]), (33, [9]), (34, [9]), (35, [54]), (40, [9]), (41, [54]), (44, [9]), (45, [3]), (46, []), (47, [31, 9]), (48, [54]), (49, [3]), (50, [3]), (53, [3]), (54, [3]), (55, [3]), (56, [4]), (57, [3]), (58, [3]), (59, [21, 3]), (60, [3]), (61, [3]), (62, [3]), (63, [3]), (64, [21, 3]), (65, [3]), (66, [3]), (67, [3]), (68, [3]), (69, [3]), (70, [87, 87])]⟩
noncomputable abbrev ca : Nat → CallFn := callF T
abbrev R := Option (AV × H)
theorem ca_sound (n : Nat) : (ca n).Sound Tryd.prog := callF_sound mixed T n

end Go.Ev.Tryd
