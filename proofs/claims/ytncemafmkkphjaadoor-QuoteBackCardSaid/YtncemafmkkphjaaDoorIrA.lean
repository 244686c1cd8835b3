import Derived.Test.YtncemafmkkphjaaDoorAbsL
import Derived.Test.YtncemafmkkphjaaDoorXA
namespace Go.Abs.A
namespace F
abbrev main_main : FuncId := 0
abbrev gosem_cut : FuncId := 1
abbrev gosem_cut_init : FuncId := 2
abbrev cascadelaw01_TextNames : FuncId := 3
abbrev cascadelaw01_TextRight : FuncId := 4
abbrev cascadelaw01_TextLines : FuncId := 5
abbrev cascadelaw01_TextEnds : FuncId := 6
abbrev cascadelaw01_TextOf : FuncId := 7
abbrev cascadelaw01_TextBack : FuncId := 8
abbrev cascadelaw02_QuoteTexts : FuncId := 9
abbrev cascadelaw02_QuoteOne : FuncId := 10
abbrev cascadelaw02_QuoteReads : FuncId := 11
abbrev cascadelaw02_QuoteBack : FuncId := 12
abbrev cascadelaw02_QuoteCuts : FuncId := 13
abbrev cascadelaw01_awake : FuncId := 14
abbrev text_Name : FuncId := 15
abbrev cascaderef01_Name : FuncId := 16
abbrev text_Right : FuncId := 17
abbrev cascaderef01_Bad : FuncId := 18
abbrev text_Bad : FuncId := 19
abbrev cascadelaw01_same : FuncId := 20
abbrev text_Runes : FuncId := 21
abbrev cascaderef01_Runes : FuncId := 22
abbrev text_Lines : FuncId := 23
abbrev cascaderef01_Lines : FuncId := 24
abbrev cascadelaw01_end : FuncId := 25
abbrev text_Of : FuncId := 26
abbrev cascaderef01_Of : FuncId := 27
abbrev cascadelaw02_awake : FuncId := 28
abbrev quote_Quote : FuncId := 29
abbrev cascaderef01_Right : FuncId := 30
abbrev cascaderef02_Quote : FuncId := 31
abbrev quote_Unquote : FuncId := 32
abbrev cascaderef02_Unquote : FuncId := 33
abbrev text_letter : FuncId := 34
abbrev cascaderef01_Letter : FuncId := 35
abbrev cascaderef01_Digit : FuncId := 36
abbrev cascaderef01_Size : FuncId := 37
abbrev unicode_utf8_DecodeRuneInString : FuncId := 38
abbrev strings_IndexByte : FuncId := 39
abbrev strings_HasPrefix : FuncId := 40
abbrev unicode_utf8_ValidRune : FuncId := 41
abbrev strings_Builder_WriteRune : FuncId := 42
abbrev strings_Builder_String : FuncId := 43
abbrev cascaderef01_Rune : FuncId := 44
abbrev strings_Builder_WriteByte : FuncId := 45
abbrev quote_escape : FuncId := 46
abbrev strings_Builder_WriteString : FuncId := 47
abbrev cascaderef02_plain : FuncId := 48
abbrev cascaderef02_hex : FuncId := 49
abbrev quote_escaped : FuncId := 50
abbrev cascaderef02_sign : FuncId := 51
abbrev unicode_utf8_decodeRuneInStringSlow : FuncId := 52
abbrev internal_stringslite_IndexByte : FuncId := 53
abbrev internal_stringslite_HasPrefix : FuncId := 54
abbrev strings_Builder_copyCheck : FuncId := 55
abbrev unicode_utf8_AppendRune : FuncId := 56
abbrev quote_short : FuncId := 57
abbrev quote_unit : FuncId := 58
abbrev cascaderef02_four : FuncId := 59
abbrev internal_bytealg_IndexByteString : FuncId := 60
abbrev internal_abi_NoEscape : FuncId := 61
abbrev unicode_utf8_appendRuneNonASCII : FuncId := 62
abbrev quote_digit : FuncId := 63
abbrev runtime_boundsError_Error : FuncId := 64
abbrev runtime_boundsError_RuntimeError : FuncId := 65
abbrev runtime_errorString_Error : FuncId := 66
abbrev runtime_errorString_RuntimeError : FuncId := 67
abbrev runtime_plainError_Error : FuncId := 68
abbrev runtime_plainError_RuntimeError : FuncId := 69
abbrev runtime_errorAddressString_Error : FuncId := 70
abbrev runtime_errorAddressString_RuntimeError : FuncId := 71
abbrev runtime_TypeAssertionError_Error : FuncId := 72
abbrev runtime_TypeAssertionError_RuntimeError : FuncId := 73
abbrev runtime_PanicNilError_Error : FuncId := 74
abbrev runtime_PanicNilError_RuntimeError : FuncId := 75
abbrev internal_abi_Type_Align : FuncId := 76
abbrev internal_runtime_maps_unhashableTypeError_Error : FuncId := 77
abbrev internal_runtime_maps_unhashableTypeError_RuntimeError : FuncId := 78
abbrev strings_Builder_Reset : FuncId := 79
abbrev internal_abi_Kind_String : FuncId := 80
abbrev gosem_cut_vars : FuncId := 85
end F
def k_text_letter_0 : KC := (.reg [
    { dst := some 2, r := .move (.c (.bool false)) }]
  (.reg [
    { dst := some 3, r := .move (.t 0) },
    { dst := some 4, r := .bin .geq (.t 3) (.c (.int .i32 97)) },
    { dst := some 5, r := .move (.t 4) },
    { dst := some 6, g := some (5, true), r := .move (.t 0) },
    { dst := some 7, g := some (5, true), r := .bin .leq (.t 6) (.c (.int .i32 122)) },
    { dst := some 8, r := .pick (.t 5) (.t 7) (.c (.bool false)) },
    { dst := some 9, r := .move (.t 8) },
    { dst := some 10, g := some (9, false), r := .move (.t 0) },
    { dst := some 11, g := some (9, false), r := .bin .geq (.t 10) (.c (.int .i32 65)) },
    { dst := some 12, g := some (9, false), r := .move (.t 11) },
    { dst := some 13, g := some (12, true), r := .move (.t 0) },
    { dst := some 14, g := some (12, true), r := .bin .leq (.t 13) (.c (.int .i32 90)) },
    { dst := some 15, g := some (9, false), r := .pick (.t 12) (.t 14) (.c (.bool false)) },
    { dst := some 16, r := .pick (.t 9) (.c (.bool true)) (.t 15) },
    { dst := some 17, r := .move (.t 16) },
    { dst := some 18, g := some (17, false), r := .move (.t 0) },
    { dst := some 19, g := some (17, false), r := .bin .eql (.t 18) (.c (.int .i32 95)) },
    { dst := some 20, r := .pick (.t 17) (.c (.bool true)) (.t 19) },
    { dst := some 2, r := .move (.t 20) }]
  .ret))
def r_text_letter : KF where
  np := 1
  res := [.tmp 2]
  code := [k_text_letter_0]
def k_text_Name_0 : KC := (.reg [
    { dst := some 2, r := .move (.c (.bool false)) }]
  (.seq (.reg [
    { dst := some 5, r := .move (.t 0) },
    { dst := some 6, r := .range (.t 5) }]
  (.block 0 (.loop ⟨1, [0, 6], [[6]]⟩)))
  ⟨3, [0], []⟩))
def k_text_Name_1 : KC := (.reg [
    { dst := some 7, r := .next (.t 6) },
    { dst := some 8, r := .extract (.t 7) 0 }]
  (.seq (.cond (.t 8)
  .skip
  (.exit 0))
  ⟨2, [0, 6, 7], [[6]]⟩))
def k_text_Name_2 : KC := (.block 1 (.reg [
    { dst := some 9, r := .extract (.t 7) 1 },
    { dst := some 10, r := .extract (.t 7) 2 },
    { dst := some 3, r := .move (.t 9) },
    { dst := some 4, r := .move (.t 10) }]
  (.reg [
    { dst := some 11, r := .move (.t 4) },
    { dst := some 12, r := .call .pur F.text_letter [(.t 11)] },
    { dst := some 13, r := .un .not (.t 12) },
    { dst := some 14, r := .move (.t 13) },
    { dst := some 15, g := some (14, true), r := .move (.t 3) },
    { dst := some 16, g := some (14, true), r := .bin .eql (.t 15) (.c (.int .i64 0)) },
    { dst := some 17, g := some (14, true), r := .move (.t 16) },
    { dst := some 18, g := some (17, false), r := .move (.t 4) },
    { dst := some 19, g := some (17, false), r := .bin .lss (.t 18) (.c (.int .i32 48)) },
    { dst := some 20, g := some (14, true), r := .pick (.t 17) (.c (.bool true)) (.t 19) },
    { dst := some 21, g := some (14, true), r := .move (.t 20) },
    { dst := some 22, g := some (21, false), r := .move (.t 4) },
    { dst := some 23, g := some (21, false), r := .bin .gtr (.t 22) (.c (.int .i32 57)) },
    { dst := some 24, g := some (14, true), r := .pick (.t 21) (.c (.bool true)) (.t 23) },
    { dst := some 25, r := .pick (.t 14) (.t 24) (.c (.bool false)) }]
  (.cond (.t 25)
  (.reg [
    { dst := some 2, r := .move (.c (.bool false)) }]
  .ret)
  .skip))))
def k_text_Name_3 : KC := (.reg [
    { dst := some 26, r := .move (.t 0) },
    { dst := some 27, r := .bin .neq (.t 26) (.c (.str [])) },
    { dst := some 2, r := .move (.t 27) }]
  .ret)
def r_text_Name : KF where
  np := 1
  res := [.tmp 2]
  code := [k_text_Name_0, k_text_Name_1, k_text_Name_2, k_text_Name_3]
def k_text_Bad_0 : KC := (.reg [
    { dst := some 2, r := .move (.c (.int .i64 0)) }]
  (.seq (.reg [
    { dst := some 7, r := .move (.t 0) },
    { dst := some 8, r := .range (.t 7) }]
  (.block 0 (.loop ⟨1, [0, 8], [[8]]⟩)))
  ⟨4, [], []⟩))
def k_text_Bad_1 : KC := (.reg [
    { dst := some 9, r := .next (.t 8) },
    { dst := some 10, r := .extract (.t 9) 0 }]
  (.seq (.cond (.t 10)
  .skip
  (.exit 0))
  ⟨2, [0, 8, 9], [[8]]⟩))
def k_text_Bad_2 : KC := (.block 1 (.reg [
    { dst := some 11, r := .extract (.t 9) 1 },
    { dst := some 12, r := .extract (.t 9) 2 },
    { dst := some 3, r := .move (.t 11) },
    { dst := some 4, r := .move (.t 12) }]
  (.seq (.reg [
    { dst := some 13, r := .move (.t 4) },
    { dst := some 14, r := .bin .neq (.t 13) (.c (.int .i32 65533)) }]
  (.cond (.t 14)
  (.exit 1)
  .skip))
  ⟨3, [0, 3, 8], [[8]]⟩)))
def k_text_Bad_3 : KC := (.reg [
    { dst := some 16, r := .move (.t 0) },
    { dst := some 17, r := .move (.t 3) },
    { dst := some 18, r := .slice 0 (.t 16) (some (.t 17)) none },
    { dst := some 19, r := .call .pur F.unicode_utf8_DecodeRuneInString [(.t 18)] },
    { dst := some 15, r := .move (.t 19) },
    { dst := some 20, r := .extract (.t 15) 0 },
    { dst := some 21, r := .extract (.t 15) 1 },
    { dst := some 5, r := .move (.t 20) },
    { dst := some 6, r := .move (.t 21) }]
  (.reg [
    { dst := some 22, r := .move (.t 6) },
    { dst := some 23, r := .bin .eql (.t 22) (.c (.int .i64 1)) }]
  (.cond (.t 23)
  (.reg [
    { dst := some 24, r := .move (.t 3) },
    { dst := some 2, r := .move (.t 24) }]
  .ret)
  .skip)))
def k_text_Bad_4 : KC := (.reg [
    { dst := some 2, r := .move (.c (.int .i64 (-1))) }]
  .ret)
def r_text_Bad : KF where
  np := 1
  res := [.tmp 2]
  code := [k_text_Bad_0, k_text_Bad_1, k_text_Bad_2, k_text_Bad_3, k_text_Bad_4]
def k_text_Right_0 : KC := (.reg [
    { dst := some 2, r := .move (.c (.bool false)) }]
  (.reg [
    { dst := some 3, r := .move (.t 0) },
    { dst := some 4, r := .call .pur F.text_Bad [(.t 3)] },
    { dst := some 5, r := .bin .lss (.t 4) (.c (.int .i64 0)) },
    { dst := some 2, r := .move (.t 5) }]
  .ret))
def r_text_Right : KF where
  np := 1
  res := [.tmp 2]
  code := [k_text_Right_0]
def k_cascadelaw01_awake_0 : KC := (.reg [
    { dst := some 0, r := .move (.c (.bool false)) }]
  (.reg [
    { dst := some 1, r := .call .pur F.text_Right [(.c (.str [97]))] },
    { dst := some 2, r := .move (.t 1) },
    { dst := some 3, g := some (2, true), r := .call .pur F.text_Bad [(.c (.str [97]))] },
    { dst := some 4, g := some (2, true), r := .bin .eql (.t 3) (.c (.int .i64 (-1))) },
    { dst := some 5, r := .pick (.t 2) (.t 4) (.c (.bool false)) },
    { dst := some 6, r := .move (.t 5) },
    { dst := some 7, g := some (6, true), r := .call .pur F.text_Name [(.c (.str [97, 95, 49]))] },
    { dst := some 8, r := .pick (.t 6) (.t 7) (.c (.bool false)) },
    { dst := some 0, r := .move (.t 8) }]
  .ret))
def r_cascadelaw01_awake : KF where
  np := 0
  res := [.tmp 0]
  code := [k_cascadelaw01_awake_0]
def k_cascaderef01_Letter_0 : KC := (.reg [
    { dst := some 2, r := .move (.c (.bool false)) }]
  (.reg [
    { dst := some 3, r := .move (.t 0) },
    { dst := some 4, r := .bin .geq (.t 3) (.c (.int .u8 97)) },
    { dst := some 5, r := .move (.t 4) },
    { dst := some 6, g := some (5, true), r := .move (.t 0) },
    { dst := some 7, g := some (5, true), r := .bin .leq (.t 6) (.c (.int .u8 122)) },
    { dst := some 8, r := .pick (.t 5) (.t 7) (.c (.bool false)) },
    { dst := some 9, r := .move (.t 8) },
    { dst := some 10, g := some (9, false), r := .move (.t 0) },
    { dst := some 11, g := some (9, false), r := .bin .geq (.t 10) (.c (.int .u8 65)) },
    { dst := some 12, g := some (9, false), r := .move (.t 11) },
    { dst := some 13, g := some (12, true), r := .move (.t 0) },
    { dst := some 14, g := some (12, true), r := .bin .leq (.t 13) (.c (.int .u8 90)) },
    { dst := some 15, g := some (9, false), r := .pick (.t 12) (.t 14) (.c (.bool false)) },
    { dst := some 16, r := .pick (.t 9) (.c (.bool true)) (.t 15) },
    { dst := some 17, r := .move (.t 16) },
    { dst := some 18, g := some (17, false), r := .move (.t 0) },
    { dst := some 19, g := some (17, false), r := .bin .eql (.t 18) (.c (.int .u8 95)) },
    { dst := some 20, r := .pick (.t 17) (.c (.bool true)) (.t 19) },
    { dst := some 2, r := .move (.t 20) }]
  .ret))
def r_cascaderef01_Letter : KF where
  np := 1
  res := [.tmp 2]
  code := [k_cascaderef01_Letter_0]
def k_cascaderef01_Digit_0 : KC := (.reg [
    { dst := some 2, r := .move (.c (.bool false)) }]
  (.reg [
    { dst := some 3, r := .move (.t 0) },
    { dst := some 4, r := .bin .geq (.t 3) (.c (.int .u8 48)) },
    { dst := some 5, r := .move (.t 4) },
    { dst := some 6, g := some (5, true), r := .move (.t 0) },
    { dst := some 7, g := some (5, true), r := .bin .leq (.t 6) (.c (.int .u8 57)) },
    { dst := some 8, r := .pick (.t 5) (.t 7) (.c (.bool false)) },
    { dst := some 2, r := .move (.t 8) }]
  .ret))
def r_cascaderef01_Digit : KF where
  np := 1
  res := [.tmp 2]
  code := [k_cascaderef01_Digit_0]
def k_cascaderef01_Name_0 : KC := (.reg [
    { dst := some 2, r := .move (.c (.bool false)) }]
  (.seq (.reg [
    { dst := some 3, r := .move (.c (.int .i64 0)) }]
  (.block 0 (.loop ⟨1, [0, 3], []⟩)))
  ⟨4, [0], []⟩))
def k_cascaderef01_Name_1 : KC := (.seq (.reg [
    { dst := some 4, r := .move (.t 3) },
    { dst := some 5, r := .move (.t 0) },
    { dst := some 6, r := .len .str (.t 5) },
    { dst := some 7, r := .bin .lss (.t 4) (.t 6) }]
  (.cond (.t 7)
  .skip
  (.exit 0)))
  ⟨2, [0, 3], []⟩)
def k_cascaderef01_Name_2 : KC := (.seq (.block 1 (.reg [
    { dst := some 10, r := .move (.t 0) },
    { dst := some 11, r := .move (.t 3) },
    { dst := some 12, r := .idx (.t 10) (.t 11) },
    { dst := some 13, r := .call .pur F.cascaderef01_Letter [(.t 12)] },
    { dst := some 14, r := .un .not (.t 13) },
    { dst := some 15, r := .move (.t 14) },
    { dst := some 16, g := some (15, true), r := .move (.t 3) },
    { dst := some 17, g := some (15, true), r := .bin .eql (.t 16) (.c (.int .i64 0)) },
    { dst := some 18, g := some (15, true), r := .move (.t 17) },
    { dst := some 19, g := some (18, false), r := .move (.t 0) },
    { dst := some 20, g := some (18, false), r := .move (.t 3) },
    { dst := some 21, g := some (18, false), r := .idx (.t 19) (.t 20) },
    { dst := some 22, g := some (18, false), r := .call .pur F.cascaderef01_Digit [(.t 21)] },
    { dst := some 23, g := some (18, false), r := .un .not (.t 22) },
    { dst := some 24, g := some (15, true), r := .pick (.t 18) (.c (.bool true)) (.t 23) },
    { dst := some 25, r := .pick (.t 15) (.t 24) (.c (.bool false)) }]
  (.cond (.t 25)
  (.reg [
    { dst := some 2, r := .move (.c (.bool false)) }]
  .ret)
  .skip)))
  ⟨3, [0, 3], []⟩)
def k_cascaderef01_Name_3 : KC := (.lreg [
    { dst := some 8, r := .move (.t 3) },
    { dst := some 9, r := .bin .add (.t 8) (.c (.int .i64 1)) },
    { dst := some 3, r := .move (.t 9) }])
def k_cascaderef01_Name_4 : KC := (.reg [
    { dst := some 26, r := .move (.t 0) },
    { dst := some 27, r := .len .str (.t 26) },
    { dst := some 28, r := .bin .gtr (.t 27) (.c (.int .i64 0)) },
    { dst := some 2, r := .move (.t 28) }]
  .ret)
def r_cascaderef01_Name : KF where
  np := 1
  res := [.tmp 2]
  code := [k_cascaderef01_Name_0, k_cascaderef01_Name_1, k_cascaderef01_Name_2, k_cascaderef01_Name_3, k_cascaderef01_Name_4]
def k_cascadelaw01_TextNames_0 : KC := (.reg [
    { dst := some 2, r := .move (.c (.bool false)) }]
  (.seq (.reg [
    { dst := some 3, r := .call .pur F.cascadelaw01_awake [] },
    { dst := some 4, r := .un .not (.t 3) },
    { dst := some 5, r := .move (.t 4) },
    { dst := some 6, g := some (5, false), r := .move (.t 0) },
    { dst := some 7, g := some (5, false), r := .len .str (.t 6) },
    { dst := some 8, g := some (5, false), r := .bin .gtr (.t 7) (.c (.int .i64 200)) },
    { dst := some 9, r := .pick (.t 5) (.c (.bool true)) (.t 8) }]
  (.cond (.t 9)
  (.reg [
    { dst := some 10, r := .call .pur F.cascadelaw01_awake [] },
    { dst := some 2, r := .move (.t 10) }]
  .ret)
  .skip))
  ⟨1, [0], []⟩))
def k_cascadelaw01_TextNames_1 : KC := (.reg [
    { dst := some 11, r := .move (.t 0) },
    { dst := some 12, r := .call .pur F.text_Name [(.t 11)] },
    { dst := some 13, r := .move (.t 0) },
    { dst := some 14, r := .call .pur F.cascaderef01_Name [(.t 13)] },
    { dst := some 15, r := .eq false .bool (.t 12) (.t 14) },
    { dst := some 16, r := .move (.t 15) },
    { dst := some 17, g := some (16, true), r := .move (.t 0) },
    { dst := some 18, g := some (16, true), r := .call .pur F.text_Name [(.t 17)] },
    { dst := some 19, g := some (16, true), r := .un .not (.t 18) },
    { dst := some 20, g := some (16, true), r := .move (.t 19) },
    { dst := some 21, g := some (20, false), r := .move (.t 0) },
    { dst := some 22, g := some (20, false), r := .call .pur F.text_Right [(.t 21)] },
    { dst := some 23, g := some (16, true), r := .pick (.t 20) (.c (.bool true)) (.t 22) },
    { dst := some 24, r := .pick (.t 16) (.t 23) (.c (.bool false)) },
    { dst := some 2, r := .move (.t 24) }]
  .ret)
def r_cascadelaw01_TextNames : KF where
  np := 1
  res := [.tmp 2]
  code := [k_cascadelaw01_TextNames_0, k_cascadelaw01_TextNames_1]
def k_cascaderef01_Size_0 : KC := (.reg [
    { dst := some 4, r := .move (.c (.int .i64 0)) },
    { dst := some 5, r := .move (.c (.int .i32 0)) }]
  (.reg [
    { dst := some 12, r := .move (.t 0) },
    { dst := some 13, r := .move (.t 1) },
    { dst := some 14, r := .idx (.t 12) (.t 13) },
    { dst := some 15, r := .conv (.int .i64) (.t 14) },
    { dst := some 6, r := .move (.t 15) }]
  (.reg [
    { dst := some 7, r := .move (.c (.int .i64 0)) },
    { dst := some 8, r := .move (.c (.int .i64 0)) },
    { dst := some 9, r := .move (.c (.int .i64 0)) }]
  (.seq (.reg [
    { dst := some 16, r := .move (.t 6) },
    { dst := some 17, r := .bin .lss (.t 16) (.c (.int .i64 128)) }]
  (.cond (.t 17)
  (.reg [
    { dst := some 18, r := .move (.t 6) },
    { dst := some 19, r := .conv (.int .i32) (.t 18) },
    { dst := some 4, r := .move (.c (.int .i64 1)) },
    { dst := some 5, r := .move (.t 19) }]
  .ret)
  .skip))
  ⟨1, [0, 1, 6, 7, 8, 9], []⟩))))
def k_cascaderef01_Size_1 : KC := (.seq (.reg [
    { dst := some 20, r := .move (.t 6) },
    { dst := some 21, r := .bin .geq (.t 20) (.c (.int .i64 194)) },
    { dst := some 22, r := .move (.t 21) },
    { dst := some 23, g := some (22, true), r := .move (.t 6) },
    { dst := some 24, g := some (22, true), r := .bin .lss (.t 23) (.c (.int .i64 224)) },
    { dst := some 25, r := .pick (.t 22) (.t 24) (.c (.bool false)) }]
  (.cond (.t 25)
  (.reg [
    { dst := some 7, r := .move (.c (.int .i64 2)) }]
  (.reg [
    { dst := some 26, r := .move (.t 6) },
    { dst := some 27, r := .bin .sub (.t 26) (.c (.int .i64 192)) },
    { dst := some 8, r := .move (.t 27) }]
  (.lreg [
    { dst := some 9, r := .move (.c (.int .i64 128)) }])))
  .skip))
  ⟨2, [0, 1, 6, 7, 8, 9], []⟩)
def k_cascaderef01_Size_2 : KC := (.seq (.reg [
    { dst := some 28, r := .move (.t 6) },
    { dst := some 29, r := .bin .geq (.t 28) (.c (.int .i64 224)) },
    { dst := some 30, r := .move (.t 29) },
    { dst := some 31, g := some (30, true), r := .move (.t 6) },
    { dst := some 32, g := some (30, true), r := .bin .lss (.t 31) (.c (.int .i64 240)) },
    { dst := some 33, r := .pick (.t 30) (.t 32) (.c (.bool false)) }]
  (.cond (.t 33)
  (.reg [
    { dst := some 7, r := .move (.c (.int .i64 3)) }]
  (.reg [
    { dst := some 34, r := .move (.t 6) },
    { dst := some 35, r := .bin .sub (.t 34) (.c (.int .i64 224)) },
    { dst := some 8, r := .move (.t 35) }]
  (.lreg [
    { dst := some 9, r := .move (.c (.int .i64 2048)) }])))
  .skip))
  ⟨3, [0, 1, 6, 7, 8, 9], []⟩)
def k_cascaderef01_Size_3 : KC := (.seq (.reg [
    { dst := some 36, r := .move (.t 6) },
    { dst := some 37, r := .bin .geq (.t 36) (.c (.int .i64 240)) },
    { dst := some 38, r := .move (.t 37) },
    { dst := some 39, g := some (38, true), r := .move (.t 6) },
    { dst := some 40, g := some (38, true), r := .bin .lss (.t 39) (.c (.int .i64 245)) },
    { dst := some 41, r := .pick (.t 38) (.t 40) (.c (.bool false)) }]
  (.cond (.t 41)
  (.reg [
    { dst := some 7, r := .move (.c (.int .i64 4)) }]
  (.reg [
    { dst := some 42, r := .move (.t 6) },
    { dst := some 43, r := .bin .sub (.t 42) (.c (.int .i64 240)) },
    { dst := some 8, r := .move (.t 43) }]
  (.lreg [
    { dst := some 9, r := .move (.c (.int .i64 65536)) }])))
  .skip))
  ⟨4, [0, 1, 7, 8, 9], []⟩)
def k_cascaderef01_Size_4 : KC := (.seq (.reg [
    { dst := some 44, r := .move (.t 7) },
    { dst := some 45, r := .bin .eql (.t 44) (.c (.int .i64 0)) },
    { dst := some 46, r := .move (.t 45) },
    { dst := some 47, g := some (46, false), r := .move (.t 1) },
    { dst := some 48, g := some (46, false), r := .move (.t 0) },
    { dst := some 49, g := some (46, false), r := .len .str (.t 48) },
    { dst := some 50, g := some (46, false), r := .move (.t 7) },
    { dst := some 51, g := some (46, false), r := .bin .sub (.t 49) (.t 50) },
    { dst := some 52, g := some (46, false), r := .bin .add (.t 51) (.c (.int .i64 1)) },
    { dst := some 53, g := some (46, false), r := .bin .geq (.t 47) (.t 52) },
    { dst := some 54, r := .pick (.t 46) (.c (.bool true)) (.t 53) }]
  (.cond (.t 54)
  (.reg [
    { dst := some 4, r := .move (.c (.int .i64 0)) },
    { dst := some 5, r := .move (.c (.int .i32 0)) }]
  .ret)
  .skip))
  ⟨5, [0, 1, 7, 8, 9], []⟩)
def k_cascaderef01_Size_5 : KC := (.seq (.reg [
    { dst := some 10, r := .move (.c (.int .i64 1)) }]
  (.block 0 (.loop ⟨6, [0, 1, 7, 8, 9, 10], []⟩)))
  ⟨10, [7, 8, 9], []⟩)
def k_cascaderef01_Size_6 : KC := (.seq (.reg [
    { dst := some 55, r := .move (.t 10) },
    { dst := some 56, r := .move (.t 7) },
    { dst := some 57, r := .bin .lss (.t 55) (.t 56) }]
  (.cond (.t 57)
  .skip
  (.exit 0)))
  ⟨7, [0, 1, 7, 8, 9, 10], []⟩)
def k_cascaderef01_Size_7 : KC := (.seq (.block 1 (.reg [
    { dst := some 60, r := .move (.t 0) },
    { dst := some 61, r := .move (.t 1) },
    { dst := some 62, r := .move (.t 10) },
    { dst := some 63, r := .bin .add (.t 61) (.t 62) },
    { dst := some 64, r := .idx (.t 60) (.t 63) },
    { dst := some 65, r := .conv (.int .i64) (.t 64) },
    { dst := some 11, r := .move (.t 65) }]
  (.seq (.reg [
    { dst := some 66, r := .move (.t 11) },
    { dst := some 67, r := .bin .lss (.t 66) (.c (.int .i64 128)) },
    { dst := some 68, r := .move (.t 67) },
    { dst := some 69, g := some (68, false), r := .move (.t 11) },
    { dst := some 70, g := some (68, false), r := .bin .geq (.t 69) (.c (.int .i64 192)) },
    { dst := some 71, r := .pick (.t 68) (.c (.bool true)) (.t 70) }]
  (.cond (.t 71)
  (.reg [
    { dst := some 4, r := .move (.c (.int .i64 0)) },
    { dst := some 5, r := .move (.c (.int .i32 0)) }]
  .ret)
  .skip))
  ⟨8, [0, 1, 7, 8, 9, 10, 11], []⟩)))
  ⟨9, [0, 1, 7, 8, 9, 10], []⟩)
def k_cascaderef01_Size_8 : KC := (.lreg [
    { dst := some 72, r := .move (.t 8) },
    { dst := some 73, r := .bin .mul (.t 72) (.c (.int .i64 64)) },
    { dst := some 74, r := .move (.t 11) },
    { dst := some 75, r := .bin .add (.t 73) (.t 74) },
    { dst := some 76, r := .bin .sub (.t 75) (.c (.int .i64 128)) },
    { dst := some 8, r := .move (.t 76) }])
def k_cascaderef01_Size_9 : KC := (.lreg [
    { dst := some 58, r := .move (.t 10) },
    { dst := some 59, r := .bin .add (.t 58) (.c (.int .i64 1)) },
    { dst := some 10, r := .move (.t 59) }])
def k_cascaderef01_Size_10 : KC := (.seq (.reg [
    { dst := some 77, r := .move (.t 8) },
    { dst := some 78, r := .move (.t 9) },
    { dst := some 79, r := .bin .lss (.t 77) (.t 78) },
    { dst := some 80, r := .move (.t 79) },
    { dst := some 81, g := some (80, false), r := .move (.t 8) },
    { dst := some 82, g := some (80, false), r := .bin .gtr (.t 81) (.c (.int .i64 1114111)) },
    { dst := some 83, r := .pick (.t 80) (.c (.bool true)) (.t 82) },
    { dst := some 84, r := .move (.t 83) },
    { dst := some 85, g := some (84, false), r := .move (.t 8) },
    { dst := some 86, g := some (84, false), r := .bin .geq (.t 85) (.c (.int .i64 55296)) },
    { dst := some 87, g := some (84, false), r := .move (.t 86) },
    { dst := some 88, g := some (87, true), r := .move (.t 8) },
    { dst := some 89, g := some (87, true), r := .bin .lss (.t 88) (.c (.int .i64 57344)) },
    { dst := some 90, g := some (84, false), r := .pick (.t 87) (.t 89) (.c (.bool false)) },
    { dst := some 91, r := .pick (.t 84) (.c (.bool true)) (.t 90) }]
  (.cond (.t 91)
  (.reg [
    { dst := some 4, r := .move (.c (.int .i64 0)) },
    { dst := some 5, r := .move (.c (.int .i32 0)) }]
  .ret)
  .skip))
  ⟨11, [7, 8], []⟩)
def k_cascaderef01_Size_11 : KC := (.reg [
    { dst := some 92, r := .move (.t 7) },
    { dst := some 93, r := .move (.t 8) },
    { dst := some 94, r := .conv (.int .i32) (.t 93) },
    { dst := some 4, r := .move (.t 92) },
    { dst := some 5, r := .move (.t 94) }]
  .ret)
def r_cascaderef01_Size : KF where
  np := 2
  res := [.tmp 4, .tmp 5]
  code := [k_cascaderef01_Size_0, k_cascaderef01_Size_1, k_cascaderef01_Size_2, k_cascaderef01_Size_3, k_cascaderef01_Size_4, k_cascaderef01_Size_5, k_cascaderef01_Size_6, k_cascaderef01_Size_7, k_cascaderef01_Size_8, k_cascaderef01_Size_9, k_cascaderef01_Size_10, k_cascaderef01_Size_11]
def k_cascaderef01_Bad_0 : KC := (.reg [
    { dst := some 2, r := .move (.c (.int .i64 0)) }]
  (.seq (.reg [
    { dst := some 3, r := .move (.c (.int .i64 0)) }]
  (.block 0 (.loop ⟨1, [0, 3], []⟩)))
  ⟨4, [], []⟩))
def k_cascaderef01_Bad_1 : KC := (.seq (.reg [
    { dst := some 6, r := .move (.t 3) },
    { dst := some 7, r := .move (.t 0) },
    { dst := some 8, r := .len .str (.t 7) },
    { dst := some 9, r := .bin .lss (.t 6) (.t 8) }]
  (.cond (.t 9)
  .skip
  (.exit 0)))
  ⟨2, [0, 3], []⟩)
def k_cascaderef01_Bad_2 : KC := (.block 1 (.reg [
    { dst := some 11, r := .move (.t 0) },
    { dst := some 12, r := .move (.t 3) },
    { dst := some 13, r := .call .pur F.cascaderef01_Size [(.t 11), (.t 12)] },
    { dst := some 10, r := .move (.t 13) },
    { dst := some 14, r := .extract (.t 10) 0 },
    { dst := some 15, r := .extract (.t 10) 1 },
    { dst := some 4, r := .move (.t 14) },
    { dst := some 5, r := .move (.t 15) }]
  (.seq (.reg [
    { dst := some 16, r := .move (.t 4) },
    { dst := some 17, r := .bin .eql (.t 16) (.c (.int .i64 0)) }]
  (.cond (.t 17)
  (.reg [
    { dst := some 18, r := .move (.t 3) },
    { dst := some 2, r := .move (.t 18) }]
  .ret)
  .skip))
  ⟨3, [0, 3, 4], []⟩)))
def k_cascaderef01_Bad_3 : KC := (.lreg [
    { dst := some 19, r := .move (.t 3) },
    { dst := some 20, r := .move (.t 4) },
    { dst := some 21, r := .bin .add (.t 19) (.t 20) },
    { dst := some 3, r := .move (.t 21) }])
def k_cascaderef01_Bad_4 : KC := (.reg [
    { dst := some 2, r := .move (.c (.int .i64 (-1))) }]
  .ret)
def r_cascaderef01_Bad : KF where
  np := 1
  res := [.tmp 2]
  code := [k_cascaderef01_Bad_0, k_cascaderef01_Bad_1, k_cascaderef01_Bad_2, k_cascaderef01_Bad_3, k_cascaderef01_Bad_4]
def k_cascadelaw01_same_0 : KC := (.reg [
    { dst := some 4, r := .move (.c (.bool false)) }]
  (.seq (.reg [
    { dst := some 6, r := .move (.t 0) },
    { dst := some 7, r := .len .sl (.t 6) },
    { dst := some 8, r := .move (.t 1) },
    { dst := some 9, r := .len .sl (.t 8) },
    { dst := some 10, r := .bin .neq (.t 7) (.t 9) }]
  (.cond (.t 10)
  (.reg [
    { dst := some 4, r := .move (.c (.bool false)) }]
  .ret)
  .skip))
  ⟨1, [0, 1], []⟩))
def k_cascadelaw01_same_1 : KC := (.seq (.reg [
    { dst := some 5, r := .move (.c (.int .i64 0)) }]
  (.block 0 (.loop ⟨2, [0, 1, 5], []⟩)))
  ⟨5, [], []⟩)
def k_cascadelaw01_same_2 : KC := (.seq (.reg [
    { dst := some 11, r := .move (.t 5) },
    { dst := some 12, r := .move (.t 0) },
    { dst := some 13, r := .len .sl (.t 12) },
    { dst := some 14, r := .bin .lss (.t 11) (.t 13) }]
  (.cond (.t 14)
  .skip
  (.exit 0)))
  ⟨3, [0, 1, 5], []⟩)
def k_cascadelaw01_same_3 : KC := (.seq (.block 1 (.dreg [
    { dst := some 17, r := .move (.t 0) },
    { dst := some 18, r := .move (.t 5) },
    { dst := some 19, r := .iaddr 1 (.t 17) (.t 18) },
    { dst := some 20, r := .load false 1 (.t 19) },
    { dst := some 21, r := .move (.t 1) },
    { dst := some 22, r := .move (.t 5) },
    { dst := some 23, r := .iaddr 1 (.t 21) (.t 22) },
    { dst := some 24, r := .load false 1 (.t 23) },
    { dst := some 25, r := .bin .neq (.t 20) (.t 24) }] []
  (.cond (.t 25)
  (.reg [
    { dst := some 4, r := .move (.c (.bool false)) }]
  .ret)
  .skip)))
  ⟨4, [0, 1, 5], []⟩)
def k_cascadelaw01_same_4 : KC := (.lreg [
    { dst := some 15, r := .move (.t 5) },
    { dst := some 16, r := .bin .add (.t 15) (.c (.int .i64 1)) },
    { dst := some 5, r := .move (.t 16) }])
def k_cascadelaw01_same_5 : KC := (.reg [
    { dst := some 4, r := .move (.c (.bool true)) }]
  .ret)
def r_cascadelaw01_same : KF where
  np := 2
  res := [.tmp 4]
  code := [k_cascadelaw01_same_0, k_cascadelaw01_same_1, k_cascadelaw01_same_2, k_cascadelaw01_same_3, k_cascadelaw01_same_4, k_cascadelaw01_same_5]
def k_text_Runes_0 : KC := (.reg [
    { dst := some 2, r := .move (.c (.sl [])) }]
  (.seq (.reg [
    { dst := some 6, r := .move (.t 0) },
    { dst := some 7, r := .call .pur F.text_Right [(.t 6)] },
    { dst := some 8, r := .un .not (.t 7) }]
  (.cond (.t 8)
  (.reg [
    { dst := some 2, r := .move (.c (.sl [])) }]
  .ret)
  .skip))
  ⟨1, [0], []⟩))
def k_text_Runes_1 : KC := (.reg [
    { dst := some 3, r := .vnil 1 }]
  (.seq (.reg [
    { dst := some 9, r := .move (.t 0) },
    { dst := some 10, r := .range (.t 9) }]
  (.block 0 (.loop ⟨2, [3, 10], [[3], [10]]⟩)))
  ⟨4, [3], [[3]]⟩))
def k_text_Runes_2 : KC := (.reg [
    { dst := some 11, r := .next (.t 10) },
    { dst := some 12, r := .extract (.t 11) 0 }]
  (.seq (.cond (.t 12)
  .skip
  (.exit 0))
  ⟨3, [3, 10, 11], [[3], [10]]⟩))
def k_text_Runes_3 : KC := (.block 1 (.reg [
    { dst := some 13, r := .extract (.t 11) 2 },
    { dst := some 5, r := .move (.t 13) }]
  (.lreg [
    { dst := some 14, r := .move (.t 3) },
    { dst := some 15, r := .move (.t 5) },
    { dst := some 16, r := .ilit 1 [(.t 15)] },
    { dst := some 17, r := .app 1 4 (.t 14) (.t 16) },
    { dst := some 3, r := .move (.t 17) }])))
def k_text_Runes_4 : KC := (.reg [
    { dst := some 18, r := .move (.t 3) },
    { dst := some 2, r := .move (.t 18) }]
  .ret)
def r_text_Runes : KF where
  np := 1
  res := [.tmp 2]
  code := [k_text_Runes_0, k_text_Runes_1, k_text_Runes_2, k_text_Runes_3, k_text_Runes_4]
def k_cascaderef01_Right_0 : KC := (.reg [
    { dst := some 2, r := .move (.c (.bool false)) }]
  (.reg [
    { dst := some 3, r := .move (.t 0) },
    { dst := some 4, r := .call .pur F.cascaderef01_Bad [(.t 3)] },
    { dst := some 5, r := .bin .eql (.t 4) (.c (.int .i64 (-1))) },
    { dst := some 2, r := .move (.t 5) }]
  .ret))
def r_cascaderef01_Right : KF where
  np := 1
  res := [.tmp 2]
  code := [k_cascaderef01_Right_0]
def k_cascaderef01_Runes_0 : KC := (.reg [
    { dst := some 2, r := .move (.c (.sl [])) }]
  (.reg [
    { dst := some 3, r := .vnil 1 }]
  (.seq (.reg [
    { dst := some 7, r := .move (.t 0) },
    { dst := some 8, r := .call .pur F.cascaderef01_Right [(.t 7)] },
    { dst := some 9, r := .un .not (.t 8) }]
  (.cond (.t 9)
  (.reg [
    { dst := some 10, r := .move (.t 3) },
    { dst := some 2, r := .move (.t 10) }]
  .ret)
  .skip))
  ⟨1, [0, 3], [[3]]⟩)))
def k_cascaderef01_Runes_1 : KC := (.seq (.reg [
    { dst := some 4, r := .move (.c (.int .i64 0)) }]
  (.block 0 (.loop ⟨2, [0, 3, 4], [[3]]⟩)))
  ⟨4, [3], [[3]]⟩)
def k_cascaderef01_Runes_2 : KC := (.seq (.reg [
    { dst := some 11, r := .move (.t 4) },
    { dst := some 12, r := .move (.t 0) },
    { dst := some 13, r := .len .str (.t 12) },
    { dst := some 14, r := .bin .lss (.t 11) (.t 13) }]
  (.cond (.t 14)
  .skip
  (.exit 0)))
  ⟨3, [0, 3, 4], [[3]]⟩)
def k_cascaderef01_Runes_3 : KC := (.block 1 (.reg [
    { dst := some 16, r := .move (.t 0) },
    { dst := some 17, r := .move (.t 4) },
    { dst := some 18, r := .call .pur F.cascaderef01_Size [(.t 16), (.t 17)] },
    { dst := some 15, r := .move (.t 18) },
    { dst := some 19, r := .extract (.t 15) 0 },
    { dst := some 20, r := .extract (.t 15) 1 },
    { dst := some 5, r := .move (.t 19) },
    { dst := some 6, r := .move (.t 20) }]
  (.reg [
    { dst := some 21, r := .move (.t 3) },
    { dst := some 22, r := .move (.t 6) },
    { dst := some 23, r := .ilit 1 [(.t 22)] },
    { dst := some 24, r := .app 1 4 (.t 21) (.t 23) },
    { dst := some 3, r := .move (.t 24) }]
  (.lreg [
    { dst := some 25, r := .move (.t 4) },
    { dst := some 26, r := .move (.t 5) },
    { dst := some 27, r := .bin .add (.t 25) (.t 26) },
    { dst := some 4, r := .move (.t 27) }]))))
def k_cascaderef01_Runes_4 : KC := (.reg [
    { dst := some 28, r := .move (.t 3) },
    { dst := some 2, r := .move (.t 28) }]
  .ret)
def r_cascaderef01_Runes : KF where
  np := 1
  res := [.tmp 2]
  code := [k_cascaderef01_Runes_0, k_cascaderef01_Runes_1, k_cascaderef01_Runes_2, k_cascaderef01_Runes_3, k_cascaderef01_Runes_4]
def k_cascadelaw01_TextRight_0 : KC := (.reg [
    { dst := some 2, r := .move (.c (.bool false)) }]
  (.seq (.reg [
    { dst := some 4, r := .call .pur F.cascadelaw01_awake [] },
    { dst := some 5, r := .un .not (.t 4) },
    { dst := some 6, r := .move (.t 5) },
    { dst := some 7, g := some (6, false), r := .move (.t 0) },
    { dst := some 8, g := some (6, false), r := .len .str (.t 7) },
    { dst := some 9, g := some (6, false), r := .bin .gtr (.t 8) (.c (.int .i64 400)) },
    { dst := some 10, r := .pick (.t 6) (.c (.bool true)) (.t 9) }]
  (.cond (.t 10)
  (.reg [
    { dst := some 11, r := .call .pur F.cascadelaw01_awake [] },
    { dst := some 2, r := .move (.t 11) }]
  .ret)
  .skip))
  ⟨1, [0], []⟩))
def k_cascadelaw01_TextRight_1 : KC := (.reg [
    { dst := some 12, r := .move (.t 0) },
    { dst := some 13, r := .call .pur F.cascaderef01_Bad [(.t 12)] },
    { dst := some 3, r := .move (.t 13) }]
  (.reg [
    { dst := some 14, r := .move (.t 0) },
    { dst := some 15, r := .call .pur F.text_Bad [(.t 14)] },
    { dst := some 16, r := .move (.t 3) },
    { dst := some 17, r := .bin .eql (.t 15) (.t 16) },
    { dst := some 18, r := .move (.t 17) },
    { dst := some 19, g := some (18, true), r := .move (.t 0) },
    { dst := some 20, g := some (18, true), r := .call .pur F.text_Right [(.t 19)] },
    { dst := some 21, g := some (18, true), r := .move (.t 3) },
    { dst := some 22, g := some (18, true), r := .bin .eql (.t 21) (.c (.int .i64 (-1))) },
    { dst := some 23, g := some (18, true), r := .eq false .bool (.t 20) (.t 22) },
    { dst := some 24, r := .pick (.t 18) (.t 23) (.c (.bool false)) },
    { dst := some 25, r := .move (.t 24) },
    { dst := some 26, g := some (25, true), r := .move (.t 0) },
    { dst := some 27, g := some (25, true), r := .call .pur F.text_Runes [(.t 26)] },
    { dst := some 28, g := some (25, true), r := .move (.t 0) },
    { dst := some 29, g := some (25, true), r := .call .pur F.cascaderef01_Runes [(.t 28)] },
    { dst := some 30, g := some (25, true), r := .call .pur F.cascadelaw01_same [(.t 27), (.t 29)] },
    { dst := some 31, r := .pick (.t 25) (.t 30) (.c (.bool false)) },
    { dst := some 2, r := .move (.t 31) }]
  .ret))
def r_cascadelaw01_TextRight : KF where
  np := 1
  res := [.tmp 2]
  code := [k_cascadelaw01_TextRight_0, k_cascadelaw01_TextRight_1]
def k_unicode_utf8_ValidRune_0 : KC := (.reg [
    { dst := some 2, r := .move (.c (.bool false)) }]
  (.seq (.block 0 (.reg [
    { dst := some 4, r := .move (.t 0) },
    { dst := some 5, r := .bin .leq (.c (.int .i32 0)) (.t 4) },
    { dst := some 6, r := .move (.t 5) },
    { dst := some 7, g := some (6, true), r := .move (.t 0) },
    { dst := some 8, g := some (6, true), r := .bin .lss (.t 7) (.c (.int .i32 55296)) },
    { dst := some 9, r := .pick (.t 6) (.t 8) (.c (.bool false)) },
    { dst := some 3, r := .move (.t 9) }]
  (.cond (.t 3)
  (.reg [
    { dst := some 2, r := .move (.c (.bool true)) }]
  .ret)
  (.reg [
    { dst := some 11, r := .move (.t 0) },
    { dst := some 12, r := .bin .lss (.c (.int .i32 57343)) (.t 11) },
    { dst := some 13, r := .move (.t 12) },
    { dst := some 14, g := some (13, true), r := .move (.t 0) },
    { dst := some 15, g := some (13, true), r := .bin .leq (.t 14) (.c (.int .i32 1114111)) },
    { dst := some 16, r := .pick (.t 13) (.t 15) (.c (.bool false)) },
    { dst := some 10, r := .move (.t 16) }]
  (.cond (.t 10)
  (.reg [
    { dst := some 2, r := .move (.c (.bool true)) }]
  .ret)
  .skip)))))
  ⟨1, [], []⟩))
def k_unicode_utf8_ValidRune_1 : KC := (.reg [
    { dst := some 2, r := .move (.c (.bool false)) }]
  .ret)
def r_unicode_utf8_ValidRune : KF where
  np := 1
  res := [.tmp 2]
  code := [k_unicode_utf8_ValidRune_0, k_unicode_utf8_ValidRune_1]
def k_text_Of_0 : KC := (.reg [
    { dst := some 2, r := .move (.c (.str [])) },
    { dst := some 3, r := .move (.c (.int .i64 0)) }]
  (.reg [
    { dst := some 4, r := .bnew 53 5 }]
  (.seq (.reg [
    { dst := some 7, r := .move (.t 0) },
    { dst := some 8, r := .len .sl (.t 7) },
    { dst := some 9, r := .move (.c (.int .i64 0)) }]
  (.block 0 (.loop ⟨1, [4, 7, 8, 9], [[4], [4, 1]]⟩)))
  ⟨5, [4], [[4], [4, 1]]⟩)))
def k_text_Of_1 : KC := (.reg [
    { dst := some 10, r := .bin .lss (.t 9) (.t 8) }]
  (.seq (.cond (.t 10)
  .skip
  (.exit 0))
  ⟨2, [4, 7, 8, 9], [[4], [4, 1]]⟩))
def k_text_Of_2 : KC := (.seq (.block 1 (.reg [
    { dst := some 11, r := .iaddr 1 (.t 7) (.t 9) },
    { dst := some 12, r := .load false 1 (.t 11) },
    { dst := some 6, r := .move (.t 12) }]
  (.seq (.reg [
    { dst := some 13, r := .move (.t 6) },
    { dst := some 14, r := .call .pur F.unicode_utf8_ValidRune [(.t 13)] },
    { dst := some 15, r := .un .not (.t 14) }]
  (.cond (.t 15)
  (.reg [
    { dst := some 2, r := .move (.c (.str [])) },
    { dst := some 3, r := .move (.c (.int .i64 2)) }]
  .ret)
  .skip))
  ⟨3, [4, 6, 7, 8, 9], [[4], [4, 1]]⟩)))
  ⟨4, [4, 7, 8, 9], [[4], [4, 1]]⟩)
def k_text_Of_3 : KC := (.lreg [
    { dst := some 16, r := .move (.t 6) },
    { dst := some 17, r := .call .eff F.strings_Builder_WriteRune [(.t 4), (.t 16)] }])
def k_text_Of_4 : KC := (.lreg [
    { dst := some 18, r := .bin .add (.t 9) (.c (.int .i64 1)) },
    { dst := some 9, r := .move (.t 18) }])
def k_text_Of_5 : KC := (.reg [
    { dst := some 19, r := .call .eff F.strings_Builder_String [(.t 4)] },
    { dst := some 2, r := .move (.t 19) },
    { dst := some 3, r := .move (.c (.int .i64 0)) }]
  .ret)
def r_text_Of : KF where
  np := 1
  res := [.tmp 2, .tmp 3]
  code := [k_text_Of_0, k_text_Of_1, k_text_Of_2, k_text_Of_3, k_text_Of_4, k_text_Of_5]
def k_cascaderef01_Rune_0 : KC := (.reg [
    { dst := some 2, r := .move (.c (.str [])) }]
  (.reg [
    { dst := some 4, r := .move (.t 0) },
    { dst := some 5, r := .conv (.int .i64) (.t 4) },
    { dst := some 3, r := .move (.t 5) }]
  (.seq (.reg [
    { dst := some 6, r := .move (.t 3) },
    { dst := some 7, r := .bin .lss (.t 6) (.c (.int .i64 0)) },
    { dst := some 8, r := .move (.t 7) },
    { dst := some 9, g := some (8, false), r := .move (.t 3) },
    { dst := some 10, g := some (8, false), r := .bin .gtr (.t 9) (.c (.int .i64 1114111)) },
    { dst := some 11, r := .pick (.t 8) (.c (.bool true)) (.t 10) },
    { dst := some 12, r := .move (.t 11) },
    { dst := some 13, g := some (12, false), r := .move (.t 3) },
    { dst := some 14, g := some (12, false), r := .bin .geq (.t 13) (.c (.int .i64 55296)) },
    { dst := some 15, g := some (12, false), r := .move (.t 14) },
    { dst := some 16, g := some (15, true), r := .move (.t 3) },
    { dst := some 17, g := some (15, true), r := .bin .lss (.t 16) (.c (.int .i64 57344)) },
    { dst := some 18, g := some (12, false), r := .pick (.t 15) (.t 17) (.c (.bool false)) },
    { dst := some 19, r := .pick (.t 12) (.c (.bool true)) (.t 18) }]
  (.cond (.t 19)
  (.reg [
    { dst := some 2, r := .move (.c (.str [])) }]
  .ret)
  .skip))
  ⟨1, [3], []⟩)))
def k_cascaderef01_Rune_1 : KC := (.seq (.reg [
    { dst := some 20, r := .move (.t 3) },
    { dst := some 21, r := .bin .lss (.t 20) (.c (.int .i64 128)) }]
  (.cond (.t 21)
  (.reg [
    { dst := some 22, r := .move (.t 3) },
    { dst := some 23, r := .conv (.int .u8) (.t 22) },
    { dst := some 24, r := .ilit 1 [(.t 23)] },
    { dst := some 25, r := .conv .ofBytes (.t 24) },
    { dst := some 2, r := .move (.t 25) }]
  .ret)
  .skip))
  ⟨2, [3], []⟩)
def k_cascaderef01_Rune_2 : KC := (.seq (.reg [
    { dst := some 26, r := .move (.t 3) },
    { dst := some 27, r := .bin .lss (.t 26) (.c (.int .i64 2048)) }]
  (.cond (.t 27)
  (.reg [
    { dst := some 28, r := .move (.t 3) },
    { dst := some 29, r := .bin .quo (.t 28) (.c (.int .i64 64)) },
    { dst := some 30, r := .bin .add (.c (.int .i64 192)) (.t 29) },
    { dst := some 31, r := .conv (.int .u8) (.t 30) },
    { dst := some 32, r := .move (.t 3) },
    { dst := some 33, r := .bin .rem (.t 32) (.c (.int .i64 64)) },
    { dst := some 34, r := .bin .add (.c (.int .i64 128)) (.t 33) },
    { dst := some 35, r := .conv (.int .u8) (.t 34) },
    { dst := some 36, r := .ilit 1 [(.t 31), (.t 35)] },
    { dst := some 37, r := .conv .ofBytes (.t 36) },
    { dst := some 2, r := .move (.t 37) }]
  .ret)
  .skip))
  ⟨3, [3], []⟩)
def k_cascaderef01_Rune_3 : KC := (.seq (.reg [
    { dst := some 38, r := .move (.t 3) },
    { dst := some 39, r := .bin .lss (.t 38) (.c (.int .i64 65536)) }]
  (.cond (.t 39)
  (.reg [
    { dst := some 40, r := .move (.t 3) },
    { dst := some 41, r := .bin .quo (.t 40) (.c (.int .i64 4096)) },
    { dst := some 42, r := .bin .add (.c (.int .i64 224)) (.t 41) },
    { dst := some 43, r := .conv (.int .u8) (.t 42) },
    { dst := some 44, r := .move (.t 3) },
    { dst := some 45, r := .bin .quo (.t 44) (.c (.int .i64 64)) },
    { dst := some 46, r := .bin .rem (.t 45) (.c (.int .i64 64)) },
    { dst := some 47, r := .bin .add (.c (.int .i64 128)) (.t 46) },
    { dst := some 48, r := .conv (.int .u8) (.t 47) },
    { dst := some 49, r := .move (.t 3) },
    { dst := some 50, r := .bin .rem (.t 49) (.c (.int .i64 64)) },
    { dst := some 51, r := .bin .add (.c (.int .i64 128)) (.t 50) },
    { dst := some 52, r := .conv (.int .u8) (.t 51) },
    { dst := some 53, r := .ilit 1 [(.t 43), (.t 48), (.t 52)] },
    { dst := some 54, r := .conv .ofBytes (.t 53) },
    { dst := some 2, r := .move (.t 54) }]
  .ret)
  .skip))
  ⟨4, [3], []⟩)
def k_cascaderef01_Rune_4 : KC := (.reg [
    { dst := some 55, r := .move (.t 3) },
    { dst := some 56, r := .bin .quo (.t 55) (.c (.int .i64 262144)) },
    { dst := some 57, r := .bin .add (.c (.int .i64 240)) (.t 56) },
    { dst := some 58, r := .conv (.int .u8) (.t 57) },
    { dst := some 59, r := .move (.t 3) },
    { dst := some 60, r := .bin .quo (.t 59) (.c (.int .i64 4096)) },
    { dst := some 61, r := .bin .rem (.t 60) (.c (.int .i64 64)) },
    { dst := some 62, r := .bin .add (.c (.int .i64 128)) (.t 61) },
    { dst := some 63, r := .conv (.int .u8) (.t 62) },
    { dst := some 64, r := .move (.t 3) },
    { dst := some 65, r := .bin .quo (.t 64) (.c (.int .i64 64)) },
    { dst := some 66, r := .bin .rem (.t 65) (.c (.int .i64 64)) },
    { dst := some 67, r := .bin .add (.c (.int .i64 128)) (.t 66) },
    { dst := some 68, r := .conv (.int .u8) (.t 67) },
    { dst := some 69, r := .move (.t 3) },
    { dst := some 70, r := .bin .rem (.t 69) (.c (.int .i64 64)) },
    { dst := some 71, r := .bin .add (.c (.int .i64 128)) (.t 70) },
    { dst := some 72, r := .conv (.int .u8) (.t 71) },
    { dst := some 73, r := .ilit 1 [(.t 58), (.t 63), (.t 68), (.t 72)] },
    { dst := some 74, r := .conv .ofBytes (.t 73) },
    { dst := some 2, r := .move (.t 74) }]
  .ret)
def r_cascaderef01_Rune : KF where
  np := 1
  res := [.tmp 2]
  code := [k_cascaderef01_Rune_0, k_cascaderef01_Rune_1, k_cascaderef01_Rune_2, k_cascaderef01_Rune_3, k_cascaderef01_Rune_4]
def k_cascaderef01_Of_0 : KC := (.reg [
    { dst := some 2, r := .move (.c (.str [])) },
    { dst := some 3, r := .move (.c (.int .i64 0)) }]
  (.reg [
    { dst := some 4, r := .move (.c (.str [])) }]
  (.seq (.reg [
    { dst := some 5, r := .move (.c (.int .i64 0)) }]
  (.block 0 (.loop ⟨1, [0, 4, 5], []⟩)))
  ⟨5, [4], []⟩)))
def k_cascaderef01_Of_1 : KC := (.seq (.reg [
    { dst := some 7, r := .move (.t 5) },
    { dst := some 8, r := .move (.t 0) },
    { dst := some 9, r := .len .sl (.t 8) },
    { dst := some 10, r := .bin .lss (.t 7) (.t 9) }]
  (.cond (.t 10)
  .skip
  (.exit 0)))
  ⟨2, [0, 4, 5], []⟩)
def k_cascaderef01_Of_2 : KC := (.seq (.block 1 (.reg [
    { dst := some 13, r := .move (.t 0) },
    { dst := some 14, r := .move (.t 5) },
    { dst := some 15, r := .iaddr 1 (.t 13) (.t 14) },
    { dst := some 16, r := .load false 1 (.t 15) },
    { dst := some 17, r := .call .pur F.cascaderef01_Rune [(.t 16)] },
    { dst := some 6, r := .move (.t 17) }]
  (.seq (.reg [
    { dst := some 18, r := .move (.t 6) },
    { dst := some 19, r := .bin .eql (.t 18) (.c (.str [])) }]
  (.cond (.t 19)
  (.reg [
    { dst := some 2, r := .move (.c (.str [])) },
    { dst := some 3, r := .move (.c (.int .i64 2)) }]
  .ret)
  .skip))
  ⟨3, [0, 4, 5, 6], []⟩)))
  ⟨4, [0, 4, 5], []⟩)
def k_cascaderef01_Of_3 : KC := (.lreg [
    { dst := some 20, r := .move (.t 4) },
    { dst := some 21, r := .move (.t 6) },
    { dst := some 22, r := .bin .add (.t 20) (.t 21) },
    { dst := some 4, r := .move (.t 22) }])
def k_cascaderef01_Of_4 : KC := (.lreg [
    { dst := some 11, r := .move (.t 5) },
    { dst := some 12, r := .bin .add (.t 11) (.c (.int .i64 1)) },
    { dst := some 5, r := .move (.t 12) }])
def k_cascaderef01_Of_5 : KC := (.reg [
    { dst := some 23, r := .move (.t 4) },
    { dst := some 2, r := .move (.t 23) },
    { dst := some 3, r := .move (.c (.int .i64 0)) }]
  .ret)
def r_cascaderef01_Of : KF where
  np := 1
  res := [.tmp 2, .tmp 3]
  code := [k_cascaderef01_Of_0, k_cascaderef01_Of_1, k_cascaderef01_Of_2, k_cascaderef01_Of_3, k_cascaderef01_Of_4, k_cascaderef01_Of_5]
def k_cascadelaw01_TextOf_0 : KC := (.reg [
    { dst := some 2, r := .move (.c (.bool false)) }]
  (.seq (.reg [
    { dst := some 7, r := .call .pur F.cascadelaw01_awake [] },
    { dst := some 8, r := .un .not (.t 7) },
    { dst := some 9, r := .move (.t 8) },
    { dst := some 10, g := some (9, false), r := .move (.t 0) },
    { dst := some 11, g := some (9, false), r := .len .sl (.t 10) },
    { dst := some 12, g := some (9, false), r := .bin .gtr (.t 11) (.c (.int .i64 200)) },
    { dst := some 13, r := .pick (.t 9) (.c (.bool true)) (.t 12) }]
  (.cond (.t 13)
  (.reg [
    { dst := some 14, r := .call .pur F.cascadelaw01_awake [] },
    { dst := some 2, r := .move (.t 14) }]
  .ret)
  .skip))
  ⟨1, [0], []⟩))
def k_cascadelaw01_TextOf_1 : KC := (.reg [
    { dst := some 16, r := .move (.t 0) },
    { dst := some 17, r := .call .pur F.text_Of [(.t 16)] },
    { dst := some 15, r := .move (.t 17) },
    { dst := some 18, r := .extract (.t 15) 0 },
    { dst := some 19, r := .extract (.t 15) 1 },
    { dst := some 3, r := .move (.t 18) },
    { dst := some 4, r := .move (.t 19) }]
  (.reg [
    { dst := some 21, r := .move (.t 0) },
    { dst := some 22, r := .call .pur F.cascaderef01_Of [(.t 21)] },
    { dst := some 20, r := .move (.t 22) },
    { dst := some 23, r := .extract (.t 20) 0 },
    { dst := some 24, r := .extract (.t 20) 1 },
    { dst := some 5, r := .move (.t 23) },
    { dst := some 6, r := .move (.t 24) }]
  (.reg [
    { dst := some 25, r := .move (.t 3) },
    { dst := some 26, r := .move (.t 5) },
    { dst := some 27, r := .bin .eql (.t 25) (.t 26) },
    { dst := some 28, r := .move (.t 27) },
    { dst := some 29, g := some (28, true), r := .move (.t 4) },
    { dst := some 30, g := some (28, true), r := .move (.t 6) },
    { dst := some 31, g := some (28, true), r := .bin .eql (.t 29) (.t 30) },
    { dst := some 32, r := .pick (.t 28) (.t 31) (.c (.bool false)) },
    { dst := some 33, r := .move (.t 32) },
    { dst := some 34, g := some (33, true), r := .move (.t 4) },
    { dst := some 35, g := some (33, true), r := .bin .neq (.t 34) (.c (.int .i64 0)) },
    { dst := some 36, g := some (33, true), r := .move (.t 35) },
    { dst := some 37, g := some (36, false), r := .move (.t 3) },
    { dst := some 38, g := some (36, false), r := .call .pur F.text_Runes [(.t 37)] },
    { dst := some 39, g := some (36, false), r := .move (.t 0) },
    { dst := some 40, g := some (36, false), r := .call .pur F.cascadelaw01_same [(.t 38), (.t 39)] },
    { dst := some 41, g := some (33, true), r := .pick (.t 36) (.c (.bool true)) (.t 40) },
    { dst := some 42, r := .pick (.t 33) (.t 41) (.c (.bool false)) },
    { dst := some 2, r := .move (.t 42) }]
  .ret)))
def r_cascadelaw01_TextOf : KF where
  np := 1
  res := [.tmp 2]
  code := [k_cascadelaw01_TextOf_0, k_cascadelaw01_TextOf_1]
def k_quote_escape_0 : KC := (.reg [
    { dst := some 2, r := .move (.c (.str [])) }]
  (.seq (.reg [
    { dst := some 3, r := .move (.t 0) }]
  (.block 0 (.reg [
    { dst := some 5, r := .bin .eql (.t 3) (.c (.int .i32 34)) },
    { dst := some 4, r := .move (.t 5) }]
  (.cond (.t 4)
  (.reg [
    { dst := some 2, r := .move (.c (.str [92, 34])) }]
  .ret)
  (.reg [
    { dst := some 7, r := .bin .eql (.t 3) (.c (.int .i32 92)) },
    { dst := some 6, r := .move (.t 7) }]
  (.cond (.t 6)
  (.reg [
    { dst := some 2, r := .move (.c (.str [92, 92])) }]
  .ret)
  (.reg [
    { dst := some 9, r := .bin .eql (.t 3) (.c (.int .i32 8)) },
    { dst := some 8, r := .move (.t 9) }]
  (.cond (.t 8)
  (.reg [
    { dst := some 2, r := .move (.c (.str [92, 98])) }]
  .ret)
  (.reg [
    { dst := some 11, r := .bin .eql (.t 3) (.c (.int .i32 12)) },
    { dst := some 10, r := .move (.t 11) }]
  (.cond (.t 10)
  (.reg [
    { dst := some 2, r := .move (.c (.str [92, 102])) }]
  .ret)
  (.reg [
    { dst := some 13, r := .bin .eql (.t 3) (.c (.int .i32 10)) },
    { dst := some 12, r := .move (.t 13) }]
  (.cond (.t 12)
  (.reg [
    { dst := some 2, r := .move (.c (.str [92, 110])) }]
  .ret)
  (.reg [
    { dst := some 15, r := .bin .eql (.t 3) (.c (.int .i32 13)) },
    { dst := some 14, r := .move (.t 15) }]
  (.cond (.t 14)
  (.reg [
    { dst := some 2, r := .move (.c (.str [92, 114])) }]
  .ret)
  (.reg [
    { dst := some 17, r := .bin .eql (.t 3) (.c (.int .i32 9)) },
    { dst := some 16, r := .move (.t 17) }]
  (.cond (.t 16)
  (.reg [
    { dst := some 2, r := .move (.c (.str [92, 116])) }]
  .ret)
  .skip))))))))))))))))
  ⟨1, [0], []⟩))
def k_quote_escape_1 : KC := (.seq (.reg [
    { dst := some 18, r := .move (.t 0) },
    { dst := some 19, r := .bin .lss (.t 18) (.c (.int .i32 32)) }]
  (.cond (.t 19)
  (.dreg [
    { dst := some 20, r := .move (.t 0) },
    { dst := some 21, r := .bin .shr (.t 20) (.c (.int .u64 4)) },
    { dst := some 22, r := .move (.t 0) },
    { dst := some 23, r := .bin .shr (.t 22) (.c (.int .u64 4)) },
    { dst := some 24, r := .bin .add (.t 23) (.c (.int .i32 1)) },
    { dst := some 25, r := .slice 0 (.c (.str [48, 49, 50, 51, 52, 53, 54, 55, 56, 57, 97, 98, 99, 100, 101, 102])) (some (.t 21)) (some (.t 24)) },
    { dst := some 26, r := .bin .add (.c (.str [92, 117, 48, 48])) (.t 25) },
    { dst := some 27, r := .move (.t 0) },
    { dst := some 28, r := .bin .and (.t 27) (.c (.int .i32 15)) },
    { dst := some 29, r := .move (.t 0) },
    { dst := some 30, r := .bin .and (.t 29) (.c (.int .i32 15)) },
    { dst := some 31, r := .bin .add (.t 30) (.c (.int .i32 1)) },
    { dst := some 32, r := .slice 0 (.c (.str [48, 49, 50, 51, 52, 53, 54, 55, 56, 57, 97, 98, 99, 100, 101, 102])) (some (.t 28)) (some (.t 31)) },
    { dst := some 33, r := .bin .add (.t 26) (.t 32) },
    { dst := some 2, r := .move (.t 33) }] []
  .ret)
  .skip))
  ⟨2, [], []⟩)
def k_quote_escape_2 : KC := (.reg [
    { dst := some 2, r := .move (.c (.str [])) }]
  .ret)
def r_quote_escape : KF where
  np := 1
  res := [.tmp 2]
  code := [k_quote_escape_0, k_quote_escape_1, k_quote_escape_2]
def k_quote_Quote_0 : KC := (.reg [
    { dst := some 2, r := .move (.c (.str [])) },
    { dst := some 3, r := .move (.c (.int .i64 0)) }]
  (.seq (.reg [
    { dst := some 8, r := .move (.t 0) },
    { dst := some 9, r := .call .pur F.text_Right [(.t 8)] },
    { dst := some 10, r := .un .not (.t 9) }]
  (.cond (.t 10)
  (.reg [
    { dst := some 2, r := .move (.c (.str [])) },
    { dst := some 3, r := .move (.c (.int .i64 2)) }]
  .ret)
  .skip))
  ⟨1, [0], []⟩))
def k_quote_Quote_1 : KC := (.reg [
    { dst := some 4, r := .bnew 53 5 }]
  (.reg [
    { dst := some 11, r := .call .eff F.strings_Builder_WriteByte [(.t 4), (.c (.int .u8 34))] }]
  (.seq (.reg [
    { dst := some 12, r := .move (.t 0) },
    { dst := some 13, r := .range (.t 12) }]
  (.block 0 (.loop ⟨2, [4, 13], [[4], [4, 1], [13]]⟩)))
  ⟨4, [4], [[4], [4, 1]]⟩)))
def k_quote_Quote_2 : KC := (.reg [
    { dst := some 14, r := .next (.t 13) },
    { dst := some 15, r := .extract (.t 14) 0 }]
  (.seq (.cond (.t 15)
  .skip
  (.exit 0))
  ⟨3, [4, 13, 14], [[4], [4, 1], [13]]⟩))
def k_quote_Quote_3 : KC := (.block 1 (.reg [
    { dst := some 16, r := .extract (.t 14) 2 },
    { dst := some 6, r := .move (.t 16) }]
  (.reg [
    { dst := some 17, r := .move (.t 6) },
    { dst := some 18, r := .call .pur F.quote_escape [(.t 17)] },
    { dst := some 7, r := .move (.t 18) }]
  (.reg [
    { dst := some 19, r := .move (.t 7) },
    { dst := some 20, r := .bin .neq (.t 19) (.c (.str [])) }]
  (.cond (.t 20)
  (.lreg [
    { dst := some 21, r := .move (.t 7) },
    { dst := some 22, r := .call .eff F.strings_Builder_WriteString [(.t 4), (.t 21)] }])
  (.lreg [
    { dst := some 23, r := .move (.t 6) },
    { dst := some 24, r := .call .eff F.strings_Builder_WriteRune [(.t 4), (.t 23)] }]))))))
def k_quote_Quote_4 : KC := (.reg [
    { dst := some 25, r := .call .eff F.strings_Builder_WriteByte [(.t 4), (.c (.int .u8 34))] }]
  (.reg [
    { dst := some 26, r := .call .eff F.strings_Builder_String [(.t 4)] },
    { dst := some 2, r := .move (.t 26) },
    { dst := some 3, r := .move (.c (.int .i64 0)) }]
  .ret))
def r_quote_Quote : KF where
  np := 1
  res := [.tmp 2, .tmp 3]
  code := [k_quote_Quote_0, k_quote_Quote_1, k_quote_Quote_2, k_quote_Quote_3, k_quote_Quote_4]
def k_cascadelaw02_awake_0 : KC := (.reg [
    { dst := some 0, r := .move (.c (.bool false)) }]
  (.reg [
    { dst := some 4, r := .call .pur F.quote_Quote [(.c (.str [97]))] },
    { dst := some 3, r := .move (.t 4) },
    { dst := some 5, r := .extract (.t 3) 0 },
    { dst := some 6, r := .extract (.t 3) 1 },
    { dst := some 1, r := .move (.t 5) },
    { dst := some 2, r := .move (.t 6) }]
  (.reg [
    { dst := some 7, r := .move (.t 2) },
    { dst := some 8, r := .bin .eql (.t 7) (.c (.int .i64 0)) },
    { dst := some 9, r := .move (.t 8) },
    { dst := some 10, g := some (9, true), r := .move (.t 1) },
    { dst := some 11, g := some (9, true), r := .bin .eql (.t 10) (.c (.str [34, 97, 34])) },
    { dst := some 12, r := .pick (.t 9) (.t 11) (.c (.bool false)) },
    { dst := some 0, r := .move (.t 12) }]
  .ret)))
def r_cascadelaw02_awake : KF where
  np := 0
  res := [.tmp 0]
  code := [k_cascadelaw02_awake_0]
def k_cascaderef02_plain_0 : KC := (.reg [
    { dst := some 2, r := .move (.c (.int .u8 0)) }]
  (.seq (.reg [
    { dst := some 3, r := .move (.t 0) }]
  (.block 0 (.seq (.reg [
    { dst := some 5, r := .bin .eql (.t 3) (.c (.int .u8 34)) },
    { dst := some 4, r := .move (.t 5) }]
  (.cond (.t 4)
  .skip
  (.lreg [
    { dst := some 6, r := .bin .eql (.t 3) (.c (.int .u8 92)) },
    { dst := some 4, r := .move (.t 6) }])))
  ⟨1, [0, 3, 4], []⟩)))
  ⟨2, [], []⟩))
def k_cascaderef02_plain_1 : KC := (.cond (.t 4)
  (.reg [
    { dst := some 7, r := .move (.t 0) },
    { dst := some 2, r := .move (.t 7) }]
  .ret)
  (.reg [
    { dst := some 9, r := .bin .eql (.t 3) (.c (.int .u8 8)) },
    { dst := some 8, r := .move (.t 9) }]
  (.cond (.t 8)
  (.reg [
    { dst := some 2, r := .move (.c (.int .u8 98)) }]
  .ret)
  (.reg [
    { dst := some 11, r := .bin .eql (.t 3) (.c (.int .u8 12)) },
    { dst := some 10, r := .move (.t 11) }]
  (.cond (.t 10)
  (.reg [
    { dst := some 2, r := .move (.c (.int .u8 102)) }]
  .ret)
  (.reg [
    { dst := some 13, r := .bin .eql (.t 3) (.c (.int .u8 10)) },
    { dst := some 12, r := .move (.t 13) }]
  (.cond (.t 12)
  (.reg [
    { dst := some 2, r := .move (.c (.int .u8 110)) }]
  .ret)
  (.reg [
    { dst := some 15, r := .bin .eql (.t 3) (.c (.int .u8 13)) },
    { dst := some 14, r := .move (.t 15) }]
  (.cond (.t 14)
  (.reg [
    { dst := some 2, r := .move (.c (.int .u8 114)) }]
  .ret)
  (.reg [
    { dst := some 17, r := .bin .eql (.t 3) (.c (.int .u8 9)) },
    { dst := some 16, r := .move (.t 17) }]
  (.cond (.t 16)
  (.reg [
    { dst := some 2, r := .move (.c (.int .u8 116)) }]
  .ret)
  .skip)))))))))))
def k_cascaderef02_plain_2 : KC := (.reg [
    { dst := some 2, r := .move (.c (.int .u8 0)) }]
  .ret)
def r_cascaderef02_plain : KF where
  np := 1
  res := [.tmp 2]
  code := [k_cascaderef02_plain_0, k_cascaderef02_plain_1, k_cascaderef02_plain_2]
def k_cascaderef02_hex_0 : KC := (.reg [
    { dst := some 2, r := .move (.c (.str [])) }]
  (.seq (.reg [
    { dst := some 3, r := .move (.t 0) },
    { dst := some 4, r := .bin .lss (.t 3) (.c (.int .i64 10)) }]
  (.cond (.t 4)
  (.reg [
    { dst := some 5, r := .move (.t 0) },
    { dst := some 6, r := .bin .add (.c (.int .i64 48)) (.t 5) },
    { dst := some 7, r := .conv (.int .u8) (.t 6) },
    { dst := some 8, r := .ilit 1 [(.t 7)] },
    { dst := some 9, r := .conv .ofBytes (.t 8) },
    { dst := some 2, r := .move (.t 9) }]
  .ret)
  .skip))
  ⟨1, [0], []⟩))
def k_cascaderef02_hex_1 : KC := (.reg [
    { dst := some 10, r := .move (.t 0) },
    { dst := some 11, r := .bin .add (.c (.int .i64 87)) (.t 10) },
    { dst := some 12, r := .conv (.int .u8) (.t 11) },
    { dst := some 13, r := .ilit 1 [(.t 12)] },
    { dst := some 14, r := .conv .ofBytes (.t 13) },
    { dst := some 2, r := .move (.t 14) }]
  .ret)
def r_cascaderef02_hex : KF where
  np := 1
  res := [.tmp 2]
  code := [k_cascaderef02_hex_0, k_cascaderef02_hex_1]
def k_cascaderef02_Quote_0 : KC := (.reg [
    { dst := some 2, r := .move (.c (.str [])) }]
  (.reg [
    { dst := some 3, r := .move (.c (.str [34])) }]
  (.seq (.reg [
    { dst := some 4, r := .move (.c (.int .i64 0)) }]
  (.block 0 (.loop ⟨1, [0, 3, 4], []⟩)))
  ⟨4, [3], []⟩)))
def k_cascaderef02_Quote_1 : KC := (.seq (.reg [
    { dst := some 7, r := .move (.t 4) },
    { dst := some 8, r := .move (.t 0) },
    { dst := some 9, r := .len .str (.t 8) },
    { dst := some 10, r := .bin .lss (.t 7) (.t 9) }]
  (.cond (.t 10)
  .skip
  (.exit 0)))
  ⟨2, [0, 3, 4], []⟩)
def k_cascaderef02_Quote_2 : KC := (.seq (.block 1 (.reg [
    { dst := some 13, r := .move (.t 0) },
    { dst := some 14, r := .move (.t 4) },
    { dst := some 15, r := .idx (.t 13) (.t 14) },
    { dst := some 5, r := .move (.t 15) }]
  (.reg [
    { dst := some 16, r := .move (.t 5) },
    { dst := some 17, r := .call .pur F.cascaderef02_plain [(.t 16)] },
    { dst := some 6, r := .move (.t 17) }]
  (.reg [
    { dst := some 18, r := .move (.t 6) },
    { dst := some 19, r := .bin .neq (.t 18) (.c (.int .u8 0)) }]
  (.cond (.t 19)
  (.lreg [
    { dst := some 20, r := .move (.t 3) },
    { dst := some 21, r := .move (.t 6) },
    { dst := some 22, r := .ilit 1 [(.c (.int .u8 92)), (.t 21)] },
    { dst := some 23, r := .conv .ofBytes (.t 22) },
    { dst := some 24, r := .bin .add (.t 20) (.t 23) },
    { dst := some 3, r := .move (.t 24) }])
  (.reg [
    { dst := some 25, r := .move (.t 5) },
    { dst := some 26, r := .bin .lss (.t 25) (.c (.int .u8 32)) }]
  (.cond (.t 26)
  (.lreg [
    { dst := some 27, r := .move (.t 3) },
    { dst := some 28, r := .move (.t 5) },
    { dst := some 29, r := .conv (.int .i64) (.t 28) },
    { dst := some 30, r := .bin .quo (.t 29) (.c (.int .i64 16)) },
    { dst := some 31, r := .call .pur F.cascaderef02_hex [(.t 30)] },
    { dst := some 32, r := .bin .add (.c (.str [92, 117, 48, 48])) (.t 31) },
    { dst := some 33, r := .move (.t 5) },
    { dst := some 34, r := .conv (.int .i64) (.t 33) },
    { dst := some 35, r := .bin .rem (.t 34) (.c (.int .i64 16)) },
    { dst := some 36, r := .call .pur F.cascaderef02_hex [(.t 35)] },
    { dst := some 37, r := .bin .add (.t 32) (.t 36) },
    { dst := some 38, r := .bin .add (.t 27) (.t 37) },
    { dst := some 3, r := .move (.t 38) }])
  (.lreg [
    { dst := some 39, r := .move (.t 3) },
    { dst := some 40, r := .move (.t 0) },
    { dst := some 41, r := .move (.t 4) },
    { dst := some 42, r := .move (.t 4) },
    { dst := some 43, r := .bin .add (.t 42) (.c (.int .i64 1)) },
    { dst := some 44, r := .slice 0 (.t 40) (some (.t 41)) (some (.t 43)) },
    { dst := some 45, r := .bin .add (.t 39) (.t 44) },
    { dst := some 3, r := .move (.t 45) }]))))))))
  ⟨3, [0, 3, 4], []⟩)
def k_cascaderef02_Quote_3 : KC := (.lreg [
    { dst := some 11, r := .move (.t 4) },
    { dst := some 12, r := .bin .add (.t 11) (.c (.int .i64 1)) },
    { dst := some 4, r := .move (.t 12) }])
def k_cascaderef02_Quote_4 : KC := (.reg [
    { dst := some 46, r := .move (.t 3) },
    { dst := some 47, r := .bin .add (.t 46) (.c (.str [34])) },
    { dst := some 2, r := .move (.t 47) }]
  .ret)
def r_cascaderef02_Quote : KF where
  np := 1
  res := [.tmp 2]
  code := [k_cascaderef02_Quote_0, k_cascaderef02_Quote_1, k_cascaderef02_Quote_2, k_cascaderef02_Quote_3, k_cascaderef02_Quote_4]
def k_cascadelaw02_QuoteTexts_0 : KC := (.reg [
    { dst := some 2, r := .move (.c (.bool false)) }]
  (.seq (.reg [
    { dst := some 5, r := .call .pur F.cascadelaw02_awake [] },
    { dst := some 6, r := .un .not (.t 5) },
    { dst := some 7, r := .move (.t 6) },
    { dst := some 8, g := some (7, false), r := .move (.t 0) },
    { dst := some 9, g := some (7, false), r := .len .str (.t 8) },
    { dst := some 10, g := some (7, false), r := .bin .gtr (.t 9) (.c (.int .i64 400)) },
    { dst := some 11, r := .pick (.t 7) (.c (.bool true)) (.t 10) }]
  (.cond (.t 11)
  (.reg [
    { dst := some 12, r := .call .pur F.cascadelaw02_awake [] },
    { dst := some 2, r := .move (.t 12) }]
  .ret)
  .skip))
  ⟨1, [0], []⟩))
def k_cascadelaw02_QuoteTexts_1 : KC := (.reg [
    { dst := some 14, r := .move (.t 0) },
    { dst := some 15, r := .call .pur F.quote_Quote [(.t 14)] },
    { dst := some 13, r := .move (.t 15) },
    { dst := some 16, r := .extract (.t 13) 0 },
    { dst := some 17, r := .extract (.t 13) 1 },
    { dst := some 3, r := .move (.t 16) },
    { dst := some 4, r := .move (.t 17) }]
  (.seq (.reg [
    { dst := some 18, r := .move (.t 0) },
    { dst := some 19, r := .call .pur F.cascaderef01_Right [(.t 18)] },
    { dst := some 20, r := .un .not (.t 19) }]
  (.cond (.t 20)
  (.reg [
    { dst := some 21, r := .move (.t 4) },
    { dst := some 22, r := .bin .eql (.t 21) (.c (.int .i64 2)) },
    { dst := some 23, r := .move (.t 22) },
    { dst := some 24, g := some (23, true), r := .move (.t 3) },
    { dst := some 25, g := some (23, true), r := .bin .eql (.t 24) (.c (.str [])) },
    { dst := some 26, r := .pick (.t 23) (.t 25) (.c (.bool false)) },
    { dst := some 2, r := .move (.t 26) }]
  .ret)
  .skip))
  ⟨2, [0, 3, 4], []⟩))
def k_cascadelaw02_QuoteTexts_2 : KC := (.reg [
    { dst := some 27, r := .move (.t 4) },
    { dst := some 28, r := .bin .eql (.t 27) (.c (.int .i64 0)) },
    { dst := some 29, r := .move (.t 28) },
    { dst := some 30, g := some (29, true), r := .move (.t 3) },
    { dst := some 31, g := some (29, true), r := .move (.t 0) },
    { dst := some 32, g := some (29, true), r := .call .pur F.cascaderef02_Quote [(.t 31)] },
    { dst := some 33, g := some (29, true), r := .bin .eql (.t 30) (.t 32) },
    { dst := some 34, r := .pick (.t 29) (.t 33) (.c (.bool false)) },
    { dst := some 2, r := .move (.t 34) }]
  .ret)
def r_cascadelaw02_QuoteTexts : KF where
  np := 1
  res := [.tmp 2]
  code := [k_cascadelaw02_QuoteTexts_0, k_cascadelaw02_QuoteTexts_1, k_cascadelaw02_QuoteTexts_2]
def k_cascadelaw02_QuoteOne_0 : KC := (.reg [
    { dst := some 4, r := .move (.c (.bool false)) }]
  (.seq (.reg [
    { dst := some 10, r := .call .pur F.cascadelaw02_awake [] },
    { dst := some 11, r := .un .not (.t 10) },
    { dst := some 12, r := .move (.t 11) },
    { dst := some 13, g := some (12, false), r := .move (.t 0) },
    { dst := some 14, g := some (12, false), r := .len .str (.t 13) },
    { dst := some 15, g := some (12, false), r := .bin .gtr (.t 14) (.c (.int .i64 200)) },
    { dst := some 16, r := .pick (.t 12) (.c (.bool true)) (.t 15) },
    { dst := some 17, r := .move (.t 16) },
    { dst := some 18, g := some (17, false), r := .move (.t 1) },
    { dst := some 19, g := some (17, false), r := .len .str (.t 18) },
    { dst := some 20, g := some (17, false), r := .bin .gtr (.t 19) (.c (.int .i64 200)) },
    { dst := some 21, r := .pick (.t 17) (.c (.bool true)) (.t 20) },
    { dst := some 22, r := .move (.t 21) },
    { dst := some 23, g := some (22, false), r := .move (.t 0) },
    { dst := some 24, g := some (22, false), r := .call .pur F.cascaderef01_Right [(.t 23)] },
    { dst := some 25, g := some (22, false), r := .un .not (.t 24) },
    { dst := some 26, r := .pick (.t 22) (.c (.bool true)) (.t 25) },
    { dst := some 27, r := .move (.t 26) },
    { dst := some 28, g := some (27, false), r := .move (.t 1) },
    { dst := some 29, g := some (27, false), r := .call .pur F.cascaderef01_Right [(.t 28)] },
    { dst := some 30, g := some (27, false), r := .un .not (.t 29) },
    { dst := some 31, r := .pick (.t 27) (.c (.bool true)) (.t 30) }]
  (.cond (.t 31)
  (.reg [
    { dst := some 32, r := .call .pur F.cascadelaw02_awake [] },
    { dst := some 4, r := .move (.t 32) }]
  .ret)
  .skip))
  ⟨1, [0, 1], []⟩))
def k_cascadelaw02_QuoteOne_1 : KC := (.reg [
    { dst := some 34, r := .move (.t 0) },
    { dst := some 35, r := .call .pur F.quote_Quote [(.t 34)] },
    { dst := some 33, r := .move (.t 35) },
    { dst := some 36, r := .extract (.t 33) 0 },
    { dst := some 37, r := .extract (.t 33) 1 },
    { dst := some 5, r := .move (.t 36) },
    { dst := some 6, r := .move (.t 37) }]
  (.reg [
    { dst := some 39, r := .move (.t 1) },
    { dst := some 40, r := .call .pur F.quote_Quote [(.t 39)] },
    { dst := some 38, r := .move (.t 40) },
    { dst := some 41, r := .extract (.t 38) 0 },
    { dst := some 42, r := .extract (.t 38) 1 },
    { dst := some 7, r := .move (.t 41) },
    { dst := some 8, r := .move (.t 42) }]
  (.seq (.reg [
    { dst := some 43, r := .move (.t 5) },
    { dst := some 44, r := .move (.t 7) },
    { dst := some 45, r := .bin .eql (.t 43) (.t 44) },
    { dst := some 46, r := .move (.t 0) },
    { dst := some 47, r := .move (.t 1) },
    { dst := some 48, r := .bin .eql (.t 46) (.t 47) },
    { dst := some 49, r := .eq true .bool (.t 45) (.t 48) },
    { dst := some 50, r := .move (.t 49) },
    { dst := some 51, g := some (50, false), r := .move (.t 5) },
    { dst := some 52, g := some (50, false), r := .len .str (.t 51) },
    { dst := some 53, g := some (50, false), r := .bin .lss (.t 52) (.c (.int .i64 2)) },
    { dst := some 54, r := .pick (.t 50) (.c (.bool true)) (.t 53) },
    { dst := some 55, r := .move (.t 54) },
    { dst := some 56, g := some (55, false), r := .move (.t 5) },
    { dst := some 57, g := some (55, false), r := .idx (.t 56) (.c (.int .i64 0)) },
    { dst := some 58, g := some (55, false), r := .bin .neq (.t 57) (.c (.int .u8 34)) },
    { dst := some 59, r := .pick (.t 55) (.c (.bool true)) (.t 58) },
    { dst := some 60, r := .move (.t 59) },
    { dst := some 61, g := some (60, false), r := .move (.t 5) },
    { dst := some 62, g := some (60, false), r := .move (.t 5) },
    { dst := some 63, g := some (60, false), r := .len .str (.t 62) },
    { dst := some 64, g := some (60, false), r := .bin .sub (.t 63) (.c (.int .i64 1)) },
    { dst := some 65, g := some (60, false), r := .idx (.t 61) (.t 64) },
    { dst := some 66, g := some (60, false), r := .bin .neq (.t 65) (.c (.int .u8 34)) },
    { dst := some 67, r := .pick (.t 60) (.c (.bool true)) (.t 66) }]
  (.cond (.t 67)
  (.reg [
    { dst := some 4, r := .move (.c (.bool false)) }]
  .ret)
  .skip))
  ⟨2, [5], []⟩)))
def k_cascadelaw02_QuoteOne_2 : KC := (.seq (.reg [
    { dst := some 9, r := .move (.c (.int .i64 1)) }]
  (.block 0 (.loop ⟨3, [5, 9], []⟩)))
  ⟨7, [], []⟩)
def k_cascadelaw02_QuoteOne_3 : KC := (.seq (.reg [
    { dst := some 68, r := .move (.t 9) },
    { dst := some 69, r := .move (.t 5) },
    { dst := some 70, r := .len .str (.t 69) },
    { dst := some 71, r := .bin .sub (.t 70) (.c (.int .i64 1)) },
    { dst := some 72, r := .bin .lss (.t 68) (.t 71) }]
  (.cond (.t 72)
  .skip
  (.exit 0)))
  ⟨4, [5, 9], []⟩)
def k_cascadelaw02_QuoteOne_4 : KC := (.seq (.block 1 (.seq (.reg [
    { dst := some 75, r := .move (.t 5) },
    { dst := some 76, r := .move (.t 9) },
    { dst := some 77, r := .idx (.t 75) (.t 76) },
    { dst := some 78, r := .bin .lss (.t 77) (.c (.int .u8 32)) },
    { dst := some 79, r := .move (.t 78) },
    { dst := some 80, g := some (79, false), r := .move (.t 5) },
    { dst := some 81, g := some (79, false), r := .move (.t 9) },
    { dst := some 82, g := some (79, false), r := .idx (.t 80) (.t 81) },
    { dst := some 83, g := some (79, false), r := .bin .eql (.t 82) (.c (.int .u8 34)) },
    { dst := some 84, r := .pick (.t 79) (.c (.bool true)) (.t 83) }]
  (.cond (.t 84)
  (.reg [
    { dst := some 4, r := .move (.c (.bool false)) }]
  .ret)
  .skip))
  ⟨5, [5, 9], []⟩))
  ⟨6, [5, 9], []⟩)
def k_cascadelaw02_QuoteOne_5 : KC := (.reg [
    { dst := some 85, r := .move (.t 5) },
    { dst := some 86, r := .move (.t 9) },
    { dst := some 87, r := .idx (.t 85) (.t 86) },
    { dst := some 88, r := .bin .eql (.t 87) (.c (.int .u8 92)) }]
  (.cond (.t 88)
  (.lreg [
    { dst := some 89, r := .move (.t 9) },
    { dst := some 90, r := .bin .add (.t 89) (.c (.int .i64 1)) },
    { dst := some 9, r := .move (.t 90) }])
  .skip))
def k_cascadelaw02_QuoteOne_6 : KC := (.lreg [
    { dst := some 73, r := .move (.t 9) },
    { dst := some 74, r := .bin .add (.t 73) (.c (.int .i64 1)) },
    { dst := some 9, r := .move (.t 74) }])
def k_cascadelaw02_QuoteOne_7 : KC := (.reg [
    { dst := some 4, r := .move (.c (.bool true)) }]
  .ret)
def r_cascadelaw02_QuoteOne : KF where
  np := 2
  res := [.tmp 4]
  code := [k_cascadelaw02_QuoteOne_0, k_cascadelaw02_QuoteOne_1, k_cascadelaw02_QuoteOne_2, k_cascadelaw02_QuoteOne_3, k_cascadelaw02_QuoteOne_4, k_cascadelaw02_QuoteOne_5, k_cascadelaw02_QuoteOne_6, k_cascadelaw02_QuoteOne_7]
def k_internal_stringslite_HasPrefix_0 : KC := (.reg [
    { dst := some 4, r := .move (.c (.bool false)) }]
  (.reg [
    { dst := some 5, r := .move (.t 0) },
    { dst := some 6, r := .len .str (.t 5) },
    { dst := some 7, r := .move (.t 1) },
    { dst := some 8, r := .len .str (.t 7) },
    { dst := some 9, r := .bin .geq (.t 6) (.t 8) },
    { dst := some 10, r := .move (.t 9) },
    { dst := some 11, g := some (10, true), r := .move (.t 0) },
    { dst := some 12, g := some (10, true), r := .move (.t 1) },
    { dst := some 13, g := some (10, true), r := .len .str (.t 12) },
    { dst := some 14, g := some (10, true), r := .slice 0 (.t 11) none (some (.t 13)) },
    { dst := some 15, g := some (10, true), r := .move (.t 1) },
    { dst := some 16, g := some (10, true), r := .bin .eql (.t 14) (.t 15) },
    { dst := some 17, r := .pick (.t 10) (.t 16) (.c (.bool false)) },
    { dst := some 4, r := .move (.t 17) }]
  .ret))
def r_internal_stringslite_HasPrefix : KF where
  np := 2
  res := [.tmp 4]
  code := [k_internal_stringslite_HasPrefix_0]
def k_strings_HasPrefix_0 : KC := (.reg [
    { dst := some 4, r := .move (.c (.bool false)) }]
  (.reg [
    { dst := some 5, r := .move (.t 0) },
    { dst := some 6, r := .move (.t 1) },
    { dst := some 7, r := .call .pur F.internal_stringslite_HasPrefix [(.t 5), (.t 6)] },
    { dst := some 4, r := .move (.t 7) }]
  .ret))
def r_strings_HasPrefix : KF where
  np := 2
  res := [.tmp 4]
  code := [k_strings_HasPrefix_0]
def k_quote_short_0 : KC := (.reg [
    { dst := some 2, r := .move (.c (.int .i32 0)) },
    { dst := some 3, r := .move (.c (.bool false)) }]
  (.seq (.reg [
    { dst := some 4, r := .move (.t 0) }]
  (.block 0 (.seq (.reg [
    { dst := some 6, r := .bin .eql (.t 4) (.c (.int .u8 34)) },
    { dst := some 5, r := .move (.t 6) }]
  (.cond (.t 5)
  .skip
  (.reg [
    { dst := some 7, r := .bin .eql (.t 4) (.c (.int .u8 92)) },
    { dst := some 5, r := .move (.t 7) }]
  (.cond (.t 5)
  .skip
  (.lreg [
    { dst := some 8, r := .bin .eql (.t 4) (.c (.int .u8 47)) },
    { dst := some 5, r := .move (.t 8) }])))))
  ⟨1, [0, 4, 5], []⟩)))
  ⟨2, [], []⟩))
def k_quote_short_1 : KC := (.cond (.t 5)
  (.reg [
    { dst := some 9, r := .move (.t 0) },
    { dst := some 10, r := .conv (.int .i32) (.t 9) },
    { dst := some 2, r := .move (.t 10) },
    { dst := some 3, r := .move (.c (.bool true)) }]
  .ret)
  (.reg [
    { dst := some 12, r := .bin .eql (.t 4) (.c (.int .u8 98)) },
    { dst := some 11, r := .move (.t 12) }]
  (.cond (.t 11)
  (.reg [
    { dst := some 2, r := .move (.c (.int .i32 8)) },
    { dst := some 3, r := .move (.c (.bool true)) }]
  .ret)
  (.reg [
    { dst := some 14, r := .bin .eql (.t 4) (.c (.int .u8 102)) },
    { dst := some 13, r := .move (.t 14) }]
  (.cond (.t 13)
  (.reg [
    { dst := some 2, r := .move (.c (.int .i32 12)) },
    { dst := some 3, r := .move (.c (.bool true)) }]
  .ret)
  (.reg [
    { dst := some 16, r := .bin .eql (.t 4) (.c (.int .u8 110)) },
    { dst := some 15, r := .move (.t 16) }]
  (.cond (.t 15)
  (.reg [
    { dst := some 2, r := .move (.c (.int .i32 10)) },
    { dst := some 3, r := .move (.c (.bool true)) }]
  .ret)
  (.reg [
    { dst := some 18, r := .bin .eql (.t 4) (.c (.int .u8 114)) },
    { dst := some 17, r := .move (.t 18) }]
  (.cond (.t 17)
  (.reg [
    { dst := some 2, r := .move (.c (.int .i32 13)) },
    { dst := some 3, r := .move (.c (.bool true)) }]
  .ret)
  (.reg [
    { dst := some 20, r := .bin .eql (.t 4) (.c (.int .u8 116)) },
    { dst := some 19, r := .move (.t 20) }]
  (.cond (.t 19)
  (.reg [
    { dst := some 2, r := .move (.c (.int .i32 9)) },
    { dst := some 3, r := .move (.c (.bool true)) }]
  .ret)
  .skip)))))))))))
def k_quote_short_2 : KC := (.reg [
    { dst := some 2, r := .move (.c (.int .i32 0)) },
    { dst := some 3, r := .move (.c (.bool false)) }]
  .ret)
def r_quote_short : KF where
  np := 1
  res := [.tmp 2, .tmp 3]
  code := [k_quote_short_0, k_quote_short_1, k_quote_short_2]
def k_quote_digit_0 : KC := (.reg [
    { dst := some 2, r := .move (.c (.int .i32 0)) }]
  (.seq (.block 0 (.reg [
    { dst := some 4, r := .move (.t 0) },
    { dst := some 5, r := .bin .geq (.t 4) (.c (.int .u8 48)) },
    { dst := some 6, r := .move (.t 5) },
    { dst := some 7, g := some (6, true), r := .move (.t 0) },
    { dst := some 8, g := some (6, true), r := .bin .leq (.t 7) (.c (.int .u8 57)) },
    { dst := some 9, r := .pick (.t 6) (.t 8) (.c (.bool false)) },
    { dst := some 3, r := .move (.t 9) }]
  (.cond (.t 3)
  (.reg [
    { dst := some 10, r := .move (.t 0) },
    { dst := some 11, r := .bin .sub (.t 10) (.c (.int .u8 48)) },
    { dst := some 12, r := .conv (.int .i32) (.t 11) },
    { dst := some 2, r := .move (.t 12) }]
  .ret)
  (.reg [
    { dst := some 14, r := .move (.t 0) },
    { dst := some 15, r := .bin .geq (.t 14) (.c (.int .u8 97)) },
    { dst := some 16, r := .move (.t 15) },
    { dst := some 17, g := some (16, true), r := .move (.t 0) },
    { dst := some 18, g := some (16, true), r := .bin .leq (.t 17) (.c (.int .u8 102)) },
    { dst := some 19, r := .pick (.t 16) (.t 18) (.c (.bool false)) },
    { dst := some 13, r := .move (.t 19) }]
  (.cond (.t 13)
  (.reg [
    { dst := some 20, r := .move (.t 0) },
    { dst := some 21, r := .bin .sub (.t 20) (.c (.int .u8 97)) },
    { dst := some 22, r := .conv (.int .i32) (.t 21) },
    { dst := some 23, r := .bin .add (.t 22) (.c (.int .i32 10)) },
    { dst := some 2, r := .move (.t 23) }]
  .ret)
  (.reg [
    { dst := some 25, r := .move (.t 0) },
    { dst := some 26, r := .bin .geq (.t 25) (.c (.int .u8 65)) },
    { dst := some 27, r := .move (.t 26) },
    { dst := some 28, g := some (27, true), r := .move (.t 0) },
    { dst := some 29, g := some (27, true), r := .bin .leq (.t 28) (.c (.int .u8 70)) },
    { dst := some 30, r := .pick (.t 27) (.t 29) (.c (.bool false)) },
    { dst := some 24, r := .move (.t 30) }]
  (.cond (.t 24)
  (.reg [
    { dst := some 31, r := .move (.t 0) },
    { dst := some 32, r := .bin .sub (.t 31) (.c (.int .u8 65)) },
    { dst := some 33, r := .conv (.int .i32) (.t 32) },
    { dst := some 34, r := .bin .add (.t 33) (.c (.int .i32 10)) },
    { dst := some 2, r := .move (.t 34) }]
  .ret)
  .skip)))))))
  ⟨1, [], []⟩))
def k_quote_digit_1 : KC := (.reg [
    { dst := some 2, r := .move (.c (.int .i32 (-1))) }]
  .ret)
def r_quote_digit : KF where
  np := 1
  res := [.tmp 2]
  code := [k_quote_digit_0, k_quote_digit_1]
def k_quote_unit_0 : KC := (.reg [
    { dst := some 2, r := .move (.c (.int .i32 0)) }]
  (.seq (.reg [
    { dst := some 6, r := .move (.t 0) },
    { dst := some 7, r := .len .str (.t 6) },
    { dst := some 8, r := .bin .lss (.t 7) (.c (.int .i64 6)) },
    { dst := some 9, r := .move (.t 8) },
    { dst := some 10, g := some (9, false), r := .move (.t 0) },
    { dst := some 11, g := some (9, false), r := .idx (.t 10) (.c (.int .i64 0)) },
    { dst := some 12, g := some (9, false), r := .bin .neq (.t 11) (.c (.int .u8 92)) },
    { dst := some 13, r := .pick (.t 9) (.c (.bool true)) (.t 12) },
    { dst := some 14, r := .move (.t 13) },
    { dst := some 15, g := some (14, false), r := .move (.t 0) },
    { dst := some 16, g := some (14, false), r := .idx (.t 15) (.c (.int .i64 1)) },
    { dst := some 17, g := some (14, false), r := .bin .neq (.t 16) (.c (.int .u8 117)) },
    { dst := some 18, r := .pick (.t 14) (.c (.bool true)) (.t 17) }]
  (.cond (.t 18)
  (.reg [
    { dst := some 2, r := .move (.c (.int .i32 (-1))) }]
  .ret)
  .skip))
  ⟨1, [0], []⟩))
def k_quote_unit_1 : KC := (.reg [
    { dst := some 3, r := .move (.c (.int .i32 0)) }]
  (.seq (.reg [
    { dst := some 19, r := .move (.c (.int .i64 0)) }]
  (.block 0 (.loop ⟨2, [0, 3, 19], []⟩)))
  ⟨6, [3], []⟩))
def k_quote_unit_2 : KC := (.reg [
    { dst := some 20, r := .bin .lss (.t 19) (.c (.int .i64 4)) }]
  (.seq (.cond (.t 20)
  .skip
  (.exit 0))
  ⟨3, [0, 3, 19], []⟩))
def k_quote_unit_3 : KC := (.seq (.block 1 (.reg [
    { dst := some 21, r := .move (.t 19) },
    { dst := some 4, r := .move (.t 21) }]
  (.reg [
    { dst := some 22, r := .move (.t 0) },
    { dst := some 23, r := .move (.t 4) },
    { dst := some 24, r := .bin .add (.c (.int .i64 2)) (.t 23) },
    { dst := some 25, r := .idx (.t 22) (.t 24) },
    { dst := some 26, r := .call .pur F.quote_digit [(.t 25)] },
    { dst := some 5, r := .move (.t 26) }]
  (.seq (.reg [
    { dst := some 27, r := .move (.t 5) },
    { dst := some 28, r := .bin .lss (.t 27) (.c (.int .i32 0)) }]
  (.cond (.t 28)
  (.reg [
    { dst := some 2, r := .move (.c (.int .i32 (-1))) }]
  .ret)
  .skip))
  ⟨4, [0, 3, 5, 19], []⟩))))
  ⟨5, [0, 3, 19], []⟩)
def k_quote_unit_4 : KC := (.lreg [
    { dst := some 29, r := .move (.t 3) },
    { dst := some 30, r := .bin .shl (.t 29) (.c (.int .u64 4)) },
    { dst := some 31, r := .move (.t 5) },
    { dst := some 32, r := .bin .or (.t 30) (.t 31) },
    { dst := some 3, r := .move (.t 32) }])
def k_quote_unit_5 : KC := (.lreg [
    { dst := some 33, r := .bin .add (.t 19) (.c (.int .i64 1)) },
    { dst := some 19, r := .move (.t 33) }])
def k_quote_unit_6 : KC := (.reg [
    { dst := some 34, r := .move (.t 3) },
    { dst := some 2, r := .move (.t 34) }]
  .ret)
def r_quote_unit : KF where
  np := 1
  res := [.tmp 2]
  code := [k_quote_unit_0, k_quote_unit_1, k_quote_unit_2, k_quote_unit_3, k_quote_unit_4, k_quote_unit_5, k_quote_unit_6]
def k_quote_escaped_0 : KC := (.reg [
    { dst := some 2, r := .move (.c (.int .i32 0)) },
    { dst := some 3, r := .move (.c (.int .i64 0)) }]
  (.seq (.reg [
    { dst := some 8, r := .move (.t 0) },
    { dst := some 9, r := .len .str (.t 8) },
    { dst := some 10, r := .bin .gtr (.t 9) (.c (.int .i64 1)) }]
  (.cond (.t 10)
  (.reg [
    { dst := some 12, r := .move (.t 0) },
    { dst := some 13, r := .idx (.t 12) (.c (.int .i64 1)) },
    { dst := some 14, r := .call .pur F.quote_short [(.t 13)] },
    { dst := some 11, r := .move (.t 14) },
    { dst := some 15, r := .extract (.t 11) 0 },
    { dst := some 16, r := .extract (.t 11) 1 },
    { dst := some 4, r := .move (.t 15) },
    { dst := some 5, r := .move (.t 16) }]
  (.reg [
    { dst := some 17, r := .move (.t 5) }]
  (.cond (.t 17)
  (.reg [
    { dst := some 18, r := .move (.t 4) },
    { dst := some 2, r := .move (.t 18) },
    { dst := some 3, r := .move (.c (.int .i64 2)) }]
  .ret)
  .skip)))
  .skip))
  ⟨1, [0], []⟩))
def k_quote_escaped_1 : KC := (.reg [
    { dst := some 19, r := .move (.t 0) },
    { dst := some 20, r := .call .pur F.quote_unit [(.t 19)] },
    { dst := some 6, r := .move (.t 20) }]
  (.seq (.block 0 (.reg [
    { dst := some 22, r := .move (.t 6) },
    { dst := some 23, r := .bin .lss (.t 22) (.c (.int .i32 0)) },
    { dst := some 24, r := .move (.t 23) },
    { dst := some 25, g := some (24, false), r := .move (.t 6) },
    { dst := some 26, g := some (24, false), r := .bin .geq (.t 25) (.c (.int .i32 56320)) },
    { dst := some 27, g := some (24, false), r := .move (.t 26) },
    { dst := some 28, g := some (27, true), r := .move (.t 6) },
    { dst := some 29, g := some (27, true), r := .bin .leq (.t 28) (.c (.int .i32 57343)) },
    { dst := some 30, g := some (24, false), r := .pick (.t 27) (.t 29) (.c (.bool false)) },
    { dst := some 31, r := .pick (.t 24) (.c (.bool true)) (.t 30) },
    { dst := some 21, r := .move (.t 31) }]
  (.cond (.t 21)
  (.reg [
    { dst := some 2, r := .move (.c (.int .i32 0)) },
    { dst := some 3, r := .move (.c (.int .i64 0)) }]
  .ret)
  (.reg [
    { dst := some 33, r := .move (.t 6) },
    { dst := some 34, r := .bin .lss (.t 33) (.c (.int .i32 55296)) },
    { dst := some 35, r := .move (.t 34) },
    { dst := some 36, g := some (35, false), r := .move (.t 6) },
    { dst := some 37, g := some (35, false), r := .bin .gtr (.t 36) (.c (.int .i32 57343)) },
    { dst := some 38, r := .pick (.t 35) (.c (.bool true)) (.t 37) },
    { dst := some 32, r := .move (.t 38) }]
  (.cond (.t 32)
  (.reg [
    { dst := some 39, r := .move (.t 6) },
    { dst := some 2, r := .move (.t 39) },
    { dst := some 3, r := .move (.c (.int .i64 6)) }]
  .ret)
  .skip)))))
  ⟨2, [0, 6], []⟩))
def k_quote_escaped_2 : KC := (.reg [
    { dst := some 40, r := .move (.t 0) },
    { dst := some 41, r := .slice 0 (.t 40) (some (.c (.int .i64 6))) none },
    { dst := some 42, r := .call .pur F.quote_unit [(.t 41)] },
    { dst := some 7, r := .move (.t 42) }]
  (.seq (.reg [
    { dst := some 43, r := .move (.t 7) },
    { dst := some 44, r := .bin .lss (.t 43) (.c (.int .i32 56320)) },
    { dst := some 45, r := .move (.t 44) },
    { dst := some 46, g := some (45, false), r := .move (.t 7) },
    { dst := some 47, g := some (45, false), r := .bin .gtr (.t 46) (.c (.int .i32 57343)) },
    { dst := some 48, r := .pick (.t 45) (.c (.bool true)) (.t 47) }]
  (.cond (.t 48)
  (.reg [
    { dst := some 2, r := .move (.c (.int .i32 0)) },
    { dst := some 3, r := .move (.c (.int .i64 0)) }]
  .ret)
  .skip))
  ⟨3, [6, 7], []⟩))
def k_quote_escaped_3 : KC := (.reg [
    { dst := some 49, r := .move (.t 6) },
    { dst := some 50, r := .bin .sub (.t 49) (.c (.int .i32 55296)) },
    { dst := some 51, r := .bin .shl (.t 50) (.c (.int .u64 10)) },
    { dst := some 52, r := .bin .add (.c (.int .i32 65536)) (.t 51) },
    { dst := some 53, r := .move (.t 7) },
    { dst := some 54, r := .bin .add (.t 52) (.t 53) },
    { dst := some 55, r := .bin .sub (.t 54) (.c (.int .i32 56320)) },
    { dst := some 2, r := .move (.t 55) },
    { dst := some 3, r := .move (.c (.int .i64 12)) }]
  .ret)
def r_quote_escaped : KF where
  np := 1
  res := [.tmp 2, .tmp 3]
  code := [k_quote_escaped_0, k_quote_escaped_1, k_quote_escaped_2, k_quote_escaped_3]
def k_quote_Unquote_0 : KC := (.reg [
    { dst := some 2, r := .move (.c (.str [])) },
    { dst := some 3, r := .move (.c (.int .i64 0)) },
    { dst := some 4, r := .move (.c (.int .i64 0)) }]
  (.seq (.reg [
    { dst := some 9, r := .move (.t 0) },
    { dst := some 10, r := .call .pur F.strings_HasPrefix [(.t 9), (.c (.str [34]))] },
    { dst := some 11, r := .un .not (.t 10) }]
  (.cond (.t 11)
  (.reg [
    { dst := some 2, r := .move (.c (.str [])) },
    { dst := some 3, r := .move (.c (.int .i64 0)) },
    { dst := some 4, r := .move (.c (.int .i64 4)) }]
  .ret)
  .skip))
  ⟨1, [0], []⟩))
def k_quote_Unquote_1 : KC := (.reg [
    { dst := some 5, r := .bnew 53 5 }]
  (.seq (.reg [
    { dst := some 6, r := .move (.c (.int .i64 1)) }]
  (.block 0 (.loop ⟨2, [0, 5, 6], [[5], [5, 1]]⟩)))
  ⟨5, [0], []⟩))
def k_quote_Unquote_2 : KC := (.seq (.reg [
    { dst := some 12, r := .move (.t 6) },
    { dst := some 13, r := .move (.t 0) },
    { dst := some 14, r := .len .str (.t 13) },
    { dst := some 15, r := .bin .lss (.t 12) (.t 14) }]
  (.cond (.t 15)
  .skip
  (.exit 0)))
  ⟨3, [0, 5, 6], [[5], [5, 1]]⟩)
def k_quote_Unquote_3 : KC := (.block 1 (.reg [
    { dst := some 17, r := .move (.t 0) },
    { dst := some 18, r := .move (.t 6) },
    { dst := some 19, r := .slice 0 (.t 17) (some (.t 18)) none },
    { dst := some 20, r := .call .pur F.unicode_utf8_DecodeRuneInString [(.t 19)] },
    { dst := some 16, r := .move (.t 20) },
    { dst := some 21, r := .extract (.t 16) 0 },
    { dst := some 22, r := .extract (.t 16) 1 },
    { dst := some 7, r := .move (.t 21) },
    { dst := some 8, r := .move (.t 22) }]
  (.seq (.block 2 (.reg [
    { dst := some 24, r := .move (.t 7) },
    { dst := some 25, r := .bin .eql (.t 24) (.c (.int .i32 34)) },
    { dst := some 23, r := .move (.t 25) }]
  (.cond (.t 23)
  (.reg [
    { dst := some 26, r := .call .eff F.strings_Builder_String [(.t 5)] },
    { dst := some 27, r := .move (.t 6) },
    { dst := some 28, r := .bin .add (.t 27) (.c (.int .i64 1)) },
    { dst := some 2, r := .move (.t 26) },
    { dst := some 3, r := .move (.t 28) },
    { dst := some 4, r := .move (.c (.int .i64 0)) }]
  .ret)
  (.reg [
    { dst := some 30, r := .move (.t 7) },
    { dst := some 31, r := .bin .lss (.t 30) (.c (.int .i32 32)) },
    { dst := some 29, r := .move (.t 31) }]
  (.cond (.t 29)
  (.reg [
    { dst := some 32, r := .move (.t 6) },
    { dst := some 2, r := .move (.c (.str [])) },
    { dst := some 3, r := .move (.t 32) },
    { dst := some 4, r := .move (.c (.int .i64 4)) }]
  .ret)
  (.reg [
    { dst := some 34, r := .move (.t 7) },
    { dst := some 35, r := .bin .eql (.t 34) (.c (.int .i32 65533)) },
    { dst := some 36, r := .move (.t 35) },
    { dst := some 37, g := some (36, true), r := .move (.t 8) },
    { dst := some 38, g := some (36, true), r := .bin .eql (.t 37) (.c (.int .i64 1)) },
    { dst := some 39, r := .pick (.t 36) (.t 38) (.c (.bool false)) },
    { dst := some 33, r := .move (.t 39) }]
  (.cond (.t 33)
  (.reg [
    { dst := some 40, r := .move (.t 6) },
    { dst := some 2, r := .move (.c (.str [])) },
    { dst := some 3, r := .move (.t 40) },
    { dst := some 4, r := .move (.c (.int .i64 2)) }]
  .ret)
  (.reg [
    { dst := some 42, r := .move (.t 7) },
    { dst := some 43, r := .bin .eql (.t 42) (.c (.int .i32 92)) },
    { dst := some 41, r := .move (.t 43) }]
  (.cond (.t 41)
  (.reg [
    { dst := some 45, r := .move (.t 0) },
    { dst := some 46, r := .move (.t 6) },
    { dst := some 47, r := .slice 0 (.t 45) (some (.t 46)) none },
    { dst := some 48, r := .call .pur F.quote_escaped [(.t 47)] },
    { dst := some 44, r := .move (.t 48) },
    { dst := some 49, r := .extract (.t 44) 0 },
    { dst := some 50, r := .extract (.t 44) 1 },
    { dst := some 7, r := .move (.t 49) },
    { dst := some 8, r := .move (.t 50) }]
  (.reg [
    { dst := some 51, r := .move (.t 8) },
    { dst := some 52, r := .bin .eql (.t 51) (.c (.int .i64 0)) }]
  (.cond (.t 52)
  (.reg [
    { dst := some 53, r := .move (.t 6) },
    { dst := some 2, r := .move (.c (.str [])) },
    { dst := some 3, r := .move (.t 53) },
    { dst := some 4, r := .move (.c (.int .i64 4)) }]
  .ret)
  .skip)))
  .skip)))))))))
  ⟨4, [0, 5, 6, 7, 8], [[5], [5, 1]]⟩)))
def k_quote_Unquote_4 : KC := (.reg [
    { dst := some 54, r := .move (.t 7) },
    { dst := some 55, r := .call .eff F.strings_Builder_WriteRune [(.t 5), (.t 54)] }]
  (.lreg [
    { dst := some 56, r := .move (.t 6) },
    { dst := some 57, r := .move (.t 8) },
    { dst := some 58, r := .bin .add (.t 56) (.t 57) },
    { dst := some 6, r := .move (.t 58) }]))
def k_quote_Unquote_5 : KC := (.reg [
    { dst := some 59, r := .move (.t 0) },
    { dst := some 60, r := .len .str (.t 59) },
    { dst := some 2, r := .move (.c (.str [])) },
    { dst := some 3, r := .move (.t 60) },
    { dst := some 4, r := .move (.c (.int .i64 4)) }]
  .ret)
def r_quote_Unquote : KF where
  np := 1
  res := [.tmp 2, .tmp 3, .tmp 4]
  code := [k_quote_Unquote_0, k_quote_Unquote_1, k_quote_Unquote_2, k_quote_Unquote_3, k_quote_Unquote_4, k_quote_Unquote_5]
def k_cascaderef02_four_0 : KC := (.reg [
    { dst := some 4, r := .move (.c (.int .i64 0)) }]
  (.seq (.reg [
    { dst := some 9, r := .move (.t 1) },
    { dst := some 10, r := .move (.t 0) },
    { dst := some 11, r := .len .str (.t 10) },
    { dst := some 12, r := .bin .sub (.t 11) (.c (.int .i64 3)) },
    { dst := some 13, r := .bin .geq (.t 9) (.t 12) }]
  (.cond (.t 13)
  (.reg [
    { dst := some 4, r := .move (.c (.int .i64 (-1))) }]
  .ret)
  .skip))
  ⟨1, [0, 1], []⟩))
def k_cascaderef02_four_1 : KC := (.reg [
    { dst := some 5, r := .move (.c (.int .i64 0)) }]
  (.seq (.reg [
    { dst := some 14, r := .move (.t 1) },
    { dst := some 6, r := .move (.t 14) }]
  (.block 0 (.loop ⟨2, [0, 1, 5, 6], []⟩)))
  ⟨9, [5], []⟩))
def k_cascaderef02_four_2 : KC := (.seq (.reg [
    { dst := some 15, r := .move (.t 6) },
    { dst := some 16, r := .move (.t 1) },
    { dst := some 17, r := .bin .add (.t 16) (.c (.int .i64 4)) },
    { dst := some 18, r := .bin .lss (.t 15) (.t 17) }]
  (.cond (.t 18)
  .skip
  (.exit 0)))
  ⟨3, [0, 1, 5, 6], []⟩)
def k_cascaderef02_four_3 : KC := (.seq (.block 1 (.reg [
    { dst := some 21, r := .move (.t 0) },
    { dst := some 22, r := .move (.t 6) },
    { dst := some 23, r := .idx (.t 21) (.t 22) },
    { dst := some 24, r := .conv (.int .i64) (.t 23) },
    { dst := some 7, r := .move (.t 24) }]
  (.reg [
    { dst := some 8, r := .move (.c (.int .i64 (-1))) }]
  (.seq (.reg [
    { dst := some 25, r := .move (.t 7) },
    { dst := some 26, r := .bin .geq (.t 25) (.c (.int .i64 48)) },
    { dst := some 27, r := .move (.t 26) },
    { dst := some 28, g := some (27, true), r := .move (.t 7) },
    { dst := some 29, g := some (27, true), r := .bin .leq (.t 28) (.c (.int .i64 57)) },
    { dst := some 30, r := .pick (.t 27) (.t 29) (.c (.bool false)) }]
  (.cond (.t 30)
  (.lreg [
    { dst := some 31, r := .move (.t 7) },
    { dst := some 32, r := .bin .sub (.t 31) (.c (.int .i64 48)) },
    { dst := some 8, r := .move (.t 32) }])
  .skip))
  ⟨4, [0, 1, 5, 6, 7, 8], []⟩))))
  ⟨8, [0, 1, 5, 6], []⟩)
def k_cascaderef02_four_4 : KC := (.seq (.reg [
    { dst := some 33, r := .move (.t 7) },
    { dst := some 34, r := .bin .geq (.t 33) (.c (.int .i64 97)) },
    { dst := some 35, r := .move (.t 34) },
    { dst := some 36, g := some (35, true), r := .move (.t 7) },
    { dst := some 37, g := some (35, true), r := .bin .leq (.t 36) (.c (.int .i64 102)) },
    { dst := some 38, r := .pick (.t 35) (.t 37) (.c (.bool false)) }]
  (.cond (.t 38)
  (.lreg [
    { dst := some 39, r := .move (.t 7) },
    { dst := some 40, r := .bin .sub (.t 39) (.c (.int .i64 87)) },
    { dst := some 8, r := .move (.t 40) }])
  .skip))
  ⟨5, [0, 1, 5, 6, 7, 8], []⟩)
def k_cascaderef02_four_5 : KC := (.seq (.reg [
    { dst := some 41, r := .move (.t 7) },
    { dst := some 42, r := .bin .geq (.t 41) (.c (.int .i64 65)) },
    { dst := some 43, r := .move (.t 42) },
    { dst := some 44, g := some (43, true), r := .move (.t 7) },
    { dst := some 45, g := some (43, true), r := .bin .leq (.t 44) (.c (.int .i64 70)) },
    { dst := some 46, r := .pick (.t 43) (.t 45) (.c (.bool false)) }]
  (.cond (.t 46)
  (.lreg [
    { dst := some 47, r := .move (.t 7) },
    { dst := some 48, r := .bin .sub (.t 47) (.c (.int .i64 55)) },
    { dst := some 8, r := .move (.t 48) }])
  .skip))
  ⟨6, [0, 1, 5, 6, 8], []⟩)
def k_cascaderef02_four_6 : KC := (.seq (.reg [
    { dst := some 49, r := .move (.t 8) },
    { dst := some 50, r := .bin .lss (.t 49) (.c (.int .i64 0)) }]
  (.cond (.t 50)
  (.reg [
    { dst := some 4, r := .move (.c (.int .i64 (-1))) }]
  .ret)
  .skip))
  ⟨7, [0, 1, 5, 6, 8], []⟩)
def k_cascaderef02_four_7 : KC := (.lreg [
    { dst := some 51, r := .move (.t 5) },
    { dst := some 52, r := .bin .mul (.t 51) (.c (.int .i64 16)) },
    { dst := some 53, r := .move (.t 8) },
    { dst := some 54, r := .bin .add (.t 52) (.t 53) },
    { dst := some 5, r := .move (.t 54) }])
def k_cascaderef02_four_8 : KC := (.lreg [
    { dst := some 19, r := .move (.t 6) },
    { dst := some 20, r := .bin .add (.t 19) (.c (.int .i64 1)) },
    { dst := some 6, r := .move (.t 20) }])
def k_cascaderef02_four_9 : KC := (.reg [
    { dst := some 55, r := .move (.t 5) },
    { dst := some 4, r := .move (.t 55) }]
  .ret)
def r_cascaderef02_four : KF where
  np := 2
  res := [.tmp 4]
  code := [k_cascaderef02_four_0, k_cascaderef02_four_1, k_cascaderef02_four_2, k_cascaderef02_four_3, k_cascaderef02_four_4, k_cascaderef02_four_5, k_cascaderef02_four_6, k_cascaderef02_four_7, k_cascaderef02_four_8, k_cascaderef02_four_9]
def k_cascaderef02_sign_0 : KC := (.reg [
    { dst := some 4, r := .move (.c (.int .i32 0)) },
    { dst := some 5, r := .move (.c (.int .i64 0)) }]
  (.seq (.reg [
    { dst := some 12, r := .move (.t 1) },
    { dst := some 13, r := .move (.t 0) },
    { dst := some 14, r := .len .str (.t 13) },
    { dst := some 15, r := .bin .sub (.t 14) (.c (.int .i64 1)) },
    { dst := some 16, r := .bin .geq (.t 12) (.t 15) }]
  (.cond (.t 16)
  (.reg [
    { dst := some 4, r := .move (.c (.int .i32 0)) },
    { dst := some 5, r := .move (.c (.int .i64 0)) }]
  .ret)
  .skip))
  ⟨1, [0, 1], []⟩))
def k_cascaderef02_sign_1 : KC := (.reg [
    { dst := some 17, r := .move (.t 0) },
    { dst := some 18, r := .move (.t 1) },
    { dst := some 19, r := .bin .add (.t 18) (.c (.int .i64 1)) },
    { dst := some 20, r := .idx (.t 17) (.t 19) },
    { dst := some 6, r := .move (.t 20) }]
  (.reg [
    { dst := some 7, r := .move (.c (.str [34, 92, 47, 98, 102, 110, 114, 116])) },
    { dst := some 8, r := .move (.c (.str [34, 92, 47, 8, 12, 10, 13, 9])) }]
  (.seq (.reg [
    { dst := some 9, r := .move (.c (.int .i64 0)) }]
  (.block 0 (.loop ⟨2, [0, 1, 6, 7, 8, 9], []⟩)))
  ⟨5, [0, 1, 6], []⟩)))
def k_cascaderef02_sign_2 : KC := (.seq (.reg [
    { dst := some 21, r := .move (.t 9) },
    { dst := some 22, r := .move (.t 7) },
    { dst := some 23, r := .len .str (.t 22) },
    { dst := some 24, r := .bin .lss (.t 21) (.t 23) }]
  (.cond (.t 24)
  .skip
  (.exit 0)))
  ⟨3, [0, 1, 6, 7, 8, 9], []⟩)
def k_cascaderef02_sign_3 : KC := (.seq (.block 1 (.reg [
    { dst := some 27, r := .move (.t 7) },
    { dst := some 28, r := .move (.t 9) },
    { dst := some 29, r := .idx (.t 27) (.t 28) },
    { dst := some 30, r := .move (.t 6) },
    { dst := some 31, r := .bin .eql (.t 29) (.t 30) }]
  (.cond (.t 31)
  (.reg [
    { dst := some 32, r := .move (.t 8) },
    { dst := some 33, r := .move (.t 9) },
    { dst := some 34, r := .idx (.t 32) (.t 33) },
    { dst := some 35, r := .conv (.int .i32) (.t 34) },
    { dst := some 4, r := .move (.t 35) },
    { dst := some 5, r := .move (.c (.int .i64 2)) }]
  .ret)
  .skip)))
  ⟨4, [0, 1, 6, 7, 8, 9], []⟩)
def k_cascaderef02_sign_4 : KC := (.lreg [
    { dst := some 25, r := .move (.t 9) },
    { dst := some 26, r := .bin .add (.t 25) (.c (.int .i64 1)) },
    { dst := some 9, r := .move (.t 26) }])
def k_cascaderef02_sign_5 : KC := (.seq (.reg [
    { dst := some 36, r := .move (.t 6) },
    { dst := some 37, r := .bin .neq (.t 36) (.c (.int .u8 117)) }]
  (.cond (.t 37)
  (.reg [
    { dst := some 4, r := .move (.c (.int .i32 0)) },
    { dst := some 5, r := .move (.c (.int .i64 0)) }]
  .ret)
  .skip))
  ⟨6, [0, 1], []⟩)
def k_cascaderef02_sign_6 : KC := (.reg [
    { dst := some 38, r := .move (.t 0) },
    { dst := some 39, r := .move (.t 1) },
    { dst := some 40, r := .bin .add (.t 39) (.c (.int .i64 2)) },
    { dst := some 41, r := .call .pur F.cascaderef02_four [(.t 38), (.t 40)] },
    { dst := some 10, r := .move (.t 41) }]
  (.seq (.reg [
    { dst := some 42, r := .move (.t 10) },
    { dst := some 43, r := .bin .lss (.t 42) (.c (.int .i64 0)) }]
  (.cond (.t 43)
  (.reg [
    { dst := some 4, r := .move (.c (.int .i32 0)) },
    { dst := some 5, r := .move (.c (.int .i64 0)) }]
  .ret)
  .skip))
  ⟨7, [0, 1, 10], []⟩))
def k_cascaderef02_sign_7 : KC := (.seq (.reg [
    { dst := some 44, r := .move (.t 10) },
    { dst := some 45, r := .bin .lss (.t 44) (.c (.int .i64 55296)) },
    { dst := some 46, r := .move (.t 45) },
    { dst := some 47, g := some (46, false), r := .move (.t 10) },
    { dst := some 48, g := some (46, false), r := .bin .gtr (.t 47) (.c (.int .i64 57343)) },
    { dst := some 49, r := .pick (.t 46) (.c (.bool true)) (.t 48) }]
  (.cond (.t 49)
  (.reg [
    { dst := some 50, r := .move (.t 10) },
    { dst := some 51, r := .conv (.int .i32) (.t 50) },
    { dst := some 4, r := .move (.t 51) },
    { dst := some 5, r := .move (.c (.int .i64 6)) }]
  .ret)
  .skip))
  ⟨8, [0, 1, 10], []⟩)
def k_cascaderef02_sign_8 : KC := (.seq (.reg [
    { dst := some 52, r := .move (.t 10) },
    { dst := some 53, r := .bin .gtr (.t 52) (.c (.int .i64 56319)) },
    { dst := some 54, r := .move (.t 53) },
    { dst := some 55, g := some (54, false), r := .move (.t 1) },
    { dst := some 56, g := some (54, false), r := .move (.t 0) },
    { dst := some 57, g := some (54, false), r := .len .str (.t 56) },
    { dst := some 58, g := some (54, false), r := .bin .sub (.t 57) (.c (.int .i64 7)) },
    { dst := some 59, g := some (54, false), r := .bin .geq (.t 55) (.t 58) },
    { dst := some 60, r := .pick (.t 54) (.c (.bool true)) (.t 59) },
    { dst := some 61, r := .move (.t 60) },
    { dst := some 62, g := some (61, false), r := .move (.t 0) },
    { dst := some 63, g := some (61, false), r := .move (.t 1) },
    { dst := some 64, g := some (61, false), r := .bin .add (.t 63) (.c (.int .i64 6)) },
    { dst := some 65, g := some (61, false), r := .idx (.t 62) (.t 64) },
    { dst := some 66, g := some (61, false), r := .bin .neq (.t 65) (.c (.int .u8 92)) },
    { dst := some 67, r := .pick (.t 61) (.c (.bool true)) (.t 66) },
    { dst := some 68, r := .move (.t 67) },
    { dst := some 69, g := some (68, false), r := .move (.t 0) },
    { dst := some 70, g := some (68, false), r := .move (.t 1) },
    { dst := some 71, g := some (68, false), r := .bin .add (.t 70) (.c (.int .i64 7)) },
    { dst := some 72, g := some (68, false), r := .idx (.t 69) (.t 71) },
    { dst := some 73, g := some (68, false), r := .bin .neq (.t 72) (.c (.int .u8 117)) },
    { dst := some 74, r := .pick (.t 68) (.c (.bool true)) (.t 73) }]
  (.cond (.t 74)
  (.reg [
    { dst := some 4, r := .move (.c (.int .i32 0)) },
    { dst := some 5, r := .move (.c (.int .i64 0)) }]
  .ret)
  .skip))
  ⟨9, [0, 1, 10], []⟩)
def k_cascaderef02_sign_9 : KC := (.reg [
    { dst := some 75, r := .move (.t 0) },
    { dst := some 76, r := .move (.t 1) },
    { dst := some 77, r := .bin .add (.t 76) (.c (.int .i64 8)) },
    { dst := some 78, r := .call .pur F.cascaderef02_four [(.t 75), (.t 77)] },
    { dst := some 11, r := .move (.t 78) }]
  (.seq (.reg [
    { dst := some 79, r := .move (.t 11) },
    { dst := some 80, r := .bin .lss (.t 79) (.c (.int .i64 56320)) },
    { dst := some 81, r := .move (.t 80) },
    { dst := some 82, g := some (81, false), r := .move (.t 11) },
    { dst := some 83, g := some (81, false), r := .bin .gtr (.t 82) (.c (.int .i64 57343)) },
    { dst := some 84, r := .pick (.t 81) (.c (.bool true)) (.t 83) }]
  (.cond (.t 84)
  (.reg [
    { dst := some 4, r := .move (.c (.int .i32 0)) },
    { dst := some 5, r := .move (.c (.int .i64 0)) }]
  .ret)
  .skip))
  ⟨10, [10, 11], []⟩))
def k_cascaderef02_sign_10 : KC := (.reg [
    { dst := some 85, r := .move (.t 10) },
    { dst := some 86, r := .bin .sub (.t 85) (.c (.int .i64 55296)) },
    { dst := some 87, r := .bin .mul (.t 86) (.c (.int .i64 1024)) },
    { dst := some 88, r := .bin .add (.c (.int .i64 65536)) (.t 87) },
    { dst := some 89, r := .move (.t 11) },
    { dst := some 90, r := .bin .add (.t 88) (.t 89) },
    { dst := some 91, r := .bin .sub (.t 90) (.c (.int .i64 56320)) },
    { dst := some 92, r := .conv (.int .i32) (.t 91) },
    { dst := some 4, r := .move (.t 92) },
    { dst := some 5, r := .move (.c (.int .i64 12)) }]
  .ret)
def r_cascaderef02_sign : KF where
  np := 2
  res := [.tmp 4, .tmp 5]
  code := [k_cascaderef02_sign_0, k_cascaderef02_sign_1, k_cascaderef02_sign_2, k_cascaderef02_sign_3, k_cascaderef02_sign_4, k_cascaderef02_sign_5, k_cascaderef02_sign_6, k_cascaderef02_sign_7, k_cascaderef02_sign_8, k_cascaderef02_sign_9, k_cascaderef02_sign_10]
def k_cascaderef02_Unquote_0 : KC := (.reg [
    { dst := some 2, r := .move (.c (.str [])) },
    { dst := some 3, r := .move (.c (.int .i64 0)) },
    { dst := some 4, r := .move (.c (.int .i64 0)) }]
  (.seq (.reg [
    { dst := some 11, r := .move (.t 0) },
    { dst := some 12, r := .len .str (.t 11) },
    { dst := some 13, r := .bin .eql (.t 12) (.c (.int .i64 0)) },
    { dst := some 14, r := .move (.t 13) },
    { dst := some 15, g := some (14, false), r := .move (.t 0) },
    { dst := some 16, g := some (14, false), r := .idx (.t 15) (.c (.int .i64 0)) },
    { dst := some 17, g := some (14, false), r := .bin .neq (.t 16) (.c (.int .u8 34)) },
    { dst := some 18, r := .pick (.t 14) (.c (.bool true)) (.t 17) }]
  (.cond (.t 18)
  (.reg [
    { dst := some 2, r := .move (.c (.str [])) },
    { dst := some 3, r := .move (.c (.int .i64 0)) },
    { dst := some 4, r := .move (.c (.int .i64 4)) }]
  .ret)
  .skip))
  ⟨1, [0], []⟩))
def k_cascaderef02_Unquote_1 : KC := (.reg [
    { dst := some 5, r := .move (.c (.str [])) }]
  (.seq (.reg [
    { dst := some 6, r := .move (.c (.int .i64 1)) }]
  (.block 0 (.loop ⟨2, [0, 5, 6], []⟩)))
  ⟨9, [0], []⟩))
def k_cascaderef02_Unquote_2 : KC := (.seq (.reg [
    { dst := some 19, r := .move (.t 6) },
    { dst := some 20, r := .move (.t 0) },
    { dst := some 21, r := .len .str (.t 20) },
    { dst := some 22, r := .bin .lss (.t 19) (.t 21) }]
  (.cond (.t 22)
  .skip
  (.exit 0)))
  ⟨3, [0, 5, 6], []⟩)
def k_cascaderef02_Unquote_3 : KC := (.block 1 (.seq (.reg [
    { dst := some 23, r := .move (.t 0) },
    { dst := some 24, r := .move (.t 6) },
    { dst := some 25, r := .idx (.t 23) (.t 24) },
    { dst := some 26, r := .bin .eql (.t 25) (.c (.int .u8 34)) }]
  (.cond (.t 26)
  (.reg [
    { dst := some 27, r := .move (.t 5) },
    { dst := some 28, r := .move (.t 6) },
    { dst := some 29, r := .bin .add (.t 28) (.c (.int .i64 1)) },
    { dst := some 2, r := .move (.t 27) },
    { dst := some 3, r := .move (.t 29) },
    { dst := some 4, r := .move (.c (.int .i64 0)) }]
  .ret)
  .skip))
  ⟨4, [0, 5, 6], []⟩))
def k_cascaderef02_Unquote_4 : KC := (.seq (.reg [
    { dst := some 30, r := .move (.t 0) },
    { dst := some 31, r := .move (.t 6) },
    { dst := some 32, r := .idx (.t 30) (.t 31) },
    { dst := some 33, r := .bin .lss (.t 32) (.c (.int .u8 32)) }]
  (.cond (.t 33)
  (.reg [
    { dst := some 34, r := .move (.t 6) },
    { dst := some 2, r := .move (.c (.str [])) },
    { dst := some 3, r := .move (.t 34) },
    { dst := some 4, r := .move (.c (.int .i64 4)) }]
  .ret)
  .skip))
  ⟨5, [0, 5, 6], []⟩)
def k_cascaderef02_Unquote_5 : KC := (.seq (.reg [
    { dst := some 35, r := .move (.t 0) },
    { dst := some 36, r := .move (.t 6) },
    { dst := some 37, r := .idx (.t 35) (.t 36) },
    { dst := some 38, r := .bin .eql (.t 37) (.c (.int .u8 92)) }]
  (.cond (.t 38)
  (.reg [
    { dst := some 40, r := .move (.t 0) },
    { dst := some 41, r := .move (.t 6) },
    { dst := some 42, r := .call .pur F.cascaderef02_sign [(.t 40), (.t 41)] },
    { dst := some 39, r := .move (.t 42) },
    { dst := some 43, r := .extract (.t 39) 0 },
    { dst := some 44, r := .extract (.t 39) 1 },
    { dst := some 7, r := .move (.t 43) },
    { dst := some 8, r := .move (.t 44) }]
  (.seq (.reg [
    { dst := some 45, r := .move (.t 8) },
    { dst := some 46, r := .bin .eql (.t 45) (.c (.int .i64 0)) }]
  (.cond (.t 46)
  (.reg [
    { dst := some 47, r := .move (.t 6) },
    { dst := some 2, r := .move (.c (.str [])) },
    { dst := some 3, r := .move (.t 47) },
    { dst := some 4, r := .move (.c (.int .i64 4)) }]
  .ret)
  .skip))
  ⟨6, [0, 5, 6, 7, 8], []⟩))
  .skip))
  ⟨7, [0, 5, 6], []⟩)
def k_cascaderef02_Unquote_6 : KC := (.reg [
    { dst := some 48, r := .move (.t 5) },
    { dst := some 49, r := .move (.t 7) },
    { dst := some 50, r := .call .pur F.cascaderef01_Rune [(.t 49)] },
    { dst := some 51, r := .bin .add (.t 48) (.t 50) },
    { dst := some 5, r := .move (.t 51) }]
  (.reg [
    { dst := some 52, r := .move (.t 6) },
    { dst := some 53, r := .move (.t 8) },
    { dst := some 54, r := .bin .add (.t 52) (.t 53) },
    { dst := some 6, r := .move (.t 54) }]
  (.exit 1)))
def k_cascaderef02_Unquote_7 : KC := (.reg [
    { dst := some 56, r := .move (.t 0) },
    { dst := some 57, r := .move (.t 6) },
    { dst := some 58, r := .call .pur F.cascaderef01_Size [(.t 56), (.t 57)] },
    { dst := some 55, r := .move (.t 58) },
    { dst := some 59, r := .extract (.t 55) 0 },
    { dst := some 60, r := .extract (.t 55) 1 },
    { dst := some 9, r := .move (.t 59) },
    { dst := some 10, r := .move (.t 60) }]
  (.seq (.reg [
    { dst := some 61, r := .move (.t 9) },
    { dst := some 62, r := .bin .eql (.t 61) (.c (.int .i64 0)) }]
  (.cond (.t 62)
  (.reg [
    { dst := some 63, r := .move (.t 6) },
    { dst := some 2, r := .move (.c (.str [])) },
    { dst := some 3, r := .move (.t 63) },
    { dst := some 4, r := .move (.c (.int .i64 2)) }]
  .ret)
  .skip))
  ⟨8, [0, 5, 6, 9], []⟩))
def k_cascaderef02_Unquote_8 : KC := (.reg [
    { dst := some 64, r := .move (.t 5) },
    { dst := some 65, r := .move (.t 0) },
    { dst := some 66, r := .move (.t 6) },
    { dst := some 67, r := .move (.t 6) },
    { dst := some 68, r := .move (.t 9) },
    { dst := some 69, r := .bin .add (.t 67) (.t 68) },
    { dst := some 70, r := .slice 0 (.t 65) (some (.t 66)) (some (.t 69)) },
    { dst := some 71, r := .bin .add (.t 64) (.t 70) },
    { dst := some 5, r := .move (.t 71) }]
  (.lreg [
    { dst := some 72, r := .move (.t 6) },
    { dst := some 73, r := .move (.t 9) },
    { dst := some 74, r := .bin .add (.t 72) (.t 73) },
    { dst := some 6, r := .move (.t 74) }]))
def k_cascaderef02_Unquote_9 : KC := (.reg [
    { dst := some 75, r := .move (.t 0) },
    { dst := some 76, r := .len .str (.t 75) },
    { dst := some 2, r := .move (.c (.str [])) },
    { dst := some 3, r := .move (.t 76) },
    { dst := some 4, r := .move (.c (.int .i64 4)) }]
  .ret)
def r_cascaderef02_Unquote : KF where
  np := 1
  res := [.tmp 2, .tmp 3, .tmp 4]
  code := [k_cascaderef02_Unquote_0, k_cascaderef02_Unquote_1, k_cascaderef02_Unquote_2, k_cascaderef02_Unquote_3, k_cascaderef02_Unquote_4, k_cascaderef02_Unquote_5, k_cascaderef02_Unquote_6, k_cascaderef02_Unquote_7, k_cascaderef02_Unquote_8, k_cascaderef02_Unquote_9]
def k_cascadelaw02_QuoteReads_0 : KC := (.reg [
    { dst := some 2, r := .move (.c (.bool false)) }]
  (.seq (.reg [
    { dst := some 9, r := .call .pur F.cascadelaw02_awake [] },
    { dst := some 10, r := .un .not (.t 9) },
    { dst := some 11, r := .move (.t 10) },
    { dst := some 12, g := some (11, false), r := .move (.t 0) },
    { dst := some 13, g := some (11, false), r := .len .str (.t 12) },
    { dst := some 14, g := some (11, false), r := .bin .gtr (.t 13) (.c (.int .i64 400)) },
    { dst := some 15, r := .pick (.t 11) (.c (.bool true)) (.t 14) }]
  (.cond (.t 15)
  (.reg [
    { dst := some 16, r := .call .pur F.cascadelaw02_awake [] },
    { dst := some 2, r := .move (.t 16) }]
  .ret)
  .skip))
  ⟨1, [0], []⟩))
def k_cascadelaw02_QuoteReads_1 : KC := (.reg [
    { dst := some 18, r := .move (.t 0) },
    { dst := some 19, r := .call .pur F.quote_Unquote [(.t 18)] },
    { dst := some 17, r := .move (.t 19) },
    { dst := some 20, r := .extract (.t 17) 0 },
    { dst := some 21, r := .extract (.t 17) 1 },
    { dst := some 22, r := .extract (.t 17) 2 },
    { dst := some 3, r := .move (.t 20) },
    { dst := some 4, r := .move (.t 21) },
    { dst := some 5, r := .move (.t 22) }]
  (.reg [
    { dst := some 24, r := .move (.t 0) },
    { dst := some 25, r := .call .pur F.cascaderef02_Unquote [(.t 24)] },
    { dst := some 23, r := .move (.t 25) },
    { dst := some 26, r := .extract (.t 23) 0 },
    { dst := some 27, r := .extract (.t 23) 1 },
    { dst := some 28, r := .extract (.t 23) 2 },
    { dst := some 6, r := .move (.t 26) },
    { dst := some 7, r := .move (.t 27) },
    { dst := some 8, r := .move (.t 28) }]
  (.reg [
    { dst := some 29, r := .move (.t 3) },
    { dst := some 30, r := .move (.t 6) },
    { dst := some 31, r := .bin .eql (.t 29) (.t 30) },
    { dst := some 32, r := .move (.t 31) },
    { dst := some 33, g := some (32, true), r := .move (.t 4) },
    { dst := some 34, g := some (32, true), r := .move (.t 7) },
    { dst := some 35, g := some (32, true), r := .bin .eql (.t 33) (.t 34) },
    { dst := some 36, r := .pick (.t 32) (.t 35) (.c (.bool false)) },
    { dst := some 37, r := .move (.t 36) },
    { dst := some 38, g := some (37, true), r := .move (.t 5) },
    { dst := some 39, g := some (37, true), r := .move (.t 8) },
    { dst := some 40, g := some (37, true), r := .bin .eql (.t 38) (.t 39) },
    { dst := some 41, r := .pick (.t 37) (.t 40) (.c (.bool false)) },
    { dst := some 2, r := .move (.t 41) }]
  .ret)))
def r_cascadelaw02_QuoteReads : KF where
  np := 1
  res := [.tmp 2]
  code := [k_cascadelaw02_QuoteReads_0, k_cascadelaw02_QuoteReads_1]
def k_cascadelaw02_QuoteBack_0 : KC := (.reg [
    { dst := some 4, r := .move (.c (.bool false)) }]
  (.seq (.reg [
    { dst := some 10, r := .call .pur F.cascadelaw02_awake [] },
    { dst := some 11, r := .un .not (.t 10) },
    { dst := some 12, r := .move (.t 11) },
    { dst := some 13, g := some (12, false), r := .move (.t 0) },
    { dst := some 14, g := some (12, false), r := .len .str (.t 13) },
    { dst := some 15, g := some (12, false), r := .bin .gtr (.t 14) (.c (.int .i64 200)) },
    { dst := some 16, r := .pick (.t 12) (.c (.bool true)) (.t 15) },
    { dst := some 17, r := .move (.t 16) },
    { dst := some 18, g := some (17, false), r := .move (.t 1) },
    { dst := some 19, g := some (17, false), r := .len .str (.t 18) },
    { dst := some 20, g := some (17, false), r := .bin .gtr (.t 19) (.c (.int .i64 200)) },
    { dst := some 21, r := .pick (.t 17) (.c (.bool true)) (.t 20) },
    { dst := some 22, r := .move (.t 21) },
    { dst := some 23, g := some (22, false), r := .move (.t 0) },
    { dst := some 24, g := some (22, false), r := .call .pur F.cascaderef01_Right [(.t 23)] },
    { dst := some 25, g := some (22, false), r := .un .not (.t 24) },
    { dst := some 26, r := .pick (.t 22) (.c (.bool true)) (.t 25) }]
  (.cond (.t 26)
  (.reg [
    { dst := some 27, r := .call .pur F.cascadelaw02_awake [] },
    { dst := some 4, r := .move (.t 27) }]
  .ret)
  .skip))
  ⟨1, [0, 1], []⟩))
def k_cascadelaw02_QuoteBack_1 : KC := (.reg [
    { dst := some 29, r := .move (.t 0) },
    { dst := some 30, r := .call .pur F.quote_Quote [(.t 29)] },
    { dst := some 28, r := .move (.t 30) },
    { dst := some 31, r := .extract (.t 28) 0 },
    { dst := some 32, r := .extract (.t 28) 1 },
    { dst := some 5, r := .move (.t 31) },
    { dst := some 6, r := .move (.t 32) }]
  (.reg [
    { dst := some 34, r := .move (.t 5) },
    { dst := some 35, r := .move (.t 1) },
    { dst := some 36, r := .bin .add (.t 34) (.t 35) },
    { dst := some 37, r := .call .pur F.quote_Unquote [(.t 36)] },
    { dst := some 33, r := .move (.t 37) },
    { dst := some 38, r := .extract (.t 33) 0 },
    { dst := some 39, r := .extract (.t 33) 1 },
    { dst := some 40, r := .extract (.t 33) 2 },
    { dst := some 7, r := .move (.t 38) },
    { dst := some 8, r := .move (.t 39) },
    { dst := some 9, r := .move (.t 40) }]
  (.reg [
    { dst := some 41, r := .move (.t 9) },
    { dst := some 42, r := .bin .eql (.t 41) (.c (.int .i64 0)) },
    { dst := some 43, r := .move (.t 42) },
    { dst := some 44, g := some (43, true), r := .move (.t 7) },
    { dst := some 45, g := some (43, true), r := .move (.t 0) },
    { dst := some 46, g := some (43, true), r := .bin .eql (.t 44) (.t 45) },
    { dst := some 47, r := .pick (.t 43) (.t 46) (.c (.bool false)) },
    { dst := some 48, r := .move (.t 47) },
    { dst := some 49, g := some (48, true), r := .move (.t 8) },
    { dst := some 50, g := some (48, true), r := .move (.t 5) },
    { dst := some 51, g := some (48, true), r := .len .str (.t 50) },
    { dst := some 52, g := some (48, true), r := .bin .eql (.t 49) (.t 51) },
    { dst := some 53, r := .pick (.t 48) (.t 52) (.c (.bool false)) },
    { dst := some 4, r := .move (.t 53) }]
  .ret)))
def r_cascadelaw02_QuoteBack : KF where
  np := 2
  res := [.tmp 4]
  code := [k_cascadelaw02_QuoteBack_0, k_cascadelaw02_QuoteBack_1]
def k_cascadelaw02_QuoteCuts_0 : KC := (.reg [
    { dst := some 4, r := .move (.c (.bool false)) }]
  (.seq (.reg [
    { dst := some 12, r := .call .pur F.cascadelaw02_awake [] },
    { dst := some 13, r := .un .not (.t 12) },
    { dst := some 14, r := .move (.t 13) },
    { dst := some 15, g := some (14, false), r := .move (.t 0) },
    { dst := some 16, g := some (14, false), r := .len .str (.t 15) },
    { dst := some 17, g := some (14, false), r := .bin .gtr (.t 16) (.c (.int .i64 200)) },
    { dst := some 18, r := .pick (.t 14) (.c (.bool true)) (.t 17) }]
  (.cond (.t 18)
  (.reg [
    { dst := some 19, r := .call .pur F.cascadelaw02_awake [] },
    { dst := some 4, r := .move (.t 19) }]
  .ret)
  .skip))
  ⟨1, [0, 1], []⟩))
def k_cascadelaw02_QuoteCuts_1 : KC := (.seq (.reg [
    { dst := some 5, r := .move (.c (.int .i64 0)) }]
  (.block 0 (.loop ⟨2, [0, 1, 5], []⟩)))
  ⟨5, [0, 1], []⟩)
def k_cascadelaw02_QuoteCuts_2 : KC := (.seq (.reg [
    { dst := some 20, r := .move (.t 5) },
    { dst := some 21, r := .move (.t 0) },
    { dst := some 22, r := .len .str (.t 21) },
    { dst := some 23, r := .bin .lss (.t 20) (.t 22) }]
  (.cond (.t 23)
  .skip
  (.exit 0)))
  ⟨3, [0, 1, 5], []⟩)
def k_cascadelaw02_QuoteCuts_3 : KC := (.seq (.block 1 (.reg [
    { dst := some 26, r := .move (.t 0) },
    { dst := some 27, r := .move (.t 5) },
    { dst := some 28, r := .idx (.t 26) (.t 27) },
    { dst := some 29, r := .bin .lss (.t 28) (.c (.int .u8 32)) },
    { dst := some 30, r := .move (.t 29) },
    { dst := some 31, g := some (30, false), r := .move (.t 0) },
    { dst := some 32, g := some (30, false), r := .move (.t 5) },
    { dst := some 33, g := some (30, false), r := .idx (.t 31) (.t 32) },
    { dst := some 34, g := some (30, false), r := .bin .gtr (.t 33) (.c (.int .u8 126)) },
    { dst := some 35, r := .pick (.t 30) (.c (.bool true)) (.t 34) },
    { dst := some 36, r := .move (.t 35) },
    { dst := some 37, g := some (36, false), r := .move (.t 0) },
    { dst := some 38, g := some (36, false), r := .move (.t 5) },
    { dst := some 39, g := some (36, false), r := .idx (.t 37) (.t 38) },
    { dst := some 40, g := some (36, false), r := .bin .eql (.t 39) (.c (.int .u8 34)) },
    { dst := some 41, r := .pick (.t 36) (.c (.bool true)) (.t 40) },
    { dst := some 42, r := .move (.t 41) },
    { dst := some 43, g := some (42, false), r := .move (.t 0) },
    { dst := some 44, g := some (42, false), r := .move (.t 5) },
    { dst := some 45, g := some (42, false), r := .idx (.t 43) (.t 44) },
    { dst := some 46, g := some (42, false), r := .bin .eql (.t 45) (.c (.int .u8 92)) },
    { dst := some 47, r := .pick (.t 42) (.c (.bool true)) (.t 46) }]
  (.cond (.t 47)
  (.reg [
    { dst := some 4, r := .move (.c (.bool true)) }]
  .ret)
  .skip)))
  ⟨4, [0, 1, 5], []⟩)
def k_cascadelaw02_QuoteCuts_4 : KC := (.lreg [
    { dst := some 24, r := .move (.t 5) },
    { dst := some 25, r := .bin .add (.t 24) (.c (.int .i64 1)) },
    { dst := some 5, r := .move (.t 25) }])
def k_cascadelaw02_QuoteCuts_5 : KC := (.reg [
    { dst := some 49, r := .move (.t 0) },
    { dst := some 50, r := .call .pur F.quote_Quote [(.t 49)] },
    { dst := some 48, r := .move (.t 50) },
    { dst := some 51, r := .extract (.t 48) 0 },
    { dst := some 52, r := .extract (.t 48) 1 },
    { dst := some 6, r := .move (.t 51) },
    { dst := some 7, r := .move (.t 52) }]
  (.seq (.reg [
    { dst := some 53, r := .move (.t 6) },
    { dst := some 54, r := .len .str (.t 53) },
    { dst := some 55, r := .bin .eql (.t 54) (.c (.int .i64 0)) }]
  (.cond (.t 55)
  (.reg [
    { dst := some 4, r := .move (.c (.bool false)) }]
  .ret)
  .skip))
  ⟨6, [1, 6], []⟩))
def k_cascadelaw02_QuoteCuts_6 : KC := (.reg [
    { dst := some 56, r := .move (.t 1) },
    { dst := some 57, r := .conv (.int .i64) (.t 56) },
    { dst := some 58, r := .move (.t 6) },
    { dst := some 59, r := .len .str (.t 58) },
    { dst := some 60, r := .bin .rem (.t 57) (.t 59) },
    { dst := some 8, r := .move (.t 60) }]
  (.reg [
    { dst := some 62, r := .move (.t 6) },
    { dst := some 63, r := .move (.t 8) },
    { dst := some 64, r := .slice 0 (.t 62) none (some (.t 63)) },
    { dst := some 65, r := .call .pur F.quote_Unquote [(.t 64)] },
    { dst := some 61, r := .move (.t 65) },
    { dst := some 66, r := .extract (.t 61) 0 },
    { dst := some 67, r := .extract (.t 61) 1 },
    { dst := some 68, r := .extract (.t 61) 2 },
    { dst := some 9, r := .move (.t 66) },
    { dst := some 10, r := .move (.t 67) },
    { dst := some 11, r := .move (.t 68) }]
  (.reg [
    { dst := some 69, r := .move (.t 9) },
    { dst := some 70, r := .bin .eql (.t 69) (.c (.str [])) },
    { dst := some 71, r := .move (.t 70) },
    { dst := some 72, g := some (71, true), r := .move (.t 10) },
    { dst := some 73, g := some (71, true), r := .move (.t 8) },
    { dst := some 74, g := some (71, true), r := .bin .eql (.t 72) (.t 73) },
    { dst := some 75, r := .pick (.t 71) (.t 74) (.c (.bool false)) },
    { dst := some 76, r := .move (.t 75) },
    { dst := some 77, g := some (76, true), r := .move (.t 11) },
    { dst := some 78, g := some (76, true), r := .bin .eql (.t 77) (.c (.int .i64 4)) },
    { dst := some 79, r := .pick (.t 76) (.t 78) (.c (.bool false)) },
    { dst := some 4, r := .move (.t 79) }]
  .ret)))
def r_cascadelaw02_QuoteCuts : KF where
  np := 2
  res := [.tmp 4]
  code := [k_cascadelaw02_QuoteCuts_0, k_cascadelaw02_QuoteCuts_1, k_cascadelaw02_QuoteCuts_2, k_cascadelaw02_QuoteCuts_3, k_cascadelaw02_QuoteCuts_4, k_cascadelaw02_QuoteCuts_5, k_cascadelaw02_QuoteCuts_6]
def table : FuncId → Option KF
  | 3 => some r_cascadelaw01_TextNames
  | 4 => some r_cascadelaw01_TextRight
  | 7 => some r_cascadelaw01_TextOf
  | 9 => some r_cascadelaw02_QuoteTexts
  | 10 => some r_cascadelaw02_QuoteOne
  | 11 => some r_cascadelaw02_QuoteReads
  | 12 => some r_cascadelaw02_QuoteBack
  | 13 => some r_cascadelaw02_QuoteCuts
  | 14 => some r_cascadelaw01_awake
  | 15 => some r_text_Name
  | 16 => some r_cascaderef01_Name
  | 17 => some r_text_Right
  | 18 => some r_cascaderef01_Bad
  | 19 => some r_text_Bad
  | 20 => some r_cascadelaw01_same
  | 21 => some r_text_Runes
  | 22 => some r_cascaderef01_Runes
  | 26 => some r_text_Of
  | 27 => some r_cascaderef01_Of
  | 28 => some r_cascadelaw02_awake
  | 29 => some r_quote_Quote
  | 30 => some r_cascaderef01_Right
  | 31 => some r_cascaderef02_Quote
  | 32 => some r_quote_Unquote
  | 33 => some r_cascaderef02_Unquote
  | 34 => some r_text_letter
  | 35 => some r_cascaderef01_Letter
  | 36 => some r_cascaderef01_Digit
  | 37 => some r_cascaderef01_Size
  | 38 => some { code := [], res := [], np := 1, ext := some (.pure ext_unicode_utf8_DecodeRuneInString) }
  | 40 => some r_strings_HasPrefix
  | 41 => some r_unicode_utf8_ValidRune
  | 42 => some { code := [], res := [], np := 2, ext := some (.eff (effRune 53 5)) }
  | 43 => some { code := [], res := [], np := 1, ext := some (.eff (effText 53 5)) }
  | 44 => some r_cascaderef01_Rune
  | 45 => some { code := [], res := [], np := 2, ext := some (.eff (effByte 53 5)) }
  | 46 => some r_quote_escape
  | 47 => some { code := [], res := [], np := 2, ext := some (.eff (effStr 53 5)) }
  | 48 => some r_cascaderef02_plain
  | 49 => some r_cascaderef02_hex
  | 50 => some r_quote_escaped
  | 51 => some r_cascaderef02_sign
  | 54 => some r_internal_stringslite_HasPrefix
  | 57 => some r_quote_short
  | 58 => some r_quote_unit
  | 59 => some r_cascaderef02_four
  | 63 => some r_quote_digit
  | _ => none
end Go.Abs.A
