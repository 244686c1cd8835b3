import Derived.Test.YtcoajejhnlcmmaaDoorAbsB
import Derived.Test.YtcoajejhnlcmmaaDoorXB
namespace Go.Abs.B
namespace F
abbrev main_main : FuncId := 0
abbrev gosem_cut : FuncId := 1
abbrev gosem_cut_init : FuncId := 2
abbrev cascadelaw28_PartsTwo : FuncId := 3
abbrev cascadelaw28_PartsWhole : FuncId := 4
abbrev cascadelaw28_awake : FuncId := 5
abbrev cascadelaw28_few : FuncId := 6
abbrev parts_Whole : FuncId := 7
abbrev parts_End : FuncId := 8
abbrev parts_Part : FuncId := 9
abbrev cascaderef28_Part : FuncId := 10
abbrev parts_New : FuncId := 11
abbrev parts_Reader_Feed : FuncId := 12
abbrev cascadelaw28_drain : FuncId := 13
abbrev cascaderef28_Whole : FuncId := 14
abbrev cascaderef12_SameNames : FuncId := 15
abbrev parts_Reader_Over : FuncId := 16
abbrev parts_Reader_Bad : FuncId := 17
abbrev strings_Builder_WriteString : FuncId := 18
abbrev strings_Builder_String : FuncId := 19
abbrev strconv_Itoa : FuncId := 20
abbrev cascaderef05_Number : FuncId := 21
abbrev parts_Reader_Next : FuncId := 22
abbrev strings_Builder_copyCheck : FuncId := 23
abbrev internal_strconv_Itoa : FuncId := 24
abbrev parts_scan_part : FuncId := 25
abbrev internal_abi_NoEscape : FuncId := 26
abbrev internal_strconv_FormatInt : FuncId := 27
abbrev parts_scan_text : FuncId := 28
abbrev parts_scan_is : FuncId := 29
abbrev parts_scan_number : FuncId := 30
abbrev parts_scan_take : FuncId := 31
abbrev internal_strconv_small : FuncId := 32
abbrev internal_strconv_numDigits : FuncId := 33
abbrev internal_strconv_formatBase10 : FuncId := 34
abbrev internal_strconv_formatBits : FuncId := 35
abbrev parts_scan_number_1 : FuncId := 36
abbrev internal_strconv_log10Pow2 : FuncId := 37
abbrev math_bits_Len64 : FuncId := 38
abbrev internal_strconv_bool2_int : FuncId := 39
abbrev internal_strconv_isPowerOfTwo : FuncId := 40
abbrev math_bits_TrailingZeros : FuncId := 41
abbrev math_bits_TrailingZeros32 : FuncId := 42
abbrev math_bits_TrailingZeros64 : FuncId := 43
abbrev runtime_boundsError_Error : FuncId := 44
abbrev runtime_boundsError_RuntimeError : FuncId := 45
abbrev runtime_errorString_Error : FuncId := 46
abbrev runtime_errorString_RuntimeError : FuncId := 47
abbrev runtime_plainError_Error : FuncId := 48
abbrev runtime_plainError_RuntimeError : FuncId := 49
abbrev runtime_errorAddressString_Error : FuncId := 50
abbrev runtime_errorAddressString_RuntimeError : FuncId := 51
abbrev runtime_TypeAssertionError_Error : FuncId := 52
abbrev runtime_TypeAssertionError_RuntimeError : FuncId := 53
abbrev runtime_PanicNilError_Error : FuncId := 54
abbrev runtime_PanicNilError_RuntimeError : FuncId := 55
abbrev internal_abi_Type_Align : FuncId := 56
abbrev internal_runtime_maps_unhashableTypeError_Error : FuncId := 57
abbrev internal_runtime_maps_unhashableTypeError_RuntimeError : FuncId := 58
abbrev strings_Builder_Reset : FuncId := 59
abbrev internal_abi_Kind_String : FuncId := 60
abbrev gosem_cut_vars : FuncId := 66
end F
def k_parts_End_0 : KC := (.reg [
rq 0 (.move (.c (.str [])))]
  (.reg [
rq 0 (.move (.c (.str [45, 45, 99, 117, 116, 45, 45, 13, 10])))]
  .ret))
def r_parts_End : KF where
  np := 0
  res := [.tmp 0]
  code := [k_parts_End_0]
def k_parts_New_0 : KC := (.reg [
rq 0 (.move (.c .nilp))]
  (.reg [
rq 1 (.build [(.str []), (.int .i64 0), (.bool false), (.int .i64 0)] []),
rq 2 (.box (.t 1)),
rq 0 (.move (.t 2))]
  .ret))
def r_parts_New : KF where
  np := 0
  res := [.tmp 0]
  code := [k_parts_New_0]
def k_cascadelaw28_awake_0 : KC := (.reg [
rq 0 (.move (.c (.bool false)))]
  (.reg [
rq 1 (.call .pur F.parts_End []),
rq 2 (.bin .eql (.t 1) (.c (.str [45, 45, 99, 117, 116, 45, 45, 13, 10]))),
rq 3 (.move (.t 2)),
rqg 4 3 true (.call (.own [[2]]) F.parts_New []),
rqg 5 3 true (.eq true .ptr (.t 4) (.c .nilp)),
rq 6 (.pick (.t 3) (.t 5) (.c (.bool false))),
rq 0 (.move (.t 6))]
  .ret))
def r_cascadelaw28_awake : KF where
  np := 0
  res := [.tmp 0]
  code := [k_cascadelaw28_awake_0]
def k_cascadelaw28_few_0 : KC := (.reg [
rq 6 (.move (.c (.bool false)))]
  (.seq (.reg [
rq 7 (.move (.c (.int .i64 0)))]
  (.block 0 (.loop ⟨1, [0, 1, 2, 7], []⟩)))
  ⟨4, [0, 1], []⟩))
def k_cascadelaw28_few_1 : KC := (.seq (.reg [
rq 8 (.move (.t 7)),
rq 9 (.move (.t 0)),
rq 10 (.len .sl (.t 9)),
rq 11 (.bin .lss (.t 8) (.t 10)),
rq 12 (.move (.t 11)),
rqg 13 12 true (.move (.t 7)),
rqg 14 12 true (.bin .lss (.t 13) (.c (.int .i64 100))),
rq 15 (.pick (.t 12) (.t 14) (.c (.bool false)))]
  (.cond (.t 15)
  .skip
  (.exit 0)))
  ⟨2, [0, 1, 2, 7], []⟩)
def k_cascadelaw28_few_2 : KC := (.seq (.block 1 (.reg [
rq 18 (.move (.t 0)),
rq 19 (.move (.t 7)),
rq 20 (.iaddr 1 (.t 18) (.t 19)),
rq 21 (.load false 1 (.t 20)),
rq 22 (.len .str (.t 21)),
rq 23 (.move (.t 2)),
rq 24 (.bin .gtr (.t 22) (.t 23))]
  (.cond (.t 24)
  (.reg [
rq 6 (.move (.c (.bool false)))]
  .ret)
  .skip)))
  ⟨3, [0, 1, 2, 7], []⟩)
def k_cascadelaw28_few_3 : KC := (.lreg [
rq 16 (.move (.t 7)),
rq 17 (.bin .add (.t 16) (.c (.int .i64 1))),
rq 7 (.move (.t 17))])
def k_cascadelaw28_few_4 : KC := (.reg [
rq 25 (.move (.t 0)),
rq 26 (.len .sl (.t 25)),
rq 27 (.move (.t 1)),
rq 28 (.bin .leq (.t 26) (.t 27)),
rq 6 (.move (.t 28))]
  .ret)
def r_cascadelaw28_few : KF where
  np := 3
  res := [.tmp 6]
  code := [k_cascadelaw28_few_0, k_cascadelaw28_few_1, k_cascadelaw28_few_2, k_cascadelaw28_few_3, k_cascadelaw28_few_4]
def k_parts_Part_0 : KC := (.reg [
rq 2 (.move (.c (.str []))),
rq 3 (.move (.c (.int .i64 0)))]
  (.seq (.reg [
rq 4 (.move (.t 0)),
rq 5 (.len .str (.t 4)),
rq 6 (.bin .gtr (.t 5) (.c (.int .i64 16777216)))]
  (.cond (.t 6)
  (.reg [
rq 2 (.move (.c (.str []))),
rq 3 (.move (.c (.int .i64 6)))]
  .ret)
  .skip))
  ⟨1, [0], []⟩))
def k_parts_Part_1 : KC := (.reg [
rq 7 (.move (.t 0)),
rq 8 (.len .str (.t 7)),
rq 9 (.call .pur F.strconv_Itoa [(.t 8)]),
rq 10 (.bin .add (.c (.str [45, 45, 99, 117, 116, 13, 10, 67, 111, 110, 116, 101, 110, 116, 45, 84, 121, 112, 101, 58, 32, 97, 112, 112, 108, 105, 99, 97, 116, 105, 111, 110, 47, 106, 115, 111, 110, 13, 10, 67, 111, 110, 116, 101, 110, 116, 45, 76, 101, 110, 103, 116, 104, 58, 32])) (.t 9)),
rq 11 (.bin .add (.t 10) (.c (.str [13, 10, 13, 10]))),
rq 12 (.move (.t 0)),
rq 13 (.bin .add (.t 11) (.t 12)),
rq 14 (.bin .add (.t 13) (.c (.str [13, 10]))),
rq 2 (.move (.t 14)),
rq 3 (.move (.c (.int .i64 0)))]
  .ret)
def r_parts_Part : KF where
  np := 1
  res := [.tmp 2, .tmp 3]
  code := [k_parts_Part_0, k_parts_Part_1]
def k_parts_Whole_0 : KC := (.reg [
rq 2 (.move (.c (.str []))),
rq 3 (.move (.c (.int .i64 0)))]
  (.reg [
rq 4 (.bnew 42 5)]
  (.seq (.reg [
rq 9 (.move (.t 0)),
rq 10 (.len .sl (.t 9)),
rq 11 (.move (.c (.int .i64 0)))]
  (.block 0 (.loop ⟨1, [4, 9, 10, 11], [[4], [4, 1]]⟩)))
  ⟨5, [4], [[4], [4, 1]]⟩)))
def k_parts_Whole_1 : KC := (.reg [
rq 12 (.bin .lss (.t 11) (.t 10))]
  (.seq (.cond (.t 12)
  .skip
  (.exit 0))
  ⟨2, [4, 9, 10, 11], [[4], [4, 1]]⟩))
def k_parts_Whole_2 : KC := (.seq (.block 1 (.reg [
rq 13 (.iaddr 1 (.t 9) (.t 11)),
rq 14 (.load false 1 (.t 13)),
rq 6 (.move (.t 14))]
  (.reg [
rq 16 (.move (.t 6)),
rq 17 (.call .pur F.parts_Part [(.t 16)]),
rq 15 (.move (.t 17)),
rq 18 (.extract (.t 15) 0),
rq 19 (.extract (.t 15) 1),
rq 7 (.move (.t 18)),
rq 8 (.move (.t 19))]
  (.seq (.reg [
rq 20 (.move (.t 8)),
rq 21 (.bin .neq (.t 20) (.c (.int .i64 0)))]
  (.cond (.t 21)
  (.reg [
rq 22 (.move (.t 8)),
rq 2 (.move (.c (.str []))),
rq 3 (.move (.t 22))]
  .ret)
  .skip))
  ⟨3, [4, 7, 9, 10, 11], [[4], [4, 1]]⟩))))
  ⟨4, [4, 9, 10, 11], [[4], [4, 1]]⟩)
def k_parts_Whole_3 : KC := (.lreg [
rq 23 (.move (.t 7)),
rq 24 (.call .eff F.strings_Builder_WriteString [(.t 4), (.t 23)])])
def k_parts_Whole_4 : KC := (.lreg [
rq 25 (.bin .add (.t 11) (.c (.int .i64 1))),
rq 11 (.move (.t 25))])
def k_parts_Whole_5 : KC := (.reg [
rq 26 (.call .pur F.parts_End []),
rq 27 (.call .eff F.strings_Builder_WriteString [(.t 4), (.t 26)])]
  (.reg [
rq 28 (.call .eff F.strings_Builder_String [(.t 4)]),
rq 2 (.move (.t 28)),
rq 3 (.move (.c (.int .i64 0)))]
  .ret))
def r_parts_Whole : KF where
  np := 1
  res := [.tmp 2, .tmp 3]
  code := [k_parts_Whole_0, k_parts_Whole_1, k_parts_Whole_2, k_parts_Whole_3, k_parts_Whole_4, k_parts_Whole_5]
def k_cascadelaw28_PartsTwo_0 : KC := (.reg [
rq 4 (.move (.c (.bool false)))]
  (.seq (.reg [
rq 13 (.call .pur F.cascadelaw28_awake []),
rq 14 (.un .not (.t 13)),
rq 15 (.move (.t 14)),
rqg 16 15 false (.move (.t 0)),
rqg 17 15 false (.call .pur F.cascadelaw28_few [(.t 16), (.c (.int .i64 10)), (.c (.int .i64 200))]),
rqg 18 15 false (.un .not (.t 17)),
rq 19 (.pick (.t 15) (.c (.bool true)) (.t 18)),
rq 20 (.move (.t 19)),
rqg 21 20 false (.move (.t 1)),
rqg 22 20 false (.call .pur F.cascadelaw28_few [(.t 21), (.c (.int .i64 10)), (.c (.int .i64 200))]),
rqg 23 20 false (.un .not (.t 22)),
rq 24 (.pick (.t 20) (.c (.bool true)) (.t 23))]
  (.cond (.t 24)
  (.reg [
rq 25 (.call .pur F.cascadelaw28_awake []),
rq 4 (.move (.t 25))]
  .ret)
  .skip))
  ⟨1, [0, 1], []⟩))
def k_cascadelaw28_PartsTwo_1 : KC := (.reg [
rq 5 (.vnil 1)]
  (.reg [
rq 26 (.move (.t 5)),
rq 27 (.move (.t 0)),
rq 28 (.app 1 16 (.t 26) (.t 27)),
rq 5 (.move (.t 28))]
  (.reg [
rq 29 (.move (.t 5)),
rq 30 (.move (.t 1)),
rq 31 (.app 1 16 (.t 29) (.t 30)),
rq 5 (.move (.t 31))]
  (.reg [
rq 33 (.move (.t 0)),
rq 34 (.call .pur F.parts_Whole [(.t 33)]),
rq 32 (.move (.t 34)),
rq 35 (.extract (.t 32) 0),
rq 36 (.extract (.t 32) 1),
rq 6 (.move (.t 35)),
rq 7 (.move (.t 36))]
  (.reg [
rq 38 (.move (.t 1)),
rq 39 (.call .pur F.parts_Whole [(.t 38)]),
rq 37 (.move (.t 39)),
rq 40 (.extract (.t 37) 0),
rq 41 (.extract (.t 37) 1),
rq 8 (.move (.t 40)),
rq 9 (.move (.t 41))]
  (.reg [
rq 43 (.move (.t 5)),
rq 44 (.call .pur F.parts_Whole [(.t 43)]),
rq 42 (.move (.t 44)),
rq 45 (.extract (.t 42) 0),
rq 46 (.extract (.t 42) 1),
rq 10 (.move (.t 45)),
rq 11 (.move (.t 46))]
  (.reg [
rq 47 (.move (.t 6)),
rq 48 (.len .str (.t 47)),
rq 49 (.call .pur F.parts_End []),
rq 50 (.len .str (.t 49)),
rq 51 (.bin .sub (.t 48) (.t 50)),
rq 12 (.move (.t 51))]
  (.reg [
rq 52 (.move (.t 7)),
rq 53 (.bin .eql (.t 52) (.c (.int .i64 0))),
rq 54 (.move (.t 53)),
rqg 55 54 true (.move (.t 9)),
rqg 56 54 true (.bin .eql (.t 55) (.c (.int .i64 0))),
rq 57 (.pick (.t 54) (.t 56) (.c (.bool false))),
rq 58 (.move (.t 57)),
rqg 59 58 true (.move (.t 11)),
rqg 60 58 true (.bin .eql (.t 59) (.c (.int .i64 0))),
rq 61 (.pick (.t 58) (.t 60) (.c (.bool false))),
rq 62 (.move (.t 61)),
rqg 63 62 true (.move (.t 12)),
rqg 64 62 true (.bin .geq (.t 63) (.c (.int .i64 0))),
rq 65 (.pick (.t 62) (.t 64) (.c (.bool false))),
rq 66 (.move (.t 65)),
rqg 67 66 true (.move (.t 10)),
rqg 68 66 true (.move (.t 6)),
rqg 69 66 true (.move (.t 12)),
rqg 70 66 true (.slice 0 (.t 68) none (some (.t 69))),
rqg 71 66 true (.move (.t 8)),
rqg 72 66 true (.bin .add (.t 70) (.t 71)),
rqg 73 66 true (.bin .eql (.t 67) (.t 72)),
rq 74 (.pick (.t 66) (.t 73) (.c (.bool false))),
rq 4 (.move (.t 74))]
  .ret))))))))
def r_cascadelaw28_PartsTwo : KF where
  np := 2
  res := [.tmp 4]
  code := [k_cascadelaw28_PartsTwo_0, k_cascadelaw28_PartsTwo_1]
def k_cascaderef05_Number_0 : KC := (.reg [
rq 2 (.move (.c (.str [])))]
  (.seq (.reg [
rq 7 (.move (.t 0)),
rq 8 (.bin .eql (.t 7) (.c (.int .i64 0)))]
  (.cond (.t 8)
  (.reg [
rq 2 (.move (.c (.str [48])))]
  .ret)
  .skip))
  ⟨1, [0], []⟩))
def k_cascaderef05_Number_1 : KC := (.reg [
rq 3 (.move (.c (.str []))),
rq 4 (.move (.c (.str [])))]
  (.seq (.reg [
rq 9 (.move (.t 0)),
rq 10 (.bin .lss (.t 9) (.c (.int .i64 0)))]
  (.cond (.t 10)
  (.lreg [
rq 4 (.move (.c (.str [45])))])
  .skip))
  ⟨2, [0, 3, 4], []⟩))
def k_cascaderef05_Number_2 : KC := (.seq (.reg [
rq 5 (.move (.c (.int .i64 0)))]
  (.block 0 (.loop ⟨3, [0, 3, 4, 5], []⟩)))
  ⟨7, [3, 4], []⟩)
def k_cascaderef05_Number_3 : KC := (.seq (.reg [
rq 11 (.move (.t 5)),
rq 12 (.bin .lss (.t 11) (.c (.int .i64 20))),
rq 13 (.move (.t 12)),
rqg 14 13 true (.move (.t 0)),
rqg 15 13 true (.bin .neq (.t 14) (.c (.int .i64 0))),
rq 16 (.pick (.t 13) (.t 15) (.c (.bool false)))]
  (.cond (.t 16)
  .skip
  (.exit 0)))
  ⟨4, [0, 3, 4, 5], []⟩)
def k_cascaderef05_Number_4 : KC := (.seq (.block 1 (.reg [
rq 19 (.move (.t 0)),
rq 20 (.bin .rem (.t 19) (.c (.int .i64 10))),
rq 6 (.move (.t 20))]
  (.seq (.reg [
rq 21 (.move (.t 6)),
rq 22 (.bin .lss (.t 21) (.c (.int .i64 0)))]
  (.cond (.t 22)
  (.lreg [
rq 23 (.move (.t 6)),
rq 24 (.un .neg (.t 23)),
rq 6 (.move (.t 24))])
  .skip))
  ⟨5, [0, 3, 4, 5, 6], []⟩)))
  ⟨6, [0, 3, 4, 5], []⟩)
def k_cascaderef05_Number_5 : KC := (.reg [
rq 25 (.move (.t 6)),
rq 26 (.bin .add (.c (.int .i64 48)) (.t 25)),
rq 27 (.conv (.int .u8) (.t 26)),
rq 28 (.ilit 1 [(.t 27)]),
rq 29 (.conv .ofBytes (.t 28)),
rq 30 (.move (.t 3)),
rq 31 (.bin .add (.t 29) (.t 30)),
rq 3 (.move (.t 31))]
  (.lreg [
rq 32 (.move (.t 0)),
rq 33 (.bin .quo (.t 32) (.c (.int .i64 10))),
rq 0 (.move (.t 33))]))
def k_cascaderef05_Number_6 : KC := (.lreg [
rq 17 (.move (.t 5)),
rq 18 (.bin .add (.t 17) (.c (.int .i64 1))),
rq 5 (.move (.t 18))])
def k_cascaderef05_Number_7 : KC := (.reg [
rq 34 (.move (.t 4)),
rq 35 (.move (.t 3)),
rq 36 (.bin .add (.t 34) (.t 35)),
rq 2 (.move (.t 36))]
  .ret)
def r_cascaderef05_Number : KF where
  np := 1
  res := [.tmp 2]
  code := [k_cascaderef05_Number_0, k_cascaderef05_Number_1, k_cascaderef05_Number_2, k_cascaderef05_Number_3, k_cascaderef05_Number_4, k_cascaderef05_Number_5, k_cascaderef05_Number_6, k_cascaderef05_Number_7]
def k_cascaderef28_Part_0 : KC := (.reg [
rq 2 (.move (.c (.str [])))]
  (.reg [
rq 3 (.move (.t 0)),
rq 4 (.len .str (.t 3)),
rq 5 (.call .pur F.cascaderef05_Number [(.t 4)]),
rq 6 (.bin .add (.c (.str [45, 45, 99, 117, 116, 13, 10, 67, 111, 110, 116, 101, 110, 116, 45, 84, 121, 112, 101, 58, 32, 97, 112, 112, 108, 105, 99, 97, 116, 105, 111, 110, 47, 106, 115, 111, 110, 13, 10, 67, 111, 110, 116, 101, 110, 116, 45, 76, 101, 110, 103, 116, 104, 58, 32])) (.t 5)),
rq 7 (.bin .add (.t 6) (.c (.str [13, 10, 13, 10]))),
rq 8 (.move (.t 0)),
rq 9 (.bin .add (.t 7) (.t 8)),
rq 10 (.bin .add (.t 9) (.c (.str [13, 10]))),
rq 2 (.move (.t 10))]
  .ret))
def r_cascaderef28_Part : KF where
  np := 1
  res := [.tmp 2]
  code := [k_cascaderef28_Part_0]
def k_parts_Reader_Feed_0 : KC := (.lreg [
rq 4 (.move (.t 0)),
rq 5 (.nilCheck (.t 4)),
rq 6 (.faddr 0 (.t 5)),
rq 7 (.load false 1 (.t 6)),
rq 8 (.move (.t 1)),
rq 9 (.bin .add (.t 7) (.t 8)),
rq 10 (.nilCheck (.t 4)),
rq 11 (.faddr 0 (.t 10)),
rz (.store 1 (.t 11) (.t 9))])
def r_parts_Reader_Feed : KF where
  np := 2
  res := []
  code := [k_parts_Reader_Feed_0]
def k_parts_scan_text_0 : KC := (.reg [
rq 4 (.move (.c (.int .i64 0)))]
  (.block 0 (.loop ⟨1, [0, 1, 4], []⟩)))
def k_parts_scan_text_1 : KC := (.seq (.reg [
rq 5 (.move (.t 4)),
rq 6 (.move (.t 1)),
rq 7 (.len .str (.t 6)),
rq 8 (.bin .lss (.t 5) (.t 7)),
rq 9 (.move (.t 8)),
rqg 10 9 true (.move (.t 0)),
rqg 11 9 true (.nilCheck (.t 10)),
rqg 12 9 true (.faddr 2 (.t 11)),
rqg 13 9 true (.load false 1 (.t 12)),
rqg 14 9 true (.bin .eql (.t 13) (.c (.int .i64 0))),
rq 15 (.pick (.t 9) (.t 14) (.c (.bool false)))]
  (.cond (.t 15)
  .skip
  (.exit 0)))
  ⟨2, [0, 1, 4], []⟩)
def k_parts_scan_text_2 : KC := (.seq (.block 1 (.block 2 (.dreg [
rq 26 (.move (.t 0)),
rq 27 (.nilCheck (.t 26)),
rq 28 (.faddr 1 (.t 27)),
rq 29 (.load false 1 (.t 28)),
rq 30 (.move (.t 0)),
rq 31 (.nilCheck (.t 30)),
rq 32 (.faddr 0 (.t 31)),
rq 33 (.load false 1 (.t 32)),
rq 34 (.len .str (.t 33)),
rq 35 (.bin .eql (.t 29) (.t 34)),
rq 25 (.move (.t 35))] []
  (.cond (.t 25)
  (.lreg [
rq 36 (.move (.t 0)),
rq 37 (.nilCheck (.t 36)),
rq 38 (.faddr 2 (.t 37)),
rz (.store 1 (.t 38) (.c (.int .i64 1)))])
  (.dreg [
rq 40 (.move (.t 0)),
rq 41 (.nilCheck (.t 40)),
rq 42 (.faddr 0 (.t 41)),
rq 43 (.load false 1 (.t 42)),
rq 44 (.move (.t 0)),
rq 45 (.nilCheck (.t 44)),
rq 46 (.faddr 1 (.t 45)),
rq 47 (.load false 1 (.t 46)),
rq 48 (.idx (.t 43) (.t 47)),
rq 49 (.move (.t 1)),
rq 50 (.move (.t 4)),
rq 51 (.idx (.t 49) (.t 50)),
rq 52 (.bin .neq (.t 48) (.t 51)),
rq 39 (.move (.t 52))] []
  (.cond (.t 39)
  (.lreg [
rq 53 (.move (.t 0)),
rq 54 (.nilCheck (.t 53)),
rq 55 (.faddr 2 (.t 54)),
rz (.store 1 (.t 55) (.c (.int .i64 2)))])
  (.lreg [
rq 18 (.move (.t 0)),
rq 19 (.nilCheck (.t 18)),
rq 20 (.faddr 1 (.t 19)),
rq 21 (.load false 1 (.t 20)),
rq 22 (.bin .add (.t 21) (.c (.int .i64 1))),
rq 23 (.nilCheck (.t 18)),
rq 24 (.faddr 1 (.t 23)),
rz (.store 1 (.t 24) (.t 22))])))))))
  ⟨3, [0, 1, 4], []⟩)
def k_parts_scan_text_3 : KC := (.lreg [
rq 16 (.move (.t 4)),
rq 17 (.bin .add (.t 16) (.c (.int .i64 1))),
rq 4 (.move (.t 17))])
def r_parts_scan_text : KF where
  np := 2
  res := []
  code := [k_parts_scan_text_0, k_parts_scan_text_1, k_parts_scan_text_2, k_parts_scan_text_3]
def k_parts_scan_is_0 : KC := (.reg [
rq 4 (.move (.c (.bool false)))]
  (.dreg [
rq 5 (.move (.t 0)),
rq 6 (.nilCheck (.t 5)),
rq 7 (.faddr 2 (.t 6)),
rq 8 (.load false 1 (.t 7)),
rq 9 (.bin .eql (.t 8) (.c (.int .i64 0))),
rq 10 (.move (.t 9)),
rqg 11 10 true (.move (.t 0)),
rqg 12 10 true (.nilCheck (.t 11)),
rqg 13 10 true (.faddr 1 (.t 12)),
rqg 14 10 true (.load false 1 (.t 13)),
rqg 15 10 true (.move (.t 0)),
rqg 16 10 true (.nilCheck (.t 15)),
rqg 17 10 true (.faddr 0 (.t 16)),
rqg 18 10 true (.load false 1 (.t 17)),
rqg 19 10 true (.len .str (.t 18)),
rqg 20 10 true (.bin .lss (.t 14) (.t 19)),
rq 21 (.pick (.t 10) (.t 20) (.c (.bool false))),
rq 22 (.move (.t 21)),
rqg 23 22 true (.move (.t 0)),
rqg 24 22 true (.nilCheck (.t 23)),
rqg 25 22 true (.faddr 0 (.t 24)),
rqg 26 22 true (.load false 1 (.t 25)),
rqg 27 22 true (.move (.t 0)),
rqg 28 22 true (.nilCheck (.t 27)),
rqg 29 22 true (.faddr 1 (.t 28)),
rqg 30 22 true (.load false 1 (.t 29)),
rqg 31 22 true (.idx (.t 26) (.t 30)),
rqg 32 22 true (.move (.t 1)),
rqg 33 22 true (.bin .eql (.t 31) (.t 32)),
rq 34 (.pick (.t 22) (.t 33) (.c (.bool false))),
rq 4 (.move (.t 34))] []
  .ret))
def r_parts_scan_is : KF where
  np := 2
  res := [.tmp 4]
  code := [k_parts_scan_is_0]
def k_parts_scan_number_1_0 : KC := (.reg [
rq 1 (.move (.c (.bool false)))]
  (.dreg [
rq 2 (.load false 1 (.t 0)),
rq 3 (.nilCheck (.t 2)),
rq 4 (.faddr 2 (.t 3)),
rq 5 (.load false 1 (.t 4)),
rq 6 (.bin .eql (.t 5) (.c (.int .i64 0))),
rq 7 (.move (.t 6)),
rqg 8 7 true (.load false 1 (.t 0)),
rqg 9 7 true (.nilCheck (.t 8)),
rqg 10 7 true (.faddr 1 (.t 9)),
rqg 11 7 true (.load false 1 (.t 10)),
rqg 12 7 true (.load false 1 (.t 0)),
rqg 13 7 true (.nilCheck (.t 12)),
rqg 14 7 true (.faddr 0 (.t 13)),
rqg 15 7 true (.load false 1 (.t 14)),
rqg 16 7 true (.len .str (.t 15)),
rqg 17 7 true (.bin .lss (.t 11) (.t 16)),
rq 18 (.pick (.t 7) (.t 17) (.c (.bool false))),
rq 19 (.move (.t 18)),
rqg 20 19 true (.load false 1 (.t 0)),
rqg 21 19 true (.nilCheck (.t 20)),
rqg 22 19 true (.faddr 0 (.t 21)),
rqg 23 19 true (.load false 1 (.t 22)),
rqg 24 19 true (.load false 1 (.t 0)),
rqg 25 19 true (.nilCheck (.t 24)),
rqg 26 19 true (.faddr 1 (.t 25)),
rqg 27 19 true (.load false 1 (.t 26)),
rqg 28 19 true (.idx (.t 23) (.t 27)),
rqg 29 19 true (.bin .geq (.t 28) (.c (.int .u8 48))),
rq 30 (.pick (.t 19) (.t 29) (.c (.bool false))),
rq 31 (.move (.t 30)),
rqg 32 31 true (.load false 1 (.t 0)),
rqg 33 31 true (.nilCheck (.t 32)),
rqg 34 31 true (.faddr 0 (.t 33)),
rqg 35 31 true (.load false 1 (.t 34)),
rqg 36 31 true (.load false 1 (.t 0)),
rqg 37 31 true (.nilCheck (.t 36)),
rqg 38 31 true (.faddr 1 (.t 37)),
rqg 39 31 true (.load false 1 (.t 38)),
rqg 40 31 true (.idx (.t 35) (.t 39)),
rqg 41 31 true (.bin .leq (.t 40) (.c (.int .u8 57))),
rq 42 (.pick (.t 31) (.t 41) (.c (.bool false))),
rq 1 (.move (.t 42))] []
  .ret))
def r_parts_scan_number_1 : KF where
  np := 1
  res := [.tmp 1]
  code := [k_parts_scan_number_1_0]
def k_parts_scan_number_0 : KC := (.reg [
rq 1 (.box (.t 0)),
rq 2 (.move (.c (.int .i64 0)))]
  (.dreg [
rq 7 (.load false 1 (.t 1)),
rq 8 (.nilCheck (.t 7)),
rq 9 (.faddr 1 (.t 8)),
rq 10 (.load false 1 (.t 9)),
rq 3 (.move (.c (.int .i64 0))),
rq 4 (.move (.t 10))] []
  (.reg [
rq 11 (.mkF (.func F.parts_scan_number_1) [] [(.t 1)]),
rq 5 (.move (.t 11))]
  (.seq (.block 0 (.loop ⟨1, [1, 3, 4, 5], [[1]]⟩))
  ⟨4, [1, 3, 4], [[1]]⟩))))
def k_parts_scan_number_1 : KC := (.seq (.reg [
rq 12 (.move (.t 5)),
rq 13 (.callv .pur (.t 12) [])]
  (.cond (.t 13)
  .skip
  (.exit 0)))
  ⟨2, [1, 3, 4, 5], [[1]]⟩)
def k_parts_scan_number_2 : KC := (.block 1 (.dreg [
rq 14 (.load false 1 (.t 1)),
rq 15 (.nilCheck (.t 14)),
rq 16 (.faddr 0 (.t 15)),
rq 17 (.load false 1 (.t 16)),
rq 18 (.load false 1 (.t 1)),
rq 19 (.nilCheck (.t 18)),
rq 20 (.faddr 1 (.t 19)),
rq 21 (.load false 1 (.t 20)),
rq 22 (.idx (.t 17) (.t 21)),
rq 23 (.bin .sub (.t 22) (.c (.int .u8 48))),
rq 24 (.conv (.int .i64) (.t 23)),
rq 6 (.move (.t 24))] []
  (.seq (.reg [
rq 25 (.load false 1 (.t 1)),
rq 26 (.nilCheck (.t 25)),
rq 27 (.faddr 1 (.t 26)),
rq 28 (.load false 1 (.t 27)),
rq 29 (.move (.t 4)),
rq 30 (.bin .gtr (.t 28) (.t 29)),
rq 31 (.move (.t 30)),
rqg 32 31 true (.move (.t 3)),
rqg 33 31 true (.bin .eql (.t 32) (.c (.int .i64 0))),
rq 34 (.pick (.t 31) (.t 33) (.c (.bool false))),
rq 35 (.move (.t 34)),
rqg 36 35 false (.move (.t 3)),
rqg 37 35 false (.bin .mul (.t 36) (.c (.int .i64 10))),
rqg 38 35 false (.move (.t 6)),
rqg 39 35 false (.bin .add (.t 37) (.t 38)),
rqg 40 35 false (.bin .gtr (.t 39) (.c (.int .i64 16777216))),
rq 41 (.pick (.t 35) (.c (.bool true)) (.t 40))]
  (.cond (.t 41)
  (.reg [
rq 42 (.load false 1 (.t 1)),
rq 43 (.nilCheck (.t 42)),
rq 44 (.faddr 2 (.t 43)),
rz (.store 1 (.t 44) (.c (.int .i64 2)))]
  (.reg [
rq 2 (.move (.c (.int .i64 0)))]
  .ret))
  .skip))
  ⟨3, [1, 3, 4, 5, 6], [[1]]⟩)))
def k_parts_scan_number_3 : KC := (.reg [
rq 45 (.move (.t 3)),
rq 46 (.bin .mul (.t 45) (.c (.int .i64 10))),
rq 47 (.move (.t 6)),
rq 48 (.bin .add (.t 46) (.t 47)),
rq 3 (.move (.t 48))]
  (.lreg [
rq 49 (.load false 1 (.t 1)),
rq 50 (.nilCheck (.t 49)),
rq 51 (.faddr 1 (.t 50)),
rq 52 (.load false 1 (.t 51)),
rq 53 (.bin .add (.t 52) (.c (.int .i64 1))),
rq 54 (.nilCheck (.t 49)),
rq 55 (.faddr 1 (.t 54)),
rz (.store 1 (.t 55) (.t 53))]))
def k_parts_scan_number_4 : KC := (.seq (.reg [
rq 56 (.load false 1 (.t 1)),
rq 57 (.nilCheck (.t 56)),
rq 58 (.faddr 1 (.t 57)),
rq 59 (.load false 1 (.t 58)),
rq 60 (.move (.t 4)),
rq 61 (.bin .eql (.t 59) (.t 60)),
rq 62 (.move (.t 61)),
rqg 63 62 true (.load false 1 (.t 1)),
rqg 64 62 true (.nilCheck (.t 63)),
rqg 65 62 true (.faddr 2 (.t 64)),
rqg 66 62 true (.load false 1 (.t 65)),
rqg 67 62 true (.bin .eql (.t 66) (.c (.int .i64 0))),
rq 68 (.pick (.t 62) (.t 67) (.c (.bool false)))]
  (.cond (.t 68)
  (.reg [
rq 69 (.load false 1 (.t 1)),
rq 70 (.nilCheck (.t 69)),
rq 71 (.faddr 2 (.t 70)),
rz (.store 1 (.t 71) (.c (.int .i64 2)))]
  (.dreg [
rq 72 (.load false 1 (.t 1)),
rq 73 (.nilCheck (.t 72)),
rq 74 (.faddr 1 (.t 73)),
rq 75 (.load false 1 (.t 74)),
rq 76 (.load false 1 (.t 1)),
rq 77 (.nilCheck (.t 76)),
rq 78 (.faddr 0 (.t 77)),
rq 79 (.load false 1 (.t 78)),
rq 80 (.len .str (.t 79)),
rq 81 (.bin .eql (.t 75) (.t 80))] []
  (.cond (.t 81)
  (.lreg [
rq 82 (.load false 1 (.t 1)),
rq 83 (.nilCheck (.t 82)),
rq 84 (.faddr 2 (.t 83)),
rz (.store 1 (.t 84) (.c (.int .i64 1)))])
  .skip)))
  .skip))
  ⟨5, [3], []⟩)
def k_parts_scan_number_5 : KC := (.reg [
rq 85 (.move (.t 3)),
rq 2 (.move (.t 85))]
  .ret)
def r_parts_scan_number : KF where
  np := 1
  res := [.tmp 2]
  code := [k_parts_scan_number_0, k_parts_scan_number_1, k_parts_scan_number_2, k_parts_scan_number_3, k_parts_scan_number_4, k_parts_scan_number_5]
def k_parts_scan_take_0 : KC := (.reg [
rq 4 (.move (.c (.str [])))]
  (.seq (.reg [
rq 6 (.move (.t 0)),
rq 7 (.nilCheck (.t 6)),
rq 8 (.faddr 2 (.t 7)),
rq 9 (.load false 1 (.t 8)),
rq 10 (.bin .neq (.t 9) (.c (.int .i64 0)))]
  (.cond (.t 10)
  (.reg [
rq 4 (.move (.c (.str [])))]
  .ret)
  .skip))
  ⟨1, [0, 1], []⟩))
def k_parts_scan_take_1 : KC := (.seq (.dreg [
rq 11 (.move (.t 0)),
rq 12 (.nilCheck (.t 11)),
rq 13 (.faddr 0 (.t 12)),
rq 14 (.load false 1 (.t 13)),
rq 15 (.len .str (.t 14)),
rq 16 (.move (.t 0)),
rq 17 (.nilCheck (.t 16)),
rq 18 (.faddr 1 (.t 17)),
rq 19 (.load false 1 (.t 18)),
rq 20 (.bin .sub (.t 15) (.t 19)),
rq 21 (.move (.t 1)),
rq 22 (.bin .lss (.t 20) (.t 21))] []
  (.cond (.t 22)
  (.reg [
rq 23 (.move (.t 0)),
rq 24 (.move (.t 0)),
rq 25 (.move (.t 0)),
rq 26 (.nilCheck (.t 25)),
rq 27 (.faddr 0 (.t 26)),
rq 28 (.load false 1 (.t 27)),
rq 29 (.len .str (.t 28)),
rq 30 (.nilCheck (.t 23)),
rq 31 (.faddr 1 (.t 30)),
rz (.store 1 (.t 31) (.t 29)),
rq 32 (.nilCheck (.t 24)),
rq 33 (.faddr 2 (.t 32)),
rz (.store 1 (.t 33) (.c (.int .i64 1)))]
  (.reg [
rq 4 (.move (.c (.str [])))]
  .ret))
  .skip))
  ⟨2, [0, 1], []⟩)
def k_parts_scan_take_2 : KC := (.dreg [
rq 34 (.move (.t 0)),
rq 35 (.nilCheck (.t 34)),
rq 36 (.faddr 0 (.t 35)),
rq 37 (.load false 1 (.t 36)),
rq 38 (.move (.t 0)),
rq 39 (.nilCheck (.t 38)),
rq 40 (.faddr 1 (.t 39)),
rq 41 (.load false 1 (.t 40)),
rq 42 (.move (.t 0)),
rq 43 (.nilCheck (.t 42)),
rq 44 (.faddr 1 (.t 43)),
rq 45 (.load false 1 (.t 44)),
rq 46 (.move (.t 1)),
rq 47 (.bin .add (.t 45) (.t 46)),
rq 48 (.slice 0 (.t 37) (some (.t 41)) (some (.t 47))),
rq 5 (.move (.t 48))] []
  (.reg [
rq 49 (.move (.t 0)),
rq 50 (.nilCheck (.t 49)),
rq 51 (.faddr 1 (.t 50)),
rq 52 (.load false 1 (.t 51)),
rq 53 (.move (.t 1)),
rq 54 (.bin .add (.t 52) (.t 53)),
rq 55 (.nilCheck (.t 49)),
rq 56 (.faddr 1 (.t 55)),
rz (.store 1 (.t 56) (.t 54))]
  (.reg [
rq 57 (.move (.t 5)),
rq 4 (.move (.t 57))]
  .ret)))
def r_parts_scan_take : KF where
  np := 2
  res := [.tmp 4]
  code := [k_parts_scan_take_0, k_parts_scan_take_1, k_parts_scan_take_2]
def k_parts_scan_part_0 : KC := (.reg [
rq 2 (.move (.c (.str []))),
rq 3 (.move (.c (.bool false)))]
  (.reg [
rq 6 (.move (.t 0)),
rq 7 (.call .eff F.parts_scan_text [(.t 6), (.c (.str [45, 45, 99, 117, 116]))])]
  (.seq (.reg [
rq 8 (.move (.t 0)),
rq 9 (.call .pur F.parts_scan_is [(.t 8), (.c (.int .u8 45))])]
  (.cond (.t 9)
  (.reg [
rq 10 (.move (.t 0)),
rq 11 (.call .eff F.parts_scan_text [(.t 10), (.c (.str [45, 45, 13, 10]))])]
  (.reg [
rq 2 (.move (.c (.str []))),
rq 3 (.move (.c (.bool false)))]
  .ret))
  .skip))
  ⟨1, [0], []⟩)))
def k_parts_scan_part_1 : KC := (.reg [
rq 12 (.move (.t 0)),
rq 13 (.call .eff F.parts_scan_text [(.t 12), (.c (.str [13, 10, 67, 111, 110, 116, 101, 110, 116, 45, 84, 121, 112, 101, 58, 32, 97, 112, 112, 108, 105, 99, 97, 116, 105, 111, 110, 47, 106, 115, 111, 110, 13, 10, 67, 111, 110, 116, 101, 110, 116, 45, 76, 101, 110, 103, 116, 104, 58, 32]))])]
  (.reg [
rq 14 (.move (.t 0)),
rq 15 (.call .eff F.parts_scan_number [(.t 14)]),
rq 4 (.move (.t 15))]
  (.reg [
rq 16 (.move (.t 0)),
rq 17 (.call .eff F.parts_scan_text [(.t 16), (.c (.str [13, 10, 13, 10]))])]
  (.reg [
rq 18 (.move (.t 0)),
rq 19 (.move (.t 4)),
rq 20 (.call .eff F.parts_scan_take [(.t 18), (.t 19)]),
rq 5 (.move (.t 20))]
  (.reg [
rq 21 (.move (.t 0)),
rq 22 (.call .eff F.parts_scan_text [(.t 21), (.c (.str [13, 10]))])]
  (.reg [
rq 23 (.move (.t 5)),
rq 2 (.move (.t 23)),
rq 3 (.move (.c (.bool true)))]
  .ret))))))
def r_parts_scan_part : KF where
  np := 1
  res := [.tmp 2, .tmp 3]
  code := [k_parts_scan_part_0, k_parts_scan_part_1]
def k_parts_Reader_Next_0 : KC := (.reg [
rq 2 (.move (.c (.str []))),
rq 3 (.move (.c (.bool false)))]
  (.seq (.block 0 (.reg [
rq 8 (.move (.t 0)),
rq 9 (.nilCheck (.t 8)),
rq 10 (.faddr 3 (.t 9)),
rq 11 (.load false 1 (.t 10)),
rq 12 (.bin .gtr (.t 11) (.c (.int .i64 0))),
rq 13 (.move (.t 12)),
rqg 14 13 false (.move (.t 0)),
rqg 15 13 false (.nilCheck (.t 14)),
rqg 16 13 false (.faddr 0 (.t 15)),
rqg 17 13 false (.load false 1 (.t 16)),
rqg 18 13 false (.bin .eql (.t 17) (.c (.str []))),
rq 19 (.pick (.t 13) (.c (.bool true)) (.t 18)),
rq 7 (.move (.t 19))]
  (.cond (.t 7)
  (.reg [
rq 2 (.move (.c (.str []))),
rq 3 (.move (.c (.bool false)))]
  .ret)
  (.reg [
rq 21 (.move (.t 0)),
rq 22 (.nilCheck (.t 21)),
rq 23 (.faddr 2 (.t 22)),
rq 24 (.load false 1 (.t 23)),
rq 20 (.move (.t 24))]
  (.cond (.t 20)
  (.reg [
rq 25 (.move (.t 0)),
rq 26 (.move (.t 0)),
rq 27 (.nilCheck (.t 26)),
rq 28 (.faddr 1 (.t 27)),
rq 29 (.load false 1 (.t 28)),
rq 30 (.bin .add (.t 29) (.c (.int .i64 1))),
rq 31 (.nilCheck (.t 25)),
rq 32 (.faddr 3 (.t 31)),
rz (.store 1 (.t 32) (.t 30))]
  (.reg [
rq 2 (.move (.c (.str []))),
rq 3 (.move (.c (.bool false)))]
  .ret))
  .skip)))))
  ⟨1, [0], []⟩))
def k_parts_Reader_Next_1 : KC := (.reg [
rq 33 (.move (.t 0)),
rq 34 (.nilCheck (.t 33)),
rq 35 (.faddr 0 (.t 34)),
rq 36 (.load false 1 (.t 35)),
rq 37 (.build [(.str []), (.int .i64 0), (.int .i64 0)] [(0, 1, (.t 36))]),
rq 38 (.box (.t 37)),
rq 4 (.move (.t 38))]
  (.reg [
rq 40 (.move (.t 4)),
rq 41 (.call .eff F.parts_scan_part [(.t 40)]),
rq 39 (.move (.t 41)),
rq 42 (.extract (.t 39) 0),
rq 43 (.extract (.t 39) 1),
rq 5 (.move (.t 42)),
rq 6 (.move (.t 43))]
  (.seq (.reg [
rq 44 (.move (.t 4)),
rq 45 (.nilCheck (.t 44)),
rq 46 (.faddr 2 (.t 45)),
rq 47 (.load false 1 (.t 46))]
  (.block 1 (.reg [
rq 49 (.bin .eql (.t 47) (.c (.int .i64 2))),
rq 48 (.move (.t 49))]
  (.cond (.t 48)
  (.dreg [
rq 50 (.move (.t 0)),
rq 51 (.move (.t 0)),
rq 52 (.nilCheck (.t 51)),
rq 53 (.faddr 1 (.t 52)),
rq 54 (.load false 1 (.t 53)),
rq 55 (.move (.t 4)),
rq 56 (.nilCheck (.t 55)),
rq 57 (.faddr 1 (.t 56)),
rq 58 (.load false 1 (.t 57)),
rq 59 (.bin .add (.t 54) (.t 58)),
rq 60 (.bin .add (.t 59) (.c (.int .i64 1))),
rq 61 (.nilCheck (.t 50)),
rq 62 (.faddr 3 (.t 61))] [
rz (.store 1 (.t 62) (.t 60))]
  (.reg [
rq 2 (.move (.c (.str []))),
rq 3 (.move (.c (.bool false)))]
  .ret))
  (.reg [
rq 64 (.bin .eql (.t 47) (.c (.int .i64 1))),
rq 63 (.move (.t 64))]
  (.cond (.t 63)
  (.reg [
rq 2 (.move (.c (.str []))),
rq 3 (.move (.c (.bool false)))]
  .ret)
  .skip))))))
  ⟨2, [0, 4, 5, 6], [[38]]⟩)))
def k_parts_Reader_Next_2 : KC := (.dreg [
rq 65 (.move (.t 0)),
rq 66 (.move (.t 0)),
rq 67 (.move (.t 0)),
rq 68 (.nilCheck (.t 67)),
rq 69 (.faddr 0 (.t 68)),
rq 70 (.load false 1 (.t 69)),
rq 71 (.move (.t 4)),
rq 72 (.nilCheck (.t 71)),
rq 73 (.faddr 1 (.t 72)),
rq 74 (.load false 1 (.t 73)),
rq 75 (.slice 0 (.t 70) (some (.t 74)) none),
rq 76 (.move (.t 0)),
rq 77 (.nilCheck (.t 76)),
rq 78 (.faddr 1 (.t 77)),
rq 79 (.load false 1 (.t 78)),
rq 80 (.move (.t 4)),
rq 81 (.nilCheck (.t 80)),
rq 82 (.faddr 1 (.t 81)),
rq 83 (.load false 1 (.t 82)),
rq 84 (.bin .add (.t 79) (.t 83)),
rq 85 (.nilCheck (.t 65)),
rq 86 (.faddr 0 (.t 85))] [
rz (.store 1 (.t 86) (.t 75)),
rq 87 (.nilCheck (.t 66)),
rq 88 (.faddr 1 (.t 87)),
rz (.store 1 (.t 88) (.t 84))]
  (.seq (.reg [
rq 89 (.move (.t 6)),
rq 90 (.un .not (.t 89))]
  (.cond (.t 90)
  (.reg [
rq 91 (.move (.t 0)),
rq 92 (.nilCheck (.t 91)),
rq 93 (.faddr 2 (.t 92)),
rz (.store 1 (.t 93) (.c (.bool true)))]
  (.reg [
rq 94 (.move (.t 0)),
rq 95 (.call .eff F.parts_Reader_Next [(.t 94)]),
rq 96 (.extract (.t 95) 0),
rq 97 (.extract (.t 95) 1),
rq 2 (.move (.t 96)),
rq 3 (.move (.t 97))]
  .ret))
  .skip))
  ⟨3, [5], []⟩))
def k_parts_Reader_Next_3 : KC := (.reg [
rq 98 (.move (.t 5)),
rq 2 (.move (.t 98)),
rq 3 (.move (.c (.bool true)))]
  .ret)
def r_parts_Reader_Next : KF where
  np := 1
  res := [.tmp 2, .tmp 3]
  code := [k_parts_Reader_Next_0, k_parts_Reader_Next_1, k_parts_Reader_Next_2, k_parts_Reader_Next_3]
def k_cascadelaw28_drain_0 : KC := (.reg [
rq 4 (.move (.c (.sl [])))]
  (.seq (.reg [
rq 5 (.move (.c (.int .i64 0)))]
  (.block 0 (.loop ⟨1, [0, 1, 5], [[23]]⟩)))
  ⟨5, [1], [[23]]⟩))
def k_cascadelaw28_drain_1 : KC := (.seq (.reg [
rq 8 (.move (.t 5)),
rq 9 (.bin .lss (.t 8) (.c (.int .i64 500)))]
  (.cond (.t 9)
  .skip
  (.exit 0)))
  ⟨2, [0, 1, 5], [[23]]⟩)
def k_cascadelaw28_drain_2 : KC := (.seq (.block 1 (.reg [
rq 13 (.move (.t 0)),
rq 14 (.call .eff F.parts_Reader_Next [(.t 13)]),
rq 12 (.move (.t 14)),
rq 15 (.extract (.t 12) 0),
rq 16 (.extract (.t 12) 1),
rq 6 (.move (.t 15)),
rq 7 (.move (.t 16))]
  (.seq (.reg [
rq 17 (.move (.t 7)),
rq 18 (.un .not (.t 17))]
  (.cond (.t 18)
  (.reg [
rq 19 (.move (.t 1)),
rq 4 (.move (.t 19))]
  .ret)
  .skip))
  ⟨3, [0, 1, 5, 6], [[23]]⟩)))
  ⟨4, [0, 1, 5], [[23]]⟩)
def k_cascadelaw28_drain_3 : KC := (.lreg [
rq 20 (.move (.t 1)),
rq 21 (.move (.t 6)),
rq 22 (.ilit 1 [(.t 21)]),
rq 23 (.app 1 16 (.t 20) (.t 22)),
rq 1 (.move (.t 23))])
def k_cascadelaw28_drain_4 : KC := (.lreg [
rq 10 (.move (.t 5)),
rq 11 (.bin .add (.t 10) (.c (.int .i64 1))),
rq 5 (.move (.t 11))])
def k_cascadelaw28_drain_5 : KC := (.reg [
rq 24 (.move (.t 1)),
rq 4 (.move (.t 24))]
  .ret)
def r_cascadelaw28_drain : KF where
  np := 2
  res := [.tmps 4]
  code := [k_cascadelaw28_drain_0, k_cascadelaw28_drain_1, k_cascadelaw28_drain_2, k_cascadelaw28_drain_3, k_cascadelaw28_drain_4, k_cascadelaw28_drain_5]
def k_cascaderef28_Whole_0 : KC := (.reg [
rq 2 (.move (.c (.str [])))]
  (.reg [
rq 3 (.move (.c (.str [])))]
  (.seq (.reg [
rq 4 (.move (.c (.int .i64 0)))]
  (.block 0 (.loop ⟨1, [0, 3, 4], []⟩)))
  ⟨4, [3], []⟩)))
def k_cascaderef28_Whole_1 : KC := (.seq (.reg [
rq 5 (.move (.t 4)),
rq 6 (.move (.t 0)),
rq 7 (.len .sl (.t 6)),
rq 8 (.bin .lss (.t 5) (.t 7))]
  (.cond (.t 8)
  .skip
  (.exit 0)))
  ⟨2, [0, 3, 4], []⟩)
def k_cascaderef28_Whole_2 : KC := (.seq (.block 1 (.lreg [
rq 11 (.move (.t 3)),
rq 12 (.move (.t 0)),
rq 13 (.move (.t 4)),
rq 14 (.iaddr 1 (.t 12) (.t 13)),
rq 15 (.load false 1 (.t 14)),
rq 16 (.call .pur F.cascaderef28_Part [(.t 15)]),
rq 17 (.bin .add (.t 11) (.t 16)),
rq 3 (.move (.t 17))]))
  ⟨3, [0, 3, 4], []⟩)
def k_cascaderef28_Whole_3 : KC := (.lreg [
rq 9 (.move (.t 4)),
rq 10 (.bin .add (.t 9) (.c (.int .i64 1))),
rq 4 (.move (.t 10))])
def k_cascaderef28_Whole_4 : KC := (.reg [
rq 18 (.move (.t 3)),
rq 19 (.bin .add (.t 18) (.c (.str [45, 45, 99, 117, 116, 45, 45, 13, 10]))),
rq 2 (.move (.t 19))]
  .ret)
def r_cascaderef28_Whole : KF where
  np := 1
  res := [.tmp 2]
  code := [k_cascaderef28_Whole_0, k_cascaderef28_Whole_1, k_cascaderef28_Whole_2, k_cascaderef28_Whole_3, k_cascaderef28_Whole_4]
def k_cascaderef12_SameNames_0 : KC := (.reg [
rq 4 (.move (.c (.bool false)))]
  (.seq (.reg [
rq 6 (.move (.t 0)),
rq 7 (.len .sl (.t 6)),
rq 8 (.move (.t 1)),
rq 9 (.len .sl (.t 8)),
rq 10 (.bin .neq (.t 7) (.t 9))]
  (.cond (.t 10)
  (.reg [
rq 4 (.move (.c (.bool false)))]
  .ret)
  .skip))
  ⟨1, [0, 1], []⟩))
def k_cascaderef12_SameNames_1 : KC := (.seq (.reg [
rq 5 (.move (.c (.int .i64 0)))]
  (.block 0 (.loop ⟨2, [0, 1, 5], []⟩)))
  ⟨5, [], []⟩)
def k_cascaderef12_SameNames_2 : KC := (.seq (.reg [
rq 11 (.move (.t 5)),
rq 12 (.move (.t 0)),
rq 13 (.len .sl (.t 12)),
rq 14 (.bin .lss (.t 11) (.t 13))]
  (.cond (.t 14)
  .skip
  (.exit 0)))
  ⟨3, [0, 1, 5], []⟩)
def k_cascaderef12_SameNames_3 : KC := (.seq (.block 1 (.dreg [
rq 17 (.move (.t 0)),
rq 18 (.move (.t 5)),
rq 19 (.iaddr 1 (.t 17) (.t 18)),
rq 20 (.load false 1 (.t 19)),
rq 21 (.move (.t 1)),
rq 22 (.move (.t 5)),
rq 23 (.iaddr 1 (.t 21) (.t 22)),
rq 24 (.load false 1 (.t 23)),
rq 25 (.bin .neq (.t 20) (.t 24))] []
  (.cond (.t 25)
  (.reg [
rq 4 (.move (.c (.bool false)))]
  .ret)
  .skip)))
  ⟨4, [0, 1, 5], []⟩)
def k_cascaderef12_SameNames_4 : KC := (.lreg [
rq 15 (.move (.t 5)),
rq 16 (.bin .add (.t 15) (.c (.int .i64 1))),
rq 5 (.move (.t 16))])
def k_cascaderef12_SameNames_5 : KC := (.reg [
rq 4 (.move (.c (.bool true)))]
  .ret)
def r_cascaderef12_SameNames : KF where
  np := 2
  res := [.tmp 4]
  code := [k_cascaderef12_SameNames_0, k_cascaderef12_SameNames_1, k_cascaderef12_SameNames_2, k_cascaderef12_SameNames_3, k_cascaderef12_SameNames_4, k_cascaderef12_SameNames_5]
def k_parts_Reader_Over_0 : KC := (.reg [
rq 2 (.move (.c (.bool false)))]
  (.reg [
rq 3 (.move (.t 0)),
rq 4 (.nilCheck (.t 3)),
rq 5 (.faddr 2 (.t 4)),
rq 6 (.load false 1 (.t 5)),
rq 2 (.move (.t 6))]
  .ret))
def r_parts_Reader_Over : KF where
  np := 1
  res := [.tmp 2]
  code := [k_parts_Reader_Over_0]
def k_parts_Reader_Bad_0 : KC := (.reg [
rq 2 (.move (.c (.int .i64 0)))]
  (.reg [
rq 3 (.move (.t 0)),
rq 4 (.nilCheck (.t 3)),
rq 5 (.faddr 3 (.t 4)),
rq 6 (.load false 1 (.t 5)),
rq 7 (.bin .sub (.t 6) (.c (.int .i64 1))),
rq 2 (.move (.t 7))]
  .ret))
def r_parts_Reader_Bad : KF where
  np := 1
  res := [.tmp 2]
  code := [k_parts_Reader_Bad_0]
def k_cascadelaw28_PartsWhole_0 : KC := (.reg [
rq 2 (.move (.c (.bool false)))]
  (.seq (.reg [
rq 10 (.call .pur F.cascadelaw28_awake []),
rq 11 (.un .not (.t 10)),
rq 12 (.move (.t 11)),
rqg 13 12 false (.move (.t 0)),
rqg 14 12 false (.call .pur F.cascadelaw28_few [(.t 13), (.c (.int .i64 20)), (.c (.int .i64 300))]),
rqg 15 12 false (.un .not (.t 14)),
rq 16 (.pick (.t 12) (.c (.bool true)) (.t 15))]
  (.cond (.t 16)
  (.reg [
rq 17 (.call .pur F.cascadelaw28_awake []),
rq 2 (.move (.t 17))]
  .ret)
  .skip))
  ⟨1, [0], []⟩))
def k_cascadelaw28_PartsWhole_1 : KC := (.seq (.reg [
rq 3 (.move (.c (.int .i64 0)))]
  (.block 0 (.loop ⟨2, [0, 3], []⟩)))
  ⟨5, [0], []⟩)
def k_cascadelaw28_PartsWhole_2 : KC := (.seq (.reg [
rq 18 (.move (.t 3)),
rq 19 (.move (.t 0)),
rq 20 (.len .sl (.t 19)),
rq 21 (.bin .lss (.t 18) (.t 20))]
  (.cond (.t 21)
  .skip
  (.exit 0)))
  ⟨3, [0, 3], []⟩)
def k_cascadelaw28_PartsWhole_3 : KC := (.seq (.block 1 (.reg [
rq 25 (.move (.t 0)),
rq 26 (.move (.t 3)),
rq 27 (.iaddr 1 (.t 25) (.t 26)),
rq 28 (.load false 1 (.t 27)),
rq 29 (.call .pur F.parts_Part [(.t 28)]),
rq 24 (.move (.t 29)),
rq 30 (.extract (.t 24) 0),
rq 31 (.extract (.t 24) 1),
rq 4 (.move (.t 30)),
rq 5 (.move (.t 31))]
  (.reg [
rq 32 (.move (.t 5)),
rq 33 (.bin .neq (.t 32) (.c (.int .i64 0))),
rq 34 (.move (.t 33)),
rqg 35 34 false (.move (.t 4)),
rqg 36 34 false (.move (.t 0)),
rqg 37 34 false (.move (.t 3)),
rqg 38 34 false (.iaddr 1 (.t 36) (.t 37)),
rqg 39 34 false (.load false 1 (.t 38)),
rqg 40 34 false (.call .pur F.cascaderef28_Part [(.t 39)]),
rqg 41 34 false (.bin .neq (.t 35) (.t 40)),
rq 42 (.pick (.t 34) (.c (.bool true)) (.t 41))]
  (.cond (.t 42)
  (.reg [
rq 2 (.move (.c (.bool false)))]
  .ret)
  .skip))))
  ⟨4, [0, 3], []⟩)
def k_cascadelaw28_PartsWhole_4 : KC := (.lreg [
rq 22 (.move (.t 3)),
rq 23 (.bin .add (.t 22) (.c (.int .i64 1))),
rq 3 (.move (.t 23))])
def k_cascadelaw28_PartsWhole_5 : KC := (.reg [
rq 44 (.move (.t 0)),
rq 45 (.call .pur F.parts_Whole [(.t 44)]),
rq 43 (.move (.t 45)),
rq 46 (.extract (.t 43) 0),
rq 47 (.extract (.t 43) 1),
rq 6 (.move (.t 46)),
rq 7 (.move (.t 47))]
  (.reg [
rq 48 (.call (.own [[2]]) F.parts_New []),
rq 8 (.move (.t 48))]
  (.reg [
rq 49 (.move (.t 8)),
rq 50 (.move (.t 6)),
rq 51 (.call .eff F.parts_Reader_Feed [(.t 49), (.t 50)])]
  (.reg [
rq 52 (.move (.t 8)),
rq 53 (.call .eff F.cascadelaw28_drain [(.t 52), (.c .nils)]),
rq 9 (.move (.t 53))]
  (.reg [
rq 54 (.move (.t 7)),
rq 55 (.bin .eql (.t 54) (.c (.int .i64 0))),
rq 56 (.move (.t 55)),
rqg 57 56 true (.move (.t 6)),
rqg 58 56 true (.move (.t 0)),
rqg 59 56 true (.call .pur F.cascaderef28_Whole [(.t 58)]),
rqg 60 56 true (.bin .eql (.t 57) (.t 59)),
rq 61 (.pick (.t 56) (.t 60) (.c (.bool false))),
rq 62 (.move (.t 61)),
rqg 63 62 true (.move (.t 9)),
rqg 64 62 true (.move (.t 0)),
rqg 65 62 true (.call .pur F.cascaderef12_SameNames [(.t 63), (.t 64)]),
rq 66 (.pick (.t 62) (.t 65) (.c (.bool false))),
rq 67 (.move (.t 66)),
rqg 68 67 true (.move (.t 8)),
rqg 69 67 true (.call .pur F.parts_Reader_Over [(.t 68)]),
rq 70 (.pick (.t 67) (.t 69) (.c (.bool false))),
rq 71 (.move (.t 70)),
rqg 72 71 true (.move (.t 8)),
rqg 73 71 true (.call .pur F.parts_Reader_Bad [(.t 72)]),
rqg 74 71 true (.bin .eql (.t 73) (.c (.int .i64 (-1)))),
rq 75 (.pick (.t 71) (.t 74) (.c (.bool false))),
rq 2 (.move (.t 75))]
  .ret)))))
def r_cascadelaw28_PartsWhole : KF where
  np := 1
  res := [.tmp 2]
  code := [k_cascadelaw28_PartsWhole_0, k_cascadelaw28_PartsWhole_1, k_cascadelaw28_PartsWhole_2, k_cascadelaw28_PartsWhole_3, k_cascadelaw28_PartsWhole_4, k_cascadelaw28_PartsWhole_5]
def table : FuncId → Option KF
  | 3 => some r_cascadelaw28_PartsTwo
  | 4 => some r_cascadelaw28_PartsWhole
  | 5 => some r_cascadelaw28_awake
  | 6 => some r_cascadelaw28_few
  | 7 => some r_parts_Whole
  | 8 => some r_parts_End
  | 9 => some r_parts_Part
  | 10 => some r_cascaderef28_Part
  | 11 => some r_parts_New
  | 12 => some r_parts_Reader_Feed
  | 13 => some r_cascadelaw28_drain
  | 14 => some r_cascaderef28_Whole
  | 15 => some r_cascaderef12_SameNames
  | 16 => some r_parts_Reader_Over
  | 17 => some r_parts_Reader_Bad
  | 18 => some { code := [], res := [], np := 2, ext := some (.eff (effStr 42 5)) }
  | 19 => some { code := [], res := [], np := 1, ext := some (.eff (effText 42 5)) }
  | 20 => some { code := [], res := [], np := 1, ext := some (.pure ext_strconv_Itoa) }
  | 21 => some r_cascaderef05_Number
  | 22 => some r_parts_Reader_Next
  | 25 => some r_parts_scan_part
  | 28 => some r_parts_scan_text
  | 29 => some r_parts_scan_is
  | 30 => some r_parts_scan_number
  | 31 => some r_parts_scan_take
  | 36 => some r_parts_scan_number_1
  | _ => none
end Go.Abs.B
