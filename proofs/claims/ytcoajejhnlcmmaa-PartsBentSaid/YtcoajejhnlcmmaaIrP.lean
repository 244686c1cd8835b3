import Derived.Test.YtcoajejhnlcmmaaAbsB
namespace Go.Abs.P
namespace F
abbrev main_main : FuncId := 0
abbrev gosem_cut : FuncId := 1
abbrev gosem_cut_init : FuncId := 2
abbrev cascadelaw17_UsageWithin : FuncId := 3
abbrev cascadelaw17_UsageThird : FuncId := 4
abbrev cascadelaw28_PartsLong : FuncId := 5
abbrev cascadelaw28_PartsBent : FuncId := 6
abbrev cascadelaw17_awake : FuncId := 7
abbrev cascadelaw17_right : FuncId := 8
abbrev usage_Within : FuncId := 9
abbrev cascaderef17_Within : FuncId := 10
abbrev cascaderef09_RightType : FuncId := 11
abbrev cascadelaw28_awake : FuncId := 12
abbrev parts_New : FuncId := 13
abbrev parts_Reader_Feed : FuncId := 14
abbrev parts_Reader_Next : FuncId := 15
abbrev parts_Reader_Bad : FuncId := 16
abbrev cascadelaw28_few : FuncId := 17
abbrev cascaderef28_Whole : FuncId := 18
abbrev cascaderef28_Part : FuncId := 19
abbrev cascadelaw28_drain : FuncId := 20
abbrev cascaderef12_SameNames : FuncId := 21
abbrev parts_Reader_Over : FuncId := 22
abbrev usage_strict : FuncId := 23
abbrev usage_inner : FuncId := 24
abbrev usage_list : FuncId := 25
abbrev cascaderef17_last : FuncId := 26
abbrev cascaderef17_less : FuncId := 27
abbrev cascaderef01_Name : FuncId := 28
abbrev parts_End : FuncId := 29
abbrev parts_scan_part : FuncId := 30
abbrev cascaderef05_Number : FuncId := 31
abbrev strings_HasSuffix : FuncId := 32
abbrev cascaderef01_Letter : FuncId := 33
abbrev cascaderef01_Digit : FuncId := 34
abbrev parts_scan_text : FuncId := 35
abbrev parts_scan_is : FuncId := 36
abbrev parts_scan_number : FuncId := 37
abbrev parts_scan_take : FuncId := 38
abbrev internal_stringslite_HasSuffix : FuncId := 39
abbrev parts_scan_number_1 : FuncId := 40
abbrev runtime_boundsError_Error : FuncId := 41
abbrev runtime_boundsError_RuntimeError : FuncId := 42
abbrev runtime_errorString_Error : FuncId := 43
abbrev runtime_errorString_RuntimeError : FuncId := 44
abbrev runtime_plainError_Error : FuncId := 45
abbrev runtime_plainError_RuntimeError : FuncId := 46
abbrev runtime_errorAddressString_Error : FuncId := 47
abbrev runtime_errorAddressString_RuntimeError : FuncId := 48
abbrev runtime_TypeAssertionError_Error : FuncId := 49
abbrev runtime_TypeAssertionError_RuntimeError : FuncId := 50
abbrev runtime_PanicNilError_Error : FuncId := 51
abbrev runtime_PanicNilError_RuntimeError : FuncId := 52
abbrev internal_abi_Type_Align : FuncId := 53
abbrev internal_runtime_maps_unhashableTypeError_Error : FuncId := 54
abbrev internal_runtime_maps_unhashableTypeError_RuntimeError : FuncId := 55
abbrev internal_abi_Kind_String : FuncId := 56
end F
def k_parts_End_0 : KC := (.reg [
    { dst := some 0, r := .move (.c (.str [])) }]
  (.reg [
    { dst := some 0, r := .move (.c (.str [45, 45, 99, 117, 116, 45, 45, 13, 10])) }]
  .ret))
def r_parts_End : KF where
  np := 0
  res := [.tmp 0]
  code := [k_parts_End_0]
def k_parts_New_0 : KC := (.reg [
    { dst := some 0, r := .move (.c .nilp) }]
  (.reg [
    { dst := some 1, r := .build [(.str []), (.int .i64 0), (.bool false), (.int .i64 0)] [] },
    { dst := some 2, r := .box (.t 1) },
    { dst := some 0, r := .move (.t 2) }]
  .ret))
def r_parts_New : KF where
  np := 0
  res := [.tmp 0]
  code := [k_parts_New_0]
def k_cascadelaw28_awake_0 : KC := (.reg [
    { dst := some 0, r := .move (.c (.bool false)) }]
  (.reg [
    { dst := some 1, r := .call .pur F.parts_End [] },
    { dst := some 2, r := .bin .eql (.t 1) (.c (.str [45, 45, 99, 117, 116, 45, 45, 13, 10])) },
    { dst := some 3, r := .move (.t 2) },
    { dst := some 4, g := some (3, true), r := .call (.own [[2]]) F.parts_New [] },
    { dst := some 5, g := some (3, true), r := .eq true .ptr (.t 4) (.c .nilp) },
    { dst := some 6, r := .pick (.t 3) (.t 5) (.c (.bool false)) },
    { dst := some 0, r := .move (.t 6) }]
  .ret))
def r_cascadelaw28_awake : KF where
  np := 0
  res := [.tmp 0]
  code := [k_cascadelaw28_awake_0]
def k_parts_Reader_Feed_0 : KC := (.lreg [
    { dst := some 4, r := .move (.t 0) },
    { dst := some 5, r := .nilCheck (.t 4) },
    { dst := some 6, r := .faddr 0 (.t 5) },
    { dst := some 7, r := .load false 1 (.t 6) },
    { dst := some 8, r := .move (.t 1) },
    { dst := some 9, r := .bin .add (.t 7) (.t 8) },
    { dst := some 10, r := .nilCheck (.t 4) },
    { dst := some 11, r := .faddr 0 (.t 10) },
    { dst := none, r := .store 1 (.t 11) (.t 9) }])
def r_parts_Reader_Feed : KF where
  np := 2
  res := []
  code := [k_parts_Reader_Feed_0]
def k_parts_scan_text_0 : KC := (.reg [
    { dst := some 4, r := .move (.c (.int .i64 0)) }]
  (.block 0 (.loop ⟨1, [0, 1, 4], []⟩)))
def k_parts_scan_text_1 : KC := (.seq (.reg [
    { dst := some 5, r := .move (.t 4) },
    { dst := some 6, r := .move (.t 1) },
    { dst := some 7, r := .len .str (.t 6) },
    { dst := some 8, r := .bin .lss (.t 5) (.t 7) },
    { dst := some 9, r := .move (.t 8) },
    { dst := some 10, g := some (9, true), r := .move (.t 0) },
    { dst := some 11, g := some (9, true), r := .nilCheck (.t 10) },
    { dst := some 12, g := some (9, true), r := .faddr 2 (.t 11) },
    { dst := some 13, g := some (9, true), r := .load false 1 (.t 12) },
    { dst := some 14, g := some (9, true), r := .bin .eql (.t 13) (.c (.int .i64 0)) },
    { dst := some 15, r := .pick (.t 9) (.t 14) (.c (.bool false)) }]
  (.cond (.t 15)
  .skip
  (.exit 0)))
  ⟨2, [0, 1, 4], []⟩)
def k_parts_scan_text_2 : KC := (.seq (.block 1 (.block 2 (.dreg [
    { dst := some 26, r := .move (.t 0) },
    { dst := some 27, r := .nilCheck (.t 26) },
    { dst := some 28, r := .faddr 1 (.t 27) },
    { dst := some 29, r := .load false 1 (.t 28) },
    { dst := some 30, r := .move (.t 0) },
    { dst := some 31, r := .nilCheck (.t 30) },
    { dst := some 32, r := .faddr 0 (.t 31) },
    { dst := some 33, r := .load false 1 (.t 32) },
    { dst := some 34, r := .len .str (.t 33) },
    { dst := some 35, r := .bin .eql (.t 29) (.t 34) },
    { dst := some 25, r := .move (.t 35) }] []
  (.cond (.t 25)
  (.lreg [
    { dst := some 36, r := .move (.t 0) },
    { dst := some 37, r := .nilCheck (.t 36) },
    { dst := some 38, r := .faddr 2 (.t 37) },
    { dst := none, r := .store 1 (.t 38) (.c (.int .i64 1)) }])
  (.dreg [
    { dst := some 40, r := .move (.t 0) },
    { dst := some 41, r := .nilCheck (.t 40) },
    { dst := some 42, r := .faddr 0 (.t 41) },
    { dst := some 43, r := .load false 1 (.t 42) },
    { dst := some 44, r := .move (.t 0) },
    { dst := some 45, r := .nilCheck (.t 44) },
    { dst := some 46, r := .faddr 1 (.t 45) },
    { dst := some 47, r := .load false 1 (.t 46) },
    { dst := some 48, r := .idx (.t 43) (.t 47) },
    { dst := some 49, r := .move (.t 1) },
    { dst := some 50, r := .move (.t 4) },
    { dst := some 51, r := .idx (.t 49) (.t 50) },
    { dst := some 52, r := .bin .neq (.t 48) (.t 51) },
    { dst := some 39, r := .move (.t 52) }] []
  (.cond (.t 39)
  (.lreg [
    { dst := some 53, r := .move (.t 0) },
    { dst := some 54, r := .nilCheck (.t 53) },
    { dst := some 55, r := .faddr 2 (.t 54) },
    { dst := none, r := .store 1 (.t 55) (.c (.int .i64 2)) }])
  (.lreg [
    { dst := some 18, r := .move (.t 0) },
    { dst := some 19, r := .nilCheck (.t 18) },
    { dst := some 20, r := .faddr 1 (.t 19) },
    { dst := some 21, r := .load false 1 (.t 20) },
    { dst := some 22, r := .bin .add (.t 21) (.c (.int .i64 1)) },
    { dst := some 23, r := .nilCheck (.t 18) },
    { dst := some 24, r := .faddr 1 (.t 23) },
    { dst := none, r := .store 1 (.t 24) (.t 22) }])))))))
  ⟨3, [0, 1, 4], []⟩)
def k_parts_scan_text_3 : KC := (.lreg [
    { dst := some 16, r := .move (.t 4) },
    { dst := some 17, r := .bin .add (.t 16) (.c (.int .i64 1)) },
    { dst := some 4, r := .move (.t 17) }])
def r_parts_scan_text : KF where
  np := 2
  res := []
  code := [k_parts_scan_text_0, k_parts_scan_text_1, k_parts_scan_text_2, k_parts_scan_text_3]
def k_parts_scan_is_0 : KC := (.reg [
    { dst := some 4, r := .move (.c (.bool false)) }]
  (.dreg [
    { dst := some 5, r := .move (.t 0) },
    { dst := some 6, r := .nilCheck (.t 5) },
    { dst := some 7, r := .faddr 2 (.t 6) },
    { dst := some 8, r := .load false 1 (.t 7) },
    { dst := some 9, r := .bin .eql (.t 8) (.c (.int .i64 0)) },
    { dst := some 10, r := .move (.t 9) },
    { dst := some 11, g := some (10, true), r := .move (.t 0) },
    { dst := some 12, g := some (10, true), r := .nilCheck (.t 11) },
    { dst := some 13, g := some (10, true), r := .faddr 1 (.t 12) },
    { dst := some 14, g := some (10, true), r := .load false 1 (.t 13) },
    { dst := some 15, g := some (10, true), r := .move (.t 0) },
    { dst := some 16, g := some (10, true), r := .nilCheck (.t 15) },
    { dst := some 17, g := some (10, true), r := .faddr 0 (.t 16) },
    { dst := some 18, g := some (10, true), r := .load false 1 (.t 17) },
    { dst := some 19, g := some (10, true), r := .len .str (.t 18) },
    { dst := some 20, g := some (10, true), r := .bin .lss (.t 14) (.t 19) },
    { dst := some 21, r := .pick (.t 10) (.t 20) (.c (.bool false)) },
    { dst := some 22, r := .move (.t 21) },
    { dst := some 23, g := some (22, true), r := .move (.t 0) },
    { dst := some 24, g := some (22, true), r := .nilCheck (.t 23) },
    { dst := some 25, g := some (22, true), r := .faddr 0 (.t 24) },
    { dst := some 26, g := some (22, true), r := .load false 1 (.t 25) },
    { dst := some 27, g := some (22, true), r := .move (.t 0) },
    { dst := some 28, g := some (22, true), r := .nilCheck (.t 27) },
    { dst := some 29, g := some (22, true), r := .faddr 1 (.t 28) },
    { dst := some 30, g := some (22, true), r := .load false 1 (.t 29) },
    { dst := some 31, g := some (22, true), r := .idx (.t 26) (.t 30) },
    { dst := some 32, g := some (22, true), r := .move (.t 1) },
    { dst := some 33, g := some (22, true), r := .bin .eql (.t 31) (.t 32) },
    { dst := some 34, r := .pick (.t 22) (.t 33) (.c (.bool false)) },
    { dst := some 4, r := .move (.t 34) }] []
  .ret))
def r_parts_scan_is : KF where
  np := 2
  res := [.tmp 4]
  code := [k_parts_scan_is_0]
def k_parts_scan_number_1_0 : KC := (.reg [
    { dst := some 1, r := .move (.c (.bool false)) }]
  (.dreg [
    { dst := some 2, r := .load false 1 (.t 0) },
    { dst := some 3, r := .nilCheck (.t 2) },
    { dst := some 4, r := .faddr 2 (.t 3) },
    { dst := some 5, r := .load false 1 (.t 4) },
    { dst := some 6, r := .bin .eql (.t 5) (.c (.int .i64 0)) },
    { dst := some 7, r := .move (.t 6) },
    { dst := some 8, g := some (7, true), r := .load false 1 (.t 0) },
    { dst := some 9, g := some (7, true), r := .nilCheck (.t 8) },
    { dst := some 10, g := some (7, true), r := .faddr 1 (.t 9) },
    { dst := some 11, g := some (7, true), r := .load false 1 (.t 10) },
    { dst := some 12, g := some (7, true), r := .load false 1 (.t 0) },
    { dst := some 13, g := some (7, true), r := .nilCheck (.t 12) },
    { dst := some 14, g := some (7, true), r := .faddr 0 (.t 13) },
    { dst := some 15, g := some (7, true), r := .load false 1 (.t 14) },
    { dst := some 16, g := some (7, true), r := .len .str (.t 15) },
    { dst := some 17, g := some (7, true), r := .bin .lss (.t 11) (.t 16) },
    { dst := some 18, r := .pick (.t 7) (.t 17) (.c (.bool false)) },
    { dst := some 19, r := .move (.t 18) },
    { dst := some 20, g := some (19, true), r := .load false 1 (.t 0) },
    { dst := some 21, g := some (19, true), r := .nilCheck (.t 20) },
    { dst := some 22, g := some (19, true), r := .faddr 0 (.t 21) },
    { dst := some 23, g := some (19, true), r := .load false 1 (.t 22) },
    { dst := some 24, g := some (19, true), r := .load false 1 (.t 0) },
    { dst := some 25, g := some (19, true), r := .nilCheck (.t 24) },
    { dst := some 26, g := some (19, true), r := .faddr 1 (.t 25) },
    { dst := some 27, g := some (19, true), r := .load false 1 (.t 26) },
    { dst := some 28, g := some (19, true), r := .idx (.t 23) (.t 27) },
    { dst := some 29, g := some (19, true), r := .bin .geq (.t 28) (.c (.int .u8 48)) },
    { dst := some 30, r := .pick (.t 19) (.t 29) (.c (.bool false)) },
    { dst := some 31, r := .move (.t 30) },
    { dst := some 32, g := some (31, true), r := .load false 1 (.t 0) },
    { dst := some 33, g := some (31, true), r := .nilCheck (.t 32) },
    { dst := some 34, g := some (31, true), r := .faddr 0 (.t 33) },
    { dst := some 35, g := some (31, true), r := .load false 1 (.t 34) },
    { dst := some 36, g := some (31, true), r := .load false 1 (.t 0) },
    { dst := some 37, g := some (31, true), r := .nilCheck (.t 36) },
    { dst := some 38, g := some (31, true), r := .faddr 1 (.t 37) },
    { dst := some 39, g := some (31, true), r := .load false 1 (.t 38) },
    { dst := some 40, g := some (31, true), r := .idx (.t 35) (.t 39) },
    { dst := some 41, g := some (31, true), r := .bin .leq (.t 40) (.c (.int .u8 57)) },
    { dst := some 42, r := .pick (.t 31) (.t 41) (.c (.bool false)) },
    { dst := some 1, r := .move (.t 42) }] []
  .ret))
def r_parts_scan_number_1 : KF where
  np := 1
  res := [.tmp 1]
  code := [k_parts_scan_number_1_0]
def k_parts_scan_number_0 : KC := (.reg [
    { dst := some 1, r := .box (.t 0) },
    { dst := some 2, r := .move (.c (.int .i64 0)) }]
  (.dreg [
    { dst := some 7, r := .load false 1 (.t 1) },
    { dst := some 8, r := .nilCheck (.t 7) },
    { dst := some 9, r := .faddr 1 (.t 8) },
    { dst := some 10, r := .load false 1 (.t 9) },
    { dst := some 3, r := .move (.c (.int .i64 0)) },
    { dst := some 4, r := .move (.t 10) }] []
  (.reg [
    { dst := some 11, r := .mkF (.func F.parts_scan_number_1) [] [(.t 1)] },
    { dst := some 5, r := .move (.t 11) }]
  (.seq (.block 0 (.loop ⟨1, [1, 3, 4, 5], [[1]]⟩))
  ⟨4, [1, 3, 4], [[1]]⟩))))
def k_parts_scan_number_1 : KC := (.seq (.reg [
    { dst := some 12, r := .move (.t 5) },
    { dst := some 13, r := .callv .pur (.t 12) [] }]
  (.cond (.t 13)
  .skip
  (.exit 0)))
  ⟨2, [1, 3, 4, 5], [[1]]⟩)
def k_parts_scan_number_2 : KC := (.block 1 (.dreg [
    { dst := some 14, r := .load false 1 (.t 1) },
    { dst := some 15, r := .nilCheck (.t 14) },
    { dst := some 16, r := .faddr 0 (.t 15) },
    { dst := some 17, r := .load false 1 (.t 16) },
    { dst := some 18, r := .load false 1 (.t 1) },
    { dst := some 19, r := .nilCheck (.t 18) },
    { dst := some 20, r := .faddr 1 (.t 19) },
    { dst := some 21, r := .load false 1 (.t 20) },
    { dst := some 22, r := .idx (.t 17) (.t 21) },
    { dst := some 23, r := .bin .sub (.t 22) (.c (.int .u8 48)) },
    { dst := some 24, r := .conv (.int .i64) (.t 23) },
    { dst := some 6, r := .move (.t 24) }] []
  (.seq (.reg [
    { dst := some 25, r := .load false 1 (.t 1) },
    { dst := some 26, r := .nilCheck (.t 25) },
    { dst := some 27, r := .faddr 1 (.t 26) },
    { dst := some 28, r := .load false 1 (.t 27) },
    { dst := some 29, r := .move (.t 4) },
    { dst := some 30, r := .bin .gtr (.t 28) (.t 29) },
    { dst := some 31, r := .move (.t 30) },
    { dst := some 32, g := some (31, true), r := .move (.t 3) },
    { dst := some 33, g := some (31, true), r := .bin .eql (.t 32) (.c (.int .i64 0)) },
    { dst := some 34, r := .pick (.t 31) (.t 33) (.c (.bool false)) },
    { dst := some 35, r := .move (.t 34) },
    { dst := some 36, g := some (35, false), r := .move (.t 3) },
    { dst := some 37, g := some (35, false), r := .bin .mul (.t 36) (.c (.int .i64 10)) },
    { dst := some 38, g := some (35, false), r := .move (.t 6) },
    { dst := some 39, g := some (35, false), r := .bin .add (.t 37) (.t 38) },
    { dst := some 40, g := some (35, false), r := .bin .gtr (.t 39) (.c (.int .i64 16777216)) },
    { dst := some 41, r := .pick (.t 35) (.c (.bool true)) (.t 40) }]
  (.cond (.t 41)
  (.reg [
    { dst := some 42, r := .load false 1 (.t 1) },
    { dst := some 43, r := .nilCheck (.t 42) },
    { dst := some 44, r := .faddr 2 (.t 43) },
    { dst := none, r := .store 1 (.t 44) (.c (.int .i64 2)) }]
  (.reg [
    { dst := some 2, r := .move (.c (.int .i64 0)) }]
  .ret))
  .skip))
  ⟨3, [1, 3, 4, 5, 6], [[1]]⟩)))
def k_parts_scan_number_3 : KC := (.reg [
    { dst := some 45, r := .move (.t 3) },
    { dst := some 46, r := .bin .mul (.t 45) (.c (.int .i64 10)) },
    { dst := some 47, r := .move (.t 6) },
    { dst := some 48, r := .bin .add (.t 46) (.t 47) },
    { dst := some 3, r := .move (.t 48) }]
  (.lreg [
    { dst := some 49, r := .load false 1 (.t 1) },
    { dst := some 50, r := .nilCheck (.t 49) },
    { dst := some 51, r := .faddr 1 (.t 50) },
    { dst := some 52, r := .load false 1 (.t 51) },
    { dst := some 53, r := .bin .add (.t 52) (.c (.int .i64 1)) },
    { dst := some 54, r := .nilCheck (.t 49) },
    { dst := some 55, r := .faddr 1 (.t 54) },
    { dst := none, r := .store 1 (.t 55) (.t 53) }]))
def k_parts_scan_number_4 : KC := (.seq (.reg [
    { dst := some 56, r := .load false 1 (.t 1) },
    { dst := some 57, r := .nilCheck (.t 56) },
    { dst := some 58, r := .faddr 1 (.t 57) },
    { dst := some 59, r := .load false 1 (.t 58) },
    { dst := some 60, r := .move (.t 4) },
    { dst := some 61, r := .bin .eql (.t 59) (.t 60) },
    { dst := some 62, r := .move (.t 61) },
    { dst := some 63, g := some (62, true), r := .load false 1 (.t 1) },
    { dst := some 64, g := some (62, true), r := .nilCheck (.t 63) },
    { dst := some 65, g := some (62, true), r := .faddr 2 (.t 64) },
    { dst := some 66, g := some (62, true), r := .load false 1 (.t 65) },
    { dst := some 67, g := some (62, true), r := .bin .eql (.t 66) (.c (.int .i64 0)) },
    { dst := some 68, r := .pick (.t 62) (.t 67) (.c (.bool false)) }]
  (.cond (.t 68)
  (.reg [
    { dst := some 69, r := .load false 1 (.t 1) },
    { dst := some 70, r := .nilCheck (.t 69) },
    { dst := some 71, r := .faddr 2 (.t 70) },
    { dst := none, r := .store 1 (.t 71) (.c (.int .i64 2)) }]
  (.dreg [
    { dst := some 72, r := .load false 1 (.t 1) },
    { dst := some 73, r := .nilCheck (.t 72) },
    { dst := some 74, r := .faddr 1 (.t 73) },
    { dst := some 75, r := .load false 1 (.t 74) },
    { dst := some 76, r := .load false 1 (.t 1) },
    { dst := some 77, r := .nilCheck (.t 76) },
    { dst := some 78, r := .faddr 0 (.t 77) },
    { dst := some 79, r := .load false 1 (.t 78) },
    { dst := some 80, r := .len .str (.t 79) },
    { dst := some 81, r := .bin .eql (.t 75) (.t 80) }] []
  (.cond (.t 81)
  (.lreg [
    { dst := some 82, r := .load false 1 (.t 1) },
    { dst := some 83, r := .nilCheck (.t 82) },
    { dst := some 84, r := .faddr 2 (.t 83) },
    { dst := none, r := .store 1 (.t 84) (.c (.int .i64 1)) }])
  .skip)))
  .skip))
  ⟨5, [3], []⟩)
def k_parts_scan_number_5 : KC := (.reg [
    { dst := some 85, r := .move (.t 3) },
    { dst := some 2, r := .move (.t 85) }]
  .ret)
def r_parts_scan_number : KF where
  np := 1
  res := [.tmp 2]
  code := [k_parts_scan_number_0, k_parts_scan_number_1, k_parts_scan_number_2, k_parts_scan_number_3, k_parts_scan_number_4, k_parts_scan_number_5]
def k_parts_scan_take_0 : KC := (.reg [
    { dst := some 4, r := .move (.c (.str [])) }]
  (.seq (.reg [
    { dst := some 6, r := .move (.t 0) },
    { dst := some 7, r := .nilCheck (.t 6) },
    { dst := some 8, r := .faddr 2 (.t 7) },
    { dst := some 9, r := .load false 1 (.t 8) },
    { dst := some 10, r := .bin .neq (.t 9) (.c (.int .i64 0)) }]
  (.cond (.t 10)
  (.reg [
    { dst := some 4, r := .move (.c (.str [])) }]
  .ret)
  .skip))
  ⟨1, [0, 1], []⟩))
def k_parts_scan_take_1 : KC := (.seq (.dreg [
    { dst := some 11, r := .move (.t 0) },
    { dst := some 12, r := .nilCheck (.t 11) },
    { dst := some 13, r := .faddr 0 (.t 12) },
    { dst := some 14, r := .load false 1 (.t 13) },
    { dst := some 15, r := .len .str (.t 14) },
    { dst := some 16, r := .move (.t 0) },
    { dst := some 17, r := .nilCheck (.t 16) },
    { dst := some 18, r := .faddr 1 (.t 17) },
    { dst := some 19, r := .load false 1 (.t 18) },
    { dst := some 20, r := .bin .sub (.t 15) (.t 19) },
    { dst := some 21, r := .move (.t 1) },
    { dst := some 22, r := .bin .lss (.t 20) (.t 21) }] []
  (.cond (.t 22)
  (.reg [
    { dst := some 23, r := .move (.t 0) },
    { dst := some 24, r := .move (.t 0) },
    { dst := some 25, r := .move (.t 0) },
    { dst := some 26, r := .nilCheck (.t 25) },
    { dst := some 27, r := .faddr 0 (.t 26) },
    { dst := some 28, r := .load false 1 (.t 27) },
    { dst := some 29, r := .len .str (.t 28) },
    { dst := some 30, r := .nilCheck (.t 23) },
    { dst := some 31, r := .faddr 1 (.t 30) },
    { dst := none, r := .store 1 (.t 31) (.t 29) },
    { dst := some 32, r := .nilCheck (.t 24) },
    { dst := some 33, r := .faddr 2 (.t 32) },
    { dst := none, r := .store 1 (.t 33) (.c (.int .i64 1)) }]
  (.reg [
    { dst := some 4, r := .move (.c (.str [])) }]
  .ret))
  .skip))
  ⟨2, [0, 1], []⟩)
def k_parts_scan_take_2 : KC := (.dreg [
    { dst := some 34, r := .move (.t 0) },
    { dst := some 35, r := .nilCheck (.t 34) },
    { dst := some 36, r := .faddr 0 (.t 35) },
    { dst := some 37, r := .load false 1 (.t 36) },
    { dst := some 38, r := .move (.t 0) },
    { dst := some 39, r := .nilCheck (.t 38) },
    { dst := some 40, r := .faddr 1 (.t 39) },
    { dst := some 41, r := .load false 1 (.t 40) },
    { dst := some 42, r := .move (.t 0) },
    { dst := some 43, r := .nilCheck (.t 42) },
    { dst := some 44, r := .faddr 1 (.t 43) },
    { dst := some 45, r := .load false 1 (.t 44) },
    { dst := some 46, r := .move (.t 1) },
    { dst := some 47, r := .bin .add (.t 45) (.t 46) },
    { dst := some 48, r := .slice 0 (.t 37) (some (.t 41)) (some (.t 47)) },
    { dst := some 5, r := .move (.t 48) }] []
  (.reg [
    { dst := some 49, r := .move (.t 0) },
    { dst := some 50, r := .nilCheck (.t 49) },
    { dst := some 51, r := .faddr 1 (.t 50) },
    { dst := some 52, r := .load false 1 (.t 51) },
    { dst := some 53, r := .move (.t 1) },
    { dst := some 54, r := .bin .add (.t 52) (.t 53) },
    { dst := some 55, r := .nilCheck (.t 49) },
    { dst := some 56, r := .faddr 1 (.t 55) },
    { dst := none, r := .store 1 (.t 56) (.t 54) }]
  (.reg [
    { dst := some 57, r := .move (.t 5) },
    { dst := some 4, r := .move (.t 57) }]
  .ret)))
def r_parts_scan_take : KF where
  np := 2
  res := [.tmp 4]
  code := [k_parts_scan_take_0, k_parts_scan_take_1, k_parts_scan_take_2]
def k_parts_scan_part_0 : KC := (.reg [
    { dst := some 2, r := .move (.c (.str [])) },
    { dst := some 3, r := .move (.c (.bool false)) }]
  (.reg [
    { dst := some 6, r := .move (.t 0) },
    { dst := some 7, r := .call .eff F.parts_scan_text [(.t 6), (.c (.str [45, 45, 99, 117, 116]))] }]
  (.seq (.reg [
    { dst := some 8, r := .move (.t 0) },
    { dst := some 9, r := .call .pur F.parts_scan_is [(.t 8), (.c (.int .u8 45))] }]
  (.cond (.t 9)
  (.reg [
    { dst := some 10, r := .move (.t 0) },
    { dst := some 11, r := .call .eff F.parts_scan_text [(.t 10), (.c (.str [45, 45, 13, 10]))] }]
  (.reg [
    { dst := some 2, r := .move (.c (.str [])) },
    { dst := some 3, r := .move (.c (.bool false)) }]
  .ret))
  .skip))
  ⟨1, [0], []⟩)))
def k_parts_scan_part_1 : KC := (.reg [
    { dst := some 12, r := .move (.t 0) },
    { dst := some 13, r := .call .eff F.parts_scan_text [(.t 12), (.c (.str [13, 10, 67, 111, 110, 116, 101, 110, 116, 45, 84, 121, 112, 101, 58, 32, 97, 112, 112, 108, 105, 99, 97, 116, 105, 111, 110, 47, 106, 115, 111, 110, 13, 10, 67, 111, 110, 116, 101, 110, 116, 45, 76, 101, 110, 103, 116, 104, 58, 32]))] }]
  (.reg [
    { dst := some 14, r := .move (.t 0) },
    { dst := some 15, r := .call .eff F.parts_scan_number [(.t 14)] },
    { dst := some 4, r := .move (.t 15) }]
  (.reg [
    { dst := some 16, r := .move (.t 0) },
    { dst := some 17, r := .call .eff F.parts_scan_text [(.t 16), (.c (.str [13, 10, 13, 10]))] }]
  (.reg [
    { dst := some 18, r := .move (.t 0) },
    { dst := some 19, r := .move (.t 4) },
    { dst := some 20, r := .call .eff F.parts_scan_take [(.t 18), (.t 19)] },
    { dst := some 5, r := .move (.t 20) }]
  (.reg [
    { dst := some 21, r := .move (.t 0) },
    { dst := some 22, r := .call .eff F.parts_scan_text [(.t 21), (.c (.str [13, 10]))] }]
  (.reg [
    { dst := some 23, r := .move (.t 5) },
    { dst := some 2, r := .move (.t 23) },
    { dst := some 3, r := .move (.c (.bool true)) }]
  .ret))))))
def r_parts_scan_part : KF where
  np := 1
  res := [.tmp 2, .tmp 3]
  code := [k_parts_scan_part_0, k_parts_scan_part_1]
def k_parts_Reader_Next_0 : KC := (.reg [
    { dst := some 2, r := .move (.c (.str [])) },
    { dst := some 3, r := .move (.c (.bool false)) }]
  (.seq (.block 0 (.reg [
    { dst := some 8, r := .move (.t 0) },
    { dst := some 9, r := .nilCheck (.t 8) },
    { dst := some 10, r := .faddr 3 (.t 9) },
    { dst := some 11, r := .load false 1 (.t 10) },
    { dst := some 12, r := .bin .gtr (.t 11) (.c (.int .i64 0)) },
    { dst := some 13, r := .move (.t 12) },
    { dst := some 14, g := some (13, false), r := .move (.t 0) },
    { dst := some 15, g := some (13, false), r := .nilCheck (.t 14) },
    { dst := some 16, g := some (13, false), r := .faddr 0 (.t 15) },
    { dst := some 17, g := some (13, false), r := .load false 1 (.t 16) },
    { dst := some 18, g := some (13, false), r := .bin .eql (.t 17) (.c (.str [])) },
    { dst := some 19, r := .pick (.t 13) (.c (.bool true)) (.t 18) },
    { dst := some 7, r := .move (.t 19) }]
  (.cond (.t 7)
  (.reg [
    { dst := some 2, r := .move (.c (.str [])) },
    { dst := some 3, r := .move (.c (.bool false)) }]
  .ret)
  (.reg [
    { dst := some 21, r := .move (.t 0) },
    { dst := some 22, r := .nilCheck (.t 21) },
    { dst := some 23, r := .faddr 2 (.t 22) },
    { dst := some 24, r := .load false 1 (.t 23) },
    { dst := some 20, r := .move (.t 24) }]
  (.cond (.t 20)
  (.reg [
    { dst := some 25, r := .move (.t 0) },
    { dst := some 26, r := .move (.t 0) },
    { dst := some 27, r := .nilCheck (.t 26) },
    { dst := some 28, r := .faddr 1 (.t 27) },
    { dst := some 29, r := .load false 1 (.t 28) },
    { dst := some 30, r := .bin .add (.t 29) (.c (.int .i64 1)) },
    { dst := some 31, r := .nilCheck (.t 25) },
    { dst := some 32, r := .faddr 3 (.t 31) },
    { dst := none, r := .store 1 (.t 32) (.t 30) }]
  (.reg [
    { dst := some 2, r := .move (.c (.str [])) },
    { dst := some 3, r := .move (.c (.bool false)) }]
  .ret))
  .skip)))))
  ⟨1, [0], []⟩))
def k_parts_Reader_Next_1 : KC := (.reg [
    { dst := some 33, r := .move (.t 0) },
    { dst := some 34, r := .nilCheck (.t 33) },
    { dst := some 35, r := .faddr 0 (.t 34) },
    { dst := some 36, r := .load false 1 (.t 35) },
    { dst := some 37, r := .build [(.str []), (.int .i64 0), (.int .i64 0)] [(0, 1, (.t 36))] },
    { dst := some 38, r := .box (.t 37) },
    { dst := some 4, r := .move (.t 38) }]
  (.reg [
    { dst := some 40, r := .move (.t 4) },
    { dst := some 41, r := .call .eff F.parts_scan_part [(.t 40)] },
    { dst := some 39, r := .move (.t 41) },
    { dst := some 42, r := .extract (.t 39) 0 },
    { dst := some 43, r := .extract (.t 39) 1 },
    { dst := some 5, r := .move (.t 42) },
    { dst := some 6, r := .move (.t 43) }]
  (.seq (.reg [
    { dst := some 44, r := .move (.t 4) },
    { dst := some 45, r := .nilCheck (.t 44) },
    { dst := some 46, r := .faddr 2 (.t 45) },
    { dst := some 47, r := .load false 1 (.t 46) }]
  (.block 1 (.reg [
    { dst := some 49, r := .bin .eql (.t 47) (.c (.int .i64 2)) },
    { dst := some 48, r := .move (.t 49) }]
  (.cond (.t 48)
  (.dreg [
    { dst := some 50, r := .move (.t 0) },
    { dst := some 51, r := .move (.t 0) },
    { dst := some 52, r := .nilCheck (.t 51) },
    { dst := some 53, r := .faddr 1 (.t 52) },
    { dst := some 54, r := .load false 1 (.t 53) },
    { dst := some 55, r := .move (.t 4) },
    { dst := some 56, r := .nilCheck (.t 55) },
    { dst := some 57, r := .faddr 1 (.t 56) },
    { dst := some 58, r := .load false 1 (.t 57) },
    { dst := some 59, r := .bin .add (.t 54) (.t 58) },
    { dst := some 60, r := .bin .add (.t 59) (.c (.int .i64 1)) },
    { dst := some 61, r := .nilCheck (.t 50) },
    { dst := some 62, r := .faddr 3 (.t 61) }] [
    { dst := none, r := .store 1 (.t 62) (.t 60) }]
  (.reg [
    { dst := some 2, r := .move (.c (.str [])) },
    { dst := some 3, r := .move (.c (.bool false)) }]
  .ret))
  (.reg [
    { dst := some 64, r := .bin .eql (.t 47) (.c (.int .i64 1)) },
    { dst := some 63, r := .move (.t 64) }]
  (.cond (.t 63)
  (.reg [
    { dst := some 2, r := .move (.c (.str [])) },
    { dst := some 3, r := .move (.c (.bool false)) }]
  .ret)
  .skip))))))
  ⟨2, [0, 4, 5, 6], [[38]]⟩)))
def k_parts_Reader_Next_2 : KC := (.dreg [
    { dst := some 65, r := .move (.t 0) },
    { dst := some 66, r := .move (.t 0) },
    { dst := some 67, r := .move (.t 0) },
    { dst := some 68, r := .nilCheck (.t 67) },
    { dst := some 69, r := .faddr 0 (.t 68) },
    { dst := some 70, r := .load false 1 (.t 69) },
    { dst := some 71, r := .move (.t 4) },
    { dst := some 72, r := .nilCheck (.t 71) },
    { dst := some 73, r := .faddr 1 (.t 72) },
    { dst := some 74, r := .load false 1 (.t 73) },
    { dst := some 75, r := .slice 0 (.t 70) (some (.t 74)) none },
    { dst := some 76, r := .move (.t 0) },
    { dst := some 77, r := .nilCheck (.t 76) },
    { dst := some 78, r := .faddr 1 (.t 77) },
    { dst := some 79, r := .load false 1 (.t 78) },
    { dst := some 80, r := .move (.t 4) },
    { dst := some 81, r := .nilCheck (.t 80) },
    { dst := some 82, r := .faddr 1 (.t 81) },
    { dst := some 83, r := .load false 1 (.t 82) },
    { dst := some 84, r := .bin .add (.t 79) (.t 83) },
    { dst := some 85, r := .nilCheck (.t 65) },
    { dst := some 86, r := .faddr 0 (.t 85) }] [
    { dst := none, r := .store 1 (.t 86) (.t 75) },
    { dst := some 87, r := .nilCheck (.t 66) },
    { dst := some 88, r := .faddr 1 (.t 87) },
    { dst := none, r := .store 1 (.t 88) (.t 84) }]
  (.seq (.reg [
    { dst := some 89, r := .move (.t 6) },
    { dst := some 90, r := .un .not (.t 89) }]
  (.cond (.t 90)
  (.reg [
    { dst := some 91, r := .move (.t 0) },
    { dst := some 92, r := .nilCheck (.t 91) },
    { dst := some 93, r := .faddr 2 (.t 92) },
    { dst := none, r := .store 1 (.t 93) (.c (.bool true)) }]
  (.reg [
    { dst := some 94, r := .move (.t 0) },
    { dst := some 95, r := .call .eff F.parts_Reader_Next [(.t 94)] },
    { dst := some 96, r := .extract (.t 95) 0 },
    { dst := some 97, r := .extract (.t 95) 1 },
    { dst := some 2, r := .move (.t 96) },
    { dst := some 3, r := .move (.t 97) }]
  .ret))
  .skip))
  ⟨3, [5], []⟩))
def k_parts_Reader_Next_3 : KC := (.reg [
    { dst := some 98, r := .move (.t 5) },
    { dst := some 2, r := .move (.t 98) },
    { dst := some 3, r := .move (.c (.bool true)) }]
  .ret)
def r_parts_Reader_Next : KF where
  np := 1
  res := [.tmp 2, .tmp 3]
  code := [k_parts_Reader_Next_0, k_parts_Reader_Next_1, k_parts_Reader_Next_2, k_parts_Reader_Next_3]
def k_parts_Reader_Bad_0 : KC := (.reg [
    { dst := some 2, r := .move (.c (.int .i64 0)) }]
  (.reg [
    { dst := some 3, r := .move (.t 0) },
    { dst := some 4, r := .nilCheck (.t 3) },
    { dst := some 5, r := .faddr 3 (.t 4) },
    { dst := some 6, r := .load false 1 (.t 5) },
    { dst := some 7, r := .bin .sub (.t 6) (.c (.int .i64 1)) },
    { dst := some 2, r := .move (.t 7) }]
  .ret))
def r_parts_Reader_Bad : KF where
  np := 1
  res := [.tmp 2]
  code := [k_parts_Reader_Bad_0]
def k_cascadelaw28_PartsLong_0 : KC := (.reg [
    { dst := some 2, r := .move (.c (.bool false)) }]
  (.seq (.reg [
    { dst := some 11, r := .call .pur F.cascadelaw28_awake [] },
    { dst := some 12, r := .un .not (.t 11) }]
  (.cond (.t 12)
  (.reg [
    { dst := some 2, r := .move (.c (.bool false)) }]
  .ret)
  .skip))
  ⟨1, [0], []⟩))
def k_cascadelaw28_PartsLong_1 : KC := (.reg [
    { dst := some 13, r := .move (.t 0) },
    { dst := some 14, r := .bin .rem (.t 13) (.c (.int .u8 3)) },
    { dst := some 15, r := .conv (.int .i64) (.t 14) },
    { dst := some 16, r := .bin .add (.t 15) (.c (.int .i64 16777215)) },
    { dst := some 3, r := .move (.t 16) }]
  (.reg [
    { dst := some 4, r := .move (.c (.str [45, 45, 99, 117, 116, 13, 10, 67, 111, 110, 116, 101, 110, 116, 45, 84, 121, 112, 101, 58, 32, 97, 112, 112, 108, 105, 99, 97, 116, 105, 111, 110, 47, 106, 115, 111, 110, 13, 10, 67, 111, 110, 116, 101, 110, 116, 45, 76, 101, 110, 103, 116, 104, 58, 32])) }]
  (.reg [
    { dst := some 17, r := .call (.own [[2]]) F.parts_New [] },
    { dst := some 5, r := .move (.t 17) }]
  (.reg [
    { dst := some 18, r := .move (.t 5) },
    { dst := some 19, r := .move (.t 4) },
    { dst := some 20, r := .bin .add (.t 19) (.c (.str [49, 54, 55, 55, 55, 50, 49])) },
    { dst := some 21, r := .move (.t 3) },
    { dst := some 22, r := .bin .add (.c (.int .i64 48)) (.t 21) },
    { dst := some 23, r := .bin .sub (.t 22) (.c (.int .i64 16777210)) },
    { dst := some 24, r := .conv (.int .u8) (.t 23) },
    { dst := some 25, r := .ilit 1 [(.t 24)] },
    { dst := some 26, r := .conv .ofBytes (.t 25) },
    { dst := some 27, r := .bin .add (.t 20) (.t 26) },
    { dst := some 28, r := .bin .add (.t 27) (.c (.str [13, 10])) },
    { dst := some 29, r := .call .eff F.parts_Reader_Feed [(.t 18), (.t 28)] }]
  (.reg [
    { dst := some 31, r := .move (.t 5) },
    { dst := some 32, r := .call .eff F.parts_Reader_Next [(.t 31)] },
    { dst := some 30, r := .move (.t 32) },
    { dst := some 33, r := .extract (.t 30) 0 },
    { dst := some 34, r := .extract (.t 30) 1 },
    { dst := some 6, r := .move (.t 33) },
    { dst := some 7, r := .move (.t 34) }]
  (.seq (.reg [
    { dst := some 35, r := .move (.t 7) },
    { dst := some 36, r := .move (.t 35) },
    { dst := some 37, g := some (36, false), r := .move (.t 5) },
    { dst := some 38, g := some (36, false), r := .call .pur F.parts_Reader_Bad [(.t 37)] },
    { dst := some 39, g := some (36, false), r := .bin .geq (.t 38) (.c (.int .i64 0)) },
    { dst := some 40, g := some (36, false), r := .move (.t 3) },
    { dst := some 41, g := some (36, false), r := .bin .gtr (.t 40) (.c (.int .i64 16777216)) },
    { dst := some 42, g := some (36, false), r := .eq true .bool (.t 39) (.t 41) },
    { dst := some 43, r := .pick (.t 36) (.c (.bool true)) (.t 42) },
    { dst := some 44, r := .move (.t 43) },
    { dst := some 45, g := some (44, false), r := .move (.t 3) },
    { dst := some 46, g := some (44, false), r := .bin .gtr (.t 45) (.c (.int .i64 16777216)) },
    { dst := some 47, g := some (44, false), r := .move (.t 46) },
    { dst := some 48, g := some (47, true), r := .move (.t 5) },
    { dst := some 49, g := some (47, true), r := .call .pur F.parts_Reader_Bad [(.t 48)] },
    { dst := some 50, g := some (47, true), r := .move (.t 4) },
    { dst := some 51, g := some (47, true), r := .len .str (.t 50) },
    { dst := some 52, g := some (47, true), r := .bin .add (.t 51) (.c (.int .i64 7)) },
    { dst := some 53, g := some (47, true), r := .bin .neq (.t 49) (.t 52) },
    { dst := some 54, g := some (44, false), r := .pick (.t 47) (.t 53) (.c (.bool false)) },
    { dst := some 55, r := .pick (.t 44) (.c (.bool true)) (.t 54) }]
  (.cond (.t 55)
  (.reg [
    { dst := some 2, r := .move (.c (.bool false)) }]
  .ret)
  .skip))
  ⟨2, [4], []⟩))))))
def k_cascadelaw28_PartsLong_2 : KC := (.reg [
    { dst := some 56, r := .call (.own [[2]]) F.parts_New [] },
    { dst := some 8, r := .move (.t 56) }]
  (.reg [
    { dst := some 57, r := .move (.t 8) },
    { dst := some 58, r := .move (.t 4) },
    { dst := some 59, r := .bin .add (.t 58) (.c (.str [48, 48])) },
    { dst := some 60, r := .call .eff F.parts_Reader_Feed [(.t 57), (.t 59)] }]
  (.reg [
    { dst := some 62, r := .move (.t 8) },
    { dst := some 63, r := .call .eff F.parts_Reader_Next [(.t 62)] },
    { dst := some 61, r := .move (.t 63) },
    { dst := some 64, r := .extract (.t 61) 0 },
    { dst := some 65, r := .extract (.t 61) 1 },
    { dst := some 9, r := .move (.t 64) },
    { dst := some 10, r := .move (.t 65) }]
  (.reg [
    { dst := some 66, r := .move (.t 10) },
    { dst := some 67, r := .un .not (.t 66) },
    { dst := some 68, r := .move (.t 67) },
    { dst := some 69, g := some (68, true), r := .move (.t 8) },
    { dst := some 70, g := some (68, true), r := .call .pur F.parts_Reader_Bad [(.t 69)] },
    { dst := some 71, g := some (68, true), r := .move (.t 4) },
    { dst := some 72, g := some (68, true), r := .len .str (.t 71) },
    { dst := some 73, g := some (68, true), r := .bin .add (.t 72) (.c (.int .i64 1)) },
    { dst := some 74, g := some (68, true), r := .bin .eql (.t 70) (.t 73) },
    { dst := some 75, r := .pick (.t 68) (.t 74) (.c (.bool false)) },
    { dst := some 2, r := .move (.t 75) }]
  .ret))))
def r_cascadelaw28_PartsLong : KF where
  np := 1
  res := [.tmp 2]
  code := [k_cascadelaw28_PartsLong_0, k_cascadelaw28_PartsLong_1, k_cascadelaw28_PartsLong_2]
def k_cascadelaw28_few_0 : KC := (.reg [
    { dst := some 6, r := .move (.c (.bool false)) }]
  (.seq (.reg [
    { dst := some 7, r := .move (.c (.int .i64 0)) }]
  (.block 0 (.loop ⟨1, [0, 1, 2, 7], []⟩)))
  ⟨4, [0, 1], []⟩))
def k_cascadelaw28_few_1 : KC := (.seq (.reg [
    { dst := some 8, r := .move (.t 7) },
    { dst := some 9, r := .move (.t 0) },
    { dst := some 10, r := .len .sl (.t 9) },
    { dst := some 11, r := .bin .lss (.t 8) (.t 10) },
    { dst := some 12, r := .move (.t 11) },
    { dst := some 13, g := some (12, true), r := .move (.t 7) },
    { dst := some 14, g := some (12, true), r := .bin .lss (.t 13) (.c (.int .i64 100)) },
    { dst := some 15, r := .pick (.t 12) (.t 14) (.c (.bool false)) }]
  (.cond (.t 15)
  .skip
  (.exit 0)))
  ⟨2, [0, 1, 2, 7], []⟩)
def k_cascadelaw28_few_2 : KC := (.seq (.block 1 (.reg [
    { dst := some 18, r := .move (.t 0) },
    { dst := some 19, r := .move (.t 7) },
    { dst := some 20, r := .iaddr 1 (.t 18) (.t 19) },
    { dst := some 21, r := .load false 1 (.t 20) },
    { dst := some 22, r := .len .str (.t 21) },
    { dst := some 23, r := .move (.t 2) },
    { dst := some 24, r := .bin .gtr (.t 22) (.t 23) }]
  (.cond (.t 24)
  (.reg [
    { dst := some 6, r := .move (.c (.bool false)) }]
  .ret)
  .skip)))
  ⟨3, [0, 1, 2, 7], []⟩)
def k_cascadelaw28_few_3 : KC := (.lreg [
    { dst := some 16, r := .move (.t 7) },
    { dst := some 17, r := .bin .add (.t 16) (.c (.int .i64 1)) },
    { dst := some 7, r := .move (.t 17) }])
def k_cascadelaw28_few_4 : KC := (.reg [
    { dst := some 25, r := .move (.t 0) },
    { dst := some 26, r := .len .sl (.t 25) },
    { dst := some 27, r := .move (.t 1) },
    { dst := some 28, r := .bin .leq (.t 26) (.t 27) },
    { dst := some 6, r := .move (.t 28) }]
  .ret)
def r_cascadelaw28_few : KF where
  np := 3
  res := [.tmp 6]
  code := [k_cascadelaw28_few_0, k_cascadelaw28_few_1, k_cascadelaw28_few_2, k_cascadelaw28_few_3, k_cascadelaw28_few_4]
def k_cascaderef05_Number_0 : KC := (.reg [
    { dst := some 2, r := .move (.c (.str [])) }]
  (.seq (.reg [
    { dst := some 7, r := .move (.t 0) },
    { dst := some 8, r := .bin .eql (.t 7) (.c (.int .i64 0)) }]
  (.cond (.t 8)
  (.reg [
    { dst := some 2, r := .move (.c (.str [48])) }]
  .ret)
  .skip))
  ⟨1, [0], []⟩))
def k_cascaderef05_Number_1 : KC := (.reg [
    { dst := some 3, r := .move (.c (.str [])) },
    { dst := some 4, r := .move (.c (.str [])) }]
  (.seq (.reg [
    { dst := some 9, r := .move (.t 0) },
    { dst := some 10, r := .bin .lss (.t 9) (.c (.int .i64 0)) }]
  (.cond (.t 10)
  (.lreg [
    { dst := some 4, r := .move (.c (.str [45])) }])
  .skip))
  ⟨2, [0, 3, 4], []⟩))
def k_cascaderef05_Number_2 : KC := (.seq (.reg [
    { dst := some 5, r := .move (.c (.int .i64 0)) }]
  (.block 0 (.loop ⟨3, [0, 3, 4, 5], []⟩)))
  ⟨7, [3, 4], []⟩)
def k_cascaderef05_Number_3 : KC := (.seq (.reg [
    { dst := some 11, r := .move (.t 5) },
    { dst := some 12, r := .bin .lss (.t 11) (.c (.int .i64 20)) },
    { dst := some 13, r := .move (.t 12) },
    { dst := some 14, g := some (13, true), r := .move (.t 0) },
    { dst := some 15, g := some (13, true), r := .bin .neq (.t 14) (.c (.int .i64 0)) },
    { dst := some 16, r := .pick (.t 13) (.t 15) (.c (.bool false)) }]
  (.cond (.t 16)
  .skip
  (.exit 0)))
  ⟨4, [0, 3, 4, 5], []⟩)
def k_cascaderef05_Number_4 : KC := (.seq (.block 1 (.reg [
    { dst := some 19, r := .move (.t 0) },
    { dst := some 20, r := .bin .rem (.t 19) (.c (.int .i64 10)) },
    { dst := some 6, r := .move (.t 20) }]
  (.seq (.reg [
    { dst := some 21, r := .move (.t 6) },
    { dst := some 22, r := .bin .lss (.t 21) (.c (.int .i64 0)) }]
  (.cond (.t 22)
  (.lreg [
    { dst := some 23, r := .move (.t 6) },
    { dst := some 24, r := .un .neg (.t 23) },
    { dst := some 6, r := .move (.t 24) }])
  .skip))
  ⟨5, [0, 3, 4, 5, 6], []⟩)))
  ⟨6, [0, 3, 4, 5], []⟩)
def k_cascaderef05_Number_5 : KC := (.reg [
    { dst := some 25, r := .move (.t 6) },
    { dst := some 26, r := .bin .add (.c (.int .i64 48)) (.t 25) },
    { dst := some 27, r := .conv (.int .u8) (.t 26) },
    { dst := some 28, r := .ilit 1 [(.t 27)] },
    { dst := some 29, r := .conv .ofBytes (.t 28) },
    { dst := some 30, r := .move (.t 3) },
    { dst := some 31, r := .bin .add (.t 29) (.t 30) },
    { dst := some 3, r := .move (.t 31) }]
  (.lreg [
    { dst := some 32, r := .move (.t 0) },
    { dst := some 33, r := .bin .quo (.t 32) (.c (.int .i64 10)) },
    { dst := some 0, r := .move (.t 33) }]))
def k_cascaderef05_Number_6 : KC := (.lreg [
    { dst := some 17, r := .move (.t 5) },
    { dst := some 18, r := .bin .add (.t 17) (.c (.int .i64 1)) },
    { dst := some 5, r := .move (.t 18) }])
def k_cascaderef05_Number_7 : KC := (.reg [
    { dst := some 34, r := .move (.t 4) },
    { dst := some 35, r := .move (.t 3) },
    { dst := some 36, r := .bin .add (.t 34) (.t 35) },
    { dst := some 2, r := .move (.t 36) }]
  .ret)
def r_cascaderef05_Number : KF where
  np := 1
  res := [.tmp 2]
  code := [k_cascaderef05_Number_0, k_cascaderef05_Number_1, k_cascaderef05_Number_2, k_cascaderef05_Number_3, k_cascaderef05_Number_4, k_cascaderef05_Number_5, k_cascaderef05_Number_6, k_cascaderef05_Number_7]
def k_cascaderef28_Part_0 : KC := (.reg [
    { dst := some 2, r := .move (.c (.str [])) }]
  (.reg [
    { dst := some 3, r := .move (.t 0) },
    { dst := some 4, r := .len .str (.t 3) },
    { dst := some 5, r := .call .pur F.cascaderef05_Number [(.t 4)] },
    { dst := some 6, r := .bin .add (.c (.str [45, 45, 99, 117, 116, 13, 10, 67, 111, 110, 116, 101, 110, 116, 45, 84, 121, 112, 101, 58, 32, 97, 112, 112, 108, 105, 99, 97, 116, 105, 111, 110, 47, 106, 115, 111, 110, 13, 10, 67, 111, 110, 116, 101, 110, 116, 45, 76, 101, 110, 103, 116, 104, 58, 32])) (.t 5) },
    { dst := some 7, r := .bin .add (.t 6) (.c (.str [13, 10, 13, 10])) },
    { dst := some 8, r := .move (.t 0) },
    { dst := some 9, r := .bin .add (.t 7) (.t 8) },
    { dst := some 10, r := .bin .add (.t 9) (.c (.str [13, 10])) },
    { dst := some 2, r := .move (.t 10) }]
  .ret))
def r_cascaderef28_Part : KF where
  np := 1
  res := [.tmp 2]
  code := [k_cascaderef28_Part_0]
def k_cascaderef28_Whole_0 : KC := (.reg [
    { dst := some 2, r := .move (.c (.str [])) }]
  (.reg [
    { dst := some 3, r := .move (.c (.str [])) }]
  (.seq (.reg [
    { dst := some 4, r := .move (.c (.int .i64 0)) }]
  (.block 0 (.loop ⟨1, [0, 3, 4], []⟩)))
  ⟨4, [3], []⟩)))
def k_cascaderef28_Whole_1 : KC := (.seq (.reg [
    { dst := some 5, r := .move (.t 4) },
    { dst := some 6, r := .move (.t 0) },
    { dst := some 7, r := .len .sl (.t 6) },
    { dst := some 8, r := .bin .lss (.t 5) (.t 7) }]
  (.cond (.t 8)
  .skip
  (.exit 0)))
  ⟨2, [0, 3, 4], []⟩)
def k_cascaderef28_Whole_2 : KC := (.seq (.block 1 (.lreg [
    { dst := some 11, r := .move (.t 3) },
    { dst := some 12, r := .move (.t 0) },
    { dst := some 13, r := .move (.t 4) },
    { dst := some 14, r := .iaddr 1 (.t 12) (.t 13) },
    { dst := some 15, r := .load false 1 (.t 14) },
    { dst := some 16, r := .call .pur F.cascaderef28_Part [(.t 15)] },
    { dst := some 17, r := .bin .add (.t 11) (.t 16) },
    { dst := some 3, r := .move (.t 17) }]))
  ⟨3, [0, 3, 4], []⟩)
def k_cascaderef28_Whole_3 : KC := (.lreg [
    { dst := some 9, r := .move (.t 4) },
    { dst := some 10, r := .bin .add (.t 9) (.c (.int .i64 1)) },
    { dst := some 4, r := .move (.t 10) }])
def k_cascaderef28_Whole_4 : KC := (.reg [
    { dst := some 18, r := .move (.t 3) },
    { dst := some 19, r := .bin .add (.t 18) (.c (.str [45, 45, 99, 117, 116, 45, 45, 13, 10])) },
    { dst := some 2, r := .move (.t 19) }]
  .ret)
def r_cascaderef28_Whole : KF where
  np := 1
  res := [.tmp 2]
  code := [k_cascaderef28_Whole_0, k_cascaderef28_Whole_1, k_cascaderef28_Whole_2, k_cascaderef28_Whole_3, k_cascaderef28_Whole_4]
def k_cascadelaw28_drain_0 : KC := (.reg [
    { dst := some 4, r := .move (.c (.sl [])) }]
  (.seq (.reg [
    { dst := some 5, r := .move (.c (.int .i64 0)) }]
  (.block 0 (.loop ⟨1, [0, 1, 5], [[23]]⟩)))
  ⟨5, [1], [[23]]⟩))
def k_cascadelaw28_drain_1 : KC := (.seq (.reg [
    { dst := some 8, r := .move (.t 5) },
    { dst := some 9, r := .bin .lss (.t 8) (.c (.int .i64 500)) }]
  (.cond (.t 9)
  .skip
  (.exit 0)))
  ⟨2, [0, 1, 5], [[23]]⟩)
def k_cascadelaw28_drain_2 : KC := (.seq (.block 1 (.reg [
    { dst := some 13, r := .move (.t 0) },
    { dst := some 14, r := .call .eff F.parts_Reader_Next [(.t 13)] },
    { dst := some 12, r := .move (.t 14) },
    { dst := some 15, r := .extract (.t 12) 0 },
    { dst := some 16, r := .extract (.t 12) 1 },
    { dst := some 6, r := .move (.t 15) },
    { dst := some 7, r := .move (.t 16) }]
  (.seq (.reg [
    { dst := some 17, r := .move (.t 7) },
    { dst := some 18, r := .un .not (.t 17) }]
  (.cond (.t 18)
  (.reg [
    { dst := some 19, r := .move (.t 1) },
    { dst := some 4, r := .move (.t 19) }]
  .ret)
  .skip))
  ⟨3, [0, 1, 5, 6], [[23]]⟩)))
  ⟨4, [0, 1, 5], [[23]]⟩)
def k_cascadelaw28_drain_3 : KC := (.lreg [
    { dst := some 20, r := .move (.t 1) },
    { dst := some 21, r := .move (.t 6) },
    { dst := some 22, r := .ilit 1 [(.t 21)] },
    { dst := some 23, r := .app 1 16 (.t 20) (.t 22) },
    { dst := some 1, r := .move (.t 23) }])
def k_cascadelaw28_drain_4 : KC := (.lreg [
    { dst := some 10, r := .move (.t 5) },
    { dst := some 11, r := .bin .add (.t 10) (.c (.int .i64 1)) },
    { dst := some 5, r := .move (.t 11) }])
def k_cascadelaw28_drain_5 : KC := (.reg [
    { dst := some 24, r := .move (.t 1) },
    { dst := some 4, r := .move (.t 24) }]
  .ret)
def r_cascadelaw28_drain : KF where
  np := 2
  res := [.tmps 4]
  code := [k_cascadelaw28_drain_0, k_cascadelaw28_drain_1, k_cascadelaw28_drain_2, k_cascadelaw28_drain_3, k_cascadelaw28_drain_4, k_cascadelaw28_drain_5]
def k_cascaderef12_SameNames_0 : KC := (.reg [
    { dst := some 4, r := .move (.c (.bool false)) }]
  (.seq (.reg [
    { dst := some 6, r := .move (.t 0) },
    { dst := some 7, r := .len .sl (.t 6) },
    { dst := some 8, r := .move (.t 1) },
    { dst := some 9, r := .len .sl (.t 8) },
    { dst := some 10, r := .bin .neq (.t 7) (.t 9) }]
  (.cond (.t 10)
  (.reg [
    { dst := some 4, r := .move (.c (.bool false)) }]
  .ret)
  .skip))
  ⟨1, [0, 1], []⟩))
def k_cascaderef12_SameNames_1 : KC := (.seq (.reg [
    { dst := some 5, r := .move (.c (.int .i64 0)) }]
  (.block 0 (.loop ⟨2, [0, 1, 5], []⟩)))
  ⟨5, [], []⟩)
def k_cascaderef12_SameNames_2 : KC := (.seq (.reg [
    { dst := some 11, r := .move (.t 5) },
    { dst := some 12, r := .move (.t 0) },
    { dst := some 13, r := .len .sl (.t 12) },
    { dst := some 14, r := .bin .lss (.t 11) (.t 13) }]
  (.cond (.t 14)
  .skip
  (.exit 0)))
  ⟨3, [0, 1, 5], []⟩)
def k_cascaderef12_SameNames_3 : KC := (.seq (.block 1 (.dreg [
    { dst := some 17, r := .move (.t 0) },
    { dst := some 18, r := .move (.t 5) },
    { dst := some 19, r := .iaddr 1 (.t 17) (.t 18) },
    { dst := some 20, r := .load false 1 (.t 19) },
    { dst := some 21, r := .move (.t 1) },
    { dst := some 22, r := .move (.t 5) },
    { dst := some 23, r := .iaddr 1 (.t 21) (.t 22) },
    { dst := some 24, r := .load false 1 (.t 23) },
    { dst := some 25, r := .bin .neq (.t 20) (.t 24) }] []
  (.cond (.t 25)
  (.reg [
    { dst := some 4, r := .move (.c (.bool false)) }]
  .ret)
  .skip)))
  ⟨4, [0, 1, 5], []⟩)
def k_cascaderef12_SameNames_4 : KC := (.lreg [
    { dst := some 15, r := .move (.t 5) },
    { dst := some 16, r := .bin .add (.t 15) (.c (.int .i64 1)) },
    { dst := some 5, r := .move (.t 16) }])
def k_cascaderef12_SameNames_5 : KC := (.reg [
    { dst := some 4, r := .move (.c (.bool true)) }]
  .ret)
def r_cascaderef12_SameNames : KF where
  np := 2
  res := [.tmp 4]
  code := [k_cascaderef12_SameNames_0, k_cascaderef12_SameNames_1, k_cascaderef12_SameNames_2, k_cascaderef12_SameNames_3, k_cascaderef12_SameNames_4, k_cascaderef12_SameNames_5]
def k_parts_Reader_Over_0 : KC := (.reg [
    { dst := some 2, r := .move (.c (.bool false)) }]
  (.reg [
    { dst := some 3, r := .move (.t 0) },
    { dst := some 4, r := .nilCheck (.t 3) },
    { dst := some 5, r := .faddr 2 (.t 4) },
    { dst := some 6, r := .load false 1 (.t 5) },
    { dst := some 2, r := .move (.t 6) }]
  .ret))
def r_parts_Reader_Over : KF where
  np := 1
  res := [.tmp 2]
  code := [k_parts_Reader_Over_0]
def k_cascadelaw28_PartsBent_0 : KC := (.reg [
    { dst := some 6, r := .move (.c (.bool false)) }]
  (.seq (.reg [
    { dst := some 16, r := .call .pur F.cascadelaw28_awake [] },
    { dst := some 17, r := .un .not (.t 16) },
    { dst := some 18, r := .move (.t 17) },
    { dst := some 19, g := some (18, false), r := .move (.t 0) },
    { dst := some 20, g := some (18, false), r := .call .pur F.cascadelaw28_few [(.t 19), (.c (.int .i64 10)), (.c (.int .i64 100))] },
    { dst := some 21, g := some (18, false), r := .un .not (.t 20) },
    { dst := some 22, r := .pick (.t 18) (.c (.bool true)) (.t 21) },
    { dst := some 23, r := .move (.t 22) },
    { dst := some 24, g := some (23, false), r := .move (.t 2) },
    { dst := some 25, g := some (23, false), r := .bin .eql (.t 24) (.c (.int .u8 0)) },
    { dst := some 26, r := .pick (.t 23) (.c (.bool true)) (.t 25) }]
  (.cond (.t 26)
  (.reg [
    { dst := some 27, r := .call .pur F.cascadelaw28_awake [] },
    { dst := some 6, r := .move (.t 27) }]
  .ret)
  .skip))
  ⟨1, [0, 1, 2], []⟩))
def k_cascadelaw28_PartsBent_1 : KC := (.reg [
    { dst := some 28, r := .move (.t 0) },
    { dst := some 29, r := .call .pur F.cascaderef28_Whole [(.t 28)] },
    { dst := some 7, r := .move (.t 29) }]
  (.reg [
    { dst := some 30, r := .move (.t 1) },
    { dst := some 31, r := .conv (.int .i64) (.t 30) },
    { dst := some 32, r := .move (.t 7) },
    { dst := some 33, r := .len .str (.t 32) },
    { dst := some 34, r := .bin .rem (.t 31) (.t 33) },
    { dst := some 8, r := .move (.t 34) }]
  (.reg [
    { dst := some 9, r := .move (.c (.int .i64 0)) }]
  (.seq (.reg [
    { dst := some 10, r := .move (.c (.int .i64 0)) }]
  (.block 0 (.loop ⟨2, [0, 2, 7, 8, 9, 10], []⟩)))
  ⟨7, [0, 2, 7, 8], []⟩))))
def k_cascadelaw28_PartsBent_2 : KC := (.seq (.reg [
    { dst := some 35, r := .move (.t 10) },
    { dst := some 36, r := .move (.t 0) },
    { dst := some 37, r := .len .sl (.t 36) },
    { dst := some 38, r := .bin .lss (.t 35) (.t 37) }]
  (.cond (.t 38)
  .skip
  (.exit 0)))
  ⟨3, [0, 2, 7, 8, 9, 10], []⟩)
def k_cascadelaw28_PartsBent_3 : KC := (.seq (.block 1 (.reg [
    { dst := some 41, r := .move (.t 0) },
    { dst := some 42, r := .move (.t 10) },
    { dst := some 43, r := .iaddr 1 (.t 41) (.t 42) },
    { dst := some 44, r := .load false 1 (.t 43) },
    { dst := some 45, r := .call .pur F.cascaderef28_Part [(.t 44)] },
    { dst := some 11, r := .move (.t 45) }]
  (.reg [
    { dst := some 46, r := .move (.t 9) },
    { dst := some 47, r := .move (.t 11) },
    { dst := some 48, r := .len .str (.t 47) },
    { dst := some 49, r := .bin .add (.t 46) (.t 48) },
    { dst := some 50, r := .bin .sub (.t 49) (.c (.int .i64 2)) },
    { dst := some 51, r := .move (.t 0) },
    { dst := some 52, r := .move (.t 10) },
    { dst := some 53, r := .iaddr 1 (.t 51) (.t 52) },
    { dst := some 54, r := .load false 1 (.t 53) },
    { dst := some 55, r := .len .str (.t 54) },
    { dst := some 56, r := .bin .sub (.t 50) (.t 55) },
    { dst := some 12, r := .move (.t 56) }]
  (.seq (.reg [
    { dst := some 57, r := .move (.t 8) },
    { dst := some 58, r := .move (.t 12) },
    { dst := some 59, r := .bin .geq (.t 57) (.t 58) },
    { dst := some 60, r := .move (.t 59) },
    { dst := some 61, g := some (60, true), r := .move (.t 8) },
    { dst := some 62, g := some (60, true), r := .move (.t 12) },
    { dst := some 63, g := some (60, true), r := .move (.t 0) },
    { dst := some 64, g := some (60, true), r := .move (.t 10) },
    { dst := some 65, g := some (60, true), r := .iaddr 1 (.t 63) (.t 64) },
    { dst := some 66, g := some (60, true), r := .load false 1 (.t 65) },
    { dst := some 67, g := some (60, true), r := .len .str (.t 66) },
    { dst := some 68, g := some (60, true), r := .bin .add (.t 62) (.t 67) },
    { dst := some 69, g := some (60, true), r := .bin .lss (.t 61) (.t 68) },
    { dst := some 70, r := .pick (.t 60) (.t 69) (.c (.bool false)) }]
  (.cond (.t 70)
  (.reg [
    { dst := some 6, r := .move (.c (.bool true)) }]
  .ret)
  .skip))
  ⟨4, [0, 2, 7, 8, 9, 10, 11, 12], []⟩))))
  ⟨6, [0, 2, 7, 8, 9, 10], []⟩)
def k_cascadelaw28_PartsBent_4 : KC := (.seq (.reg [
    { dst := some 71, r := .move (.t 8) },
    { dst := some 72, r := .move (.t 9) },
    { dst := some 73, r := .bin .geq (.t 71) (.t 72) },
    { dst := some 74, r := .move (.t 73) },
    { dst := some 75, g := some (74, true), r := .move (.t 8) },
    { dst := some 76, g := some (74, true), r := .move (.t 12) },
    { dst := some 77, g := some (74, true), r := .bin .lss (.t 75) (.t 76) },
    { dst := some 78, r := .pick (.t 74) (.t 77) (.c (.bool false)) },
    { dst := some 79, r := .move (.t 78) },
    { dst := some 80, g := some (79, true), r := .move (.t 7) },
    { dst := some 81, g := some (79, true), r := .move (.t 8) },
    { dst := some 82, g := some (79, true), r := .idx (.t 80) (.t 81) },
    { dst := some 83, g := some (79, true), r := .bin .geq (.t 82) (.c (.int .u8 48)) },
    { dst := some 84, r := .pick (.t 79) (.t 83) (.c (.bool false)) },
    { dst := some 85, r := .move (.t 84) },
    { dst := some 86, g := some (85, true), r := .move (.t 7) },
    { dst := some 87, g := some (85, true), r := .move (.t 8) },
    { dst := some 88, g := some (85, true), r := .idx (.t 86) (.t 87) },
    { dst := some 89, g := some (85, true), r := .bin .leq (.t 88) (.c (.int .u8 57)) },
    { dst := some 90, r := .pick (.t 85) (.t 89) (.c (.bool false)) }]
  (.cond (.t 90)
  (.reg [
    { dst := some 6, r := .move (.c (.bool true)) }]
  .ret)
  .skip))
  ⟨5, [0, 2, 7, 8, 9, 10, 11], []⟩)
def k_cascadelaw28_PartsBent_5 : KC := (.lreg [
    { dst := some 91, r := .move (.t 9) },
    { dst := some 92, r := .move (.t 11) },
    { dst := some 93, r := .len .str (.t 92) },
    { dst := some 94, r := .bin .add (.t 91) (.t 93) },
    { dst := some 9, r := .move (.t 94) }])
def k_cascadelaw28_PartsBent_6 : KC := (.lreg [
    { dst := some 39, r := .move (.t 10) },
    { dst := some 40, r := .bin .add (.t 39) (.c (.int .i64 1)) },
    { dst := some 10, r := .move (.t 40) }])
def k_cascadelaw28_PartsBent_7 : KC := (.reg [
    { dst := some 95, r := .move (.t 7) },
    { dst := some 96, r := .conv .bytes (.t 95) },
    { dst := some 13, r := .move (.t 96) }]
  (.reg [
    { dst := some 97, r := .move (.t 13) },
    { dst := some 98, r := .move (.t 8) },
    { dst := some 99, r := .iaddr 1 (.t 97) (.t 98) },
    { dst := some 100, r := .load false 1 (.t 99) },
    { dst := some 101, r := .move (.t 2) },
    { dst := some 102, r := .bin .xor (.t 100) (.t 101) },
    { dst := some 103, r := .iaddr 1 (.t 97) (.t 98) },
    { dst := none, r := .store 1 (.t 103) (.t 102) }]
  (.reg [
    { dst := some 104, r := .call (.own [[2]]) F.parts_New [] },
    { dst := some 14, r := .move (.t 104) }]
  (.reg [
    { dst := some 105, r := .move (.t 14) },
    { dst := some 106, r := .move (.t 13) },
    { dst := some 107, r := .conv .ofBytes (.t 106) },
    { dst := some 108, r := .call .eff F.parts_Reader_Feed [(.t 105), (.t 107)] }]
  (.reg [
    { dst := some 109, r := .move (.t 14) },
    { dst := some 110, r := .call .eff F.cascadelaw28_drain [(.t 109), (.c .nils)] },
    { dst := some 15, r := .move (.t 110) }]
  (.seq (.reg [
    { dst := some 111, r := .move (.t 15) },
    { dst := some 112, r := .len .sl (.t 111) },
    { dst := some 113, r := .move (.t 0) },
    { dst := some 114, r := .len .sl (.t 113) },
    { dst := some 115, r := .bin .gtr (.t 112) (.t 114) },
    { dst := some 116, r := .move (.t 115) },
    { dst := some 117, g := some (116, false), r := .move (.t 15) },
    { dst := some 118, g := some (116, false), r := .move (.t 0) },
    { dst := some 119, g := some (116, false), r := .move (.t 15) },
    { dst := some 120, g := some (116, false), r := .len .sl (.t 119) },
    { dst := some 121, g := some (116, false), r := .slice 1 (.t 118) none (some (.t 120)) },
    { dst := some 122, g := some (116, false), r := .call .pur F.cascaderef12_SameNames [(.t 117), (.t 121)] },
    { dst := some 123, g := some (116, false), r := .un .not (.t 122) },
    { dst := some 124, r := .pick (.t 116) (.c (.bool true)) (.t 123) }]
  (.cond (.t 124)
  (.reg [
    { dst := some 6, r := .move (.c (.bool false)) }]
  .ret)
  .skip))
  ⟨8, [14], [[104, 2]]⟩))))))
def k_cascadelaw28_PartsBent_8 : KC := (.reg [
    { dst := some 125, r := .move (.t 14) },
    { dst := some 126, r := .call .pur F.parts_Reader_Bad [(.t 125)] },
    { dst := some 127, r := .bin .geq (.t 126) (.c (.int .i64 0)) },
    { dst := some 128, r := .move (.t 127) },
    { dst := some 129, g := some (128, false), r := .move (.t 14) },
    { dst := some 130, g := some (128, false), r := .call .pur F.parts_Reader_Over [(.t 129)] },
    { dst := some 131, g := some (128, false), r := .un .not (.t 130) },
    { dst := some 132, r := .pick (.t 128) (.c (.bool true)) (.t 131) },
    { dst := some 6, r := .move (.t 132) }]
  .ret)
def r_cascadelaw28_PartsBent : KF where
  np := 3
  res := [.tmp 6]
  code := [k_cascadelaw28_PartsBent_0, k_cascadelaw28_PartsBent_1, k_cascadelaw28_PartsBent_2, k_cascadelaw28_PartsBent_3, k_cascadelaw28_PartsBent_4, k_cascadelaw28_PartsBent_5, k_cascadelaw28_PartsBent_6, k_cascadelaw28_PartsBent_7, k_cascadelaw28_PartsBent_8]
def table : FuncId → Option KF
  | 5 => some r_cascadelaw28_PartsLong
  | 6 => some r_cascadelaw28_PartsBent
  | 12 => some r_cascadelaw28_awake
  | 13 => some r_parts_New
  | 14 => some r_parts_Reader_Feed
  | 15 => some r_parts_Reader_Next
  | 16 => some r_parts_Reader_Bad
  | 17 => some r_cascadelaw28_few
  | 18 => some r_cascaderef28_Whole
  | 19 => some r_cascaderef28_Part
  | 20 => some r_cascadelaw28_drain
  | 21 => some r_cascaderef12_SameNames
  | 22 => some r_parts_Reader_Over
  | 29 => some r_parts_End
  | 30 => some r_parts_scan_part
  | 31 => some r_cascaderef05_Number
  | 35 => some r_parts_scan_text
  | 36 => some r_parts_scan_is
  | 37 => some r_parts_scan_number
  | 38 => some r_parts_scan_take
  | 40 => some r_parts_scan_number_1
  | _ => none
end Go.Abs.P
