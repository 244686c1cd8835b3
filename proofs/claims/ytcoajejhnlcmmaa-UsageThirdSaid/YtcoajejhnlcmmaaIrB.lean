/- The code of the functions, printed by a program of this claim from the translation. -/
import Derived.Test.YtcoajejhnlcmmaaAbs2
namespace Go.Abs.B
namespace F
abbrev main_main : FuncId := 0
abbrev gosem_cut : FuncId := 1
abbrev gosem_cut_init : FuncId := 2
abbrev cascadelaw17_UsageWithin : FuncId := 3
abbrev cascadelaw17_UsageThird : FuncId := 4
abbrev cascadelaw28_PartsLong : FuncId := 5
abbrev cascadelaw28_PartsBent : FuncId := 6
abbrev cascadelaw17_awake : FuncId := 7
abbrev cascadelaw17_right : FuncId := 8
abbrev usage_Within : FuncId := 9
abbrev cascaderef17_Within : FuncId := 10
abbrev cascaderef09_RightType : FuncId := 11
abbrev cascadelaw28_awake : FuncId := 12
abbrev parts_New : FuncId := 13
abbrev parts_Reader_Feed : FuncId := 14
abbrev parts_Reader_Next : FuncId := 15
abbrev parts_Reader_Bad : FuncId := 16
abbrev cascadelaw28_few : FuncId := 17
abbrev cascaderef28_Whole : FuncId := 18
abbrev cascaderef28_Part : FuncId := 19
abbrev cascadelaw28_drain : FuncId := 20
abbrev cascaderef12_SameNames : FuncId := 21
abbrev parts_Reader_Over : FuncId := 22
abbrev usage_strict : FuncId := 23
abbrev usage_inner : FuncId := 24
abbrev usage_list : FuncId := 25
abbrev cascaderef17_last : FuncId := 26
abbrev cascaderef17_less : FuncId := 27
abbrev cascaderef01_Name : FuncId := 28
abbrev parts_End : FuncId := 29
abbrev parts_scan_part : FuncId := 30
abbrev cascaderef05_Number : FuncId := 31
abbrev strings_HasSuffix : FuncId := 32
abbrev cascaderef01_Letter : FuncId := 33
abbrev cascaderef01_Digit : FuncId := 34
abbrev parts_scan_text : FuncId := 35
abbrev parts_scan_is : FuncId := 36
abbrev parts_scan_number : FuncId := 37
abbrev parts_scan_take : FuncId := 38
abbrev internal_stringslite_HasSuffix : FuncId := 39
abbrev parts_scan_number_1 : FuncId := 40
abbrev runtime_boundsError_Error : FuncId := 41
abbrev runtime_boundsError_RuntimeError : FuncId := 42
abbrev runtime_errorString_Error : FuncId := 43
abbrev runtime_errorString_RuntimeError : FuncId := 44
abbrev runtime_plainError_Error : FuncId := 45
abbrev runtime_plainError_RuntimeError : FuncId := 46
abbrev runtime_errorAddressString_Error : FuncId := 47
abbrev runtime_errorAddressString_RuntimeError : FuncId := 48
abbrev runtime_TypeAssertionError_Error : FuncId := 49
abbrev runtime_TypeAssertionError_RuntimeError : FuncId := 50
abbrev runtime_PanicNilError_Error : FuncId := 51
abbrev runtime_PanicNilError_RuntimeError : FuncId := 52
abbrev internal_abi_Type_Align : FuncId := 53
abbrev internal_runtime_maps_unhashableTypeError_Error : FuncId := 54
abbrev internal_runtime_maps_unhashableTypeError_RuntimeError : FuncId := 55
abbrev internal_abi_Kind_String : FuncId := 56
end F
def r_cascadelaw17_UsageWithin : RF where
  np := 2
  res := [.tmp 4]
  body := (.seq (.reg [
    { dst := some 2, r := .ibox (.t 0) },
    { dst := some 3, r := .ibox (.t 1) },
    { dst := some 4, r := .move (.c (.bool false)) }])
  (.seq (.seq (.reg [
    { dst := some 5, r := .call .frz F.cascadelaw17_awake [] },
    { dst := some 6, r := .un .not (.t 5) },
    { dst := some 7, r := .move (.t 6) },
    { dst := some 8, g := some (7, false), r := .load true 2 (.t 2) },
    { dst := some 9, g := some (7, false), r := .call .frz F.cascadelaw17_right [(.t 8)] },
    { dst := some 10, g := some (7, false), r := .un .not (.t 9) },
    { dst := some 11, r := .pick (.t 7) (.c (.bool true)) (.t 10) },
    { dst := some 12, r := .move (.t 11) },
    { dst := some 13, g := some (12, false), r := .load true 2 (.t 3) },
    { dst := some 14, g := some (12, false), r := .call .frz F.cascadelaw17_right [(.t 13)] },
    { dst := some 15, g := some (12, false), r := .un .not (.t 14) },
    { dst := some 16, r := .pick (.t 12) (.c (.bool true)) (.t 15) }])
  (.cond (.t 16)
    (.seq (.reg [
      { dst := some 17, r := .call .frz F.cascadelaw17_awake [] },
      { dst := some 4, r := .move (.t 17) }])
    .ret)
    .skip))
  (.seq (.dreg [
    { dst := some 18, r := .load true 2 (.t 2) },
    { dst := some 19, r := .load true 2 (.t 3) },
    { dst := some 20, r := .call .frz F.usage_Within [(.t 18), (.t 19)] },
    { dst := some 21, r := .load true 2 (.t 2) },
    { dst := some 22, r := .load true 2 (.t 3) },
    { dst := some 23, r := .call .frz F.cascaderef17_Within [(.t 21), (.t 22)] },
    { dst := some 24, r := .eq false .bool (.t 20) (.t 23) },
    { dst := some 4, r := .move (.t 24) }] [
    ])
  .ret)))
def r_cascadelaw17_UsageThird : RF where
  np := 3
  res := [.tmp 6]
  body := (.seq (.reg [
    { dst := some 3, r := .ibox (.t 0) },
    { dst := some 4, r := .ibox (.t 1) },
    { dst := some 5, r := .ibox (.t 2) },
    { dst := some 6, r := .move (.c (.bool false)) }])
  (.seq (.seq (.reg [
    { dst := some 8, r := .call .frz F.cascadelaw17_awake [] },
    { dst := some 9, r := .un .not (.t 8) },
    { dst := some 10, r := .move (.t 9) },
    { dst := some 11, g := some (10, false), r := .load true 2 (.t 3) },
    { dst := some 12, g := some (10, false), r := .call .frz F.cascadelaw17_right [(.t 11)] },
    { dst := some 13, g := some (10, false), r := .un .not (.t 12) },
    { dst := some 14, r := .pick (.t 10) (.c (.bool true)) (.t 13) },
    { dst := some 15, r := .move (.t 14) },
    { dst := some 16, g := some (15, false), r := .load true 2 (.t 4) },
    { dst := some 17, g := some (15, false), r := .call .frz F.cascadelaw17_right [(.t 16)] },
    { dst := some 18, g := some (15, false), r := .un .not (.t 17) },
    { dst := some 19, r := .pick (.t 15) (.c (.bool true)) (.t 18) },
    { dst := some 20, r := .move (.t 19) },
    { dst := some 21, g := some (20, false), r := .load true 2 (.t 5) },
    { dst := some 22, g := some (20, false), r := .call .frz F.cascadelaw17_right [(.t 21)] },
    { dst := some 23, g := some (20, false), r := .un .not (.t 22) },
    { dst := some 24, r := .pick (.t 20) (.c (.bool true)) (.t 23) },
    { dst := some 25, r := .move (.t 24) },
    { dst := some 26, g := some (25, false), r := .load true 2 (.t 3) },
    { dst := some 27, g := some (25, false), r := .load true 2 (.t 3) },
    { dst := some 28, g := some (25, false), r := .call .frz F.usage_Within [(.t 26), (.t 27)] },
    { dst := some 29, g := some (25, false), r := .un .not (.t 28) },
    { dst := some 30, r := .pick (.t 25) (.c (.bool true)) (.t 29) }])
  (.cond (.t 30)
    (.seq (.reg [
      { dst := some 31, r := .call .frz F.cascadelaw17_awake [] },
      { dst := some 32, r := .move (.t 31) },
      { dst := some 33, g := some (32, true), r := .load true 2 (.t 3) },
      { dst := some 34, g := some (32, true), r := .call .frz F.cascadelaw17_right [(.t 33)] },
      { dst := some 35, g := some (32, true), r := .move (.t 34) },
      { dst := some 36, g := some (35, true), r := .load true 2 (.t 4) },
      { dst := some 37, g := some (35, true), r := .call .frz F.cascadelaw17_right [(.t 36)] },
      { dst := some 38, g := some (32, true), r := .pick (.t 35) (.t 37) (.c (.bool false)) },
      { dst := some 39, g := some (32, true), r := .move (.t 38) },
      { dst := some 40, g := some (39, true), r := .load true 2 (.t 5) },
      { dst := some 41, g := some (39, true), r := .call .frz F.cascadelaw17_right [(.t 40)] },
      { dst := some 42, g := some (32, true), r := .pick (.t 39) (.t 41) (.c (.bool false)) },
      { dst := some 43, g := some (32, true), r := .un .not (.t 42) },
      { dst := some 44, r := .pick (.t 32) (.t 43) (.c (.bool false)) },
      { dst := some 6, r := .move (.t 44) }])
    .ret)
    .skip))
  (.seq (.seq (.reg [
    { dst := some 45, r := .load true 2 (.t 3) },
    { dst := some 46, r := .load true 2 (.t 4) },
    { dst := some 47, r := .call .frz F.usage_Within [(.t 45), (.t 46)] },
    { dst := some 48, r := .move (.t 47) },
    { dst := some 49, g := some (48, true), r := .load true 2 (.t 4) },
    { dst := some 50, g := some (48, true), r := .load true 2 (.t 5) },
    { dst := some 51, g := some (48, true), r := .call .frz F.usage_Within [(.t 49), (.t 50)] },
    { dst := some 52, r := .pick (.t 48) (.t 51) (.c (.bool false)) },
    { dst := some 53, r := .move (.t 52) },
    { dst := some 54, g := some (53, true), r := .load true 2 (.t 3) },
    { dst := some 55, g := some (53, true), r := .load true 2 (.t 5) },
    { dst := some 56, g := some (53, true), r := .call .frz F.usage_Within [(.t 54), (.t 55)] },
    { dst := some 57, g := some (53, true), r := .un .not (.t 56) },
    { dst := some 58, r := .pick (.t 53) (.t 57) (.c (.bool false)) },
    { dst := some 59, r := .move (.t 58) },
    { dst := some 60, g := some (59, false), r := .load true 2 (.t 3) },
    { dst := some 61, g := some (59, false), r := .load true 2 (.t 4) },
    { dst := some 62, g := some (59, false), r := .call .frz F.usage_Within [(.t 60), (.t 61)] },
    { dst := some 63, g := some (59, false), r := .move (.t 62) },
    { dst := some 64, g := some (63, true), r := .load true 2 (.t 4) },
    { dst := some 65, g := some (63, true), r := .load true 2 (.t 3) },
    { dst := some 66, g := some (63, true), r := .call .frz F.usage_Within [(.t 64), (.t 65)] },
    { dst := some 67, g := some (59, false), r := .pick (.t 63) (.t 66) (.c (.bool false)) },
    { dst := some 68, g := some (59, false), r := .move (.t 67) },
    { dst := some 69, g := some (68, true), r := .load true 2 (.t 3) },
    { dst := some 70, g := some (68, true), r := .load true 2 (.t 4) },
    { dst := some 71, g := some (68, true), r := .eq true (.struct [.str, .str]) (.t 69) (.t 70) },
    { dst := some 72, g := some (59, false), r := .pick (.t 68) (.t 71) (.c (.bool false)) },
    { dst := some 73, r := .pick (.t 59) (.c (.bool true)) (.t 72) }])
  (.cond (.t 73)
    (.seq (.reg [
      { dst := some 6, r := .move (.c (.bool false)) }])
    .ret)
    .skip))
  (.seq (.reg [
    { dst := some 74, r := .faddr 0 (.t 3) },
    { dst := some 75, r := .load false 1 (.t 74) },
    { dst := some 76, r := .faddr 1 (.t 3) },
    { dst := some 77, r := .load false 1 (.t 76) },
    { dst := some 78, r := .bin .add (.t 77) (.c (.str [33])) },
    { dst := some 79, r := .build [(.str []), (.str [])] [(0, 1, (.t 75)), (1, 1, (.t 78))] },
    { dst := some 7, r := .alloc [(.str []), (.str [])] },
    { dst := none, r := .store 2 (.t 7) (.t 79) }])
  (.seq (.reg [
    { dst := some 80, r := .load true 2 (.t 7) },
    { dst := some 81, r := .call .frz F.cascaderef09_RightType [(.t 80)] },
    { dst := some 82, r := .un .not (.t 81) },
    { dst := some 83, r := .move (.t 82) },
    { dst := some 84, g := some (83, false), r := .load true 2 (.t 7) },
    { dst := some 85, g := some (83, false), r := .load true 2 (.t 3) },
    { dst := some 86, g := some (83, false), r := .call .frz F.usage_Within [(.t 84), (.t 85)] },
    { dst := some 87, g := some (83, false), r := .move (.t 86) },
    { dst := some 88, g := some (87, true), r := .load true 2 (.t 3) },
    { dst := some 89, g := some (87, true), r := .load true 2 (.t 7) },
    { dst := some 90, g := some (87, true), r := .call .frz F.usage_Within [(.t 88), (.t 89)] },
    { dst := some 91, g := some (87, true), r := .un .not (.t 90) },
    { dst := some 92, g := some (83, false), r := .pick (.t 87) (.t 91) (.c (.bool false)) },
    { dst := some 93, r := .pick (.t 83) (.c (.bool true)) (.t 92) },
    { dst := some 6, r := .move (.t 93) }])
  .ret)))))
def r_cascadelaw17_awake : RF where
  np := 0
  res := [.tmp 0]
  body := (.seq (.reg [
    { dst := some 0, r := .move (.c (.bool false)) }])
  (.seq (.reg [
    { dst := some 1, r := .build [(.str []), (.str [])] [(0, 1, (.c (.str [73, 110, 116]))), (1, 1, (.c (.str [33])))] },
    { dst := some 2, r := .build [(.str []), (.str [])] [(0, 1, (.c (.str [73, 110, 116])))] },
    { dst := some 3, r := .call .frz F.usage_Within [(.t 1), (.t 2)] },
    { dst := some 0, r := .move (.t 3) }])
  .ret))
def r_cascadelaw17_right : RF where
  np := 1
  res := [.tmp 2]
  body := (.seq (.reg [
    { dst := some 1, r := .ibox (.t 0) },
    { dst := some 2, r := .move (.c (.bool false)) }])
  (.seq (.reg [
    { dst := some 3, r := .faddr 0 (.t 1) },
    { dst := some 4, r := .load false 1 (.t 3) },
    { dst := some 5, r := .len .str (.t 4) },
    { dst := some 6, r := .bin .leq (.t 5) (.c (.int .i64 100)) },
    { dst := some 7, r := .move (.t 6) },
    { dst := some 8, g := some (7, true), r := .faddr 1 (.t 1) },
    { dst := some 9, g := some (7, true), r := .load false 1 (.t 8) },
    { dst := some 10, g := some (7, true), r := .len .str (.t 9) },
    { dst := some 11, g := some (7, true), r := .bin .leq (.t 10) (.c (.int .i64 100)) },
    { dst := some 12, r := .pick (.t 7) (.t 11) (.c (.bool false)) },
    { dst := some 13, r := .move (.t 12) },
    { dst := some 14, g := some (13, true), r := .load true 2 (.t 1) },
    { dst := some 15, g := some (13, true), r := .call .frz F.cascaderef09_RightType [(.t 14)] },
    { dst := some 16, r := .pick (.t 13) (.t 15) (.c (.bool false)) },
    { dst := some 2, r := .move (.t 16) }])
  .ret))
def r_usage_Within : RF where
  np := 2
  res := [.tmp 4]
  body := (.seq (.reg [
    { dst := some 2, r := .ibox (.t 0) },
    { dst := some 3, r := .ibox (.t 1) },
    { dst := some 4, r := .move (.c (.bool false)) }])
  (.seq (.block 0 (.seq (.reg [
    { dst := some 6, r := .load true 2 (.t 3) },
    { dst := some 7, r := .call .frz F.usage_strict [(.t 6)] },
    { dst := some 5, r := .move (.t 7) }])
  (.cond (.t 5)
    (.seq (.dreg [
      { dst := some 8, r := .load true 2 (.t 2) },
      { dst := some 9, r := .call .frz F.usage_strict [(.t 8)] },
      { dst := some 10, r := .move (.t 9) },
      { dst := some 11, g := some (10, true), r := .load true 2 (.t 2) },
      { dst := some 12, g := some (10, true), r := .call .frz F.usage_inner [(.t 11)] },
      { dst := some 13, g := some (10, true), r := .load true 2 (.t 3) },
      { dst := some 14, g := some (10, true), r := .call .frz F.usage_inner [(.t 13)] },
      { dst := some 15, g := some (10, true), r := .call .frz F.usage_Within [(.t 12), (.t 14)] },
      { dst := some 16, r := .pick (.t 10) (.t 15) (.c (.bool false)) },
      { dst := some 4, r := .move (.t 16) }] [
      ])
    .ret)
    (.seq (.reg [
      { dst := some 18, r := .load true 2 (.t 2) },
      { dst := some 19, r := .call .frz F.usage_strict [(.t 18)] },
      { dst := some 17, r := .move (.t 19) }])
    (.cond (.t 17)
      (.seq (.dreg [
        { dst := some 20, r := .load true 2 (.t 2) },
        { dst := some 21, r := .call .frz F.usage_inner [(.t 20)] },
        { dst := some 22, r := .load true 2 (.t 3) },
        { dst := some 23, r := .call .frz F.usage_Within [(.t 21), (.t 22)] },
        { dst := some 4, r := .move (.t 23) }] [
        ])
      .ret)
      (.seq (.reg [
        { dst := some 25, r := .load true 2 (.t 3) },
        { dst := some 26, r := .call .frz F.usage_list [(.t 25)] },
        { dst := some 24, r := .move (.t 26) }])
      (.cond (.t 24)
        (.seq (.dreg [
          { dst := some 27, r := .load true 2 (.t 2) },
          { dst := some 28, r := .call .frz F.usage_list [(.t 27)] },
          { dst := some 29, r := .move (.t 28) },
          { dst := some 30, g := some (29, true), r := .load true 2 (.t 2) },
          { dst := some 31, g := some (29, true), r := .call .frz F.usage_inner [(.t 30)] },
          { dst := some 32, g := some (29, true), r := .load true 2 (.t 3) },
          { dst := some 33, g := some (29, true), r := .call .frz F.usage_inner [(.t 32)] },
          { dst := some 34, g := some (29, true), r := .call .frz F.usage_Within [(.t 31), (.t 33)] },
          { dst := some 35, r := .pick (.t 29) (.t 34) (.c (.bool false)) },
          { dst := some 4, r := .move (.t 35) }] [
          ])
        .ret)
        .skip)))))))
  (.seq (.reg [
    { dst := some 36, r := .load true 2 (.t 2) },
    { dst := some 37, r := .call .frz F.usage_list [(.t 36)] },
    { dst := some 38, r := .un .not (.t 37) },
    { dst := some 39, r := .move (.t 38) },
    { dst := some 40, g := some (39, true), r := .faddr 0 (.t 2) },
    { dst := some 41, g := some (39, true), r := .load false 1 (.t 40) },
    { dst := some 42, g := some (39, true), r := .faddr 0 (.t 3) },
    { dst := some 43, g := some (39, true), r := .load false 1 (.t 42) },
    { dst := some 44, g := some (39, true), r := .bin .eql (.t 41) (.t 43) },
    { dst := some 45, r := .pick (.t 39) (.t 44) (.c (.bool false)) },
    { dst := some 4, r := .move (.t 45) }])
  .ret)))
def r_cascaderef17_Within : RF where
  np := 2
  res := [.tmp 4]
  body := (.seq (.reg [
    { dst := some 2, r := .ibox (.t 0) },
    { dst := some 3, r := .ibox (.t 1) },
    { dst := some 4, r := .move (.c (.bool false)) }])
  (.seq (.seq (.reg [
    { dst := some 5, r := .load true 2 (.t 3) },
    { dst := some 6, r := .call .frz F.cascaderef17_last [(.t 5)] },
    { dst := some 7, r := .bin .eql (.t 6) (.c (.int .u8 33)) }])
  (.cond (.t 7)
    (.seq (.dreg [
      { dst := some 8, r := .load true 2 (.t 2) },
      { dst := some 9, r := .call .frz F.cascaderef17_last [(.t 8)] },
      { dst := some 10, r := .bin .eql (.t 9) (.c (.int .u8 33)) },
      { dst := some 11, r := .move (.t 10) },
      { dst := some 12, g := some (11, true), r := .load true 2 (.t 2) },
      { dst := some 13, g := some (11, true), r := .call .frz F.cascaderef17_less [(.t 12)] },
      { dst := some 14, g := some (11, true), r := .load true 2 (.t 3) },
      { dst := some 15, g := some (11, true), r := .call .frz F.cascaderef17_less [(.t 14)] },
      { dst := some 16, g := some (11, true), r := .call .frz F.cascaderef17_Within [(.t 13), (.t 15)] },
      { dst := some 17, r := .pick (.t 11) (.t 16) (.c (.bool false)) },
      { dst := some 4, r := .move (.t 17) }] [
      ])
    .ret)
    .skip))
  (.seq (.seq (.reg [
    { dst := some 18, r := .load true 2 (.t 2) },
    { dst := some 19, r := .call .frz F.cascaderef17_last [(.t 18)] },
    { dst := some 20, r := .bin .eql (.t 19) (.c (.int .u8 33)) }])
  (.cond (.t 20)
    (.seq (.dreg [
      { dst := some 21, r := .load true 2 (.t 2) },
      { dst := some 22, r := .call .frz F.cascaderef17_less [(.t 21)] },
      { dst := some 23, r := .load true 2 (.t 3) },
      { dst := some 24, r := .call .frz F.cascaderef17_Within [(.t 22), (.t 23)] },
      { dst := some 4, r := .move (.t 24) }] [
      ])
    .ret)
    .skip))
  (.seq (.seq (.reg [
    { dst := some 25, r := .load true 2 (.t 3) },
    { dst := some 26, r := .call .frz F.cascaderef17_last [(.t 25)] },
    { dst := some 27, r := .bin .eql (.t 26) (.c (.int .u8 91)) }])
  (.cond (.t 27)
    (.seq (.dreg [
      { dst := some 28, r := .load true 2 (.t 2) },
      { dst := some 29, r := .call .frz F.cascaderef17_last [(.t 28)] },
      { dst := some 30, r := .bin .eql (.t 29) (.c (.int .u8 91)) },
      { dst := some 31, r := .move (.t 30) },
      { dst := some 32, g := some (31, true), r := .load true 2 (.t 2) },
      { dst := some 33, g := some (31, true), r := .call .frz F.cascaderef17_less [(.t 32)] },
      { dst := some 34, g := some (31, true), r := .load true 2 (.t 3) },
      { dst := some 35, g := some (31, true), r := .call .frz F.cascaderef17_less [(.t 34)] },
      { dst := some 36, g := some (31, true), r := .call .frz F.cascaderef17_Within [(.t 33), (.t 35)] },
      { dst := some 37, r := .pick (.t 31) (.t 36) (.c (.bool false)) },
      { dst := some 4, r := .move (.t 37) }] [
      ])
    .ret)
    .skip))
  (.seq (.reg [
    { dst := some 38, r := .load true 2 (.t 2) },
    { dst := some 39, r := .call .frz F.cascaderef17_last [(.t 38)] },
    { dst := some 40, r := .bin .eql (.t 39) (.c (.int .u8 0)) },
    { dst := some 41, r := .move (.t 40) },
    { dst := some 42, g := some (41, true), r := .faddr 0 (.t 2) },
    { dst := some 43, g := some (41, true), r := .load false 1 (.t 42) },
    { dst := some 44, g := some (41, true), r := .faddr 0 (.t 3) },
    { dst := some 45, g := some (41, true), r := .load false 1 (.t 44) },
    { dst := some 46, g := some (41, true), r := .bin .eql (.t 43) (.t 45) },
    { dst := some 47, r := .pick (.t 41) (.t 46) (.c (.bool false)) },
    { dst := some 4, r := .move (.t 47) }])
  .ret)))))
def r_cascaderef09_RightType : RF where
  np := 1
  res := [.tmp 2]
  body := (.seq (.reg [
    { dst := some 1, r := .ibox (.t 0) },
    { dst := some 2, r := .move (.c (.bool false)) }])
  (.seq (.reg [
    { dst := some 3, r := .move (.c (.int .i64 0)) }])
  (.seq (.seq (.reg [
    { dst := some 4, r := .move (.c (.int .i64 0)) }])
  (.block 0 (.loop (.tidy [1, 3, 4] []
    (.seq (.seq (.reg [
      { dst := some 6, r := .move (.t 4) },
      { dst := some 7, r := .faddr 1 (.t 1) },
      { dst := some 8, r := .load false 1 (.t 7) },
      { dst := some 9, r := .len .str (.t 8) },
      { dst := some 10, r := .bin .lss (.t 6) (.t 9) }])
    (.cond (.t 10)
      .skip
      (.exit 0)))
    (.seq (.block 1 (.seq (.reg [
      { dst := some 13, r := .faddr 1 (.t 1) },
      { dst := some 14, r := .load false 1 (.t 13) },
      { dst := some 15, r := .move (.t 4) },
      { dst := some 16, r := .idx (.t 14) (.t 15) },
      { dst := some 5, r := .move (.t 16) }])
    (.seq (.seq (.reg [
      { dst := some 17, r := .move (.t 5) },
      { dst := some 18, r := .bin .neq (.t 17) (.c (.int .u8 33)) },
      { dst := some 19, r := .move (.t 18) },
      { dst := some 20, g := some (19, true), r := .move (.t 5) },
      { dst := some 21, g := some (19, true), r := .bin .neq (.t 20) (.c (.int .u8 91)) },
      { dst := some 22, r := .pick (.t 19) (.t 21) (.c (.bool false)) },
      { dst := some 23, r := .move (.t 22) },
      { dst := some 24, g := some (23, false), r := .move (.t 5) },
      { dst := some 25, g := some (23, false), r := .bin .eql (.t 24) (.c (.int .u8 33)) },
      { dst := some 26, g := some (23, false), r := .move (.t 25) },
      { dst := some 27, g := some (26, true), r := .move (.t 4) },
      { dst := some 28, g := some (26, true), r := .bin .gtr (.t 27) (.c (.int .i64 0)) },
      { dst := some 29, g := some (23, false), r := .pick (.t 26) (.t 28) (.c (.bool false)) },
      { dst := some 30, g := some (23, false), r := .move (.t 29) },
      { dst := some 31, g := some (30, true), r := .faddr 1 (.t 1) },
      { dst := some 32, g := some (30, true), r := .load false 1 (.t 31) },
      { dst := some 33, g := some (30, true), r := .move (.t 4) },
      { dst := some 34, g := some (30, true), r := .bin .sub (.t 33) (.c (.int .i64 1)) },
      { dst := some 35, g := some (30, true), r := .idx (.t 32) (.t 34) },
      { dst := some 36, g := some (30, true), r := .bin .eql (.t 35) (.c (.int .u8 33)) },
      { dst := some 37, g := some (23, false), r := .pick (.t 30) (.t 36) (.c (.bool false)) },
      { dst := some 38, r := .pick (.t 23) (.c (.bool true)) (.t 37) }])
    (.cond (.t 38)
      (.seq (.reg [
        { dst := some 2, r := .move (.c (.bool false)) }])
      .ret)
      .skip))
    (.seq (.reg [
      { dst := some 39, r := .move (.t 5) },
      { dst := some 40, r := .bin .eql (.t 39) (.c (.int .u8 91)) }])
    (.cond (.t 40)
      (.reg [
        { dst := some 41, r := .move (.t 3) },
        { dst := some 42, r := .bin .add (.t 41) (.c (.int .i64 1)) },
        { dst := some 3, r := .move (.t 42) }])
      .skip)))))
    (.reg [
      { dst := some 11, r := .move (.t 4) },
      { dst := some 12, r := .bin .add (.t 11) (.c (.int .i64 1)) },
      { dst := some 4, r := .move (.t 12) }])))))))
  (.tidy [1, 3] []
  (.seq (.reg [
    { dst := some 43, r := .move (.t 3) },
    { dst := some 44, r := .bin .leq (.t 43) (.c (.int .i64 4)) },
    { dst := some 45, r := .move (.t 44) },
    { dst := some 46, g := some (45, true), r := .faddr 0 (.t 1) },
    { dst := some 47, g := some (45, true), r := .load false 1 (.t 46) },
    { dst := some 48, g := some (45, true), r := .call .frz F.cascaderef01_Name [(.t 47)] },
    { dst := some 49, r := .pick (.t 45) (.t 48) (.c (.bool false)) },
    { dst := some 2, r := .move (.t 49) }])
  .ret)))))
def r_usage_strict : RF where
  np := 1
  res := [.tmp 2]
  body := (.seq (.reg [
    { dst := some 1, r := .ibox (.t 0) },
    { dst := some 2, r := .move (.c (.bool false)) }])
  (.seq (.reg [
    { dst := some 3, r := .faddr 1 (.t 1) },
    { dst := some 4, r := .load false 1 (.t 3) },
    { dst := some 5, r := .call .frz F.strings_HasSuffix [(.t 4), (.c (.str [33]))] },
    { dst := some 2, r := .move (.t 5) }])
  .ret))
def r_usage_inner : RF where
  np := 1
  res := [.cell 2 true 2]
  body := (.seq (.reg [
    { dst := some 1, r := .ibox (.t 0) },
    { dst := some 2, r := .alloc [(.str []), (.str [])] }])
  (.seq (.dreg [
    { dst := some 3, r := .faddr 0 (.t 1) },
    { dst := some 4, r := .load false 1 (.t 3) },
    { dst := some 5, r := .faddr 1 (.t 1) },
    { dst := some 6, r := .load false 1 (.t 5) },
    { dst := some 7, r := .faddr 1 (.t 1) },
    { dst := some 8, r := .load false 1 (.t 7) },
    { dst := some 9, r := .len .str (.t 8) },
    { dst := some 10, r := .bin .sub (.t 9) (.c (.int .i64 1)) },
    { dst := some 11, r := .slice 0 (.t 6) none (some (.t 10)) },
    { dst := some 12, r := .build [(.str []), (.str [])] [(0, 1, (.t 4)), (1, 1, (.t 11))] }] [
    { dst := none, r := .store 2 (.t 2) (.t 12) }])
  .ret))
def r_usage_list : RF where
  np := 1
  res := [.tmp 2]
  body := (.seq (.reg [
    { dst := some 1, r := .ibox (.t 0) },
    { dst := some 2, r := .move (.c (.bool false)) }])
  (.seq (.reg [
    { dst := some 3, r := .faddr 1 (.t 1) },
    { dst := some 4, r := .load false 1 (.t 3) },
    { dst := some 5, r := .call .frz F.strings_HasSuffix [(.t 4), (.c (.str [91]))] },
    { dst := some 2, r := .move (.t 5) }])
  .ret))
def r_cascaderef17_last : RF where
  np := 1
  res := [.tmp 2]
  body := (.seq (.reg [
    { dst := some 1, r := .ibox (.t 0) },
    { dst := some 2, r := .move (.c (.int .u8 0)) }])
  (.seq (.seq (.reg [
    { dst := some 3, r := .faddr 1 (.t 1) },
    { dst := some 4, r := .load false 1 (.t 3) },
    { dst := some 5, r := .bin .eql (.t 4) (.c (.str [])) }])
  (.cond (.t 5)
    (.seq (.reg [
      { dst := some 2, r := .move (.c (.int .u8 0)) }])
    .ret)
    .skip))
  (.seq (.reg [
    { dst := some 6, r := .faddr 1 (.t 1) },
    { dst := some 7, r := .load false 1 (.t 6) },
    { dst := some 8, r := .faddr 1 (.t 1) },
    { dst := some 9, r := .load false 1 (.t 8) },
    { dst := some 10, r := .len .str (.t 9) },
    { dst := some 11, r := .bin .sub (.t 10) (.c (.int .i64 1)) },
    { dst := some 12, r := .idx (.t 7) (.t 11) },
    { dst := some 2, r := .move (.t 12) }])
  .ret)))
def r_cascaderef17_less : RF where
  np := 1
  res := [.cell 2 true 2]
  body := (.seq (.reg [
    { dst := some 1, r := .ibox (.t 0) },
    { dst := some 2, r := .alloc [(.str []), (.str [])] }])
  (.seq (.dreg [
    { dst := some 3, r := .faddr 0 (.t 1) },
    { dst := some 4, r := .load false 1 (.t 3) },
    { dst := some 5, r := .faddr 1 (.t 1) },
    { dst := some 6, r := .load false 1 (.t 5) },
    { dst := some 7, r := .faddr 1 (.t 1) },
    { dst := some 8, r := .load false 1 (.t 7) },
    { dst := some 9, r := .len .str (.t 8) },
    { dst := some 10, r := .bin .sub (.t 9) (.c (.int .i64 1)) },
    { dst := some 11, r := .slice 0 (.t 6) none (some (.t 10)) },
    { dst := some 12, r := .build [(.str []), (.str [])] [(0, 1, (.t 4)), (1, 1, (.t 11))] }] [
    { dst := none, r := .store 2 (.t 2) (.t 12) }])
  .ret))
def r_cascaderef01_Name : RF where
  np := 1
  res := [.tmp 2]
  body := (.seq (.reg [
    { dst := some 2, r := .move (.c (.bool false)) }])
  (.seq (.seq (.reg [
    { dst := some 3, r := .move (.c (.int .i64 0)) }])
  (.block 0 (.loop (.tidy [0, 3] []
    (.seq (.seq (.reg [
      { dst := some 4, r := .move (.t 3) },
      { dst := some 5, r := .move (.t 0) },
      { dst := some 6, r := .len .str (.t 5) },
      { dst := some 7, r := .bin .lss (.t 4) (.t 6) }])
    (.cond (.t 7)
      .skip
      (.exit 0)))
    (.seq (.block 1 (.seq (.reg [
      { dst := some 10, r := .move (.t 0) },
      { dst := some 11, r := .move (.t 3) },
      { dst := some 12, r := .idx (.t 10) (.t 11) },
      { dst := some 13, r := .call .frz F.cascaderef01_Letter [(.t 12)] },
      { dst := some 14, r := .un .not (.t 13) },
      { dst := some 15, r := .move (.t 14) },
      { dst := some 16, g := some (15, true), r := .move (.t 3) },
      { dst := some 17, g := some (15, true), r := .bin .eql (.t 16) (.c (.int .i64 0)) },
      { dst := some 18, g := some (15, true), r := .move (.t 17) },
      { dst := some 19, g := some (18, false), r := .move (.t 0) },
      { dst := some 20, g := some (18, false), r := .move (.t 3) },
      { dst := some 21, g := some (18, false), r := .idx (.t 19) (.t 20) },
      { dst := some 22, g := some (18, false), r := .call .frz F.cascaderef01_Digit [(.t 21)] },
      { dst := some 23, g := some (18, false), r := .un .not (.t 22) },
      { dst := some 24, g := some (15, true), r := .pick (.t 18) (.c (.bool true)) (.t 23) },
      { dst := some 25, r := .pick (.t 15) (.t 24) (.c (.bool false)) }])
    (.cond (.t 25)
      (.seq (.reg [
        { dst := some 2, r := .move (.c (.bool false)) }])
      .ret)
      .skip)))
    (.reg [
      { dst := some 8, r := .move (.t 3) },
      { dst := some 9, r := .bin .add (.t 8) (.c (.int .i64 1)) },
      { dst := some 3, r := .move (.t 9) }])))))))
  (.tidy [0] []
  (.seq (.reg [
    { dst := some 26, r := .move (.t 0) },
    { dst := some 27, r := .len .str (.t 26) },
    { dst := some 28, r := .bin .gtr (.t 27) (.c (.int .i64 0)) },
    { dst := some 2, r := .move (.t 28) }])
  .ret))))
def r_strings_HasSuffix : RF where
  np := 2
  res := [.tmp 4]
  body := (.seq (.reg [
    { dst := some 4, r := .move (.c (.bool false)) }])
  (.seq (.reg [
    { dst := some 5, r := .move (.t 0) },
    { dst := some 6, r := .move (.t 1) },
    { dst := some 7, r := .call .frz F.internal_stringslite_HasSuffix [(.t 5), (.t 6)] },
    { dst := some 4, r := .move (.t 7) }])
  .ret))
def r_cascaderef01_Letter : RF where
  np := 1
  res := [.tmp 2]
  body := (.seq (.reg [
    { dst := some 2, r := .move (.c (.bool false)) }])
  (.seq (.reg [
    { dst := some 3, r := .move (.t 0) },
    { dst := some 4, r := .bin .geq (.t 3) (.c (.int .u8 97)) },
    { dst := some 5, r := .move (.t 4) },
    { dst := some 6, g := some (5, true), r := .move (.t 0) },
    { dst := some 7, g := some (5, true), r := .bin .leq (.t 6) (.c (.int .u8 122)) },
    { dst := some 8, r := .pick (.t 5) (.t 7) (.c (.bool false)) },
    { dst := some 9, r := .move (.t 8) },
    { dst := some 10, g := some (9, false), r := .move (.t 0) },
    { dst := some 11, g := some (9, false), r := .bin .geq (.t 10) (.c (.int .u8 65)) },
    { dst := some 12, g := some (9, false), r := .move (.t 11) },
    { dst := some 13, g := some (12, true), r := .move (.t 0) },
    { dst := some 14, g := some (12, true), r := .bin .leq (.t 13) (.c (.int .u8 90)) },
    { dst := some 15, g := some (9, false), r := .pick (.t 12) (.t 14) (.c (.bool false)) },
    { dst := some 16, r := .pick (.t 9) (.c (.bool true)) (.t 15) },
    { dst := some 17, r := .move (.t 16) },
    { dst := some 18, g := some (17, false), r := .move (.t 0) },
    { dst := some 19, g := some (17, false), r := .bin .eql (.t 18) (.c (.int .u8 95)) },
    { dst := some 20, r := .pick (.t 17) (.c (.bool true)) (.t 19) },
    { dst := some 2, r := .move (.t 20) }])
  .ret))
def r_cascaderef01_Digit : RF where
  np := 1
  res := [.tmp 2]
  body := (.seq (.reg [
    { dst := some 2, r := .move (.c (.bool false)) }])
  (.seq (.reg [
    { dst := some 3, r := .move (.t 0) },
    { dst := some 4, r := .bin .geq (.t 3) (.c (.int .u8 48)) },
    { dst := some 5, r := .move (.t 4) },
    { dst := some 6, g := some (5, true), r := .move (.t 0) },
    { dst := some 7, g := some (5, true), r := .bin .leq (.t 6) (.c (.int .u8 57)) },
    { dst := some 8, r := .pick (.t 5) (.t 7) (.c (.bool false)) },
    { dst := some 2, r := .move (.t 8) }])
  .ret))
def r_internal_stringslite_HasSuffix : RF where
  np := 2
  res := [.tmp 4]
  body := (.seq (.reg [
    { dst := some 4, r := .move (.c (.bool false)) }])
  (.seq (.reg [
    { dst := some 5, r := .move (.t 0) },
    { dst := some 6, r := .len .str (.t 5) },
    { dst := some 7, r := .move (.t 1) },
    { dst := some 8, r := .len .str (.t 7) },
    { dst := some 9, r := .bin .geq (.t 6) (.t 8) },
    { dst := some 10, r := .move (.t 9) },
    { dst := some 11, g := some (10, true), r := .move (.t 0) },
    { dst := some 12, g := some (10, true), r := .move (.t 0) },
    { dst := some 13, g := some (10, true), r := .len .str (.t 12) },
    { dst := some 14, g := some (10, true), r := .move (.t 1) },
    { dst := some 15, g := some (10, true), r := .len .str (.t 14) },
    { dst := some 16, g := some (10, true), r := .bin .sub (.t 13) (.t 15) },
    { dst := some 17, g := some (10, true), r := .slice 0 (.t 11) (some (.t 16)) none },
    { dst := some 18, g := some (10, true), r := .move (.t 1) },
    { dst := some 19, g := some (10, true), r := .bin .eql (.t 17) (.t 18) },
    { dst := some 20, r := .pick (.t 10) (.t 19) (.c (.bool false)) },
    { dst := some 4, r := .move (.t 20) }])
  .ret))
def table : FuncId → Option RF
  | 3 => some r_cascadelaw17_UsageWithin
  | 4 => some r_cascadelaw17_UsageThird
  | 7 => some r_cascadelaw17_awake
  | 8 => some r_cascadelaw17_right
  | 9 => some r_usage_Within
  | 10 => some r_cascaderef17_Within
  | 11 => some r_cascaderef09_RightType
  | 23 => some r_usage_strict
  | 24 => some r_usage_inner
  | 25 => some r_usage_list
  | 26 => some r_cascaderef17_last
  | 27 => some r_cascaderef17_less
  | 28 => some r_cascaderef01_Name
  | 32 => some r_strings_HasSuffix
  | 33 => some r_cascaderef01_Letter
  | 34 => some r_cascaderef01_Digit
  | 39 => some r_internal_stringslite_HasSuffix
  | _ => none
end Go.Abs.B
