import Derived.Test.YtbfnelnbjcfliaaDoorAbsL
import Derived.Test.YtbfnelnbjcfliaaDoorXT
namespace Go.Abs.T
namespace F
abbrev main_main : FuncId := 0
abbrev gosem_cut : FuncId := 1
abbrev gosem_cut_init : FuncId := 2
abbrev cascadelaw03_TreeRight : FuncId := 3
abbrev cascadelaw03_TreeGets : FuncId := 4
abbrev cascadelaw03_TreeWith : FuncId := 5
abbrev cascadelaw03_TreeSame : FuncId := 6
abbrev cascadelaw04_DynFrom : FuncId := 7
abbrev cascadelaw04_DynTo : FuncId := 8
abbrev cascadelaw04_DynGoes : FuncId := 9
abbrev cascadelaw03_TreeOwn : FuncId := 10
abbrev cascadelaw03_TreeOrders : FuncId := 11
abbrev cascadelaw03_awake : FuncId := 12
abbrev cascaderef03_Few : FuncId := 13
abbrev cascaderef03_Right : FuncId := 14
abbrev cascaderef03_Count : FuncId := 15
abbrev tree_Clone : FuncId := 16
abbrev tree_Right : FuncId := 17
abbrev tree_Count : FuncId := 18
abbrev cascaderef03_Same : FuncId := 19
abbrev cascadelaw03_zero : FuncId := 20
abbrev tree_Get : FuncId := 21
abbrev cascaderef03_At : FuncId := 22
abbrev tree_With : FuncId := 23
abbrev cascaderef01_Right : FuncId := 24
abbrev cascaderef03_With : FuncId := 25
abbrev tree_Same : FuncId := 26
abbrev tree_Alike : FuncId := 27
abbrev cascaderef03_Sorted : FuncId := 28
abbrev cascadelaw04_awake : FuncId := 29
abbrev dyn_Odd : FuncId := 30
abbrev dyn_From : FuncId := 31
abbrev cascaderef04_From : FuncId := 32
abbrev dyn_Kind : FuncId := 33
abbrev cascaderef04_Kind : FuncId := 34
abbrev dyn_To : FuncId := 35
abbrev dyn_Go : FuncId := 36
abbrev cascaderef04_Go : FuncId := 37
abbrev tree_Ordered : FuncId := 38
abbrev cascadelaw03_spoil : FuncId := 39
abbrev cascadelaw03_few : FuncId := 40
abbrev cascadelaw03_twice : FuncId := 41
abbrev cascaderef03_Ordered : FuncId := 42
abbrev cascaderef03_few : FuncId := 43
abbrev cascaderef03_right : FuncId := 44
abbrev tree_clone : FuncId := 45
abbrev tree_Right_1 : FuncId := 46
abbrev tree_unused : FuncId := 47
abbrev text_Right : FuncId := 48
abbrev slices_ContainsFunc__api_Value_api_Value : FuncId := 49
abbrev tree_Right_1_1 : FuncId := 50
abbrev tree_keys : FuncId := 51
abbrev slices_ContainsFunc__api_Pair_api_Pair : FuncId := 52
abbrev tree_Right_1_2 : FuncId := 53
abbrev tree_count : FuncId := 54
abbrev tree_get : FuncId := 55
abbrev tree_object : FuncId := 56
abbrev slices_IndexFunc__api_Pair_api_Pair : FuncId := 57
abbrev tree_With_1 : FuncId := 58
abbrev cascaderef01_Bad : FuncId := 59
abbrev tree_same : FuncId := 60
abbrev tree_alike : FuncId := 61
abbrev dyn_to : FuncId := 62
abbrev dyn_from : FuncId := 63
abbrev cascaderef04_Stands : FuncId := 64
abbrev dyn_member : FuncId := 65
abbrev tree_Ordered_1 : FuncId := 66
abbrev slices_SortStableFunc__api_Pair_api_Pair : FuncId := 67
abbrev tree_Ordered_2 : FuncId := 68
abbrev text_Bad : FuncId := 69
abbrev slices_IndexFunc__api_Value_api_Value : FuncId := 70
abbrev cascaderef01_Size : FuncId := 71
abbrev tree_same_1 : FuncId := 72
abbrev slices_EqualFunc__api_Value__api_Value_api_Value_api_Value : FuncId := 73
abbrev slices_EqualFunc__api_Pair__api_Pair_api_Pair_api_Pair : FuncId := 74
abbrev slices_stableCmpFunc_api_Pair : FuncId := 75
abbrev unicode_utf8_DecodeRuneInString : FuncId := 76
abbrev slices_insertionSortCmpFunc_api_Pair : FuncId := 77
abbrev slices_symMergeCmpFunc_api_Pair : FuncId := 78
abbrev unicode_utf8_decodeRuneInStringSlow : FuncId := 79
abbrev slices_rotateCmpFunc_api_Pair : FuncId := 80
abbrev slices_swapRangeCmpFunc_api_Pair : FuncId := 81
abbrev runtime_boundsError_Error : FuncId := 82
abbrev runtime_boundsError_RuntimeError : FuncId := 83
abbrev runtime_errorString_Error : FuncId := 84
abbrev runtime_errorString_RuntimeError : FuncId := 85
abbrev runtime_plainError_Error : FuncId := 86
abbrev runtime_plainError_RuntimeError : FuncId := 87
abbrev runtime_errorAddressString_Error : FuncId := 88
abbrev runtime_errorAddressString_RuntimeError : FuncId := 89
abbrev runtime_TypeAssertionError_Error : FuncId := 90
abbrev runtime_TypeAssertionError_RuntimeError : FuncId := 91
abbrev runtime_PanicNilError_Error : FuncId := 92
abbrev runtime_PanicNilError_RuntimeError : FuncId := 93
abbrev internal_abi_Type_Align : FuncId := 94
abbrev internal_runtime_maps_unhashableTypeError_Error : FuncId := 95
abbrev internal_runtime_maps_unhashableTypeError_RuntimeError : FuncId := 96
abbrev internal_abi_Kind_String : FuncId := 97
abbrev gosem_cut_vars : FuncId := 102
end F
def k_tree_unused_0 : KC := (.reg [
    { dst := some 1, r := .ibox (.t 0) },
    { dst := some 2, r := .move (.c (.bool false)) }]
  (.reg [
    { dst := some 4, r := .faddr 0 (.t 1) },
    { dst := some 5, r := .load false 1 (.t 4) },
    { dst := some 6, r := .bin .eql (.t 5) (.c (.int .i64 1)) },
    { dst := some 7, r := .move (.t 6) },
    { dst := some 8, g := some (7, false), r := .faddr 0 (.t 1) },
    { dst := some 9, g := some (7, false), r := .load false 1 (.t 8) },
    { dst := some 10, g := some (7, false), r := .bin .eql (.t 9) (.c (.int .i64 2)) },
    { dst := some 11, r := .pick (.t 7) (.c (.bool true)) (.t 10) },
    { dst := some 3, r := .move (.t 11) }]
  (.reg [
    { dst := some 12, r := .move (.t 3) },
    { dst := some 13, r := .move (.t 12) },
    { dst := some 14, g := some (13, false), r := .faddr 1 (.t 1) },
    { dst := some 15, g := some (13, false), r := .load false 1 (.t 14) },
    { dst := some 16, g := some (13, false), r := .bin .eql (.t 15) (.c (.int .i64 0)) },
    { dst := some 17, r := .pick (.t 13) (.c (.bool true)) (.t 16) },
    { dst := some 18, r := .move (.t 17) },
    { dst := some 19, g := some (18, true), r := .faddr 0 (.t 1) },
    { dst := some 20, g := some (18, true), r := .load false 1 (.t 19) },
    { dst := some 21, g := some (18, true), r := .bin .eql (.t 20) (.c (.int .i64 3)) },
    { dst := some 22, g := some (18, true), r := .move (.t 21) },
    { dst := some 23, g := some (22, false), r := .faddr 2 (.t 1) },
    { dst := some 24, g := some (22, false), r := .load false 1 (.t 23) },
    { dst := some 25, g := some (22, false), r := .bin .eql (.t 24) (.c (.str [])) },
    { dst := some 26, g := some (18, true), r := .pick (.t 22) (.c (.bool true)) (.t 25) },
    { dst := some 27, r := .pick (.t 18) (.t 26) (.c (.bool false)) },
    { dst := some 28, r := .move (.t 27) },
    { dst := some 29, g := some (28, true), r := .faddr 0 (.t 1) },
    { dst := some 30, g := some (28, true), r := .load false 1 (.t 29) },
    { dst := some 31, g := some (28, true), r := .bin .eql (.t 30) (.c (.int .i64 4)) },
    { dst := some 32, g := some (28, true), r := .move (.t 31) },
    { dst := some 33, g := some (32, false), r := .faddr 3 (.t 1) },
    { dst := some 34, g := some (32, false), r := .load false 1 (.t 33) },
    { dst := some 35, g := some (32, false), r := .len .sl (.t 34) },
    { dst := some 36, g := some (32, false), r := .bin .eql (.t 35) (.c (.int .i64 0)) },
    { dst := some 37, g := some (28, true), r := .pick (.t 32) (.c (.bool true)) (.t 36) },
    { dst := some 38, r := .pick (.t 28) (.t 37) (.c (.bool false)) },
    { dst := some 39, r := .move (.t 38) },
    { dst := some 40, g := some (39, true), r := .faddr 0 (.t 1) },
    { dst := some 41, g := some (39, true), r := .load false 1 (.t 40) },
    { dst := some 42, g := some (39, true), r := .bin .eql (.t 41) (.c (.int .i64 5)) },
    { dst := some 43, g := some (39, true), r := .move (.t 42) },
    { dst := some 44, g := some (43, false), r := .faddr 4 (.t 1) },
    { dst := some 45, g := some (43, false), r := .load false 1 (.t 44) },
    { dst := some 46, g := some (43, false), r := .len .sl (.t 45) },
    { dst := some 47, g := some (43, false), r := .bin .eql (.t 46) (.c (.int .i64 0)) },
    { dst := some 48, g := some (39, true), r := .pick (.t 43) (.c (.bool true)) (.t 47) },
    { dst := some 49, r := .pick (.t 39) (.t 48) (.c (.bool false)) },
    { dst := some 2, r := .move (.t 49) }]
  .ret)))
def r_tree_unused : KF where
  np := 1
  res := [.tmp 2]
  code := [k_tree_unused_0]
def k_text_Bad_0 : KC := (.reg [
    { dst := some 2, r := .move (.c (.int .i64 0)) }]
  (.seq (.reg [
    { dst := some 7, r := .move (.t 0) },
    { dst := some 8, r := .range (.t 7) }]
  (.block 0 (.loop ⟨1, [0, 8], [[8]]⟩)))
  ⟨4, [], []⟩))
def k_text_Bad_1 : KC := (.reg [
    { dst := some 9, r := .next (.t 8) },
    { dst := some 10, r := .extract (.t 9) 0 }]
  (.seq (.cond (.t 10)
  .skip
  (.exit 0))
  ⟨2, [0, 8, 9], [[8]]⟩))
def k_text_Bad_2 : KC := (.block 1 (.reg [
    { dst := some 11, r := .extract (.t 9) 1 },
    { dst := some 12, r := .extract (.t 9) 2 },
    { dst := some 3, r := .move (.t 11) },
    { dst := some 4, r := .move (.t 12) }]
  (.seq (.reg [
    { dst := some 13, r := .move (.t 4) },
    { dst := some 14, r := .bin .neq (.t 13) (.c (.int .i32 65533)) }]
  (.cond (.t 14)
  (.exit 1)
  .skip))
  ⟨3, [0, 3, 8], [[8]]⟩)))
def k_text_Bad_3 : KC := (.reg [
    { dst := some 16, r := .move (.t 0) },
    { dst := some 17, r := .move (.t 3) },
    { dst := some 18, r := .slice 0 (.t 16) (some (.t 17)) none },
    { dst := some 19, r := .call .pur F.unicode_utf8_DecodeRuneInString [(.t 18)] },
    { dst := some 15, r := .move (.t 19) },
    { dst := some 20, r := .extract (.t 15) 0 },
    { dst := some 21, r := .extract (.t 15) 1 },
    { dst := some 5, r := .move (.t 20) },
    { dst := some 6, r := .move (.t 21) }]
  (.reg [
    { dst := some 22, r := .move (.t 6) },
    { dst := some 23, r := .bin .eql (.t 22) (.c (.int .i64 1)) }]
  (.cond (.t 23)
  (.reg [
    { dst := some 24, r := .move (.t 3) },
    { dst := some 2, r := .move (.t 24) }]
  .ret)
  .skip)))
def k_text_Bad_4 : KC := (.reg [
    { dst := some 2, r := .move (.c (.int .i64 (-1))) }]
  .ret)
def r_text_Bad : KF where
  np := 1
  res := [.tmp 2]
  code := [k_text_Bad_0, k_text_Bad_1, k_text_Bad_2, k_text_Bad_3, k_text_Bad_4]
def k_text_Right_0 : KC := (.reg [
    { dst := some 2, r := .move (.c (.bool false)) }]
  (.reg [
    { dst := some 3, r := .move (.t 0) },
    { dst := some 4, r := .call .pur F.text_Bad [(.t 3)] },
    { dst := some 5, r := .bin .lss (.t 4) (.c (.int .i64 0)) },
    { dst := some 2, r := .move (.t 5) }]
  .ret))
def r_text_Right : KF where
  np := 1
  res := [.tmp 2]
  code := [k_text_Right_0]
def k_tree_keys_0 : KC := (.reg [
    { dst := some 2, r := .move (.c (.bool false)) }]
  (.reg [
    { dst := some 6, r := .mkMap },
    { dst := some 3, r := .move (.t 6) }]
  (.seq (.reg [
    { dst := some 7, r := .move (.t 0) },
    { dst := some 8, r := .len .sl (.t 7) },
    { dst := some 9, r := .move (.c (.int .i64 0)) }]
  (.block 0 (.loop ⟨1, [3, 7, 8, 9], [[6]]⟩)))
  ⟨4, [], []⟩)))
def k_tree_keys_1 : KC := (.reg [
    { dst := some 10, r := .bin .lss (.t 9) (.t 8) }]
  (.seq (.cond (.t 10)
  .skip
  (.exit 0))
  ⟨2, [3, 7, 8, 9], [[6]]⟩))
def k_tree_keys_2 : KC := (.seq (.block 1 (.reg [
    { dst := some 11, r := .iaddr 6 (.t 7) (.t 9) },
    { dst := some 12, r := .load true 6 (.t 11) },
    { dst := some 5, r := .alloc [(.str []), (.int .i64 0), (.int .i64 0), (.str []), (.sl []), (.sl [])] },
    { dst := none, r := .store 6 (.t 5) (.t 12) }]
  (.reg [
    { dst := some 13, r := .move (.t 3) },
    { dst := some 14, r := .faddr 0 (.t 5) },
    { dst := some 15, r := .load false 1 (.t 14) },
    { dst := some 16, r := .lookup .str (.int .i64 0) false (.t 13) (.t 15) },
    { dst := some 17, r := .bin .add (.t 16) (.c (.int .i64 1)) },
    { dst := none, r := .mapUpd .str (.t 13) (.t 15) (.t 17) }]
  (.reg [
    { dst := some 18, r := .move (.t 3) },
    { dst := some 19, r := .faddr 0 (.t 5) },
    { dst := some 20, r := .load false 1 (.t 19) },
    { dst := some 21, r := .lookup .str (.int .i64 0) false (.t 18) (.t 20) },
    { dst := some 22, r := .bin .gtr (.t 21) (.c (.int .i64 1)) },
    { dst := some 23, r := .move (.t 22) },
    { dst := some 24, g := some (23, false), r := .faddr 0 (.t 5) },
    { dst := some 25, g := some (23, false), r := .load false 1 (.t 24) },
    { dst := some 26, g := some (23, false), r := .call .pur F.text_Right [(.t 25)] },
    { dst := some 27, g := some (23, false), r := .un .not (.t 26) },
    { dst := some 28, r := .pick (.t 23) (.c (.bool true)) (.t 27) }]
  (.cond (.t 28)
  (.reg [
    { dst := some 2, r := .move (.c (.bool false)) }]
  .ret)
  .skip)))))
  ⟨3, [3, 7, 8, 9], [[6]]⟩)
def k_tree_keys_3 : KC := (.lreg [
    { dst := some 29, r := .bin .add (.t 9) (.c (.int .i64 1)) },
    { dst := some 9, r := .move (.t 29) }])
def k_tree_keys_4 : KC := (.reg [
    { dst := some 2, r := .move (.c (.bool true)) }]
  .ret)
def r_tree_keys : KF where
  np := 1
  res := [.tmp 2]
  code := [k_tree_keys_0, k_tree_keys_1, k_tree_keys_2, k_tree_keys_3, k_tree_keys_4]
def k_tree_Right_1_1_0 : KC := (.reg [
    { dst := some 3, r := .ibox (.t 0) },
    { dst := some 4, r := .move (.c (.bool false)) }]
  (.reg [
    { dst := some 5, r := .load false 1 (.t 1) },
    { dst := some 6, r := .load true 5 (.t 3) },
    { dst := some 7, r := .load false 1 (.t 2) },
    { dst := some 8, r := .bin .sub (.t 7) (.c (.int .i64 1)) },
    { dst := some 9, r := .callv .pur (.t 5) [(.t 6), (.t 8)] },
    { dst := some 10, r := .un .not (.t 9) },
    { dst := some 4, r := .move (.t 10) }]
  .ret))
def r_tree_Right_1_1 : KF where
  np := 3
  res := [.tmp 4]
  code := [k_tree_Right_1_1_0]
def k_tree_Right_1_0 : KC := (.reg [
    { dst := some 3, r := .ibox (.t 0) },
    { dst := some 4, r := .ibox (.t 1) },
    { dst := some 5, r := .move (.c (.bool false)) }]
  (.seq (.reg [
    { dst := some 6, r := .load false 1 (.t 4) },
    { dst := some 7, r := .bin .lss (.t 6) (.c (.int .i64 1)) },
    { dst := some 8, r := .move (.t 7) },
    { dst := some 9, g := some (8, false), r := .load true 5 (.t 3) },
    { dst := some 10, g := some (8, false), r := .call .pur F.tree_unused [(.t 9)] },
    { dst := some 11, g := some (8, false), r := .un .not (.t 10) },
    { dst := some 12, r := .pick (.t 8) (.c (.bool true)) (.t 11) }]
  (.cond (.t 12)
  (.reg [
    { dst := some 5, r := .move (.c (.bool false)) }]
  .ret)
  .skip))
  ⟨1, [2, 3, 4], []⟩))
def k_tree_Right_1_1 : KC := (.seq (.reg [
    { dst := some 13, r := .faddr 0 (.t 3) },
    { dst := some 14, r := .load false 1 (.t 13) }]
  (.block 0 (.reg [
    { dst := some 16, r := .bin .eql (.t 14) (.c (.int .i64 0)) },
    { dst := some 15, r := .move (.t 16) }]
  (.cond (.t 15)
  (.reg [
    { dst := some 5, r := .move (.c (.bool true)) }]
  .ret)
  (.reg [
    { dst := some 18, r := .bin .eql (.t 14) (.c (.int .i64 1)) },
    { dst := some 17, r := .move (.t 18) }]
  (.cond (.t 17)
  (.reg [
    { dst := some 19, r := .faddr 1 (.t 3) },
    { dst := some 20, r := .load false 1 (.t 19) },
    { dst := some 21, r := .bin .eql (.t 20) (.c (.int .i64 0)) },
    { dst := some 22, r := .move (.t 21) },
    { dst := some 23, g := some (22, false), r := .faddr 1 (.t 3) },
    { dst := some 24, g := some (22, false), r := .load false 1 (.t 23) },
    { dst := some 25, g := some (22, false), r := .bin .eql (.t 24) (.c (.int .i64 1)) },
    { dst := some 26, r := .pick (.t 22) (.c (.bool true)) (.t 25) },
    { dst := some 5, r := .move (.t 26) }]
  .ret)
  (.reg [
    { dst := some 28, r := .bin .eql (.t 14) (.c (.int .i64 2)) },
    { dst := some 27, r := .move (.t 28) }]
  (.cond (.t 27)
  (.reg [
    { dst := some 29, r := .faddr 1 (.t 3) },
    { dst := some 30, r := .load false 1 (.t 29) },
    { dst := some 31, r := .bin .geq (.t 30) (.c (.int .i64 (-9007199254740991))) },
    { dst := some 32, r := .move (.t 31) },
    { dst := some 33, g := some (32, true), r := .faddr 1 (.t 3) },
    { dst := some 34, g := some (32, true), r := .load false 1 (.t 33) },
    { dst := some 35, g := some (32, true), r := .bin .leq (.t 34) (.c (.int .i64 9007199254740991)) },
    { dst := some 36, r := .pick (.t 32) (.t 35) (.c (.bool false)) },
    { dst := some 5, r := .move (.t 36) }]
  .ret)
  (.reg [
    { dst := some 38, r := .bin .eql (.t 14) (.c (.int .i64 3)) },
    { dst := some 37, r := .move (.t 38) }]
  (.cond (.t 37)
  (.reg [
    { dst := some 39, r := .faddr 2 (.t 3) },
    { dst := some 40, r := .load false 1 (.t 39) },
    { dst := some 41, r := .call .pur F.text_Right [(.t 40)] },
    { dst := some 5, r := .move (.t 41) }]
  .ret)
  (.reg [
    { dst := some 43, r := .bin .eql (.t 14) (.c (.int .i64 4)) },
    { dst := some 42, r := .move (.t 43) }]
  (.cond (.t 42)
  (.reg [
    { dst := some 44, r := .faddr 3 (.t 3) },
    { dst := some 45, r := .load false 1 (.t 44) },
    { dst := some 46, r := .mkF (.func F.tree_Right_1_1) [] [(.t 2), (.t 4)] },
    { dst := some 47, r := .call .pur F.slices_ContainsFunc__api_Value_api_Value [(.t 45), (.t 46)] },
    { dst := some 48, r := .un .not (.t 47) },
    { dst := some 5, r := .move (.t 48) }]
  .ret)
  (.reg [
    { dst := some 50, r := .bin .eql (.t 14) (.c (.int .i64 5)) },
    { dst := some 49, r := .move (.t 50) }]
  (.cond (.t 49)
  (.reg [
    { dst := some 51, r := .faddr 4 (.t 3) },
    { dst := some 52, r := .load false 1 (.t 51) },
    { dst := some 53, r := .call .pur F.tree_keys [(.t 52)] },
    { dst := some 54, r := .move (.t 53) },
    { dst := some 55, g := some (54, true), r := .faddr 4 (.t 3) },
    { dst := some 56, g := some (54, true), r := .load false 1 (.t 55) },
    { dst := some 57, g := some (54, true), r := .mkF (.func F.tree_Right_1_2) [] [(.t 2), (.t 4)] },
    { dst := some 58, g := some (54, true), r := .call .pur F.slices_ContainsFunc__api_Pair_api_Pair [(.t 56), (.t 57)] },
    { dst := some 59, g := some (54, true), r := .un .not (.t 58) },
    { dst := some 60, r := .pick (.t 54) (.t 59) (.c (.bool false)) },
    { dst := some 5, r := .move (.t 60) }]
  .ret)
  .skip))))))))))))))
  ⟨2, [], []⟩)
def k_tree_Right_1_2 : KC := (.reg [
    { dst := some 5, r := .move (.c (.bool false)) }]
  .ret)
def r_tree_Right_1 : KF where
  np := 3
  res := [.tmp 5]
  code := [k_tree_Right_1_0, k_tree_Right_1_1, k_tree_Right_1_2]
def k_slices_ContainsFunc__api_Value_api_Value_0 : KC := (.reg [
    { dst := some 4, r := .move (.c (.bool false)) }]
  (.reg [
    { dst := some 5, r := .move (.t 0) },
    { dst := some 6, r := .move (.t 1) },
    { dst := some 7, r := .call .pur F.slices_IndexFunc__api_Value_api_Value [(.t 5), (.t 6)] },
    { dst := some 8, r := .bin .geq (.t 7) (.c (.int .i64 0)) },
    { dst := some 4, r := .move (.t 8) }]
  .ret))
def r_slices_ContainsFunc__api_Value_api_Value : KF where
  np := 2
  res := [.tmp 4]
  code := [k_slices_ContainsFunc__api_Value_api_Value_0]
def k_slices_IndexFunc__api_Value_api_Value_0 : KC := (.reg [
    { dst := some 4, r := .move (.c (.int .i64 0)) }]
  (.seq (.reg [
    { dst := some 6, r := .move (.t 0) },
    { dst := some 7, r := .len .sl (.t 6) },
    { dst := some 8, r := .move (.c (.int .i64 0)) }]
  (.block 0 (.loop ⟨1, [0, 1, 7, 8], []⟩)))
  ⟨4, [], []⟩))
def k_slices_IndexFunc__api_Value_api_Value_1 : KC := (.reg [
    { dst := some 9, r := .bin .lss (.t 8) (.t 7) }]
  (.seq (.cond (.t 9)
  .skip
  (.exit 0))
  ⟨2, [0, 1, 7, 8], []⟩))
def k_slices_IndexFunc__api_Value_api_Value_2 : KC := (.seq (.block 1 (.reg [
    { dst := some 10, r := .move (.t 8) },
    { dst := some 5, r := .move (.t 10) }]
  (.reg [
    { dst := some 11, r := .move (.t 1) },
    { dst := some 12, r := .move (.t 0) },
    { dst := some 13, r := .move (.t 5) },
    { dst := some 14, r := .iaddr 5 (.t 12) (.t 13) },
    { dst := some 15, r := .load true 5 (.t 14) },
    { dst := some 16, r := .callv .pur (.t 11) [(.t 15)] }]
  (.cond (.t 16)
  (.reg [
    { dst := some 17, r := .move (.t 5) },
    { dst := some 4, r := .move (.t 17) }]
  .ret)
  .skip))))
  ⟨3, [0, 1, 7, 8], []⟩)
def k_slices_IndexFunc__api_Value_api_Value_3 : KC := (.lreg [
    { dst := some 18, r := .bin .add (.t 8) (.c (.int .i64 1)) },
    { dst := some 8, r := .move (.t 18) }])
def k_slices_IndexFunc__api_Value_api_Value_4 : KC := (.reg [
    { dst := some 4, r := .move (.c (.int .i64 (-1))) }]
  .ret)
def r_slices_IndexFunc__api_Value_api_Value : KF where
  np := 2
  res := [.tmp 4]
  code := [k_slices_IndexFunc__api_Value_api_Value_0, k_slices_IndexFunc__api_Value_api_Value_1, k_slices_IndexFunc__api_Value_api_Value_2, k_slices_IndexFunc__api_Value_api_Value_3, k_slices_IndexFunc__api_Value_api_Value_4]
def k_slices_ContainsFunc__api_Pair_api_Pair_0 : KC := (.reg [
    { dst := some 4, r := .move (.c (.bool false)) }]
  (.reg [
    { dst := some 5, r := .move (.t 0) },
    { dst := some 6, r := .move (.t 1) },
    { dst := some 7, r := .call .pur F.slices_IndexFunc__api_Pair_api_Pair [(.t 5), (.t 6)] },
    { dst := some 8, r := .bin .geq (.t 7) (.c (.int .i64 0)) },
    { dst := some 4, r := .move (.t 8) }]
  .ret))
def r_slices_ContainsFunc__api_Pair_api_Pair : KF where
  np := 2
  res := [.tmp 4]
  code := [k_slices_ContainsFunc__api_Pair_api_Pair_0]
def k_slices_IndexFunc__api_Pair_api_Pair_0 : KC := (.reg [
    { dst := some 4, r := .move (.c (.int .i64 0)) }]
  (.seq (.reg [
    { dst := some 6, r := .move (.t 0) },
    { dst := some 7, r := .len .sl (.t 6) },
    { dst := some 8, r := .move (.c (.int .i64 0)) }]
  (.block 0 (.loop ⟨1, [0, 1, 7, 8], []⟩)))
  ⟨4, [], []⟩))
def k_slices_IndexFunc__api_Pair_api_Pair_1 : KC := (.reg [
    { dst := some 9, r := .bin .lss (.t 8) (.t 7) }]
  (.seq (.cond (.t 9)
  .skip
  (.exit 0))
  ⟨2, [0, 1, 7, 8], []⟩))
def k_slices_IndexFunc__api_Pair_api_Pair_2 : KC := (.seq (.block 1 (.reg [
    { dst := some 10, r := .move (.t 8) },
    { dst := some 5, r := .move (.t 10) }]
  (.reg [
    { dst := some 11, r := .move (.t 1) },
    { dst := some 12, r := .move (.t 0) },
    { dst := some 13, r := .move (.t 5) },
    { dst := some 14, r := .iaddr 6 (.t 12) (.t 13) },
    { dst := some 15, r := .load true 6 (.t 14) },
    { dst := some 16, r := .callv .pur (.t 11) [(.t 15)] }]
  (.cond (.t 16)
  (.reg [
    { dst := some 17, r := .move (.t 5) },
    { dst := some 4, r := .move (.t 17) }]
  .ret)
  .skip))))
  ⟨3, [0, 1, 7, 8], []⟩)
def k_slices_IndexFunc__api_Pair_api_Pair_3 : KC := (.lreg [
    { dst := some 18, r := .bin .add (.t 8) (.c (.int .i64 1)) },
    { dst := some 8, r := .move (.t 18) }])
def k_slices_IndexFunc__api_Pair_api_Pair_4 : KC := (.reg [
    { dst := some 4, r := .move (.c (.int .i64 (-1))) }]
  .ret)
def r_slices_IndexFunc__api_Pair_api_Pair : KF where
  np := 2
  res := [.tmp 4]
  code := [k_slices_IndexFunc__api_Pair_api_Pair_0, k_slices_IndexFunc__api_Pair_api_Pair_1, k_slices_IndexFunc__api_Pair_api_Pair_2, k_slices_IndexFunc__api_Pair_api_Pair_3, k_slices_IndexFunc__api_Pair_api_Pair_4]
def k_tree_Right_1_2_0 : KC := (.reg [
    { dst := some 3, r := .ibox (.t 0) },
    { dst := some 4, r := .move (.c (.bool false)) }]
  (.reg [
    { dst := some 5, r := .load false 1 (.t 1) },
    { dst := some 6, r := .faddr 1 (.t 3) },
    { dst := some 7, r := .load true 5 (.t 6) },
    { dst := some 8, r := .load false 1 (.t 2) },
    { dst := some 9, r := .bin .sub (.t 8) (.c (.int .i64 1)) },
    { dst := some 10, r := .callv .pur (.t 5) [(.t 7), (.t 9)] },
    { dst := some 11, r := .un .not (.t 10) },
    { dst := some 4, r := .move (.t 11) }]
  .ret))
def r_tree_Right_1_2 : KF where
  np := 3
  res := [.tmp 4]
  code := [k_tree_Right_1_2_0]
def k_tree_Right_0 : KC := (.reg [
    { dst := some 1, r := .ibox (.t 0) },
    { dst := some 2, r := .move (.c (.bool false)) }]
  (.reg [
    { dst := some 3, r := .alloc [.nilf] }]
  (.reg [
    { dst := some 4, r := .mkF (.func F.tree_Right_1) [] [(.t 3)] },
    { dst := none, r := .store 1 (.t 3) (.t 4) }]
  (.reg [
    { dst := some 5, r := .load false 1 (.t 3) },
    { dst := some 6, r := .load true 5 (.t 1) },
    { dst := some 7, r := .callv .pur (.t 5) [(.t 6), (.c (.int .i64 12))] },
    { dst := some 2, r := .move (.t 7) }]
  .ret))))
def r_tree_Right : KF where
  np := 1
  res := [.tmp 2]
  code := [k_tree_Right_0]
def k_tree_count_0 : KC := (.reg [
    { dst := some 1, r := .ibox (.t 0) },
    { dst := some 2, r := .move (.c (.int .i64 0)) }]
  (.reg [
    { dst := some 3, r := .move (.c (.int .i64 1)) }]
  (.seq (.reg [
    { dst := some 8, r := .faddr 3 (.t 1) },
    { dst := some 9, r := .load false 1 (.t 8) },
    { dst := some 10, r := .len .sl (.t 9) },
    { dst := some 11, r := .move (.c (.int .i64 0)) }]
  (.block 0 (.loop ⟨1, [1, 3, 9, 10, 11], []⟩)))
  ⟨4, [1, 3], []⟩)))
def k_tree_count_1 : KC := (.reg [
    { dst := some 12, r := .bin .lss (.t 11) (.t 10) }]
  (.seq (.cond (.t 12)
  .skip
  (.exit 0))
  ⟨2, [1, 3, 9, 10, 11], []⟩))
def k_tree_count_2 : KC := (.seq (.block 1 (.reg [
    { dst := some 13, r := .iaddr 5 (.t 9) (.t 11) },
    { dst := some 14, r := .load true 5 (.t 13) },
    { dst := some 5, r := .alloc [(.int .i64 0), (.int .i64 0), (.str []), (.sl []), (.sl [])] },
    { dst := none, r := .store 5 (.t 5) (.t 14) }]
  (.lreg [
    { dst := some 15, r := .move (.t 3) },
    { dst := some 16, r := .load true 5 (.t 5) },
    { dst := some 17, r := .call .pur F.tree_count [(.t 16)] },
    { dst := some 18, r := .bin .add (.t 15) (.t 17) },
    { dst := some 3, r := .move (.t 18) }])))
  ⟨3, [1, 3, 9, 10, 11], []⟩)
def k_tree_count_3 : KC := (.lreg [
    { dst := some 19, r := .bin .add (.t 11) (.c (.int .i64 1)) },
    { dst := some 11, r := .move (.t 19) }])
def k_tree_count_4 : KC := (.seq (.reg [
    { dst := some 20, r := .faddr 4 (.t 1) },
    { dst := some 21, r := .load false 1 (.t 20) },
    { dst := some 22, r := .len .sl (.t 21) },
    { dst := some 23, r := .move (.c (.int .i64 0)) }]
  (.block 2 (.loop ⟨5, [3, 21, 22, 23], []⟩)))
  ⟨8, [3], []⟩)
def k_tree_count_5 : KC := (.reg [
    { dst := some 24, r := .bin .lss (.t 23) (.t 22) }]
  (.seq (.cond (.t 24)
  .skip
  (.exit 2))
  ⟨6, [3, 21, 22, 23], []⟩))
def k_tree_count_6 : KC := (.seq (.block 3 (.reg [
    { dst := some 25, r := .iaddr 6 (.t 21) (.t 23) },
    { dst := some 26, r := .load true 6 (.t 25) },
    { dst := some 7, r := .alloc [(.str []), (.int .i64 0), (.int .i64 0), (.str []), (.sl []), (.sl [])] },
    { dst := none, r := .store 6 (.t 7) (.t 26) }]
  (.lreg [
    { dst := some 27, r := .move (.t 3) },
    { dst := some 28, r := .faddr 1 (.t 7) },
    { dst := some 29, r := .load true 5 (.t 28) },
    { dst := some 30, r := .call .pur F.tree_count [(.t 29)] },
    { dst := some 31, r := .bin .add (.t 27) (.t 30) },
    { dst := some 3, r := .move (.t 31) }])))
  ⟨7, [3, 21, 22, 23], []⟩)
def k_tree_count_7 : KC := (.lreg [
    { dst := some 32, r := .bin .add (.t 23) (.c (.int .i64 1)) },
    { dst := some 23, r := .move (.t 32) }])
def k_tree_count_8 : KC := (.reg [
    { dst := some 33, r := .move (.t 3) },
    { dst := some 2, r := .move (.t 33) }]
  .ret)
def r_tree_count : KF where
  np := 1
  res := [.tmp 2]
  code := [k_tree_count_0, k_tree_count_1, k_tree_count_2, k_tree_count_3, k_tree_count_4, k_tree_count_5, k_tree_count_6, k_tree_count_7, k_tree_count_8]
def k_tree_Count_0 : KC := (.reg [
    { dst := some 1, r := .ibox (.t 0) },
    { dst := some 2, r := .move (.c (.int .i64 0)) }]
  (.seq (.reg [
    { dst := some 3, r := .load true 5 (.t 1) },
    { dst := some 4, r := .call .pur F.tree_Right [(.t 3)] },
    { dst := some 5, r := .un .not (.t 4) }]
  (.cond (.t 5)
  (.reg [
    { dst := some 2, r := .move (.c (.int .i64 0)) }]
  .ret)
  .skip))
  ⟨1, [1], []⟩))
def k_tree_Count_1 : KC := (.reg [
    { dst := some 6, r := .load true 5 (.t 1) },
    { dst := some 7, r := .call .pur F.tree_count [(.t 6)] },
    { dst := some 2, r := .move (.t 7) }]
  .ret)
def r_tree_Count : KF where
  np := 1
  res := [.tmp 2]
  code := [k_tree_Count_0, k_tree_Count_1]
def k_cascadelaw03_awake_0 : KC := (.reg [
    { dst := some 0, r := .move (.c (.bool false)) }]
  (.reg [
    { dst := some 1, r := .build [(.int .i64 0), (.int .i64 0), (.str []), (.sl []), (.sl [])] [] },
    { dst := some 2, r := .call .pur F.tree_Right [(.t 1)] },
    { dst := some 3, r := .move (.t 2) },
    { dst := some 4, g := some (3, true), r := .build [(.int .i64 0), (.int .i64 0), (.str []), (.sl []), (.sl [])] [(0, 1, (.c (.int .i64 2))), (1, 1, (.c (.int .i64 5)))] },
    { dst := some 5, g := some (3, true), r := .call .pur F.tree_Count [(.t 4)] },
    { dst := some 6, g := some (3, true), r := .bin .eql (.t 5) (.c (.int .i64 1)) },
    { dst := some 7, r := .pick (.t 3) (.t 6) (.c (.bool false)) },
    { dst := some 0, r := .move (.t 7) }]
  .ret))
def r_cascadelaw03_awake : KF where
  np := 0
  res := [.tmp 0]
  code := [k_cascadelaw03_awake_0]
def k_cascaderef03_few_0 : KC := (.reg [
    { dst := some 2, r := .ibox (.t 0) },
    { dst := some 4, r := .move (.c (.int .i64 0)) }]
  (.seq (.reg [
    { dst := some 7, r := .move (.t 1) },
    { dst := some 8, r := .bin .lss (.t 7) (.c (.int .i64 1)) },
    { dst := some 9, r := .move (.t 8) },
    { dst := some 10, g := some (9, false), r := .faddr 2 (.t 2) },
    { dst := some 11, g := some (9, false), r := .load false 1 (.t 10) },
    { dst := some 12, g := some (9, false), r := .len .str (.t 11) },
    { dst := some 13, g := some (9, false), r := .bin .gtr (.t 12) (.c (.int .i64 500)) },
    { dst := some 14, r := .pick (.t 9) (.c (.bool true)) (.t 13) }]
  (.cond (.t 14)
  (.reg [
    { dst := some 4, r := .move (.c (.int .i64 (-1))) }]
  .ret)
  .skip))
  ⟨1, [1, 2], []⟩))
def k_cascaderef03_few_1 : KC := (.reg [
    { dst := some 15, r := .move (.t 1) },
    { dst := some 16, r := .bin .sub (.t 15) (.c (.int .i64 1)) },
    { dst := some 1, r := .move (.t 16) }]
  (.seq (.reg [
    { dst := some 5, r := .move (.c (.int .i64 0)) }]
  (.block 0 (.loop ⟨2, [1, 2, 5], []⟩)))
  ⟨5, [1, 2], []⟩))
def k_cascaderef03_few_2 : KC := (.seq (.reg [
    { dst := some 17, r := .move (.t 5) },
    { dst := some 18, r := .faddr 3 (.t 2) },
    { dst := some 19, r := .load false 1 (.t 18) },
    { dst := some 20, r := .len .sl (.t 19) },
    { dst := some 21, r := .bin .lss (.t 17) (.t 20) },
    { dst := some 22, r := .move (.t 21) },
    { dst := some 23, g := some (22, true), r := .move (.t 1) },
    { dst := some 24, g := some (22, true), r := .bin .geq (.t 23) (.c (.int .i64 0)) },
    { dst := some 25, r := .pick (.t 22) (.t 24) (.c (.bool false)) }]
  (.cond (.t 25)
  .skip
  (.exit 0)))
  ⟨3, [1, 2, 5], []⟩)
def k_cascaderef03_few_3 : KC := (.seq (.block 1 (.lreg [
    { dst := some 28, r := .faddr 3 (.t 2) },
    { dst := some 29, r := .load false 1 (.t 28) },
    { dst := some 30, r := .move (.t 5) },
    { dst := some 31, r := .iaddr 5 (.t 29) (.t 30) },
    { dst := some 32, r := .load true 5 (.t 31) },
    { dst := some 33, r := .move (.t 1) },
    { dst := some 34, r := .call .pur F.cascaderef03_few [(.t 32), (.t 33)] },
    { dst := some 1, r := .move (.t 34) }]))
  ⟨4, [1, 2, 5], []⟩)
def k_cascaderef03_few_4 : KC := (.lreg [
    { dst := some 26, r := .move (.t 5) },
    { dst := some 27, r := .bin .add (.t 26) (.c (.int .i64 1)) },
    { dst := some 5, r := .move (.t 27) }])
def k_cascaderef03_few_5 : KC := (.seq (.reg [
    { dst := some 6, r := .move (.c (.int .i64 0)) }]
  (.block 2 (.loop ⟨6, [1, 2, 6], []⟩)))
  ⟨10, [1], []⟩)
def k_cascaderef03_few_6 : KC := (.seq (.reg [
    { dst := some 35, r := .move (.t 6) },
    { dst := some 36, r := .faddr 4 (.t 2) },
    { dst := some 37, r := .load false 1 (.t 36) },
    { dst := some 38, r := .len .sl (.t 37) },
    { dst := some 39, r := .bin .lss (.t 35) (.t 38) },
    { dst := some 40, r := .move (.t 39) },
    { dst := some 41, g := some (40, true), r := .move (.t 1) },
    { dst := some 42, g := some (40, true), r := .bin .geq (.t 41) (.c (.int .i64 0)) },
    { dst := some 43, r := .pick (.t 40) (.t 42) (.c (.bool false)) }]
  (.cond (.t 43)
  .skip
  (.exit 2)))
  ⟨7, [1, 2, 6], []⟩)
def k_cascaderef03_few_7 : KC := (.seq (.block 3 (.seq (.reg [
    { dst := some 46, r := .faddr 4 (.t 2) },
    { dst := some 47, r := .load false 1 (.t 46) },
    { dst := some 48, r := .move (.t 6) },
    { dst := some 49, r := .iaddr 6 (.t 47) (.t 48) },
    { dst := some 50, r := .faddr 0 (.t 49) },
    { dst := some 51, r := .load false 1 (.t 50) },
    { dst := some 52, r := .len .str (.t 51) },
    { dst := some 53, r := .bin .gtr (.t 52) (.c (.int .i64 500)) }]
  (.cond (.t 53)
  (.reg [
    { dst := some 4, r := .move (.c (.int .i64 (-1))) }]
  .ret)
  .skip))
  ⟨8, [1, 2, 6], []⟩))
  ⟨9, [1, 2, 6], []⟩)
def k_cascaderef03_few_8 : KC := (.lreg [
    { dst := some 54, r := .faddr 4 (.t 2) },
    { dst := some 55, r := .load false 1 (.t 54) },
    { dst := some 56, r := .move (.t 6) },
    { dst := some 57, r := .iaddr 6 (.t 55) (.t 56) },
    { dst := some 58, r := .faddr 1 (.t 57) },
    { dst := some 59, r := .load true 5 (.t 58) },
    { dst := some 60, r := .move (.t 1) },
    { dst := some 61, r := .call .pur F.cascaderef03_few [(.t 59), (.t 60)] },
    { dst := some 1, r := .move (.t 61) }])
def k_cascaderef03_few_9 : KC := (.lreg [
    { dst := some 44, r := .move (.t 6) },
    { dst := some 45, r := .bin .add (.t 44) (.c (.int .i64 1)) },
    { dst := some 6, r := .move (.t 45) }])
def k_cascaderef03_few_10 : KC := (.reg [
    { dst := some 62, r := .move (.t 1) },
    { dst := some 4, r := .move (.t 62) }]
  .ret)
def r_cascaderef03_few : KF where
  np := 2
  res := [.tmp 4]
  code := [k_cascaderef03_few_0, k_cascaderef03_few_1, k_cascaderef03_few_2, k_cascaderef03_few_3, k_cascaderef03_few_4, k_cascaderef03_few_5, k_cascaderef03_few_6, k_cascaderef03_few_7, k_cascaderef03_few_8, k_cascaderef03_few_9, k_cascaderef03_few_10]
def k_cascaderef03_Few_0 : KC := (.reg [
    { dst := some 2, r := .ibox (.t 0) },
    { dst := some 4, r := .move (.c (.bool false)) }]
  (.reg [
    { dst := some 5, r := .load true 5 (.t 2) },
    { dst := some 6, r := .move (.t 1) },
    { dst := some 7, r := .call .pur F.cascaderef03_few [(.t 5), (.t 6)] },
    { dst := some 8, r := .bin .geq (.t 7) (.c (.int .i64 0)) },
    { dst := some 4, r := .move (.t 8) }]
  .ret))
def r_cascaderef03_Few : KF where
  np := 2
  res := [.tmp 4]
  code := [k_cascaderef03_Few_0]
def k_cascaderef01_Size_0 : KC := (.reg [
    { dst := some 4, r := .move (.c (.int .i64 0)) },
    { dst := some 5, r := .move (.c (.int .i32 0)) }]
  (.reg [
    { dst := some 12, r := .move (.t 0) },
    { dst := some 13, r := .move (.t 1) },
    { dst := some 14, r := .idx (.t 12) (.t 13) },
    { dst := some 15, r := .conv (.int .i64) (.t 14) },
    { dst := some 6, r := .move (.t 15) }]
  (.reg [
    { dst := some 7, r := .move (.c (.int .i64 0)) },
    { dst := some 8, r := .move (.c (.int .i64 0)) },
    { dst := some 9, r := .move (.c (.int .i64 0)) }]
  (.seq (.reg [
    { dst := some 16, r := .move (.t 6) },
    { dst := some 17, r := .bin .lss (.t 16) (.c (.int .i64 128)) }]
  (.cond (.t 17)
  (.reg [
    { dst := some 18, r := .move (.t 6) },
    { dst := some 19, r := .conv (.int .i32) (.t 18) },
    { dst := some 4, r := .move (.c (.int .i64 1)) },
    { dst := some 5, r := .move (.t 19) }]
  .ret)
  .skip))
  ⟨1, [0, 1, 6, 7, 8, 9], []⟩))))
def k_cascaderef01_Size_1 : KC := (.seq (.reg [
    { dst := some 20, r := .move (.t 6) },
    { dst := some 21, r := .bin .geq (.t 20) (.c (.int .i64 194)) },
    { dst := some 22, r := .move (.t 21) },
    { dst := some 23, g := some (22, true), r := .move (.t 6) },
    { dst := some 24, g := some (22, true), r := .bin .lss (.t 23) (.c (.int .i64 224)) },
    { dst := some 25, r := .pick (.t 22) (.t 24) (.c (.bool false)) }]
  (.cond (.t 25)
  (.reg [
    { dst := some 7, r := .move (.c (.int .i64 2)) }]
  (.reg [
    { dst := some 26, r := .move (.t 6) },
    { dst := some 27, r := .bin .sub (.t 26) (.c (.int .i64 192)) },
    { dst := some 8, r := .move (.t 27) }]
  (.lreg [
    { dst := some 9, r := .move (.c (.int .i64 128)) }])))
  .skip))
  ⟨2, [0, 1, 6, 7, 8, 9], []⟩)
def k_cascaderef01_Size_2 : KC := (.seq (.reg [
    { dst := some 28, r := .move (.t 6) },
    { dst := some 29, r := .bin .geq (.t 28) (.c (.int .i64 224)) },
    { dst := some 30, r := .move (.t 29) },
    { dst := some 31, g := some (30, true), r := .move (.t 6) },
    { dst := some 32, g := some (30, true), r := .bin .lss (.t 31) (.c (.int .i64 240)) },
    { dst := some 33, r := .pick (.t 30) (.t 32) (.c (.bool false)) }]
  (.cond (.t 33)
  (.reg [
    { dst := some 7, r := .move (.c (.int .i64 3)) }]
  (.reg [
    { dst := some 34, r := .move (.t 6) },
    { dst := some 35, r := .bin .sub (.t 34) (.c (.int .i64 224)) },
    { dst := some 8, r := .move (.t 35) }]
  (.lreg [
    { dst := some 9, r := .move (.c (.int .i64 2048)) }])))
  .skip))
  ⟨3, [0, 1, 6, 7, 8, 9], []⟩)
def k_cascaderef01_Size_3 : KC := (.seq (.reg [
    { dst := some 36, r := .move (.t 6) },
    { dst := some 37, r := .bin .geq (.t 36) (.c (.int .i64 240)) },
    { dst := some 38, r := .move (.t 37) },
    { dst := some 39, g := some (38, true), r := .move (.t 6) },
    { dst := some 40, g := some (38, true), r := .bin .lss (.t 39) (.c (.int .i64 245)) },
    { dst := some 41, r := .pick (.t 38) (.t 40) (.c (.bool false)) }]
  (.cond (.t 41)
  (.reg [
    { dst := some 7, r := .move (.c (.int .i64 4)) }]
  (.reg [
    { dst := some 42, r := .move (.t 6) },
    { dst := some 43, r := .bin .sub (.t 42) (.c (.int .i64 240)) },
    { dst := some 8, r := .move (.t 43) }]
  (.lreg [
    { dst := some 9, r := .move (.c (.int .i64 65536)) }])))
  .skip))
  ⟨4, [0, 1, 7, 8, 9], []⟩)
def k_cascaderef01_Size_4 : KC := (.seq (.reg [
    { dst := some 44, r := .move (.t 7) },
    { dst := some 45, r := .bin .eql (.t 44) (.c (.int .i64 0)) },
    { dst := some 46, r := .move (.t 45) },
    { dst := some 47, g := some (46, false), r := .move (.t 1) },
    { dst := some 48, g := some (46, false), r := .move (.t 0) },
    { dst := some 49, g := some (46, false), r := .len .str (.t 48) },
    { dst := some 50, g := some (46, false), r := .move (.t 7) },
    { dst := some 51, g := some (46, false), r := .bin .sub (.t 49) (.t 50) },
    { dst := some 52, g := some (46, false), r := .bin .add (.t 51) (.c (.int .i64 1)) },
    { dst := some 53, g := some (46, false), r := .bin .geq (.t 47) (.t 52) },
    { dst := some 54, r := .pick (.t 46) (.c (.bool true)) (.t 53) }]
  (.cond (.t 54)
  (.reg [
    { dst := some 4, r := .move (.c (.int .i64 0)) },
    { dst := some 5, r := .move (.c (.int .i32 0)) }]
  .ret)
  .skip))
  ⟨5, [0, 1, 7, 8, 9], []⟩)
def k_cascaderef01_Size_5 : KC := (.seq (.reg [
    { dst := some 10, r := .move (.c (.int .i64 1)) }]
  (.block 0 (.loop ⟨6, [0, 1, 7, 8, 9, 10], []⟩)))
  ⟨10, [7, 8, 9], []⟩)
def k_cascaderef01_Size_6 : KC := (.seq (.reg [
    { dst := some 55, r := .move (.t 10) },
    { dst := some 56, r := .move (.t 7) },
    { dst := some 57, r := .bin .lss (.t 55) (.t 56) }]
  (.cond (.t 57)
  .skip
  (.exit 0)))
  ⟨7, [0, 1, 7, 8, 9, 10], []⟩)
def k_cascaderef01_Size_7 : KC := (.seq (.block 1 (.reg [
    { dst := some 60, r := .move (.t 0) },
    { dst := some 61, r := .move (.t 1) },
    { dst := some 62, r := .move (.t 10) },
    { dst := some 63, r := .bin .add (.t 61) (.t 62) },
    { dst := some 64, r := .idx (.t 60) (.t 63) },
    { dst := some 65, r := .conv (.int .i64) (.t 64) },
    { dst := some 11, r := .move (.t 65) }]
  (.seq (.reg [
    { dst := some 66, r := .move (.t 11) },
    { dst := some 67, r := .bin .lss (.t 66) (.c (.int .i64 128)) },
    { dst := some 68, r := .move (.t 67) },
    { dst := some 69, g := some (68, false), r := .move (.t 11) },
    { dst := some 70, g := some (68, false), r := .bin .geq (.t 69) (.c (.int .i64 192)) },
    { dst := some 71, r := .pick (.t 68) (.c (.bool true)) (.t 70) }]
  (.cond (.t 71)
  (.reg [
    { dst := some 4, r := .move (.c (.int .i64 0)) },
    { dst := some 5, r := .move (.c (.int .i32 0)) }]
  .ret)
  .skip))
  ⟨8, [0, 1, 7, 8, 9, 10, 11], []⟩)))
  ⟨9, [0, 1, 7, 8, 9, 10], []⟩)
def k_cascaderef01_Size_8 : KC := (.lreg [
    { dst := some 72, r := .move (.t 8) },
    { dst := some 73, r := .bin .mul (.t 72) (.c (.int .i64 64)) },
    { dst := some 74, r := .move (.t 11) },
    { dst := some 75, r := .bin .add (.t 73) (.t 74) },
    { dst := some 76, r := .bin .sub (.t 75) (.c (.int .i64 128)) },
    { dst := some 8, r := .move (.t 76) }])
def k_cascaderef01_Size_9 : KC := (.lreg [
    { dst := some 58, r := .move (.t 10) },
    { dst := some 59, r := .bin .add (.t 58) (.c (.int .i64 1)) },
    { dst := some 10, r := .move (.t 59) }])
def k_cascaderef01_Size_10 : KC := (.seq (.reg [
    { dst := some 77, r := .move (.t 8) },
    { dst := some 78, r := .move (.t 9) },
    { dst := some 79, r := .bin .lss (.t 77) (.t 78) },
    { dst := some 80, r := .move (.t 79) },
    { dst := some 81, g := some (80, false), r := .move (.t 8) },
    { dst := some 82, g := some (80, false), r := .bin .gtr (.t 81) (.c (.int .i64 1114111)) },
    { dst := some 83, r := .pick (.t 80) (.c (.bool true)) (.t 82) },
    { dst := some 84, r := .move (.t 83) },
    { dst := some 85, g := some (84, false), r := .move (.t 8) },
    { dst := some 86, g := some (84, false), r := .bin .geq (.t 85) (.c (.int .i64 55296)) },
    { dst := some 87, g := some (84, false), r := .move (.t 86) },
    { dst := some 88, g := some (87, true), r := .move (.t 8) },
    { dst := some 89, g := some (87, true), r := .bin .lss (.t 88) (.c (.int .i64 57344)) },
    { dst := some 90, g := some (84, false), r := .pick (.t 87) (.t 89) (.c (.bool false)) },
    { dst := some 91, r := .pick (.t 84) (.c (.bool true)) (.t 90) }]
  (.cond (.t 91)
  (.reg [
    { dst := some 4, r := .move (.c (.int .i64 0)) },
    { dst := some 5, r := .move (.c (.int .i32 0)) }]
  .ret)
  .skip))
  ⟨11, [7, 8], []⟩)
def k_cascaderef01_Size_11 : KC := (.reg [
    { dst := some 92, r := .move (.t 7) },
    { dst := some 93, r := .move (.t 8) },
    { dst := some 94, r := .conv (.int .i32) (.t 93) },
    { dst := some 4, r := .move (.t 92) },
    { dst := some 5, r := .move (.t 94) }]
  .ret)
def r_cascaderef01_Size : KF where
  np := 2
  res := [.tmp 4, .tmp 5]
  code := [k_cascaderef01_Size_0, k_cascaderef01_Size_1, k_cascaderef01_Size_2, k_cascaderef01_Size_3, k_cascaderef01_Size_4, k_cascaderef01_Size_5, k_cascaderef01_Size_6, k_cascaderef01_Size_7, k_cascaderef01_Size_8, k_cascaderef01_Size_9, k_cascaderef01_Size_10, k_cascaderef01_Size_11]
def k_cascaderef01_Bad_0 : KC := (.reg [
    { dst := some 2, r := .move (.c (.int .i64 0)) }]
  (.seq (.reg [
    { dst := some 3, r := .move (.c (.int .i64 0)) }]
  (.block 0 (.loop ⟨1, [0, 3], []⟩)))
  ⟨4, [], []⟩))
def k_cascaderef01_Bad_1 : KC := (.seq (.reg [
    { dst := some 6, r := .move (.t 3) },
    { dst := some 7, r := .move (.t 0) },
    { dst := some 8, r := .len .str (.t 7) },
    { dst := some 9, r := .bin .lss (.t 6) (.t 8) }]
  (.cond (.t 9)
  .skip
  (.exit 0)))
  ⟨2, [0, 3], []⟩)
def k_cascaderef01_Bad_2 : KC := (.block 1 (.reg [
    { dst := some 11, r := .move (.t 0) },
    { dst := some 12, r := .move (.t 3) },
    { dst := some 13, r := .call .pur F.cascaderef01_Size [(.t 11), (.t 12)] },
    { dst := some 10, r := .move (.t 13) },
    { dst := some 14, r := .extract (.t 10) 0 },
    { dst := some 15, r := .extract (.t 10) 1 },
    { dst := some 4, r := .move (.t 14) },
    { dst := some 5, r := .move (.t 15) }]
  (.seq (.reg [
    { dst := some 16, r := .move (.t 4) },
    { dst := some 17, r := .bin .eql (.t 16) (.c (.int .i64 0)) }]
  (.cond (.t 17)
  (.reg [
    { dst := some 18, r := .move (.t 3) },
    { dst := some 2, r := .move (.t 18) }]
  .ret)
  .skip))
  ⟨3, [0, 3, 4], []⟩)))
def k_cascaderef01_Bad_3 : KC := (.lreg [
    { dst := some 19, r := .move (.t 3) },
    { dst := some 20, r := .move (.t 4) },
    { dst := some 21, r := .bin .add (.t 19) (.t 20) },
    { dst := some 3, r := .move (.t 21) }])
def k_cascaderef01_Bad_4 : KC := (.reg [
    { dst := some 2, r := .move (.c (.int .i64 (-1))) }]
  .ret)
def r_cascaderef01_Bad : KF where
  np := 1
  res := [.tmp 2]
  code := [k_cascaderef01_Bad_0, k_cascaderef01_Bad_1, k_cascaderef01_Bad_2, k_cascaderef01_Bad_3, k_cascaderef01_Bad_4]
def k_cascaderef01_Right_0 : KC := (.reg [
    { dst := some 2, r := .move (.c (.bool false)) }]
  (.reg [
    { dst := some 3, r := .move (.t 0) },
    { dst := some 4, r := .call .pur F.cascaderef01_Bad [(.t 3)] },
    { dst := some 5, r := .bin .eql (.t 4) (.c (.int .i64 (-1))) },
    { dst := some 2, r := .move (.t 5) }]
  .ret))
def r_cascaderef01_Right : KF where
  np := 1
  res := [.tmp 2]
  code := [k_cascaderef01_Right_0]
def k_cascaderef03_right_0 : KC := (.reg [
    { dst := some 2, r := .ibox (.t 0) },
    { dst := some 4, r := .move (.c (.bool false)) }]
  (.seq (.reg [
    { dst := some 8, r := .move (.t 1) },
    { dst := some 9, r := .bin .lss (.t 8) (.c (.int .i64 1)) },
    { dst := some 10, r := .move (.t 9) },
    { dst := some 11, g := some (10, false), r := .faddr 0 (.t 2) },
    { dst := some 12, g := some (10, false), r := .load false 1 (.t 11) },
    { dst := some 13, g := some (10, false), r := .bin .lss (.t 12) (.c (.int .i64 0)) },
    { dst := some 14, r := .pick (.t 10) (.c (.bool true)) (.t 13) },
    { dst := some 15, r := .move (.t 14) },
    { dst := some 16, g := some (15, false), r := .faddr 0 (.t 2) },
    { dst := some 17, g := some (15, false), r := .load false 1 (.t 16) },
    { dst := some 18, g := some (15, false), r := .bin .gtr (.t 17) (.c (.int .i64 5)) },
    { dst := some 19, r := .pick (.t 15) (.c (.bool true)) (.t 18) }]
  (.cond (.t 19)
  (.reg [
    { dst := some 4, r := .move (.c (.bool false)) }]
  .ret)
  .skip))
  ⟨1, [1, 2], []⟩))
def k_cascaderef03_right_1 : KC := (.seq (.reg [
    { dst := some 20, r := .faddr 0 (.t 2) },
    { dst := some 21, r := .load false 1 (.t 20) },
    { dst := some 22, r := .bin .neq (.t 21) (.c (.int .i64 1)) },
    { dst := some 23, r := .move (.t 22) },
    { dst := some 24, g := some (23, true), r := .faddr 0 (.t 2) },
    { dst := some 25, g := some (23, true), r := .load false 1 (.t 24) },
    { dst := some 26, g := some (23, true), r := .bin .neq (.t 25) (.c (.int .i64 2)) },
    { dst := some 27, r := .pick (.t 23) (.t 26) (.c (.bool false)) },
    { dst := some 28, r := .move (.t 27) },
    { dst := some 29, g := some (28, true), r := .faddr 1 (.t 2) },
    { dst := some 30, g := some (28, true), r := .load false 1 (.t 29) },
    { dst := some 31, g := some (28, true), r := .bin .neq (.t 30) (.c (.int .i64 0)) },
    { dst := some 32, r := .pick (.t 28) (.t 31) (.c (.bool false)) },
    { dst := some 33, r := .move (.t 32) },
    { dst := some 34, g := some (33, false), r := .faddr 0 (.t 2) },
    { dst := some 35, g := some (33, false), r := .load false 1 (.t 34) },
    { dst := some 36, g := some (33, false), r := .bin .neq (.t 35) (.c (.int .i64 3)) },
    { dst := some 37, g := some (33, false), r := .move (.t 36) },
    { dst := some 38, g := some (37, true), r := .faddr 2 (.t 2) },
    { dst := some 39, g := some (37, true), r := .load false 1 (.t 38) },
    { dst := some 40, g := some (37, true), r := .bin .neq (.t 39) (.c (.str [])) },
    { dst := some 41, g := some (33, false), r := .pick (.t 37) (.t 40) (.c (.bool false)) },
    { dst := some 42, r := .pick (.t 33) (.c (.bool true)) (.t 41) },
    { dst := some 43, r := .move (.t 42) },
    { dst := some 44, g := some (43, false), r := .faddr 0 (.t 2) },
    { dst := some 45, g := some (43, false), r := .load false 1 (.t 44) },
    { dst := some 46, g := some (43, false), r := .bin .neq (.t 45) (.c (.int .i64 4)) },
    { dst := some 47, g := some (43, false), r := .move (.t 46) },
    { dst := some 48, g := some (47, true), r := .faddr 3 (.t 2) },
    { dst := some 49, g := some (47, true), r := .load false 1 (.t 48) },
    { dst := some 50, g := some (47, true), r := .len .sl (.t 49) },
    { dst := some 51, g := some (47, true), r := .bin .gtr (.t 50) (.c (.int .i64 0)) },
    { dst := some 52, g := some (43, false), r := .pick (.t 47) (.t 51) (.c (.bool false)) },
    { dst := some 53, r := .pick (.t 43) (.c (.bool true)) (.t 52) },
    { dst := some 54, r := .move (.t 53) },
    { dst := some 55, g := some (54, false), r := .faddr 0 (.t 2) },
    { dst := some 56, g := some (54, false), r := .load false 1 (.t 55) },
    { dst := some 57, g := some (54, false), r := .bin .neq (.t 56) (.c (.int .i64 5)) },
    { dst := some 58, g := some (54, false), r := .move (.t 57) },
    { dst := some 59, g := some (58, true), r := .faddr 4 (.t 2) },
    { dst := some 60, g := some (58, true), r := .load false 1 (.t 59) },
    { dst := some 61, g := some (58, true), r := .len .sl (.t 60) },
    { dst := some 62, g := some (58, true), r := .bin .gtr (.t 61) (.c (.int .i64 0)) },
    { dst := some 63, g := some (54, false), r := .pick (.t 58) (.t 62) (.c (.bool false)) },
    { dst := some 64, r := .pick (.t 54) (.c (.bool true)) (.t 63) }]
  (.cond (.t 64)
  (.reg [
    { dst := some 4, r := .move (.c (.bool false)) }]
  .ret)
  .skip))
  ⟨2, [1, 2], []⟩)
def k_cascaderef03_right_2 : KC := (.seq (.reg [
    { dst := some 65, r := .faddr 0 (.t 2) },
    { dst := some 66, r := .load false 1 (.t 65) },
    { dst := some 67, r := .bin .eql (.t 66) (.c (.int .i64 1)) },
    { dst := some 68, r := .move (.t 67) },
    { dst := some 69, g := some (68, true), r := .faddr 1 (.t 2) },
    { dst := some 70, g := some (68, true), r := .load false 1 (.t 69) },
    { dst := some 71, g := some (68, true), r := .bin .neq (.t 70) (.c (.int .i64 0)) },
    { dst := some 72, r := .pick (.t 68) (.t 71) (.c (.bool false)) },
    { dst := some 73, r := .move (.t 72) },
    { dst := some 74, g := some (73, true), r := .faddr 1 (.t 2) },
    { dst := some 75, g := some (73, true), r := .load false 1 (.t 74) },
    { dst := some 76, g := some (73, true), r := .bin .neq (.t 75) (.c (.int .i64 1)) },
    { dst := some 77, r := .pick (.t 73) (.t 76) (.c (.bool false)) },
    { dst := some 78, r := .move (.t 77) },
    { dst := some 79, g := some (78, false), r := .faddr 1 (.t 2) },
    { dst := some 80, g := some (78, false), r := .load false 1 (.t 79) },
    { dst := some 81, g := some (78, false), r := .bin .gtr (.t 80) (.c (.int .i64 9007199254740991)) },
    { dst := some 82, r := .pick (.t 78) (.c (.bool true)) (.t 81) },
    { dst := some 83, r := .move (.t 82) },
    { dst := some 84, g := some (83, false), r := .faddr 1 (.t 2) },
    { dst := some 85, g := some (83, false), r := .load false 1 (.t 84) },
    { dst := some 86, g := some (83, false), r := .bin .lss (.t 85) (.c (.int .i64 (-9007199254740991))) },
    { dst := some 87, r := .pick (.t 83) (.c (.bool true)) (.t 86) },
    { dst := some 88, r := .move (.t 87) },
    { dst := some 89, g := some (88, false), r := .faddr 2 (.t 2) },
    { dst := some 90, g := some (88, false), r := .load false 1 (.t 89) },
    { dst := some 91, g := some (88, false), r := .call .pur F.cascaderef01_Right [(.t 90)] },
    { dst := some 92, g := some (88, false), r := .un .not (.t 91) },
    { dst := some 93, r := .pick (.t 88) (.c (.bool true)) (.t 92) }]
  (.cond (.t 93)
  (.reg [
    { dst := some 4, r := .move (.c (.bool false)) }]
  .ret)
  .skip))
  ⟨3, [1, 2], []⟩)
def k_cascaderef03_right_3 : KC := (.seq (.reg [
    { dst := some 5, r := .move (.c (.int .i64 0)) }]
  (.block 0 (.loop ⟨4, [1, 2, 5], []⟩)))
  ⟨7, [1, 2], []⟩)
def k_cascaderef03_right_4 : KC := (.seq (.reg [
    { dst := some 94, r := .move (.t 5) },
    { dst := some 95, r := .faddr 3 (.t 2) },
    { dst := some 96, r := .load false 1 (.t 95) },
    { dst := some 97, r := .len .sl (.t 96) },
    { dst := some 98, r := .bin .lss (.t 94) (.t 97) }]
  (.cond (.t 98)
  .skip
  (.exit 0)))
  ⟨5, [1, 2, 5], []⟩)
def k_cascaderef03_right_5 : KC := (.seq (.block 1 (.reg [
    { dst := some 101, r := .faddr 3 (.t 2) },
    { dst := some 102, r := .load false 1 (.t 101) },
    { dst := some 103, r := .move (.t 5) },
    { dst := some 104, r := .iaddr 5 (.t 102) (.t 103) },
    { dst := some 105, r := .load true 5 (.t 104) },
    { dst := some 106, r := .move (.t 1) },
    { dst := some 107, r := .bin .sub (.t 106) (.c (.int .i64 1)) },
    { dst := some 108, r := .call .pur F.cascaderef03_right [(.t 105), (.t 107)] },
    { dst := some 109, r := .un .not (.t 108) }]
  (.cond (.t 109)
  (.reg [
    { dst := some 4, r := .move (.c (.bool false)) }]
  .ret)
  .skip)))
  ⟨6, [1, 2, 5], []⟩)
def k_cascaderef03_right_6 : KC := (.lreg [
    { dst := some 99, r := .move (.t 5) },
    { dst := some 100, r := .bin .add (.t 99) (.c (.int .i64 1)) },
    { dst := some 5, r := .move (.t 100) }])
def k_cascaderef03_right_7 : KC := (.seq (.reg [
    { dst := some 6, r := .move (.c (.int .i64 0)) }]
  (.block 2 (.loop ⟨8, [1, 2, 6], []⟩)))
  ⟨15, [], []⟩)
def k_cascaderef03_right_8 : KC := (.seq (.reg [
    { dst := some 110, r := .move (.t 6) },
    { dst := some 111, r := .faddr 4 (.t 2) },
    { dst := some 112, r := .load false 1 (.t 111) },
    { dst := some 113, r := .len .sl (.t 112) },
    { dst := some 114, r := .bin .lss (.t 110) (.t 113) }]
  (.cond (.t 114)
  .skip
  (.exit 2)))
  ⟨9, [1, 2, 6], []⟩)
def k_cascaderef03_right_9 : KC := (.seq (.block 3 (.seq (.reg [
    { dst := some 117, r := .faddr 4 (.t 2) },
    { dst := some 118, r := .load false 1 (.t 117) },
    { dst := some 119, r := .move (.t 6) },
    { dst := some 120, r := .iaddr 6 (.t 118) (.t 119) },
    { dst := some 121, r := .faddr 0 (.t 120) },
    { dst := some 122, r := .load false 1 (.t 121) },
    { dst := some 123, r := .call .pur F.cascaderef01_Right [(.t 122)] },
    { dst := some 124, r := .un .not (.t 123) },
    { dst := some 125, r := .move (.t 124) },
    { dst := some 126, g := some (125, false), r := .faddr 4 (.t 2) },
    { dst := some 127, g := some (125, false), r := .load false 1 (.t 126) },
    { dst := some 128, g := some (125, false), r := .move (.t 6) },
    { dst := some 129, g := some (125, false), r := .iaddr 6 (.t 127) (.t 128) },
    { dst := some 130, g := some (125, false), r := .faddr 1 (.t 129) },
    { dst := some 131, g := some (125, false), r := .load true 5 (.t 130) },
    { dst := some 132, g := some (125, false), r := .move (.t 1) },
    { dst := some 133, g := some (125, false), r := .bin .sub (.t 132) (.c (.int .i64 1)) },
    { dst := some 134, g := some (125, false), r := .call .pur F.cascaderef03_right [(.t 131), (.t 133)] },
    { dst := some 135, g := some (125, false), r := .un .not (.t 134) },
    { dst := some 136, r := .pick (.t 125) (.c (.bool true)) (.t 135) }]
  (.cond (.t 136)
  (.reg [
    { dst := some 4, r := .move (.c (.bool false)) }]
  .ret)
  .skip))
  ⟨10, [1, 2, 6], []⟩))
  ⟨14, [1, 2, 6], []⟩)
def k_cascaderef03_right_10 : KC := (.reg [
    { dst := some 7, r := .move (.c (.int .i64 0)) }]
  (.block 4 (.loop ⟨11, [1, 2, 6, 7], []⟩)))
def k_cascaderef03_right_11 : KC := (.seq (.reg [
    { dst := some 137, r := .move (.t 7) },
    { dst := some 138, r := .move (.t 6) },
    { dst := some 139, r := .bin .lss (.t 137) (.t 138) }]
  (.cond (.t 139)
  .skip
  (.exit 4)))
  ⟨12, [1, 2, 6, 7], []⟩)
def k_cascaderef03_right_12 : KC := (.seq (.block 5 (.dreg [
    { dst := some 142, r := .faddr 4 (.t 2) },
    { dst := some 143, r := .load false 1 (.t 142) },
    { dst := some 144, r := .move (.t 7) },
    { dst := some 145, r := .iaddr 6 (.t 143) (.t 144) },
    { dst := some 146, r := .faddr 0 (.t 145) },
    { dst := some 147, r := .load false 1 (.t 146) },
    { dst := some 148, r := .faddr 4 (.t 2) },
    { dst := some 149, r := .load false 1 (.t 148) },
    { dst := some 150, r := .move (.t 6) },
    { dst := some 151, r := .iaddr 6 (.t 149) (.t 150) },
    { dst := some 152, r := .faddr 0 (.t 151) },
    { dst := some 153, r := .load false 1 (.t 152) },
    { dst := some 154, r := .bin .eql (.t 147) (.t 153) }] []
  (.cond (.t 154)
  (.reg [
    { dst := some 4, r := .move (.c (.bool false)) }]
  .ret)
  .skip)))
  ⟨13, [1, 2, 6, 7], []⟩)
def k_cascaderef03_right_13 : KC := (.lreg [
    { dst := some 140, r := .move (.t 7) },
    { dst := some 141, r := .bin .add (.t 140) (.c (.int .i64 1)) },
    { dst := some 7, r := .move (.t 141) }])
def k_cascaderef03_right_14 : KC := (.lreg [
    { dst := some 115, r := .move (.t 6) },
    { dst := some 116, r := .bin .add (.t 115) (.c (.int .i64 1)) },
    { dst := some 6, r := .move (.t 116) }])
def k_cascaderef03_right_15 : KC := (.reg [
    { dst := some 4, r := .move (.c (.bool true)) }]
  .ret)
def r_cascaderef03_right : KF where
  np := 2
  res := [.tmp 4]
  code := [k_cascaderef03_right_0, k_cascaderef03_right_1, k_cascaderef03_right_2, k_cascaderef03_right_3, k_cascaderef03_right_4, k_cascaderef03_right_5, k_cascaderef03_right_6, k_cascaderef03_right_7, k_cascaderef03_right_8, k_cascaderef03_right_9, k_cascaderef03_right_10, k_cascaderef03_right_11, k_cascaderef03_right_12, k_cascaderef03_right_13, k_cascaderef03_right_14, k_cascaderef03_right_15]
def k_cascaderef03_Right_0 : KC := (.reg [
    { dst := some 1, r := .ibox (.t 0) },
    { dst := some 2, r := .move (.c (.bool false)) }]
  (.reg [
    { dst := some 3, r := .load true 5 (.t 1) },
    { dst := some 4, r := .call .pur F.cascaderef03_right [(.t 3), (.c (.int .i64 12))] },
    { dst := some 2, r := .move (.t 4) }]
  .ret))
def r_cascaderef03_Right : KF where
  np := 1
  res := [.tmp 2]
  code := [k_cascaderef03_Right_0]
def k_cascaderef03_Count_0 : KC := (.reg [
    { dst := some 1, r := .ibox (.t 0) },
    { dst := some 2, r := .move (.c (.int .i64 0)) }]
  (.reg [
    { dst := some 3, r := .move (.c (.int .i64 1)) }]
  (.seq (.reg [
    { dst := some 4, r := .move (.c (.int .i64 0)) }]
  (.block 0 (.loop ⟨1, [1, 3, 4], []⟩)))
  ⟨4, [1, 3], []⟩)))
def k_cascaderef03_Count_1 : KC := (.seq (.reg [
    { dst := some 6, r := .move (.t 4) },
    { dst := some 7, r := .faddr 3 (.t 1) },
    { dst := some 8, r := .load false 1 (.t 7) },
    { dst := some 9, r := .len .sl (.t 8) },
    { dst := some 10, r := .bin .lss (.t 6) (.t 9) }]
  (.cond (.t 10)
  .skip
  (.exit 0)))
  ⟨2, [1, 3, 4], []⟩)
def k_cascaderef03_Count_2 : KC := (.seq (.block 1 (.lreg [
    { dst := some 13, r := .move (.t 3) },
    { dst := some 14, r := .faddr 3 (.t 1) },
    { dst := some 15, r := .load false 1 (.t 14) },
    { dst := some 16, r := .move (.t 4) },
    { dst := some 17, r := .iaddr 5 (.t 15) (.t 16) },
    { dst := some 18, r := .load true 5 (.t 17) },
    { dst := some 19, r := .call .pur F.cascaderef03_Count [(.t 18)] },
    { dst := some 20, r := .bin .add (.t 13) (.t 19) },
    { dst := some 3, r := .move (.t 20) }]))
  ⟨3, [1, 3, 4], []⟩)
def k_cascaderef03_Count_3 : KC := (.lreg [
    { dst := some 11, r := .move (.t 4) },
    { dst := some 12, r := .bin .add (.t 11) (.c (.int .i64 1)) },
    { dst := some 4, r := .move (.t 12) }])
def k_cascaderef03_Count_4 : KC := (.seq (.reg [
    { dst := some 5, r := .move (.c (.int .i64 0)) }]
  (.block 2 (.loop ⟨5, [1, 3, 5], []⟩)))
  ⟨8, [3], []⟩)
def k_cascaderef03_Count_5 : KC := (.seq (.reg [
    { dst := some 21, r := .move (.t 5) },
    { dst := some 22, r := .faddr 4 (.t 1) },
    { dst := some 23, r := .load false 1 (.t 22) },
    { dst := some 24, r := .len .sl (.t 23) },
    { dst := some 25, r := .bin .lss (.t 21) (.t 24) }]
  (.cond (.t 25)
  .skip
  (.exit 2)))
  ⟨6, [1, 3, 5], []⟩)
def k_cascaderef03_Count_6 : KC := (.seq (.block 3 (.lreg [
    { dst := some 28, r := .move (.t 3) },
    { dst := some 29, r := .faddr 4 (.t 1) },
    { dst := some 30, r := .load false 1 (.t 29) },
    { dst := some 31, r := .move (.t 5) },
    { dst := some 32, r := .iaddr 6 (.t 30) (.t 31) },
    { dst := some 33, r := .faddr 1 (.t 32) },
    { dst := some 34, r := .load true 5 (.t 33) },
    { dst := some 35, r := .call .pur F.cascaderef03_Count [(.t 34)] },
    { dst := some 36, r := .bin .add (.t 28) (.t 35) },
    { dst := some 3, r := .move (.t 36) }]))
  ⟨7, [1, 3, 5], []⟩)
def k_cascaderef03_Count_7 : KC := (.lreg [
    { dst := some 26, r := .move (.t 5) },
    { dst := some 27, r := .bin .add (.t 26) (.c (.int .i64 1)) },
    { dst := some 5, r := .move (.t 27) }])
def k_cascaderef03_Count_8 : KC := (.reg [
    { dst := some 37, r := .move (.t 3) },
    { dst := some 2, r := .move (.t 37) }]
  .ret)
def r_cascaderef03_Count : KF where
  np := 1
  res := [.tmp 2]
  code := [k_cascaderef03_Count_0, k_cascaderef03_Count_1, k_cascaderef03_Count_2, k_cascaderef03_Count_3, k_cascaderef03_Count_4, k_cascaderef03_Count_5, k_cascaderef03_Count_6, k_cascaderef03_Count_7, k_cascaderef03_Count_8]
def k_tree_clone_0 : KC := (.reg [
    { dst := some 1, r := .ibox (.t 0) },
    { dst := some 2, r := .alloc [(.int .i64 0), (.int .i64 0), (.str []), (.sl []), (.sl [])] }]
  (.reg [
    { dst := some 8, r := .faddr 0 (.t 1) },
    { dst := some 9, r := .load false 1 (.t 8) },
    { dst := some 10, r := .faddr 1 (.t 1) },
    { dst := some 11, r := .load false 1 (.t 10) },
    { dst := some 12, r := .faddr 2 (.t 1) },
    { dst := some 13, r := .load false 1 (.t 12) },
    { dst := some 14, r := .build [(.int .i64 0), (.int .i64 0), (.str []), .nils, .nils] [(0, 1, (.t 9)), (1, 1, (.t 11)), (2, 1, (.t 13))] },
    { dst := some 3, r := .alloc [(.int .i64 0), (.int .i64 0), (.str []), (.sl []), (.sl [])] },
    { dst := none, r := .store 5 (.t 3) (.t 14) }]
  (.adj (.virt [3] 3 5 [3, 3]) (.adj (.virt [3] 4 6 [3, 4]) (.seq (.reg [
    { dst := some 15, r := .faddr 3 (.t 1) },
    { dst := some 16, r := .load false 1 (.t 15) },
    { dst := some 17, r := .len .sl (.t 16) },
    { dst := some 18, r := .move (.c (.int .i64 0)) }]
  (.block 0 (.loop ⟨1, [1, 2, 3, 16, 17, 18], [[2], [3], [3, 3], [3, 4]]⟩)))
  ⟨4, [1, 2, 3], [[2], [3], [3, 3], [3, 4]]⟩)))))
def k_tree_clone_1 : KC := (.reg [
    { dst := some 19, r := .bin .lss (.t 18) (.t 17) }]
  (.seq (.cond (.t 19)
  .skip
  (.exit 0))
  ⟨2, [1, 2, 3, 16, 17, 18], [[2], [3], [3, 3], [3, 4]]⟩))
def k_tree_clone_2 : KC := (.seq (.block 1 (.reg [
    { dst := some 20, r := .iaddr 5 (.t 16) (.t 18) },
    { dst := some 21, r := .load true 5 (.t 20) },
    { dst := some 5, r := .alloc [(.int .i64 0), (.int .i64 0), (.str []), (.sl []), (.sl [])] },
    { dst := none, r := .store 5 (.t 5) (.t 21) }]
  (.ldreg [
    { dst := some 22, r := .faddr 3 (.t 3) },
    { dst := some 23, r := .load false 1 (.t 22) },
    { dst := some 24, r := .load true 5 (.t 5) },
    { dst := some 25, r := .call .pur F.tree_clone [(.t 24)] },
    { dst := some 26, r := .ilit 5 [(.t 25)] }] [
    { dst := some 27, r := .app 5 80 (.t 23) (.t 26) },
    { dst := some 28, r := .faddr 3 (.t 3) },
    { dst := none, r := .store 1 (.t 28) (.t 27) }])))
  ⟨3, [1, 2, 3, 16, 17, 18], [[2], [3], [3, 3], [3, 4]]⟩)
def k_tree_clone_3 : KC := (.lreg [
    { dst := some 29, r := .bin .add (.t 18) (.c (.int .i64 1)) },
    { dst := some 18, r := .move (.t 29) }])
def k_tree_clone_4 : KC := (.seq (.reg [
    { dst := some 30, r := .faddr 4 (.t 1) },
    { dst := some 31, r := .load false 1 (.t 30) },
    { dst := some 32, r := .len .sl (.t 31) },
    { dst := some 33, r := .move (.c (.int .i64 0)) }]
  (.block 2 (.loop ⟨5, [2, 3, 31, 32, 33], [[2], [3], [3, 3], [3, 4]]⟩)))
  ⟨8, [2, 3], [[2], [3], [3, 3], [3, 4]]⟩)
def k_tree_clone_5 : KC := (.reg [
    { dst := some 34, r := .bin .lss (.t 33) (.t 32) }]
  (.seq (.cond (.t 34)
  .skip
  (.exit 2))
  ⟨6, [2, 3, 31, 32, 33], [[2], [3], [3, 3], [3, 4]]⟩))
def k_tree_clone_6 : KC := (.seq (.block 3 (.reg [
    { dst := some 35, r := .iaddr 6 (.t 31) (.t 33) },
    { dst := some 36, r := .load true 6 (.t 35) },
    { dst := some 7, r := .alloc [(.str []), (.int .i64 0), (.int .i64 0), (.str []), (.sl []), (.sl [])] },
    { dst := none, r := .store 6 (.t 7) (.t 36) }]
  (.ldreg [
    { dst := some 37, r := .faddr 4 (.t 3) },
    { dst := some 38, r := .load false 1 (.t 37) },
    { dst := some 39, r := .faddr 0 (.t 7) },
    { dst := some 40, r := .load false 1 (.t 39) },
    { dst := some 41, r := .faddr 1 (.t 7) },
    { dst := some 42, r := .load true 5 (.t 41) },
    { dst := some 43, r := .call .pur F.tree_clone [(.t 42)] },
    { dst := some 44, r := .build [(.str []), (.int .i64 0), (.int .i64 0), (.str []), (.sl []), (.sl [])] [(0, 1, (.t 40)), (1, 5, (.t 43))] },
    { dst := some 45, r := .ilit 6 [(.t 44)] }] [
    { dst := some 46, r := .app 6 96 (.t 38) (.t 45) },
    { dst := some 47, r := .faddr 4 (.t 3) },
    { dst := none, r := .store 1 (.t 47) (.t 46) }])))
  ⟨7, [2, 3, 31, 32, 33], [[2], [3], [3, 3], [3, 4]]⟩)
def k_tree_clone_7 : KC := (.lreg [
    { dst := some 48, r := .bin .add (.t 33) (.c (.int .i64 1)) },
    { dst := some 33, r := .move (.t 48) }])
def k_tree_clone_8 : KC := (.reg [
    { dst := some 49, r := .load true 5 (.t 3) },
    { dst := none, r := .store 5 (.t 2) (.t 49) }]
  .ret)
def r_tree_clone : KF where
  np := 1
  res := [.cell 2 true 5]
  code := [k_tree_clone_0, k_tree_clone_1, k_tree_clone_2, k_tree_clone_3, k_tree_clone_4, k_tree_clone_5, k_tree_clone_6, k_tree_clone_7, k_tree_clone_8]
def k_tree_Clone_0 : KC := (.reg [
    { dst := some 1, r := .ibox (.t 0) },
    { dst := some 2, r := .alloc [(.int .i64 0), (.int .i64 0), (.str []), (.sl []), (.sl [])] }]
  (.seq (.reg [
    { dst := some 3, r := .load true 5 (.t 1) },
    { dst := some 4, r := .call .pur F.tree_Right [(.t 3)] },
    { dst := some 5, r := .un .not (.t 4) }]
  (.cond (.t 5)
  (.reg [
    { dst := some 6, r := .build [(.int .i64 0), (.int .i64 0), (.str []), (.sl []), (.sl [])] [] },
    { dst := none, r := .store 5 (.t 2) (.t 6) }]
  .ret)
  .skip))
  ⟨1, [1, 2], [[2]]⟩))
def k_tree_Clone_1 : KC := (.reg [
    { dst := some 7, r := .load true 5 (.t 1) },
    { dst := some 8, r := .call .pur F.tree_clone [(.t 7)] },
    { dst := none, r := .store 5 (.t 2) (.t 8) }]
  .ret)
def r_tree_Clone : KF where
  np := 1
  res := [.cell 2 true 5]
  code := [k_tree_Clone_0, k_tree_Clone_1]
def k_cascaderef03_Same_0 : KC := (.reg [
    { dst := some 2, r := .ibox (.t 0) },
    { dst := some 3, r := .ibox (.t 1) },
    { dst := some 4, r := .move (.c (.bool false)) }]
  (.seq (.reg [
    { dst := some 7, r := .faddr 0 (.t 2) },
    { dst := some 8, r := .load false 1 (.t 7) },
    { dst := some 9, r := .faddr 0 (.t 3) },
    { dst := some 10, r := .load false 1 (.t 9) },
    { dst := some 11, r := .bin .neq (.t 8) (.t 10) },
    { dst := some 12, r := .move (.t 11) },
    { dst := some 13, g := some (12, false), r := .faddr 1 (.t 2) },
    { dst := some 14, g := some (12, false), r := .load false 1 (.t 13) },
    { dst := some 15, g := some (12, false), r := .faddr 1 (.t 3) },
    { dst := some 16, g := some (12, false), r := .load false 1 (.t 15) },
    { dst := some 17, g := some (12, false), r := .bin .neq (.t 14) (.t 16) },
    { dst := some 18, r := .pick (.t 12) (.c (.bool true)) (.t 17) },
    { dst := some 19, r := .move (.t 18) },
    { dst := some 20, g := some (19, false), r := .faddr 2 (.t 2) },
    { dst := some 21, g := some (19, false), r := .load false 1 (.t 20) },
    { dst := some 22, g := some (19, false), r := .faddr 2 (.t 3) },
    { dst := some 23, g := some (19, false), r := .load false 1 (.t 22) },
    { dst := some 24, g := some (19, false), r := .bin .neq (.t 21) (.t 23) },
    { dst := some 25, r := .pick (.t 19) (.c (.bool true)) (.t 24) },
    { dst := some 26, r := .move (.t 25) },
    { dst := some 27, g := some (26, false), r := .faddr 3 (.t 2) },
    { dst := some 28, g := some (26, false), r := .load false 1 (.t 27) },
    { dst := some 29, g := some (26, false), r := .len .sl (.t 28) },
    { dst := some 30, g := some (26, false), r := .faddr 3 (.t 3) },
    { dst := some 31, g := some (26, false), r := .load false 1 (.t 30) },
    { dst := some 32, g := some (26, false), r := .len .sl (.t 31) },
    { dst := some 33, g := some (26, false), r := .bin .neq (.t 29) (.t 32) },
    { dst := some 34, r := .pick (.t 26) (.c (.bool true)) (.t 33) },
    { dst := some 35, r := .move (.t 34) },
    { dst := some 36, g := some (35, false), r := .faddr 4 (.t 2) },
    { dst := some 37, g := some (35, false), r := .load false 1 (.t 36) },
    { dst := some 38, g := some (35, false), r := .len .sl (.t 37) },
    { dst := some 39, g := some (35, false), r := .faddr 4 (.t 3) },
    { dst := some 40, g := some (35, false), r := .load false 1 (.t 39) },
    { dst := some 41, g := some (35, false), r := .len .sl (.t 40) },
    { dst := some 42, g := some (35, false), r := .bin .neq (.t 38) (.t 41) },
    { dst := some 43, r := .pick (.t 35) (.c (.bool true)) (.t 42) }]
  (.cond (.t 43)
  (.reg [
    { dst := some 4, r := .move (.c (.bool false)) }]
  .ret)
  .skip))
  ⟨1, [2, 3], []⟩))
def k_cascaderef03_Same_1 : KC := (.seq (.reg [
    { dst := some 5, r := .move (.c (.int .i64 0)) }]
  (.block 0 (.loop ⟨2, [2, 3, 5], []⟩)))
  ⟨5, [2, 3], []⟩)
def k_cascaderef03_Same_2 : KC := (.seq (.reg [
    { dst := some 44, r := .move (.t 5) },
    { dst := some 45, r := .faddr 3 (.t 2) },
    { dst := some 46, r := .load false 1 (.t 45) },
    { dst := some 47, r := .len .sl (.t 46) },
    { dst := some 48, r := .bin .lss (.t 44) (.t 47) }]
  (.cond (.t 48)
  .skip
  (.exit 0)))
  ⟨3, [2, 3, 5], []⟩)
def k_cascaderef03_Same_3 : KC := (.seq (.block 1 (.dreg [
    { dst := some 51, r := .faddr 3 (.t 2) },
    { dst := some 52, r := .load false 1 (.t 51) },
    { dst := some 53, r := .move (.t 5) },
    { dst := some 54, r := .iaddr 5 (.t 52) (.t 53) },
    { dst := some 55, r := .load true 5 (.t 54) },
    { dst := some 56, r := .faddr 3 (.t 3) },
    { dst := some 57, r := .load false 1 (.t 56) },
    { dst := some 58, r := .move (.t 5) },
    { dst := some 59, r := .iaddr 5 (.t 57) (.t 58) },
    { dst := some 60, r := .load true 5 (.t 59) },
    { dst := some 61, r := .call .pur F.cascaderef03_Same [(.t 55), (.t 60)] },
    { dst := some 62, r := .un .not (.t 61) }] []
  (.cond (.t 62)
  (.reg [
    { dst := some 4, r := .move (.c (.bool false)) }]
  .ret)
  .skip)))
  ⟨4, [2, 3, 5], []⟩)
def k_cascaderef03_Same_4 : KC := (.lreg [
    { dst := some 49, r := .move (.t 5) },
    { dst := some 50, r := .bin .add (.t 49) (.c (.int .i64 1)) },
    { dst := some 5, r := .move (.t 50) }])
def k_cascaderef03_Same_5 : KC := (.seq (.reg [
    { dst := some 6, r := .move (.c (.int .i64 0)) }]
  (.block 2 (.loop ⟨6, [2, 3, 6], []⟩)))
  ⟨9, [], []⟩)
def k_cascaderef03_Same_6 : KC := (.seq (.reg [
    { dst := some 63, r := .move (.t 6) },
    { dst := some 64, r := .faddr 4 (.t 2) },
    { dst := some 65, r := .load false 1 (.t 64) },
    { dst := some 66, r := .len .sl (.t 65) },
    { dst := some 67, r := .bin .lss (.t 63) (.t 66) }]
  (.cond (.t 67)
  .skip
  (.exit 2)))
  ⟨7, [2, 3, 6], []⟩)
def k_cascaderef03_Same_7 : KC := (.seq (.block 3 (.dreg [
    { dst := some 70, r := .faddr 4 (.t 2) },
    { dst := some 71, r := .load false 1 (.t 70) },
    { dst := some 72, r := .move (.t 6) },
    { dst := some 73, r := .iaddr 6 (.t 71) (.t 72) },
    { dst := some 74, r := .faddr 0 (.t 73) },
    { dst := some 75, r := .load false 1 (.t 74) },
    { dst := some 76, r := .faddr 4 (.t 3) },
    { dst := some 77, r := .load false 1 (.t 76) },
    { dst := some 78, r := .move (.t 6) },
    { dst := some 79, r := .iaddr 6 (.t 77) (.t 78) },
    { dst := some 80, r := .faddr 0 (.t 79) },
    { dst := some 81, r := .load false 1 (.t 80) },
    { dst := some 82, r := .bin .neq (.t 75) (.t 81) },
    { dst := some 83, r := .move (.t 82) },
    { dst := some 84, g := some (83, false), r := .faddr 4 (.t 2) },
    { dst := some 85, g := some (83, false), r := .load false 1 (.t 84) },
    { dst := some 86, g := some (83, false), r := .move (.t 6) },
    { dst := some 87, g := some (83, false), r := .iaddr 6 (.t 85) (.t 86) },
    { dst := some 88, g := some (83, false), r := .faddr 1 (.t 87) },
    { dst := some 89, g := some (83, false), r := .load true 5 (.t 88) },
    { dst := some 90, g := some (83, false), r := .faddr 4 (.t 3) },
    { dst := some 91, g := some (83, false), r := .load false 1 (.t 90) },
    { dst := some 92, g := some (83, false), r := .move (.t 6) },
    { dst := some 93, g := some (83, false), r := .iaddr 6 (.t 91) (.t 92) },
    { dst := some 94, g := some (83, false), r := .faddr 1 (.t 93) },
    { dst := some 95, g := some (83, false), r := .load true 5 (.t 94) },
    { dst := some 96, g := some (83, false), r := .call .pur F.cascaderef03_Same [(.t 89), (.t 95)] },
    { dst := some 97, g := some (83, false), r := .un .not (.t 96) },
    { dst := some 98, r := .pick (.t 83) (.c (.bool true)) (.t 97) }] []
  (.cond (.t 98)
  (.reg [
    { dst := some 4, r := .move (.c (.bool false)) }]
  .ret)
  .skip)))
  ⟨8, [2, 3, 6], []⟩)
def k_cascaderef03_Same_8 : KC := (.lreg [
    { dst := some 68, r := .move (.t 6) },
    { dst := some 69, r := .bin .add (.t 68) (.c (.int .i64 1)) },
    { dst := some 6, r := .move (.t 69) }])
def k_cascaderef03_Same_9 : KC := (.reg [
    { dst := some 4, r := .move (.c (.bool true)) }]
  .ret)
def r_cascaderef03_Same : KF where
  np := 2
  res := [.tmp 4]
  code := [k_cascaderef03_Same_0, k_cascaderef03_Same_1, k_cascaderef03_Same_2, k_cascaderef03_Same_3, k_cascaderef03_Same_4, k_cascaderef03_Same_5, k_cascaderef03_Same_6, k_cascaderef03_Same_7, k_cascaderef03_Same_8, k_cascaderef03_Same_9]
def k_cascadelaw03_zero_0 : KC := (.reg [
    { dst := some 1, r := .ibox (.t 0) },
    { dst := some 2, r := .move (.c (.bool false)) }]
  (.reg [
    { dst := some 3, r := .load true 5 (.t 1) },
    { dst := some 4, r := .build [(.int .i64 0), (.int .i64 0), (.str []), (.sl []), (.sl [])] [] },
    { dst := some 5, r := .call .pur F.cascaderef03_Same [(.t 3), (.t 4)] },
    { dst := some 2, r := .move (.t 5) }]
  .ret))
def r_cascadelaw03_zero : KF where
  np := 1
  res := [.tmp 2]
  code := [k_cascadelaw03_zero_0]
def k_cascadelaw03_TreeRight_0 : KC := (.reg [
    { dst := some 1, r := .ibox (.t 0) },
    { dst := some 2, r := .move (.c (.bool false)) }]
  (.seq (.reg [
    { dst := some 6, r := .call .pur F.cascadelaw03_awake [] },
    { dst := some 7, r := .un .not (.t 6) },
    { dst := some 8, r := .move (.t 7) },
    { dst := some 9, g := some (8, false), r := .load true 5 (.t 1) },
    { dst := some 10, g := some (8, false), r := .call .pur F.cascaderef03_Few [(.t 9), (.c (.int .i64 60))] },
    { dst := some 11, g := some (8, false), r := .un .not (.t 10) },
    { dst := some 12, r := .pick (.t 8) (.c (.bool true)) (.t 11) }]
  (.cond (.t 12)
  (.reg [
    { dst := some 13, r := .call .pur F.cascadelaw03_awake [] },
    { dst := some 2, r := .move (.t 13) }]
  .ret)
  .skip))
  ⟨1, [1], []⟩))
def k_cascadelaw03_TreeRight_1 : KC := (.reg [
    { dst := some 14, r := .load true 5 (.t 1) },
    { dst := some 15, r := .call .pur F.cascaderef03_Right [(.t 14)] },
    { dst := some 3, r := .move (.t 15) }]
  (.reg [
    { dst := some 4, r := .move (.c (.int .i64 0)) }]
  (.seq (.reg [
    { dst := some 16, r := .move (.t 3) }]
  (.cond (.t 16)
  (.lreg [
    { dst := some 17, r := .load true 5 (.t 1) },
    { dst := some 18, r := .call .pur F.cascaderef03_Count [(.t 17)] },
    { dst := some 4, r := .move (.t 18) }])
  .skip))
  ⟨2, [1, 3, 4], []⟩)))
def k_cascadelaw03_TreeRight_2 : KC := (.reg [
    { dst := some 19, r := .load true 5 (.t 1) },
    { dst := some 20, r := .call .pur F.tree_Clone [(.t 19)] },
    { dst := some 5, r := .alloc [(.int .i64 0), (.int .i64 0), (.str []), (.sl []), (.sl [])] },
    { dst := none, r := .store 5 (.t 5) (.t 20) }]
  (.seq (.reg [
    { dst := some 21, r := .load true 5 (.t 1) },
    { dst := some 22, r := .call .pur F.tree_Right [(.t 21)] },
    { dst := some 23, r := .move (.t 3) },
    { dst := some 24, r := .eq true .bool (.t 22) (.t 23) },
    { dst := some 25, r := .move (.t 24) },
    { dst := some 26, g := some (25, false), r := .load true 5 (.t 1) },
    { dst := some 27, g := some (25, false), r := .call .pur F.tree_Count [(.t 26)] },
    { dst := some 28, g := some (25, false), r := .move (.t 4) },
    { dst := some 29, g := some (25, false), r := .bin .neq (.t 27) (.t 28) },
    { dst := some 30, r := .pick (.t 25) (.c (.bool true)) (.t 29) }]
  (.cond (.t 30)
  (.reg [
    { dst := some 2, r := .move (.c (.bool false)) }]
  .ret)
  .skip))
  ⟨3, [1, 3, 5], [[5]]⟩))
def k_cascadelaw03_TreeRight_3 : KC := (.reg [
    { dst := some 31, r := .move (.t 3) },
    { dst := some 32, r := .move (.t 31) },
    { dst := some 33, g := some (32, true), r := .load true 5 (.t 5) },
    { dst := some 34, g := some (32, true), r := .load true 5 (.t 1) },
    { dst := some 35, g := some (32, true), r := .call .pur F.cascaderef03_Same [(.t 33), (.t 34)] },
    { dst := some 36, r := .pick (.t 32) (.t 35) (.c (.bool false)) },
    { dst := some 37, r := .move (.t 36) },
    { dst := some 38, g := some (37, false), r := .move (.t 3) },
    { dst := some 39, g := some (37, false), r := .un .not (.t 38) },
    { dst := some 40, g := some (37, false), r := .move (.t 39) },
    { dst := some 41, g := some (40, true), r := .load true 5 (.t 5) },
    { dst := some 42, g := some (40, true), r := .call .pur F.cascadelaw03_zero [(.t 41)] },
    { dst := some 43, g := some (37, false), r := .pick (.t 40) (.t 42) (.c (.bool false)) },
    { dst := some 44, r := .pick (.t 37) (.c (.bool true)) (.t 43) },
    { dst := some 2, r := .move (.t 44) }]
  .ret)
def r_cascadelaw03_TreeRight : KF where
  np := 1
  res := [.tmp 2]
  code := [k_cascadelaw03_TreeRight_0, k_cascadelaw03_TreeRight_1, k_cascadelaw03_TreeRight_2, k_cascadelaw03_TreeRight_3]
def table : FuncId → Option KF
  | 3 => some r_cascadelaw03_TreeRight
  | 12 => some r_cascadelaw03_awake
  | 13 => some r_cascaderef03_Few
  | 14 => some r_cascaderef03_Right
  | 15 => some r_cascaderef03_Count
  | 16 => some r_tree_Clone
  | 17 => some r_tree_Right
  | 18 => some r_tree_Count
  | 19 => some r_cascaderef03_Same
  | 20 => some r_cascadelaw03_zero
  | 24 => some r_cascaderef01_Right
  | 43 => some r_cascaderef03_few
  | 44 => some r_cascaderef03_right
  | 45 => some r_tree_clone
  | 46 => some r_tree_Right_1
  | 47 => some r_tree_unused
  | 48 => some r_text_Right
  | 49 => some r_slices_ContainsFunc__api_Value_api_Value
  | 50 => some r_tree_Right_1_1
  | 51 => some r_tree_keys
  | 52 => some r_slices_ContainsFunc__api_Pair_api_Pair
  | 53 => some r_tree_Right_1_2
  | 54 => some r_tree_count
  | 57 => some r_slices_IndexFunc__api_Pair_api_Pair
  | 59 => some r_cascaderef01_Bad
  | 69 => some r_text_Bad
  | 70 => some r_slices_IndexFunc__api_Value_api_Value
  | 71 => some r_cascaderef01_Size
  | 76 => some { code := [], res := [], np := 1, ext := some (.pure ext_unicode_utf8_DecodeRuneInString) }
  | _ => none
end Go.Abs.T
