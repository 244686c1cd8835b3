import Derived.Test.YtbfnelnbjcfliaaDoorAbsL
import Derived.Test.YtbfnelnbjcfliaaDoorXT
namespace Go.Abs.T
namespace F
abbrev main_main : FuncId := 0
abbrev gosem_cut : FuncId := 1
abbrev gosem_cut_init : FuncId := 2
abbrev cascadelaw03_TreeRight : FuncId := 3
abbrev cascadelaw03_TreeGets : FuncId := 4
abbrev cascadelaw03_TreeWith : FuncId := 5
abbrev cascadelaw03_TreeSame : FuncId := 6
abbrev cascadelaw04_DynFrom : FuncId := 7
abbrev cascadelaw04_DynTo : FuncId := 8
abbrev cascadelaw04_DynGoes : FuncId := 9
abbrev cascadelaw03_TreeOwn : FuncId := 10
abbrev cascadelaw03_TreeOrders : FuncId := 11
abbrev cascadelaw03_awake : FuncId := 12
abbrev cascaderef03_Few : FuncId := 13
abbrev cascaderef03_Right : FuncId := 14
abbrev cascaderef03_Count : FuncId := 15
abbrev tree_Clone : FuncId := 16
abbrev tree_Right : FuncId := 17
abbrev tree_Count : FuncId := 18
abbrev cascaderef03_Same : FuncId := 19
abbrev cascadelaw03_zero : FuncId := 20
abbrev tree_Get : FuncId := 21
abbrev cascaderef03_At : FuncId := 22
abbrev tree_With : FuncId := 23
abbrev cascaderef01_Right : FuncId := 24
abbrev cascaderef03_With : FuncId := 25
abbrev tree_Same : FuncId := 26
abbrev tree_Alike : FuncId := 27
abbrev cascaderef03_Sorted : FuncId := 28
abbrev cascadelaw04_awake : FuncId := 29
abbrev dyn_Odd : FuncId := 30
abbrev dyn_From : FuncId := 31
abbrev cascaderef04_From : FuncId := 32
abbrev dyn_Kind : FuncId := 33
abbrev cascaderef04_Kind : FuncId := 34
abbrev dyn_To : FuncId := 35
abbrev dyn_Go : FuncId := 36
abbrev cascaderef04_Go : FuncId := 37
abbrev tree_Ordered : FuncId := 38
abbrev cascadelaw03_spoil : FuncId := 39
abbrev cascadelaw03_few : FuncId := 40
abbrev cascadelaw03_twice : FuncId := 41
abbrev cascaderef03_Ordered : FuncId := 42
abbrev cascaderef03_few : FuncId := 43
abbrev cascaderef03_right : FuncId := 44
abbrev tree_clone : FuncId := 45
abbrev tree_Right_1 : FuncId := 46
abbrev tree_unused : FuncId := 47
abbrev text_Right : FuncId := 48
abbrev slices_ContainsFunc__api_Value_api_Value : FuncId := 49
abbrev tree_Right_1_1 : FuncId := 50
abbrev tree_keys : FuncId := 51
abbrev slices_ContainsFunc__api_Pair_api_Pair : FuncId := 52
abbrev tree_Right_1_2 : FuncId := 53
abbrev tree_count : FuncId := 54
abbrev tree_get : FuncId := 55
abbrev tree_object : FuncId := 56
abbrev slices_IndexFunc__api_Pair_api_Pair : FuncId := 57
abbrev tree_With_1 : FuncId := 58
abbrev cascaderef01_Bad : FuncId := 59
abbrev tree_same : FuncId := 60
abbrev tree_alike : FuncId := 61
abbrev dyn_to : FuncId := 62
abbrev dyn_from : FuncId := 63
abbrev cascaderef04_Stands : FuncId := 64
abbrev dyn_member : FuncId := 65
abbrev tree_Ordered_1 : FuncId := 66
abbrev slices_SortStableFunc__api_Pair_api_Pair : FuncId := 67
abbrev tree_Ordered_2 : FuncId := 68
abbrev text_Bad : FuncId := 69
abbrev slices_IndexFunc__api_Value_api_Value : FuncId := 70
abbrev cascaderef01_Size : FuncId := 71
abbrev tree_same_1 : FuncId := 72
abbrev slices_EqualFunc__api_Value__api_Value_api_Value_api_Value : FuncId := 73
abbrev slices_EqualFunc__api_Pair__api_Pair_api_Pair_api_Pair : FuncId := 74
abbrev slices_stableCmpFunc_api_Pair : FuncId := 75
abbrev unicode_utf8_DecodeRuneInString : FuncId := 76
abbrev slices_insertionSortCmpFunc_api_Pair : FuncId := 77
abbrev slices_symMergeCmpFunc_api_Pair : FuncId := 78
abbrev unicode_utf8_decodeRuneInStringSlow : FuncId := 79
abbrev slices_rotateCmpFunc_api_Pair : FuncId := 80
abbrev slices_swapRangeCmpFunc_api_Pair : FuncId := 81
abbrev runtime_boundsError_Error : FuncId := 82
abbrev runtime_boundsError_RuntimeError : FuncId := 83
abbrev runtime_errorString_Error : FuncId := 84
abbrev runtime_errorString_RuntimeError : FuncId := 85
abbrev runtime_plainError_Error : FuncId := 86
abbrev runtime_plainError_RuntimeError : FuncId := 87
abbrev runtime_errorAddressString_Error : FuncId := 88
abbrev runtime_errorAddressString_RuntimeError : FuncId := 89
abbrev runtime_TypeAssertionError_Error : FuncId := 90
abbrev runtime_TypeAssertionError_RuntimeError : FuncId := 91
abbrev runtime_PanicNilError_Error : FuncId := 92
abbrev runtime_PanicNilError_RuntimeError : FuncId := 93
abbrev internal_abi_Type_Align : FuncId := 94
abbrev internal_runtime_maps_unhashableTypeError_Error : FuncId := 95
abbrev internal_runtime_maps_unhashableTypeError_RuntimeError : FuncId := 96
abbrev internal_abi_Kind_String : FuncId := 97
abbrev gosem_cut_vars : FuncId := 102
end F
def k_dyn_Kind_0 : KC := (.reg [
rq 2 (.move (.c (.int .i64 0)))]
  (.seq (.reg [
rq 3 (.move (.t 0))]
  (.block 0 (.reg [
rq 4 (.eq false .iface (.t 3) (.c .nili))]
  (.cond (.t 4)
  (.reg [
rq 2 (.move (.c (.int .i64 0)))]
  .ret)
  (.reg [
rq 5 (.tassert (.bool false) 4 true (.t 3)),
rq 6 (.extract (.t 5) 1),
rq 7 (.extract (.t 5) 0)]
  (.cond (.t 6)
  (.reg [
rq 2 (.move (.c (.int .i64 1)))]
  .ret)
  (.reg [
rq 8 (.tassert (.int .i64 0) 3 true (.t 3)),
rq 9 (.extract (.t 8) 1),
rq 10 (.extract (.t 8) 0),
rq 11 (.tassert (.int .i64 0) 2 true (.t 3)),
rq 12 (.extract (.t 11) 1),
rq 13 (.extract (.t 11) 0),
rq 14 (.pick (.t 9) (.c (.bool true)) (.t 12))]
  (.cond (.t 14)
  (.reg [
rq 2 (.move (.c (.int .i64 2)))]
  .ret)
  (.reg [
rq 15 (.tassert (.str []) 9 true (.t 3)),
rq 16 (.extract (.t 15) 1),
rq 17 (.extract (.t 15) 0)]
  (.cond (.t 16)
  (.reg [
rq 2 (.move (.c (.int .i64 3)))]
  .ret)
  (.reg [
rq 18 (.tassert (.sl []) 66 true (.t 3)),
rq 19 (.extract (.t 18) 1),
rq 20 (.extract (.t 18) 0)]
  (.cond (.t 19)
  (.reg [
rq 2 (.move (.c (.int .i64 4)))]
  .ret)
  (.reg [
rq 21 (.tassert (.sl []) 68 true (.t 3)),
rq 22 (.extract (.t 21) 1),
rq 23 (.extract (.t 21) 0)]
  (.cond (.t 22)
  (.reg [
rq 2 (.move (.c (.int .i64 5)))]
  .ret)
  .skip))))))))))))))
  ⟨1, [], []⟩))
def k_dyn_Kind_1 : KC := (.reg [
rq 2 (.move (.c (.int .i64 (-1))))]
  .ret)
def r_dyn_Kind : KF where
  np := 1
  res := [.tmp 2]
  code := [k_dyn_Kind_0, k_dyn_Kind_1]
def k_cascadelaw04_awake_0 : KC := (.reg [
rq 0 (.move (.c (.bool false)))]
  (.reg [
rq 1 (.mkI 9 (.c (.str [97]))),
rq 2 (.call .pur F.dyn_Kind [(.t 1)]),
rq 3 (.bin .eql (.t 2) (.c (.int .i64 3))),
rq 4 (.move (.t 3)),
rqg 5 4 true (.mkI 4 (.c (.bool true))),
rqg 6 4 true (.call .pur F.dyn_Kind [(.t 5)]),
rqg 7 4 true (.bin .eql (.t 6) (.c (.int .i64 1))),
rq 8 (.pick (.t 4) (.t 7) (.c (.bool false))),
rq 0 (.move (.t 8))]
  .ret))
def r_cascadelaw04_awake : KF where
  np := 0
  res := [.tmp 0]
  code := [k_cascadelaw04_awake_0]
def k_cascaderef03_few_0 : KC := (.reg [
rq 2 (.ibox (.t 0)),
rq 4 (.move (.c (.int .i64 0)))]
  (.seq (.reg [
rq 7 (.move (.t 1)),
rq 8 (.bin .lss (.t 7) (.c (.int .i64 1))),
rq 9 (.move (.t 8)),
rqg 10 9 false (.faddr 2 (.t 2)),
rqg 11 9 false (.load false 1 (.t 10)),
rqg 12 9 false (.len .str (.t 11)),
rqg 13 9 false (.bin .gtr (.t 12) (.c (.int .i64 500))),
rq 14 (.pick (.t 9) (.c (.bool true)) (.t 13))]
  (.cond (.t 14)
  (.reg [
rq 4 (.move (.c (.int .i64 (-1))))]
  .ret)
  .skip))
  ⟨1, [1, 2], []⟩))
def k_cascaderef03_few_1 : KC := (.reg [
rq 15 (.move (.t 1)),
rq 16 (.bin .sub (.t 15) (.c (.int .i64 1))),
rq 1 (.move (.t 16))]
  (.seq (.reg [
rq 5 (.move (.c (.int .i64 0)))]
  (.block 0 (.loop ⟨2, [1, 2, 5], []⟩)))
  ⟨5, [1, 2], []⟩))
def k_cascaderef03_few_2 : KC := (.seq (.reg [
rq 17 (.move (.t 5)),
rq 18 (.faddr 3 (.t 2)),
rq 19 (.load false 1 (.t 18)),
rq 20 (.len .sl (.t 19)),
rq 21 (.bin .lss (.t 17) (.t 20)),
rq 22 (.move (.t 21)),
rqg 23 22 true (.move (.t 1)),
rqg 24 22 true (.bin .geq (.t 23) (.c (.int .i64 0))),
rq 25 (.pick (.t 22) (.t 24) (.c (.bool false)))]
  (.cond (.t 25)
  .skip
  (.exit 0)))
  ⟨3, [1, 2, 5], []⟩)
def k_cascaderef03_few_3 : KC := (.seq (.block 1 (.lreg [
rq 28 (.faddr 3 (.t 2)),
rq 29 (.load false 1 (.t 28)),
rq 30 (.move (.t 5)),
rq 31 (.iaddr 5 (.t 29) (.t 30)),
rq 32 (.load true 5 (.t 31)),
rq 33 (.move (.t 1)),
rq 34 (.call .pur F.cascaderef03_few [(.t 32), (.t 33)]),
rq 1 (.move (.t 34))]))
  ⟨4, [1, 2, 5], []⟩)
def k_cascaderef03_few_4 : KC := (.lreg [
rq 26 (.move (.t 5)),
rq 27 (.bin .add (.t 26) (.c (.int .i64 1))),
rq 5 (.move (.t 27))])
def k_cascaderef03_few_5 : KC := (.seq (.reg [
rq 6 (.move (.c (.int .i64 0)))]
  (.block 2 (.loop ⟨6, [1, 2, 6], []⟩)))
  ⟨10, [1], []⟩)
def k_cascaderef03_few_6 : KC := (.seq (.reg [
rq 35 (.move (.t 6)),
rq 36 (.faddr 4 (.t 2)),
rq 37 (.load false 1 (.t 36)),
rq 38 (.len .sl (.t 37)),
rq 39 (.bin .lss (.t 35) (.t 38)),
rq 40 (.move (.t 39)),
rqg 41 40 true (.move (.t 1)),
rqg 42 40 true (.bin .geq (.t 41) (.c (.int .i64 0))),
rq 43 (.pick (.t 40) (.t 42) (.c (.bool false)))]
  (.cond (.t 43)
  .skip
  (.exit 2)))
  ⟨7, [1, 2, 6], []⟩)
def k_cascaderef03_few_7 : KC := (.seq (.block 3 (.seq (.reg [
rq 46 (.faddr 4 (.t 2)),
rq 47 (.load false 1 (.t 46)),
rq 48 (.move (.t 6)),
rq 49 (.iaddr 6 (.t 47) (.t 48)),
rq 50 (.faddr 0 (.t 49)),
rq 51 (.load false 1 (.t 50)),
rq 52 (.len .str (.t 51)),
rq 53 (.bin .gtr (.t 52) (.c (.int .i64 500)))]
  (.cond (.t 53)
  (.reg [
rq 4 (.move (.c (.int .i64 (-1))))]
  .ret)
  .skip))
  ⟨8, [1, 2, 6], []⟩))
  ⟨9, [1, 2, 6], []⟩)
def k_cascaderef03_few_8 : KC := (.lreg [
rq 54 (.faddr 4 (.t 2)),
rq 55 (.load false 1 (.t 54)),
rq 56 (.move (.t 6)),
rq 57 (.iaddr 6 (.t 55) (.t 56)),
rq 58 (.faddr 1 (.t 57)),
rq 59 (.load true 5 (.t 58)),
rq 60 (.move (.t 1)),
rq 61 (.call .pur F.cascaderef03_few [(.t 59), (.t 60)]),
rq 1 (.move (.t 61))])
def k_cascaderef03_few_9 : KC := (.lreg [
rq 44 (.move (.t 6)),
rq 45 (.bin .add (.t 44) (.c (.int .i64 1))),
rq 6 (.move (.t 45))])
def k_cascaderef03_few_10 : KC := (.reg [
rq 62 (.move (.t 1)),
rq 4 (.move (.t 62))]
  .ret)
def r_cascaderef03_few : KF where
  np := 2
  res := [.tmp 4]
  code := [k_cascaderef03_few_0, k_cascaderef03_few_1, k_cascaderef03_few_2, k_cascaderef03_few_3, k_cascaderef03_few_4, k_cascaderef03_few_5, k_cascaderef03_few_6, k_cascaderef03_few_7, k_cascaderef03_few_8, k_cascaderef03_few_9, k_cascaderef03_few_10]
def k_cascaderef03_Few_0 : KC := (.reg [
rq 2 (.ibox (.t 0)),
rq 4 (.move (.c (.bool false)))]
  (.reg [
rq 5 (.load true 5 (.t 2)),
rq 6 (.move (.t 1)),
rq 7 (.call .pur F.cascaderef03_few [(.t 5), (.t 6)]),
rq 8 (.bin .geq (.t 7) (.c (.int .i64 0))),
rq 4 (.move (.t 8))]
  .ret))
def r_cascaderef03_Few : KF where
  np := 2
  res := [.tmp 4]
  code := [k_cascaderef03_Few_0]
def k_dyn_to_0 : KC := (.reg [
rq 1 (.ibox (.t 0)),
rq 2 (.move (.c .nili))]
  (.seq (.reg [
rq 9 (.faddr 0 (.t 1)),
rq 10 (.load false 1 (.t 9))]
  (.block 0 (.reg [
rq 12 (.bin .eql (.t 10) (.c (.int .i64 1))),
rq 11 (.move (.t 12))]
  (.cond (.t 11)
  (.reg [
rq 13 (.faddr 1 (.t 1)),
rq 14 (.load false 1 (.t 13)),
rq 15 (.bin .eql (.t 14) (.c (.int .i64 1))),
rq 16 (.mkI 4 (.t 15)),
rq 2 (.move (.t 16))]
  .ret)
  (.reg [
rq 18 (.bin .eql (.t 10) (.c (.int .i64 2))),
rq 17 (.move (.t 18))]
  (.cond (.t 17)
  (.reg [
rq 19 (.faddr 1 (.t 1)),
rq 20 (.load false 1 (.t 19)),
rq 21 (.mkI 2 (.t 20)),
rq 2 (.move (.t 21))]
  .ret)
  (.reg [
rq 23 (.bin .eql (.t 10) (.c (.int .i64 3))),
rq 22 (.move (.t 23))]
  (.cond (.t 22)
  (.reg [
rq 24 (.faddr 2 (.t 1)),
rq 25 (.load false 1 (.t 24)),
rq 26 (.mkI 9 (.t 25)),
rq 2 (.move (.t 26))]
  .ret)
  (.reg [
rq 28 (.bin .eql (.t 10) (.c (.int .i64 4))),
rq 27 (.move (.t 28))]
  (.cond (.t 27)
  (.reg [
rq 29 (.lit 1 []),
rq 3 (.move (.t 29))]
  (.seq (.reg [
rq 30 (.faddr 3 (.t 1)),
rq 31 (.load false 1 (.t 30)),
rq 32 (.len .sl (.t 31)),
rq 33 (.move (.c (.int .i64 0)))]
  (.block 1 (.loop ⟨1, [3, 31, 32, 33], [[29]]⟩)))
  ⟨4, [3], [[29]]⟩))
  (.reg [
rq 46 (.bin .eql (.t 10) (.c (.int .i64 5))),
rq 45 (.move (.t 46))]
  (.cond (.t 45)
  (.reg [
rq 47 (.lit 2 []),
rq 6 (.move (.t 47))]
  (.seq (.reg [
rq 48 (.faddr 4 (.t 1)),
rq 49 (.load false 1 (.t 48)),
rq 50 (.len .sl (.t 49)),
rq 51 (.move (.c (.int .i64 0)))]
  (.block 3 (.loop ⟨5, [6, 49, 50, 51], [[47]]⟩)))
  ⟨8, [6], [[47]]⟩))
  .skip))))))))))))
  ⟨9, [], []⟩))
def k_dyn_to_1 : KC := (.reg [
rq 34 (.bin .lss (.t 33) (.t 32))]
  (.seq (.cond (.t 34)
  .skip
  (.exit 1))
  ⟨2, [3, 31, 32, 33], [[29]]⟩))
def k_dyn_to_2 : KC := (.seq (.block 2 (.reg [
rq 35 (.iaddr 5 (.t 31) (.t 33)),
rq 36 (.load true 5 (.t 35)),
rq 5 (.alloc [(.int .i64 0), (.int .i64 0), (.str []), (.sl []), (.sl [])]),
rz (.store 5 (.t 5) (.t 36))]
  (.lreg [
rq 37 (.move (.t 3)),
rq 38 (.load true 5 (.t 5)),
rq 39 (.call .pur F.dyn_to [(.t 38)]),
rq 40 (.ilit 1 [(.t 39)]),
rq 41 (.app 1 16 (.t 37) (.t 40)),
rq 3 (.move (.t 41))])))
  ⟨3, [3, 31, 32, 33], [[29]]⟩)
def k_dyn_to_3 : KC := (.lreg [
rq 42 (.bin .add (.t 33) (.c (.int .i64 1))),
rq 33 (.move (.t 42))])
def k_dyn_to_4 : KC := (.reg [
rq 43 (.move (.t 3)),
rq 44 (.mkI 66 (.t 43)),
rq 2 (.move (.t 44))]
  .ret)
def k_dyn_to_5 : KC := (.reg [
rq 52 (.bin .lss (.t 51) (.t 50))]
  (.seq (.cond (.t 52)
  .skip
  (.exit 3))
  ⟨6, [6, 49, 50, 51], [[47]]⟩))
def k_dyn_to_6 : KC := (.seq (.block 4 (.reg [
rq 53 (.iaddr 6 (.t 49) (.t 51)),
rq 54 (.load true 6 (.t 53)),
rq 8 (.alloc [(.str []), (.int .i64 0), (.int .i64 0), (.str []), (.sl []), (.sl [])]),
rz (.store 6 (.t 8) (.t 54))]
  (.ldreg [
rq 55 (.move (.t 6)),
rq 56 (.faddr 0 (.t 8)),
rq 57 (.load false 1 (.t 56)),
rq 58 (.faddr 1 (.t 8)),
rq 59 (.load true 5 (.t 58)),
rq 60 (.call .pur F.dyn_to [(.t 59)]),
rq 61 (.build [(.str []), .nili] [(0, 1, (.t 57)), (1, 1, (.t 60))]),
rq 62 (.ilit 2 [(.t 61)])] [
rq 63 (.app 2 32 (.t 55) (.t 62)),
rq 6 (.move (.t 63))])))
  ⟨7, [6, 49, 50, 51], [[47]]⟩)
def k_dyn_to_7 : KC := (.lreg [
rq 64 (.bin .add (.t 51) (.c (.int .i64 1))),
rq 51 (.move (.t 64))])
def k_dyn_to_8 : KC := (.reg [
rq 65 (.move (.t 6)),
rq 66 (.mkI 68 (.t 65)),
rq 2 (.move (.t 66))]
  .ret)
def k_dyn_to_9 : KC := (.reg [
rq 2 (.move (.c .nili))]
  .ret)
def r_dyn_to : KF where
  np := 1
  res := [.tmp 2]
  code := [k_dyn_to_0, k_dyn_to_1, k_dyn_to_2, k_dyn_to_3, k_dyn_to_4, k_dyn_to_5, k_dyn_to_6, k_dyn_to_7, k_dyn_to_8, k_dyn_to_9]
def k_dyn_Odd_0 : KC := (.reg [
rq 1 (.ibox (.t 0)),
rq 2 (.move (.c .nili))]
  (.seq (.reg [
rq 9 (.faddr 0 (.t 1)),
rq 10 (.load false 1 (.t 9))]
  (.block 0 (.reg [
rq 12 (.bin .eql (.t 10) (.c (.int .i64 4))),
rq 11 (.move (.t 12))]
  (.cond (.t 11)
  (.reg [
rq 13 (.lit 1 []),
rq 3 (.move (.t 13))]
  (.seq (.reg [
rq 14 (.faddr 3 (.t 1)),
rq 15 (.load false 1 (.t 14)),
rq 16 (.len .sl (.t 15)),
rq 17 (.move (.c (.int .i64 0)))]
  (.block 1 (.loop ⟨1, [3, 15, 16, 17], [[13]]⟩)))
  ⟨4, [3], [[13]]⟩))
  (.reg [
rq 30 (.bin .eql (.t 10) (.c (.int .i64 5))),
rq 29 (.move (.t 30))]
  (.cond (.t 29)
  (.reg [
rq 31 (.lit 2 []),
rq 6 (.move (.t 31))]
  (.seq (.reg [
rq 32 (.faddr 4 (.t 1)),
rq 33 (.load false 1 (.t 32)),
rq 34 (.len .sl (.t 33)),
rq 35 (.move (.c (.int .i64 0)))]
  (.block 3 (.loop ⟨5, [6, 33, 34, 35], [[31]]⟩)))
  ⟨8, [6], [[31]]⟩))
  (.reg [
rq 52 (.bin .eql (.t 10) (.c (.int .i64 9))),
rq 51 (.move (.t 52))]
  (.cond (.t 51)
  (.reg [
rq 53 (.faddr 1 (.t 1)),
rq 54 (.load false 1 (.t 53)),
rq 55 (.mkI 3 (.t 54)),
rq 2 (.move (.t 55))]
  .ret)
  (.reg [
rq 57 (.bin .eql (.t 10) (.c (.int .i64 10))),
rq 56 (.move (.t 57))]
  (.cond (.t 56)
  (.reg [
rq 58 (.faddr 1 (.t 1)),
rq 59 (.load false 1 (.t 58)),
rq 60 (.conv .flt (.t 59)),
rq 61 (.mkI 71 (.t 60)),
rq 2 (.move (.t 61))]
  .ret)
  (.reg [
rq 63 (.bin .eql (.t 10) (.c (.int .i64 11))),
rq 62 (.move (.t 63))]
  (.cond (.t 62)
  (.reg [
rq 64 (.mkI 66 (.c (.sl []))),
rq 2 (.move (.t 64))]
  .ret)
  (.reg [
rq 66 (.bin .eql (.t 10) (.c (.int .i64 12))),
rq 65 (.move (.t 66))]
  (.cond (.t 65)
  (.reg [
rq 67 (.mkI 68 (.c (.sl []))),
rq 2 (.move (.t 67))]
  .ret)
  .skip))))))))))))))
  ⟨9, [1], []⟩))
def k_dyn_Odd_1 : KC := (.reg [
rq 18 (.bin .lss (.t 17) (.t 16))]
  (.seq (.cond (.t 18)
  .skip
  (.exit 1))
  ⟨2, [3, 15, 16, 17], [[13]]⟩))
def k_dyn_Odd_2 : KC := (.seq (.block 2 (.reg [
rq 19 (.iaddr 5 (.t 15) (.t 17)),
rq 20 (.load true 5 (.t 19)),
rq 5 (.alloc [(.int .i64 0), (.int .i64 0), (.str []), (.sl []), (.sl [])]),
rz (.store 5 (.t 5) (.t 20))]
  (.lreg [
rq 21 (.move (.t 3)),
rq 22 (.load true 5 (.t 5)),
rq 23 (.call .pur F.dyn_Odd [(.t 22)]),
rq 24 (.ilit 1 [(.t 23)]),
rq 25 (.app 1 16 (.t 21) (.t 24)),
rq 3 (.move (.t 25))])))
  ⟨3, [3, 15, 16, 17], [[13]]⟩)
def k_dyn_Odd_3 : KC := (.lreg [
rq 26 (.bin .add (.t 17) (.c (.int .i64 1))),
rq 17 (.move (.t 26))])
def k_dyn_Odd_4 : KC := (.reg [
rq 27 (.move (.t 3)),
rq 28 (.mkI 66 (.t 27)),
rq 2 (.move (.t 28))]
  .ret)
def k_dyn_Odd_5 : KC := (.reg [
rq 36 (.bin .lss (.t 35) (.t 34))]
  (.seq (.cond (.t 36)
  .skip
  (.exit 3))
  ⟨6, [6, 33, 34, 35], [[31]]⟩))
def k_dyn_Odd_6 : KC := (.seq (.block 4 (.reg [
rq 37 (.iaddr 6 (.t 33) (.t 35)),
rq 38 (.load true 6 (.t 37)),
rq 8 (.alloc [(.str []), (.int .i64 0), (.int .i64 0), (.str []), (.sl []), (.sl [])]),
rz (.store 6 (.t 8) (.t 38))]
  (.ldreg [
rq 39 (.move (.t 6)),
rq 40 (.faddr 0 (.t 8)),
rq 41 (.load false 1 (.t 40)),
rq 42 (.faddr 1 (.t 8)),
rq 43 (.load true 5 (.t 42)),
rq 44 (.call .pur F.dyn_Odd [(.t 43)]),
rq 45 (.build [(.str []), .nili] [(0, 1, (.t 41)), (1, 1, (.t 44))]),
rq 46 (.ilit 2 [(.t 45)])] [
rq 47 (.app 2 32 (.t 39) (.t 46)),
rq 6 (.move (.t 47))])))
  ⟨7, [6, 33, 34, 35], [[31]]⟩)
def k_dyn_Odd_7 : KC := (.lreg [
rq 48 (.bin .add (.t 35) (.c (.int .i64 1))),
rq 35 (.move (.t 48))])
def k_dyn_Odd_8 : KC := (.reg [
rq 49 (.move (.t 6)),
rq 50 (.mkI 68 (.t 49)),
rq 2 (.move (.t 50))]
  .ret)
def k_dyn_Odd_9 : KC := (.reg [
rq 68 (.load true 5 (.t 1)),
rq 69 (.call .pur F.dyn_to [(.t 68)]),
rq 2 (.move (.t 69))]
  .ret)
def r_dyn_Odd : KF where
  np := 1
  res := [.tmp 2]
  code := [k_dyn_Odd_0, k_dyn_Odd_1, k_dyn_Odd_2, k_dyn_Odd_3, k_dyn_Odd_4, k_dyn_Odd_5, k_dyn_Odd_6, k_dyn_Odd_7, k_dyn_Odd_8, k_dyn_Odd_9]
def k_dyn_from_0 : KC := (.reg [
rq 4 (.alloc [(.int .i64 0), (.int .i64 0), (.str []), (.sl []), (.sl [])]),
rq 5 (.move (.c (.bool false)))]
  (.reg [
rq 18 (.move (.t 0)),
rq 19 (.call .pur F.dyn_Kind [(.t 18)]),
rq 20 (.build [(.int .i64 0), (.int .i64 0), (.str []), .nils, .nils] [(0, 1, (.t 19))]),
rq 6 (.alloc [(.int .i64 0), (.int .i64 0), (.str []), (.sl []), (.sl [])]),
rz (.store 5 (.t 6) (.t 20))]
  (.adj (.virt [6] 3 5 [6, 3]) (.adj (.virt [6] 4 6 [6, 4]) (.reg [
rq 21 (.faddr 0 (.t 6)),
rq 22 (.load false 1 (.t 21)),
rq 23 (.bin .geq (.t 22) (.c (.int .i64 0))),
rq 24 (.move (.t 23)),
rqg 25 24 true (.move (.t 1)),
rqg 26 24 true (.bin .gtr (.t 25) (.c (.int .i64 0))),
rq 27 (.pick (.t 24) (.t 26) (.c (.bool false))),
rq 7 (.move (.t 27))]
  (.seq (.reg [
rq 28 (.move (.t 0))]
  (.block 0 (.reg [
rq 29 (.tassert (.bool false) 4 true (.t 28)),
rq 30 (.extract (.t 29) 1),
rq 31 (.extract (.t 29) 0)]
  (.cond (.t 30)
  (.reg [
rq 8 (.move (.t 31))]
  (.reg [
rq 32 (.move (.t 8))]
  (.cond (.t 32)
  (.lreg [
rq 33 (.faddr 1 (.t 6)),
rz (.store 1 (.t 33) (.c (.int .i64 1)))])
  .skip)))
  (.reg [
rq 34 (.tassert (.int .i64 0) 3 true (.t 28)),
rq 35 (.extract (.t 34) 1),
rq 36 (.extract (.t 34) 0)]
  (.cond (.t 35)
  (.reg [
rq 9 (.move (.t 36))]
  (.lreg [
rq 37 (.move (.t 9)),
rq 38 (.faddr 1 (.t 6)),
rz (.store 1 (.t 38) (.t 37))]))
  (.reg [
rq 39 (.tassert (.int .i64 0) 2 true (.t 28)),
rq 40 (.extract (.t 39) 1),
rq 41 (.extract (.t 39) 0)]
  (.cond (.t 40)
  (.reg [
rq 10 (.move (.t 41))]
  (.lreg [
rq 42 (.move (.t 10)),
rq 43 (.faddr 1 (.t 6)),
rz (.store 1 (.t 43) (.t 42))]))
  (.reg [
rq 44 (.tassert (.str []) 9 true (.t 28)),
rq 45 (.extract (.t 44) 1),
rq 46 (.extract (.t 44) 0)]
  (.cond (.t 45)
  (.reg [
rq 11 (.move (.t 46))]
  (.lreg [
rq 47 (.move (.t 11)),
rq 48 (.faddr 2 (.t 6)),
rz (.store 1 (.t 48) (.t 47))]))
  (.reg [
rq 49 (.tassert (.sl []) 66 true (.t 28)),
rq 50 (.extract (.t 49) 1),
rq 51 (.extract (.t 49) 0)]
  (.cond (.t 50)
  (.reg [
rq 12 (.move (.t 51))]
  (.reg [
rq 13 (.move (.c (.int .i64 0)))]
  (.block 1 (.loop ⟨1, [1, 4, 6, 7, 12, 13], [[4], [6], [6, 3], [6, 4]]⟩))))
  (.reg [
rq 77 (.tassert (.sl []) 68 true (.t 28)),
rq 78 (.extract (.t 77) 1),
rq 79 (.extract (.t 77) 0)]
  (.cond (.t 78)
  (.reg [
rq 15 (.move (.t 79))]
  (.reg [
rq 16 (.move (.c (.int .i64 0)))]
  (.block 3 (.loop ⟨4, [1, 4, 6, 7, 15, 16], [[4], [6], [6, 3], [6, 4]]⟩))))
  .skip))))))))))))))
  ⟨7, [4, 6, 7], [[4], [6], [6, 3], [6, 4]]⟩))))))
def k_dyn_from_1 : KC := (.seq (.reg [
rq 52 (.move (.t 13)),
rq 53 (.move (.t 12)),
rq 54 (.len .sl (.t 53)),
rq 55 (.bin .lss (.t 52) (.t 54)),
rq 56 (.move (.t 55)),
rqg 57 56 true (.move (.t 7)),
rq 58 (.pick (.t 56) (.t 57) (.c (.bool false)))]
  (.cond (.t 58)
  .skip
  (.exit 1)))
  ⟨2, [1, 4, 6, 12, 13], [[4], [6], [6, 3], [6, 4]]⟩)
def k_dyn_from_2 : KC := (.seq (.block 2 (.reg [
rq 14 (.alloc [(.int .i64 0), (.int .i64 0), (.str []), (.sl []), (.sl [])])]
  (.reg [
rq 62 (.move (.t 12)),
rq 63 (.move (.t 13)),
rq 64 (.iaddr 1 (.t 62) (.t 63)),
rq 65 (.load false 1 (.t 64)),
rq 66 (.move (.t 1)),
rq 67 (.bin .sub (.t 66) (.c (.int .i64 1))),
rq 68 (.call .pur F.dyn_from [(.t 65), (.t 67)]),
rq 61 (.move (.t 68)),
rq 69 (.extract (.t 61) 0),
rq 70 (.extract (.t 61) 1),
rz (.store 5 (.t 14) (.t 69)),
rq 7 (.move (.t 70))]
  (.lreg [
rq 71 (.faddr 3 (.t 6)),
rq 72 (.load false 1 (.t 71)),
rq 73 (.load true 5 (.t 14)),
rq 74 (.ilit 5 [(.t 73)]),
rq 75 (.app 5 80 (.t 72) (.t 74)),
rq 76 (.faddr 3 (.t 6)),
rz (.store 1 (.t 76) (.t 75))]))))
  ⟨3, [1, 4, 6, 7, 12, 13], [[4], [6], [6, 3], [6, 4]]⟩)
def k_dyn_from_3 : KC := (.lreg [
rq 59 (.move (.t 13)),
rq 60 (.bin .add (.t 59) (.c (.int .i64 1))),
rq 13 (.move (.t 60))])
def k_dyn_from_4 : KC := (.seq (.reg [
rq 80 (.move (.t 16)),
rq 81 (.move (.t 15)),
rq 82 (.len .sl (.t 81)),
rq 83 (.bin .lss (.t 80) (.t 82)),
rq 84 (.move (.t 83)),
rqg 85 84 true (.move (.t 7)),
rq 86 (.pick (.t 84) (.t 85) (.c (.bool false)))]
  (.cond (.t 86)
  .skip
  (.exit 3)))
  ⟨5, [1, 4, 6, 15, 16], [[4], [6], [6, 3], [6, 4]]⟩)
def k_dyn_from_5 : KC := (.seq (.block 4 (.reg [
rq 17 (.alloc [(.int .i64 0), (.int .i64 0), (.str []), (.sl []), (.sl [])])]
  (.reg [
rq 90 (.move (.t 15)),
rq 91 (.move (.t 16)),
rq 92 (.iaddr 2 (.t 90) (.t 91)),
rq 93 (.faddr 1 (.t 92)),
rq 94 (.load false 1 (.t 93)),
rq 95 (.move (.t 1)),
rq 96 (.bin .sub (.t 95) (.c (.int .i64 1))),
rq 97 (.call .pur F.dyn_from [(.t 94), (.t 96)]),
rq 89 (.move (.t 97)),
rq 98 (.extract (.t 89) 0),
rq 99 (.extract (.t 89) 1),
rz (.store 5 (.t 17) (.t 98)),
rq 7 (.move (.t 99))]
  (.ldreg [
rq 100 (.faddr 4 (.t 6)),
rq 101 (.load false 1 (.t 100)),
rq 102 (.move (.t 15)),
rq 103 (.move (.t 16)),
rq 104 (.iaddr 2 (.t 102) (.t 103)),
rq 105 (.faddr 0 (.t 104)),
rq 106 (.load false 1 (.t 105)),
rq 107 (.load true 5 (.t 17)),
rq 108 (.build [(.str []), (.int .i64 0), (.int .i64 0), (.str []), (.sl []), (.sl [])] [(0, 1, (.t 106)), (1, 5, (.t 107))]),
rq 109 (.ilit 6 [(.t 108)])] [
rq 110 (.app 6 96 (.t 101) (.t 109)),
rq 111 (.faddr 4 (.t 6)),
rz (.store 1 (.t 111) (.t 110))]))))
  ⟨6, [1, 4, 6, 7, 15, 16], [[4], [6], [6, 3], [6, 4]]⟩)
def k_dyn_from_6 : KC := (.lreg [
rq 87 (.move (.t 16)),
rq 88 (.bin .add (.t 87) (.c (.int .i64 1))),
rq 16 (.move (.t 88))])
def k_dyn_from_7 : KC := (.reg [
rq 112 (.load true 5 (.t 6)),
rq 113 (.move (.t 7)),
rz (.store 5 (.t 4) (.t 112)),
rq 5 (.move (.t 113))]
  .ret)
def r_dyn_from : KF where
  np := 2
  res := [.cell 4 true 5, .tmp 5]
  code := [k_dyn_from_0, k_dyn_from_1, k_dyn_from_2, k_dyn_from_3, k_dyn_from_4, k_dyn_from_5, k_dyn_from_6, k_dyn_from_7]
def k_tree_unused_0 : KC := (.reg [
rq 1 (.ibox (.t 0)),
rq 2 (.move (.c (.bool false)))]
  (.reg [
rq 4 (.faddr 0 (.t 1)),
rq 5 (.load false 1 (.t 4)),
rq 6 (.bin .eql (.t 5) (.c (.int .i64 1))),
rq 7 (.move (.t 6)),
rqg 8 7 false (.faddr 0 (.t 1)),
rqg 9 7 false (.load false 1 (.t 8)),
rqg 10 7 false (.bin .eql (.t 9) (.c (.int .i64 2))),
rq 11 (.pick (.t 7) (.c (.bool true)) (.t 10)),
rq 3 (.move (.t 11))]
  (.reg [
rq 12 (.move (.t 3)),
rq 13 (.move (.t 12)),
rqg 14 13 false (.faddr 1 (.t 1)),
rqg 15 13 false (.load false 1 (.t 14)),
rqg 16 13 false (.bin .eql (.t 15) (.c (.int .i64 0))),
rq 17 (.pick (.t 13) (.c (.bool true)) (.t 16)),
rq 18 (.move (.t 17)),
rqg 19 18 true (.faddr 0 (.t 1)),
rqg 20 18 true (.load false 1 (.t 19)),
rqg 21 18 true (.bin .eql (.t 20) (.c (.int .i64 3))),
rqg 22 18 true (.move (.t 21)),
rqg 23 22 false (.faddr 2 (.t 1)),
rqg 24 22 false (.load false 1 (.t 23)),
rqg 25 22 false (.bin .eql (.t 24) (.c (.str []))),
rqg 26 18 true (.pick (.t 22) (.c (.bool true)) (.t 25)),
rq 27 (.pick (.t 18) (.t 26) (.c (.bool false))),
rq 28 (.move (.t 27)),
rqg 29 28 true (.faddr 0 (.t 1)),
rqg 30 28 true (.load false 1 (.t 29)),
rqg 31 28 true (.bin .eql (.t 30) (.c (.int .i64 4))),
rqg 32 28 true (.move (.t 31)),
rqg 33 32 false (.faddr 3 (.t 1)),
rqg 34 32 false (.load false 1 (.t 33)),
rqg 35 32 false (.len .sl (.t 34)),
rqg 36 32 false (.bin .eql (.t 35) (.c (.int .i64 0))),
rqg 37 28 true (.pick (.t 32) (.c (.bool true)) (.t 36)),
rq 38 (.pick (.t 28) (.t 37) (.c (.bool false))),
rq 39 (.move (.t 38)),
rqg 40 39 true (.faddr 0 (.t 1)),
rqg 41 39 true (.load false 1 (.t 40)),
rqg 42 39 true (.bin .eql (.t 41) (.c (.int .i64 5))),
rqg 43 39 true (.move (.t 42)),
rqg 44 43 false (.faddr 4 (.t 1)),
rqg 45 43 false (.load false 1 (.t 44)),
rqg 46 43 false (.len .sl (.t 45)),
rqg 47 43 false (.bin .eql (.t 46) (.c (.int .i64 0))),
rqg 48 39 true (.pick (.t 43) (.c (.bool true)) (.t 47)),
rq 49 (.pick (.t 39) (.t 48) (.c (.bool false))),
rq 2 (.move (.t 49))]
  .ret)))
def r_tree_unused : KF where
  np := 1
  res := [.tmp 2]
  code := [k_tree_unused_0]
def k_text_Bad_0 : KC := (.reg [
rq 2 (.move (.c (.int .i64 0)))]
  (.seq (.reg [
rq 7 (.move (.t 0)),
rq 8 (.range (.t 7))]
  (.block 0 (.loop ⟨1, [0, 8], [[8]]⟩)))
  ⟨4, [], []⟩))
def k_text_Bad_1 : KC := (.reg [
rq 9 (.next (.t 8)),
rq 10 (.extract (.t 9) 0)]
  (.seq (.cond (.t 10)
  .skip
  (.exit 0))
  ⟨2, [0, 8, 9], [[8]]⟩))
def k_text_Bad_2 : KC := (.block 1 (.reg [
rq 11 (.extract (.t 9) 1),
rq 12 (.extract (.t 9) 2),
rq 3 (.move (.t 11)),
rq 4 (.move (.t 12))]
  (.seq (.reg [
rq 13 (.move (.t 4)),
rq 14 (.bin .neq (.t 13) (.c (.int .i32 65533)))]
  (.cond (.t 14)
  (.exit 1)
  .skip))
  ⟨3, [0, 3, 8], [[8]]⟩)))
def k_text_Bad_3 : KC := (.reg [
rq 16 (.move (.t 0)),
rq 17 (.move (.t 3)),
rq 18 (.slice 0 (.t 16) (some (.t 17)) none),
rq 19 (.call .pur F.unicode_utf8_DecodeRuneInString [(.t 18)]),
rq 15 (.move (.t 19)),
rq 20 (.extract (.t 15) 0),
rq 21 (.extract (.t 15) 1),
rq 5 (.move (.t 20)),
rq 6 (.move (.t 21))]
  (.reg [
rq 22 (.move (.t 6)),
rq 23 (.bin .eql (.t 22) (.c (.int .i64 1)))]
  (.cond (.t 23)
  (.reg [
rq 24 (.move (.t 3)),
rq 2 (.move (.t 24))]
  .ret)
  .skip)))
def k_text_Bad_4 : KC := (.reg [
rq 2 (.move (.c (.int .i64 (-1))))]
  .ret)
def r_text_Bad : KF where
  np := 1
  res := [.tmp 2]
  code := [k_text_Bad_0, k_text_Bad_1, k_text_Bad_2, k_text_Bad_3, k_text_Bad_4]
def k_text_Right_0 : KC := (.reg [
rq 2 (.move (.c (.bool false)))]
  (.reg [
rq 3 (.move (.t 0)),
rq 4 (.call .pur F.text_Bad [(.t 3)]),
rq 5 (.bin .lss (.t 4) (.c (.int .i64 0))),
rq 2 (.move (.t 5))]
  .ret))
def r_text_Right : KF where
  np := 1
  res := [.tmp 2]
  code := [k_text_Right_0]
def k_tree_keys_0 : KC := (.reg [
rq 2 (.move (.c (.bool false)))]
  (.reg [
rq 6 .mkMap,
rq 3 (.move (.t 6))]
  (.seq (.reg [
rq 7 (.move (.t 0)),
rq 8 (.len .sl (.t 7)),
rq 9 (.move (.c (.int .i64 0)))]
  (.block 0 (.loop ⟨1, [3, 7, 8, 9], [[6]]⟩)))
  ⟨4, [], []⟩)))
def k_tree_keys_1 : KC := (.reg [
rq 10 (.bin .lss (.t 9) (.t 8))]
  (.seq (.cond (.t 10)
  .skip
  (.exit 0))
  ⟨2, [3, 7, 8, 9], [[6]]⟩))
def k_tree_keys_2 : KC := (.seq (.block 1 (.reg [
rq 11 (.iaddr 6 (.t 7) (.t 9)),
rq 12 (.load true 6 (.t 11)),
rq 5 (.alloc [(.str []), (.int .i64 0), (.int .i64 0), (.str []), (.sl []), (.sl [])]),
rz (.store 6 (.t 5) (.t 12))]
  (.reg [
rq 13 (.move (.t 3)),
rq 14 (.faddr 0 (.t 5)),
rq 15 (.load false 1 (.t 14)),
rq 16 (.lookup .str (.int .i64 0) false (.t 13) (.t 15)),
rq 17 (.bin .add (.t 16) (.c (.int .i64 1))),
rz (.mapUpd .str (.t 13) (.t 15) (.t 17))]
  (.reg [
rq 18 (.move (.t 3)),
rq 19 (.faddr 0 (.t 5)),
rq 20 (.load false 1 (.t 19)),
rq 21 (.lookup .str (.int .i64 0) false (.t 18) (.t 20)),
rq 22 (.bin .gtr (.t 21) (.c (.int .i64 1))),
rq 23 (.move (.t 22)),
rqg 24 23 false (.faddr 0 (.t 5)),
rqg 25 23 false (.load false 1 (.t 24)),
rqg 26 23 false (.call .pur F.text_Right [(.t 25)]),
rqg 27 23 false (.un .not (.t 26)),
rq 28 (.pick (.t 23) (.c (.bool true)) (.t 27))]
  (.cond (.t 28)
  (.reg [
rq 2 (.move (.c (.bool false)))]
  .ret)
  .skip)))))
  ⟨3, [3, 7, 8, 9], [[6]]⟩)
def k_tree_keys_3 : KC := (.lreg [
rq 29 (.bin .add (.t 9) (.c (.int .i64 1))),
rq 9 (.move (.t 29))])
def k_tree_keys_4 : KC := (.reg [
rq 2 (.move (.c (.bool true)))]
  .ret)
def r_tree_keys : KF where
  np := 1
  res := [.tmp 2]
  code := [k_tree_keys_0, k_tree_keys_1, k_tree_keys_2, k_tree_keys_3, k_tree_keys_4]
def k_tree_Right_1_1_0 : KC := (.reg [
rq 3 (.ibox (.t 0)),
rq 4 (.move (.c (.bool false)))]
  (.reg [
rq 5 (.load false 1 (.t 1)),
rq 6 (.load true 5 (.t 3)),
rq 7 (.load false 1 (.t 2)),
rq 8 (.bin .sub (.t 7) (.c (.int .i64 1))),
rq 9 (.callv .pur (.t 5) [(.t 6), (.t 8)]),
rq 10 (.un .not (.t 9)),
rq 4 (.move (.t 10))]
  .ret))
def r_tree_Right_1_1 : KF where
  np := 3
  res := [.tmp 4]
  code := [k_tree_Right_1_1_0]
def k_tree_Right_1_0 : KC := (.reg [
rq 3 (.ibox (.t 0)),
rq 4 (.ibox (.t 1)),
rq 5 (.move (.c (.bool false)))]
  (.seq (.reg [
rq 6 (.load false 1 (.t 4)),
rq 7 (.bin .lss (.t 6) (.c (.int .i64 1))),
rq 8 (.move (.t 7)),
rqg 9 8 false (.load true 5 (.t 3)),
rqg 10 8 false (.call .pur F.tree_unused [(.t 9)]),
rqg 11 8 false (.un .not (.t 10)),
rq 12 (.pick (.t 8) (.c (.bool true)) (.t 11))]
  (.cond (.t 12)
  (.reg [
rq 5 (.move (.c (.bool false)))]
  .ret)
  .skip))
  ⟨1, [2, 3, 4], []⟩))
def k_tree_Right_1_1 : KC := (.seq (.reg [
rq 13 (.faddr 0 (.t 3)),
rq 14 (.load false 1 (.t 13))]
  (.block 0 (.reg [
rq 16 (.bin .eql (.t 14) (.c (.int .i64 0))),
rq 15 (.move (.t 16))]
  (.cond (.t 15)
  (.reg [
rq 5 (.move (.c (.bool true)))]
  .ret)
  (.reg [
rq 18 (.bin .eql (.t 14) (.c (.int .i64 1))),
rq 17 (.move (.t 18))]
  (.cond (.t 17)
  (.reg [
rq 19 (.faddr 1 (.t 3)),
rq 20 (.load false 1 (.t 19)),
rq 21 (.bin .eql (.t 20) (.c (.int .i64 0))),
rq 22 (.move (.t 21)),
rqg 23 22 false (.faddr 1 (.t 3)),
rqg 24 22 false (.load false 1 (.t 23)),
rqg 25 22 false (.bin .eql (.t 24) (.c (.int .i64 1))),
rq 26 (.pick (.t 22) (.c (.bool true)) (.t 25)),
rq 5 (.move (.t 26))]
  .ret)
  (.reg [
rq 28 (.bin .eql (.t 14) (.c (.int .i64 2))),
rq 27 (.move (.t 28))]
  (.cond (.t 27)
  (.reg [
rq 29 (.faddr 1 (.t 3)),
rq 30 (.load false 1 (.t 29)),
rq 31 (.bin .geq (.t 30) (.c (.int .i64 (-9007199254740991)))),
rq 32 (.move (.t 31)),
rqg 33 32 true (.faddr 1 (.t 3)),
rqg 34 32 true (.load false 1 (.t 33)),
rqg 35 32 true (.bin .leq (.t 34) (.c (.int .i64 9007199254740991))),
rq 36 (.pick (.t 32) (.t 35) (.c (.bool false))),
rq 5 (.move (.t 36))]
  .ret)
  (.reg [
rq 38 (.bin .eql (.t 14) (.c (.int .i64 3))),
rq 37 (.move (.t 38))]
  (.cond (.t 37)
  (.reg [
rq 39 (.faddr 2 (.t 3)),
rq 40 (.load false 1 (.t 39)),
rq 41 (.call .pur F.text_Right [(.t 40)]),
rq 5 (.move (.t 41))]
  .ret)
  (.reg [
rq 43 (.bin .eql (.t 14) (.c (.int .i64 4))),
rq 42 (.move (.t 43))]
  (.cond (.t 42)
  (.reg [
rq 44 (.faddr 3 (.t 3)),
rq 45 (.load false 1 (.t 44)),
rq 46 (.mkF (.func F.tree_Right_1_1) [] [(.t 2), (.t 4)]),
rq 47 (.call .pur F.slices_ContainsFunc__api_Value_api_Value [(.t 45), (.t 46)]),
rq 48 (.un .not (.t 47)),
rq 5 (.move (.t 48))]
  .ret)
  (.reg [
rq 50 (.bin .eql (.t 14) (.c (.int .i64 5))),
rq 49 (.move (.t 50))]
  (.cond (.t 49)
  (.reg [
rq 51 (.faddr 4 (.t 3)),
rq 52 (.load false 1 (.t 51)),
rq 53 (.call .pur F.tree_keys [(.t 52)]),
rq 54 (.move (.t 53)),
rqg 55 54 true (.faddr 4 (.t 3)),
rqg 56 54 true (.load false 1 (.t 55)),
rqg 57 54 true (.mkF (.func F.tree_Right_1_2) [] [(.t 2), (.t 4)]),
rqg 58 54 true (.call .pur F.slices_ContainsFunc__api_Pair_api_Pair [(.t 56), (.t 57)]),
rqg 59 54 true (.un .not (.t 58)),
rq 60 (.pick (.t 54) (.t 59) (.c (.bool false))),
rq 5 (.move (.t 60))]
  .ret)
  .skip))))))))))))))
  ⟨2, [], []⟩)
def k_tree_Right_1_2 : KC := (.reg [
rq 5 (.move (.c (.bool false)))]
  .ret)
def r_tree_Right_1 : KF where
  np := 3
  res := [.tmp 5]
  code := [k_tree_Right_1_0, k_tree_Right_1_1, k_tree_Right_1_2]
def k_slices_ContainsFunc__api_Value_api_Value_0 : KC := (.reg [
rq 4 (.move (.c (.bool false)))]
  (.reg [
rq 5 (.move (.t 0)),
rq 6 (.move (.t 1)),
rq 7 (.call .pur F.slices_IndexFunc__api_Value_api_Value [(.t 5), (.t 6)]),
rq 8 (.bin .geq (.t 7) (.c (.int .i64 0))),
rq 4 (.move (.t 8))]
  .ret))
def r_slices_ContainsFunc__api_Value_api_Value : KF where
  np := 2
  res := [.tmp 4]
  code := [k_slices_ContainsFunc__api_Value_api_Value_0]
def k_slices_IndexFunc__api_Value_api_Value_0 : KC := (.reg [
rq 4 (.move (.c (.int .i64 0)))]
  (.seq (.reg [
rq 6 (.move (.t 0)),
rq 7 (.len .sl (.t 6)),
rq 8 (.move (.c (.int .i64 0)))]
  (.block 0 (.loop ⟨1, [0, 1, 7, 8], []⟩)))
  ⟨4, [], []⟩))
def k_slices_IndexFunc__api_Value_api_Value_1 : KC := (.reg [
rq 9 (.bin .lss (.t 8) (.t 7))]
  (.seq (.cond (.t 9)
  .skip
  (.exit 0))
  ⟨2, [0, 1, 7, 8], []⟩))
def k_slices_IndexFunc__api_Value_api_Value_2 : KC := (.seq (.block 1 (.reg [
rq 10 (.move (.t 8)),
rq 5 (.move (.t 10))]
  (.reg [
rq 11 (.move (.t 1)),
rq 12 (.move (.t 0)),
rq 13 (.move (.t 5)),
rq 14 (.iaddr 5 (.t 12) (.t 13)),
rq 15 (.load true 5 (.t 14)),
rq 16 (.callv .pur (.t 11) [(.t 15)])]
  (.cond (.t 16)
  (.reg [
rq 17 (.move (.t 5)),
rq 4 (.move (.t 17))]
  .ret)
  .skip))))
  ⟨3, [0, 1, 7, 8], []⟩)
def k_slices_IndexFunc__api_Value_api_Value_3 : KC := (.lreg [
rq 18 (.bin .add (.t 8) (.c (.int .i64 1))),
rq 8 (.move (.t 18))])
def k_slices_IndexFunc__api_Value_api_Value_4 : KC := (.reg [
rq 4 (.move (.c (.int .i64 (-1))))]
  .ret)
def r_slices_IndexFunc__api_Value_api_Value : KF where
  np := 2
  res := [.tmp 4]
  code := [k_slices_IndexFunc__api_Value_api_Value_0, k_slices_IndexFunc__api_Value_api_Value_1, k_slices_IndexFunc__api_Value_api_Value_2, k_slices_IndexFunc__api_Value_api_Value_3, k_slices_IndexFunc__api_Value_api_Value_4]
def k_slices_ContainsFunc__api_Pair_api_Pair_0 : KC := (.reg [
rq 4 (.move (.c (.bool false)))]
  (.reg [
rq 5 (.move (.t 0)),
rq 6 (.move (.t 1)),
rq 7 (.call .pur F.slices_IndexFunc__api_Pair_api_Pair [(.t 5), (.t 6)]),
rq 8 (.bin .geq (.t 7) (.c (.int .i64 0))),
rq 4 (.move (.t 8))]
  .ret))
def r_slices_ContainsFunc__api_Pair_api_Pair : KF where
  np := 2
  res := [.tmp 4]
  code := [k_slices_ContainsFunc__api_Pair_api_Pair_0]
def k_slices_IndexFunc__api_Pair_api_Pair_0 : KC := (.reg [
rq 4 (.move (.c (.int .i64 0)))]
  (.seq (.reg [
rq 6 (.move (.t 0)),
rq 7 (.len .sl (.t 6)),
rq 8 (.move (.c (.int .i64 0)))]
  (.block 0 (.loop ⟨1, [0, 1, 7, 8], []⟩)))
  ⟨4, [], []⟩))
def k_slices_IndexFunc__api_Pair_api_Pair_1 : KC := (.reg [
rq 9 (.bin .lss (.t 8) (.t 7))]
  (.seq (.cond (.t 9)
  .skip
  (.exit 0))
  ⟨2, [0, 1, 7, 8], []⟩))
def k_slices_IndexFunc__api_Pair_api_Pair_2 : KC := (.seq (.block 1 (.reg [
rq 10 (.move (.t 8)),
rq 5 (.move (.t 10))]
  (.reg [
rq 11 (.move (.t 1)),
rq 12 (.move (.t 0)),
rq 13 (.move (.t 5)),
rq 14 (.iaddr 6 (.t 12) (.t 13)),
rq 15 (.load true 6 (.t 14)),
rq 16 (.callv .pur (.t 11) [(.t 15)])]
  (.cond (.t 16)
  (.reg [
rq 17 (.move (.t 5)),
rq 4 (.move (.t 17))]
  .ret)
  .skip))))
  ⟨3, [0, 1, 7, 8], []⟩)
def k_slices_IndexFunc__api_Pair_api_Pair_3 : KC := (.lreg [
rq 18 (.bin .add (.t 8) (.c (.int .i64 1))),
rq 8 (.move (.t 18))])
def k_slices_IndexFunc__api_Pair_api_Pair_4 : KC := (.reg [
rq 4 (.move (.c (.int .i64 (-1))))]
  .ret)
def r_slices_IndexFunc__api_Pair_api_Pair : KF where
  np := 2
  res := [.tmp 4]
  code := [k_slices_IndexFunc__api_Pair_api_Pair_0, k_slices_IndexFunc__api_Pair_api_Pair_1, k_slices_IndexFunc__api_Pair_api_Pair_2, k_slices_IndexFunc__api_Pair_api_Pair_3, k_slices_IndexFunc__api_Pair_api_Pair_4]
def k_tree_Right_1_2_0 : KC := (.reg [
rq 3 (.ibox (.t 0)),
rq 4 (.move (.c (.bool false)))]
  (.reg [
rq 5 (.load false 1 (.t 1)),
rq 6 (.faddr 1 (.t 3)),
rq 7 (.load true 5 (.t 6)),
rq 8 (.load false 1 (.t 2)),
rq 9 (.bin .sub (.t 8) (.c (.int .i64 1))),
rq 10 (.callv .pur (.t 5) [(.t 7), (.t 9)]),
rq 11 (.un .not (.t 10)),
rq 4 (.move (.t 11))]
  .ret))
def r_tree_Right_1_2 : KF where
  np := 3
  res := [.tmp 4]
  code := [k_tree_Right_1_2_0]
def k_tree_Right_0 : KC := (.reg [
rq 1 (.ibox (.t 0)),
rq 2 (.move (.c (.bool false)))]
  (.reg [
rq 3 (.alloc [.nilf])]
  (.reg [
rq 4 (.mkF (.func F.tree_Right_1) [] [(.t 3)]),
rz (.store 1 (.t 3) (.t 4))]
  (.reg [
rq 5 (.load false 1 (.t 3)),
rq 6 (.load true 5 (.t 1)),
rq 7 (.callv .pur (.t 5) [(.t 6), (.c (.int .i64 12))]),
rq 2 (.move (.t 7))]
  .ret))))
def r_tree_Right : KF where
  np := 1
  res := [.tmp 2]
  code := [k_tree_Right_0]
def k_dyn_From_0 : KC := (.reg [
rq 2 (.alloc [(.int .i64 0), (.int .i64 0), (.str []), (.sl []), (.sl [])]),
rq 3 (.move (.c (.int .i64 0)))]
  (.reg [
rq 7 (.move (.t 0)),
rq 8 (.call .pur F.dyn_from [(.t 7), (.c (.int .i64 12))]),
rq 6 (.move (.t 8)),
rq 9 (.extract (.t 6) 0),
rq 10 (.extract (.t 6) 1),
rq 4 (.alloc [(.int .i64 0), (.int .i64 0), (.str []), (.sl []), (.sl [])]),
rz (.store 5 (.t 4) (.t 9)),
rq 5 (.move (.t 10))]
  (.seq (.reg [
rq 11 (.move (.t 5)),
rq 12 (.un .not (.t 11)),
rq 13 (.move (.t 12)),
rqg 14 13 false (.load true 5 (.t 4)),
rqg 15 13 false (.call .pur F.tree_Right [(.t 14)]),
rqg 16 13 false (.un .not (.t 15)),
rq 17 (.pick (.t 13) (.c (.bool true)) (.t 16))]
  (.cond (.t 17)
  (.reg [
rq 18 (.build [(.int .i64 0), (.int .i64 0), (.str []), (.sl []), (.sl [])] []),
rz (.store 5 (.t 2) (.t 18)),
rq 3 (.move (.c (.int .i64 1)))]
  .ret)
  .skip))
  ⟨1, [2, 4], [[2], [4]]⟩)))
def k_dyn_From_1 : KC := (.reg [
rq 19 (.load true 5 (.t 4)),
rz (.store 5 (.t 2) (.t 19)),
rq 3 (.move (.c (.int .i64 0)))]
  .ret)
def r_dyn_From : KF where
  np := 1
  res := [.cell 2 true 5, .tmp 3]
  code := [k_dyn_From_0, k_dyn_From_1]
def k_cascaderef04_Stands_0 : KC := (.reg [
rq 1 (.ibox (.t 0)),
rq 2 (.alloc [(.int .i64 0), (.int .i64 0), (.str []), (.sl []), (.sl [])]),
rq 3 (.move (.c (.bool false)))]
  (.reg [
rq 12 (.faddr 0 (.t 1)),
rq 13 (.load false 1 (.t 12)),
rq 14 (.build [(.int .i64 0), (.int .i64 0), (.str []), .nils, .nils] [(0, 1, (.t 13))]),
rq 4 (.alloc [(.int .i64 0), (.int .i64 0), (.str []), (.sl []), (.sl [])]),
rz (.store 5 (.t 4) (.t 14))]
  (.adj (.virt [4] 3 5 [4, 3]) (.adj (.virt [4] 4 6 [4, 4]) (.reg [
rq 5 (.move (.c (.bool true)))]
  (.seq (.reg [
rq 15 (.faddr 0 (.t 1)),
rq 16 (.load false 1 (.t 15))]
  (.block 0 (.seq (.reg [
rq 19 (.bin .eql (.t 16) (.c (.int .i64 1))),
rq 18 (.move (.t 19))]
  (.cond (.t 18)
  .skip
  (.lreg [
rq 20 (.bin .eql (.t 16) (.c (.int .i64 2))),
rq 18 (.move (.t 20))])))
  ⟨1, [1, 2, 4, 5, 16, 18], [[2], [4], [4, 3], [4, 4]]⟩)))
  ⟨8, [2, 4, 5], [[2], [4], [4, 3], [4, 4]]⟩))))))
def k_cascaderef04_Stands_1 : KC := (.cond (.t 18)
  (.reg [
rq 21 (.faddr 1 (.t 1)),
rq 22 (.load false 1 (.t 21)),
rq 23 (.faddr 1 (.t 4)),
rz (.store 1 (.t 23) (.t 22))]
  (.reg [
rq 24 (.faddr 0 (.t 1)),
rq 25 (.load false 1 (.t 24)),
rq 26 (.bin .eql (.t 25) (.c (.int .i64 1))),
rq 27 (.move (.t 26)),
rqg 28 27 true (.faddr 1 (.t 1)),
rqg 29 27 true (.load false 1 (.t 28)),
rqg 30 27 true (.bin .neq (.t 29) (.c (.int .i64 1))),
rq 31 (.pick (.t 27) (.t 30) (.c (.bool false)))]
  (.cond (.t 31)
  (.lreg [
rq 32 (.faddr 1 (.t 4)),
rz (.store 1 (.t 32) (.c (.int .i64 0)))])
  .skip)))
  (.reg [
rq 34 (.bin .eql (.t 16) (.c (.int .i64 3))),
rq 33 (.move (.t 34))]
  (.cond (.t 33)
  (.lreg [
rq 35 (.faddr 2 (.t 1)),
rq 36 (.load false 1 (.t 35)),
rq 37 (.faddr 2 (.t 4)),
rz (.store 1 (.t 37) (.t 36))])
  (.reg [
rq 39 (.bin .eql (.t 16) (.c (.int .i64 4))),
rq 38 (.move (.t 39))]
  (.cond (.t 38)
  (.reg [
rq 6 (.move (.c (.int .i64 0)))]
  (.block 1 (.loop ⟨2, [1, 2, 4, 5, 6], [[2], [4], [4, 3], [4, 4]]⟩)))
  (.reg [
rq 67 (.bin .eql (.t 16) (.c (.int .i64 5))),
rq 66 (.move (.t 67))]
  (.cond (.t 66)
  (.reg [
rq 9 (.move (.c (.int .i64 0)))]
  (.block 3 (.loop ⟨5, [1, 2, 4, 5, 9], [[2], [4], [4, 3], [4, 4]]⟩)))
  (.reg [
rq 103 (.bin .eql (.t 16) (.c (.int .i64 9))),
rq 102 (.move (.t 103))]
  (.cond (.t 102)
  (.reg [
rq 104 (.faddr 0 (.t 4)),
rz (.store 1 (.t 104) (.c (.int .i64 2)))]
  (.lreg [
rq 105 (.faddr 1 (.t 1)),
rq 106 (.load false 1 (.t 105)),
rq 107 (.faddr 1 (.t 4)),
rz (.store 1 (.t 107) (.t 106))]))
  (.reg [
rq 109 (.bin .eql (.t 16) (.c (.int .i64 10))),
rq 108 (.move (.t 109))]
  (.cond (.t 108)
  (.reg [
rq 110 (.build [(.int .i64 0), (.int .i64 0), (.str []), (.sl []), (.sl [])] []),
rz (.store 5 (.t 2) (.t 110)),
rq 3 (.move (.c (.bool false)))]
  .ret)
  (.reg [
rq 112 (.bin .eql (.t 16) (.c (.int .i64 11))),
rq 111 (.move (.t 112))]
  (.cond (.t 111)
  (.lreg [
rq 113 (.faddr 0 (.t 4)),
rz (.store 1 (.t 113) (.c (.int .i64 4)))])
  (.reg [
rq 115 (.bin .eql (.t 16) (.c (.int .i64 12))),
rq 114 (.move (.t 115))]
  (.cond (.t 114)
  (.lreg [
rq 116 (.faddr 0 (.t 4)),
rz (.store 1 (.t 116) (.c (.int .i64 5)))])
  (.lreg [
rq 17 (.faddr 0 (.t 4)),
rz (.store 1 (.t 17) (.c (.int .i64 0)))]))))))))))))))))
def k_cascaderef04_Stands_2 : KC := (.seq (.reg [
rq 40 (.move (.t 6)),
rq 41 (.faddr 3 (.t 1)),
rq 42 (.load false 1 (.t 41)),
rq 43 (.len .sl (.t 42)),
rq 44 (.bin .lss (.t 40) (.t 43))]
  (.cond (.t 44)
  .skip
  (.exit 1)))
  ⟨3, [1, 2, 4, 5, 6], [[2], [4], [4, 3], [4, 4]]⟩)
def k_cascaderef04_Stands_3 : KC := (.seq (.block 2 (.reg [
rq 48 (.faddr 3 (.t 1)),
rq 49 (.load false 1 (.t 48)),
rq 50 (.move (.t 6)),
rq 51 (.iaddr 5 (.t 49) (.t 50)),
rq 52 (.load true 5 (.t 51)),
rq 53 (.call .pur F.cascaderef04_Stands [(.t 52)]),
rq 47 (.move (.t 53)),
rq 54 (.extract (.t 47) 0),
rq 55 (.extract (.t 47) 1),
rq 7 (.alloc [(.int .i64 0), (.int .i64 0), (.str []), (.sl []), (.sl [])]),
rz (.store 5 (.t 7) (.t 54)),
rq 8 (.move (.t 55))]
  (.reg [
rq 56 (.faddr 3 (.t 4)),
rq 57 (.load false 1 (.t 56)),
rq 58 (.load true 5 (.t 7)),
rq 59 (.ilit 5 [(.t 58)]),
rq 60 (.app 5 80 (.t 57) (.t 59)),
rq 61 (.faddr 3 (.t 4)),
rz (.store 1 (.t 61) (.t 60))]
  (.lreg [
rq 62 (.move (.t 5)),
rq 63 (.move (.t 62)),
rqg 64 63 true (.move (.t 8)),
rq 65 (.pick (.t 63) (.t 64) (.c (.bool false))),
rq 5 (.move (.t 65))]))))
  ⟨4, [1, 2, 4, 5, 6], [[2], [4], [4, 3], [4, 4]]⟩)
def k_cascaderef04_Stands_4 : KC := (.lreg [
rq 45 (.move (.t 6)),
rq 46 (.bin .add (.t 45) (.c (.int .i64 1))),
rq 6 (.move (.t 46))])
def k_cascaderef04_Stands_5 : KC := (.seq (.reg [
rq 68 (.move (.t 9)),
rq 69 (.faddr 4 (.t 1)),
rq 70 (.load false 1 (.t 69)),
rq 71 (.len .sl (.t 70)),
rq 72 (.bin .lss (.t 68) (.t 71))]
  (.cond (.t 72)
  .skip
  (.exit 3)))
  ⟨6, [1, 2, 4, 5, 9], [[2], [4], [4, 3], [4, 4]]⟩)
def k_cascaderef04_Stands_6 : KC := (.seq (.block 4 (.reg [
rq 76 (.faddr 4 (.t 1)),
rq 77 (.load false 1 (.t 76)),
rq 78 (.move (.t 9)),
rq 79 (.iaddr 6 (.t 77) (.t 78)),
rq 80 (.faddr 1 (.t 79)),
rq 81 (.load true 5 (.t 80)),
rq 82 (.call .pur F.cascaderef04_Stands [(.t 81)]),
rq 75 (.move (.t 82)),
rq 83 (.extract (.t 75) 0),
rq 84 (.extract (.t 75) 1),
rq 10 (.alloc [(.int .i64 0), (.int .i64 0), (.str []), (.sl []), (.sl [])]),
rz (.store 5 (.t 10) (.t 83)),
rq 11 (.move (.t 84))]
  (.dreg [
rq 85 (.faddr 4 (.t 4)),
rq 86 (.load false 1 (.t 85)),
rq 87 (.faddr 4 (.t 1)),
rq 88 (.load false 1 (.t 87)),
rq 89 (.move (.t 9)),
rq 90 (.iaddr 6 (.t 88) (.t 89)),
rq 91 (.faddr 0 (.t 90)),
rq 92 (.load false 1 (.t 91)),
rq 93 (.load true 5 (.t 10)),
rq 94 (.build [(.str []), (.int .i64 0), (.int .i64 0), (.str []), (.sl []), (.sl [])] [(0, 1, (.t 92)), (1, 5, (.t 93))]),
rq 95 (.ilit 6 [(.t 94)])] [
rq 96 (.app 6 96 (.t 86) (.t 95)),
rq 97 (.faddr 4 (.t 4)),
rz (.store 1 (.t 97) (.t 96))]
  (.lreg [
rq 98 (.move (.t 5)),
rq 99 (.move (.t 98)),
rqg 100 99 true (.move (.t 11)),
rq 101 (.pick (.t 99) (.t 100) (.c (.bool false))),
rq 5 (.move (.t 101))]))))
  ⟨7, [1, 2, 4, 5, 9], [[2], [4], [4, 3], [4, 4]]⟩)
def k_cascaderef04_Stands_7 : KC := (.lreg [
rq 73 (.move (.t 9)),
rq 74 (.bin .add (.t 73) (.c (.int .i64 1))),
rq 9 (.move (.t 74))])
def k_cascaderef04_Stands_8 : KC := (.reg [
rq 117 (.load true 5 (.t 4)),
rq 118 (.move (.t 5)),
rz (.store 5 (.t 2) (.t 117)),
rq 3 (.move (.t 118))]
  .ret)
def r_cascaderef04_Stands : KF where
  np := 1
  res := [.cell 2 true 5, .tmp 3]
  code := [k_cascaderef04_Stands_0, k_cascaderef04_Stands_1, k_cascaderef04_Stands_2, k_cascaderef04_Stands_3, k_cascaderef04_Stands_4, k_cascaderef04_Stands_5, k_cascaderef04_Stands_6, k_cascaderef04_Stands_7, k_cascaderef04_Stands_8]
def k_cascaderef01_Size_0 : KC := (.reg [
rq 4 (.move (.c (.int .i64 0))),
rq 5 (.move (.c (.int .i32 0)))]
  (.reg [
rq 12 (.move (.t 0)),
rq 13 (.move (.t 1)),
rq 14 (.idx (.t 12) (.t 13)),
rq 15 (.conv (.int .i64) (.t 14)),
rq 6 (.move (.t 15))]
  (.reg [
rq 7 (.move (.c (.int .i64 0))),
rq 8 (.move (.c (.int .i64 0))),
rq 9 (.move (.c (.int .i64 0)))]
  (.seq (.reg [
rq 16 (.move (.t 6)),
rq 17 (.bin .lss (.t 16) (.c (.int .i64 128)))]
  (.cond (.t 17)
  (.reg [
rq 18 (.move (.t 6)),
rq 19 (.conv (.int .i32) (.t 18)),
rq 4 (.move (.c (.int .i64 1))),
rq 5 (.move (.t 19))]
  .ret)
  .skip))
  ⟨1, [0, 1, 6, 7, 8, 9], []⟩))))
def k_cascaderef01_Size_1 : KC := (.seq (.reg [
rq 20 (.move (.t 6)),
rq 21 (.bin .geq (.t 20) (.c (.int .i64 194))),
rq 22 (.move (.t 21)),
rqg 23 22 true (.move (.t 6)),
rqg 24 22 true (.bin .lss (.t 23) (.c (.int .i64 224))),
rq 25 (.pick (.t 22) (.t 24) (.c (.bool false)))]
  (.cond (.t 25)
  (.reg [
rq 7 (.move (.c (.int .i64 2)))]
  (.reg [
rq 26 (.move (.t 6)),
rq 27 (.bin .sub (.t 26) (.c (.int .i64 192))),
rq 8 (.move (.t 27))]
  (.lreg [
rq 9 (.move (.c (.int .i64 128)))])))
  .skip))
  ⟨2, [0, 1, 6, 7, 8, 9], []⟩)
def k_cascaderef01_Size_2 : KC := (.seq (.reg [
rq 28 (.move (.t 6)),
rq 29 (.bin .geq (.t 28) (.c (.int .i64 224))),
rq 30 (.move (.t 29)),
rqg 31 30 true (.move (.t 6)),
rqg 32 30 true (.bin .lss (.t 31) (.c (.int .i64 240))),
rq 33 (.pick (.t 30) (.t 32) (.c (.bool false)))]
  (.cond (.t 33)
  (.reg [
rq 7 (.move (.c (.int .i64 3)))]
  (.reg [
rq 34 (.move (.t 6)),
rq 35 (.bin .sub (.t 34) (.c (.int .i64 224))),
rq 8 (.move (.t 35))]
  (.lreg [
rq 9 (.move (.c (.int .i64 2048)))])))
  .skip))
  ⟨3, [0, 1, 6, 7, 8, 9], []⟩)
def k_cascaderef01_Size_3 : KC := (.seq (.reg [
rq 36 (.move (.t 6)),
rq 37 (.bin .geq (.t 36) (.c (.int .i64 240))),
rq 38 (.move (.t 37)),
rqg 39 38 true (.move (.t 6)),
rqg 40 38 true (.bin .lss (.t 39) (.c (.int .i64 245))),
rq 41 (.pick (.t 38) (.t 40) (.c (.bool false)))]
  (.cond (.t 41)
  (.reg [
rq 7 (.move (.c (.int .i64 4)))]
  (.reg [
rq 42 (.move (.t 6)),
rq 43 (.bin .sub (.t 42) (.c (.int .i64 240))),
rq 8 (.move (.t 43))]
  (.lreg [
rq 9 (.move (.c (.int .i64 65536)))])))
  .skip))
  ⟨4, [0, 1, 7, 8, 9], []⟩)
def k_cascaderef01_Size_4 : KC := (.seq (.reg [
rq 44 (.move (.t 7)),
rq 45 (.bin .eql (.t 44) (.c (.int .i64 0))),
rq 46 (.move (.t 45)),
rqg 47 46 false (.move (.t 1)),
rqg 48 46 false (.move (.t 0)),
rqg 49 46 false (.len .str (.t 48)),
rqg 50 46 false (.move (.t 7)),
rqg 51 46 false (.bin .sub (.t 49) (.t 50)),
rqg 52 46 false (.bin .add (.t 51) (.c (.int .i64 1))),
rqg 53 46 false (.bin .geq (.t 47) (.t 52)),
rq 54 (.pick (.t 46) (.c (.bool true)) (.t 53))]
  (.cond (.t 54)
  (.reg [
rq 4 (.move (.c (.int .i64 0))),
rq 5 (.move (.c (.int .i32 0)))]
  .ret)
  .skip))
  ⟨5, [0, 1, 7, 8, 9], []⟩)
def k_cascaderef01_Size_5 : KC := (.seq (.reg [
rq 10 (.move (.c (.int .i64 1)))]
  (.block 0 (.loop ⟨6, [0, 1, 7, 8, 9, 10], []⟩)))
  ⟨10, [7, 8, 9], []⟩)
def k_cascaderef01_Size_6 : KC := (.seq (.reg [
rq 55 (.move (.t 10)),
rq 56 (.move (.t 7)),
rq 57 (.bin .lss (.t 55) (.t 56))]
  (.cond (.t 57)
  .skip
  (.exit 0)))
  ⟨7, [0, 1, 7, 8, 9, 10], []⟩)
def k_cascaderef01_Size_7 : KC := (.seq (.block 1 (.reg [
rq 60 (.move (.t 0)),
rq 61 (.move (.t 1)),
rq 62 (.move (.t 10)),
rq 63 (.bin .add (.t 61) (.t 62)),
rq 64 (.idx (.t 60) (.t 63)),
rq 65 (.conv (.int .i64) (.t 64)),
rq 11 (.move (.t 65))]
  (.seq (.reg [
rq 66 (.move (.t 11)),
rq 67 (.bin .lss (.t 66) (.c (.int .i64 128))),
rq 68 (.move (.t 67)),
rqg 69 68 false (.move (.t 11)),
rqg 70 68 false (.bin .geq (.t 69) (.c (.int .i64 192))),
rq 71 (.pick (.t 68) (.c (.bool true)) (.t 70))]
  (.cond (.t 71)
  (.reg [
rq 4 (.move (.c (.int .i64 0))),
rq 5 (.move (.c (.int .i32 0)))]
  .ret)
  .skip))
  ⟨8, [0, 1, 7, 8, 9, 10, 11], []⟩)))
  ⟨9, [0, 1, 7, 8, 9, 10], []⟩)
def k_cascaderef01_Size_8 : KC := (.lreg [
rq 72 (.move (.t 8)),
rq 73 (.bin .mul (.t 72) (.c (.int .i64 64))),
rq 74 (.move (.t 11)),
rq 75 (.bin .add (.t 73) (.t 74)),
rq 76 (.bin .sub (.t 75) (.c (.int .i64 128))),
rq 8 (.move (.t 76))])
def k_cascaderef01_Size_9 : KC := (.lreg [
rq 58 (.move (.t 10)),
rq 59 (.bin .add (.t 58) (.c (.int .i64 1))),
rq 10 (.move (.t 59))])
def k_cascaderef01_Size_10 : KC := (.seq (.reg [
rq 77 (.move (.t 8)),
rq 78 (.move (.t 9)),
rq 79 (.bin .lss (.t 77) (.t 78)),
rq 80 (.move (.t 79)),
rqg 81 80 false (.move (.t 8)),
rqg 82 80 false (.bin .gtr (.t 81) (.c (.int .i64 1114111))),
rq 83 (.pick (.t 80) (.c (.bool true)) (.t 82)),
rq 84 (.move (.t 83)),
rqg 85 84 false (.move (.t 8)),
rqg 86 84 false (.bin .geq (.t 85) (.c (.int .i64 55296))),
rqg 87 84 false (.move (.t 86)),
rqg 88 87 true (.move (.t 8)),
rqg 89 87 true (.bin .lss (.t 88) (.c (.int .i64 57344))),
rqg 90 84 false (.pick (.t 87) (.t 89) (.c (.bool false))),
rq 91 (.pick (.t 84) (.c (.bool true)) (.t 90))]
  (.cond (.t 91)
  (.reg [
rq 4 (.move (.c (.int .i64 0))),
rq 5 (.move (.c (.int .i32 0)))]
  .ret)
  .skip))
  ⟨11, [7, 8], []⟩)
def k_cascaderef01_Size_11 : KC := (.reg [
rq 92 (.move (.t 7)),
rq 93 (.move (.t 8)),
rq 94 (.conv (.int .i32) (.t 93)),
rq 4 (.move (.t 92)),
rq 5 (.move (.t 94))]
  .ret)
def r_cascaderef01_Size : KF where
  np := 2
  res := [.tmp 4, .tmp 5]
  code := [k_cascaderef01_Size_0, k_cascaderef01_Size_1, k_cascaderef01_Size_2, k_cascaderef01_Size_3, k_cascaderef01_Size_4, k_cascaderef01_Size_5, k_cascaderef01_Size_6, k_cascaderef01_Size_7, k_cascaderef01_Size_8, k_cascaderef01_Size_9, k_cascaderef01_Size_10, k_cascaderef01_Size_11]
def k_cascaderef01_Bad_0 : KC := (.reg [
rq 2 (.move (.c (.int .i64 0)))]
  (.seq (.reg [
rq 3 (.move (.c (.int .i64 0)))]
  (.block 0 (.loop ⟨1, [0, 3], []⟩)))
  ⟨4, [], []⟩))
def k_cascaderef01_Bad_1 : KC := (.seq (.reg [
rq 6 (.move (.t 3)),
rq 7 (.move (.t 0)),
rq 8 (.len .str (.t 7)),
rq 9 (.bin .lss (.t 6) (.t 8))]
  (.cond (.t 9)
  .skip
  (.exit 0)))
  ⟨2, [0, 3], []⟩)
def k_cascaderef01_Bad_2 : KC := (.block 1 (.reg [
rq 11 (.move (.t 0)),
rq 12 (.move (.t 3)),
rq 13 (.call .pur F.cascaderef01_Size [(.t 11), (.t 12)]),
rq 10 (.move (.t 13)),
rq 14 (.extract (.t 10) 0),
rq 15 (.extract (.t 10) 1),
rq 4 (.move (.t 14)),
rq 5 (.move (.t 15))]
  (.seq (.reg [
rq 16 (.move (.t 4)),
rq 17 (.bin .eql (.t 16) (.c (.int .i64 0)))]
  (.cond (.t 17)
  (.reg [
rq 18 (.move (.t 3)),
rq 2 (.move (.t 18))]
  .ret)
  .skip))
  ⟨3, [0, 3, 4], []⟩)))
def k_cascaderef01_Bad_3 : KC := (.lreg [
rq 19 (.move (.t 3)),
rq 20 (.move (.t 4)),
rq 21 (.bin .add (.t 19) (.t 20)),
rq 3 (.move (.t 21))])
def k_cascaderef01_Bad_4 : KC := (.reg [
rq 2 (.move (.c (.int .i64 (-1))))]
  .ret)
def r_cascaderef01_Bad : KF where
  np := 1
  res := [.tmp 2]
  code := [k_cascaderef01_Bad_0, k_cascaderef01_Bad_1, k_cascaderef01_Bad_2, k_cascaderef01_Bad_3, k_cascaderef01_Bad_4]
def k_cascaderef01_Right_0 : KC := (.reg [
rq 2 (.move (.c (.bool false)))]
  (.reg [
rq 3 (.move (.t 0)),
rq 4 (.call .pur F.cascaderef01_Bad [(.t 3)]),
rq 5 (.bin .eql (.t 4) (.c (.int .i64 (-1)))),
rq 2 (.move (.t 5))]
  .ret))
def r_cascaderef01_Right : KF where
  np := 1
  res := [.tmp 2]
  code := [k_cascaderef01_Right_0]
def k_cascaderef03_right_0 : KC := (.reg [
rq 2 (.ibox (.t 0)),
rq 4 (.move (.c (.bool false)))]
  (.seq (.reg [
rq 8 (.move (.t 1)),
rq 9 (.bin .lss (.t 8) (.c (.int .i64 1))),
rq 10 (.move (.t 9)),
rqg 11 10 false (.faddr 0 (.t 2)),
rqg 12 10 false (.load false 1 (.t 11)),
rqg 13 10 false (.bin .lss (.t 12) (.c (.int .i64 0))),
rq 14 (.pick (.t 10) (.c (.bool true)) (.t 13)),
rq 15 (.move (.t 14)),
rqg 16 15 false (.faddr 0 (.t 2)),
rqg 17 15 false (.load false 1 (.t 16)),
rqg 18 15 false (.bin .gtr (.t 17) (.c (.int .i64 5))),
rq 19 (.pick (.t 15) (.c (.bool true)) (.t 18))]
  (.cond (.t 19)
  (.reg [
rq 4 (.move (.c (.bool false)))]
  .ret)
  .skip))
  ⟨1, [1, 2], []⟩))
def k_cascaderef03_right_1 : KC := (.seq (.reg [
rq 20 (.faddr 0 (.t 2)),
rq 21 (.load false 1 (.t 20)),
rq 22 (.bin .neq (.t 21) (.c (.int .i64 1))),
rq 23 (.move (.t 22)),
rqg 24 23 true (.faddr 0 (.t 2)),
rqg 25 23 true (.load false 1 (.t 24)),
rqg 26 23 true (.bin .neq (.t 25) (.c (.int .i64 2))),
rq 27 (.pick (.t 23) (.t 26) (.c (.bool false))),
rq 28 (.move (.t 27)),
rqg 29 28 true (.faddr 1 (.t 2)),
rqg 30 28 true (.load false 1 (.t 29)),
rqg 31 28 true (.bin .neq (.t 30) (.c (.int .i64 0))),
rq 32 (.pick (.t 28) (.t 31) (.c (.bool false))),
rq 33 (.move (.t 32)),
rqg 34 33 false (.faddr 0 (.t 2)),
rqg 35 33 false (.load false 1 (.t 34)),
rqg 36 33 false (.bin .neq (.t 35) (.c (.int .i64 3))),
rqg 37 33 false (.move (.t 36)),
rqg 38 37 true (.faddr 2 (.t 2)),
rqg 39 37 true (.load false 1 (.t 38)),
rqg 40 37 true (.bin .neq (.t 39) (.c (.str []))),
rqg 41 33 false (.pick (.t 37) (.t 40) (.c (.bool false))),
rq 42 (.pick (.t 33) (.c (.bool true)) (.t 41)),
rq 43 (.move (.t 42)),
rqg 44 43 false (.faddr 0 (.t 2)),
rqg 45 43 false (.load false 1 (.t 44)),
rqg 46 43 false (.bin .neq (.t 45) (.c (.int .i64 4))),
rqg 47 43 false (.move (.t 46)),
rqg 48 47 true (.faddr 3 (.t 2)),
rqg 49 47 true (.load false 1 (.t 48)),
rqg 50 47 true (.len .sl (.t 49)),
rqg 51 47 true (.bin .gtr (.t 50) (.c (.int .i64 0))),
rqg 52 43 false (.pick (.t 47) (.t 51) (.c (.bool false))),
rq 53 (.pick (.t 43) (.c (.bool true)) (.t 52)),
rq 54 (.move (.t 53)),
rqg 55 54 false (.faddr 0 (.t 2)),
rqg 56 54 false (.load false 1 (.t 55)),
rqg 57 54 false (.bin .neq (.t 56) (.c (.int .i64 5))),
rqg 58 54 false (.move (.t 57)),
rqg 59 58 true (.faddr 4 (.t 2)),
rqg 60 58 true (.load false 1 (.t 59)),
rqg 61 58 true (.len .sl (.t 60)),
rqg 62 58 true (.bin .gtr (.t 61) (.c (.int .i64 0))),
rqg 63 54 false (.pick (.t 58) (.t 62) (.c (.bool false))),
rq 64 (.pick (.t 54) (.c (.bool true)) (.t 63))]
  (.cond (.t 64)
  (.reg [
rq 4 (.move (.c (.bool false)))]
  .ret)
  .skip))
  ⟨2, [1, 2], []⟩)
def k_cascaderef03_right_2 : KC := (.seq (.reg [
rq 65 (.faddr 0 (.t 2)),
rq 66 (.load false 1 (.t 65)),
rq 67 (.bin .eql (.t 66) (.c (.int .i64 1))),
rq 68 (.move (.t 67)),
rqg 69 68 true (.faddr 1 (.t 2)),
rqg 70 68 true (.load false 1 (.t 69)),
rqg 71 68 true (.bin .neq (.t 70) (.c (.int .i64 0))),
rq 72 (.pick (.t 68) (.t 71) (.c (.bool false))),
rq 73 (.move (.t 72)),
rqg 74 73 true (.faddr 1 (.t 2)),
rqg 75 73 true (.load false 1 (.t 74)),
rqg 76 73 true (.bin .neq (.t 75) (.c (.int .i64 1))),
rq 77 (.pick (.t 73) (.t 76) (.c (.bool false))),
rq 78 (.move (.t 77)),
rqg 79 78 false (.faddr 1 (.t 2)),
rqg 80 78 false (.load false 1 (.t 79)),
rqg 81 78 false (.bin .gtr (.t 80) (.c (.int .i64 9007199254740991))),
rq 82 (.pick (.t 78) (.c (.bool true)) (.t 81)),
rq 83 (.move (.t 82)),
rqg 84 83 false (.faddr 1 (.t 2)),
rqg 85 83 false (.load false 1 (.t 84)),
rqg 86 83 false (.bin .lss (.t 85) (.c (.int .i64 (-9007199254740991)))),
rq 87 (.pick (.t 83) (.c (.bool true)) (.t 86)),
rq 88 (.move (.t 87)),
rqg 89 88 false (.faddr 2 (.t 2)),
rqg 90 88 false (.load false 1 (.t 89)),
rqg 91 88 false (.call .pur F.cascaderef01_Right [(.t 90)]),
rqg 92 88 false (.un .not (.t 91)),
rq 93 (.pick (.t 88) (.c (.bool true)) (.t 92))]
  (.cond (.t 93)
  (.reg [
rq 4 (.move (.c (.bool false)))]
  .ret)
  .skip))
  ⟨3, [1, 2], []⟩)
def k_cascaderef03_right_3 : KC := (.seq (.reg [
rq 5 (.move (.c (.int .i64 0)))]
  (.block 0 (.loop ⟨4, [1, 2, 5], []⟩)))
  ⟨7, [1, 2], []⟩)
def k_cascaderef03_right_4 : KC := (.seq (.reg [
rq 94 (.move (.t 5)),
rq 95 (.faddr 3 (.t 2)),
rq 96 (.load false 1 (.t 95)),
rq 97 (.len .sl (.t 96)),
rq 98 (.bin .lss (.t 94) (.t 97))]
  (.cond (.t 98)
  .skip
  (.exit 0)))
  ⟨5, [1, 2, 5], []⟩)
def k_cascaderef03_right_5 : KC := (.seq (.block 1 (.reg [
rq 101 (.faddr 3 (.t 2)),
rq 102 (.load false 1 (.t 101)),
rq 103 (.move (.t 5)),
rq 104 (.iaddr 5 (.t 102) (.t 103)),
rq 105 (.load true 5 (.t 104)),
rq 106 (.move (.t 1)),
rq 107 (.bin .sub (.t 106) (.c (.int .i64 1))),
rq 108 (.call .pur F.cascaderef03_right [(.t 105), (.t 107)]),
rq 109 (.un .not (.t 108))]
  (.cond (.t 109)
  (.reg [
rq 4 (.move (.c (.bool false)))]
  .ret)
  .skip)))
  ⟨6, [1, 2, 5], []⟩)
def k_cascaderef03_right_6 : KC := (.lreg [
rq 99 (.move (.t 5)),
rq 100 (.bin .add (.t 99) (.c (.int .i64 1))),
rq 5 (.move (.t 100))])
def k_cascaderef03_right_7 : KC := (.seq (.reg [
rq 6 (.move (.c (.int .i64 0)))]
  (.block 2 (.loop ⟨8, [1, 2, 6], []⟩)))
  ⟨15, [], []⟩)
def k_cascaderef03_right_8 : KC := (.seq (.reg [
rq 110 (.move (.t 6)),
rq 111 (.faddr 4 (.t 2)),
rq 112 (.load false 1 (.t 111)),
rq 113 (.len .sl (.t 112)),
rq 114 (.bin .lss (.t 110) (.t 113))]
  (.cond (.t 114)
  .skip
  (.exit 2)))
  ⟨9, [1, 2, 6], []⟩)
def k_cascaderef03_right_9 : KC := (.seq (.block 3 (.seq (.reg [
rq 117 (.faddr 4 (.t 2)),
rq 118 (.load false 1 (.t 117)),
rq 119 (.move (.t 6)),
rq 120 (.iaddr 6 (.t 118) (.t 119)),
rq 121 (.faddr 0 (.t 120)),
rq 122 (.load false 1 (.t 121)),
rq 123 (.call .pur F.cascaderef01_Right [(.t 122)]),
rq 124 (.un .not (.t 123)),
rq 125 (.move (.t 124)),
rqg 126 125 false (.faddr 4 (.t 2)),
rqg 127 125 false (.load false 1 (.t 126)),
rqg 128 125 false (.move (.t 6)),
rqg 129 125 false (.iaddr 6 (.t 127) (.t 128)),
rqg 130 125 false (.faddr 1 (.t 129)),
rqg 131 125 false (.load true 5 (.t 130)),
rqg 132 125 false (.move (.t 1)),
rqg 133 125 false (.bin .sub (.t 132) (.c (.int .i64 1))),
rqg 134 125 false (.call .pur F.cascaderef03_right [(.t 131), (.t 133)]),
rqg 135 125 false (.un .not (.t 134)),
rq 136 (.pick (.t 125) (.c (.bool true)) (.t 135))]
  (.cond (.t 136)
  (.reg [
rq 4 (.move (.c (.bool false)))]
  .ret)
  .skip))
  ⟨10, [1, 2, 6], []⟩))
  ⟨14, [1, 2, 6], []⟩)
def k_cascaderef03_right_10 : KC := (.reg [
rq 7 (.move (.c (.int .i64 0)))]
  (.block 4 (.loop ⟨11, [1, 2, 6, 7], []⟩)))
def k_cascaderef03_right_11 : KC := (.seq (.reg [
rq 137 (.move (.t 7)),
rq 138 (.move (.t 6)),
rq 139 (.bin .lss (.t 137) (.t 138))]
  (.cond (.t 139)
  .skip
  (.exit 4)))
  ⟨12, [1, 2, 6, 7], []⟩)
def k_cascaderef03_right_12 : KC := (.seq (.block 5 (.dreg [
rq 142 (.faddr 4 (.t 2)),
rq 143 (.load false 1 (.t 142)),
rq 144 (.move (.t 7)),
rq 145 (.iaddr 6 (.t 143) (.t 144)),
rq 146 (.faddr 0 (.t 145)),
rq 147 (.load false 1 (.t 146)),
rq 148 (.faddr 4 (.t 2)),
rq 149 (.load false 1 (.t 148)),
rq 150 (.move (.t 6)),
rq 151 (.iaddr 6 (.t 149) (.t 150)),
rq 152 (.faddr 0 (.t 151)),
rq 153 (.load false 1 (.t 152)),
rq 154 (.bin .eql (.t 147) (.t 153))] []
  (.cond (.t 154)
  (.reg [
rq 4 (.move (.c (.bool false)))]
  .ret)
  .skip)))
  ⟨13, [1, 2, 6, 7], []⟩)
def k_cascaderef03_right_13 : KC := (.lreg [
rq 140 (.move (.t 7)),
rq 141 (.bin .add (.t 140) (.c (.int .i64 1))),
rq 7 (.move (.t 141))])
def k_cascaderef03_right_14 : KC := (.lreg [
rq 115 (.move (.t 6)),
rq 116 (.bin .add (.t 115) (.c (.int .i64 1))),
rq 6 (.move (.t 116))])
def k_cascaderef03_right_15 : KC := (.reg [
rq 4 (.move (.c (.bool true)))]
  .ret)
def r_cascaderef03_right : KF where
  np := 2
  res := [.tmp 4]
  code := [k_cascaderef03_right_0, k_cascaderef03_right_1, k_cascaderef03_right_2, k_cascaderef03_right_3, k_cascaderef03_right_4, k_cascaderef03_right_5, k_cascaderef03_right_6, k_cascaderef03_right_7, k_cascaderef03_right_8, k_cascaderef03_right_9, k_cascaderef03_right_10, k_cascaderef03_right_11, k_cascaderef03_right_12, k_cascaderef03_right_13, k_cascaderef03_right_14, k_cascaderef03_right_15]
def k_cascaderef03_Right_0 : KC := (.reg [
rq 1 (.ibox (.t 0)),
rq 2 (.move (.c (.bool false)))]
  (.reg [
rq 3 (.load true 5 (.t 1)),
rq 4 (.call .pur F.cascaderef03_right [(.t 3), (.c (.int .i64 12))]),
rq 2 (.move (.t 4))]
  .ret))
def r_cascaderef03_Right : KF where
  np := 1
  res := [.tmp 2]
  code := [k_cascaderef03_Right_0]
def k_cascaderef04_From_0 : KC := (.reg [
rq 1 (.ibox (.t 0)),
rq 2 (.alloc [(.int .i64 0), (.int .i64 0), (.str []), (.sl []), (.sl [])]),
rq 3 (.move (.c (.int .i64 0)))]
  (.reg [
rq 7 (.load true 5 (.t 1)),
rq 8 (.call .pur F.cascaderef04_Stands [(.t 7)]),
rq 6 (.move (.t 8)),
rq 9 (.extract (.t 6) 0),
rq 10 (.extract (.t 6) 1),
rq 4 (.alloc [(.int .i64 0), (.int .i64 0), (.str []), (.sl []), (.sl [])]),
rz (.store 5 (.t 4) (.t 9)),
rq 5 (.move (.t 10))]
  (.seq (.reg [
rq 11 (.move (.t 5)),
rq 12 (.un .not (.t 11)),
rq 13 (.move (.t 12)),
rqg 14 13 false (.load true 5 (.t 4)),
rqg 15 13 false (.call .pur F.cascaderef03_Right [(.t 14)]),
rqg 16 13 false (.un .not (.t 15)),
rq 17 (.pick (.t 13) (.c (.bool true)) (.t 16))]
  (.cond (.t 17)
  (.reg [
rq 18 (.build [(.int .i64 0), (.int .i64 0), (.str []), (.sl []), (.sl [])] []),
rz (.store 5 (.t 2) (.t 18)),
rq 3 (.move (.c (.int .i64 1)))]
  .ret)
  .skip))
  ⟨1, [2, 4], [[2], [4]]⟩)))
def k_cascaderef04_From_1 : KC := (.reg [
rq 19 (.load true 5 (.t 4)),
rz (.store 5 (.t 2) (.t 19)),
rq 3 (.move (.c (.int .i64 0)))]
  .ret)
def r_cascaderef04_From : KF where
  np := 1
  res := [.cell 2 true 5, .tmp 3]
  code := [k_cascaderef04_From_0, k_cascaderef04_From_1]
def k_cascaderef03_Same_0 : KC := (.reg [
rq 2 (.ibox (.t 0)),
rq 3 (.ibox (.t 1)),
rq 4 (.move (.c (.bool false)))]
  (.seq (.reg [
rq 7 (.faddr 0 (.t 2)),
rq 8 (.load false 1 (.t 7)),
rq 9 (.faddr 0 (.t 3)),
rq 10 (.load false 1 (.t 9)),
rq 11 (.bin .neq (.t 8) (.t 10)),
rq 12 (.move (.t 11)),
rqg 13 12 false (.faddr 1 (.t 2)),
rqg 14 12 false (.load false 1 (.t 13)),
rqg 15 12 false (.faddr 1 (.t 3)),
rqg 16 12 false (.load false 1 (.t 15)),
rqg 17 12 false (.bin .neq (.t 14) (.t 16)),
rq 18 (.pick (.t 12) (.c (.bool true)) (.t 17)),
rq 19 (.move (.t 18)),
rqg 20 19 false (.faddr 2 (.t 2)),
rqg 21 19 false (.load false 1 (.t 20)),
rqg 22 19 false (.faddr 2 (.t 3)),
rqg 23 19 false (.load false 1 (.t 22)),
rqg 24 19 false (.bin .neq (.t 21) (.t 23)),
rq 25 (.pick (.t 19) (.c (.bool true)) (.t 24)),
rq 26 (.move (.t 25)),
rqg 27 26 false (.faddr 3 (.t 2)),
rqg 28 26 false (.load false 1 (.t 27)),
rqg 29 26 false (.len .sl (.t 28)),
rqg 30 26 false (.faddr 3 (.t 3)),
rqg 31 26 false (.load false 1 (.t 30)),
rqg 32 26 false (.len .sl (.t 31)),
rqg 33 26 false (.bin .neq (.t 29) (.t 32)),
rq 34 (.pick (.t 26) (.c (.bool true)) (.t 33)),
rq 35 (.move (.t 34)),
rqg 36 35 false (.faddr 4 (.t 2)),
rqg 37 35 false (.load false 1 (.t 36)),
rqg 38 35 false (.len .sl (.t 37)),
rqg 39 35 false (.faddr 4 (.t 3)),
rqg 40 35 false (.load false 1 (.t 39)),
rqg 41 35 false (.len .sl (.t 40)),
rqg 42 35 false (.bin .neq (.t 38) (.t 41)),
rq 43 (.pick (.t 35) (.c (.bool true)) (.t 42))]
  (.cond (.t 43)
  (.reg [
rq 4 (.move (.c (.bool false)))]
  .ret)
  .skip))
  ⟨1, [2, 3], []⟩))
def k_cascaderef03_Same_1 : KC := (.seq (.reg [
rq 5 (.move (.c (.int .i64 0)))]
  (.block 0 (.loop ⟨2, [2, 3, 5], []⟩)))
  ⟨5, [2, 3], []⟩)
def k_cascaderef03_Same_2 : KC := (.seq (.reg [
rq 44 (.move (.t 5)),
rq 45 (.faddr 3 (.t 2)),
rq 46 (.load false 1 (.t 45)),
rq 47 (.len .sl (.t 46)),
rq 48 (.bin .lss (.t 44) (.t 47))]
  (.cond (.t 48)
  .skip
  (.exit 0)))
  ⟨3, [2, 3, 5], []⟩)
def k_cascaderef03_Same_3 : KC := (.seq (.block 1 (.dreg [
rq 51 (.faddr 3 (.t 2)),
rq 52 (.load false 1 (.t 51)),
rq 53 (.move (.t 5)),
rq 54 (.iaddr 5 (.t 52) (.t 53)),
rq 55 (.load true 5 (.t 54)),
rq 56 (.faddr 3 (.t 3)),
rq 57 (.load false 1 (.t 56)),
rq 58 (.move (.t 5)),
rq 59 (.iaddr 5 (.t 57) (.t 58)),
rq 60 (.load true 5 (.t 59)),
rq 61 (.call .pur F.cascaderef03_Same [(.t 55), (.t 60)]),
rq 62 (.un .not (.t 61))] []
  (.cond (.t 62)
  (.reg [
rq 4 (.move (.c (.bool false)))]
  .ret)
  .skip)))
  ⟨4, [2, 3, 5], []⟩)
def k_cascaderef03_Same_4 : KC := (.lreg [
rq 49 (.move (.t 5)),
rq 50 (.bin .add (.t 49) (.c (.int .i64 1))),
rq 5 (.move (.t 50))])
def k_cascaderef03_Same_5 : KC := (.seq (.reg [
rq 6 (.move (.c (.int .i64 0)))]
  (.block 2 (.loop ⟨6, [2, 3, 6], []⟩)))
  ⟨9, [], []⟩)
def k_cascaderef03_Same_6 : KC := (.seq (.reg [
rq 63 (.move (.t 6)),
rq 64 (.faddr 4 (.t 2)),
rq 65 (.load false 1 (.t 64)),
rq 66 (.len .sl (.t 65)),
rq 67 (.bin .lss (.t 63) (.t 66))]
  (.cond (.t 67)
  .skip
  (.exit 2)))
  ⟨7, [2, 3, 6], []⟩)
def k_cascaderef03_Same_7 : KC := (.seq (.block 3 (.dreg [
rq 70 (.faddr 4 (.t 2)),
rq 71 (.load false 1 (.t 70)),
rq 72 (.move (.t 6)),
rq 73 (.iaddr 6 (.t 71) (.t 72)),
rq 74 (.faddr 0 (.t 73)),
rq 75 (.load false 1 (.t 74)),
rq 76 (.faddr 4 (.t 3)),
rq 77 (.load false 1 (.t 76)),
rq 78 (.move (.t 6)),
rq 79 (.iaddr 6 (.t 77) (.t 78)),
rq 80 (.faddr 0 (.t 79)),
rq 81 (.load false 1 (.t 80)),
rq 82 (.bin .neq (.t 75) (.t 81)),
rq 83 (.move (.t 82)),
rqg 84 83 false (.faddr 4 (.t 2)),
rqg 85 83 false (.load false 1 (.t 84)),
rqg 86 83 false (.move (.t 6)),
rqg 87 83 false (.iaddr 6 (.t 85) (.t 86)),
rqg 88 83 false (.faddr 1 (.t 87)),
rqg 89 83 false (.load true 5 (.t 88)),
rqg 90 83 false (.faddr 4 (.t 3)),
rqg 91 83 false (.load false 1 (.t 90)),
rqg 92 83 false (.move (.t 6)),
rqg 93 83 false (.iaddr 6 (.t 91) (.t 92)),
rqg 94 83 false (.faddr 1 (.t 93)),
rqg 95 83 false (.load true 5 (.t 94)),
rqg 96 83 false (.call .pur F.cascaderef03_Same [(.t 89), (.t 95)]),
rqg 97 83 false (.un .not (.t 96)),
rq 98 (.pick (.t 83) (.c (.bool true)) (.t 97))] []
  (.cond (.t 98)
  (.reg [
rq 4 (.move (.c (.bool false)))]
  .ret)
  .skip)))
  ⟨8, [2, 3, 6], []⟩)
def k_cascaderef03_Same_8 : KC := (.lreg [
rq 68 (.move (.t 6)),
rq 69 (.bin .add (.t 68) (.c (.int .i64 1))),
rq 6 (.move (.t 69))])
def k_cascaderef03_Same_9 : KC := (.reg [
rq 4 (.move (.c (.bool true)))]
  .ret)
def r_cascaderef03_Same : KF where
  np := 2
  res := [.tmp 4]
  code := [k_cascaderef03_Same_0, k_cascaderef03_Same_1, k_cascaderef03_Same_2, k_cascaderef03_Same_3, k_cascaderef03_Same_4, k_cascaderef03_Same_5, k_cascaderef03_Same_6, k_cascaderef03_Same_7, k_cascaderef03_Same_8, k_cascaderef03_Same_9]
def k_cascaderef04_Kind_0 : KC := (.reg [
rq 1 (.ibox (.t 0)),
rq 2 (.move (.c (.int .i64 0)))]
  (.seq (.reg [
rq 5 (.faddr 0 (.t 1)),
rq 6 (.load false 1 (.t 5)),
rq 7 (.bin .eql (.t 6) (.c (.int .i64 10)))]
  (.cond (.t 7)
  (.reg [
rq 2 (.move (.c (.int .i64 (-1))))]
  .ret)
  .skip))
  ⟨1, [1], []⟩))
def k_cascaderef04_Kind_1 : KC := (.reg [
rq 9 (.load true 5 (.t 1)),
rq 10 (.call .pur F.cascaderef04_Stands [(.t 9)]),
rq 8 (.move (.t 10)),
rq 11 (.extract (.t 8) 0),
rq 12 (.extract (.t 8) 1),
rq 3 (.alloc [(.int .i64 0), (.int .i64 0), (.str []), (.sl []), (.sl [])]),
rz (.store 5 (.t 3) (.t 11)),
rq 4 (.move (.t 12))]
  (.reg [
rq 13 (.faddr 0 (.t 3)),
rq 14 (.load false 1 (.t 13)),
rq 2 (.move (.t 14))]
  .ret))
def r_cascaderef04_Kind : KF where
  np := 1
  res := [.tmp 2]
  code := [k_cascaderef04_Kind_0, k_cascaderef04_Kind_1]
def k_cascadelaw04_DynFrom_0 : KC := (.reg [
rq 1 (.ibox (.t 0)),
rq 2 (.move (.c (.bool false)))]
  (.seq (.reg [
rq 8 (.call .pur F.cascadelaw04_awake []),
rq 9 (.un .not (.t 8)),
rq 10 (.move (.t 9)),
rqg 11 10 false (.load true 5 (.t 1)),
rqg 12 10 false (.call .pur F.cascaderef03_Few [(.t 11), (.c (.int .i64 60))]),
rqg 13 10 false (.un .not (.t 12)),
rq 14 (.pick (.t 10) (.c (.bool true)) (.t 13))]
  (.cond (.t 14)
  (.reg [
rq 15 (.call .pur F.cascadelaw04_awake []),
rq 2 (.move (.t 15))]
  .ret)
  .skip))
  ⟨1, [1], []⟩))
def k_cascadelaw04_DynFrom_1 : KC := (.reg [
rq 16 (.load true 5 (.t 1)),
rq 17 (.call .pur F.dyn_Odd [(.t 16)]),
rq 3 (.move (.t 17))]
  (.reg [
rq 19 (.move (.t 3)),
rq 20 (.call .pur F.dyn_From [(.t 19)]),
rq 18 (.move (.t 20)),
rq 21 (.extract (.t 18) 0),
rq 22 (.extract (.t 18) 1),
rq 4 (.alloc [(.int .i64 0), (.int .i64 0), (.str []), (.sl []), (.sl [])]),
rz (.store 5 (.t 4) (.t 21)),
rq 5 (.move (.t 22))]
  (.reg [
rq 24 (.load true 5 (.t 1)),
rq 25 (.call .pur F.cascaderef04_From [(.t 24)]),
rq 23 (.move (.t 25)),
rq 26 (.extract (.t 23) 0),
rq 27 (.extract (.t 23) 1),
rq 6 (.alloc [(.int .i64 0), (.int .i64 0), (.str []), (.sl []), (.sl [])]),
rz (.store 5 (.t 6) (.t 26)),
rq 7 (.move (.t 27))]
  (.dreg [
rq 28 (.move (.t 5)),
rq 29 (.move (.t 7)),
rq 30 (.bin .eql (.t 28) (.t 29)),
rq 31 (.move (.t 30)),
rqg 32 31 true (.load true 5 (.t 4)),
rqg 33 31 true (.load true 5 (.t 6)),
rqg 34 31 true (.call .pur F.cascaderef03_Same [(.t 32), (.t 33)]),
rq 35 (.pick (.t 31) (.t 34) (.c (.bool false))),
rq 36 (.move (.t 35)),
rqg 37 36 true (.move (.t 3)),
rqg 38 36 true (.call .pur F.dyn_Kind [(.t 37)]),
rqg 39 36 true (.load true 5 (.t 1)),
rqg 40 36 true (.call .pur F.cascaderef04_Kind [(.t 39)]),
rqg 41 36 true (.bin .eql (.t 38) (.t 40)),
rq 42 (.pick (.t 36) (.t 41) (.c (.bool false))),
rq 2 (.move (.t 42))] []
  .ret))))
def r_cascadelaw04_DynFrom : KF where
  np := 1
  res := [.tmp 2]
  code := [k_cascadelaw04_DynFrom_0, k_cascadelaw04_DynFrom_1]
def k_dyn_To_0 : KC := (.reg [
rq 1 (.ibox (.t 0)),
rq 2 (.move (.c .nili)),
rq 3 (.move (.c (.int .i64 0)))]
  (.seq (.reg [
rq 4 (.load true 5 (.t 1)),
rq 5 (.call .pur F.tree_Right [(.t 4)]),
rq 6 (.un .not (.t 5))]
  (.cond (.t 6)
  (.reg [
rq 2 (.move (.c .nili)),
rq 3 (.move (.c (.int .i64 1)))]
  .ret)
  .skip))
  ⟨1, [1], []⟩))
def k_dyn_To_1 : KC := (.reg [
rq 7 (.load true 5 (.t 1)),
rq 8 (.call .pur F.dyn_to [(.t 7)]),
rq 2 (.move (.t 8)),
rq 3 (.move (.c (.int .i64 0)))]
  .ret)
def r_dyn_To : KF where
  np := 1
  res := [.tmp 2, .tmp 3]
  code := [k_dyn_To_0, k_dyn_To_1]
def k_cascadelaw04_DynTo_0 : KC := (.reg [
rq 1 (.ibox (.t 0)),
rq 2 (.move (.c (.bool false)))]
  (.seq (.reg [
rq 9 (.call .pur F.cascadelaw04_awake []),
rq 10 (.un .not (.t 9)),
rq 11 (.move (.t 10)),
rqg 12 11 false (.load true 5 (.t 1)),
rqg 13 11 false (.call .pur F.cascaderef03_Few [(.t 12), (.c (.int .i64 60))]),
rqg 14 11 false (.un .not (.t 13)),
rq 15 (.pick (.t 11) (.c (.bool true)) (.t 14))]
  (.cond (.t 15)
  (.reg [
rq 16 (.call .pur F.cascadelaw04_awake []),
rq 2 (.move (.t 16))]
  .ret)
  .skip))
  ⟨1, [1], []⟩))
def k_cascadelaw04_DynTo_1 : KC := (.reg [
rq 18 (.load true 5 (.t 1)),
rq 19 (.call .pur F.dyn_To [(.t 18)]),
rq 17 (.move (.t 19)),
rq 20 (.extract (.t 17) 0),
rq 21 (.extract (.t 17) 1),
rq 3 (.move (.t 20)),
rq 4 (.move (.t 21))]
  (.seq (.reg [
rq 22 (.load true 5 (.t 1)),
rq 23 (.call .pur F.cascaderef03_Right [(.t 22)]),
rq 24 (.un .not (.t 23))]
  (.cond (.t 24)
  (.reg [
rq 25 (.move (.t 4)),
rq 26 (.bin .eql (.t 25) (.c (.int .i64 1))),
rq 27 (.move (.t 26)),
rqg 28 27 true (.move (.t 3)),
rqg 29 27 true (.eq false .iface (.t 28) (.c .nili)),
rq 30 (.pick (.t 27) (.t 29) (.c (.bool false))),
rq 2 (.move (.t 30))]
  .ret)
  .skip))
  ⟨2, [1, 3, 4], []⟩))
def k_cascadelaw04_DynTo_2 : KC := (.reg [
rq 32 (.move (.t 3)),
rq 33 (.call .pur F.dyn_From [(.t 32)]),
rq 31 (.move (.t 33)),
rq 34 (.extract (.t 31) 0),
rq 35 (.extract (.t 31) 1),
rq 5 (.alloc [(.int .i64 0), (.int .i64 0), (.str []), (.sl []), (.sl [])]),
rz (.store 5 (.t 5) (.t 34)),
rq 6 (.move (.t 35))]
  (.reg [
rq 37 (.load true 5 (.t 1)),
rq 38 (.call .pur F.dyn_Odd [(.t 37)]),
rq 39 (.call .pur F.dyn_From [(.t 38)]),
rq 36 (.move (.t 39)),
rq 40 (.extract (.t 36) 0),
rq 41 (.extract (.t 36) 1),
rq 7 (.alloc [(.int .i64 0), (.int .i64 0), (.str []), (.sl []), (.sl [])]),
rz (.store 5 (.t 7) (.t 40)),
rq 8 (.move (.t 41))]
  (.dreg [
rq 42 (.move (.t 4)),
rq 43 (.bin .eql (.t 42) (.c (.int .i64 0))),
rq 44 (.move (.t 43)),
rqg 45 44 true (.move (.t 6)),
rqg 46 44 true (.bin .eql (.t 45) (.c (.int .i64 0))),
rq 47 (.pick (.t 44) (.t 46) (.c (.bool false))),
rq 48 (.move (.t 47)),
rqg 49 48 true (.load true 5 (.t 1)),
rqg 50 48 true (.load true 5 (.t 5)),
rqg 51 48 true (.call .pur F.cascaderef03_Same [(.t 49), (.t 50)]),
rq 52 (.pick (.t 48) (.t 51) (.c (.bool false))),
rq 53 (.move (.t 52)),
rqg 54 53 true (.move (.t 3)),
rqg 55 53 true (.call .pur F.dyn_Kind [(.t 54)]),
rqg 56 53 true (.faddr 0 (.t 1)),
rqg 57 53 true (.load false 1 (.t 56)),
rqg 58 53 true (.bin .eql (.t 55) (.t 57)),
rq 59 (.pick (.t 53) (.t 58) (.c (.bool false))),
rq 60 (.move (.t 59)),
rqg 61 60 true (.move (.t 8)),
rqg 62 60 true (.bin .eql (.t 61) (.c (.int .i64 0))),
rq 63 (.pick (.t 60) (.t 62) (.c (.bool false))),
rq 64 (.move (.t 63)),
rqg 65 64 true (.load true 5 (.t 1)),
rqg 66 64 true (.load true 5 (.t 7)),
rqg 67 64 true (.call .pur F.cascaderef03_Same [(.t 65), (.t 66)]),
rq 68 (.pick (.t 64) (.t 67) (.c (.bool false))),
rq 2 (.move (.t 68))] []
  .ret)))
def r_cascadelaw04_DynTo : KF where
  np := 1
  res := [.tmp 2]
  code := [k_cascadelaw04_DynTo_0, k_cascadelaw04_DynTo_1, k_cascadelaw04_DynTo_2]
def k_dyn_member_0 : KC := (.reg [
rq 4 (.move (.c .nili)),
rq 5 (.move (.c (.bool false)))]
  (.seq (.reg [
rq 8 (.move (.t 0)),
rq 9 (.len .sl (.t 8)),
rq 10 (.move (.c (.int .i64 0)))]
  (.block 0 (.loop ⟨1, [1, 8, 9, 10], []⟩)))
  ⟨4, [], []⟩))
def k_dyn_member_1 : KC := (.reg [
rq 11 (.bin .lss (.t 10) (.t 9))]
  (.seq (.cond (.t 11)
  .skip
  (.exit 0))
  ⟨2, [1, 8, 9, 10], []⟩))
def k_dyn_member_2 : KC := (.seq (.block 1 (.reg [
rq 12 (.iaddr 2 (.t 8) (.t 10)),
rq 13 (.load true 2 (.t 12)),
rq 7 (.alloc [(.str []), .nili]),
rz (.store 2 (.t 7) (.t 13))]
  (.reg [
rq 14 (.faddr 0 (.t 7)),
rq 15 (.load false 1 (.t 14)),
rq 16 (.move (.t 1)),
rq 17 (.bin .eql (.t 15) (.t 16))]
  (.cond (.t 17)
  (.reg [
rq 18 (.faddr 1 (.t 7)),
rq 19 (.load false 1 (.t 18)),
rq 4 (.move (.t 19)),
rq 5 (.move (.c (.bool true)))]
  .ret)
  .skip))))
  ⟨3, [1, 8, 9, 10], []⟩)
def k_dyn_member_3 : KC := (.lreg [
rq 20 (.bin .add (.t 10) (.c (.int .i64 1))),
rq 10 (.move (.t 20))])
def k_dyn_member_4 : KC := (.reg [
rq 4 (.move (.c .nili)),
rq 5 (.move (.c (.bool false)))]
  .ret)
def r_dyn_member : KF where
  np := 2
  res := [.tmp 4, .tmp 5]
  code := [k_dyn_member_0, k_dyn_member_1, k_dyn_member_2, k_dyn_member_3, k_dyn_member_4]
def k_dyn_Go_0 : KC := (.reg [
rq 4 (.move (.c .nili)),
rq 5 (.move (.c (.bool false)))]
  (.seq (.reg [
rq 10 (.move (.t 1)),
rq 11 (.len .sl (.t 10)),
rq 12 (.move (.c (.int .i64 0)))]
  (.block 0 (.loop ⟨1, [0, 10, 11, 12], []⟩)))
  ⟨5, [0], []⟩))
def k_dyn_Go_1 : KC := (.reg [
rq 13 (.bin .lss (.t 12) (.t 11))]
  (.seq (.cond (.t 13)
  .skip
  (.exit 0))
  ⟨2, [0, 10, 11, 12], []⟩))
def k_dyn_Go_2 : KC := (.seq (.block 1 (.reg [
rq 14 (.iaddr 1 (.t 10) (.t 12)),
rq 15 (.load false 1 (.t 14)),
rq 7 (.move (.t 15))]
  (.reg [
rq 17 (.move (.t 0)),
rq 18 (.tassert (.sl []) 68 true (.t 17)),
rq 16 (.move (.t 18)),
rq 19 (.extract (.t 16) 0),
rq 20 (.extract (.t 16) 1),
rq 8 (.move (.t 19)),
rq 9 (.move (.t 20))]
  (.seq (.reg [
rq 21 (.move (.t 9)),
rq 22 (.un .not (.t 21))]
  (.cond (.t 22)
  (.reg [
rq 4 (.move (.c .nili)),
rq 5 (.move (.c (.bool false)))]
  .ret)
  .skip))
  ⟨3, [7, 8, 10, 11, 12], []⟩))))
  ⟨4, [0, 10, 11, 12], []⟩)
def k_dyn_Go_3 : KC := (.reg [
rq 24 (.move (.t 8)),
rq 25 (.move (.t 7)),
rq 26 (.call .pur F.dyn_member [(.t 24), (.t 25)]),
rq 23 (.move (.t 26)),
rq 27 (.extract (.t 23) 0),
rq 28 (.extract (.t 23) 1),
rq 0 (.move (.t 27)),
rq 9 (.move (.t 28))]
  (.reg [
rq 29 (.move (.t 9)),
rq 30 (.un .not (.t 29))]
  (.cond (.t 30)
  (.reg [
rq 4 (.move (.c .nili)),
rq 5 (.move (.c (.bool false)))]
  .ret)
  .skip)))
def k_dyn_Go_4 : KC := (.lreg [
rq 31 (.bin .add (.t 12) (.c (.int .i64 1))),
rq 12 (.move (.t 31))])
def k_dyn_Go_5 : KC := (.reg [
rq 32 (.move (.t 0)),
rq 4 (.move (.t 32)),
rq 5 (.move (.c (.bool true)))]
  .ret)
def r_dyn_Go : KF where
  np := 2
  res := [.tmp 4, .tmp 5]
  code := [k_dyn_Go_0, k_dyn_Go_1, k_dyn_Go_2, k_dyn_Go_3, k_dyn_Go_4, k_dyn_Go_5]
def k_cascaderef03_At_0 : KC := (.reg [
rq 2 (.ibox (.t 0)),
rq 4 (.move (.c (.int .i64 0)))]
  (.seq (.reg [
rq 5 (.move (.c (.int .i64 0)))]
  (.block 0 (.loop ⟨1, [1, 2, 5], []⟩)))
  ⟨4, [], []⟩))
def k_cascaderef03_At_1 : KC := (.seq (.reg [
rq 6 (.move (.t 5)),
rq 7 (.faddr 4 (.t 2)),
rq 8 (.load false 1 (.t 7)),
rq 9 (.len .sl (.t 8)),
rq 10 (.bin .lss (.t 6) (.t 9))]
  (.cond (.t 10)
  .skip
  (.exit 0)))
  ⟨2, [1, 2, 5], []⟩)
def k_cascaderef03_At_2 : KC := (.seq (.block 1 (.reg [
rq 13 (.faddr 4 (.t 2)),
rq 14 (.load false 1 (.t 13)),
rq 15 (.move (.t 5)),
rq 16 (.iaddr 6 (.t 14) (.t 15)),
rq 17 (.faddr 0 (.t 16)),
rq 18 (.load false 1 (.t 17)),
rq 19 (.move (.t 1)),
rq 20 (.bin .eql (.t 18) (.t 19))]
  (.cond (.t 20)
  (.reg [
rq 21 (.move (.t 5)),
rq 4 (.move (.t 21))]
  .ret)
  .skip)))
  ⟨3, [1, 2, 5], []⟩)
def k_cascaderef03_At_3 : KC := (.lreg [
rq 11 (.move (.t 5)),
rq 12 (.bin .add (.t 11) (.c (.int .i64 1))),
rq 5 (.move (.t 12))])
def k_cascaderef03_At_4 : KC := (.reg [
rq 4 (.move (.c (.int .i64 (-1))))]
  .ret)
def r_cascaderef03_At : KF where
  np := 2
  res := [.tmp 4]
  code := [k_cascaderef03_At_0, k_cascaderef03_At_1, k_cascaderef03_At_2, k_cascaderef03_At_3, k_cascaderef03_At_4]
def k_cascaderef04_Go_0 : KC := (.reg [
rq 2 (.box (.t 0)),
rq 4 (.alloc [(.int .i64 0), (.int .i64 0), (.str []), (.sl []), (.sl [])]),
rq 5 (.move (.c (.bool false)))]
  (.seq (.reg [
rq 6 (.move (.c (.int .i64 0)))]
  (.block 0 (.loop ⟨1, [1, 2, 4, 6], [[2], [4]]⟩)))
  ⟨6, [2, 4], [[2], [4]]⟩))
def k_cascaderef04_Go_1 : KC := (.seq (.reg [
rq 8 (.move (.t 6)),
rq 9 (.move (.t 1)),
rq 10 (.len .sl (.t 9)),
rq 11 (.bin .lss (.t 8) (.t 10))]
  (.cond (.t 11)
  .skip
  (.exit 0)))
  ⟨2, [1, 2, 4, 6], [[2], [4]]⟩)
def k_cascaderef04_Go_2 : KC := (.seq (.block 1 (.seq (.reg [
rq 14 (.faddr 0 (.t 2)),
rq 15 (.load false 1 (.t 14)),
rq 16 (.bin .neq (.t 15) (.c (.int .i64 5)))]
  (.cond (.t 16)
  (.reg [
rq 17 (.build [(.int .i64 0), (.int .i64 0), (.str []), (.sl []), (.sl [])] []),
rz (.store 5 (.t 4) (.t 17)),
rq 5 (.move (.c (.bool false)))]
  .ret)
  .skip))
  ⟨3, [1, 2, 4, 6], [[2], [4]]⟩))
  ⟨5, [1, 2, 4, 6], [[2], [4]]⟩)
def k_cascaderef04_Go_3 : KC := (.dreg [
rq 18 (.load true 5 (.t 2)),
rq 19 (.move (.t 1)),
rq 20 (.move (.t 6)),
rq 21 (.iaddr 1 (.t 19) (.t 20)),
rq 22 (.load false 1 (.t 21)),
rq 23 (.call .pur F.cascaderef03_At [(.t 18), (.t 22)]),
rq 7 (.move (.t 23))] []
  (.seq (.reg [
rq 24 (.move (.t 7)),
rq 25 (.bin .lss (.t 24) (.c (.int .i64 0)))]
  (.cond (.t 25)
  (.reg [
rq 26 (.build [(.int .i64 0), (.int .i64 0), (.str []), (.sl []), (.sl [])] []),
rz (.store 5 (.t 4) (.t 26)),
rq 5 (.move (.c (.bool false)))]
  .ret)
  .skip))
  ⟨4, [1, 2, 4, 6, 7], [[2], [4]]⟩))
def k_cascaderef04_Go_4 : KC := (.lreg [
rq 27 (.faddr 4 (.t 2)),
rq 28 (.load false 1 (.t 27)),
rq 29 (.move (.t 7)),
rq 30 (.iaddr 6 (.t 28) (.t 29)),
rq 31 (.faddr 1 (.t 30)),
rq 32 (.load true 5 (.t 31)),
rz (.store 5 (.t 2) (.t 32))])
def k_cascaderef04_Go_5 : KC := (.lreg [
rq 12 (.move (.t 6)),
rq 13 (.bin .add (.t 12) (.c (.int .i64 1))),
rq 6 (.move (.t 13))])
def k_cascaderef04_Go_6 : KC := (.reg [
rq 33 (.load true 5 (.t 2)),
rz (.store 5 (.t 4) (.t 33)),
rq 5 (.move (.c (.bool true)))]
  .ret)
def r_cascaderef04_Go : KF where
  np := 2
  res := [.cell 4 true 5, .tmp 5]
  code := [k_cascaderef04_Go_0, k_cascaderef04_Go_1, k_cascaderef04_Go_2, k_cascaderef04_Go_3, k_cascaderef04_Go_4, k_cascaderef04_Go_5, k_cascaderef04_Go_6]
def k_cascadelaw04_DynGoes_0 : KC := (.reg [
rq 2 (.ibox (.t 0)),
rq 4 (.move (.c (.bool false)))]
  (.seq (.reg [
rq 13 (.call .pur F.cascadelaw04_awake []),
rq 14 (.un .not (.t 13)),
rq 15 (.move (.t 14)),
rqg 16 15 false (.load true 5 (.t 2)),
rqg 17 15 false (.call .pur F.cascaderef03_Few [(.t 16), (.c (.int .i64 60))]),
rqg 18 15 false (.un .not (.t 17)),
rq 19 (.pick (.t 15) (.c (.bool true)) (.t 18)),
rq 20 (.move (.t 19)),
rqg 21 20 false (.move (.t 1)),
rqg 22 20 false (.len .sl (.t 21)),
rqg 23 20 false (.bin .gtr (.t 22) (.c (.int .i64 10))),
rq 24 (.pick (.t 20) (.c (.bool true)) (.t 23))]
  (.cond (.t 24)
  (.reg [
rq 25 (.call .pur F.cascadelaw04_awake []),
rq 4 (.move (.t 25))]
  .ret)
  .skip))
  ⟨1, [1, 2], []⟩))
def k_cascadelaw04_DynGoes_1 : KC := (.reg [
rq 27 (.load true 5 (.t 2)),
rq 28 (.call .pur F.dyn_Odd [(.t 27)]),
rq 29 (.move (.t 1)),
rq 30 (.call .pur F.dyn_Go [(.t 28), (.t 29)]),
rq 26 (.move (.t 30)),
rq 31 (.extract (.t 26) 0),
rq 32 (.extract (.t 26) 1),
rq 5 (.move (.t 31)),
rq 6 (.move (.t 32))]
  (.reg [
rq 34 (.load true 5 (.t 2)),
rq 35 (.move (.t 1)),
rq 36 (.call .pur F.cascaderef04_Go [(.t 34), (.t 35)]),
rq 33 (.move (.t 36)),
rq 37 (.extract (.t 33) 0),
rq 38 (.extract (.t 33) 1),
rq 7 (.alloc [(.int .i64 0), (.int .i64 0), (.str []), (.sl []), (.sl [])]),
rz (.store 5 (.t 7) (.t 37)),
rq 8 (.move (.t 38))]
  (.seq (.reg [
rq 39 (.move (.t 6)),
rq 40 (.move (.t 8)),
rq 41 (.eq true .bool (.t 39) (.t 40)),
rq 42 (.move (.t 41)),
rqg 43 42 false (.move (.t 6)),
rqg 44 42 false (.un .not (.t 43)),
rqg 45 42 false (.move (.t 44)),
rqg 46 45 true (.move (.t 5)),
rqg 47 45 true (.eq true .iface (.t 46) (.c .nili)),
rqg 48 42 false (.pick (.t 45) (.t 47) (.c (.bool false))),
rq 49 (.pick (.t 42) (.c (.bool true)) (.t 48))]
  (.cond (.t 49)
  (.reg [
rq 4 (.move (.c (.bool false)))]
  .ret)
  .skip))
  ⟨2, [5, 6, 7], [[7]]⟩)))
def k_cascadelaw04_DynGoes_2 : KC := (.reg [
rq 51 (.move (.t 5)),
rq 52 (.call .pur F.dyn_From [(.t 51)]),
rq 50 (.move (.t 52)),
rq 53 (.extract (.t 50) 0),
rq 54 (.extract (.t 50) 1),
rq 9 (.alloc [(.int .i64 0), (.int .i64 0), (.str []), (.sl []), (.sl [])]),
rz (.store 5 (.t 9) (.t 53)),
rq 10 (.move (.t 54))]
  (.reg [
rq 56 (.load true 5 (.t 7)),
rq 57 (.call .pur F.cascaderef04_From [(.t 56)]),
rq 55 (.move (.t 57)),
rq 58 (.extract (.t 55) 0),
rq 59 (.extract (.t 55) 1),
rq 11 (.alloc [(.int .i64 0), (.int .i64 0), (.str []), (.sl []), (.sl [])]),
rz (.store 5 (.t 11) (.t 58)),
rq 12 (.move (.t 59))]
  (.dreg [
rq 60 (.move (.t 6)),
rq 61 (.un .not (.t 60)),
rq 62 (.move (.t 61)),
rqg 63 62 false (.move (.t 10)),
rqg 64 62 false (.move (.t 12)),
rqg 65 62 false (.bin .eql (.t 63) (.t 64)),
rqg 66 62 false (.move (.t 65)),
rqg 67 66 true (.load true 5 (.t 9)),
rqg 68 66 true (.load true 5 (.t 11)),
rqg 69 66 true (.call .pur F.cascaderef03_Same [(.t 67), (.t 68)]),
rqg 70 62 false (.pick (.t 66) (.t 69) (.c (.bool false))),
rqg 71 62 false (.move (.t 70)),
rqg 72 71 true (.move (.t 5)),
rqg 73 71 true (.call .pur F.dyn_Kind [(.t 72)]),
rqg 74 71 true (.load true 5 (.t 7)),
rqg 75 71 true (.call .pur F.cascaderef04_Kind [(.t 74)]),
rqg 76 71 true (.bin .eql (.t 73) (.t 75)),
rqg 77 62 false (.pick (.t 71) (.t 76) (.c (.bool false))),
rq 78 (.pick (.t 62) (.c (.bool true)) (.t 77)),
rq 4 (.move (.t 78))] []
  .ret)))
def r_cascadelaw04_DynGoes : KF where
  np := 2
  res := [.tmp 4]
  code := [k_cascadelaw04_DynGoes_0, k_cascadelaw04_DynGoes_1, k_cascadelaw04_DynGoes_2]
def table : FuncId → Option KF
  | 7 => some r_cascadelaw04_DynFrom
  | 8 => some r_cascadelaw04_DynTo
  | 9 => some r_cascadelaw04_DynGoes
  | 13 => some r_cascaderef03_Few
  | 14 => some r_cascaderef03_Right
  | 17 => some r_tree_Right
  | 19 => some r_cascaderef03_Same
  | 22 => some r_cascaderef03_At
  | 24 => some r_cascaderef01_Right
  | 29 => some r_cascadelaw04_awake
  | 30 => some r_dyn_Odd
  | 31 => some r_dyn_From
  | 32 => some r_cascaderef04_From
  | 33 => some r_dyn_Kind
  | 34 => some r_cascaderef04_Kind
  | 35 => some r_dyn_To
  | 36 => some r_dyn_Go
  | 37 => some r_cascaderef04_Go
  | 43 => some r_cascaderef03_few
  | 44 => some r_cascaderef03_right
  | 46 => some r_tree_Right_1
  | 47 => some r_tree_unused
  | 48 => some r_text_Right
  | 49 => some r_slices_ContainsFunc__api_Value_api_Value
  | 50 => some r_tree_Right_1_1
  | 51 => some r_tree_keys
  | 52 => some r_slices_ContainsFunc__api_Pair_api_Pair
  | 53 => some r_tree_Right_1_2
  | 57 => some r_slices_IndexFunc__api_Pair_api_Pair
  | 59 => some r_cascaderef01_Bad
  | 62 => some r_dyn_to
  | 63 => some r_dyn_from
  | 64 => some r_cascaderef04_Stands
  | 65 => some r_dyn_member
  | 69 => some r_text_Bad
  | 70 => some r_slices_IndexFunc__api_Value_api_Value
  | 71 => some r_cascaderef01_Size
  | 76 => some { code := [], res := [], np := 1, ext := some (.pure ext_unicode_utf8_DecodeRuneInString) }
  | _ => none
end Go.Abs.T
