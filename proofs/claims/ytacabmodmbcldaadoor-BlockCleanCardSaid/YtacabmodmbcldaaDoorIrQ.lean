import Derived.Test.YtacabmodmbcldaaDoorAbsL
import Derived.Test.YtacabmodmbcldaaDoorXQ
namespace Go.Abs.Q
namespace F
abbrev main_main : FuncId := 0
abbrev gosem_cut : FuncId := 1
abbrev gosem_cut_init : FuncId := 2
abbrev cascadelaw06_PathRight : FuncId := 3
abbrev cascadelaw06_PathOf : FuncId := 4
abbrev cascadelaw06_PathThird : FuncId := 5
abbrev cascadelaw06_PathFinds : FuncId := 6
abbrev cascadelaw06_PathPuts : FuncId := 7
abbrev cascadelaw06_PathKeeps : FuncId := 8
abbrev cascadelaw06_PathAdds : FuncId := 9
abbrev cascadelaw06_PathMerges : FuncId := 10
abbrev cascadelaw07_BlockIndents : FuncId := 11
abbrev cascadelaw07_BlockValues : FuncId := 12
abbrev cascadelaw07_BlockClean : FuncId := 13
abbrev cascadelaw07_BlockRaws : FuncId := 14
abbrev cascadelaw06_awake : FuncId := 15
abbrev cascaderef06_Few : FuncId := 16
abbrev cascaderef06_Right : FuncId := 17
abbrev path_Value : FuncId := 18
abbrev path_Right : FuncId := 19
abbrev cascadelaw06_zero : FuncId := 20
abbrev path_Of : FuncId := 21
abbrev cascaderef03_Same : FuncId := 22
abbrev cascaderef06_Value : FuncId := 23
abbrev cascaderef06_Same : FuncId := 24
abbrev cascaderef03_Few : FuncId := 25
abbrev cascaderef06_Of : FuncId := 26
abbrev path_Less : FuncId := 27
abbrev path_Key : FuncId := 28
abbrev path_Place : FuncId := 29
abbrev path_Under : FuncId := 30
abbrev path_Same : FuncId := 31
abbrev path_Find : FuncId := 32
abbrev cascaderef03_Right : FuncId := 33
abbrev cascaderef06_Find : FuncId := 34
abbrev path_Put : FuncId := 35
abbrev cascaderef06_Puts : FuncId := 36
abbrev cascaderef06_Under : FuncId := 37
abbrev path_Add : FuncId := 38
abbrev cascaderef06_Add : FuncId := 39
abbrev path_Merge : FuncId := 40
abbrev cascaderef06_Merge : FuncId := 41
abbrev cascadelaw07_awake : FuncId := 42
abbrev block_Indent : FuncId := 43
abbrev cascaderef07_Indent : FuncId := 44
abbrev block_Value : FuncId := 45
abbrev cascaderef07_Value : FuncId := 46
abbrev block_Raw : FuncId := 47
abbrev cascaderef07_Raw : FuncId := 48
abbrev cascaderef01_Right : FuncId := 49
abbrev slices_ContainsFunc__api_Step_api_Step : FuncId := 50
abbrev path_Right_1 : FuncId := 51
abbrev path_right : FuncId := 52
abbrev tree_Right : FuncId := 53
abbrev cascaderef03_few : FuncId := 54
abbrev slices_CompareFunc__api_Step__api_Step_api_Step_api_Step : FuncId := 55
abbrev path_compare : FuncId := 56
abbrev slices_EqualFunc__api_Step__api_Step_api_Step_api_Step : FuncId := 57
abbrev path_one : FuncId := 58
abbrev path_at : FuncId := 59
abbrev path_Find_1 : FuncId := 60
abbrev tree_Clone : FuncId := 61
abbrev cascaderef03_right : FuncId := 62
abbrev cascaderef06_next : FuncId := 63
abbrev path_changed : FuncId := 64
abbrev path_Put_1 : FuncId := 65
abbrev cascaderef06_may : FuncId := 66
abbrev cascaderef06_changed : FuncId := 67
abbrev slices_ContainsFunc__api_Value_api_Value : FuncId := 68
abbrev path_Add_1 : FuncId := 69
abbrev path_Add_2 : FuncId := 70
abbrev slices_Concat__api_Value_api_Value : FuncId := 71
abbrev path_Merge_1 : FuncId := 72
abbrev slices_ContainsFunc__api_Pair_api_Pair : FuncId := 73
abbrev path_Merge_1_1 : FuncId := 74
abbrev slices_Concat__api_Pair_api_Pair : FuncId := 75
abbrev tree_Ordered : FuncId := 76
abbrev slices_IndexFunc__api_Pair_api_Pair : FuncId := 77
abbrev path_Merge_1_2 : FuncId := 78
abbrev cascaderef03_At : FuncId := 79
abbrev cascaderef06_twice : FuncId := 80
abbrev cascaderef03_Ordered : FuncId := 81
abbrev block_lead : FuncId := 82
abbrev cascaderef07_first : FuncId := 83
abbrev text_Lines : FuncId := 84
abbrev strings_ReplaceAll : FuncId := 85
abbrev block_empty : FuncId := 86
abbrev strings_Join : FuncId := 87
abbrev cascaderef01_Lines : FuncId := 88
abbrev cascaderef07_turned : FuncId := 89
abbrev block_comes : FuncId := 90
abbrev cascaderef01_Bad : FuncId := 91
abbrev slices_IndexFunc__api_Step_api_Step : FuncId := 92
abbrev text_Right : FuncId := 93
abbrev tree_Right_1 : FuncId := 94
abbrev tree_unused : FuncId := 95
abbrev tree_Right_1_1 : FuncId := 96
abbrev tree_keys : FuncId := 97
abbrev tree_Right_1_2 : FuncId := 98
abbrev cmp_Or_int : FuncId := 99
abbrev cmp_Compare_string : FuncId := 100
abbrev cmp_Compare_int : FuncId := 101
abbrev slices_Clone__api_Value_api_Value : FuncId := 102
abbrev path_at_1 : FuncId := 103
abbrev slices_Clone__api_Pair_api_Pair : FuncId := 104
abbrev tree_clone : FuncId := 105
abbrev cascaderef06_Put : FuncId := 106
abbrev slices_IndexFunc__api_Value_api_Value : FuncId := 107
abbrev slices_Grow__api_Value_api_Value : FuncId := 108
abbrev slices_Grow__api_Pair_api_Pair : FuncId := 109
abbrev tree_object : FuncId := 110
abbrev tree_Ordered_1 : FuncId := 111
abbrev slices_SortStableFunc__api_Pair_api_Pair : FuncId := 112
abbrev tree_Ordered_2 : FuncId := 113
abbrev strings_TrimLeft : FuncId := 114
abbrev strings_IndexByte : FuncId := 115
abbrev strings_HasPrefix : FuncId := 116
abbrev strings_Replace : FuncId := 117
abbrev strings_Builder_Grow : FuncId := 118
abbrev strings_Builder_WriteString : FuncId := 119
abbrev strings_Builder_String : FuncId := 120
abbrev strings_Contains : FuncId := 121
abbrev strings_HasSuffix : FuncId := 122
abbrev cascaderef01_Size : FuncId := 123
abbrev text_Bad : FuncId := 124
abbrev cmp_isNaN_string : FuncId := 125
abbrev cmp_isNaN_int : FuncId := 126
abbrev slices_stableCmpFunc_api_Pair : FuncId := 127
abbrev strings_trimLeftByte : FuncId := 128
abbrev strings_makeASCIISet : FuncId := 129
abbrev strings_trimLeftASCII : FuncId := 130
abbrev strings_trimLeftUnicode : FuncId := 131
abbrev internal_stringslite_IndexByte : FuncId := 132
abbrev internal_stringslite_HasPrefix : FuncId := 133
abbrev strings_Count : FuncId := 134
abbrev strings_Index : FuncId := 135
abbrev unicode_utf8_DecodeRuneInString : FuncId := 136
abbrev strings_Builder_copyCheck : FuncId := 137
abbrev strings_Builder_grow : FuncId := 138
abbrev internal_stringslite_HasSuffix : FuncId := 139
abbrev slices_insertionSortCmpFunc_api_Pair : FuncId := 140
abbrev slices_symMergeCmpFunc_api_Pair : FuncId := 141
abbrev strings_asciiSet_contains : FuncId := 142
abbrev strings_ContainsRune : FuncId := 143
abbrev internal_bytealg_IndexByteString : FuncId := 144
abbrev unicode_utf8_RuneCountInString : FuncId := 145
abbrev internal_bytealg_CountString : FuncId := 146
abbrev internal_stringslite_Index : FuncId := 147
abbrev unicode_utf8_decodeRuneInStringSlow : FuncId := 148
abbrev internal_abi_NoEscape : FuncId := 149
abbrev internal_bytealg_MakeNoZero : FuncId := 150
abbrev slices_rotateCmpFunc_api_Pair : FuncId := 151
abbrev strings_IndexRune : FuncId := 152
abbrev internal_bytealg_IndexString : FuncId := 153
abbrev internal_bytealg_Cutover : FuncId := 154
abbrev internal_bytealg_IndexRabinKarp_string : FuncId := 155
abbrev slices_swapRangeCmpFunc_api_Pair : FuncId := 156
abbrev unicode_utf8_ValidRune : FuncId := 157
abbrev internal_bytealg_hashStr_string : FuncId := 158
abbrev runtime_boundsError_Error : FuncId := 159
abbrev runtime_boundsError_RuntimeError : FuncId := 160
abbrev runtime_errorString_Error : FuncId := 161
abbrev runtime_errorString_RuntimeError : FuncId := 162
abbrev runtime_plainError_Error : FuncId := 163
abbrev runtime_plainError_RuntimeError : FuncId := 164
abbrev runtime_errorAddressString_Error : FuncId := 165
abbrev runtime_errorAddressString_RuntimeError : FuncId := 166
abbrev runtime_TypeAssertionError_Error : FuncId := 167
abbrev runtime_TypeAssertionError_RuntimeError : FuncId := 168
abbrev runtime_PanicNilError_Error : FuncId := 169
abbrev runtime_PanicNilError_RuntimeError : FuncId := 170
abbrev internal_abi_Type_Align : FuncId := 171
abbrev internal_runtime_maps_unhashableTypeError_Error : FuncId := 172
abbrev internal_runtime_maps_unhashableTypeError_RuntimeError : FuncId := 173
abbrev strings_Builder_Reset : FuncId := 174
abbrev internal_abi_Kind_String : FuncId := 175
abbrev gosem_cut_vars : FuncId := 180
end F
def k_text_Lines_0 : KC := (.reg [
rq 2 (.move (.c (.sl [])))]
  (.reg [
rq 3 (.vnil 1)]
  (.block 0 (.loop ⟨1, [0, 3], [[3]]⟩))))
def k_text_Lines_1 : KC := (.block 1 (.reg [
rq 6 (.move (.t 0)),
rq 7 (.call .pur F.strings_IndexByte [(.t 6), (.c (.int .u8 10))]),
rq 4 (.move (.t 7))]
  (.seq (.reg [
rq 8 (.move (.t 0)),
rq 9 (.call .pur F.strings_IndexByte [(.t 8), (.c (.int .u8 13))]),
rq 5 (.move (.t 9))]
  (.reg [
rq 10 (.move (.t 5)),
rq 11 (.bin .geq (.t 10) (.c (.int .i64 0))),
rq 12 (.move (.t 11)),
rqg 13 12 true (.move (.t 4)),
rqg 14 12 true (.bin .lss (.t 13) (.c (.int .i64 0))),
rqg 15 12 true (.move (.t 14)),
rqg 16 15 false (.move (.t 5)),
rqg 17 15 false (.move (.t 4)),
rqg 18 15 false (.bin .lss (.t 16) (.t 17)),
rqg 19 12 true (.pick (.t 15) (.c (.bool true)) (.t 18)),
rq 20 (.pick (.t 12) (.t 19) (.c (.bool false)))]
  (.cond (.t 20)
  (.lreg [
rq 21 (.move (.t 5)),
rq 4 (.move (.t 21))])
  .skip)))
  ⟨2, [0, 3, 4], [[3]]⟩)))
def k_text_Lines_2 : KC := (.seq (.reg [
rq 22 (.move (.t 4)),
rq 23 (.bin .lss (.t 22) (.c (.int .i64 0)))]
  (.cond (.t 23)
  (.reg [
rq 24 (.move (.t 3)),
rq 25 (.move (.t 0)),
rq 26 (.ilit 1 [(.t 25)]),
rq 27 (.app 1 16 (.t 24) (.t 26)),
rq 2 (.move (.t 27))]
  .ret)
  .skip))
  ⟨3, [0, 3, 4], [[3]]⟩)
def k_text_Lines_3 : KC := (.reg [
rq 28 (.move (.t 3)),
rq 29 (.move (.t 0)),
rq 30 (.move (.t 4)),
rq 31 (.slice 0 (.t 29) none (some (.t 30))),
rq 32 (.ilit 1 [(.t 31)]),
rq 33 (.app 1 16 (.t 28) (.t 32)),
rq 3 (.move (.t 33))]
  (.seq (.reg [
rq 34 (.move (.t 0)),
rq 35 (.move (.t 4)),
rq 36 (.slice 0 (.t 34) (some (.t 35)) none),
rq 37 (.call .pur F.strings_HasPrefix [(.t 36), (.c (.str [13, 10]))])]
  (.cond (.t 37)
  (.lreg [
rq 38 (.move (.t 4)),
rq 39 (.bin .add (.t 38) (.c (.int .i64 1))),
rq 4 (.move (.t 39))])
  .skip))
  ⟨4, [0, 3, 4], [[3]]⟩))
def k_text_Lines_4 : KC := (.lreg [
rq 40 (.move (.t 0)),
rq 41 (.move (.t 4)),
rq 42 (.bin .add (.t 41) (.c (.int .i64 1))),
rq 43 (.slice 0 (.t 40) (some (.t 42)) none),
rq 0 (.move (.t 43))])
def r_text_Lines : KF where
  np := 1
  res := [.tmp 2]
  code := [k_text_Lines_0, k_text_Lines_1, k_text_Lines_2, k_text_Lines_3, k_text_Lines_4]
def k_block_lead_0 : KC := (.reg [
rq 2 (.move (.c (.int .i64 0))),
rq 3 (.move (.c (.bool false)))]
  (.reg [
rq 5 (.move (.t 0)),
rq 6 (.call .pur F.strings_TrimLeft [(.t 5), (.c (.str [32, 9]))]),
rq 4 (.move (.t 6))]
  (.reg [
rq 7 (.move (.t 0)),
rq 8 (.len .str (.t 7)),
rq 9 (.move (.t 4)),
rq 10 (.len .str (.t 9)),
rq 11 (.bin .sub (.t 8) (.t 10)),
rq 12 (.move (.t 4)),
rq 13 (.bin .neq (.t 12) (.c (.str []))),
rq 2 (.move (.t 11)),
rq 3 (.move (.t 13))]
  .ret)))
def r_block_lead : KF where
  np := 1
  res := [.tmp 2, .tmp 3]
  code := [k_block_lead_0]
def k_block_Indent_0 : KC := (.reg [
rq 2 (.move (.c (.int .i64 0)))]
  (.reg [
rq 3 (.move (.c (.int .i64 0))),
rq 4 (.move (.c (.bool false)))]
  (.seq (.reg [
rq 9 (.move (.t 0)),
rq 10 (.len .sl (.t 9)),
rq 11 (.move (.c (.int .i64 0)))]
  (.block 0 (.loop ⟨1, [3, 4, 9, 10, 11], []⟩)))
  ⟨6, [3], []⟩)))
def k_block_Indent_1 : KC := (.reg [
rq 12 (.bin .lss (.t 11) (.t 10))]
  (.seq (.cond (.t 12)
  .skip
  (.exit 0))
  ⟨2, [3, 4, 9, 10, 11], []⟩))
def k_block_Indent_2 : KC := (.seq (.block 1 (.reg [
rq 13 (.move (.t 11)),
rq 14 (.iaddr 1 (.t 9) (.t 11)),
rq 15 (.load false 1 (.t 14)),
rq 5 (.move (.t 13)),
rq 6 (.move (.t 15))]
  (.reg [
rq 17 (.move (.t 6)),
rq 18 (.call .pur F.block_lead [(.t 17)]),
rq 16 (.move (.t 18)),
rq 19 (.extract (.t 16) 0),
rq 20 (.extract (.t 16) 1),
rq 7 (.move (.t 19)),
rq 8 (.move (.t 20))]
  (.seq (.reg [
rq 21 (.move (.t 5)),
rq 22 (.bin .eql (.t 21) (.c (.int .i64 0))),
rq 23 (.move (.t 22)),
rqg 24 23 false (.move (.t 8)),
rqg 25 23 false (.un .not (.t 24)),
rq 26 (.pick (.t 23) (.c (.bool true)) (.t 25))]
  (.cond (.t 26)
  (.exit 1)
  .skip))
  ⟨3, [3, 4, 7, 9, 10, 11], []⟩))))
  ⟨5, [3, 4, 9, 10, 11], []⟩)
def k_block_Indent_3 : KC := (.seq (.reg [
rq 27 (.move (.t 4)),
rq 28 (.un .not (.t 27)),
rq 29 (.move (.t 28)),
rqg 30 29 false (.move (.t 7)),
rqg 31 29 false (.move (.t 3)),
rqg 32 29 false (.bin .lss (.t 30) (.t 31)),
rq 33 (.pick (.t 29) (.c (.bool true)) (.t 32))]
  (.cond (.t 33)
  (.lreg [
rq 34 (.move (.t 7)),
rq 3 (.move (.t 34))])
  .skip))
  ⟨4, [3, 9, 10, 11], []⟩)
def k_block_Indent_4 : KC := (.lreg [
rq 4 (.move (.c (.bool true)))])
def k_block_Indent_5 : KC := (.lreg [
rq 35 (.bin .add (.t 11) (.c (.int .i64 1))),
rq 11 (.move (.t 35))])
def k_block_Indent_6 : KC := (.reg [
rq 36 (.move (.t 3)),
rq 2 (.move (.t 36))]
  .ret)
def r_block_Indent : KF where
  np := 1
  res := [.tmp 2]
  code := [k_block_Indent_0, k_block_Indent_1, k_block_Indent_2, k_block_Indent_3, k_block_Indent_4, k_block_Indent_5, k_block_Indent_6]
def k_block_empty_0 : KC := (.reg [
rq 2 (.move (.c (.bool false)))]
  (.reg [
rq 6 (.move (.t 0)),
rq 7 (.call .pur F.block_lead [(.t 6)]),
rq 5 (.move (.t 7)),
rq 8 (.extract (.t 5) 0),
rq 9 (.extract (.t 5) 1),
rq 3 (.move (.t 8)),
rq 4 (.move (.t 9))]
  (.reg [
rq 10 (.move (.t 4)),
rq 11 (.un .not (.t 10)),
rq 2 (.move (.t 11))]
  .ret)))
def r_block_empty : KF where
  np := 1
  res := [.tmp 2]
  code := [k_block_empty_0]
def k_block_Value_0 : KC := (.reg [
rq 2 (.move (.c (.str [])))]
  (.reg [
rq 6 (.move (.t 0)),
rq 7 (.call .pur F.strings_ReplaceAll [(.t 6), (.c (.str [92, 34, 34, 34])), (.c (.str [34, 34, 34]))]),
rq 8 (.call (.own [[3]]) F.text_Lines [(.t 7)]),
rq 3 (.move (.t 8))]
  (.reg [
rq 9 (.move (.t 3)),
rq 10 (.call .pur F.block_Indent [(.t 9)]),
rq 4 (.move (.t 10))]
  (.seq (.reg [
rq 11 (.move (.t 3)),
rq 12 (.len .sl (.t 11)),
rq 13 (.move (.c (.int .i64 0)))]
  (.block 0 (.loop ⟨1, [3, 4, 12, 13], [[8, 3]]⟩)))
  ⟨4, [3], [[8, 3]]⟩))))
def k_block_Value_1 : KC := (.reg [
rq 14 (.bin .lss (.t 13) (.t 12))]
  (.seq (.cond (.t 14)
  .skip
  (.exit 0))
  ⟨2, [3, 4, 12, 13], [[8, 3]]⟩))
def k_block_Value_2 : KC := (.seq (.block 1 (.reg [
rq 15 (.move (.t 13)),
rq 5 (.move (.t 15))]
  (.reg [
rq 16 (.move (.t 5)),
rq 17 (.bin .gtr (.t 16) (.c (.int .i64 0)))]
  (.cond (.t 17)
  (.ldreg [
rq 18 (.move (.t 3)),
rq 19 (.move (.t 5)),
rq 20 (.move (.t 3)),
rq 21 (.move (.t 5)),
rq 22 (.iaddr 1 (.t 20) (.t 21)),
rq 23 (.load false 1 (.t 22)),
rq 24 (.move (.t 4)),
rq 25 (.move (.t 3)),
rq 26 (.move (.t 5)),
rq 27 (.iaddr 1 (.t 25) (.t 26)),
rq 28 (.load false 1 (.t 27)),
rq 29 (.len .str (.t 28)),
rq 30 (.mm false [(.t 24), (.t 29)]),
rq 31 (.slice 0 (.t 23) (some (.t 30)) none),
rq 32 (.iaddr 1 (.t 18) (.t 19))] [
rz (.store 1 (.t 32) (.t 31))])
  .skip))))
  ⟨3, [3, 4, 12, 13], [[8, 3]]⟩)
def k_block_Value_3 : KC := (.lreg [
rq 33 (.bin .add (.t 13) (.c (.int .i64 1))),
rq 13 (.move (.t 33))])
def k_block_Value_4 : KC := (.seq (.block 2 (.loop ⟨5, [3], [[8, 3]]⟩))
  ⟨7, [3], []⟩)
def k_block_Value_5 : KC := (.seq (.adj (.frzs 3 [8, 3] [] []) (.reg [
rq 34 (.move (.t 3)),
rq 35 (.len .sl (.t 34)),
rq 36 (.bin .gtr (.t 35) (.c (.int .i64 0))),
rq 37 (.move (.t 36)),
rqg 38 37 true (.move (.t 3)),
rqg 39 37 true (.iaddr 1 (.t 38) (.c (.int .i64 0))),
rqg 40 37 true (.load false 1 (.t 39)),
rqg 41 37 true (.call .pur F.block_empty [(.t 40)]),
rq 42 (.pick (.t 37) (.t 41) (.c (.bool false)))]
  (.cond (.t 42)
  .skip
  (.exit 2))))
  ⟨6, [3], []⟩)
def k_block_Value_6 : KC := (.block 3 (.lreg [
rq 43 (.move (.t 3)),
rq 44 (.slice 1 (.t 43) (some (.c (.int .i64 1))) none),
rq 3 (.move (.t 44))]))
def k_block_Value_7 : KC := (.seq (.block 4 (.loop ⟨8, [3], []⟩))
  ⟨10, [3], []⟩)
def k_block_Value_8 : KC := (.seq (.reg [
rq 45 (.move (.t 3)),
rq 46 (.len .sl (.t 45)),
rq 47 (.bin .gtr (.t 46) (.c (.int .i64 0))),
rq 48 (.move (.t 47)),
rqg 49 48 true (.move (.t 3)),
rqg 50 48 true (.move (.t 3)),
rqg 51 48 true (.len .sl (.t 50)),
rqg 52 48 true (.bin .sub (.t 51) (.c (.int .i64 1))),
rqg 53 48 true (.iaddr 1 (.t 49) (.t 52)),
rqg 54 48 true (.load false 1 (.t 53)),
rqg 55 48 true (.call .pur F.block_empty [(.t 54)]),
rq 56 (.pick (.t 48) (.t 55) (.c (.bool false)))]
  (.cond (.t 56)
  .skip
  (.exit 4)))
  ⟨9, [3], []⟩)
def k_block_Value_9 : KC := (.block 5 (.lreg [
rq 57 (.move (.t 3)),
rq 58 (.move (.t 3)),
rq 59 (.len .sl (.t 58)),
rq 60 (.bin .sub (.t 59) (.c (.int .i64 1))),
rq 61 (.slice 1 (.t 57) none (some (.t 60))),
rq 3 (.move (.t 61))]))
def k_block_Value_10 : KC := (.reg [
rq 62 (.move (.t 3)),
rq 63 (.call .pur F.strings_Join [(.t 62), (.c (.str [10]))]),
rq 2 (.move (.t 63))]
  .ret)
def r_block_Value : KF where
  np := 1
  res := [.tmp 2]
  code := [k_block_Value_0, k_block_Value_1, k_block_Value_2, k_block_Value_3, k_block_Value_4, k_block_Value_5, k_block_Value_6, k_block_Value_7, k_block_Value_8, k_block_Value_9, k_block_Value_10]
def k_cascadelaw07_awake_0 : KC := (.reg [
rq 0 (.move (.c (.bool false)))]
  (.reg [
rq 1 (.call .pur F.block_Value [(.c (.str [10, 32, 32, 97]))]),
rq 2 (.bin .eql (.t 1) (.c (.str [97]))),
rq 3 (.move (.t 2)),
rqg 4 3 true (.ilit 1 [(.c (.str [])), (.c (.str [32, 98]))]),
rqg 5 3 true (.call .pur F.block_Indent [(.t 4)]),
rqg 6 3 true (.bin .eql (.t 5) (.c (.int .i64 1))),
rq 7 (.pick (.t 3) (.t 6) (.c (.bool false))),
rq 0 (.move (.t 7))]
  .ret))
def r_cascadelaw07_awake : KF where
  np := 0
  res := [.tmp 0]
  code := [k_cascadelaw07_awake_0]
def k_cascaderef07_first_0 : KC := (.reg [
rq 2 (.move (.c (.int .i64 0)))]
  (.seq (.reg [
rq 3 (.move (.c (.int .i64 0)))]
  (.block 0 (.loop ⟨1, [0, 3], []⟩)))
  ⟨4, [0], []⟩))
def k_cascaderef07_first_1 : KC := (.seq (.reg [
rq 4 (.move (.t 3)),
rq 5 (.move (.t 0)),
rq 6 (.len .str (.t 5)),
rq 7 (.bin .lss (.t 4) (.t 6))]
  (.cond (.t 7)
  .skip
  (.exit 0)))
  ⟨2, [0, 3], []⟩)
def k_cascaderef07_first_2 : KC := (.seq (.block 1 (.reg [
rq 10 (.move (.t 0)),
rq 11 (.move (.t 3)),
rq 12 (.idx (.t 10) (.t 11)),
rq 13 (.bin .neq (.t 12) (.c (.int .u8 32))),
rq 14 (.move (.t 13)),
rqg 15 14 true (.move (.t 0)),
rqg 16 14 true (.move (.t 3)),
rqg 17 14 true (.idx (.t 15) (.t 16)),
rqg 18 14 true (.bin .neq (.t 17) (.c (.int .u8 9))),
rq 19 (.pick (.t 14) (.t 18) (.c (.bool false)))]
  (.cond (.t 19)
  (.reg [
rq 20 (.move (.t 3)),
rq 2 (.move (.t 20))]
  .ret)
  .skip)))
  ⟨3, [0, 3], []⟩)
def k_cascaderef07_first_3 : KC := (.lreg [
rq 8 (.move (.t 3)),
rq 9 (.bin .add (.t 8) (.c (.int .i64 1))),
rq 3 (.move (.t 9))])
def k_cascaderef07_first_4 : KC := (.reg [
rq 21 (.move (.t 0)),
rq 22 (.len .str (.t 21)),
rq 2 (.move (.t 22))]
  .ret)
def r_cascaderef07_first : KF where
  np := 1
  res := [.tmp 2]
  code := [k_cascaderef07_first_0, k_cascaderef07_first_1, k_cascaderef07_first_2, k_cascaderef07_first_3, k_cascaderef07_first_4]
def k_cascaderef07_Indent_0 : KC := (.reg [
rq 2 (.move (.c (.int .i64 0)))]
  (.reg [
rq 3 (.move (.c (.int .i64 (-1))))]
  (.seq (.reg [
rq 4 (.move (.c (.int .i64 1)))]
  (.block 0 (.loop ⟨1, [0, 3, 4], []⟩)))
  ⟨4, [3], []⟩)))
def k_cascaderef07_Indent_1 : KC := (.seq (.reg [
rq 6 (.move (.t 4)),
rq 7 (.move (.t 0)),
rq 8 (.len .sl (.t 7)),
rq 9 (.bin .lss (.t 6) (.t 8))]
  (.cond (.t 9)
  .skip
  (.exit 0)))
  ⟨2, [0, 3, 4], []⟩)
def k_cascaderef07_Indent_2 : KC := (.seq (.block 1 (.reg [
rq 12 (.move (.t 0)),
rq 13 (.move (.t 4)),
rq 14 (.iaddr 1 (.t 12) (.t 13)),
rq 15 (.load false 1 (.t 14)),
rq 16 (.call .pur F.cascaderef07_first [(.t 15)]),
rq 5 (.move (.t 16))]
  (.reg [
rq 17 (.move (.t 5)),
rq 18 (.move (.t 0)),
rq 19 (.move (.t 4)),
rq 20 (.iaddr 1 (.t 18) (.t 19)),
rq 21 (.load false 1 (.t 20)),
rq 22 (.len .str (.t 21)),
rq 23 (.bin .lss (.t 17) (.t 22)),
rq 24 (.move (.t 23)),
rqg 25 24 true (.move (.t 3)),
rqg 26 24 true (.bin .lss (.t 25) (.c (.int .i64 0))),
rqg 27 24 true (.move (.t 26)),
rqg 28 27 false (.move (.t 5)),
rqg 29 27 false (.move (.t 3)),
rqg 30 27 false (.bin .lss (.t 28) (.t 29)),
rqg 31 24 true (.pick (.t 27) (.c (.bool true)) (.t 30)),
rq 32 (.pick (.t 24) (.t 31) (.c (.bool false)))]
  (.cond (.t 32)
  (.lreg [
rq 33 (.move (.t 5)),
rq 3 (.move (.t 33))])
  .skip))))
  ⟨3, [0, 3, 4], []⟩)
def k_cascaderef07_Indent_3 : KC := (.lreg [
rq 10 (.move (.t 4)),
rq 11 (.bin .add (.t 10) (.c (.int .i64 1))),
rq 4 (.move (.t 11))])
def k_cascaderef07_Indent_4 : KC := (.reg [
rq 34 (.move (.t 3)),
rq 35 (.mm true [(.t 34), (.c (.int .i64 0))]),
rq 2 (.move (.t 35))]
  .ret)
def r_cascaderef07_Indent : KF where
  np := 1
  res := [.tmp 2]
  code := [k_cascaderef07_Indent_0, k_cascaderef07_Indent_1, k_cascaderef07_Indent_2, k_cascaderef07_Indent_3, k_cascaderef07_Indent_4]
def k_cascadelaw07_BlockIndents_0 : KC := (.reg [
rq 2 (.move (.c (.bool false)))]
  (.seq (.reg [
rq 4 (.call .pur F.cascadelaw07_awake []),
rq 5 (.un .not (.t 4)),
rq 6 (.move (.t 5)),
rqg 7 6 false (.move (.t 0)),
rqg 8 6 false (.len .sl (.t 7)),
rqg 9 6 false (.bin .gtr (.t 8) (.c (.int .i64 20))),
rq 10 (.pick (.t 6) (.c (.bool true)) (.t 9))]
  (.cond (.t 10)
  (.reg [
rq 11 (.call .pur F.cascadelaw07_awake []),
rq 2 (.move (.t 11))]
  .ret)
  .skip))
  ⟨1, [0], []⟩))
def k_cascadelaw07_BlockIndents_1 : KC := (.seq (.reg [
rq 3 (.move (.c (.int .i64 0)))]
  (.block 0 (.loop ⟨2, [0, 3], []⟩)))
  ⟨5, [0], []⟩)
def k_cascadelaw07_BlockIndents_2 : KC := (.seq (.reg [
rq 12 (.move (.t 3)),
rq 13 (.move (.t 0)),
rq 14 (.len .sl (.t 13)),
rq 15 (.bin .lss (.t 12) (.t 14))]
  (.cond (.t 15)
  .skip
  (.exit 0)))
  ⟨3, [0, 3], []⟩)
def k_cascadelaw07_BlockIndents_3 : KC := (.seq (.block 1 (.reg [
rq 18 (.move (.t 0)),
rq 19 (.move (.t 3)),
rq 20 (.iaddr 1 (.t 18) (.t 19)),
rq 21 (.load false 1 (.t 20)),
rq 22 (.len .str (.t 21)),
rq 23 (.bin .gtr (.t 22) (.c (.int .i64 100)))]
  (.cond (.t 23)
  (.reg [
rq 2 (.move (.c (.bool true)))]
  .ret)
  .skip)))
  ⟨4, [0, 3], []⟩)
def k_cascadelaw07_BlockIndents_4 : KC := (.lreg [
rq 16 (.move (.t 3)),
rq 17 (.bin .add (.t 16) (.c (.int .i64 1))),
rq 3 (.move (.t 17))])
def k_cascadelaw07_BlockIndents_5 : KC := (.reg [
rq 24 (.move (.t 0)),
rq 25 (.call .pur F.block_Indent [(.t 24)]),
rq 26 (.move (.t 0)),
rq 27 (.call .pur F.cascaderef07_Indent [(.t 26)]),
rq 28 (.bin .eql (.t 25) (.t 27)),
rq 2 (.move (.t 28))]
  .ret)
def r_cascadelaw07_BlockIndents : KF where
  np := 1
  res := [.tmp 2]
  code := [k_cascadelaw07_BlockIndents_0, k_cascadelaw07_BlockIndents_1, k_cascadelaw07_BlockIndents_2, k_cascadelaw07_BlockIndents_3, k_cascadelaw07_BlockIndents_4, k_cascadelaw07_BlockIndents_5]
def k_cascaderef07_turned_0 : KC := (.reg [
rq 6 (.move (.c (.str [])))]
  (.reg [
rq 7 (.move (.c (.str [])))]
  (.seq (.reg [
rq 8 (.move (.c (.int .i64 0)))]
  (.block 0 (.loop ⟨1, [0, 1, 2, 7, 8], []⟩)))
  ⟨3, [7], []⟩)))
def k_cascaderef07_turned_1 : KC := (.seq (.reg [
rq 9 (.move (.t 8)),
rq 10 (.move (.t 0)),
rq 11 (.len .str (.t 10)),
rq 12 (.bin .lss (.t 9) (.t 11))]
  (.cond (.t 12)
  .skip
  (.exit 0)))
  ⟨2, [0, 1, 2, 7, 8], []⟩)
def k_cascaderef07_turned_2 : KC := (.block 1 (.reg [
rq 13 (.move (.t 0)),
rq 14 (.len .str (.t 13)),
rq 15 (.move (.t 8)),
rq 16 (.bin .sub (.t 14) (.t 15)),
rq 17 (.move (.t 1)),
rq 18 (.len .str (.t 17)),
rq 19 (.bin .geq (.t 16) (.t 18)),
rq 20 (.move (.t 19)),
rqg 21 20 true (.move (.t 0)),
rqg 22 20 true (.move (.t 8)),
rqg 23 20 true (.move (.t 8)),
rqg 24 20 true (.move (.t 1)),
rqg 25 20 true (.len .str (.t 24)),
rqg 26 20 true (.bin .add (.t 23) (.t 25)),
rqg 27 20 true (.slice 0 (.t 21) (some (.t 22)) (some (.t 26))),
rqg 28 20 true (.move (.t 1)),
rqg 29 20 true (.bin .eql (.t 27) (.t 28)),
rq 30 (.pick (.t 20) (.t 29) (.c (.bool false)))]
  (.cond (.t 30)
  (.reg [
rq 31 (.move (.t 7)),
rq 32 (.move (.t 2)),
rq 33 (.bin .add (.t 31) (.t 32)),
rq 7 (.move (.t 33))]
  (.lreg [
rq 34 (.move (.t 8)),
rq 35 (.move (.t 1)),
rq 36 (.len .str (.t 35)),
rq 37 (.bin .add (.t 34) (.t 36)),
rq 8 (.move (.t 37))]))
  (.reg [
rq 38 (.move (.t 7)),
rq 39 (.move (.t 0)),
rq 40 (.move (.t 8)),
rq 41 (.move (.t 8)),
rq 42 (.bin .add (.t 41) (.c (.int .i64 1))),
rq 43 (.slice 0 (.t 39) (some (.t 40)) (some (.t 42))),
rq 44 (.bin .add (.t 38) (.t 43)),
rq 7 (.move (.t 44))]
  (.lreg [
rq 45 (.move (.t 8)),
rq 46 (.bin .add (.t 45) (.c (.int .i64 1))),
rq 8 (.move (.t 46))])))))
def k_cascaderef07_turned_3 : KC := (.reg [
rq 47 (.move (.t 7)),
rq 6 (.move (.t 47))]
  .ret)
def r_cascaderef07_turned : KF where
  np := 3
  res := [.tmp 6]
  code := [k_cascaderef07_turned_0, k_cascaderef07_turned_1, k_cascaderef07_turned_2, k_cascaderef07_turned_3]
def k_cascaderef01_Lines_0 : KC := (.reg [
rq 2 (.move (.c (.sl [])))]
  (.reg [
rq 3 (.vnil 1)]
  (.reg [
rq 4 (.move (.c (.int .i64 0)))]
  (.seq (.reg [
rq 5 (.move (.c (.int .i64 0)))]
  (.block 0 (.loop ⟨1, [0, 3, 4, 5], [[3]]⟩)))
  ⟨6, [0, 3, 4], [[3]]⟩))))
def k_cascaderef01_Lines_1 : KC := (.seq (.reg [
rq 6 (.move (.t 5)),
rq 7 (.move (.t 0)),
rq 8 (.len .str (.t 7)),
rq 9 (.bin .lss (.t 6) (.t 8))]
  (.cond (.t 9)
  .skip
  (.exit 0)))
  ⟨2, [0, 3, 4, 5], [[3]]⟩)
def k_cascaderef01_Lines_2 : KC := (.seq (.block 1 (.seq (.reg [
rq 12 (.move (.t 0)),
rq 13 (.move (.t 5)),
rq 14 (.idx (.t 12) (.t 13)),
rq 15 (.bin .neq (.t 14) (.c (.int .u8 10))),
rq 16 (.move (.t 15)),
rqg 17 16 true (.move (.t 0)),
rqg 18 16 true (.move (.t 5)),
rqg 19 16 true (.idx (.t 17) (.t 18)),
rqg 20 16 true (.bin .neq (.t 19) (.c (.int .u8 13))),
rq 21 (.pick (.t 16) (.t 20) (.c (.bool false)))]
  (.cond (.t 21)
  (.exit 1)
  .skip))
  ⟨3, [0, 3, 4, 5], [[3]]⟩))
  ⟨5, [0, 3, 4, 5], [[3]]⟩)
def k_cascaderef01_Lines_3 : KC := (.reg [
rq 22 (.move (.t 3)),
rq 23 (.move (.t 0)),
rq 24 (.move (.t 4)),
rq 25 (.move (.t 5)),
rq 26 (.slice 0 (.t 23) (some (.t 24)) (some (.t 25))),
rq 27 (.ilit 1 [(.t 26)]),
rq 28 (.app 1 16 (.t 22) (.t 27)),
rq 3 (.move (.t 28))]
  (.seq (.reg [
rq 29 (.move (.t 0)),
rq 30 (.move (.t 5)),
rq 31 (.idx (.t 29) (.t 30)),
rq 32 (.bin .eql (.t 31) (.c (.int .u8 13))),
rq 33 (.move (.t 32)),
rqg 34 33 true (.move (.t 5)),
rqg 35 33 true (.move (.t 0)),
rqg 36 33 true (.len .str (.t 35)),
rqg 37 33 true (.bin .sub (.t 36) (.c (.int .i64 1))),
rqg 38 33 true (.bin .lss (.t 34) (.t 37)),
rq 39 (.pick (.t 33) (.t 38) (.c (.bool false))),
rq 40 (.move (.t 39)),
rqg 41 40 true (.move (.t 0)),
rqg 42 40 true (.move (.t 5)),
rqg 43 40 true (.bin .add (.t 42) (.c (.int .i64 1))),
rqg 44 40 true (.idx (.t 41) (.t 43)),
rqg 45 40 true (.bin .eql (.t 44) (.c (.int .u8 10))),
rq 46 (.pick (.t 40) (.t 45) (.c (.bool false)))]
  (.cond (.t 46)
  (.lreg [
rq 47 (.move (.t 5)),
rq 48 (.bin .add (.t 47) (.c (.int .i64 1))),
rq 5 (.move (.t 48))])
  .skip))
  ⟨4, [0, 3, 5], [[3]]⟩))
def k_cascaderef01_Lines_4 : KC := (.lreg [
rq 49 (.move (.t 5)),
rq 50 (.bin .add (.t 49) (.c (.int .i64 1))),
rq 4 (.move (.t 50))])
def k_cascaderef01_Lines_5 : KC := (.lreg [
rq 10 (.move (.t 5)),
rq 11 (.bin .add (.t 10) (.c (.int .i64 1))),
rq 5 (.move (.t 11))])
def k_cascaderef01_Lines_6 : KC := (.reg [
rq 51 (.move (.t 3)),
rq 52 (.move (.t 0)),
rq 53 (.move (.t 4)),
rq 54 (.slice 0 (.t 52) (some (.t 53)) none),
rq 55 (.ilit 1 [(.t 54)]),
rq 56 (.app 1 16 (.t 51) (.t 55)),
rq 2 (.move (.t 56))]
  .ret)
def r_cascaderef01_Lines : KF where
  np := 1
  res := [.tmps 2]
  code := [k_cascaderef01_Lines_0, k_cascaderef01_Lines_1, k_cascaderef01_Lines_2, k_cascaderef01_Lines_3, k_cascaderef01_Lines_4, k_cascaderef01_Lines_5, k_cascaderef01_Lines_6]
def k_cascaderef07_Value_0 : KC := (.reg [
rq 2 (.move (.c (.str [])))]
  (.reg [
rq 12 (.move (.t 0)),
rq 13 (.call .pur F.cascaderef07_turned [(.t 12), (.c (.str [92, 34, 34, 34])), (.c (.str [34, 34, 34]))]),
rq 14 (.call .pur F.cascaderef01_Lines [(.t 13)]),
rq 3 (.move (.t 14))]
  (.reg [
rq 15 (.move (.t 3)),
rq 16 (.call .pur F.cascaderef07_Indent [(.t 15)]),
rq 4 (.move (.t 16))]
  (.reg [
rq 17 (.move (.t 3)),
rq 18 (.len .sl (.t 17)),
rq 5 (.move (.t 18)),
rq 6 (.move (.c (.int .i64 0)))]
  (.reg [
rq 7 (.vnil 1)]
  (.seq (.reg [
rq 8 (.move (.c (.int .i64 0)))]
  (.block 0 (.loop ⟨1, [3, 4, 5, 6, 7, 8], [[7]]⟩)))
  ⟨6, [5, 6, 7], [[7]]⟩))))))
def k_cascaderef07_Value_1 : KC := (.seq (.reg [
rq 19 (.move (.t 8)),
rq 20 (.move (.t 3)),
rq 21 (.len .sl (.t 20)),
rq 22 (.bin .lss (.t 19) (.t 21))]
  (.cond (.t 22)
  .skip
  (.exit 0)))
  ⟨2, [3, 4, 5, 6, 7, 8], [[7]]⟩)
def k_cascaderef07_Value_2 : KC := (.seq (.block 1 (.reg [
rq 25 (.move (.t 3)),
rq 26 (.move (.t 8)),
rq 27 (.iaddr 1 (.t 25) (.t 26)),
rq 28 (.load false 1 (.t 27)),
rq 9 (.move (.t 28))]
  (.seq (.reg [
rq 29 (.move (.t 8)),
rq 30 (.bin .gtr (.t 29) (.c (.int .i64 0)))]
  (.cond (.t 30)
  (.lreg [
rq 31 (.move (.t 9)),
rq 32 (.move (.t 4)),
rq 33 (.move (.t 9)),
rq 34 (.len .str (.t 33)),
rq 35 (.mm false [(.t 32), (.t 34)]),
rq 36 (.slice 0 (.t 31) (some (.t 35)) none),
rq 9 (.move (.t 36))])
  .skip))
  ⟨3, [3, 4, 5, 6, 7, 8, 9], [[7]]⟩)))
  ⟨5, [3, 4, 5, 6, 7, 8], [[7]]⟩)
def k_cascaderef07_Value_3 : KC := (.seq (.reg [
rq 37 (.move (.t 9)),
rq 38 (.call .pur F.cascaderef07_first [(.t 37)]),
rq 39 (.move (.t 9)),
rq 40 (.len .str (.t 39)),
rq 41 (.bin .lss (.t 38) (.t 40))]
  (.cond (.t 41)
  (.reg [
rq 42 (.move (.t 5)),
rq 43 (.move (.t 8)),
rq 44 (.mm false [(.t 42), (.t 43)]),
rq 5 (.move (.t 44))]
  (.lreg [
rq 45 (.move (.t 8)),
rq 46 (.bin .add (.t 45) (.c (.int .i64 1))),
rq 6 (.move (.t 46))]))
  .skip))
  ⟨4, [3, 4, 5, 6, 7, 8, 9], [[7]]⟩)
def k_cascaderef07_Value_4 : KC := (.lreg [
rq 47 (.move (.t 7)),
rq 48 (.move (.t 9)),
rq 49 (.ilit 1 [(.t 48)]),
rq 50 (.app 1 16 (.t 47) (.t 49)),
rq 7 (.move (.t 50))])
def k_cascaderef07_Value_5 : KC := (.lreg [
rq 23 (.move (.t 8)),
rq 24 (.bin .add (.t 23) (.c (.int .i64 1))),
rq 8 (.move (.t 24))])
def k_cascaderef07_Value_6 : KC := (.reg [
rq 10 (.move (.c (.str [])))]
  (.seq (.reg [
rq 51 (.move (.t 5)),
rq 11 (.move (.t 51))]
  (.block 2 (.loop ⟨7, [5, 6, 7, 10, 11], [[7]]⟩)))
  ⟨11, [10], []⟩))
def k_cascaderef07_Value_7 : KC := (.seq (.reg [
rq 52 (.move (.t 11)),
rq 53 (.move (.t 6)),
rq 54 (.bin .lss (.t 52) (.t 53))]
  (.cond (.t 54)
  .skip
  (.exit 2)))
  ⟨8, [5, 6, 7, 10, 11], [[7]]⟩)
def k_cascaderef07_Value_8 : KC := (.seq (.block 3 (.seq (.reg [
rq 57 (.move (.t 11)),
rq 58 (.move (.t 5)),
rq 59 (.bin .gtr (.t 57) (.t 58))]
  (.cond (.t 59)
  (.lreg [
rq 60 (.move (.t 10)),
rq 61 (.bin .add (.t 60) (.c (.str [10]))),
rq 10 (.move (.t 61))])
  .skip))
  ⟨9, [5, 6, 7, 10, 11], [[7]]⟩))
  ⟨10, [5, 6, 7, 10, 11], [[7]]⟩)
def k_cascaderef07_Value_9 : KC := (.lreg [
rq 62 (.move (.t 10)),
rq 63 (.move (.t 7)),
rq 64 (.move (.t 11)),
rq 65 (.iaddr 1 (.t 63) (.t 64)),
rq 66 (.load false 1 (.t 65)),
rq 67 (.bin .add (.t 62) (.t 66)),
rq 10 (.move (.t 67))])
def k_cascaderef07_Value_10 : KC := (.lreg [
rq 55 (.move (.t 11)),
rq 56 (.bin .add (.t 55) (.c (.int .i64 1))),
rq 11 (.move (.t 56))])
def k_cascaderef07_Value_11 : KC := (.reg [
rq 68 (.move (.t 10)),
rq 2 (.move (.t 68))]
  .ret)
def r_cascaderef07_Value : KF where
  np := 1
  res := [.tmp 2]
  code := [k_cascaderef07_Value_0, k_cascaderef07_Value_1, k_cascaderef07_Value_2, k_cascaderef07_Value_3, k_cascaderef07_Value_4, k_cascaderef07_Value_5, k_cascaderef07_Value_6, k_cascaderef07_Value_7, k_cascaderef07_Value_8, k_cascaderef07_Value_9, k_cascaderef07_Value_10, k_cascaderef07_Value_11]
def k_cascadelaw07_BlockValues_0 : KC := (.reg [
rq 2 (.move (.c (.bool false)))]
  (.seq (.reg [
rq 3 (.call .pur F.cascadelaw07_awake []),
rq 4 (.un .not (.t 3)),
rq 5 (.move (.t 4)),
rqg 6 5 false (.move (.t 0)),
rqg 7 5 false (.len .str (.t 6)),
rqg 8 5 false (.bin .gtr (.t 7) (.c (.int .i64 400))),
rq 9 (.pick (.t 5) (.c (.bool true)) (.t 8))]
  (.cond (.t 9)
  (.reg [
rq 10 (.call .pur F.cascadelaw07_awake []),
rq 2 (.move (.t 10))]
  .ret)
  .skip))
  ⟨1, [0], []⟩))
def k_cascadelaw07_BlockValues_1 : KC := (.reg [
rq 11 (.move (.t 0)),
rq 12 (.call .pur F.block_Value [(.t 11)]),
rq 13 (.move (.t 0)),
rq 14 (.call .pur F.cascaderef07_Value [(.t 13)]),
rq 15 (.bin .eql (.t 12) (.t 14)),
rq 2 (.move (.t 15))]
  .ret)
def r_cascadelaw07_BlockValues : KF where
  np := 1
  res := [.tmp 2]
  code := [k_cascadelaw07_BlockValues_0, k_cascadelaw07_BlockValues_1]
def k_block_comes_0 : KC := (.reg [
rq 2 (.move (.c (.bool false)))]
  (.seq (.reg [
rq 4 (.move (.t 0)),
rq 5 (.call .pur F.strings_Contains [(.t 4), (.c (.str [13]))]),
rq 6 (.move (.t 5)),
rqg 7 6 false (.move (.t 0)),
rqg 8 6 false (.call .pur F.strings_HasSuffix [(.t 7), (.c (.str [92]))]),
rq 9 (.pick (.t 6) (.c (.bool true)) (.t 8)),
rq 10 (.move (.t 9)),
rqg 11 10 false (.move (.t 0)),
rqg 12 10 false (.call .pur F.strings_HasSuffix [(.t 11), (.c (.str [34]))]),
rq 13 (.pick (.t 10) (.c (.bool true)) (.t 12))]
  (.cond (.t 13)
  (.reg [
rq 2 (.move (.c (.bool false)))]
  .ret)
  .skip))
  ⟨1, [0], []⟩))
def k_block_comes_1 : KC := (.reg [
rq 14 (.move (.t 0)),
rq 15 (.call .pur F.text_Lines [(.t 14)]),
rq 3 (.move (.t 15))]
  (.seq (.reg [
rq 16 (.move (.t 0)),
rq 17 (.bin .neq (.t 16) (.c (.str []))),
rq 18 (.move (.t 17)),
rqg 19 18 true (.move (.t 3)),
rqg 20 18 true (.iaddr 1 (.t 19) (.c (.int .i64 0))),
rqg 21 18 true (.load false 1 (.t 20)),
rqg 22 18 true (.call .pur F.block_empty [(.t 21)]),
rqg 23 18 true (.move (.t 22)),
rqg 24 23 false (.move (.t 3)),
rqg 25 23 false (.move (.t 3)),
rqg 26 23 false (.len .sl (.t 25)),
rqg 27 23 false (.bin .sub (.t 26) (.c (.int .i64 1))),
rqg 28 23 false (.iaddr 1 (.t 24) (.t 27)),
rqg 29 23 false (.load false 1 (.t 28)),
rqg 30 23 false (.call .pur F.block_empty [(.t 29)]),
rqg 31 18 true (.pick (.t 23) (.c (.bool true)) (.t 30)),
rq 32 (.pick (.t 18) (.t 31) (.c (.bool false)))]
  (.cond (.t 32)
  (.reg [
rq 2 (.move (.c (.bool false)))]
  .ret)
  .skip))
  ⟨2, [3], []⟩))
def k_block_comes_2 : KC := (.reg [
rq 33 (.lit 1 [(.c (.str []))]),
rq 34 (.move (.t 3)),
rq 35 (.app 1 16 (.t 33) (.t 34)),
rq 36 (.call .pur F.block_Indent [(.t 35)]),
rq 37 (.bin .eql (.t 36) (.c (.int .i64 0))),
rq 2 (.move (.t 37))]
  .ret)
def r_block_comes : KF where
  np := 1
  res := [.tmp 2]
  code := [k_block_comes_0, k_block_comes_1, k_block_comes_2]
def k_block_Raw_0 : KC := (.reg [
rq 2 (.move (.c (.str []))),
rq 3 (.move (.c (.int .i64 0)))]
  (.seq (.reg [
rq 4 (.move (.t 0)),
rq 5 (.call .pur F.block_comes [(.t 4)]),
rq 6 (.un .not (.t 5))]
  (.cond (.t 6)
  (.reg [
rq 2 (.move (.c (.str []))),
rq 3 (.move (.c (.int .i64 4)))]
  .ret)
  .skip))
  ⟨1, [0], []⟩))
def k_block_Raw_1 : KC := (.reg [
rq 7 (.move (.t 0)),
rq 8 (.call .pur F.strings_ReplaceAll [(.t 7), (.c (.str [34, 34, 34])), (.c (.str [92, 34, 34, 34]))]),
rq 9 (.bin .add (.c (.str [10])) (.t 8)),
rq 2 (.move (.t 9)),
rq 3 (.move (.c (.int .i64 0)))]
  .ret)
def r_block_Raw : KF where
  np := 1
  res := [.tmp 2, .tmp 3]
  code := [k_block_Raw_0, k_block_Raw_1]
def k_cascaderef07_Raw_0 : KC := (.reg [
rq 2 (.move (.c (.str []))),
rq 3 (.move (.c (.int .i64 0)))]
  (.seq (.reg [
rq 4 (.move (.c (.int .i64 0)))]
  (.block 0 (.loop ⟨1, [0, 4], []⟩)))
  ⟨4, [0], []⟩))
def k_cascaderef07_Raw_1 : KC := (.seq (.reg [
rq 9 (.move (.t 4)),
rq 10 (.move (.t 0)),
rq 11 (.len .str (.t 10)),
rq 12 (.bin .lss (.t 9) (.t 11))]
  (.cond (.t 12)
  .skip
  (.exit 0)))
  ⟨2, [0, 4], []⟩)
def k_cascaderef07_Raw_2 : KC := (.seq (.block 1 (.reg [
rq 15 (.move (.t 0)),
rq 16 (.move (.t 4)),
rq 17 (.idx (.t 15) (.t 16)),
rq 18 (.bin .eql (.t 17) (.c (.int .u8 13))),
rq 19 (.move (.t 18)),
rqg 20 19 false (.move (.t 4)),
rqg 21 19 false (.move (.t 0)),
rqg 22 19 false (.len .str (.t 21)),
rqg 23 19 false (.bin .sub (.t 22) (.c (.int .i64 1))),
rqg 24 19 false (.bin .eql (.t 20) (.t 23)),
rqg 25 19 false (.move (.t 24)),
rqg 26 25 true (.move (.t 0)),
rqg 27 25 true (.move (.t 4)),
rqg 28 25 true (.idx (.t 26) (.t 27)),
rqg 29 25 true (.bin .eql (.t 28) (.c (.int .u8 92))),
rqg 30 25 true (.move (.t 29)),
rqg 31 30 false (.move (.t 0)),
rqg 32 30 false (.move (.t 4)),
rqg 33 30 false (.idx (.t 31) (.t 32)),
rqg 34 30 false (.bin .eql (.t 33) (.c (.int .u8 34))),
rqg 35 25 true (.pick (.t 30) (.c (.bool true)) (.t 34)),
rqg 36 19 false (.pick (.t 25) (.t 35) (.c (.bool false))),
rq 37 (.pick (.t 19) (.c (.bool true)) (.t 36))]
  (.cond (.t 37)
  (.reg [
rq 2 (.move (.c (.str []))),
rq 3 (.move (.c (.int .i64 4)))]
  .ret)
  .skip)))
  ⟨3, [0, 4], []⟩)
def k_cascaderef07_Raw_3 : KC := (.lreg [
rq 13 (.move (.t 4)),
rq 14 (.bin .add (.t 13) (.c (.int .i64 1))),
rq 4 (.move (.t 14))])
def k_cascaderef07_Raw_4 : KC := (.reg [
rq 38 (.move (.t 0)),
rq 39 (.call .pur F.cascaderef01_Lines [(.t 38)]),
rq 5 (.move (.t 39))]
  (.dreg [
rq 40 (.move (.t 5)),
rq 41 (.iaddr 1 (.t 40) (.c (.int .i64 0))),
rq 42 (.load false 1 (.t 41)),
rq 43 (.move (.t 5)),
rq 44 (.move (.t 5)),
rq 45 (.len .sl (.t 44)),
rq 46 (.bin .sub (.t 45) (.c (.int .i64 1))),
rq 47 (.iaddr 1 (.t 43) (.t 46)),
rq 48 (.load false 1 (.t 47)),
rq 6 (.move (.t 42)),
rq 7 (.move (.t 48))] []
  (.seq (.reg [
rq 49 (.move (.t 0)),
rq 50 (.len .str (.t 49)),
rq 51 (.bin .gtr (.t 50) (.c (.int .i64 0))),
rq 52 (.move (.t 51)),
rqg 53 52 true (.move (.t 6)),
rqg 54 52 true (.call .pur F.cascaderef07_first [(.t 53)]),
rqg 55 52 true (.move (.t 6)),
rqg 56 52 true (.len .str (.t 55)),
rqg 57 52 true (.bin .eql (.t 54) (.t 56)),
rqg 58 52 true (.move (.t 57)),
rqg 59 58 false (.move (.t 7)),
rqg 60 58 false (.call .pur F.cascaderef07_first [(.t 59)]),
rqg 61 58 false (.move (.t 7)),
rqg 62 58 false (.len .str (.t 61)),
rqg 63 58 false (.bin .eql (.t 60) (.t 62)),
rqg 64 52 true (.pick (.t 58) (.c (.bool true)) (.t 63)),
rq 65 (.pick (.t 52) (.t 64) (.c (.bool false)))]
  (.cond (.t 65)
  (.reg [
rq 2 (.move (.c (.str []))),
rq 3 (.move (.c (.int .i64 4)))]
  .ret)
  .skip))
  ⟨5, [0, 5], []⟩)))
def k_cascaderef07_Raw_5 : KC := (.reg [
rq 8 (.vnil 1)]
  (.reg [
rq 66 (.move (.t 8)),
rq 67 (.ilit 1 [(.c (.str []))]),
rq 68 (.app 1 16 (.t 66) (.t 67)),
rq 8 (.move (.t 68))]
  (.reg [
rq 69 (.move (.t 8)),
rq 70 (.move (.t 5)),
rq 71 (.app 1 16 (.t 69) (.t 70)),
rq 8 (.move (.t 71))]
  (.seq (.reg [
rq 72 (.move (.t 8)),
rq 73 (.call .pur F.cascaderef07_Indent [(.t 72)]),
rq 74 (.bin .neq (.t 73) (.c (.int .i64 0)))]
  (.cond (.t 74)
  (.reg [
rq 2 (.move (.c (.str []))),
rq 3 (.move (.c (.int .i64 4)))]
  .ret)
  .skip))
  ⟨6, [0], []⟩))))
def k_cascaderef07_Raw_6 : KC := (.reg [
rq 75 (.move (.t 0)),
rq 76 (.call .pur F.cascaderef07_turned [(.t 75), (.c (.str [34, 34, 34])), (.c (.str [92, 34, 34, 34]))]),
rq 77 (.bin .add (.c (.str [10])) (.t 76)),
rq 2 (.move (.t 77)),
rq 3 (.move (.c (.int .i64 0)))]
  .ret)
def r_cascaderef07_Raw : KF where
  np := 1
  res := [.tmp 2, .tmp 3]
  code := [k_cascaderef07_Raw_0, k_cascaderef07_Raw_1, k_cascaderef07_Raw_2, k_cascaderef07_Raw_3, k_cascaderef07_Raw_4, k_cascaderef07_Raw_5, k_cascaderef07_Raw_6]
def k_cascadelaw07_BlockRaws_0 : KC := (.reg [
rq 2 (.move (.c (.bool false)))]
  (.seq (.reg [
rq 7 (.call .pur F.cascadelaw07_awake []),
rq 8 (.un .not (.t 7)),
rq 9 (.move (.t 8)),
rqg 10 9 false (.move (.t 0)),
rqg 11 9 false (.len .str (.t 10)),
rqg 12 9 false (.bin .gtr (.t 11) (.c (.int .i64 400))),
rq 13 (.pick (.t 9) (.c (.bool true)) (.t 12))]
  (.cond (.t 13)
  (.reg [
rq 14 (.call .pur F.cascadelaw07_awake []),
rq 2 (.move (.t 14))]
  .ret)
  .skip))
  ⟨1, [0], []⟩))
def k_cascadelaw07_BlockRaws_1 : KC := (.reg [
rq 16 (.move (.t 0)),
rq 17 (.call .pur F.block_Raw [(.t 16)]),
rq 15 (.move (.t 17)),
rq 18 (.extract (.t 15) 0),
rq 19 (.extract (.t 15) 1),
rq 3 (.move (.t 18)),
rq 4 (.move (.t 19))]
  (.reg [
rq 21 (.move (.t 0)),
rq 22 (.call .pur F.cascaderef07_Raw [(.t 21)]),
rq 20 (.move (.t 22)),
rq 23 (.extract (.t 20) 0),
rq 24 (.extract (.t 20) 1),
rq 5 (.move (.t 23)),
rq 6 (.move (.t 24))]
  (.reg [
rq 25 (.move (.t 3)),
rq 26 (.move (.t 5)),
rq 27 (.bin .eql (.t 25) (.t 26)),
rq 28 (.move (.t 27)),
rqg 29 28 true (.move (.t 4)),
rqg 30 28 true (.move (.t 6)),
rqg 31 28 true (.bin .eql (.t 29) (.t 30)),
rq 32 (.pick (.t 28) (.t 31) (.c (.bool false))),
rq 33 (.move (.t 32)),
rqg 34 33 true (.move (.t 4)),
rqg 35 33 true (.bin .neq (.t 34) (.c (.int .i64 0))),
rqg 36 33 true (.move (.t 35)),
rqg 37 36 false (.move (.t 3)),
rqg 38 36 false (.call .pur F.block_Value [(.t 37)]),
rqg 39 36 false (.move (.t 0)),
rqg 40 36 false (.bin .eql (.t 38) (.t 39)),
rqg 41 33 true (.pick (.t 36) (.c (.bool true)) (.t 40)),
rq 42 (.pick (.t 33) (.t 41) (.c (.bool false))),
rq 2 (.move (.t 42))]
  .ret)))
def r_cascadelaw07_BlockRaws : KF where
  np := 1
  res := [.tmp 2]
  code := [k_cascadelaw07_BlockRaws_0, k_cascadelaw07_BlockRaws_1]
def k_cascadelaw07_BlockClean_0 : KC := (.reg [
rq 4 (.move (.c (.bool false)))]
  (.seq (.reg [
rq 11 (.call .pur F.cascadelaw07_awake []),
rq 12 (.un .not (.t 11)),
rq 13 (.move (.t 12)),
rqg 14 13 false (.move (.t 0)),
rqg 15 13 false (.len .str (.t 14)),
rqg 16 13 false (.bin .gtr (.t 15) (.c (.int .i64 400))),
rq 17 (.pick (.t 13) (.c (.bool true)) (.t 16))]
  (.cond (.t 17)
  (.reg [
rq 18 (.call .pur F.cascadelaw07_awake []),
rq 4 (.move (.t 18))]
  .ret)
  .skip))
  ⟨1, [0, 1], []⟩))
def k_cascadelaw07_BlockClean_1 : KC := (.reg [
rq 19 (.move (.t 0)),
rq 20 (.bin .add (.c (.str [10])) (.t 19)),
rq 21 (.call .pur F.block_Value [(.t 20)]),
rq 5 (.move (.t 21))]
  (.seq (.reg [
rq 22 (.move (.t 5)),
rq 23 (.bin .eql (.t 22) (.c (.str [])))]
  (.cond (.t 23)
  (.reg [
rq 4 (.move (.c (.bool true)))]
  .ret)
  .skip))
  ⟨2, [0, 1, 5], []⟩))
def k_cascadelaw07_BlockClean_2 : KC := (.reg [
rq 6 (.move (.c (.str [])))]
  (.seq (.reg [
rq 7 (.move (.c (.int .i64 0)))]
  (.block 0 (.loop ⟨3, [0, 1, 5, 6, 7], []⟩)))
  ⟨6, [0, 5, 6], []⟩))
def k_cascadelaw07_BlockClean_3 : KC := (.seq (.reg [
rq 24 (.move (.t 7)),
rq 25 (.move (.t 1)),
rq 26 (.bin .rem (.t 25) (.c (.int .u8 20))),
rq 27 (.conv (.int .i64) (.t 26)),
rq 28 (.bin .lss (.t 24) (.t 27))]
  (.cond (.t 28)
  .skip
  (.exit 0)))
  ⟨4, [0, 1, 5, 6, 7], []⟩)
def k_cascadelaw07_BlockClean_4 : KC := (.seq (.block 1 (.lreg [
rq 31 (.move (.t 6)),
rq 32 (.bin .add (.t 31) (.c (.str [32]))),
rq 6 (.move (.t 32))]))
  ⟨5, [0, 1, 5, 6, 7], []⟩)
def k_cascadelaw07_BlockClean_5 : KC := (.lreg [
rq 29 (.move (.t 7)),
rq 30 (.bin .add (.t 29) (.c (.int .i64 1))),
rq 7 (.move (.t 30))])
def k_cascadelaw07_BlockClean_6 : KC := (.reg [
rq 33 (.move (.t 6)),
rq 34 (.bin .add (.c (.str [10])) (.t 33)),
rq 8 (.move (.t 34))]
  (.seq (.reg [
rq 9 (.move (.c (.int .i64 0)))]
  (.block 2 (.loop ⟨7, [0, 5, 6, 8, 9], []⟩)))
  ⟨10, [5, 8], []⟩))
def k_cascadelaw07_BlockClean_7 : KC := (.seq (.reg [
rq 35 (.move (.t 9)),
rq 36 (.move (.t 0)),
rq 37 (.len .str (.t 36)),
rq 38 (.bin .lss (.t 35) (.t 37))]
  (.cond (.t 38)
  .skip
  (.exit 2)))
  ⟨8, [0, 5, 6, 8, 9], []⟩)
def k_cascadelaw07_BlockClean_8 : KC := (.seq (.block 3 (.reg [
rq 41 (.move (.t 8)),
rq 42 (.move (.t 0)),
rq 43 (.move (.t 9)),
rq 44 (.move (.t 9)),
rq 45 (.bin .add (.t 44) (.c (.int .i64 1))),
rq 46 (.slice 0 (.t 42) (some (.t 43)) (some (.t 45))),
rq 47 (.bin .add (.t 41) (.t 46)),
rq 8 (.move (.t 47))]
  (.reg [
rq 48 (.move (.t 0)),
rq 49 (.move (.t 9)),
rq 50 (.idx (.t 48) (.t 49)),
rq 51 (.bin .eql (.t 50) (.c (.int .u8 10))),
rq 52 (.move (.t 51)),
rqg 53 52 false (.move (.t 0)),
rqg 54 52 false (.move (.t 9)),
rqg 55 52 false (.idx (.t 53) (.t 54)),
rqg 56 52 false (.bin .eql (.t 55) (.c (.int .u8 13))),
rqg 57 52 false (.move (.t 56)),
rqg 58 57 true (.move (.t 9)),
rqg 59 57 true (.move (.t 0)),
rqg 60 57 true (.len .str (.t 59)),
rqg 61 57 true (.bin .sub (.t 60) (.c (.int .i64 1))),
rqg 62 57 true (.bin .lss (.t 58) (.t 61)),
rqg 63 57 true (.move (.t 62)),
rqg 64 63 true (.move (.t 0)),
rqg 65 63 true (.move (.t 9)),
rqg 66 63 true (.bin .add (.t 65) (.c (.int .i64 1))),
rqg 67 63 true (.idx (.t 64) (.t 66)),
rqg 68 63 true (.bin .eql (.t 67) (.c (.int .u8 10))),
rqg 69 57 true (.pick (.t 63) (.t 68) (.c (.bool false))),
rqg 70 57 true (.un .not (.t 69)),
rqg 71 52 false (.pick (.t 57) (.t 70) (.c (.bool false))),
rq 72 (.pick (.t 52) (.c (.bool true)) (.t 71))]
  (.cond (.t 72)
  (.lreg [
rq 73 (.move (.t 8)),
rq 74 (.move (.t 6)),
rq 75 (.bin .add (.t 73) (.t 74)),
rq 8 (.move (.t 75))])
  .skip))))
  ⟨9, [0, 5, 6, 8, 9], []⟩)
def k_cascadelaw07_BlockClean_9 : KC := (.lreg [
rq 39 (.move (.t 9)),
rq 40 (.bin .add (.t 39) (.c (.int .i64 1))),
rq 9 (.move (.t 40))])
def k_cascadelaw07_BlockClean_10 : KC := (.reg [
rq 76 (.move (.t 5)),
rq 77 (.move (.t 5)),
rq 78 (.len .str (.t 77)),
rq 79 (.bin .sub (.t 78) (.c (.int .i64 1))),
rq 80 (.idx (.t 76) (.t 79)),
rq 10 (.move (.t 80))]
  (.reg [
rq 81 (.move (.t 8)),
rq 82 (.call .pur F.block_Value [(.t 81)]),
rq 83 (.move (.t 5)),
rq 84 (.bin .eql (.t 82) (.t 83)),
rq 85 (.move (.t 84)),
rqg 86 85 true (.move (.t 5)),
rqg 87 85 true (.idx (.t 86) (.c (.int .i64 0))),
rqg 88 85 true (.bin .neq (.t 87) (.c (.int .u8 10))),
rq 89 (.pick (.t 85) (.t 88) (.c (.bool false))),
rq 90 (.move (.t 89)),
rqg 91 90 true (.move (.t 10)),
rqg 92 90 true (.bin .neq (.t 91) (.c (.int .u8 10))),
rq 93 (.pick (.t 90) (.t 92) (.c (.bool false))),
rq 94 (.move (.t 93)),
rqg 95 94 true (.move (.t 10)),
rqg 96 94 true (.bin .neq (.t 95) (.c (.int .u8 13))),
rq 97 (.pick (.t 94) (.t 96) (.c (.bool false))),
rq 4 (.move (.t 97))]
  .ret))
def r_cascadelaw07_BlockClean : KF where
  np := 2
  res := [.tmp 4]
  code := [k_cascadelaw07_BlockClean_0, k_cascadelaw07_BlockClean_1, k_cascadelaw07_BlockClean_2, k_cascadelaw07_BlockClean_3, k_cascadelaw07_BlockClean_4, k_cascadelaw07_BlockClean_5, k_cascadelaw07_BlockClean_6, k_cascadelaw07_BlockClean_7, k_cascadelaw07_BlockClean_8, k_cascadelaw07_BlockClean_9, k_cascadelaw07_BlockClean_10]
def table : FuncId → Option KF
  | 11 => some r_cascadelaw07_BlockIndents
  | 12 => some r_cascadelaw07_BlockValues
  | 13 => some r_cascadelaw07_BlockClean
  | 14 => some r_cascadelaw07_BlockRaws
  | 42 => some r_cascadelaw07_awake
  | 43 => some r_block_Indent
  | 44 => some r_cascaderef07_Indent
  | 45 => some r_block_Value
  | 46 => some r_cascaderef07_Value
  | 47 => some r_block_Raw
  | 48 => some r_cascaderef07_Raw
  | 82 => some r_block_lead
  | 83 => some r_cascaderef07_first
  | 84 => some r_text_Lines
  | 85 => some { code := [], res := [], np := 3, ext := some (.pure ext_strings_ReplaceAll) }
  | 86 => some r_block_empty
  | 87 => some { code := [], res := [], np := 2, ext := some (.pure ext_strings_Join) }
  | 88 => some r_cascaderef01_Lines
  | 89 => some r_cascaderef07_turned
  | 90 => some r_block_comes
  | 114 => some { code := [], res := [], np := 2, ext := some (.pure ext_strings_TrimLeft) }
  | 115 => some { code := [], res := [], np := 2, ext := some (.pure ext_strings_IndexByte) }
  | 116 => some { code := [], res := [], np := 2, ext := some (.pure ext_strings_HasPrefix) }
  | 121 => some { code := [], res := [], np := 2, ext := some (.pure ext_strings_Contains) }
  | 122 => some { code := [], res := [], np := 2, ext := some (.pure ext_strings_HasSuffix) }
  | _ => none
end Go.Abs.Q
