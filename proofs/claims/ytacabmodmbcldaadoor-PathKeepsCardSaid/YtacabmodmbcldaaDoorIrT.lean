import Derived.Test.YtacabmodmbcldaaDoorAbsL
import Derived.Test.YtacabmodmbcldaaDoorXT
namespace Go.Abs.T
namespace F
abbrev main_main : FuncId := 0
abbrev gosem_cut : FuncId := 1
abbrev gosem_cut_init : FuncId := 2
abbrev cascadelaw06_PathRight : FuncId := 3
abbrev cascadelaw06_PathOf : FuncId := 4
abbrev cascadelaw06_PathThird : FuncId := 5
abbrev cascadelaw06_PathFinds : FuncId := 6
abbrev cascadelaw06_PathPuts : FuncId := 7
abbrev cascadelaw06_PathKeeps : FuncId := 8
abbrev cascadelaw06_PathAdds : FuncId := 9
abbrev cascadelaw06_PathMerges : FuncId := 10
abbrev cascadelaw07_BlockIndents : FuncId := 11
abbrev cascadelaw07_BlockValues : FuncId := 12
abbrev cascadelaw07_BlockClean : FuncId := 13
abbrev cascadelaw07_BlockRaws : FuncId := 14
abbrev cascadelaw06_awake : FuncId := 15
abbrev cascaderef06_Few : FuncId := 16
abbrev cascaderef06_Right : FuncId := 17
abbrev path_Value : FuncId := 18
abbrev path_Right : FuncId := 19
abbrev cascadelaw06_zero : FuncId := 20
abbrev path_Of : FuncId := 21
abbrev cascaderef03_Same : FuncId := 22
abbrev cascaderef06_Value : FuncId := 23
abbrev cascaderef06_Same : FuncId := 24
abbrev cascaderef03_Few : FuncId := 25
abbrev cascaderef06_Of : FuncId := 26
abbrev path_Less : FuncId := 27
abbrev path_Key : FuncId := 28
abbrev path_Place : FuncId := 29
abbrev path_Under : FuncId := 30
abbrev path_Same : FuncId := 31
abbrev path_Find : FuncId := 32
abbrev cascaderef03_Right : FuncId := 33
abbrev cascaderef06_Find : FuncId := 34
abbrev path_Put : FuncId := 35
abbrev cascaderef06_Puts : FuncId := 36
abbrev cascaderef06_Under : FuncId := 37
abbrev path_Add : FuncId := 38
abbrev cascaderef06_Add : FuncId := 39
abbrev path_Merge : FuncId := 40
abbrev cascaderef06_Merge : FuncId := 41
abbrev cascadelaw07_awake : FuncId := 42
abbrev block_Indent : FuncId := 43
abbrev cascaderef07_Indent : FuncId := 44
abbrev block_Value : FuncId := 45
abbrev cascaderef07_Value : FuncId := 46
abbrev block_Raw : FuncId := 47
abbrev cascaderef07_Raw : FuncId := 48
abbrev cascaderef01_Right : FuncId := 49
abbrev slices_ContainsFunc__api_Step_api_Step : FuncId := 50
abbrev path_Right_1 : FuncId := 51
abbrev path_right : FuncId := 52
abbrev tree_Right : FuncId := 53
abbrev cascaderef03_few : FuncId := 54
abbrev slices_CompareFunc__api_Step__api_Step_api_Step_api_Step : FuncId := 55
abbrev path_compare : FuncId := 56
abbrev slices_EqualFunc__api_Step__api_Step_api_Step_api_Step : FuncId := 57
abbrev path_one : FuncId := 58
abbrev path_at : FuncId := 59
abbrev path_Find_1 : FuncId := 60
abbrev tree_Clone : FuncId := 61
abbrev cascaderef03_right : FuncId := 62
abbrev cascaderef06_next : FuncId := 63
abbrev path_changed : FuncId := 64
abbrev path_Put_1 : FuncId := 65
abbrev cascaderef06_may : FuncId := 66
abbrev cascaderef06_changed : FuncId := 67
abbrev slices_ContainsFunc__api_Value_api_Value : FuncId := 68
abbrev path_Add_1 : FuncId := 69
abbrev path_Add_2 : FuncId := 70
abbrev slices_Concat__api_Value_api_Value : FuncId := 71
abbrev path_Merge_1 : FuncId := 72
abbrev slices_ContainsFunc__api_Pair_api_Pair : FuncId := 73
abbrev path_Merge_1_1 : FuncId := 74
abbrev slices_Concat__api_Pair_api_Pair : FuncId := 75
abbrev tree_Ordered : FuncId := 76
abbrev slices_IndexFunc__api_Pair_api_Pair : FuncId := 77
abbrev path_Merge_1_2 : FuncId := 78
abbrev cascaderef03_At : FuncId := 79
abbrev cascaderef06_twice : FuncId := 80
abbrev cascaderef03_Ordered : FuncId := 81
abbrev block_lead : FuncId := 82
abbrev cascaderef07_first : FuncId := 83
abbrev text_Lines : FuncId := 84
abbrev strings_ReplaceAll : FuncId := 85
abbrev block_empty : FuncId := 86
abbrev strings_Join : FuncId := 87
abbrev cascaderef01_Lines : FuncId := 88
abbrev cascaderef07_turned : FuncId := 89
abbrev block_comes : FuncId := 90
abbrev cascaderef01_Bad : FuncId := 91
abbrev slices_IndexFunc__api_Step_api_Step : FuncId := 92
abbrev text_Right : FuncId := 93
abbrev tree_Right_1 : FuncId := 94
abbrev tree_unused : FuncId := 95
abbrev tree_Right_1_1 : FuncId := 96
abbrev tree_keys : FuncId := 97
abbrev tree_Right_1_2 : FuncId := 98
abbrev cmp_Or_int : FuncId := 99
abbrev cmp_Compare_string : FuncId := 100
abbrev cmp_Compare_int : FuncId := 101
abbrev slices_Clone__api_Value_api_Value : FuncId := 102
abbrev path_at_1 : FuncId := 103
abbrev slices_Clone__api_Pair_api_Pair : FuncId := 104
abbrev tree_clone : FuncId := 105
abbrev cascaderef06_Put : FuncId := 106
abbrev slices_IndexFunc__api_Value_api_Value : FuncId := 107
abbrev slices_Grow__api_Value_api_Value : FuncId := 108
abbrev slices_Grow__api_Pair_api_Pair : FuncId := 109
abbrev tree_object : FuncId := 110
abbrev tree_Ordered_1 : FuncId := 111
abbrev slices_SortStableFunc__api_Pair_api_Pair : FuncId := 112
abbrev tree_Ordered_2 : FuncId := 113
abbrev strings_TrimLeft : FuncId := 114
abbrev strings_IndexByte : FuncId := 115
abbrev strings_HasPrefix : FuncId := 116
abbrev strings_Replace : FuncId := 117
abbrev strings_Builder_Grow : FuncId := 118
abbrev strings_Builder_WriteString : FuncId := 119
abbrev strings_Builder_String : FuncId := 120
abbrev strings_Contains : FuncId := 121
abbrev strings_HasSuffix : FuncId := 122
abbrev cascaderef01_Size : FuncId := 123
abbrev text_Bad : FuncId := 124
abbrev cmp_isNaN_string : FuncId := 125
abbrev cmp_isNaN_int : FuncId := 126
abbrev slices_stableCmpFunc_api_Pair : FuncId := 127
abbrev strings_trimLeftByte : FuncId := 128
abbrev strings_makeASCIISet : FuncId := 129
abbrev strings_trimLeftASCII : FuncId := 130
abbrev strings_trimLeftUnicode : FuncId := 131
abbrev internal_stringslite_IndexByte : FuncId := 132
abbrev internal_stringslite_HasPrefix : FuncId := 133
abbrev strings_Count : FuncId := 134
abbrev strings_Index : FuncId := 135
abbrev unicode_utf8_DecodeRuneInString : FuncId := 136
abbrev strings_Builder_copyCheck : FuncId := 137
abbrev strings_Builder_grow : FuncId := 138
abbrev internal_stringslite_HasSuffix : FuncId := 139
abbrev slices_insertionSortCmpFunc_api_Pair : FuncId := 140
abbrev slices_symMergeCmpFunc_api_Pair : FuncId := 141
abbrev strings_asciiSet_contains : FuncId := 142
abbrev strings_ContainsRune : FuncId := 143
abbrev internal_bytealg_IndexByteString : FuncId := 144
abbrev unicode_utf8_RuneCountInString : FuncId := 145
abbrev internal_bytealg_CountString : FuncId := 146
abbrev internal_stringslite_Index : FuncId := 147
abbrev unicode_utf8_decodeRuneInStringSlow : FuncId := 148
abbrev internal_abi_NoEscape : FuncId := 149
abbrev internal_bytealg_MakeNoZero : FuncId := 150
abbrev slices_rotateCmpFunc_api_Pair : FuncId := 151
abbrev strings_IndexRune : FuncId := 152
abbrev internal_bytealg_IndexString : FuncId := 153
abbrev internal_bytealg_Cutover : FuncId := 154
abbrev internal_bytealg_IndexRabinKarp_string : FuncId := 155
abbrev slices_swapRangeCmpFunc_api_Pair : FuncId := 156
abbrev unicode_utf8_ValidRune : FuncId := 157
abbrev internal_bytealg_hashStr_string : FuncId := 158
abbrev runtime_boundsError_Error : FuncId := 159
abbrev runtime_boundsError_RuntimeError : FuncId := 160
abbrev runtime_errorString_Error : FuncId := 161
abbrev runtime_errorString_RuntimeError : FuncId := 162
abbrev runtime_plainError_Error : FuncId := 163
abbrev runtime_plainError_RuntimeError : FuncId := 164
abbrev runtime_errorAddressString_Error : FuncId := 165
abbrev runtime_errorAddressString_RuntimeError : FuncId := 166
abbrev runtime_TypeAssertionError_Error : FuncId := 167
abbrev runtime_TypeAssertionError_RuntimeError : FuncId := 168
abbrev runtime_PanicNilError_Error : FuncId := 169
abbrev runtime_PanicNilError_RuntimeError : FuncId := 170
abbrev internal_abi_Type_Align : FuncId := 171
abbrev internal_runtime_maps_unhashableTypeError_Error : FuncId := 172
abbrev internal_runtime_maps_unhashableTypeError_RuntimeError : FuncId := 173
abbrev strings_Builder_Reset : FuncId := 174
abbrev internal_abi_Kind_String : FuncId := 175
abbrev gosem_cut_vars : FuncId := 180
end F
def k_path_Place_0 : KC := (.reg [
rq 2 (.alloc [(.str []), (.int .i64 0), (.bool false)])]
  (.reg [
rq 3 (.move (.t 0)),
rq 4 (.build [(.str []), (.int .i64 0), (.bool false)] [(1, 1, (.t 3)), (2, 1, (.c (.bool true)))]),
rz (.store 3 (.t 2) (.t 4))]
  .ret))
def r_path_Place : KF where
  np := 1
  res := [.cell 2 true 3]
  code := [k_path_Place_0]
def k_text_Bad_0 : KC := (.reg [
rq 2 (.move (.c (.int .i64 0)))]
  (.seq (.reg [
rq 7 (.move (.t 0)),
rq 8 (.range (.t 7))]
  (.block 0 (.loop ⟨1, [0, 8], [[8]]⟩)))
  ⟨4, [], []⟩))
def k_text_Bad_1 : KC := (.reg [
rq 9 (.next (.t 8)),
rq 10 (.extract (.t 9) 0)]
  (.seq (.cond (.t 10)
  .skip
  (.exit 0))
  ⟨2, [0, 8, 9], [[8]]⟩))
def k_text_Bad_2 : KC := (.block 1 (.reg [
rq 11 (.extract (.t 9) 1),
rq 12 (.extract (.t 9) 2),
rq 3 (.move (.t 11)),
rq 4 (.move (.t 12))]
  (.seq (.reg [
rq 13 (.move (.t 4)),
rq 14 (.bin .neq (.t 13) (.c (.int .i32 65533)))]
  (.cond (.t 14)
  (.exit 1)
  .skip))
  ⟨3, [0, 3, 8], [[8]]⟩)))
def k_text_Bad_3 : KC := (.reg [
rq 16 (.move (.t 0)),
rq 17 (.move (.t 3)),
rq 18 (.slice 0 (.t 16) (some (.t 17)) none),
rq 19 (.call .pur F.unicode_utf8_DecodeRuneInString [(.t 18)]),
rq 15 (.move (.t 19)),
rq 20 (.extract (.t 15) 0),
rq 21 (.extract (.t 15) 1),
rq 5 (.move (.t 20)),
rq 6 (.move (.t 21))]
  (.reg [
rq 22 (.move (.t 6)),
rq 23 (.bin .eql (.t 22) (.c (.int .i64 1)))]
  (.cond (.t 23)
  (.reg [
rq 24 (.move (.t 3)),
rq 2 (.move (.t 24))]
  .ret)
  .skip)))
def k_text_Bad_4 : KC := (.reg [
rq 2 (.move (.c (.int .i64 (-1))))]
  .ret)
def r_text_Bad : KF where
  np := 1
  res := [.tmp 2]
  code := [k_text_Bad_0, k_text_Bad_1, k_text_Bad_2, k_text_Bad_3, k_text_Bad_4]
def k_text_Right_0 : KC := (.reg [
rq 2 (.move (.c (.bool false)))]
  (.reg [
rq 3 (.move (.t 0)),
rq 4 (.call .pur F.text_Bad [(.t 3)]),
rq 5 (.bin .lss (.t 4) (.c (.int .i64 0))),
rq 2 (.move (.t 5))]
  .ret))
def r_text_Right : KF where
  np := 1
  res := [.tmp 2]
  code := [k_text_Right_0]
def k_path_right_0 : KC := (.reg [
rq 1 (.ibox (.t 0)),
rq 2 (.move (.c (.bool false)))]
  (.seq (.reg [
rq 3 (.faddr 2 (.t 1)),
rq 4 (.load false 1 (.t 3))]
  (.cond (.t 4)
  (.reg [
rq 5 (.faddr 0 (.t 1)),
rq 6 (.load false 1 (.t 5)),
rq 7 (.bin .eql (.t 6) (.c (.str []))),
rq 8 (.move (.t 7)),
rqg 9 8 true (.faddr 1 (.t 1)),
rqg 10 8 true (.load false 1 (.t 9)),
rqg 11 8 true (.bin .geq (.t 10) (.c (.int .i64 0))),
rq 12 (.pick (.t 8) (.t 11) (.c (.bool false))),
rq 13 (.move (.t 12)),
rqg 14 13 true (.faddr 1 (.t 1)),
rqg 15 13 true (.load false 1 (.t 14)),
rqg 16 13 true (.bin .leq (.t 15) (.c (.int .i64 9007199254740991))),
rq 17 (.pick (.t 13) (.t 16) (.c (.bool false))),
rq 2 (.move (.t 17))]
  .ret)
  .skip))
  ⟨1, [1], []⟩))
def k_path_right_1 : KC := (.reg [
rq 18 (.faddr 1 (.t 1)),
rq 19 (.load false 1 (.t 18)),
rq 20 (.bin .eql (.t 19) (.c (.int .i64 0))),
rq 21 (.move (.t 20)),
rqg 22 21 true (.faddr 0 (.t 1)),
rqg 23 21 true (.load false 1 (.t 22)),
rqg 24 21 true (.call .pur F.text_Right [(.t 23)]),
rq 25 (.pick (.t 21) (.t 24) (.c (.bool false))),
rq 2 (.move (.t 25))]
  .ret)
def r_path_right : KF where
  np := 1
  res := [.tmp 2]
  code := [k_path_right_0, k_path_right_1]
def k_path_Right_1_0 : KC := (.reg [
rq 1 (.ibox (.t 0)),
rq 2 (.move (.c (.bool false)))]
  (.reg [
rq 3 (.load true 3 (.t 1)),
rq 4 (.call .pur F.path_right [(.t 3)]),
rq 5 (.un .not (.t 4)),
rq 2 (.move (.t 5))]
  .ret))
def r_path_Right_1 : KF where
  np := 1
  res := [.tmp 2]
  code := [k_path_Right_1_0]
def k_slices_IndexFunc__api_Step_api_Step_0 : KC := (.reg [
rq 4 (.move (.c (.int .i64 0)))]
  (.seq (.reg [
rq 6 (.move (.t 0)),
rq 7 (.len .sl (.t 6)),
rq 8 (.move (.c (.int .i64 0)))]
  (.block 0 (.loop ⟨1, [0, 1, 7, 8], []⟩)))
  ⟨4, [], []⟩))
def k_slices_IndexFunc__api_Step_api_Step_1 : KC := (.reg [
rq 9 (.bin .lss (.t 8) (.t 7))]
  (.seq (.cond (.t 9)
  .skip
  (.exit 0))
  ⟨2, [0, 1, 7, 8], []⟩))
def k_slices_IndexFunc__api_Step_api_Step_2 : KC := (.seq (.block 1 (.reg [
rq 10 (.move (.t 8)),
rq 5 (.move (.t 10))]
  (.reg [
rq 11 (.move (.t 1)),
rq 12 (.move (.t 0)),
rq 13 (.move (.t 5)),
rq 14 (.iaddr 3 (.t 12) (.t 13)),
rq 15 (.load true 3 (.t 14)),
rq 16 (.callv .pur (.t 11) [(.t 15)])]
  (.cond (.t 16)
  (.reg [
rq 17 (.move (.t 5)),
rq 4 (.move (.t 17))]
  .ret)
  .skip))))
  ⟨3, [0, 1, 7, 8], []⟩)
def k_slices_IndexFunc__api_Step_api_Step_3 : KC := (.lreg [
rq 18 (.bin .add (.t 8) (.c (.int .i64 1))),
rq 8 (.move (.t 18))])
def k_slices_IndexFunc__api_Step_api_Step_4 : KC := (.reg [
rq 4 (.move (.c (.int .i64 (-1))))]
  .ret)
def r_slices_IndexFunc__api_Step_api_Step : KF where
  np := 2
  res := [.tmp 4]
  code := [k_slices_IndexFunc__api_Step_api_Step_0, k_slices_IndexFunc__api_Step_api_Step_1, k_slices_IndexFunc__api_Step_api_Step_2, k_slices_IndexFunc__api_Step_api_Step_3, k_slices_IndexFunc__api_Step_api_Step_4]
def k_slices_ContainsFunc__api_Step_api_Step_0 : KC := (.reg [
rq 4 (.move (.c (.bool false)))]
  (.reg [
rq 5 (.move (.t 0)),
rq 6 (.move (.t 1)),
rq 7 (.call .pur F.slices_IndexFunc__api_Step_api_Step [(.t 5), (.t 6)]),
rq 8 (.bin .geq (.t 7) (.c (.int .i64 0))),
rq 4 (.move (.t 8))]
  .ret))
def r_slices_ContainsFunc__api_Step_api_Step : KF where
  np := 2
  res := [.tmp 4]
  code := [k_slices_ContainsFunc__api_Step_api_Step_0]
def k_path_Right_0 : KC := (.reg [
rq 2 (.move (.c (.bool false)))]
  (.reg [
rq 3 (.move (.t 0)),
rq 4 (.len .sl (.t 3)),
rq 5 (.bin .leq (.t 4) (.c (.int .i64 30))),
rq 6 (.move (.t 5)),
rqg 7 6 true (.move (.t 0)),
rqg 8 6 true (.call .pur F.slices_ContainsFunc__api_Step_api_Step [(.t 7), (.f F.path_Right_1)]),
rqg 9 6 true (.un .not (.t 8)),
rq 10 (.pick (.t 6) (.t 9) (.c (.bool false))),
rq 2 (.move (.t 10))]
  .ret))
def r_path_Right : KF where
  np := 1
  res := [.tmp 2]
  code := [k_path_Right_0]
def k_path_Value_0 : KC := (.reg [
rq 2 (.alloc [(.int .i64 0), (.int .i64 0), (.str []), (.sl []), (.sl [])]),
rq 3 (.move (.c (.int .i64 0)))]
  (.seq (.reg [
rq 7 (.move (.t 0)),
rq 8 (.call .pur F.path_Right [(.t 7)]),
rq 9 (.un .not (.t 8))]
  (.cond (.t 9)
  (.reg [
rq 10 (.build [(.int .i64 0), (.int .i64 0), (.str []), (.sl []), (.sl [])] []),
rz (.store 5 (.t 2) (.t 10)),
rq 3 (.move (.c (.int .i64 1)))]
  .ret)
  .skip))
  ⟨1, [0, 2], [[2]]⟩))
def k_path_Value_1 : KC := (.reg [
rq 11 (.build [(.int .i64 0), (.int .i64 0), (.str []), .nils, (.sl [])] [(0, 1, (.c (.int .i64 4)))]),
rq 4 (.alloc [(.int .i64 0), (.int .i64 0), (.str []), (.sl []), (.sl [])]),
rz (.store 5 (.t 4) (.t 11))]
  (.adj (.virt [4] 3 5 [4, 3]) (.seq (.reg [
rq 12 (.move (.t 0)),
rq 13 (.len .sl (.t 12)),
rq 14 (.move (.c (.int .i64 0)))]
  (.block 0 (.loop ⟨2, [2, 4, 12, 13, 14], [[2], [4], [4, 3]]⟩)))
  ⟨5, [2, 4], [[2], [4], [4, 3]]⟩)))
def k_path_Value_2 : KC := (.reg [
rq 15 (.bin .lss (.t 14) (.t 13))]
  (.seq (.cond (.t 15)
  .skip
  (.exit 0))
  ⟨3, [2, 4, 12, 13, 14], [[2], [4], [4, 3]]⟩))
def k_path_Value_3 : KC := (.seq (.block 1 (.reg [
rq 16 (.iaddr 3 (.t 12) (.t 14)),
rq 17 (.load true 3 (.t 16)),
rq 6 (.alloc [(.str []), (.int .i64 0), (.bool false)]),
rz (.store 3 (.t 6) (.t 17))]
  (.reg [
rq 18 (.faddr 2 (.t 6)),
rq 19 (.load false 1 (.t 18))]
  (.cond (.t 19)
  (.lreg [
rq 20 (.faddr 3 (.t 4)),
rq 21 (.load false 1 (.t 20)),
rq 22 (.faddr 1 (.t 6)),
rq 23 (.load false 1 (.t 22)),
rq 24 (.build [(.int .i64 0), (.int .i64 0), (.str []), (.sl []), (.sl [])] [(0, 1, (.c (.int .i64 2))), (1, 1, (.t 23))]),
rq 25 (.ilit 5 [(.t 24)]),
rq 26 (.app 5 80 (.t 21) (.t 25)),
rq 27 (.faddr 3 (.t 4)),
rz (.store 1 (.t 27) (.t 26))])
  (.lreg [
rq 28 (.faddr 3 (.t 4)),
rq 29 (.load false 1 (.t 28)),
rq 30 (.faddr 0 (.t 6)),
rq 31 (.load false 1 (.t 30)),
rq 32 (.build [(.int .i64 0), (.int .i64 0), (.str []), (.sl []), (.sl [])] [(0, 1, (.c (.int .i64 3))), (2, 1, (.t 31))]),
rq 33 (.ilit 5 [(.t 32)]),
rq 34 (.app 5 80 (.t 29) (.t 33)),
rq 35 (.faddr 3 (.t 4)),
rz (.store 1 (.t 35) (.t 34))])))))
  ⟨4, [2, 4, 12, 13, 14], [[2], [4], [4, 3]]⟩)
def k_path_Value_4 : KC := (.lreg [
rq 36 (.bin .add (.t 14) (.c (.int .i64 1))),
rq 14 (.move (.t 36))])
def k_path_Value_5 : KC := (.reg [
rq 37 (.load true 5 (.t 4)),
rz (.store 5 (.t 2) (.t 37)),
rq 3 (.move (.c (.int .i64 0)))]
  .ret)
def r_path_Value : KF where
  np := 1
  res := [.cell 2 true 5, .tmp 3]
  code := [k_path_Value_0, k_path_Value_1, k_path_Value_2, k_path_Value_3, k_path_Value_4, k_path_Value_5]
def k_cascadelaw06_awake_0 : KC := (.reg [
rq 0 (.move (.c (.bool false)))]
  (.reg [
rq 4 (.call .pur F.path_Place [(.c (.int .i64 3))]),
rq 5 (.ilit 3 [(.t 4)]),
rq 6 (.call .pur F.path_Value [(.t 5)]),
rq 3 (.move (.t 6)),
rq 7 (.extract (.t 3) 0),
rq 8 (.extract (.t 3) 1),
rq 1 (.alloc [(.int .i64 0), (.int .i64 0), (.str []), (.sl []), (.sl [])]),
rz (.store 5 (.t 1) (.t 7)),
rq 2 (.move (.t 8))]
  (.reg [
rq 9 (.move (.t 2)),
rq 10 (.bin .eql (.t 9) (.c (.int .i64 0))),
rq 11 (.move (.t 10)),
rqg 12 11 true (.faddr 3 (.t 1)),
rqg 13 11 true (.load false 1 (.t 12)),
rqg 14 11 true (.len .sl (.t 13)),
rqg 15 11 true (.bin .eql (.t 14) (.c (.int .i64 1))),
rq 16 (.pick (.t 11) (.t 15) (.c (.bool false))),
rq 17 (.move (.t 16)),
rqg 18 17 true (.faddr 3 (.t 1)),
rqg 19 17 true (.load false 1 (.t 18)),
rqg 20 17 true (.iaddr 5 (.t 19) (.c (.int .i64 0))),
rqg 21 17 true (.faddr 1 (.t 20)),
rqg 22 17 true (.load false 1 (.t 21)),
rqg 23 17 true (.bin .eql (.t 22) (.c (.int .i64 3))),
rq 24 (.pick (.t 17) (.t 23) (.c (.bool false))),
rq 0 (.move (.t 24))]
  .ret)))
def r_cascadelaw06_awake : KF where
  np := 0
  res := [.tmp 0]
  code := [k_cascadelaw06_awake_0]
def k_cascaderef03_few_0 : KC := (.reg [
rq 2 (.ibox (.t 0)),
rq 4 (.move (.c (.int .i64 0)))]
  (.seq (.reg [
rq 7 (.move (.t 1)),
rq 8 (.bin .lss (.t 7) (.c (.int .i64 1))),
rq 9 (.move (.t 8)),
rqg 10 9 false (.faddr 2 (.t 2)),
rqg 11 9 false (.load false 1 (.t 10)),
rqg 12 9 false (.len .str (.t 11)),
rqg 13 9 false (.bin .gtr (.t 12) (.c (.int .i64 500))),
rq 14 (.pick (.t 9) (.c (.bool true)) (.t 13))]
  (.cond (.t 14)
  (.reg [
rq 4 (.move (.c (.int .i64 (-1))))]
  .ret)
  .skip))
  ⟨1, [1, 2], []⟩))
def k_cascaderef03_few_1 : KC := (.reg [
rq 15 (.move (.t 1)),
rq 16 (.bin .sub (.t 15) (.c (.int .i64 1))),
rq 1 (.move (.t 16))]
  (.seq (.reg [
rq 5 (.move (.c (.int .i64 0)))]
  (.block 0 (.loop ⟨2, [1, 2, 5], []⟩)))
  ⟨5, [1, 2], []⟩))
def k_cascaderef03_few_2 : KC := (.seq (.reg [
rq 17 (.move (.t 5)),
rq 18 (.faddr 3 (.t 2)),
rq 19 (.load false 1 (.t 18)),
rq 20 (.len .sl (.t 19)),
rq 21 (.bin .lss (.t 17) (.t 20)),
rq 22 (.move (.t 21)),
rqg 23 22 true (.move (.t 1)),
rqg 24 22 true (.bin .geq (.t 23) (.c (.int .i64 0))),
rq 25 (.pick (.t 22) (.t 24) (.c (.bool false)))]
  (.cond (.t 25)
  .skip
  (.exit 0)))
  ⟨3, [1, 2, 5], []⟩)
def k_cascaderef03_few_3 : KC := (.seq (.block 1 (.lreg [
rq 28 (.faddr 3 (.t 2)),
rq 29 (.load false 1 (.t 28)),
rq 30 (.move (.t 5)),
rq 31 (.iaddr 5 (.t 29) (.t 30)),
rq 32 (.load true 5 (.t 31)),
rq 33 (.move (.t 1)),
rq 34 (.call .pur F.cascaderef03_few [(.t 32), (.t 33)]),
rq 1 (.move (.t 34))]))
  ⟨4, [1, 2, 5], []⟩)
def k_cascaderef03_few_4 : KC := (.lreg [
rq 26 (.move (.t 5)),
rq 27 (.bin .add (.t 26) (.c (.int .i64 1))),
rq 5 (.move (.t 27))])
def k_cascaderef03_few_5 : KC := (.seq (.reg [
rq 6 (.move (.c (.int .i64 0)))]
  (.block 2 (.loop ⟨6, [1, 2, 6], []⟩)))
  ⟨10, [1], []⟩)
def k_cascaderef03_few_6 : KC := (.seq (.reg [
rq 35 (.move (.t 6)),
rq 36 (.faddr 4 (.t 2)),
rq 37 (.load false 1 (.t 36)),
rq 38 (.len .sl (.t 37)),
rq 39 (.bin .lss (.t 35) (.t 38)),
rq 40 (.move (.t 39)),
rqg 41 40 true (.move (.t 1)),
rqg 42 40 true (.bin .geq (.t 41) (.c (.int .i64 0))),
rq 43 (.pick (.t 40) (.t 42) (.c (.bool false)))]
  (.cond (.t 43)
  .skip
  (.exit 2)))
  ⟨7, [1, 2, 6], []⟩)
def k_cascaderef03_few_7 : KC := (.seq (.block 3 (.seq (.reg [
rq 46 (.faddr 4 (.t 2)),
rq 47 (.load false 1 (.t 46)),
rq 48 (.move (.t 6)),
rq 49 (.iaddr 6 (.t 47) (.t 48)),
rq 50 (.faddr 0 (.t 49)),
rq 51 (.load false 1 (.t 50)),
rq 52 (.len .str (.t 51)),
rq 53 (.bin .gtr (.t 52) (.c (.int .i64 500)))]
  (.cond (.t 53)
  (.reg [
rq 4 (.move (.c (.int .i64 (-1))))]
  .ret)
  .skip))
  ⟨8, [1, 2, 6], []⟩))
  ⟨9, [1, 2, 6], []⟩)
def k_cascaderef03_few_8 : KC := (.lreg [
rq 54 (.faddr 4 (.t 2)),
rq 55 (.load false 1 (.t 54)),
rq 56 (.move (.t 6)),
rq 57 (.iaddr 6 (.t 55) (.t 56)),
rq 58 (.faddr 1 (.t 57)),
rq 59 (.load true 5 (.t 58)),
rq 60 (.move (.t 1)),
rq 61 (.call .pur F.cascaderef03_few [(.t 59), (.t 60)]),
rq 1 (.move (.t 61))])
def k_cascaderef03_few_9 : KC := (.lreg [
rq 44 (.move (.t 6)),
rq 45 (.bin .add (.t 44) (.c (.int .i64 1))),
rq 6 (.move (.t 45))])
def k_cascaderef03_few_10 : KC := (.reg [
rq 62 (.move (.t 1)),
rq 4 (.move (.t 62))]
  .ret)
def r_cascaderef03_few : KF where
  np := 2
  res := [.tmp 4]
  code := [k_cascaderef03_few_0, k_cascaderef03_few_1, k_cascaderef03_few_2, k_cascaderef03_few_3, k_cascaderef03_few_4, k_cascaderef03_few_5, k_cascaderef03_few_6, k_cascaderef03_few_7, k_cascaderef03_few_8, k_cascaderef03_few_9, k_cascaderef03_few_10]
def k_cascaderef03_Few_0 : KC := (.reg [
rq 2 (.ibox (.t 0)),
rq 4 (.move (.c (.bool false)))]
  (.reg [
rq 5 (.load true 5 (.t 2)),
rq 6 (.move (.t 1)),
rq 7 (.call .pur F.cascaderef03_few [(.t 5), (.t 6)]),
rq 8 (.bin .geq (.t 7) (.c (.int .i64 0))),
rq 4 (.move (.t 8))]
  .ret))
def r_cascaderef03_Few : KF where
  np := 2
  res := [.tmp 4]
  code := [k_cascaderef03_Few_0]
def k_cascaderef06_Few_0 : KC := (.reg [
rq 2 (.move (.c (.bool false)))]
  (.seq (.reg [
rq 3 (.move (.c (.int .i64 0)))]
  (.block 0 (.loop ⟨1, [0, 3], []⟩)))
  ⟨4, [0], []⟩))
def k_cascaderef06_Few_1 : KC := (.seq (.reg [
rq 4 (.move (.t 3)),
rq 5 (.move (.t 0)),
rq 6 (.len .sl (.t 5)),
rq 7 (.bin .lss (.t 4) (.t 6)),
rq 8 (.move (.t 7)),
rqg 9 8 true (.move (.t 3)),
rqg 10 8 true (.bin .lss (.t 9) (.c (.int .i64 50))),
rq 11 (.pick (.t 8) (.t 10) (.c (.bool false)))]
  (.cond (.t 11)
  .skip
  (.exit 0)))
  ⟨2, [0, 3], []⟩)
def k_cascaderef06_Few_2 : KC := (.seq (.block 1 (.reg [
rq 14 (.move (.t 0)),
rq 15 (.move (.t 3)),
rq 16 (.iaddr 3 (.t 14) (.t 15)),
rq 17 (.faddr 0 (.t 16)),
rq 18 (.load false 1 (.t 17)),
rq 19 (.len .str (.t 18)),
rq 20 (.bin .gtr (.t 19) (.c (.int .i64 200)))]
  (.cond (.t 20)
  (.reg [
rq 2 (.move (.c (.bool false)))]
  .ret)
  .skip)))
  ⟨3, [0, 3], []⟩)
def k_cascaderef06_Few_3 : KC := (.lreg [
rq 12 (.move (.t 3)),
rq 13 (.bin .add (.t 12) (.c (.int .i64 1))),
rq 3 (.move (.t 13))])
def k_cascaderef06_Few_4 : KC := (.reg [
rq 21 (.move (.t 0)),
rq 22 (.len .sl (.t 21)),
rq 23 (.bin .leq (.t 22) (.c (.int .i64 40))),
rq 2 (.move (.t 23))]
  .ret)
def r_cascaderef06_Few : KF where
  np := 1
  res := [.tmp 2]
  code := [k_cascaderef06_Few_0, k_cascaderef06_Few_1, k_cascaderef06_Few_2, k_cascaderef06_Few_3, k_cascaderef06_Few_4]
def k_tree_unused_0 : KC := (.reg [
rq 1 (.ibox (.t 0)),
rq 2 (.move (.c (.bool false)))]
  (.reg [
rq 4 (.faddr 0 (.t 1)),
rq 5 (.load false 1 (.t 4)),
rq 6 (.bin .eql (.t 5) (.c (.int .i64 1))),
rq 7 (.move (.t 6)),
rqg 8 7 false (.faddr 0 (.t 1)),
rqg 9 7 false (.load false 1 (.t 8)),
rqg 10 7 false (.bin .eql (.t 9) (.c (.int .i64 2))),
rq 11 (.pick (.t 7) (.c (.bool true)) (.t 10)),
rq 3 (.move (.t 11))]
  (.reg [
rq 12 (.move (.t 3)),
rq 13 (.move (.t 12)),
rqg 14 13 false (.faddr 1 (.t 1)),
rqg 15 13 false (.load false 1 (.t 14)),
rqg 16 13 false (.bin .eql (.t 15) (.c (.int .i64 0))),
rq 17 (.pick (.t 13) (.c (.bool true)) (.t 16)),
rq 18 (.move (.t 17)),
rqg 19 18 true (.faddr 0 (.t 1)),
rqg 20 18 true (.load false 1 (.t 19)),
rqg 21 18 true (.bin .eql (.t 20) (.c (.int .i64 3))),
rqg 22 18 true (.move (.t 21)),
rqg 23 22 false (.faddr 2 (.t 1)),
rqg 24 22 false (.load false 1 (.t 23)),
rqg 25 22 false (.bin .eql (.t 24) (.c (.str []))),
rqg 26 18 true (.pick (.t 22) (.c (.bool true)) (.t 25)),
rq 27 (.pick (.t 18) (.t 26) (.c (.bool false))),
rq 28 (.move (.t 27)),
rqg 29 28 true (.faddr 0 (.t 1)),
rqg 30 28 true (.load false 1 (.t 29)),
rqg 31 28 true (.bin .eql (.t 30) (.c (.int .i64 4))),
rqg 32 28 true (.move (.t 31)),
rqg 33 32 false (.faddr 3 (.t 1)),
rqg 34 32 false (.load false 1 (.t 33)),
rqg 35 32 false (.len .sl (.t 34)),
rqg 36 32 false (.bin .eql (.t 35) (.c (.int .i64 0))),
rqg 37 28 true (.pick (.t 32) (.c (.bool true)) (.t 36)),
rq 38 (.pick (.t 28) (.t 37) (.c (.bool false))),
rq 39 (.move (.t 38)),
rqg 40 39 true (.faddr 0 (.t 1)),
rqg 41 39 true (.load false 1 (.t 40)),
rqg 42 39 true (.bin .eql (.t 41) (.c (.int .i64 5))),
rqg 43 39 true (.move (.t 42)),
rqg 44 43 false (.faddr 4 (.t 1)),
rqg 45 43 false (.load false 1 (.t 44)),
rqg 46 43 false (.len .sl (.t 45)),
rqg 47 43 false (.bin .eql (.t 46) (.c (.int .i64 0))),
rqg 48 39 true (.pick (.t 43) (.c (.bool true)) (.t 47)),
rq 49 (.pick (.t 39) (.t 48) (.c (.bool false))),
rq 2 (.move (.t 49))]
  .ret)))
def r_tree_unused : KF where
  np := 1
  res := [.tmp 2]
  code := [k_tree_unused_0]
def k_tree_keys_0 : KC := (.reg [
rq 2 (.move (.c (.bool false)))]
  (.reg [
rq 6 .mkMap,
rq 3 (.move (.t 6))]
  (.seq (.reg [
rq 7 (.move (.t 0)),
rq 8 (.len .sl (.t 7)),
rq 9 (.move (.c (.int .i64 0)))]
  (.block 0 (.loop ⟨1, [3, 7, 8, 9], [[6]]⟩)))
  ⟨4, [], []⟩)))
def k_tree_keys_1 : KC := (.reg [
rq 10 (.bin .lss (.t 9) (.t 8))]
  (.seq (.cond (.t 10)
  .skip
  (.exit 0))
  ⟨2, [3, 7, 8, 9], [[6]]⟩))
def k_tree_keys_2 : KC := (.seq (.block 1 (.reg [
rq 11 (.iaddr 6 (.t 7) (.t 9)),
rq 12 (.load true 6 (.t 11)),
rq 5 (.alloc [(.str []), (.int .i64 0), (.int .i64 0), (.str []), (.sl []), (.sl [])]),
rz (.store 6 (.t 5) (.t 12))]
  (.reg [
rq 13 (.move (.t 3)),
rq 14 (.faddr 0 (.t 5)),
rq 15 (.load false 1 (.t 14)),
rq 16 (.lookup .str (.int .i64 0) false (.t 13) (.t 15)),
rq 17 (.bin .add (.t 16) (.c (.int .i64 1))),
rz (.mapUpd .str (.t 13) (.t 15) (.t 17))]
  (.reg [
rq 18 (.move (.t 3)),
rq 19 (.faddr 0 (.t 5)),
rq 20 (.load false 1 (.t 19)),
rq 21 (.lookup .str (.int .i64 0) false (.t 18) (.t 20)),
rq 22 (.bin .gtr (.t 21) (.c (.int .i64 1))),
rq 23 (.move (.t 22)),
rqg 24 23 false (.faddr 0 (.t 5)),
rqg 25 23 false (.load false 1 (.t 24)),
rqg 26 23 false (.call .pur F.text_Right [(.t 25)]),
rqg 27 23 false (.un .not (.t 26)),
rq 28 (.pick (.t 23) (.c (.bool true)) (.t 27))]
  (.cond (.t 28)
  (.reg [
rq 2 (.move (.c (.bool false)))]
  .ret)
  .skip)))))
  ⟨3, [3, 7, 8, 9], [[6]]⟩)
def k_tree_keys_3 : KC := (.lreg [
rq 29 (.bin .add (.t 9) (.c (.int .i64 1))),
rq 9 (.move (.t 29))])
def k_tree_keys_4 : KC := (.reg [
rq 2 (.move (.c (.bool true)))]
  .ret)
def r_tree_keys : KF where
  np := 1
  res := [.tmp 2]
  code := [k_tree_keys_0, k_tree_keys_1, k_tree_keys_2, k_tree_keys_3, k_tree_keys_4]
def k_tree_Right_1_1_0 : KC := (.reg [
rq 3 (.ibox (.t 0)),
rq 4 (.move (.c (.bool false)))]
  (.reg [
rq 5 (.load false 1 (.t 1)),
rq 6 (.load true 5 (.t 3)),
rq 7 (.load false 1 (.t 2)),
rq 8 (.bin .sub (.t 7) (.c (.int .i64 1))),
rq 9 (.callv .pur (.t 5) [(.t 6), (.t 8)]),
rq 10 (.un .not (.t 9)),
rq 4 (.move (.t 10))]
  .ret))
def r_tree_Right_1_1 : KF where
  np := 3
  res := [.tmp 4]
  code := [k_tree_Right_1_1_0]
def k_tree_Right_1_0 : KC := (.reg [
rq 3 (.ibox (.t 0)),
rq 4 (.ibox (.t 1)),
rq 5 (.move (.c (.bool false)))]
  (.seq (.reg [
rq 6 (.load false 1 (.t 4)),
rq 7 (.bin .lss (.t 6) (.c (.int .i64 1))),
rq 8 (.move (.t 7)),
rqg 9 8 false (.load true 5 (.t 3)),
rqg 10 8 false (.call .pur F.tree_unused [(.t 9)]),
rqg 11 8 false (.un .not (.t 10)),
rq 12 (.pick (.t 8) (.c (.bool true)) (.t 11))]
  (.cond (.t 12)
  (.reg [
rq 5 (.move (.c (.bool false)))]
  .ret)
  .skip))
  ⟨1, [2, 3, 4], []⟩))
def k_tree_Right_1_1 : KC := (.seq (.reg [
rq 13 (.faddr 0 (.t 3)),
rq 14 (.load false 1 (.t 13))]
  (.block 0 (.reg [
rq 16 (.bin .eql (.t 14) (.c (.int .i64 0))),
rq 15 (.move (.t 16))]
  (.cond (.t 15)
  (.reg [
rq 5 (.move (.c (.bool true)))]
  .ret)
  (.reg [
rq 18 (.bin .eql (.t 14) (.c (.int .i64 1))),
rq 17 (.move (.t 18))]
  (.cond (.t 17)
  (.reg [
rq 19 (.faddr 1 (.t 3)),
rq 20 (.load false 1 (.t 19)),
rq 21 (.bin .eql (.t 20) (.c (.int .i64 0))),
rq 22 (.move (.t 21)),
rqg 23 22 false (.faddr 1 (.t 3)),
rqg 24 22 false (.load false 1 (.t 23)),
rqg 25 22 false (.bin .eql (.t 24) (.c (.int .i64 1))),
rq 26 (.pick (.t 22) (.c (.bool true)) (.t 25)),
rq 5 (.move (.t 26))]
  .ret)
  (.reg [
rq 28 (.bin .eql (.t 14) (.c (.int .i64 2))),
rq 27 (.move (.t 28))]
  (.cond (.t 27)
  (.reg [
rq 29 (.faddr 1 (.t 3)),
rq 30 (.load false 1 (.t 29)),
rq 31 (.bin .geq (.t 30) (.c (.int .i64 (-9007199254740991)))),
rq 32 (.move (.t 31)),
rqg 33 32 true (.faddr 1 (.t 3)),
rqg 34 32 true (.load false 1 (.t 33)),
rqg 35 32 true (.bin .leq (.t 34) (.c (.int .i64 9007199254740991))),
rq 36 (.pick (.t 32) (.t 35) (.c (.bool false))),
rq 5 (.move (.t 36))]
  .ret)
  (.reg [
rq 38 (.bin .eql (.t 14) (.c (.int .i64 3))),
rq 37 (.move (.t 38))]
  (.cond (.t 37)
  (.reg [
rq 39 (.faddr 2 (.t 3)),
rq 40 (.load false 1 (.t 39)),
rq 41 (.call .pur F.text_Right [(.t 40)]),
rq 5 (.move (.t 41))]
  .ret)
  (.reg [
rq 43 (.bin .eql (.t 14) (.c (.int .i64 4))),
rq 42 (.move (.t 43))]
  (.cond (.t 42)
  (.reg [
rq 44 (.faddr 3 (.t 3)),
rq 45 (.load false 1 (.t 44)),
rq 46 (.mkF (.func F.tree_Right_1_1) [] [(.t 2), (.t 4)]),
rq 47 (.call .pur F.slices_ContainsFunc__api_Value_api_Value [(.t 45), (.t 46)]),
rq 48 (.un .not (.t 47)),
rq 5 (.move (.t 48))]
  .ret)
  (.reg [
rq 50 (.bin .eql (.t 14) (.c (.int .i64 5))),
rq 49 (.move (.t 50))]
  (.cond (.t 49)
  (.reg [
rq 51 (.faddr 4 (.t 3)),
rq 52 (.load false 1 (.t 51)),
rq 53 (.call .pur F.tree_keys [(.t 52)]),
rq 54 (.move (.t 53)),
rqg 55 54 true (.faddr 4 (.t 3)),
rqg 56 54 true (.load false 1 (.t 55)),
rqg 57 54 true (.mkF (.func F.tree_Right_1_2) [] [(.t 2), (.t 4)]),
rqg 58 54 true (.call .pur F.slices_ContainsFunc__api_Pair_api_Pair [(.t 56), (.t 57)]),
rqg 59 54 true (.un .not (.t 58)),
rq 60 (.pick (.t 54) (.t 59) (.c (.bool false))),
rq 5 (.move (.t 60))]
  .ret)
  .skip))))))))))))))
  ⟨2, [], []⟩)
def k_tree_Right_1_2 : KC := (.reg [
rq 5 (.move (.c (.bool false)))]
  .ret)
def r_tree_Right_1 : KF where
  np := 3
  res := [.tmp 5]
  code := [k_tree_Right_1_0, k_tree_Right_1_1, k_tree_Right_1_2]
def k_slices_ContainsFunc__api_Value_api_Value_0 : KC := (.reg [
rq 4 (.move (.c (.bool false)))]
  (.reg [
rq 5 (.move (.t 0)),
rq 6 (.move (.t 1)),
rq 7 (.call .pur F.slices_IndexFunc__api_Value_api_Value [(.t 5), (.t 6)]),
rq 8 (.bin .geq (.t 7) (.c (.int .i64 0))),
rq 4 (.move (.t 8))]
  .ret))
def r_slices_ContainsFunc__api_Value_api_Value : KF where
  np := 2
  res := [.tmp 4]
  code := [k_slices_ContainsFunc__api_Value_api_Value_0]
def k_slices_IndexFunc__api_Value_api_Value_0 : KC := (.reg [
rq 4 (.move (.c (.int .i64 0)))]
  (.seq (.reg [
rq 6 (.move (.t 0)),
rq 7 (.len .sl (.t 6)),
rq 8 (.move (.c (.int .i64 0)))]
  (.block 0 (.loop ⟨1, [0, 1, 7, 8], []⟩)))
  ⟨4, [], []⟩))
def k_slices_IndexFunc__api_Value_api_Value_1 : KC := (.reg [
rq 9 (.bin .lss (.t 8) (.t 7))]
  (.seq (.cond (.t 9)
  .skip
  (.exit 0))
  ⟨2, [0, 1, 7, 8], []⟩))
def k_slices_IndexFunc__api_Value_api_Value_2 : KC := (.seq (.block 1 (.reg [
rq 10 (.move (.t 8)),
rq 5 (.move (.t 10))]
  (.reg [
rq 11 (.move (.t 1)),
rq 12 (.move (.t 0)),
rq 13 (.move (.t 5)),
rq 14 (.iaddr 5 (.t 12) (.t 13)),
rq 15 (.load true 5 (.t 14)),
rq 16 (.callv .pur (.t 11) [(.t 15)])]
  (.cond (.t 16)
  (.reg [
rq 17 (.move (.t 5)),
rq 4 (.move (.t 17))]
  .ret)
  .skip))))
  ⟨3, [0, 1, 7, 8], []⟩)
def k_slices_IndexFunc__api_Value_api_Value_3 : KC := (.lreg [
rq 18 (.bin .add (.t 8) (.c (.int .i64 1))),
rq 8 (.move (.t 18))])
def k_slices_IndexFunc__api_Value_api_Value_4 : KC := (.reg [
rq 4 (.move (.c (.int .i64 (-1))))]
  .ret)
def r_slices_IndexFunc__api_Value_api_Value : KF where
  np := 2
  res := [.tmp 4]
  code := [k_slices_IndexFunc__api_Value_api_Value_0, k_slices_IndexFunc__api_Value_api_Value_1, k_slices_IndexFunc__api_Value_api_Value_2, k_slices_IndexFunc__api_Value_api_Value_3, k_slices_IndexFunc__api_Value_api_Value_4]
def k_slices_ContainsFunc__api_Pair_api_Pair_0 : KC := (.reg [
rq 4 (.move (.c (.bool false)))]
  (.reg [
rq 5 (.move (.t 0)),
rq 6 (.move (.t 1)),
rq 7 (.call .pur F.slices_IndexFunc__api_Pair_api_Pair [(.t 5), (.t 6)]),
rq 8 (.bin .geq (.t 7) (.c (.int .i64 0))),
rq 4 (.move (.t 8))]
  .ret))
def r_slices_ContainsFunc__api_Pair_api_Pair : KF where
  np := 2
  res := [.tmp 4]
  code := [k_slices_ContainsFunc__api_Pair_api_Pair_0]
def k_slices_IndexFunc__api_Pair_api_Pair_0 : KC := (.reg [
rq 4 (.move (.c (.int .i64 0)))]
  (.seq (.reg [
rq 6 (.move (.t 0)),
rq 7 (.len .sl (.t 6)),
rq 8 (.move (.c (.int .i64 0)))]
  (.block 0 (.loop ⟨1, [0, 1, 7, 8], []⟩)))
  ⟨4, [], []⟩))
def k_slices_IndexFunc__api_Pair_api_Pair_1 : KC := (.reg [
rq 9 (.bin .lss (.t 8) (.t 7))]
  (.seq (.cond (.t 9)
  .skip
  (.exit 0))
  ⟨2, [0, 1, 7, 8], []⟩))
def k_slices_IndexFunc__api_Pair_api_Pair_2 : KC := (.seq (.block 1 (.reg [
rq 10 (.move (.t 8)),
rq 5 (.move (.t 10))]
  (.reg [
rq 11 (.move (.t 1)),
rq 12 (.move (.t 0)),
rq 13 (.move (.t 5)),
rq 14 (.iaddr 6 (.t 12) (.t 13)),
rq 15 (.load true 6 (.t 14)),
rq 16 (.callv .pur (.t 11) [(.t 15)])]
  (.cond (.t 16)
  (.reg [
rq 17 (.move (.t 5)),
rq 4 (.move (.t 17))]
  .ret)
  .skip))))
  ⟨3, [0, 1, 7, 8], []⟩)
def k_slices_IndexFunc__api_Pair_api_Pair_3 : KC := (.lreg [
rq 18 (.bin .add (.t 8) (.c (.int .i64 1))),
rq 8 (.move (.t 18))])
def k_slices_IndexFunc__api_Pair_api_Pair_4 : KC := (.reg [
rq 4 (.move (.c (.int .i64 (-1))))]
  .ret)
def r_slices_IndexFunc__api_Pair_api_Pair : KF where
  np := 2
  res := [.tmp 4]
  code := [k_slices_IndexFunc__api_Pair_api_Pair_0, k_slices_IndexFunc__api_Pair_api_Pair_1, k_slices_IndexFunc__api_Pair_api_Pair_2, k_slices_IndexFunc__api_Pair_api_Pair_3, k_slices_IndexFunc__api_Pair_api_Pair_4]
def k_tree_Right_1_2_0 : KC := (.reg [
rq 3 (.ibox (.t 0)),
rq 4 (.move (.c (.bool false)))]
  (.reg [
rq 5 (.load false 1 (.t 1)),
rq 6 (.faddr 1 (.t 3)),
rq 7 (.load true 5 (.t 6)),
rq 8 (.load false 1 (.t 2)),
rq 9 (.bin .sub (.t 8) (.c (.int .i64 1))),
rq 10 (.callv .pur (.t 5) [(.t 7), (.t 9)]),
rq 11 (.un .not (.t 10)),
rq 4 (.move (.t 11))]
  .ret))
def r_tree_Right_1_2 : KF where
  np := 3
  res := [.tmp 4]
  code := [k_tree_Right_1_2_0]
def k_tree_Right_0 : KC := (.reg [
rq 1 (.ibox (.t 0)),
rq 2 (.move (.c (.bool false)))]
  (.reg [
rq 3 (.alloc [.nilf])]
  (.reg [
rq 4 (.mkF (.func F.tree_Right_1) [] [(.t 3)]),
rz (.store 1 (.t 3) (.t 4))]
  (.reg [
rq 5 (.load false 1 (.t 3)),
rq 6 (.load true 5 (.t 1)),
rq 7 (.callv .pur (.t 5) [(.t 6), (.c (.int .i64 12))]),
rq 2 (.move (.t 7))]
  .ret))))
def r_tree_Right : KF where
  np := 1
  res := [.tmp 2]
  code := [k_tree_Right_0]
def k_path_Put_1_0 : KC := (.reg [
rq 2 (.ibox (.t 0)),
rq 3 (.alloc [(.int .i64 0), (.int .i64 0), (.str []), (.sl []), (.sl [])]),
rq 4 (.move (.c (.int .i64 0)))]
  (.reg [
rq 5 (.load true 5 (.t 1)),
rz (.store 5 (.t 3) (.t 5)),
rq 4 (.move (.c (.int .i64 0)))]
  .ret))
def r_path_Put_1 : KF where
  np := 2
  res := [.cell 3 true 5, .tmp 4]
  code := [k_path_Put_1_0]
def k_slices_Clone__api_Value_api_Value_0 : KC := (.reg [
rq 2 (.move (.c (.sl [])))]
  (.seq (.reg [
rq 3 (.move (.t 0)),
rq 4 (.eq false .slice (.t 3) (.c .nils))]
  (.cond (.t 4)
  (.reg [
rq 2 (.move (.c (.sl [])))]
  .ret)
  .skip))
  ⟨1, [0], []⟩))
def k_slices_Clone__api_Value_api_Value_1 : KC := (.reg [
rq 5 (.lit 5 []),
rq 6 (.move (.t 0)),
rq 7 (.app 5 80 (.t 5) (.t 6)),
rq 2 (.move (.t 7))]
  .ret)
def r_slices_Clone__api_Value_api_Value : KF where
  np := 1
  res := [.tmp 2]
  code := [k_slices_Clone__api_Value_api_Value_0, k_slices_Clone__api_Value_api_Value_1]
def k_path_at_1_0 : KC := (.reg [
rq 2 (.ibox (.t 0)),
rq 3 (.move (.c (.bool false)))]
  (.reg [
rq 4 (.faddr 0 (.t 2)),
rq 5 (.load false 1 (.t 4)),
rq 6 (.faddr 0 (.t 1)),
rq 7 (.load false 1 (.t 6)),
rq 8 (.bin .eql (.t 5) (.t 7)),
rq 3 (.move (.t 8))]
  .ret))
def r_path_at_1 : KF where
  np := 2
  res := [.tmp 3]
  code := [k_path_at_1_0]
def k_slices_Clone__api_Pair_api_Pair_0 : KC := (.reg [
rq 2 (.move (.c (.sl [])))]
  (.seq (.reg [
rq 3 (.move (.t 0)),
rq 4 (.eq false .slice (.t 3) (.c .nils))]
  (.cond (.t 4)
  (.reg [
rq 2 (.move (.c (.sl [])))]
  .ret)
  .skip))
  ⟨1, [0], []⟩))
def k_slices_Clone__api_Pair_api_Pair_1 : KC := (.reg [
rq 5 (.lit 6 []),
rq 6 (.move (.t 0)),
rq 7 (.app 6 96 (.t 5) (.t 6)),
rq 2 (.move (.t 7))]
  .ret)
def r_slices_Clone__api_Pair_api_Pair : KF where
  np := 1
  res := [.tmp 2]
  code := [k_slices_Clone__api_Pair_api_Pair_0, k_slices_Clone__api_Pair_api_Pair_1]
def k_path_at_0 : KC := (.reg [
rq 3 (.box (.t 0)),
rq 6 (.alloc [(.int .i64 0), (.int .i64 0), (.str []), (.sl []), (.sl [])]),
rq 7 (.move (.c (.int .i64 0)))]
  (.seq (.reg [
rq 11 (.move (.t 1)),
rq 12 (.len .sl (.t 11)),
rq 13 (.bin .eql (.t 12) (.c (.int .i64 0)))]
  (.cond (.t 13)
  (.reg [
rq 14 (.move (.t 2)),
rq 15 (.load true 5 (.t 3)),
rq 16 (.callv .eff (.t 14) [(.t 15)]),
rq 17 (.extract (.t 16) 0),
rq 18 (.extract (.t 16) 1),
rz (.store 5 (.t 6) (.t 17)),
rq 7 (.move (.t 18))]
  .ret)
  .skip))
  ⟨1, [1, 2, 3, 6], [[3], [6]]⟩))
def k_path_at_1 : KC := (.reg [
rq 19 (.move (.t 1)),
rq 20 (.iaddr 3 (.t 19) (.c (.int .i64 0))),
rq 21 (.load true 3 (.t 20)),
rq 8 (.alloc [(.str []), (.int .i64 0), (.bool false)]),
rz (.store 3 (.t 8) (.t 21))]
  (.reg [
rq 9 (.move (.c (.int .i64 0)))]
  (.seq (.block 0 (.reg [
rq 23 (.faddr 2 (.t 8)),
rq 24 (.load false 1 (.t 23)),
rq 25 (.move (.t 24)),
rqg 26 25 true (.faddr 0 (.t 3)),
rqg 27 25 true (.load false 1 (.t 26)),
rqg 28 25 true (.bin .eql (.t 27) (.c (.int .i64 4))),
rq 29 (.pick (.t 25) (.t 28) (.c (.bool false))),
rq 30 (.move (.t 29)),
rqg 31 30 true (.faddr 1 (.t 8)),
rqg 32 30 true (.load false 1 (.t 31)),
rqg 33 30 true (.faddr 3 (.t 3)),
rqg 34 30 true (.load false 1 (.t 33)),
rqg 35 30 true (.len .sl (.t 34)),
rqg 36 30 true (.bin .lss (.t 32) (.t 35)),
rq 37 (.pick (.t 30) (.t 36) (.c (.bool false))),
rq 22 (.move (.t 37))]
  (.cond (.t 22)
  (.reg [
rq 38 (.faddr 3 (.t 3)),
rq 39 (.load false 1 (.t 38)),
rq 40 (.call (.own [[5]]) F.slices_Clone__api_Value_api_Value [(.t 39)]),
rq 41 (.faddr 3 (.t 3)),
rz (.store 1 (.t 41) (.t 40))]
  (.dreg [
rq 43 (.faddr 3 (.t 3)),
rq 44 (.load false 1 (.t 43)),
rq 45 (.faddr 1 (.t 8)),
rq 46 (.load false 1 (.t 45)),
rq 47 (.faddr 3 (.t 3)),
rq 48 (.load false 1 (.t 47)),
rq 49 (.faddr 1 (.t 8)),
rq 50 (.load false 1 (.t 49)),
rq 51 (.iaddr 5 (.t 48) (.t 50)),
rq 52 (.load true 5 (.t 51)),
rq 53 (.move (.t 1)),
rq 54 (.slice 3 (.t 53) (some (.c (.int .i64 1))) none),
rq 55 (.move (.t 2)),
rq 56 (.call .eff F.path_at [(.t 52), (.t 54), (.t 55)]),
rq 42 (.move (.t 56)),
rq 57 (.extract (.t 42) 0),
rq 58 (.extract (.t 42) 1),
rq 59 (.iaddr 5 (.t 44) (.t 46))] [
rz (.store 5 (.t 59) (.t 57)),
rq 9 (.move (.t 58))]
  (.reg [
rq 60 (.load true 5 (.t 3)),
rq 61 (.move (.t 9)),
rz (.store 5 (.t 6) (.t 60)),
rq 7 (.move (.t 61))]
  .ret)))
  (.reg [
rq 63 (.faddr 2 (.t 8)),
rq 64 (.load false 1 (.t 63)),
rq 65 (.un .not (.t 64)),
rq 66 (.move (.t 65)),
rqg 67 66 true (.faddr 0 (.t 3)),
rqg 68 66 true (.load false 1 (.t 67)),
rqg 69 66 true (.bin .eql (.t 68) (.c (.int .i64 5))),
rq 70 (.pick (.t 66) (.t 69) (.c (.bool false))),
rq 62 (.move (.t 70))]
  (.cond (.t 62)
  (.reg [
rq 71 (.faddr 4 (.t 3)),
rq 72 (.load false 1 (.t 71)),
rq 73 (.mkF (.func F.path_at_1) [] [(.t 8)]),
rq 74 (.call .pur F.slices_IndexFunc__api_Pair_api_Pair [(.t 72), (.t 73)]),
rq 10 (.move (.t 74))]
  (.reg [
rq 75 (.move (.t 10)),
rq 76 (.bin .geq (.t 75) (.c (.int .i64 0)))]
  (.cond (.t 76)
  (.reg [
rq 77 (.faddr 4 (.t 3)),
rq 78 (.load false 1 (.t 77)),
rq 79 (.call (.own [[5]]) F.slices_Clone__api_Pair_api_Pair [(.t 78)]),
rq 80 (.faddr 4 (.t 3)),
rz (.store 1 (.t 80) (.t 79))]
  (.dreg [
rq 82 (.faddr 4 (.t 3)),
rq 83 (.load false 1 (.t 82)),
rq 84 (.move (.t 10)),
rq 85 (.faddr 4 (.t 3)),
rq 86 (.load false 1 (.t 85)),
rq 87 (.move (.t 10)),
rq 88 (.iaddr 6 (.t 86) (.t 87)),
rq 89 (.faddr 1 (.t 88)),
rq 90 (.load true 5 (.t 89)),
rq 91 (.move (.t 1)),
rq 92 (.slice 3 (.t 91) (some (.c (.int .i64 1))) none),
rq 93 (.move (.t 2)),
rq 94 (.call .eff F.path_at [(.t 90), (.t 92), (.t 93)]),
rq 81 (.move (.t 94)),
rq 95 (.extract (.t 81) 0),
rq 96 (.extract (.t 81) 1),
rq 97 (.iaddr 6 (.t 83) (.t 84)),
rq 98 (.faddr 1 (.t 97))] [
rz (.store 5 (.t 98) (.t 95)),
rq 9 (.move (.t 96))]
  (.reg [
rq 99 (.load true 5 (.t 3)),
rq 100 (.move (.t 9)),
rz (.store 5 (.t 6) (.t 99)),
rq 7 (.move (.t 100))]
  .ret)))
  .skip)))
  .skip)))))
  ⟨2, [6], [[6]]⟩)))
def k_path_at_2 : KC := (.reg [
rq 101 (.build [(.int .i64 0), (.int .i64 0), (.str []), (.sl []), (.sl [])] []),
rz (.store 5 (.t 6) (.t 101)),
rq 7 (.move (.c (.int .i64 8)))]
  .ret)
def r_path_at : KF where
  np := 3
  res := [.cell 6 true 5, .tmp 7]
  code := [k_path_at_0, k_path_at_1, k_path_at_2]
def k_tree_clone_0 : KC := (.reg [
rq 1 (.ibox (.t 0)),
rq 2 (.alloc [(.int .i64 0), (.int .i64 0), (.str []), (.sl []), (.sl [])])]
  (.reg [
rq 8 (.faddr 0 (.t 1)),
rq 9 (.load false 1 (.t 8)),
rq 10 (.faddr 1 (.t 1)),
rq 11 (.load false 1 (.t 10)),
rq 12 (.faddr 2 (.t 1)),
rq 13 (.load false 1 (.t 12)),
rq 14 (.build [(.int .i64 0), (.int .i64 0), (.str []), .nils, .nils] [(0, 1, (.t 9)), (1, 1, (.t 11)), (2, 1, (.t 13))]),
rq 3 (.alloc [(.int .i64 0), (.int .i64 0), (.str []), (.sl []), (.sl [])]),
rz (.store 5 (.t 3) (.t 14))]
  (.adj (.virt [3] 3 5 [3, 3]) (.adj (.virt [3] 4 6 [3, 4]) (.seq (.reg [
rq 15 (.faddr 3 (.t 1)),
rq 16 (.load false 1 (.t 15)),
rq 17 (.len .sl (.t 16)),
rq 18 (.move (.c (.int .i64 0)))]
  (.block 0 (.loop ⟨1, [1, 2, 3, 16, 17, 18], [[2], [3], [3, 3], [3, 4]]⟩)))
  ⟨4, [1, 2, 3], [[2], [3], [3, 3], [3, 4]]⟩)))))
def k_tree_clone_1 : KC := (.reg [
rq 19 (.bin .lss (.t 18) (.t 17))]
  (.seq (.cond (.t 19)
  .skip
  (.exit 0))
  ⟨2, [1, 2, 3, 16, 17, 18], [[2], [3], [3, 3], [3, 4]]⟩))
def k_tree_clone_2 : KC := (.seq (.block 1 (.reg [
rq 20 (.iaddr 5 (.t 16) (.t 18)),
rq 21 (.load true 5 (.t 20)),
rq 5 (.alloc [(.int .i64 0), (.int .i64 0), (.str []), (.sl []), (.sl [])]),
rz (.store 5 (.t 5) (.t 21))]
  (.ldreg [
rq 22 (.faddr 3 (.t 3)),
rq 23 (.load false 1 (.t 22)),
rq 24 (.load true 5 (.t 5)),
rq 25 (.call .pur F.tree_clone [(.t 24)]),
rq 26 (.ilit 5 [(.t 25)])] [
rq 27 (.app 5 80 (.t 23) (.t 26)),
rq 28 (.faddr 3 (.t 3)),
rz (.store 1 (.t 28) (.t 27))])))
  ⟨3, [1, 2, 3, 16, 17, 18], [[2], [3], [3, 3], [3, 4]]⟩)
def k_tree_clone_3 : KC := (.lreg [
rq 29 (.bin .add (.t 18) (.c (.int .i64 1))),
rq 18 (.move (.t 29))])
def k_tree_clone_4 : KC := (.seq (.reg [
rq 30 (.faddr 4 (.t 1)),
rq 31 (.load false 1 (.t 30)),
rq 32 (.len .sl (.t 31)),
rq 33 (.move (.c (.int .i64 0)))]
  (.block 2 (.loop ⟨5, [2, 3, 31, 32, 33], [[2], [3], [3, 3], [3, 4]]⟩)))
  ⟨8, [2, 3], [[2], [3], [3, 3], [3, 4]]⟩)
def k_tree_clone_5 : KC := (.reg [
rq 34 (.bin .lss (.t 33) (.t 32))]
  (.seq (.cond (.t 34)
  .skip
  (.exit 2))
  ⟨6, [2, 3, 31, 32, 33], [[2], [3], [3, 3], [3, 4]]⟩))
def k_tree_clone_6 : KC := (.seq (.block 3 (.reg [
rq 35 (.iaddr 6 (.t 31) (.t 33)),
rq 36 (.load true 6 (.t 35)),
rq 7 (.alloc [(.str []), (.int .i64 0), (.int .i64 0), (.str []), (.sl []), (.sl [])]),
rz (.store 6 (.t 7) (.t 36))]
  (.ldreg [
rq 37 (.faddr 4 (.t 3)),
rq 38 (.load false 1 (.t 37)),
rq 39 (.faddr 0 (.t 7)),
rq 40 (.load false 1 (.t 39)),
rq 41 (.faddr 1 (.t 7)),
rq 42 (.load true 5 (.t 41)),
rq 43 (.call .pur F.tree_clone [(.t 42)]),
rq 44 (.build [(.str []), (.int .i64 0), (.int .i64 0), (.str []), (.sl []), (.sl [])] [(0, 1, (.t 40)), (1, 5, (.t 43))]),
rq 45 (.ilit 6 [(.t 44)])] [
rq 46 (.app 6 96 (.t 38) (.t 45)),
rq 47 (.faddr 4 (.t 3)),
rz (.store 1 (.t 47) (.t 46))])))
  ⟨7, [2, 3, 31, 32, 33], [[2], [3], [3, 3], [3, 4]]⟩)
def k_tree_clone_7 : KC := (.lreg [
rq 48 (.bin .add (.t 33) (.c (.int .i64 1))),
rq 33 (.move (.t 48))])
def k_tree_clone_8 : KC := (.reg [
rq 49 (.load true 5 (.t 3)),
rz (.store 5 (.t 2) (.t 49))]
  .ret)
def r_tree_clone : KF where
  np := 1
  res := [.cell 2 true 5]
  code := [k_tree_clone_0, k_tree_clone_1, k_tree_clone_2, k_tree_clone_3, k_tree_clone_4, k_tree_clone_5, k_tree_clone_6, k_tree_clone_7, k_tree_clone_8]
def k_tree_Clone_0 : KC := (.reg [
rq 1 (.ibox (.t 0)),
rq 2 (.alloc [(.int .i64 0), (.int .i64 0), (.str []), (.sl []), (.sl [])])]
  (.seq (.reg [
rq 3 (.load true 5 (.t 1)),
rq 4 (.call .pur F.tree_Right [(.t 3)]),
rq 5 (.un .not (.t 4))]
  (.cond (.t 5)
  (.reg [
rq 6 (.build [(.int .i64 0), (.int .i64 0), (.str []), (.sl []), (.sl [])] []),
rz (.store 5 (.t 2) (.t 6))]
  .ret)
  .skip))
  ⟨1, [1, 2], [[2]]⟩))
def k_tree_Clone_1 : KC := (.reg [
rq 7 (.load true 5 (.t 1)),
rq 8 (.call .pur F.tree_clone [(.t 7)]),
rz (.store 5 (.t 2) (.t 8))]
  .ret)
def r_tree_Clone : KF where
  np := 1
  res := [.cell 2 true 5]
  code := [k_tree_Clone_0, k_tree_Clone_1]
def k_path_changed_0 : KC := (.reg [
rq 3 (.ibox (.t 0)),
rq 6 (.alloc [(.int .i64 0), (.int .i64 0), (.str []), (.sl []), (.sl [])]),
rq 7 (.move (.c (.int .i64 0)))]
  (.reg [
rq 11 (.load true 5 (.t 3)),
rq 12 (.move (.t 1)),
rq 13 (.move (.t 2)),
rq 14 (.call .pur F.path_at [(.t 11), (.t 12), (.t 13)]),
rq 10 (.move (.t 14)),
rq 15 (.extract (.t 10) 0),
rq 16 (.extract (.t 10) 1),
rq 8 (.alloc [(.int .i64 0), (.int .i64 0), (.str []), (.sl []), (.sl [])]),
rz (.store 5 (.t 8) (.t 15)),
rq 9 (.move (.t 16))]
  (.seq (.block 0 (.reg [
rq 18 (.move (.t 9)),
rq 19 (.bin .neq (.t 18) (.c (.int .i64 0))),
rq 17 (.move (.t 19))]
  (.cond (.t 17)
  (.reg [
rq 20 (.build [(.int .i64 0), (.int .i64 0), (.str []), (.sl []), (.sl [])] []),
rq 21 (.move (.t 9)),
rz (.store 5 (.t 6) (.t 20)),
rq 7 (.move (.t 21))]
  .ret)
  (.reg [
rq 23 (.load true 5 (.t 8)),
rq 24 (.call .pur F.tree_Right [(.t 23)]),
rq 25 (.un .not (.t 24)),
rq 22 (.move (.t 25))]
  (.cond (.t 22)
  (.reg [
rq 26 (.build [(.int .i64 0), (.int .i64 0), (.str []), (.sl []), (.sl [])] []),
rz (.store 5 (.t 6) (.t 26)),
rq 7 (.move (.c (.int .i64 5)))]
  .ret)
  .skip)))))
  ⟨1, [6, 8], [[6], [8]]⟩)))
def k_path_changed_1 : KC := (.reg [
rq 27 (.load true 5 (.t 8)),
rq 28 (.call .pur F.tree_Clone [(.t 27)]),
rz (.store 5 (.t 6) (.t 28)),
rq 7 (.move (.c (.int .i64 0)))]
  .ret)
def r_path_changed : KF where
  np := 3
  res := [.cell 6 true 5, .tmp 7]
  code := [k_path_changed_0, k_path_changed_1]
def k_path_Put_0 : KC := (.reg [
rq 3 (.ibox (.t 0)),
rq 5 (.ibox (.t 2)),
rq 6 (.alloc [(.int .i64 0), (.int .i64 0), (.str []), (.sl []), (.sl [])]),
rq 7 (.move (.c (.int .i64 0)))]
  (.seq (.reg [
rq 8 (.load true 5 (.t 3)),
rq 9 (.call .pur F.tree_Right [(.t 8)]),
rq 10 (.un .not (.t 9)),
rq 11 (.move (.t 10)),
rqg 12 11 false (.move (.t 1)),
rqg 13 11 false (.call .pur F.path_Right [(.t 12)]),
rqg 14 11 false (.un .not (.t 13)),
rq 15 (.pick (.t 11) (.c (.bool true)) (.t 14)),
rq 16 (.move (.t 15)),
rqg 17 16 false (.load true 5 (.t 5)),
rqg 18 16 false (.call .pur F.tree_Right [(.t 17)]),
rqg 19 16 false (.un .not (.t 18)),
rq 20 (.pick (.t 16) (.c (.bool true)) (.t 19))]
  (.cond (.t 20)
  (.reg [
rq 21 (.build [(.int .i64 0), (.int .i64 0), (.str []), (.sl []), (.sl [])] []),
rz (.store 5 (.t 6) (.t 21)),
rq 7 (.move (.c (.int .i64 1)))]
  .ret)
  .skip))
  ⟨1, [1, 3, 5, 6], [[6]]⟩))
def k_path_Put_1 : KC := (.reg [
rq 22 (.load true 5 (.t 3)),
rq 23 (.move (.t 1)),
rq 24 (.mkF (.func F.path_Put_1) [] [(.t 5)]),
rq 25 (.call .pur F.path_changed [(.t 22), (.t 23), (.t 24)]),
rq 26 (.extract (.t 25) 0),
rq 27 (.extract (.t 25) 1),
rz (.store 5 (.t 6) (.t 26)),
rq 7 (.move (.t 27))]
  .ret)
def r_path_Put : KF where
  np := 3
  res := [.cell 6 true 5, .tmp 7]
  code := [k_path_Put_0, k_path_Put_1]
def k_cascaderef03_Same_0 : KC := (.reg [
rq 2 (.ibox (.t 0)),
rq 3 (.ibox (.t 1)),
rq 4 (.move (.c (.bool false)))]
  (.seq (.reg [
rq 7 (.faddr 0 (.t 2)),
rq 8 (.load false 1 (.t 7)),
rq 9 (.faddr 0 (.t 3)),
rq 10 (.load false 1 (.t 9)),
rq 11 (.bin .neq (.t 8) (.t 10)),
rq 12 (.move (.t 11)),
rqg 13 12 false (.faddr 1 (.t 2)),
rqg 14 12 false (.load false 1 (.t 13)),
rqg 15 12 false (.faddr 1 (.t 3)),
rqg 16 12 false (.load false 1 (.t 15)),
rqg 17 12 false (.bin .neq (.t 14) (.t 16)),
rq 18 (.pick (.t 12) (.c (.bool true)) (.t 17)),
rq 19 (.move (.t 18)),
rqg 20 19 false (.faddr 2 (.t 2)),
rqg 21 19 false (.load false 1 (.t 20)),
rqg 22 19 false (.faddr 2 (.t 3)),
rqg 23 19 false (.load false 1 (.t 22)),
rqg 24 19 false (.bin .neq (.t 21) (.t 23)),
rq 25 (.pick (.t 19) (.c (.bool true)) (.t 24)),
rq 26 (.move (.t 25)),
rqg 27 26 false (.faddr 3 (.t 2)),
rqg 28 26 false (.load false 1 (.t 27)),
rqg 29 26 false (.len .sl (.t 28)),
rqg 30 26 false (.faddr 3 (.t 3)),
rqg 31 26 false (.load false 1 (.t 30)),
rqg 32 26 false (.len .sl (.t 31)),
rqg 33 26 false (.bin .neq (.t 29) (.t 32)),
rq 34 (.pick (.t 26) (.c (.bool true)) (.t 33)),
rq 35 (.move (.t 34)),
rqg 36 35 false (.faddr 4 (.t 2)),
rqg 37 35 false (.load false 1 (.t 36)),
rqg 38 35 false (.len .sl (.t 37)),
rqg 39 35 false (.faddr 4 (.t 3)),
rqg 40 35 false (.load false 1 (.t 39)),
rqg 41 35 false (.len .sl (.t 40)),
rqg 42 35 false (.bin .neq (.t 38) (.t 41)),
rq 43 (.pick (.t 35) (.c (.bool true)) (.t 42))]
  (.cond (.t 43)
  (.reg [
rq 4 (.move (.c (.bool false)))]
  .ret)
  .skip))
  ⟨1, [2, 3], []⟩))
def k_cascaderef03_Same_1 : KC := (.seq (.reg [
rq 5 (.move (.c (.int .i64 0)))]
  (.block 0 (.loop ⟨2, [2, 3, 5], []⟩)))
  ⟨5, [2, 3], []⟩)
def k_cascaderef03_Same_2 : KC := (.seq (.reg [
rq 44 (.move (.t 5)),
rq 45 (.faddr 3 (.t 2)),
rq 46 (.load false 1 (.t 45)),
rq 47 (.len .sl (.t 46)),
rq 48 (.bin .lss (.t 44) (.t 47))]
  (.cond (.t 48)
  .skip
  (.exit 0)))
  ⟨3, [2, 3, 5], []⟩)
def k_cascaderef03_Same_3 : KC := (.seq (.block 1 (.dreg [
rq 51 (.faddr 3 (.t 2)),
rq 52 (.load false 1 (.t 51)),
rq 53 (.move (.t 5)),
rq 54 (.iaddr 5 (.t 52) (.t 53)),
rq 55 (.load true 5 (.t 54)),
rq 56 (.faddr 3 (.t 3)),
rq 57 (.load false 1 (.t 56)),
rq 58 (.move (.t 5)),
rq 59 (.iaddr 5 (.t 57) (.t 58)),
rq 60 (.load true 5 (.t 59)),
rq 61 (.call .pur F.cascaderef03_Same [(.t 55), (.t 60)]),
rq 62 (.un .not (.t 61))] []
  (.cond (.t 62)
  (.reg [
rq 4 (.move (.c (.bool false)))]
  .ret)
  .skip)))
  ⟨4, [2, 3, 5], []⟩)
def k_cascaderef03_Same_4 : KC := (.lreg [
rq 49 (.move (.t 5)),
rq 50 (.bin .add (.t 49) (.c (.int .i64 1))),
rq 5 (.move (.t 50))])
def k_cascaderef03_Same_5 : KC := (.seq (.reg [
rq 6 (.move (.c (.int .i64 0)))]
  (.block 2 (.loop ⟨6, [2, 3, 6], []⟩)))
  ⟨9, [], []⟩)
def k_cascaderef03_Same_6 : KC := (.seq (.reg [
rq 63 (.move (.t 6)),
rq 64 (.faddr 4 (.t 2)),
rq 65 (.load false 1 (.t 64)),
rq 66 (.len .sl (.t 65)),
rq 67 (.bin .lss (.t 63) (.t 66))]
  (.cond (.t 67)
  .skip
  (.exit 2)))
  ⟨7, [2, 3, 6], []⟩)
def k_cascaderef03_Same_7 : KC := (.seq (.block 3 (.dreg [
rq 70 (.faddr 4 (.t 2)),
rq 71 (.load false 1 (.t 70)),
rq 72 (.move (.t 6)),
rq 73 (.iaddr 6 (.t 71) (.t 72)),
rq 74 (.faddr 0 (.t 73)),
rq 75 (.load false 1 (.t 74)),
rq 76 (.faddr 4 (.t 3)),
rq 77 (.load false 1 (.t 76)),
rq 78 (.move (.t 6)),
rq 79 (.iaddr 6 (.t 77) (.t 78)),
rq 80 (.faddr 0 (.t 79)),
rq 81 (.load false 1 (.t 80)),
rq 82 (.bin .neq (.t 75) (.t 81)),
rq 83 (.move (.t 82)),
rqg 84 83 false (.faddr 4 (.t 2)),
rqg 85 83 false (.load false 1 (.t 84)),
rqg 86 83 false (.move (.t 6)),
rqg 87 83 false (.iaddr 6 (.t 85) (.t 86)),
rqg 88 83 false (.faddr 1 (.t 87)),
rqg 89 83 false (.load true 5 (.t 88)),
rqg 90 83 false (.faddr 4 (.t 3)),
rqg 91 83 false (.load false 1 (.t 90)),
rqg 92 83 false (.move (.t 6)),
rqg 93 83 false (.iaddr 6 (.t 91) (.t 92)),
rqg 94 83 false (.faddr 1 (.t 93)),
rqg 95 83 false (.load true 5 (.t 94)),
rqg 96 83 false (.call .pur F.cascaderef03_Same [(.t 89), (.t 95)]),
rqg 97 83 false (.un .not (.t 96)),
rq 98 (.pick (.t 83) (.c (.bool true)) (.t 97))] []
  (.cond (.t 98)
  (.reg [
rq 4 (.move (.c (.bool false)))]
  .ret)
  .skip)))
  ⟨8, [2, 3, 6], []⟩)
def k_cascaderef03_Same_8 : KC := (.lreg [
rq 68 (.move (.t 6)),
rq 69 (.bin .add (.t 68) (.c (.int .i64 1))),
rq 6 (.move (.t 69))])
def k_cascaderef03_Same_9 : KC := (.reg [
rq 4 (.move (.c (.bool true)))]
  .ret)
def r_cascaderef03_Same : KF where
  np := 2
  res := [.tmp 4]
  code := [k_cascaderef03_Same_0, k_cascaderef03_Same_1, k_cascaderef03_Same_2, k_cascaderef03_Same_3, k_cascaderef03_Same_4, k_cascaderef03_Same_5, k_cascaderef03_Same_6, k_cascaderef03_Same_7, k_cascaderef03_Same_8, k_cascaderef03_Same_9]
def k_cascadelaw06_zero_0 : KC := (.reg [
rq 1 (.ibox (.t 0)),
rq 2 (.move (.c (.bool false)))]
  (.reg [
rq 3 (.load true 5 (.t 1)),
rq 4 (.build [(.int .i64 0), (.int .i64 0), (.str []), (.sl []), (.sl [])] []),
rq 5 (.call .pur F.cascaderef03_Same [(.t 3), (.t 4)]),
rq 2 (.move (.t 5))]
  .ret))
def r_cascadelaw06_zero : KF where
  np := 1
  res := [.tmp 2]
  code := [k_cascadelaw06_zero_0]
def k_path_Find_1_0 : KC := (.reg [
rq 2 (.ibox (.t 0)),
rq 3 (.alloc [(.int .i64 0), (.int .i64 0), (.str []), (.sl []), (.sl [])]),
rq 4 (.move (.c (.int .i64 0)))]
  (.reg [
rq 5 (.load true 5 (.t 2)),
rq 6 (.call .pur F.tree_Clone [(.t 5)]),
rz (.store 5 (.t 1) (.t 6))]
  (.reg [
rq 7 (.load true 5 (.t 2)),
rz (.store 5 (.t 3) (.t 7)),
rq 4 (.move (.c (.int .i64 0)))]
  .ret)))
def r_path_Find_1 : KF where
  np := 2
  res := [.cell 3 true 5, .tmp 4]
  code := [k_path_Find_1_0]
def k_path_Find_0 : KC := (.reg [
rq 2 (.ibox (.t 0)),
rq 4 (.alloc [(.int .i64 0), (.int .i64 0), (.str []), (.sl []), (.sl [])]),
rq 5 (.move (.c (.bool false)))]
  (.seq (.reg [
rq 9 (.load true 5 (.t 2)),
rq 10 (.call .pur F.tree_Right [(.t 9)]),
rq 11 (.un .not (.t 10)),
rq 12 (.move (.t 11)),
rqg 13 12 false (.move (.t 1)),
rqg 14 12 false (.call .pur F.path_Right [(.t 13)]),
rqg 15 12 false (.un .not (.t 14)),
rq 16 (.pick (.t 12) (.c (.bool true)) (.t 15))]
  (.cond (.t 16)
  (.reg [
rq 17 (.build [(.int .i64 0), (.int .i64 0), (.str []), (.sl []), (.sl [])] []),
rz (.store 5 (.t 4) (.t 17)),
rq 5 (.move (.c (.bool false)))]
  .ret)
  .skip))
  ⟨1, [1, 2, 4], [[4]]⟩))
def k_path_Find_1 : KC := (.reg [
rq 6 (.alloc [(.int .i64 0), (.int .i64 0), (.str []), (.sl []), (.sl [])])]
  (.reg [
rq 19 (.load true 5 (.t 2)),
rq 20 (.move (.t 1)),
rq 21 (.mkF (.func F.path_Find_1) [] [(.t 6)]),
rq 22 (.call .eff F.path_at [(.t 19), (.t 20), (.t 21)]),
rq 18 (.move (.t 22)),
rq 23 (.extract (.t 18) 0),
rq 24 (.extract (.t 18) 1),
rq 7 (.alloc [(.int .i64 0), (.int .i64 0), (.str []), (.sl []), (.sl [])]),
rz (.store 5 (.t 7) (.t 23)),
rq 8 (.move (.t 24))]
  (.reg [
rq 25 (.load true 5 (.t 6)),
rq 26 (.move (.t 8)),
rq 27 (.bin .eql (.t 26) (.c (.int .i64 0))),
rz (.store 5 (.t 4) (.t 25)),
rq 5 (.move (.t 27))]
  .ret)))
def r_path_Find : KF where
  np := 2
  res := [.cell 4 true 5, .tmp 5]
  code := [k_path_Find_0, k_path_Find_1]
def k_cascaderef06_Same_0 : KC := (.reg [
rq 4 (.move (.c (.bool false)))]
  (.seq (.reg [
rq 6 (.move (.t 0)),
rq 7 (.len .sl (.t 6)),
rq 8 (.move (.t 1)),
rq 9 (.len .sl (.t 8)),
rq 10 (.bin .neq (.t 7) (.t 9))]
  (.cond (.t 10)
  (.reg [
rq 4 (.move (.c (.bool false)))]
  .ret)
  .skip))
  ⟨1, [0, 1], []⟩))
def k_cascaderef06_Same_1 : KC := (.seq (.reg [
rq 5 (.move (.c (.int .i64 0)))]
  (.block 0 (.loop ⟨2, [0, 1, 5], []⟩)))
  ⟨5, [], []⟩)
def k_cascaderef06_Same_2 : KC := (.seq (.reg [
rq 11 (.move (.t 5)),
rq 12 (.move (.t 0)),
rq 13 (.len .sl (.t 12)),
rq 14 (.bin .lss (.t 11) (.t 13))]
  (.cond (.t 14)
  .skip
  (.exit 0)))
  ⟨3, [0, 1, 5], []⟩)
def k_cascaderef06_Same_3 : KC := (.seq (.block 1 (.dreg [
rq 17 (.move (.t 0)),
rq 18 (.move (.t 5)),
rq 19 (.iaddr 3 (.t 17) (.t 18)),
rq 20 (.load true 3 (.t 19)),
rq 21 (.move (.t 1)),
rq 22 (.move (.t 5)),
rq 23 (.iaddr 3 (.t 21) (.t 22)),
rq 24 (.load true 3 (.t 23)),
rq 25 (.eq true (.struct [.str, .int, .bool]) (.t 20) (.t 24))] []
  (.cond (.t 25)
  (.reg [
rq 4 (.move (.c (.bool false)))]
  .ret)
  .skip)))
  ⟨4, [0, 1, 5], []⟩)
def k_cascaderef06_Same_4 : KC := (.lreg [
rq 15 (.move (.t 5)),
rq 16 (.bin .add (.t 15) (.c (.int .i64 1))),
rq 5 (.move (.t 16))])
def k_cascaderef06_Same_5 : KC := (.reg [
rq 4 (.move (.c (.bool true)))]
  .ret)
def r_cascaderef06_Same : KF where
  np := 2
  res := [.tmp 4]
  code := [k_cascaderef06_Same_0, k_cascaderef06_Same_1, k_cascaderef06_Same_2, k_cascaderef06_Same_3, k_cascaderef06_Same_4, k_cascaderef06_Same_5]
def k_cascaderef06_Under_0 : KC := (.reg [
rq 4 (.move (.c (.bool false)))]
  (.reg [
rq 5 (.move (.t 0)),
rq 6 (.len .sl (.t 5)),
rq 7 (.move (.t 1)),
rq 8 (.len .sl (.t 7)),
rq 9 (.bin .leq (.t 6) (.t 8)),
rq 10 (.move (.t 9)),
rqg 11 10 true (.move (.t 0)),
rqg 12 10 true (.move (.t 1)),
rqg 13 10 true (.move (.t 0)),
rqg 14 10 true (.len .sl (.t 13)),
rqg 15 10 true (.slice 3 (.t 12) none (some (.t 14))),
rqg 16 10 true (.call .pur F.cascaderef06_Same [(.t 11), (.t 15)]),
rq 17 (.pick (.t 10) (.t 16) (.c (.bool false))),
rq 4 (.move (.t 17))]
  .ret))
def r_cascaderef06_Under : KF where
  np := 2
  res := [.tmp 4]
  code := [k_cascaderef06_Under_0]
def k_cascadelaw06_PathKeeps_0 : KC := (.reg [
rq 3 (.ibox (.t 0)),
rq 4 (.ibox (.t 1)),
rq 5 (.box (.t 2)),
rq 6 (.move (.c (.bool false)))]
  (.dreg [
rq 17 (.aaddr 2 1 (.t 5) (.c (.int .i64 0))),
rq 18 (.load false 1 (.t 17)),
rq 19 (.aaddr 2 1 (.t 5) (.c (.int .i64 1))),
rq 20 (.load false 1 (.t 19)),
rq 7 (.move (.t 18)),
rq 8 (.move (.t 20))] []
  (.seq (.reg [
rq 21 (.call .pur F.cascadelaw06_awake []),
rq 22 (.un .not (.t 21)),
rq 23 (.move (.t 22)),
rqg 24 23 false (.load true 5 (.t 3)),
rqg 25 23 false (.call .pur F.cascaderef03_Few [(.t 24), (.c (.int .i64 60))]),
rqg 26 23 false (.un .not (.t 25)),
rq 27 (.pick (.t 23) (.c (.bool true)) (.t 26)),
rq 28 (.move (.t 27)),
rqg 29 28 false (.load true 5 (.t 4)),
rqg 30 28 false (.call .pur F.cascaderef03_Few [(.t 29), (.c (.int .i64 60))]),
rqg 31 28 false (.un .not (.t 30)),
rq 32 (.pick (.t 28) (.c (.bool true)) (.t 31)),
rq 33 (.move (.t 32)),
rqg 34 33 false (.move (.t 7)),
rqg 35 33 false (.call .pur F.cascaderef06_Few [(.t 34)]),
rqg 36 33 false (.un .not (.t 35)),
rq 37 (.pick (.t 33) (.c (.bool true)) (.t 36)),
rq 38 (.move (.t 37)),
rqg 39 38 false (.move (.t 8)),
rqg 40 38 false (.call .pur F.cascaderef06_Few [(.t 39)]),
rqg 41 38 false (.un .not (.t 40)),
rq 42 (.pick (.t 38) (.c (.bool true)) (.t 41))]
  (.cond (.t 42)
  (.reg [
rq 43 (.call .pur F.cascadelaw06_awake []),
rq 6 (.move (.t 43))]
  .ret)
  .skip))
  ⟨1, [3, 4, 7, 8], []⟩)))
def k_cascadelaw06_PathKeeps_1 : KC := (.reg [
rq 45 (.load true 5 (.t 3)),
rq 46 (.move (.t 7)),
rq 47 (.load true 5 (.t 4)),
rq 48 (.call .pur F.path_Put [(.t 45), (.t 46), (.t 47)]),
rq 44 (.move (.t 48)),
rq 49 (.extract (.t 44) 0),
rq 50 (.extract (.t 44) 1),
rq 9 (.alloc [(.int .i64 0), (.int .i64 0), (.str []), (.sl []), (.sl [])]),
rz (.store 5 (.t 9) (.t 49)),
rq 10 (.move (.t 50))]
  (.seq (.reg [
rq 51 (.move (.t 10)),
rq 52 (.bin .neq (.t 51) (.c (.int .i64 0)))]
  (.cond (.t 52)
  (.reg [
rq 53 (.load true 5 (.t 9)),
rq 54 (.call .pur F.cascadelaw06_zero [(.t 53)]),
rq 6 (.move (.t 54))]
  .ret)
  .skip))
  ⟨2, [3, 4, 7, 8, 9], [[9]]⟩))
def k_cascadelaw06_PathKeeps_2 : KC := (.reg [
rq 56 (.load true 5 (.t 9)),
rq 57 (.move (.t 7)),
rq 58 (.call .pur F.path_Find [(.t 56), (.t 57)]),
rq 55 (.move (.t 58)),
rq 59 (.extract (.t 55) 0),
rq 60 (.extract (.t 55) 1),
rq 11 (.alloc [(.int .i64 0), (.int .i64 0), (.str []), (.sl []), (.sl [])]),
rz (.store 5 (.t 11) (.t 59)),
rq 12 (.move (.t 60))]
  (.seq (.reg [
rq 61 (.move (.t 12)),
rq 62 (.un .not (.t 61)),
rq 63 (.move (.t 62)),
rqg 64 63 false (.load true 5 (.t 4)),
rqg 65 63 false (.load true 5 (.t 11)),
rqg 66 63 false (.call .pur F.cascaderef03_Same [(.t 64), (.t 65)]),
rqg 67 63 false (.un .not (.t 66)),
rq 68 (.pick (.t 63) (.c (.bool true)) (.t 67))]
  (.cond (.t 68)
  (.reg [
rq 6 (.move (.c (.bool false)))]
  .ret)
  .skip))
  ⟨3, [3, 7, 8, 9], [[9]]⟩))
def k_cascadelaw06_PathKeeps_3 : KC := (.reg [
rq 70 (.load true 5 (.t 3)),
rq 71 (.move (.t 8)),
rq 72 (.call .pur F.path_Find [(.t 70), (.t 71)]),
rq 69 (.move (.t 72)),
rq 73 (.extract (.t 69) 0),
rq 74 (.extract (.t 69) 1),
rq 13 (.alloc [(.int .i64 0), (.int .i64 0), (.str []), (.sl []), (.sl [])]),
rz (.store 5 (.t 13) (.t 73)),
rq 14 (.move (.t 74))]
  (.reg [
rq 76 (.load true 5 (.t 9)),
rq 77 (.move (.t 8)),
rq 78 (.call .pur F.path_Find [(.t 76), (.t 77)]),
rq 75 (.move (.t 78)),
rq 79 (.extract (.t 75) 0),
rq 80 (.extract (.t 75) 1),
rq 15 (.alloc [(.int .i64 0), (.int .i64 0), (.str []), (.sl []), (.sl [])]),
rz (.store 5 (.t 15) (.t 79)),
rq 16 (.move (.t 80))]
  (.reg [
rq 81 (.move (.t 7)),
rq 82 (.move (.t 8)),
rq 83 (.call .pur F.cascaderef06_Under [(.t 81), (.t 82)]),
rq 84 (.move (.t 83)),
rqg 85 84 false (.move (.t 8)),
rqg 86 84 false (.move (.t 7)),
rqg 87 84 false (.call .pur F.cascaderef06_Under [(.t 85), (.t 86)]),
rq 88 (.pick (.t 84) (.c (.bool true)) (.t 87)),
rq 89 (.move (.t 88)),
rqg 90 89 false (.move (.t 14)),
rqg 91 89 false (.move (.t 16)),
rqg 92 89 false (.eq false .bool (.t 90) (.t 91)),
rqg 93 89 false (.move (.t 92)),
rqg 94 93 true (.load true 5 (.t 13)),
rqg 95 93 true (.load true 5 (.t 15)),
rqg 96 93 true (.call .pur F.cascaderef03_Same [(.t 94), (.t 95)]),
rqg 97 89 false (.pick (.t 93) (.t 96) (.c (.bool false))),
rq 98 (.pick (.t 89) (.c (.bool true)) (.t 97)),
rq 6 (.move (.t 98))]
  .ret)))
def r_cascadelaw06_PathKeeps : KF where
  np := 3
  res := [.tmp 6]
  code := [k_cascadelaw06_PathKeeps_0, k_cascadelaw06_PathKeeps_1, k_cascadelaw06_PathKeeps_2, k_cascadelaw06_PathKeeps_3]
def table : FuncId → Option KF
  | 8 => some r_cascadelaw06_PathKeeps
  | 15 => some r_cascadelaw06_awake
  | 16 => some r_cascaderef06_Few
  | 18 => some r_path_Value
  | 19 => some r_path_Right
  | 20 => some r_cascadelaw06_zero
  | 22 => some r_cascaderef03_Same
  | 24 => some r_cascaderef06_Same
  | 25 => some r_cascaderef03_Few
  | 29 => some r_path_Place
  | 32 => some r_path_Find
  | 35 => some r_path_Put
  | 37 => some r_cascaderef06_Under
  | 50 => some r_slices_ContainsFunc__api_Step_api_Step
  | 51 => some r_path_Right_1
  | 52 => some r_path_right
  | 53 => some r_tree_Right
  | 54 => some r_cascaderef03_few
  | 59 => some r_path_at
  | 60 => some r_path_Find_1
  | 61 => some r_tree_Clone
  | 64 => some r_path_changed
  | 65 => some r_path_Put_1
  | 68 => some r_slices_ContainsFunc__api_Value_api_Value
  | 73 => some r_slices_ContainsFunc__api_Pair_api_Pair
  | 77 => some r_slices_IndexFunc__api_Pair_api_Pair
  | 92 => some r_slices_IndexFunc__api_Step_api_Step
  | 93 => some r_text_Right
  | 94 => some r_tree_Right_1
  | 95 => some r_tree_unused
  | 96 => some r_tree_Right_1_1
  | 97 => some r_tree_keys
  | 98 => some r_tree_Right_1_2
  | 102 => some r_slices_Clone__api_Value_api_Value
  | 103 => some r_path_at_1
  | 104 => some r_slices_Clone__api_Pair_api_Pair
  | 105 => some r_tree_clone
  | 107 => some r_slices_IndexFunc__api_Value_api_Value
  | 124 => some r_text_Bad
  | 136 => some { code := [], res := [], np := 1, ext := some (.pure ext_unicode_utf8_DecodeRuneInString) }
  | _ => none
end Go.Abs.T
