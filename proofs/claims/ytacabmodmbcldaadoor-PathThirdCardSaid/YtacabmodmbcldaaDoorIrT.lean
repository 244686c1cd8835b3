import Derived.Test.YtacabmodmbcldaaDoorAbsL
import Derived.Test.YtacabmodmbcldaaDoorXT
namespace Go.Abs.T
namespace F
abbrev main_main : FuncId := 0
abbrev gosem_cut : FuncId := 1
abbrev gosem_cut_init : FuncId := 2
abbrev cascadelaw06_PathRight : FuncId := 3
abbrev cascadelaw06_PathOf : FuncId := 4
abbrev cascadelaw06_PathThird : FuncId := 5
abbrev cascadelaw06_PathFinds : FuncId := 6
abbrev cascadelaw06_PathPuts : FuncId := 7
abbrev cascadelaw06_PathKeeps : FuncId := 8
abbrev cascadelaw06_PathAdds : FuncId := 9
abbrev cascadelaw06_PathMerges : FuncId := 10
abbrev cascadelaw07_BlockIndents : FuncId := 11
abbrev cascadelaw07_BlockValues : FuncId := 12
abbrev cascadelaw07_BlockClean : FuncId := 13
abbrev cascadelaw07_BlockRaws : FuncId := 14
abbrev cascadelaw06_awake : FuncId := 15
abbrev cascaderef06_Few : FuncId := 16
abbrev cascaderef06_Right : FuncId := 17
abbrev path_Value : FuncId := 18
abbrev path_Right : FuncId := 19
abbrev cascadelaw06_zero : FuncId := 20
abbrev path_Of : FuncId := 21
abbrev cascaderef03_Same : FuncId := 22
abbrev cascaderef06_Value : FuncId := 23
abbrev cascaderef06_Same : FuncId := 24
abbrev cascaderef03_Few : FuncId := 25
abbrev cascaderef06_Of : FuncId := 26
abbrev path_Less : FuncId := 27
abbrev path_Key : FuncId := 28
abbrev path_Place : FuncId := 29
abbrev path_Under : FuncId := 30
abbrev path_Same : FuncId := 31
abbrev path_Find : FuncId := 32
abbrev cascaderef03_Right : FuncId := 33
abbrev cascaderef06_Find : FuncId := 34
abbrev path_Put : FuncId := 35
abbrev cascaderef06_Puts : FuncId := 36
abbrev cascaderef06_Under : FuncId := 37
abbrev path_Add : FuncId := 38
abbrev cascaderef06_Add : FuncId := 39
abbrev path_Merge : FuncId := 40
abbrev cascaderef06_Merge : FuncId := 41
abbrev cascadelaw07_awake : FuncId := 42
abbrev block_Indent : FuncId := 43
abbrev cascaderef07_Indent : FuncId := 44
abbrev block_Value : FuncId := 45
abbrev cascaderef07_Value : FuncId := 46
abbrev block_Raw : FuncId := 47
abbrev cascaderef07_Raw : FuncId := 48
abbrev cascaderef01_Right : FuncId := 49
abbrev slices_ContainsFunc__api_Step_api_Step : FuncId := 50
abbrev path_Right_1 : FuncId := 51
abbrev path_right : FuncId := 52
abbrev tree_Right : FuncId := 53
abbrev cascaderef03_few : FuncId := 54
abbrev slices_CompareFunc__api_Step__api_Step_api_Step_api_Step : FuncId := 55
abbrev path_compare : FuncId := 56
abbrev slices_EqualFunc__api_Step__api_Step_api_Step_api_Step : FuncId := 57
abbrev path_one : FuncId := 58
abbrev path_at : FuncId := 59
abbrev path_Find_1 : FuncId := 60
abbrev tree_Clone : FuncId := 61
abbrev cascaderef03_right : FuncId := 62
abbrev cascaderef06_next : FuncId := 63
abbrev path_changed : FuncId := 64
abbrev path_Put_1 : FuncId := 65
abbrev cascaderef06_may : FuncId := 66
abbrev cascaderef06_changed : FuncId := 67
abbrev slices_ContainsFunc__api_Value_api_Value : FuncId := 68
abbrev path_Add_1 : FuncId := 69
abbrev path_Add_2 : FuncId := 70
abbrev slices_Concat__api_Value_api_Value : FuncId := 71
abbrev path_Merge_1 : FuncId := 72
abbrev slices_ContainsFunc__api_Pair_api_Pair : FuncId := 73
abbrev path_Merge_1_1 : FuncId := 74
abbrev slices_Concat__api_Pair_api_Pair : FuncId := 75
abbrev tree_Ordered : FuncId := 76
abbrev slices_IndexFunc__api_Pair_api_Pair : FuncId := 77
abbrev path_Merge_1_2 : FuncId := 78
abbrev cascaderef03_At : FuncId := 79
abbrev cascaderef06_twice : FuncId := 80
abbrev cascaderef03_Ordered : FuncId := 81
abbrev block_lead : FuncId := 82
abbrev cascaderef07_first : FuncId := 83
abbrev text_Lines : FuncId := 84
abbrev strings_ReplaceAll : FuncId := 85
abbrev block_empty : FuncId := 86
abbrev strings_Join : FuncId := 87
abbrev cascaderef01_Lines : FuncId := 88
abbrev cascaderef07_turned : FuncId := 89
abbrev block_comes : FuncId := 90
abbrev cascaderef01_Bad : FuncId := 91
abbrev slices_IndexFunc__api_Step_api_Step : FuncId := 92
abbrev text_Right : FuncId := 93
abbrev tree_Right_1 : FuncId := 94
abbrev tree_unused : FuncId := 95
abbrev tree_Right_1_1 : FuncId := 96
abbrev tree_keys : FuncId := 97
abbrev tree_Right_1_2 : FuncId := 98
abbrev cmp_Or_int : FuncId := 99
abbrev cmp_Compare_string : FuncId := 100
abbrev cmp_Compare_int : FuncId := 101
abbrev slices_Clone__api_Value_api_Value : FuncId := 102
abbrev path_at_1 : FuncId := 103
abbrev slices_Clone__api_Pair_api_Pair : FuncId := 104
abbrev tree_clone : FuncId := 105
abbrev cascaderef06_Put : FuncId := 106
abbrev slices_IndexFunc__api_Value_api_Value : FuncId := 107
abbrev slices_Grow__api_Value_api_Value : FuncId := 108
abbrev slices_Grow__api_Pair_api_Pair : FuncId := 109
abbrev tree_object : FuncId := 110
abbrev tree_Ordered_1 : FuncId := 111
abbrev slices_SortStableFunc__api_Pair_api_Pair : FuncId := 112
abbrev tree_Ordered_2 : FuncId := 113
abbrev strings_TrimLeft : FuncId := 114
abbrev strings_IndexByte : FuncId := 115
abbrev strings_HasPrefix : FuncId := 116
abbrev strings_Replace : FuncId := 117
abbrev strings_Builder_Grow : FuncId := 118
abbrev strings_Builder_WriteString : FuncId := 119
abbrev strings_Builder_String : FuncId := 120
abbrev strings_Contains : FuncId := 121
abbrev strings_HasSuffix : FuncId := 122
abbrev cascaderef01_Size : FuncId := 123
abbrev text_Bad : FuncId := 124
abbrev cmp_isNaN_string : FuncId := 125
abbrev cmp_isNaN_int : FuncId := 126
abbrev slices_stableCmpFunc_api_Pair : FuncId := 127
abbrev strings_trimLeftByte : FuncId := 128
abbrev strings_makeASCIISet : FuncId := 129
abbrev strings_trimLeftASCII : FuncId := 130
abbrev strings_trimLeftUnicode : FuncId := 131
abbrev internal_stringslite_IndexByte : FuncId := 132
abbrev internal_stringslite_HasPrefix : FuncId := 133
abbrev strings_Count : FuncId := 134
abbrev strings_Index : FuncId := 135
abbrev unicode_utf8_DecodeRuneInString : FuncId := 136
abbrev strings_Builder_copyCheck : FuncId := 137
abbrev strings_Builder_grow : FuncId := 138
abbrev internal_stringslite_HasSuffix : FuncId := 139
abbrev slices_insertionSortCmpFunc_api_Pair : FuncId := 140
abbrev slices_symMergeCmpFunc_api_Pair : FuncId := 141
abbrev strings_asciiSet_contains : FuncId := 142
abbrev strings_ContainsRune : FuncId := 143
abbrev internal_bytealg_IndexByteString : FuncId := 144
abbrev unicode_utf8_RuneCountInString : FuncId := 145
abbrev internal_bytealg_CountString : FuncId := 146
abbrev internal_stringslite_Index : FuncId := 147
abbrev unicode_utf8_decodeRuneInStringSlow : FuncId := 148
abbrev internal_abi_NoEscape : FuncId := 149
abbrev internal_bytealg_MakeNoZero : FuncId := 150
abbrev slices_rotateCmpFunc_api_Pair : FuncId := 151
abbrev strings_IndexRune : FuncId := 152
abbrev internal_bytealg_IndexString : FuncId := 153
abbrev internal_bytealg_Cutover : FuncId := 154
abbrev internal_bytealg_IndexRabinKarp_string : FuncId := 155
abbrev slices_swapRangeCmpFunc_api_Pair : FuncId := 156
abbrev unicode_utf8_ValidRune : FuncId := 157
abbrev internal_bytealg_hashStr_string : FuncId := 158
abbrev runtime_boundsError_Error : FuncId := 159
abbrev runtime_boundsError_RuntimeError : FuncId := 160
abbrev runtime_errorString_Error : FuncId := 161
abbrev runtime_errorString_RuntimeError : FuncId := 162
abbrev runtime_plainError_Error : FuncId := 163
abbrev runtime_plainError_RuntimeError : FuncId := 164
abbrev runtime_errorAddressString_Error : FuncId := 165
abbrev runtime_errorAddressString_RuntimeError : FuncId := 166
abbrev runtime_TypeAssertionError_Error : FuncId := 167
abbrev runtime_TypeAssertionError_RuntimeError : FuncId := 168
abbrev runtime_PanicNilError_Error : FuncId := 169
abbrev runtime_PanicNilError_RuntimeError : FuncId := 170
abbrev internal_abi_Type_Align : FuncId := 171
abbrev internal_runtime_maps_unhashableTypeError_Error : FuncId := 172
abbrev internal_runtime_maps_unhashableTypeError_RuntimeError : FuncId := 173
abbrev strings_Builder_Reset : FuncId := 174
abbrev internal_abi_Kind_String : FuncId := 175
abbrev gosem_cut_vars : FuncId := 180
end F
def k_path_Place_0 : KC := (.reg [
rq 2 (.alloc [(.str []), (.int .i64 0), (.bool false)])]
  (.reg [
rq 3 (.move (.t 0)),
rq 4 (.build [(.str []), (.int .i64 0), (.bool false)] [(1, 1, (.t 3)), (2, 1, (.c (.bool true)))]),
rz (.store 3 (.t 2) (.t 4))]
  .ret))
def r_path_Place : KF where
  np := 1
  res := [.cell 2 true 3]
  code := [k_path_Place_0]
def k_text_Bad_0 : KC := (.reg [
rq 2 (.move (.c (.int .i64 0)))]
  (.seq (.reg [
rq 7 (.move (.t 0)),
rq 8 (.range (.t 7))]
  (.block 0 (.loop ⟨1, [0, 8], [[8]]⟩)))
  ⟨4, [], []⟩))
def k_text_Bad_1 : KC := (.reg [
rq 9 (.next (.t 8)),
rq 10 (.extract (.t 9) 0)]
  (.seq (.cond (.t 10)
  .skip
  (.exit 0))
  ⟨2, [0, 8, 9], [[8]]⟩))
def k_text_Bad_2 : KC := (.block 1 (.reg [
rq 11 (.extract (.t 9) 1),
rq 12 (.extract (.t 9) 2),
rq 3 (.move (.t 11)),
rq 4 (.move (.t 12))]
  (.seq (.reg [
rq 13 (.move (.t 4)),
rq 14 (.bin .neq (.t 13) (.c (.int .i32 65533)))]
  (.cond (.t 14)
  (.exit 1)
  .skip))
  ⟨3, [0, 3, 8], [[8]]⟩)))
def k_text_Bad_3 : KC := (.reg [
rq 16 (.move (.t 0)),
rq 17 (.move (.t 3)),
rq 18 (.slice 0 (.t 16) (some (.t 17)) none),
rq 19 (.call .pur F.unicode_utf8_DecodeRuneInString [(.t 18)]),
rq 15 (.move (.t 19)),
rq 20 (.extract (.t 15) 0),
rq 21 (.extract (.t 15) 1),
rq 5 (.move (.t 20)),
rq 6 (.move (.t 21))]
  (.reg [
rq 22 (.move (.t 6)),
rq 23 (.bin .eql (.t 22) (.c (.int .i64 1)))]
  (.cond (.t 23)
  (.reg [
rq 24 (.move (.t 3)),
rq 2 (.move (.t 24))]
  .ret)
  .skip)))
def k_text_Bad_4 : KC := (.reg [
rq 2 (.move (.c (.int .i64 (-1))))]
  .ret)
def r_text_Bad : KF where
  np := 1
  res := [.tmp 2]
  code := [k_text_Bad_0, k_text_Bad_1, k_text_Bad_2, k_text_Bad_3, k_text_Bad_4]
def k_text_Right_0 : KC := (.reg [
rq 2 (.move (.c (.bool false)))]
  (.reg [
rq 3 (.move (.t 0)),
rq 4 (.call .pur F.text_Bad [(.t 3)]),
rq 5 (.bin .lss (.t 4) (.c (.int .i64 0))),
rq 2 (.move (.t 5))]
  .ret))
def r_text_Right : KF where
  np := 1
  res := [.tmp 2]
  code := [k_text_Right_0]
def k_path_right_0 : KC := (.reg [
rq 1 (.ibox (.t 0)),
rq 2 (.move (.c (.bool false)))]
  (.seq (.reg [
rq 3 (.faddr 2 (.t 1)),
rq 4 (.load false 1 (.t 3))]
  (.cond (.t 4)
  (.reg [
rq 5 (.faddr 0 (.t 1)),
rq 6 (.load false 1 (.t 5)),
rq 7 (.bin .eql (.t 6) (.c (.str []))),
rq 8 (.move (.t 7)),
rqg 9 8 true (.faddr 1 (.t 1)),
rqg 10 8 true (.load false 1 (.t 9)),
rqg 11 8 true (.bin .geq (.t 10) (.c (.int .i64 0))),
rq 12 (.pick (.t 8) (.t 11) (.c (.bool false))),
rq 13 (.move (.t 12)),
rqg 14 13 true (.faddr 1 (.t 1)),
rqg 15 13 true (.load false 1 (.t 14)),
rqg 16 13 true (.bin .leq (.t 15) (.c (.int .i64 9007199254740991))),
rq 17 (.pick (.t 13) (.t 16) (.c (.bool false))),
rq 2 (.move (.t 17))]
  .ret)
  .skip))
  ⟨1, [1], []⟩))
def k_path_right_1 : KC := (.reg [
rq 18 (.faddr 1 (.t 1)),
rq 19 (.load false 1 (.t 18)),
rq 20 (.bin .eql (.t 19) (.c (.int .i64 0))),
rq 21 (.move (.t 20)),
rqg 22 21 true (.faddr 0 (.t 1)),
rqg 23 21 true (.load false 1 (.t 22)),
rqg 24 21 true (.call .pur F.text_Right [(.t 23)]),
rq 25 (.pick (.t 21) (.t 24) (.c (.bool false))),
rq 2 (.move (.t 25))]
  .ret)
def r_path_right : KF where
  np := 1
  res := [.tmp 2]
  code := [k_path_right_0, k_path_right_1]
def k_path_Right_1_0 : KC := (.reg [
rq 1 (.ibox (.t 0)),
rq 2 (.move (.c (.bool false)))]
  (.reg [
rq 3 (.load true 3 (.t 1)),
rq 4 (.call .pur F.path_right [(.t 3)]),
rq 5 (.un .not (.t 4)),
rq 2 (.move (.t 5))]
  .ret))
def r_path_Right_1 : KF where
  np := 1
  res := [.tmp 2]
  code := [k_path_Right_1_0]
def k_slices_IndexFunc__api_Step_api_Step_0 : KC := (.reg [
rq 4 (.move (.c (.int .i64 0)))]
  (.seq (.reg [
rq 6 (.move (.t 0)),
rq 7 (.len .sl (.t 6)),
rq 8 (.move (.c (.int .i64 0)))]
  (.block 0 (.loop ⟨1, [0, 1, 7, 8], []⟩)))
  ⟨4, [], []⟩))
def k_slices_IndexFunc__api_Step_api_Step_1 : KC := (.reg [
rq 9 (.bin .lss (.t 8) (.t 7))]
  (.seq (.cond (.t 9)
  .skip
  (.exit 0))
  ⟨2, [0, 1, 7, 8], []⟩))
def k_slices_IndexFunc__api_Step_api_Step_2 : KC := (.seq (.block 1 (.reg [
rq 10 (.move (.t 8)),
rq 5 (.move (.t 10))]
  (.reg [
rq 11 (.move (.t 1)),
rq 12 (.move (.t 0)),
rq 13 (.move (.t 5)),
rq 14 (.iaddr 3 (.t 12) (.t 13)),
rq 15 (.load true 3 (.t 14)),
rq 16 (.callv .pur (.t 11) [(.t 15)])]
  (.cond (.t 16)
  (.reg [
rq 17 (.move (.t 5)),
rq 4 (.move (.t 17))]
  .ret)
  .skip))))
  ⟨3, [0, 1, 7, 8], []⟩)
def k_slices_IndexFunc__api_Step_api_Step_3 : KC := (.lreg [
rq 18 (.bin .add (.t 8) (.c (.int .i64 1))),
rq 8 (.move (.t 18))])
def k_slices_IndexFunc__api_Step_api_Step_4 : KC := (.reg [
rq 4 (.move (.c (.int .i64 (-1))))]
  .ret)
def r_slices_IndexFunc__api_Step_api_Step : KF where
  np := 2
  res := [.tmp 4]
  code := [k_slices_IndexFunc__api_Step_api_Step_0, k_slices_IndexFunc__api_Step_api_Step_1, k_slices_IndexFunc__api_Step_api_Step_2, k_slices_IndexFunc__api_Step_api_Step_3, k_slices_IndexFunc__api_Step_api_Step_4]
def k_slices_ContainsFunc__api_Step_api_Step_0 : KC := (.reg [
rq 4 (.move (.c (.bool false)))]
  (.reg [
rq 5 (.move (.t 0)),
rq 6 (.move (.t 1)),
rq 7 (.call .pur F.slices_IndexFunc__api_Step_api_Step [(.t 5), (.t 6)]),
rq 8 (.bin .geq (.t 7) (.c (.int .i64 0))),
rq 4 (.move (.t 8))]
  .ret))
def r_slices_ContainsFunc__api_Step_api_Step : KF where
  np := 2
  res := [.tmp 4]
  code := [k_slices_ContainsFunc__api_Step_api_Step_0]
def k_path_Right_0 : KC := (.reg [
rq 2 (.move (.c (.bool false)))]
  (.reg [
rq 3 (.move (.t 0)),
rq 4 (.len .sl (.t 3)),
rq 5 (.bin .leq (.t 4) (.c (.int .i64 30))),
rq 6 (.move (.t 5)),
rqg 7 6 true (.move (.t 0)),
rqg 8 6 true (.call .pur F.slices_ContainsFunc__api_Step_api_Step [(.t 7), (.f F.path_Right_1)]),
rqg 9 6 true (.un .not (.t 8)),
rq 10 (.pick (.t 6) (.t 9) (.c (.bool false))),
rq 2 (.move (.t 10))]
  .ret))
def r_path_Right : KF where
  np := 1
  res := [.tmp 2]
  code := [k_path_Right_0]
def k_path_Value_0 : KC := (.reg [
rq 2 (.alloc [(.int .i64 0), (.int .i64 0), (.str []), (.sl []), (.sl [])]),
rq 3 (.move (.c (.int .i64 0)))]
  (.seq (.reg [
rq 7 (.move (.t 0)),
rq 8 (.call .pur F.path_Right [(.t 7)]),
rq 9 (.un .not (.t 8))]
  (.cond (.t 9)
  (.reg [
rq 10 (.build [(.int .i64 0), (.int .i64 0), (.str []), (.sl []), (.sl [])] []),
rz (.store 5 (.t 2) (.t 10)),
rq 3 (.move (.c (.int .i64 1)))]
  .ret)
  .skip))
  ⟨1, [0, 2], [[2]]⟩))
def k_path_Value_1 : KC := (.reg [
rq 11 (.build [(.int .i64 0), (.int .i64 0), (.str []), .nils, (.sl [])] [(0, 1, (.c (.int .i64 4)))]),
rq 4 (.alloc [(.int .i64 0), (.int .i64 0), (.str []), (.sl []), (.sl [])]),
rz (.store 5 (.t 4) (.t 11))]
  (.adj (.virt [4] 3 5 [4, 3]) (.seq (.reg [
rq 12 (.move (.t 0)),
rq 13 (.len .sl (.t 12)),
rq 14 (.move (.c (.int .i64 0)))]
  (.block 0 (.loop ⟨2, [2, 4, 12, 13, 14], [[2], [4], [4, 3]]⟩)))
  ⟨5, [2, 4], [[2], [4], [4, 3]]⟩)))
def k_path_Value_2 : KC := (.reg [
rq 15 (.bin .lss (.t 14) (.t 13))]
  (.seq (.cond (.t 15)
  .skip
  (.exit 0))
  ⟨3, [2, 4, 12, 13, 14], [[2], [4], [4, 3]]⟩))
def k_path_Value_3 : KC := (.seq (.block 1 (.reg [
rq 16 (.iaddr 3 (.t 12) (.t 14)),
rq 17 (.load true 3 (.t 16)),
rq 6 (.alloc [(.str []), (.int .i64 0), (.bool false)]),
rz (.store 3 (.t 6) (.t 17))]
  (.reg [
rq 18 (.faddr 2 (.t 6)),
rq 19 (.load false 1 (.t 18))]
  (.cond (.t 19)
  (.lreg [
rq 20 (.faddr 3 (.t 4)),
rq 21 (.load false 1 (.t 20)),
rq 22 (.faddr 1 (.t 6)),
rq 23 (.load false 1 (.t 22)),
rq 24 (.build [(.int .i64 0), (.int .i64 0), (.str []), (.sl []), (.sl [])] [(0, 1, (.c (.int .i64 2))), (1, 1, (.t 23))]),
rq 25 (.ilit 5 [(.t 24)]),
rq 26 (.app 5 80 (.t 21) (.t 25)),
rq 27 (.faddr 3 (.t 4)),
rz (.store 1 (.t 27) (.t 26))])
  (.lreg [
rq 28 (.faddr 3 (.t 4)),
rq 29 (.load false 1 (.t 28)),
rq 30 (.faddr 0 (.t 6)),
rq 31 (.load false 1 (.t 30)),
rq 32 (.build [(.int .i64 0), (.int .i64 0), (.str []), (.sl []), (.sl [])] [(0, 1, (.c (.int .i64 3))), (2, 1, (.t 31))]),
rq 33 (.ilit 5 [(.t 32)]),
rq 34 (.app 5 80 (.t 29) (.t 33)),
rq 35 (.faddr 3 (.t 4)),
rz (.store 1 (.t 35) (.t 34))])))))
  ⟨4, [2, 4, 12, 13, 14], [[2], [4], [4, 3]]⟩)
def k_path_Value_4 : KC := (.lreg [
rq 36 (.bin .add (.t 14) (.c (.int .i64 1))),
rq 14 (.move (.t 36))])
def k_path_Value_5 : KC := (.reg [
rq 37 (.load true 5 (.t 4)),
rz (.store 5 (.t 2) (.t 37)),
rq 3 (.move (.c (.int .i64 0)))]
  .ret)
def r_path_Value : KF where
  np := 1
  res := [.cell 2 true 5, .tmp 3]
  code := [k_path_Value_0, k_path_Value_1, k_path_Value_2, k_path_Value_3, k_path_Value_4, k_path_Value_5]
def k_cascadelaw06_awake_0 : KC := (.reg [
rq 0 (.move (.c (.bool false)))]
  (.reg [
rq 4 (.call .pur F.path_Place [(.c (.int .i64 3))]),
rq 5 (.ilit 3 [(.t 4)]),
rq 6 (.call .pur F.path_Value [(.t 5)]),
rq 3 (.move (.t 6)),
rq 7 (.extract (.t 3) 0),
rq 8 (.extract (.t 3) 1),
rq 1 (.alloc [(.int .i64 0), (.int .i64 0), (.str []), (.sl []), (.sl [])]),
rz (.store 5 (.t 1) (.t 7)),
rq 2 (.move (.t 8))]
  (.reg [
rq 9 (.move (.t 2)),
rq 10 (.bin .eql (.t 9) (.c (.int .i64 0))),
rq 11 (.move (.t 10)),
rqg 12 11 true (.faddr 3 (.t 1)),
rqg 13 11 true (.load false 1 (.t 12)),
rqg 14 11 true (.len .sl (.t 13)),
rqg 15 11 true (.bin .eql (.t 14) (.c (.int .i64 1))),
rq 16 (.pick (.t 11) (.t 15) (.c (.bool false))),
rq 17 (.move (.t 16)),
rqg 18 17 true (.faddr 3 (.t 1)),
rqg 19 17 true (.load false 1 (.t 18)),
rqg 20 17 true (.iaddr 5 (.t 19) (.c (.int .i64 0))),
rqg 21 17 true (.faddr 1 (.t 20)),
rqg 22 17 true (.load false 1 (.t 21)),
rqg 23 17 true (.bin .eql (.t 22) (.c (.int .i64 3))),
rq 24 (.pick (.t 17) (.t 23) (.c (.bool false))),
rq 0 (.move (.t 24))]
  .ret)))
def r_cascadelaw06_awake : KF where
  np := 0
  res := [.tmp 0]
  code := [k_cascadelaw06_awake_0]
def k_cascaderef06_Few_0 : KC := (.reg [
rq 2 (.move (.c (.bool false)))]
  (.seq (.reg [
rq 3 (.move (.c (.int .i64 0)))]
  (.block 0 (.loop ⟨1, [0, 3], []⟩)))
  ⟨4, [0], []⟩))
def k_cascaderef06_Few_1 : KC := (.seq (.reg [
rq 4 (.move (.t 3)),
rq 5 (.move (.t 0)),
rq 6 (.len .sl (.t 5)),
rq 7 (.bin .lss (.t 4) (.t 6)),
rq 8 (.move (.t 7)),
rqg 9 8 true (.move (.t 3)),
rqg 10 8 true (.bin .lss (.t 9) (.c (.int .i64 50))),
rq 11 (.pick (.t 8) (.t 10) (.c (.bool false)))]
  (.cond (.t 11)
  .skip
  (.exit 0)))
  ⟨2, [0, 3], []⟩)
def k_cascaderef06_Few_2 : KC := (.seq (.block 1 (.reg [
rq 14 (.move (.t 0)),
rq 15 (.move (.t 3)),
rq 16 (.iaddr 3 (.t 14) (.t 15)),
rq 17 (.faddr 0 (.t 16)),
rq 18 (.load false 1 (.t 17)),
rq 19 (.len .str (.t 18)),
rq 20 (.bin .gtr (.t 19) (.c (.int .i64 200)))]
  (.cond (.t 20)
  (.reg [
rq 2 (.move (.c (.bool false)))]
  .ret)
  .skip)))
  ⟨3, [0, 3], []⟩)
def k_cascaderef06_Few_3 : KC := (.lreg [
rq 12 (.move (.t 3)),
rq 13 (.bin .add (.t 12) (.c (.int .i64 1))),
rq 3 (.move (.t 13))])
def k_cascaderef06_Few_4 : KC := (.reg [
rq 21 (.move (.t 0)),
rq 22 (.len .sl (.t 21)),
rq 23 (.bin .leq (.t 22) (.c (.int .i64 40))),
rq 2 (.move (.t 23))]
  .ret)
def r_cascaderef06_Few : KF where
  np := 1
  res := [.tmp 2]
  code := [k_cascaderef06_Few_0, k_cascaderef06_Few_1, k_cascaderef06_Few_2, k_cascaderef06_Few_3, k_cascaderef06_Few_4]
def k_cmp_isNaN_string_0 : KC := (.reg [
rq 2 (.move (.c (.bool false)))]
  (.reg [
rq 3 (.move (.t 0)),
rq 4 (.move (.t 0)),
rq 5 (.bin .neq (.t 3) (.t 4)),
rq 2 (.move (.t 5))]
  .ret))
def r_cmp_isNaN_string : KF where
  np := 1
  res := [.tmp 2]
  code := [k_cmp_isNaN_string_0]
def k_cmp_Compare_string_0 : KC := (.reg [
rq 4 (.move (.c (.int .i64 0)))]
  (.reg [
rq 7 (.move (.t 0)),
rq 8 (.call .pur F.cmp_isNaN_string [(.t 7)]),
rq 5 (.move (.t 8))]
  (.reg [
rq 9 (.move (.t 1)),
rq 10 (.call .pur F.cmp_isNaN_string [(.t 9)]),
rq 6 (.move (.t 10))]
  (.seq (.reg [
rq 11 (.move (.t 5))]
  (.cond (.t 11)
  (.seq (.reg [
rq 12 (.move (.t 6))]
  (.cond (.t 12)
  (.reg [
rq 4 (.move (.c (.int .i64 0)))]
  .ret)
  .skip))
  ⟨1, [], []⟩)
  .skip))
  ⟨2, [0, 1, 6], []⟩))))
def k_cmp_Compare_string_1 : KC := (.reg [
rq 4 (.move (.c (.int .i64 (-1))))]
  .ret)
def k_cmp_Compare_string_2 : KC := (.seq (.reg [
rq 13 (.move (.t 6))]
  (.cond (.t 13)
  (.reg [
rq 4 (.move (.c (.int .i64 1)))]
  .ret)
  .skip))
  ⟨3, [0, 1], []⟩)
def k_cmp_Compare_string_3 : KC := (.seq (.reg [
rq 14 (.move (.t 0)),
rq 15 (.move (.t 1)),
rq 16 (.bin .lss (.t 14) (.t 15))]
  (.cond (.t 16)
  (.reg [
rq 4 (.move (.c (.int .i64 (-1))))]
  .ret)
  .skip))
  ⟨4, [0, 1], []⟩)
def k_cmp_Compare_string_4 : KC := (.seq (.reg [
rq 17 (.move (.t 0)),
rq 18 (.move (.t 1)),
rq 19 (.bin .gtr (.t 17) (.t 18))]
  (.cond (.t 19)
  (.reg [
rq 4 (.move (.c (.int .i64 1)))]
  .ret)
  .skip))
  ⟨5, [], []⟩)
def k_cmp_Compare_string_5 : KC := (.reg [
rq 4 (.move (.c (.int .i64 0)))]
  .ret)
def r_cmp_Compare_string : KF where
  np := 2
  res := [.tmp 4]
  code := [k_cmp_Compare_string_0, k_cmp_Compare_string_1, k_cmp_Compare_string_2, k_cmp_Compare_string_3, k_cmp_Compare_string_4, k_cmp_Compare_string_5]
def k_cmp_isNaN_int_0 : KC := (.reg [
rq 2 (.move (.c (.bool false)))]
  (.reg [
rq 3 (.move (.t 0)),
rq 4 (.move (.t 0)),
rq 5 (.bin .neq (.t 3) (.t 4)),
rq 2 (.move (.t 5))]
  .ret))
def r_cmp_isNaN_int : KF where
  np := 1
  res := [.tmp 2]
  code := [k_cmp_isNaN_int_0]
def k_cmp_Compare_int_0 : KC := (.reg [
rq 4 (.move (.c (.int .i64 0)))]
  (.reg [
rq 7 (.move (.t 0)),
rq 8 (.call .pur F.cmp_isNaN_int [(.t 7)]),
rq 5 (.move (.t 8))]
  (.reg [
rq 9 (.move (.t 1)),
rq 10 (.call .pur F.cmp_isNaN_int [(.t 9)]),
rq 6 (.move (.t 10))]
  (.seq (.reg [
rq 11 (.move (.t 5))]
  (.cond (.t 11)
  (.seq (.reg [
rq 12 (.move (.t 6))]
  (.cond (.t 12)
  (.reg [
rq 4 (.move (.c (.int .i64 0)))]
  .ret)
  .skip))
  ⟨1, [], []⟩)
  .skip))
  ⟨2, [0, 1, 6], []⟩))))
def k_cmp_Compare_int_1 : KC := (.reg [
rq 4 (.move (.c (.int .i64 (-1))))]
  .ret)
def k_cmp_Compare_int_2 : KC := (.seq (.reg [
rq 13 (.move (.t 6))]
  (.cond (.t 13)
  (.reg [
rq 4 (.move (.c (.int .i64 1)))]
  .ret)
  .skip))
  ⟨3, [0, 1], []⟩)
def k_cmp_Compare_int_3 : KC := (.seq (.reg [
rq 14 (.move (.t 0)),
rq 15 (.move (.t 1)),
rq 16 (.bin .lss (.t 14) (.t 15))]
  (.cond (.t 16)
  (.reg [
rq 4 (.move (.c (.int .i64 (-1))))]
  .ret)
  .skip))
  ⟨4, [0, 1], []⟩)
def k_cmp_Compare_int_4 : KC := (.seq (.reg [
rq 17 (.move (.t 0)),
rq 18 (.move (.t 1)),
rq 19 (.bin .gtr (.t 17) (.t 18))]
  (.cond (.t 19)
  (.reg [
rq 4 (.move (.c (.int .i64 1)))]
  .ret)
  .skip))
  ⟨5, [], []⟩)
def k_cmp_Compare_int_5 : KC := (.reg [
rq 4 (.move (.c (.int .i64 0)))]
  .ret)
def r_cmp_Compare_int : KF where
  np := 2
  res := [.tmp 4]
  code := [k_cmp_Compare_int_0, k_cmp_Compare_int_1, k_cmp_Compare_int_2, k_cmp_Compare_int_3, k_cmp_Compare_int_4, k_cmp_Compare_int_5]
def k_cmp_Or_int_0 : KC := (.reg [
rq 2 (.move (.c (.int .i64 0)))]
  (.reg [
rq 3 (.move (.c (.int .i64 0)))]
  (.seq (.reg [
rq 6 (.move (.t 0)),
rq 7 (.len .sl (.t 6)),
rq 8 (.move (.c (.int .i64 0)))]
  (.block 0 (.loop ⟨1, [3, 6, 7, 8], []⟩)))
  ⟨4, [3], []⟩)))
def k_cmp_Or_int_1 : KC := (.reg [
rq 9 (.bin .lss (.t 8) (.t 7))]
  (.seq (.cond (.t 9)
  .skip
  (.exit 0))
  ⟨2, [3, 6, 7, 8], []⟩))
def k_cmp_Or_int_2 : KC := (.seq (.block 1 (.reg [
rq 10 (.iaddr 1 (.t 6) (.t 8)),
rq 11 (.load false 1 (.t 10)),
rq 5 (.move (.t 11))]
  (.reg [
rq 12 (.move (.t 5)),
rq 13 (.move (.t 3)),
rq 14 (.bin .neq (.t 12) (.t 13))]
  (.cond (.t 14)
  (.reg [
rq 15 (.move (.t 5)),
rq 2 (.move (.t 15))]
  .ret)
  .skip))))
  ⟨3, [3, 6, 7, 8], []⟩)
def k_cmp_Or_int_3 : KC := (.lreg [
rq 16 (.bin .add (.t 8) (.c (.int .i64 1))),
rq 8 (.move (.t 16))])
def k_cmp_Or_int_4 : KC := (.reg [
rq 17 (.move (.t 3)),
rq 2 (.move (.t 17))]
  .ret)
def r_cmp_Or_int : KF where
  np := 1
  res := [.tmp 2]
  code := [k_cmp_Or_int_0, k_cmp_Or_int_1, k_cmp_Or_int_2, k_cmp_Or_int_3, k_cmp_Or_int_4]
def k_path_compare_0 : KC := (.reg [
rq 2 (.ibox (.t 0)),
rq 3 (.ibox (.t 1)),
rq 4 (.move (.c (.int .i64 0)))]
  (.seq (.reg [
rq 5 (.faddr 2 (.t 2)),
rq 6 (.load false 1 (.t 5)),
rq 7 (.faddr 2 (.t 3)),
rq 8 (.load false 1 (.t 7)),
rq 9 (.eq true .bool (.t 6) (.t 8))]
  (.cond (.t 9)
  (.seq (.reg [
rq 10 (.faddr 2 (.t 3)),
rq 11 (.load false 1 (.t 10))]
  (.cond (.t 11)
  (.reg [
rq 4 (.move (.c (.int .i64 (-1))))]
  .ret)
  .skip))
  ⟨1, [], []⟩)
  .skip))
  ⟨2, [2, 3], []⟩))
def k_path_compare_1 : KC := (.reg [
rq 4 (.move (.c (.int .i64 1)))]
  .ret)
def k_path_compare_2 : KC := (.dreg [
rq 12 (.faddr 0 (.t 2)),
rq 13 (.load false 1 (.t 12)),
rq 14 (.faddr 0 (.t 3)),
rq 15 (.load false 1 (.t 14)),
rq 16 (.call .pur F.cmp_Compare_string [(.t 13), (.t 15)]),
rq 17 (.faddr 1 (.t 2)),
rq 18 (.load false 1 (.t 17)),
rq 19 (.faddr 1 (.t 3)),
rq 20 (.load false 1 (.t 19)),
rq 21 (.call .pur F.cmp_Compare_int [(.t 18), (.t 20)]),
rq 22 (.ilit 1 [(.t 16), (.t 21)]),
rq 23 (.call .pur F.cmp_Or_int [(.t 22)]),
rq 4 (.move (.t 23))] []
  .ret)
def r_path_compare : KF where
  np := 2
  res := [.tmp 4]
  code := [k_path_compare_0, k_path_compare_1, k_path_compare_2]
def k_slices_CompareFunc__api_Step__api_Step_api_Step_api_Step_0 : KC := (.reg [
rq 6 (.move (.c (.int .i64 0)))]
  (.seq (.reg [
rq 11 (.move (.t 0)),
rq 12 (.len .sl (.t 11)),
rq 13 (.move (.c (.int .i64 0)))]
  (.block 0 (.loop ⟨1, [0, 1, 2, 11, 12, 13], []⟩)))
  ⟨5, [0, 1], []⟩))
def k_slices_CompareFunc__api_Step__api_Step_api_Step_api_Step_1 : KC := (.reg [
rq 14 (.bin .lss (.t 13) (.t 12))]
  (.seq (.cond (.t 14)
  .skip
  (.exit 0))
  ⟨2, [0, 1, 2, 11, 12, 13], []⟩))
def k_slices_CompareFunc__api_Step__api_Step_api_Step_api_Step_2 : KC := (.seq (.block 1 (.reg [
rq 15 (.move (.t 13)),
rq 16 (.iaddr 3 (.t 11) (.t 13)),
rq 17 (.load true 3 (.t 16)),
rq 8 (.alloc [(.str []), (.int .i64 0), (.bool false)]),
rq 7 (.move (.t 15)),
rz (.store 3 (.t 8) (.t 17))]
  (.seq (.reg [
rq 18 (.move (.t 7)),
rq 19 (.move (.t 1)),
rq 20 (.len .sl (.t 19)),
rq 21 (.bin .geq (.t 18) (.t 20))]
  (.cond (.t 21)
  (.reg [
rq 6 (.move (.c (.int .i64 1)))]
  .ret)
  .skip))
  ⟨3, [0, 1, 2, 7, 8, 11, 12, 13], [[8]]⟩)))
  ⟨4, [0, 1, 2, 11, 12, 13], []⟩)
def k_slices_CompareFunc__api_Step__api_Step_api_Step_api_Step_3 : KC := (.reg [
rq 22 (.move (.t 1)),
rq 23 (.move (.t 7)),
rq 24 (.iaddr 3 (.t 22) (.t 23)),
rq 25 (.load true 3 (.t 24)),
rq 9 (.alloc [(.str []), (.int .i64 0), (.bool false)]),
rz (.store 3 (.t 9) (.t 25))]
  (.reg [
rq 26 (.move (.t 2)),
rq 27 (.load true 3 (.t 8)),
rq 28 (.load true 3 (.t 9)),
rq 29 (.callv .pur (.t 26) [(.t 27), (.t 28)]),
rq 10 (.move (.t 29))]
  (.reg [
rq 30 (.move (.t 10)),
rq 31 (.bin .neq (.t 30) (.c (.int .i64 0)))]
  (.cond (.t 31)
  (.reg [
rq 32 (.move (.t 10)),
rq 6 (.move (.t 32))]
  .ret)
  .skip))))
def k_slices_CompareFunc__api_Step__api_Step_api_Step_api_Step_4 : KC := (.lreg [
rq 33 (.bin .add (.t 13) (.c (.int .i64 1))),
rq 13 (.move (.t 33))])
def k_slices_CompareFunc__api_Step__api_Step_api_Step_api_Step_5 : KC := (.seq (.reg [
rq 34 (.move (.t 0)),
rq 35 (.len .sl (.t 34)),
rq 36 (.move (.t 1)),
rq 37 (.len .sl (.t 36)),
rq 38 (.bin .lss (.t 35) (.t 37))]
  (.cond (.t 38)
  (.reg [
rq 6 (.move (.c (.int .i64 (-1))))]
  .ret)
  .skip))
  ⟨6, [], []⟩)
def k_slices_CompareFunc__api_Step__api_Step_api_Step_api_Step_6 : KC := (.reg [
rq 6 (.move (.c (.int .i64 0)))]
  .ret)
def r_slices_CompareFunc__api_Step__api_Step_api_Step_api_Step : KF where
  np := 3
  res := [.tmp 6]
  code := [k_slices_CompareFunc__api_Step__api_Step_api_Step_api_Step_0, k_slices_CompareFunc__api_Step__api_Step_api_Step_api_Step_1, k_slices_CompareFunc__api_Step__api_Step_api_Step_api_Step_2, k_slices_CompareFunc__api_Step__api_Step_api_Step_api_Step_3, k_slices_CompareFunc__api_Step__api_Step_api_Step_api_Step_4, k_slices_CompareFunc__api_Step__api_Step_api_Step_api_Step_5, k_slices_CompareFunc__api_Step__api_Step_api_Step_api_Step_6]
def k_path_Less_0 : KC := (.reg [
rq 4 (.move (.c (.bool false)))]
  (.reg [
rq 5 (.move (.t 0)),
rq 6 (.move (.t 1)),
rq 7 (.call .pur F.slices_CompareFunc__api_Step__api_Step_api_Step_api_Step [(.t 5), (.t 6), (.f F.path_compare)]),
rq 8 (.bin .lss (.t 7) (.c (.int .i64 0))),
rq 4 (.move (.t 8))]
  .ret))
def r_path_Less : KF where
  np := 2
  res := [.tmp 4]
  code := [k_path_Less_0]
def k_path_Key_0 : KC := (.reg [
rq 2 (.alloc [(.str []), (.int .i64 0), (.bool false)])]
  (.reg [
rq 3 (.move (.t 0)),
rq 4 (.build [(.str []), (.int .i64 0), (.bool false)] [(0, 1, (.t 3))]),
rz (.store 3 (.t 2) (.t 4))]
  .ret))
def r_path_Key : KF where
  np := 1
  res := [.cell 2 true 3]
  code := [k_path_Key_0]
def k_path_one_0 : KC := (.reg [
rq 2 (.ibox (.t 0)),
rq 3 (.ibox (.t 1)),
rq 4 (.move (.c (.bool false)))]
  (.reg [
rq 5 (.load true 3 (.t 2)),
rq 6 (.load true 3 (.t 3)),
rq 7 (.eq false (.struct [.str, .int, .bool]) (.t 5) (.t 6)),
rq 4 (.move (.t 7))]
  .ret))
def r_path_one : KF where
  np := 2
  res := [.tmp 4]
  code := [k_path_one_0]
def k_slices_EqualFunc__api_Step__api_Step_api_Step_api_Step_0 : KC := (.reg [
rq 6 (.move (.c (.bool false)))]
  (.seq (.reg [
rq 10 (.move (.t 0)),
rq 11 (.len .sl (.t 10)),
rq 12 (.move (.t 1)),
rq 13 (.len .sl (.t 12)),
rq 14 (.bin .neq (.t 11) (.t 13))]
  (.cond (.t 14)
  (.reg [
rq 6 (.move (.c (.bool false)))]
  .ret)
  .skip))
  ⟨1, [0, 1, 2], []⟩))
def k_slices_EqualFunc__api_Step__api_Step_api_Step_api_Step_1 : KC := (.seq (.reg [
rq 15 (.move (.t 0)),
rq 16 (.len .sl (.t 15)),
rq 17 (.move (.c (.int .i64 0)))]
  (.block 0 (.loop ⟨2, [1, 2, 15, 16, 17], []⟩)))
  ⟨5, [], []⟩)
def k_slices_EqualFunc__api_Step__api_Step_api_Step_api_Step_2 : KC := (.reg [
rq 18 (.bin .lss (.t 17) (.t 16))]
  (.seq (.cond (.t 18)
  .skip
  (.exit 0))
  ⟨3, [1, 2, 15, 16, 17], []⟩))
def k_slices_EqualFunc__api_Step__api_Step_api_Step_api_Step_3 : KC := (.seq (.block 1 (.reg [
rq 19 (.move (.t 17)),
rq 20 (.iaddr 3 (.t 15) (.t 17)),
rq 21 (.load true 3 (.t 20)),
rq 8 (.alloc [(.str []), (.int .i64 0), (.bool false)]),
rq 7 (.move (.t 19)),
rz (.store 3 (.t 8) (.t 21))]
  (.reg [
rq 22 (.move (.t 1)),
rq 23 (.move (.t 7)),
rq 24 (.iaddr 3 (.t 22) (.t 23)),
rq 25 (.load true 3 (.t 24)),
rq 9 (.alloc [(.str []), (.int .i64 0), (.bool false)]),
rz (.store 3 (.t 9) (.t 25))]
  (.reg [
rq 26 (.move (.t 2)),
rq 27 (.load true 3 (.t 8)),
rq 28 (.load true 3 (.t 9)),
rq 29 (.callv .pur (.t 26) [(.t 27), (.t 28)]),
rq 30 (.un .not (.t 29))]
  (.cond (.t 30)
  (.reg [
rq 6 (.move (.c (.bool false)))]
  .ret)
  .skip)))))
  ⟨4, [1, 2, 15, 16, 17], []⟩)
def k_slices_EqualFunc__api_Step__api_Step_api_Step_api_Step_4 : KC := (.lreg [
rq 31 (.bin .add (.t 17) (.c (.int .i64 1))),
rq 17 (.move (.t 31))])
def k_slices_EqualFunc__api_Step__api_Step_api_Step_api_Step_5 : KC := (.reg [
rq 6 (.move (.c (.bool true)))]
  .ret)
def r_slices_EqualFunc__api_Step__api_Step_api_Step_api_Step : KF where
  np := 3
  res := [.tmp 6]
  code := [k_slices_EqualFunc__api_Step__api_Step_api_Step_api_Step_0, k_slices_EqualFunc__api_Step__api_Step_api_Step_api_Step_1, k_slices_EqualFunc__api_Step__api_Step_api_Step_api_Step_2, k_slices_EqualFunc__api_Step__api_Step_api_Step_api_Step_3, k_slices_EqualFunc__api_Step__api_Step_api_Step_api_Step_4, k_slices_EqualFunc__api_Step__api_Step_api_Step_api_Step_5]
def k_path_Under_0 : KC := (.reg [
rq 4 (.move (.c (.bool false)))]
  (.reg [
rq 5 (.move (.t 0)),
rq 6 (.len .sl (.t 5)),
rq 7 (.move (.t 1)),
rq 8 (.len .sl (.t 7)),
rq 9 (.bin .leq (.t 6) (.t 8)),
rq 10 (.move (.t 9)),
rqg 11 10 true (.move (.t 0)),
rqg 12 10 true (.move (.t 1)),
rqg 13 10 true (.move (.t 0)),
rqg 14 10 true (.len .sl (.t 13)),
rqg 15 10 true (.slice 3 (.t 12) none (some (.t 14))),
rqg 16 10 true (.call .pur F.slices_EqualFunc__api_Step__api_Step_api_Step_api_Step [(.t 11), (.t 15), (.f F.path_one)]),
rq 17 (.pick (.t 10) (.t 16) (.c (.bool false))),
rq 4 (.move (.t 17))]
  .ret))
def r_path_Under : KF where
  np := 2
  res := [.tmp 4]
  code := [k_path_Under_0]
def k_path_Same_0 : KC := (.reg [
rq 4 (.move (.c (.bool false)))]
  (.reg [
rq 5 (.move (.t 0)),
rq 6 (.move (.t 1)),
rq 7 (.call .pur F.slices_EqualFunc__api_Step__api_Step_api_Step_api_Step [(.t 5), (.t 6), (.f F.path_one)]),
rq 4 (.move (.t 7))]
  .ret))
def r_path_Same : KF where
  np := 2
  res := [.tmp 4]
  code := [k_path_Same_0]
def k_cascadelaw06_PathThird_0 : KC := (.reg [
rq 6 (.move (.c (.bool false)))]
  (.seq (.reg [
rq 8 (.call .pur F.cascadelaw06_awake []),
rq 9 (.un .not (.t 8)),
rq 10 (.move (.t 9)),
rqg 11 10 false (.move (.t 0)),
rqg 12 10 false (.call .pur F.cascaderef06_Few [(.t 11)]),
rqg 13 10 false (.un .not (.t 12)),
rq 14 (.pick (.t 10) (.c (.bool true)) (.t 13)),
rq 15 (.move (.t 14)),
rqg 16 15 false (.move (.t 1)),
rqg 17 15 false (.call .pur F.cascaderef06_Few [(.t 16)]),
rqg 18 15 false (.un .not (.t 17)),
rq 19 (.pick (.t 15) (.c (.bool true)) (.t 18)),
rq 20 (.move (.t 19)),
rqg 21 20 false (.move (.t 2)),
rqg 22 20 false (.call .pur F.cascaderef06_Few [(.t 21)]),
rqg 23 20 false (.un .not (.t 22)),
rq 24 (.pick (.t 20) (.c (.bool true)) (.t 23))]
  (.cond (.t 24)
  (.reg [
rq 25 (.call .pur F.cascadelaw06_awake []),
rq 6 (.move (.t 25))]
  .ret)
  .skip))
  ⟨1, [0, 1, 2], []⟩))
def k_cascadelaw06_PathThird_1 : KC := (.seq (.reg [
rq 26 (.move (.t 0)),
rq 27 (.move (.t 1)),
rq 28 (.call .pur F.path_Less [(.t 26), (.t 27)]),
rq 29 (.move (.t 28)),
rqg 30 29 true (.move (.t 1)),
rqg 31 29 true (.move (.t 2)),
rqg 32 29 true (.call .pur F.path_Less [(.t 30), (.t 31)]),
rq 33 (.pick (.t 29) (.t 32) (.c (.bool false))),
rq 34 (.move (.t 33)),
rqg 35 34 true (.move (.t 0)),
rqg 36 34 true (.move (.t 2)),
rqg 37 34 true (.call .pur F.path_Less [(.t 35), (.t 36)]),
rqg 38 34 true (.un .not (.t 37)),
rq 39 (.pick (.t 34) (.t 38) (.c (.bool false)))]
  (.cond (.t 39)
  (.reg [
rq 6 (.move (.c (.bool false)))]
  .ret)
  .skip))
  ⟨2, [0, 1], []⟩)
def k_cascadelaw06_PathThird_2 : KC := (.seq (.reg [
rq 7 (.move (.c (.int .i64 0)))]
  (.block 0 (.loop ⟨3, [0, 1, 7], []⟩)))
  ⟨6, [0, 1], []⟩)
def k_cascadelaw06_PathThird_3 : KC := (.seq (.reg [
rq 40 (.move (.t 7)),
rq 41 (.move (.t 0)),
rq 42 (.len .sl (.t 41)),
rq 43 (.bin .lss (.t 40) (.t 42))]
  (.cond (.t 43)
  .skip
  (.exit 0)))
  ⟨4, [0, 1, 7], []⟩)
def k_cascadelaw06_PathThird_4 : KC := (.seq (.block 1 (.dreg [
rq 46 (.move (.t 0)),
rq 47 (.move (.t 7)),
rq 48 (.iaddr 3 (.t 46) (.t 47)),
rq 49 (.faddr 0 (.t 48)),
rq 50 (.load false 1 (.t 49)),
rq 51 (.call .pur F.path_Key [(.t 50)]),
rq 52 (.move (.t 0)),
rq 53 (.move (.t 7)),
rq 54 (.iaddr 3 (.t 52) (.t 53)),
rq 55 (.faddr 0 (.t 54)),
rq 56 (.load false 1 (.t 55)),
rq 57 (.build [(.str []), (.int .i64 0), (.bool false)] [(0, 1, (.t 56))]),
rq 58 (.eq true (.struct [.str, .int, .bool]) (.t 51) (.t 57)),
rq 59 (.move (.t 58)),
rqg 60 59 false (.move (.t 0)),
rqg 61 59 false (.move (.t 7)),
rqg 62 59 false (.iaddr 3 (.t 60) (.t 61)),
rqg 63 59 false (.faddr 1 (.t 62)),
rqg 64 59 false (.load false 1 (.t 63)),
rqg 65 59 false (.call .pur F.path_Place [(.t 64)]),
rqg 66 59 false (.move (.t 0)),
rqg 67 59 false (.move (.t 7)),
rqg 68 59 false (.iaddr 3 (.t 66) (.t 67)),
rqg 69 59 false (.faddr 1 (.t 68)),
rqg 70 59 false (.load false 1 (.t 69)),
rqg 71 59 false (.build [(.str []), (.int .i64 0), (.bool false)] [(1, 1, (.t 70)), (2, 1, (.c (.bool true)))]),
rqg 72 59 false (.eq true (.struct [.str, .int, .bool]) (.t 65) (.t 71)),
rq 73 (.pick (.t 59) (.c (.bool true)) (.t 72))] []
  (.cond (.t 73)
  (.reg [
rq 6 (.move (.c (.bool false)))]
  .ret)
  .skip)))
  ⟨5, [0, 1, 7], []⟩)
def k_cascadelaw06_PathThird_5 : KC := (.lreg [
rq 44 (.move (.t 7)),
rq 45 (.bin .add (.t 44) (.c (.int .i64 1))),
rq 7 (.move (.t 45))])
def k_cascadelaw06_PathThird_6 : KC := (.reg [
rq 74 (.move (.t 0)),
rq 75 (.move (.t 1)),
rq 76 (.call .pur F.path_Under [(.t 74), (.t 75)]),
rq 77 (.un .not (.t 76)),
rq 78 (.move (.t 77)),
rqg 79 78 false (.move (.t 0)),
rqg 80 78 false (.move (.t 1)),
rqg 81 78 false (.call .pur F.path_Same [(.t 79), (.t 80)]),
rq 82 (.pick (.t 78) (.c (.bool true)) (.t 81)),
rq 83 (.move (.t 82)),
rqg 84 83 false (.move (.t 0)),
rqg 85 83 false (.move (.t 1)),
rqg 86 83 false (.call .pur F.path_Less [(.t 84), (.t 85)]),
rqg 87 83 false (.move (.t 86)),
rqg 88 87 true (.move (.t 1)),
rqg 89 87 true (.move (.t 0)),
rqg 90 87 true (.call .pur F.path_Under [(.t 88), (.t 89)]),
rqg 91 87 true (.un .not (.t 90)),
rqg 92 83 false (.pick (.t 87) (.t 91) (.c (.bool false))),
rq 93 (.pick (.t 83) (.c (.bool true)) (.t 92)),
rq 6 (.move (.t 93))]
  .ret)
def r_cascadelaw06_PathThird : KF where
  np := 3
  res := [.tmp 6]
  code := [k_cascadelaw06_PathThird_0, k_cascadelaw06_PathThird_1, k_cascadelaw06_PathThird_2, k_cascadelaw06_PathThird_3, k_cascadelaw06_PathThird_4, k_cascadelaw06_PathThird_5, k_cascadelaw06_PathThird_6]
def table : FuncId → Option KF
  | 5 => some r_cascadelaw06_PathThird
  | 15 => some r_cascadelaw06_awake
  | 16 => some r_cascaderef06_Few
  | 18 => some r_path_Value
  | 19 => some r_path_Right
  | 27 => some r_path_Less
  | 28 => some r_path_Key
  | 29 => some r_path_Place
  | 30 => some r_path_Under
  | 31 => some r_path_Same
  | 50 => some r_slices_ContainsFunc__api_Step_api_Step
  | 51 => some r_path_Right_1
  | 52 => some r_path_right
  | 55 => some r_slices_CompareFunc__api_Step__api_Step_api_Step_api_Step
  | 56 => some r_path_compare
  | 57 => some r_slices_EqualFunc__api_Step__api_Step_api_Step_api_Step
  | 58 => some r_path_one
  | 92 => some r_slices_IndexFunc__api_Step_api_Step
  | 93 => some r_text_Right
  | 99 => some r_cmp_Or_int
  | 100 => some r_cmp_Compare_string
  | 101 => some r_cmp_Compare_int
  | 124 => some r_text_Bad
  | 125 => some r_cmp_isNaN_string
  | 126 => some r_cmp_isNaN_int
  | 136 => some { code := [], res := [], np := 1, ext := some (.pure ext_unicode_utf8_DecodeRuneInString) }
  | _ => none
end Go.Abs.T
