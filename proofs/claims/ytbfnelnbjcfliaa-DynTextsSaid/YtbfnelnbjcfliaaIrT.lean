import Derived.Test.YtbfnelnbjcfliaaAbsM
namespace Go.Abs.T
namespace F
abbrev main_main : FuncId := 0
abbrev gosem_cut : FuncId := 1
abbrev gosem_cut_init : FuncId := 2
abbrev cascadelaw04_DynTexts : FuncId := 3
abbrev cascadelaw04_DynSums : FuncId := 4
abbrev cascadelaw04_awake : FuncId := 5
abbrev cascaderef03_Few : FuncId := 6
abbrev dyn_Texts : FuncId := 7
abbrev dyn_Odd : FuncId := 8
abbrev cascaderef04_Texts : FuncId := 9
abbrev dyn_Sum : FuncId := 10
abbrev cascaderef04_Sum : FuncId := 11
abbrev dyn_Kind : FuncId := 12
abbrev cascaderef03_few : FuncId := 13
abbrev dyn_Texts_1 : FuncId := 14
abbrev dyn_caught : FuncId := 15
abbrev dyn_to : FuncId := 16
abbrev dyn_Sum_1 : FuncId := 17
abbrev dyn_sum : FuncId := 18
abbrev dyn_within : FuncId := 19
abbrev runtime_boundsError_Error : FuncId := 20
abbrev runtime_boundsError_RuntimeError : FuncId := 21
abbrev runtime_errorString_Error : FuncId := 22
abbrev runtime_errorString_RuntimeError : FuncId := 23
abbrev runtime_plainError_Error : FuncId := 24
abbrev runtime_plainError_RuntimeError : FuncId := 25
abbrev runtime_errorAddressString_Error : FuncId := 26
abbrev runtime_errorAddressString_RuntimeError : FuncId := 27
abbrev runtime_TypeAssertionError_Error : FuncId := 28
abbrev runtime_TypeAssertionError_RuntimeError : FuncId := 29
abbrev runtime_PanicNilError_Error : FuncId := 30
abbrev runtime_PanicNilError_RuntimeError : FuncId := 31
abbrev internal_abi_Type_Align : FuncId := 32
abbrev internal_runtime_maps_unhashableTypeError_Error : FuncId := 33
abbrev internal_runtime_maps_unhashableTypeError_RuntimeError : FuncId := 34
abbrev internal_abi_Kind_String : FuncId := 35
end F
def k_dyn_Kind_0 : KC := (.reg [
rq 2 (.move (.c (.int .i64 0)))]
  (.seq (.reg [
rq 3 (.move (.t 0))]
  (.block 0 (.reg [
rq 4 (.eq false .iface (.t 3) (.c .nili))]
  (.cond (.t 4)
  (.reg [
rq 2 (.move (.c (.int .i64 0)))]
  .ret)
  (.reg [
rq 5 (.tassert (.bool false) 4 true (.t 3)),
rq 6 (.extract (.t 5) 1),
rq 7 (.extract (.t 5) 0)]
  (.cond (.t 6)
  (.reg [
rq 2 (.move (.c (.int .i64 1)))]
  .ret)
  (.reg [
rq 8 (.tassert (.int .i64 0) 3 true (.t 3)),
rq 9 (.extract (.t 8) 1),
rq 10 (.extract (.t 8) 0),
rq 11 (.tassert (.int .i64 0) 2 true (.t 3)),
rq 12 (.extract (.t 11) 1),
rq 13 (.extract (.t 11) 0),
rq 14 (.pick (.t 9) (.c (.bool true)) (.t 12))]
  (.cond (.t 14)
  (.reg [
rq 2 (.move (.c (.int .i64 2)))]
  .ret)
  (.reg [
rq 15 (.tassert (.str []) 9 true (.t 3)),
rq 16 (.extract (.t 15) 1),
rq 17 (.extract (.t 15) 0)]
  (.cond (.t 16)
  (.reg [
rq 2 (.move (.c (.int .i64 3)))]
  .ret)
  (.reg [
rq 18 (.tassert (.sl []) 42 true (.t 3)),
rq 19 (.extract (.t 18) 1),
rq 20 (.extract (.t 18) 0)]
  (.cond (.t 19)
  (.reg [
rq 2 (.move (.c (.int .i64 4)))]
  .ret)
  (.reg [
rq 21 (.tassert (.sl []) 44 true (.t 3)),
rq 22 (.extract (.t 21) 1),
rq 23 (.extract (.t 21) 0)]
  (.cond (.t 22)
  (.reg [
rq 2 (.move (.c (.int .i64 5)))]
  .ret)
  .skip))))))))))))))
  ⟨1, [], []⟩))
def k_dyn_Kind_1 : KC := (.reg [
rq 2 (.move (.c (.int .i64 (-1))))]
  .ret)
def r_dyn_Kind : KF where
  np := 1
  res := [.tmp 2]
  code := [k_dyn_Kind_0, k_dyn_Kind_1]
def k_cascadelaw04_awake_0 : KC := (.reg [
rq 0 (.move (.c (.bool false)))]
  (.reg [
rq 1 (.mkI 9 (.c (.str [97]))),
rq 2 (.call .pur F.dyn_Kind [(.t 1)]),
rq 3 (.bin .eql (.t 2) (.c (.int .i64 3))),
rq 4 (.move (.t 3)),
rqg 5 4 true (.mkI 4 (.c (.bool true))),
rqg 6 4 true (.call .pur F.dyn_Kind [(.t 5)]),
rqg 7 4 true (.bin .eql (.t 6) (.c (.int .i64 1))),
rq 8 (.pick (.t 4) (.t 7) (.c (.bool false))),
rq 0 (.move (.t 8))]
  .ret))
def r_cascadelaw04_awake : KF where
  np := 0
  res := [.tmp 0]
  code := [k_cascadelaw04_awake_0]
def k_cascaderef03_few_0 : KC := (.reg [
rq 2 (.ibox (.t 0)),
rq 4 (.move (.c (.int .i64 0)))]
  (.seq (.reg [
rq 7 (.move (.t 1)),
rq 8 (.bin .lss (.t 7) (.c (.int .i64 1))),
rq 9 (.move (.t 8)),
rqg 10 9 false (.faddr 2 (.t 2)),
rqg 11 9 false (.load false 1 (.t 10)),
rqg 12 9 false (.len .str (.t 11)),
rqg 13 9 false (.bin .gtr (.t 12) (.c (.int .i64 500))),
rq 14 (.pick (.t 9) (.c (.bool true)) (.t 13))]
  (.cond (.t 14)
  (.reg [
rq 4 (.move (.c (.int .i64 (-1))))]
  .ret)
  .skip))
  ⟨1, [1, 2], []⟩))
def k_cascaderef03_few_1 : KC := (.reg [
rq 15 (.move (.t 1)),
rq 16 (.bin .sub (.t 15) (.c (.int .i64 1))),
rq 1 (.move (.t 16))]
  (.seq (.reg [
rq 5 (.move (.c (.int .i64 0)))]
  (.block 0 (.loop ⟨2, [1, 2, 5], []⟩)))
  ⟨5, [1, 2], []⟩))
def k_cascaderef03_few_2 : KC := (.seq (.reg [
rq 17 (.move (.t 5)),
rq 18 (.faddr 3 (.t 2)),
rq 19 (.load false 1 (.t 18)),
rq 20 (.len .sl (.t 19)),
rq 21 (.bin .lss (.t 17) (.t 20)),
rq 22 (.move (.t 21)),
rqg 23 22 true (.move (.t 1)),
rqg 24 22 true (.bin .geq (.t 23) (.c (.int .i64 0))),
rq 25 (.pick (.t 22) (.t 24) (.c (.bool false)))]
  (.cond (.t 25)
  .skip
  (.exit 0)))
  ⟨3, [1, 2, 5], []⟩)
def k_cascaderef03_few_3 : KC := (.seq (.block 1 (.lreg [
rq 28 (.faddr 3 (.t 2)),
rq 29 (.load false 1 (.t 28)),
rq 30 (.move (.t 5)),
rq 31 (.iaddr 5 (.t 29) (.t 30)),
rq 32 (.load true 5 (.t 31)),
rq 33 (.move (.t 1)),
rq 34 (.call .pur F.cascaderef03_few [(.t 32), (.t 33)]),
rq 1 (.move (.t 34))]))
  ⟨4, [1, 2, 5], []⟩)
def k_cascaderef03_few_4 : KC := (.lreg [
rq 26 (.move (.t 5)),
rq 27 (.bin .add (.t 26) (.c (.int .i64 1))),
rq 5 (.move (.t 27))])
def k_cascaderef03_few_5 : KC := (.seq (.reg [
rq 6 (.move (.c (.int .i64 0)))]
  (.block 2 (.loop ⟨6, [1, 2, 6], []⟩)))
  ⟨10, [1], []⟩)
def k_cascaderef03_few_6 : KC := (.seq (.reg [
rq 35 (.move (.t 6)),
rq 36 (.faddr 4 (.t 2)),
rq 37 (.load false 1 (.t 36)),
rq 38 (.len .sl (.t 37)),
rq 39 (.bin .lss (.t 35) (.t 38)),
rq 40 (.move (.t 39)),
rqg 41 40 true (.move (.t 1)),
rqg 42 40 true (.bin .geq (.t 41) (.c (.int .i64 0))),
rq 43 (.pick (.t 40) (.t 42) (.c (.bool false)))]
  (.cond (.t 43)
  .skip
  (.exit 2)))
  ⟨7, [1, 2, 6], []⟩)
def k_cascaderef03_few_7 : KC := (.seq (.block 3 (.seq (.reg [
rq 46 (.faddr 4 (.t 2)),
rq 47 (.load false 1 (.t 46)),
rq 48 (.move (.t 6)),
rq 49 (.iaddr 6 (.t 47) (.t 48)),
rq 50 (.faddr 0 (.t 49)),
rq 51 (.load false 1 (.t 50)),
rq 52 (.len .str (.t 51)),
rq 53 (.bin .gtr (.t 52) (.c (.int .i64 500)))]
  (.cond (.t 53)
  (.reg [
rq 4 (.move (.c (.int .i64 (-1))))]
  .ret)
  .skip))
  ⟨8, [1, 2, 6], []⟩))
  ⟨9, [1, 2, 6], []⟩)
def k_cascaderef03_few_8 : KC := (.lreg [
rq 54 (.faddr 4 (.t 2)),
rq 55 (.load false 1 (.t 54)),
rq 56 (.move (.t 6)),
rq 57 (.iaddr 6 (.t 55) (.t 56)),
rq 58 (.faddr 1 (.t 57)),
rq 59 (.load true 5 (.t 58)),
rq 60 (.move (.t 1)),
rq 61 (.call .pur F.cascaderef03_few [(.t 59), (.t 60)]),
rq 1 (.move (.t 61))])
def k_cascaderef03_few_9 : KC := (.lreg [
rq 44 (.move (.t 6)),
rq 45 (.bin .add (.t 44) (.c (.int .i64 1))),
rq 6 (.move (.t 45))])
def k_cascaderef03_few_10 : KC := (.reg [
rq 62 (.move (.t 1)),
rq 4 (.move (.t 62))]
  .ret)
def r_cascaderef03_few : KF where
  np := 2
  res := [.tmp 4]
  code := [k_cascaderef03_few_0, k_cascaderef03_few_1, k_cascaderef03_few_2, k_cascaderef03_few_3, k_cascaderef03_few_4, k_cascaderef03_few_5, k_cascaderef03_few_6, k_cascaderef03_few_7, k_cascaderef03_few_8, k_cascaderef03_few_9, k_cascaderef03_few_10]
def k_cascaderef03_Few_0 : KC := (.reg [
rq 2 (.ibox (.t 0)),
rq 4 (.move (.c (.bool false)))]
  (.reg [
rq 5 (.load true 5 (.t 2)),
rq 6 (.move (.t 1)),
rq 7 (.call .pur F.cascaderef03_few [(.t 5), (.t 6)]),
rq 8 (.bin .geq (.t 7) (.c (.int .i64 0))),
rq 4 (.move (.t 8))]
  .ret))
def r_cascaderef03_Few : KF where
  np := 2
  res := [.tmp 4]
  code := [k_cascaderef03_Few_0]
def k_dyn_to_0 : KC := (.reg [
rq 1 (.ibox (.t 0)),
rq 2 (.move (.c .nili))]
  (.seq (.reg [
rq 9 (.faddr 0 (.t 1)),
rq 10 (.load false 1 (.t 9))]
  (.block 0 (.reg [
rq 12 (.bin .eql (.t 10) (.c (.int .i64 1))),
rq 11 (.move (.t 12))]
  (.cond (.t 11)
  (.reg [
rq 13 (.faddr 1 (.t 1)),
rq 14 (.load false 1 (.t 13)),
rq 15 (.bin .eql (.t 14) (.c (.int .i64 1))),
rq 16 (.mkI 4 (.t 15)),
rq 2 (.move (.t 16))]
  .ret)
  (.reg [
rq 18 (.bin .eql (.t 10) (.c (.int .i64 2))),
rq 17 (.move (.t 18))]
  (.cond (.t 17)
  (.reg [
rq 19 (.faddr 1 (.t 1)),
rq 20 (.load false 1 (.t 19)),
rq 21 (.mkI 2 (.t 20)),
rq 2 (.move (.t 21))]
  .ret)
  (.reg [
rq 23 (.bin .eql (.t 10) (.c (.int .i64 3))),
rq 22 (.move (.t 23))]
  (.cond (.t 22)
  (.reg [
rq 24 (.faddr 2 (.t 1)),
rq 25 (.load false 1 (.t 24)),
rq 26 (.mkI 9 (.t 25)),
rq 2 (.move (.t 26))]
  .ret)
  (.reg [
rq 28 (.bin .eql (.t 10) (.c (.int .i64 4))),
rq 27 (.move (.t 28))]
  (.cond (.t 27)
  (.reg [
rq 29 (.lit 1 []),
rq 3 (.move (.t 29))]
  (.seq (.reg [
rq 30 (.faddr 3 (.t 1)),
rq 31 (.load false 1 (.t 30)),
rq 32 (.len .sl (.t 31)),
rq 33 (.move (.c (.int .i64 0)))]
  (.block 1 (.loop ⟨1, [3, 31, 32, 33], [[29]]⟩)))
  ⟨4, [3], [[29]]⟩))
  (.reg [
rq 46 (.bin .eql (.t 10) (.c (.int .i64 5))),
rq 45 (.move (.t 46))]
  (.cond (.t 45)
  (.reg [
rq 47 (.lit 2 []),
rq 6 (.move (.t 47))]
  (.seq (.reg [
rq 48 (.faddr 4 (.t 1)),
rq 49 (.load false 1 (.t 48)),
rq 50 (.len .sl (.t 49)),
rq 51 (.move (.c (.int .i64 0)))]
  (.block 3 (.loop ⟨5, [6, 49, 50, 51], [[47]]⟩)))
  ⟨8, [6], [[47]]⟩))
  .skip))))))))))))
  ⟨9, [], []⟩))
def k_dyn_to_1 : KC := (.reg [
rq 34 (.bin .lss (.t 33) (.t 32))]
  (.seq (.cond (.t 34)
  .skip
  (.exit 1))
  ⟨2, [3, 31, 32, 33], [[29]]⟩))
def k_dyn_to_2 : KC := (.seq (.block 2 (.reg [
rq 35 (.iaddr 5 (.t 31) (.t 33)),
rq 36 (.load true 5 (.t 35)),
rq 5 (.alloc [(.int .i64 0), (.int .i64 0), (.str []), (.sl []), (.sl [])]),
rz (.store 5 (.t 5) (.t 36))]
  (.lreg [
rq 37 (.move (.t 3)),
rq 38 (.load true 5 (.t 5)),
rq 39 (.call .pur F.dyn_to [(.t 38)]),
rq 40 (.ilit 1 [(.t 39)]),
rq 41 (.app 1 16 (.t 37) (.t 40)),
rq 3 (.move (.t 41))])))
  ⟨3, [3, 31, 32, 33], [[29]]⟩)
def k_dyn_to_3 : KC := (.lreg [
rq 42 (.bin .add (.t 33) (.c (.int .i64 1))),
rq 33 (.move (.t 42))])
def k_dyn_to_4 : KC := (.reg [
rq 43 (.move (.t 3)),
rq 44 (.mkI 42 (.t 43)),
rq 2 (.move (.t 44))]
  .ret)
def k_dyn_to_5 : KC := (.reg [
rq 52 (.bin .lss (.t 51) (.t 50))]
  (.seq (.cond (.t 52)
  .skip
  (.exit 3))
  ⟨6, [6, 49, 50, 51], [[47]]⟩))
def k_dyn_to_6 : KC := (.seq (.block 4 (.reg [
rq 53 (.iaddr 6 (.t 49) (.t 51)),
rq 54 (.load true 6 (.t 53)),
rq 8 (.alloc [(.str []), (.int .i64 0), (.int .i64 0), (.str []), (.sl []), (.sl [])]),
rz (.store 6 (.t 8) (.t 54))]
  (.ldreg [
rq 55 (.move (.t 6)),
rq 56 (.faddr 0 (.t 8)),
rq 57 (.load false 1 (.t 56)),
rq 58 (.faddr 1 (.t 8)),
rq 59 (.load true 5 (.t 58)),
rq 60 (.call .pur F.dyn_to [(.t 59)]),
rq 61 (.build [(.str []), .nili] [(0, 1, (.t 57)), (1, 1, (.t 60))]),
rq 62 (.ilit 2 [(.t 61)])] [
rq 63 (.app 2 32 (.t 55) (.t 62)),
rq 6 (.move (.t 63))])))
  ⟨7, [6, 49, 50, 51], [[47]]⟩)
def k_dyn_to_7 : KC := (.lreg [
rq 64 (.bin .add (.t 51) (.c (.int .i64 1))),
rq 51 (.move (.t 64))])
def k_dyn_to_8 : KC := (.reg [
rq 65 (.move (.t 6)),
rq 66 (.mkI 44 (.t 65)),
rq 2 (.move (.t 66))]
  .ret)
def k_dyn_to_9 : KC := (.reg [
rq 2 (.move (.c .nili))]
  .ret)
def r_dyn_to : KF where
  np := 1
  res := [.tmp 2]
  code := [k_dyn_to_0, k_dyn_to_1, k_dyn_to_2, k_dyn_to_3, k_dyn_to_4, k_dyn_to_5, k_dyn_to_6, k_dyn_to_7, k_dyn_to_8, k_dyn_to_9]
def k_dyn_Odd_0 : KC := (.reg [
rq 1 (.ibox (.t 0)),
rq 2 (.move (.c .nili))]
  (.seq (.reg [
rq 9 (.faddr 0 (.t 1)),
rq 10 (.load false 1 (.t 9))]
  (.block 0 (.reg [
rq 12 (.bin .eql (.t 10) (.c (.int .i64 4))),
rq 11 (.move (.t 12))]
  (.cond (.t 11)
  (.reg [
rq 13 (.lit 1 []),
rq 3 (.move (.t 13))]
  (.seq (.reg [
rq 14 (.faddr 3 (.t 1)),
rq 15 (.load false 1 (.t 14)),
rq 16 (.len .sl (.t 15)),
rq 17 (.move (.c (.int .i64 0)))]
  (.block 1 (.loop ⟨1, [3, 15, 16, 17], [[13]]⟩)))
  ⟨4, [3], [[13]]⟩))
  (.reg [
rq 30 (.bin .eql (.t 10) (.c (.int .i64 5))),
rq 29 (.move (.t 30))]
  (.cond (.t 29)
  (.reg [
rq 31 (.lit 2 []),
rq 6 (.move (.t 31))]
  (.seq (.reg [
rq 32 (.faddr 4 (.t 1)),
rq 33 (.load false 1 (.t 32)),
rq 34 (.len .sl (.t 33)),
rq 35 (.move (.c (.int .i64 0)))]
  (.block 3 (.loop ⟨5, [6, 33, 34, 35], [[31]]⟩)))
  ⟨8, [6], [[31]]⟩))
  (.reg [
rq 52 (.bin .eql (.t 10) (.c (.int .i64 9))),
rq 51 (.move (.t 52))]
  (.cond (.t 51)
  (.reg [
rq 53 (.faddr 1 (.t 1)),
rq 54 (.load false 1 (.t 53)),
rq 55 (.mkI 3 (.t 54)),
rq 2 (.move (.t 55))]
  .ret)
  (.reg [
rq 57 (.bin .eql (.t 10) (.c (.int .i64 10))),
rq 56 (.move (.t 57))]
  (.cond (.t 56)
  (.reg [
rq 58 (.faddr 1 (.t 1)),
rq 59 (.load false 1 (.t 58)),
rq 60 (.conv .flt (.t 59)),
rq 61 (.mkI 49 (.t 60)),
rq 2 (.move (.t 61))]
  .ret)
  (.reg [
rq 63 (.bin .eql (.t 10) (.c (.int .i64 11))),
rq 62 (.move (.t 63))]
  (.cond (.t 62)
  (.reg [
rq 64 (.mkI 42 (.c (.sl []))),
rq 2 (.move (.t 64))]
  .ret)
  (.reg [
rq 66 (.bin .eql (.t 10) (.c (.int .i64 12))),
rq 65 (.move (.t 66))]
  (.cond (.t 65)
  (.reg [
rq 67 (.mkI 44 (.c (.sl []))),
rq 2 (.move (.t 67))]
  .ret)
  .skip))))))))))))))
  ⟨9, [1], []⟩))
def k_dyn_Odd_1 : KC := (.reg [
rq 18 (.bin .lss (.t 17) (.t 16))]
  (.seq (.cond (.t 18)
  .skip
  (.exit 1))
  ⟨2, [3, 15, 16, 17], [[13]]⟩))
def k_dyn_Odd_2 : KC := (.seq (.block 2 (.reg [
rq 19 (.iaddr 5 (.t 15) (.t 17)),
rq 20 (.load true 5 (.t 19)),
rq 5 (.alloc [(.int .i64 0), (.int .i64 0), (.str []), (.sl []), (.sl [])]),
rz (.store 5 (.t 5) (.t 20))]
  (.lreg [
rq 21 (.move (.t 3)),
rq 22 (.load true 5 (.t 5)),
rq 23 (.call .pur F.dyn_Odd [(.t 22)]),
rq 24 (.ilit 1 [(.t 23)]),
rq 25 (.app 1 16 (.t 21) (.t 24)),
rq 3 (.move (.t 25))])))
  ⟨3, [3, 15, 16, 17], [[13]]⟩)
def k_dyn_Odd_3 : KC := (.lreg [
rq 26 (.bin .add (.t 17) (.c (.int .i64 1))),
rq 17 (.move (.t 26))])
def k_dyn_Odd_4 : KC := (.reg [
rq 27 (.move (.t 3)),
rq 28 (.mkI 42 (.t 27)),
rq 2 (.move (.t 28))]
  .ret)
def k_dyn_Odd_5 : KC := (.reg [
rq 36 (.bin .lss (.t 35) (.t 34))]
  (.seq (.cond (.t 36)
  .skip
  (.exit 3))
  ⟨6, [6, 33, 34, 35], [[31]]⟩))
def k_dyn_Odd_6 : KC := (.seq (.block 4 (.reg [
rq 37 (.iaddr 6 (.t 33) (.t 35)),
rq 38 (.load true 6 (.t 37)),
rq 8 (.alloc [(.str []), (.int .i64 0), (.int .i64 0), (.str []), (.sl []), (.sl [])]),
rz (.store 6 (.t 8) (.t 38))]
  (.ldreg [
rq 39 (.move (.t 6)),
rq 40 (.faddr 0 (.t 8)),
rq 41 (.load false 1 (.t 40)),
rq 42 (.faddr 1 (.t 8)),
rq 43 (.load true 5 (.t 42)),
rq 44 (.call .pur F.dyn_Odd [(.t 43)]),
rq 45 (.build [(.str []), .nili] [(0, 1, (.t 41)), (1, 1, (.t 44))]),
rq 46 (.ilit 2 [(.t 45)])] [
rq 47 (.app 2 32 (.t 39) (.t 46)),
rq 6 (.move (.t 47))])))
  ⟨7, [6, 33, 34, 35], [[31]]⟩)
def k_dyn_Odd_7 : KC := (.lreg [
rq 48 (.bin .add (.t 35) (.c (.int .i64 1))),
rq 35 (.move (.t 48))])
def k_dyn_Odd_8 : KC := (.reg [
rq 49 (.move (.t 6)),
rq 50 (.mkI 44 (.t 49)),
rq 2 (.move (.t 50))]
  .ret)
def k_dyn_Odd_9 : KC := (.reg [
rq 68 (.load true 5 (.t 1)),
rq 69 (.call .pur F.dyn_to [(.t 68)]),
rq 2 (.move (.t 69))]
  .ret)
def r_dyn_Odd : KF where
  np := 1
  res := [.tmp 2]
  code := [k_dyn_Odd_0, k_dyn_Odd_1, k_dyn_Odd_2, k_dyn_Odd_3, k_dyn_Odd_4, k_dyn_Odd_5, k_dyn_Odd_6, k_dyn_Odd_7, k_dyn_Odd_8, k_dyn_Odd_9]
def k_dyn_caught_0 : KC := (.reg [
rq 2 (.move (.c (.int .i64 0)))]
  (.seq (.reg [
rq 3 (.move (.t 0))]
  (.block 0 (.reg [
rq 4 (.eq false .iface (.t 3) (.c .nili))]
  (.cond (.t 4)
  (.reg [
rq 2 (.move (.c (.int .i64 0)))]
  .ret)
  (.reg [
rq 5 (.tassert (.agg []) 52 true (.t 3)),
rq 6 (.extract (.t 5) 1),
rq 7 (.extract (.t 5) 0)]
  (.cond (.t 6)
  (.reg [
rq 2 (.move (.c (.int .i64 6)))]
  .ret)
  .skip))))))
  ⟨1, [], []⟩))
def k_dyn_caught_1 : KC := (.reg [
rq 2 (.move (.c (.int .i64 1)))]
  .ret)
def r_dyn_caught : KF where
  np := 1
  res := [.tmp 2]
  code := [k_dyn_caught_0, k_dyn_caught_1]
def k_dyn_Texts_1_h_0 : KC := (.reg [
rq 3 (.call .pur F.dyn_caught [(.t 2)]),
rz (.store 1 (.t 0) (.t 3))]
  (.reg [
rq 4 (.load false 1 (.t 0)),
rq 5 (.bin .neq (.t 4) (.c (.int .i64 0)))]
  (.cond (.t 5)
  (.lreg [
rz (.store 1 (.t 1) (.c (.sl [])))])
  .skip)))
def r_dyn_Texts_1_h : KF where
  np := 3
  res := []
  hnd := some 2
  code := [k_dyn_Texts_1_h_0]
def k_dyn_Texts_0 : KC := (.reg [
rq 2 (.allocv [.nils] [(0, 1)]),
rq 3 (.alloc [(.int .i64 0)])]
  (.reg [
rq 6 (.move (.c .any))]
  (.seq (.reg [
rq 7 (.move (.t 0)),
rq 8 (.tasp 15 42 (.t 7)),
rq 9 (.len .sl (.t 8)),
rq 10 (.move (.c (.int .i64 0)))]
  (.block 0 (.loop ⟨1, [2, 3, 8, 9, 10], [[2], [2, 0], [3]]⟩)))
  ⟨4, [2, 3], [[2], [2, 0], [3]]⟩)))
def k_dyn_Texts_1 : KC := (.reg [
rq 11 (.bin .lss (.t 10) (.t 9))]
  (.seq (.cond (.t 11)
  .skip
  (.exit 0))
  ⟨2, [2, 3, 8, 9, 10], [[2], [2, 0], [3]]⟩))
def k_dyn_Texts_2 : KC := (.seq (.block 1 (.reg [
rq 12 (.iaddr 1 (.t 8) (.t 10)),
rq 13 (.load false 1 (.t 12)),
rq 5 (.move (.t 13))]
  (.ldpan [
rq 14 (.load false 1 (.t 2)),
rq 15 (.move (.t 5)),
rq 16 (.tasp 15 9 (.t 15)),
rq 17 (.ilit 1 [(.t 16)])] 2 [
rq 18 (.app 1 16 (.t 14) (.t 17)),
rz (.store 1 (.t 2) (.t 18))])))
  ⟨3, [2, 3, 8, 9, 10], [[2], [2, 0], [3]]⟩)
def k_dyn_Texts_3 : KC := (.lreg [
rq 19 (.bin .add (.t 10) (.c (.int .i64 1))),
rq 10 (.move (.t 19))])
def k_dyn_Texts_4 : KC := (.reg [
rq 20 (.load false 1 (.t 2)),
rz (.store 1 (.t 2) (.t 20)),
rz (.store 1 (.t 3) (.c (.int .i64 0)))]
  .ret)
def r_dyn_Texts : KF where
  np := 1
  res := [.grd 1000014 [3, 2] [.frz [2] 0 [2, 0] [2, 3] [[2], [3]]], .cell 2 false 1, .cell 3 false 1]
  code := [k_dyn_Texts_0, k_dyn_Texts_1, k_dyn_Texts_2, k_dyn_Texts_3, k_dyn_Texts_4]
def k_cascaderef04_Texts_0 : KC := (.reg [
rq 1 (.ibox (.t 0)),
rq 2 (.move (.c (.sl []))),
rq 3 (.move (.c (.bool false)))]
  (.reg [
rq 4 (.vnil 1)]
  (.seq (.reg [
rq 6 (.faddr 0 (.t 1)),
rq 7 (.load false 1 (.t 6)),
rq 8 (.bin .neq (.t 7) (.c (.int .i64 4))),
rq 9 (.move (.t 8)),
rqg 10 9 true (.faddr 0 (.t 1)),
rqg 11 9 true (.load false 1 (.t 10)),
rqg 12 9 true (.bin .neq (.t 11) (.c (.int .i64 11))),
rq 13 (.pick (.t 9) (.t 12) (.c (.bool false)))]
  (.cond (.t 13)
  (.reg [
rq 14 (.move (.t 4)),
rq 2 (.move (.t 14)),
rq 3 (.move (.c (.bool false)))]
  .ret)
  .skip))
  ⟨1, [1, 4], [[4]]⟩)))
def k_cascaderef04_Texts_1 : KC := (.seq (.reg [
rq 15 (.faddr 0 (.t 1)),
rq 16 (.load false 1 (.t 15)),
rq 17 (.bin .eql (.t 16) (.c (.int .i64 11)))]
  (.cond (.t 17)
  (.reg [
rq 18 (.move (.t 4)),
rq 2 (.move (.t 18)),
rq 3 (.move (.c (.bool true)))]
  .ret)
  .skip))
  ⟨2, [1, 4], [[4]]⟩)
def k_cascaderef04_Texts_2 : KC := (.seq (.reg [
rq 5 (.move (.c (.int .i64 0)))]
  (.block 0 (.loop ⟨3, [1, 4, 5], [[4]]⟩)))
  ⟨7, [4], [[4]]⟩)
def k_cascaderef04_Texts_3 : KC := (.seq (.reg [
rq 19 (.move (.t 5)),
rq 20 (.faddr 3 (.t 1)),
rq 21 (.load false 1 (.t 20)),
rq 22 (.len .sl (.t 21)),
rq 23 (.bin .lss (.t 19) (.t 22))]
  (.cond (.t 23)
  .skip
  (.exit 0)))
  ⟨4, [1, 4, 5], [[4]]⟩)
def k_cascaderef04_Texts_4 : KC := (.seq (.block 1 (.seq (.reg [
rq 26 (.faddr 3 (.t 1)),
rq 27 (.load false 1 (.t 26)),
rq 28 (.move (.t 5)),
rq 29 (.iaddr 5 (.t 27) (.t 28)),
rq 30 (.faddr 0 (.t 29)),
rq 31 (.load false 1 (.t 30)),
rq 32 (.bin .neq (.t 31) (.c (.int .i64 3)))]
  (.cond (.t 32)
  (.reg [
rq 2 (.move (.c (.sl []))),
rq 3 (.move (.c (.bool false)))]
  .ret)
  .skip))
  ⟨5, [1, 4, 5], [[4]]⟩))
  ⟨6, [1, 4, 5], [[4]]⟩)
def k_cascaderef04_Texts_5 : KC := (.lreg [
rq 33 (.move (.t 4)),
rq 34 (.faddr 3 (.t 1)),
rq 35 (.load false 1 (.t 34)),
rq 36 (.move (.t 5)),
rq 37 (.iaddr 5 (.t 35) (.t 36)),
rq 38 (.faddr 2 (.t 37)),
rq 39 (.load false 1 (.t 38)),
rq 40 (.ilit 1 [(.t 39)]),
rq 41 (.app 1 16 (.t 33) (.t 40)),
rq 4 (.move (.t 41))])
def k_cascaderef04_Texts_6 : KC := (.lreg [
rq 24 (.move (.t 5)),
rq 25 (.bin .add (.t 24) (.c (.int .i64 1))),
rq 5 (.move (.t 25))])
def k_cascaderef04_Texts_7 : KC := (.reg [
rq 42 (.move (.t 4)),
rq 2 (.move (.t 42)),
rq 3 (.move (.c (.bool true)))]
  .ret)
def r_cascaderef04_Texts : KF where
  np := 1
  res := [.tmps 2, .tmp 3]
  code := [k_cascaderef04_Texts_0, k_cascaderef04_Texts_1, k_cascaderef04_Texts_2, k_cascaderef04_Texts_3, k_cascaderef04_Texts_4, k_cascaderef04_Texts_5, k_cascaderef04_Texts_6, k_cascaderef04_Texts_7]
def k_cascadelaw04_DynTexts_0 : KC := (.reg [
rq 1 (.ibox (.t 0)),
rq 2 (.move (.c (.bool false)))]
  (.seq (.reg [
rq 8 (.call .pur F.cascadelaw04_awake []),
rq 9 (.un .not (.t 8)),
rq 10 (.move (.t 9)),
rqg 11 10 false (.load true 5 (.t 1)),
rqg 12 10 false (.call .pur F.cascaderef03_Few [(.t 11), (.c (.int .i64 60))]),
rqg 13 10 false (.un .not (.t 12)),
rq 14 (.pick (.t 10) (.c (.bool true)) (.t 13))]
  (.cond (.t 14)
  (.reg [
rq 15 (.call .pur F.cascadelaw04_awake []),
rq 2 (.move (.t 15))]
  .ret)
  .skip))
  ⟨1, [1], []⟩))
def k_cascadelaw04_DynTexts_1 : KC := (.reg [
rq 17 (.load true 5 (.t 1)),
rq 18 (.call .pur F.dyn_Odd [(.t 17)]),
rq 19 (.call .pur F.dyn_Texts [(.t 18)]),
rq 16 (.move (.t 19)),
rq 20 (.extract (.t 16) 0),
rq 21 (.extract (.t 16) 1),
rq 3 (.move (.t 20)),
rq 4 (.move (.t 21))]
  (.reg [
rq 23 (.load true 5 (.t 1)),
rq 24 (.call .pur F.cascaderef04_Texts [(.t 23)]),
rq 22 (.move (.t 24)),
rq 25 (.extract (.t 22) 0),
rq 26 (.extract (.t 22) 1),
rq 5 (.move (.t 25)),
rq 6 (.move (.t 26))]
  (.seq (.reg [
rq 27 (.move (.t 4)),
rq 28 (.bin .eql (.t 27) (.c (.int .i64 0))),
rq 29 (.move (.t 6)),
rq 30 (.eq true .bool (.t 28) (.t 29)),
rq 31 (.move (.t 30)),
rqg 32 31 false (.move (.t 4)),
rqg 33 31 false (.bin .eql (.t 32) (.c (.int .i64 1))),
rqg 34 31 false (.move (.t 6)),
rqg 35 31 false (.eq false .bool (.t 33) (.t 34)),
rq 36 (.pick (.t 31) (.c (.bool true)) (.t 35)),
rq 37 (.move (.t 36)),
rqg 38 37 false (.move (.t 3)),
rqg 39 37 false (.len .sl (.t 38)),
rqg 40 37 false (.move (.t 5)),
rqg 41 37 false (.len .sl (.t 40)),
rqg 42 37 false (.bin .neq (.t 39) (.t 41)),
rq 43 (.pick (.t 37) (.c (.bool true)) (.t 42))]
  (.cond (.t 43)
  (.reg [
rq 2 (.move (.c (.bool false)))]
  .ret)
  .skip))
  ⟨2, [3, 5], []⟩)))
def k_cascadelaw04_DynTexts_2 : KC := (.seq (.reg [
rq 7 (.move (.c (.int .i64 0)))]
  (.block 0 (.loop ⟨3, [3, 5, 7], []⟩)))
  ⟨6, [], []⟩)
def k_cascadelaw04_DynTexts_3 : KC := (.seq (.reg [
rq 44 (.move (.t 7)),
rq 45 (.move (.t 3)),
rq 46 (.len .sl (.t 45)),
rq 47 (.bin .lss (.t 44) (.t 46))]
  (.cond (.t 47)
  .skip
  (.exit 0)))
  ⟨4, [3, 5, 7], []⟩)
def k_cascadelaw04_DynTexts_4 : KC := (.seq (.block 1 (.dreg [
rq 50 (.move (.t 3)),
rq 51 (.move (.t 7)),
rq 52 (.iaddr 1 (.t 50) (.t 51)),
rq 53 (.load false 1 (.t 52)),
rq 54 (.move (.t 5)),
rq 55 (.move (.t 7)),
rq 56 (.iaddr 1 (.t 54) (.t 55)),
rq 57 (.load false 1 (.t 56)),
rq 58 (.bin .neq (.t 53) (.t 57))] []
  (.cond (.t 58)
  (.reg [
rq 2 (.move (.c (.bool false)))]
  .ret)
  .skip)))
  ⟨5, [3, 5, 7], []⟩)
def k_cascadelaw04_DynTexts_5 : KC := (.lreg [
rq 48 (.move (.t 7)),
rq 49 (.bin .add (.t 48) (.c (.int .i64 1))),
rq 7 (.move (.t 49))])
def k_cascadelaw04_DynTexts_6 : KC := (.reg [
rq 2 (.move (.c (.bool true)))]
  .ret)
def r_cascadelaw04_DynTexts : KF where
  np := 1
  res := [.tmp 2]
  code := [k_cascadelaw04_DynTexts_0, k_cascadelaw04_DynTexts_1, k_cascadelaw04_DynTexts_2, k_cascadelaw04_DynTexts_3, k_cascadelaw04_DynTexts_4, k_cascadelaw04_DynTexts_5, k_cascadelaw04_DynTexts_6]
def table : FuncId → Option KF
  | 3 => some r_cascadelaw04_DynTexts
  | 5 => some r_cascadelaw04_awake
  | 6 => some r_cascaderef03_Few
  | 7 => some r_dyn_Texts
  | 8 => some r_dyn_Odd
  | 9 => some r_cascaderef04_Texts
  | 12 => some r_dyn_Kind
  | 13 => some r_cascaderef03_few
  | 15 => some r_dyn_caught
  | 16 => some r_dyn_to
  | 1000014 => some r_dyn_Texts_1_h
  | _ => none
end Go.Abs.T
