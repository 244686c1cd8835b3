import Derived.Test.YtacabmodmbcldaaDoorAbsM
import Derived.Test.YtacabmodmbcldaaDoorXT
namespace Go.Abs.T
namespace F
abbrev zr : FuncId := 11
abbrev zs : FuncId := 14
abbrev zo : FuncId := 15
abbrev z7 : FuncId := 16
abbrev zbd : FuncId := 17
abbrev zcz : FuncId := 18
abbrev zcv : FuncId := 19
abbrev z3 : FuncId := 22
abbrev z0 : FuncId := 25
abbrev zcs : FuncId := 29
abbrev z2 : FuncId := 33
abbrev z8 : FuncId := 34
abbrev zcf : FuncId := 38
abbrev z6 : FuncId := 39
abbrev z9 : FuncId := 41
abbrev zx : FuncId := 49
abbrev zdu : FuncId := 50
abbrev zcw : FuncId := 51
abbrev zc8 : FuncId := 52
abbrev zfa : FuncId := 53
abbrev z4 : FuncId := 54
abbrev zc0 : FuncId := 59
abbrev ze6 : FuncId := 61
abbrev z5 : FuncId := 62
abbrev zbj : FuncId := 63
abbrev zc4 : FuncId := 64
abbrev zbi : FuncId := 66
abbrev zbh : FuncId := 67
abbrev zdw : FuncId := 68
abbrev zcg : FuncId := 69
abbrev zch : FuncId := 70
abbrev zdr : FuncId := 71
abbrev zds : FuncId := 73
abbrev zd2 : FuncId := 77
abbrev zz : FuncId := 79
abbrev zv : FuncId := 91
abbrev zd5 : FuncId := 92
abbrev ze5 : FuncId := 93
abbrev zfb : FuncId := 94
abbrev zfk : FuncId := 95
abbrev zfc : FuncId := 96
abbrev zfi : FuncId := 97
abbrev zfe : FuncId := 98
abbrev zdn : FuncId := 102
abbrev zc1 : FuncId := 103
abbrev zdl : FuncId := 104
abbrev zfh : FuncId := 105
abbrev zbb : FuncId := 106
abbrev zd7 : FuncId := 107
abbrev zy : FuncId := 123
abbrev ze3 : FuncId := 124
abbrev zfl : FuncId := 136
end F
def k_zcs_0 : KC := (.reg [
rq 2 (.alloc [(.str []), (.int .i64 0), (.bool false)])]
  (.reg [
rq 3 (.move (.t 0)),
rq 4 (.build [(.str []), (.int .i64 0), (.bool false)] [(1, 1, (.t 3)), (2, 1, (.c (.bool true)))]),
rz (.store 3 (.t 2) (.t 4))]
  .ret))
def r_zcs : KF where
  np := 1
  res := [.cell 2 true 3]
  code := [k_zcs_0]
def k_ze3_0 : KC := (.reg [
rq 2 (.move (.c (.int .i64 0)))]
  (.seq (.reg [
rq 7 (.move (.t 0)),
rq 8 (.range (.t 7))]
  (.block 0 (.loop ⟨1, [0, 8], [[8]]⟩)))
  ⟨4, [], []⟩))
def k_ze3_1 : KC := (.reg [
rq 9 (.next (.t 8)),
rq 10 (.extract (.t 9) 0)]
  (.seq (.cond (.t 10)
  .skip
  (.exit 0))
  ⟨2, [0, 8, 9], [[8]]⟩))
def k_ze3_2 : KC := (.block 1 (.reg [
rq 11 (.extract (.t 9) 1),
rq 12 (.extract (.t 9) 2),
rq 3 (.move (.t 11)),
rq 4 (.move (.t 12))]
  (.seq (.reg [
rq 13 (.move (.t 4)),
rq 14 (.bin .neq (.t 13) (.c (.int .i32 65533)))]
  (.cond (.t 14)
  (.exit 1)
  .skip))
  ⟨3, [0, 3, 8], [[8]]⟩)))
def k_ze3_3 : KC := (.reg [
rq 16 (.move (.t 0)),
rq 17 (.move (.t 3)),
rq 18 (.slice 0 (.t 16) (some (.t 17)) none),
rq 19 (.call .pur F.zfl [(.t 18)]),
rq 15 (.move (.t 19)),
rq 20 (.extract (.t 15) 0),
rq 21 (.extract (.t 15) 1),
rq 5 (.move (.t 20)),
rq 6 (.move (.t 21))]
  (.reg [
rq 22 (.move (.t 6)),
rq 23 (.bin .eql (.t 22) (.c (.int .i64 1)))]
  (.cond (.t 23)
  (.reg [
rq 24 (.move (.t 3)),
rq 2 (.move (.t 24))]
  .ret)
  .skip)))
def k_ze3_4 : KC := (.reg [
rq 2 (.move (.c (.int .i64 (-1))))]
  .ret)
def r_ze3 : KF where
  np := 1
  res := [.tmp 2]
  code := [k_ze3_0, k_ze3_1, k_ze3_2, k_ze3_3, k_ze3_4]
def k_ze5_0 : KC := (.reg [
rq 2 (.move (.c (.bool false)))]
  (.reg [
rq 3 (.move (.t 0)),
rq 4 (.call .pur F.ze3 [(.t 3)]),
rq 5 (.bin .lss (.t 4) (.c (.int .i64 0))),
rq 2 (.move (.t 5))]
  .ret))
def r_ze5 : KF where
  np := 1
  res := [.tmp 2]
  code := [k_ze5_0]
def k_zc8_0 : KC := (.reg [
rq 1 (.ibox (.t 0)),
rq 2 (.move (.c (.bool false)))]
  (.seq (.reg [
rq 3 (.faddr 2 (.t 1)),
rq 4 (.load false 1 (.t 3))]
  (.cond (.t 4)
  (.reg [
rq 5 (.faddr 0 (.t 1)),
rq 6 (.load false 1 (.t 5)),
rq 7 (.bin .eql (.t 6) (.c (.str []))),
rq 8 (.move (.t 7)),
rqg 9 8 true (.faddr 1 (.t 1)),
rqg 10 8 true (.load false 1 (.t 9)),
rqg 11 8 true (.bin .geq (.t 10) (.c (.int .i64 0))),
rq 12 (.pick (.t 8) (.t 11) (.c (.bool false))),
rq 13 (.move (.t 12)),
rqg 14 13 true (.faddr 1 (.t 1)),
rqg 15 13 true (.load false 1 (.t 14)),
rqg 16 13 true (.bin .leq (.t 15) (.c (.int .i64 9007199254740991))),
rq 17 (.pick (.t 13) (.t 16) (.c (.bool false))),
rq 2 (.move (.t 17))]
  .ret)
  .skip))
  ⟨1, [1], []⟩))
def k_zc8_1 : KC := (.reg [
rq 18 (.faddr 1 (.t 1)),
rq 19 (.load false 1 (.t 18)),
rq 20 (.bin .eql (.t 19) (.c (.int .i64 0))),
rq 21 (.move (.t 20)),
rqg 22 21 true (.faddr 0 (.t 1)),
rqg 23 21 true (.load false 1 (.t 22)),
rqg 24 21 true (.call .pur F.ze5 [(.t 23)]),
rq 25 (.pick (.t 21) (.t 24) (.c (.bool false))),
rq 2 (.move (.t 25))]
  .ret)
def r_zc8 : KF where
  np := 1
  res := [.tmp 2]
  code := [k_zc8_0, k_zc8_1]
def k_zcw_0 : KC := (.reg [
rq 1 (.ibox (.t 0)),
rq 2 (.move (.c (.bool false)))]
  (.reg [
rq 3 (.load true 3 (.t 1)),
rq 4 (.call .pur F.zc8 [(.t 3)]),
rq 5 (.un .not (.t 4)),
rq 2 (.move (.t 5))]
  .ret))
def r_zcw : KF where
  np := 1
  res := [.tmp 2]
  code := [k_zcw_0]
def k_zd5_0 : KC := (.reg [
rq 4 (.move (.c (.int .i64 0)))]
  (.seq (.reg [
rq 6 (.move (.t 0)),
rq 7 (.len .sl (.t 6)),
rq 8 (.move (.c (.int .i64 0)))]
  (.block 0 (.loop ⟨1, [0, 1, 7, 8], []⟩)))
  ⟨4, [], []⟩))
def k_zd5_1 : KC := (.reg [
rq 9 (.bin .lss (.t 8) (.t 7))]
  (.seq (.cond (.t 9)
  .skip
  (.exit 0))
  ⟨2, [0, 1, 7, 8], []⟩))
def k_zd5_2 : KC := (.seq (.block 1 (.reg [
rq 10 (.move (.t 8)),
rq 5 (.move (.t 10))]
  (.reg [
rq 11 (.move (.t 1)),
rq 12 (.move (.t 0)),
rq 13 (.move (.t 5)),
rq 14 (.iaddr 3 (.t 12) (.t 13)),
rq 15 (.load true 3 (.t 14)),
rq 16 (.callv .pur (.t 11) [(.t 15)])]
  (.cond (.t 16)
  (.reg [
rq 17 (.move (.t 5)),
rq 4 (.move (.t 17))]
  .ret)
  .skip))))
  ⟨3, [0, 1, 7, 8], []⟩)
def k_zd5_3 : KC := (.lreg [
rq 18 (.bin .add (.t 8) (.c (.int .i64 1))),
rq 8 (.move (.t 18))])
def k_zd5_4 : KC := (.reg [
rq 4 (.move (.c (.int .i64 (-1))))]
  .ret)
def r_zd5 : KF where
  np := 2
  res := [.tmp 4]
  code := [k_zd5_0, k_zd5_1, k_zd5_2, k_zd5_3, k_zd5_4]
def k_zdu_0 : KC := (.reg [
rq 4 (.move (.c (.bool false)))]
  (.reg [
rq 5 (.move (.t 0)),
rq 6 (.move (.t 1)),
rq 7 (.call .pur F.zd5 [(.t 5), (.t 6)]),
rq 8 (.bin .geq (.t 7) (.c (.int .i64 0))),
rq 4 (.move (.t 8))]
  .ret))
def r_zdu : KF where
  np := 2
  res := [.tmp 4]
  code := [k_zdu_0]
def k_zcv_0 : KC := (.reg [
rq 2 (.move (.c (.bool false)))]
  (.reg [
rq 3 (.move (.t 0)),
rq 4 (.len .sl (.t 3)),
rq 5 (.bin .leq (.t 4) (.c (.int .i64 30))),
rq 6 (.move (.t 5)),
rqg 7 6 true (.move (.t 0)),
rqg 8 6 true (.call .pur F.zdu [(.t 7), (.f F.zcw)]),
rqg 9 6 true (.un .not (.t 8)),
rq 10 (.pick (.t 6) (.t 9) (.c (.bool false))),
rq 2 (.move (.t 10))]
  .ret))
def r_zcv : KF where
  np := 1
  res := [.tmp 2]
  code := [k_zcv_0]
def k_zcz_0 : KC := (.reg [
rq 2 (.alloc [(.int .i64 0), (.int .i64 0), (.str []), (.sl []), (.sl [])]),
rq 3 (.move (.c (.int .i64 0)))]
  (.seq (.reg [
rq 7 (.move (.t 0)),
rq 8 (.call .pur F.zcv [(.t 7)]),
rq 9 (.un .not (.t 8))]
  (.cond (.t 9)
  (.reg [
rq 10 (.build [(.int .i64 0), (.int .i64 0), (.str []), (.sl []), (.sl [])] []),
rz (.store 5 (.t 2) (.t 10)),
rq 3 (.move (.c (.int .i64 1)))]
  .ret)
  .skip))
  ⟨1, [0, 2], [[2]]⟩))
def k_zcz_1 : KC := (.reg [
rq 11 (.build [(.int .i64 0), (.int .i64 0), (.str []), .nils, (.sl [])] [(0, 1, (.c (.int .i64 4)))]),
rq 4 (.alloc [(.int .i64 0), (.int .i64 0), (.str []), (.sl []), (.sl [])]),
rz (.store 5 (.t 4) (.t 11))]
  (.adj (.virt [4] 3 5 [4, 3]) (.seq (.reg [
rq 12 (.move (.t 0)),
rq 13 (.len .sl (.t 12)),
rq 14 (.move (.c (.int .i64 0)))]
  (.block 0 (.loop ⟨2, [2, 4, 12, 13, 14], [[2], [4], [4, 3]]⟩)))
  ⟨5, [2, 4], [[2], [4], [4, 3]]⟩)))
def k_zcz_2 : KC := (.reg [
rq 15 (.bin .lss (.t 14) (.t 13))]
  (.seq (.cond (.t 15)
  .skip
  (.exit 0))
  ⟨3, [2, 4, 12, 13, 14], [[2], [4], [4, 3]]⟩))
def k_zcz_3 : KC := (.seq (.block 1 (.reg [
rq 16 (.iaddr 3 (.t 12) (.t 14)),
rq 17 (.load true 3 (.t 16)),
rq 6 (.alloc [(.str []), (.int .i64 0), (.bool false)]),
rz (.store 3 (.t 6) (.t 17))]
  (.reg [
rq 18 (.faddr 2 (.t 6)),
rq 19 (.load false 1 (.t 18))]
  (.cond (.t 19)
  (.lreg [
rq 20 (.faddr 3 (.t 4)),
rq 21 (.load false 1 (.t 20)),
rq 22 (.faddr 1 (.t 6)),
rq 23 (.load false 1 (.t 22)),
rq 24 (.build [(.int .i64 0), (.int .i64 0), (.str []), (.sl []), (.sl [])] [(0, 1, (.c (.int .i64 2))), (1, 1, (.t 23))]),
rq 25 (.ilit 5 [(.t 24)]),
rq 26 (.app 5 80 (.t 21) (.t 25)),
rq 27 (.faddr 3 (.t 4)),
rz (.store 1 (.t 27) (.t 26))])
  (.lreg [
rq 28 (.faddr 3 (.t 4)),
rq 29 (.load false 1 (.t 28)),
rq 30 (.faddr 0 (.t 6)),
rq 31 (.load false 1 (.t 30)),
rq 32 (.build [(.int .i64 0), (.int .i64 0), (.str []), (.sl []), (.sl [])] [(0, 1, (.c (.int .i64 3))), (2, 1, (.t 31))]),
rq 33 (.ilit 5 [(.t 32)]),
rq 34 (.app 5 80 (.t 29) (.t 33)),
rq 35 (.faddr 3 (.t 4)),
rz (.store 1 (.t 35) (.t 34))])))))
  ⟨4, [2, 4, 12, 13, 14], [[2], [4], [4, 3]]⟩)
def k_zcz_4 : KC := (.lreg [
rq 36 (.bin .add (.t 14) (.c (.int .i64 1))),
rq 14 (.move (.t 36))])
def k_zcz_5 : KC := (.reg [
rq 37 (.load true 5 (.t 4)),
rz (.store 5 (.t 2) (.t 37)),
rq 3 (.move (.c (.int .i64 0)))]
  .ret)
def r_zcz : KF where
  np := 1
  res := [.cell 2 true 5, .tmp 3]
  code := [k_zcz_0, k_zcz_1, k_zcz_2, k_zcz_3, k_zcz_4, k_zcz_5]
def k_zo_0 : KC := (.reg [
rq 0 (.move (.c (.bool false)))]
  (.reg [
rq 4 (.call .pur F.zcs [(.c (.int .i64 3))]),
rq 5 (.ilit 3 [(.t 4)]),
rq 6 (.call .pur F.zcz [(.t 5)]),
rq 3 (.move (.t 6)),
rq 7 (.extract (.t 3) 0),
rq 8 (.extract (.t 3) 1),
rq 1 (.alloc [(.int .i64 0), (.int .i64 0), (.str []), (.sl []), (.sl [])]),
rz (.store 5 (.t 1) (.t 7)),
rq 2 (.move (.t 8))]
  (.reg [
rq 9 (.move (.t 2)),
rq 10 (.bin .eql (.t 9) (.c (.int .i64 0))),
rq 11 (.move (.t 10)),
rqg 12 11 true (.faddr 3 (.t 1)),
rqg 13 11 true (.load false 1 (.t 12)),
rqg 14 11 true (.len .sl (.t 13)),
rqg 15 11 true (.bin .eql (.t 14) (.c (.int .i64 1))),
rq 16 (.pick (.t 11) (.t 15) (.c (.bool false))),
rq 17 (.move (.t 16)),
rqg 18 17 true (.faddr 3 (.t 1)),
rqg 19 17 true (.load false 1 (.t 18)),
rqg 20 17 true (.iaddr 5 (.t 19) (.c (.int .i64 0))),
rqg 21 17 true (.faddr 1 (.t 20)),
rqg 22 17 true (.load false 1 (.t 21)),
rqg 23 17 true (.bin .eql (.t 22) (.c (.int .i64 3))),
rq 24 (.pick (.t 17) (.t 23) (.c (.bool false))),
rq 0 (.move (.t 24))]
  .ret)))
def r_zo : KF where
  np := 0
  res := [.tmp 0]
  code := [k_zo_0]
def k_z4_0 : KC := (.reg [
rq 2 (.ibox (.t 0)),
rq 4 (.move (.c (.int .i64 0)))]
  (.seq (.reg [
rq 7 (.move (.t 1)),
rq 8 (.bin .lss (.t 7) (.c (.int .i64 1))),
rq 9 (.move (.t 8)),
rqg 10 9 false (.faddr 2 (.t 2)),
rqg 11 9 false (.load false 1 (.t 10)),
rqg 12 9 false (.len .str (.t 11)),
rqg 13 9 false (.bin .gtr (.t 12) (.c (.int .i64 500))),
rq 14 (.pick (.t 9) (.c (.bool true)) (.t 13))]
  (.cond (.t 14)
  (.reg [
rq 4 (.move (.c (.int .i64 (-1))))]
  .ret)
  .skip))
  ⟨1, [1, 2], []⟩))
def k_z4_1 : KC := (.reg [
rq 15 (.move (.t 1)),
rq 16 (.bin .sub (.t 15) (.c (.int .i64 1))),
rq 1 (.move (.t 16))]
  (.seq (.reg [
rq 5 (.move (.c (.int .i64 0)))]
  (.block 0 (.loop ⟨2, [1, 2, 5], []⟩)))
  ⟨5, [1, 2], []⟩))
def k_z4_2 : KC := (.seq (.reg [
rq 17 (.move (.t 5)),
rq 18 (.faddr 3 (.t 2)),
rq 19 (.load false 1 (.t 18)),
rq 20 (.len .sl (.t 19)),
rq 21 (.bin .lss (.t 17) (.t 20)),
rq 22 (.move (.t 21)),
rqg 23 22 true (.move (.t 1)),
rqg 24 22 true (.bin .geq (.t 23) (.c (.int .i64 0))),
rq 25 (.pick (.t 22) (.t 24) (.c (.bool false)))]
  (.cond (.t 25)
  .skip
  (.exit 0)))
  ⟨3, [1, 2, 5], []⟩)
def k_z4_3 : KC := (.seq (.block 1 (.lreg [
rq 28 (.faddr 3 (.t 2)),
rq 29 (.load false 1 (.t 28)),
rq 30 (.move (.t 5)),
rq 31 (.iaddr 5 (.t 29) (.t 30)),
rq 32 (.load true 5 (.t 31)),
rq 33 (.move (.t 1)),
rq 34 (.call .pur F.z4 [(.t 32), (.t 33)]),
rq 1 (.move (.t 34))]))
  ⟨4, [1, 2, 5], []⟩)
def k_z4_4 : KC := (.lreg [
rq 26 (.move (.t 5)),
rq 27 (.bin .add (.t 26) (.c (.int .i64 1))),
rq 5 (.move (.t 27))])
def k_z4_5 : KC := (.seq (.reg [
rq 6 (.move (.c (.int .i64 0)))]
  (.block 2 (.loop ⟨6, [1, 2, 6], []⟩)))
  ⟨10, [1], []⟩)
def k_z4_6 : KC := (.seq (.reg [
rq 35 (.move (.t 6)),
rq 36 (.faddr 4 (.t 2)),
rq 37 (.load false 1 (.t 36)),
rq 38 (.len .sl (.t 37)),
rq 39 (.bin .lss (.t 35) (.t 38)),
rq 40 (.move (.t 39)),
rqg 41 40 true (.move (.t 1)),
rqg 42 40 true (.bin .geq (.t 41) (.c (.int .i64 0))),
rq 43 (.pick (.t 40) (.t 42) (.c (.bool false)))]
  (.cond (.t 43)
  .skip
  (.exit 2)))
  ⟨7, [1, 2, 6], []⟩)
def k_z4_7 : KC := (.seq (.block 3 (.seq (.reg [
rq 46 (.faddr 4 (.t 2)),
rq 47 (.load false 1 (.t 46)),
rq 48 (.move (.t 6)),
rq 49 (.iaddr 6 (.t 47) (.t 48)),
rq 50 (.faddr 0 (.t 49)),
rq 51 (.load false 1 (.t 50)),
rq 52 (.len .str (.t 51)),
rq 53 (.bin .gtr (.t 52) (.c (.int .i64 500)))]
  (.cond (.t 53)
  (.reg [
rq 4 (.move (.c (.int .i64 (-1))))]
  .ret)
  .skip))
  ⟨8, [1, 2, 6], []⟩))
  ⟨9, [1, 2, 6], []⟩)
def k_z4_8 : KC := (.lreg [
rq 54 (.faddr 4 (.t 2)),
rq 55 (.load false 1 (.t 54)),
rq 56 (.move (.t 6)),
rq 57 (.iaddr 6 (.t 55) (.t 56)),
rq 58 (.faddr 1 (.t 57)),
rq 59 (.load true 5 (.t 58)),
rq 60 (.move (.t 1)),
rq 61 (.call .pur F.z4 [(.t 59), (.t 60)]),
rq 1 (.move (.t 61))])
def k_z4_9 : KC := (.lreg [
rq 44 (.move (.t 6)),
rq 45 (.bin .add (.t 44) (.c (.int .i64 1))),
rq 6 (.move (.t 45))])
def k_z4_10 : KC := (.reg [
rq 62 (.move (.t 1)),
rq 4 (.move (.t 62))]
  .ret)
def r_z4 : KF where
  np := 2
  res := [.tmp 4]
  code := [k_z4_0, k_z4_1, k_z4_2, k_z4_3, k_z4_4, k_z4_5, k_z4_6, k_z4_7, k_z4_8, k_z4_9, k_z4_10]
def k_z0_0 : KC := (.reg [
rq 2 (.ibox (.t 0)),
rq 4 (.move (.c (.bool false)))]
  (.reg [
rq 5 (.load true 5 (.t 2)),
rq 6 (.move (.t 1)),
rq 7 (.call .pur F.z4 [(.t 5), (.t 6)]),
rq 8 (.bin .geq (.t 7) (.c (.int .i64 0))),
rq 4 (.move (.t 8))]
  .ret))
def r_z0 : KF where
  np := 2
  res := [.tmp 4]
  code := [k_z0_0]
def k_z7_0 : KC := (.reg [
rq 2 (.move (.c (.bool false)))]
  (.seq (.reg [
rq 3 (.move (.c (.int .i64 0)))]
  (.block 0 (.loop ⟨1, [0, 3], []⟩)))
  ⟨4, [0], []⟩))
def k_z7_1 : KC := (.seq (.reg [
rq 4 (.move (.t 3)),
rq 5 (.move (.t 0)),
rq 6 (.len .sl (.t 5)),
rq 7 (.bin .lss (.t 4) (.t 6)),
rq 8 (.move (.t 7)),
rqg 9 8 true (.move (.t 3)),
rqg 10 8 true (.bin .lss (.t 9) (.c (.int .i64 50))),
rq 11 (.pick (.t 8) (.t 10) (.c (.bool false)))]
  (.cond (.t 11)
  .skip
  (.exit 0)))
  ⟨2, [0, 3], []⟩)
def k_z7_2 : KC := (.seq (.block 1 (.reg [
rq 14 (.move (.t 0)),
rq 15 (.move (.t 3)),
rq 16 (.iaddr 3 (.t 14) (.t 15)),
rq 17 (.faddr 0 (.t 16)),
rq 18 (.load false 1 (.t 17)),
rq 19 (.len .str (.t 18)),
rq 20 (.bin .gtr (.t 19) (.c (.int .i64 200)))]
  (.cond (.t 20)
  (.reg [
rq 2 (.move (.c (.bool false)))]
  .ret)
  .skip)))
  ⟨3, [0, 3], []⟩)
def k_z7_3 : KC := (.lreg [
rq 12 (.move (.t 3)),
rq 13 (.bin .add (.t 12) (.c (.int .i64 1))),
rq 3 (.move (.t 13))])
def k_z7_4 : KC := (.reg [
rq 21 (.move (.t 0)),
rq 22 (.len .sl (.t 21)),
rq 23 (.bin .leq (.t 22) (.c (.int .i64 40))),
rq 2 (.move (.t 23))]
  .ret)
def r_z7 : KF where
  np := 1
  res := [.tmp 2]
  code := [k_z7_0, k_z7_1, k_z7_2, k_z7_3, k_z7_4]
def k_zfk_0 : KC := (.reg [
rq 1 (.ibox (.t 0)),
rq 2 (.move (.c (.bool false)))]
  (.reg [
rq 4 (.faddr 0 (.t 1)),
rq 5 (.load false 1 (.t 4)),
rq 6 (.bin .eql (.t 5) (.c (.int .i64 1))),
rq 7 (.move (.t 6)),
rqg 8 7 false (.faddr 0 (.t 1)),
rqg 9 7 false (.load false 1 (.t 8)),
rqg 10 7 false (.bin .eql (.t 9) (.c (.int .i64 2))),
rq 11 (.pick (.t 7) (.c (.bool true)) (.t 10)),
rq 3 (.move (.t 11))]
  (.reg [
rq 12 (.move (.t 3)),
rq 13 (.move (.t 12)),
rqg 14 13 false (.faddr 1 (.t 1)),
rqg 15 13 false (.load false 1 (.t 14)),
rqg 16 13 false (.bin .eql (.t 15) (.c (.int .i64 0))),
rq 17 (.pick (.t 13) (.c (.bool true)) (.t 16)),
rq 18 (.move (.t 17)),
rqg 19 18 true (.faddr 0 (.t 1)),
rqg 20 18 true (.load false 1 (.t 19)),
rqg 21 18 true (.bin .eql (.t 20) (.c (.int .i64 3))),
rqg 22 18 true (.move (.t 21)),
rqg 23 22 false (.faddr 2 (.t 1)),
rqg 24 22 false (.load false 1 (.t 23)),
rqg 25 22 false (.bin .eql (.t 24) (.c (.str []))),
rqg 26 18 true (.pick (.t 22) (.c (.bool true)) (.t 25)),
rq 27 (.pick (.t 18) (.t 26) (.c (.bool false))),
rq 28 (.move (.t 27)),
rqg 29 28 true (.faddr 0 (.t 1)),
rqg 30 28 true (.load false 1 (.t 29)),
rqg 31 28 true (.bin .eql (.t 30) (.c (.int .i64 4))),
rqg 32 28 true (.move (.t 31)),
rqg 33 32 false (.faddr 3 (.t 1)),
rqg 34 32 false (.load false 1 (.t 33)),
rqg 35 32 false (.len .sl (.t 34)),
rqg 36 32 false (.bin .eql (.t 35) (.c (.int .i64 0))),
rqg 37 28 true (.pick (.t 32) (.c (.bool true)) (.t 36)),
rq 38 (.pick (.t 28) (.t 37) (.c (.bool false))),
rq 39 (.move (.t 38)),
rqg 40 39 true (.faddr 0 (.t 1)),
rqg 41 39 true (.load false 1 (.t 40)),
rqg 42 39 true (.bin .eql (.t 41) (.c (.int .i64 5))),
rqg 43 39 true (.move (.t 42)),
rqg 44 43 false (.faddr 4 (.t 1)),
rqg 45 43 false (.load false 1 (.t 44)),
rqg 46 43 false (.len .sl (.t 45)),
rqg 47 43 false (.bin .eql (.t 46) (.c (.int .i64 0))),
rqg 48 39 true (.pick (.t 43) (.c (.bool true)) (.t 47)),
rq 49 (.pick (.t 39) (.t 48) (.c (.bool false))),
rq 2 (.move (.t 49))]
  .ret)))
def r_zfk : KF where
  np := 1
  res := [.tmp 2]
  code := [k_zfk_0]
def k_zfi_0 : KC := (.reg [
rq 2 (.move (.c (.bool false)))]
  (.reg [
rq 6 .mkMap,
rq 3 (.move (.t 6))]
  (.seq (.reg [
rq 7 (.move (.t 0)),
rq 8 (.len .sl (.t 7)),
rq 9 (.move (.c (.int .i64 0)))]
  (.block 0 (.loop ⟨1, [3, 7, 8, 9], [[6]]⟩)))
  ⟨4, [], []⟩)))
def k_zfi_1 : KC := (.reg [
rq 10 (.bin .lss (.t 9) (.t 8))]
  (.seq (.cond (.t 10)
  .skip
  (.exit 0))
  ⟨2, [3, 7, 8, 9], [[6]]⟩))
def k_zfi_2 : KC := (.seq (.block 1 (.reg [
rq 11 (.iaddr 6 (.t 7) (.t 9)),
rq 12 (.load true 6 (.t 11)),
rq 5 (.alloc [(.str []), (.int .i64 0), (.int .i64 0), (.str []), (.sl []), (.sl [])]),
rz (.store 6 (.t 5) (.t 12))]
  (.reg [
rq 13 (.move (.t 3)),
rq 14 (.faddr 0 (.t 5)),
rq 15 (.load false 1 (.t 14)),
rq 16 (.lookup .str (.int .i64 0) false (.t 13) (.t 15)),
rq 17 (.bin .add (.t 16) (.c (.int .i64 1))),
rz (.mapUpd .str (.t 13) (.t 15) (.t 17))]
  (.reg [
rq 18 (.move (.t 3)),
rq 19 (.faddr 0 (.t 5)),
rq 20 (.load false 1 (.t 19)),
rq 21 (.lookup .str (.int .i64 0) false (.t 18) (.t 20)),
rq 22 (.bin .gtr (.t 21) (.c (.int .i64 1))),
rq 23 (.move (.t 22)),
rqg 24 23 false (.faddr 0 (.t 5)),
rqg 25 23 false (.load false 1 (.t 24)),
rqg 26 23 false (.call .pur F.ze5 [(.t 25)]),
rqg 27 23 false (.un .not (.t 26)),
rq 28 (.pick (.t 23) (.c (.bool true)) (.t 27))]
  (.cond (.t 28)
  (.reg [
rq 2 (.move (.c (.bool false)))]
  .ret)
  .skip)))))
  ⟨3, [3, 7, 8, 9], [[6]]⟩)
def k_zfi_3 : KC := (.lreg [
rq 29 (.bin .add (.t 9) (.c (.int .i64 1))),
rq 9 (.move (.t 29))])
def k_zfi_4 : KC := (.reg [
rq 2 (.move (.c (.bool true)))]
  .ret)
def r_zfi : KF where
  np := 1
  res := [.tmp 2]
  code := [k_zfi_0, k_zfi_1, k_zfi_2, k_zfi_3, k_zfi_4]
def k_zfc_0 : KC := (.reg [
rq 3 (.ibox (.t 0)),
rq 4 (.move (.c (.bool false)))]
  (.reg [
rq 5 (.load false 1 (.t 1)),
rq 6 (.load true 5 (.t 3)),
rq 7 (.load false 1 (.t 2)),
rq 8 (.bin .sub (.t 7) (.c (.int .i64 1))),
rq 9 (.callv .pur (.t 5) [(.t 6), (.t 8)]),
rq 10 (.un .not (.t 9)),
rq 4 (.move (.t 10))]
  .ret))
def r_zfc : KF where
  np := 3
  res := [.tmp 4]
  code := [k_zfc_0]
def k_zfb_0 : KC := (.reg [
rq 3 (.ibox (.t 0)),
rq 4 (.ibox (.t 1)),
rq 5 (.move (.c (.bool false)))]
  (.seq (.reg [
rq 6 (.load false 1 (.t 4)),
rq 7 (.bin .lss (.t 6) (.c (.int .i64 1))),
rq 8 (.move (.t 7)),
rqg 9 8 false (.load true 5 (.t 3)),
rqg 10 8 false (.call .pur F.zfk [(.t 9)]),
rqg 11 8 false (.un .not (.t 10)),
rq 12 (.pick (.t 8) (.c (.bool true)) (.t 11))]
  (.cond (.t 12)
  (.reg [
rq 5 (.move (.c (.bool false)))]
  .ret)
  .skip))
  ⟨1, [2, 3, 4], []⟩))
def k_zfc : KC := (.seq (.reg [
rq 13 (.faddr 0 (.t 3)),
rq 14 (.load false 1 (.t 13))]
  (.block 0 (.reg [
rq 16 (.bin .eql (.t 14) (.c (.int .i64 0))),
rq 15 (.move (.t 16))]
  (.cond (.t 15)
  (.reg [
rq 5 (.move (.c (.bool true)))]
  .ret)
  (.reg [
rq 18 (.bin .eql (.t 14) (.c (.int .i64 1))),
rq 17 (.move (.t 18))]
  (.cond (.t 17)
  (.reg [
rq 19 (.faddr 1 (.t 3)),
rq 20 (.load false 1 (.t 19)),
rq 21 (.bin .eql (.t 20) (.c (.int .i64 0))),
rq 22 (.move (.t 21)),
rqg 23 22 false (.faddr 1 (.t 3)),
rqg 24 22 false (.load false 1 (.t 23)),
rqg 25 22 false (.bin .eql (.t 24) (.c (.int .i64 1))),
rq 26 (.pick (.t 22) (.c (.bool true)) (.t 25)),
rq 5 (.move (.t 26))]
  .ret)
  (.reg [
rq 28 (.bin .eql (.t 14) (.c (.int .i64 2))),
rq 27 (.move (.t 28))]
  (.cond (.t 27)
  (.reg [
rq 29 (.faddr 1 (.t 3)),
rq 30 (.load false 1 (.t 29)),
rq 31 (.bin .geq (.t 30) (.c (.int .i64 (-9007199254740991)))),
rq 32 (.move (.t 31)),
rqg 33 32 true (.faddr 1 (.t 3)),
rqg 34 32 true (.load false 1 (.t 33)),
rqg 35 32 true (.bin .leq (.t 34) (.c (.int .i64 9007199254740991))),
rq 36 (.pick (.t 32) (.t 35) (.c (.bool false))),
rq 5 (.move (.t 36))]
  .ret)
  (.reg [
rq 38 (.bin .eql (.t 14) (.c (.int .i64 3))),
rq 37 (.move (.t 38))]
  (.cond (.t 37)
  (.reg [
rq 39 (.faddr 2 (.t 3)),
rq 40 (.load false 1 (.t 39)),
rq 41 (.call .pur F.ze5 [(.t 40)]),
rq 5 (.move (.t 41))]
  .ret)
  (.reg [
rq 43 (.bin .eql (.t 14) (.c (.int .i64 4))),
rq 42 (.move (.t 43))]
  (.cond (.t 42)
  (.reg [
rq 44 (.faddr 3 (.t 3)),
rq 45 (.load false 1 (.t 44)),
rq 46 (.mkF (.func F.zfc) [] [(.t 2), (.t 4)]),
rq 47 (.call .pur F.zdw [(.t 45), (.t 46)]),
rq 48 (.un .not (.t 47)),
rq 5 (.move (.t 48))]
  .ret)
  (.reg [
rq 50 (.bin .eql (.t 14) (.c (.int .i64 5))),
rq 49 (.move (.t 50))]
  (.cond (.t 49)
  (.reg [
rq 51 (.faddr 4 (.t 3)),
rq 52 (.load false 1 (.t 51)),
rq 53 (.call .pur F.zfi [(.t 52)]),
rq 54 (.move (.t 53)),
rqg 55 54 true (.faddr 4 (.t 3)),
rqg 56 54 true (.load false 1 (.t 55)),
rqg 57 54 true (.mkF (.func F.zfe) [] [(.t 2), (.t 4)]),
rqg 58 54 true (.call .pur F.zds [(.t 56), (.t 57)]),
rqg 59 54 true (.un .not (.t 58)),
rq 60 (.pick (.t 54) (.t 59) (.c (.bool false))),
rq 5 (.move (.t 60))]
  .ret)
  .skip))))))))))))))
  ⟨2, [], []⟩)
def k_zfe : KC := (.reg [
rq 5 (.move (.c (.bool false)))]
  .ret)
def r_zfb : KF where
  np := 3
  res := [.tmp 5]
  code := [k_zfb_0, k_zfc, k_zfe]
def k_zdw_0 : KC := (.reg [
rq 4 (.move (.c (.bool false)))]
  (.reg [
rq 5 (.move (.t 0)),
rq 6 (.move (.t 1)),
rq 7 (.call .pur F.zd7 [(.t 5), (.t 6)]),
rq 8 (.bin .geq (.t 7) (.c (.int .i64 0))),
rq 4 (.move (.t 8))]
  .ret))
def r_zdw : KF where
  np := 2
  res := [.tmp 4]
  code := [k_zdw_0]
def k_zd7_0 : KC := (.reg [
rq 4 (.move (.c (.int .i64 0)))]
  (.seq (.reg [
rq 6 (.move (.t 0)),
rq 7 (.len .sl (.t 6)),
rq 8 (.move (.c (.int .i64 0)))]
  (.block 0 (.loop ⟨1, [0, 1, 7, 8], []⟩)))
  ⟨4, [], []⟩))
def k_zd7_1 : KC := (.reg [
rq 9 (.bin .lss (.t 8) (.t 7))]
  (.seq (.cond (.t 9)
  .skip
  (.exit 0))
  ⟨2, [0, 1, 7, 8], []⟩))
def k_zd7_2 : KC := (.seq (.block 1 (.reg [
rq 10 (.move (.t 8)),
rq 5 (.move (.t 10))]
  (.reg [
rq 11 (.move (.t 1)),
rq 12 (.move (.t 0)),
rq 13 (.move (.t 5)),
rq 14 (.iaddr 5 (.t 12) (.t 13)),
rq 15 (.load true 5 (.t 14)),
rq 16 (.callv .pur (.t 11) [(.t 15)])]
  (.cond (.t 16)
  (.reg [
rq 17 (.move (.t 5)),
rq 4 (.move (.t 17))]
  .ret)
  .skip))))
  ⟨3, [0, 1, 7, 8], []⟩)
def k_zd7_3 : KC := (.lreg [
rq 18 (.bin .add (.t 8) (.c (.int .i64 1))),
rq 8 (.move (.t 18))])
def k_zd7_4 : KC := (.reg [
rq 4 (.move (.c (.int .i64 (-1))))]
  .ret)
def r_zd7 : KF where
  np := 2
  res := [.tmp 4]
  code := [k_zd7_0, k_zd7_1, k_zd7_2, k_zd7_3, k_zd7_4]
def k_zds_0 : KC := (.reg [
rq 4 (.move (.c (.bool false)))]
  (.reg [
rq 5 (.move (.t 0)),
rq 6 (.move (.t 1)),
rq 7 (.call .pur F.zd2 [(.t 5), (.t 6)]),
rq 8 (.bin .geq (.t 7) (.c (.int .i64 0))),
rq 4 (.move (.t 8))]
  .ret))
def r_zds : KF where
  np := 2
  res := [.tmp 4]
  code := [k_zds_0]
def k_zd2_0 : KC := (.reg [
rq 4 (.move (.c (.int .i64 0)))]
  (.seq (.reg [
rq 6 (.move (.t 0)),
rq 7 (.len .sl (.t 6)),
rq 8 (.move (.c (.int .i64 0)))]
  (.block 0 (.loop ⟨1, [0, 1, 7, 8], []⟩)))
  ⟨4, [], []⟩))
def k_zd2_1 : KC := (.reg [
rq 9 (.bin .lss (.t 8) (.t 7))]
  (.seq (.cond (.t 9)
  .skip
  (.exit 0))
  ⟨2, [0, 1, 7, 8], []⟩))
def k_zd2_2 : KC := (.seq (.block 1 (.reg [
rq 10 (.move (.t 8)),
rq 5 (.move (.t 10))]
  (.reg [
rq 11 (.move (.t 1)),
rq 12 (.move (.t 0)),
rq 13 (.move (.t 5)),
rq 14 (.iaddr 6 (.t 12) (.t 13)),
rq 15 (.load true 6 (.t 14)),
rq 16 (.callv .pur (.t 11) [(.t 15)])]
  (.cond (.t 16)
  (.reg [
rq 17 (.move (.t 5)),
rq 4 (.move (.t 17))]
  .ret)
  .skip))))
  ⟨3, [0, 1, 7, 8], []⟩)
def k_zd2_3 : KC := (.lreg [
rq 18 (.bin .add (.t 8) (.c (.int .i64 1))),
rq 8 (.move (.t 18))])
def k_zd2_4 : KC := (.reg [
rq 4 (.move (.c (.int .i64 (-1))))]
  .ret)
def r_zd2 : KF where
  np := 2
  res := [.tmp 4]
  code := [k_zd2_0, k_zd2_1, k_zd2_2, k_zd2_3, k_zd2_4]
def k_zfe_0 : KC := (.reg [
rq 3 (.ibox (.t 0)),
rq 4 (.move (.c (.bool false)))]
  (.reg [
rq 5 (.load false 1 (.t 1)),
rq 6 (.faddr 1 (.t 3)),
rq 7 (.load true 5 (.t 6)),
rq 8 (.load false 1 (.t 2)),
rq 9 (.bin .sub (.t 8) (.c (.int .i64 1))),
rq 10 (.callv .pur (.t 5) [(.t 7), (.t 9)]),
rq 11 (.un .not (.t 10)),
rq 4 (.move (.t 11))]
  .ret))
def r_zfe : KF where
  np := 3
  res := [.tmp 4]
  code := [k_zfe_0]
def k_zfa_0 : KC := (.reg [
rq 1 (.ibox (.t 0)),
rq 2 (.move (.c (.bool false)))]
  (.reg [
rq 3 (.alloc [.nilf])]
  (.reg [
rq 4 (.mkF (.func F.zfb) [] [(.t 3)]),
rz (.store 1 (.t 3) (.t 4))]
  (.reg [
rq 5 (.load false 1 (.t 3)),
rq 6 (.load true 5 (.t 1)),
rq 7 (.callv .pur (.t 5) [(.t 6), (.c (.int .i64 12))]),
rq 2 (.move (.t 7))]
  .ret))))
def r_zfa : KF where
  np := 1
  res := [.tmp 2]
  code := [k_zfa_0]
def k_zcg_0 : KC := (.reg [
rq 1 (.ibox (.t 0)),
rq 2 (.move (.c (.bool false)))]
  (.reg [
rq 3 (.load true 5 (.t 1)),
rq 4 (.call .pur F.zfa [(.t 3)]),
rq 5 (.un .not (.t 4)),
rq 2 (.move (.t 5))]
  .ret))
def r_zcg : KF where
  np := 1
  res := [.tmp 2]
  code := [k_zcg_0]
def k_zch_0 : KC := (.reg [
rq 2 (.box (.t 0)),
rq 3 (.alloc [(.int .i64 0), (.int .i64 0), (.str []), (.sl []), (.sl [])]),
rq 4 (.move (.c (.int .i64 0)))]
  (.seq (.reg [
rq 5 (.faddr 0 (.t 2)),
rq 6 (.load false 1 (.t 5)),
rq 7 (.bin .neq (.t 6) (.c (.int .i64 4)))]
  (.cond (.t 7)
  (.reg [
rq 8 (.build [(.int .i64 0), (.int .i64 0), (.str []), (.sl []), (.sl [])] []),
rz (.store 5 (.t 3) (.t 8)),
rq 4 (.move (.c (.int .i64 9)))]
  .ret)
  .skip))
  ⟨1, [1, 2, 3], [[2], [3]]⟩))
def k_zch_1 : KC := (.reg [
rq 9 (.faddr 3 (.t 2)),
rq 10 (.load false 1 (.t 9)),
rq 11 (.load false 1 (.t 1)),
rq 12 (.ilit 1 [(.t 10), (.t 11)]),
rq 13 (.call .pur F.zdr [(.t 12)]),
rq 14 (.faddr 3 (.t 2)),
rz (.store 1 (.t 14) (.t 13))]
  (.reg [
rq 15 (.load true 5 (.t 2)),
rz (.store 5 (.t 3) (.t 15)),
rq 4 (.move (.c (.int .i64 0)))]
  .ret))
def r_zch : KF where
  np := 2
  res := [.cell 3 true 5, .tmp 4]
  code := [k_zch_0, k_zch_1]
def k_zdn_0 : KC := (.reg [
rq 2 (.move (.c (.sl [])))]
  (.seq (.reg [
rq 3 (.move (.t 0)),
rq 4 (.eq false .slice (.t 3) (.c .nils))]
  (.cond (.t 4)
  (.reg [
rq 2 (.move (.c (.sl [])))]
  .ret)
  .skip))
  ⟨1, [0], []⟩))
def k_zdn_1 : KC := (.reg [
rq 5 (.lit 5 []),
rq 6 (.move (.t 0)),
rq 7 (.app 5 80 (.t 5) (.t 6)),
rq 2 (.move (.t 7))]
  .ret)
def r_zdn : KF where
  np := 1
  res := [.tmp 2]
  code := [k_zdn_0, k_zdn_1]
def k_zc1_0 : KC := (.reg [
rq 2 (.ibox (.t 0)),
rq 3 (.move (.c (.bool false)))]
  (.reg [
rq 4 (.faddr 0 (.t 2)),
rq 5 (.load false 1 (.t 4)),
rq 6 (.faddr 0 (.t 1)),
rq 7 (.load false 1 (.t 6)),
rq 8 (.bin .eql (.t 5) (.t 7)),
rq 3 (.move (.t 8))]
  .ret))
def r_zc1 : KF where
  np := 2
  res := [.tmp 3]
  code := [k_zc1_0]
def k_zdl_0 : KC := (.reg [
rq 2 (.move (.c (.sl [])))]
  (.seq (.reg [
rq 3 (.move (.t 0)),
rq 4 (.eq false .slice (.t 3) (.c .nils))]
  (.cond (.t 4)
  (.reg [
rq 2 (.move (.c (.sl [])))]
  .ret)
  .skip))
  ⟨1, [0], []⟩))
def k_zdl_1 : KC := (.reg [
rq 5 (.lit 6 []),
rq 6 (.move (.t 0)),
rq 7 (.app 6 96 (.t 5) (.t 6)),
rq 2 (.move (.t 7))]
  .ret)
def r_zdl : KF where
  np := 1
  res := [.tmp 2]
  code := [k_zdl_0, k_zdl_1]
def k_zc0_0 : KC := (.reg [
rq 3 (.box (.t 0)),
rq 6 (.alloc [(.int .i64 0), (.int .i64 0), (.str []), (.sl []), (.sl [])]),
rq 7 (.move (.c (.int .i64 0)))]
  (.seq (.reg [
rq 11 (.move (.t 1)),
rq 12 (.len .sl (.t 11)),
rq 13 (.bin .eql (.t 12) (.c (.int .i64 0)))]
  (.cond (.t 13)
  (.reg [
rq 14 (.move (.t 2)),
rq 15 (.load true 5 (.t 3)),
rq 16 (.callv .pur (.t 14) [(.t 15)]),
rq 17 (.extract (.t 16) 0),
rq 18 (.extract (.t 16) 1),
rz (.store 5 (.t 6) (.t 17)),
rq 7 (.move (.t 18))]
  .ret)
  .skip))
  ⟨1, [1, 2, 3, 6], [[3], [6]]⟩))
def k_zc1 : KC := (.reg [
rq 19 (.move (.t 1)),
rq 20 (.iaddr 3 (.t 19) (.c (.int .i64 0))),
rq 21 (.load true 3 (.t 20)),
rq 8 (.alloc [(.str []), (.int .i64 0), (.bool false)]),
rz (.store 3 (.t 8) (.t 21))]
  (.reg [
rq 9 (.move (.c (.int .i64 0)))]
  (.seq (.block 0 (.reg [
rq 23 (.faddr 2 (.t 8)),
rq 24 (.load false 1 (.t 23)),
rq 25 (.move (.t 24)),
rqg 26 25 true (.faddr 0 (.t 3)),
rqg 27 25 true (.load false 1 (.t 26)),
rqg 28 25 true (.bin .eql (.t 27) (.c (.int .i64 4))),
rq 29 (.pick (.t 25) (.t 28) (.c (.bool false))),
rq 30 (.move (.t 29)),
rqg 31 30 true (.faddr 1 (.t 8)),
rqg 32 30 true (.load false 1 (.t 31)),
rqg 33 30 true (.faddr 3 (.t 3)),
rqg 34 30 true (.load false 1 (.t 33)),
rqg 35 30 true (.len .sl (.t 34)),
rqg 36 30 true (.bin .lss (.t 32) (.t 35)),
rq 37 (.pick (.t 30) (.t 36) (.c (.bool false))),
rq 22 (.move (.t 37))]
  (.cond (.t 22)
  (.reg [
rq 38 (.faddr 3 (.t 3)),
rq 39 (.load false 1 (.t 38)),
rq 40 (.call (.own [[5]]) F.zdn [(.t 39)]),
rq 41 (.faddr 3 (.t 3)),
rz (.store 1 (.t 41) (.t 40))]
  (.dreg [
rq 43 (.faddr 3 (.t 3)),
rq 44 (.load false 1 (.t 43)),
rq 45 (.faddr 1 (.t 8)),
rq 46 (.load false 1 (.t 45)),
rq 47 (.faddr 3 (.t 3)),
rq 48 (.load false 1 (.t 47)),
rq 49 (.faddr 1 (.t 8)),
rq 50 (.load false 1 (.t 49)),
rq 51 (.iaddr 5 (.t 48) (.t 50)),
rq 52 (.load true 5 (.t 51)),
rq 53 (.move (.t 1)),
rq 54 (.slice 3 (.t 53) (some (.c (.int .i64 1))) none),
rq 55 (.move (.t 2)),
rq 56 (.call .pur F.zc0 [(.t 52), (.t 54), (.t 55)]),
rq 42 (.move (.t 56)),
rq 57 (.extract (.t 42) 0),
rq 58 (.extract (.t 42) 1),
rq 59 (.iaddr 5 (.t 44) (.t 46))] [
rz (.store 5 (.t 59) (.t 57)),
rq 9 (.move (.t 58))]
  (.reg [
rq 60 (.load true 5 (.t 3)),
rq 61 (.move (.t 9)),
rz (.store 5 (.t 6) (.t 60)),
rq 7 (.move (.t 61))]
  .ret)))
  (.reg [
rq 63 (.faddr 2 (.t 8)),
rq 64 (.load false 1 (.t 63)),
rq 65 (.un .not (.t 64)),
rq 66 (.move (.t 65)),
rqg 67 66 true (.faddr 0 (.t 3)),
rqg 68 66 true (.load false 1 (.t 67)),
rqg 69 66 true (.bin .eql (.t 68) (.c (.int .i64 5))),
rq 70 (.pick (.t 66) (.t 69) (.c (.bool false))),
rq 62 (.move (.t 70))]
  (.cond (.t 62)
  (.reg [
rq 71 (.faddr 4 (.t 3)),
rq 72 (.load false 1 (.t 71)),
rq 73 (.mkF (.func F.zc1) [] [(.t 8)]),
rq 74 (.call .pur F.zd2 [(.t 72), (.t 73)]),
rq 10 (.move (.t 74))]
  (.reg [
rq 75 (.move (.t 10)),
rq 76 (.bin .geq (.t 75) (.c (.int .i64 0)))]
  (.cond (.t 76)
  (.reg [
rq 77 (.faddr 4 (.t 3)),
rq 78 (.load false 1 (.t 77)),
rq 79 (.call (.own [[5]]) F.zdl [(.t 78)]),
rq 80 (.faddr 4 (.t 3)),
rz (.store 1 (.t 80) (.t 79))]
  (.dreg [
rq 82 (.faddr 4 (.t 3)),
rq 83 (.load false 1 (.t 82)),
rq 84 (.move (.t 10)),
rq 85 (.faddr 4 (.t 3)),
rq 86 (.load false 1 (.t 85)),
rq 87 (.move (.t 10)),
rq 88 (.iaddr 6 (.t 86) (.t 87)),
rq 89 (.faddr 1 (.t 88)),
rq 90 (.load true 5 (.t 89)),
rq 91 (.move (.t 1)),
rq 92 (.slice 3 (.t 91) (some (.c (.int .i64 1))) none),
rq 93 (.move (.t 2)),
rq 94 (.call .pur F.zc0 [(.t 90), (.t 92), (.t 93)]),
rq 81 (.move (.t 94)),
rq 95 (.extract (.t 81) 0),
rq 96 (.extract (.t 81) 1),
rq 97 (.iaddr 6 (.t 83) (.t 84)),
rq 98 (.faddr 1 (.t 97))] [
rz (.store 5 (.t 98) (.t 95)),
rq 9 (.move (.t 96))]
  (.reg [
rq 99 (.load true 5 (.t 3)),
rq 100 (.move (.t 9)),
rz (.store 5 (.t 6) (.t 99)),
rq 7 (.move (.t 100))]
  .ret)))
  .skip)))
  .skip)))))
  ⟨2, [6], [[6]]⟩)))
def k_zc0_2 : KC := (.reg [
rq 101 (.build [(.int .i64 0), (.int .i64 0), (.str []), (.sl []), (.sl [])] []),
rz (.store 5 (.t 6) (.t 101)),
rq 7 (.move (.c (.int .i64 8)))]
  .ret)
def r_zc0 : KF where
  np := 3
  res := [.cell 6 true 5, .tmp 7]
  code := [k_zc0_0, k_zc1, k_zc0_2]
def k_zfh_0 : KC := (.reg [
rq 1 (.ibox (.t 0)),
rq 2 (.alloc [(.int .i64 0), (.int .i64 0), (.str []), (.sl []), (.sl [])])]
  (.reg [
rq 8 (.faddr 0 (.t 1)),
rq 9 (.load false 1 (.t 8)),
rq 10 (.faddr 1 (.t 1)),
rq 11 (.load false 1 (.t 10)),
rq 12 (.faddr 2 (.t 1)),
rq 13 (.load false 1 (.t 12)),
rq 14 (.build [(.int .i64 0), (.int .i64 0), (.str []), .nils, .nils] [(0, 1, (.t 9)), (1, 1, (.t 11)), (2, 1, (.t 13))]),
rq 3 (.alloc [(.int .i64 0), (.int .i64 0), (.str []), (.sl []), (.sl [])]),
rz (.store 5 (.t 3) (.t 14))]
  (.adj (.virt [3] 3 5 [3, 3]) (.adj (.virt [3] 4 6 [3, 4]) (.seq (.reg [
rq 15 (.faddr 3 (.t 1)),
rq 16 (.load false 1 (.t 15)),
rq 17 (.len .sl (.t 16)),
rq 18 (.move (.c (.int .i64 0)))]
  (.block 0 (.loop ⟨1, [1, 2, 3, 16, 17, 18], [[2], [3], [3, 3], [3, 4]]⟩)))
  ⟨4, [1, 2, 3], [[2], [3], [3, 3], [3, 4]]⟩)))))
def k_zfh_1 : KC := (.reg [
rq 19 (.bin .lss (.t 18) (.t 17))]
  (.seq (.cond (.t 19)
  .skip
  (.exit 0))
  ⟨2, [1, 2, 3, 16, 17, 18], [[2], [3], [3, 3], [3, 4]]⟩))
def k_zfh_2 : KC := (.seq (.block 1 (.reg [
rq 20 (.iaddr 5 (.t 16) (.t 18)),
rq 21 (.load true 5 (.t 20)),
rq 5 (.alloc [(.int .i64 0), (.int .i64 0), (.str []), (.sl []), (.sl [])]),
rz (.store 5 (.t 5) (.t 21))]
  (.ldreg [
rq 22 (.faddr 3 (.t 3)),
rq 23 (.load false 1 (.t 22)),
rq 24 (.load true 5 (.t 5)),
rq 25 (.call .pur F.zfh [(.t 24)]),
rq 26 (.ilit 5 [(.t 25)])] [
rq 27 (.app 5 80 (.t 23) (.t 26)),
rq 28 (.faddr 3 (.t 3)),
rz (.store 1 (.t 28) (.t 27))])))
  ⟨3, [1, 2, 3, 16, 17, 18], [[2], [3], [3, 3], [3, 4]]⟩)
def k_zfh_3 : KC := (.lreg [
rq 29 (.bin .add (.t 18) (.c (.int .i64 1))),
rq 18 (.move (.t 29))])
def k_zfh_4 : KC := (.seq (.reg [
rq 30 (.faddr 4 (.t 1)),
rq 31 (.load false 1 (.t 30)),
rq 32 (.len .sl (.t 31)),
rq 33 (.move (.c (.int .i64 0)))]
  (.block 2 (.loop ⟨5, [2, 3, 31, 32, 33], [[2], [3], [3, 3], [3, 4]]⟩)))
  ⟨8, [2, 3], [[2], [3], [3, 3], [3, 4]]⟩)
def k_zfh_5 : KC := (.reg [
rq 34 (.bin .lss (.t 33) (.t 32))]
  (.seq (.cond (.t 34)
  .skip
  (.exit 2))
  ⟨6, [2, 3, 31, 32, 33], [[2], [3], [3, 3], [3, 4]]⟩))
def k_zfh_6 : KC := (.seq (.block 3 (.reg [
rq 35 (.iaddr 6 (.t 31) (.t 33)),
rq 36 (.load true 6 (.t 35)),
rq 7 (.alloc [(.str []), (.int .i64 0), (.int .i64 0), (.str []), (.sl []), (.sl [])]),
rz (.store 6 (.t 7) (.t 36))]
  (.ldreg [
rq 37 (.faddr 4 (.t 3)),
rq 38 (.load false 1 (.t 37)),
rq 39 (.faddr 0 (.t 7)),
rq 40 (.load false 1 (.t 39)),
rq 41 (.faddr 1 (.t 7)),
rq 42 (.load true 5 (.t 41)),
rq 43 (.call .pur F.zfh [(.t 42)]),
rq 44 (.build [(.str []), (.int .i64 0), (.int .i64 0), (.str []), (.sl []), (.sl [])] [(0, 1, (.t 40)), (1, 5, (.t 43))]),
rq 45 (.ilit 6 [(.t 44)])] [
rq 46 (.app 6 96 (.t 38) (.t 45)),
rq 47 (.faddr 4 (.t 3)),
rz (.store 1 (.t 47) (.t 46))])))
  ⟨7, [2, 3, 31, 32, 33], [[2], [3], [3, 3], [3, 4]]⟩)
def k_zfh_7 : KC := (.lreg [
rq 48 (.bin .add (.t 33) (.c (.int .i64 1))),
rq 33 (.move (.t 48))])
def k_zfh_8 : KC := (.reg [
rq 49 (.load true 5 (.t 3)),
rz (.store 5 (.t 2) (.t 49))]
  .ret)
def r_zfh : KF where
  np := 1
  res := [.cell 2 true 5]
  code := [k_zfh_0, k_zfh_1, k_zfh_2, k_zfh_3, k_zfh_4, k_zfh_5, k_zfh_6, k_zfh_7, k_zfh_8]
def k_ze6_0 : KC := (.reg [
rq 1 (.ibox (.t 0)),
rq 2 (.alloc [(.int .i64 0), (.int .i64 0), (.str []), (.sl []), (.sl [])])]
  (.seq (.reg [
rq 3 (.load true 5 (.t 1)),
rq 4 (.call .pur F.zfa [(.t 3)]),
rq 5 (.un .not (.t 4))]
  (.cond (.t 5)
  (.reg [
rq 6 (.build [(.int .i64 0), (.int .i64 0), (.str []), (.sl []), (.sl [])] []),
rz (.store 5 (.t 2) (.t 6))]
  .ret)
  .skip))
  ⟨1, [1, 2], [[2]]⟩))
def k_ze6_1 : KC := (.reg [
rq 7 (.load true 5 (.t 1)),
rq 8 (.call .pur F.zfh [(.t 7)]),
rz (.store 5 (.t 2) (.t 8))]
  .ret)
def r_ze6 : KF where
  np := 1
  res := [.cell 2 true 5]
  code := [k_ze6_0, k_ze6_1]
def k_zc4_0 : KC := (.reg [
rq 3 (.ibox (.t 0)),
rq 6 (.alloc [(.int .i64 0), (.int .i64 0), (.str []), (.sl []), (.sl [])]),
rq 7 (.move (.c (.int .i64 0)))]
  (.reg [
rq 11 (.load true 5 (.t 3)),
rq 12 (.move (.t 1)),
rq 13 (.move (.t 2)),
rq 14 (.call .pur F.zc0 [(.t 11), (.t 12), (.t 13)]),
rq 10 (.move (.t 14)),
rq 15 (.extract (.t 10) 0),
rq 16 (.extract (.t 10) 1),
rq 8 (.alloc [(.int .i64 0), (.int .i64 0), (.str []), (.sl []), (.sl [])]),
rz (.store 5 (.t 8) (.t 15)),
rq 9 (.move (.t 16))]
  (.seq (.block 0 (.reg [
rq 18 (.move (.t 9)),
rq 19 (.bin .neq (.t 18) (.c (.int .i64 0))),
rq 17 (.move (.t 19))]
  (.cond (.t 17)
  (.reg [
rq 20 (.build [(.int .i64 0), (.int .i64 0), (.str []), (.sl []), (.sl [])] []),
rq 21 (.move (.t 9)),
rz (.store 5 (.t 6) (.t 20)),
rq 7 (.move (.t 21))]
  .ret)
  (.reg [
rq 23 (.load true 5 (.t 8)),
rq 24 (.call .pur F.zfa [(.t 23)]),
rq 25 (.un .not (.t 24)),
rq 22 (.move (.t 25))]
  (.cond (.t 22)
  (.reg [
rq 26 (.build [(.int .i64 0), (.int .i64 0), (.str []), (.sl []), (.sl [])] []),
rz (.store 5 (.t 6) (.t 26)),
rq 7 (.move (.c (.int .i64 5)))]
  .ret)
  .skip)))))
  ⟨1, [6, 8], [[6], [8]]⟩)))
def k_zc4_1 : KC := (.reg [
rq 27 (.load true 5 (.t 8)),
rq 28 (.call .pur F.ze6 [(.t 27)]),
rz (.store 5 (.t 6) (.t 28)),
rq 7 (.move (.c (.int .i64 0)))]
  .ret)
def r_zc4 : KF where
  np := 3
  res := [.cell 6 true 5, .tmp 7]
  code := [k_zc4_0, k_zc4_1]
def k_zcf_0 : KC := (.reg [
rq 3 (.ibox (.t 0)),
rq 5 (.ibox (.t 2)),
rq 6 (.alloc [(.int .i64 0), (.int .i64 0), (.str []), (.sl []), (.sl [])]),
rq 7 (.move (.c (.int .i64 0)))]
  (.seq (.reg [
rq 8 (.load true 5 (.t 3)),
rq 9 (.call .pur F.zfa [(.t 8)]),
rq 10 (.un .not (.t 9)),
rq 11 (.move (.t 10)),
rqg 12 11 false (.move (.t 1)),
rqg 13 11 false (.call .pur F.zcv [(.t 12)]),
rqg 14 11 false (.un .not (.t 13)),
rq 15 (.pick (.t 11) (.c (.bool true)) (.t 14)),
rq 16 (.move (.t 15)),
rqg 17 16 false (.load false 1 (.t 5)),
rqg 18 16 false (.call .pur F.zdw [(.t 17), (.f F.zcg)]),
rq 19 (.pick (.t 16) (.c (.bool true)) (.t 18))]
  (.cond (.t 19)
  (.reg [
rq 20 (.build [(.int .i64 0), (.int .i64 0), (.str []), (.sl []), (.sl [])] []),
rz (.store 5 (.t 6) (.t 20)),
rq 7 (.move (.c (.int .i64 1)))]
  .ret)
  .skip))
  ⟨1, [1, 3, 5, 6], [[6]]⟩))
def k_zcg : KC := (.reg [
rq 21 (.load true 5 (.t 3)),
rq 22 (.move (.t 1)),
rq 23 (.mkF (.func F.zch) [] [(.t 5)]),
rq 24 (.call .pur F.zc4 [(.t 21), (.t 22), (.t 23)]),
rq 25 (.extract (.t 24) 0),
rq 26 (.extract (.t 24) 1),
rz (.store 5 (.t 6) (.t 25)),
rq 7 (.move (.t 26))]
  .ret)
def r_zcf : KF where
  np := 3
  res := [.cell 6 true 5, .tmp 7]
  code := [k_zcf_0, k_zcg]
def k_zy_0 : KC := (.reg [
rq 4 (.move (.c (.int .i64 0))),
rq 5 (.move (.c (.int .i32 0)))]
  (.reg [
rq 12 (.move (.t 0)),
rq 13 (.move (.t 1)),
rq 14 (.idx (.t 12) (.t 13)),
rq 15 (.conv (.int .i64) (.t 14)),
rq 6 (.move (.t 15))]
  (.reg [
rq 7 (.move (.c (.int .i64 0))),
rq 8 (.move (.c (.int .i64 0))),
rq 9 (.move (.c (.int .i64 0)))]
  (.seq (.reg [
rq 16 (.move (.t 6)),
rq 17 (.bin .lss (.t 16) (.c (.int .i64 128)))]
  (.cond (.t 17)
  (.reg [
rq 18 (.move (.t 6)),
rq 19 (.conv (.int .i32) (.t 18)),
rq 4 (.move (.c (.int .i64 1))),
rq 5 (.move (.t 19))]
  .ret)
  .skip))
  ⟨1, [0, 1, 6, 7, 8, 9], []⟩))))
def k_zy_1 : KC := (.seq (.reg [
rq 20 (.move (.t 6)),
rq 21 (.bin .geq (.t 20) (.c (.int .i64 194))),
rq 22 (.move (.t 21)),
rqg 23 22 true (.move (.t 6)),
rqg 24 22 true (.bin .lss (.t 23) (.c (.int .i64 224))),
rq 25 (.pick (.t 22) (.t 24) (.c (.bool false)))]
  (.cond (.t 25)
  (.reg [
rq 7 (.move (.c (.int .i64 2)))]
  (.reg [
rq 26 (.move (.t 6)),
rq 27 (.bin .sub (.t 26) (.c (.int .i64 192))),
rq 8 (.move (.t 27))]
  (.lreg [
rq 9 (.move (.c (.int .i64 128)))])))
  .skip))
  ⟨2, [0, 1, 6, 7, 8, 9], []⟩)
def k_zy_2 : KC := (.seq (.reg [
rq 28 (.move (.t 6)),
rq 29 (.bin .geq (.t 28) (.c (.int .i64 224))),
rq 30 (.move (.t 29)),
rqg 31 30 true (.move (.t 6)),
rqg 32 30 true (.bin .lss (.t 31) (.c (.int .i64 240))),
rq 33 (.pick (.t 30) (.t 32) (.c (.bool false)))]
  (.cond (.t 33)
  (.reg [
rq 7 (.move (.c (.int .i64 3)))]
  (.reg [
rq 34 (.move (.t 6)),
rq 35 (.bin .sub (.t 34) (.c (.int .i64 224))),
rq 8 (.move (.t 35))]
  (.lreg [
rq 9 (.move (.c (.int .i64 2048)))])))
  .skip))
  ⟨3, [0, 1, 6, 7, 8, 9], []⟩)
def k_zy_3 : KC := (.seq (.reg [
rq 36 (.move (.t 6)),
rq 37 (.bin .geq (.t 36) (.c (.int .i64 240))),
rq 38 (.move (.t 37)),
rqg 39 38 true (.move (.t 6)),
rqg 40 38 true (.bin .lss (.t 39) (.c (.int .i64 245))),
rq 41 (.pick (.t 38) (.t 40) (.c (.bool false)))]
  (.cond (.t 41)
  (.reg [
rq 7 (.move (.c (.int .i64 4)))]
  (.reg [
rq 42 (.move (.t 6)),
rq 43 (.bin .sub (.t 42) (.c (.int .i64 240))),
rq 8 (.move (.t 43))]
  (.lreg [
rq 9 (.move (.c (.int .i64 65536)))])))
  .skip))
  ⟨4, [0, 1, 7, 8, 9], []⟩)
def k_zy_4 : KC := (.seq (.reg [
rq 44 (.move (.t 7)),
rq 45 (.bin .eql (.t 44) (.c (.int .i64 0))),
rq 46 (.move (.t 45)),
rqg 47 46 false (.move (.t 1)),
rqg 48 46 false (.move (.t 0)),
rqg 49 46 false (.len .str (.t 48)),
rqg 50 46 false (.move (.t 7)),
rqg 51 46 false (.bin .sub (.t 49) (.t 50)),
rqg 52 46 false (.bin .add (.t 51) (.c (.int .i64 1))),
rqg 53 46 false (.bin .geq (.t 47) (.t 52)),
rq 54 (.pick (.t 46) (.c (.bool true)) (.t 53))]
  (.cond (.t 54)
  (.reg [
rq 4 (.move (.c (.int .i64 0))),
rq 5 (.move (.c (.int .i32 0)))]
  .ret)
  .skip))
  ⟨5, [0, 1, 7, 8, 9], []⟩)
def k_zy_5 : KC := (.seq (.reg [
rq 10 (.move (.c (.int .i64 1)))]
  (.block 0 (.loop ⟨6, [0, 1, 7, 8, 9, 10], []⟩)))
  ⟨10, [7, 8, 9], []⟩)
def k_zy_6 : KC := (.seq (.reg [
rq 55 (.move (.t 10)),
rq 56 (.move (.t 7)),
rq 57 (.bin .lss (.t 55) (.t 56))]
  (.cond (.t 57)
  .skip
  (.exit 0)))
  ⟨7, [0, 1, 7, 8, 9, 10], []⟩)
def k_zy_7 : KC := (.seq (.block 1 (.reg [
rq 60 (.move (.t 0)),
rq 61 (.move (.t 1)),
rq 62 (.move (.t 10)),
rq 63 (.bin .add (.t 61) (.t 62)),
rq 64 (.idx (.t 60) (.t 63)),
rq 65 (.conv (.int .i64) (.t 64)),
rq 11 (.move (.t 65))]
  (.seq (.reg [
rq 66 (.move (.t 11)),
rq 67 (.bin .lss (.t 66) (.c (.int .i64 128))),
rq 68 (.move (.t 67)),
rqg 69 68 false (.move (.t 11)),
rqg 70 68 false (.bin .geq (.t 69) (.c (.int .i64 192))),
rq 71 (.pick (.t 68) (.c (.bool true)) (.t 70))]
  (.cond (.t 71)
  (.reg [
rq 4 (.move (.c (.int .i64 0))),
rq 5 (.move (.c (.int .i32 0)))]
  .ret)
  .skip))
  ⟨8, [0, 1, 7, 8, 9, 10, 11], []⟩)))
  ⟨9, [0, 1, 7, 8, 9, 10], []⟩)
def k_zy_8 : KC := (.lreg [
rq 72 (.move (.t 8)),
rq 73 (.bin .mul (.t 72) (.c (.int .i64 64))),
rq 74 (.move (.t 11)),
rq 75 (.bin .add (.t 73) (.t 74)),
rq 76 (.bin .sub (.t 75) (.c (.int .i64 128))),
rq 8 (.move (.t 76))])
def k_zy_9 : KC := (.lreg [
rq 58 (.move (.t 10)),
rq 59 (.bin .add (.t 58) (.c (.int .i64 1))),
rq 10 (.move (.t 59))])
def k_zy_10 : KC := (.seq (.reg [
rq 77 (.move (.t 8)),
rq 78 (.move (.t 9)),
rq 79 (.bin .lss (.t 77) (.t 78)),
rq 80 (.move (.t 79)),
rqg 81 80 false (.move (.t 8)),
rqg 82 80 false (.bin .gtr (.t 81) (.c (.int .i64 1114111))),
rq 83 (.pick (.t 80) (.c (.bool true)) (.t 82)),
rq 84 (.move (.t 83)),
rqg 85 84 false (.move (.t 8)),
rqg 86 84 false (.bin .geq (.t 85) (.c (.int .i64 55296))),
rqg 87 84 false (.move (.t 86)),
rqg 88 87 true (.move (.t 8)),
rqg 89 87 true (.bin .lss (.t 88) (.c (.int .i64 57344))),
rqg 90 84 false (.pick (.t 87) (.t 89) (.c (.bool false))),
rq 91 (.pick (.t 84) (.c (.bool true)) (.t 90))]
  (.cond (.t 91)
  (.reg [
rq 4 (.move (.c (.int .i64 0))),
rq 5 (.move (.c (.int .i32 0)))]
  .ret)
  .skip))
  ⟨11, [7, 8], []⟩)
def k_zy_11 : KC := (.reg [
rq 92 (.move (.t 7)),
rq 93 (.move (.t 8)),
rq 94 (.conv (.int .i32) (.t 93)),
rq 4 (.move (.t 92)),
rq 5 (.move (.t 94))]
  .ret)
def r_zy : KF where
  np := 2
  res := [.tmp 4, .tmp 5]
  code := [k_zy_0, k_zy_1, k_zy_2, k_zy_3, k_zy_4, k_zy_5, k_zy_6, k_zy_7, k_zy_8, k_zy_9, k_zy_10, k_zy_11]
def k_zv_0 : KC := (.reg [
rq 2 (.move (.c (.int .i64 0)))]
  (.seq (.reg [
rq 3 (.move (.c (.int .i64 0)))]
  (.block 0 (.loop ⟨1, [0, 3], []⟩)))
  ⟨4, [], []⟩))
def k_zv_1 : KC := (.seq (.reg [
rq 6 (.move (.t 3)),
rq 7 (.move (.t 0)),
rq 8 (.len .str (.t 7)),
rq 9 (.bin .lss (.t 6) (.t 8))]
  (.cond (.t 9)
  .skip
  (.exit 0)))
  ⟨2, [0, 3], []⟩)
def k_zv_2 : KC := (.block 1 (.reg [
rq 11 (.move (.t 0)),
rq 12 (.move (.t 3)),
rq 13 (.call .pur F.zy [(.t 11), (.t 12)]),
rq 10 (.move (.t 13)),
rq 14 (.extract (.t 10) 0),
rq 15 (.extract (.t 10) 1),
rq 4 (.move (.t 14)),
rq 5 (.move (.t 15))]
  (.seq (.reg [
rq 16 (.move (.t 4)),
rq 17 (.bin .eql (.t 16) (.c (.int .i64 0)))]
  (.cond (.t 17)
  (.reg [
rq 18 (.move (.t 3)),
rq 2 (.move (.t 18))]
  .ret)
  .skip))
  ⟨3, [0, 3, 4], []⟩)))
def k_zv_3 : KC := (.lreg [
rq 19 (.move (.t 3)),
rq 20 (.move (.t 4)),
rq 21 (.bin .add (.t 19) (.t 20)),
rq 3 (.move (.t 21))])
def k_zv_4 : KC := (.reg [
rq 2 (.move (.c (.int .i64 (-1))))]
  .ret)
def r_zv : KF where
  np := 1
  res := [.tmp 2]
  code := [k_zv_0, k_zv_1, k_zv_2, k_zv_3, k_zv_4]
def k_zx_0 : KC := (.reg [
rq 2 (.move (.c (.bool false)))]
  (.reg [
rq 3 (.move (.t 0)),
rq 4 (.call .pur F.zv [(.t 3)]),
rq 5 (.bin .eql (.t 4) (.c (.int .i64 (-1)))),
rq 2 (.move (.t 5))]
  .ret))
def r_zx : KF where
  np := 1
  res := [.tmp 2]
  code := [k_zx_0]
def k_z5_0 : KC := (.reg [
rq 2 (.ibox (.t 0)),
rq 4 (.move (.c (.bool false)))]
  (.seq (.reg [
rq 8 (.move (.t 1)),
rq 9 (.bin .lss (.t 8) (.c (.int .i64 1))),
rq 10 (.move (.t 9)),
rqg 11 10 false (.faddr 0 (.t 2)),
rqg 12 10 false (.load false 1 (.t 11)),
rqg 13 10 false (.bin .lss (.t 12) (.c (.int .i64 0))),
rq 14 (.pick (.t 10) (.c (.bool true)) (.t 13)),
rq 15 (.move (.t 14)),
rqg 16 15 false (.faddr 0 (.t 2)),
rqg 17 15 false (.load false 1 (.t 16)),
rqg 18 15 false (.bin .gtr (.t 17) (.c (.int .i64 5))),
rq 19 (.pick (.t 15) (.c (.bool true)) (.t 18))]
  (.cond (.t 19)
  (.reg [
rq 4 (.move (.c (.bool false)))]
  .ret)
  .skip))
  ⟨1, [1, 2], []⟩))
def k_z5_1 : KC := (.seq (.reg [
rq 20 (.faddr 0 (.t 2)),
rq 21 (.load false 1 (.t 20)),
rq 22 (.bin .neq (.t 21) (.c (.int .i64 1))),
rq 23 (.move (.t 22)),
rqg 24 23 true (.faddr 0 (.t 2)),
rqg 25 23 true (.load false 1 (.t 24)),
rqg 26 23 true (.bin .neq (.t 25) (.c (.int .i64 2))),
rq 27 (.pick (.t 23) (.t 26) (.c (.bool false))),
rq 28 (.move (.t 27)),
rqg 29 28 true (.faddr 1 (.t 2)),
rqg 30 28 true (.load false 1 (.t 29)),
rqg 31 28 true (.bin .neq (.t 30) (.c (.int .i64 0))),
rq 32 (.pick (.t 28) (.t 31) (.c (.bool false))),
rq 33 (.move (.t 32)),
rqg 34 33 false (.faddr 0 (.t 2)),
rqg 35 33 false (.load false 1 (.t 34)),
rqg 36 33 false (.bin .neq (.t 35) (.c (.int .i64 3))),
rqg 37 33 false (.move (.t 36)),
rqg 38 37 true (.faddr 2 (.t 2)),
rqg 39 37 true (.load false 1 (.t 38)),
rqg 40 37 true (.bin .neq (.t 39) (.c (.str []))),
rqg 41 33 false (.pick (.t 37) (.t 40) (.c (.bool false))),
rq 42 (.pick (.t 33) (.c (.bool true)) (.t 41)),
rq 43 (.move (.t 42)),
rqg 44 43 false (.faddr 0 (.t 2)),
rqg 45 43 false (.load false 1 (.t 44)),
rqg 46 43 false (.bin .neq (.t 45) (.c (.int .i64 4))),
rqg 47 43 false (.move (.t 46)),
rqg 48 47 true (.faddr 3 (.t 2)),
rqg 49 47 true (.load false 1 (.t 48)),
rqg 50 47 true (.len .sl (.t 49)),
rqg 51 47 true (.bin .gtr (.t 50) (.c (.int .i64 0))),
rqg 52 43 false (.pick (.t 47) (.t 51) (.c (.bool false))),
rq 53 (.pick (.t 43) (.c (.bool true)) (.t 52)),
rq 54 (.move (.t 53)),
rqg 55 54 false (.faddr 0 (.t 2)),
rqg 56 54 false (.load false 1 (.t 55)),
rqg 57 54 false (.bin .neq (.t 56) (.c (.int .i64 5))),
rqg 58 54 false (.move (.t 57)),
rqg 59 58 true (.faddr 4 (.t 2)),
rqg 60 58 true (.load false 1 (.t 59)),
rqg 61 58 true (.len .sl (.t 60)),
rqg 62 58 true (.bin .gtr (.t 61) (.c (.int .i64 0))),
rqg 63 54 false (.pick (.t 58) (.t 62) (.c (.bool false))),
rq 64 (.pick (.t 54) (.c (.bool true)) (.t 63))]
  (.cond (.t 64)
  (.reg [
rq 4 (.move (.c (.bool false)))]
  .ret)
  .skip))
  ⟨2, [1, 2], []⟩)
def k_z5_2 : KC := (.seq (.reg [
rq 65 (.faddr 0 (.t 2)),
rq 66 (.load false 1 (.t 65)),
rq 67 (.bin .eql (.t 66) (.c (.int .i64 1))),
rq 68 (.move (.t 67)),
rqg 69 68 true (.faddr 1 (.t 2)),
rqg 70 68 true (.load false 1 (.t 69)),
rqg 71 68 true (.bin .neq (.t 70) (.c (.int .i64 0))),
rq 72 (.pick (.t 68) (.t 71) (.c (.bool false))),
rq 73 (.move (.t 72)),
rqg 74 73 true (.faddr 1 (.t 2)),
rqg 75 73 true (.load false 1 (.t 74)),
rqg 76 73 true (.bin .neq (.t 75) (.c (.int .i64 1))),
rq 77 (.pick (.t 73) (.t 76) (.c (.bool false))),
rq 78 (.move (.t 77)),
rqg 79 78 false (.faddr 1 (.t 2)),
rqg 80 78 false (.load false 1 (.t 79)),
rqg 81 78 false (.bin .gtr (.t 80) (.c (.int .i64 9007199254740991))),
rq 82 (.pick (.t 78) (.c (.bool true)) (.t 81)),
rq 83 (.move (.t 82)),
rqg 84 83 false (.faddr 1 (.t 2)),
rqg 85 83 false (.load false 1 (.t 84)),
rqg 86 83 false (.bin .lss (.t 85) (.c (.int .i64 (-9007199254740991)))),
rq 87 (.pick (.t 83) (.c (.bool true)) (.t 86)),
rq 88 (.move (.t 87)),
rqg 89 88 false (.faddr 2 (.t 2)),
rqg 90 88 false (.load false 1 (.t 89)),
rqg 91 88 false (.call .pur F.zx [(.t 90)]),
rqg 92 88 false (.un .not (.t 91)),
rq 93 (.pick (.t 88) (.c (.bool true)) (.t 92))]
  (.cond (.t 93)
  (.reg [
rq 4 (.move (.c (.bool false)))]
  .ret)
  .skip))
  ⟨3, [1, 2], []⟩)
def k_z5_3 : KC := (.seq (.reg [
rq 5 (.move (.c (.int .i64 0)))]
  (.block 0 (.loop ⟨4, [1, 2, 5], []⟩)))
  ⟨7, [1, 2], []⟩)
def k_z5_4 : KC := (.seq (.reg [
rq 94 (.move (.t 5)),
rq 95 (.faddr 3 (.t 2)),
rq 96 (.load false 1 (.t 95)),
rq 97 (.len .sl (.t 96)),
rq 98 (.bin .lss (.t 94) (.t 97))]
  (.cond (.t 98)
  .skip
  (.exit 0)))
  ⟨5, [1, 2, 5], []⟩)
def k_z5_5 : KC := (.seq (.block 1 (.reg [
rq 101 (.faddr 3 (.t 2)),
rq 102 (.load false 1 (.t 101)),
rq 103 (.move (.t 5)),
rq 104 (.iaddr 5 (.t 102) (.t 103)),
rq 105 (.load true 5 (.t 104)),
rq 106 (.move (.t 1)),
rq 107 (.bin .sub (.t 106) (.c (.int .i64 1))),
rq 108 (.call .pur F.z5 [(.t 105), (.t 107)]),
rq 109 (.un .not (.t 108))]
  (.cond (.t 109)
  (.reg [
rq 4 (.move (.c (.bool false)))]
  .ret)
  .skip)))
  ⟨6, [1, 2, 5], []⟩)
def k_z5_6 : KC := (.lreg [
rq 99 (.move (.t 5)),
rq 100 (.bin .add (.t 99) (.c (.int .i64 1))),
rq 5 (.move (.t 100))])
def k_z5_7 : KC := (.seq (.reg [
rq 6 (.move (.c (.int .i64 0)))]
  (.block 2 (.loop ⟨8, [1, 2, 6], []⟩)))
  ⟨15, [], []⟩)
def k_z5_8 : KC := (.seq (.reg [
rq 110 (.move (.t 6)),
rq 111 (.faddr 4 (.t 2)),
rq 112 (.load false 1 (.t 111)),
rq 113 (.len .sl (.t 112)),
rq 114 (.bin .lss (.t 110) (.t 113))]
  (.cond (.t 114)
  .skip
  (.exit 2)))
  ⟨9, [1, 2, 6], []⟩)
def k_z5_9 : KC := (.seq (.block 3 (.seq (.reg [
rq 117 (.faddr 4 (.t 2)),
rq 118 (.load false 1 (.t 117)),
rq 119 (.move (.t 6)),
rq 120 (.iaddr 6 (.t 118) (.t 119)),
rq 121 (.faddr 0 (.t 120)),
rq 122 (.load false 1 (.t 121)),
rq 123 (.call .pur F.zx [(.t 122)]),
rq 124 (.un .not (.t 123)),
rq 125 (.move (.t 124)),
rqg 126 125 false (.faddr 4 (.t 2)),
rqg 127 125 false (.load false 1 (.t 126)),
rqg 128 125 false (.move (.t 6)),
rqg 129 125 false (.iaddr 6 (.t 127) (.t 128)),
rqg 130 125 false (.faddr 1 (.t 129)),
rqg 131 125 false (.load true 5 (.t 130)),
rqg 132 125 false (.move (.t 1)),
rqg 133 125 false (.bin .sub (.t 132) (.c (.int .i64 1))),
rqg 134 125 false (.call .pur F.z5 [(.t 131), (.t 133)]),
rqg 135 125 false (.un .not (.t 134)),
rq 136 (.pick (.t 125) (.c (.bool true)) (.t 135))]
  (.cond (.t 136)
  (.reg [
rq 4 (.move (.c (.bool false)))]
  .ret)
  .skip))
  ⟨10, [1, 2, 6], []⟩))
  ⟨14, [1, 2, 6], []⟩)
def k_z5_10 : KC := (.reg [
rq 7 (.move (.c (.int .i64 0)))]
  (.block 4 (.loop ⟨11, [1, 2, 6, 7], []⟩)))
def k_z5_11 : KC := (.seq (.reg [
rq 137 (.move (.t 7)),
rq 138 (.move (.t 6)),
rq 139 (.bin .lss (.t 137) (.t 138))]
  (.cond (.t 139)
  .skip
  (.exit 4)))
  ⟨12, [1, 2, 6, 7], []⟩)
def k_z5_12 : KC := (.seq (.block 5 (.dreg [
rq 142 (.faddr 4 (.t 2)),
rq 143 (.load false 1 (.t 142)),
rq 144 (.move (.t 7)),
rq 145 (.iaddr 6 (.t 143) (.t 144)),
rq 146 (.faddr 0 (.t 145)),
rq 147 (.load false 1 (.t 146)),
rq 148 (.faddr 4 (.t 2)),
rq 149 (.load false 1 (.t 148)),
rq 150 (.move (.t 6)),
rq 151 (.iaddr 6 (.t 149) (.t 150)),
rq 152 (.faddr 0 (.t 151)),
rq 153 (.load false 1 (.t 152)),
rq 154 (.bin .eql (.t 147) (.t 153))] []
  (.cond (.t 154)
  (.reg [
rq 4 (.move (.c (.bool false)))]
  .ret)
  .skip)))
  ⟨13, [1, 2, 6, 7], []⟩)
def k_z5_13 : KC := (.lreg [
rq 140 (.move (.t 7)),
rq 141 (.bin .add (.t 140) (.c (.int .i64 1))),
rq 7 (.move (.t 141))])
def k_z5_14 : KC := (.lreg [
rq 115 (.move (.t 6)),
rq 116 (.bin .add (.t 115) (.c (.int .i64 1))),
rq 6 (.move (.t 116))])
def k_z5_15 : KC := (.reg [
rq 4 (.move (.c (.bool true)))]
  .ret)
def r_z5 : KF where
  np := 2
  res := [.tmp 4]
  code := [k_z5_0, k_z5_1, k_z5_2, k_z5_3, k_z5_4, k_z5_5, k_z5_6, k_z5_7, k_z5_8, k_z5_9, k_z5_10, k_z5_11, k_z5_12, k_z5_13, k_z5_14, k_z5_15]
def k_z2_0 : KC := (.reg [
rq 1 (.ibox (.t 0)),
rq 2 (.move (.c (.bool false)))]
  (.reg [
rq 3 (.load true 5 (.t 1)),
rq 4 (.call .pur F.z5 [(.t 3), (.c (.int .i64 12))]),
rq 2 (.move (.t 4))]
  .ret))
def r_z2 : KF where
  np := 1
  res := [.tmp 2]
  code := [k_z2_0]
def k_zbd_0 : KC := (.reg [
rq 2 (.move (.c (.bool false)))]
  (.seq (.reg [
rq 3 (.move (.c (.int .i64 0)))]
  (.block 0 (.loop ⟨1, [0, 3], []⟩)))
  ⟨4, [0], []⟩))
def k_zbd_1 : KC := (.seq (.reg [
rq 5 (.move (.t 3)),
rq 6 (.move (.t 0)),
rq 7 (.len .sl (.t 6)),
rq 8 (.bin .lss (.t 5) (.t 7)),
rq 9 (.move (.t 8)),
rqg 10 9 true (.move (.t 3)),
rqg 11 9 true (.bin .lss (.t 10) (.c (.int .i64 40))),
rq 12 (.pick (.t 9) (.t 11) (.c (.bool false)))]
  (.cond (.t 12)
  .skip
  (.exit 0)))
  ⟨2, [0, 3], []⟩)
def k_zbd_2 : KC := (.seq (.block 1 (.reg [
rq 15 (.move (.t 0)),
rq 16 (.move (.t 3)),
rq 17 (.iaddr 3 (.t 15) (.t 16)),
rq 18 (.load true 3 (.t 17)),
rq 4 (.alloc [(.str []), (.int .i64 0), (.bool false)]),
rz (.store 3 (.t 4) (.t 18))]
  (.reg [
rq 19 (.faddr 2 (.t 4)),
rq 20 (.load false 1 (.t 19)),
rq 21 (.move (.t 20)),
rqg 22 21 true (.faddr 0 (.t 4)),
rqg 23 21 true (.load false 1 (.t 22)),
rqg 24 21 true (.bin .neq (.t 23) (.c (.str []))),
rqg 25 21 true (.move (.t 24)),
rqg 26 25 false (.faddr 1 (.t 4)),
rqg 27 25 false (.load false 1 (.t 26)),
rqg 28 25 false (.bin .lss (.t 27) (.c (.int .i64 0))),
rqg 29 21 true (.pick (.t 25) (.c (.bool true)) (.t 28)),
rqg 30 21 true (.move (.t 29)),
rqg 31 30 false (.faddr 1 (.t 4)),
rqg 32 30 false (.load false 1 (.t 31)),
rqg 33 30 false (.bin .gtr (.t 32) (.c (.int .i64 9007199254740991))),
rqg 34 21 true (.pick (.t 30) (.c (.bool true)) (.t 33)),
rq 35 (.pick (.t 21) (.t 34) (.c (.bool false))),
rq 36 (.move (.t 35)),
rqg 37 36 false (.faddr 2 (.t 4)),
rqg 38 36 false (.load false 1 (.t 37)),
rqg 39 36 false (.un .not (.t 38)),
rqg 40 36 false (.move (.t 39)),
rqg 41 40 true (.faddr 1 (.t 4)),
rqg 42 40 true (.load false 1 (.t 41)),
rqg 43 40 true (.bin .neq (.t 42) (.c (.int .i64 0))),
rqg 44 40 true (.move (.t 43)),
rqg 45 44 false (.faddr 0 (.t 4)),
rqg 46 44 false (.load false 1 (.t 45)),
rqg 47 44 false (.call .pur F.zx [(.t 46)]),
rqg 48 44 false (.un .not (.t 47)),
rqg 49 40 true (.pick (.t 44) (.c (.bool true)) (.t 48)),
rqg 50 36 false (.pick (.t 40) (.t 49) (.c (.bool false))),
rq 51 (.pick (.t 36) (.c (.bool true)) (.t 50))]
  (.cond (.t 51)
  (.reg [
rq 2 (.move (.c (.bool false)))]
  .ret)
  .skip))))
  ⟨3, [0, 3], []⟩)
def k_zbd_3 : KC := (.lreg [
rq 13 (.move (.t 3)),
rq 14 (.bin .add (.t 13) (.c (.int .i64 1))),
rq 3 (.move (.t 14))])
def k_zbd_4 : KC := (.reg [
rq 52 (.move (.t 0)),
rq 53 (.len .sl (.t 52)),
rq 54 (.bin .leq (.t 53) (.c (.int .i64 30))),
rq 2 (.move (.t 54))]
  .ret)
def r_zbd : KF where
  np := 1
  res := [.tmp 2]
  code := [k_zbd_0, k_zbd_1, k_zbd_2, k_zbd_3, k_zbd_4]
def k_zz_0 : KC := (.reg [
rq 2 (.ibox (.t 0)),
rq 4 (.move (.c (.int .i64 0)))]
  (.seq (.reg [
rq 5 (.move (.c (.int .i64 0)))]
  (.block 0 (.loop ⟨1, [1, 2, 5], []⟩)))
  ⟨4, [], []⟩))
def k_zz_1 : KC := (.seq (.reg [
rq 6 (.move (.t 5)),
rq 7 (.faddr 4 (.t 2)),
rq 8 (.load false 1 (.t 7)),
rq 9 (.len .sl (.t 8)),
rq 10 (.bin .lss (.t 6) (.t 9))]
  (.cond (.t 10)
  .skip
  (.exit 0)))
  ⟨2, [1, 2, 5], []⟩)
def k_zz_2 : KC := (.seq (.block 1 (.reg [
rq 13 (.faddr 4 (.t 2)),
rq 14 (.load false 1 (.t 13)),
rq 15 (.move (.t 5)),
rq 16 (.iaddr 6 (.t 14) (.t 15)),
rq 17 (.faddr 0 (.t 16)),
rq 18 (.load false 1 (.t 17)),
rq 19 (.move (.t 1)),
rq 20 (.bin .eql (.t 18) (.t 19))]
  (.cond (.t 20)
  (.reg [
rq 21 (.move (.t 5)),
rq 4 (.move (.t 21))]
  .ret)
  .skip)))
  ⟨3, [1, 2, 5], []⟩)
def k_zz_3 : KC := (.lreg [
rq 11 (.move (.t 5)),
rq 12 (.bin .add (.t 11) (.c (.int .i64 1))),
rq 5 (.move (.t 12))])
def k_zz_4 : KC := (.reg [
rq 4 (.move (.c (.int .i64 (-1))))]
  .ret)
def r_zz : KF where
  np := 2
  res := [.tmp 4]
  code := [k_zz_0, k_zz_1, k_zz_2, k_zz_3, k_zz_4]
def k_zbj_0 : KC := (.reg [
rq 2 (.ibox (.t 0)),
rq 3 (.ibox (.t 1)),
rq 4 (.move (.c (.int .i64 0)))]
  (.seq (.reg [
rq 5 (.faddr 2 (.t 3)),
rq 6 (.load false 1 (.t 5))]
  (.cond (.t 6)
  (.seq (.reg [
rq 7 (.faddr 0 (.t 2)),
rq 8 (.load false 1 (.t 7)),
rq 9 (.bin .eql (.t 8) (.c (.int .i64 4))),
rq 10 (.move (.t 9)),
rqg 11 10 true (.faddr 1 (.t 3)),
rqg 12 10 true (.load false 1 (.t 11)),
rqg 13 10 true (.faddr 3 (.t 2)),
rqg 14 10 true (.load false 1 (.t 13)),
rqg 15 10 true (.len .sl (.t 14)),
rqg 16 10 true (.bin .lss (.t 12) (.t 15)),
rq 17 (.pick (.t 10) (.t 16) (.c (.bool false)))]
  (.cond (.t 17)
  (.reg [
rq 18 (.faddr 1 (.t 3)),
rq 19 (.load false 1 (.t 18)),
rq 4 (.move (.t 19))]
  .ret)
  .skip))
  ⟨1, [], []⟩)
  .skip))
  ⟨2, [2, 3], []⟩))
def k_zbj_1 : KC := (.reg [
rq 4 (.move (.c (.int .i64 (-1))))]
  .ret)
def k_zbj_2 : KC := (.seq (.reg [
rq 20 (.faddr 0 (.t 2)),
rq 21 (.load false 1 (.t 20)),
rq 22 (.bin .neq (.t 21) (.c (.int .i64 5)))]
  (.cond (.t 22)
  (.reg [
rq 4 (.move (.c (.int .i64 (-1))))]
  .ret)
  .skip))
  ⟨3, [2, 3], []⟩)
def k_zbj_3 : KC := (.reg [
rq 23 (.load true 5 (.t 2)),
rq 24 (.faddr 0 (.t 3)),
rq 25 (.load false 1 (.t 24)),
rq 26 (.call .pur F.zz [(.t 23), (.t 25)]),
rq 4 (.move (.t 26))]
  .ret)
def r_zbj : KF where
  np := 2
  res := [.tmp 4]
  code := [k_zbj_0, k_zbj_1, k_zbj_2, k_zbj_3]
def k_z8_0 : KC := (.reg [
rq 2 (.box (.t 0)),
rq 4 (.alloc [(.int .i64 0), (.int .i64 0), (.str []), (.sl []), (.sl [])]),
rq 5 (.move (.c (.bool false)))]
  (.seq (.reg [
rq 6 (.move (.c (.int .i64 0)))]
  (.block 0 (.loop ⟨1, [1, 2, 4, 6], [[2], [4]]⟩)))
  ⟨5, [2, 4], [[2], [4]]⟩))
def k_z8_1 : KC := (.seq (.reg [
rq 8 (.move (.t 6)),
rq 9 (.move (.t 1)),
rq 10 (.len .sl (.t 9)),
rq 11 (.bin .lss (.t 8) (.t 10))]
  (.cond (.t 11)
  .skip
  (.exit 0)))
  ⟨2, [1, 2, 4, 6], [[2], [4]]⟩)
def k_z8_2 : KC := (.seq (.block 1 (.dreg [
rq 14 (.load true 5 (.t 2)),
rq 15 (.move (.t 1)),
rq 16 (.move (.t 6)),
rq 17 (.iaddr 3 (.t 15) (.t 16)),
rq 18 (.load true 3 (.t 17)),
rq 19 (.call .pur F.zbj [(.t 14), (.t 18)]),
rq 7 (.move (.t 19))] []
  (.seq (.reg [
rq 20 (.move (.t 7)),
rq 21 (.bin .lss (.t 20) (.c (.int .i64 0)))]
  (.cond (.t 21)
  (.reg [
rq 22 (.build [(.int .i64 0), (.int .i64 0), (.str []), (.sl []), (.sl [])] []),
rz (.store 5 (.t 4) (.t 22)),
rq 5 (.move (.c (.bool false)))]
  .ret)
  .skip))
  ⟨3, [1, 2, 4, 6, 7], [[2], [4]]⟩)))
  ⟨4, [1, 2, 4, 6], [[2], [4]]⟩)
def k_z8_3 : KC := (.reg [
rq 23 (.move (.t 1)),
rq 24 (.move (.t 6)),
rq 25 (.iaddr 3 (.t 23) (.t 24)),
rq 26 (.faddr 2 (.t 25)),
rq 27 (.load false 1 (.t 26))]
  (.cond (.t 27)
  (.lreg [
rq 28 (.faddr 3 (.t 2)),
rq 29 (.load false 1 (.t 28)),
rq 30 (.move (.t 7)),
rq 31 (.iaddr 5 (.t 29) (.t 30)),
rq 32 (.load true 5 (.t 31)),
rz (.store 5 (.t 2) (.t 32))])
  (.lreg [
rq 33 (.faddr 4 (.t 2)),
rq 34 (.load false 1 (.t 33)),
rq 35 (.move (.t 7)),
rq 36 (.iaddr 6 (.t 34) (.t 35)),
rq 37 (.faddr 1 (.t 36)),
rq 38 (.load true 5 (.t 37)),
rz (.store 5 (.t 2) (.t 38))])))
def k_z8_4 : KC := (.lreg [
rq 12 (.move (.t 6)),
rq 13 (.bin .add (.t 12) (.c (.int .i64 1))),
rq 6 (.move (.t 13))])
def k_z8_5 : KC := (.reg [
rq 39 (.load true 5 (.t 2)),
rz (.store 5 (.t 4) (.t 39)),
rq 5 (.move (.c (.bool true)))]
  .ret)
def r_z8 : KF where
  np := 2
  res := [.cell 4 true 5, .tmp 5]
  code := [k_z8_0, k_z8_1, k_z8_2, k_z8_3, k_z8_4, k_z8_5]
def k_zbi_0 : KC := (.reg [
rq 2 (.ibox (.t 0)),
rq 4 (.alloc [(.int .i64 0), (.int .i64 0), (.str []), (.sl []), (.sl [])]),
rq 5 (.move (.c (.int .i64 0)))]
  (.seq (.reg [
rq 8 (.load true 5 (.t 2)),
rq 9 (.call .pur F.z2 [(.t 8)]),
rq 10 (.un .not (.t 9)),
rq 11 (.move (.t 10)),
rqg 12 11 false (.move (.t 1)),
rqg 13 11 false (.call .pur F.zbd [(.t 12)]),
rqg 14 11 false (.un .not (.t 13)),
rq 15 (.pick (.t 11) (.c (.bool true)) (.t 14))]
  (.cond (.t 15)
  (.reg [
rq 16 (.build [(.int .i64 0), (.int .i64 0), (.str []), (.sl []), (.sl [])] []),
rz (.store 5 (.t 4) (.t 16)),
rq 5 (.move (.c (.int .i64 1)))]
  .ret)
  .skip))
  ⟨1, [1, 2, 4], [[4]]⟩))
def k_zbi_1 : KC := (.reg [
rq 18 (.load true 5 (.t 2)),
rq 19 (.move (.t 1)),
rq 20 (.call .pur F.z8 [(.t 18), (.t 19)]),
rq 17 (.move (.t 20)),
rq 21 (.extract (.t 17) 0),
rq 22 (.extract (.t 17) 1),
rq 6 (.alloc [(.int .i64 0), (.int .i64 0), (.str []), (.sl []), (.sl [])]),
rz (.store 5 (.t 6) (.t 21)),
rq 7 (.move (.t 22))]
  (.seq (.reg [
rq 23 (.move (.t 7)),
rq 24 (.un .not (.t 23))]
  (.cond (.t 24)
  (.reg [
rq 25 (.build [(.int .i64 0), (.int .i64 0), (.str []), (.sl []), (.sl [])] []),
rz (.store 5 (.t 4) (.t 25)),
rq 5 (.move (.c (.int .i64 8)))]
  .ret)
  .skip))
  ⟨2, [4, 6], [[4], [6]]⟩))
def k_zbi_2 : KC := (.reg [
rq 26 (.load true 5 (.t 6)),
rz (.store 5 (.t 4) (.t 26)),
rq 5 (.move (.c (.int .i64 0)))]
  .ret)
def r_zbi : KF where
  np := 2
  res := [.cell 4 true 5, .tmp 5]
  code := [k_zbi_0, k_zbi_1, k_zbi_2]
def k_zbb_0 : KC := (.reg [
rq 3 (.ibox (.t 0)),
rq 5 (.ibox (.t 2)),
rq 6 (.alloc [(.int .i64 0), (.int .i64 0), (.str []), (.sl []), (.sl [])])]
  (.seq (.reg [
rq 13 (.move (.t 1)),
rq 14 (.len .sl (.t 13)),
rq 15 (.bin .eql (.t 14) (.c (.int .i64 0)))]
  (.cond (.t 15)
  (.reg [
rq 16 (.load true 5 (.t 5)),
rz (.store 5 (.t 6) (.t 16))]
  .ret)
  .skip))
  ⟨1, [1, 3, 5, 6], [[6]]⟩))
def k_zbb_1 : KC := (.dreg [
rq 17 (.load true 5 (.t 3)),
rq 18 (.move (.t 1)),
rq 19 (.iaddr 3 (.t 18) (.c (.int .i64 0))),
rq 20 (.load true 3 (.t 19)),
rq 21 (.call .pur F.zbj [(.t 17), (.t 20)]),
rq 7 (.move (.t 21))] []
  (.reg [
rq 22 (.faddr 0 (.t 3)),
rq 23 (.load false 1 (.t 22)),
rq 24 (.build [(.int .i64 0), (.int .i64 0), (.str []), .nils, .nils] [(0, 1, (.t 23))]),
rq 8 (.alloc [(.int .i64 0), (.int .i64 0), (.str []), (.sl []), (.sl [])]),
rz (.store 5 (.t 8) (.t 24))]
  (.adj (.virt [8] 3 5 [8, 3]) (.adj (.virt [8] 4 6 [8, 4]) (.seq (.reg [
rq 9 (.move (.c (.int .i64 0)))]
  (.block 0 (.loop ⟨2, [1, 3, 5, 6, 7, 8, 9], [[6], [8], [8, 3], [8, 4]]⟩)))
  ⟨6, [1, 3, 5, 6, 7, 8], [[6], [8], [8, 3], [8, 4]]⟩)))))
def k_zbb_2 : KC := (.seq (.reg [
rq 25 (.move (.t 9)),
rq 26 (.faddr 3 (.t 3)),
rq 27 (.load false 1 (.t 26)),
rq 28 (.len .sl (.t 27)),
rq 29 (.bin .lss (.t 25) (.t 28))]
  (.cond (.t 29)
  .skip
  (.exit 0)))
  ⟨3, [1, 3, 5, 6, 7, 8, 9], [[6], [8], [8, 3], [8, 4]]⟩)
def k_zbb_3 : KC := (.seq (.block 1 (.reg [
rq 32 (.faddr 3 (.t 3)),
rq 33 (.load false 1 (.t 32)),
rq 34 (.move (.t 9)),
rq 35 (.iaddr 5 (.t 33) (.t 34)),
rq 36 (.load true 5 (.t 35)),
rq 10 (.alloc [(.int .i64 0), (.int .i64 0), (.str []), (.sl []), (.sl [])]),
rz (.store 5 (.t 10) (.t 36))]
  (.seq (.reg [
rq 37 (.move (.t 9)),
rq 38 (.move (.t 7)),
rq 39 (.bin .eql (.t 37) (.t 38))]
  (.cond (.t 39)
  (.ldreg [
rq 40 (.load true 5 (.t 10)),
rq 41 (.move (.t 1)),
rq 42 (.slice 3 (.t 41) (some (.c (.int .i64 1))) none),
rq 43 (.load true 5 (.t 5)),
rq 44 (.call .pur F.zbb [(.t 40), (.t 42), (.t 43)])] [
rz (.store 5 (.t 10) (.t 44))])
  .skip))
  ⟨4, [1, 3, 5, 6, 7, 8, 9, 10], [[6], [8], [8, 3], [8, 4], [10]]⟩)))
  ⟨5, [1, 3, 5, 6, 7, 8, 9], [[6], [8], [8, 3], [8, 4]]⟩)
def k_zbb_4 : KC := (.lreg [
rq 45 (.faddr 3 (.t 8)),
rq 46 (.load false 1 (.t 45)),
rq 47 (.load true 5 (.t 10)),
rq 48 (.ilit 5 [(.t 47)]),
rq 49 (.app 5 80 (.t 46) (.t 48)),
rq 50 (.faddr 3 (.t 8)),
rz (.store 1 (.t 50) (.t 49))])
def k_zbb_5 : KC := (.lreg [
rq 30 (.move (.t 9)),
rq 31 (.bin .add (.t 30) (.c (.int .i64 1))),
rq 9 (.move (.t 31))])
def k_zbb_6 : KC := (.seq (.reg [
rq 11 (.move (.c (.int .i64 0)))]
  (.block 2 (.loop ⟨7, [1, 3, 5, 6, 7, 8, 11], [[6], [8], [8, 3], [8, 4]]⟩)))
  ⟨11, [6, 8], [[6], [8], [8, 3], [8, 4]]⟩)
def k_zbb_7 : KC := (.seq (.reg [
rq 51 (.move (.t 11)),
rq 52 (.faddr 4 (.t 3)),
rq 53 (.load false 1 (.t 52)),
rq 54 (.len .sl (.t 53)),
rq 55 (.bin .lss (.t 51) (.t 54))]
  (.cond (.t 55)
  .skip
  (.exit 2)))
  ⟨8, [1, 3, 5, 6, 7, 8, 11], [[6], [8], [8, 3], [8, 4]]⟩)
def k_zbb_8 : KC := (.seq (.block 3 (.reg [
rq 58 (.faddr 4 (.t 3)),
rq 59 (.load false 1 (.t 58)),
rq 60 (.move (.t 11)),
rq 61 (.iaddr 6 (.t 59) (.t 60)),
rq 62 (.load true 6 (.t 61)),
rq 12 (.alloc [(.str []), (.int .i64 0), (.int .i64 0), (.str []), (.sl []), (.sl [])]),
rz (.store 6 (.t 12) (.t 62))]
  (.seq (.reg [
rq 63 (.move (.t 11)),
rq 64 (.move (.t 7)),
rq 65 (.bin .eql (.t 63) (.t 64))]
  (.cond (.t 65)
  (.ldreg [
rq 66 (.faddr 1 (.t 12)),
rq 67 (.load true 5 (.t 66)),
rq 68 (.move (.t 1)),
rq 69 (.slice 3 (.t 68) (some (.c (.int .i64 1))) none),
rq 70 (.load true 5 (.t 5)),
rq 71 (.call .pur F.zbb [(.t 67), (.t 69), (.t 70)]),
rq 72 (.faddr 1 (.t 12))] [
rz (.store 5 (.t 72) (.t 71))])
  .skip))
  ⟨9, [1, 3, 5, 6, 7, 8, 11, 12], [[6], [8], [8, 3], [8, 4], [12]]⟩)))
  ⟨10, [1, 3, 5, 6, 7, 8, 11], [[6], [8], [8, 3], [8, 4]]⟩)
def k_zbb_9 : KC := (.lreg [
rq 73 (.faddr 4 (.t 8)),
rq 74 (.load false 1 (.t 73)),
rq 75 (.load true 6 (.t 12)),
rq 76 (.ilit 6 [(.t 75)]),
rq 77 (.app 6 96 (.t 74) (.t 76)),
rq 78 (.faddr 4 (.t 8)),
rz (.store 1 (.t 78) (.t 77))])
def k_zbb_10 : KC := (.lreg [
rq 56 (.move (.t 11)),
rq 57 (.bin .add (.t 56) (.c (.int .i64 1))),
rq 11 (.move (.t 57))])
def k_zbb_11 : KC := (.reg [
rq 79 (.load true 5 (.t 8)),
rz (.store 5 (.t 6) (.t 79))]
  .ret)
def r_zbb : KF where
  np := 3
  res := [.cell 6 true 5]
  code := [k_zbb_0, k_zbb_1, k_zbb_2, k_zbb_3, k_zbb_4, k_zbb_5, k_zbb_6, k_zbb_7, k_zbb_8, k_zbb_9, k_zbb_10, k_zbb_11]
def k_zbh_0 : KC := (.reg [
rq 3 (.ibox (.t 0)),
rq 5 (.ibox (.t 2)),
rq 6 (.alloc [(.int .i64 0), (.int .i64 0), (.str []), (.sl []), (.sl [])]),
rq 7 (.move (.c (.int .i64 0)))]
  (.reg [
rq 9 (.load true 5 (.t 3)),
rq 10 (.move (.t 1)),
rq 11 (.load true 5 (.t 5)),
rq 12 (.call .pur F.zbb [(.t 9), (.t 10), (.t 11)]),
rq 8 (.alloc [(.int .i64 0), (.int .i64 0), (.str []), (.sl []), (.sl [])]),
rz (.store 5 (.t 8) (.t 12))]
  (.seq (.reg [
rq 13 (.load true 5 (.t 8)),
rq 14 (.call .pur F.z2 [(.t 13)]),
rq 15 (.un .not (.t 14))]
  (.cond (.t 15)
  (.reg [
rq 16 (.build [(.int .i64 0), (.int .i64 0), (.str []), (.sl []), (.sl [])] []),
rz (.store 5 (.t 6) (.t 16)),
rq 7 (.move (.c (.int .i64 5)))]
  .ret)
  .skip))
  ⟨1, [6, 8], [[6], [8]]⟩)))
def k_zbh_1 : KC := (.reg [
rq 17 (.load true 5 (.t 8)),
rz (.store 5 (.t 6) (.t 17)),
rq 7 (.move (.c (.int .i64 0)))]
  .ret)
def r_zbh : KF where
  np := 3
  res := [.cell 6 true 5, .tmp 7]
  code := [k_zbh_0, k_zbh_1]
def k_z6_0 : KC := (.reg [
rq 3 (.ibox (.t 0)),
rq 6 (.alloc [(.int .i64 0), (.int .i64 0), (.str []), (.sl []), (.sl [])]),
rq 7 (.move (.c (.int .i64 0)))]
  (.seq (.reg [
rq 8 (.move (.c (.int .i64 0)))]
  (.block 0 (.loop ⟨1, [1, 2, 3, 6, 8], [[6]]⟩)))
  ⟨4, [1, 2, 3, 6], [[6]]⟩))
def k_z6_1 : KC := (.seq (.reg [
rq 12 (.move (.t 8)),
rq 13 (.move (.t 2)),
rq 14 (.len .sl (.t 13)),
rq 15 (.bin .lss (.t 12) (.t 14))]
  (.cond (.t 15)
  .skip
  (.exit 0)))
  ⟨2, [1, 2, 3, 6, 8], [[6]]⟩)
def k_z6_2 : KC := (.seq (.block 1 (.reg [
rq 18 (.move (.t 2)),
rq 19 (.move (.t 8)),
rq 20 (.iaddr 5 (.t 18) (.t 19)),
rq 21 (.load true 5 (.t 20)),
rq 22 (.call .pur F.z2 [(.t 21)]),
rq 23 (.un .not (.t 22))]
  (.cond (.t 23)
  (.reg [
rq 24 (.build [(.int .i64 0), (.int .i64 0), (.str []), (.sl []), (.sl [])] []),
rz (.store 5 (.t 6) (.t 24)),
rq 7 (.move (.c (.int .i64 1)))]
  .ret)
  .skip)))
  ⟨3, [1, 2, 3, 6, 8], [[6]]⟩)
def k_z6_3 : KC := (.lreg [
rq 16 (.move (.t 8)),
rq 17 (.bin .add (.t 16) (.c (.int .i64 1))),
rq 8 (.move (.t 17))])
def k_z6_4 : KC := (.reg [
rq 26 (.load true 5 (.t 3)),
rq 27 (.move (.t 1)),
rq 28 (.call .pur F.zbi [(.t 26), (.t 27)]),
rq 25 (.move (.t 28)),
rq 29 (.extract (.t 25) 0),
rq 30 (.extract (.t 25) 1),
rq 9 (.alloc [(.int .i64 0), (.int .i64 0), (.str []), (.sl []), (.sl [])]),
rz (.store 5 (.t 9) (.t 29)),
rq 10 (.move (.t 30))]
  (.seq (.reg [
rq 31 (.move (.t 10)),
rq 32 (.bin .neq (.t 31) (.c (.int .i64 0)))]
  (.cond (.t 32)
  (.reg [
rq 33 (.build [(.int .i64 0), (.int .i64 0), (.str []), (.sl []), (.sl [])] []),
rq 34 (.move (.t 10)),
rz (.store 5 (.t 6) (.t 33)),
rq 7 (.move (.t 34))]
  .ret)
  .skip))
  ⟨5, [1, 2, 3, 6, 9], [[6], [9]]⟩))
def k_z6_5 : KC := (.seq (.reg [
rq 35 (.faddr 0 (.t 9)),
rq 36 (.load false 1 (.t 35)),
rq 37 (.bin .neq (.t 36) (.c (.int .i64 4)))]
  (.cond (.t 37)
  (.reg [
rq 38 (.build [(.int .i64 0), (.int .i64 0), (.str []), (.sl []), (.sl [])] []),
rz (.store 5 (.t 6) (.t 38)),
rq 7 (.move (.c (.int .i64 9)))]
  .ret)
  .skip))
  ⟨6, [1, 2, 3, 6, 9], [[6], [9]]⟩)
def k_z6_6 : KC := (.reg [
rq 39 (.build [(.int .i64 0), (.int .i64 0), (.str []), .nils, (.sl [])] [(0, 1, (.c (.int .i64 4)))]),
rq 11 (.alloc [(.int .i64 0), (.int .i64 0), (.str []), (.sl []), (.sl [])]),
rz (.store 5 (.t 11) (.t 39))]
  (.adj (.virt [11] 3 5 [11, 3]) (.reg [
rq 40 (.faddr 3 (.t 11)),
rq 41 (.load false 1 (.t 40)),
rq 42 (.faddr 3 (.t 9)),
rq 43 (.load false 1 (.t 42)),
rq 44 (.app 5 80 (.t 41) (.t 43)),
rq 45 (.faddr 3 (.t 11)),
rz (.store 1 (.t 45) (.t 44))]
  (.reg [
rq 46 (.faddr 3 (.t 11)),
rq 47 (.load false 1 (.t 46)),
rq 48 (.move (.t 2)),
rq 49 (.app 5 80 (.t 47) (.t 48)),
rq 50 (.faddr 3 (.t 11)),
rz (.store 1 (.t 50) (.t 49))]
  (.adj (.frz [11] 3 [11, 3] [1, 3, 6, 11] [[6], [11]]) (.reg [
rq 51 (.load true 5 (.t 3)),
rq 52 (.move (.t 1)),
rq 53 (.load true 5 (.t 11)),
rq 54 (.call .pur F.zbh [(.t 51), (.t 52), (.t 53)]),
rq 55 (.extract (.t 54) 0),
rq 56 (.extract (.t 54) 1),
rz (.store 5 (.t 6) (.t 55)),
rq 7 (.move (.t 56))]
  .ret))))))
def r_z6 : KF where
  np := 3
  res := [.cell 6 true 5, .tmp 7]
  code := [k_z6_0, k_z6_1, k_z6_2, k_z6_3, k_z6_4, k_z6_5, k_z6_6]
def k_z3_0 : KC := (.reg [
rq 2 (.ibox (.t 0)),
rq 3 (.ibox (.t 1)),
rq 4 (.move (.c (.bool false)))]
  (.seq (.reg [
rq 7 (.faddr 0 (.t 2)),
rq 8 (.load false 1 (.t 7)),
rq 9 (.faddr 0 (.t 3)),
rq 10 (.load false 1 (.t 9)),
rq 11 (.bin .neq (.t 8) (.t 10)),
rq 12 (.move (.t 11)),
rqg 13 12 false (.faddr 1 (.t 2)),
rqg 14 12 false (.load false 1 (.t 13)),
rqg 15 12 false (.faddr 1 (.t 3)),
rqg 16 12 false (.load false 1 (.t 15)),
rqg 17 12 false (.bin .neq (.t 14) (.t 16)),
rq 18 (.pick (.t 12) (.c (.bool true)) (.t 17)),
rq 19 (.move (.t 18)),
rqg 20 19 false (.faddr 2 (.t 2)),
rqg 21 19 false (.load false 1 (.t 20)),
rqg 22 19 false (.faddr 2 (.t 3)),
rqg 23 19 false (.load false 1 (.t 22)),
rqg 24 19 false (.bin .neq (.t 21) (.t 23)),
rq 25 (.pick (.t 19) (.c (.bool true)) (.t 24)),
rq 26 (.move (.t 25)),
rqg 27 26 false (.faddr 3 (.t 2)),
rqg 28 26 false (.load false 1 (.t 27)),
rqg 29 26 false (.len .sl (.t 28)),
rqg 30 26 false (.faddr 3 (.t 3)),
rqg 31 26 false (.load false 1 (.t 30)),
rqg 32 26 false (.len .sl (.t 31)),
rqg 33 26 false (.bin .neq (.t 29) (.t 32)),
rq 34 (.pick (.t 26) (.c (.bool true)) (.t 33)),
rq 35 (.move (.t 34)),
rqg 36 35 false (.faddr 4 (.t 2)),
rqg 37 35 false (.load false 1 (.t 36)),
rqg 38 35 false (.len .sl (.t 37)),
rqg 39 35 false (.faddr 4 (.t 3)),
rqg 40 35 false (.load false 1 (.t 39)),
rqg 41 35 false (.len .sl (.t 40)),
rqg 42 35 false (.bin .neq (.t 38) (.t 41)),
rq 43 (.pick (.t 35) (.c (.bool true)) (.t 42))]
  (.cond (.t 43)
  (.reg [
rq 4 (.move (.c (.bool false)))]
  .ret)
  .skip))
  ⟨1, [2, 3], []⟩))
def k_z3_1 : KC := (.seq (.reg [
rq 5 (.move (.c (.int .i64 0)))]
  (.block 0 (.loop ⟨2, [2, 3, 5], []⟩)))
  ⟨5, [2, 3], []⟩)
def k_z3_2 : KC := (.seq (.reg [
rq 44 (.move (.t 5)),
rq 45 (.faddr 3 (.t 2)),
rq 46 (.load false 1 (.t 45)),
rq 47 (.len .sl (.t 46)),
rq 48 (.bin .lss (.t 44) (.t 47))]
  (.cond (.t 48)
  .skip
  (.exit 0)))
  ⟨3, [2, 3, 5], []⟩)
def k_z3_3 : KC := (.seq (.block 1 (.dreg [
rq 51 (.faddr 3 (.t 2)),
rq 52 (.load false 1 (.t 51)),
rq 53 (.move (.t 5)),
rq 54 (.iaddr 5 (.t 52) (.t 53)),
rq 55 (.load true 5 (.t 54)),
rq 56 (.faddr 3 (.t 3)),
rq 57 (.load false 1 (.t 56)),
rq 58 (.move (.t 5)),
rq 59 (.iaddr 5 (.t 57) (.t 58)),
rq 60 (.load true 5 (.t 59)),
rq 61 (.call .pur F.z3 [(.t 55), (.t 60)]),
rq 62 (.un .not (.t 61))] []
  (.cond (.t 62)
  (.reg [
rq 4 (.move (.c (.bool false)))]
  .ret)
  .skip)))
  ⟨4, [2, 3, 5], []⟩)
def k_z3_4 : KC := (.lreg [
rq 49 (.move (.t 5)),
rq 50 (.bin .add (.t 49) (.c (.int .i64 1))),
rq 5 (.move (.t 50))])
def k_z3_5 : KC := (.seq (.reg [
rq 6 (.move (.c (.int .i64 0)))]
  (.block 2 (.loop ⟨6, [2, 3, 6], []⟩)))
  ⟨9, [], []⟩)
def k_z3_6 : KC := (.seq (.reg [
rq 63 (.move (.t 6)),
rq 64 (.faddr 4 (.t 2)),
rq 65 (.load false 1 (.t 64)),
rq 66 (.len .sl (.t 65)),
rq 67 (.bin .lss (.t 63) (.t 66))]
  (.cond (.t 67)
  .skip
  (.exit 2)))
  ⟨7, [2, 3, 6], []⟩)
def k_z3_7 : KC := (.seq (.block 3 (.dreg [
rq 70 (.faddr 4 (.t 2)),
rq 71 (.load false 1 (.t 70)),
rq 72 (.move (.t 6)),
rq 73 (.iaddr 6 (.t 71) (.t 72)),
rq 74 (.faddr 0 (.t 73)),
rq 75 (.load false 1 (.t 74)),
rq 76 (.faddr 4 (.t 3)),
rq 77 (.load false 1 (.t 76)),
rq 78 (.move (.t 6)),
rq 79 (.iaddr 6 (.t 77) (.t 78)),
rq 80 (.faddr 0 (.t 79)),
rq 81 (.load false 1 (.t 80)),
rq 82 (.bin .neq (.t 75) (.t 81)),
rq 83 (.move (.t 82)),
rqg 84 83 false (.faddr 4 (.t 2)),
rqg 85 83 false (.load false 1 (.t 84)),
rqg 86 83 false (.move (.t 6)),
rqg 87 83 false (.iaddr 6 (.t 85) (.t 86)),
rqg 88 83 false (.faddr 1 (.t 87)),
rqg 89 83 false (.load true 5 (.t 88)),
rqg 90 83 false (.faddr 4 (.t 3)),
rqg 91 83 false (.load false 1 (.t 90)),
rqg 92 83 false (.move (.t 6)),
rqg 93 83 false (.iaddr 6 (.t 91) (.t 92)),
rqg 94 83 false (.faddr 1 (.t 93)),
rqg 95 83 false (.load true 5 (.t 94)),
rqg 96 83 false (.call .pur F.z3 [(.t 89), (.t 95)]),
rqg 97 83 false (.un .not (.t 96)),
rq 98 (.pick (.t 83) (.c (.bool true)) (.t 97))] []
  (.cond (.t 98)
  (.reg [
rq 4 (.move (.c (.bool false)))]
  .ret)
  .skip)))
  ⟨8, [2, 3, 6], []⟩)
def k_z3_8 : KC := (.lreg [
rq 68 (.move (.t 6)),
rq 69 (.bin .add (.t 68) (.c (.int .i64 1))),
rq 6 (.move (.t 69))])
def k_z3_9 : KC := (.reg [
rq 4 (.move (.c (.bool true)))]
  .ret)
def r_z3 : KF where
  np := 2
  res := [.tmp 4]
  code := [k_z3_0, k_z3_1, k_z3_2, k_z3_3, k_z3_4, k_z3_5, k_z3_6, k_z3_7, k_z3_8, k_z3_9]
def k_zg_0 : KC := (.reg [
rq 3 (.ibox (.t 0)),
rq 6 (.move (.c (.bool false)))]
  (.seq (.reg [
rq 11 (.call .pur F.zo []),
rq 12 (.un .not (.t 11)),
rq 13 (.move (.t 12)),
rqg 14 13 false (.load true 5 (.t 3)),
rqg 15 13 false (.call .pur F.z0 [(.t 14), (.c (.int .i64 60))]),
rqg 16 13 false (.un .not (.t 15)),
rq 17 (.pick (.t 13) (.c (.bool true)) (.t 16)),
rq 18 (.move (.t 17)),
rqg 19 18 false (.move (.t 2)),
rqg 20 18 false (.build [(.int .i64 0), (.int .i64 0), (.str []), (.sl []), (.sl [])] [(3, 1, (.t 19))]),
rqg 21 18 false (.call .pur F.z0 [(.t 20), (.c (.int .i64 60))]),
rqg 22 18 false (.un .not (.t 21)),
rq 23 (.pick (.t 18) (.c (.bool true)) (.t 22)),
rq 24 (.move (.t 23)),
rqg 25 24 false (.move (.t 1)),
rqg 26 24 false (.call .pur F.z7 [(.t 25)]),
rqg 27 24 false (.un .not (.t 26)),
rq 28 (.pick (.t 24) (.c (.bool true)) (.t 27))]
  (.cond (.t 28)
  (.reg [
rq 29 (.call .pur F.zo []),
rq 6 (.move (.t 29))]
  .ret)
  .skip))
  ⟨1, [1, 2, 3], []⟩))
def k_zg_1 : KC := (.reg [
rq 31 (.load true 5 (.t 3)),
rq 32 (.move (.t 1)),
rq 33 (.move (.t 2)),
rq 34 (.call .pur F.zcf [(.t 31), (.t 32), (.t 33)]),
rq 30 (.move (.t 34)),
rq 35 (.extract (.t 30) 0),
rq 36 (.extract (.t 30) 1),
rq 7 (.alloc [(.int .i64 0), (.int .i64 0), (.str []), (.sl []), (.sl [])]),
rz (.store 5 (.t 7) (.t 35)),
rq 8 (.move (.t 36))]
  (.reg [
rq 38 (.load true 5 (.t 3)),
rq 39 (.move (.t 1)),
rq 40 (.move (.t 2)),
rq 41 (.call .pur F.z6 [(.t 38), (.t 39), (.t 40)]),
rq 37 (.move (.t 41)),
rq 42 (.extract (.t 37) 0),
rq 43 (.extract (.t 37) 1),
rq 9 (.alloc [(.int .i64 0), (.int .i64 0), (.str []), (.sl []), (.sl [])]),
rz (.store 5 (.t 9) (.t 42)),
rq 10 (.move (.t 43))]
  (.reg [
rq 44 (.move (.t 8)),
rq 45 (.move (.t 10)),
rq 46 (.bin .eql (.t 44) (.t 45)),
rq 47 (.move (.t 46)),
rqg 48 47 true (.load true 5 (.t 7)),
rqg 49 47 true (.load true 5 (.t 9)),
rqg 50 47 true (.call .pur F.z3 [(.t 48), (.t 49)]),
rq 51 (.pick (.t 47) (.t 50) (.c (.bool false))),
rq 6 (.move (.t 51))]
  .ret)))
def r_zg : KF where
  np := 3
  res := [.tmp 6]
  code := [k_zg_0, k_zg_1]
def table : FuncId → Option KF
  | 9 => some r_zg
  | 15 => some r_zo
  | 16 => some r_z7
  | 17 => some r_zbd
  | 18 => some r_zcz
  | 19 => some r_zcv
  | 22 => some r_z3
  | 25 => some r_z0
  | 29 => some r_zcs
  | 33 => some r_z2
  | 34 => some r_z8
  | 38 => some r_zcf
  | 39 => some r_z6
  | 49 => some r_zx
  | 50 => some r_zdu
  | 51 => some r_zcw
  | 52 => some r_zc8
  | 53 => some r_zfa
  | 54 => some r_z4
  | 59 => some r_zc0
  | 61 => some r_ze6
  | 62 => some r_z5
  | 63 => some r_zbj
  | 64 => some r_zc4
  | 66 => some r_zbi
  | 67 => some r_zbh
  | 68 => some r_zdw
  | 69 => some r_zcg
  | 70 => some r_zch
  | 71 => some { code := [], res := [], np := 1, ext := some (.pure ext_zdr) }
  | 73 => some r_zds
  | 77 => some r_zd2
  | 79 => some r_zz
  | 91 => some r_zv
  | 92 => some r_zd5
  | 93 => some r_ze5
  | 94 => some r_zfb
  | 95 => some r_zfk
  | 96 => some r_zfc
  | 97 => some r_zfi
  | 98 => some r_zfe
  | 102 => some r_zdn
  | 103 => some r_zc1
  | 104 => some r_zdl
  | 105 => some r_zfh
  | 106 => some r_zbb
  | 107 => some r_zd7
  | 123 => some r_zy
  | 124 => some r_ze3
  | 136 => some { code := [], res := [], np := 1, ext := some (.pure ext_zfl) }
  | _ => none
end Go.Abs.T
