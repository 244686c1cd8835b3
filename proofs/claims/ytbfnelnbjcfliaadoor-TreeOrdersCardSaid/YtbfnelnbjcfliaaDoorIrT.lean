import Derived.Test.YtbfnelnbjcfliaaDoorAbsM
import Derived.Test.YtbfnelnbjcfliaaDoorXT
namespace Go.Abs.T
abbrev mv (d a : Nat) := rq d (.move (.t a))
abbrev mg (d g : Nat) (b : Bool) (a : Nat) := rqg d g b (.move (.t a))
abbrev ld (d n a : Nat) := rq d (.load false n (.t a))
abbrev lg (d g : Nat) (b : Bool) (n a : Nat) := rqg d g b (.load false n (.t a))
abbrev lo (d n a : Nat) := rq d (.load true n (.t a))
abbrev bc (d : Nat) (o : BinOp) (a : Nat) (k : Int) := rq d (.bin o (.t a) (.c (.int .i64 k)))
abbrev bg (d g : Nat) (b : Bool) (o : BinOp) (a : Nat) (k : Int) := rqg d g b (.bin o (.t a) (.c (.int .i64 k)))
abbrev bb (d : Nat) (o : BinOp) (a b : Nat) := rq d (.bin o (.t a) (.t b))
abbrev pa (d a b : Nat) := rq d (.pick (.t a) (.t b) (.c (.bool false)))
abbrev po (d a b : Nat) := rq d (.pick (.t a) (.c (.bool true)) (.t b))
abbrev fa (d n a : Nat) := rq d (.faddr n (.t a))
abbrev fg (d g : Nat) (b : Bool) (n a : Nat) := rqg d g b (.faddr n (.t a))
abbrev st (n a b : Nat) := rz (.store n (.t a) (.t b))
def k_zdi_0 : KC := (.reg [
rq 1 (.ibox (.t 0)),
rq 2 (.move (.c (.bool false)))]
  (.reg [
fa 4 0 1,
ld 5 1 4,
bc 6 .eql 5 1,
mv 7 6,
fg 8 7 false 0 1,
lg 9 7 false 1 8,
bg 10 7 false .eql 9 2,
po 11 7 10,
mv 3 11]
  (.reg [
mv 12 3,
mv 13 12,
fg 14 13 false 1 1,
lg 15 13 false 1 14,
bg 16 13 false .eql 15 0,
po 17 13 16,
mv 18 17,
fg 19 18 true 0 1,
lg 20 18 true 1 19,
bg 21 18 true .eql 20 3,
mg 22 18 true 21,
fg 23 22 false 2 1,
lg 24 22 false 1 23,
rqg 25 22 false (.bin .eql (.t 24) (.c (.str []))),
rqg 26 18 true (.pick (.t 22) (.c (.bool true)) (.t 25)),
pa 27 18 26,
mv 28 27,
fg 29 28 true 0 1,
lg 30 28 true 1 29,
bg 31 28 true .eql 30 4,
mg 32 28 true 31,
fg 33 32 false 3 1,
lg 34 32 false 1 33,
rqg 35 32 false (.len .sl (.t 34)),
bg 36 32 false .eql 35 0,
rqg 37 28 true (.pick (.t 32) (.c (.bool true)) (.t 36)),
pa 38 28 37,
mv 39 38,
fg 40 39 true 0 1,
lg 41 39 true 1 40,
bg 42 39 true .eql 41 5,
mg 43 39 true 42,
fg 44 43 false 4 1,
lg 45 43 false 1 44,
rqg 46 43 false (.len .sl (.t 45)),
bg 47 43 false .eql 46 0,
rqg 48 39 true (.pick (.t 43) (.c (.bool true)) (.t 47)),
pa 49 39 48,
mv 2 49]
  .ret)))
def r_zdi : KF where
  np := 1
  res := [.tmp 2]
  code := [k_zdi_0]
def k_zco_0 : KC := (.reg [
rq 2 (.move (.c (.int .i64 0)))]
  (.seq (.reg [
mv 7 0,
rq 8 (.range (.t 7))]
  (.block 0 (.loop ⟨1, [0, 8], [[8]]⟩)))
  ⟨4, [], []⟩))
def k_zco_1 : KC := (.reg [
rq 9 (.next (.t 8)),
rq 10 (.extract (.t 9) 0)]
  (.seq (.cond (.t 10)
  .skip
  (.exit 0))
  ⟨2, [0, 8, 9], [[8]]⟩))
def k_zco_2 : KC := (.block 1 (.reg [
rq 11 (.extract (.t 9) 1),
rq 12 (.extract (.t 9) 2),
mv 3 11,
mv 4 12]
  (.seq (.reg [
mv 13 4,
rq 14 (.bin .neq (.t 13) (.c (.int .i32 65533)))]
  (.cond (.t 14)
  (.exit 1)
  .skip))
  ⟨3, [0, 3, 8], [[8]]⟩)))
def k_zco_3 : KC := (.reg [
mv 16 0,
mv 17 3,
rq 18 (.slice 0 (.t 16) (some (.t 17)) none),
rq 19 (.call .pur 76 [(.t 18)]),
mv 15 19,
rq 20 (.extract (.t 15) 0),
rq 21 (.extract (.t 15) 1),
mv 5 20,
mv 6 21]
  (.reg [
mv 22 6,
bc 23 .eql 22 1]
  (.cond (.t 23)
  (.reg [
mv 24 3,
mv 2 24]
  .ret)
  .skip)))
def k_zco_4 : KC := (.reg [
rq 2 (.move (.c (.int .i64 (-1))))]
  .ret)
def r_zco : KF where
  np := 1
  res := [.tmp 2]
  code := [k_zco_0, k_zco_1, k_zco_2, k_zco_3, k_zco_4]
def k_zcp_0 : KC := (.reg [
rq 2 (.move (.c (.bool false)))]
  (.reg [
mv 3 0,
rq 4 (.call .pur 69 [(.t 3)]),
bc 5 .lss 4 0,
mv 2 5]
  .ret))
def r_zcp : KF where
  np := 1
  res := [.tmp 2]
  code := [k_zcp_0]
def k_zde_0 : KC := (.reg [
rq 2 (.move (.c (.bool false)))]
  (.reg [
rq 6 .mkMap,
mv 3 6]
  (.seq (.reg [
mv 7 0,
rq 8 (.len .sl (.t 7)),
rq 9 (.move (.c (.int .i64 0)))]
  (.block 0 (.loop ⟨1, [3, 7, 8, 9], [[6]]⟩)))
  ⟨4, [], []⟩)))
def k_zde_1 : KC := (.reg [
bb 10 .lss 9 8]
  (.seq (.cond (.t 10)
  .skip
  (.exit 0))
  ⟨2, [3, 7, 8, 9], [[6]]⟩))
def k_zde_2 : KC := (.seq (.block 1 (.reg [
rq 11 (.iaddr 6 (.t 7) (.t 9)),
lo 12 6 11,
rq 5 (.alloc [(.str []), (.int .i64 0), (.int .i64 0), (.str []), (.sl []), (.sl [])]),
st 6 5 12]
  (.reg [
mv 13 3,
fa 14 0 5,
ld 15 1 14,
rq 16 (.lookup .str (.int .i64 0) false (.t 13) (.t 15)),
bc 17 .add 16 1,
rz (.mapUpd .str (.t 13) (.t 15) (.t 17))]
  (.reg [
mv 18 3,
fa 19 0 5,
ld 20 1 19,
rq 21 (.lookup .str (.int .i64 0) false (.t 18) (.t 20)),
bc 22 .gtr 21 1,
mv 23 22,
fg 24 23 false 0 5,
lg 25 23 false 1 24,
rqg 26 23 false (.call .pur 48 [(.t 25)]),
rqg 27 23 false (.un .not (.t 26)),
po 28 23 27]
  (.cond (.t 28)
  (.reg [
rq 2 (.move (.c (.bool false)))]
  .ret)
  .skip)))))
  ⟨3, [3, 7, 8, 9], [[6]]⟩)
def k_zde_3 : KC := (.lreg [
bc 29 .add 9 1,
mv 9 29])
def k_zde_4 : KC := (.reg [
rq 2 (.move (.c (.bool true)))]
  .ret)
def r_zde : KF where
  np := 1
  res := [.tmp 2]
  code := [k_zde_0, k_zde_1, k_zde_2, k_zde_3, k_zde_4]
def k_zc1_0 : KC := (.reg [
rq 3 (.ibox (.t 0)),
rq 4 (.move (.c (.bool false)))]
  (.reg [
ld 5 1 1,
lo 6 5 3,
ld 7 1 2,
bc 8 .sub 7 1,
rq 9 (.callv .pur (.t 5) [(.t 6), (.t 8)]),
rq 10 (.un .not (.t 9)),
mv 4 10]
  .ret))
def r_zc1 : KF where
  np := 3
  res := [.tmp 4]
  code := [k_zc1_0]
def k_zc0_0 : KC := (.reg [
rq 3 (.ibox (.t 0)),
rq 4 (.ibox (.t 1)),
rq 5 (.move (.c (.bool false)))]
  (.seq (.reg [
ld 6 1 4,
bc 7 .lss 6 1,
mv 8 7,
rqg 9 8 false (.load true 5 (.t 3)),
rqg 10 8 false (.call .pur 47 [(.t 9)]),
rqg 11 8 false (.un .not (.t 10)),
po 12 8 11]
  (.cond (.t 12)
  (.reg [
rq 5 (.move (.c (.bool false)))]
  .ret)
  .skip))
  ⟨1, [2, 3, 4], []⟩))
def k_zc1 : KC := (.seq (.reg [
fa 13 0 3,
ld 14 1 13]
  (.block 0 (.reg [
bc 16 .eql 14 0,
mv 15 16]
  (.cond (.t 15)
  (.reg [
rq 5 (.move (.c (.bool true)))]
  .ret)
  (.reg [
bc 18 .eql 14 1,
mv 17 18]
  (.cond (.t 17)
  (.reg [
fa 19 1 3,
ld 20 1 19,
bc 21 .eql 20 0,
mv 22 21,
fg 23 22 false 1 3,
lg 24 22 false 1 23,
bg 25 22 false .eql 24 1,
po 26 22 25,
mv 5 26]
  .ret)
  (.reg [
bc 28 .eql 14 2,
mv 27 28]
  (.cond (.t 27)
  (.reg [
fa 29 1 3,
ld 30 1 29,
bc 31 .geq 30 (-9007199254740991),
mv 32 31,
fg 33 32 true 1 3,
lg 34 32 true 1 33,
bg 35 32 true .leq 34 9007199254740991,
pa 36 32 35,
mv 5 36]
  .ret)
  (.reg [
bc 38 .eql 14 3,
mv 37 38]
  (.cond (.t 37)
  (.reg [
fa 39 2 3,
ld 40 1 39,
rq 41 (.call .pur 48 [(.t 40)]),
mv 5 41]
  .ret)
  (.reg [
bc 43 .eql 14 4,
mv 42 43]
  (.cond (.t 42)
  (.reg [
fa 44 3 3,
ld 45 1 44,
rq 46 (.mkF (.func 50) [] [(.t 2), (.t 4)]),
rq 47 (.call .pur 49 [(.t 45), (.t 46)]),
rq 48 (.un .not (.t 47)),
mv 5 48]
  .ret)
  (.reg [
bc 50 .eql 14 5,
mv 49 50]
  (.cond (.t 49)
  (.reg [
fa 51 4 3,
ld 52 1 51,
rq 53 (.call .pur 51 [(.t 52)]),
mv 54 53,
fg 55 54 true 4 3,
lg 56 54 true 1 55,
rqg 57 54 true (.mkF (.func 53) [] [(.t 2), (.t 4)]),
rqg 58 54 true (.call .pur 52 [(.t 56), (.t 57)]),
rqg 59 54 true (.un .not (.t 58)),
pa 60 54 59,
mv 5 60]
  .ret)
  .skip))))))))))))))
  ⟨2, [], []⟩)
def k_zc3 : KC := (.reg [
rq 5 (.move (.c (.bool false)))]
  .ret)
def r_zc0 : KF where
  np := 3
  res := [.tmp 5]
  code := [k_zc0_0, k_zc1, k_zc3]
def k_zb1_0 : KC := (.reg [
rq 4 (.move (.c (.bool false)))]
  (.reg [
mv 5 0,
mv 6 1,
rq 7 (.call .pur 70 [(.t 5), (.t 6)]),
bc 8 .geq 7 0,
mv 4 8]
  .ret))
def r_zb1 : KF where
  np := 2
  res := [.tmp 4]
  code := [k_zb1_0]
def k_zca_0 : KC := (.reg [
rq 4 (.move (.c (.int .i64 0)))]
  (.seq (.reg [
mv 6 0,
rq 7 (.len .sl (.t 6)),
rq 8 (.move (.c (.int .i64 0)))]
  (.block 0 (.loop ⟨1, [0, 1, 7, 8], []⟩)))
  ⟨4, [], []⟩))
def k_zca_1 : KC := (.reg [
bb 9 .lss 8 7]
  (.seq (.cond (.t 9)
  .skip
  (.exit 0))
  ⟨2, [0, 1, 7, 8], []⟩))
def k_zca_2 : KC := (.seq (.block 1 (.reg [
mv 10 8,
mv 5 10]
  (.reg [
mv 11 1,
mv 12 0,
mv 13 5,
rq 14 (.iaddr 5 (.t 12) (.t 13)),
lo 15 5 14,
rq 16 (.callv .pur (.t 11) [(.t 15)])]
  (.cond (.t 16)
  (.reg [
mv 17 5,
mv 4 17]
  .ret)
  .skip))))
  ⟨3, [0, 1, 7, 8], []⟩)
def k_zca_3 : KC := (.lreg [
bc 18 .add 8 1,
mv 8 18])
def k_zca_4 : KC := (.reg [
rq 4 (.move (.c (.int .i64 (-1))))]
  .ret)
def r_zca : KF where
  np := 2
  res := [.tmp 4]
  code := [k_zca_0, k_zca_1, k_zca_2, k_zca_3, k_zca_4]
def k_zbz_0 : KC := (.reg [
rq 4 (.move (.c (.bool false)))]
  (.reg [
mv 5 0,
mv 6 1,
rq 7 (.call .pur 57 [(.t 5), (.t 6)]),
bc 8 .geq 7 0,
mv 4 8]
  .ret))
def r_zbz : KF where
  np := 2
  res := [.tmp 4]
  code := [k_zbz_0]
def k_zb8_0 : KC := (.reg [
rq 4 (.move (.c (.int .i64 0)))]
  (.seq (.reg [
mv 6 0,
rq 7 (.len .sl (.t 6)),
rq 8 (.move (.c (.int .i64 0)))]
  (.block 0 (.loop ⟨1, [0, 1, 7, 8], []⟩)))
  ⟨4, [], []⟩))
def k_zb8_1 : KC := (.reg [
bb 9 .lss 8 7]
  (.seq (.cond (.t 9)
  .skip
  (.exit 0))
  ⟨2, [0, 1, 7, 8], []⟩))
def k_zb8_2 : KC := (.seq (.block 1 (.reg [
mv 10 8,
mv 5 10]
  (.reg [
mv 11 1,
mv 12 0,
mv 13 5,
rq 14 (.iaddr 6 (.t 12) (.t 13)),
lo 15 6 14,
rq 16 (.callv .pur (.t 11) [(.t 15)])]
  (.cond (.t 16)
  (.reg [
mv 17 5,
mv 4 17]
  .ret)
  .skip))))
  ⟨3, [0, 1, 7, 8], []⟩)
def k_zb8_3 : KC := (.lreg [
bc 18 .add 8 1,
mv 8 18])
def k_zb8_4 : KC := (.reg [
rq 4 (.move (.c (.int .i64 (-1))))]
  .ret)
def r_zb8 : KF where
  np := 2
  res := [.tmp 4]
  code := [k_zb8_0, k_zb8_1, k_zb8_2, k_zb8_3, k_zb8_4]
def k_zc3_0 : KC := (.reg [
rq 3 (.ibox (.t 0)),
rq 4 (.move (.c (.bool false)))]
  (.reg [
ld 5 1 1,
fa 6 1 3,
lo 7 5 6,
ld 8 1 2,
bc 9 .sub 8 1,
rq 10 (.callv .pur (.t 5) [(.t 7), (.t 9)]),
rq 11 (.un .not (.t 10)),
mv 4 11]
  .ret))
def r_zc3 : KF where
  np := 3
  res := [.tmp 4]
  code := [k_zc3_0]
def k_zcz_0 : KC := (.reg [
rq 1 (.ibox (.t 0)),
rq 2 (.move (.c (.bool false)))]
  (.reg [
rq 3 (.alloc [.nilf])]
  (.reg [
rq 4 (.mkF (.func 46) [] [(.t 3)]),
st 1 3 4]
  (.reg [
ld 5 1 3,
lo 6 5 1,
rq 7 (.callv .pur (.t 5) [(.t 6), (.c (.int .i64 12))]),
mv 2 7]
  .ret))))
def r_zcz : KF where
  np := 1
  res := [.tmp 2]
  code := [k_zcz_0]
def k_zdc_0 : KC := (.reg [
rq 1 (.ibox (.t 0)),
rq 2 (.move (.c (.int .i64 0)))]
  (.reg [
rq 3 (.move (.c (.int .i64 1)))]
  (.seq (.reg [
fa 8 3 1,
ld 9 1 8,
rq 10 (.len .sl (.t 9)),
rq 11 (.move (.c (.int .i64 0)))]
  (.block 0 (.loop ⟨1, [1, 3, 9, 10, 11], []⟩)))
  ⟨4, [1, 3], []⟩)))
def k_zdc_1 : KC := (.reg [
bb 12 .lss 11 10]
  (.seq (.cond (.t 12)
  .skip
  (.exit 0))
  ⟨2, [1, 3, 9, 10, 11], []⟩))
def k_zdc_2 : KC := (.seq (.block 1 (.reg [
rq 13 (.iaddr 5 (.t 9) (.t 11)),
lo 14 5 13,
rq 5 (.alloc [(.int .i64 0), (.int .i64 0), (.str []), (.sl []), (.sl [])]),
st 5 5 14]
  (.lreg [
mv 15 3,
lo 16 5 5,
rq 17 (.call .pur 54 [(.t 16)]),
bb 18 .add 15 17,
mv 3 18])))
  ⟨3, [1, 3, 9, 10, 11], []⟩)
def k_zdc_3 : KC := (.lreg [
bc 19 .add 11 1,
mv 11 19])
def k_zdc_4 : KC := (.seq (.reg [
fa 20 4 1,
ld 21 1 20,
rq 22 (.len .sl (.t 21)),
rq 23 (.move (.c (.int .i64 0)))]
  (.block 2 (.loop ⟨5, [3, 21, 22, 23], []⟩)))
  ⟨8, [3], []⟩)
def k_zdc_5 : KC := (.reg [
bb 24 .lss 23 22]
  (.seq (.cond (.t 24)
  .skip
  (.exit 2))
  ⟨6, [3, 21, 22, 23], []⟩))
def k_zdc_6 : KC := (.seq (.block 3 (.reg [
rq 25 (.iaddr 6 (.t 21) (.t 23)),
lo 26 6 25,
rq 7 (.alloc [(.str []), (.int .i64 0), (.int .i64 0), (.str []), (.sl []), (.sl [])]),
st 6 7 26]
  (.lreg [
mv 27 3,
fa 28 1 7,
lo 29 5 28,
rq 30 (.call .pur 54 [(.t 29)]),
bb 31 .add 27 30,
mv 3 31])))
  ⟨7, [3, 21, 22, 23], []⟩)
def k_zdc_7 : KC := (.lreg [
bc 32 .add 23 1,
mv 23 32])
def k_zdc_8 : KC := (.reg [
mv 33 3,
mv 2 33]
  .ret)
def r_zdc : KF where
  np := 1
  res := [.tmp 2]
  code := [k_zdc_0, k_zdc_1, k_zdc_2, k_zdc_3, k_zdc_4, k_zdc_5, k_zdc_6, k_zdc_7, k_zdc_8]
def k_zcs_0 : KC := (.reg [
rq 1 (.ibox (.t 0)),
rq 2 (.move (.c (.int .i64 0)))]
  (.seq (.reg [
lo 3 5 1,
rq 4 (.call .pur 17 [(.t 3)]),
rq 5 (.un .not (.t 4))]
  (.cond (.t 5)
  (.reg [
rq 2 (.move (.c (.int .i64 0)))]
  .ret)
  .skip))
  ⟨1, [1], []⟩))
def k_zcs_1 : KC := (.reg [
lo 6 5 1,
rq 7 (.call .pur 54 [(.t 6)]),
mv 2 7]
  .ret)
def r_zcs : KF where
  np := 1
  res := [.tmp 2]
  code := [k_zcs_0, k_zcs_1]
def k_zg_0 : KC := (.reg [
rq 0 (.move (.c (.bool false)))]
  (.reg [
rq 1 (.build [(.int .i64 0), (.int .i64 0), (.str []), (.sl []), (.sl [])] []),
rq 2 (.call .pur 17 [(.t 1)]),
mv 3 2,
rqg 4 3 true (.build [(.int .i64 0), (.int .i64 0), (.str []), (.sl []), (.sl [])] [(0, 1, (.c (.int .i64 2))), (1, 1, (.c (.int .i64 5)))]),
rqg 5 3 true (.call .pur 18 [(.t 4)]),
bg 6 3 true .eql 5 1,
pa 7 3 6,
mv 0 7]
  .ret))
def r_zg : KF where
  np := 0
  res := [.tmp 0]
  code := [k_zg_0]
def k_z1_0 : KC := (.reg [
rq 2 (.ibox (.t 0)),
rq 4 (.move (.c (.int .i64 0)))]
  (.seq (.reg [
mv 7 1,
bc 8 .lss 7 1,
mv 9 8,
fg 10 9 false 2 2,
lg 11 9 false 1 10,
rqg 12 9 false (.len .str (.t 11)),
bg 13 9 false .gtr 12 500,
po 14 9 13]
  (.cond (.t 14)
  (.reg [
rq 4 (.move (.c (.int .i64 (-1))))]
  .ret)
  .skip))
  ⟨1, [1, 2], []⟩))
def k_z1_1 : KC := (.reg [
mv 15 1,
bc 16 .sub 15 1,
mv 1 16]
  (.seq (.reg [
rq 5 (.move (.c (.int .i64 0)))]
  (.block 0 (.loop ⟨2, [1, 2, 5], []⟩)))
  ⟨5, [1, 2], []⟩))
def k_z1_2 : KC := (.seq (.reg [
mv 17 5,
fa 18 3 2,
ld 19 1 18,
rq 20 (.len .sl (.t 19)),
bb 21 .lss 17 20,
mv 22 21,
mg 23 22 true 1,
bg 24 22 true .geq 23 0,
pa 25 22 24]
  (.cond (.t 25)
  .skip
  (.exit 0)))
  ⟨3, [1, 2, 5], []⟩)
def k_z1_3 : KC := (.seq (.block 1 (.lreg [
fa 28 3 2,
ld 29 1 28,
mv 30 5,
rq 31 (.iaddr 5 (.t 29) (.t 30)),
lo 32 5 31,
mv 33 1,
rq 34 (.call .pur 43 [(.t 32), (.t 33)]),
mv 1 34]))
  ⟨4, [1, 2, 5], []⟩)
def k_z1_4 : KC := (.lreg [
mv 26 5,
bc 27 .add 26 1,
mv 5 27])
def k_z1_5 : KC := (.seq (.reg [
rq 6 (.move (.c (.int .i64 0)))]
  (.block 2 (.loop ⟨6, [1, 2, 6], []⟩)))
  ⟨10, [1], []⟩)
def k_z1_6 : KC := (.seq (.reg [
mv 35 6,
fa 36 4 2,
ld 37 1 36,
rq 38 (.len .sl (.t 37)),
bb 39 .lss 35 38,
mv 40 39,
mg 41 40 true 1,
bg 42 40 true .geq 41 0,
pa 43 40 42]
  (.cond (.t 43)
  .skip
  (.exit 2)))
  ⟨7, [1, 2, 6], []⟩)
def k_z1_7 : KC := (.seq (.block 3 (.seq (.reg [
fa 46 4 2,
ld 47 1 46,
mv 48 6,
rq 49 (.iaddr 6 (.t 47) (.t 48)),
fa 50 0 49,
ld 51 1 50,
rq 52 (.len .str (.t 51)),
bc 53 .gtr 52 500]
  (.cond (.t 53)
  (.reg [
rq 4 (.move (.c (.int .i64 (-1))))]
  .ret)
  .skip))
  ⟨8, [1, 2, 6], []⟩))
  ⟨9, [1, 2, 6], []⟩)
def k_z1_8 : KC := (.lreg [
fa 54 4 2,
ld 55 1 54,
mv 56 6,
rq 57 (.iaddr 6 (.t 55) (.t 56)),
fa 58 1 57,
lo 59 5 58,
mv 60 1,
rq 61 (.call .pur 43 [(.t 59), (.t 60)]),
mv 1 61])
def k_z1_9 : KC := (.lreg [
mv 44 6,
bc 45 .add 44 1,
mv 6 45])
def k_z1_10 : KC := (.reg [
mv 62 1,
mv 4 62]
  .ret)
def r_z1 : KF where
  np := 2
  res := [.tmp 4]
  code := [k_z1_0, k_z1_1, k_z1_2, k_z1_3, k_z1_4, k_z1_5, k_z1_6, k_z1_7, k_z1_8, k_z1_9, k_z1_10]
def k_zv_0 : KC := (.reg [
rq 2 (.ibox (.t 0)),
rq 4 (.move (.c (.bool false)))]
  (.reg [
lo 5 5 2,
mv 6 1,
rq 7 (.call .pur 43 [(.t 5), (.t 6)]),
bc 8 .geq 7 0,
mv 4 8]
  .ret))
def r_zv : KF where
  np := 2
  res := [.tmp 4]
  code := [k_zv_0]
def k_zh_0 : KC := (.reg [
rq 2 (.move (.c (.bool false)))]
  (.seq (.reg [
rq 3 (.move (.c (.int .i64 0)))]
  (.block 0 (.loop ⟨1, [0, 3], []⟩)))
  ⟨4, [0], []⟩))
def k_zh_1 : KC := (.seq (.reg [
mv 4 3,
mv 5 0,
rq 6 (.len .sl (.t 5)),
bb 7 .lss 4 6,
mv 8 7,
mg 9 8 true 3,
bg 10 8 true .lss 9 50,
pa 11 8 10]
  (.cond (.t 11)
  .skip
  (.exit 0)))
  ⟨2, [0, 3], []⟩)
def k_zh_2 : KC := (.seq (.block 1 (.reg [
mv 14 0,
mv 15 3,
rq 16 (.iaddr 1 (.t 14) (.t 15)),
ld 17 1 16,
rq 18 (.len .str (.t 17)),
bc 19 .gtr 18 500]
  (.cond (.t 19)
  (.reg [
rq 2 (.move (.c (.bool false)))]
  .ret)
  .skip)))
  ⟨3, [0, 3], []⟩)
def k_zh_3 : KC := (.lreg [
mv 12 3,
bc 13 .add 12 1,
mv 3 13])
def k_zh_4 : KC := (.reg [
mv 20 0,
rq 21 (.len .sl (.t 20)),
bc 22 .leq 21 40,
mv 2 22]
  .ret)
def r_zh : KF where
  np := 1
  res := [.tmp 2]
  code := [k_zh_0, k_zh_1, k_zh_2, k_zh_3, k_zh_4]
def k_zdf_0 : KC := (.reg [
rq 1 (.ibox (.t 0)),
rq 2 (.move (.c (.bool false)))]
  (.reg [
fa 3 0 1,
ld 4 1 3,
bc 5 .eql 4 5,
mv 6 5,
rqg 7 6 true (.load true 5 (.t 1)),
rqg 8 6 true (.call .pur 17 [(.t 7)]),
pa 9 6 8,
mv 2 9]
  .ret))
def r_zdf : KF where
  np := 1
  res := [.tmp 2]
  code := [k_zdf_0]
def k_zda_0 : KC := (.reg [
rq 1 (.ibox (.t 0)),
rq 2 (.alloc [(.int .i64 0), (.int .i64 0), (.str []), (.sl []), (.sl [])])]
  (.reg [
fa 8 0 1,
ld 9 1 8,
fa 10 1 1,
ld 11 1 10,
fa 12 2 1,
ld 13 1 12,
rq 14 (.build [(.int .i64 0), (.int .i64 0), (.str []), .nils, .nils] [(0, 1, (.t 9)), (1, 1, (.t 11)), (2, 1, (.t 13))]),
rq 3 (.alloc [(.int .i64 0), (.int .i64 0), (.str []), (.sl []), (.sl [])]),
st 5 3 14]
  (.adj (.virt [3] 3 5 [3, 3]) (.adj (.virt [3] 4 6 [3, 4]) (.seq (.reg [
fa 15 3 1,
ld 16 1 15,
rq 17 (.len .sl (.t 16)),
rq 18 (.move (.c (.int .i64 0)))]
  (.block 0 (.loop ⟨1, [1, 2, 3, 16, 17, 18], [[2], [3], [3, 3], [3, 4]]⟩)))
  ⟨4, [1, 2, 3], [[2], [3], [3, 3], [3, 4]]⟩)))))
def k_zda_1 : KC := (.reg [
bb 19 .lss 18 17]
  (.seq (.cond (.t 19)
  .skip
  (.exit 0))
  ⟨2, [1, 2, 3, 16, 17, 18], [[2], [3], [3, 3], [3, 4]]⟩))
def k_zda_2 : KC := (.seq (.block 1 (.reg [
rq 20 (.iaddr 5 (.t 16) (.t 18)),
lo 21 5 20,
rq 5 (.alloc [(.int .i64 0), (.int .i64 0), (.str []), (.sl []), (.sl [])]),
st 5 5 21]
  (.ldreg [
fa 22 3 3,
ld 23 1 22,
lo 24 5 5,
rq 25 (.call .pur 45 [(.t 24)]),
rq 26 (.ilit 5 [(.t 25)])] [
rq 27 (.app 5 80 (.t 23) (.t 26)),
fa 28 3 3,
st 1 28 27])))
  ⟨3, [1, 2, 3, 16, 17, 18], [[2], [3], [3, 3], [3, 4]]⟩)
def k_zda_3 : KC := (.lreg [
bc 29 .add 18 1,
mv 18 29])
def k_zda_4 : KC := (.seq (.reg [
fa 30 4 1,
ld 31 1 30,
rq 32 (.len .sl (.t 31)),
rq 33 (.move (.c (.int .i64 0)))]
  (.block 2 (.loop ⟨5, [2, 3, 31, 32, 33], [[2], [3], [3, 3], [3, 4]]⟩)))
  ⟨8, [2, 3], [[2], [3], [3, 3], [3, 4]]⟩)
def k_zda_5 : KC := (.reg [
bb 34 .lss 33 32]
  (.seq (.cond (.t 34)
  .skip
  (.exit 2))
  ⟨6, [2, 3, 31, 32, 33], [[2], [3], [3, 3], [3, 4]]⟩))
def k_zda_6 : KC := (.seq (.block 3 (.reg [
rq 35 (.iaddr 6 (.t 31) (.t 33)),
lo 36 6 35,
rq 7 (.alloc [(.str []), (.int .i64 0), (.int .i64 0), (.str []), (.sl []), (.sl [])]),
st 6 7 36]
  (.ldreg [
fa 37 4 3,
ld 38 1 37,
fa 39 0 7,
ld 40 1 39,
fa 41 1 7,
lo 42 5 41,
rq 43 (.call .pur 45 [(.t 42)]),
rq 44 (.build [(.str []), (.int .i64 0), (.int .i64 0), (.str []), (.sl []), (.sl [])] [(0, 1, (.t 40)), (1, 5, (.t 43))]),
rq 45 (.ilit 6 [(.t 44)])] [
rq 46 (.app 6 96 (.t 38) (.t 45)),
fa 47 4 3,
st 1 47 46])))
  ⟨7, [2, 3, 31, 32, 33], [[2], [3], [3, 3], [3, 4]]⟩)
def k_zda_7 : KC := (.lreg [
bc 48 .add 33 1,
mv 33 48])
def k_zda_8 : KC := (.reg [
lo 49 5 3,
st 5 2 49]
  .ret)
def r_zda : KF where
  np := 1
  res := [.cell 2 true 5]
  code := [k_zda_0, k_zda_1, k_zda_2, k_zda_3, k_zda_4, k_zda_5, k_zda_6, k_zda_7, k_zda_8]
def k_zcv_0 : KC := (.reg [
rq 3 (.ibox (.t 0)),
rq 4 (.move (.c (.int .i64 0)))]
  (.seq (.reg [
ld 8 1 1,
fa 9 0 3,
ld 10 1 9,
rq 11 (.lookup .str (.int .i64 0) true (.t 8) (.t 10)),
mv 7 11,
rq 12 (.extract (.t 7) 0),
rq 13 (.extract (.t 7) 1),
mv 5 12,
mv 6 13]
  (.reg [
mv 14 6]
  (.cond (.t 14)
  (.reg [
mv 15 5,
mv 4 15]
  .ret)
  .skip)))
  ⟨1, [2], []⟩))
def k_zcv_1 : KC := (.reg [
ld 16 1 2,
rq 17 (.len .sl (.t 16)),
mv 4 17]
  .ret)
def r_zcv : KF where
  np := 3
  res := [.tmp 4]
  code := [k_zcv_0, k_zcv_1]
def k_zcx_0 : KC := (.reg [
rq 3 (.ibox (.t 0)),
rq 4 (.ibox (.t 1)),
rq 5 (.move (.c (.int .i64 0)))]
  (.dreg [
ld 6 1 2,
lo 7 6 3,
rq 8 (.callv .pur (.t 6) [(.t 7)]),
ld 9 1 2,
lo 10 6 4,
rq 11 (.callv .pur (.t 9) [(.t 10)]),
bb 12 .sub 8 11,
mv 5 12] []
  .ret))
def r_zcx : KF where
  np := 3
  res := [.tmp 5]
  code := [k_zcx_0]
def k_zce_0 : KC := (.reg [
mv 10 1,
bc 11 .add 10 1,
mv 8 11]
  (.block 0 (.loop ⟨1, [0, 1, 2, 3, 8], []⟩)))
def k_zce_1 : KC := (.seq (.reg [
mv 12 8,
mv 13 2,
bb 14 .lss 12 13]
  (.cond (.t 14)
  .skip
  (.exit 0)))
  ⟨2, [0, 1, 2, 3, 8], []⟩)
def k_zce_2 : KC := (.seq (.block 1 (.reg [
mv 17 8,
mv 9 17]
  (.block 2 (.loop ⟨3, [0, 1, 2, 3, 8, 9], []⟩))))
  ⟨6, [0, 1, 2, 3, 8], []⟩)
def k_zce_3 : KC := (.seq (.dreg [
mv 18 9,
mv 19 1,
bb 20 .gtr 18 19,
mv 21 20,
mg 22 21 true 3,
mg 23 21 true 0,
mg 24 21 true 9,
rqg 25 21 true (.iaddr 6 (.t 23) (.t 24)),
rqg 26 21 true (.load true 6 (.t 25)),
mg 27 21 true 0,
mg 28 21 true 9,
bg 29 21 true .sub 28 1,
rqg 30 21 true (.iaddr 6 (.t 27) (.t 29)),
rqg 31 21 true (.load true 6 (.t 30)),
rqg 32 21 true (.callv .pur (.t 22) [(.t 26), (.t 31)]),
bg 33 21 true .lss 32 0,
pa 34 21 33] []
  (.cond (.t 34)
  .skip
  (.exit 2)))
  ⟨4, [0, 1, 2, 3, 8, 9], []⟩)
def k_zce_4 : KC := (.seq (.block 3 (.ldreg [
mv 37 0,
mv 38 9,
mv 39 0,
mv 40 9,
bc 41 .sub 40 1,
mv 42 0,
mv 43 9,
bc 44 .sub 43 1,
rq 45 (.iaddr 6 (.t 42) (.t 44)),
lo 46 6 45,
mv 47 0,
mv 48 9,
rq 49 (.iaddr 6 (.t 47) (.t 48)),
lo 50 6 49,
rq 51 (.iaddr 6 (.t 37) (.t 38))] [
st 6 51 46,
rq 52 (.iaddr 6 (.t 39) (.t 41)),
st 6 52 50]))
  ⟨5, [0, 1, 2, 3, 8, 9], []⟩)
def k_zce_5 : KC := (.lreg [
mv 35 9,
bc 36 .sub 35 1,
mv 9 36])
def k_zce_6 : KC := (.lreg [
mv 15 8,
bc 16 .add 15 1,
mv 8 16])
def r_zce : KF where
  np := 4
  res := []
  code := [k_zce_0, k_zce_1, k_zce_2, k_zce_3, k_zce_4, k_zce_5, k_zce_6]
def k_zck_0 : KC := (.reg [
rq 10 (.move (.c (.int .i64 0)))]
  (.block 0 (.loop ⟨1, [0, 1, 2, 3, 10], []⟩)))
def k_zck_1 : KC := (.seq (.reg [
mv 11 10,
mv 12 3,
bb 13 .lss 11 12]
  (.cond (.t 13)
  .skip
  (.exit 0)))
  ⟨2, [0, 1, 2, 3, 10], []⟩)
def k_zck_2 : KC := (.seq (.block 1 (.ldreg [
mv 16 0,
mv 17 1,
mv 18 10,
bb 19 .add 17 18,
mv 20 0,
mv 21 2,
mv 22 10,
bb 23 .add 21 22,
mv 24 0,
mv 25 2,
mv 26 10,
bb 27 .add 25 26,
rq 28 (.iaddr 6 (.t 24) (.t 27)),
lo 29 6 28,
mv 30 0,
mv 31 1,
mv 32 10,
bb 33 .add 31 32,
rq 34 (.iaddr 6 (.t 30) (.t 33)),
lo 35 6 34,
rq 36 (.iaddr 6 (.t 16) (.t 19))] [
st 6 36 29,
rq 37 (.iaddr 6 (.t 20) (.t 23)),
st 6 37 35]))
  ⟨3, [0, 1, 2, 3, 10], []⟩)
def k_zck_3 : KC := (.lreg [
mv 14 10,
bc 15 .add 14 1,
mv 10 15])
def r_zck : KF where
  np := 5
  res := []
  code := [k_zck_0, k_zck_1, k_zck_2, k_zck_3]
def k_zcg_0 : KC := (.reg [
mv 12 2,
mv 13 1,
bb 14 .sub 12 13,
mv 10 14]
  (.reg [
mv 15 3,
mv 16 2,
bb 17 .sub 15 16,
mv 11 17]
  (.seq (.block 0 (.loop ⟨1, [0, 2, 4, 10, 11], []⟩))
  ⟨3, [0, 2, 4, 10], []⟩)))
def k_zcg_1 : KC := (.seq (.reg [
mv 18 10,
mv 19 11,
bb 20 .neq 18 19]
  (.cond (.t 20)
  .skip
  (.exit 0)))
  ⟨2, [0, 2, 4, 10, 11], []⟩)
def k_zcg_2 : KC := (.block 1 (.reg [
mv 21 10,
mv 22 11,
bb 23 .gtr 21 22]
  (.cond (.t 23)
  (.reg [
mv 24 0,
mv 25 2,
mv 26 10,
bb 27 .sub 25 26,
mv 28 2,
mv 29 11,
mv 30 4,
rq 31 (.call .eff 81 [(.t 24), (.t 27), (.t 28), (.t 29), (.t 30)])]
  (.lreg [
mv 32 10,
mv 33 11,
bb 34 .sub 32 33,
mv 10 34]))
  (.reg [
mv 35 0,
mv 36 2,
mv 37 10,
bb 38 .sub 36 37,
mv 39 2,
mv 40 11,
bb 41 .add 39 40,
mv 42 10,
bb 43 .sub 41 42,
mv 44 10,
mv 45 4,
rq 46 (.call .eff 81 [(.t 35), (.t 38), (.t 43), (.t 44), (.t 45)])]
  (.lreg [
mv 47 11,
mv 48 10,
bb 49 .sub 47 48,
mv 11 49])))))
def k_zcg_3 : KC := (.lreg [
mv 50 0,
mv 51 2,
mv 52 10,
bb 53 .sub 51 52,
mv 54 2,
mv 55 10,
mv 56 4,
rq 57 (.call .eff 81 [(.t 50), (.t 53), (.t 54), (.t 55), (.t 56)])])
def r_zcg : KF where
  np := 5
  res := []
  code := [k_zcg_0, k_zcg_1, k_zcg_2, k_zcg_3]
def k_zcm_0 : KC := (.seq (.reg [
mv 25 2,
mv 26 1,
bb 27 .sub 25 26,
bc 28 .eql 27 1]
  (.cond (.t 28)
  (.reg [
mv 29 2,
mv 10 29]
  (.reg [
mv 30 3,
mv 11 30]
  (.seq (.block 0 (.loop ⟨1, [0, 1, 4, 10, 11], []⟩))
  ⟨3, [0, 1, 10], []⟩)))
  .skip))
  ⟨8, [0, 1, 2, 3, 4], []⟩)
def k_zcm_1 : KC := (.seq (.reg [
mv 31 10,
mv 32 11,
bb 33 .lss 31 32]
  (.cond (.t 33)
  .skip
  (.exit 0)))
  ⟨2, [0, 1, 4, 10, 11], []⟩)
def k_zcm_2 : KC := (.block 1 (.reg [
mv 34 10,
mv 35 11,
bb 36 .add 34 35,
rq 37 (.conv (.int .u64) (.t 36)),
rq 38 (.bin .shr (.t 37) (.c (.int .u64 1))),
rq 39 (.conv (.int .i64) (.t 38)),
mv 12 39]
  (.dreg [
mv 40 4,
mv 41 0,
mv 42 12,
rq 43 (.iaddr 6 (.t 41) (.t 42)),
lo 44 6 43,
mv 45 0,
mv 46 1,
rq 47 (.iaddr 6 (.t 45) (.t 46)),
lo 48 6 47,
rq 49 (.callv .pur (.t 40) [(.t 44), (.t 48)]),
bc 50 .lss 49 0] []
  (.cond (.t 50)
  (.lreg [
mv 51 12,
bc 52 .add 51 1,
mv 10 52])
  (.lreg [
mv 53 12,
mv 11 53])))))
def k_zcm_3 : KC := (.seq (.reg [
mv 54 1,
mv 13 54]
  (.block 2 (.loop ⟨4, [0, 10, 13], []⟩)))
  ⟨7, [], []⟩)
def k_zcm_4 : KC := (.seq (.reg [
mv 55 13,
mv 56 10,
bc 57 .sub 56 1,
bb 58 .lss 55 57]
  (.cond (.t 58)
  .skip
  (.exit 2)))
  ⟨5, [0, 10, 13], []⟩)
def k_zcm_5 : KC := (.seq (.block 3 (.ldreg [
mv 61 0,
mv 62 13,
mv 63 0,
mv 64 13,
bc 65 .add 64 1,
mv 66 0,
mv 67 13,
bc 68 .add 67 1,
rq 69 (.iaddr 6 (.t 66) (.t 68)),
lo 70 6 69,
mv 71 0,
mv 72 13,
rq 73 (.iaddr 6 (.t 71) (.t 72)),
lo 74 6 73,
rq 75 (.iaddr 6 (.t 61) (.t 62))] [
st 6 75 70,
rq 76 (.iaddr 6 (.t 63) (.t 65)),
st 6 76 74]))
  ⟨6, [0, 10, 13], []⟩)
def k_zcm_6 : KC := (.lreg [
mv 59 13,
bc 60 .add 59 1,
mv 13 60])
def k_zcm_7 : KC := .ret
def k_zcm_8 : KC := (.seq (.reg [
mv 77 3,
mv 78 2,
bb 79 .sub 77 78,
bc 80 .eql 79 1]
  (.cond (.t 80)
  (.reg [
mv 81 1,
mv 14 81]
  (.reg [
mv 82 2,
mv 15 82]
  (.seq (.block 4 (.loop ⟨9, [0, 2, 4, 14, 15], []⟩))
  ⟨11, [0, 2, 14], []⟩)))
  .skip))
  ⟨16, [0, 1, 2, 3, 4], []⟩)
def k_zcm_9 : KC := (.seq (.reg [
mv 83 14,
mv 84 15,
bb 85 .lss 83 84]
  (.cond (.t 85)
  .skip
  (.exit 4)))
  ⟨10, [0, 2, 4, 14, 15], []⟩)
def k_zcm_10 : KC := (.block 5 (.reg [
mv 86 14,
mv 87 15,
bb 88 .add 86 87,
rq 89 (.conv (.int .u64) (.t 88)),
rq 90 (.bin .shr (.t 89) (.c (.int .u64 1))),
rq 91 (.conv (.int .i64) (.t 90)),
mv 16 91]
  (.dreg [
mv 92 4,
mv 93 0,
mv 94 2,
rq 95 (.iaddr 6 (.t 93) (.t 94)),
lo 96 6 95,
mv 97 0,
mv 98 16,
rq 99 (.iaddr 6 (.t 97) (.t 98)),
lo 100 6 99,
rq 101 (.callv .pur (.t 92) [(.t 96), (.t 100)]),
bc 102 .lss 101 0,
rq 103 (.un .not (.t 102))] []
  (.cond (.t 103)
  (.lreg [
mv 104 16,
bc 105 .add 104 1,
mv 14 105])
  (.lreg [
mv 106 16,
mv 15 106])))))
def k_zcm_11 : KC := (.seq (.reg [
mv 107 2,
mv 17 107]
  (.block 6 (.loop ⟨12, [0, 14, 17], []⟩)))
  ⟨15, [], []⟩)
def k_zcm_12 : KC := (.seq (.reg [
mv 108 17,
mv 109 14,
bb 110 .gtr 108 109]
  (.cond (.t 110)
  .skip
  (.exit 6)))
  ⟨13, [0, 14, 17], []⟩)
def k_zcm_13 : KC := (.seq (.block 7 (.ldreg [
mv 113 0,
mv 114 17,
mv 115 0,
mv 116 17,
bc 117 .sub 116 1,
mv 118 0,
mv 119 17,
bc 120 .sub 119 1,
rq 121 (.iaddr 6 (.t 118) (.t 120)),
lo 122 6 121,
mv 123 0,
mv 124 17,
rq 125 (.iaddr 6 (.t 123) (.t 124)),
lo 126 6 125,
rq 127 (.iaddr 6 (.t 113) (.t 114))] [
st 6 127 122,
rq 128 (.iaddr 6 (.t 115) (.t 117)),
st 6 128 126]))
  ⟨14, [0, 14, 17], []⟩)
def k_zcm_14 : KC := (.lreg [
mv 111 17,
bc 112 .sub 111 1,
mv 17 112])
def k_zcm_15 : KC := .ret
def k_zcm_16 : KC := (.reg [
mv 129 1,
mv 130 3,
bb 131 .add 129 130,
rq 132 (.conv (.int .u64) (.t 131)),
rq 133 (.bin .shr (.t 132) (.c (.int .u64 1))),
rq 134 (.conv (.int .i64) (.t 133)),
mv 18 134]
  (.reg [
mv 135 18,
mv 136 2,
bb 137 .add 135 136,
mv 19 137]
  (.reg [
rq 20 (.move (.c (.int .i64 0))),
rq 21 (.move (.c (.int .i64 0)))]
  (.seq (.reg [
mv 138 2,
mv 139 18,
bb 140 .gtr 138 139]
  (.cond (.t 140)
  (.reg [
mv 141 19,
mv 142 3,
bb 143 .sub 141 142,
mv 20 143]
  (.lreg [
mv 144 18,
mv 21 144]))
  (.reg [
mv 145 1,
mv 20 145]
  (.lreg [
mv 146 2,
mv 21 146]))))
  ⟨17, [0, 1, 2, 3, 4, 18, 19, 20, 21], []⟩))))
def k_zcm_17 : KC := (.reg [
mv 147 19,
bc 148 .sub 147 1,
mv 22 148]
  (.seq (.block 8 (.loop ⟨18, [0, 1, 2, 3, 4, 18, 19, 20, 21, 22], []⟩))
  ⟨20, [0, 1, 2, 3, 4, 18, 19, 20], []⟩))
def k_zcm_18 : KC := (.seq (.reg [
mv 149 20,
mv 150 21,
bb 151 .lss 149 150]
  (.cond (.t 151)
  .skip
  (.exit 8)))
  ⟨19, [0, 1, 2, 3, 4, 18, 19, 20, 21, 22], []⟩)
def k_zcm_19 : KC := (.block 9 (.reg [
mv 152 20,
mv 153 21,
bb 154 .add 152 153,
rq 155 (.conv (.int .u64) (.t 154)),
rq 156 (.bin .shr (.t 155) (.c (.int .u64 1))),
rq 157 (.conv (.int .i64) (.t 156)),
mv 23 157]
  (.dreg [
mv 158 4,
mv 159 0,
mv 160 22,
mv 161 23,
bb 162 .sub 160 161,
rq 163 (.iaddr 6 (.t 159) (.t 162)),
lo 164 6 163,
mv 165 0,
mv 166 23,
rq 167 (.iaddr 6 (.t 165) (.t 166)),
lo 168 6 167,
rq 169 (.callv .pur (.t 158) [(.t 164), (.t 168)]),
bc 170 .lss 169 0,
rq 171 (.un .not (.t 170))] []
  (.cond (.t 171)
  (.lreg [
mv 172 23,
bc 173 .add 172 1,
mv 20 173])
  (.lreg [
mv 174 23,
mv 21 174])))))
def k_zcm_20 : KC := (.reg [
mv 175 19,
mv 176 20,
bb 177 .sub 175 176,
mv 24 177]
  (.seq (.reg [
mv 178 20,
mv 179 2,
bb 180 .lss 178 179,
mv 181 180,
mg 182 181 true 2,
mg 183 181 true 24,
rqg 184 181 true (.bin .lss (.t 182) (.t 183)),
pa 185 181 184]
  (.cond (.t 185)
  (.lreg [
mv 186 0,
mv 187 20,
mv 188 2,
mv 189 24,
mv 190 4,
rq 191 (.call .eff 80 [(.t 186), (.t 187), (.t 188), (.t 189), (.t 190)])])
  .skip))
  ⟨21, [0, 1, 3, 4, 18, 20, 24], []⟩))
def k_zcm_21 : KC := (.seq (.reg [
mv 192 1,
mv 193 20,
bb 194 .lss 192 193,
mv 195 194,
mg 196 195 true 20,
mg 197 195 true 18,
rqg 198 195 true (.bin .lss (.t 196) (.t 197)),
pa 199 195 198]
  (.cond (.t 199)
  (.lreg [
mv 200 0,
mv 201 1,
mv 202 20,
mv 203 18,
mv 204 4,
rq 205 (.call .eff 78 [(.t 200), (.t 201), (.t 202), (.t 203), (.t 204)])])
  .skip))
  ⟨22, [0, 3, 4, 18, 24], []⟩)
def k_zcm_22 : KC := (.reg [
mv 206 18,
mv 207 24,
bb 208 .lss 206 207,
mv 209 208,
mg 210 209 true 24,
mg 211 209 true 3,
rqg 212 209 true (.bin .lss (.t 210) (.t 211)),
pa 213 209 212]
  (.cond (.t 213)
  (.lreg [
mv 214 0,
mv 215 18,
mv 216 24,
mv 217 3,
mv 218 4,
rq 219 (.call .eff 78 [(.t 214), (.t 215), (.t 216), (.t 217), (.t 218)])])
  .skip))
def r_zcm : KF where
  np := 5
  res := []
  code := [k_zcm_0, k_zcm_1, k_zcm_2, k_zcm_3, k_zcm_4, k_zcm_5, k_zcm_6, k_zcm_7, k_zcm_8, k_zcm_9, k_zcm_10, k_zcm_11, k_zcm_12, k_zcm_13, k_zcm_14, k_zcm_15, k_zcm_16, k_zcm_17, k_zcm_18, k_zcm_19, k_zcm_20, k_zcm_21, k_zcm_22]
def k_zci_0 : KC := (.reg [
rq 6 (.move (.c (.int .i64 20)))]
  (.reg [
mv 10 6,
rq 7 (.move (.c (.int .i64 0))),
mv 8 10]
  (.seq (.block 0 (.loop ⟨1, [0, 1, 2, 6, 7, 8], []⟩))
  ⟨3, [0, 1, 2, 6, 7], []⟩)))
def k_zci_1 : KC := (.seq (.reg [
mv 11 8,
mv 12 1,
bb 13 .leq 11 12]
  (.cond (.t 13)
  .skip
  (.exit 0)))
  ⟨2, [0, 1, 2, 6, 7, 8], []⟩)
def k_zci_2 : KC := (.block 1 (.reg [
mv 14 0,
mv 15 7,
mv 16 8,
mv 17 2,
rq 18 (.call .eff 77 [(.t 14), (.t 15), (.t 16), (.t 17)])]
  (.reg [
mv 19 8,
mv 7 19]
  (.lreg [
mv 20 8,
mv 21 6,
bb 22 .add 20 21,
mv 8 22]))))
def k_zci_3 : KC := (.reg [
mv 23 0,
mv 24 7,
mv 25 1,
mv 26 2,
rq 27 (.call .eff 77 [(.t 23), (.t 24), (.t 25), (.t 26)])]
  (.block 2 (.loop ⟨4, [0, 1, 2, 6], []⟩)))
def k_zci_4 : KC := (.seq (.reg [
mv 28 6,
mv 29 1,
bb 30 .lss 28 29]
  (.cond (.t 30)
  .skip
  (.exit 2)))
  ⟨5, [0, 1, 2, 6], []⟩)
def k_zci_5 : KC := (.block 3 (.reg [
mv 31 6,
rq 32 (.bin .mul (.c (.int .i64 2)) (.t 31)),
rq 7 (.move (.c (.int .i64 0))),
mv 8 32]
  (.seq (.block 4 (.loop ⟨6, [0, 1, 2, 6, 7, 8], []⟩))
  ⟨8, [0, 1, 2, 6, 7], []⟩)))
def k_zci_6 : KC := (.seq (.reg [
mv 33 8,
mv 34 1,
bb 35 .leq 33 34]
  (.cond (.t 35)
  .skip
  (.exit 4)))
  ⟨7, [0, 1, 2, 6, 7, 8], []⟩)
def k_zci_7 : KC := (.block 5 (.reg [
mv 36 0,
mv 37 7,
mv 38 7,
mv 39 6,
bb 40 .add 38 39,
mv 41 8,
mv 42 2,
rq 43 (.call .eff 78 [(.t 36), (.t 37), (.t 40), (.t 41), (.t 42)])]
  (.reg [
mv 44 8,
mv 7 44]
  (.lreg [
mv 45 8,
mv 46 6,
rq 47 (.bin .mul (.c (.int .i64 2)) (.t 46)),
bb 48 .add 45 47,
mv 8 48]))))
def k_zci_8 : KC := (.seq (.reg [
mv 49 7,
mv 50 6,
bb 51 .add 49 50,
mv 9 51]
  (.reg [
mv 52 9,
mv 53 1,
bb 54 .lss 52 53]
  (.cond (.t 54)
  (.lreg [
mv 55 0,
mv 56 7,
mv 57 9,
mv 58 1,
mv 59 2,
rq 60 (.call .eff 78 [(.t 55), (.t 56), (.t 57), (.t 58), (.t 59)])])
  .skip)))
  ⟨9, [0, 1, 2, 6], []⟩)
def k_zci_9 : KC := (.lreg [
mv 61 6,
bc 62 .mul 61 2,
mv 6 62])
def r_zci : KF where
  np := 3
  res := []
  code := [k_zci_0, k_zci_1, k_zci_2, k_zci_3, k_zci_4, k_zci_5, k_zci_6, k_zci_7, k_zci_8, k_zci_9]
def k_zcc_0 : KC := (.lreg [
mv 4 0,
mv 5 0,
rq 6 (.len .sl (.t 5)),
mv 7 1,
rq 8 (.call .eff 75 [(.t 4), (.t 6), (.t 7)])])
def r_zcc : KF where
  np := 2
  res := []
  code := [k_zcc_0]
def k_zcu_0 : KC := (.reg [
rq 2 (.ibox (.t 0)),
rq 3 (.ibox (.t 1)),
rq 4 (.alloc [(.int .i64 0), (.int .i64 0), (.str []), (.sl []), (.sl [])]),
rq 5 (.move (.c (.int .i64 0)))]
  (.seq (.reg [
lo 13 5 2,
rq 14 (.call .pur 56 [(.t 13)]),
rq 15 (.un .not (.t 14))]
  (.cond (.t 15)
  (.reg [
rq 16 (.build [(.int .i64 0), (.int .i64 0), (.str []), (.sl []), (.sl [])] []),
st 5 4 16,
rq 5 (.move (.c (.int .i64 1)))]
  .ret)
  .skip))
  ⟨1, [2, 3, 4], [[4]]⟩))
def k_zcv : KC := (.reg [
rq 17 .mkMap,
rq 6 (.alloc [.nilmap]),
st 1 6 17]
  (.seq (.reg [
ld 18 1 3,
rq 19 (.len .sl (.t 18)),
rq 20 (.move (.c (.int .i64 0)))]
  (.block 0 (.loop ⟨2, [2, 3, 4, 6, 18, 19, 20], [[4], [6], [17]]⟩)))
  ⟨6, [2, 3, 4, 6], [[4], [6], [17]]⟩))
def k_zcx : KC := (.reg [
bb 21 .lss 20 19]
  (.seq (.cond (.t 21)
  .skip
  (.exit 0))
  ⟨3, [2, 3, 4, 6, 18, 19, 20], [[4], [6], [17]]⟩))
def k_zcu_3 : KC := (.seq (.block 1 (.reg [
mv 22 20,
rq 23 (.iaddr 1 (.t 18) (.t 20)),
ld 24 1 23,
mv 7 22,
mv 8 24]
  (.seq (.reg [
ld 26 1 6,
mv 27 8,
rq 28 (.lookup .str (.int .i64 0) true (.t 26) (.t 27)),
mv 25 28,
rq 29 (.extract (.t 25) 0),
rq 30 (.extract (.t 25) 1),
mv 9 29,
mv 10 30]
  (.reg [
mv 31 10]
  (.cond (.t 31)
  (.reg [
rq 32 (.build [(.int .i64 0), (.int .i64 0), (.str []), (.sl []), (.sl [])] []),
st 5 4 32,
rq 5 (.move (.c (.int .i64 7)))]
  .ret)
  .skip)))
  ⟨4, [2, 3, 4, 6, 7, 8, 18, 19, 20], [[4], [6], [17]]⟩)))
  ⟨5, [2, 3, 4, 6, 18, 19, 20], [[4], [6], [17]]⟩)
def k_zcu_4 : KC := (.lreg [
ld 33 1 6,
mv 34 8,
mv 35 7,
rz (.mapUpd .str (.t 33) (.t 34) (.t 35))])
def k_zcu_5 : KC := (.lreg [
bc 36 .add 20 1,
mv 20 36])
def k_zcu_6 : KC := (.reg [
lo 37 5 2,
rq 38 (.call (.own [[3, 3], [3, 4]]) 45 [(.t 37)]),
rq 11 (.alloc [(.int .i64 0), (.int .i64 0), (.str []), (.sl []), (.sl [])]),
st 5 11 38]
  (.reg [
rq 39 (.mkF (.func 66) [] [(.t 6), (.t 3)]),
rq 12 (.alloc [.nilf]),
st 1 12 39]
  (.reg [
fa 40 4 11,
ld 41 1 40,
rq 42 (.mkF (.func 68) [] [(.t 12)]),
rq 43 (.call .eff 67 [(.t 41), (.t 42)])]
  (.reg [
lo 44 5 11,
st 5 4 44,
rq 5 (.move (.c (.int .i64 0)))]
  .ret))))
def r_zcu : KF where
  np := 2
  res := [.cell 4 true 5, .tmp 5]
  code := [k_zcu_0, k_zcv, k_zcx, k_zcu_3, k_zcu_4, k_zcu_5, k_zcu_6]
def k_zy_0 : KC := (.reg [
rq 2 (.ibox (.t 0)),
rq 3 (.ibox (.t 1)),
rq 4 (.move (.c (.bool false)))]
  (.seq (.reg [
fa 7 0 2,
ld 8 1 7,
fa 9 0 3,
ld 10 1 9,
bb 11 .neq 8 10,
mv 12 11,
fg 13 12 false 1 2,
lg 14 12 false 1 13,
fg 15 12 false 1 3,
lg 16 12 false 1 15,
rqg 17 12 false (.bin .neq (.t 14) (.t 16)),
po 18 12 17,
mv 19 18,
fg 20 19 false 2 2,
lg 21 19 false 1 20,
fg 22 19 false 2 3,
lg 23 19 false 1 22,
rqg 24 19 false (.bin .neq (.t 21) (.t 23)),
po 25 19 24,
mv 26 25,
fg 27 26 false 3 2,
lg 28 26 false 1 27,
rqg 29 26 false (.len .sl (.t 28)),
fg 30 26 false 3 3,
lg 31 26 false 1 30,
rqg 32 26 false (.len .sl (.t 31)),
rqg 33 26 false (.bin .neq (.t 29) (.t 32)),
po 34 26 33,
mv 35 34,
fg 36 35 false 4 2,
lg 37 35 false 1 36,
rqg 38 35 false (.len .sl (.t 37)),
fg 39 35 false 4 3,
lg 40 35 false 1 39,
rqg 41 35 false (.len .sl (.t 40)),
rqg 42 35 false (.bin .neq (.t 38) (.t 41)),
po 43 35 42]
  (.cond (.t 43)
  (.reg [
rq 4 (.move (.c (.bool false)))]
  .ret)
  .skip))
  ⟨1, [2, 3], []⟩))
def k_zy_1 : KC := (.seq (.reg [
rq 5 (.move (.c (.int .i64 0)))]
  (.block 0 (.loop ⟨2, [2, 3, 5], []⟩)))
  ⟨5, [2, 3], []⟩)
def k_zy_2 : KC := (.seq (.reg [
mv 44 5,
fa 45 3 2,
ld 46 1 45,
rq 47 (.len .sl (.t 46)),
bb 48 .lss 44 47]
  (.cond (.t 48)
  .skip
  (.exit 0)))
  ⟨3, [2, 3, 5], []⟩)
def k_zy_3 : KC := (.seq (.block 1 (.dreg [
fa 51 3 2,
ld 52 1 51,
mv 53 5,
rq 54 (.iaddr 5 (.t 52) (.t 53)),
lo 55 5 54,
fa 56 3 3,
ld 57 1 56,
mv 58 5,
rq 59 (.iaddr 5 (.t 57) (.t 58)),
lo 60 5 59,
rq 61 (.call .pur 19 [(.t 55), (.t 60)]),
rq 62 (.un .not (.t 61))] []
  (.cond (.t 62)
  (.reg [
rq 4 (.move (.c (.bool false)))]
  .ret)
  .skip)))
  ⟨4, [2, 3, 5], []⟩)
def k_zy_4 : KC := (.lreg [
mv 49 5,
bc 50 .add 49 1,
mv 5 50])
def k_zy_5 : KC := (.seq (.reg [
rq 6 (.move (.c (.int .i64 0)))]
  (.block 2 (.loop ⟨6, [2, 3, 6], []⟩)))
  ⟨9, [], []⟩)
def k_zy_6 : KC := (.seq (.reg [
mv 63 6,
fa 64 4 2,
ld 65 1 64,
rq 66 (.len .sl (.t 65)),
bb 67 .lss 63 66]
  (.cond (.t 67)
  .skip
  (.exit 2)))
  ⟨7, [2, 3, 6], []⟩)
def k_zy_7 : KC := (.seq (.block 3 (.dreg [
fa 70 4 2,
ld 71 1 70,
mv 72 6,
rq 73 (.iaddr 6 (.t 71) (.t 72)),
fa 74 0 73,
ld 75 1 74,
fa 76 4 3,
ld 77 1 76,
mv 78 6,
rq 79 (.iaddr 6 (.t 77) (.t 78)),
fa 80 0 79,
ld 81 1 80,
bb 82 .neq 75 81,
mv 83 82,
fg 84 83 false 4 2,
lg 85 83 false 1 84,
mg 86 83 false 6,
rqg 87 83 false (.iaddr 6 (.t 85) (.t 86)),
fg 88 83 false 1 87,
rqg 89 83 false (.load true 5 (.t 88)),
fg 90 83 false 4 3,
lg 91 83 false 1 90,
mg 92 83 false 6,
rqg 93 83 false (.iaddr 6 (.t 91) (.t 92)),
fg 94 83 false 1 93,
rqg 95 83 false (.load true 5 (.t 94)),
rqg 96 83 false (.call .pur 19 [(.t 89), (.t 95)]),
rqg 97 83 false (.un .not (.t 96)),
po 98 83 97] []
  (.cond (.t 98)
  (.reg [
rq 4 (.move (.c (.bool false)))]
  .ret)
  .skip)))
  ⟨8, [2, 3, 6], []⟩)
def k_zy_8 : KC := (.lreg [
mv 68 6,
bc 69 .add 68 1,
mv 6 69])
def k_zy_9 : KC := (.reg [
rq 4 (.move (.c (.bool true)))]
  .ret)
def r_zy : KF where
  np := 2
  res := [.tmp 4]
  code := [k_zy_0, k_zy_1, k_zy_2, k_zy_3, k_zy_4, k_zy_5, k_zy_6, k_zy_7, k_zy_8, k_zy_9]
def k_zk_0 : KC := (.reg [
rq 1 (.ibox (.t 0)),
rq 2 (.move (.c (.bool false)))]
  (.reg [
lo 3 5 1,
rq 4 (.build [(.int .i64 0), (.int .i64 0), (.str []), (.sl []), (.sl [])] []),
rq 5 (.call .pur 19 [(.t 3), (.t 4)]),
mv 2 5]
  .ret))
def r_zk : KF where
  np := 1
  res := [.tmp 2]
  code := [k_zk_0]
def k_zr_0 : KC := (.reg [
rq 4 (.move (.c (.int .i64 0))),
rq 5 (.move (.c (.int .i32 0)))]
  (.reg [
mv 12 0,
mv 13 1,
rq 14 (.idx (.t 12) (.t 13)),
rq 15 (.conv (.int .i64) (.t 14)),
mv 6 15]
  (.reg [
rq 7 (.move (.c (.int .i64 0))),
rq 8 (.move (.c (.int .i64 0))),
rq 9 (.move (.c (.int .i64 0)))]
  (.seq (.reg [
mv 16 6,
bc 17 .lss 16 128]
  (.cond (.t 17)
  (.reg [
mv 18 6,
rq 19 (.conv (.int .i32) (.t 18)),
rq 4 (.move (.c (.int .i64 1))),
mv 5 19]
  .ret)
  .skip))
  ⟨1, [0, 1, 6, 7, 8, 9], []⟩))))
def k_zr_1 : KC := (.seq (.reg [
mv 20 6,
bc 21 .geq 20 194,
mv 22 21,
mg 23 22 true 6,
bg 24 22 true .lss 23 224,
pa 25 22 24]
  (.cond (.t 25)
  (.reg [
rq 7 (.move (.c (.int .i64 2)))]
  (.reg [
mv 26 6,
bc 27 .sub 26 192,
mv 8 27]
  (.lreg [
rq 9 (.move (.c (.int .i64 128)))])))
  .skip))
  ⟨2, [0, 1, 6, 7, 8, 9], []⟩)
def k_zr_2 : KC := (.seq (.reg [
mv 28 6,
bc 29 .geq 28 224,
mv 30 29,
mg 31 30 true 6,
bg 32 30 true .lss 31 240,
pa 33 30 32]
  (.cond (.t 33)
  (.reg [
rq 7 (.move (.c (.int .i64 3)))]
  (.reg [
mv 34 6,
bc 35 .sub 34 224,
mv 8 35]
  (.lreg [
rq 9 (.move (.c (.int .i64 2048)))])))
  .skip))
  ⟨3, [0, 1, 6, 7, 8, 9], []⟩)
def k_zr_3 : KC := (.seq (.reg [
mv 36 6,
bc 37 .geq 36 240,
mv 38 37,
mg 39 38 true 6,
bg 40 38 true .lss 39 245,
pa 41 38 40]
  (.cond (.t 41)
  (.reg [
rq 7 (.move (.c (.int .i64 4)))]
  (.reg [
mv 42 6,
bc 43 .sub 42 240,
mv 8 43]
  (.lreg [
rq 9 (.move (.c (.int .i64 65536)))])))
  .skip))
  ⟨4, [0, 1, 7, 8, 9], []⟩)
def k_zr_4 : KC := (.seq (.reg [
mv 44 7,
bc 45 .eql 44 0,
mv 46 45,
mg 47 46 false 1,
mg 48 46 false 0,
rqg 49 46 false (.len .str (.t 48)),
mg 50 46 false 7,
rqg 51 46 false (.bin .sub (.t 49) (.t 50)),
bg 52 46 false .add 51 1,
rqg 53 46 false (.bin .geq (.t 47) (.t 52)),
po 54 46 53]
  (.cond (.t 54)
  (.reg [
rq 4 (.move (.c (.int .i64 0))),
rq 5 (.move (.c (.int .i32 0)))]
  .ret)
  .skip))
  ⟨5, [0, 1, 7, 8, 9], []⟩)
def k_zr_5 : KC := (.seq (.reg [
rq 10 (.move (.c (.int .i64 1)))]
  (.block 0 (.loop ⟨6, [0, 1, 7, 8, 9, 10], []⟩)))
  ⟨10, [7, 8, 9], []⟩)
def k_zr_6 : KC := (.seq (.reg [
mv 55 10,
mv 56 7,
bb 57 .lss 55 56]
  (.cond (.t 57)
  .skip
  (.exit 0)))
  ⟨7, [0, 1, 7, 8, 9, 10], []⟩)
def k_zr_7 : KC := (.seq (.block 1 (.reg [
mv 60 0,
mv 61 1,
mv 62 10,
bb 63 .add 61 62,
rq 64 (.idx (.t 60) (.t 63)),
rq 65 (.conv (.int .i64) (.t 64)),
mv 11 65]
  (.seq (.reg [
mv 66 11,
bc 67 .lss 66 128,
mv 68 67,
mg 69 68 false 11,
bg 70 68 false .geq 69 192,
po 71 68 70]
  (.cond (.t 71)
  (.reg [
rq 4 (.move (.c (.int .i64 0))),
rq 5 (.move (.c (.int .i32 0)))]
  .ret)
  .skip))
  ⟨8, [0, 1, 7, 8, 9, 10, 11], []⟩)))
  ⟨9, [0, 1, 7, 8, 9, 10], []⟩)
def k_zr_8 : KC := (.lreg [
mv 72 8,
bc 73 .mul 72 64,
mv 74 11,
bb 75 .add 73 74,
bc 76 .sub 75 128,
mv 8 76])
def k_zr_9 : KC := (.lreg [
mv 58 10,
bc 59 .add 58 1,
mv 10 59])
def k_zr_10 : KC := (.seq (.reg [
mv 77 8,
mv 78 9,
bb 79 .lss 77 78,
mv 80 79,
mg 81 80 false 8,
bg 82 80 false .gtr 81 1114111,
po 83 80 82,
mv 84 83,
mg 85 84 false 8,
bg 86 84 false .geq 85 55296,
mg 87 84 false 86,
mg 88 87 true 8,
bg 89 87 true .lss 88 57344,
rqg 90 84 false (.pick (.t 87) (.t 89) (.c (.bool false))),
po 91 84 90]
  (.cond (.t 91)
  (.reg [
rq 4 (.move (.c (.int .i64 0))),
rq 5 (.move (.c (.int .i32 0)))]
  .ret)
  .skip))
  ⟨11, [7, 8], []⟩)
def k_zr_11 : KC := (.reg [
mv 92 7,
mv 93 8,
rq 94 (.conv (.int .i32) (.t 93)),
mv 4 92,
mv 5 94]
  .ret)
def r_zr : KF where
  np := 2
  res := [.tmp 4, .tmp 5]
  code := [k_zr_0, k_zr_1, k_zr_2, k_zr_3, k_zr_4, k_zr_5, k_zr_6, k_zr_7, k_zr_8, k_zr_9, k_zr_10, k_zr_11]
def k_zp_0 : KC := (.reg [
rq 2 (.move (.c (.int .i64 0)))]
  (.seq (.reg [
rq 3 (.move (.c (.int .i64 0)))]
  (.block 0 (.loop ⟨1, [0, 3], []⟩)))
  ⟨4, [], []⟩))
def k_zp_1 : KC := (.seq (.reg [
mv 6 3,
mv 7 0,
rq 8 (.len .str (.t 7)),
bb 9 .lss 6 8]
  (.cond (.t 9)
  .skip
  (.exit 0)))
  ⟨2, [0, 3], []⟩)
def k_zp_2 : KC := (.block 1 (.reg [
mv 11 0,
mv 12 3,
rq 13 (.call .pur 71 [(.t 11), (.t 12)]),
mv 10 13,
rq 14 (.extract (.t 10) 0),
rq 15 (.extract (.t 10) 1),
mv 4 14,
mv 5 15]
  (.seq (.reg [
mv 16 4,
bc 17 .eql 16 0]
  (.cond (.t 17)
  (.reg [
mv 18 3,
mv 2 18]
  .ret)
  .skip))
  ⟨3, [0, 3, 4], []⟩)))
def k_zp_3 : KC := (.lreg [
mv 19 3,
mv 20 4,
bb 21 .add 19 20,
mv 3 21])
def k_zp_4 : KC := (.reg [
rq 2 (.move (.c (.int .i64 (-1))))]
  .ret)
def r_zp : KF where
  np := 1
  res := [.tmp 2]
  code := [k_zp_0, k_zp_1, k_zp_2, k_zp_3, k_zp_4]
def k_zq_0 : KC := (.reg [
rq 2 (.move (.c (.bool false)))]
  (.reg [
mv 3 0,
rq 4 (.call .pur 59 [(.t 3)]),
bc 5 .eql 4 (-1),
mv 2 5]
  .ret))
def r_zq : KF where
  np := 1
  res := [.tmp 2]
  code := [k_zq_0]
def k_z2_0 : KC := (.reg [
rq 2 (.ibox (.t 0)),
rq 4 (.move (.c (.bool false)))]
  (.seq (.reg [
mv 8 1,
bc 9 .lss 8 1,
mv 10 9,
fg 11 10 false 0 2,
lg 12 10 false 1 11,
bg 13 10 false .lss 12 0,
po 14 10 13,
mv 15 14,
fg 16 15 false 0 2,
lg 17 15 false 1 16,
bg 18 15 false .gtr 17 5,
po 19 15 18]
  (.cond (.t 19)
  (.reg [
rq 4 (.move (.c (.bool false)))]
  .ret)
  .skip))
  ⟨1, [1, 2], []⟩))
def k_z2_1 : KC := (.seq (.reg [
fa 20 0 2,
ld 21 1 20,
bc 22 .neq 21 1,
mv 23 22,
fg 24 23 true 0 2,
lg 25 23 true 1 24,
bg 26 23 true .neq 25 2,
pa 27 23 26,
mv 28 27,
fg 29 28 true 1 2,
lg 30 28 true 1 29,
bg 31 28 true .neq 30 0,
pa 32 28 31,
mv 33 32,
fg 34 33 false 0 2,
lg 35 33 false 1 34,
bg 36 33 false .neq 35 3,
mg 37 33 false 36,
fg 38 37 true 2 2,
lg 39 37 true 1 38,
rqg 40 37 true (.bin .neq (.t 39) (.c (.str []))),
rqg 41 33 false (.pick (.t 37) (.t 40) (.c (.bool false))),
po 42 33 41,
mv 43 42,
fg 44 43 false 0 2,
lg 45 43 false 1 44,
bg 46 43 false .neq 45 4,
mg 47 43 false 46,
fg 48 47 true 3 2,
lg 49 47 true 1 48,
rqg 50 47 true (.len .sl (.t 49)),
bg 51 47 true .gtr 50 0,
rqg 52 43 false (.pick (.t 47) (.t 51) (.c (.bool false))),
po 53 43 52,
mv 54 53,
fg 55 54 false 0 2,
lg 56 54 false 1 55,
bg 57 54 false .neq 56 5,
mg 58 54 false 57,
fg 59 58 true 4 2,
lg 60 58 true 1 59,
rqg 61 58 true (.len .sl (.t 60)),
bg 62 58 true .gtr 61 0,
rqg 63 54 false (.pick (.t 58) (.t 62) (.c (.bool false))),
po 64 54 63]
  (.cond (.t 64)
  (.reg [
rq 4 (.move (.c (.bool false)))]
  .ret)
  .skip))
  ⟨2, [1, 2], []⟩)
def k_z2_2 : KC := (.seq (.reg [
fa 65 0 2,
ld 66 1 65,
bc 67 .eql 66 1,
mv 68 67,
fg 69 68 true 1 2,
lg 70 68 true 1 69,
bg 71 68 true .neq 70 0,
pa 72 68 71,
mv 73 72,
fg 74 73 true 1 2,
lg 75 73 true 1 74,
bg 76 73 true .neq 75 1,
pa 77 73 76,
mv 78 77,
fg 79 78 false 1 2,
lg 80 78 false 1 79,
bg 81 78 false .gtr 80 9007199254740991,
po 82 78 81,
mv 83 82,
fg 84 83 false 1 2,
lg 85 83 false 1 84,
bg 86 83 false .lss 85 (-9007199254740991),
po 87 83 86,
mv 88 87,
fg 89 88 false 2 2,
lg 90 88 false 1 89,
rqg 91 88 false (.call .pur 24 [(.t 90)]),
rqg 92 88 false (.un .not (.t 91)),
po 93 88 92]
  (.cond (.t 93)
  (.reg [
rq 4 (.move (.c (.bool false)))]
  .ret)
  .skip))
  ⟨3, [1, 2], []⟩)
def k_z2_3 : KC := (.seq (.reg [
rq 5 (.move (.c (.int .i64 0)))]
  (.block 0 (.loop ⟨4, [1, 2, 5], []⟩)))
  ⟨7, [1, 2], []⟩)
def k_z2_4 : KC := (.seq (.reg [
mv 94 5,
fa 95 3 2,
ld 96 1 95,
rq 97 (.len .sl (.t 96)),
bb 98 .lss 94 97]
  (.cond (.t 98)
  .skip
  (.exit 0)))
  ⟨5, [1, 2, 5], []⟩)
def k_z2_5 : KC := (.seq (.block 1 (.reg [
fa 101 3 2,
ld 102 1 101,
mv 103 5,
rq 104 (.iaddr 5 (.t 102) (.t 103)),
lo 105 5 104,
mv 106 1,
bc 107 .sub 106 1,
rq 108 (.call .pur 44 [(.t 105), (.t 107)]),
rq 109 (.un .not (.t 108))]
  (.cond (.t 109)
  (.reg [
rq 4 (.move (.c (.bool false)))]
  .ret)
  .skip)))
  ⟨6, [1, 2, 5], []⟩)
def k_z2_6 : KC := (.lreg [
mv 99 5,
bc 100 .add 99 1,
mv 5 100])
def k_z2_7 : KC := (.seq (.reg [
rq 6 (.move (.c (.int .i64 0)))]
  (.block 2 (.loop ⟨8, [1, 2, 6], []⟩)))
  ⟨15, [], []⟩)
def k_z2_8 : KC := (.seq (.reg [
mv 110 6,
fa 111 4 2,
ld 112 1 111,
rq 113 (.len .sl (.t 112)),
bb 114 .lss 110 113]
  (.cond (.t 114)
  .skip
  (.exit 2)))
  ⟨9, [1, 2, 6], []⟩)
def k_z2_9 : KC := (.seq (.block 3 (.seq (.reg [
fa 117 4 2,
ld 118 1 117,
mv 119 6,
rq 120 (.iaddr 6 (.t 118) (.t 119)),
fa 121 0 120,
ld 122 1 121,
rq 123 (.call .pur 24 [(.t 122)]),
rq 124 (.un .not (.t 123)),
mv 125 124,
fg 126 125 false 4 2,
lg 127 125 false 1 126,
mg 128 125 false 6,
rqg 129 125 false (.iaddr 6 (.t 127) (.t 128)),
fg 130 125 false 1 129,
rqg 131 125 false (.load true 5 (.t 130)),
mg 132 125 false 1,
bg 133 125 false .sub 132 1,
rqg 134 125 false (.call .pur 44 [(.t 131), (.t 133)]),
rqg 135 125 false (.un .not (.t 134)),
po 136 125 135]
  (.cond (.t 136)
  (.reg [
rq 4 (.move (.c (.bool false)))]
  .ret)
  .skip))
  ⟨10, [1, 2, 6], []⟩))
  ⟨14, [1, 2, 6], []⟩)
def k_z2_10 : KC := (.reg [
rq 7 (.move (.c (.int .i64 0)))]
  (.block 4 (.loop ⟨11, [1, 2, 6, 7], []⟩)))
def k_z2_11 : KC := (.seq (.reg [
mv 137 7,
mv 138 6,
bb 139 .lss 137 138]
  (.cond (.t 139)
  .skip
  (.exit 4)))
  ⟨12, [1, 2, 6, 7], []⟩)
def k_z2_12 : KC := (.seq (.block 5 (.dreg [
fa 142 4 2,
ld 143 1 142,
mv 144 7,
rq 145 (.iaddr 6 (.t 143) (.t 144)),
fa 146 0 145,
ld 147 1 146,
fa 148 4 2,
ld 149 1 148,
mv 150 6,
rq 151 (.iaddr 6 (.t 149) (.t 150)),
fa 152 0 151,
ld 153 1 152,
bb 154 .eql 147 153] []
  (.cond (.t 154)
  (.reg [
rq 4 (.move (.c (.bool false)))]
  .ret)
  .skip)))
  ⟨13, [1, 2, 6, 7], []⟩)
def k_z2_13 : KC := (.lreg [
mv 140 7,
bc 141 .add 140 1,
mv 7 141])
def k_z2_14 : KC := (.lreg [
mv 115 6,
bc 116 .add 115 1,
mv 6 116])
def k_z2_15 : KC := (.reg [
rq 4 (.move (.c (.bool true)))]
  .ret)
def r_z2 : KF where
  np := 2
  res := [.tmp 4]
  code := [k_z2_0, k_z2_1, k_z2_2, k_z2_3, k_z2_4, k_z2_5, k_z2_6, k_z2_7, k_z2_8, k_z2_9, k_z2_10, k_z2_11, k_z2_12, k_z2_13, k_z2_14, k_z2_15]
def k_zx_0 : KC := (.reg [
rq 1 (.ibox (.t 0)),
rq 2 (.move (.c (.bool false)))]
  (.reg [
lo 3 5 1,
rq 4 (.call .pur 44 [(.t 3), (.c (.int .i64 12))]),
mv 2 4]
  .ret))
def r_zx : KF where
  np := 1
  res := [.tmp 2]
  code := [k_zx_0]
def k_zj_0 : KC := (.reg [
rq 2 (.move (.c (.bool false)))]
  (.seq (.reg [
rq 3 (.move (.c (.int .i64 0)))]
  (.block 0 (.loop ⟨1, [0, 3], []⟩)))
  ⟨7, [], []⟩))
def k_zj_1 : KC := (.seq (.reg [
mv 5 3,
mv 6 0,
rq 7 (.len .sl (.t 6)),
bb 8 .lss 5 7]
  (.cond (.t 8)
  .skip
  (.exit 0)))
  ⟨2, [0, 3], []⟩)
def k_zj_2 : KC := (.seq (.block 1 (.reg [
rq 4 (.move (.c (.int .i64 0)))]
  (.block 2 (.loop ⟨3, [0, 3, 4], []⟩))))
  ⟨6, [0, 3], []⟩)
def k_zj_3 : KC := (.seq (.reg [
mv 11 4,
mv 12 3,
bb 13 .lss 11 12]
  (.cond (.t 13)
  .skip
  (.exit 2)))
  ⟨4, [0, 3, 4], []⟩)
def k_zj_4 : KC := (.seq (.block 3 (.dreg [
mv 16 0,
mv 17 4,
rq 18 (.iaddr 1 (.t 16) (.t 17)),
ld 19 1 18,
mv 20 0,
mv 21 3,
rq 22 (.iaddr 1 (.t 20) (.t 21)),
ld 23 1 22,
bb 24 .eql 19 23] []
  (.cond (.t 24)
  (.reg [
rq 2 (.move (.c (.bool true)))]
  .ret)
  .skip)))
  ⟨5, [0, 3, 4], []⟩)
def k_zj_5 : KC := (.lreg [
mv 14 4,
bc 15 .add 14 1,
mv 4 15])
def k_zj_6 : KC := (.lreg [
mv 9 3,
bc 10 .add 9 1,
mv 3 10])
def k_zj_7 : KC := (.reg [
rq 2 (.move (.c (.bool false)))]
  .ret)
def r_zj : KF where
  np := 1
  res := [.tmp 2]
  code := [k_zj_0, k_zj_1, k_zj_2, k_zj_3, k_zj_4, k_zj_5, k_zj_6, k_zj_7]
def k_zs_0 : KC := (.reg [
rq 2 (.box (.t 0)),
rq 4 (.move (.c (.int .i64 0)))]
  (.seq (.reg [
rq 5 (.move (.c (.int .i64 0)))]
  (.block 0 (.loop ⟨1, [1, 2, 5], [[2]]⟩)))
  ⟨4, [], []⟩))
def k_zs_1 : KC := (.seq (.reg [
mv 6 5,
fa 7 4 2,
ld 8 1 7,
rq 9 (.len .sl (.t 8)),
bb 10 .lss 6 9]
  (.cond (.t 10)
  .skip
  (.exit 0)))
  ⟨2, [1, 2, 5], [[2]]⟩)
def k_zs_2 : KC := (.seq (.block 1 (.reg [
fa 13 4 2,
ld 14 1 13,
mv 15 5,
rq 16 (.iaddr 6 (.t 14) (.t 15)),
fa 17 0 16,
ld 18 1 17,
mv 19 1,
bb 20 .eql 18 19]
  (.cond (.t 20)
  (.reg [
mv 21 5,
mv 4 21]
  .ret)
  .skip)))
  ⟨3, [1, 2, 5], [[2]]⟩)
def k_zs_3 : KC := (.lreg [
mv 11 5,
bc 12 .add 11 1,
mv 5 12])
def k_zs_4 : KC := (.reg [
rq 4 (.move (.c (.int .i64 (-1))))]
  .ret)
def r_zs : KF where
  np := 2
  res := [.tmp 4]
  code := [k_zs_0, k_zs_1, k_zs_2, k_zs_3, k_zs_4]
def k_zw_0 : KC := (.reg [
rq 2 (.ibox (.t 0)),
rq 4 (.alloc [(.int .i64 0), (.int .i64 0), (.str []), (.sl []), (.sl [])])]
  (.reg [
rq 9 (.build [(.int .i64 0), (.int .i64 0), (.str []), (.sl []), .nils] [(0, 1, (.c (.int .i64 5)))]),
rq 5 (.alloc [(.int .i64 0), (.int .i64 0), (.str []), (.sl []), (.sl [])]),
st 5 5 9]
  (.adj (.virt [5] 4 6 [5, 4]) (.seq (.reg [
rq 6 (.move (.c (.int .i64 0)))]
  (.block 0 (.loop ⟨1, [1, 2, 4, 5, 6], [[4], [5], [5, 4]]⟩)))
  ⟨4, [2, 4, 5], [[4], [5], [5, 4]]⟩))))
def k_zw_1 : KC := (.seq (.reg [
mv 10 6,
mv 11 1,
rq 12 (.len .sl (.t 11)),
bb 13 .lss 10 12]
  (.cond (.t 13)
  .skip
  (.exit 0)))
  ⟨2, [1, 2, 4, 5, 6], [[4], [5], [5, 4]]⟩)
def k_zw_2 : KC := (.seq (.block 1 (.dreg [
lo 16 5 2,
mv 17 1,
mv 18 6,
rq 19 (.iaddr 1 (.t 17) (.t 18)),
ld 20 1 19,
rq 21 (.call .pur 22 [(.t 16), (.t 20)]),
mv 7 21] []
  (.reg [
mv 22 7,
bc 23 .geq 22 0]
  (.cond (.t 23)
  (.ldreg [
fa 24 4 5,
ld 25 1 24,
fa 26 4 2,
ld 27 1 26,
mv 28 7,
rq 29 (.iaddr 6 (.t 27) (.t 28)),
lo 30 6 29,
rq 31 (.ilit 6 [(.t 30)])] [
rq 32 (.app 6 96 (.t 25) (.t 31)),
fa 33 4 5,
st 1 33 32])
  .skip))))
  ⟨3, [1, 2, 4, 5, 6], [[4], [5], [5, 4]]⟩)
def k_zw_3 : KC := (.lreg [
mv 14 6,
bc 15 .add 14 1,
mv 6 15])
def k_zw_4 : KC := (.seq (.reg [
rq 8 (.move (.c (.int .i64 0)))]
  (.block 2 (.loop ⟨5, [2, 4, 5, 8], [[4], [5], [5, 4]]⟩)))
  ⟨8, [4, 5], [[4], [5], [5, 4]]⟩)
def k_zw_5 : KC := (.seq (.reg [
mv 34 8,
fa 35 4 2,
ld 36 1 35,
rq 37 (.len .sl (.t 36)),
bb 38 .lss 34 37]
  (.cond (.t 38)
  .skip
  (.exit 2)))
  ⟨6, [2, 4, 5, 8], [[4], [5], [5, 4]]⟩)
def k_zw_6 : KC := (.seq (.block 3 (.dreg [
lo 41 5 5,
fa 42 4 2,
ld 43 1 42,
mv 44 8,
rq 45 (.iaddr 6 (.t 43) (.t 44)),
fa 46 0 45,
ld 47 1 46,
rq 48 (.call .pur 22 [(.t 41), (.t 47)]),
bc 49 .lss 48 0] []
  (.cond (.t 49)
  (.ldreg [
fa 50 4 5,
ld 51 1 50,
fa 52 4 2,
ld 53 1 52,
mv 54 8,
rq 55 (.iaddr 6 (.t 53) (.t 54)),
lo 56 6 55,
rq 57 (.ilit 6 [(.t 56)])] [
rq 58 (.app 6 96 (.t 51) (.t 57)),
fa 59 4 5,
st 1 59 58])
  .skip)))
  ⟨7, [2, 4, 5, 8], [[4], [5], [5, 4]]⟩)
def k_zw_7 : KC := (.lreg [
mv 39 8,
bc 40 .add 39 1,
mv 8 40])
def k_zw_8 : KC := (.reg [
lo 60 5 5,
st 5 4 60]
  .ret)
def r_zw : KF where
  np := 2
  res := [.cell 4 true 5]
  code := [k_zw_0, k_zw_1, k_zw_2, k_zw_3, k_zw_4, k_zw_5, k_zw_6, k_zw_7, k_zw_8]
def k_zdd_0 : KC := (.reg [
rq 2 (.ibox (.t 0)),
rq 4 (.alloc [(.int .i64 0), (.int .i64 0), (.str []), (.sl []), (.sl [])]),
rq 5 (.move (.c (.bool false)))]
  (.seq (.reg [
fa 8 4 2,
ld 9 1 8,
rq 10 (.len .sl (.t 9)),
rq 11 (.move (.c (.int .i64 0)))]
  (.block 0 (.loop ⟨1, [1, 4, 9, 10, 11], [[4]]⟩)))
  ⟨4, [4], [[4]]⟩))
def k_zdd_1 : KC := (.reg [
bb 12 .lss 11 10]
  (.seq (.cond (.t 12)
  .skip
  (.exit 0))
  ⟨2, [1, 4, 9, 10, 11], [[4]]⟩))
def k_zdd_2 : KC := (.seq (.block 1 (.reg [
rq 13 (.iaddr 6 (.t 9) (.t 11)),
lo 14 6 13,
rq 7 (.alloc [(.str []), (.int .i64 0), (.int .i64 0), (.str []), (.sl []), (.sl [])]),
st 6 7 14]
  (.reg [
fa 15 0 7,
ld 16 1 15,
mv 17 1,
bb 18 .eql 16 17]
  (.cond (.t 18)
  (.reg [
fa 19 1 7,
lo 20 5 19,
st 5 4 20,
rq 5 (.move (.c (.bool true)))]
  .ret)
  .skip))))
  ⟨3, [1, 4, 9, 10, 11], [[4]]⟩)
def k_zdd_3 : KC := (.lreg [
bc 21 .add 11 1,
mv 11 21])
def k_zdd_4 : KC := (.reg [
rq 22 (.build [(.int .i64 0), (.int .i64 0), (.str []), (.sl []), (.sl [])] []),
st 5 4 22,
rq 5 (.move (.c (.bool false)))]
  .ret)
def r_zdd : KF where
  np := 2
  res := [.cell 4 true 5, .tmp 5]
  code := [k_zdd_0, k_zdd_1, k_zdd_2, k_zdd_3, k_zdd_4]
def k_zb5_0 : KC := (.reg [
rq 6 (.move (.c (.bool false)))]
  (.seq (.reg [
mv 10 0,
rq 11 (.len .sl (.t 10)),
mv 12 1,
rq 13 (.len .sl (.t 12)),
bb 14 .neq 11 13]
  (.cond (.t 14)
  (.reg [
rq 6 (.move (.c (.bool false)))]
  .ret)
  .skip))
  ⟨1, [0, 1, 2], []⟩))
def k_zb5_1 : KC := (.seq (.reg [
mv 15 0,
rq 16 (.len .sl (.t 15)),
rq 17 (.move (.c (.int .i64 0)))]
  (.block 0 (.loop ⟨2, [1, 2, 15, 16, 17], []⟩)))
  ⟨5, [], []⟩)
def k_zb5_2 : KC := (.reg [
bb 18 .lss 17 16]
  (.seq (.cond (.t 18)
  .skip
  (.exit 0))
  ⟨3, [1, 2, 15, 16, 17], []⟩))
def k_zb5_3 : KC := (.seq (.block 1 (.reg [
mv 19 17,
rq 20 (.iaddr 5 (.t 15) (.t 17)),
lo 21 5 20,
rq 8 (.alloc [(.int .i64 0), (.int .i64 0), (.str []), (.sl []), (.sl [])]),
mv 7 19,
st 5 8 21]
  (.reg [
mv 22 1,
mv 23 7,
rq 24 (.iaddr 5 (.t 22) (.t 23)),
lo 25 5 24,
rq 9 (.alloc [(.int .i64 0), (.int .i64 0), (.str []), (.sl []), (.sl [])]),
st 5 9 25]
  (.reg [
mv 26 2,
lo 27 5 8,
lo 28 5 9,
rq 29 (.callv .pur (.t 26) [(.t 27), (.t 28)]),
rq 30 (.un .not (.t 29))]
  (.cond (.t 30)
  (.reg [
rq 6 (.move (.c (.bool false)))]
  .ret)
  .skip)))))
  ⟨4, [1, 2, 15, 16, 17], []⟩)
def k_zb5_4 : KC := (.lreg [
bc 31 .add 17 1,
mv 17 31])
def k_zb5_5 : KC := (.reg [
rq 6 (.move (.c (.bool true)))]
  .ret)
def r_zb5 : KF where
  np := 3
  res := [.tmp 6]
  code := [k_zb5_0, k_zb5_1, k_zb5_2, k_zb5_3, k_zb5_4, k_zb5_5]
def k_zc9_0 : KC := (.reg [
rq 2 (.ibox (.t 0)),
rq 3 (.ibox (.t 1)),
rq 4 (.move (.c (.bool false)))]
  (.seq (.reg [
fa 9 0 2,
ld 10 1 9,
fa 11 0 3,
ld 12 1 11,
bb 13 .neq 10 12,
mv 14 13,
fg 15 14 false 1 2,
lg 16 14 false 1 15,
fg 17 14 false 1 3,
lg 18 14 false 1 17,
rqg 19 14 false (.bin .neq (.t 16) (.t 18)),
po 20 14 19,
mv 21 20,
fg 22 21 false 2 2,
lg 23 21 false 1 22,
fg 24 21 false 2 3,
lg 25 21 false 1 24,
rqg 26 21 false (.bin .neq (.t 23) (.t 25)),
po 27 21 26,
mv 28 27,
fg 29 28 false 4 2,
lg 30 28 false 1 29,
rqg 31 28 false (.len .sl (.t 30)),
fg 32 28 false 4 3,
lg 33 28 false 1 32,
rqg 34 28 false (.len .sl (.t 33)),
rqg 35 28 false (.bin .neq (.t 31) (.t 34)),
po 36 28 35,
mv 37 36,
fg 38 37 false 3 2,
lg 39 37 false 1 38,
fg 40 37 false 3 3,
lg 41 37 false 1 40,
rqg 42 37 false (.call .pur 73 [(.t 39), (.t 41), (.f 61)]),
rqg 43 37 false (.un .not (.t 42)),
po 44 37 43]
  (.cond (.t 44)
  (.reg [
rq 4 (.move (.c (.bool false)))]
  .ret)
  .skip))
  ⟨1, [2, 3], []⟩))
def k_zc9_1 : KC := (.seq (.reg [
fa 45 4 2,
ld 46 1 45,
rq 47 (.len .sl (.t 46)),
rq 48 (.move (.c (.int .i64 0)))]
  (.block 0 (.loop ⟨2, [3, 46, 47, 48], []⟩)))
  ⟨5, [], []⟩)
def k_zc9_2 : KC := (.reg [
bb 49 .lss 48 47]
  (.seq (.cond (.t 49)
  .skip
  (.exit 0))
  ⟨3, [3, 46, 47, 48], []⟩))
def k_zc9_3 : KC := (.seq (.block 1 (.reg [
rq 50 (.iaddr 6 (.t 46) (.t 48)),
lo 51 6 50,
rq 6 (.alloc [(.str []), (.int .i64 0), (.int .i64 0), (.str []), (.sl []), (.sl [])]),
st 6 6 51]
  (.reg [
lo 53 5 3,
fa 54 0 6,
ld 55 1 54,
rq 56 (.call .pur 55 [(.t 53), (.t 55)]),
mv 52 56,
rq 57 (.extract (.t 52) 0),
rq 58 (.extract (.t 52) 1),
rq 7 (.alloc [(.int .i64 0), (.int .i64 0), (.str []), (.sl []), (.sl [])]),
st 5 7 57,
mv 8 58]
  (.reg [
mv 59 8,
rq 60 (.un .not (.t 59)),
mv 61 60,
fg 62 61 false 1 6,
rqg 63 61 false (.load true 5 (.t 62)),
rqg 64 61 false (.load true 5 (.t 7)),
rqg 65 61 false (.call .pur 61 [(.t 63), (.t 64)]),
rqg 66 61 false (.un .not (.t 65)),
po 67 61 66]
  (.cond (.t 67)
  (.reg [
rq 4 (.move (.c (.bool false)))]
  .ret)
  .skip)))))
  ⟨4, [3, 46, 47, 48], []⟩)
def k_zc9_4 : KC := (.lreg [
bc 68 .add 48 1,
mv 48 68])
def k_zc9_5 : KC := (.reg [
rq 4 (.move (.c (.bool true)))]
  .ret)
def r_zc9 : KF where
  np := 2
  res := [.tmp 4]
  code := [k_zc9_0, k_zc9_1, k_zc9_2, k_zc9_3, k_zc9_4, k_zc9_5]
def k_zcq_0 : KC := (.reg [
rq 2 (.ibox (.t 0)),
rq 3 (.ibox (.t 1)),
rq 4 (.move (.c (.bool false)))]
  (.reg [
lo 5 5 2,
rq 6 (.call .pur 17 [(.t 5)]),
mv 7 6,
rqg 8 7 true (.load true 5 (.t 3)),
rqg 9 7 true (.call .pur 17 [(.t 8)]),
pa 10 7 9,
mv 11 10,
rqg 12 11 true (.load true 5 (.t 2)),
rqg 13 11 true (.load true 5 (.t 3)),
rqg 14 11 true (.call .pur 61 [(.t 12), (.t 13)]),
pa 15 11 14,
mv 4 15]
  .ret))
def r_zcq : KF where
  np := 2
  res := [.tmp 4]
  code := [k_zcq_0]
def k_zdg_0 : KC := (.reg [
rq 2 (.ibox (.t 0)),
rq 3 (.ibox (.t 1)),
rq 4 (.move (.c (.bool false)))]
  (.reg [
rq 5 (.move (.f 72))]
  (.reg [
fa 6 0 2,
ld 7 1 6,
fa 8 0 3,
ld 9 1 8,
bb 10 .eql 7 9,
mv 11 10,
fg 12 11 true 1 2,
lg 13 11 true 1 12,
fg 14 11 true 1 3,
lg 15 11 true 1 14,
rqg 16 11 true (.bin .eql (.t 13) (.t 15)),
pa 17 11 16,
mv 18 17,
fg 19 18 true 2 2,
lg 20 18 true 1 19,
fg 21 18 true 2 3,
lg 22 18 true 1 21,
rqg 23 18 true (.bin .eql (.t 20) (.t 22)),
pa 24 18 23,
mv 25 24,
fg 26 25 true 3 2,
lg 27 25 true 1 26,
fg 28 25 true 3 3,
lg 29 25 true 1 28,
rqg 30 25 true (.call .pur 73 [(.t 27), (.t 29), (.f 60)]),
pa 31 25 30,
mv 32 31,
fg 33 32 true 4 2,
lg 34 32 true 1 33,
fg 35 32 true 4 3,
lg 36 32 true 1 35,
mg 37 32 true 5,
rqg 38 32 true (.call .pur 74 [(.t 34), (.t 36), (.t 37)]),
pa 39 32 38,
mv 4 39]
  .ret)))
def r_zdg : KF where
  np := 2
  res := [.tmp 4]
  code := [k_zdg_0]
def k_zb3_0 : KC := (.reg [
rq 6 (.move (.c (.bool false)))]
  (.seq (.reg [
mv 10 0,
rq 11 (.len .sl (.t 10)),
mv 12 1,
rq 13 (.len .sl (.t 12)),
bb 14 .neq 11 13]
  (.cond (.t 14)
  (.reg [
rq 6 (.move (.c (.bool false)))]
  .ret)
  .skip))
  ⟨1, [0, 1, 2], []⟩))
def k_zb3_1 : KC := (.seq (.reg [
mv 15 0,
rq 16 (.len .sl (.t 15)),
rq 17 (.move (.c (.int .i64 0)))]
  (.block 0 (.loop ⟨2, [1, 2, 15, 16, 17], []⟩)))
  ⟨5, [], []⟩)
def k_zb3_2 : KC := (.reg [
bb 18 .lss 17 16]
  (.seq (.cond (.t 18)
  .skip
  (.exit 0))
  ⟨3, [1, 2, 15, 16, 17], []⟩))
def k_zb3_3 : KC := (.seq (.block 1 (.reg [
mv 19 17,
rq 20 (.iaddr 6 (.t 15) (.t 17)),
lo 21 6 20,
rq 8 (.alloc [(.str []), (.int .i64 0), (.int .i64 0), (.str []), (.sl []), (.sl [])]),
mv 7 19,
st 6 8 21]
  (.reg [
mv 22 1,
mv 23 7,
rq 24 (.iaddr 6 (.t 22) (.t 23)),
lo 25 6 24,
rq 9 (.alloc [(.str []), (.int .i64 0), (.int .i64 0), (.str []), (.sl []), (.sl [])]),
st 6 9 25]
  (.reg [
mv 26 2,
lo 27 6 8,
lo 28 6 9,
rq 29 (.callv .pur (.t 26) [(.t 27), (.t 28)]),
rq 30 (.un .not (.t 29))]
  (.cond (.t 30)
  (.reg [
rq 6 (.move (.c (.bool false)))]
  .ret)
  .skip)))))
  ⟨4, [1, 2, 15, 16, 17], []⟩)
def k_zb3_4 : KC := (.lreg [
bc 31 .add 17 1,
mv 17 31])
def k_zb3_5 : KC := (.reg [
rq 6 (.move (.c (.bool true)))]
  .ret)
def r_zb3 : KF where
  np := 3
  res := [.tmp 6]
  code := [k_zb3_0, k_zb3_1, k_zb3_2, k_zb3_3, k_zb3_4, k_zb3_5]
def k_zdh_0 : KC := (.reg [
rq 2 (.ibox (.t 0)),
rq 3 (.ibox (.t 1)),
rq 4 (.move (.c (.bool false)))]
  (.reg [
fa 5 0 2,
ld 6 1 5,
fa 7 0 3,
ld 8 1 7,
bb 9 .eql 6 8,
mv 10 9,
fg 11 10 true 1 2,
rqg 12 10 true (.load true 5 (.t 11)),
fg 13 10 true 1 3,
rqg 14 10 true (.load true 5 (.t 13)),
rqg 15 10 true (.call .pur 60 [(.t 12), (.t 14)]),
pa 16 10 15,
mv 4 16]
  .ret))
def r_zdh : KF where
  np := 2
  res := [.tmp 4]
  code := [k_zdh_0]
def k_zc6_0 : KC := (.reg [
rq 2 (.ibox (.t 0)),
rq 3 (.ibox (.t 1)),
rq 4 (.move (.c (.bool false)))]
  (.reg [
lo 5 5 2,
rq 6 (.call .pur 17 [(.t 5)]),
mv 7 6,
rqg 8 7 true (.load true 5 (.t 3)),
rqg 9 7 true (.call .pur 17 [(.t 8)]),
pa 10 7 9,
mv 11 10,
rqg 12 11 true (.load true 5 (.t 2)),
rqg 13 11 true (.load true 5 (.t 3)),
rqg 14 11 true (.call .pur 60 [(.t 12), (.t 13)]),
pa 15 11 14,
mv 4 15]
  .ret))
def r_zc6 : KF where
  np := 2
  res := [.tmp 4]
  code := [k_zc6_0]
def k_zb_0 : KC := (.reg [
rq 2 (.ibox (.t 0)),
rq 4 (.move (.c (.bool false)))]
  (.seq (.reg [
rq 9 (.call .pur 12 []),
rq 10 (.un .not (.t 9)),
mv 11 10,
rqg 12 11 false (.load true 5 (.t 2)),
rqg 13 11 false (.call .pur 13 [(.t 12), (.c (.int .i64 60))]),
rqg 14 11 false (.un .not (.t 13)),
po 15 11 14,
mv 16 15,
mg 17 16 false 1,
rqg 18 16 false (.call .pur 40 [(.t 17)]),
rqg 19 16 false (.un .not (.t 18)),
po 20 16 19]
  (.cond (.t 20)
  (.reg [
rq 21 (.call .pur 12 []),
mv 4 21]
  .ret)
  .skip))
  ⟨1, [1, 2], []⟩))
def k_zb_1 : KC := (.reg [
lo 23 5 2,
mv 24 1,
rq 25 (.call .pur 38 [(.t 23), (.t 24)]),
mv 22 25,
rq 26 (.extract (.t 22) 0),
rq 27 (.extract (.t 22) 1),
rq 5 (.alloc [(.int .i64 0), (.int .i64 0), (.str []), (.sl []), (.sl [])]),
st 5 5 26,
mv 6 27]
  (.seq (.reg [
fa 28 0 2,
ld 29 1 28,
bc 30 .neq 29 5,
mv 31 30,
rqg 32 31 false (.load true 5 (.t 2)),
rqg 33 31 false (.call .pur 14 [(.t 32)]),
rqg 34 31 false (.un .not (.t 33)),
po 35 31 34]
  (.cond (.t 35)
  (.reg [
mv 36 6,
bc 37 .eql 36 1,
mv 38 37,
rqg 39 38 true (.load true 5 (.t 5)),
rqg 40 38 true (.call .pur 20 [(.t 39)]),
pa 41 38 40,
mv 4 41]
  .ret)
  .skip))
  ⟨2, [1, 2, 5, 6], [[5]]⟩))
def k_zb_2 : KC := (.seq (.reg [
mv 42 1,
rq 43 (.call .pur 41 [(.t 42)])]
  (.cond (.t 43)
  (.reg [
mv 44 6,
bc 45 .eql 44 7,
mv 46 45,
rqg 47 46 true (.load true 5 (.t 5)),
rqg 48 46 true (.call .pur 20 [(.t 47)]),
pa 49 46 48,
mv 4 49]
  .ret)
  .skip))
  ⟨3, [1, 2, 5, 6], [[5]]⟩)
def k_zb_3 : KC := (.reg [
lo 51 5 5,
mv 52 1,
rq 53 (.call .pur 38 [(.t 51), (.t 52)]),
mv 50 53,
rq 54 (.extract (.t 50) 0),
rq 55 (.extract (.t 50) 1),
rq 7 (.alloc [(.int .i64 0), (.int .i64 0), (.str []), (.sl []), (.sl [])]),
st 5 7 54,
mv 8 55]
  (.dreg [
mv 56 6,
bc 57 .eql 56 0,
mv 58 57,
mg 59 58 true 8,
bg 60 58 true .eql 59 0,
pa 61 58 60,
mv 62 61,
rqg 63 62 true (.load true 5 (.t 5)),
rqg 64 62 true (.load true 5 (.t 2)),
mg 65 62 true 1,
rqg 66 62 true (.call .pur 42 [(.t 64), (.t 65)]),
rqg 67 62 true (.call .pur 19 [(.t 63), (.t 66)]),
pa 68 62 67,
mv 69 68,
rqg 70 69 true (.load true 5 (.t 2)),
rqg 71 69 true (.load true 5 (.t 5)),
rqg 72 69 true (.call .pur 27 [(.t 70), (.t 71)]),
pa 73 69 72,
mv 74 73,
rqg 75 74 true (.load true 5 (.t 5)),
rqg 76 74 true (.load true 5 (.t 7)),
rqg 77 74 true (.call .pur 26 [(.t 75), (.t 76)]),
pa 78 74 77,
mv 4 78] []
  .ret))
def r_zb : KF where
  np := 2
  res := [.tmp 4]
  code := [k_zb_0, k_zb_1, k_zb_2, k_zb_3]
def table : FuncId → Option KF
  | 11 => some r_zb
  | 12 => some r_zg
  | 13 => some r_zv
  | 14 => some r_zx
  | 17 => some r_zcz
  | 18 => some r_zcs
  | 19 => some r_zy
  | 20 => some r_zk
  | 22 => some r_zs
  | 24 => some r_zq
  | 26 => some r_zc6
  | 27 => some r_zcq
  | 38 => some r_zcu
  | 40 => some r_zh
  | 41 => some r_zj
  | 42 => some r_zw
  | 43 => some r_z1
  | 44 => some r_z2
  | 45 => some r_zda
  | 46 => some r_zc0
  | 47 => some r_zdi
  | 48 => some r_zcp
  | 49 => some r_zb1
  | 50 => some r_zc1
  | 51 => some r_zde
  | 52 => some r_zbz
  | 53 => some r_zc3
  | 54 => some r_zdc
  | 55 => some r_zdd
  | 56 => some r_zdf
  | 57 => some r_zb8
  | 59 => some r_zp
  | 60 => some r_zdg
  | 61 => some r_zc9
  | 66 => some r_zcv
  | 67 => some r_zcc
  | 68 => some r_zcx
  | 69 => some r_zco
  | 70 => some r_zca
  | 71 => some r_zr
  | 72 => some r_zdh
  | 73 => some r_zb5
  | 74 => some r_zb3
  | 75 => some r_zci
  | 76 => some { code := [], res := [], np := 1, ext := some (.pure ext_zdj) }
  | 77 => some r_zce
  | 78 => some r_zcm
  | 80 => some r_zcg
  | 81 => some r_zck
  | _ => none
end Go.Abs.T
