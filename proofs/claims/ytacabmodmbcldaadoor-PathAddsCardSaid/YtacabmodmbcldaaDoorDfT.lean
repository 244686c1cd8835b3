import Derived.Test.YtacabmodmbcldaaDoorIrT
set_option linter.unusedVariables false
namespace Go.Abs.T
set_option maxRecDepth 100000
mutual
inductive S2_ where
  | mk (kind : Int) (n : Int) (s : Str) (l : (List S2_)) (f : (List S0_))
inductive S0_ where
  | mk (key : Str) (v : S2_)
end
structure S1_ where
  key : Str
  f_at : Int
  index : Bool
  deriving Inhabited
abbrev Ls0 := List S2_
abbrev Ls1 := List S0_
abbrev Ls2 := List S1_
abbrev Kl := List Nat
section
variable (xat : AtF) (xpcall : FuncId → List V → Stk → Option V) (xfcall : FuncId → List V → Stk → Option (V × Stk)) (xkcall : FuncId → List (List Nat) → List V → Stk → Option (V × Level × Stk)) (xmap : {α : Type} → (α → D) → List α → List D) (xlen : List D → Nat) (xmapE : {α : Type} → (α → D) → List (Str × Nat × α) → List (D × Nat × V)) (xsetO : Stk → Lab → O → Stk) (e_e4 : S1_ → D) (e_e5 : S2_ → D) (e_e1 : S0_ → D) (e_e8 : Int → D) (e_e0 : Ls0 → D)
abbrev T_zcs_0 : Type := Int
abbrev R_zcs : Type := S1_
def A_zcs_0 (m : Nat) : T_zcs_0 → Stk → Rk'
 | v0, stk => xat 29 .frz 0 [] ⟨[(0, (.d (.int .i64 v0)))], ⟨m, []⟩ :: stk⟩
def O_zcs (m : Nat) : R_zcs → Stk → Rk'
 | ⟨r0_0, r0_1, r0_2⟩, stk => some (.ret (.d (.agg [(.str r0_0), (.int .i64 r0_1), (.bool r0_2)])), stk)
abbrev H_zcs_0 (m : Nat) (l : T_zcs_0 → Option R_zcs) : Prop := Hd l (A_zcs_0 xat m ) (O_zcs m )
abbrev Y_zfl : Type := Str → Option (Int × Int)
def C_zfl (c_zfl : Str → Option (Int × Int)) : Prop := ∀ {v0 : Str} {r0 r1 : Int}, c_zfl v0 = some (r0, r1) → ∀ (stk : Stk) , xpcall 136 [(.d (.str v0))] stk = some (.d (.tup [(.int .i32 r0), (.int .i64 r1)])) ∧ xfcall 136 [(.d (.str v0))] stk = some (.d (.tup [(.int .i32 r0), (.int .i64 r1)]), stk)
abbrev T_ze3_1 : Type := Str × Str × Nat
abbrev R_ze3 : Type := Int
abbrev T_ze3_0 : Type := Str
def A_ze3_1 (m : Nat) : T_ze3_1 → Stk → Rk'
 | (v0, o8_s, o8_p), stk => xat 124 .frz 1 [.lp ⟨1, [0, 8], [[8]]⟩, .blk 0, .sub ⟨4, [], []⟩] ⟨[(0, (.d (.str v0))), (8, (.ref ⟨m, [8]⟩ 0))], ⟨m, [([8], (.siter o8_s o8_p))]⟩ :: stk⟩
def O_ze3 (m : Nat) : R_ze3 → Stk → Rk'
 | r0, stk => some (.ret (.d (.int .i64 r0)), stk)
abbrev H_ze3_1 (m : Nat) (l : T_ze3_1 → Option R_ze3) : Prop := Hd l (A_ze3_1 xat m ) (O_ze3 m )
def A_ze3_0 (m : Nat) : T_ze3_0 → Stk → Rk'
 | v0, stk => xat 124 .frz 0 [] ⟨[(0, (.d (.str v0)))], ⟨m, []⟩ :: stk⟩
abbrev H_ze3_0 (m : Nat) (l : T_ze3_0 → Option R_ze3) : Prop := Hd l (A_ze3_0 xat m ) (O_ze3 m )
abbrev Y_ze3 : Type := Str → Option (Int)
def C_ze3 (c_ze3 : Str → Option (Int)) : Prop := ∀ {v0 : Str} {r0 : Int}, c_ze3 v0 = some r0 → ∀ (stk : Stk) , xpcall 124 [(.d (.str v0))] stk = some (.d (.int .i64 r0)) ∧ xfcall 124 [(.d (.str v0))] stk = some (.d (.int .i64 r0), stk)
abbrev T_ze5_0 : Type := Str
abbrev R_ze5 : Type := Bool
def A_ze5_0 (m : Nat) : T_ze5_0 → Stk → Rk'
 | v0, stk => xat 93 .frz 0 [] ⟨[(0, (.d (.str v0)))], ⟨m, []⟩ :: stk⟩
def O_ze5 (m : Nat) : R_ze5 → Stk → Rk'
 | r0, stk => some (.ret (.d (.bool r0)), stk)
abbrev H_ze5_0 (m : Nat) (l : T_ze5_0 → Option R_ze5) : Prop := Hd l (A_ze5_0 xat m ) (O_ze5 m )
abbrev Y_ze5 : Type := Str → Option (Bool)
def C_ze5 (c_ze5 : Str → Option (Bool)) : Prop := ∀ {v0 : Str} {r0 : Bool}, c_ze5 v0 = some r0 → ∀ (stk : Stk) , xpcall 93 [(.d (.str v0))] stk = some (.d (.bool r0)) ∧ xfcall 93 [(.d (.str v0))] stk = some (.d (.bool r0), stk)
abbrev T_zc8_0 : Type := Str × Int × Bool
abbrev R_zc8 : Type := Bool
def A_zc8_0 (m : Nat) : T_zc8_0 → Stk → Rk'
 | (v0_0, v0_1, v0_2), stk => xat 52 .frz 0 [] ⟨[(0, (.d (.agg [(.str v0_0), (.int .i64 v0_1), (.bool v0_2)])))], ⟨m, []⟩ :: stk⟩
def O_zc8 (m : Nat) : R_zc8 → Stk → Rk'
 | r0, stk => some (.ret (.d (.bool r0)), stk)
abbrev H_zc8_0 (m : Nat) (l : T_zc8_0 → Option R_zc8) : Prop := Hd l (A_zc8_0 xat m ) (O_zc8 m )
abbrev Y_zc8 : Type := S1_ → Option (Bool)
def C_zc8 (c_zc8 : S1_ → Option (Bool)) : Prop := ∀ {v0_0 : Str} {v0_1 : Int} {v0_2 r0 : Bool}, c_zc8 ⟨v0_0, v0_1, v0_2⟩ = some r0 → ∀ (stk : Stk) , xpcall 52 [(.d (.agg [(.str v0_0), (.int .i64 v0_1), (.bool v0_2)]))] stk = some (.d (.bool r0)) ∧ xfcall 52 [(.d (.agg [(.str v0_0), (.int .i64 v0_1), (.bool v0_2)]))] stk = some (.d (.bool r0), stk)
abbrev T_zcw_0 : Type := Str × Int × Bool
abbrev R_zcw : Type := Bool
def A_zcw_0 (m : Nat) : T_zcw_0 → Stk → Rk'
 | (v0_0, v0_1, v0_2), stk => xat 51 .frz 0 [] ⟨[(0, (.d (.agg [(.str v0_0), (.int .i64 v0_1), (.bool v0_2)])))], ⟨m, []⟩ :: stk⟩
def O_zcw (m : Nat) : R_zcw → Stk → Rk'
 | r0, stk => some (.ret (.d (.bool r0)), stk)
abbrev H_zcw_0 (m : Nat) (l : T_zcw_0 → Option R_zcw) : Prop := Hd l (A_zcw_0 xat m ) (O_zcw m )
abbrev Y_zcw : Type := S1_ → Option (Bool)
def C_zcw (c_zcw : S1_ → Option (Bool)) : Prop := ∀ {v0_0 : Str} {v0_1 : Int} {v0_2 r0 : Bool}, c_zcw ⟨v0_0, v0_1, v0_2⟩ = some r0 → ∀ (stk : Stk) , xpcall 51 [(.d (.agg [(.str v0_0), (.int .i64 v0_1), (.bool v0_2)]))] stk = some (.d (.bool r0)) ∧ xfcall 51 [(.d (.agg [(.str v0_0), (.int .i64 v0_1), (.bool v0_2)]))] stk = some (.d (.bool r0), stk)
abbrev T_zd6_1 : Type := Ls2 × Int × Int
abbrev R_zd6 : Type := Int
abbrev T_zd6_0 : Type := Ls2
def A_zd6_1 (m : Nat) : T_zd6_1 → Stk → Rk'
 | (v0, v7, v8), stk => xat 92 .frz 1 [.lp ⟨1, [0, 1, 7, 8], []⟩, .blk 0, .sub ⟨4, [], []⟩] ⟨[(0, (.d (.sl (xmap e_e4 v0)))), (1, (.d (.func (.func F.zcw) [] []))), (7, (.d (.int .i64 v7))), (8, (.d (.int .i64 v8)))], ⟨m, []⟩ :: stk⟩
def O_zd6 (m : Nat) : R_zd6 → Stk → Rk'
 | r0, stk => some (.ret (.d (.int .i64 r0)), stk)
abbrev H_zd6_1 (m : Nat) (l : T_zd6_1 → Option R_zd6) : Prop := Hd l (A_zd6_1 xat @xmap e_e4 m ) (O_zd6 m )
def A_zd6_0 (m : Nat) : T_zd6_0 → Stk → Rk'
 | v0, stk => xat 92 .frz 0 [] ⟨[(0, (.d (.sl (xmap e_e4 v0)))), (1, (.d (.func (.func F.zcw) [] [])))], ⟨m, []⟩ :: stk⟩
abbrev H_zd6_0 (m : Nat) (l : T_zd6_0 → Option R_zd6) : Prop := Hd l (A_zd6_0 xat @xmap e_e4 m ) (O_zd6 m )
abbrev Y_zd6 : Type := Ls2 → Option (Int)
def C_zd6 (c_zd6 : Ls2 → Option (Int)) : Prop := ∀ {v0 : Ls2} {r0 : Int}, c_zd6 v0 = some r0 → ∀ (stk : Stk) , xpcall 92 [(.d (.sl (xmap e_e4 v0))), (.d (.func (.func F.zcw) [] []))] stk = some (.d (.int .i64 r0)) ∧ xfcall 92 [(.d (.sl (xmap e_e4 v0))), (.d (.func (.func F.zcw) [] []))] stk = some (.d (.int .i64 r0), stk)
abbrev T_zdv_0 : Type := Ls2
abbrev R_zdv : Type := Bool
def A_zdv_0 (m : Nat) : T_zdv_0 → Stk → Rk'
 | v0, stk => xat 50 .frz 0 [] ⟨[(0, (.d (.sl (xmap e_e4 v0)))), (1, (.d (.func (.func F.zcw) [] [])))], ⟨m, []⟩ :: stk⟩
def O_zdv (m : Nat) : R_zdv → Stk → Rk'
 | r0, stk => some (.ret (.d (.bool r0)), stk)
abbrev H_zdv_0 (m : Nat) (l : T_zdv_0 → Option R_zdv) : Prop := Hd l (A_zdv_0 xat @xmap e_e4 m ) (O_zdv m )
abbrev Y_zdv : Type := Ls2 → Option (Bool)
def C_zdv (c_zdv : Ls2 → Option (Bool)) : Prop := ∀ {v0 : Ls2} {r0 : Bool}, c_zdv v0 = some r0 → ∀ (stk : Stk) , xpcall 50 [(.d (.sl (xmap e_e4 v0))), (.d (.func (.func F.zcw) [] []))] stk = some (.d (.bool r0)) ∧ xfcall 50 [(.d (.sl (xmap e_e4 v0))), (.d (.func (.func F.zcw) [] []))] stk = some (.d (.bool r0), stk)
abbrev T_zcv_0 : Type := Ls2
abbrev R_zcv : Type := Bool
def A_zcv_0 (m : Nat) : T_zcv_0 → Stk → Rk'
 | v0, stk => xat 19 .frz 0 [] ⟨[(0, (.d (.sl (xmap e_e4 v0))))], ⟨m, []⟩ :: stk⟩
def O_zcv (m : Nat) : R_zcv → Stk → Rk'
 | r0, stk => some (.ret (.d (.bool r0)), stk)
abbrev H_zcv_0 (m : Nat) (l : T_zcv_0 → Option R_zcv) : Prop := Hd l (A_zcv_0 xat @xmap e_e4 m ) (O_zcv m )
abbrev Y_zcv : Type := Ls2 → Option (Bool)
def C_zcv (c_zcv : Ls2 → Option (Bool)) : Prop := ∀ {v0 : Ls2} {r0 : Bool}, c_zcv v0 = some r0 → ∀ (stk : Stk) , xpcall 19 [(.d (.sl (xmap e_e4 v0)))] stk = some (.d (.bool r0)) ∧ xfcall 19 [(.d (.sl (xmap e_e4 v0)))] stk = some (.d (.bool r0), stk)
abbrev T_zcz_2 : Type := Ls2 × Int × Int × Int × Int × Str × Ls0 × Ls1 × Int × Int × Str × Nat × Ls0 × Ls1
abbrev R_zcz : Type := S2_ × Int
abbrev T_zcz_0 : Type := Ls2
def A_zcz_2 (m : Nat) : T_zcz_2 → Stk → Rk'
 | (v12, v13, v14, o2_0, o2_1, o2_2, o2_3, o2_4, o4_0, o4_1, o4_2, o4_3_g, o4_3, o4_4), stk => xat 18 .frz 2 [.lp ⟨2, [2, 4, 12, 13, 14], [[2], [4], [4, 3]]⟩, .blk 0, .sub ⟨5, [2, 4], [[2], [4], [4, 3]]⟩] ⟨[(2, (.ref ⟨m, [2]⟩ 0)), (4, (.ref ⟨m, [4]⟩ 0)), (12, (.d (.sl (xmap e_e4 v12)))), (13, (.d (.int .i64 v13))), (14, (.d (.int .i64 v14)))], ⟨m, [([2], (.cells [(.d (.int .i64 o2_0)), (.d (.int .i64 o2_1)), (.d (.str o2_2)), (.d (.sl (xmap e_e5 o2_3))), (.d (.sl (xmap e_e1 o2_4)))])), ([4], (.cells [(.d (.int .i64 o4_0)), (.d (.int .i64 o4_1)), (.d (.str o4_2)), (.msl ⟨m, [4, 3]⟩ o4_3_g 0 (xlen (xmap e_e5 o4_3))), (.d (.sl (xmap e_e1 o4_4)))])), ([4, 3], (.arr o4_3_g 5 (xmap e_e5 o4_3)))]⟩ :: stk⟩
def O_zcz (m : Nat) : R_zcz → Stk → Rk'
 | (⟨r0_0, r0_1, r0_2, r0_3, r0_4⟩, r1), stk => some (.ret (.d (.tup [(.agg [(.int .i64 r0_0), (.int .i64 r0_1), (.str r0_2), (.sl (xmap e_e5 r0_3)), (.sl (xmap e_e1 r0_4))]), (.int .i64 r1)])), stk)
abbrev H_zcz_2 (m : Nat) (l : T_zcz_2 → Option R_zcz) : Prop := Hd l (A_zcz_2 xat @xmap xlen e_e4 e_e5 e_e1 m ) (O_zcz @xmap e_e5 e_e1 m )
def A_zcz_0 (m : Nat) : T_zcz_0 → Stk → Rk'
 | v0, stk => xat 18 .frz 0 [] ⟨[(0, (.d (.sl (xmap e_e4 v0))))], ⟨m, []⟩ :: stk⟩
abbrev H_zcz_0 (m : Nat) (l : T_zcz_0 → Option R_zcz) : Prop := Hd l (A_zcz_0 xat @xmap e_e4 m ) (O_zcz @xmap e_e5 e_e1 m )
abbrev T_zcz_4 : Type := Ls2 × Int × Int × Int × Int × Str × Ls0 × Ls1 × Int × Int × Str × Nat × Ls0 × Ls1
def A_zcz_4 (m : Nat) : T_zcz_4 → Stk → Rk'
 | (v12, v13, v14, o2_0, o2_1, o2_2, o2_3, o2_4, o4_0, o4_1, o4_2, o4_3_g, o4_3, o4_4), stk => xat 18 .frz 4 [.lp ⟨2, [2, 4, 12, 13, 14], [[2], [4], [4, 3]]⟩, .blk 0, .sub ⟨5, [2, 4], [[2], [4], [4, 3]]⟩] ⟨[(2, (.ref ⟨m, [2]⟩ 0)), (4, (.ref ⟨m, [4]⟩ 0)), (12, (.d (.sl (xmap e_e4 v12)))), (13, (.d (.int .i64 v13))), (14, (.d (.int .i64 v14)))], ⟨m, [([2], (.cells [(.d (.int .i64 o2_0)), (.d (.int .i64 o2_1)), (.d (.str o2_2)), (.d (.sl (xmap e_e5 o2_3))), (.d (.sl (xmap e_e1 o2_4)))])), ([4], (.cells [(.d (.int .i64 o4_0)), (.d (.int .i64 o4_1)), (.d (.str o4_2)), (.msl ⟨m, [4, 3]⟩ o4_3_g 0 (xlen (xmap e_e5 o4_3))), (.d (.sl (xmap e_e1 o4_4)))])), ([4, 3], (.arr o4_3_g 5 (xmap e_e5 o4_3)))]⟩ :: stk⟩
abbrev H_zcz_4 (m : Nat) (l : T_zcz_4 → Option (T_zcz_2 ⊕ R_zcz)) : Prop := Hd l (A_zcz_4 xat @xmap xlen e_e4 e_e5 e_e1 m ) (el (A_zcz_2 xat @xmap xlen e_e4 e_e5 e_e1 m ) (O_zcz @xmap e_e5 e_e1 m ))
abbrev Y_zcs : Type := Int → Option (S1_)
abbrev Y_zcz : Type := Ls2 → Option (S2_ × Int)
def C_zcs (c_zcs : Int → Option (S1_)) : Prop := ∀ {v0 : Int} {r0_0 : Str} {r0_1 : Int} {r0_2 : Bool}, c_zcs v0 = some ⟨r0_0, r0_1, r0_2⟩ → ∀ (stk : Stk) , xpcall 29 [(.d (.int .i64 v0))] stk = some (.d (.agg [(.str r0_0), (.int .i64 r0_1), (.bool r0_2)])) ∧ xfcall 29 [(.d (.int .i64 v0))] stk = some (.d (.agg [(.str r0_0), (.int .i64 r0_1), (.bool r0_2)]), stk)
def C_zcz (c_zcz : Ls2 → Option (S2_ × Int)) : Prop := ∀ {v0 : Ls2} {r0_0 r0_1 : Int} {r0_2 : Str} {r0_3 : Ls0} {r0_4 : Ls1} {r1 : Int}, c_zcz v0 = some (⟨r0_0, r0_1, r0_2, r0_3, r0_4⟩, r1) → ∀ (stk : Stk) , xpcall 18 [(.d (.sl (xmap e_e4 v0)))] stk = some (.d (.tup [(.agg [(.int .i64 r0_0), (.int .i64 r0_1), (.str r0_2), (.sl (xmap e_e5 r0_3)), (.sl (xmap e_e1 r0_4))]), (.int .i64 r1)])) ∧ xfcall 18 [(.d (.sl (xmap e_e4 v0)))] stk = some (.d (.tup [(.agg [(.int .i64 r0_0), (.int .i64 r0_1), (.str r0_2), (.sl (xmap e_e5 r0_3)), (.sl (xmap e_e1 r0_4))]), (.int .i64 r1)]), stk)
abbrev T_zo_0 : Type := Unit
abbrev R_zo : Type := Bool
def A_zo_0 (m : Nat) : T_zo_0 → Stk → Rk'
 | (), stk => xat 15 .frz 0 [] ⟨[], ⟨m, []⟩ :: stk⟩
def O_zo (m : Nat) : R_zo → Stk → Rk'
 | r0, stk => some (.ret (.d (.bool r0)), stk)
abbrev H_zo_0 (m : Nat) (l : T_zo_0 → Option R_zo) : Prop := Hd l (A_zo_0 xat m ) (O_zo m )
abbrev Y_z4 : Type := S2_ → Int → Option (Int)
def C_z4 (c_z4 : S2_ → Int → Option (Int)) : Prop := ∀ {v0_0 v0_1 : Int} {v0_2 : Str} {v0_3 : Ls0} {v0_4 : Ls1} {v1 r0 : Int}, c_z4 ⟨v0_0, v0_1, v0_2, v0_3, v0_4⟩ v1 = some r0 → ∀ (stk : Stk) , xpcall 54 [(.d (.agg [(.int .i64 v0_0), (.int .i64 v0_1), (.str v0_2), (.sl (xmap e_e5 v0_3)), (.sl (xmap e_e1 v0_4))])), (.d (.int .i64 v1))] stk = some (.d (.int .i64 r0)) ∧ xfcall 54 [(.d (.agg [(.int .i64 v0_0), (.int .i64 v0_1), (.str v0_2), (.sl (xmap e_e5 v0_3)), (.sl (xmap e_e1 v0_4))])), (.d (.int .i64 v1))] stk = some (.d (.int .i64 r0), stk)
abbrev T_z4_2 : Type := Int × Int × Int × Str × Ls0 × Ls1 × Int
abbrev R_z4 : Type := Int
abbrev T_z4_0 : Type := Int × Int × Str × Ls0 × Ls1 × Int
def A_z4_2 (m : Nat) : T_z4_2 → Stk → Rk'
 | (v1, v2_0, v2_1, v2_2, v2_3, v2_4, v5), stk => xat 54 .frz 2 [.lp ⟨2, [1, 2, 5], []⟩, .blk 0, .sub ⟨5, [1, 2], []⟩] ⟨[(1, (.d (.int .i64 v1))), (2, (.d (.iptr [(.int .i64 v2_0), (.int .i64 v2_1), (.str v2_2), (.sl (xmap e_e5 v2_3)), (.sl (xmap e_e1 v2_4))]))), (5, (.d (.int .i64 v5)))], ⟨m, []⟩ :: stk⟩
def O_z4 (m : Nat) : R_z4 → Stk → Rk'
 | r0, stk => some (.ret (.d (.int .i64 r0)), stk)
abbrev H_z4_2 (m : Nat) (l : T_z4_2 → Option R_z4) : Prop := Hd l (A_z4_2 xat @xmap e_e5 e_e1 m ) (O_z4 m )
def A_z4_0 (m : Nat) : T_z4_0 → Stk → Rk'
 | (v0_0, v0_1, v0_2, v0_3, v0_4, v1), stk => xat 54 .frz 0 [] ⟨[(0, (.d (.agg [(.int .i64 v0_0), (.int .i64 v0_1), (.str v0_2), (.sl (xmap e_e5 v0_3)), (.sl (xmap e_e1 v0_4))]))), (1, (.d (.int .i64 v1)))], ⟨m, []⟩ :: stk⟩
abbrev H_z4_0 (m : Nat) (l : T_z4_0 → Option R_z4) : Prop := Hd l (A_z4_0 xat @xmap e_e5 e_e1 m ) (O_z4 m )
abbrev T_z4_5 : Type := Int × Int × Int × Str × Ls0 × Ls1
def A_z4_5 (m : Nat) : T_z4_5 → Stk → Rk'
 | (v1, v2_0, v2_1, v2_2, v2_3, v2_4), stk => xat 54 .frz 5 [] ⟨[(1, (.d (.int .i64 v1))), (2, (.d (.iptr [(.int .i64 v2_0), (.int .i64 v2_1), (.str v2_2), (.sl (xmap e_e5 v2_3)), (.sl (xmap e_e1 v2_4))])))], ⟨m, []⟩ :: stk⟩
abbrev H_z4_5 (m : Nat) (l : T_z4_5 → Option R_z4) : Prop := Hd l (A_z4_5 xat @xmap e_e5 e_e1 m ) (O_z4 m )
abbrev T_z4_6 : Type := Int × Int × Int × Str × Ls0 × Ls1 × Int
def A_z4_6 (m : Nat) : T_z4_6 → Stk → Rk'
 | (v1, v2_0, v2_1, v2_2, v2_3, v2_4, v6), stk => xat 54 .frz 6 [.lp ⟨6, [1, 2, 6], []⟩, .blk 2, .sub ⟨10, [1], []⟩] ⟨[(1, (.d (.int .i64 v1))), (2, (.d (.iptr [(.int .i64 v2_0), (.int .i64 v2_1), (.str v2_2), (.sl (xmap e_e5 v2_3)), (.sl (xmap e_e1 v2_4))]))), (6, (.d (.int .i64 v6)))], ⟨m, []⟩ :: stk⟩
abbrev H_z4_6 (m : Nat) (l : T_z4_6 → Option R_z4) : Prop := Hd l (A_z4_6 xat @xmap e_e5 e_e1 m ) (O_z4 m )
abbrev T_z4_10 : Type := Int
def A_z4_10 (m : Nat) : T_z4_10 → Stk → Rk'
 | v1, stk => xat 54 .frz 10 [] ⟨[(1, (.d (.int .i64 v1)))], ⟨m, []⟩ :: stk⟩
abbrev H_z4_10 (m : Nat) (l : T_z4_10 → Option R_z4) : Prop := Hd l (A_z4_10 xat m ) (O_z4 m )
abbrev T_z0_0 : Type := Int × Int × Str × Ls0 × Ls1 × Int
abbrev R_z0 : Type := Bool
def A_z0_0 (m : Nat) : T_z0_0 → Stk → Rk'
 | (v0_0, v0_1, v0_2, v0_3, v0_4, v1), stk => xat 25 .frz 0 [] ⟨[(0, (.d (.agg [(.int .i64 v0_0), (.int .i64 v0_1), (.str v0_2), (.sl (xmap e_e5 v0_3)), (.sl (xmap e_e1 v0_4))]))), (1, (.d (.int .i64 v1)))], ⟨m, []⟩ :: stk⟩
def O_z0 (m : Nat) : R_z0 → Stk → Rk'
 | r0, stk => some (.ret (.d (.bool r0)), stk)
abbrev H_z0_0 (m : Nat) (l : T_z0_0 → Option R_z0) : Prop := Hd l (A_z0_0 xat @xmap e_e5 e_e1 m ) (O_z0 m )
abbrev T_z7_1 : Type := Ls2 × Int
abbrev R_z7 : Type := Bool
abbrev T_z7_0 : Type := Ls2
def A_z7_1 (m : Nat) : T_z7_1 → Stk → Rk'
 | (v0, v3), stk => xat 16 .frz 1 [.lp ⟨1, [0, 3], []⟩, .blk 0, .sub ⟨4, [0], []⟩] ⟨[(0, (.d (.sl (xmap e_e4 v0)))), (3, (.d (.int .i64 v3)))], ⟨m, []⟩ :: stk⟩
def O_z7 (m : Nat) : R_z7 → Stk → Rk'
 | r0, stk => some (.ret (.d (.bool r0)), stk)
abbrev H_z7_1 (m : Nat) (l : T_z7_1 → Option R_z7) : Prop := Hd l (A_z7_1 xat @xmap e_e4 m ) (O_z7 m )
def A_z7_0 (m : Nat) : T_z7_0 → Stk → Rk'
 | v0, stk => xat 16 .frz 0 [] ⟨[(0, (.d (.sl (xmap e_e4 v0))))], ⟨m, []⟩ :: stk⟩
abbrev H_z7_0 (m : Nat) (l : T_z7_0 → Option R_z7) : Prop := Hd l (A_z7_0 xat @xmap e_e4 m ) (O_z7 m )
abbrev T_z7_4 : Type := Ls2
def A_z7_4 (m : Nat) : T_z7_4 → Stk → Rk'
 | v0, stk => xat 16 .frz 4 [] ⟨[(0, (.d (.sl (xmap e_e4 v0))))], ⟨m, []⟩ :: stk⟩
abbrev H_z7_4 (m : Nat) (l : T_z7_4 → Option R_z7) : Prop := Hd l (A_z7_4 xat @xmap e_e4 m ) (O_z7 m )
abbrev T_zfk_0 : Type := Int × Int × Str × Ls0 × Ls1
abbrev R_zfk : Type := Bool
def A_zfk_0 (m : Nat) : T_zfk_0 → Stk → Rk'
 | (v0_0, v0_1, v0_2, v0_3, v0_4), stk => xat 95 .frz 0 [] ⟨[(0, (.d (.agg [(.int .i64 v0_0), (.int .i64 v0_1), (.str v0_2), (.sl (xmap e_e5 v0_3)), (.sl (xmap e_e1 v0_4))])))], ⟨m, []⟩ :: stk⟩
def O_zfk (m : Nat) : R_zfk → Stk → Rk'
 | r0, stk => some (.ret (.d (.bool r0)), stk)
abbrev H_zfk_0 (m : Nat) (l : T_zfk_0 → Option R_zfk) : Prop := Hd l (A_zfk_0 xat @xmap e_e5 e_e1 m ) (O_zfk m )
abbrev T_zfi_1 : Type := Ls1 × Int × Int × Nat × (List (Str × Nat × Int))
abbrev R_zfi : Type := Bool
abbrev T_zfi_0 : Type := Ls1
def A_zfi_1 (m : Nat) : T_zfi_1 → Stk → Rk'
 | (v7, v8, v9, o6_c, o6), stk => xat 97 .frz 1 [.lp ⟨1, [3, 7, 8, 9], [[6]]⟩, .blk 0, .sub ⟨4, [], []⟩] ⟨[(3, (.map ⟨m, [6]⟩)), (7, (.d (.sl (xmap e_e1 v7)))), (8, (.d (.int .i64 v8))), (9, (.d (.int .i64 v9)))], ⟨m, [([6], (.map o6_c (xmapE e_e8 o6)))]⟩ :: stk⟩
def O_zfi (m : Nat) : R_zfi → Stk → Rk'
 | r0, stk => some (.ret (.d (.bool r0)), stk)
abbrev H_zfi_1 (m : Nat) (l : T_zfi_1 → Option R_zfi) : Prop := Hd l (A_zfi_1 xat @xmap @xmapE e_e1 e_e8 m ) (O_zfi m )
def A_zfi_0 (m : Nat) : T_zfi_0 → Stk → Rk'
 | v0, stk => xat 97 .frz 0 [] ⟨[(0, (.d (.sl (xmap e_e1 v0))))], ⟨m, []⟩ :: stk⟩
abbrev H_zfi_0 (m : Nat) (l : T_zfi_0 → Option R_zfi) : Prop := Hd l (A_zfi_0 xat @xmap e_e1 m ) (O_zfi m )
abbrev T_zfi_3 : Type := Ls1 × Int × Int × Nat × (List (Str × Nat × Int))
def A_zfi_3 (m : Nat) : T_zfi_3 → Stk → Rk'
 | (v7, v8, v9, o6_c, o6), stk => xat 97 .frz 3 [.lp ⟨1, [3, 7, 8, 9], [[6]]⟩, .blk 0, .sub ⟨4, [], []⟩] ⟨[(3, (.map ⟨m, [6]⟩)), (7, (.d (.sl (xmap e_e1 v7)))), (8, (.d (.int .i64 v8))), (9, (.d (.int .i64 v9)))], ⟨m, [([6], (.map o6_c (xmapE e_e8 o6)))]⟩ :: stk⟩
abbrev H_zfi_3 (m : Nat) (l : T_zfi_3 → Option (T_zfi_1 ⊕ R_zfi)) : Prop := Hd l (A_zfi_3 xat @xmap @xmapE e_e1 e_e8 m ) (el (A_zfi_1 xat @xmap @xmapE e_e1 e_e8 m ) (O_zfi m ))
abbrev Y_zfg : Type := S2_ → Int → Option (Bool)
def C_zfg (c_zfg : S2_ → Int → Option (Bool)) : Prop := ∀ {v0_0 v0_1 : Int} {v0_2 : Str} {v0_3 : Ls0} {v0_4 : Ls1} {v1 : Int} {r0 : Bool}, c_zfg ⟨v0_0, v0_1, v0_2, v0_3, v0_4⟩ v1 = some r0 → ∀ (stk : Stk) (n0 : Nat) (k0 : Kl), getO stk ⟨n0, k0⟩ = some (.cells [(.clos (.func F.zfb) [] [(.ref ⟨n0, k0⟩ 0)])]) → n0 ≤ topN stk → xpcall 94 [(.d (.agg [(.int .i64 v0_0), (.int .i64 v0_1), (.str v0_2), (.sl (xmap e_e5 v0_3)), (.sl (xmap e_e1 v0_4))])), (.d (.int .i64 v1)), (.ref ⟨n0, k0⟩ 0)] stk = some (.d (.bool r0)) ∧ xfcall 94 [(.d (.agg [(.int .i64 v0_0), (.int .i64 v0_1), (.str v0_2), (.sl (xmap e_e5 v0_3)), (.sl (xmap e_e1 v0_4))])), (.d (.int .i64 v1)), (.ref ⟨n0, k0⟩ 0)] stk = some (.d (.bool r0), stk)
abbrev T_zfd_0 : Type := Int × Int × Str × Ls0 × Ls1 × Int
abbrev R_zfd : Type := Bool
def A_zfd_0 (m : Nat) (n0 : Nat) (k0 : Kl) : T_zfd_0 → Stk → Rk'
 | (v0_0, v0_1, v0_2, v0_3, v0_4, v2_0), stk => xat 96 .frz 0 [] ⟨[(0, (.d (.agg [(.int .i64 v0_0), (.int .i64 v0_1), (.str v0_2), (.sl (xmap e_e5 v0_3)), (.sl (xmap e_e1 v0_4))]))), (1, (.ref ⟨n0, k0⟩ 0)), (2, (.d (.iptr [(.int .i64 v2_0)])))], ⟨m, []⟩ :: stk⟩
def O_zfd (m : Nat) (n0 : Nat) (k0 : Kl) : R_zfd → Stk → Rk'
 | r0, stk => some (.ret (.d (.bool r0)), stk)
def G_zfd (n0 : Nat) (k0 : Kl) (stk : Stk) : Prop := getO stk ⟨n0, k0⟩ = some (.cells [(.clos (.func F.zfb) [] [(.ref ⟨n0, k0⟩ 0)])]) ∧ True
abbrev H_zfd_0 (m : Nat) (n0 : Nat) (k0 : Kl) (l : T_zfd_0 → Option R_zfd) : Prop := HdS (G_zfd n0 k0 ) l (A_zfd_0 xat @xmap e_e5 e_e1 m n0 k0 ) (O_zfd m n0 k0 )
abbrev Y_zfk : Type := S2_ → Option (Bool)
abbrev Y_zdx : Type := Ls0 → Int → Option (Bool)
abbrev Y_zfi : Type := Ls1 → Option (Bool)
abbrev Y_zdt : Type := Ls1 → Int → Option (Bool)
def C_zfk (c_zfk : S2_ → Option (Bool)) : Prop := ∀ {v0_0 v0_1 : Int} {v0_2 : Str} {v0_3 : Ls0} {v0_4 : Ls1} {r0 : Bool}, c_zfk ⟨v0_0, v0_1, v0_2, v0_3, v0_4⟩ = some r0 → ∀ (stk : Stk) , xpcall 95 [(.d (.agg [(.int .i64 v0_0), (.int .i64 v0_1), (.str v0_2), (.sl (xmap e_e5 v0_3)), (.sl (xmap e_e1 v0_4))]))] stk = some (.d (.bool r0)) ∧ xfcall 95 [(.d (.agg [(.int .i64 v0_0), (.int .i64 v0_1), (.str v0_2), (.sl (xmap e_e5 v0_3)), (.sl (xmap e_e1 v0_4))]))] stk = some (.d (.bool r0), stk)
def C_zdx (c_zdx : Ls0 → Int → Option (Bool)) : Prop := ∀ {v0 : Ls0} {v1_c1_0 : Int} {r0 : Bool}, c_zdx v0 v1_c1_0 = some r0 → ∀ (stk : Stk) (n0 : Nat) (k0 : Kl), getO stk ⟨n0, k0⟩ = some (.cells [(.clos (.func F.zfb) [] [(.ref ⟨n0, k0⟩ 0)])]) → n0 ≤ topN stk → xpcall 68 [(.d (.sl (xmap e_e5 v0))), (.clos (.func F.zfc) [] [(.ref ⟨n0, k0⟩ 0), (.d (.iptr [(.int .i64 v1_c1_0)]))])] stk = some (.d (.bool r0)) ∧ xfcall 68 [(.d (.sl (xmap e_e5 v0))), (.clos (.func F.zfc) [] [(.ref ⟨n0, k0⟩ 0), (.d (.iptr [(.int .i64 v1_c1_0)]))])] stk = some (.d (.bool r0), stk)
def C_zfi (c_zfi : Ls1 → Option (Bool)) : Prop := ∀ {v0 : Ls1} {r0 : Bool}, c_zfi v0 = some r0 → ∀ (stk : Stk) , xpcall 97 [(.d (.sl (xmap e_e1 v0)))] stk = some (.d (.bool r0)) ∧ xfcall 97 [(.d (.sl (xmap e_e1 v0)))] stk = some (.d (.bool r0), stk)
def C_zdt (c_zdt : Ls1 → Int → Option (Bool)) : Prop := ∀ {v0 : Ls1} {v1_c1_0 : Int} {r0 : Bool}, c_zdt v0 v1_c1_0 = some r0 → ∀ (stk : Stk) (n0 : Nat) (k0 : Kl), getO stk ⟨n0, k0⟩ = some (.cells [(.clos (.func F.zfb) [] [(.ref ⟨n0, k0⟩ 0)])]) → n0 ≤ topN stk → xpcall 73 [(.d (.sl (xmap e_e1 v0))), (.clos (.func F.zfe) [] [(.ref ⟨n0, k0⟩ 0), (.d (.iptr [(.int .i64 v1_c1_0)]))])] stk = some (.d (.bool r0)) ∧ xfcall 73 [(.d (.sl (xmap e_e1 v0))), (.clos (.func F.zfe) [] [(.ref ⟨n0, k0⟩ 0), (.d (.iptr [(.int .i64 v1_c1_0)]))])] stk = some (.d (.bool r0), stk)
abbrev T_zfg_0 : Type := Int × Int × Str × Ls0 × Ls1 × Int
abbrev R_zfg : Type := Bool
def A_zfg_0 (m : Nat) (n0 : Nat) (k0 : Kl) : T_zfg_0 → Stk → Rk'
 | (v0_0, v0_1, v0_2, v0_3, v0_4, v1), stk => xat 94 .frz 0 [] ⟨[(0, (.d (.agg [(.int .i64 v0_0), (.int .i64 v0_1), (.str v0_2), (.sl (xmap e_e5 v0_3)), (.sl (xmap e_e1 v0_4))]))), (1, (.d (.int .i64 v1))), (2, (.ref ⟨n0, k0⟩ 0))], ⟨m, []⟩ :: stk⟩
def O_zfg (m : Nat) (n0 : Nat) (k0 : Kl) : R_zfg → Stk → Rk'
 | r0, stk => some (.ret (.d (.bool r0)), stk)
def G_zfg (n0 : Nat) (k0 : Kl) (stk : Stk) : Prop := getO stk ⟨n0, k0⟩ = some (.cells [(.clos (.func F.zfb) [] [(.ref ⟨n0, k0⟩ 0)])]) ∧ True
abbrev H_zfg_0 (m : Nat) (n0 : Nat) (k0 : Kl) (l : T_zfg_0 → Option R_zfg) : Prop := HdS (G_zfg n0 k0 ) l (A_zfg_0 xat @xmap e_e5 e_e1 m n0 k0 ) (O_zfg m n0 k0 )
abbrev Y_zd8 : Type := Ls0 → Int → Option (Int)
def C_zd8 (c_zd8 : Ls0 → Int → Option (Int)) : Prop := ∀ {v0 : Ls0} {v1_c1_0 r0 : Int}, c_zd8 v0 v1_c1_0 = some r0 → ∀ (stk : Stk) (n0 : Nat) (k0 : Kl), getO stk ⟨n0, k0⟩ = some (.cells [(.clos (.func F.zfb) [] [(.ref ⟨n0, k0⟩ 0)])]) → n0 ≤ topN stk → xpcall 107 [(.d (.sl (xmap e_e5 v0))), (.clos (.func F.zfc) [] [(.ref ⟨n0, k0⟩ 0), (.d (.iptr [(.int .i64 v1_c1_0)]))])] stk = some (.d (.int .i64 r0)) ∧ xfcall 107 [(.d (.sl (xmap e_e5 v0))), (.clos (.func F.zfc) [] [(.ref ⟨n0, k0⟩ 0), (.d (.iptr [(.int .i64 v1_c1_0)]))])] stk = some (.d (.int .i64 r0), stk)
abbrev T_zdx_0 : Type := Ls0 × Int
abbrev R_zdx : Type := Bool
def A_zdx_0 (m : Nat) (n0 : Nat) (k0 : Kl) : T_zdx_0 → Stk → Rk'
 | (v0, v1_c1_0), stk => xat 68 .frz 0 [] ⟨[(0, (.d (.sl (xmap e_e5 v0)))), (1, (.clos (.func F.zfc) [] [(.ref ⟨n0, k0⟩ 0), (.d (.iptr [(.int .i64 v1_c1_0)]))]))], ⟨m, []⟩ :: stk⟩
def O_zdx (m : Nat) (n0 : Nat) (k0 : Kl) : R_zdx → Stk → Rk'
 | r0, stk => some (.ret (.d (.bool r0)), stk)
def G_zdx (n0 : Nat) (k0 : Kl) (stk : Stk) : Prop := getO stk ⟨n0, k0⟩ = some (.cells [(.clos (.func F.zfb) [] [(.ref ⟨n0, k0⟩ 0)])]) ∧ True
abbrev H_zdx_0 (m : Nat) (n0 : Nat) (k0 : Kl) (l : T_zdx_0 → Option R_zdx) : Prop := HdS (G_zdx n0 k0 ) l (A_zdx_0 xat @xmap e_e5 m n0 k0 ) (O_zdx m n0 k0 )
abbrev Y_zfd : Type := S2_ → Int → Option (Bool)
def C_zfd (c_zfd : S2_ → Int → Option (Bool)) : Prop := ∀ {v0_0 v0_1 : Int} {v0_2 : Str} {v0_3 : Ls0} {v0_4 : Ls1} {v2_0 : Int} {r0 : Bool}, c_zfd ⟨v0_0, v0_1, v0_2, v0_3, v0_4⟩ v2_0 = some r0 → ∀ (stk : Stk) (n0 : Nat) (k0 : Kl), getO stk ⟨n0, k0⟩ = some (.cells [(.clos (.func F.zfb) [] [(.ref ⟨n0, k0⟩ 0)])]) → n0 ≤ topN stk → xpcall 96 [(.d (.agg [(.int .i64 v0_0), (.int .i64 v0_1), (.str v0_2), (.sl (xmap e_e5 v0_3)), (.sl (xmap e_e1 v0_4))])), (.ref ⟨n0, k0⟩ 0), (.d (.iptr [(.int .i64 v2_0)]))] stk = some (.d (.bool r0)) ∧ xfcall 96 [(.d (.agg [(.int .i64 v0_0), (.int .i64 v0_1), (.str v0_2), (.sl (xmap e_e5 v0_3)), (.sl (xmap e_e1 v0_4))])), (.ref ⟨n0, k0⟩ 0), (.d (.iptr [(.int .i64 v2_0)]))] stk = some (.d (.bool r0), stk)
abbrev T_zd8_1 : Type := Ls0 × Int × Int × Int
abbrev R_zd8 : Type := Int
abbrev T_zd8_0 : Type := Ls0 × Int
def A_zd8_1 (m : Nat) (n0 : Nat) (k0 : Kl) : T_zd8_1 → Stk → Rk'
 | (v0, v1_c1_0, v7, v8), stk => xat 107 .frz 1 [.lp ⟨1, [0, 1, 7, 8], []⟩, .blk 0, .sub ⟨4, [], []⟩] ⟨[(0, (.d (.sl (xmap e_e5 v0)))), (1, (.clos (.func F.zfc) [] [(.ref ⟨n0, k0⟩ 0), (.d (.iptr [(.int .i64 v1_c1_0)]))])), (7, (.d (.int .i64 v7))), (8, (.d (.int .i64 v8)))], ⟨m, []⟩ :: stk⟩
def O_zd8 (m : Nat) (n0 : Nat) (k0 : Kl) : R_zd8 → Stk → Rk'
 | r0, stk => some (.ret (.d (.int .i64 r0)), stk)
def G_zd8 (n0 : Nat) (k0 : Kl) (stk : Stk) : Prop := getO stk ⟨n0, k0⟩ = some (.cells [(.clos (.func F.zfb) [] [(.ref ⟨n0, k0⟩ 0)])]) ∧ True
abbrev H_zd8_1 (m : Nat) (n0 : Nat) (k0 : Kl) (l : T_zd8_1 → Option R_zd8) : Prop := HdS (G_zd8 n0 k0 ) l (A_zd8_1 xat @xmap e_e5 m n0 k0 ) (O_zd8 m n0 k0 )
def A_zd8_0 (m : Nat) (n0 : Nat) (k0 : Kl) : T_zd8_0 → Stk → Rk'
 | (v0, v1_c1_0), stk => xat 107 .frz 0 [] ⟨[(0, (.d (.sl (xmap e_e5 v0)))), (1, (.clos (.func F.zfc) [] [(.ref ⟨n0, k0⟩ 0), (.d (.iptr [(.int .i64 v1_c1_0)]))]))], ⟨m, []⟩ :: stk⟩
abbrev H_zd8_0 (m : Nat) (n0 : Nat) (k0 : Kl) (l : T_zd8_0 → Option R_zd8) : Prop := HdS (G_zd8 n0 k0 ) l (A_zd8_0 xat @xmap e_e5 m n0 k0 ) (O_zd8 m n0 k0 )
abbrev Y_zd3 : Type := Ls1 → Int → Option (Int)
def C_zd3 (c_zd3 : Ls1 → Int → Option (Int)) : Prop := ∀ {v0 : Ls1} {v1_c1_0 r0 : Int}, c_zd3 v0 v1_c1_0 = some r0 → ∀ (stk : Stk) (n0 : Nat) (k0 : Kl), getO stk ⟨n0, k0⟩ = some (.cells [(.clos (.func F.zfb) [] [(.ref ⟨n0, k0⟩ 0)])]) → n0 ≤ topN stk → xpcall 77 [(.d (.sl (xmap e_e1 v0))), (.clos (.func F.zfe) [] [(.ref ⟨n0, k0⟩ 0), (.d (.iptr [(.int .i64 v1_c1_0)]))])] stk = some (.d (.int .i64 r0)) ∧ xfcall 77 [(.d (.sl (xmap e_e1 v0))), (.clos (.func F.zfe) [] [(.ref ⟨n0, k0⟩ 0), (.d (.iptr [(.int .i64 v1_c1_0)]))])] stk = some (.d (.int .i64 r0), stk)
abbrev T_zdt_0 : Type := Ls1 × Int
abbrev R_zdt : Type := Bool
def A_zdt_0 (m : Nat) (n0 : Nat) (k0 : Kl) : T_zdt_0 → Stk → Rk'
 | (v0, v1_c1_0), stk => xat 73 .frz 0 [] ⟨[(0, (.d (.sl (xmap e_e1 v0)))), (1, (.clos (.func F.zfe) [] [(.ref ⟨n0, k0⟩ 0), (.d (.iptr [(.int .i64 v1_c1_0)]))]))], ⟨m, []⟩ :: stk⟩
def O_zdt (m : Nat) (n0 : Nat) (k0 : Kl) : R_zdt → Stk → Rk'
 | r0, stk => some (.ret (.d (.bool r0)), stk)
def G_zdt (n0 : Nat) (k0 : Kl) (stk : Stk) : Prop := getO stk ⟨n0, k0⟩ = some (.cells [(.clos (.func F.zfb) [] [(.ref ⟨n0, k0⟩ 0)])]) ∧ True
abbrev H_zdt_0 (m : Nat) (n0 : Nat) (k0 : Kl) (l : T_zdt_0 → Option R_zdt) : Prop := HdS (G_zdt n0 k0 ) l (A_zdt_0 xat @xmap e_e1 m n0 k0 ) (O_zdt m n0 k0 )
abbrev Y_zff : Type := S0_ → Int → Option (Bool)
def C_zff (c_zff : S0_ → Int → Option (Bool)) : Prop := ∀ {v0_0 : Str} {v0_1_0 v0_1_1 : Int} {v0_1_2 : Str} {v0_1_3 : Ls0} {v0_1_4 : Ls1} {v2_0 : Int} {r0 : Bool}, c_zff ⟨v0_0, ⟨v0_1_0, v0_1_1, v0_1_2, v0_1_3, v0_1_4⟩⟩ v2_0 = some r0 → ∀ (stk : Stk) (n0 : Nat) (k0 : Kl), getO stk ⟨n0, k0⟩ = some (.cells [(.clos (.func F.zfb) [] [(.ref ⟨n0, k0⟩ 0)])]) → n0 ≤ topN stk → xpcall 98 [(.d (.agg [(.str v0_0), (.int .i64 v0_1_0), (.int .i64 v0_1_1), (.str v0_1_2), (.sl (xmap e_e5 v0_1_3)), (.sl (xmap e_e1 v0_1_4))])), (.ref ⟨n0, k0⟩ 0), (.d (.iptr [(.int .i64 v2_0)]))] stk = some (.d (.bool r0)) ∧ xfcall 98 [(.d (.agg [(.str v0_0), (.int .i64 v0_1_0), (.int .i64 v0_1_1), (.str v0_1_2), (.sl (xmap e_e5 v0_1_3)), (.sl (xmap e_e1 v0_1_4))])), (.ref ⟨n0, k0⟩ 0), (.d (.iptr [(.int .i64 v2_0)]))] stk = some (.d (.bool r0), stk)
abbrev T_zd3_1 : Type := Ls1 × Int × Int × Int
abbrev R_zd3 : Type := Int
abbrev T_zd3_0 : Type := Ls1 × Int
def A_zd3_1 (m : Nat) (n0 : Nat) (k0 : Kl) : T_zd3_1 → Stk → Rk'
 | (v0, v1_c1_0, v7, v8), stk => xat 77 .frz 1 [.lp ⟨1, [0, 1, 7, 8], []⟩, .blk 0, .sub ⟨4, [], []⟩] ⟨[(0, (.d (.sl (xmap e_e1 v0)))), (1, (.clos (.func F.zfe) [] [(.ref ⟨n0, k0⟩ 0), (.d (.iptr [(.int .i64 v1_c1_0)]))])), (7, (.d (.int .i64 v7))), (8, (.d (.int .i64 v8)))], ⟨m, []⟩ :: stk⟩
def O_zd3 (m : Nat) (n0 : Nat) (k0 : Kl) : R_zd3 → Stk → Rk'
 | r0, stk => some (.ret (.d (.int .i64 r0)), stk)
def G_zd3 (n0 : Nat) (k0 : Kl) (stk : Stk) : Prop := getO stk ⟨n0, k0⟩ = some (.cells [(.clos (.func F.zfb) [] [(.ref ⟨n0, k0⟩ 0)])]) ∧ True
abbrev H_zd3_1 (m : Nat) (n0 : Nat) (k0 : Kl) (l : T_zd3_1 → Option R_zd3) : Prop := HdS (G_zd3 n0 k0 ) l (A_zd3_1 xat @xmap e_e1 m n0 k0 ) (O_zd3 m n0 k0 )
def A_zd3_0 (m : Nat) (n0 : Nat) (k0 : Kl) : T_zd3_0 → Stk → Rk'
 | (v0, v1_c1_0), stk => xat 77 .frz 0 [] ⟨[(0, (.d (.sl (xmap e_e1 v0)))), (1, (.clos (.func F.zfe) [] [(.ref ⟨n0, k0⟩ 0), (.d (.iptr [(.int .i64 v1_c1_0)]))]))], ⟨m, []⟩ :: stk⟩
abbrev H_zd3_0 (m : Nat) (n0 : Nat) (k0 : Kl) (l : T_zd3_0 → Option R_zd3) : Prop := HdS (G_zd3 n0 k0 ) l (A_zd3_0 xat @xmap e_e1 m n0 k0 ) (O_zd3 m n0 k0 )
abbrev T_zff_0 : Type := Str × Int × Int × Str × Ls0 × Ls1 × Int
abbrev R_zff : Type := Bool
def A_zff_0 (m : Nat) (n0 : Nat) (k0 : Kl) : T_zff_0 → Stk → Rk'
 | (v0_0, v0_1_0, v0_1_1, v0_1_2, v0_1_3, v0_1_4, v2_0), stk => xat 98 .frz 0 [] ⟨[(0, (.d (.agg [(.str v0_0), (.int .i64 v0_1_0), (.int .i64 v0_1_1), (.str v0_1_2), (.sl (xmap e_e5 v0_1_3)), (.sl (xmap e_e1 v0_1_4))]))), (1, (.ref ⟨n0, k0⟩ 0)), (2, (.d (.iptr [(.int .i64 v2_0)])))], ⟨m, []⟩ :: stk⟩
def O_zff (m : Nat) (n0 : Nat) (k0 : Kl) : R_zff → Stk → Rk'
 | r0, stk => some (.ret (.d (.bool r0)), stk)
def G_zff (n0 : Nat) (k0 : Kl) (stk : Stk) : Prop := getO stk ⟨n0, k0⟩ = some (.cells [(.clos (.func F.zfb) [] [(.ref ⟨n0, k0⟩ 0)])]) ∧ True
abbrev H_zff_0 (m : Nat) (n0 : Nat) (k0 : Kl) (l : T_zff_0 → Option R_zff) : Prop := HdS (G_zff n0 k0 ) l (A_zff_0 xat @xmap e_e5 e_e1 m n0 k0 ) (O_zff m n0 k0 )
abbrev T_zfa_0 : Type := Int × Int × Str × Ls0 × Ls1
abbrev R_zfa : Type := Bool
def A_zfa_0 (m : Nat) : T_zfa_0 → Stk → Rk'
 | (v0_0, v0_1, v0_2, v0_3, v0_4), stk => xat 53 .frz 0 [] ⟨[(0, (.d (.agg [(.int .i64 v0_0), (.int .i64 v0_1), (.str v0_2), (.sl (xmap e_e5 v0_3)), (.sl (xmap e_e1 v0_4))])))], ⟨m, []⟩ :: stk⟩
def O_zfa (m : Nat) : R_zfa → Stk → Rk'
 | r0, stk => some (.ret (.d (.bool r0)), stk)
abbrev H_zfa_0 (m : Nat) (l : T_zfa_0 → Option R_zfa) : Prop := Hd l (A_zfa_0 xat @xmap e_e5 e_e1 m ) (O_zfa m )
abbrev Y_zfa : Type := S2_ → Option (Bool)
def C_zfa (c_zfa : S2_ → Option (Bool)) : Prop := ∀ {v0_0 v0_1 : Int} {v0_2 : Str} {v0_3 : Ls0} {v0_4 : Ls1} {r0 : Bool}, c_zfa ⟨v0_0, v0_1, v0_2, v0_3, v0_4⟩ = some r0 → ∀ (stk : Stk) , xpcall 53 [(.d (.agg [(.int .i64 v0_0), (.int .i64 v0_1), (.str v0_2), (.sl (xmap e_e5 v0_3)), (.sl (xmap e_e1 v0_4))]))] stk = some (.d (.bool r0)) ∧ xfcall 53 [(.d (.agg [(.int .i64 v0_0), (.int .i64 v0_1), (.str v0_2), (.sl (xmap e_e5 v0_3)), (.sl (xmap e_e1 v0_4))]))] stk = some (.d (.bool r0), stk)
abbrev T_zcg_0 : Type := Int × Int × Str × Ls0 × Ls1
abbrev R_zcg : Type := Bool
def A_zcg_0 (m : Nat) : T_zcg_0 → Stk → Rk'
 | (v0_0, v0_1, v0_2, v0_3, v0_4), stk => xat 69 .frz 0 [] ⟨[(0, (.d (.agg [(.int .i64 v0_0), (.int .i64 v0_1), (.str v0_2), (.sl (xmap e_e5 v0_3)), (.sl (xmap e_e1 v0_4))])))], ⟨m, []⟩ :: stk⟩
def O_zcg (m : Nat) : R_zcg → Stk → Rk'
 | r0, stk => some (.ret (.d (.bool r0)), stk)
abbrev H_zcg_0 (m : Nat) (l : T_zcg_0 → Option R_zcg) : Prop := Hd l (A_zcg_0 xat @xmap e_e5 e_e1 m ) (O_zcg m )
abbrev Y_zcg : Type := S2_ → Option (Bool)
def C_zcg (c_zcg : S2_ → Option (Bool)) : Prop := ∀ {v0_0 v0_1 : Int} {v0_2 : Str} {v0_3 : Ls0} {v0_4 : Ls1} {r0 : Bool}, c_zcg ⟨v0_0, v0_1, v0_2, v0_3, v0_4⟩ = some r0 → ∀ (stk : Stk) , xpcall 69 [(.d (.agg [(.int .i64 v0_0), (.int .i64 v0_1), (.str v0_2), (.sl (xmap e_e5 v0_3)), (.sl (xmap e_e1 v0_4))]))] stk = some (.d (.bool r0)) ∧ xfcall 69 [(.d (.agg [(.int .i64 v0_0), (.int .i64 v0_1), (.str v0_2), (.sl (xmap e_e5 v0_3)), (.sl (xmap e_e1 v0_4))]))] stk = some (.d (.bool r0), stk)
abbrev T_zd9_1 : Type := Ls0 × Int × Int
abbrev R_zd9 : Type := Int
abbrev T_zd9_0 : Type := Ls0
def A_zd9_1 (m : Nat) : T_zd9_1 → Stk → Rk'
 | (v0, v7, v8), stk => xat 107 .frz 1 [.lp ⟨1, [0, 1, 7, 8], []⟩, .blk 0, .sub ⟨4, [], []⟩] ⟨[(0, (.d (.sl (xmap e_e5 v0)))), (1, (.d (.func (.func F.zcg) [] []))), (7, (.d (.int .i64 v7))), (8, (.d (.int .i64 v8)))], ⟨m, []⟩ :: stk⟩
def O_zd9 (m : Nat) : R_zd9 → Stk → Rk'
 | r0, stk => some (.ret (.d (.int .i64 r0)), stk)
abbrev H_zd9_1 (m : Nat) (l : T_zd9_1 → Option R_zd9) : Prop := Hd l (A_zd9_1 xat @xmap e_e5 m ) (O_zd9 m )
def A_zd9_0 (m : Nat) : T_zd9_0 → Stk → Rk'
 | v0, stk => xat 107 .frz 0 [] ⟨[(0, (.d (.sl (xmap e_e5 v0)))), (1, (.d (.func (.func F.zcg) [] [])))], ⟨m, []⟩ :: stk⟩
abbrev H_zd9_0 (m : Nat) (l : T_zd9_0 → Option R_zd9) : Prop := Hd l (A_zd9_0 xat @xmap e_e5 m ) (O_zd9 m )
abbrev Y_zd9 : Type := Ls0 → Option (Int)
def C_zd9 (c_zd9 : Ls0 → Option (Int)) : Prop := ∀ {v0 : Ls0} {r0 : Int}, c_zd9 v0 = some r0 → ∀ (stk : Stk) , xpcall 107 [(.d (.sl (xmap e_e5 v0))), (.d (.func (.func F.zcg) [] []))] stk = some (.d (.int .i64 r0)) ∧ xfcall 107 [(.d (.sl (xmap e_e5 v0))), (.d (.func (.func F.zcg) [] []))] stk = some (.d (.int .i64 r0), stk)
abbrev T_zdy_0 : Type := Ls0
abbrev R_zdy : Type := Bool
def A_zdy_0 (m : Nat) : T_zdy_0 → Stk → Rk'
 | v0, stk => xat 68 .frz 0 [] ⟨[(0, (.d (.sl (xmap e_e5 v0)))), (1, (.d (.func (.func F.zcg) [] [])))], ⟨m, []⟩ :: stk⟩
def O_zdy (m : Nat) : R_zdy → Stk → Rk'
 | r0, stk => some (.ret (.d (.bool r0)), stk)
abbrev H_zdy_0 (m : Nat) (l : T_zdy_0 → Option R_zdy) : Prop := Hd l (A_zdy_0 xat @xmap e_e5 m ) (O_zdy m )
abbrev Y_zdr : Type := (List Ls0) → Option (Ls0)
def C_zdr (c_zdr : (List Ls0) → Option (Ls0)) : Prop := ∀ {v0 : (List Ls0)} {r0 : Ls0}, c_zdr v0 = some r0 → ∀ (stk : Stk) , xpcall 71 [(.d (.sl (xmap e_e0 v0)))] stk = some (.d (.sl (xmap e_e5 r0))) ∧ xfcall 71 [(.d (.sl (xmap e_e0 v0)))] stk = some (.d (.sl (xmap e_e5 r0)), stk)
abbrev T_zci_0 : Type := Int × Int × Str × Ls0 × Ls1 × Ls0
abbrev R_zci : Type := S2_ × Int
def A_zci_0 (m : Nat) : T_zci_0 → Stk → Rk'
 | (v0_0, v0_1, v0_2, v0_3, v0_4, v1_0), stk => xat 70 .frz 0 [] ⟨[(0, (.d (.agg [(.int .i64 v0_0), (.int .i64 v0_1), (.str v0_2), (.sl (xmap e_e5 v0_3)), (.sl (xmap e_e1 v0_4))]))), (1, (.d (.iptr [(.sl (xmap e_e5 v1_0))])))], ⟨m, []⟩ :: stk⟩
def O_zci (m : Nat) : R_zci → Stk → Rk'
 | (⟨r0_0, r0_1, r0_2, r0_3, r0_4⟩, r1), stk => some (.ret (.d (.tup [(.agg [(.int .i64 r0_0), (.int .i64 r0_1), (.str r0_2), (.sl (xmap e_e5 r0_3)), (.sl (xmap e_e1 r0_4))]), (.int .i64 r1)])), stk)
abbrev H_zci_0 (m : Nat) (l : T_zci_0 → Option R_zci) : Prop := Hd l (A_zci_0 xat @xmap e_e5 e_e1 m ) (O_zci @xmap e_e5 e_e1 m )
abbrev T_zdo_0 : Type := Ls0
abbrev R_zdo : Type := Nat × Ls0
def A_zdo_0 (m : Nat) : T_zdo_0 → Stk → Rk'
 | v0, stk => xat 102 (.keep [[5]]) 0 [] ⟨[(0, (.d (.sl (xmap e_e5 v0))))], ⟨m, []⟩ :: stk⟩
def O_zdo (m : Nat) : R_zdo → Stk → Rk'
 | (qo5_g, qo5), stk => some (.ret (.msl ⟨m, [5]⟩ qo5_g 0 (xlen (xmap e_e5 qo5))), ⟨m, [([5], (.arr qo5_g 5 (xmap e_e5 qo5)))]⟩ :: stk)
abbrev H_zdo_0 (m : Nat) (l : T_zdo_0 → Option R_zdo) : Prop := Hd l (A_zdo_0 xat @xmap e_e5 m ) (O_zdo @xmap xlen e_e5 m )
abbrev T_zc2_0 : Type := Str × Int × Int × Str × Ls0 × Ls1
abbrev R_zc2 : Type := Bool
def A_zc2_0 (m : Nat) (n0 : Nat) (k0 : Kl) (L0_0 : Str) (L0_1 : Int) (L0_2 : Bool) : T_zc2_0 → Stk → Rk'
 | (v0_0, v0_1_0, v0_1_1, v0_1_2, v0_1_3, v0_1_4), stk => xat 103 .frz 0 [] ⟨[(0, (.d (.agg [(.str v0_0), (.int .i64 v0_1_0), (.int .i64 v0_1_1), (.str v0_1_2), (.sl (xmap e_e5 v0_1_3)), (.sl (xmap e_e1 v0_1_4))]))), (1, (.ref ⟨n0, k0⟩ 0))], ⟨m, []⟩ :: stk⟩
def O_zc2 (m : Nat) (n0 : Nat) (k0 : Kl) (L0_0 : Str) (L0_1 : Int) (L0_2 : Bool) : R_zc2 → Stk → Rk'
 | r0, stk => some (.ret (.d (.bool r0)), stk)
def G_zc2 (n0 : Nat) (k0 : Kl) (L0_0 : Str) (L0_1 : Int) (L0_2 : Bool) (stk : Stk) : Prop := getO stk ⟨n0, k0⟩ = some (.cells [(.d (.str L0_0)), (.d (.int .i64 L0_1)), (.d (.bool L0_2))]) ∧ True
abbrev H_zc2_0 (m : Nat) (n0 : Nat) (k0 : Kl) (L0_0 : Str) (L0_1 : Int) (L0_2 : Bool) (l : T_zc2_0 → Option R_zc2) : Prop := HdS (G_zc2 n0 k0 L0_0 L0_1 L0_2) l (A_zc2_0 xat @xmap e_e5 e_e1 m n0 k0 L0_0 L0_1 L0_2) (O_zc2 m n0 k0 L0_0 L0_1 L0_2)
abbrev Y_zc2 : Type := S0_ → Str → Int → Bool → Option (Bool)
def C_zc2 (c_zc2 : S0_ → Str → Int → Bool → Option (Bool)) : Prop := ∀ {v0_0 : Str} {v0_1_0 v0_1_1 : Int} {v0_1_2 : Str} {v0_1_3 : Ls0} {v0_1_4 : Ls1} {L0_0 : Str} {L0_1 : Int} {L0_2 r0 : Bool}, c_zc2 ⟨v0_0, ⟨v0_1_0, v0_1_1, v0_1_2, v0_1_3, v0_1_4⟩⟩ L0_0 L0_1 L0_2 = some r0 → ∀ (stk : Stk) (n0 : Nat) (k0 : Kl), getO stk ⟨n0, k0⟩ = some (.cells [(.d (.str L0_0)), (.d (.int .i64 L0_1)), (.d (.bool L0_2))]) → n0 ≤ topN stk → xpcall 103 [(.d (.agg [(.str v0_0), (.int .i64 v0_1_0), (.int .i64 v0_1_1), (.str v0_1_2), (.sl (xmap e_e5 v0_1_3)), (.sl (xmap e_e1 v0_1_4))])), (.ref ⟨n0, k0⟩ 0)] stk = some (.d (.bool r0)) ∧ xfcall 103 [(.d (.agg [(.str v0_0), (.int .i64 v0_1_0), (.int .i64 v0_1_1), (.str v0_1_2), (.sl (xmap e_e5 v0_1_3)), (.sl (xmap e_e1 v0_1_4))])), (.ref ⟨n0, k0⟩ 0)] stk = some (.d (.bool r0), stk)
abbrev T_zd4_1 : Type := Ls1 × Int × Int
abbrev R_zd4 : Type := Int
abbrev T_zd4_0 : Type := Ls1
def A_zd4_1 (m : Nat) (n0 : Nat) (k0 : Kl) (L0_0 : Str) (L0_1 : Int) (L0_2 : Bool) : T_zd4_1 → Stk → Rk'
 | (v0, v7, v8), stk => xat 77 .frz 1 [.lp ⟨1, [0, 1, 7, 8], []⟩, .blk 0, .sub ⟨4, [], []⟩] ⟨[(0, (.d (.sl (xmap e_e1 v0)))), (1, (.clos (.func F.zc1) [] [(.ref ⟨n0, k0⟩ 0)])), (7, (.d (.int .i64 v7))), (8, (.d (.int .i64 v8)))], ⟨m, []⟩ :: stk⟩
def O_zd4 (m : Nat) (n0 : Nat) (k0 : Kl) (L0_0 : Str) (L0_1 : Int) (L0_2 : Bool) : R_zd4 → Stk → Rk'
 | r0, stk => some (.ret (.d (.int .i64 r0)), stk)
def G_zd4 (n0 : Nat) (k0 : Kl) (L0_0 : Str) (L0_1 : Int) (L0_2 : Bool) (stk : Stk) : Prop := getO stk ⟨n0, k0⟩ = some (.cells [(.d (.str L0_0)), (.d (.int .i64 L0_1)), (.d (.bool L0_2))]) ∧ True
abbrev H_zd4_1 (m : Nat) (n0 : Nat) (k0 : Kl) (L0_0 : Str) (L0_1 : Int) (L0_2 : Bool) (l : T_zd4_1 → Option R_zd4) : Prop := HdS (G_zd4 n0 k0 L0_0 L0_1 L0_2) l (A_zd4_1 xat @xmap e_e1 m n0 k0 L0_0 L0_1 L0_2) (O_zd4 m n0 k0 L0_0 L0_1 L0_2)
def A_zd4_0 (m : Nat) (n0 : Nat) (k0 : Kl) (L0_0 : Str) (L0_1 : Int) (L0_2 : Bool) : T_zd4_0 → Stk → Rk'
 | v0, stk => xat 77 .frz 0 [] ⟨[(0, (.d (.sl (xmap e_e1 v0)))), (1, (.clos (.func F.zc1) [] [(.ref ⟨n0, k0⟩ 0)]))], ⟨m, []⟩ :: stk⟩
abbrev H_zd4_0 (m : Nat) (n0 : Nat) (k0 : Kl) (L0_0 : Str) (L0_1 : Int) (L0_2 : Bool) (l : T_zd4_0 → Option R_zd4) : Prop := HdS (G_zd4 n0 k0 L0_0 L0_1 L0_2) l (A_zd4_0 xat @xmap e_e1 m n0 k0 L0_0 L0_1 L0_2) (O_zd4 m n0 k0 L0_0 L0_1 L0_2)
abbrev T_zdm_0 : Type := Ls1
abbrev R_zdm : Type := Nat × Ls1
def A_zdm_0 (m : Nat) : T_zdm_0 → Stk → Rk'
 | v0, stk => xat 104 (.keep [[5]]) 0 [] ⟨[(0, (.d (.sl (xmap e_e1 v0))))], ⟨m, []⟩ :: stk⟩
def O_zdm (m : Nat) : R_zdm → Stk → Rk'
 | (qo5_g, qo5), stk => some (.ret (.msl ⟨m, [5]⟩ qo5_g 0 (xlen (xmap e_e1 qo5))), ⟨m, [([5], (.arr qo5_g 6 (xmap e_e1 qo5)))]⟩ :: stk)
abbrev H_zdm_0 (m : Nat) (l : T_zdm_0 → Option R_zdm) : Prop := Hd l (A_zdm_0 xat @xmap e_e1 m ) (O_zdm @xmap xlen e_e1 m )
abbrev Y_zci : Type := S2_ → Ls0 → Option (S2_ × Int)
abbrev Y_zdo : Type := Ls0 → Option (Nat × Ls0)
abbrev Y_zc3 : Type := S2_ → Ls2 → Ls0 → Option (S2_ × Int)
abbrev Y_zd4 : Type := Ls1 → Str → Int → Bool → Option (Int)
abbrev Y_zdm : Type := Ls1 → Option (Nat × Ls1)
def C_zci (c_zci : S2_ → Ls0 → Option (S2_ × Int)) : Prop := ∀ {v0_0 v0_1 : Int} {v0_2 : Str} {v0_3 : Ls0} {v0_4 : Ls1} {v1_0 : Ls0} {r0_0 r0_1 : Int} {r0_2 : Str} {r0_3 : Ls0} {r0_4 : Ls1} {r1 : Int}, c_zci ⟨v0_0, v0_1, v0_2, v0_3, v0_4⟩ v1_0 = some (⟨r0_0, r0_1, r0_2, r0_3, r0_4⟩, r1) → ∀ (stk : Stk) , xpcall 70 [(.d (.agg [(.int .i64 v0_0), (.int .i64 v0_1), (.str v0_2), (.sl (xmap e_e5 v0_3)), (.sl (xmap e_e1 v0_4))])), (.d (.iptr [(.sl (xmap e_e5 v1_0))]))] stk = some (.d (.tup [(.agg [(.int .i64 r0_0), (.int .i64 r0_1), (.str r0_2), (.sl (xmap e_e5 r0_3)), (.sl (xmap e_e1 r0_4))]), (.int .i64 r1)])) ∧ xfcall 70 [(.d (.agg [(.int .i64 v0_0), (.int .i64 v0_1), (.str v0_2), (.sl (xmap e_e5 v0_3)), (.sl (xmap e_e1 v0_4))])), (.d (.iptr [(.sl (xmap e_e5 v1_0))]))] stk = some (.d (.tup [(.agg [(.int .i64 r0_0), (.int .i64 r0_1), (.str r0_2), (.sl (xmap e_e5 r0_3)), (.sl (xmap e_e1 r0_4))]), (.int .i64 r1)]), stk)
def C_zdo (c_zdo : Ls0 → Option (Nat × Ls0)) : Prop := ∀ {v0 : Ls0} {qo5_g : Nat} {qo5 : Ls0}, c_zdo v0 = some (qo5_g, qo5) → ∀ (stk : Stk) , ∀ m, m = topN stk + 1 → xkcall 102 [[5]] [(.d (.sl (xmap e_e5 v0)))] stk = some ((.msl ⟨m, [5]⟩ qo5_g 0 (xlen (xmap e_e5 qo5))), ⟨m, [([5], (.arr qo5_g 5 (xmap e_e5 qo5)))]⟩, stk)
def C_zc3 (c_zc3 : S2_ → Ls2 → Ls0 → Option (S2_ × Int)) : Prop := ∀ {v0_0 v0_1 : Int} {v0_2 : Str} {v0_3 : Ls0} {v0_4 : Ls1} {v1 : Ls2} {v2_c0_0 : Ls0} {r0_0 r0_1 : Int} {r0_2 : Str} {r0_3 : Ls0} {r0_4 : Ls1} {r1 : Int}, c_zc3 ⟨v0_0, v0_1, v0_2, v0_3, v0_4⟩ v1 v2_c0_0 = some (⟨r0_0, r0_1, r0_2, r0_3, r0_4⟩, r1) → ∀ (stk : Stk) , xpcall 59 [(.d (.agg [(.int .i64 v0_0), (.int .i64 v0_1), (.str v0_2), (.sl (xmap e_e5 v0_3)), (.sl (xmap e_e1 v0_4))])), (.d (.sl (xmap e_e4 v1))), (.d (.func (.func F.zch) [] [(.iptr [(.sl (xmap e_e5 v2_c0_0))])]))] stk = some (.d (.tup [(.agg [(.int .i64 r0_0), (.int .i64 r0_1), (.str r0_2), (.sl (xmap e_e5 r0_3)), (.sl (xmap e_e1 r0_4))]), (.int .i64 r1)])) ∧ xfcall 59 [(.d (.agg [(.int .i64 v0_0), (.int .i64 v0_1), (.str v0_2), (.sl (xmap e_e5 v0_3)), (.sl (xmap e_e1 v0_4))])), (.d (.sl (xmap e_e4 v1))), (.d (.func (.func F.zch) [] [(.iptr [(.sl (xmap e_e5 v2_c0_0))])]))] stk = some (.d (.tup [(.agg [(.int .i64 r0_0), (.int .i64 r0_1), (.str r0_2), (.sl (xmap e_e5 r0_3)), (.sl (xmap e_e1 r0_4))]), (.int .i64 r1)]), stk)
def C_zd4 (c_zd4 : Ls1 → Str → Int → Bool → Option (Int)) : Prop := ∀ {v0 : Ls1} {L0_0 : Str} {L0_1 : Int} {L0_2 : Bool} {r0 : Int}, c_zd4 v0 L0_0 L0_1 L0_2 = some r0 → ∀ (stk : Stk) (n0 : Nat) (k0 : Kl), getO stk ⟨n0, k0⟩ = some (.cells [(.d (.str L0_0)), (.d (.int .i64 L0_1)), (.d (.bool L0_2))]) → n0 ≤ topN stk → xpcall 77 [(.d (.sl (xmap e_e1 v0))), (.clos (.func F.zc1) [] [(.ref ⟨n0, k0⟩ 0)])] stk = some (.d (.int .i64 r0)) ∧ xfcall 77 [(.d (.sl (xmap e_e1 v0))), (.clos (.func F.zc1) [] [(.ref ⟨n0, k0⟩ 0)])] stk = some (.d (.int .i64 r0), stk)
def C_zdm (c_zdm : Ls1 → Option (Nat × Ls1)) : Prop := ∀ {v0 : Ls1} {qo5_g : Nat} {qo5 : Ls1}, c_zdm v0 = some (qo5_g, qo5) → ∀ (stk : Stk) , ∀ m, m = topN stk + 1 → xkcall 104 [[5]] [(.d (.sl (xmap e_e1 v0)))] stk = some ((.msl ⟨m, [5]⟩ qo5_g 0 (xlen (xmap e_e1 qo5))), ⟨m, [([5], (.arr qo5_g 6 (xmap e_e1 qo5)))]⟩, stk)
abbrev T_zc3_2 : Type := Int × Int × Str × Ls0 × Ls1
abbrev R_zc3 : Type := S2_ × Int
abbrev T_zc3_0 : Type := Int × Int × Str × Ls0 × Ls1 × Ls2 × Ls0
def A_zc3_2 (m : Nat) : T_zc3_2 → Stk → Rk'
 | (o6_0, o6_1, o6_2, o6_3, o6_4), stk => xat 59 .frz 2 [] ⟨[(6, (.ref ⟨m, [6]⟩ 0))], ⟨m, [([6], (.cells [(.d (.int .i64 o6_0)), (.d (.int .i64 o6_1)), (.d (.str o6_2)), (.d (.sl (xmap e_e5 o6_3))), (.d (.sl (xmap e_e1 o6_4)))]))]⟩ :: stk⟩
def O_zc3 (m : Nat) : R_zc3 → Stk → Rk'
 | (⟨r0_0, r0_1, r0_2, r0_3, r0_4⟩, r1), stk => some (.ret (.d (.tup [(.agg [(.int .i64 r0_0), (.int .i64 r0_1), (.str r0_2), (.sl (xmap e_e5 r0_3)), (.sl (xmap e_e1 r0_4))]), (.int .i64 r1)])), stk)
abbrev H_zc3_2 (m : Nat) (l : T_zc3_2 → Option R_zc3) : Prop := Hd l (A_zc3_2 xat @xmap e_e5 e_e1 m ) (O_zc3 @xmap e_e5 e_e1 m )
def A_zc3_0 (m : Nat) : T_zc3_0 → Stk → Rk'
 | (v0_0, v0_1, v0_2, v0_3, v0_4, v1, v2_c0_0), stk => xat 59 .frz 0 [] ⟨[(0, (.d (.agg [(.int .i64 v0_0), (.int .i64 v0_1), (.str v0_2), (.sl (xmap e_e5 v0_3)), (.sl (xmap e_e1 v0_4))]))), (1, (.d (.sl (xmap e_e4 v1)))), (2, (.d (.func (.func F.zch) [] [(.iptr [(.sl (xmap e_e5 v2_c0_0))])])))], ⟨m, []⟩ :: stk⟩
abbrev H_zc3_0 (m : Nat) (l : T_zc3_0 → Option R_zc3) : Prop := Hd l (A_zc3_0 xat @xmap e_e4 e_e5 e_e1 m ) (O_zc3 @xmap e_e5 e_e1 m )
abbrev Y_zfh : Type := S2_ → Option (S2_)
def C_zfh (c_zfh : S2_ → Option (S2_)) : Prop := ∀ {v0_0 v0_1 : Int} {v0_2 : Str} {v0_3 : Ls0} {v0_4 : Ls1} {r0_0 r0_1 : Int} {r0_2 : Str} {r0_3 : Ls0} {r0_4 : Ls1}, c_zfh ⟨v0_0, v0_1, v0_2, v0_3, v0_4⟩ = some ⟨r0_0, r0_1, r0_2, r0_3, r0_4⟩ → ∀ (stk : Stk) , xpcall 105 [(.d (.agg [(.int .i64 v0_0), (.int .i64 v0_1), (.str v0_2), (.sl (xmap e_e5 v0_3)), (.sl (xmap e_e1 v0_4))]))] stk = some (.d (.agg [(.int .i64 r0_0), (.int .i64 r0_1), (.str r0_2), (.sl (xmap e_e5 r0_3)), (.sl (xmap e_e1 r0_4))])) ∧ xfcall 105 [(.d (.agg [(.int .i64 v0_0), (.int .i64 v0_1), (.str v0_2), (.sl (xmap e_e5 v0_3)), (.sl (xmap e_e1 v0_4))]))] stk = some (.d (.agg [(.int .i64 r0_0), (.int .i64 r0_1), (.str r0_2), (.sl (xmap e_e5 r0_3)), (.sl (xmap e_e1 r0_4))]), stk)
abbrev T_zfh_1 : Type := Int × Int × Str × Ls0 × Ls1 × Ls0 × Int × Int × Int × Int × Str × Ls0 × Ls1 × Int × Int × Str × Nat × Ls0 × Nat × Ls1
abbrev R_zfh : Type := S2_
abbrev T_zfh_0 : Type := Int × Int × Str × Ls0 × Ls1
def A_zfh_1 (m : Nat) : T_zfh_1 → Stk → Rk'
 | (v1_0, v1_1, v1_2, v1_3, v1_4, v16, v17, v18, o2_0, o2_1, o2_2, o2_3, o2_4, o3_0, o3_1, o3_2, o3_3_g, o3_3, o3_4_g, o3_4), stk => xat 105 .frz 1 [.lp ⟨1, [1, 2, 3, 16, 17, 18], [[2], [3], [3, 3], [3, 4]]⟩, .blk 0, .sub ⟨4, [1, 2, 3], [[2], [3], [3, 3], [3, 4]]⟩] ⟨[(1, (.d (.iptr [(.int .i64 v1_0), (.int .i64 v1_1), (.str v1_2), (.sl (xmap e_e5 v1_3)), (.sl (xmap e_e1 v1_4))]))), (2, (.ref ⟨m, [2]⟩ 0)), (3, (.ref ⟨m, [3]⟩ 0)), (16, (.d (.sl (xmap e_e5 v16)))), (17, (.d (.int .i64 v17))), (18, (.d (.int .i64 v18)))], ⟨m, [([2], (.cells [(.d (.int .i64 o2_0)), (.d (.int .i64 o2_1)), (.d (.str o2_2)), (.d (.sl (xmap e_e5 o2_3))), (.d (.sl (xmap e_e1 o2_4)))])), ([3], (.cells [(.d (.int .i64 o3_0)), (.d (.int .i64 o3_1)), (.d (.str o3_2)), (.msl ⟨m, [3, 3]⟩ o3_3_g 0 (xlen (xmap e_e5 o3_3))), (.msl ⟨m, [3, 4]⟩ o3_4_g 0 (xlen (xmap e_e1 o3_4)))])), ([3, 3], (.arr o3_3_g 5 (xmap e_e5 o3_3))), ([3, 4], (.arr o3_4_g 6 (xmap e_e1 o3_4)))]⟩ :: stk⟩
def O_zfh (m : Nat) : R_zfh → Stk → Rk'
 | ⟨r0_0, r0_1, r0_2, r0_3, r0_4⟩, stk => some (.ret (.d (.agg [(.int .i64 r0_0), (.int .i64 r0_1), (.str r0_2), (.sl (xmap e_e5 r0_3)), (.sl (xmap e_e1 r0_4))])), stk)
abbrev H_zfh_1 (m : Nat) (l : T_zfh_1 → Option R_zfh) : Prop := Hd l (A_zfh_1 xat @xmap xlen e_e5 e_e1 m ) (O_zfh @xmap e_e5 e_e1 m )
def A_zfh_0 (m : Nat) : T_zfh_0 → Stk → Rk'
 | (v0_0, v0_1, v0_2, v0_3, v0_4), stk => xat 105 .frz 0 [] ⟨[(0, (.d (.agg [(.int .i64 v0_0), (.int .i64 v0_1), (.str v0_2), (.sl (xmap e_e5 v0_3)), (.sl (xmap e_e1 v0_4))])))], ⟨m, []⟩ :: stk⟩
abbrev H_zfh_0 (m : Nat) (l : T_zfh_0 → Option R_zfh) : Prop := Hd l (A_zfh_0 xat @xmap e_e5 e_e1 m ) (O_zfh @xmap e_e5 e_e1 m )
abbrev T_zfh_5 : Type := Ls1 × Int × Int × Int × Int × Str × Ls0 × Ls1 × Int × Int × Str × Nat × Ls0 × Nat × Ls1
def A_zfh_5 (m : Nat) : T_zfh_5 → Stk → Rk'
 | (v31, v32, v33, o2_0, o2_1, o2_2, o2_3, o2_4, o3_0, o3_1, o3_2, o3_3_g, o3_3, o3_4_g, o3_4), stk => xat 105 .frz 5 [.lp ⟨5, [2, 3, 31, 32, 33], [[2], [3], [3, 3], [3, 4]]⟩, .blk 2, .sub ⟨8, [2, 3], [[2], [3], [3, 3], [3, 4]]⟩] ⟨[(2, (.ref ⟨m, [2]⟩ 0)), (3, (.ref ⟨m, [3]⟩ 0)), (31, (.d (.sl (xmap e_e1 v31)))), (32, (.d (.int .i64 v32))), (33, (.d (.int .i64 v33)))], ⟨m, [([2], (.cells [(.d (.int .i64 o2_0)), (.d (.int .i64 o2_1)), (.d (.str o2_2)), (.d (.sl (xmap e_e5 o2_3))), (.d (.sl (xmap e_e1 o2_4)))])), ([3], (.cells [(.d (.int .i64 o3_0)), (.d (.int .i64 o3_1)), (.d (.str o3_2)), (.msl ⟨m, [3, 3]⟩ o3_3_g 0 (xlen (xmap e_e5 o3_3))), (.msl ⟨m, [3, 4]⟩ o3_4_g 0 (xlen (xmap e_e1 o3_4)))])), ([3, 3], (.arr o3_3_g 5 (xmap e_e5 o3_3))), ([3, 4], (.arr o3_4_g 6 (xmap e_e1 o3_4)))]⟩ :: stk⟩
abbrev H_zfh_5 (m : Nat) (l : T_zfh_5 → Option R_zfh) : Prop := Hd l (A_zfh_5 xat @xmap xlen e_e5 e_e1 m ) (O_zfh @xmap e_e5 e_e1 m )
abbrev T_ze6_0 : Type := Int × Int × Str × Ls0 × Ls1
abbrev R_ze6 : Type := S2_
def A_ze6_0 (m : Nat) : T_ze6_0 → Stk → Rk'
 | (v0_0, v0_1, v0_2, v0_3, v0_4), stk => xat 61 .frz 0 [] ⟨[(0, (.d (.agg [(.int .i64 v0_0), (.int .i64 v0_1), (.str v0_2), (.sl (xmap e_e5 v0_3)), (.sl (xmap e_e1 v0_4))])))], ⟨m, []⟩ :: stk⟩
def O_ze6 (m : Nat) : R_ze6 → Stk → Rk'
 | ⟨r0_0, r0_1, r0_2, r0_3, r0_4⟩, stk => some (.ret (.d (.agg [(.int .i64 r0_0), (.int .i64 r0_1), (.str r0_2), (.sl (xmap e_e5 r0_3)), (.sl (xmap e_e1 r0_4))])), stk)
abbrev H_ze6_0 (m : Nat) (l : T_ze6_0 → Option R_ze6) : Prop := Hd l (A_ze6_0 xat @xmap e_e5 e_e1 m ) (O_ze6 @xmap e_e5 e_e1 m )
abbrev Y_ze6 : Type := S2_ → Option (S2_)
def C_ze6 (c_ze6 : S2_ → Option (S2_)) : Prop := ∀ {v0_0 v0_1 : Int} {v0_2 : Str} {v0_3 : Ls0} {v0_4 : Ls1} {r0_0 r0_1 : Int} {r0_2 : Str} {r0_3 : Ls0} {r0_4 : Ls1}, c_ze6 ⟨v0_0, v0_1, v0_2, v0_3, v0_4⟩ = some ⟨r0_0, r0_1, r0_2, r0_3, r0_4⟩ → ∀ (stk : Stk) , xpcall 61 [(.d (.agg [(.int .i64 v0_0), (.int .i64 v0_1), (.str v0_2), (.sl (xmap e_e5 v0_3)), (.sl (xmap e_e1 v0_4))]))] stk = some (.d (.agg [(.int .i64 r0_0), (.int .i64 r0_1), (.str r0_2), (.sl (xmap e_e5 r0_3)), (.sl (xmap e_e1 r0_4))])) ∧ xfcall 61 [(.d (.agg [(.int .i64 v0_0), (.int .i64 v0_1), (.str v0_2), (.sl (xmap e_e5 v0_3)), (.sl (xmap e_e1 v0_4))]))] stk = some (.d (.agg [(.int .i64 r0_0), (.int .i64 r0_1), (.str r0_2), (.sl (xmap e_e5 r0_3)), (.sl (xmap e_e1 r0_4))]), stk)
abbrev T_zc5_0 : Type := Int × Int × Str × Ls0 × Ls1 × Ls2 × Ls0
abbrev R_zc5 : Type := S2_ × Int
def A_zc5_0 (m : Nat) : T_zc5_0 → Stk → Rk'
 | (v0_0, v0_1, v0_2, v0_3, v0_4, v1, v2_c0_0), stk => xat 64 .frz 0 [] ⟨[(0, (.d (.agg [(.int .i64 v0_0), (.int .i64 v0_1), (.str v0_2), (.sl (xmap e_e5 v0_3)), (.sl (xmap e_e1 v0_4))]))), (1, (.d (.sl (xmap e_e4 v1)))), (2, (.d (.func (.func F.zch) [] [(.iptr [(.sl (xmap e_e5 v2_c0_0))])])))], ⟨m, []⟩ :: stk⟩
def O_zc5 (m : Nat) : R_zc5 → Stk → Rk'
 | (⟨r0_0, r0_1, r0_2, r0_3, r0_4⟩, r1), stk => some (.ret (.d (.tup [(.agg [(.int .i64 r0_0), (.int .i64 r0_1), (.str r0_2), (.sl (xmap e_e5 r0_3)), (.sl (xmap e_e1 r0_4))]), (.int .i64 r1)])), stk)
abbrev H_zc5_0 (m : Nat) (l : T_zc5_0 → Option R_zc5) : Prop := Hd l (A_zc5_0 xat @xmap e_e4 e_e5 e_e1 m ) (O_zc5 @xmap e_e5 e_e1 m )
abbrev Y_zdy : Type := Ls0 → Option (Bool)
abbrev Y_zc5 : Type := S2_ → Ls2 → Ls0 → Option (S2_ × Int)
def C_zdy (c_zdy : Ls0 → Option (Bool)) : Prop := ∀ {v0 : Ls0} {r0 : Bool}, c_zdy v0 = some r0 → ∀ (stk : Stk) , xpcall 68 [(.d (.sl (xmap e_e5 v0))), (.d (.func (.func F.zcg) [] []))] stk = some (.d (.bool r0)) ∧ xfcall 68 [(.d (.sl (xmap e_e5 v0))), (.d (.func (.func F.zcg) [] []))] stk = some (.d (.bool r0), stk)
def C_zc5 (c_zc5 : S2_ → Ls2 → Ls0 → Option (S2_ × Int)) : Prop := ∀ {v0_0 v0_1 : Int} {v0_2 : Str} {v0_3 : Ls0} {v0_4 : Ls1} {v1 : Ls2} {v2_c0_0 : Ls0} {r0_0 r0_1 : Int} {r0_2 : Str} {r0_3 : Ls0} {r0_4 : Ls1} {r1 : Int}, c_zc5 ⟨v0_0, v0_1, v0_2, v0_3, v0_4⟩ v1 v2_c0_0 = some (⟨r0_0, r0_1, r0_2, r0_3, r0_4⟩, r1) → ∀ (stk : Stk) , xpcall 64 [(.d (.agg [(.int .i64 v0_0), (.int .i64 v0_1), (.str v0_2), (.sl (xmap e_e5 v0_3)), (.sl (xmap e_e1 v0_4))])), (.d (.sl (xmap e_e4 v1))), (.d (.func (.func F.zch) [] [(.iptr [(.sl (xmap e_e5 v2_c0_0))])]))] stk = some (.d (.tup [(.agg [(.int .i64 r0_0), (.int .i64 r0_1), (.str r0_2), (.sl (xmap e_e5 r0_3)), (.sl (xmap e_e1 r0_4))]), (.int .i64 r1)])) ∧ xfcall 64 [(.d (.agg [(.int .i64 v0_0), (.int .i64 v0_1), (.str v0_2), (.sl (xmap e_e5 v0_3)), (.sl (xmap e_e1 v0_4))])), (.d (.sl (xmap e_e4 v1))), (.d (.func (.func F.zch) [] [(.iptr [(.sl (xmap e_e5 v2_c0_0))])]))] stk = some (.d (.tup [(.agg [(.int .i64 r0_0), (.int .i64 r0_1), (.str r0_2), (.sl (xmap e_e5 r0_3)), (.sl (xmap e_e1 r0_4))]), (.int .i64 r1)]), stk)
abbrev T_zcf_0 : Type := Int × Int × Str × Ls0 × Ls1 × Ls2 × Ls0
abbrev R_zcf : Type := S2_ × Int
def A_zcf_0 (m : Nat) : T_zcf_0 → Stk → Rk'
 | (v0_0, v0_1, v0_2, v0_3, v0_4, v1, v2), stk => xat 38 .frz 0 [] ⟨[(0, (.d (.agg [(.int .i64 v0_0), (.int .i64 v0_1), (.str v0_2), (.sl (xmap e_e5 v0_3)), (.sl (xmap e_e1 v0_4))]))), (1, (.d (.sl (xmap e_e4 v1)))), (2, (.d (.sl (xmap e_e5 v2))))], ⟨m, []⟩ :: stk⟩
def O_zcf (m : Nat) : R_zcf → Stk → Rk'
 | (⟨r0_0, r0_1, r0_2, r0_3, r0_4⟩, r1), stk => some (.ret (.d (.tup [(.agg [(.int .i64 r0_0), (.int .i64 r0_1), (.str r0_2), (.sl (xmap e_e5 r0_3)), (.sl (xmap e_e1 r0_4))]), (.int .i64 r1)])), stk)
abbrev H_zcf_0 (m : Nat) (l : T_zcf_0 → Option R_zcf) : Prop := Hd l (A_zcf_0 xat @xmap e_e4 e_e5 e_e1 m ) (O_zcf @xmap e_e5 e_e1 m )
abbrev T_zy_2 : Type := Str × Int × Int × Int × Int × Int
abbrev R_zy : Type := Int × Int
abbrev T_zy_0 : Type := Str × Int
def A_zy_2 (m : Nat) : T_zy_2 → Stk → Rk'
 | (v0, v1, v6, v7, v8, v9), stk => xat 123 .frz 2 [] ⟨[(0, (.d (.str v0))), (1, (.d (.int .i64 v1))), (6, (.d (.int .i64 v6))), (7, (.d (.int .i64 v7))), (8, (.d (.int .i64 v8))), (9, (.d (.int .i64 v9)))], ⟨m, []⟩ :: stk⟩
def O_zy (m : Nat) : R_zy → Stk → Rk'
 | (r0, r1), stk => some (.ret (.d (.tup [(.int .i64 r0), (.int .i32 r1)])), stk)
abbrev H_zy_2 (m : Nat) (l : T_zy_2 → Option R_zy) : Prop := Hd l (A_zy_2 xat m ) (O_zy m )
def A_zy_0 (m : Nat) : T_zy_0 → Stk → Rk'
 | (v0, v1), stk => xat 123 .frz 0 [] ⟨[(0, (.d (.str v0))), (1, (.d (.int .i64 v1)))], ⟨m, []⟩ :: stk⟩
abbrev H_zy_0 (m : Nat) (l : T_zy_0 → Option R_zy) : Prop := Hd l (A_zy_0 xat m ) (O_zy m )
abbrev T_zy_3 : Type := Str × Int × Int × Int × Int × Int
def A_zy_3 (m : Nat) : T_zy_3 → Stk → Rk'
 | (v0, v1, v6, v7, v8, v9), stk => xat 123 .frz 3 [] ⟨[(0, (.d (.str v0))), (1, (.d (.int .i64 v1))), (6, (.d (.int .i64 v6))), (7, (.d (.int .i64 v7))), (8, (.d (.int .i64 v8))), (9, (.d (.int .i64 v9)))], ⟨m, []⟩ :: stk⟩
abbrev H_zy_3 (m : Nat) (l : T_zy_3 → Option R_zy) : Prop := Hd l (A_zy_3 xat m ) (O_zy m )
abbrev T_zy_4 : Type := Str × Int × Int × Int × Int
def A_zy_4 (m : Nat) : T_zy_4 → Stk → Rk'
 | (v0, v1, v7, v8, v9), stk => xat 123 .frz 4 [] ⟨[(0, (.d (.str v0))), (1, (.d (.int .i64 v1))), (7, (.d (.int .i64 v7))), (8, (.d (.int .i64 v8))), (9, (.d (.int .i64 v9)))], ⟨m, []⟩ :: stk⟩
abbrev H_zy_4 (m : Nat) (l : T_zy_4 → Option R_zy) : Prop := Hd l (A_zy_4 xat m ) (O_zy m )
abbrev T_zy_6 : Type := Str × Int × Int × Int × Int × Int
def A_zy_6 (m : Nat) : T_zy_6 → Stk → Rk'
 | (v0, v1, v7, v8, v9, v10), stk => xat 123 .frz 6 [.lp ⟨6, [0, 1, 7, 8, 9, 10], []⟩, .blk 0, .sub ⟨10, [7, 8, 9], []⟩] ⟨[(0, (.d (.str v0))), (1, (.d (.int .i64 v1))), (7, (.d (.int .i64 v7))), (8, (.d (.int .i64 v8))), (9, (.d (.int .i64 v9))), (10, (.d (.int .i64 v10)))], ⟨m, []⟩ :: stk⟩
abbrev H_zy_6 (m : Nat) (l : T_zy_6 → Option R_zy) : Prop := Hd l (A_zy_6 xat m ) (O_zy m )
abbrev T_zy_11 : Type := Int × Int
def A_zy_11 (m : Nat) : T_zy_11 → Stk → Rk'
 | (v7, v8), stk => xat 123 .frz 11 [] ⟨[(7, (.d (.int .i64 v7))), (8, (.d (.int .i64 v8)))], ⟨m, []⟩ :: stk⟩
abbrev H_zy_11 (m : Nat) (l : T_zy_11 → Option R_zy) : Prop := Hd l (A_zy_11 xat m ) (O_zy m )
abbrev Y_zy : Type := Str → Int → Option (Int × Int)
def C_zy (c_zy : Str → Int → Option (Int × Int)) : Prop := ∀ {v0 : Str} {v1 r0 r1 : Int}, c_zy v0 v1 = some (r0, r1) → ∀ (stk : Stk) , xpcall 123 [(.d (.str v0)), (.d (.int .i64 v1))] stk = some (.d (.tup [(.int .i64 r0), (.int .i32 r1)])) ∧ xfcall 123 [(.d (.str v0)), (.d (.int .i64 v1))] stk = some (.d (.tup [(.int .i64 r0), (.int .i32 r1)]), stk)
abbrev T_zv_1 : Type := Str × Int
abbrev R_zv : Type := Int
abbrev T_zv_0 : Type := Str
def A_zv_1 (m : Nat) : T_zv_1 → Stk → Rk'
 | (v0, v3), stk => xat 91 .frz 1 [.lp ⟨1, [0, 3], []⟩, .blk 0, .sub ⟨4, [], []⟩] ⟨[(0, (.d (.str v0))), (3, (.d (.int .i64 v3)))], ⟨m, []⟩ :: stk⟩
def O_zv (m : Nat) : R_zv → Stk → Rk'
 | r0, stk => some (.ret (.d (.int .i64 r0)), stk)
abbrev H_zv_1 (m : Nat) (l : T_zv_1 → Option R_zv) : Prop := Hd l (A_zv_1 xat m ) (O_zv m )
def A_zv_0 (m : Nat) : T_zv_0 → Stk → Rk'
 | v0, stk => xat 91 .frz 0 [] ⟨[(0, (.d (.str v0)))], ⟨m, []⟩ :: stk⟩
abbrev H_zv_0 (m : Nat) (l : T_zv_0 → Option R_zv) : Prop := Hd l (A_zv_0 xat m ) (O_zv m )
abbrev Y_zv : Type := Str → Option (Int)
def C_zv (c_zv : Str → Option (Int)) : Prop := ∀ {v0 : Str} {r0 : Int}, c_zv v0 = some r0 → ∀ (stk : Stk) , xpcall 91 [(.d (.str v0))] stk = some (.d (.int .i64 r0)) ∧ xfcall 91 [(.d (.str v0))] stk = some (.d (.int .i64 r0), stk)
abbrev T_zx_0 : Type := Str
abbrev R_zx : Type := Bool
def A_zx_0 (m : Nat) : T_zx_0 → Stk → Rk'
 | v0, stk => xat 49 .frz 0 [] ⟨[(0, (.d (.str v0)))], ⟨m, []⟩ :: stk⟩
def O_zx (m : Nat) : R_zx → Stk → Rk'
 | r0, stk => some (.ret (.d (.bool r0)), stk)
abbrev H_zx_0 (m : Nat) (l : T_zx_0 → Option R_zx) : Prop := Hd l (A_zx_0 xat m ) (O_zx m )
abbrev Y_zx : Type := Str → Option (Bool)
abbrev Y_z5 : Type := S2_ → Int → Option (Bool)
def C_zx (c_zx : Str → Option (Bool)) : Prop := ∀ {v0 : Str} {r0 : Bool}, c_zx v0 = some r0 → ∀ (stk : Stk) , xpcall 49 [(.d (.str v0))] stk = some (.d (.bool r0)) ∧ xfcall 49 [(.d (.str v0))] stk = some (.d (.bool r0), stk)
def C_z5 (c_z5 : S2_ → Int → Option (Bool)) : Prop := ∀ {v0_0 v0_1 : Int} {v0_2 : Str} {v0_3 : Ls0} {v0_4 : Ls1} {v1 : Int} {r0 : Bool}, c_z5 ⟨v0_0, v0_1, v0_2, v0_3, v0_4⟩ v1 = some r0 → ∀ (stk : Stk) , xpcall 62 [(.d (.agg [(.int .i64 v0_0), (.int .i64 v0_1), (.str v0_2), (.sl (xmap e_e5 v0_3)), (.sl (xmap e_e1 v0_4))])), (.d (.int .i64 v1))] stk = some (.d (.bool r0)) ∧ xfcall 62 [(.d (.agg [(.int .i64 v0_0), (.int .i64 v0_1), (.str v0_2), (.sl (xmap e_e5 v0_3)), (.sl (xmap e_e1 v0_4))])), (.d (.int .i64 v1))] stk = some (.d (.bool r0), stk)
abbrev T_z5_2 : Type := Int × Int × Int × Str × Ls0 × Ls1
abbrev R_z5 : Type := Bool
abbrev T_z5_0 : Type := Int × Int × Str × Ls0 × Ls1 × Int
def A_z5_2 (m : Nat) : T_z5_2 → Stk → Rk'
 | (v1, v2_0, v2_1, v2_2, v2_3, v2_4), stk => xat 62 .frz 2 [] ⟨[(1, (.d (.int .i64 v1))), (2, (.d (.iptr [(.int .i64 v2_0), (.int .i64 v2_1), (.str v2_2), (.sl (xmap e_e5 v2_3)), (.sl (xmap e_e1 v2_4))])))], ⟨m, []⟩ :: stk⟩
def O_z5 (m : Nat) : R_z5 → Stk → Rk'
 | r0, stk => some (.ret (.d (.bool r0)), stk)
abbrev H_z5_2 (m : Nat) (l : T_z5_2 → Option R_z5) : Prop := Hd l (A_z5_2 xat @xmap e_e5 e_e1 m ) (O_z5 m )
def A_z5_0 (m : Nat) : T_z5_0 → Stk → Rk'
 | (v0_0, v0_1, v0_2, v0_3, v0_4, v1), stk => xat 62 .frz 0 [] ⟨[(0, (.d (.agg [(.int .i64 v0_0), (.int .i64 v0_1), (.str v0_2), (.sl (xmap e_e5 v0_3)), (.sl (xmap e_e1 v0_4))]))), (1, (.d (.int .i64 v1)))], ⟨m, []⟩ :: stk⟩
abbrev H_z5_0 (m : Nat) (l : T_z5_0 → Option R_z5) : Prop := Hd l (A_z5_0 xat @xmap e_e5 e_e1 m ) (O_z5 m )
abbrev T_z5_3 : Type := Int × Int × Int × Str × Ls0 × Ls1
def A_z5_3 (m : Nat) : T_z5_3 → Stk → Rk'
 | (v1, v2_0, v2_1, v2_2, v2_3, v2_4), stk => xat 62 .frz 3 [] ⟨[(1, (.d (.int .i64 v1))), (2, (.d (.iptr [(.int .i64 v2_0), (.int .i64 v2_1), (.str v2_2), (.sl (xmap e_e5 v2_3)), (.sl (xmap e_e1 v2_4))])))], ⟨m, []⟩ :: stk⟩
abbrev H_z5_3 (m : Nat) (l : T_z5_3 → Option R_z5) : Prop := Hd l (A_z5_3 xat @xmap e_e5 e_e1 m ) (O_z5 m )
abbrev T_z5_4 : Type := Int × Int × Int × Str × Ls0 × Ls1 × Int
def A_z5_4 (m : Nat) : T_z5_4 → Stk → Rk'
 | (v1, v2_0, v2_1, v2_2, v2_3, v2_4, v5), stk => xat 62 .frz 4 [.lp ⟨4, [1, 2, 5], []⟩, .blk 0, .sub ⟨7, [1, 2], []⟩] ⟨[(1, (.d (.int .i64 v1))), (2, (.d (.iptr [(.int .i64 v2_0), (.int .i64 v2_1), (.str v2_2), (.sl (xmap e_e5 v2_3)), (.sl (xmap e_e1 v2_4))]))), (5, (.d (.int .i64 v5)))], ⟨m, []⟩ :: stk⟩
abbrev H_z5_4 (m : Nat) (l : T_z5_4 → Option R_z5) : Prop := Hd l (A_z5_4 xat @xmap e_e5 e_e1 m ) (O_z5 m )
abbrev T_z5_8 : Type := Int × Int × Int × Str × Ls0 × Ls1 × Int
def A_z5_8 (m : Nat) : T_z5_8 → Stk → Rk'
 | (v1, v2_0, v2_1, v2_2, v2_3, v2_4, v6), stk => xat 62 .frz 8 [.lp ⟨8, [1, 2, 6], []⟩, .blk 2, .sub ⟨15, [], []⟩] ⟨[(1, (.d (.int .i64 v1))), (2, (.d (.iptr [(.int .i64 v2_0), (.int .i64 v2_1), (.str v2_2), (.sl (xmap e_e5 v2_3)), (.sl (xmap e_e1 v2_4))]))), (6, (.d (.int .i64 v6)))], ⟨m, []⟩ :: stk⟩
abbrev H_z5_8 (m : Nat) (l : T_z5_8 → Option R_z5) : Prop := Hd l (A_z5_8 xat @xmap e_e5 e_e1 m ) (O_z5 m )
abbrev T_z5_11 : Type := Int × Int × Int × Str × Ls0 × Ls1 × Int × Int
def A_z5_11 (m : Nat) : T_z5_11 → Stk → Rk'
 | (v1, v2_0, v2_1, v2_2, v2_3, v2_4, v6, v7), stk => xat 62 .frz 11 [.lp ⟨11, [1, 2, 6, 7], []⟩, .blk 4, .blk 3, .sub ⟨14, [1, 2, 6], []⟩, .lp ⟨8, [1, 2, 6], []⟩, .blk 2, .sub ⟨15, [], []⟩] ⟨[(1, (.d (.int .i64 v1))), (2, (.d (.iptr [(.int .i64 v2_0), (.int .i64 v2_1), (.str v2_2), (.sl (xmap e_e5 v2_3)), (.sl (xmap e_e1 v2_4))]))), (6, (.d (.int .i64 v6))), (7, (.d (.int .i64 v7)))], ⟨m, []⟩ :: stk⟩
abbrev H_z5_11 (m : Nat) (l : T_z5_11 → Option (T_z5_8 ⊕ R_z5)) : Prop := Hd l (A_z5_11 xat @xmap e_e5 e_e1 m ) (el (A_z5_8 xat @xmap e_e5 e_e1 m ) (O_z5 m ))
abbrev T_z2_0 : Type := Int × Int × Str × Ls0 × Ls1
abbrev R_z2 : Type := Bool
def A_z2_0 (m : Nat) : T_z2_0 → Stk → Rk'
 | (v0_0, v0_1, v0_2, v0_3, v0_4), stk => xat 33 .frz 0 [] ⟨[(0, (.d (.agg [(.int .i64 v0_0), (.int .i64 v0_1), (.str v0_2), (.sl (xmap e_e5 v0_3)), (.sl (xmap e_e1 v0_4))])))], ⟨m, []⟩ :: stk⟩
def O_z2 (m : Nat) : R_z2 → Stk → Rk'
 | r0, stk => some (.ret (.d (.bool r0)), stk)
abbrev H_z2_0 (m : Nat) (l : T_z2_0 → Option R_z2) : Prop := Hd l (A_z2_0 xat @xmap e_e5 e_e1 m ) (O_z2 m )
abbrev T_zbd_1 : Type := Ls2 × Int
abbrev R_zbd : Type := Bool
abbrev T_zbd_0 : Type := Ls2
def A_zbd_1 (m : Nat) : T_zbd_1 → Stk → Rk'
 | (v0, v3), stk => xat 17 .frz 1 [.lp ⟨1, [0, 3], []⟩, .blk 0, .sub ⟨4, [0], []⟩] ⟨[(0, (.d (.sl (xmap e_e4 v0)))), (3, (.d (.int .i64 v3)))], ⟨m, []⟩ :: stk⟩
def O_zbd (m : Nat) : R_zbd → Stk → Rk'
 | r0, stk => some (.ret (.d (.bool r0)), stk)
abbrev H_zbd_1 (m : Nat) (l : T_zbd_1 → Option R_zbd) : Prop := Hd l (A_zbd_1 xat @xmap e_e4 m ) (O_zbd m )
def A_zbd_0 (m : Nat) : T_zbd_0 → Stk → Rk'
 | v0, stk => xat 17 .frz 0 [] ⟨[(0, (.d (.sl (xmap e_e4 v0))))], ⟨m, []⟩ :: stk⟩
abbrev H_zbd_0 (m : Nat) (l : T_zbd_0 → Option R_zbd) : Prop := Hd l (A_zbd_0 xat @xmap e_e4 m ) (O_zbd m )
abbrev T_zbd_3 : Type := Ls2 × Int
abbrev T_zbd_4 : Type := Ls2
def A_zbd_3 (m : Nat) : T_zbd_3 → Stk → Rk'
 | (v0, v3), stk => xat 17 .frz 3 [.lp ⟨1, [0, 3], []⟩, .blk 0, .sub ⟨4, [0], []⟩] ⟨[(0, (.d (.sl (xmap e_e4 v0)))), (3, (.d (.int .i64 v3)))], ⟨m, []⟩ :: stk⟩
abbrev H_zbd_3 (m : Nat) (l : T_zbd_3 → Option (T_zbd_1 ⊕ R_zbd)) : Prop := Hd l (A_zbd_3 xat @xmap e_e4 m ) (el (A_zbd_1 xat @xmap e_e4 m ) (O_zbd m ))
def A_zbd_4 (m : Nat) : T_zbd_4 → Stk → Rk'
 | v0, stk => xat 17 .frz 4 [] ⟨[(0, (.d (.sl (xmap e_e4 v0))))], ⟨m, []⟩ :: stk⟩
abbrev H_zbd_4 (m : Nat) (l : T_zbd_4 → Option R_zbd) : Prop := Hd l (A_zbd_4 xat @xmap e_e4 m ) (O_zbd m )
abbrev T_zz_1 : Type := Str × Int × Int × Str × Ls0 × Ls1 × Int
abbrev R_zz : Type := Int
abbrev T_zz_0 : Type := Int × Int × Str × Ls0 × Ls1 × Str
def A_zz_1 (m : Nat) : T_zz_1 → Stk → Rk'
 | (v1, v2_0, v2_1, v2_2, v2_3, v2_4, v5), stk => xat 79 .frz 1 [.lp ⟨1, [1, 2, 5], []⟩, .blk 0, .sub ⟨4, [], []⟩] ⟨[(1, (.d (.str v1))), (2, (.d (.iptr [(.int .i64 v2_0), (.int .i64 v2_1), (.str v2_2), (.sl (xmap e_e5 v2_3)), (.sl (xmap e_e1 v2_4))]))), (5, (.d (.int .i64 v5)))], ⟨m, []⟩ :: stk⟩
def O_zz (m : Nat) : R_zz → Stk → Rk'
 | r0, stk => some (.ret (.d (.int .i64 r0)), stk)
abbrev H_zz_1 (m : Nat) (l : T_zz_1 → Option R_zz) : Prop := Hd l (A_zz_1 xat @xmap e_e5 e_e1 m ) (O_zz m )
def A_zz_0 (m : Nat) : T_zz_0 → Stk → Rk'
 | (v0_0, v0_1, v0_2, v0_3, v0_4, v1), stk => xat 79 .frz 0 [] ⟨[(0, (.d (.agg [(.int .i64 v0_0), (.int .i64 v0_1), (.str v0_2), (.sl (xmap e_e5 v0_3)), (.sl (xmap e_e1 v0_4))]))), (1, (.d (.str v1)))], ⟨m, []⟩ :: stk⟩
abbrev H_zz_0 (m : Nat) (l : T_zz_0 → Option R_zz) : Prop := Hd l (A_zz_0 xat @xmap e_e5 e_e1 m ) (O_zz m )
abbrev Y_zz : Type := S2_ → Str → Option (Int)
def C_zz (c_zz : S2_ → Str → Option (Int)) : Prop := ∀ {v0_0 v0_1 : Int} {v0_2 : Str} {v0_3 : Ls0} {v0_4 : Ls1} {v1 : Str} {r0 : Int}, c_zz ⟨v0_0, v0_1, v0_2, v0_3, v0_4⟩ v1 = some r0 → ∀ (stk : Stk) , xpcall 79 [(.d (.agg [(.int .i64 v0_0), (.int .i64 v0_1), (.str v0_2), (.sl (xmap e_e5 v0_3)), (.sl (xmap e_e1 v0_4))])), (.d (.str v1))] stk = some (.d (.int .i64 r0)) ∧ xfcall 79 [(.d (.agg [(.int .i64 v0_0), (.int .i64 v0_1), (.str v0_2), (.sl (xmap e_e5 v0_3)), (.sl (xmap e_e1 v0_4))])), (.d (.str v1))] stk = some (.d (.int .i64 r0), stk)
abbrev T_zbj_1 : Type := Unit
abbrev R_zbj : Type := Int
abbrev T_zbj_0 : Type := Int × Int × Str × Ls0 × Ls1 × Str × Int × Bool
def A_zbj_1 (m : Nat) : T_zbj_1 → Stk → Rk'
 | (), stk => xat 63 .frz 1 [.sub ⟨2, [2, 3], []⟩] ⟨[], ⟨m, []⟩ :: stk⟩
def O_zbj (m : Nat) : R_zbj → Stk → Rk'
 | r0, stk => some (.ret (.d (.int .i64 r0)), stk)
abbrev H_zbj_1 (m : Nat) (l : T_zbj_1 → Option R_zbj) : Prop := Hd l (A_zbj_1 xat m ) (O_zbj m )
def A_zbj_0 (m : Nat) : T_zbj_0 → Stk → Rk'
 | (v0_0, v0_1, v0_2, v0_3, v0_4, v1_0, v1_1, v1_2), stk => xat 63 .frz 0 [] ⟨[(0, (.d (.agg [(.int .i64 v0_0), (.int .i64 v0_1), (.str v0_2), (.sl (xmap e_e5 v0_3)), (.sl (xmap e_e1 v0_4))]))), (1, (.d (.agg [(.str v1_0), (.int .i64 v1_1), (.bool v1_2)])))], ⟨m, []⟩ :: stk⟩
abbrev H_zbj_0 (m : Nat) (l : T_zbj_0 → Option R_zbj) : Prop := Hd l (A_zbj_0 xat @xmap e_e5 e_e1 m ) (O_zbj m )
abbrev Y_zbj : Type := S2_ → S1_ → Option (Int)
def C_zbj (c_zbj : S2_ → S1_ → Option (Int)) : Prop := ∀ {v0_0 v0_1 : Int} {v0_2 : Str} {v0_3 : Ls0} {v0_4 : Ls1} {v1_0 : Str} {v1_1 : Int} {v1_2 : Bool} {r0 : Int}, c_zbj ⟨v0_0, v0_1, v0_2, v0_3, v0_4⟩ ⟨v1_0, v1_1, v1_2⟩ = some r0 → ∀ (stk : Stk) , xpcall 63 [(.d (.agg [(.int .i64 v0_0), (.int .i64 v0_1), (.str v0_2), (.sl (xmap e_e5 v0_3)), (.sl (xmap e_e1 v0_4))])), (.d (.agg [(.str v1_0), (.int .i64 v1_1), (.bool v1_2)]))] stk = some (.d (.int .i64 r0)) ∧ xfcall 63 [(.d (.agg [(.int .i64 v0_0), (.int .i64 v0_1), (.str v0_2), (.sl (xmap e_e5 v0_3)), (.sl (xmap e_e1 v0_4))])), (.d (.agg [(.str v1_0), (.int .i64 v1_1), (.bool v1_2)]))] stk = some (.d (.int .i64 r0), stk)
abbrev T_z8_1 : Type := Ls2 × Int × Int × Int × Str × Ls0 × Ls1 × Int × Int × Str × Ls0 × Ls1
abbrev R_z8 : Type := S2_ × Bool
abbrev T_z8_0 : Type := Int × Int × Str × Ls0 × Ls1 × Ls2
def A_z8_1 (m : Nat) : T_z8_1 → Stk → Rk'
 | (v1, v6, o2_0, o2_1, o2_2, o2_3, o2_4, o4_0, o4_1, o4_2, o4_3, o4_4), stk => xat 34 .frz 1 [.lp ⟨1, [1, 2, 4, 6], [[2], [4]]⟩, .blk 0, .sub ⟨5, [2, 4], [[2], [4]]⟩] ⟨[(1, (.d (.sl (xmap e_e4 v1)))), (2, (.ref ⟨m, [2]⟩ 0)), (4, (.ref ⟨m, [4]⟩ 0)), (6, (.d (.int .i64 v6)))], ⟨m, [([2], (.cells [(.d (.int .i64 o2_0)), (.d (.int .i64 o2_1)), (.d (.str o2_2)), (.d (.sl (xmap e_e5 o2_3))), (.d (.sl (xmap e_e1 o2_4)))])), ([4], (.cells [(.d (.int .i64 o4_0)), (.d (.int .i64 o4_1)), (.d (.str o4_2)), (.d (.sl (xmap e_e5 o4_3))), (.d (.sl (xmap e_e1 o4_4)))]))]⟩ :: stk⟩
def O_z8 (m : Nat) : R_z8 → Stk → Rk'
 | (⟨r0_0, r0_1, r0_2, r0_3, r0_4⟩, r1), stk => some (.ret (.d (.tup [(.agg [(.int .i64 r0_0), (.int .i64 r0_1), (.str r0_2), (.sl (xmap e_e5 r0_3)), (.sl (xmap e_e1 r0_4))]), (.bool r1)])), stk)
abbrev H_z8_1 (m : Nat) (l : T_z8_1 → Option R_z8) : Prop := Hd l (A_z8_1 xat @xmap e_e4 e_e5 e_e1 m ) (O_z8 @xmap e_e5 e_e1 m )
def A_z8_0 (m : Nat) : T_z8_0 → Stk → Rk'
 | (v0_0, v0_1, v0_2, v0_3, v0_4, v1), stk => xat 34 .frz 0 [] ⟨[(0, (.d (.agg [(.int .i64 v0_0), (.int .i64 v0_1), (.str v0_2), (.sl (xmap e_e5 v0_3)), (.sl (xmap e_e1 v0_4))]))), (1, (.d (.sl (xmap e_e4 v1))))], ⟨m, []⟩ :: stk⟩
abbrev H_z8_0 (m : Nat) (l : T_z8_0 → Option R_z8) : Prop := Hd l (A_z8_0 xat @xmap e_e4 e_e5 e_e1 m ) (O_z8 @xmap e_e5 e_e1 m )
abbrev T_z8_4 : Type := Ls2 × Int × Int × Int × Str × Ls0 × Ls1 × Int × Int × Str × Ls0 × Ls1
def A_z8_4 (m : Nat) : T_z8_4 → Stk → Rk'
 | (v1, v6, o2_0, o2_1, o2_2, o2_3, o2_4, o4_0, o4_1, o4_2, o4_3, o4_4), stk => xat 34 .frz 4 [.lp ⟨1, [1, 2, 4, 6], [[2], [4]]⟩, .blk 0, .sub ⟨5, [2, 4], [[2], [4]]⟩] ⟨[(1, (.d (.sl (xmap e_e4 v1)))), (2, (.ref ⟨m, [2]⟩ 0)), (4, (.ref ⟨m, [4]⟩ 0)), (6, (.d (.int .i64 v6)))], ⟨m, [([2], (.cells [(.d (.int .i64 o2_0)), (.d (.int .i64 o2_1)), (.d (.str o2_2)), (.d (.sl (xmap e_e5 o2_3))), (.d (.sl (xmap e_e1 o2_4)))])), ([4], (.cells [(.d (.int .i64 o4_0)), (.d (.int .i64 o4_1)), (.d (.str o4_2)), (.d (.sl (xmap e_e5 o4_3))), (.d (.sl (xmap e_e1 o4_4)))]))]⟩ :: stk⟩
abbrev H_z8_4 (m : Nat) (l : T_z8_4 → Option (T_z8_1 ⊕ R_z8)) : Prop := Hd l (A_z8_4 xat @xmap e_e4 e_e5 e_e1 m ) (el (A_z8_1 xat @xmap e_e4 e_e5 e_e1 m ) (O_z8 @xmap e_e5 e_e1 m ))
abbrev Y_z2 : Type := S2_ → Option (Bool)
abbrev Y_zbd : Type := Ls2 → Option (Bool)
abbrev Y_z8 : Type := S2_ → Ls2 → Option (S2_ × Bool)
def C_z2 (c_z2 : S2_ → Option (Bool)) : Prop := ∀ {v0_0 v0_1 : Int} {v0_2 : Str} {v0_3 : Ls0} {v0_4 : Ls1} {r0 : Bool}, c_z2 ⟨v0_0, v0_1, v0_2, v0_3, v0_4⟩ = some r0 → ∀ (stk : Stk) , xpcall 33 [(.d (.agg [(.int .i64 v0_0), (.int .i64 v0_1), (.str v0_2), (.sl (xmap e_e5 v0_3)), (.sl (xmap e_e1 v0_4))]))] stk = some (.d (.bool r0)) ∧ xfcall 33 [(.d (.agg [(.int .i64 v0_0), (.int .i64 v0_1), (.str v0_2), (.sl (xmap e_e5 v0_3)), (.sl (xmap e_e1 v0_4))]))] stk = some (.d (.bool r0), stk)
def C_zbd (c_zbd : Ls2 → Option (Bool)) : Prop := ∀ {v0 : Ls2} {r0 : Bool}, c_zbd v0 = some r0 → ∀ (stk : Stk) , xpcall 17 [(.d (.sl (xmap e_e4 v0)))] stk = some (.d (.bool r0)) ∧ xfcall 17 [(.d (.sl (xmap e_e4 v0)))] stk = some (.d (.bool r0), stk)
def C_z8 (c_z8 : S2_ → Ls2 → Option (S2_ × Bool)) : Prop := ∀ {v0_0 v0_1 : Int} {v0_2 : Str} {v0_3 : Ls0} {v0_4 : Ls1} {v1 : Ls2} {r0_0 r0_1 : Int} {r0_2 : Str} {r0_3 : Ls0} {r0_4 : Ls1} {r1 : Bool}, c_z8 ⟨v0_0, v0_1, v0_2, v0_3, v0_4⟩ v1 = some (⟨r0_0, r0_1, r0_2, r0_3, r0_4⟩, r1) → ∀ (stk : Stk) , xpcall 34 [(.d (.agg [(.int .i64 v0_0), (.int .i64 v0_1), (.str v0_2), (.sl (xmap e_e5 v0_3)), (.sl (xmap e_e1 v0_4))])), (.d (.sl (xmap e_e4 v1)))] stk = some (.d (.tup [(.agg [(.int .i64 r0_0), (.int .i64 r0_1), (.str r0_2), (.sl (xmap e_e5 r0_3)), (.sl (xmap e_e1 r0_4))]), (.bool r1)])) ∧ xfcall 34 [(.d (.agg [(.int .i64 v0_0), (.int .i64 v0_1), (.str v0_2), (.sl (xmap e_e5 v0_3)), (.sl (xmap e_e1 v0_4))])), (.d (.sl (xmap e_e4 v1)))] stk = some (.d (.tup [(.agg [(.int .i64 r0_0), (.int .i64 r0_1), (.str r0_2), (.sl (xmap e_e5 r0_3)), (.sl (xmap e_e1 r0_4))]), (.bool r1)]), stk)
abbrev T_zbi_0 : Type := Int × Int × Str × Ls0 × Ls1 × Ls2
abbrev R_zbi : Type := S2_ × Int
def A_zbi_0 (m : Nat) : T_zbi_0 → Stk → Rk'
 | (v0_0, v0_1, v0_2, v0_3, v0_4, v1), stk => xat 66 .frz 0 [] ⟨[(0, (.d (.agg [(.int .i64 v0_0), (.int .i64 v0_1), (.str v0_2), (.sl (xmap e_e5 v0_3)), (.sl (xmap e_e1 v0_4))]))), (1, (.d (.sl (xmap e_e4 v1))))], ⟨m, []⟩ :: stk⟩
def O_zbi (m : Nat) : R_zbi → Stk → Rk'
 | (⟨r0_0, r0_1, r0_2, r0_3, r0_4⟩, r1), stk => some (.ret (.d (.tup [(.agg [(.int .i64 r0_0), (.int .i64 r0_1), (.str r0_2), (.sl (xmap e_e5 r0_3)), (.sl (xmap e_e1 r0_4))]), (.int .i64 r1)])), stk)
abbrev H_zbi_0 (m : Nat) (l : T_zbi_0 → Option R_zbi) : Prop := Hd l (A_zbi_0 xat @xmap e_e4 e_e5 e_e1 m ) (O_zbi @xmap e_e5 e_e1 m )
abbrev Y_zbb : Type := S2_ → Ls2 → S2_ → Option (S2_)
def C_zbb (c_zbb : S2_ → Ls2 → S2_ → Option (S2_)) : Prop := ∀ {v0_0 v0_1 : Int} {v0_2 : Str} {v0_3 : Ls0} {v0_4 : Ls1} {v1 : Ls2} {v2_0 v2_1 : Int} {v2_2 : Str} {v2_3 : Ls0} {v2_4 : Ls1} {r0_0 r0_1 : Int} {r0_2 : Str} {r0_3 : Ls0} {r0_4 : Ls1}, c_zbb ⟨v0_0, v0_1, v0_2, v0_3, v0_4⟩ v1 ⟨v2_0, v2_1, v2_2, v2_3, v2_4⟩ = some ⟨r0_0, r0_1, r0_2, r0_3, r0_4⟩ → ∀ (stk : Stk) , xpcall 106 [(.d (.agg [(.int .i64 v0_0), (.int .i64 v0_1), (.str v0_2), (.sl (xmap e_e5 v0_3)), (.sl (xmap e_e1 v0_4))])), (.d (.sl (xmap e_e4 v1))), (.d (.agg [(.int .i64 v2_0), (.int .i64 v2_1), (.str v2_2), (.sl (xmap e_e5 v2_3)), (.sl (xmap e_e1 v2_4))]))] stk = some (.d (.agg [(.int .i64 r0_0), (.int .i64 r0_1), (.str r0_2), (.sl (xmap e_e5 r0_3)), (.sl (xmap e_e1 r0_4))])) ∧ xfcall 106 [(.d (.agg [(.int .i64 v0_0), (.int .i64 v0_1), (.str v0_2), (.sl (xmap e_e5 v0_3)), (.sl (xmap e_e1 v0_4))])), (.d (.sl (xmap e_e4 v1))), (.d (.agg [(.int .i64 v2_0), (.int .i64 v2_1), (.str v2_2), (.sl (xmap e_e5 v2_3)), (.sl (xmap e_e1 v2_4))]))] stk = some (.d (.agg [(.int .i64 r0_0), (.int .i64 r0_1), (.str r0_2), (.sl (xmap e_e5 r0_3)), (.sl (xmap e_e1 r0_4))]), stk)
abbrev T_zbb_2 : Type := Ls2 × Int × Int × Str × Ls0 × Ls1 × Int × Int × Str × Ls0 × Ls1 × Int × Int × Int × Int × Str × Ls0 × Ls1 × Int × Int × Str × Nat × Ls0 × Nat × Ls1
abbrev R_zbb : Type := S2_
abbrev T_zbb_0 : Type := Int × Int × Str × Ls0 × Ls1 × Ls2 × Int × Int × Str × Ls0 × Ls1
def A_zbb_2 (m : Nat) : T_zbb_2 → Stk → Rk'
 | (v1, v3_0, v3_1, v3_2, v3_3, v3_4, v5_0, v5_1, v5_2, v5_3, v5_4, v7, v9, o6_0, o6_1, o6_2, o6_3, o6_4, o8_0, o8_1, o8_2, o8_3_g, o8_3, o8_4_g, o8_4), stk => xat 106 .frz 2 [.lp ⟨2, [1, 3, 5, 6, 7, 8, 9], [[6], [8], [8, 3], [8, 4]]⟩, .blk 0, .sub ⟨6, [1, 3, 5, 6, 7, 8], [[6], [8], [8, 3], [8, 4]]⟩] ⟨[(1, (.d (.sl (xmap e_e4 v1)))), (3, (.d (.iptr [(.int .i64 v3_0), (.int .i64 v3_1), (.str v3_2), (.sl (xmap e_e5 v3_3)), (.sl (xmap e_e1 v3_4))]))), (5, (.d (.iptr [(.int .i64 v5_0), (.int .i64 v5_1), (.str v5_2), (.sl (xmap e_e5 v5_3)), (.sl (xmap e_e1 v5_4))]))), (6, (.ref ⟨m, [6]⟩ 0)), (7, (.d (.int .i64 v7))), (8, (.ref ⟨m, [8]⟩ 0)), (9, (.d (.int .i64 v9)))], ⟨m, [([6], (.cells [(.d (.int .i64 o6_0)), (.d (.int .i64 o6_1)), (.d (.str o6_2)), (.d (.sl (xmap e_e5 o6_3))), (.d (.sl (xmap e_e1 o6_4)))])), ([8], (.cells [(.d (.int .i64 o8_0)), (.d (.int .i64 o8_1)), (.d (.str o8_2)), (.msl ⟨m, [8, 3]⟩ o8_3_g 0 (xlen (xmap e_e5 o8_3))), (.msl ⟨m, [8, 4]⟩ o8_4_g 0 (xlen (xmap e_e1 o8_4)))])), ([8, 3], (.arr o8_3_g 5 (xmap e_e5 o8_3))), ([8, 4], (.arr o8_4_g 6 (xmap e_e1 o8_4)))]⟩ :: stk⟩
def O_zbb (m : Nat) : R_zbb → Stk → Rk'
 | ⟨r0_0, r0_1, r0_2, r0_3, r0_4⟩, stk => some (.ret (.d (.agg [(.int .i64 r0_0), (.int .i64 r0_1), (.str r0_2), (.sl (xmap e_e5 r0_3)), (.sl (xmap e_e1 r0_4))])), stk)
abbrev H_zbb_2 (m : Nat) (l : T_zbb_2 → Option R_zbb) : Prop := Hd l (A_zbb_2 xat @xmap xlen e_e4 e_e5 e_e1 m ) (O_zbb @xmap e_e5 e_e1 m )
def A_zbb_0 (m : Nat) : T_zbb_0 → Stk → Rk'
 | (v0_0, v0_1, v0_2, v0_3, v0_4, v1, v2_0, v2_1, v2_2, v2_3, v2_4), stk => xat 106 .frz 0 [] ⟨[(0, (.d (.agg [(.int .i64 v0_0), (.int .i64 v0_1), (.str v0_2), (.sl (xmap e_e5 v0_3)), (.sl (xmap e_e1 v0_4))]))), (1, (.d (.sl (xmap e_e4 v1)))), (2, (.d (.agg [(.int .i64 v2_0), (.int .i64 v2_1), (.str v2_2), (.sl (xmap e_e5 v2_3)), (.sl (xmap e_e1 v2_4))])))], ⟨m, []⟩ :: stk⟩
abbrev H_zbb_0 (m : Nat) (l : T_zbb_0 → Option R_zbb) : Prop := Hd l (A_zbb_0 xat @xmap e_e4 e_e5 e_e1 m ) (O_zbb @xmap e_e5 e_e1 m )
abbrev T_zbb_4 : Type := Ls2 × Int × Int × Str × Ls0 × Ls1 × Int × Int × Str × Ls0 × Ls1 × Int × Int × Int × Int × Str × Ls0 × Ls1 × Int × Int × Str × Nat × Ls0 × Nat × Ls1 × Int × Int × Str × Ls0 × Ls1
abbrev T_zbb_7 : Type := Ls2 × Int × Int × Str × Ls0 × Ls1 × Int × Int × Str × Ls0 × Ls1 × Int × Int × Int × Int × Str × Ls0 × Ls1 × Int × Int × Str × Nat × Ls0 × Nat × Ls1
def A_zbb_4 (m : Nat) : T_zbb_4 → Stk → Rk'
 | (v1, v3_0, v3_1, v3_2, v3_3, v3_4, v5_0, v5_1, v5_2, v5_3, v5_4, v7, v9, o6_0, o6_1, o6_2, o6_3, o6_4, o8_0, o8_1, o8_2, o8_3_g, o8_3, o8_4_g, o8_4, o10_0, o10_1, o10_2, o10_3, o10_4), stk => xat 106 .frz 4 [.blk 1, .sub ⟨5, [1, 3, 5, 6, 7, 8, 9], [[6], [8], [8, 3], [8, 4]]⟩, .lp ⟨2, [1, 3, 5, 6, 7, 8, 9], [[6], [8], [8, 3], [8, 4]]⟩, .blk 0, .sub ⟨6, [1, 3, 5, 6, 7, 8], [[6], [8], [8, 3], [8, 4]]⟩] ⟨[(1, (.d (.sl (xmap e_e4 v1)))), (3, (.d (.iptr [(.int .i64 v3_0), (.int .i64 v3_1), (.str v3_2), (.sl (xmap e_e5 v3_3)), (.sl (xmap e_e1 v3_4))]))), (5, (.d (.iptr [(.int .i64 v5_0), (.int .i64 v5_1), (.str v5_2), (.sl (xmap e_e5 v5_3)), (.sl (xmap e_e1 v5_4))]))), (6, (.ref ⟨m, [6]⟩ 0)), (7, (.d (.int .i64 v7))), (8, (.ref ⟨m, [8]⟩ 0)), (9, (.d (.int .i64 v9))), (10, (.ref ⟨m, [10]⟩ 0))], ⟨m, [([6], (.cells [(.d (.int .i64 o6_0)), (.d (.int .i64 o6_1)), (.d (.str o6_2)), (.d (.sl (xmap e_e5 o6_3))), (.d (.sl (xmap e_e1 o6_4)))])), ([8], (.cells [(.d (.int .i64 o8_0)), (.d (.int .i64 o8_1)), (.d (.str o8_2)), (.msl ⟨m, [8, 3]⟩ o8_3_g 0 (xlen (xmap e_e5 o8_3))), (.msl ⟨m, [8, 4]⟩ o8_4_g 0 (xlen (xmap e_e1 o8_4)))])), ([8, 3], (.arr o8_3_g 5 (xmap e_e5 o8_3))), ([8, 4], (.arr o8_4_g 6 (xmap e_e1 o8_4))), ([10], (.cells [(.d (.int .i64 o10_0)), (.d (.int .i64 o10_1)), (.d (.str o10_2)), (.d (.sl (xmap e_e5 o10_3))), (.d (.sl (xmap e_e1 o10_4)))]))]⟩ :: stk⟩
abbrev H_zbb_4 (m : Nat) (l : T_zbb_4 → Option (T_zbb_2 ⊕ R_zbb)) : Prop := Hd l (A_zbb_4 xat @xmap xlen e_e4 e_e5 e_e1 m ) (el (A_zbb_2 xat @xmap xlen e_e4 e_e5 e_e1 m ) (O_zbb @xmap e_e5 e_e1 m ))
def A_zbb_7 (m : Nat) : T_zbb_7 → Stk → Rk'
 | (v1, v3_0, v3_1, v3_2, v3_3, v3_4, v5_0, v5_1, v5_2, v5_3, v5_4, v7, v11, o6_0, o6_1, o6_2, o6_3, o6_4, o8_0, o8_1, o8_2, o8_3_g, o8_3, o8_4_g, o8_4), stk => xat 106 .frz 7 [.lp ⟨7, [1, 3, 5, 6, 7, 8, 11], [[6], [8], [8, 3], [8, 4]]⟩, .blk 2, .sub ⟨11, [6, 8], [[6], [8], [8, 3], [8, 4]]⟩] ⟨[(1, (.d (.sl (xmap e_e4 v1)))), (3, (.d (.iptr [(.int .i64 v3_0), (.int .i64 v3_1), (.str v3_2), (.sl (xmap e_e5 v3_3)), (.sl (xmap e_e1 v3_4))]))), (5, (.d (.iptr [(.int .i64 v5_0), (.int .i64 v5_1), (.str v5_2), (.sl (xmap e_e5 v5_3)), (.sl (xmap e_e1 v5_4))]))), (6, (.ref ⟨m, [6]⟩ 0)), (7, (.d (.int .i64 v7))), (8, (.ref ⟨m, [8]⟩ 0)), (11, (.d (.int .i64 v11)))], ⟨m, [([6], (.cells [(.d (.int .i64 o6_0)), (.d (.int .i64 o6_1)), (.d (.str o6_2)), (.d (.sl (xmap e_e5 o6_3))), (.d (.sl (xmap e_e1 o6_4)))])), ([8], (.cells [(.d (.int .i64 o8_0)), (.d (.int .i64 o8_1)), (.d (.str o8_2)), (.msl ⟨m, [8, 3]⟩ o8_3_g 0 (xlen (xmap e_e5 o8_3))), (.msl ⟨m, [8, 4]⟩ o8_4_g 0 (xlen (xmap e_e1 o8_4)))])), ([8, 3], (.arr o8_3_g 5 (xmap e_e5 o8_3))), ([8, 4], (.arr o8_4_g 6 (xmap e_e1 o8_4)))]⟩ :: stk⟩
abbrev H_zbb_7 (m : Nat) (l : T_zbb_7 → Option R_zbb) : Prop := Hd l (A_zbb_7 xat @xmap xlen e_e4 e_e5 e_e1 m ) (O_zbb @xmap e_e5 e_e1 m )
abbrev T_zbb_9 : Type := Ls2 × Int × Int × Str × Ls0 × Ls1 × Int × Int × Str × Ls0 × Ls1 × Int × Int × Int × Int × Str × Ls0 × Ls1 × Int × Int × Str × Nat × Ls0 × Nat × Ls1 × Str × Int × Int × Str × Ls0 × Ls1
def A_zbb_9 (m : Nat) : T_zbb_9 → Stk → Rk'
 | (v1, v3_0, v3_1, v3_2, v3_3, v3_4, v5_0, v5_1, v5_2, v5_3, v5_4, v7, v11, o6_0, o6_1, o6_2, o6_3, o6_4, o8_0, o8_1, o8_2, o8_3_g, o8_3, o8_4_g, o8_4, o12_0, o12_1, o12_2, o12_3, o12_4, o12_5), stk => xat 106 .frz 9 [.blk 3, .sub ⟨10, [1, 3, 5, 6, 7, 8, 11], [[6], [8], [8, 3], [8, 4]]⟩, .lp ⟨7, [1, 3, 5, 6, 7, 8, 11], [[6], [8], [8, 3], [8, 4]]⟩, .blk 2, .sub ⟨11, [6, 8], [[6], [8], [8, 3], [8, 4]]⟩] ⟨[(1, (.d (.sl (xmap e_e4 v1)))), (3, (.d (.iptr [(.int .i64 v3_0), (.int .i64 v3_1), (.str v3_2), (.sl (xmap e_e5 v3_3)), (.sl (xmap e_e1 v3_4))]))), (5, (.d (.iptr [(.int .i64 v5_0), (.int .i64 v5_1), (.str v5_2), (.sl (xmap e_e5 v5_3)), (.sl (xmap e_e1 v5_4))]))), (6, (.ref ⟨m, [6]⟩ 0)), (7, (.d (.int .i64 v7))), (8, (.ref ⟨m, [8]⟩ 0)), (11, (.d (.int .i64 v11))), (12, (.ref ⟨m, [12]⟩ 0))], ⟨m, [([6], (.cells [(.d (.int .i64 o6_0)), (.d (.int .i64 o6_1)), (.d (.str o6_2)), (.d (.sl (xmap e_e5 o6_3))), (.d (.sl (xmap e_e1 o6_4)))])), ([8], (.cells [(.d (.int .i64 o8_0)), (.d (.int .i64 o8_1)), (.d (.str o8_2)), (.msl ⟨m, [8, 3]⟩ o8_3_g 0 (xlen (xmap e_e5 o8_3))), (.msl ⟨m, [8, 4]⟩ o8_4_g 0 (xlen (xmap e_e1 o8_4)))])), ([8, 3], (.arr o8_3_g 5 (xmap e_e5 o8_3))), ([8, 4], (.arr o8_4_g 6 (xmap e_e1 o8_4))), ([12], (.cells [(.d (.str o12_0)), (.d (.int .i64 o12_1)), (.d (.int .i64 o12_2)), (.d (.str o12_3)), (.d (.sl (xmap e_e5 o12_4))), (.d (.sl (xmap e_e1 o12_5)))]))]⟩ :: stk⟩
abbrev H_zbb_9 (m : Nat) (l : T_zbb_9 → Option (T_zbb_7 ⊕ R_zbb)) : Prop := Hd l (A_zbb_9 xat @xmap xlen e_e4 e_e5 e_e1 m ) (el (A_zbb_7 xat @xmap xlen e_e4 e_e5 e_e1 m ) (O_zbb @xmap e_e5 e_e1 m ))
abbrev T_zbh_0 : Type := Int × Int × Str × Ls0 × Ls1 × Ls2 × Int × Int × Str × Ls0 × Ls1
abbrev R_zbh : Type := S2_ × Int
def A_zbh_0 (m : Nat) : T_zbh_0 → Stk → Rk'
 | (v0_0, v0_1, v0_2, v0_3, v0_4, v1, v2_0, v2_1, v2_2, v2_3, v2_4), stk => xat 67 .frz 0 [] ⟨[(0, (.d (.agg [(.int .i64 v0_0), (.int .i64 v0_1), (.str v0_2), (.sl (xmap e_e5 v0_3)), (.sl (xmap e_e1 v0_4))]))), (1, (.d (.sl (xmap e_e4 v1)))), (2, (.d (.agg [(.int .i64 v2_0), (.int .i64 v2_1), (.str v2_2), (.sl (xmap e_e5 v2_3)), (.sl (xmap e_e1 v2_4))])))], ⟨m, []⟩ :: stk⟩
def O_zbh (m : Nat) : R_zbh → Stk → Rk'
 | (⟨r0_0, r0_1, r0_2, r0_3, r0_4⟩, r1), stk => some (.ret (.d (.tup [(.agg [(.int .i64 r0_0), (.int .i64 r0_1), (.str r0_2), (.sl (xmap e_e5 r0_3)), (.sl (xmap e_e1 r0_4))]), (.int .i64 r1)])), stk)
abbrev H_zbh_0 (m : Nat) (l : T_zbh_0 → Option R_zbh) : Prop := Hd l (A_zbh_0 xat @xmap e_e4 e_e5 e_e1 m ) (O_zbh @xmap e_e5 e_e1 m )
abbrev Y_zbi : Type := S2_ → Ls2 → Option (S2_ × Int)
abbrev Y_zbh : Type := S2_ → Ls2 → S2_ → Option (S2_ × Int)
def C_zbi (c_zbi : S2_ → Ls2 → Option (S2_ × Int)) : Prop := ∀ {v0_0 v0_1 : Int} {v0_2 : Str} {v0_3 : Ls0} {v0_4 : Ls1} {v1 : Ls2} {r0_0 r0_1 : Int} {r0_2 : Str} {r0_3 : Ls0} {r0_4 : Ls1} {r1 : Int}, c_zbi ⟨v0_0, v0_1, v0_2, v0_3, v0_4⟩ v1 = some (⟨r0_0, r0_1, r0_2, r0_3, r0_4⟩, r1) → ∀ (stk : Stk) , xpcall 66 [(.d (.agg [(.int .i64 v0_0), (.int .i64 v0_1), (.str v0_2), (.sl (xmap e_e5 v0_3)), (.sl (xmap e_e1 v0_4))])), (.d (.sl (xmap e_e4 v1)))] stk = some (.d (.tup [(.agg [(.int .i64 r0_0), (.int .i64 r0_1), (.str r0_2), (.sl (xmap e_e5 r0_3)), (.sl (xmap e_e1 r0_4))]), (.int .i64 r1)])) ∧ xfcall 66 [(.d (.agg [(.int .i64 v0_0), (.int .i64 v0_1), (.str v0_2), (.sl (xmap e_e5 v0_3)), (.sl (xmap e_e1 v0_4))])), (.d (.sl (xmap e_e4 v1)))] stk = some (.d (.tup [(.agg [(.int .i64 r0_0), (.int .i64 r0_1), (.str r0_2), (.sl (xmap e_e5 r0_3)), (.sl (xmap e_e1 r0_4))]), (.int .i64 r1)]), stk)
def C_zbh (c_zbh : S2_ → Ls2 → S2_ → Option (S2_ × Int)) : Prop := ∀ {v0_0 v0_1 : Int} {v0_2 : Str} {v0_3 : Ls0} {v0_4 : Ls1} {v1 : Ls2} {v2_0 v2_1 : Int} {v2_2 : Str} {v2_3 : Ls0} {v2_4 : Ls1} {r0_0 r0_1 : Int} {r0_2 : Str} {r0_3 : Ls0} {r0_4 : Ls1} {r1 : Int}, c_zbh ⟨v0_0, v0_1, v0_2, v0_3, v0_4⟩ v1 ⟨v2_0, v2_1, v2_2, v2_3, v2_4⟩ = some (⟨r0_0, r0_1, r0_2, r0_3, r0_4⟩, r1) → ∀ (stk : Stk) , xpcall 67 [(.d (.agg [(.int .i64 v0_0), (.int .i64 v0_1), (.str v0_2), (.sl (xmap e_e5 v0_3)), (.sl (xmap e_e1 v0_4))])), (.d (.sl (xmap e_e4 v1))), (.d (.agg [(.int .i64 v2_0), (.int .i64 v2_1), (.str v2_2), (.sl (xmap e_e5 v2_3)), (.sl (xmap e_e1 v2_4))]))] stk = some (.d (.tup [(.agg [(.int .i64 r0_0), (.int .i64 r0_1), (.str r0_2), (.sl (xmap e_e5 r0_3)), (.sl (xmap e_e1 r0_4))]), (.int .i64 r1)])) ∧ xfcall 67 [(.d (.agg [(.int .i64 v0_0), (.int .i64 v0_1), (.str v0_2), (.sl (xmap e_e5 v0_3)), (.sl (xmap e_e1 v0_4))])), (.d (.sl (xmap e_e4 v1))), (.d (.agg [(.int .i64 v2_0), (.int .i64 v2_1), (.str v2_2), (.sl (xmap e_e5 v2_3)), (.sl (xmap e_e1 v2_4))]))] stk = some (.d (.tup [(.agg [(.int .i64 r0_0), (.int .i64 r0_1), (.str r0_2), (.sl (xmap e_e5 r0_3)), (.sl (xmap e_e1 r0_4))]), (.int .i64 r1)]), stk)
abbrev T_z6_1 : Type := Ls2 × Ls0 × Int × Int × Str × Ls0 × Ls1 × Int × Int × Int × Str × Ls0 × Ls1
abbrev R_z6 : Type := S2_ × Int
abbrev T_z6_0 : Type := Int × Int × Str × Ls0 × Ls1 × Ls2 × Ls0
def A_z6_1 (m : Nat) : T_z6_1 → Stk → Rk'
 | (v1, v2, v3_0, v3_1, v3_2, v3_3, v3_4, v8, o6_0, o6_1, o6_2, o6_3, o6_4), stk => xat 39 .frz 1 [.lp ⟨1, [1, 2, 3, 6, 8], [[6]]⟩, .blk 0, .sub ⟨4, [1, 2, 3, 6], [[6]]⟩] ⟨[(1, (.d (.sl (xmap e_e4 v1)))), (2, (.d (.sl (xmap e_e5 v2)))), (3, (.d (.iptr [(.int .i64 v3_0), (.int .i64 v3_1), (.str v3_2), (.sl (xmap e_e5 v3_3)), (.sl (xmap e_e1 v3_4))]))), (6, (.ref ⟨m, [6]⟩ 0)), (8, (.d (.int .i64 v8)))], ⟨m, [([6], (.cells [(.d (.int .i64 o6_0)), (.d (.int .i64 o6_1)), (.d (.str o6_2)), (.d (.sl (xmap e_e5 o6_3))), (.d (.sl (xmap e_e1 o6_4)))]))]⟩ :: stk⟩
def O_z6 (m : Nat) : R_z6 → Stk → Rk'
 | (⟨r0_0, r0_1, r0_2, r0_3, r0_4⟩, r1), stk => some (.ret (.d (.tup [(.agg [(.int .i64 r0_0), (.int .i64 r0_1), (.str r0_2), (.sl (xmap e_e5 r0_3)), (.sl (xmap e_e1 r0_4))]), (.int .i64 r1)])), stk)
abbrev H_z6_1 (m : Nat) (l : T_z6_1 → Option R_z6) : Prop := Hd l (A_z6_1 xat @xmap e_e4 e_e5 e_e1 m ) (O_z6 @xmap e_e5 e_e1 m )
def A_z6_0 (m : Nat) : T_z6_0 → Stk → Rk'
 | (v0_0, v0_1, v0_2, v0_3, v0_4, v1, v2), stk => xat 39 .frz 0 [] ⟨[(0, (.d (.agg [(.int .i64 v0_0), (.int .i64 v0_1), (.str v0_2), (.sl (xmap e_e5 v0_3)), (.sl (xmap e_e1 v0_4))]))), (1, (.d (.sl (xmap e_e4 v1)))), (2, (.d (.sl (xmap e_e5 v2))))], ⟨m, []⟩ :: stk⟩
abbrev H_z6_0 (m : Nat) (l : T_z6_0 → Option R_z6) : Prop := Hd l (A_z6_0 xat @xmap e_e4 e_e5 e_e1 m ) (O_z6 @xmap e_e5 e_e1 m )
abbrev Y_z3 : Type := S2_ → S2_ → Option (Bool)
def C_z3 (c_z3 : S2_ → S2_ → Option (Bool)) : Prop := ∀ {v0_0 v0_1 : Int} {v0_2 : Str} {v0_3 : Ls0} {v0_4 : Ls1} {v1_0 v1_1 : Int} {v1_2 : Str} {v1_3 : Ls0} {v1_4 : Ls1} {r0 : Bool}, c_z3 ⟨v0_0, v0_1, v0_2, v0_3, v0_4⟩ ⟨v1_0, v1_1, v1_2, v1_3, v1_4⟩ = some r0 → ∀ (stk : Stk) , xpcall 22 [(.d (.agg [(.int .i64 v0_0), (.int .i64 v0_1), (.str v0_2), (.sl (xmap e_e5 v0_3)), (.sl (xmap e_e1 v0_4))])), (.d (.agg [(.int .i64 v1_0), (.int .i64 v1_1), (.str v1_2), (.sl (xmap e_e5 v1_3)), (.sl (xmap e_e1 v1_4))]))] stk = some (.d (.bool r0)) ∧ xfcall 22 [(.d (.agg [(.int .i64 v0_0), (.int .i64 v0_1), (.str v0_2), (.sl (xmap e_e5 v0_3)), (.sl (xmap e_e1 v0_4))])), (.d (.agg [(.int .i64 v1_0), (.int .i64 v1_1), (.str v1_2), (.sl (xmap e_e5 v1_3)), (.sl (xmap e_e1 v1_4))]))] stk = some (.d (.bool r0), stk)
abbrev T_z3_2 : Type := Int × Int × Str × Ls0 × Ls1 × Int × Int × Str × Ls0 × Ls1 × Int
abbrev R_z3 : Type := Bool
abbrev T_z3_0 : Type := Int × Int × Str × Ls0 × Ls1 × Int × Int × Str × Ls0 × Ls1
def A_z3_2 (m : Nat) : T_z3_2 → Stk → Rk'
 | (v2_0, v2_1, v2_2, v2_3, v2_4, v3_0, v3_1, v3_2, v3_3, v3_4, v5), stk => xat 22 .frz 2 [.lp ⟨2, [2, 3, 5], []⟩, .blk 0, .sub ⟨5, [2, 3], []⟩] ⟨[(2, (.d (.iptr [(.int .i64 v2_0), (.int .i64 v2_1), (.str v2_2), (.sl (xmap e_e5 v2_3)), (.sl (xmap e_e1 v2_4))]))), (3, (.d (.iptr [(.int .i64 v3_0), (.int .i64 v3_1), (.str v3_2), (.sl (xmap e_e5 v3_3)), (.sl (xmap e_e1 v3_4))]))), (5, (.d (.int .i64 v5)))], ⟨m, []⟩ :: stk⟩
def O_z3 (m : Nat) : R_z3 → Stk → Rk'
 | r0, stk => some (.ret (.d (.bool r0)), stk)
abbrev H_z3_2 (m : Nat) (l : T_z3_2 → Option R_z3) : Prop := Hd l (A_z3_2 xat @xmap e_e5 e_e1 m ) (O_z3 m )
def A_z3_0 (m : Nat) : T_z3_0 → Stk → Rk'
 | (v0_0, v0_1, v0_2, v0_3, v0_4, v1_0, v1_1, v1_2, v1_3, v1_4), stk => xat 22 .frz 0 [] ⟨[(0, (.d (.agg [(.int .i64 v0_0), (.int .i64 v0_1), (.str v0_2), (.sl (xmap e_e5 v0_3)), (.sl (xmap e_e1 v0_4))]))), (1, (.d (.agg [(.int .i64 v1_0), (.int .i64 v1_1), (.str v1_2), (.sl (xmap e_e5 v1_3)), (.sl (xmap e_e1 v1_4))])))], ⟨m, []⟩ :: stk⟩
abbrev H_z3_0 (m : Nat) (l : T_z3_0 → Option R_z3) : Prop := Hd l (A_z3_0 xat @xmap e_e5 e_e1 m ) (O_z3 m )
abbrev T_z3_6 : Type := Int × Int × Str × Ls0 × Ls1 × Int × Int × Str × Ls0 × Ls1 × Int
def A_z3_6 (m : Nat) : T_z3_6 → Stk → Rk'
 | (v2_0, v2_1, v2_2, v2_3, v2_4, v3_0, v3_1, v3_2, v3_3, v3_4, v6), stk => xat 22 .frz 6 [.lp ⟨6, [2, 3, 6], []⟩, .blk 2, .sub ⟨9, [], []⟩] ⟨[(2, (.d (.iptr [(.int .i64 v2_0), (.int .i64 v2_1), (.str v2_2), (.sl (xmap e_e5 v2_3)), (.sl (xmap e_e1 v2_4))]))), (3, (.d (.iptr [(.int .i64 v3_0), (.int .i64 v3_1), (.str v3_2), (.sl (xmap e_e5 v3_3)), (.sl (xmap e_e1 v3_4))]))), (6, (.d (.int .i64 v6)))], ⟨m, []⟩ :: stk⟩
abbrev H_z3_6 (m : Nat) (l : T_z3_6 → Option R_z3) : Prop := Hd l (A_z3_6 xat @xmap e_e5 e_e1 m ) (O_z3 m )
abbrev Y_zo : Type := Option (Bool)
abbrev Y_z0 : Type := S2_ → Int → Option (Bool)
abbrev Y_z7 : Type := Ls2 → Option (Bool)
abbrev Y_zcf : Type := S2_ → Ls2 → Ls0 → Option (S2_ × Int)
abbrev Y_z6 : Type := S2_ → Ls2 → Ls0 → Option (S2_ × Int)
def C_zo (c_zo : Option (Bool)) : Prop := ∀ {r0 : Bool}, c_zo = some r0 → ∀ (stk : Stk) , xpcall 15 [] stk = some (.d (.bool r0)) ∧ xfcall 15 [] stk = some (.d (.bool r0), stk)
def C_z0 (c_z0 : S2_ → Int → Option (Bool)) : Prop := ∀ {v0_0 v0_1 : Int} {v0_2 : Str} {v0_3 : Ls0} {v0_4 : Ls1} {v1 : Int} {r0 : Bool}, c_z0 ⟨v0_0, v0_1, v0_2, v0_3, v0_4⟩ v1 = some r0 → ∀ (stk : Stk) , xpcall 25 [(.d (.agg [(.int .i64 v0_0), (.int .i64 v0_1), (.str v0_2), (.sl (xmap e_e5 v0_3)), (.sl (xmap e_e1 v0_4))])), (.d (.int .i64 v1))] stk = some (.d (.bool r0)) ∧ xfcall 25 [(.d (.agg [(.int .i64 v0_0), (.int .i64 v0_1), (.str v0_2), (.sl (xmap e_e5 v0_3)), (.sl (xmap e_e1 v0_4))])), (.d (.int .i64 v1))] stk = some (.d (.bool r0), stk)
def C_z7 (c_z7 : Ls2 → Option (Bool)) : Prop := ∀ {v0 : Ls2} {r0 : Bool}, c_z7 v0 = some r0 → ∀ (stk : Stk) , xpcall 16 [(.d (.sl (xmap e_e4 v0)))] stk = some (.d (.bool r0)) ∧ xfcall 16 [(.d (.sl (xmap e_e4 v0)))] stk = some (.d (.bool r0), stk)
def C_zcf (c_zcf : S2_ → Ls2 → Ls0 → Option (S2_ × Int)) : Prop := ∀ {v0_0 v0_1 : Int} {v0_2 : Str} {v0_3 : Ls0} {v0_4 : Ls1} {v1 : Ls2} {v2 : Ls0} {r0_0 r0_1 : Int} {r0_2 : Str} {r0_3 : Ls0} {r0_4 : Ls1} {r1 : Int}, c_zcf ⟨v0_0, v0_1, v0_2, v0_3, v0_4⟩ v1 v2 = some (⟨r0_0, r0_1, r0_2, r0_3, r0_4⟩, r1) → ∀ (stk : Stk) , xpcall 38 [(.d (.agg [(.int .i64 v0_0), (.int .i64 v0_1), (.str v0_2), (.sl (xmap e_e5 v0_3)), (.sl (xmap e_e1 v0_4))])), (.d (.sl (xmap e_e4 v1))), (.d (.sl (xmap e_e5 v2)))] stk = some (.d (.tup [(.agg [(.int .i64 r0_0), (.int .i64 r0_1), (.str r0_2), (.sl (xmap e_e5 r0_3)), (.sl (xmap e_e1 r0_4))]), (.int .i64 r1)])) ∧ xfcall 38 [(.d (.agg [(.int .i64 v0_0), (.int .i64 v0_1), (.str v0_2), (.sl (xmap e_e5 v0_3)), (.sl (xmap e_e1 v0_4))])), (.d (.sl (xmap e_e4 v1))), (.d (.sl (xmap e_e5 v2)))] stk = some (.d (.tup [(.agg [(.int .i64 r0_0), (.int .i64 r0_1), (.str r0_2), (.sl (xmap e_e5 r0_3)), (.sl (xmap e_e1 r0_4))]), (.int .i64 r1)]), stk)
def C_z6 (c_z6 : S2_ → Ls2 → Ls0 → Option (S2_ × Int)) : Prop := ∀ {v0_0 v0_1 : Int} {v0_2 : Str} {v0_3 : Ls0} {v0_4 : Ls1} {v1 : Ls2} {v2 : Ls0} {r0_0 r0_1 : Int} {r0_2 : Str} {r0_3 : Ls0} {r0_4 : Ls1} {r1 : Int}, c_z6 ⟨v0_0, v0_1, v0_2, v0_3, v0_4⟩ v1 v2 = some (⟨r0_0, r0_1, r0_2, r0_3, r0_4⟩, r1) → ∀ (stk : Stk) , xpcall 39 [(.d (.agg [(.int .i64 v0_0), (.int .i64 v0_1), (.str v0_2), (.sl (xmap e_e5 v0_3)), (.sl (xmap e_e1 v0_4))])), (.d (.sl (xmap e_e4 v1))), (.d (.sl (xmap e_e5 v2)))] stk = some (.d (.tup [(.agg [(.int .i64 r0_0), (.int .i64 r0_1), (.str r0_2), (.sl (xmap e_e5 r0_3)), (.sl (xmap e_e1 r0_4))]), (.int .i64 r1)])) ∧ xfcall 39 [(.d (.agg [(.int .i64 v0_0), (.int .i64 v0_1), (.str v0_2), (.sl (xmap e_e5 v0_3)), (.sl (xmap e_e1 v0_4))])), (.d (.sl (xmap e_e4 v1))), (.d (.sl (xmap e_e5 v2)))] stk = some (.d (.tup [(.agg [(.int .i64 r0_0), (.int .i64 r0_1), (.str r0_2), (.sl (xmap e_e5 r0_3)), (.sl (xmap e_e1 r0_4))]), (.int .i64 r1)]), stk)
abbrev T_zg_0 : Type := Int × Int × Str × Ls0 × Ls1 × Ls2 × Ls0
abbrev R_zg : Type := Bool
def A_zg_0 (m : Nat) : T_zg_0 → Stk → Rk'
 | (v0_0, v0_1, v0_2, v0_3, v0_4, v1, v2), stk => xat 9 .frz 0 [] ⟨[(0, (.d (.agg [(.int .i64 v0_0), (.int .i64 v0_1), (.str v0_2), (.sl (xmap e_e5 v0_3)), (.sl (xmap e_e1 v0_4))]))), (1, (.d (.sl (xmap e_e4 v1)))), (2, (.d (.sl (xmap e_e5 v2))))], ⟨m, []⟩ :: stk⟩
def O_zg (m : Nat) : R_zg → Stk → Rk'
 | r0, stk => some (.ret (.d (.bool r0)), stk)
abbrev H_zg_0 (m : Nat) (l : T_zg_0 → Option R_zg) : Prop := Hd l (A_zg_0 xat @xmap e_e4 e_e5 e_e1 m ) (O_zg m )
def C_zg (c_zg : S2_ → Ls2 → Ls0 → Option (Bool)) : Prop := ∀ {v0_0 v0_1 : Int} {v0_2 : Str} {v0_3 : Ls0} {v0_4 : Ls1} {v1 : Ls2} {v2 : Ls0} {r0 : Bool}, c_zg ⟨v0_0, v0_1, v0_2, v0_3, v0_4⟩ v1 v2 = some r0 → ∀ (stk : Stk) , xpcall 9 [(.d (.agg [(.int .i64 v0_0), (.int .i64 v0_1), (.str v0_2), (.sl (xmap e_e5 v0_3)), (.sl (xmap e_e1 v0_4))])), (.d (.sl (xmap e_e4 v1))), (.d (.sl (xmap e_e5 v2)))] stk = some (.d (.bool r0)) ∧ xfcall 9 [(.d (.agg [(.int .i64 v0_0), (.int .i64 v0_1), (.str v0_2), (.sl (xmap e_e5 v0_3)), (.sl (xmap e_e1 v0_4))])), (.d (.sl (xmap e_e4 v1))), (.d (.sl (xmap e_e5 v2)))] stk = some (.d (.bool r0), stk)
end
end Go.Abs.T
