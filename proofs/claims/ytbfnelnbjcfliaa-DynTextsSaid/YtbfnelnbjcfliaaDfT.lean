import Derived.Test.YtbfnelnbjcfliaaIrT
set_option linter.unusedVariables false
namespace Go.Abs.T
set_option maxRecDepth 100000
mutual
inductive S_any where
  | n
  | c2 (x : Int)
  | c3 (x : Int)
  | c4 (x : Bool)
  | c9 (x : Str)
  | c15
  | c42 (x : (List S_any))
  | c44 (x : (List S_dyn_Member))
  | c49
  | c52
inductive S_dyn_Member where
  | mk (key : Str) (v : S_any)
end
mutual
inductive S_api_Value where
  | mk (kind : Int) (n : Int) (s : Str) (l : (List S_api_Value)) (f : (List S_api_Pair))
inductive S_api_Pair where
  | mk (key : Str) (v : S_api_Value)
end
abbrev Ls0 := List S_api_Value
abbrev Ls1 := List S_api_Pair
abbrev Ls2 := List S_any
abbrev Ls3 := List S_dyn_Member
abbrev Kl := List Nat
abbrev NE (n : Nat) (k : Kl) (n' : Nat) (k' : Kl) : Prop := (⟨n, k⟩ : Lab) ≠ ⟨n', k'⟩
section
variable (xat : AtF) (xpcall : FuncId → List V → Stk → Option V) (xfcall : FuncId → List V → Stk → Option (V × Stk)) (xkcall : FuncId → List (List Nat) → List V → Stk → Option (V × Level × Stk)) (xmap : {α : Type} → (α → D) → List α → List D) (xlen : List D → Nat) (xmapE : {α : Type} → (α → D) → List (Str × Nat × α) → List (D × Nat × V)) (xsetO : Stk → Lab → O → Stk) (e_any : S_any → D) (e_dyn_Member : S_dyn_Member → D) (e_api_Value : S_api_Value → D) (e_api_Pair : S_api_Pair → D) (e_string : Str → D)
abbrev T_dyn_Kind_1 : Type := Unit
abbrev R_dyn_Kind : Type := Int
abbrev T_dyn_Kind_0 : Type := S_any
def A_dyn_Kind_1 (m : Nat)   : T_dyn_Kind_1 → Stk → Rk'
 | (), stk => xat 12 .frz 1 [] ⟨[], ⟨m, []⟩ :: stk⟩
def O_dyn_Kind (m : Nat)   : R_dyn_Kind → Stk → Rk'
 | r0, stk => some (.ret (.d (.int .i64 r0)), stk)
abbrev H_dyn_Kind_1 (m : Nat)   (l : T_dyn_Kind_1 → Option R_dyn_Kind) : Prop := Hd l (A_dyn_Kind_1 xat m  ) (O_dyn_Kind  m  )
def A_dyn_Kind_0 (m : Nat)   : T_dyn_Kind_0 → Stk → Rk'
 | v0, stk => xat 12 .frz 0 [] ⟨[(0, (.d (e_any v0)))], ⟨m, []⟩ :: stk⟩
abbrev H_dyn_Kind_0 (m : Nat)   (l : T_dyn_Kind_0 → Option R_dyn_Kind) : Prop := Hd l (A_dyn_Kind_0 xat e_any m  ) (O_dyn_Kind  m  )
abbrev Y_dyn_Kind : Type := S_any → Option (Int)
def C_dyn_Kind (c_dyn_Kind : S_any → Option (Int)) : Prop := ∀ {v0 : S_any} {r0 : Int}, c_dyn_Kind v0 = some r0 → ∀ (stk : Stk) , xpcall 12 [(.d (e_any v0))] stk = some (.d (.int .i64 r0)) ∧ xfcall 12 [(.d (e_any v0))] stk = some (.d (.int .i64 r0), stk)
abbrev T_cascadelaw04_awake_0 : Type := Unit
abbrev R_cascadelaw04_awake : Type := Bool
def A_cascadelaw04_awake_0 (m : Nat)   : T_cascadelaw04_awake_0 → Stk → Rk'
 | (), stk => xat 5 .frz 0 [] ⟨[], ⟨m, []⟩ :: stk⟩
def O_cascadelaw04_awake (m : Nat)   : R_cascadelaw04_awake → Stk → Rk'
 | r0, stk => some (.ret (.d (.bool r0)), stk)
abbrev H_cascadelaw04_awake_0 (m : Nat)   (l : T_cascadelaw04_awake_0 → Option R_cascadelaw04_awake) : Prop := Hd l (A_cascadelaw04_awake_0 xat m  ) (O_cascadelaw04_awake  m  )
abbrev Y_cascaderef03_few : Type := S_api_Value → Int → Option (Int)
def C_cascaderef03_few (c_cascaderef03_few : S_api_Value → Int → Option (Int)) : Prop := ∀ {v0_0 v0_1 : Int} {v0_2 : Str} {v0_3 : Ls0} {v0_4 : Ls1} {v1 r0 : Int}, c_cascaderef03_few ⟨v0_0, v0_1, v0_2, v0_3, v0_4⟩ v1 = some r0 → ∀ (stk : Stk) , xpcall 13 [(.d (.agg [(.int .i64 v0_0), (.int .i64 v0_1), (.str v0_2), (.sl (xmap e_api_Value v0_3)), (.sl (xmap e_api_Pair v0_4))])), (.d (.int .i64 v1))] stk = some (.d (.int .i64 r0)) ∧ xfcall 13 [(.d (.agg [(.int .i64 v0_0), (.int .i64 v0_1), (.str v0_2), (.sl (xmap e_api_Value v0_3)), (.sl (xmap e_api_Pair v0_4))])), (.d (.int .i64 v1))] stk = some (.d (.int .i64 r0), stk)
abbrev T_cascaderef03_few_2 : Type := Int × Int × Int × Str × Ls0 × Ls1 × Int
abbrev R_cascaderef03_few : Type := Int
abbrev T_cascaderef03_few_0 : Type := Int × Int × Str × Ls0 × Ls1 × Int
def A_cascaderef03_few_2 (m : Nat)   : T_cascaderef03_few_2 → Stk → Rk'
 | (v1, v2_0, v2_1, v2_2, v2_3, v2_4, v5), stk => xat 13 .frz 2 [.lp ⟨2, [1, 2, 5], []⟩, .blk 0, .sub ⟨5, [1, 2], []⟩] ⟨[(1, (.d (.int .i64 v1))), (2, (.d (.iptr [(.int .i64 v2_0), (.int .i64 v2_1), (.str v2_2), (.sl (xmap e_api_Value v2_3)), (.sl (xmap e_api_Pair v2_4))]))), (5, (.d (.int .i64 v5)))], ⟨m, []⟩ :: stk⟩
def O_cascaderef03_few (m : Nat)   : R_cascaderef03_few → Stk → Rk'
 | r0, stk => some (.ret (.d (.int .i64 r0)), stk)
abbrev H_cascaderef03_few_2 (m : Nat)   (l : T_cascaderef03_few_2 → Option R_cascaderef03_few) : Prop := Hd l (A_cascaderef03_few_2 xat @xmap e_api_Value e_api_Pair m  ) (O_cascaderef03_few  m  )
def A_cascaderef03_few_0 (m : Nat)   : T_cascaderef03_few_0 → Stk → Rk'
 | (v0_0, v0_1, v0_2, v0_3, v0_4, v1), stk => xat 13 .frz 0 [] ⟨[(0, (.d (.agg [(.int .i64 v0_0), (.int .i64 v0_1), (.str v0_2), (.sl (xmap e_api_Value v0_3)), (.sl (xmap e_api_Pair v0_4))]))), (1, (.d (.int .i64 v1)))], ⟨m, []⟩ :: stk⟩
abbrev H_cascaderef03_few_0 (m : Nat)   (l : T_cascaderef03_few_0 → Option R_cascaderef03_few) : Prop := Hd l (A_cascaderef03_few_0 xat @xmap e_api_Value e_api_Pair m  ) (O_cascaderef03_few  m  )
abbrev T_cascaderef03_few_5 : Type := Int × Int × Int × Str × Ls0 × Ls1
def A_cascaderef03_few_5 (m : Nat)   : T_cascaderef03_few_5 → Stk → Rk'
 | (v1, v2_0, v2_1, v2_2, v2_3, v2_4), stk => xat 13 .frz 5 [] ⟨[(1, (.d (.int .i64 v1))), (2, (.d (.iptr [(.int .i64 v2_0), (.int .i64 v2_1), (.str v2_2), (.sl (xmap e_api_Value v2_3)), (.sl (xmap e_api_Pair v2_4))])))], ⟨m, []⟩ :: stk⟩
abbrev H_cascaderef03_few_5 (m : Nat)   (l : T_cascaderef03_few_5 → Option R_cascaderef03_few) : Prop := Hd l (A_cascaderef03_few_5 xat @xmap e_api_Value e_api_Pair m  ) (O_cascaderef03_few  m  )
abbrev T_cascaderef03_few_6 : Type := Int × Int × Int × Str × Ls0 × Ls1 × Int
def A_cascaderef03_few_6 (m : Nat)   : T_cascaderef03_few_6 → Stk → Rk'
 | (v1, v2_0, v2_1, v2_2, v2_3, v2_4, v6), stk => xat 13 .frz 6 [.lp ⟨6, [1, 2, 6], []⟩, .blk 2, .sub ⟨10, [1], []⟩] ⟨[(1, (.d (.int .i64 v1))), (2, (.d (.iptr [(.int .i64 v2_0), (.int .i64 v2_1), (.str v2_2), (.sl (xmap e_api_Value v2_3)), (.sl (xmap e_api_Pair v2_4))]))), (6, (.d (.int .i64 v6)))], ⟨m, []⟩ :: stk⟩
abbrev H_cascaderef03_few_6 (m : Nat)   (l : T_cascaderef03_few_6 → Option R_cascaderef03_few) : Prop := Hd l (A_cascaderef03_few_6 xat @xmap e_api_Value e_api_Pair m  ) (O_cascaderef03_few  m  )
abbrev T_cascaderef03_few_10 : Type := Int
def A_cascaderef03_few_10 (m : Nat)   : T_cascaderef03_few_10 → Stk → Rk'
 | v1, stk => xat 13 .frz 10 [] ⟨[(1, (.d (.int .i64 v1)))], ⟨m, []⟩ :: stk⟩
abbrev H_cascaderef03_few_10 (m : Nat)   (l : T_cascaderef03_few_10 → Option R_cascaderef03_few) : Prop := Hd l (A_cascaderef03_few_10 xat m  ) (O_cascaderef03_few  m  )
abbrev T_cascaderef03_Few_0 : Type := Int × Int × Str × Ls0 × Ls1 × Int
abbrev R_cascaderef03_Few : Type := Bool
def A_cascaderef03_Few_0 (m : Nat)   : T_cascaderef03_Few_0 → Stk → Rk'
 | (v0_0, v0_1, v0_2, v0_3, v0_4, v1), stk => xat 6 .frz 0 [] ⟨[(0, (.d (.agg [(.int .i64 v0_0), (.int .i64 v0_1), (.str v0_2), (.sl (xmap e_api_Value v0_3)), (.sl (xmap e_api_Pair v0_4))]))), (1, (.d (.int .i64 v1)))], ⟨m, []⟩ :: stk⟩
def O_cascaderef03_Few (m : Nat)   : R_cascaderef03_Few → Stk → Rk'
 | r0, stk => some (.ret (.d (.bool r0)), stk)
abbrev H_cascaderef03_Few_0 (m : Nat)   (l : T_cascaderef03_Few_0 → Option R_cascaderef03_Few) : Prop := Hd l (A_cascaderef03_Few_0 xat @xmap e_api_Value e_api_Pair m  ) (O_cascaderef03_Few  m  )
abbrev Y_dyn_to : Type := S_api_Value → Option (S_any)
def C_dyn_to (c_dyn_to : S_api_Value → Option (S_any)) : Prop := ∀ {v0_0 v0_1 : Int} {v0_2 : Str} {v0_3 : Ls0} {v0_4 : Ls1} {r0 : S_any}, c_dyn_to ⟨v0_0, v0_1, v0_2, v0_3, v0_4⟩ = some r0 → ∀ (stk : Stk) , xpcall 16 [(.d (.agg [(.int .i64 v0_0), (.int .i64 v0_1), (.str v0_2), (.sl (xmap e_api_Value v0_3)), (.sl (xmap e_api_Pair v0_4))]))] stk = some (.d (e_any r0)) ∧ xfcall 16 [(.d (.agg [(.int .i64 v0_0), (.int .i64 v0_1), (.str v0_2), (.sl (xmap e_api_Value v0_3)), (.sl (xmap e_api_Pair v0_4))]))] stk = some (.d (e_any r0), stk)
abbrev T_dyn_to_1 : Type := Nat × Ls2 × Ls0 × Int × Int
abbrev R_dyn_to : Type := S_any
abbrev T_dyn_to_5 : Type := Nat × Ls3 × Ls1 × Int × Int
abbrev T_dyn_to_0 : Type := Int × Int × Str × Ls0 × Ls1
def A_dyn_to_1 (m : Nat)   : T_dyn_to_1 → Stk → Rk'
 | (o29_g, o29, v31, v32, v33), stk => xat 16 .frz 1 [.lp ⟨1, [3, 31, 32, 33], [[29]]⟩, .blk 1, .sub ⟨4, [3], [[29]]⟩, .blk 0, .sub ⟨9, [], []⟩] ⟨[(3, (.msl ⟨m, [29]⟩ o29_g 0 (xlen (xmap e_any o29)))), (31, (.d (.sl (xmap e_api_Value v31)))), (32, (.d (.int .i64 v32))), (33, (.d (.int .i64 v33)))], ⟨m, [([29], (.arr o29_g 1 (xmap e_any o29)))]⟩ :: stk⟩
def O_dyn_to (m : Nat)   : R_dyn_to → Stk → Rk'
 | r0, stk => some (.ret (.d (e_any r0)), stk)
abbrev H_dyn_to_1 (m : Nat)   (l : T_dyn_to_1 → Option R_dyn_to) : Prop := Hd l (A_dyn_to_1 xat @xmap xlen e_any e_api_Value m  ) (O_dyn_to e_any m  )
def A_dyn_to_5 (m : Nat)   : T_dyn_to_5 → Stk → Rk'
 | (o47_g, o47, v49, v50, v51), stk => xat 16 .frz 5 [.lp ⟨5, [6, 49, 50, 51], [[47]]⟩, .blk 3, .sub ⟨8, [6], [[47]]⟩, .blk 0, .sub ⟨9, [], []⟩] ⟨[(6, (.msl ⟨m, [47]⟩ o47_g 0 (xlen (xmap e_dyn_Member o47)))), (49, (.d (.sl (xmap e_api_Pair v49)))), (50, (.d (.int .i64 v50))), (51, (.d (.int .i64 v51)))], ⟨m, [([47], (.arr o47_g 2 (xmap e_dyn_Member o47)))]⟩ :: stk⟩
abbrev H_dyn_to_5 (m : Nat)   (l : T_dyn_to_5 → Option R_dyn_to) : Prop := Hd l (A_dyn_to_5 xat @xmap xlen e_dyn_Member e_api_Pair m  ) (O_dyn_to e_any m  )
def A_dyn_to_0 (m : Nat)   : T_dyn_to_0 → Stk → Rk'
 | (v0_0, v0_1, v0_2, v0_3, v0_4), stk => xat 16 .frz 0 [] ⟨[(0, (.d (.agg [(.int .i64 v0_0), (.int .i64 v0_1), (.str v0_2), (.sl (xmap e_api_Value v0_3)), (.sl (xmap e_api_Pair v0_4))])))], ⟨m, []⟩ :: stk⟩
abbrev H_dyn_to_0 (m : Nat)   (l : T_dyn_to_0 → Option R_dyn_to) : Prop := Hd l (A_dyn_to_0 xat @xmap e_api_Value e_api_Pair m  ) (O_dyn_to e_any m  )
abbrev Y_dyn_Odd : Type := S_api_Value → Option (S_any)
def C_dyn_Odd (c_dyn_Odd : S_api_Value → Option (S_any)) : Prop := ∀ {v0_0 v0_1 : Int} {v0_2 : Str} {v0_3 : Ls0} {v0_4 : Ls1} {r0 : S_any}, c_dyn_Odd ⟨v0_0, v0_1, v0_2, v0_3, v0_4⟩ = some r0 → ∀ (stk : Stk) , xpcall 8 [(.d (.agg [(.int .i64 v0_0), (.int .i64 v0_1), (.str v0_2), (.sl (xmap e_api_Value v0_3)), (.sl (xmap e_api_Pair v0_4))]))] stk = some (.d (e_any r0)) ∧ xfcall 8 [(.d (.agg [(.int .i64 v0_0), (.int .i64 v0_1), (.str v0_2), (.sl (xmap e_api_Value v0_3)), (.sl (xmap e_api_Pair v0_4))]))] stk = some (.d (e_any r0), stk)
abbrev T_dyn_Odd_1 : Type := Nat × Ls2 × Ls0 × Int × Int
abbrev R_dyn_Odd : Type := S_any
abbrev T_dyn_Odd_5 : Type := Nat × Ls3 × Ls1 × Int × Int
abbrev T_dyn_Odd_0 : Type := Int × Int × Str × Ls0 × Ls1
def A_dyn_Odd_1 (m : Nat)   : T_dyn_Odd_1 → Stk → Rk'
 | (o13_g, o13, v15, v16, v17), stk => xat 8 .frz 1 [.lp ⟨1, [3, 15, 16, 17], [[13]]⟩, .blk 1, .sub ⟨4, [3], [[13]]⟩, .blk 0, .sub ⟨9, [1], []⟩] ⟨[(3, (.msl ⟨m, [13]⟩ o13_g 0 (xlen (xmap e_any o13)))), (15, (.d (.sl (xmap e_api_Value v15)))), (16, (.d (.int .i64 v16))), (17, (.d (.int .i64 v17)))], ⟨m, [([13], (.arr o13_g 1 (xmap e_any o13)))]⟩ :: stk⟩
def O_dyn_Odd (m : Nat)   : R_dyn_Odd → Stk → Rk'
 | r0, stk => some (.ret (.d (e_any r0)), stk)
abbrev H_dyn_Odd_1 (m : Nat)   (l : T_dyn_Odd_1 → Option R_dyn_Odd) : Prop := Hd l (A_dyn_Odd_1 xat @xmap xlen e_any e_api_Value m  ) (O_dyn_Odd e_any m  )
def A_dyn_Odd_5 (m : Nat)   : T_dyn_Odd_5 → Stk → Rk'
 | (o31_g, o31, v33, v34, v35), stk => xat 8 .frz 5 [.lp ⟨5, [6, 33, 34, 35], [[31]]⟩, .blk 3, .sub ⟨8, [6], [[31]]⟩, .blk 0, .sub ⟨9, [1], []⟩] ⟨[(6, (.msl ⟨m, [31]⟩ o31_g 0 (xlen (xmap e_dyn_Member o31)))), (33, (.d (.sl (xmap e_api_Pair v33)))), (34, (.d (.int .i64 v34))), (35, (.d (.int .i64 v35)))], ⟨m, [([31], (.arr o31_g 2 (xmap e_dyn_Member o31)))]⟩ :: stk⟩
abbrev H_dyn_Odd_5 (m : Nat)   (l : T_dyn_Odd_5 → Option R_dyn_Odd) : Prop := Hd l (A_dyn_Odd_5 xat @xmap xlen e_dyn_Member e_api_Pair m  ) (O_dyn_Odd e_any m  )
def A_dyn_Odd_0 (m : Nat)   : T_dyn_Odd_0 → Stk → Rk'
 | (v0_0, v0_1, v0_2, v0_3, v0_4), stk => xat 8 .frz 0 [] ⟨[(0, (.d (.agg [(.int .i64 v0_0), (.int .i64 v0_1), (.str v0_2), (.sl (xmap e_api_Value v0_3)), (.sl (xmap e_api_Pair v0_4))])))], ⟨m, []⟩ :: stk⟩
abbrev H_dyn_Odd_0 (m : Nat)   (l : T_dyn_Odd_0 → Option R_dyn_Odd) : Prop := Hd l (A_dyn_Odd_0 xat @xmap e_api_Value e_api_Pair m  ) (O_dyn_Odd e_any m  )
abbrev T_dyn_caught_1 : Type := Unit
abbrev R_dyn_caught : Type := Int
abbrev T_dyn_caught_0 : Type := S_any
def A_dyn_caught_1 (m : Nat)   : T_dyn_caught_1 → Stk → Rk'
 | (), stk => xat 15 .frz 1 [] ⟨[], ⟨m, []⟩ :: stk⟩
def O_dyn_caught (m : Nat)   : R_dyn_caught → Stk → Rk'
 | r0, stk => some (.ret (.d (.int .i64 r0)), stk)
abbrev H_dyn_caught_1 (m : Nat)   (l : T_dyn_caught_1 → Option R_dyn_caught) : Prop := Hd l (A_dyn_caught_1 xat m  ) (O_dyn_caught  m  )
def A_dyn_caught_0 (m : Nat)   : T_dyn_caught_0 → Stk → Rk'
 | v0, stk => xat 15 .frz 0 [] ⟨[(0, (.d (e_any v0)))], ⟨m, []⟩ :: stk⟩
abbrev H_dyn_caught_0 (m : Nat)   (l : T_dyn_caught_0 → Option R_dyn_caught) : Prop := Hd l (A_dyn_caught_0 xat e_any m  ) (O_dyn_caught  m  )
abbrev Y_dyn_caught : Type := S_any → Option (Int)
def C_dyn_caught (c_dyn_caught : S_any → Option (Int)) : Prop := ∀ {v0 : S_any} {r0 : Int}, c_dyn_caught v0 = some r0 → ∀ (stk : Stk) , xpcall 15 [(.d (e_any v0))] stk = some (.d (.int .i64 r0)) ∧ xfcall 15 [(.d (e_any v0))] stk = some (.d (.int .i64 r0), stk)
abbrev T_dyn_Texts_1_h__0_0 : Type := S_any × Int × (List Str)
abbrev R_dyn_Texts_1_h__0 : Type := Int × (List Str)
def A_dyn_Texts_1_h__0_0 (m : Nat) (n0 n1 : Nat) (k0 k1 : Kl)  : T_dyn_Texts_1_h__0_0 → Stk → Rk'
 | (v0, L0_0, L1_0), stk => xat 1000014 .frz 0 [] ⟨[(2, (.d (e_any v0))), (0, (.ref ⟨n0, k0⟩ 0)), (1, (.ref ⟨n1, k1⟩ 0))], ⟨m, []⟩ :: stk⟩
def O_dyn_Texts_1_h__0 (m : Nat) (n0 n1 : Nat) (k0 k1 : Kl)  : R_dyn_Texts_1_h__0 → Stk → Rk'
 | (r_w0_0, r_w1_0), stk => some (.ret (.d (.tup [])), (xsetO (xsetO stk ⟨n0, k0⟩ (.cells [(.d (.int .i64 r_w0_0))])) ⟨n1, k1⟩ (.cells [(.d (.sl (xmap e_string r_w1_0)))])))
def G_dyn_Texts_1_h__0_0 (n0 n1 : Nat) (k0 k1 : Kl)  : T_dyn_Texts_1_h__0_0 → Stk → Prop
 | (v0, L0_0, L1_0), stk => getO stk ⟨n0, k0⟩ = some (.cells [(.d (.int .i64 L0_0))]) ∧ getO stk ⟨n1, k1⟩ = some (.cells [(.d (.sl (xmap e_string L1_0)))]) ∧ True
abbrev H_dyn_Texts_1_h__0_0 (m : Nat) (n0 n1 : Nat) (k0 k1 : Kl)  (l : T_dyn_Texts_1_h__0_0 → Option R_dyn_Texts_1_h__0) : Prop := HdG (G_dyn_Texts_1_h__0_0 @xmap e_string n0 n1 k0 k1 ) l (A_dyn_Texts_1_h__0_0 xat e_any m n0 n1 k0 k1 ) (O_dyn_Texts_1_h__0 @xmap xsetO e_string m n0 n1 k0 k1 )
abbrev Y_dyn_Texts_1_h__0 : Type := S_any → Int → (List Str) → Option (Int × (List Str))
def C_dyn_Texts_1_h__0 (c_dyn_Texts_1_h__0 : S_any → Int → (List Str) → Option (Int × (List Str))) : Prop := ∀ {v0 : S_any} {L0_0 : Int} {L1_0 : (List Str)} {r_w0_0 : Int} {r_w1_0 : (List Str)}, c_dyn_Texts_1_h__0 v0 L0_0 L1_0 = some (r_w0_0, r_w1_0) → ∀ (stk : Stk) (n0 : Nat) (k0 : Kl) (n1 : Nat) (k1 : Kl), getO stk ⟨n0, k0⟩ = some (.cells [(.d (.int .i64 L0_0))]) → getO stk ⟨n1, k1⟩ = some (.cells [(.d (.sl (xmap e_string L1_0)))]) → n0 ≤ topN stk → n1 ≤ topN stk → NE n0 k0 n1 k1 → xfcall 1000014 [(.d (e_any v0)), (.ref ⟨n0, k0⟩ 0), (.ref ⟨n1, k1⟩ 0)] stk = some (.d (.tup []), (xsetO (xsetO stk ⟨n0, k0⟩ (.cells [(.d (.int .i64 r_w0_0))])) ⟨n1, k1⟩ (.cells [(.d (.sl (xmap e_string r_w1_0)))])))
abbrev T_dyn_Texts_1 : Type := Ls2 × Int × Int × Nat × (List Str) × Int
abbrev R_dyn_Texts : Type := (List Str) × Int
abbrev T_dyn_Texts_0 : Type := S_any
def A_dyn_Texts_1 (m : Nat)   : T_dyn_Texts_1 → Stk → Rk'
 | (v8, v9, v10, o2_0_g, o2_0, o3_0), stk => xat 7 .frz 1 [.lp ⟨1, [2, 3, 8, 9, 10], [[2], [2, 0], [3]]⟩, .blk 0, .sub ⟨4, [2, 3], [[2], [2, 0], [3]]⟩] ⟨[(2, (.ref ⟨m, [2]⟩ 0)), (3, (.ref ⟨m, [3]⟩ 0)), (8, (.d (.sl (xmap e_any v8)))), (9, (.d (.int .i64 v9))), (10, (.d (.int .i64 v10)))], ⟨m, [([2], (.cells [(.msl ⟨m, [2, 0]⟩ o2_0_g 0 (xlen (xmap e_string o2_0)))])), ([2, 0], (.arr o2_0_g 1 (xmap e_string o2_0))), ([3], (.cells [(.d (.int .i64 o3_0))]))]⟩ :: stk⟩
def O_dyn_Texts (m : Nat)   : R_dyn_Texts → Stk → Rk'
 | (r0, r1), stk => some (.ret (.d (.tup [(.sl (xmap e_string r0)), (.int .i64 r1)])), stk)
abbrev H_dyn_Texts_1 (m : Nat)   (l : T_dyn_Texts_1 → Option R_dyn_Texts) : Prop := Hd l (A_dyn_Texts_1 xat @xmap xlen e_any e_string m  ) (O_dyn_Texts @xmap e_string m  )
def A_dyn_Texts_0 (m : Nat)   : T_dyn_Texts_0 → Stk → Rk'
 | v0, stk => xat 7 .frz 0 [] ⟨[(0, (.d (e_any v0)))], ⟨m, []⟩ :: stk⟩
abbrev H_dyn_Texts_0 (m : Nat)   (l : T_dyn_Texts_0 → Option R_dyn_Texts) : Prop := Hd l (A_dyn_Texts_0 xat e_any m  ) (O_dyn_Texts @xmap e_string m  )
abbrev T_cascaderef04_Texts_1 : Type := Int × Int × Str × Ls0 × Ls1 × Nat × (List Str)
abbrev R_cascaderef04_Texts : Type := (List Str) × Bool
abbrev T_cascaderef04_Texts_0 : Type := Int × Int × Str × Ls0 × Ls1
def A_cascaderef04_Texts_1 (m : Nat)   : T_cascaderef04_Texts_1 → Stk → Rk'
 | (v1_0, v1_1, v1_2, v1_3, v1_4, o4_g, o4), stk => xat 9 .frz 1 [] ⟨[(1, (.d (.iptr [(.int .i64 v1_0), (.int .i64 v1_1), (.str v1_2), (.sl (xmap e_api_Value v1_3)), (.sl (xmap e_api_Pair v1_4))]))), (4, (.msl ⟨m, [4]⟩ o4_g 0 (xlen (xmap e_string o4))))], ⟨m, [([4], (.arr o4_g 1 (xmap e_string o4)))]⟩ :: stk⟩
def O_cascaderef04_Texts (m : Nat)   : R_cascaderef04_Texts → Stk → Rk'
 | (r0, r1), stk => some (.ret (.d (.tup [(.sl (xmap e_string r0)), (.bool r1)])), stk)
abbrev H_cascaderef04_Texts_1 (m : Nat)   (l : T_cascaderef04_Texts_1 → Option R_cascaderef04_Texts) : Prop := Hd l (A_cascaderef04_Texts_1 xat @xmap xlen e_api_Value e_api_Pair e_string m  ) (O_cascaderef04_Texts @xmap e_string m  )
def A_cascaderef04_Texts_0 (m : Nat)   : T_cascaderef04_Texts_0 → Stk → Rk'
 | (v0_0, v0_1, v0_2, v0_3, v0_4), stk => xat 9 .frz 0 [] ⟨[(0, (.d (.agg [(.int .i64 v0_0), (.int .i64 v0_1), (.str v0_2), (.sl (xmap e_api_Value v0_3)), (.sl (xmap e_api_Pair v0_4))])))], ⟨m, []⟩ :: stk⟩
abbrev H_cascaderef04_Texts_0 (m : Nat)   (l : T_cascaderef04_Texts_0 → Option R_cascaderef04_Texts) : Prop := Hd l (A_cascaderef04_Texts_0 xat @xmap e_api_Value e_api_Pair m  ) (O_cascaderef04_Texts @xmap e_string m  )
abbrev T_cascaderef04_Texts_3 : Type := Int × Int × Str × Ls0 × Ls1 × Nat × (List Str) × Int
def A_cascaderef04_Texts_3 (m : Nat)   : T_cascaderef04_Texts_3 → Stk → Rk'
 | (v1_0, v1_1, v1_2, v1_3, v1_4, o4_g, o4, v5), stk => xat 9 .frz 3 [.lp ⟨3, [1, 4, 5], [[4]]⟩, .blk 0, .sub ⟨7, [4], [[4]]⟩] ⟨[(1, (.d (.iptr [(.int .i64 v1_0), (.int .i64 v1_1), (.str v1_2), (.sl (xmap e_api_Value v1_3)), (.sl (xmap e_api_Pair v1_4))]))), (4, (.msl ⟨m, [4]⟩ o4_g 0 (xlen (xmap e_string o4)))), (5, (.d (.int .i64 v5)))], ⟨m, [([4], (.arr o4_g 1 (xmap e_string o4)))]⟩ :: stk⟩
abbrev H_cascaderef04_Texts_3 (m : Nat)   (l : T_cascaderef04_Texts_3 → Option R_cascaderef04_Texts) : Prop := Hd l (A_cascaderef04_Texts_3 xat @xmap xlen e_api_Value e_api_Pair e_string m  ) (O_cascaderef04_Texts @xmap e_string m  )
abbrev Y_cascadelaw04_awake : Type := Option (Bool)
abbrev Y_cascaderef03_Few : Type := S_api_Value → Int → Option (Bool)
abbrev Y_dyn_Texts : Type := S_any → Option ((List Str) × Int)
abbrev Y_cascaderef04_Texts : Type := S_api_Value → Option ((List Str) × Bool)
def C_cascadelaw04_awake (c_cascadelaw04_awake : Option (Bool)) : Prop := ∀ {r0 : Bool}, c_cascadelaw04_awake  = some r0 → ∀ (stk : Stk) , xpcall 5 [] stk = some (.d (.bool r0)) ∧ xfcall 5 [] stk = some (.d (.bool r0), stk)
def C_cascaderef03_Few (c_cascaderef03_Few : S_api_Value → Int → Option (Bool)) : Prop := ∀ {v0_0 v0_1 : Int} {v0_2 : Str} {v0_3 : Ls0} {v0_4 : Ls1} {v1 : Int} {r0 : Bool}, c_cascaderef03_Few ⟨v0_0, v0_1, v0_2, v0_3, v0_4⟩ v1 = some r0 → ∀ (stk : Stk) , xpcall 6 [(.d (.agg [(.int .i64 v0_0), (.int .i64 v0_1), (.str v0_2), (.sl (xmap e_api_Value v0_3)), (.sl (xmap e_api_Pair v0_4))])), (.d (.int .i64 v1))] stk = some (.d (.bool r0)) ∧ xfcall 6 [(.d (.agg [(.int .i64 v0_0), (.int .i64 v0_1), (.str v0_2), (.sl (xmap e_api_Value v0_3)), (.sl (xmap e_api_Pair v0_4))])), (.d (.int .i64 v1))] stk = some (.d (.bool r0), stk)
def C_dyn_Texts (c_dyn_Texts : S_any → Option ((List Str) × Int)) : Prop := ∀ {v0 : S_any} {r0 : (List Str)} {r1 : Int}, c_dyn_Texts v0 = some (r0, r1) → ∀ (stk : Stk) , xpcall 7 [(.d (e_any v0))] stk = some (.d (.tup [(.sl (xmap e_string r0)), (.int .i64 r1)])) ∧ xfcall 7 [(.d (e_any v0))] stk = some (.d (.tup [(.sl (xmap e_string r0)), (.int .i64 r1)]), stk)
def C_cascaderef04_Texts (c_cascaderef04_Texts : S_api_Value → Option ((List Str) × Bool)) : Prop := ∀ {v0_0 v0_1 : Int} {v0_2 : Str} {v0_3 : Ls0} {v0_4 : Ls1} {r0 : (List Str)} {r1 : Bool}, c_cascaderef04_Texts ⟨v0_0, v0_1, v0_2, v0_3, v0_4⟩ = some (r0, r1) → ∀ (stk : Stk) , xpcall 9 [(.d (.agg [(.int .i64 v0_0), (.int .i64 v0_1), (.str v0_2), (.sl (xmap e_api_Value v0_3)), (.sl (xmap e_api_Pair v0_4))]))] stk = some (.d (.tup [(.sl (xmap e_string r0)), (.bool r1)])) ∧ xfcall 9 [(.d (.agg [(.int .i64 v0_0), (.int .i64 v0_1), (.str v0_2), (.sl (xmap e_api_Value v0_3)), (.sl (xmap e_api_Pair v0_4))]))] stk = some (.d (.tup [(.sl (xmap e_string r0)), (.bool r1)]), stk)
abbrev T_cascadelaw04_DynTexts_2 : Type := (List Str) × (List Str)
abbrev R_cascadelaw04_DynTexts : Type := Bool
abbrev T_cascadelaw04_DynTexts_0 : Type := Int × Int × Str × Ls0 × Ls1
def A_cascadelaw04_DynTexts_2 (m : Nat)   : T_cascadelaw04_DynTexts_2 → Stk → Rk'
 | (v3, v5), stk => xat 3 .frz 2 [] ⟨[(3, (.d (.sl (xmap e_string v3)))), (5, (.d (.sl (xmap e_string v5))))], ⟨m, []⟩ :: stk⟩
def O_cascadelaw04_DynTexts (m : Nat)   : R_cascadelaw04_DynTexts → Stk → Rk'
 | r0, stk => some (.ret (.d (.bool r0)), stk)
abbrev H_cascadelaw04_DynTexts_2 (m : Nat)   (l : T_cascadelaw04_DynTexts_2 → Option R_cascadelaw04_DynTexts) : Prop := Hd l (A_cascadelaw04_DynTexts_2 xat @xmap e_string m  ) (O_cascadelaw04_DynTexts  m  )
def A_cascadelaw04_DynTexts_0 (m : Nat)   : T_cascadelaw04_DynTexts_0 → Stk → Rk'
 | (v0_0, v0_1, v0_2, v0_3, v0_4), stk => xat 3 .frz 0 [] ⟨[(0, (.d (.agg [(.int .i64 v0_0), (.int .i64 v0_1), (.str v0_2), (.sl (xmap e_api_Value v0_3)), (.sl (xmap e_api_Pair v0_4))])))], ⟨m, []⟩ :: stk⟩
abbrev H_cascadelaw04_DynTexts_0 (m : Nat)   (l : T_cascadelaw04_DynTexts_0 → Option R_cascadelaw04_DynTexts) : Prop := Hd l (A_cascadelaw04_DynTexts_0 xat @xmap e_api_Value e_api_Pair m  ) (O_cascadelaw04_DynTexts  m  )
abbrev T_cascadelaw04_DynTexts_3 : Type := (List Str) × (List Str) × Int
def A_cascadelaw04_DynTexts_3 (m : Nat)   : T_cascadelaw04_DynTexts_3 → Stk → Rk'
 | (v3, v5, v7), stk => xat 3 .frz 3 [.lp ⟨3, [3, 5, 7], []⟩, .blk 0, .sub ⟨6, [], []⟩] ⟨[(3, (.d (.sl (xmap e_string v3)))), (5, (.d (.sl (xmap e_string v5)))), (7, (.d (.int .i64 v7)))], ⟨m, []⟩ :: stk⟩
abbrev H_cascadelaw04_DynTexts_3 (m : Nat)   (l : T_cascadelaw04_DynTexts_3 → Option R_cascadelaw04_DynTexts) : Prop := Hd l (A_cascadelaw04_DynTexts_3 xat @xmap e_string m  ) (O_cascadelaw04_DynTexts  m  )
def C_cascadelaw04_DynTexts (c_cascadelaw04_DynTexts : S_api_Value → Option (Bool)) : Prop := ∀ {v0_0 v0_1 : Int} {v0_2 : Str} {v0_3 : Ls0} {v0_4 : Ls1} {r0 : Bool}, c_cascadelaw04_DynTexts ⟨v0_0, v0_1, v0_2, v0_3, v0_4⟩ = some r0 → ∀ (stk : Stk) , xpcall 3 [(.d (.agg [(.int .i64 v0_0), (.int .i64 v0_1), (.str v0_2), (.sl (xmap e_api_Value v0_3)), (.sl (xmap e_api_Pair v0_4))]))] stk = some (.d (.bool r0)) ∧ xfcall 3 [(.d (.agg [(.int .i64 v0_0), (.int .i64 v0_1), (.str v0_2), (.sl (xmap e_api_Value v0_3)), (.sl (xmap e_api_Pair v0_4))]))] stk = some (.d (.bool r0), stk)
end
end Go.Abs.T
