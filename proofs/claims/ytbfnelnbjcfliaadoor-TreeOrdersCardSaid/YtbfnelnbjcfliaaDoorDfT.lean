import Derived.Test.YtbfnelnbjcfliaaDoorIrT
set_option linter.unusedVariables false
namespace Go.Abs.T
set_option maxRecDepth 100000
mutual
inductive S1_ where
  | mk (kind : Int) (n : Int) (s : Str) (l : (List S1_)) (f : (List S0_))
inductive S0_ where
  | mk (key : Str) (v : S1_)
end
abbrev Ls0 := List S1_
abbrev Ls1 := List S0_
abbrev Kl := List Nat
abbrev Ss := List Str
abbrev Mi := List (Str × Nat × Int)
abbrev NE (n : Nat) (k : Kl) (n' : Nat) (k' : Kl) : Prop := (⟨n, k⟩ : Lab) ≠ ⟨n', k'⟩
section
variable (Ap : AtF) (As : FuncId → List V → Stk → Option V) (Am : FuncId → List V → Stk → Option (V × Stk)) (Eq : FuncId → List (List Nat) → List V → Stk → Option (V × Level × Stk)) (Ab : {α : Type} → (α → D) → List α → List D) (Aw : List D → Nat) (Av : {α : Type} → (α → D) → List (Str × Nat × α) → List (D × Nat × V)) (Ay : Stk → Lab → O → Stk) (Ag : S1_ → D) (Ac : S0_ → D) (A0 : Int → D) (Ax : Str → D)
abbrev T_zdi_0 := Int × Int × Str × Ls0 × Ls1
abbrev R_zdi := Bool
def A_zdi_0 (m : Nat) : T_zdi_0 → Stk → Rk'
 | (Af, Ak, Aj, Ah, Ai), stk => Ap 47 .frz 0 [] ⟨[(0, (.d (.agg [(.int .i64 Af), (.int .i64 Ak), (.str Aj), (.sl (Ab Ag Ah)), (.sl (Ab Ac Ai))])))], ⟨m, []⟩ :: stk⟩
def O_zdi (m : Nat) : R_zdi → Stk → Rk'
 | r0, stk => some (.ret (.d (.bool r0)), stk)
abbrev H_zdi_0 (m : Nat) (l : T_zdi_0 → Option R_zdi) : Prop := Hd l (A_zdi_0 Ap @Ab Ag Ac m ) (O_zdi m )
abbrev Y_zdj := Str → Option (Int × Int)
def C_zdj (c_zdj : Str → Option (Int × Int)) : Prop := ∀ {v0 : Str} {r0 r1 : Int}, c_zdj v0 = some (r0, r1) → ∀ (stk : Stk) , As 76 [(.d (.str v0))] stk = some (.d (.tup [(.int .i32 r0), (.int .i64 r1)])) ∧ Am 76 [(.d (.str v0))] stk = some (.d (.tup [(.int .i32 r0), (.int .i64 r1)]), stk)
abbrev T_zco_1 := Str × Str × Nat
abbrev R_zco := Int
abbrev T_zco_0 := Str
def A_zco_1 (m : Nat) : T_zco_1 → Stk → Rk'
 | (v0, G9, Hv), stk => Ap 69 .frz 1 [.lp ⟨1, [0, 8], [[8]]⟩, .blk 0, .sub ⟨4, [], []⟩] ⟨[(0, (.d (.str v0))), (8, (.ref ⟨m, [8]⟩ 0))], ⟨m, [([8], (.siter G9 Hv))]⟩ :: stk⟩
def O_zco (m : Nat) : R_zco → Stk → Rk'
 | r0, stk => some (.ret (.d (.int .i64 r0)), stk)
abbrev H_zco_1 (m : Nat) (l : T_zco_1 → Option R_zco) : Prop := Hd l (A_zco_1 Ap m ) (O_zco m )
def A_zco_0 (m : Nat) : T_zco_0 → Stk → Rk'
 | v0, stk => Ap 69 .frz 0 [] ⟨[(0, (.d (.str v0)))], ⟨m, []⟩ :: stk⟩
abbrev H_zco_0 (m : Nat) (l : T_zco_0 → Option R_zco) : Prop := Hd l (A_zco_0 Ap m ) (O_zco m )
abbrev Y_zco := Str → Option (Int)
def C_zco (c_zco : Str → Option (Int)) : Prop := ∀ {v0 : Str} {r0 : Int}, c_zco v0 = some r0 → ∀ (stk : Stk) , As 69 [(.d (.str v0))] stk = some (.d (.int .i64 r0)) ∧ Am 69 [(.d (.str v0))] stk = some (.d (.int .i64 r0), stk)
abbrev T_zcp_0 := Str
abbrev R_zcp := Bool
def A_zcp_0 (m : Nat) : T_zcp_0 → Stk → Rk'
 | v0, stk => Ap 48 .frz 0 [] ⟨[(0, (.d (.str v0)))], ⟨m, []⟩ :: stk⟩
def O_zcp (m : Nat) : R_zcp → Stk → Rk'
 | r0, stk => some (.ret (.d (.bool r0)), stk)
abbrev H_zcp_0 (m : Nat) (l : T_zcp_0 → Option R_zcp) : Prop := Hd l (A_zcp_0 Ap m ) (O_zcp m )
abbrev Y_zcp := Str → Option (Bool)
def C_zcp (c_zcp : Str → Option (Bool)) : Prop := ∀ {v0 : Str} {r0 : Bool}, c_zcp v0 = some r0 → ∀ (stk : Stk) , As 48 [(.d (.str v0))] stk = some (.d (.bool r0)) ∧ Am 48 [(.d (.str v0))] stk = some (.d (.bool r0), stk)
abbrev T_zde_1 := Ls1 × Int × Int × Nat × Mi
abbrev R_zde := Bool
abbrev T_zde_0 := Ls1
def A_zde_1 (m : Nat) : T_zde_1 → Stk → Rk'
 | (v7, v8, v9, Cz, o6), stk => Ap 51 .frz 1 [.lp ⟨1, [3, 7, 8, 9], [[6]]⟩, .blk 0, .sub ⟨4, [], []⟩] ⟨[(3, (.map ⟨m, [6]⟩)), (7, (.d (.sl (Ab Ac v7)))), (8, (.d (.int .i64 v8))), (9, (.d (.int .i64 v9)))], ⟨m, [([6], (.map Cz (Av A0 o6)))]⟩ :: stk⟩
def O_zde (m : Nat) : R_zde → Stk → Rk'
 | r0, stk => some (.ret (.d (.bool r0)), stk)
abbrev H_zde_1 (m : Nat) (l : T_zde_1 → Option R_zde) : Prop := Hd l (A_zde_1 Ap @Ab @Av Ac A0 m ) (O_zde m )
def A_zde_0 (m : Nat) : T_zde_0 → Stk → Rk'
 | v0, stk => Ap 51 .frz 0 [] ⟨[(0, (.d (.sl (Ab Ac v0))))], ⟨m, []⟩ :: stk⟩
abbrev H_zde_0 (m : Nat) (l : T_zde_0 → Option R_zde) : Prop := Hd l (A_zde_0 Ap @Ab Ac m ) (O_zde m )
abbrev T_zde_3 := Ls1 × Int × Int × Nat × Mi
def A_zde_3 (m : Nat) : T_zde_3 → Stk → Rk'
 | (v7, v8, v9, Cz, o6), stk => Ap 51 .frz 3 [.lp ⟨1, [3, 7, 8, 9], [[6]]⟩, .blk 0, .sub ⟨4, [], []⟩] ⟨[(3, (.map ⟨m, [6]⟩)), (7, (.d (.sl (Ab Ac v7)))), (8, (.d (.int .i64 v8))), (9, (.d (.int .i64 v9)))], ⟨m, [([6], (.map Cz (Av A0 o6)))]⟩ :: stk⟩
abbrev H_zde_3 (m : Nat) (l : T_zde_3 → Option (T_zde_1 ⊕ R_zde)) : Prop := Hd l (A_zde_3 Ap @Ab @Av Ac A0 m ) (el (A_zde_1 Ap @Ab @Av Ac A0 m ) (O_zde m ))
abbrev Y_zc5 := S1_ → Int → Option (Bool)
def C_zc5 (c_zc5 : S1_ → Int → Option (Bool)) : Prop := ∀ {Af Ak : Int} {Aj : Str} {Ah : Ls0} {Ai : Ls1} {v1 : Int} {r0 : Bool}, c_zc5 ⟨Af, Ak, Aj, Ah, Ai⟩ v1 = some r0 → ∀ (stk : Stk) (n0 : Nat) (k0 : Kl), getO stk ⟨n0, k0⟩ = some (.cells [(.clos (.func 46) [] [(.ref ⟨n0, k0⟩ 0)])]) → n0 ≤ topN stk → As 46 [(.d (.agg [(.int .i64 Af), (.int .i64 Ak), (.str Aj), (.sl (Ab Ag Ah)), (.sl (Ab Ac Ai))])), (.d (.int .i64 v1)), (.ref ⟨n0, k0⟩ 0)] stk = some (.d (.bool r0)) ∧ Am 46 [(.d (.agg [(.int .i64 Af), (.int .i64 Ak), (.str Aj), (.sl (Ab Ag Ah)), (.sl (Ab Ac Ai))])), (.d (.int .i64 v1)), (.ref ⟨n0, k0⟩ 0)] stk = some (.d (.bool r0), stk)
abbrev T_zc2_0 := Int × Int × Str × Ls0 × Ls1 × Int
abbrev R_zc2 := Bool
def A_zc2_0 (m : Nat) (n0 : Nat) (k0 : Kl) : T_zc2_0 → Stk → Rk'
 | (Af, Ak, Aj, Ah, Ai, A1), stk => Ap 50 .frz 0 [] ⟨[(0, (.d (.agg [(.int .i64 Af), (.int .i64 Ak), (.str Aj), (.sl (Ab Ag Ah)), (.sl (Ab Ac Ai))]))), (1, (.ref ⟨n0, k0⟩ 0)), (2, (.d (.iptr [(.int .i64 A1)])))], ⟨m, []⟩ :: stk⟩
def O_zc2 (m : Nat) (n0 : Nat) (k0 : Kl) : R_zc2 → Stk → Rk'
 | r0, stk => some (.ret (.d (.bool r0)), stk)
def G_zc2 (n0 : Nat) (k0 : Kl) (stk : Stk) : Prop := getO stk ⟨n0, k0⟩ = some (.cells [(.clos (.func 46) [] [(.ref ⟨n0, k0⟩ 0)])]) ∧ True
abbrev H_zc2_0 (m : Nat) (n0 : Nat) (k0 : Kl) (l : T_zc2_0 → Option R_zc2) : Prop := HdS (G_zc2 n0 k0 ) l (A_zc2_0 Ap @Ab Ag Ac m n0 k0 ) (O_zc2 m n0 k0 )
abbrev Y_zdi := S1_ → Option (Bool)
abbrev Y_zb2 := Ls0 → Int → Option (Bool)
abbrev Y_zde := Ls1 → Option (Bool)
abbrev Y_zb0 := Ls1 → Int → Option (Bool)
def C_zdi (c_zdi : S1_ → Option (Bool)) : Prop := ∀ {Af Ak : Int} {Aj : Str} {Ah : Ls0} {Ai : Ls1} {r0 : Bool}, c_zdi ⟨Af, Ak, Aj, Ah, Ai⟩ = some r0 → ∀ (stk : Stk) , As 47 [(.d (.agg [(.int .i64 Af), (.int .i64 Ak), (.str Aj), (.sl (Ab Ag Ah)), (.sl (Ab Ac Ai))]))] stk = some (.d (.bool r0)) ∧ Am 47 [(.d (.agg [(.int .i64 Af), (.int .i64 Ak), (.str Aj), (.sl (Ab Ag Ah)), (.sl (Ab Ac Ai))]))] stk = some (.d (.bool r0), stk)
def C_zb2 (c_zb2 : Ls0 → Int → Option (Bool)) : Prop := ∀ {v0 : Ls0} {Az : Int} {r0 : Bool}, c_zb2 v0 Az = some r0 → ∀ (stk : Stk) (n0 : Nat) (k0 : Kl), getO stk ⟨n0, k0⟩ = some (.cells [(.clos (.func 46) [] [(.ref ⟨n0, k0⟩ 0)])]) → n0 ≤ topN stk → As 49 [(.d (.sl (Ab Ag v0))), (.clos (.func 50) [] [(.ref ⟨n0, k0⟩ 0), (.d (.iptr [(.int .i64 Az)]))])] stk = some (.d (.bool r0)) ∧ Am 49 [(.d (.sl (Ab Ag v0))), (.clos (.func 50) [] [(.ref ⟨n0, k0⟩ 0), (.d (.iptr [(.int .i64 Az)]))])] stk = some (.d (.bool r0), stk)
def C_zde (c_zde : Ls1 → Option (Bool)) : Prop := ∀ {v0 : Ls1} {r0 : Bool}, c_zde v0 = some r0 → ∀ (stk : Stk) , As 51 [(.d (.sl (Ab Ac v0)))] stk = some (.d (.bool r0)) ∧ Am 51 [(.d (.sl (Ab Ac v0)))] stk = some (.d (.bool r0), stk)
def C_zb0 (c_zb0 : Ls1 → Int → Option (Bool)) : Prop := ∀ {v0 : Ls1} {Az : Int} {r0 : Bool}, c_zb0 v0 Az = some r0 → ∀ (stk : Stk) (n0 : Nat) (k0 : Kl), getO stk ⟨n0, k0⟩ = some (.cells [(.clos (.func 46) [] [(.ref ⟨n0, k0⟩ 0)])]) → n0 ≤ topN stk → As 52 [(.d (.sl (Ab Ac v0))), (.clos (.func 53) [] [(.ref ⟨n0, k0⟩ 0), (.d (.iptr [(.int .i64 Az)]))])] stk = some (.d (.bool r0)) ∧ Am 52 [(.d (.sl (Ab Ac v0))), (.clos (.func 53) [] [(.ref ⟨n0, k0⟩ 0), (.d (.iptr [(.int .i64 Az)]))])] stk = some (.d (.bool r0), stk)
abbrev T_zc5_0 := Int × Int × Str × Ls0 × Ls1 × Int
abbrev R_zc5 := Bool
def A_zc5_0 (m : Nat) (n0 : Nat) (k0 : Kl) : T_zc5_0 → Stk → Rk'
 | (Af, Ak, Aj, Ah, Ai, v1), stk => Ap 46 .frz 0 [] ⟨[(0, (.d (.agg [(.int .i64 Af), (.int .i64 Ak), (.str Aj), (.sl (Ab Ag Ah)), (.sl (Ab Ac Ai))]))), (1, (.d (.int .i64 v1))), (2, (.ref ⟨n0, k0⟩ 0))], ⟨m, []⟩ :: stk⟩
def O_zc5 (m : Nat) (n0 : Nat) (k0 : Kl) : R_zc5 → Stk → Rk'
 | r0, stk => some (.ret (.d (.bool r0)), stk)
def G_zc5 (n0 : Nat) (k0 : Kl) (stk : Stk) : Prop := getO stk ⟨n0, k0⟩ = some (.cells [(.clos (.func 46) [] [(.ref ⟨n0, k0⟩ 0)])]) ∧ True
abbrev H_zc5_0 (m : Nat) (n0 : Nat) (k0 : Kl) (l : T_zc5_0 → Option R_zc5) : Prop := HdS (G_zc5 n0 k0 ) l (A_zc5_0 Ap @Ab Ag Ac m n0 k0 ) (O_zc5 m n0 k0 )
abbrev Y_zcb := Ls0 → Int → Option (Int)
def C_zcb (c_zcb : Ls0 → Int → Option (Int)) : Prop := ∀ {v0 : Ls0} {Az r0 : Int}, c_zcb v0 Az = some r0 → ∀ (stk : Stk) (n0 : Nat) (k0 : Kl), getO stk ⟨n0, k0⟩ = some (.cells [(.clos (.func 46) [] [(.ref ⟨n0, k0⟩ 0)])]) → n0 ≤ topN stk → As 70 [(.d (.sl (Ab Ag v0))), (.clos (.func 50) [] [(.ref ⟨n0, k0⟩ 0), (.d (.iptr [(.int .i64 Az)]))])] stk = some (.d (.int .i64 r0)) ∧ Am 70 [(.d (.sl (Ab Ag v0))), (.clos (.func 50) [] [(.ref ⟨n0, k0⟩ 0), (.d (.iptr [(.int .i64 Az)]))])] stk = some (.d (.int .i64 r0), stk)
abbrev T_zb2_0 := Ls0 × Int
abbrev R_zb2 := Bool
def A_zb2_0 (m : Nat) (n0 : Nat) (k0 : Kl) : T_zb2_0 → Stk → Rk'
 | (v0, Az), stk => Ap 49 .frz 0 [] ⟨[(0, (.d (.sl (Ab Ag v0)))), (1, (.clos (.func 50) [] [(.ref ⟨n0, k0⟩ 0), (.d (.iptr [(.int .i64 Az)]))]))], ⟨m, []⟩ :: stk⟩
def O_zb2 (m : Nat) (n0 : Nat) (k0 : Kl) : R_zb2 → Stk → Rk'
 | r0, stk => some (.ret (.d (.bool r0)), stk)
def G_zb2 (n0 : Nat) (k0 : Kl) (stk : Stk) : Prop := getO stk ⟨n0, k0⟩ = some (.cells [(.clos (.func 46) [] [(.ref ⟨n0, k0⟩ 0)])]) ∧ True
abbrev H_zb2_0 (m : Nat) (n0 : Nat) (k0 : Kl) (l : T_zb2_0 → Option R_zb2) : Prop := HdS (G_zb2 n0 k0 ) l (A_zb2_0 Ap @Ab Ag m n0 k0 ) (O_zb2 m n0 k0 )
abbrev Y_zc2 := S1_ → Int → Option (Bool)
def C_zc2 (c_zc2 : S1_ → Int → Option (Bool)) : Prop := ∀ {Af Ak : Int} {Aj : Str} {Ah : Ls0} {Ai : Ls1} {A1 : Int} {r0 : Bool}, c_zc2 ⟨Af, Ak, Aj, Ah, Ai⟩ A1 = some r0 → ∀ (stk : Stk) (n0 : Nat) (k0 : Kl), getO stk ⟨n0, k0⟩ = some (.cells [(.clos (.func 46) [] [(.ref ⟨n0, k0⟩ 0)])]) → n0 ≤ topN stk → As 50 [(.d (.agg [(.int .i64 Af), (.int .i64 Ak), (.str Aj), (.sl (Ab Ag Ah)), (.sl (Ab Ac Ai))])), (.ref ⟨n0, k0⟩ 0), (.d (.iptr [(.int .i64 A1)]))] stk = some (.d (.bool r0)) ∧ Am 50 [(.d (.agg [(.int .i64 Af), (.int .i64 Ak), (.str Aj), (.sl (Ab Ag Ah)), (.sl (Ab Ac Ai))])), (.ref ⟨n0, k0⟩ 0), (.d (.iptr [(.int .i64 A1)]))] stk = some (.d (.bool r0), stk)
abbrev T_zcb_1 := Ls0 × Int × Int × Int
abbrev R_zcb := Int
abbrev T_zcb_0 := Ls0 × Int
def A_zcb_1 (m : Nat) (n0 : Nat) (k0 : Kl) : T_zcb_1 → Stk → Rk'
 | (v0, Az, v7, v8), stk => Ap 70 .frz 1 [.lp ⟨1, [0, 1, 7, 8], []⟩, .blk 0, .sub ⟨4, [], []⟩] ⟨[(0, (.d (.sl (Ab Ag v0)))), (1, (.clos (.func 50) [] [(.ref ⟨n0, k0⟩ 0), (.d (.iptr [(.int .i64 Az)]))])), (7, (.d (.int .i64 v7))), (8, (.d (.int .i64 v8)))], ⟨m, []⟩ :: stk⟩
def O_zcb (m : Nat) (n0 : Nat) (k0 : Kl) : R_zcb → Stk → Rk'
 | r0, stk => some (.ret (.d (.int .i64 r0)), stk)
def G_zcb (n0 : Nat) (k0 : Kl) (stk : Stk) : Prop := getO stk ⟨n0, k0⟩ = some (.cells [(.clos (.func 46) [] [(.ref ⟨n0, k0⟩ 0)])]) ∧ True
abbrev H_zcb_1 (m : Nat) (n0 : Nat) (k0 : Kl) (l : T_zcb_1 → Option R_zcb) : Prop := HdS (G_zcb n0 k0 ) l (A_zcb_1 Ap @Ab Ag m n0 k0 ) (O_zcb m n0 k0 )
def A_zcb_0 (m : Nat) (n0 : Nat) (k0 : Kl) : T_zcb_0 → Stk → Rk'
 | (v0, Az), stk => Ap 70 .frz 0 [] ⟨[(0, (.d (.sl (Ab Ag v0)))), (1, (.clos (.func 50) [] [(.ref ⟨n0, k0⟩ 0), (.d (.iptr [(.int .i64 Az)]))]))], ⟨m, []⟩ :: stk⟩
abbrev H_zcb_0 (m : Nat) (n0 : Nat) (k0 : Kl) (l : T_zcb_0 → Option R_zcb) : Prop := HdS (G_zcb n0 k0 ) l (A_zcb_0 Ap @Ab Ag m n0 k0 ) (O_zcb m n0 k0 )
abbrev Y_zb9 := Ls1 → Int → Option (Int)
def C_zb9 (c_zb9 : Ls1 → Int → Option (Int)) : Prop := ∀ {v0 : Ls1} {Az r0 : Int}, c_zb9 v0 Az = some r0 → ∀ (stk : Stk) (n0 : Nat) (k0 : Kl), getO stk ⟨n0, k0⟩ = some (.cells [(.clos (.func 46) [] [(.ref ⟨n0, k0⟩ 0)])]) → n0 ≤ topN stk → As 57 [(.d (.sl (Ab Ac v0))), (.clos (.func 53) [] [(.ref ⟨n0, k0⟩ 0), (.d (.iptr [(.int .i64 Az)]))])] stk = some (.d (.int .i64 r0)) ∧ Am 57 [(.d (.sl (Ab Ac v0))), (.clos (.func 53) [] [(.ref ⟨n0, k0⟩ 0), (.d (.iptr [(.int .i64 Az)]))])] stk = some (.d (.int .i64 r0), stk)
abbrev T_zb0_0 := Ls1 × Int
abbrev R_zb0 := Bool
def A_zb0_0 (m : Nat) (n0 : Nat) (k0 : Kl) : T_zb0_0 → Stk → Rk'
 | (v0, Az), stk => Ap 52 .frz 0 [] ⟨[(0, (.d (.sl (Ab Ac v0)))), (1, (.clos (.func 53) [] [(.ref ⟨n0, k0⟩ 0), (.d (.iptr [(.int .i64 Az)]))]))], ⟨m, []⟩ :: stk⟩
def O_zb0 (m : Nat) (n0 : Nat) (k0 : Kl) : R_zb0 → Stk → Rk'
 | r0, stk => some (.ret (.d (.bool r0)), stk)
def G_zb0 (n0 : Nat) (k0 : Kl) (stk : Stk) : Prop := getO stk ⟨n0, k0⟩ = some (.cells [(.clos (.func 46) [] [(.ref ⟨n0, k0⟩ 0)])]) ∧ True
abbrev H_zb0_0 (m : Nat) (n0 : Nat) (k0 : Kl) (l : T_zb0_0 → Option R_zb0) : Prop := HdS (G_zb0 n0 k0 ) l (A_zb0_0 Ap @Ab Ac m n0 k0 ) (O_zb0 m n0 k0 )
abbrev Y_zc4 := S0_ → Int → Option (Bool)
def C_zc4 (c_zc4 : S0_ → Int → Option (Bool)) : Prop := ∀ {Af : Str} {A6 A7 : Int} {A8 : Str} {A9 : Ls0} {Ba : Ls1} {A1 : Int} {r0 : Bool}, c_zc4 ⟨Af, ⟨A6, A7, A8, A9, Ba⟩⟩ A1 = some r0 → ∀ (stk : Stk) (n0 : Nat) (k0 : Kl), getO stk ⟨n0, k0⟩ = some (.cells [(.clos (.func 46) [] [(.ref ⟨n0, k0⟩ 0)])]) → n0 ≤ topN stk → As 53 [(.d (.agg [(.str Af), (.int .i64 A6), (.int .i64 A7), (.str A8), (.sl (Ab Ag A9)), (.sl (Ab Ac Ba))])), (.ref ⟨n0, k0⟩ 0), (.d (.iptr [(.int .i64 A1)]))] stk = some (.d (.bool r0)) ∧ Am 53 [(.d (.agg [(.str Af), (.int .i64 A6), (.int .i64 A7), (.str A8), (.sl (Ab Ag A9)), (.sl (Ab Ac Ba))])), (.ref ⟨n0, k0⟩ 0), (.d (.iptr [(.int .i64 A1)]))] stk = some (.d (.bool r0), stk)
abbrev T_zb9_1 := Ls1 × Int × Int × Int
abbrev R_zb9 := Int
abbrev T_zb9_0 := Ls1 × Int
def A_zb9_1 (m : Nat) (n0 : Nat) (k0 : Kl) : T_zb9_1 → Stk → Rk'
 | (v0, Az, v7, v8), stk => Ap 57 .frz 1 [.lp ⟨1, [0, 1, 7, 8], []⟩, .blk 0, .sub ⟨4, [], []⟩] ⟨[(0, (.d (.sl (Ab Ac v0)))), (1, (.clos (.func 53) [] [(.ref ⟨n0, k0⟩ 0), (.d (.iptr [(.int .i64 Az)]))])), (7, (.d (.int .i64 v7))), (8, (.d (.int .i64 v8)))], ⟨m, []⟩ :: stk⟩
def O_zb9 (m : Nat) (n0 : Nat) (k0 : Kl) : R_zb9 → Stk → Rk'
 | r0, stk => some (.ret (.d (.int .i64 r0)), stk)
def G_zb9 (n0 : Nat) (k0 : Kl) (stk : Stk) : Prop := getO stk ⟨n0, k0⟩ = some (.cells [(.clos (.func 46) [] [(.ref ⟨n0, k0⟩ 0)])]) ∧ True
abbrev H_zb9_1 (m : Nat) (n0 : Nat) (k0 : Kl) (l : T_zb9_1 → Option R_zb9) : Prop := HdS (G_zb9 n0 k0 ) l (A_zb9_1 Ap @Ab Ac m n0 k0 ) (O_zb9 m n0 k0 )
def A_zb9_0 (m : Nat) (n0 : Nat) (k0 : Kl) : T_zb9_0 → Stk → Rk'
 | (v0, Az), stk => Ap 57 .frz 0 [] ⟨[(0, (.d (.sl (Ab Ac v0)))), (1, (.clos (.func 53) [] [(.ref ⟨n0, k0⟩ 0), (.d (.iptr [(.int .i64 Az)]))]))], ⟨m, []⟩ :: stk⟩
abbrev H_zb9_0 (m : Nat) (n0 : Nat) (k0 : Kl) (l : T_zb9_0 → Option R_zb9) : Prop := HdS (G_zb9 n0 k0 ) l (A_zb9_0 Ap @Ab Ac m n0 k0 ) (O_zb9 m n0 k0 )
abbrev T_zc4_0 := Str × Int × Int × Str × Ls0 × Ls1 × Int
abbrev R_zc4 := Bool
def A_zc4_0 (m : Nat) (n0 : Nat) (k0 : Kl) : T_zc4_0 → Stk → Rk'
 | (Af, A6, A7, A8, A9, Ba, A1), stk => Ap 53 .frz 0 [] ⟨[(0, (.d (.agg [(.str Af), (.int .i64 A6), (.int .i64 A7), (.str A8), (.sl (Ab Ag A9)), (.sl (Ab Ac Ba))]))), (1, (.ref ⟨n0, k0⟩ 0)), (2, (.d (.iptr [(.int .i64 A1)])))], ⟨m, []⟩ :: stk⟩
def O_zc4 (m : Nat) (n0 : Nat) (k0 : Kl) : R_zc4 → Stk → Rk'
 | r0, stk => some (.ret (.d (.bool r0)), stk)
def G_zc4 (n0 : Nat) (k0 : Kl) (stk : Stk) : Prop := getO stk ⟨n0, k0⟩ = some (.cells [(.clos (.func 46) [] [(.ref ⟨n0, k0⟩ 0)])]) ∧ True
abbrev H_zc4_0 (m : Nat) (n0 : Nat) (k0 : Kl) (l : T_zc4_0 → Option R_zc4) : Prop := HdS (G_zc4 n0 k0 ) l (A_zc4_0 Ap @Ab Ag Ac m n0 k0 ) (O_zc4 m n0 k0 )
abbrev T_zcz_0 := Int × Int × Str × Ls0 × Ls1
abbrev R_zcz := Bool
def A_zcz_0 (m : Nat) : T_zcz_0 → Stk → Rk'
 | (Af, Ak, Aj, Ah, Ai), stk => Ap 17 .frz 0 [] ⟨[(0, (.d (.agg [(.int .i64 Af), (.int .i64 Ak), (.str Aj), (.sl (Ab Ag Ah)), (.sl (Ab Ac Ai))])))], ⟨m, []⟩ :: stk⟩
def O_zcz (m : Nat) : R_zcz → Stk → Rk'
 | r0, stk => some (.ret (.d (.bool r0)), stk)
abbrev H_zcz_0 (m : Nat) (l : T_zcz_0 → Option R_zcz) : Prop := Hd l (A_zcz_0 Ap @Ab Ag Ac m ) (O_zcz m )
abbrev Y_zdc := S1_ → Option (Int)
def C_zdc (c_zdc : S1_ → Option (Int)) : Prop := ∀ {Af Ak : Int} {Aj : Str} {Ah : Ls0} {Ai : Ls1} {r0 : Int}, c_zdc ⟨Af, Ak, Aj, Ah, Ai⟩ = some r0 → ∀ (stk : Stk) , As 54 [(.d (.agg [(.int .i64 Af), (.int .i64 Ak), (.str Aj), (.sl (Ab Ag Ah)), (.sl (Ab Ac Ai))]))] stk = some (.d (.int .i64 r0)) ∧ Am 54 [(.d (.agg [(.int .i64 Af), (.int .i64 Ak), (.str Aj), (.sl (Ab Ag Ah)), (.sl (Ab Ac Ai))]))] stk = some (.d (.int .i64 r0), stk)
abbrev T_zdc_1 := Int × Int × Str × Ls0 × Ls1 × Int × Ls0 × Int × Int
abbrev R_zdc := Int
abbrev T_zdc_0 := Int × Int × Str × Ls0 × Ls1
def A_zdc_1 (m : Nat) : T_zdc_1 → Stk → Rk'
 | (A3, Be, Bf, Bg, Bd, v3, v9, v10, v11), stk => Ap 54 .frz 1 [.lp ⟨1, [1, 3, 9, 10, 11], []⟩, .blk 0, .sub ⟨4, [1, 3], []⟩] ⟨[(1, (.d (.iptr [(.int .i64 A3), (.int .i64 Be), (.str Bf), (.sl (Ab Ag Bg)), (.sl (Ab Ac Bd))]))), (3, (.d (.int .i64 v3))), (9, (.d (.sl (Ab Ag v9)))), (10, (.d (.int .i64 v10))), (11, (.d (.int .i64 v11)))], ⟨m, []⟩ :: stk⟩
def O_zdc (m : Nat) : R_zdc → Stk → Rk'
 | r0, stk => some (.ret (.d (.int .i64 r0)), stk)
abbrev H_zdc_1 (m : Nat) (l : T_zdc_1 → Option R_zdc) : Prop := Hd l (A_zdc_1 Ap @Ab Ag Ac m ) (O_zdc m )
def A_zdc_0 (m : Nat) : T_zdc_0 → Stk → Rk'
 | (Af, Ak, Aj, Ah, Ai), stk => Ap 54 .frz 0 [] ⟨[(0, (.d (.agg [(.int .i64 Af), (.int .i64 Ak), (.str Aj), (.sl (Ab Ag Ah)), (.sl (Ab Ac Ai))])))], ⟨m, []⟩ :: stk⟩
abbrev H_zdc_0 (m : Nat) (l : T_zdc_0 → Option R_zdc) : Prop := Hd l (A_zdc_0 Ap @Ab Ag Ac m ) (O_zdc m )
abbrev T_zdc_5 := Int × Ls1 × Int × Int
def A_zdc_5 (m : Nat) : T_zdc_5 → Stk → Rk'
 | (v3, v21, v22, v23), stk => Ap 54 .frz 5 [.lp ⟨5, [3, 21, 22, 23], []⟩, .blk 2, .sub ⟨8, [3], []⟩] ⟨[(3, (.d (.int .i64 v3))), (21, (.d (.sl (Ab Ac v21)))), (22, (.d (.int .i64 v22))), (23, (.d (.int .i64 v23)))], ⟨m, []⟩ :: stk⟩
abbrev H_zdc_5 (m : Nat) (l : T_zdc_5 → Option R_zdc) : Prop := Hd l (A_zdc_5 Ap @Ab Ac m ) (O_zdc m )
abbrev Y_zcz := S1_ → Option (Bool)
def C_zcz (c_zcz : S1_ → Option (Bool)) : Prop := ∀ {Af Ak : Int} {Aj : Str} {Ah : Ls0} {Ai : Ls1} {r0 : Bool}, c_zcz ⟨Af, Ak, Aj, Ah, Ai⟩ = some r0 → ∀ (stk : Stk) , As 17 [(.d (.agg [(.int .i64 Af), (.int .i64 Ak), (.str Aj), (.sl (Ab Ag Ah)), (.sl (Ab Ac Ai))]))] stk = some (.d (.bool r0)) ∧ Am 17 [(.d (.agg [(.int .i64 Af), (.int .i64 Ak), (.str Aj), (.sl (Ab Ag Ah)), (.sl (Ab Ac Ai))]))] stk = some (.d (.bool r0), stk)
abbrev T_zcs_0 := Int × Int × Str × Ls0 × Ls1
abbrev R_zcs := Int
def A_zcs_0 (m : Nat) : T_zcs_0 → Stk → Rk'
 | (Af, Ak, Aj, Ah, Ai), stk => Ap 18 .frz 0 [] ⟨[(0, (.d (.agg [(.int .i64 Af), (.int .i64 Ak), (.str Aj), (.sl (Ab Ag Ah)), (.sl (Ab Ac Ai))])))], ⟨m, []⟩ :: stk⟩
def O_zcs (m : Nat) : R_zcs → Stk → Rk'
 | r0, stk => some (.ret (.d (.int .i64 r0)), stk)
abbrev H_zcs_0 (m : Nat) (l : T_zcs_0 → Option R_zcs) : Prop := Hd l (A_zcs_0 Ap @Ab Ag Ac m ) (O_zcs m )
abbrev Y_zcs := S1_ → Option (Int)
def C_zcs (c_zcs : S1_ → Option (Int)) : Prop := ∀ {Af Ak : Int} {Aj : Str} {Ah : Ls0} {Ai : Ls1} {r0 : Int}, c_zcs ⟨Af, Ak, Aj, Ah, Ai⟩ = some r0 → ∀ (stk : Stk) , As 18 [(.d (.agg [(.int .i64 Af), (.int .i64 Ak), (.str Aj), (.sl (Ab Ag Ah)), (.sl (Ab Ac Ai))]))] stk = some (.d (.int .i64 r0)) ∧ Am 18 [(.d (.agg [(.int .i64 Af), (.int .i64 Ak), (.str Aj), (.sl (Ab Ag Ah)), (.sl (Ab Ac Ai))]))] stk = some (.d (.int .i64 r0), stk)
abbrev T_zg_0 := Unit
abbrev R_zg := Bool
def A_zg_0 (m : Nat) : T_zg_0 → Stk → Rk'
 | (), stk => Ap 12 .frz 0 [] ⟨[], ⟨m, []⟩ :: stk⟩
def O_zg (m : Nat) : R_zg → Stk → Rk'
 | r0, stk => some (.ret (.d (.bool r0)), stk)
abbrev H_zg_0 (m : Nat) (l : T_zg_0 → Option R_zg) : Prop := Hd l (A_zg_0 Ap m ) (O_zg m )
abbrev Y_z1 := S1_ → Int → Option (Int)
def C_z1 (c_z1 : S1_ → Int → Option (Int)) : Prop := ∀ {Af Ak : Int} {Aj : Str} {Ah : Ls0} {Ai : Ls1} {v1 r0 : Int}, c_z1 ⟨Af, Ak, Aj, Ah, Ai⟩ v1 = some r0 → ∀ (stk : Stk) , As 43 [(.d (.agg [(.int .i64 Af), (.int .i64 Ak), (.str Aj), (.sl (Ab Ag Ah)), (.sl (Ab Ac Ai))])), (.d (.int .i64 v1))] stk = some (.d (.int .i64 r0)) ∧ Am 43 [(.d (.agg [(.int .i64 Af), (.int .i64 Ak), (.str Aj), (.sl (Ab Ag Ah)), (.sl (Ab Ac Ai))])), (.d (.int .i64 v1))] stk = some (.d (.int .i64 r0), stk)
abbrev T_z1_2 := Int × Int × Int × Str × Ls0 × Ls1 × Int
abbrev R_z1 := Int
abbrev T_z1_0 := Int × Int × Str × Ls0 × Ls1 × Int
def A_z1_2 (m : Nat) : T_z1_2 → Stk → Rk'
 | (v1, A1, A4, Bb, A5, A2, v5), stk => Ap 43 .frz 2 [.lp ⟨2, [1, 2, 5], []⟩, .blk 0, .sub ⟨5, [1, 2], []⟩] ⟨[(1, (.d (.int .i64 v1))), (2, (.d (.iptr [(.int .i64 A1), (.int .i64 A4), (.str Bb), (.sl (Ab Ag A5)), (.sl (Ab Ac A2))]))), (5, (.d (.int .i64 v5)))], ⟨m, []⟩ :: stk⟩
def O_z1 (m : Nat) : R_z1 → Stk → Rk'
 | r0, stk => some (.ret (.d (.int .i64 r0)), stk)
abbrev H_z1_2 (m : Nat) (l : T_z1_2 → Option R_z1) : Prop := Hd l (A_z1_2 Ap @Ab Ag Ac m ) (O_z1 m )
def A_z1_0 (m : Nat) : T_z1_0 → Stk → Rk'
 | (Af, Ak, Aj, Ah, Ai, v1), stk => Ap 43 .frz 0 [] ⟨[(0, (.d (.agg [(.int .i64 Af), (.int .i64 Ak), (.str Aj), (.sl (Ab Ag Ah)), (.sl (Ab Ac Ai))]))), (1, (.d (.int .i64 v1)))], ⟨m, []⟩ :: stk⟩
abbrev H_z1_0 (m : Nat) (l : T_z1_0 → Option R_z1) : Prop := Hd l (A_z1_0 Ap @Ab Ag Ac m ) (O_z1 m )
abbrev T_z1_5 := Int × Int × Int × Str × Ls0 × Ls1
def A_z1_5 (m : Nat) : T_z1_5 → Stk → Rk'
 | (v1, A1, A4, Bb, A5, A2), stk => Ap 43 .frz 5 [] ⟨[(1, (.d (.int .i64 v1))), (2, (.d (.iptr [(.int .i64 A1), (.int .i64 A4), (.str Bb), (.sl (Ab Ag A5)), (.sl (Ab Ac A2))])))], ⟨m, []⟩ :: stk⟩
abbrev H_z1_5 (m : Nat) (l : T_z1_5 → Option R_z1) : Prop := Hd l (A_z1_5 Ap @Ab Ag Ac m ) (O_z1 m )
abbrev T_z1_6 := Int × Int × Int × Str × Ls0 × Ls1 × Int
def A_z1_6 (m : Nat) : T_z1_6 → Stk → Rk'
 | (v1, A1, A4, Bb, A5, A2, v6), stk => Ap 43 .frz 6 [.lp ⟨6, [1, 2, 6], []⟩, .blk 2, .sub ⟨10, [1], []⟩] ⟨[(1, (.d (.int .i64 v1))), (2, (.d (.iptr [(.int .i64 A1), (.int .i64 A4), (.str Bb), (.sl (Ab Ag A5)), (.sl (Ab Ac A2))]))), (6, (.d (.int .i64 v6)))], ⟨m, []⟩ :: stk⟩
abbrev H_z1_6 (m : Nat) (l : T_z1_6 → Option R_z1) : Prop := Hd l (A_z1_6 Ap @Ab Ag Ac m ) (O_z1 m )
abbrev T_z1_10 := Int
def A_z1_10 (m : Nat) : T_z1_10 → Stk → Rk'
 | v1, stk => Ap 43 .frz 10 [] ⟨[(1, (.d (.int .i64 v1)))], ⟨m, []⟩ :: stk⟩
abbrev H_z1_10 (m : Nat) (l : T_z1_10 → Option R_z1) : Prop := Hd l (A_z1_10 Ap m ) (O_z1 m )
abbrev T_zv_0 := Int × Int × Str × Ls0 × Ls1 × Int
abbrev R_zv := Bool
def A_zv_0 (m : Nat) : T_zv_0 → Stk → Rk'
 | (Af, Ak, Aj, Ah, Ai, v1), stk => Ap 13 .frz 0 [] ⟨[(0, (.d (.agg [(.int .i64 Af), (.int .i64 Ak), (.str Aj), (.sl (Ab Ag Ah)), (.sl (Ab Ac Ai))]))), (1, (.d (.int .i64 v1)))], ⟨m, []⟩ :: stk⟩
def O_zv (m : Nat) : R_zv → Stk → Rk'
 | r0, stk => some (.ret (.d (.bool r0)), stk)
abbrev H_zv_0 (m : Nat) (l : T_zv_0 → Option R_zv) : Prop := Hd l (A_zv_0 Ap @Ab Ag Ac m ) (O_zv m )
abbrev T_zh_1 := Ss × Int
abbrev R_zh := Bool
abbrev T_zh_0 := Ss
def A_zh_1 (m : Nat) : T_zh_1 → Stk → Rk'
 | (v0, v3), stk => Ap 40 .frz 1 [.lp ⟨1, [0, 3], []⟩, .blk 0, .sub ⟨4, [0], []⟩] ⟨[(0, (.d (.sl (Ab Ax v0)))), (3, (.d (.int .i64 v3)))], ⟨m, []⟩ :: stk⟩
def O_zh (m : Nat) : R_zh → Stk → Rk'
 | r0, stk => some (.ret (.d (.bool r0)), stk)
abbrev H_zh_1 (m : Nat) (l : T_zh_1 → Option R_zh) : Prop := Hd l (A_zh_1 Ap @Ab Ax m ) (O_zh m )
def A_zh_0 (m : Nat) : T_zh_0 → Stk → Rk'
 | v0, stk => Ap 40 .frz 0 [] ⟨[(0, (.d (.sl (Ab Ax v0))))], ⟨m, []⟩ :: stk⟩
abbrev H_zh_0 (m : Nat) (l : T_zh_0 → Option R_zh) : Prop := Hd l (A_zh_0 Ap @Ab Ax m ) (O_zh m )
abbrev T_zh_4 := Ss
def A_zh_4 (m : Nat) : T_zh_4 → Stk → Rk'
 | v0, stk => Ap 40 .frz 4 [] ⟨[(0, (.d (.sl (Ab Ax v0))))], ⟨m, []⟩ :: stk⟩
abbrev H_zh_4 (m : Nat) (l : T_zh_4 → Option R_zh) : Prop := Hd l (A_zh_4 Ap @Ab Ax m ) (O_zh m )
abbrev T_zdf_0 := Int × Int × Str × Ls0 × Ls1
abbrev R_zdf := Bool
def A_zdf_0 (m : Nat) : T_zdf_0 → Stk → Rk'
 | (Af, Ak, Aj, Ah, Ai), stk => Ap 56 .frz 0 [] ⟨[(0, (.d (.agg [(.int .i64 Af), (.int .i64 Ak), (.str Aj), (.sl (Ab Ag Ah)), (.sl (Ab Ac Ai))])))], ⟨m, []⟩ :: stk⟩
def O_zdf (m : Nat) : R_zdf → Stk → Rk'
 | r0, stk => some (.ret (.d (.bool r0)), stk)
abbrev H_zdf_0 (m : Nat) (l : T_zdf_0 → Option R_zdf) : Prop := Hd l (A_zdf_0 Ap @Ab Ag Ac m ) (O_zdf m )
abbrev Y_zda := S1_ → Option (S1_)
def C_zda (c_zda : S1_ → Option (S1_)) : Prop := ∀ {Af Ak : Int} {Aj : Str} {Ah : Ls0} {Ai : Ls1} {Ce Cf : Int} {Cg : Str} {Cv : Ls0} {Cw : Ls1}, c_zda ⟨Af, Ak, Aj, Ah, Ai⟩ = some ⟨Ce, Cf, Cg, Cv, Cw⟩ → ∀ (stk : Stk) , As 45 [(.d (.agg [(.int .i64 Af), (.int .i64 Ak), (.str Aj), (.sl (Ab Ag Ah)), (.sl (Ab Ac Ai))]))] stk = some (.d (.agg [(.int .i64 Ce), (.int .i64 Cf), (.str Cg), (.sl (Ab Ag Cv)), (.sl (Ab Ac Cw))])) ∧ Am 45 [(.d (.agg [(.int .i64 Af), (.int .i64 Ak), (.str Aj), (.sl (Ab Ag Ah)), (.sl (Ab Ac Ai))]))] stk = some (.d (.agg [(.int .i64 Ce), (.int .i64 Cf), (.str Cg), (.sl (Ab Ag Cv)), (.sl (Ab Ac Cw))]), stk)
abbrev T_zda_1 := Int × Int × Str × Ls0 × Ls1 × Ls0 × Int × Int × Int × Int × Str × Ls0 × Ls1 × Int × Int × Str × Nat × Ls0 × Nat × Ls1
abbrev R_zda := S1_
abbrev T_zda_0 := Int × Int × Str × Ls0 × Ls1
def A_zda_1 (m : Nat) : T_zda_1 → Stk → Rk'
 | (A3, Be, Bf, Bg, Bd, v16, v17, v18, B4, B5, B6, B7, B8, Cl, Cn, Co, Bj, B9, Bk, Ca), stk => Ap 45 .frz 1 [.lp ⟨1, [1, 2, 3, 16, 17, 18], [[2], [3], [3, 3], [3, 4]]⟩, .blk 0, .sub ⟨4, [1, 2, 3], [[2], [3], [3, 3], [3, 4]]⟩] ⟨[(1, (.d (.iptr [(.int .i64 A3), (.int .i64 Be), (.str Bf), (.sl (Ab Ag Bg)), (.sl (Ab Ac Bd))]))), (2, (.ref ⟨m, [2]⟩ 0)), (3, (.ref ⟨m, [3]⟩ 0)), (16, (.d (.sl (Ab Ag v16)))), (17, (.d (.int .i64 v17))), (18, (.d (.int .i64 v18)))], ⟨m, [([2], (.cells [(.d (.int .i64 B4)), (.d (.int .i64 B5)), (.d (.str B6)), (.d (.sl (Ab Ag B7))), (.d (.sl (Ab Ac B8)))])), ([3], (.cells [(.d (.int .i64 Cl)), (.d (.int .i64 Cn)), (.d (.str Co)), (.msl ⟨m, [3, 3]⟩ Bj 0 (Aw (Ab Ag B9))), (.msl ⟨m, [3, 4]⟩ Bk 0 (Aw (Ab Ac Ca)))])), ([3, 3], (.arr Bj 5 (Ab Ag B9))), ([3, 4], (.arr Bk 6 (Ab Ac Ca)))]⟩ :: stk⟩
def O_zda (m : Nat) : R_zda → Stk → Rk'
 | ⟨Ce, Cf, Cg, Cv, Cw⟩, stk => some (.ret (.d (.agg [(.int .i64 Ce), (.int .i64 Cf), (.str Cg), (.sl (Ab Ag Cv)), (.sl (Ab Ac Cw))])), stk)
abbrev H_zda_1 (m : Nat) (l : T_zda_1 → Option R_zda) : Prop := Hd l (A_zda_1 Ap @Ab Aw Ag Ac m ) (O_zda @Ab Ag Ac m )
def A_zda_0 (m : Nat) : T_zda_0 → Stk → Rk'
 | (Af, Ak, Aj, Ah, Ai), stk => Ap 45 .frz 0 [] ⟨[(0, (.d (.agg [(.int .i64 Af), (.int .i64 Ak), (.str Aj), (.sl (Ab Ag Ah)), (.sl (Ab Ac Ai))])))], ⟨m, []⟩ :: stk⟩
abbrev H_zda_0 (m : Nat) (l : T_zda_0 → Option R_zda) : Prop := Hd l (A_zda_0 Ap @Ab Ag Ac m ) (O_zda @Ab Ag Ac m )
abbrev T_zda_5 := Ls1 × Int × Int × Int × Int × Str × Ls0 × Ls1 × Int × Int × Str × Nat × Ls0 × Nat × Ls1
def A_zda_5 (m : Nat) : T_zda_5 → Stk → Rk'
 | (v31, v32, v33, B4, B5, B6, B7, B8, Cl, Cn, Co, Bj, B9, Bk, Ca), stk => Ap 45 .frz 5 [.lp ⟨5, [2, 3, 31, 32, 33], [[2], [3], [3, 3], [3, 4]]⟩, .blk 2, .sub ⟨8, [2, 3], [[2], [3], [3, 3], [3, 4]]⟩] ⟨[(2, (.ref ⟨m, [2]⟩ 0)), (3, (.ref ⟨m, [3]⟩ 0)), (31, (.d (.sl (Ab Ac v31)))), (32, (.d (.int .i64 v32))), (33, (.d (.int .i64 v33)))], ⟨m, [([2], (.cells [(.d (.int .i64 B4)), (.d (.int .i64 B5)), (.d (.str B6)), (.d (.sl (Ab Ag B7))), (.d (.sl (Ab Ac B8)))])), ([3], (.cells [(.d (.int .i64 Cl)), (.d (.int .i64 Cn)), (.d (.str Co)), (.msl ⟨m, [3, 3]⟩ Bj 0 (Aw (Ab Ag B9))), (.msl ⟨m, [3, 4]⟩ Bk 0 (Aw (Ab Ac Ca)))])), ([3, 3], (.arr Bj 5 (Ab Ag B9))), ([3, 4], (.arr Bk 6 (Ab Ac Ca)))]⟩ :: stk⟩
abbrev H_zda_5 (m : Nat) (l : T_zda_5 → Option R_zda) : Prop := Hd l (A_zda_5 Ap @Ab Aw Ag Ac m ) (O_zda @Ab Ag Ac m )
abbrev T_zdb_1 := Int × Int × Str × Ls0 × Ls1 × Ls0 × Int × Int × Int × Int × Str × Ls0 × Ls1 × Int × Int × Str × Nat × Ls0 × Nat × Ls1
abbrev R_zdb := Int × Int × Str × Nat × Ls0 × Nat × Ls1
abbrev T_zdb_0 := Int × Int × Str × Ls0 × Ls1
def A_zdb_1 (m : Nat) : T_zdb_1 → Stk → Rk'
 | (A3, Be, Bf, Bg, Bd, v16, v17, v18, B4, B5, B6, B7, B8, Cl, Cn, Co, Bj, B9, Bk, Ca), stk => Ap 45 (.keep [[3, 3], [3, 4]]) 1 [.lp ⟨1, [1, 2, 3, 16, 17, 18], [[2], [3], [3, 3], [3, 4]]⟩, .blk 0, .sub ⟨4, [1, 2, 3], [[2], [3], [3, 3], [3, 4]]⟩] ⟨[(1, (.d (.iptr [(.int .i64 A3), (.int .i64 Be), (.str Bf), (.sl (Ab Ag Bg)), (.sl (Ab Ac Bd))]))), (2, (.ref ⟨m, [2]⟩ 0)), (3, (.ref ⟨m, [3]⟩ 0)), (16, (.d (.sl (Ab Ag v16)))), (17, (.d (.int .i64 v17))), (18, (.d (.int .i64 v18)))], ⟨m, [([2], (.cells [(.d (.int .i64 B4)), (.d (.int .i64 B5)), (.d (.str B6)), (.d (.sl (Ab Ag B7))), (.d (.sl (Ab Ac B8)))])), ([3], (.cells [(.d (.int .i64 Cl)), (.d (.int .i64 Cn)), (.d (.str Co)), (.msl ⟨m, [3, 3]⟩ Bj 0 (Aw (Ab Ag B9))), (.msl ⟨m, [3, 4]⟩ Bk 0 (Aw (Ab Ac Ca)))])), ([3, 3], (.arr Bj 5 (Ab Ag B9))), ([3, 4], (.arr Bk 6 (Ab Ac Ca)))]⟩ :: stk⟩
def O_zdb (m : Nat) : R_zdb → Stk → Rk'
 | (Ce, Cf, Cg, qo3_3_g, qo3_3, qo3_4_g, qo3_4), stk => some (.ret (.agg [(.d (.int .i64 Ce)), (.d (.int .i64 Cf)), (.d (.str Cg)), (.msl ⟨m, [3, 3]⟩ qo3_3_g 0 (Aw (Ab Ag qo3_3))), (.msl ⟨m, [3, 4]⟩ qo3_4_g 0 (Aw (Ab Ac qo3_4)))]), ⟨m, [([3, 3], (.arr qo3_3_g 5 (Ab Ag qo3_3))), ([3, 4], (.arr qo3_4_g 6 (Ab Ac qo3_4)))]⟩ :: stk)
abbrev H_zdb_1 (m : Nat) (l : T_zdb_1 → Option R_zdb) : Prop := Hd l (A_zdb_1 Ap @Ab Aw Ag Ac m ) (O_zdb @Ab Aw Ag Ac m )
def A_zdb_0 (m : Nat) : T_zdb_0 → Stk → Rk'
 | (Af, Ak, Aj, Ah, Ai), stk => Ap 45 (.keep [[3, 3], [3, 4]]) 0 [] ⟨[(0, (.d (.agg [(.int .i64 Af), (.int .i64 Ak), (.str Aj), (.sl (Ab Ag Ah)), (.sl (Ab Ac Ai))])))], ⟨m, []⟩ :: stk⟩
abbrev H_zdb_0 (m : Nat) (l : T_zdb_0 → Option R_zdb) : Prop := Hd l (A_zdb_0 Ap @Ab Ag Ac m ) (O_zdb @Ab Aw Ag Ac m )
abbrev T_zdb_5 := Ls1 × Int × Int × Int × Int × Str × Ls0 × Ls1 × Int × Int × Str × Nat × Ls0 × Nat × Ls1
def A_zdb_5 (m : Nat) : T_zdb_5 → Stk → Rk'
 | (v31, v32, v33, B4, B5, B6, B7, B8, Cl, Cn, Co, Bj, B9, Bk, Ca), stk => Ap 45 (.keep [[3, 3], [3, 4]]) 5 [.lp ⟨5, [2, 3, 31, 32, 33], [[2], [3], [3, 3], [3, 4]]⟩, .blk 2, .sub ⟨8, [2, 3], [[2], [3], [3, 3], [3, 4]]⟩] ⟨[(2, (.ref ⟨m, [2]⟩ 0)), (3, (.ref ⟨m, [3]⟩ 0)), (31, (.d (.sl (Ab Ac v31)))), (32, (.d (.int .i64 v32))), (33, (.d (.int .i64 v33)))], ⟨m, [([2], (.cells [(.d (.int .i64 B4)), (.d (.int .i64 B5)), (.d (.str B6)), (.d (.sl (Ab Ag B7))), (.d (.sl (Ab Ac B8)))])), ([3], (.cells [(.d (.int .i64 Cl)), (.d (.int .i64 Cn)), (.d (.str Co)), (.msl ⟨m, [3, 3]⟩ Bj 0 (Aw (Ab Ag B9))), (.msl ⟨m, [3, 4]⟩ Bk 0 (Aw (Ab Ac Ca)))])), ([3, 3], (.arr Bj 5 (Ab Ag B9))), ([3, 4], (.arr Bk 6 (Ab Ac Ca)))]⟩ :: stk⟩
abbrev H_zdb_5 (m : Nat) (l : T_zdb_5 → Option R_zdb) : Prop := Hd l (A_zdb_5 Ap @Ab Aw Ag Ac m ) (O_zdb @Ab Aw Ag Ac m )
abbrev T_zcw_0 := Str × Int × Int × Str × Ls0 × Ls1 × Ss
abbrev R_zcw := Int
def A_zcw_0 (m : Nat) (n0 n1 : Nat) (k0 k1 : Kl) (Cp : Nat) (L1 : Mi) : T_zcw_0 → Stk → Rk'
 | (Af, A6, A7, A8, A9, Ba, A1), stk => Ap 66 .frz 0 [] ⟨[(0, (.d (.agg [(.str Af), (.int .i64 A6), (.int .i64 A7), (.str A8), (.sl (Ab Ag A9)), (.sl (Ab Ac Ba))]))), (1, (.ref ⟨n0, k0⟩ 0)), (2, (.d (.iptr [(.sl (Ab Ax A1))])))], ⟨m, []⟩ :: stk⟩
def O_zcw (m : Nat) (n0 n1 : Nat) (k0 k1 : Kl) (Cp : Nat) (L1 : Mi) : R_zcw → Stk → Rk'
 | r0, stk => some (.ret (.d (.int .i64 r0)), stk)
def G_zcw (n0 n1 : Nat) (k0 k1 : Kl) (Cp : Nat) (L1 : Mi) (stk : Stk) : Prop := getO stk ⟨n0, k0⟩ = some (.cells [(.map ⟨n1, k1⟩)]) ∧ getO stk ⟨n1, k1⟩ = some (.map Cp (Av A0 L1)) ∧ True
abbrev H_zcw_0 (m : Nat) (n0 n1 : Nat) (k0 k1 : Kl) (Cp : Nat) (L1 : Mi) (l : T_zcw_0 → Option R_zcw) : Prop := HdS (G_zcw @Av A0 n0 n1 k0 k1 Cp L1) l (A_zcw_0 Ap @Ab Ag Ac Ax m n0 n1 k0 k1 Cp L1) (O_zcw m n0 n1 k0 k1 Cp L1)
abbrev Y_zcw := S0_ → Ss → Nat → Mi → Option (Int)
def C_zcw (c_zcw : S0_ → Ss → Nat → Mi → Option (Int)) : Prop := ∀ {Af : Str} {A6 A7 : Int} {A8 : Str} {A9 : Ls0} {Ba : Ls1} {A1 : Ss} {Cp : Nat} {L1 : Mi} {r0 : Int}, c_zcw ⟨Af, ⟨A6, A7, A8, A9, Ba⟩⟩ A1 Cp L1 = some r0 → ∀ (stk : Stk) (n0 : Nat) (k0 : Kl) (n1 : Nat) (k1 : Kl), getO stk ⟨n0, k0⟩ = some (.cells [(.map ⟨n1, k1⟩)]) → getO stk ⟨n1, k1⟩ = some (.map Cp (Av A0 L1)) → n0 ≤ topN stk → n1 ≤ topN stk → NE n0 k0 n1 k1 → As 66 [(.d (.agg [(.str Af), (.int .i64 A6), (.int .i64 A7), (.str A8), (.sl (Ab Ag A9)), (.sl (Ab Ac Ba))])), (.ref ⟨n0, k0⟩ 0), (.d (.iptr [(.sl (Ab Ax A1))]))] stk = some (.d (.int .i64 r0)) ∧ Am 66 [(.d (.agg [(.str Af), (.int .i64 A6), (.int .i64 A7), (.str A8), (.sl (Ab Ag A9)), (.sl (Ab Ac Ba))])), (.ref ⟨n0, k0⟩ 0), (.d (.iptr [(.sl (Ab Ax A1))]))] stk = some (.d (.int .i64 r0), stk)
abbrev T_zcy_0 := Str × Int × Int × Str × Ls0 × Ls1 × Str × Int × Int × Str × Ls0 × Ls1
abbrev R_zcy := Int
def A_zcy_0 (m : Nat) (n0 n1 n2 : Nat) (k0 k1 k2 : Kl) (Bc : Ss) (Cc : Nat) (L2 : Mi) : T_zcy_0 → Stk → Rk'
 | (Af, A6, A7, A8, A9, Ba, A3, Bl, Bm, Bn, Bo, Bp), stk => Ap 68 .frz 0 [] ⟨[(0, (.d (.agg [(.str Af), (.int .i64 A6), (.int .i64 A7), (.str A8), (.sl (Ab Ag A9)), (.sl (Ab Ac Ba))]))), (1, (.d (.agg [(.str A3), (.int .i64 Bl), (.int .i64 Bm), (.str Bn), (.sl (Ab Ag Bo)), (.sl (Ab Ac Bp))]))), (2, (.ref ⟨n0, k0⟩ 0))], ⟨m, []⟩ :: stk⟩
def O_zcy (m : Nat) (n0 n1 n2 : Nat) (k0 k1 k2 : Kl) (Bc : Ss) (Cc : Nat) (L2 : Mi) : R_zcy → Stk → Rk'
 | r0, stk => some (.ret (.d (.int .i64 r0)), stk)
def G_zcy (n0 n1 n2 : Nat) (k0 k1 k2 : Kl) (Bc : Ss) (Cc : Nat) (L2 : Mi) (stk : Stk) : Prop := getO stk ⟨n0, k0⟩ = some (.cells [(.clos (.func 66) [] [(.ref ⟨n1, k1⟩ 0), (.d (.iptr [(.sl (Ab Ax Bc))]))])]) ∧ getO stk ⟨n1, k1⟩ = some (.cells [(.map ⟨n2, k2⟩)]) ∧ getO stk ⟨n2, k2⟩ = some (.map Cc (Av A0 L2)) ∧ True
abbrev H_zcy_0 (m : Nat) (n0 n1 n2 : Nat) (k0 k1 k2 : Kl) (Bc : Ss) (Cc : Nat) (L2 : Mi) (l : T_zcy_0 → Option R_zcy) : Prop := HdS (G_zcy @Ab @Av A0 Ax n0 n1 n2 k0 k1 k2 Bc Cc L2) l (A_zcy_0 Ap @Ab Ag Ac m n0 n1 n2 k0 k1 k2 Bc Cc L2) (O_zcy m n0 n1 n2 k0 k1 k2 Bc Cc L2)
abbrev Y_zcy := S0_ → S0_ → Ss → Nat → Mi → Option (Int)
def C_zcy (c_zcy : S0_ → S0_ → Ss → Nat → Mi → Option (Int)) : Prop := ∀ {Af : Str} {A6 A7 : Int} {A8 : Str} {A9 : Ls0} {Ba : Ls1} {A3 : Str} {Bl Bm : Int} {Bn : Str} {Bo : Ls0} {Bp : Ls1} {Bc : Ss} {Cc : Nat} {L2 : Mi} {r0 : Int}, c_zcy ⟨Af, ⟨A6, A7, A8, A9, Ba⟩⟩ ⟨A3, ⟨Bl, Bm, Bn, Bo, Bp⟩⟩ Bc Cc L2 = some r0 → ∀ (stk : Stk) (n0 : Nat) (k0 : Kl) (n1 : Nat) (k1 : Kl) (n2 : Nat) (k2 : Kl), getO stk ⟨n0, k0⟩ = some (.cells [(.clos (.func 66) [] [(.ref ⟨n1, k1⟩ 0), (.d (.iptr [(.sl (Ab Ax Bc))]))])]) → getO stk ⟨n1, k1⟩ = some (.cells [(.map ⟨n2, k2⟩)]) → getO stk ⟨n2, k2⟩ = some (.map Cc (Av A0 L2)) → n0 ≤ topN stk → n1 ≤ topN stk → n2 ≤ topN stk → NE n0 k0 n1 k1 → NE n0 k0 n2 k2 → NE n1 k1 n2 k2 → As 68 [(.d (.agg [(.str Af), (.int .i64 A6), (.int .i64 A7), (.str A8), (.sl (Ab Ag A9)), (.sl (Ab Ac Ba))])), (.d (.agg [(.str A3), (.int .i64 Bl), (.int .i64 Bm), (.str Bn), (.sl (Ab Ag Bo)), (.sl (Ab Ac Bp))])), (.ref ⟨n0, k0⟩ 0)] stk = some (.d (.int .i64 r0)) ∧ Am 68 [(.d (.agg [(.str Af), (.int .i64 A6), (.int .i64 A7), (.str A8), (.sl (Ab Ag A9)), (.sl (Ab Ac Ba))])), (.d (.agg [(.str A3), (.int .i64 Bl), (.int .i64 Bm), (.str Bn), (.sl (Ab Ag Bo)), (.sl (Ab Ac Bp))])), (.ref ⟨n0, k0⟩ 0)] stk = some (.d (.int .i64 r0), stk)
abbrev T_zcf_1 := Ls1 × Int × Int × Int
abbrev R_zcf := Ls1
abbrev T_zcf_0 := Int × Int × Ls1
def A_zcf_1 (m : Nat) (n0 n1 n2 n3 : Nat) (k0 k1 k2 k3 : Kl) (Ad : Nat) (Aa : Ss) (Ae : Nat) (L3 : Mi) : T_zcf_1 → Stk → Rk'
 | (L0, v1, v2, v8), stk => Ap 77 .frz 1 [.lp ⟨1, [0, 1, 2, 3, 8], []⟩, .blk 0] ⟨[(0, (.msl ⟨n0, k0⟩ Ad 0 (Aw (Ab Ac L0)))), (1, (.d (.int .i64 v1))), (2, (.d (.int .i64 v2))), (3, (.clos (.func 68) [] [(.ref ⟨n1, k1⟩ 0)])), (8, (.d (.int .i64 v8)))], ⟨m, []⟩ :: stk⟩
def O_zcf (m : Nat) (n0 n1 n2 n3 : Nat) (k0 k1 k2 k3 : Kl) (Ad : Nat) (Aa : Ss) (Ae : Nat) (L3 : Mi) : R_zcf → Stk → Rk'
 | r_w0, stk => some (.ret (.d (.tup [])), (Ay stk ⟨n0, k0⟩ (.arr Ad 6 (Ab Ac r_w0))))
def G_zcf_1 (n0 n1 n2 n3 : Nat) (k0 k1 k2 k3 : Kl) (Ad : Nat) (Aa : Ss) (Ae : Nat) (L3 : Mi) : T_zcf_1 → Stk → Prop
 | (L0, v1, v2, v8), stk => getO stk ⟨n0, k0⟩ = some (.arr Ad 6 (Ab Ac L0)) ∧ getO stk ⟨n1, k1⟩ = some (.cells [(.clos (.func 66) [] [(.ref ⟨n2, k2⟩ 0), (.d (.iptr [(.sl (Ab Ax Aa))]))])]) ∧ getO stk ⟨n2, k2⟩ = some (.cells [(.map ⟨n3, k3⟩)]) ∧ getO stk ⟨n3, k3⟩ = some (.map Ae (Av A0 L3)) ∧ True
abbrev H_zcf_1 (m : Nat) (n0 n1 n2 n3 : Nat) (k0 k1 k2 k3 : Kl) (Ad : Nat) (Aa : Ss) (Ae : Nat) (L3 : Mi) (l : T_zcf_1 → Option R_zcf) : Prop := HdG (G_zcf_1 @Ab @Av Ac A0 Ax n0 n1 n2 n3 k0 k1 k2 k3 Ad Aa Ae L3) l (A_zcf_1 Ap @Ab Aw Ac m n0 n1 n2 n3 k0 k1 k2 k3 Ad Aa Ae L3) (O_zcf @Ab Ay Ac m n0 n1 n2 n3 k0 k1 k2 k3 Ad Aa Ae L3)
def A_zcf_0 (m : Nat) (n0 n1 n2 n3 : Nat) (k0 k1 k2 k3 : Kl) (Ad : Nat) (Aa : Ss) (Ae : Nat) (L3 : Mi) : T_zcf_0 → Stk → Rk'
 | (v1, v2, L0), stk => Ap 77 .frz 0 [] ⟨[(0, (.msl ⟨n0, k0⟩ Ad 0 (Aw (Ab Ac L0)))), (1, (.d (.int .i64 v1))), (2, (.d (.int .i64 v2))), (3, (.clos (.func 68) [] [(.ref ⟨n1, k1⟩ 0)]))], ⟨m, []⟩ :: stk⟩
def G_zcf_0 (n0 n1 n2 n3 : Nat) (k0 k1 k2 k3 : Kl) (Ad : Nat) (Aa : Ss) (Ae : Nat) (L3 : Mi) : T_zcf_0 → Stk → Prop
 | (v1, v2, L0), stk => getO stk ⟨n0, k0⟩ = some (.arr Ad 6 (Ab Ac L0)) ∧ getO stk ⟨n1, k1⟩ = some (.cells [(.clos (.func 66) [] [(.ref ⟨n2, k2⟩ 0), (.d (.iptr [(.sl (Ab Ax Aa))]))])]) ∧ getO stk ⟨n2, k2⟩ = some (.cells [(.map ⟨n3, k3⟩)]) ∧ getO stk ⟨n3, k3⟩ = some (.map Ae (Av A0 L3)) ∧ True
abbrev H_zcf_0 (m : Nat) (n0 n1 n2 n3 : Nat) (k0 k1 k2 k3 : Kl) (Ad : Nat) (Aa : Ss) (Ae : Nat) (L3 : Mi) (l : T_zcf_0 → Option R_zcf) : Prop := HdG (G_zcf_0 @Ab @Av Ac A0 Ax n0 n1 n2 n3 k0 k1 k2 k3 Ad Aa Ae L3) l (A_zcf_0 Ap @Ab Aw Ac m n0 n1 n2 n3 k0 k1 k2 k3 Ad Aa Ae L3) (O_zcf @Ab Ay Ac m n0 n1 n2 n3 k0 k1 k2 k3 Ad Aa Ae L3)
abbrev T_zcf_3 := Ls1 × Int × Int × Int × Int
def A_zcf_3 (m : Nat) (n0 n1 n2 n3 : Nat) (k0 k1 k2 k3 : Kl) (Ad : Nat) (Aa : Ss) (Ae : Nat) (L3 : Mi) : T_zcf_3 → Stk → Rk'
 | (L0, v1, v2, v8, v9), stk => Ap 77 .frz 3 [.lp ⟨3, [0, 1, 2, 3, 8, 9], []⟩, .blk 2, .blk 1, .sub ⟨6, [0, 1, 2, 3, 8], []⟩, .lp ⟨1, [0, 1, 2, 3, 8], []⟩, .blk 0] ⟨[(0, (.msl ⟨n0, k0⟩ Ad 0 (Aw (Ab Ac L0)))), (1, (.d (.int .i64 v1))), (2, (.d (.int .i64 v2))), (3, (.clos (.func 68) [] [(.ref ⟨n1, k1⟩ 0)])), (8, (.d (.int .i64 v8))), (9, (.d (.int .i64 v9)))], ⟨m, []⟩ :: stk⟩
def B_zcf_1 (m : Nat) (n0 n1 n2 n3 : Nat) (k0 k1 k2 k3 : Kl) (Ad : Nat) (Aa : Ss) (Ae : Nat) (L3 : Mi) : T_zcf_1 → Stk → Rk'
 | (L0, v1, v2, v8), stk => (A_zcf_1 Ap @Ab Aw Ac m n0 n1 n2 n3 k0 k1 k2 k3 Ad Aa Ae L3) (L0, v1, v2, v8) (Ay stk ⟨n0, k0⟩ (.arr Ad 6 (Ab Ac L0)))
def G_zcf_3 (n0 n1 n2 n3 : Nat) (k0 k1 k2 k3 : Kl) (Ad : Nat) (Aa : Ss) (Ae : Nat) (L3 : Mi) : T_zcf_3 → Stk → Prop
 | (L0, v1, v2, v8, v9), stk => getO stk ⟨n0, k0⟩ = some (.arr Ad 6 (Ab Ac L0)) ∧ getO stk ⟨n1, k1⟩ = some (.cells [(.clos (.func 66) [] [(.ref ⟨n2, k2⟩ 0), (.d (.iptr [(.sl (Ab Ax Aa))]))])]) ∧ getO stk ⟨n2, k2⟩ = some (.cells [(.map ⟨n3, k3⟩)]) ∧ getO stk ⟨n3, k3⟩ = some (.map Ae (Av A0 L3)) ∧ True
abbrev H_zcf_3 (m : Nat) (n0 n1 n2 n3 : Nat) (k0 k1 k2 k3 : Kl) (Ad : Nat) (Aa : Ss) (Ae : Nat) (L3 : Mi) (l : T_zcf_3 → Option (T_zcf_1 ⊕ R_zcf)) : Prop := HdG (G_zcf_3 @Ab @Av Ac A0 Ax n0 n1 n2 n3 k0 k1 k2 k3 Ad Aa Ae L3) l (A_zcf_3 Ap @Ab Aw Ac m n0 n1 n2 n3 k0 k1 k2 k3 Ad Aa Ae L3) (el (B_zcf_1 Ap @Ab Aw Ay Ac m n0 n1 n2 n3 k0 k1 k2 k3 Ad Aa Ae L3) (O_zcf @Ab Ay Ac m n0 n1 n2 n3 k0 k1 k2 k3 Ad Aa Ae L3))
abbrev T_zcf_6 := Ls1 × Int × Int × Int
def A_zcf_6 (m : Nat) (n0 n1 n2 n3 : Nat) (k0 k1 k2 k3 : Kl) (Ad : Nat) (Aa : Ss) (Ae : Nat) (L3 : Mi) : T_zcf_6 → Stk → Rk'
 | (L0, v1, v2, v8), stk => Ap 77 .frz 6 [.lp ⟨1, [0, 1, 2, 3, 8], []⟩, .blk 0] ⟨[(0, (.msl ⟨n0, k0⟩ Ad 0 (Aw (Ab Ac L0)))), (1, (.d (.int .i64 v1))), (2, (.d (.int .i64 v2))), (3, (.clos (.func 68) [] [(.ref ⟨n1, k1⟩ 0)])), (8, (.d (.int .i64 v8)))], ⟨m, []⟩ :: stk⟩
def G_zcf_6 (n0 n1 n2 n3 : Nat) (k0 k1 k2 k3 : Kl) (Ad : Nat) (Aa : Ss) (Ae : Nat) (L3 : Mi) : T_zcf_6 → Stk → Prop
 | (L0, v1, v2, v8), stk => getO stk ⟨n0, k0⟩ = some (.arr Ad 6 (Ab Ac L0)) ∧ getO stk ⟨n1, k1⟩ = some (.cells [(.clos (.func 66) [] [(.ref ⟨n2, k2⟩ 0), (.d (.iptr [(.sl (Ab Ax Aa))]))])]) ∧ getO stk ⟨n2, k2⟩ = some (.cells [(.map ⟨n3, k3⟩)]) ∧ getO stk ⟨n3, k3⟩ = some (.map Ae (Av A0 L3)) ∧ True
abbrev H_zcf_6 (m : Nat) (n0 n1 n2 n3 : Nat) (k0 k1 k2 k3 : Kl) (Ad : Nat) (Aa : Ss) (Ae : Nat) (L3 : Mi) (l : T_zcf_6 → Option (T_zcf_1 ⊕ R_zcf)) : Prop := HdG (G_zcf_6 @Ab @Av Ac A0 Ax n0 n1 n2 n3 k0 k1 k2 k3 Ad Aa Ae L3) l (A_zcf_6 Ap @Ab Aw Ac m n0 n1 n2 n3 k0 k1 k2 k3 Ad Aa Ae L3) (el (B_zcf_1 Ap @Ab Aw Ay Ac m n0 n1 n2 n3 k0 k1 k2 k3 Ad Aa Ae L3) (O_zcf @Ab Ay Ac m n0 n1 n2 n3 k0 k1 k2 k3 Ad Aa Ae L3))
def B_zcf_3 (m : Nat) (n0 n1 n2 n3 : Nat) (k0 k1 k2 k3 : Kl) (Ad : Nat) (Aa : Ss) (Ae : Nat) (L3 : Mi) : T_zcf_3 → Stk → Rk'
 | (L0, v1, v2, v8, v9), stk => (A_zcf_3 Ap @Ab Aw Ac m n0 n1 n2 n3 k0 k1 k2 k3 Ad Aa Ae L3) (L0, v1, v2, v8, v9) (Ay stk ⟨n0, k0⟩ (.arr Ad 6 (Ab Ac L0)))
abbrev T_zcl_1 := Ls1 × Int × Int × Int × Int
abbrev R_zcl := Ls1
abbrev T_zcl_0 := Int × Int × Int × Ls1
def A_zcl_1 (m : Nat) (n0 n1 n2 n3 : Nat) (k0 k1 k2 k3 : Kl) (Ad : Nat) (Aa : Ss) (Ae : Nat) (L3 : Mi) : T_zcl_1 → Stk → Rk'
 | (L0, v1, v2, v3, v10), stk => Ap 81 .frz 1 [.lp ⟨1, [0, 1, 2, 3, 10], []⟩, .blk 0] ⟨[(0, (.msl ⟨n0, k0⟩ Ad 0 (Aw (Ab Ac L0)))), (1, (.d (.int .i64 v1))), (2, (.d (.int .i64 v2))), (3, (.d (.int .i64 v3))), (10, (.d (.int .i64 v10)))], ⟨m, []⟩ :: stk⟩
def O_zcl (m : Nat) (n0 n1 n2 n3 : Nat) (k0 k1 k2 k3 : Kl) (Ad : Nat) (Aa : Ss) (Ae : Nat) (L3 : Mi) : R_zcl → Stk → Rk'
 | r_w0, stk => some (.ret (.d (.tup [])), (Ay stk ⟨n0, k0⟩ (.arr Ad 6 (Ab Ac r_w0))))
def G_zcl_1 (n0 n1 n2 n3 : Nat) (k0 k1 k2 k3 : Kl) (Ad : Nat) (Aa : Ss) (Ae : Nat) (L3 : Mi) : T_zcl_1 → Stk → Prop
 | (L0, v1, v2, v3, v10), stk => getO stk ⟨n0, k0⟩ = some (.arr Ad 6 (Ab Ac L0)) ∧ getO stk ⟨n1, k1⟩ = some (.cells [(.clos (.func 66) [] [(.ref ⟨n2, k2⟩ 0), (.d (.iptr [(.sl (Ab Ax Aa))]))])]) ∧ getO stk ⟨n2, k2⟩ = some (.cells [(.map ⟨n3, k3⟩)]) ∧ getO stk ⟨n3, k3⟩ = some (.map Ae (Av A0 L3)) ∧ True
abbrev H_zcl_1 (m : Nat) (n0 n1 n2 n3 : Nat) (k0 k1 k2 k3 : Kl) (Ad : Nat) (Aa : Ss) (Ae : Nat) (L3 : Mi) (l : T_zcl_1 → Option R_zcl) : Prop := HdG (G_zcl_1 @Ab @Av Ac A0 Ax n0 n1 n2 n3 k0 k1 k2 k3 Ad Aa Ae L3) l (A_zcl_1 Ap @Ab Aw Ac m n0 n1 n2 n3 k0 k1 k2 k3 Ad Aa Ae L3) (O_zcl @Ab Ay Ac m n0 n1 n2 n3 k0 k1 k2 k3 Ad Aa Ae L3)
def A_zcl_0 (m : Nat) (n0 n1 n2 n3 : Nat) (k0 k1 k2 k3 : Kl) (Ad : Nat) (Aa : Ss) (Ae : Nat) (L3 : Mi) : T_zcl_0 → Stk → Rk'
 | (v1, v2, v3, L0), stk => Ap 81 .frz 0 [] ⟨[(0, (.msl ⟨n0, k0⟩ Ad 0 (Aw (Ab Ac L0)))), (1, (.d (.int .i64 v1))), (2, (.d (.int .i64 v2))), (3, (.d (.int .i64 v3))), (4, (.clos (.func 68) [] [(.ref ⟨n1, k1⟩ 0)]))], ⟨m, []⟩ :: stk⟩
def G_zcl_0 (n0 n1 n2 n3 : Nat) (k0 k1 k2 k3 : Kl) (Ad : Nat) (Aa : Ss) (Ae : Nat) (L3 : Mi) : T_zcl_0 → Stk → Prop
 | (v1, v2, v3, L0), stk => getO stk ⟨n0, k0⟩ = some (.arr Ad 6 (Ab Ac L0)) ∧ getO stk ⟨n1, k1⟩ = some (.cells [(.clos (.func 66) [] [(.ref ⟨n2, k2⟩ 0), (.d (.iptr [(.sl (Ab Ax Aa))]))])]) ∧ getO stk ⟨n2, k2⟩ = some (.cells [(.map ⟨n3, k3⟩)]) ∧ getO stk ⟨n3, k3⟩ = some (.map Ae (Av A0 L3)) ∧ True
abbrev H_zcl_0 (m : Nat) (n0 n1 n2 n3 : Nat) (k0 k1 k2 k3 : Kl) (Ad : Nat) (Aa : Ss) (Ae : Nat) (L3 : Mi) (l : T_zcl_0 → Option R_zcl) : Prop := HdG (G_zcl_0 @Ab @Av Ac A0 Ax n0 n1 n2 n3 k0 k1 k2 k3 Ad Aa Ae L3) l (A_zcl_0 Ap @Ab Aw Ac m n0 n1 n2 n3 k0 k1 k2 k3 Ad Aa Ae L3) (O_zcl @Ab Ay Ac m n0 n1 n2 n3 k0 k1 k2 k3 Ad Aa Ae L3)
def B_zcl_1 (m : Nat) (n0 n1 n2 n3 : Nat) (k0 k1 k2 k3 : Kl) (Ad : Nat) (Aa : Ss) (Ae : Nat) (L3 : Mi) : T_zcl_1 → Stk → Rk'
 | (L0, v1, v2, v3, v10), stk => (A_zcl_1 Ap @Ab Aw Ac m n0 n1 n2 n3 k0 k1 k2 k3 Ad Aa Ae L3) (L0, v1, v2, v3, v10) (Ay stk ⟨n0, k0⟩ (.arr Ad 6 (Ab Ac L0)))
abbrev Y_zcl := Int → Int → Int → Nat → Ls1 → Ss → Nat → Mi → Option (Ls1)
def C_zcl (c_zcl : Int → Int → Int → Nat → Ls1 → Ss → Nat → Mi → Option (Ls1)) : Prop := ∀ {v1 v2 v3 : Int} {Ad : Nat} {L0 : Ls1} {Aa : Ss} {Ae : Nat} {L3 : Mi} {r_w0 : Ls1}, c_zcl v1 v2 v3 Ad L0 Aa Ae L3 = some r_w0 → ∀ (stk : Stk) (n0 : Nat) (k0 : Kl) (n1 : Nat) (k1 : Kl) (n2 : Nat) (k2 : Kl) (n3 : Nat) (k3 : Kl), getO stk ⟨n0, k0⟩ = some (.arr Ad 6 (Ab Ac L0)) → getO stk ⟨n1, k1⟩ = some (.cells [(.clos (.func 66) [] [(.ref ⟨n2, k2⟩ 0), (.d (.iptr [(.sl (Ab Ax Aa))]))])]) → getO stk ⟨n2, k2⟩ = some (.cells [(.map ⟨n3, k3⟩)]) → getO stk ⟨n3, k3⟩ = some (.map Ae (Av A0 L3)) → n0 ≤ topN stk → n1 ≤ topN stk → n2 ≤ topN stk → n3 ≤ topN stk → NE n0 k0 n1 k1 → NE n0 k0 n2 k2 → NE n0 k0 n3 k3 → NE n1 k1 n2 k2 → NE n1 k1 n3 k3 → NE n2 k2 n3 k3 → Am 81 [(.msl ⟨n0, k0⟩ Ad 0 (Aw (Ab Ac L0))), (.d (.int .i64 v1)), (.d (.int .i64 v2)), (.d (.int .i64 v3)), (.clos (.func 68) [] [(.ref ⟨n1, k1⟩ 0)])] stk = some (.d (.tup []), (Ay stk ⟨n0, k0⟩ (.arr Ad 6 (Ab Ac r_w0))))
abbrev T_zch_1 := Ls1 × Int × Int × Int
abbrev R_zch := Ls1
abbrev T_zch_0 := Int × Int × Int × Ls1
def A_zch_1 (m : Nat) (n0 n1 n2 n3 : Nat) (k0 k1 k2 k3 : Kl) (Ad : Nat) (Aa : Ss) (Ae : Nat) (L3 : Mi) : T_zch_1 → Stk → Rk'
 | (L0, v2, v10, v11), stk => Ap 80 .frz 1 [.lp ⟨1, [0, 2, 4, 10, 11], []⟩, .blk 0, .sub ⟨3, [0, 2, 4, 10], []⟩] ⟨[(0, (.msl ⟨n0, k0⟩ Ad 0 (Aw (Ab Ac L0)))), (2, (.d (.int .i64 v2))), (4, (.clos (.func 68) [] [(.ref ⟨n1, k1⟩ 0)])), (10, (.d (.int .i64 v10))), (11, (.d (.int .i64 v11)))], ⟨m, []⟩ :: stk⟩
def O_zch (m : Nat) (n0 n1 n2 n3 : Nat) (k0 k1 k2 k3 : Kl) (Ad : Nat) (Aa : Ss) (Ae : Nat) (L3 : Mi) : R_zch → Stk → Rk'
 | r_w0, stk => some (.ret (.d (.tup [])), (Ay stk ⟨n0, k0⟩ (.arr Ad 6 (Ab Ac r_w0))))
def G_zch_1 (n0 n1 n2 n3 : Nat) (k0 k1 k2 k3 : Kl) (Ad : Nat) (Aa : Ss) (Ae : Nat) (L3 : Mi) : T_zch_1 → Stk → Prop
 | (L0, v2, v10, v11), stk => getO stk ⟨n0, k0⟩ = some (.arr Ad 6 (Ab Ac L0)) ∧ getO stk ⟨n1, k1⟩ = some (.cells [(.clos (.func 66) [] [(.ref ⟨n2, k2⟩ 0), (.d (.iptr [(.sl (Ab Ax Aa))]))])]) ∧ getO stk ⟨n2, k2⟩ = some (.cells [(.map ⟨n3, k3⟩)]) ∧ getO stk ⟨n3, k3⟩ = some (.map Ae (Av A0 L3)) ∧ True
abbrev H_zch_1 (m : Nat) (n0 n1 n2 n3 : Nat) (k0 k1 k2 k3 : Kl) (Ad : Nat) (Aa : Ss) (Ae : Nat) (L3 : Mi) (l : T_zch_1 → Option R_zch) : Prop := HdG (G_zch_1 @Ab @Av Ac A0 Ax n0 n1 n2 n3 k0 k1 k2 k3 Ad Aa Ae L3) l (A_zch_1 Ap @Ab Aw Ac m n0 n1 n2 n3 k0 k1 k2 k3 Ad Aa Ae L3) (O_zch @Ab Ay Ac m n0 n1 n2 n3 k0 k1 k2 k3 Ad Aa Ae L3)
def A_zch_0 (m : Nat) (n0 n1 n2 n3 : Nat) (k0 k1 k2 k3 : Kl) (Ad : Nat) (Aa : Ss) (Ae : Nat) (L3 : Mi) : T_zch_0 → Stk → Rk'
 | (v1, v2, v3, L0), stk => Ap 80 .frz 0 [] ⟨[(0, (.msl ⟨n0, k0⟩ Ad 0 (Aw (Ab Ac L0)))), (1, (.d (.int .i64 v1))), (2, (.d (.int .i64 v2))), (3, (.d (.int .i64 v3))), (4, (.clos (.func 68) [] [(.ref ⟨n1, k1⟩ 0)]))], ⟨m, []⟩ :: stk⟩
def G_zch_0 (n0 n1 n2 n3 : Nat) (k0 k1 k2 k3 : Kl) (Ad : Nat) (Aa : Ss) (Ae : Nat) (L3 : Mi) : T_zch_0 → Stk → Prop
 | (v1, v2, v3, L0), stk => getO stk ⟨n0, k0⟩ = some (.arr Ad 6 (Ab Ac L0)) ∧ getO stk ⟨n1, k1⟩ = some (.cells [(.clos (.func 66) [] [(.ref ⟨n2, k2⟩ 0), (.d (.iptr [(.sl (Ab Ax Aa))]))])]) ∧ getO stk ⟨n2, k2⟩ = some (.cells [(.map ⟨n3, k3⟩)]) ∧ getO stk ⟨n3, k3⟩ = some (.map Ae (Av A0 L3)) ∧ True
abbrev H_zch_0 (m : Nat) (n0 n1 n2 n3 : Nat) (k0 k1 k2 k3 : Kl) (Ad : Nat) (Aa : Ss) (Ae : Nat) (L3 : Mi) (l : T_zch_0 → Option R_zch) : Prop := HdG (G_zch_0 @Ab @Av Ac A0 Ax n0 n1 n2 n3 k0 k1 k2 k3 Ad Aa Ae L3) l (A_zch_0 Ap @Ab Aw Ac m n0 n1 n2 n3 k0 k1 k2 k3 Ad Aa Ae L3) (O_zch @Ab Ay Ac m n0 n1 n2 n3 k0 k1 k2 k3 Ad Aa Ae L3)
def B_zch_1 (m : Nat) (n0 n1 n2 n3 : Nat) (k0 k1 k2 k3 : Kl) (Ad : Nat) (Aa : Ss) (Ae : Nat) (L3 : Mi) : T_zch_1 → Stk → Rk'
 | (L0, v2, v10, v11), stk => (A_zch_1 Ap @Ab Aw Ac m n0 n1 n2 n3 k0 k1 k2 k3 Ad Aa Ae L3) (L0, v2, v10, v11) (Ay stk ⟨n0, k0⟩ (.arr Ad 6 (Ab Ac L0)))
abbrev Y_zch := Int → Int → Int → Nat → Ls1 → Ss → Nat → Mi → Option (Ls1)
abbrev Y_zcn := Int → Int → Int → Nat → Ls1 → Ss → Nat → Mi → Option (Ls1)
def C_zch (c_zch : Int → Int → Int → Nat → Ls1 → Ss → Nat → Mi → Option (Ls1)) : Prop := ∀ {v1 v2 v3 : Int} {Ad : Nat} {L0 : Ls1} {Aa : Ss} {Ae : Nat} {L3 : Mi} {r_w0 : Ls1}, c_zch v1 v2 v3 Ad L0 Aa Ae L3 = some r_w0 → ∀ (stk : Stk) (n0 : Nat) (k0 : Kl) (n1 : Nat) (k1 : Kl) (n2 : Nat) (k2 : Kl) (n3 : Nat) (k3 : Kl), getO stk ⟨n0, k0⟩ = some (.arr Ad 6 (Ab Ac L0)) → getO stk ⟨n1, k1⟩ = some (.cells [(.clos (.func 66) [] [(.ref ⟨n2, k2⟩ 0), (.d (.iptr [(.sl (Ab Ax Aa))]))])]) → getO stk ⟨n2, k2⟩ = some (.cells [(.map ⟨n3, k3⟩)]) → getO stk ⟨n3, k3⟩ = some (.map Ae (Av A0 L3)) → n0 ≤ topN stk → n1 ≤ topN stk → n2 ≤ topN stk → n3 ≤ topN stk → NE n0 k0 n1 k1 → NE n0 k0 n2 k2 → NE n0 k0 n3 k3 → NE n1 k1 n2 k2 → NE n1 k1 n3 k3 → NE n2 k2 n3 k3 → Am 80 [(.msl ⟨n0, k0⟩ Ad 0 (Aw (Ab Ac L0))), (.d (.int .i64 v1)), (.d (.int .i64 v2)), (.d (.int .i64 v3)), (.clos (.func 68) [] [(.ref ⟨n1, k1⟩ 0)])] stk = some (.d (.tup []), (Ay stk ⟨n0, k0⟩ (.arr Ad 6 (Ab Ac r_w0))))
def C_zcn (c_zcn : Int → Int → Int → Nat → Ls1 → Ss → Nat → Mi → Option (Ls1)) : Prop := ∀ {v1 v2 v3 : Int} {Ad : Nat} {L0 : Ls1} {Aa : Ss} {Ae : Nat} {L3 : Mi} {r_w0 : Ls1}, c_zcn v1 v2 v3 Ad L0 Aa Ae L3 = some r_w0 → ∀ (stk : Stk) (n0 : Nat) (k0 : Kl) (n1 : Nat) (k1 : Kl) (n2 : Nat) (k2 : Kl) (n3 : Nat) (k3 : Kl), getO stk ⟨n0, k0⟩ = some (.arr Ad 6 (Ab Ac L0)) → getO stk ⟨n1, k1⟩ = some (.cells [(.clos (.func 66) [] [(.ref ⟨n2, k2⟩ 0), (.d (.iptr [(.sl (Ab Ax Aa))]))])]) → getO stk ⟨n2, k2⟩ = some (.cells [(.map ⟨n3, k3⟩)]) → getO stk ⟨n3, k3⟩ = some (.map Ae (Av A0 L3)) → n0 ≤ topN stk → n1 ≤ topN stk → n2 ≤ topN stk → n3 ≤ topN stk → NE n0 k0 n1 k1 → NE n0 k0 n2 k2 → NE n0 k0 n3 k3 → NE n1 k1 n2 k2 → NE n1 k1 n3 k3 → NE n2 k2 n3 k3 → Am 78 [(.msl ⟨n0, k0⟩ Ad 0 (Aw (Ab Ac L0))), (.d (.int .i64 v1)), (.d (.int .i64 v2)), (.d (.int .i64 v3)), (.clos (.func 68) [] [(.ref ⟨n1, k1⟩ 0)])] stk = some (.d (.tup []), (Ay stk ⟨n0, k0⟩ (.arr Ad 6 (Ab Ac r_w0))))
abbrev T_zcn_1 := Ls1 × Int × Int × Int
abbrev R_zcn := Ls1
abbrev T_zcn_9 := Ls1 × Int × Int × Int
abbrev T_zcn_17 := Ls1 × Int × Int × Int × Int × Int × Int × Int
abbrev T_zcn_0 := Int × Int × Int × Ls1
def A_zcn_1 (m : Nat) (n0 n1 n2 n3 : Nat) (k0 k1 k2 k3 : Kl) (Ad : Nat) (Aa : Ss) (Ae : Nat) (L3 : Mi) : T_zcn_1 → Stk → Rk'
 | (L0, v1, v10, v11), stk => Ap 78 .frz 1 [.lp ⟨1, [0, 1, 4, 10, 11], []⟩, .blk 0, .sub ⟨3, [0, 1, 10], []⟩, .sub ⟨8, [0, 1, 2, 3, 4], []⟩] ⟨[(0, (.msl ⟨n0, k0⟩ Ad 0 (Aw (Ab Ac L0)))), (1, (.d (.int .i64 v1))), (4, (.clos (.func 68) [] [(.ref ⟨n1, k1⟩ 0)])), (10, (.d (.int .i64 v10))), (11, (.d (.int .i64 v11)))], ⟨m, []⟩ :: stk⟩
def O_zcn (m : Nat) (n0 n1 n2 n3 : Nat) (k0 k1 k2 k3 : Kl) (Ad : Nat) (Aa : Ss) (Ae : Nat) (L3 : Mi) : R_zcn → Stk → Rk'
 | r_w0, stk => some (.ret (.d (.tup [])), (Ay stk ⟨n0, k0⟩ (.arr Ad 6 (Ab Ac r_w0))))
def G_zcn_1 (n0 n1 n2 n3 : Nat) (k0 k1 k2 k3 : Kl) (Ad : Nat) (Aa : Ss) (Ae : Nat) (L3 : Mi) : T_zcn_1 → Stk → Prop
 | (L0, v1, v10, v11), stk => getO stk ⟨n0, k0⟩ = some (.arr Ad 6 (Ab Ac L0)) ∧ getO stk ⟨n1, k1⟩ = some (.cells [(.clos (.func 66) [] [(.ref ⟨n2, k2⟩ 0), (.d (.iptr [(.sl (Ab Ax Aa))]))])]) ∧ getO stk ⟨n2, k2⟩ = some (.cells [(.map ⟨n3, k3⟩)]) ∧ getO stk ⟨n3, k3⟩ = some (.map Ae (Av A0 L3)) ∧ True
abbrev H_zcn_1 (m : Nat) (n0 n1 n2 n3 : Nat) (k0 k1 k2 k3 : Kl) (Ad : Nat) (Aa : Ss) (Ae : Nat) (L3 : Mi) (l : T_zcn_1 → Option R_zcn) : Prop := HdG (G_zcn_1 @Ab @Av Ac A0 Ax n0 n1 n2 n3 k0 k1 k2 k3 Ad Aa Ae L3) l (A_zcn_1 Ap @Ab Aw Ac m n0 n1 n2 n3 k0 k1 k2 k3 Ad Aa Ae L3) (O_zcn @Ab Ay Ac m n0 n1 n2 n3 k0 k1 k2 k3 Ad Aa Ae L3)
def A_zcn_9 (m : Nat) (n0 n1 n2 n3 : Nat) (k0 k1 k2 k3 : Kl) (Ad : Nat) (Aa : Ss) (Ae : Nat) (L3 : Mi) : T_zcn_9 → Stk → Rk'
 | (L0, v2, v14, v15), stk => Ap 78 .frz 9 [.lp ⟨9, [0, 2, 4, 14, 15], []⟩, .blk 4, .sub ⟨11, [0, 2, 14], []⟩, .sub ⟨16, [0, 1, 2, 3, 4], []⟩] ⟨[(0, (.msl ⟨n0, k0⟩ Ad 0 (Aw (Ab Ac L0)))), (2, (.d (.int .i64 v2))), (4, (.clos (.func 68) [] [(.ref ⟨n1, k1⟩ 0)])), (14, (.d (.int .i64 v14))), (15, (.d (.int .i64 v15)))], ⟨m, []⟩ :: stk⟩
def G_zcn_9 (n0 n1 n2 n3 : Nat) (k0 k1 k2 k3 : Kl) (Ad : Nat) (Aa : Ss) (Ae : Nat) (L3 : Mi) : T_zcn_9 → Stk → Prop
 | (L0, v2, v14, v15), stk => getO stk ⟨n0, k0⟩ = some (.arr Ad 6 (Ab Ac L0)) ∧ getO stk ⟨n1, k1⟩ = some (.cells [(.clos (.func 66) [] [(.ref ⟨n2, k2⟩ 0), (.d (.iptr [(.sl (Ab Ax Aa))]))])]) ∧ getO stk ⟨n2, k2⟩ = some (.cells [(.map ⟨n3, k3⟩)]) ∧ getO stk ⟨n3, k3⟩ = some (.map Ae (Av A0 L3)) ∧ True
abbrev H_zcn_9 (m : Nat) (n0 n1 n2 n3 : Nat) (k0 k1 k2 k3 : Kl) (Ad : Nat) (Aa : Ss) (Ae : Nat) (L3 : Mi) (l : T_zcn_9 → Option R_zcn) : Prop := HdG (G_zcn_9 @Ab @Av Ac A0 Ax n0 n1 n2 n3 k0 k1 k2 k3 Ad Aa Ae L3) l (A_zcn_9 Ap @Ab Aw Ac m n0 n1 n2 n3 k0 k1 k2 k3 Ad Aa Ae L3) (O_zcn @Ab Ay Ac m n0 n1 n2 n3 k0 k1 k2 k3 Ad Aa Ae L3)
def A_zcn_17 (m : Nat) (n0 n1 n2 n3 : Nat) (k0 k1 k2 k3 : Kl) (Ad : Nat) (Aa : Ss) (Ae : Nat) (L3 : Mi) : T_zcn_17 → Stk → Rk'
 | (L0, v1, v2, v3, v18, v19, v20, v21), stk => Ap 78 .frz 17 [] ⟨[(0, (.msl ⟨n0, k0⟩ Ad 0 (Aw (Ab Ac L0)))), (1, (.d (.int .i64 v1))), (2, (.d (.int .i64 v2))), (3, (.d (.int .i64 v3))), (4, (.clos (.func 68) [] [(.ref ⟨n1, k1⟩ 0)])), (18, (.d (.int .i64 v18))), (19, (.d (.int .i64 v19))), (20, (.d (.int .i64 v20))), (21, (.d (.int .i64 v21)))], ⟨m, []⟩ :: stk⟩
def G_zcn_17 (n0 n1 n2 n3 : Nat) (k0 k1 k2 k3 : Kl) (Ad : Nat) (Aa : Ss) (Ae : Nat) (L3 : Mi) : T_zcn_17 → Stk → Prop
 | (L0, v1, v2, v3, v18, v19, v20, v21), stk => getO stk ⟨n0, k0⟩ = some (.arr Ad 6 (Ab Ac L0)) ∧ getO stk ⟨n1, k1⟩ = some (.cells [(.clos (.func 66) [] [(.ref ⟨n2, k2⟩ 0), (.d (.iptr [(.sl (Ab Ax Aa))]))])]) ∧ getO stk ⟨n2, k2⟩ = some (.cells [(.map ⟨n3, k3⟩)]) ∧ getO stk ⟨n3, k3⟩ = some (.map Ae (Av A0 L3)) ∧ True
abbrev H_zcn_17 (m : Nat) (n0 n1 n2 n3 : Nat) (k0 k1 k2 k3 : Kl) (Ad : Nat) (Aa : Ss) (Ae : Nat) (L3 : Mi) (l : T_zcn_17 → Option R_zcn) : Prop := HdG (G_zcn_17 @Ab @Av Ac A0 Ax n0 n1 n2 n3 k0 k1 k2 k3 Ad Aa Ae L3) l (A_zcn_17 Ap @Ab Aw Ac m n0 n1 n2 n3 k0 k1 k2 k3 Ad Aa Ae L3) (O_zcn @Ab Ay Ac m n0 n1 n2 n3 k0 k1 k2 k3 Ad Aa Ae L3)
def A_zcn_0 (m : Nat) (n0 n1 n2 n3 : Nat) (k0 k1 k2 k3 : Kl) (Ad : Nat) (Aa : Ss) (Ae : Nat) (L3 : Mi) : T_zcn_0 → Stk → Rk'
 | (v1, v2, v3, L0), stk => Ap 78 .frz 0 [] ⟨[(0, (.msl ⟨n0, k0⟩ Ad 0 (Aw (Ab Ac L0)))), (1, (.d (.int .i64 v1))), (2, (.d (.int .i64 v2))), (3, (.d (.int .i64 v3))), (4, (.clos (.func 68) [] [(.ref ⟨n1, k1⟩ 0)]))], ⟨m, []⟩ :: stk⟩
def G_zcn_0 (n0 n1 n2 n3 : Nat) (k0 k1 k2 k3 : Kl) (Ad : Nat) (Aa : Ss) (Ae : Nat) (L3 : Mi) : T_zcn_0 → Stk → Prop
 | (v1, v2, v3, L0), stk => getO stk ⟨n0, k0⟩ = some (.arr Ad 6 (Ab Ac L0)) ∧ getO stk ⟨n1, k1⟩ = some (.cells [(.clos (.func 66) [] [(.ref ⟨n2, k2⟩ 0), (.d (.iptr [(.sl (Ab Ax Aa))]))])]) ∧ getO stk ⟨n2, k2⟩ = some (.cells [(.map ⟨n3, k3⟩)]) ∧ getO stk ⟨n3, k3⟩ = some (.map Ae (Av A0 L3)) ∧ True
abbrev H_zcn_0 (m : Nat) (n0 n1 n2 n3 : Nat) (k0 k1 k2 k3 : Kl) (Ad : Nat) (Aa : Ss) (Ae : Nat) (L3 : Mi) (l : T_zcn_0 → Option R_zcn) : Prop := HdG (G_zcn_0 @Ab @Av Ac A0 Ax n0 n1 n2 n3 k0 k1 k2 k3 Ad Aa Ae L3) l (A_zcn_0 Ap @Ab Aw Ac m n0 n1 n2 n3 k0 k1 k2 k3 Ad Aa Ae L3) (O_zcn @Ab Ay Ac m n0 n1 n2 n3 k0 k1 k2 k3 Ad Aa Ae L3)
abbrev T_zcn_4 := Ls1 × Int × Int
def A_zcn_4 (m : Nat) (n0 n1 n2 n3 : Nat) (k0 k1 k2 k3 : Kl) (Ad : Nat) (Aa : Ss) (Ae : Nat) (L3 : Mi) : T_zcn_4 → Stk → Rk'
 | (L0, v10, v13), stk => Ap 78 .frz 4 [.lp ⟨4, [0, 10, 13], []⟩, .blk 2, .sub ⟨7, [], []⟩, .sub ⟨8, [0, 1, 2, 3, 4], []⟩] ⟨[(0, (.msl ⟨n0, k0⟩ Ad 0 (Aw (Ab Ac L0)))), (10, (.d (.int .i64 v10))), (13, (.d (.int .i64 v13)))], ⟨m, []⟩ :: stk⟩
def G_zcn_4 (n0 n1 n2 n3 : Nat) (k0 k1 k2 k3 : Kl) (Ad : Nat) (Aa : Ss) (Ae : Nat) (L3 : Mi) : T_zcn_4 → Stk → Prop
 | (L0, v10, v13), stk => getO stk ⟨n0, k0⟩ = some (.arr Ad 6 (Ab Ac L0)) ∧ getO stk ⟨n1, k1⟩ = some (.cells [(.clos (.func 66) [] [(.ref ⟨n2, k2⟩ 0), (.d (.iptr [(.sl (Ab Ax Aa))]))])]) ∧ getO stk ⟨n2, k2⟩ = some (.cells [(.map ⟨n3, k3⟩)]) ∧ getO stk ⟨n3, k3⟩ = some (.map Ae (Av A0 L3)) ∧ True
abbrev H_zcn_4 (m : Nat) (n0 n1 n2 n3 : Nat) (k0 k1 k2 k3 : Kl) (Ad : Nat) (Aa : Ss) (Ae : Nat) (L3 : Mi) (l : T_zcn_4 → Option R_zcn) : Prop := HdG (G_zcn_4 @Ab @Av Ac A0 Ax n0 n1 n2 n3 k0 k1 k2 k3 Ad Aa Ae L3) l (A_zcn_4 Ap @Ab Aw Ac m n0 n1 n2 n3 k0 k1 k2 k3 Ad Aa Ae L3) (O_zcn @Ab Ay Ac m n0 n1 n2 n3 k0 k1 k2 k3 Ad Aa Ae L3)
def B_zcn_1 (m : Nat) (n0 n1 n2 n3 : Nat) (k0 k1 k2 k3 : Kl) (Ad : Nat) (Aa : Ss) (Ae : Nat) (L3 : Mi) : T_zcn_1 → Stk → Rk'
 | (L0, v1, v10, v11), stk => (A_zcn_1 Ap @Ab Aw Ac m n0 n1 n2 n3 k0 k1 k2 k3 Ad Aa Ae L3) (L0, v1, v10, v11) (Ay stk ⟨n0, k0⟩ (.arr Ad 6 (Ab Ac L0)))
abbrev T_zcn_12 := Ls1 × Int × Int
def A_zcn_12 (m : Nat) (n0 n1 n2 n3 : Nat) (k0 k1 k2 k3 : Kl) (Ad : Nat) (Aa : Ss) (Ae : Nat) (L3 : Mi) : T_zcn_12 → Stk → Rk'
 | (L0, v14, v17), stk => Ap 78 .frz 12 [.lp ⟨12, [0, 14, 17], []⟩, .blk 6, .sub ⟨15, [], []⟩, .sub ⟨16, [0, 1, 2, 3, 4], []⟩] ⟨[(0, (.msl ⟨n0, k0⟩ Ad 0 (Aw (Ab Ac L0)))), (14, (.d (.int .i64 v14))), (17, (.d (.int .i64 v17)))], ⟨m, []⟩ :: stk⟩
def G_zcn_12 (n0 n1 n2 n3 : Nat) (k0 k1 k2 k3 : Kl) (Ad : Nat) (Aa : Ss) (Ae : Nat) (L3 : Mi) : T_zcn_12 → Stk → Prop
 | (L0, v14, v17), stk => getO stk ⟨n0, k0⟩ = some (.arr Ad 6 (Ab Ac L0)) ∧ getO stk ⟨n1, k1⟩ = some (.cells [(.clos (.func 66) [] [(.ref ⟨n2, k2⟩ 0), (.d (.iptr [(.sl (Ab Ax Aa))]))])]) ∧ getO stk ⟨n2, k2⟩ = some (.cells [(.map ⟨n3, k3⟩)]) ∧ getO stk ⟨n3, k3⟩ = some (.map Ae (Av A0 L3)) ∧ True
abbrev H_zcn_12 (m : Nat) (n0 n1 n2 n3 : Nat) (k0 k1 k2 k3 : Kl) (Ad : Nat) (Aa : Ss) (Ae : Nat) (L3 : Mi) (l : T_zcn_12 → Option R_zcn) : Prop := HdG (G_zcn_12 @Ab @Av Ac A0 Ax n0 n1 n2 n3 k0 k1 k2 k3 Ad Aa Ae L3) l (A_zcn_12 Ap @Ab Aw Ac m n0 n1 n2 n3 k0 k1 k2 k3 Ad Aa Ae L3) (O_zcn @Ab Ay Ac m n0 n1 n2 n3 k0 k1 k2 k3 Ad Aa Ae L3)
def B_zcn_9 (m : Nat) (n0 n1 n2 n3 : Nat) (k0 k1 k2 k3 : Kl) (Ad : Nat) (Aa : Ss) (Ae : Nat) (L3 : Mi) : T_zcn_9 → Stk → Rk'
 | (L0, v2, v14, v15), stk => (A_zcn_9 Ap @Ab Aw Ac m n0 n1 n2 n3 k0 k1 k2 k3 Ad Aa Ae L3) (L0, v2, v14, v15) (Ay stk ⟨n0, k0⟩ (.arr Ad 6 (Ab Ac L0)))
abbrev T_zcn_18 := Ls1 × Int × Int × Int × Int × Int × Int × Int × Int
def A_zcn_18 (m : Nat) (n0 n1 n2 n3 : Nat) (k0 k1 k2 k3 : Kl) (Ad : Nat) (Aa : Ss) (Ae : Nat) (L3 : Mi) : T_zcn_18 → Stk → Rk'
 | (L0, v1, v2, v3, v18, v19, v20, v21, v22), stk => Ap 78 .frz 18 [.lp ⟨18, [0, 1, 2, 3, 4, 18, 19, 20, 21, 22], []⟩, .blk 8, .sub ⟨20, [0, 1, 2, 3, 4, 18, 19, 20], []⟩] ⟨[(0, (.msl ⟨n0, k0⟩ Ad 0 (Aw (Ab Ac L0)))), (1, (.d (.int .i64 v1))), (2, (.d (.int .i64 v2))), (3, (.d (.int .i64 v3))), (4, (.clos (.func 68) [] [(.ref ⟨n1, k1⟩ 0)])), (18, (.d (.int .i64 v18))), (19, (.d (.int .i64 v19))), (20, (.d (.int .i64 v20))), (21, (.d (.int .i64 v21))), (22, (.d (.int .i64 v22)))], ⟨m, []⟩ :: stk⟩
def G_zcn_18 (n0 n1 n2 n3 : Nat) (k0 k1 k2 k3 : Kl) (Ad : Nat) (Aa : Ss) (Ae : Nat) (L3 : Mi) : T_zcn_18 → Stk → Prop
 | (L0, v1, v2, v3, v18, v19, v20, v21, v22), stk => getO stk ⟨n0, k0⟩ = some (.arr Ad 6 (Ab Ac L0)) ∧ getO stk ⟨n1, k1⟩ = some (.cells [(.clos (.func 66) [] [(.ref ⟨n2, k2⟩ 0), (.d (.iptr [(.sl (Ab Ax Aa))]))])]) ∧ getO stk ⟨n2, k2⟩ = some (.cells [(.map ⟨n3, k3⟩)]) ∧ getO stk ⟨n3, k3⟩ = some (.map Ae (Av A0 L3)) ∧ True
abbrev H_zcn_18 (m : Nat) (n0 n1 n2 n3 : Nat) (k0 k1 k2 k3 : Kl) (Ad : Nat) (Aa : Ss) (Ae : Nat) (L3 : Mi) (l : T_zcn_18 → Option R_zcn) : Prop := HdG (G_zcn_18 @Ab @Av Ac A0 Ax n0 n1 n2 n3 k0 k1 k2 k3 Ad Aa Ae L3) l (A_zcn_18 Ap @Ab Aw Ac m n0 n1 n2 n3 k0 k1 k2 k3 Ad Aa Ae L3) (O_zcn @Ab Ay Ac m n0 n1 n2 n3 k0 k1 k2 k3 Ad Aa Ae L3)
def B_zcn_4 (m : Nat) (n0 n1 n2 n3 : Nat) (k0 k1 k2 k3 : Kl) (Ad : Nat) (Aa : Ss) (Ae : Nat) (L3 : Mi) : T_zcn_4 → Stk → Rk'
 | (L0, v10, v13), stk => (A_zcn_4 Ap @Ab Aw Ac m n0 n1 n2 n3 k0 k1 k2 k3 Ad Aa Ae L3) (L0, v10, v13) (Ay stk ⟨n0, k0⟩ (.arr Ad 6 (Ab Ac L0)))
def B_zcn_12 (m : Nat) (n0 n1 n2 n3 : Nat) (k0 k1 k2 k3 : Kl) (Ad : Nat) (Aa : Ss) (Ae : Nat) (L3 : Mi) : T_zcn_12 → Stk → Rk'
 | (L0, v14, v17), stk => (A_zcn_12 Ap @Ab Aw Ac m n0 n1 n2 n3 k0 k1 k2 k3 Ad Aa Ae L3) (L0, v14, v17) (Ay stk ⟨n0, k0⟩ (.arr Ad 6 (Ab Ac L0)))
abbrev T_zcn_21 := Ls1 × Int × Int × Int × Int × Int
def A_zcn_21 (m : Nat) (n0 n1 n2 n3 : Nat) (k0 k1 k2 k3 : Kl) (Ad : Nat) (Aa : Ss) (Ae : Nat) (L3 : Mi) : T_zcn_21 → Stk → Rk'
 | (L0, v1, v3, v18, v20, v24), stk => Ap 78 .frz 21 [] ⟨[(0, (.msl ⟨n0, k0⟩ Ad 0 (Aw (Ab Ac L0)))), (1, (.d (.int .i64 v1))), (3, (.d (.int .i64 v3))), (4, (.clos (.func 68) [] [(.ref ⟨n1, k1⟩ 0)])), (18, (.d (.int .i64 v18))), (20, (.d (.int .i64 v20))), (24, (.d (.int .i64 v24)))], ⟨m, []⟩ :: stk⟩
def G_zcn_21 (n0 n1 n2 n3 : Nat) (k0 k1 k2 k3 : Kl) (Ad : Nat) (Aa : Ss) (Ae : Nat) (L3 : Mi) : T_zcn_21 → Stk → Prop
 | (L0, v1, v3, v18, v20, v24), stk => getO stk ⟨n0, k0⟩ = some (.arr Ad 6 (Ab Ac L0)) ∧ getO stk ⟨n1, k1⟩ = some (.cells [(.clos (.func 66) [] [(.ref ⟨n2, k2⟩ 0), (.d (.iptr [(.sl (Ab Ax Aa))]))])]) ∧ getO stk ⟨n2, k2⟩ = some (.cells [(.map ⟨n3, k3⟩)]) ∧ getO stk ⟨n3, k3⟩ = some (.map Ae (Av A0 L3)) ∧ True
abbrev H_zcn_21 (m : Nat) (n0 n1 n2 n3 : Nat) (k0 k1 k2 k3 : Kl) (Ad : Nat) (Aa : Ss) (Ae : Nat) (L3 : Mi) (l : T_zcn_21 → Option R_zcn) : Prop := HdG (G_zcn_21 @Ab @Av Ac A0 Ax n0 n1 n2 n3 k0 k1 k2 k3 Ad Aa Ae L3) l (A_zcn_21 Ap @Ab Aw Ac m n0 n1 n2 n3 k0 k1 k2 k3 Ad Aa Ae L3) (O_zcn @Ab Ay Ac m n0 n1 n2 n3 k0 k1 k2 k3 Ad Aa Ae L3)
def B_zcn_18 (m : Nat) (n0 n1 n2 n3 : Nat) (k0 k1 k2 k3 : Kl) (Ad : Nat) (Aa : Ss) (Ae : Nat) (L3 : Mi) : T_zcn_18 → Stk → Rk'
 | (L0, v1, v2, v3, v18, v19, v20, v21, v22), stk => (A_zcn_18 Ap @Ab Aw Ac m n0 n1 n2 n3 k0 k1 k2 k3 Ad Aa Ae L3) (L0, v1, v2, v3, v18, v19, v20, v21, v22) (Ay stk ⟨n0, k0⟩ (.arr Ad 6 (Ab Ac L0)))
abbrev T_zcn_22 := Ls1 × Int × Int × Int
def A_zcn_22 (m : Nat) (n0 n1 n2 n3 : Nat) (k0 k1 k2 k3 : Kl) (Ad : Nat) (Aa : Ss) (Ae : Nat) (L3 : Mi) : T_zcn_22 → Stk → Rk'
 | (L0, v3, v18, v24), stk => Ap 78 .frz 22 [] ⟨[(0, (.msl ⟨n0, k0⟩ Ad 0 (Aw (Ab Ac L0)))), (3, (.d (.int .i64 v3))), (4, (.clos (.func 68) [] [(.ref ⟨n1, k1⟩ 0)])), (18, (.d (.int .i64 v18))), (24, (.d (.int .i64 v24)))], ⟨m, []⟩ :: stk⟩
def G_zcn_22 (n0 n1 n2 n3 : Nat) (k0 k1 k2 k3 : Kl) (Ad : Nat) (Aa : Ss) (Ae : Nat) (L3 : Mi) : T_zcn_22 → Stk → Prop
 | (L0, v3, v18, v24), stk => getO stk ⟨n0, k0⟩ = some (.arr Ad 6 (Ab Ac L0)) ∧ getO stk ⟨n1, k1⟩ = some (.cells [(.clos (.func 66) [] [(.ref ⟨n2, k2⟩ 0), (.d (.iptr [(.sl (Ab Ax Aa))]))])]) ∧ getO stk ⟨n2, k2⟩ = some (.cells [(.map ⟨n3, k3⟩)]) ∧ getO stk ⟨n3, k3⟩ = some (.map Ae (Av A0 L3)) ∧ True
abbrev H_zcn_22 (m : Nat) (n0 n1 n2 n3 : Nat) (k0 k1 k2 k3 : Kl) (Ad : Nat) (Aa : Ss) (Ae : Nat) (L3 : Mi) (l : T_zcn_22 → Option R_zcn) : Prop := HdG (G_zcn_22 @Ab @Av Ac A0 Ax n0 n1 n2 n3 k0 k1 k2 k3 Ad Aa Ae L3) l (A_zcn_22 Ap @Ab Aw Ac m n0 n1 n2 n3 k0 k1 k2 k3 Ad Aa Ae L3) (O_zcn @Ab Ay Ac m n0 n1 n2 n3 k0 k1 k2 k3 Ad Aa Ae L3)
abbrev Y_zcf := Int → Int → Nat → Ls1 → Ss → Nat → Mi → Option (Ls1)
def C_zcf (c_zcf : Int → Int → Nat → Ls1 → Ss → Nat → Mi → Option (Ls1)) : Prop := ∀ {v1 v2 : Int} {Ad : Nat} {L0 : Ls1} {Aa : Ss} {Ae : Nat} {L3 : Mi} {r_w0 : Ls1}, c_zcf v1 v2 Ad L0 Aa Ae L3 = some r_w0 → ∀ (stk : Stk) (n0 : Nat) (k0 : Kl) (n1 : Nat) (k1 : Kl) (n2 : Nat) (k2 : Kl) (n3 : Nat) (k3 : Kl), getO stk ⟨n0, k0⟩ = some (.arr Ad 6 (Ab Ac L0)) → getO stk ⟨n1, k1⟩ = some (.cells [(.clos (.func 66) [] [(.ref ⟨n2, k2⟩ 0), (.d (.iptr [(.sl (Ab Ax Aa))]))])]) → getO stk ⟨n2, k2⟩ = some (.cells [(.map ⟨n3, k3⟩)]) → getO stk ⟨n3, k3⟩ = some (.map Ae (Av A0 L3)) → n0 ≤ topN stk → n1 ≤ topN stk → n2 ≤ topN stk → n3 ≤ topN stk → NE n0 k0 n1 k1 → NE n0 k0 n2 k2 → NE n0 k0 n3 k3 → NE n1 k1 n2 k2 → NE n1 k1 n3 k3 → NE n2 k2 n3 k3 → Am 77 [(.msl ⟨n0, k0⟩ Ad 0 (Aw (Ab Ac L0))), (.d (.int .i64 v1)), (.d (.int .i64 v2)), (.clos (.func 68) [] [(.ref ⟨n1, k1⟩ 0)])] stk = some (.d (.tup []), (Ay stk ⟨n0, k0⟩ (.arr Ad 6 (Ab Ac r_w0))))
abbrev T_zcj_1 := Ls1 × Int × Int × Int × Int
abbrev R_zcj := Ls1
abbrev T_zcj_0 := Int × Ls1
def A_zcj_1 (m : Nat) (n0 n1 n2 n3 : Nat) (k0 k1 k2 k3 : Kl) (Ad : Nat) (Aa : Ss) (Ae : Nat) (L3 : Mi) : T_zcj_1 → Stk → Rk'
 | (L0, v1, v6, v7, v8), stk => Ap 75 .frz 1 [.lp ⟨1, [0, 1, 2, 6, 7, 8], []⟩, .blk 0, .sub ⟨3, [0, 1, 2, 6, 7], []⟩] ⟨[(0, (.msl ⟨n0, k0⟩ Ad 0 (Aw (Ab Ac L0)))), (1, (.d (.int .i64 v1))), (2, (.clos (.func 68) [] [(.ref ⟨n1, k1⟩ 0)])), (6, (.d (.int .i64 v6))), (7, (.d (.int .i64 v7))), (8, (.d (.int .i64 v8)))], ⟨m, []⟩ :: stk⟩
def O_zcj (m : Nat) (n0 n1 n2 n3 : Nat) (k0 k1 k2 k3 : Kl) (Ad : Nat) (Aa : Ss) (Ae : Nat) (L3 : Mi) : R_zcj → Stk → Rk'
 | r_w0, stk => some (.ret (.d (.tup [])), (Ay stk ⟨n0, k0⟩ (.arr Ad 6 (Ab Ac r_w0))))
def G_zcj_1 (n0 n1 n2 n3 : Nat) (k0 k1 k2 k3 : Kl) (Ad : Nat) (Aa : Ss) (Ae : Nat) (L3 : Mi) : T_zcj_1 → Stk → Prop
 | (L0, v1, v6, v7, v8), stk => getO stk ⟨n0, k0⟩ = some (.arr Ad 6 (Ab Ac L0)) ∧ getO stk ⟨n1, k1⟩ = some (.cells [(.clos (.func 66) [] [(.ref ⟨n2, k2⟩ 0), (.d (.iptr [(.sl (Ab Ax Aa))]))])]) ∧ getO stk ⟨n2, k2⟩ = some (.cells [(.map ⟨n3, k3⟩)]) ∧ getO stk ⟨n3, k3⟩ = some (.map Ae (Av A0 L3)) ∧ True
abbrev H_zcj_1 (m : Nat) (n0 n1 n2 n3 : Nat) (k0 k1 k2 k3 : Kl) (Ad : Nat) (Aa : Ss) (Ae : Nat) (L3 : Mi) (l : T_zcj_1 → Option R_zcj) : Prop := HdG (G_zcj_1 @Ab @Av Ac A0 Ax n0 n1 n2 n3 k0 k1 k2 k3 Ad Aa Ae L3) l (A_zcj_1 Ap @Ab Aw Ac m n0 n1 n2 n3 k0 k1 k2 k3 Ad Aa Ae L3) (O_zcj @Ab Ay Ac m n0 n1 n2 n3 k0 k1 k2 k3 Ad Aa Ae L3)
def A_zcj_0 (m : Nat) (n0 n1 n2 n3 : Nat) (k0 k1 k2 k3 : Kl) (Ad : Nat) (Aa : Ss) (Ae : Nat) (L3 : Mi) : T_zcj_0 → Stk → Rk'
 | (v1, L0), stk => Ap 75 .frz 0 [] ⟨[(0, (.msl ⟨n0, k0⟩ Ad 0 (Aw (Ab Ac L0)))), (1, (.d (.int .i64 v1))), (2, (.clos (.func 68) [] [(.ref ⟨n1, k1⟩ 0)]))], ⟨m, []⟩ :: stk⟩
def G_zcj_0 (n0 n1 n2 n3 : Nat) (k0 k1 k2 k3 : Kl) (Ad : Nat) (Aa : Ss) (Ae : Nat) (L3 : Mi) : T_zcj_0 → Stk → Prop
 | (v1, L0), stk => getO stk ⟨n0, k0⟩ = some (.arr Ad 6 (Ab Ac L0)) ∧ getO stk ⟨n1, k1⟩ = some (.cells [(.clos (.func 66) [] [(.ref ⟨n2, k2⟩ 0), (.d (.iptr [(.sl (Ab Ax Aa))]))])]) ∧ getO stk ⟨n2, k2⟩ = some (.cells [(.map ⟨n3, k3⟩)]) ∧ getO stk ⟨n3, k3⟩ = some (.map Ae (Av A0 L3)) ∧ True
abbrev H_zcj_0 (m : Nat) (n0 n1 n2 n3 : Nat) (k0 k1 k2 k3 : Kl) (Ad : Nat) (Aa : Ss) (Ae : Nat) (L3 : Mi) (l : T_zcj_0 → Option R_zcj) : Prop := HdG (G_zcj_0 @Ab @Av Ac A0 Ax n0 n1 n2 n3 k0 k1 k2 k3 Ad Aa Ae L3) l (A_zcj_0 Ap @Ab Aw Ac m n0 n1 n2 n3 k0 k1 k2 k3 Ad Aa Ae L3) (O_zcj @Ab Ay Ac m n0 n1 n2 n3 k0 k1 k2 k3 Ad Aa Ae L3)
abbrev T_zcj_4 := Ls1 × Int × Int
def A_zcj_4 (m : Nat) (n0 n1 n2 n3 : Nat) (k0 k1 k2 k3 : Kl) (Ad : Nat) (Aa : Ss) (Ae : Nat) (L3 : Mi) : T_zcj_4 → Stk → Rk'
 | (L0, v1, v6), stk => Ap 75 .frz 4 [.lp ⟨4, [0, 1, 2, 6], []⟩, .blk 2] ⟨[(0, (.msl ⟨n0, k0⟩ Ad 0 (Aw (Ab Ac L0)))), (1, (.d (.int .i64 v1))), (2, (.clos (.func 68) [] [(.ref ⟨n1, k1⟩ 0)])), (6, (.d (.int .i64 v6)))], ⟨m, []⟩ :: stk⟩
def G_zcj_4 (n0 n1 n2 n3 : Nat) (k0 k1 k2 k3 : Kl) (Ad : Nat) (Aa : Ss) (Ae : Nat) (L3 : Mi) : T_zcj_4 → Stk → Prop
 | (L0, v1, v6), stk => getO stk ⟨n0, k0⟩ = some (.arr Ad 6 (Ab Ac L0)) ∧ getO stk ⟨n1, k1⟩ = some (.cells [(.clos (.func 66) [] [(.ref ⟨n2, k2⟩ 0), (.d (.iptr [(.sl (Ab Ax Aa))]))])]) ∧ getO stk ⟨n2, k2⟩ = some (.cells [(.map ⟨n3, k3⟩)]) ∧ getO stk ⟨n3, k3⟩ = some (.map Ae (Av A0 L3)) ∧ True
abbrev H_zcj_4 (m : Nat) (n0 n1 n2 n3 : Nat) (k0 k1 k2 k3 : Kl) (Ad : Nat) (Aa : Ss) (Ae : Nat) (L3 : Mi) (l : T_zcj_4 → Option R_zcj) : Prop := HdG (G_zcj_4 @Ab @Av Ac A0 Ax n0 n1 n2 n3 k0 k1 k2 k3 Ad Aa Ae L3) l (A_zcj_4 Ap @Ab Aw Ac m n0 n1 n2 n3 k0 k1 k2 k3 Ad Aa Ae L3) (O_zcj @Ab Ay Ac m n0 n1 n2 n3 k0 k1 k2 k3 Ad Aa Ae L3)
def B_zcj_1 (m : Nat) (n0 n1 n2 n3 : Nat) (k0 k1 k2 k3 : Kl) (Ad : Nat) (Aa : Ss) (Ae : Nat) (L3 : Mi) : T_zcj_1 → Stk → Rk'
 | (L0, v1, v6, v7, v8), stk => (A_zcj_1 Ap @Ab Aw Ac m n0 n1 n2 n3 k0 k1 k2 k3 Ad Aa Ae L3) (L0, v1, v6, v7, v8) (Ay stk ⟨n0, k0⟩ (.arr Ad 6 (Ab Ac L0)))
abbrev T_zcj_6 := Ls1 × Int × Int × Int × Int
def A_zcj_6 (m : Nat) (n0 n1 n2 n3 : Nat) (k0 k1 k2 k3 : Kl) (Ad : Nat) (Aa : Ss) (Ae : Nat) (L3 : Mi) : T_zcj_6 → Stk → Rk'
 | (L0, v1, v6, v7, v8), stk => Ap 75 .frz 6 [.lp ⟨6, [0, 1, 2, 6, 7, 8], []⟩, .blk 4, .sub ⟨8, [0, 1, 2, 6, 7], []⟩, .blk 3, .lp ⟨4, [0, 1, 2, 6], []⟩, .blk 2] ⟨[(0, (.msl ⟨n0, k0⟩ Ad 0 (Aw (Ab Ac L0)))), (1, (.d (.int .i64 v1))), (2, (.clos (.func 68) [] [(.ref ⟨n1, k1⟩ 0)])), (6, (.d (.int .i64 v6))), (7, (.d (.int .i64 v7))), (8, (.d (.int .i64 v8)))], ⟨m, []⟩ :: stk⟩
def B_zcj_4 (m : Nat) (n0 n1 n2 n3 : Nat) (k0 k1 k2 k3 : Kl) (Ad : Nat) (Aa : Ss) (Ae : Nat) (L3 : Mi) : T_zcj_4 → Stk → Rk'
 | (L0, v1, v6), stk => (A_zcj_4 Ap @Ab Aw Ac m n0 n1 n2 n3 k0 k1 k2 k3 Ad Aa Ae L3) (L0, v1, v6) (Ay stk ⟨n0, k0⟩ (.arr Ad 6 (Ab Ac L0)))
def G_zcj_6 (n0 n1 n2 n3 : Nat) (k0 k1 k2 k3 : Kl) (Ad : Nat) (Aa : Ss) (Ae : Nat) (L3 : Mi) : T_zcj_6 → Stk → Prop
 | (L0, v1, v6, v7, v8), stk => getO stk ⟨n0, k0⟩ = some (.arr Ad 6 (Ab Ac L0)) ∧ getO stk ⟨n1, k1⟩ = some (.cells [(.clos (.func 66) [] [(.ref ⟨n2, k2⟩ 0), (.d (.iptr [(.sl (Ab Ax Aa))]))])]) ∧ getO stk ⟨n2, k2⟩ = some (.cells [(.map ⟨n3, k3⟩)]) ∧ getO stk ⟨n3, k3⟩ = some (.map Ae (Av A0 L3)) ∧ True
abbrev H_zcj_6 (m : Nat) (n0 n1 n2 n3 : Nat) (k0 k1 k2 k3 : Kl) (Ad : Nat) (Aa : Ss) (Ae : Nat) (L3 : Mi) (l : T_zcj_6 → Option (T_zcj_4 ⊕ R_zcj)) : Prop := HdG (G_zcj_6 @Ab @Av Ac A0 Ax n0 n1 n2 n3 k0 k1 k2 k3 Ad Aa Ae L3) l (A_zcj_6 Ap @Ab Aw Ac m n0 n1 n2 n3 k0 k1 k2 k3 Ad Aa Ae L3) (el (B_zcj_4 Ap @Ab Aw Ay Ac m n0 n1 n2 n3 k0 k1 k2 k3 Ad Aa Ae L3) (O_zcj @Ab Ay Ac m n0 n1 n2 n3 k0 k1 k2 k3 Ad Aa Ae L3))
abbrev T_zcj_9 := Ls1 × Int × Int
def A_zcj_9 (m : Nat) (n0 n1 n2 n3 : Nat) (k0 k1 k2 k3 : Kl) (Ad : Nat) (Aa : Ss) (Ae : Nat) (L3 : Mi) : T_zcj_9 → Stk → Rk'
 | (L0, v1, v6), stk => Ap 75 .frz 9 [.blk 3, .lp ⟨4, [0, 1, 2, 6], []⟩, .blk 2] ⟨[(0, (.msl ⟨n0, k0⟩ Ad 0 (Aw (Ab Ac L0)))), (1, (.d (.int .i64 v1))), (2, (.clos (.func 68) [] [(.ref ⟨n1, k1⟩ 0)])), (6, (.d (.int .i64 v6)))], ⟨m, []⟩ :: stk⟩
def G_zcj_9 (n0 n1 n2 n3 : Nat) (k0 k1 k2 k3 : Kl) (Ad : Nat) (Aa : Ss) (Ae : Nat) (L3 : Mi) : T_zcj_9 → Stk → Prop
 | (L0, v1, v6), stk => getO stk ⟨n0, k0⟩ = some (.arr Ad 6 (Ab Ac L0)) ∧ getO stk ⟨n1, k1⟩ = some (.cells [(.clos (.func 66) [] [(.ref ⟨n2, k2⟩ 0), (.d (.iptr [(.sl (Ab Ax Aa))]))])]) ∧ getO stk ⟨n2, k2⟩ = some (.cells [(.map ⟨n3, k3⟩)]) ∧ getO stk ⟨n3, k3⟩ = some (.map Ae (Av A0 L3)) ∧ True
abbrev H_zcj_9 (m : Nat) (n0 n1 n2 n3 : Nat) (k0 k1 k2 k3 : Kl) (Ad : Nat) (Aa : Ss) (Ae : Nat) (L3 : Mi) (l : T_zcj_9 → Option (T_zcj_4 ⊕ R_zcj)) : Prop := HdG (G_zcj_9 @Ab @Av Ac A0 Ax n0 n1 n2 n3 k0 k1 k2 k3 Ad Aa Ae L3) l (A_zcj_9 Ap @Ab Aw Ac m n0 n1 n2 n3 k0 k1 k2 k3 Ad Aa Ae L3) (el (B_zcj_4 Ap @Ab Aw Ay Ac m n0 n1 n2 n3 k0 k1 k2 k3 Ad Aa Ae L3) (O_zcj @Ab Ay Ac m n0 n1 n2 n3 k0 k1 k2 k3 Ad Aa Ae L3))
def B_zcj_6 (m : Nat) (n0 n1 n2 n3 : Nat) (k0 k1 k2 k3 : Kl) (Ad : Nat) (Aa : Ss) (Ae : Nat) (L3 : Mi) : T_zcj_6 → Stk → Rk'
 | (L0, v1, v6, v7, v8), stk => (A_zcj_6 Ap @Ab Aw Ac m n0 n1 n2 n3 k0 k1 k2 k3 Ad Aa Ae L3) (L0, v1, v6, v7, v8) (Ay stk ⟨n0, k0⟩ (.arr Ad 6 (Ab Ac L0)))
abbrev Y_zcj := Int → Nat → Ls1 → Ss → Nat → Mi → Option (Ls1)
def C_zcj (c_zcj : Int → Nat → Ls1 → Ss → Nat → Mi → Option (Ls1)) : Prop := ∀ {v1 : Int} {Ad : Nat} {L0 : Ls1} {Aa : Ss} {Ae : Nat} {L3 : Mi} {r_w0 : Ls1}, c_zcj v1 Ad L0 Aa Ae L3 = some r_w0 → ∀ (stk : Stk) (n0 : Nat) (k0 : Kl) (n1 : Nat) (k1 : Kl) (n2 : Nat) (k2 : Kl) (n3 : Nat) (k3 : Kl), getO stk ⟨n0, k0⟩ = some (.arr Ad 6 (Ab Ac L0)) → getO stk ⟨n1, k1⟩ = some (.cells [(.clos (.func 66) [] [(.ref ⟨n2, k2⟩ 0), (.d (.iptr [(.sl (Ab Ax Aa))]))])]) → getO stk ⟨n2, k2⟩ = some (.cells [(.map ⟨n3, k3⟩)]) → getO stk ⟨n3, k3⟩ = some (.map Ae (Av A0 L3)) → n0 ≤ topN stk → n1 ≤ topN stk → n2 ≤ topN stk → n3 ≤ topN stk → NE n0 k0 n1 k1 → NE n0 k0 n2 k2 → NE n0 k0 n3 k3 → NE n1 k1 n2 k2 → NE n1 k1 n3 k3 → NE n2 k2 n3 k3 → Am 75 [(.msl ⟨n0, k0⟩ Ad 0 (Aw (Ab Ac L0))), (.d (.int .i64 v1)), (.clos (.func 68) [] [(.ref ⟨n1, k1⟩ 0)])] stk = some (.d (.tup []), (Ay stk ⟨n0, k0⟩ (.arr Ad 6 (Ab Ac r_w0))))
abbrev T_zcd_0 := Ls1
abbrev R_zcd := Ls1
def A_zcd_0 (m : Nat) (n0 n1 n2 n3 : Nat) (k0 k1 k2 k3 : Kl) (Ad : Nat) (Aa : Ss) (Ae : Nat) (L3 : Mi) : T_zcd_0 → Stk → Rk'
 | L0, stk => Ap 67 .frz 0 [] ⟨[(0, (.msl ⟨n0, k0⟩ Ad 0 (Aw (Ab Ac L0)))), (1, (.clos (.func 68) [] [(.ref ⟨n1, k1⟩ 0)]))], ⟨m, []⟩ :: stk⟩
def O_zcd (m : Nat) (n0 n1 n2 n3 : Nat) (k0 k1 k2 k3 : Kl) (Ad : Nat) (Aa : Ss) (Ae : Nat) (L3 : Mi) : R_zcd → Stk → Rk'
 | r_w0, stk => some (.ret (.d (.tup [])), (Ay stk ⟨n0, k0⟩ (.arr Ad 6 (Ab Ac r_w0))))
def G_zcd_0 (n0 n1 n2 n3 : Nat) (k0 k1 k2 k3 : Kl) (Ad : Nat) (Aa : Ss) (Ae : Nat) (L3 : Mi) : T_zcd_0 → Stk → Prop
 | L0, stk => getO stk ⟨n0, k0⟩ = some (.arr Ad 6 (Ab Ac L0)) ∧ getO stk ⟨n1, k1⟩ = some (.cells [(.clos (.func 66) [] [(.ref ⟨n2, k2⟩ 0), (.d (.iptr [(.sl (Ab Ax Aa))]))])]) ∧ getO stk ⟨n2, k2⟩ = some (.cells [(.map ⟨n3, k3⟩)]) ∧ getO stk ⟨n3, k3⟩ = some (.map Ae (Av A0 L3)) ∧ True
abbrev H_zcd_0 (m : Nat) (n0 n1 n2 n3 : Nat) (k0 k1 k2 k3 : Kl) (Ad : Nat) (Aa : Ss) (Ae : Nat) (L3 : Mi) (l : T_zcd_0 → Option R_zcd) : Prop := HdG (G_zcd_0 @Ab @Av Ac A0 Ax n0 n1 n2 n3 k0 k1 k2 k3 Ad Aa Ae L3) l (A_zcd_0 Ap @Ab Aw Ac m n0 n1 n2 n3 k0 k1 k2 k3 Ad Aa Ae L3) (O_zcd @Ab Ay Ac m n0 n1 n2 n3 k0 k1 k2 k3 Ad Aa Ae L3)
abbrev Y_zdf := S1_ → Option (Bool)
abbrev Y_zdb := S1_ → Option (Int × Int × Str × Nat × Ls0 × Nat × Ls1)
abbrev Y_zcd := Nat → Ls1 → Ss → Nat → Mi → Option (Ls1)
def C_zdf (c_zdf : S1_ → Option (Bool)) : Prop := ∀ {Af Ak : Int} {Aj : Str} {Ah : Ls0} {Ai : Ls1} {r0 : Bool}, c_zdf ⟨Af, Ak, Aj, Ah, Ai⟩ = some r0 → ∀ (stk : Stk) , As 56 [(.d (.agg [(.int .i64 Af), (.int .i64 Ak), (.str Aj), (.sl (Ab Ag Ah)), (.sl (Ab Ac Ai))]))] stk = some (.d (.bool r0)) ∧ Am 56 [(.d (.agg [(.int .i64 Af), (.int .i64 Ak), (.str Aj), (.sl (Ab Ag Ah)), (.sl (Ab Ac Ai))]))] stk = some (.d (.bool r0), stk)
def C_zdb (c_zdb : S1_ → Option (Int × Int × Str × Nat × Ls0 × Nat × Ls1)) : Prop := ∀ {Af Ak : Int} {Aj : Str} {Ah : Ls0} {Ai : Ls1} {Ce Cf : Int} {Cg : Str} {qo3_3_g : Nat} {qo3_3 : Ls0} {qo3_4_g : Nat} {qo3_4 : Ls1}, c_zdb ⟨Af, Ak, Aj, Ah, Ai⟩ = some (Ce, Cf, Cg, qo3_3_g, qo3_3, qo3_4_g, qo3_4) → ∀ (stk : Stk) , ∀ m, m = topN stk + 1 → Eq 45 [[3, 3], [3, 4]] [(.d (.agg [(.int .i64 Af), (.int .i64 Ak), (.str Aj), (.sl (Ab Ag Ah)), (.sl (Ab Ac Ai))]))] stk = some ((.agg [(.d (.int .i64 Ce)), (.d (.int .i64 Cf)), (.d (.str Cg)), (.msl ⟨m, [3, 3]⟩ qo3_3_g 0 (Aw (Ab Ag qo3_3))), (.msl ⟨m, [3, 4]⟩ qo3_4_g 0 (Aw (Ab Ac qo3_4)))]), ⟨m, [([3, 3], (.arr qo3_3_g 5 (Ab Ag qo3_3))), ([3, 4], (.arr qo3_4_g 6 (Ab Ac qo3_4)))]⟩, stk)
def C_zcd (c_zcd : Nat → Ls1 → Ss → Nat → Mi → Option (Ls1)) : Prop := ∀ {Ad : Nat} {L0 : Ls1} {Aa : Ss} {Ae : Nat} {L3 : Mi} {r_w0 : Ls1}, c_zcd Ad L0 Aa Ae L3 = some r_w0 → ∀ (stk : Stk) (n0 : Nat) (k0 : Kl) (n1 : Nat) (k1 : Kl) (n2 : Nat) (k2 : Kl) (n3 : Nat) (k3 : Kl), getO stk ⟨n0, k0⟩ = some (.arr Ad 6 (Ab Ac L0)) → getO stk ⟨n1, k1⟩ = some (.cells [(.clos (.func 66) [] [(.ref ⟨n2, k2⟩ 0), (.d (.iptr [(.sl (Ab Ax Aa))]))])]) → getO stk ⟨n2, k2⟩ = some (.cells [(.map ⟨n3, k3⟩)]) → getO stk ⟨n3, k3⟩ = some (.map Ae (Av A0 L3)) → n0 ≤ topN stk → n1 ≤ topN stk → n2 ≤ topN stk → n3 ≤ topN stk → NE n0 k0 n1 k1 → NE n0 k0 n2 k2 → NE n0 k0 n3 k3 → NE n1 k1 n2 k2 → NE n1 k1 n3 k3 → NE n2 k2 n3 k3 → Am 67 [(.msl ⟨n0, k0⟩ Ad 0 (Aw (Ab Ac L0))), (.clos (.func 68) [] [(.ref ⟨n1, k1⟩ 0)])] stk = some (.d (.tup []), (Ay stk ⟨n0, k0⟩ (.arr Ad 6 (Ab Ac r_w0))))
abbrev T_zcx := Int × Int × Str × Ls0 × Ls1 × Ss × Ss × Int × Int × Int × Int × Str × Ls0 × Ls1 × Nat × Mi
abbrev R_zcu := S1_ × Int
abbrev T_zcu_0 := Int × Int × Str × Ls0 × Ls1 × Ss
def A_zcx (m : Nat) : T_zcx → Stk → Rk'
 | (A1, A4, Bb, A5, A2, Cb, v18, v19, v20, Br, Bs, Bt, Bu, Bv, Cx, o17), stk => Ap 38 .frz 2 [.lp ⟨2, [2, 3, 4, 6, 18, 19, 20], [[4], [6], [17]]⟩, .blk 0, .sub ⟨6, [2, 3, 4, 6], [[4], [6], [17]]⟩] ⟨[(2, (.d (.iptr [(.int .i64 A1), (.int .i64 A4), (.str Bb), (.sl (Ab Ag A5)), (.sl (Ab Ac A2))]))), (3, (.d (.iptr [(.sl (Ab Ax Cb))]))), (4, (.ref ⟨m, [4]⟩ 0)), (6, (.ref ⟨m, [6]⟩ 0)), (18, (.d (.sl (Ab Ax v18)))), (19, (.d (.int .i64 v19))), (20, (.d (.int .i64 v20)))], ⟨m, [([4], (.cells [(.d (.int .i64 Br)), (.d (.int .i64 Bs)), (.d (.str Bt)), (.d (.sl (Ab Ag Bu))), (.d (.sl (Ab Ac Bv)))])), ([6], (.cells [(.map ⟨m, [17]⟩)])), ([17], (.map Cx (Av A0 o17)))]⟩ :: stk⟩
def O_zcu (m : Nat) : R_zcu → Stk → Rk'
 | (⟨Ce, Cf, Cg, Cv, Cw⟩, r1), stk => some (.ret (.d (.tup [(.agg [(.int .i64 Ce), (.int .i64 Cf), (.str Cg), (.sl (Ab Ag Cv)), (.sl (Ab Ac Cw))]), (.int .i64 r1)])), stk)
abbrev H_zcx (m : Nat) (l : T_zcx → Option R_zcu) : Prop := Hd l (A_zcx Ap @Ab @Av Ag Ac A0 Ax m ) (O_zcu @Ab Ag Ac m )
def A_zcu_0 (m : Nat) : T_zcu_0 → Stk → Rk'
 | (Af, Ak, Aj, Ah, Ai, v1), stk => Ap 38 .frz 0 [] ⟨[(0, (.d (.agg [(.int .i64 Af), (.int .i64 Ak), (.str Aj), (.sl (Ab Ag Ah)), (.sl (Ab Ac Ai))]))), (1, (.d (.sl (Ab Ax v1))))], ⟨m, []⟩ :: stk⟩
abbrev H_zcu_0 (m : Nat) (l : T_zcu_0 → Option R_zcu) : Prop := Hd l (A_zcu_0 Ap @Ab Ag Ac Ax m ) (O_zcu @Ab Ag Ac m )
abbrev T_zcu_5 := Int × Int × Str × Ls0 × Ls1 × Ss × Ss × Int × Int × Int × Int × Str × Ls0 × Ls1 × Nat × Mi
def A_zcu_5 (m : Nat) : T_zcu_5 → Stk → Rk'
 | (A1, A4, Bb, A5, A2, Cb, v18, v19, v20, Br, Bs, Bt, Bu, Bv, Cx, o17), stk => Ap 38 .frz 5 [.lp ⟨2, [2, 3, 4, 6, 18, 19, 20], [[4], [6], [17]]⟩, .blk 0, .sub ⟨6, [2, 3, 4, 6], [[4], [6], [17]]⟩] ⟨[(2, (.d (.iptr [(.int .i64 A1), (.int .i64 A4), (.str Bb), (.sl (Ab Ag A5)), (.sl (Ab Ac A2))]))), (3, (.d (.iptr [(.sl (Ab Ax Cb))]))), (4, (.ref ⟨m, [4]⟩ 0)), (6, (.ref ⟨m, [6]⟩ 0)), (18, (.d (.sl (Ab Ax v18)))), (19, (.d (.int .i64 v19))), (20, (.d (.int .i64 v20)))], ⟨m, [([4], (.cells [(.d (.int .i64 Br)), (.d (.int .i64 Bs)), (.d (.str Bt)), (.d (.sl (Ab Ag Bu))), (.d (.sl (Ab Ac Bv)))])), ([6], (.cells [(.map ⟨m, [17]⟩)])), ([17], (.map Cx (Av A0 o17)))]⟩ :: stk⟩
abbrev H_zcu_5 (m : Nat) (l : T_zcu_5 → Option (T_zcx ⊕ R_zcu)) : Prop := Hd l (A_zcu_5 Ap @Ab @Av Ag Ac A0 Ax m ) (el (A_zcx Ap @Ab @Av Ag Ac A0 Ax m ) (O_zcu @Ab Ag Ac m ))
abbrev Y_zy := S1_ → S1_ → Option (Bool)
def C_zy (c_zy : S1_ → S1_ → Option (Bool)) : Prop := ∀ {Af Ak : Int} {Aj : Str} {Ah : Ls0} {Ai : Ls1} {A3 Be : Int} {Bf : Str} {Bg : Ls0} {Bd : Ls1} {r0 : Bool}, c_zy ⟨Af, Ak, Aj, Ah, Ai⟩ ⟨A3, Be, Bf, Bg, Bd⟩ = some r0 → ∀ (stk : Stk) , As 19 [(.d (.agg [(.int .i64 Af), (.int .i64 Ak), (.str Aj), (.sl (Ab Ag Ah)), (.sl (Ab Ac Ai))])), (.d (.agg [(.int .i64 A3), (.int .i64 Be), (.str Bf), (.sl (Ab Ag Bg)), (.sl (Ab Ac Bd))]))] stk = some (.d (.bool r0)) ∧ Am 19 [(.d (.agg [(.int .i64 Af), (.int .i64 Ak), (.str Aj), (.sl (Ab Ag Ah)), (.sl (Ab Ac Ai))])), (.d (.agg [(.int .i64 A3), (.int .i64 Be), (.str Bf), (.sl (Ab Ag Bg)), (.sl (Ab Ac Bd))]))] stk = some (.d (.bool r0), stk)
abbrev T_zy_2 := Int × Int × Str × Ls0 × Ls1 × Int × Int × Str × Ls0 × Ls1 × Int
abbrev R_zy := Bool
abbrev T_zy_0 := Int × Int × Str × Ls0 × Ls1 × Int × Int × Str × Ls0 × Ls1
def A_zy_2 (m : Nat) : T_zy_2 → Stk → Rk'
 | (A1, A4, Bb, A5, A2, Cb, Dz, D0, C6, C7, v5), stk => Ap 19 .frz 2 [.lp ⟨2, [2, 3, 5], []⟩, .blk 0, .sub ⟨5, [2, 3], []⟩] ⟨[(2, (.d (.iptr [(.int .i64 A1), (.int .i64 A4), (.str Bb), (.sl (Ab Ag A5)), (.sl (Ab Ac A2))]))), (3, (.d (.iptr [(.int .i64 Cb), (.int .i64 Dz), (.str D0), (.sl (Ab Ag C6)), (.sl (Ab Ac C7))]))), (5, (.d (.int .i64 v5)))], ⟨m, []⟩ :: stk⟩
def O_zy (m : Nat) : R_zy → Stk → Rk'
 | r0, stk => some (.ret (.d (.bool r0)), stk)
abbrev H_zy_2 (m : Nat) (l : T_zy_2 → Option R_zy) : Prop := Hd l (A_zy_2 Ap @Ab Ag Ac m ) (O_zy m )
def A_zy_0 (m : Nat) : T_zy_0 → Stk → Rk'
 | (Af, Ak, Aj, Ah, Ai, A3, Be, Bf, Bg, Bd), stk => Ap 19 .frz 0 [] ⟨[(0, (.d (.agg [(.int .i64 Af), (.int .i64 Ak), (.str Aj), (.sl (Ab Ag Ah)), (.sl (Ab Ac Ai))]))), (1, (.d (.agg [(.int .i64 A3), (.int .i64 Be), (.str Bf), (.sl (Ab Ag Bg)), (.sl (Ab Ac Bd))])))], ⟨m, []⟩ :: stk⟩
abbrev H_zy_0 (m : Nat) (l : T_zy_0 → Option R_zy) : Prop := Hd l (A_zy_0 Ap @Ab Ag Ac m ) (O_zy m )
abbrev T_zy_6 := Int × Int × Str × Ls0 × Ls1 × Int × Int × Str × Ls0 × Ls1 × Int
def A_zy_6 (m : Nat) : T_zy_6 → Stk → Rk'
 | (A1, A4, Bb, A5, A2, Cb, Dz, D0, C6, C7, v6), stk => Ap 19 .frz 6 [.lp ⟨6, [2, 3, 6], []⟩, .blk 2, .sub ⟨9, [], []⟩] ⟨[(2, (.d (.iptr [(.int .i64 A1), (.int .i64 A4), (.str Bb), (.sl (Ab Ag A5)), (.sl (Ab Ac A2))]))), (3, (.d (.iptr [(.int .i64 Cb), (.int .i64 Dz), (.str D0), (.sl (Ab Ag C6)), (.sl (Ab Ac C7))]))), (6, (.d (.int .i64 v6)))], ⟨m, []⟩ :: stk⟩
abbrev H_zy_6 (m : Nat) (l : T_zy_6 → Option R_zy) : Prop := Hd l (A_zy_6 Ap @Ab Ag Ac m ) (O_zy m )
abbrev T_zk_0 := Int × Int × Str × Ls0 × Ls1
abbrev R_zk := Bool
def A_zk_0 (m : Nat) : T_zk_0 → Stk → Rk'
 | (Af, Ak, Aj, Ah, Ai), stk => Ap 20 .frz 0 [] ⟨[(0, (.d (.agg [(.int .i64 Af), (.int .i64 Ak), (.str Aj), (.sl (Ab Ag Ah)), (.sl (Ab Ac Ai))])))], ⟨m, []⟩ :: stk⟩
def O_zk (m : Nat) : R_zk → Stk → Rk'
 | r0, stk => some (.ret (.d (.bool r0)), stk)
abbrev H_zk_0 (m : Nat) (l : T_zk_0 → Option R_zk) : Prop := Hd l (A_zk_0 Ap @Ab Ag Ac m ) (O_zk m )
abbrev T_zr_2 := Str × Int × Int × Int × Int × Int
abbrev R_zr := Int × Int
abbrev T_zr_0 := Str × Int
def A_zr_2 (m : Nat) : T_zr_2 → Stk → Rk'
 | (v0, v1, v6, v7, v8, v9), stk => Ap 71 .frz 2 [] ⟨[(0, (.d (.str v0))), (1, (.d (.int .i64 v1))), (6, (.d (.int .i64 v6))), (7, (.d (.int .i64 v7))), (8, (.d (.int .i64 v8))), (9, (.d (.int .i64 v9)))], ⟨m, []⟩ :: stk⟩
def O_zr (m : Nat) : R_zr → Stk → Rk'
 | (r0, r1), stk => some (.ret (.d (.tup [(.int .i64 r0), (.int .i32 r1)])), stk)
abbrev H_zr_2 (m : Nat) (l : T_zr_2 → Option R_zr) : Prop := Hd l (A_zr_2 Ap m ) (O_zr m )
def A_zr_0 (m : Nat) : T_zr_0 → Stk → Rk'
 | (v0, v1), stk => Ap 71 .frz 0 [] ⟨[(0, (.d (.str v0))), (1, (.d (.int .i64 v1)))], ⟨m, []⟩ :: stk⟩
abbrev H_zr_0 (m : Nat) (l : T_zr_0 → Option R_zr) : Prop := Hd l (A_zr_0 Ap m ) (O_zr m )
abbrev T_zr_3 := Str × Int × Int × Int × Int × Int
def A_zr_3 (m : Nat) : T_zr_3 → Stk → Rk'
 | (v0, v1, v6, v7, v8, v9), stk => Ap 71 .frz 3 [] ⟨[(0, (.d (.str v0))), (1, (.d (.int .i64 v1))), (6, (.d (.int .i64 v6))), (7, (.d (.int .i64 v7))), (8, (.d (.int .i64 v8))), (9, (.d (.int .i64 v9)))], ⟨m, []⟩ :: stk⟩
abbrev H_zr_3 (m : Nat) (l : T_zr_3 → Option R_zr) : Prop := Hd l (A_zr_3 Ap m ) (O_zr m )
abbrev T_zr_4 := Str × Int × Int × Int × Int
def A_zr_4 (m : Nat) : T_zr_4 → Stk → Rk'
 | (v0, v1, v7, v8, v9), stk => Ap 71 .frz 4 [] ⟨[(0, (.d (.str v0))), (1, (.d (.int .i64 v1))), (7, (.d (.int .i64 v7))), (8, (.d (.int .i64 v8))), (9, (.d (.int .i64 v9)))], ⟨m, []⟩ :: stk⟩
abbrev H_zr_4 (m : Nat) (l : T_zr_4 → Option R_zr) : Prop := Hd l (A_zr_4 Ap m ) (O_zr m )
abbrev T_zr_6 := Str × Int × Int × Int × Int × Int
def A_zr_6 (m : Nat) : T_zr_6 → Stk → Rk'
 | (v0, v1, v7, v8, v9, v10), stk => Ap 71 .frz 6 [.lp ⟨6, [0, 1, 7, 8, 9, 10], []⟩, .blk 0, .sub ⟨10, [7, 8, 9], []⟩] ⟨[(0, (.d (.str v0))), (1, (.d (.int .i64 v1))), (7, (.d (.int .i64 v7))), (8, (.d (.int .i64 v8))), (9, (.d (.int .i64 v9))), (10, (.d (.int .i64 v10)))], ⟨m, []⟩ :: stk⟩
abbrev H_zr_6 (m : Nat) (l : T_zr_6 → Option R_zr) : Prop := Hd l (A_zr_6 Ap m ) (O_zr m )
abbrev T_zr_11 := Int × Int
def A_zr_11 (m : Nat) : T_zr_11 → Stk → Rk'
 | (v7, v8), stk => Ap 71 .frz 11 [] ⟨[(7, (.d (.int .i64 v7))), (8, (.d (.int .i64 v8)))], ⟨m, []⟩ :: stk⟩
abbrev H_zr_11 (m : Nat) (l : T_zr_11 → Option R_zr) : Prop := Hd l (A_zr_11 Ap m ) (O_zr m )
abbrev Y_zr := Str → Int → Option (Int × Int)
def C_zr (c_zr : Str → Int → Option (Int × Int)) : Prop := ∀ {v0 : Str} {v1 r0 r1 : Int}, c_zr v0 v1 = some (r0, r1) → ∀ (stk : Stk) , As 71 [(.d (.str v0)), (.d (.int .i64 v1))] stk = some (.d (.tup [(.int .i64 r0), (.int .i32 r1)])) ∧ Am 71 [(.d (.str v0)), (.d (.int .i64 v1))] stk = some (.d (.tup [(.int .i64 r0), (.int .i32 r1)]), stk)
abbrev T_zp_1 := Str × Int
abbrev R_zp := Int
abbrev T_zp_0 := Str
def A_zp_1 (m : Nat) : T_zp_1 → Stk → Rk'
 | (v0, v3), stk => Ap 59 .frz 1 [.lp ⟨1, [0, 3], []⟩, .blk 0, .sub ⟨4, [], []⟩] ⟨[(0, (.d (.str v0))), (3, (.d (.int .i64 v3)))], ⟨m, []⟩ :: stk⟩
def O_zp (m : Nat) : R_zp → Stk → Rk'
 | r0, stk => some (.ret (.d (.int .i64 r0)), stk)
abbrev H_zp_1 (m : Nat) (l : T_zp_1 → Option R_zp) : Prop := Hd l (A_zp_1 Ap m ) (O_zp m )
def A_zp_0 (m : Nat) : T_zp_0 → Stk → Rk'
 | v0, stk => Ap 59 .frz 0 [] ⟨[(0, (.d (.str v0)))], ⟨m, []⟩ :: stk⟩
abbrev H_zp_0 (m : Nat) (l : T_zp_0 → Option R_zp) : Prop := Hd l (A_zp_0 Ap m ) (O_zp m )
abbrev Y_zp := Str → Option (Int)
def C_zp (c_zp : Str → Option (Int)) : Prop := ∀ {v0 : Str} {r0 : Int}, c_zp v0 = some r0 → ∀ (stk : Stk) , As 59 [(.d (.str v0))] stk = some (.d (.int .i64 r0)) ∧ Am 59 [(.d (.str v0))] stk = some (.d (.int .i64 r0), stk)
abbrev T_zq_0 := Str
abbrev R_zq := Bool
def A_zq_0 (m : Nat) : T_zq_0 → Stk → Rk'
 | v0, stk => Ap 24 .frz 0 [] ⟨[(0, (.d (.str v0)))], ⟨m, []⟩ :: stk⟩
def O_zq (m : Nat) : R_zq → Stk → Rk'
 | r0, stk => some (.ret (.d (.bool r0)), stk)
abbrev H_zq_0 (m : Nat) (l : T_zq_0 → Option R_zq) : Prop := Hd l (A_zq_0 Ap m ) (O_zq m )
abbrev Y_zq := Str → Option (Bool)
abbrev Y_z2 := S1_ → Int → Option (Bool)
def C_zq (c_zq : Str → Option (Bool)) : Prop := ∀ {v0 : Str} {r0 : Bool}, c_zq v0 = some r0 → ∀ (stk : Stk) , As 24 [(.d (.str v0))] stk = some (.d (.bool r0)) ∧ Am 24 [(.d (.str v0))] stk = some (.d (.bool r0), stk)
def C_z2 (c_z2 : S1_ → Int → Option (Bool)) : Prop := ∀ {Af Ak : Int} {Aj : Str} {Ah : Ls0} {Ai : Ls1} {v1 : Int} {r0 : Bool}, c_z2 ⟨Af, Ak, Aj, Ah, Ai⟩ v1 = some r0 → ∀ (stk : Stk) , As 44 [(.d (.agg [(.int .i64 Af), (.int .i64 Ak), (.str Aj), (.sl (Ab Ag Ah)), (.sl (Ab Ac Ai))])), (.d (.int .i64 v1))] stk = some (.d (.bool r0)) ∧ Am 44 [(.d (.agg [(.int .i64 Af), (.int .i64 Ak), (.str Aj), (.sl (Ab Ag Ah)), (.sl (Ab Ac Ai))])), (.d (.int .i64 v1))] stk = some (.d (.bool r0), stk)
abbrev T_z2_2 := Int × Int × Int × Str × Ls0 × Ls1
abbrev R_z2 := Bool
abbrev T_z2_0 := Int × Int × Str × Ls0 × Ls1 × Int
def A_z2_2 (m : Nat) : T_z2_2 → Stk → Rk'
 | (v1, A1, A4, Bb, A5, A2), stk => Ap 44 .frz 2 [] ⟨[(1, (.d (.int .i64 v1))), (2, (.d (.iptr [(.int .i64 A1), (.int .i64 A4), (.str Bb), (.sl (Ab Ag A5)), (.sl (Ab Ac A2))])))], ⟨m, []⟩ :: stk⟩
def O_z2 (m : Nat) : R_z2 → Stk → Rk'
 | r0, stk => some (.ret (.d (.bool r0)), stk)
abbrev H_z2_2 (m : Nat) (l : T_z2_2 → Option R_z2) : Prop := Hd l (A_z2_2 Ap @Ab Ag Ac m ) (O_z2 m )
def A_z2_0 (m : Nat) : T_z2_0 → Stk → Rk'
 | (Af, Ak, Aj, Ah, Ai, v1), stk => Ap 44 .frz 0 [] ⟨[(0, (.d (.agg [(.int .i64 Af), (.int .i64 Ak), (.str Aj), (.sl (Ab Ag Ah)), (.sl (Ab Ac Ai))]))), (1, (.d (.int .i64 v1)))], ⟨m, []⟩ :: stk⟩
abbrev H_z2_0 (m : Nat) (l : T_z2_0 → Option R_z2) : Prop := Hd l (A_z2_0 Ap @Ab Ag Ac m ) (O_z2 m )
abbrev T_z2_3 := Int × Int × Int × Str × Ls0 × Ls1
def A_z2_3 (m : Nat) : T_z2_3 → Stk → Rk'
 | (v1, A1, A4, Bb, A5, A2), stk => Ap 44 .frz 3 [] ⟨[(1, (.d (.int .i64 v1))), (2, (.d (.iptr [(.int .i64 A1), (.int .i64 A4), (.str Bb), (.sl (Ab Ag A5)), (.sl (Ab Ac A2))])))], ⟨m, []⟩ :: stk⟩
abbrev H_z2_3 (m : Nat) (l : T_z2_3 → Option R_z2) : Prop := Hd l (A_z2_3 Ap @Ab Ag Ac m ) (O_z2 m )
abbrev T_z2_4 := Int × Int × Int × Str × Ls0 × Ls1 × Int
def A_z2_4 (m : Nat) : T_z2_4 → Stk → Rk'
 | (v1, A1, A4, Bb, A5, A2, v5), stk => Ap 44 .frz 4 [.lp ⟨4, [1, 2, 5], []⟩, .blk 0, .sub ⟨7, [1, 2], []⟩] ⟨[(1, (.d (.int .i64 v1))), (2, (.d (.iptr [(.int .i64 A1), (.int .i64 A4), (.str Bb), (.sl (Ab Ag A5)), (.sl (Ab Ac A2))]))), (5, (.d (.int .i64 v5)))], ⟨m, []⟩ :: stk⟩
abbrev H_z2_4 (m : Nat) (l : T_z2_4 → Option R_z2) : Prop := Hd l (A_z2_4 Ap @Ab Ag Ac m ) (O_z2 m )
abbrev T_z2_8 := Int × Int × Int × Str × Ls0 × Ls1 × Int
def A_z2_8 (m : Nat) : T_z2_8 → Stk → Rk'
 | (v1, A1, A4, Bb, A5, A2, v6), stk => Ap 44 .frz 8 [.lp ⟨8, [1, 2, 6], []⟩, .blk 2, .sub ⟨15, [], []⟩] ⟨[(1, (.d (.int .i64 v1))), (2, (.d (.iptr [(.int .i64 A1), (.int .i64 A4), (.str Bb), (.sl (Ab Ag A5)), (.sl (Ab Ac A2))]))), (6, (.d (.int .i64 v6)))], ⟨m, []⟩ :: stk⟩
abbrev H_z2_8 (m : Nat) (l : T_z2_8 → Option R_z2) : Prop := Hd l (A_z2_8 Ap @Ab Ag Ac m ) (O_z2 m )
abbrev T_z2_11 := Int × Int × Int × Str × Ls0 × Ls1 × Int × Int
def A_z2_11 (m : Nat) : T_z2_11 → Stk → Rk'
 | (v1, A1, A4, Bb, A5, A2, v6, v7), stk => Ap 44 .frz 11 [.lp ⟨11, [1, 2, 6, 7], []⟩, .blk 4, .blk 3, .sub ⟨14, [1, 2, 6], []⟩, .lp ⟨8, [1, 2, 6], []⟩, .blk 2, .sub ⟨15, [], []⟩] ⟨[(1, (.d (.int .i64 v1))), (2, (.d (.iptr [(.int .i64 A1), (.int .i64 A4), (.str Bb), (.sl (Ab Ag A5)), (.sl (Ab Ac A2))]))), (6, (.d (.int .i64 v6))), (7, (.d (.int .i64 v7)))], ⟨m, []⟩ :: stk⟩
abbrev H_z2_11 (m : Nat) (l : T_z2_11 → Option (T_z2_8 ⊕ R_z2)) : Prop := Hd l (A_z2_11 Ap @Ab Ag Ac m ) (el (A_z2_8 Ap @Ab Ag Ac m ) (O_z2 m ))
abbrev T_zx_0 := Int × Int × Str × Ls0 × Ls1
abbrev R_zx := Bool
def A_zx_0 (m : Nat) : T_zx_0 → Stk → Rk'
 | (Af, Ak, Aj, Ah, Ai), stk => Ap 14 .frz 0 [] ⟨[(0, (.d (.agg [(.int .i64 Af), (.int .i64 Ak), (.str Aj), (.sl (Ab Ag Ah)), (.sl (Ab Ac Ai))])))], ⟨m, []⟩ :: stk⟩
def O_zx (m : Nat) : R_zx → Stk → Rk'
 | r0, stk => some (.ret (.d (.bool r0)), stk)
abbrev H_zx_0 (m : Nat) (l : T_zx_0 → Option R_zx) : Prop := Hd l (A_zx_0 Ap @Ab Ag Ac m ) (O_zx m )
abbrev T_zj_1 := Ss × Int
abbrev R_zj := Bool
abbrev T_zj_0 := Ss
def A_zj_1 (m : Nat) : T_zj_1 → Stk → Rk'
 | (v0, v3), stk => Ap 41 .frz 1 [.lp ⟨1, [0, 3], []⟩, .blk 0, .sub ⟨7, [], []⟩] ⟨[(0, (.d (.sl (Ab Ax v0)))), (3, (.d (.int .i64 v3)))], ⟨m, []⟩ :: stk⟩
def O_zj (m : Nat) : R_zj → Stk → Rk'
 | r0, stk => some (.ret (.d (.bool r0)), stk)
abbrev H_zj_1 (m : Nat) (l : T_zj_1 → Option R_zj) : Prop := Hd l (A_zj_1 Ap @Ab Ax m ) (O_zj m )
def A_zj_0 (m : Nat) : T_zj_0 → Stk → Rk'
 | v0, stk => Ap 41 .frz 0 [] ⟨[(0, (.d (.sl (Ab Ax v0))))], ⟨m, []⟩ :: stk⟩
abbrev H_zj_0 (m : Nat) (l : T_zj_0 → Option R_zj) : Prop := Hd l (A_zj_0 Ap @Ab Ax m ) (O_zj m )
abbrev T_zj_3 := Ss × Int × Int
def A_zj_3 (m : Nat) : T_zj_3 → Stk → Rk'
 | (v0, v3, v4), stk => Ap 41 .frz 3 [.lp ⟨3, [0, 3, 4], []⟩, .blk 2, .blk 1, .sub ⟨6, [0, 3], []⟩, .lp ⟨1, [0, 3], []⟩, .blk 0, .sub ⟨7, [], []⟩] ⟨[(0, (.d (.sl (Ab Ax v0)))), (3, (.d (.int .i64 v3))), (4, (.d (.int .i64 v4)))], ⟨m, []⟩ :: stk⟩
abbrev H_zj_3 (m : Nat) (l : T_zj_3 → Option (T_zj_1 ⊕ R_zj)) : Prop := Hd l (A_zj_3 Ap @Ab Ax m ) (el (A_zj_1 Ap @Ab Ax m ) (O_zj m ))
abbrev T_zs_1 := Str × Int × Int × Int × Str × Ls0 × Ls1
abbrev R_zs := Int
abbrev T_zs_0 := Int × Int × Str × Ls0 × Ls1 × Str
def A_zs_1 (m : Nat) : T_zs_1 → Stk → Rk'
 | (v1, v5, B4, B5, B6, B7, B8), stk => Ap 22 .frz 1 [.lp ⟨1, [1, 2, 5], [[2]]⟩, .blk 0, .sub ⟨4, [], []⟩] ⟨[(1, (.d (.str v1))), (2, (.ref ⟨m, [2]⟩ 0)), (5, (.d (.int .i64 v5)))], ⟨m, [([2], (.cells [(.d (.int .i64 B4)), (.d (.int .i64 B5)), (.d (.str B6)), (.d (.sl (Ab Ag B7))), (.d (.sl (Ab Ac B8)))]))]⟩ :: stk⟩
def O_zs (m : Nat) : R_zs → Stk → Rk'
 | r0, stk => some (.ret (.d (.int .i64 r0)), stk)
abbrev H_zs_1 (m : Nat) (l : T_zs_1 → Option R_zs) : Prop := Hd l (A_zs_1 Ap @Ab Ag Ac m ) (O_zs m )
def A_zs_0 (m : Nat) : T_zs_0 → Stk → Rk'
 | (Af, Ak, Aj, Ah, Ai, v1), stk => Ap 22 .frz 0 [] ⟨[(0, (.d (.agg [(.int .i64 Af), (.int .i64 Ak), (.str Aj), (.sl (Ab Ag Ah)), (.sl (Ab Ac Ai))]))), (1, (.d (.str v1)))], ⟨m, []⟩ :: stk⟩
abbrev H_zs_0 (m : Nat) (l : T_zs_0 → Option R_zs) : Prop := Hd l (A_zs_0 Ap @Ab Ag Ac m ) (O_zs m )
abbrev T_zt_1 := Str × Int × Int × Int × Str × Ls0
abbrev R_zt := Int
abbrev T_zt_0 := Str × Int × Int × Str × Ls0
def A_zt_1 (m : Nat) (n0 : Nat) (k0 : Kl) (Ad : Nat) (L0 : Ls1) : T_zt_1 → Stk → Rk'
 | (v1, v5, B4, B5, B6, B7), stk => Ap 22 .frz 1 [.lp ⟨1, [1, 2, 5], [[2]]⟩, .blk 0, .sub ⟨4, [], []⟩] ⟨[(1, (.d (.str v1))), (2, (.ref ⟨m, [2]⟩ 0)), (5, (.d (.int .i64 v5)))], ⟨m, [([2], (.cells [(.d (.int .i64 B4)), (.d (.int .i64 B5)), (.d (.str B6)), (.d (.sl (Ab Ag B7))), (.msl ⟨n0, k0⟩ Ad 0 (Aw (Ab Ac L0)))]))]⟩ :: stk⟩
def O_zt (m : Nat) (n0 : Nat) (k0 : Kl) (Ad : Nat) (L0 : Ls1) : R_zt → Stk → Rk'
 | r0, stk => some (.ret (.d (.int .i64 r0)), stk)
def G_zt (n0 : Nat) (k0 : Kl) (Ad : Nat) (L0 : Ls1) (stk : Stk) : Prop := getO stk ⟨n0, k0⟩ = some (.arr Ad 6 (Ab Ac L0)) ∧ True
abbrev H_zt_1 (m : Nat) (n0 : Nat) (k0 : Kl) (Ad : Nat) (L0 : Ls1) (l : T_zt_1 → Option R_zt) : Prop := HdS (G_zt @Ab Ac n0 k0 Ad L0) l (A_zt_1 Ap @Ab Aw Ag Ac m n0 k0 Ad L0) (O_zt m n0 k0 Ad L0)
def A_zt_0 (m : Nat) (n0 : Nat) (k0 : Kl) (Ad : Nat) (L0 : Ls1) : T_zt_0 → Stk → Rk'
 | (v1, Af, Ak, Aj, Ah), stk => Ap 22 .frz 0 [] ⟨[(0, (.agg [(.d (.int .i64 Af)), (.d (.int .i64 Ak)), (.d (.str Aj)), (.d (.sl (Ab Ag Ah))), (.msl ⟨n0, k0⟩ Ad 0 (Aw (Ab Ac L0)))])), (1, (.d (.str v1)))], ⟨m, []⟩ :: stk⟩
abbrev H_zt_0 (m : Nat) (n0 : Nat) (k0 : Kl) (Ad : Nat) (L0 : Ls1) (l : T_zt_0 → Option R_zt) : Prop := HdS (G_zt @Ab Ac n0 k0 Ad L0) l (A_zt_0 Ap @Ab Aw Ag Ac m n0 k0 Ad L0) (O_zt m n0 k0 Ad L0)
abbrev Y_zs := S1_ → Str → Option (Int)
abbrev Y_zt := Str → Int → Int → Str → Ls0 → Nat → Ls1 → Option (Int)
def C_zs (c_zs : S1_ → Str → Option (Int)) : Prop := ∀ {Af Ak : Int} {Aj : Str} {Ah : Ls0} {Ai : Ls1} {v1 : Str} {r0 : Int}, c_zs ⟨Af, Ak, Aj, Ah, Ai⟩ v1 = some r0 → ∀ (stk : Stk) , As 22 [(.d (.agg [(.int .i64 Af), (.int .i64 Ak), (.str Aj), (.sl (Ab Ag Ah)), (.sl (Ab Ac Ai))])), (.d (.str v1))] stk = some (.d (.int .i64 r0)) ∧ Am 22 [(.d (.agg [(.int .i64 Af), (.int .i64 Ak), (.str Aj), (.sl (Ab Ag Ah)), (.sl (Ab Ac Ai))])), (.d (.str v1))] stk = some (.d (.int .i64 r0), stk)
def C_zt (c_zt : Str → Int → Int → Str → Ls0 → Nat → Ls1 → Option (Int)) : Prop := ∀ {v1 : Str} {Af Ak : Int} {Aj : Str} {Ah : Ls0} {Ad : Nat} {L0 : Ls1} {r0 : Int}, c_zt v1 Af Ak Aj Ah Ad L0 = some r0 → ∀ (stk : Stk) (n0 : Nat) (k0 : Kl), getO stk ⟨n0, k0⟩ = some (.arr Ad 6 (Ab Ac L0)) → n0 ≤ topN stk → As 22 [(.agg [(.d (.int .i64 Af)), (.d (.int .i64 Ak)), (.d (.str Aj)), (.d (.sl (Ab Ag Ah))), (.msl ⟨n0, k0⟩ Ad 0 (Aw (Ab Ac L0)))]), (.d (.str v1))] stk = some (.d (.int .i64 r0)) ∧ Am 22 [(.agg [(.d (.int .i64 Af)), (.d (.int .i64 Ak)), (.d (.str Aj)), (.d (.sl (Ab Ag Ah))), (.msl ⟨n0, k0⟩ Ad 0 (Aw (Ab Ac L0)))]), (.d (.str v1))] stk = some (.d (.int .i64 r0), stk)
abbrev T_zw_1 := Ss × Int × Int × Str × Ls0 × Ls1 × Int × Int × Int × Str × Ls0 × Ls1 × Int × Int × Str × Ls0 × Nat × Ls1
abbrev R_zw := S1_
abbrev T_zw_0 := Int × Int × Str × Ls0 × Ls1 × Ss
def A_zw_1 (m : Nat) : T_zw_1 → Stk → Rk'
 | (v1, A1, A4, Bb, A5, A2, v6, Br, Bs, Bt, Bu, Bv, Ch, Ci, Cj, Ck, Bh, B3), stk => Ap 42 .frz 1 [.lp ⟨1, [1, 2, 4, 5, 6], [[4], [5], [5, 4]]⟩, .blk 0, .sub ⟨4, [2, 4, 5], [[4], [5], [5, 4]]⟩] ⟨[(1, (.d (.sl (Ab Ax v1)))), (2, (.d (.iptr [(.int .i64 A1), (.int .i64 A4), (.str Bb), (.sl (Ab Ag A5)), (.sl (Ab Ac A2))]))), (4, (.ref ⟨m, [4]⟩ 0)), (5, (.ref ⟨m, [5]⟩ 0)), (6, (.d (.int .i64 v6)))], ⟨m, [([4], (.cells [(.d (.int .i64 Br)), (.d (.int .i64 Bs)), (.d (.str Bt)), (.d (.sl (Ab Ag Bu))), (.d (.sl (Ab Ac Bv)))])), ([5], (.cells [(.d (.int .i64 Ch)), (.d (.int .i64 Ci)), (.d (.str Cj)), (.d (.sl (Ab Ag Ck))), (.msl ⟨m, [5, 4]⟩ Bh 0 (Aw (Ab Ac B3)))])), ([5, 4], (.arr Bh 6 (Ab Ac B3)))]⟩ :: stk⟩
def O_zw (m : Nat) : R_zw → Stk → Rk'
 | ⟨Ce, Cf, Cg, Cv, Cw⟩, stk => some (.ret (.d (.agg [(.int .i64 Ce), (.int .i64 Cf), (.str Cg), (.sl (Ab Ag Cv)), (.sl (Ab Ac Cw))])), stk)
abbrev H_zw_1 (m : Nat) (l : T_zw_1 → Option R_zw) : Prop := Hd l (A_zw_1 Ap @Ab Aw Ag Ac Ax m ) (O_zw @Ab Ag Ac m )
def A_zw_0 (m : Nat) : T_zw_0 → Stk → Rk'
 | (Af, Ak, Aj, Ah, Ai, v1), stk => Ap 42 .frz 0 [] ⟨[(0, (.d (.agg [(.int .i64 Af), (.int .i64 Ak), (.str Aj), (.sl (Ab Ag Ah)), (.sl (Ab Ac Ai))]))), (1, (.d (.sl (Ab Ax v1))))], ⟨m, []⟩ :: stk⟩
abbrev H_zw_0 (m : Nat) (l : T_zw_0 → Option R_zw) : Prop := Hd l (A_zw_0 Ap @Ab Ag Ac Ax m ) (O_zw @Ab Ag Ac m )
abbrev T_zw_3 := Ss × Int × Int × Str × Ls0 × Ls1 × Int × Int × Int × Str × Ls0 × Ls1 × Int × Int × Str × Ls0 × Nat × Ls1
abbrev T_zw_5 := Int × Int × Str × Ls0 × Ls1 × Int × Int × Int × Str × Ls0 × Ls1 × Int × Int × Str × Ls0 × Nat × Ls1
def A_zw_3 (m : Nat) : T_zw_3 → Stk → Rk'
 | (v1, A1, A4, Bb, A5, A2, v6, Br, Bs, Bt, Bu, Bv, Ch, Ci, Cj, Ck, Bh, B3), stk => Ap 42 .frz 3 [.lp ⟨1, [1, 2, 4, 5, 6], [[4], [5], [5, 4]]⟩, .blk 0, .sub ⟨4, [2, 4, 5], [[4], [5], [5, 4]]⟩] ⟨[(1, (.d (.sl (Ab Ax v1)))), (2, (.d (.iptr [(.int .i64 A1), (.int .i64 A4), (.str Bb), (.sl (Ab Ag A5)), (.sl (Ab Ac A2))]))), (4, (.ref ⟨m, [4]⟩ 0)), (5, (.ref ⟨m, [5]⟩ 0)), (6, (.d (.int .i64 v6)))], ⟨m, [([4], (.cells [(.d (.int .i64 Br)), (.d (.int .i64 Bs)), (.d (.str Bt)), (.d (.sl (Ab Ag Bu))), (.d (.sl (Ab Ac Bv)))])), ([5], (.cells [(.d (.int .i64 Ch)), (.d (.int .i64 Ci)), (.d (.str Cj)), (.d (.sl (Ab Ag Ck))), (.msl ⟨m, [5, 4]⟩ Bh 0 (Aw (Ab Ac B3)))])), ([5, 4], (.arr Bh 6 (Ab Ac B3)))]⟩ :: stk⟩
abbrev H_zw_3 (m : Nat) (l : T_zw_3 → Option (T_zw_1 ⊕ R_zw)) : Prop := Hd l (A_zw_3 Ap @Ab Aw Ag Ac Ax m ) (el (A_zw_1 Ap @Ab Aw Ag Ac Ax m ) (O_zw @Ab Ag Ac m ))
def A_zw_5 (m : Nat) : T_zw_5 → Stk → Rk'
 | (A1, A4, Bb, A5, A2, v8, Br, Bs, Bt, Bu, Bv, Ch, Ci, Cj, Ck, Bh, B3), stk => Ap 42 .frz 5 [.lp ⟨5, [2, 4, 5, 8], [[4], [5], [5, 4]]⟩, .blk 2, .sub ⟨8, [4, 5], [[4], [5], [5, 4]]⟩] ⟨[(2, (.d (.iptr [(.int .i64 A1), (.int .i64 A4), (.str Bb), (.sl (Ab Ag A5)), (.sl (Ab Ac A2))]))), (4, (.ref ⟨m, [4]⟩ 0)), (5, (.ref ⟨m, [5]⟩ 0)), (8, (.d (.int .i64 v8)))], ⟨m, [([4], (.cells [(.d (.int .i64 Br)), (.d (.int .i64 Bs)), (.d (.str Bt)), (.d (.sl (Ab Ag Bu))), (.d (.sl (Ab Ac Bv)))])), ([5], (.cells [(.d (.int .i64 Ch)), (.d (.int .i64 Ci)), (.d (.str Cj)), (.d (.sl (Ab Ag Ck))), (.msl ⟨m, [5, 4]⟩ Bh 0 (Aw (Ab Ac B3)))])), ([5, 4], (.arr Bh 6 (Ab Ac B3)))]⟩ :: stk⟩
abbrev H_zw_5 (m : Nat) (l : T_zw_5 → Option R_zw) : Prop := Hd l (A_zw_5 Ap @Ab Aw Ag Ac m ) (O_zw @Ab Ag Ac m )
abbrev T_zw_7 := Int × Int × Str × Ls0 × Ls1 × Int × Int × Int × Str × Ls0 × Ls1 × Int × Int × Str × Ls0 × Nat × Ls1
def A_zw_7 (m : Nat) : T_zw_7 → Stk → Rk'
 | (A1, A4, Bb, A5, A2, v8, Br, Bs, Bt, Bu, Bv, Ch, Ci, Cj, Ck, Bh, B3), stk => Ap 42 .frz 7 [.lp ⟨5, [2, 4, 5, 8], [[4], [5], [5, 4]]⟩, .blk 2, .sub ⟨8, [4, 5], [[4], [5], [5, 4]]⟩] ⟨[(2, (.d (.iptr [(.int .i64 A1), (.int .i64 A4), (.str Bb), (.sl (Ab Ag A5)), (.sl (Ab Ac A2))]))), (4, (.ref ⟨m, [4]⟩ 0)), (5, (.ref ⟨m, [5]⟩ 0)), (8, (.d (.int .i64 v8)))], ⟨m, [([4], (.cells [(.d (.int .i64 Br)), (.d (.int .i64 Bs)), (.d (.str Bt)), (.d (.sl (Ab Ag Bu))), (.d (.sl (Ab Ac Bv)))])), ([5], (.cells [(.d (.int .i64 Ch)), (.d (.int .i64 Ci)), (.d (.str Cj)), (.d (.sl (Ab Ag Ck))), (.msl ⟨m, [5, 4]⟩ Bh 0 (Aw (Ab Ac B3)))])), ([5, 4], (.arr Bh 6 (Ab Ac B3)))]⟩ :: stk⟩
abbrev H_zw_7 (m : Nat) (l : T_zw_7 → Option (T_zw_5 ⊕ R_zw)) : Prop := Hd l (A_zw_7 Ap @Ab Aw Ag Ac m ) (el (A_zw_5 Ap @Ab Aw Ag Ac m ) (O_zw @Ab Ag Ac m ))
abbrev T_zdd_1 := Str × Ls1 × Int × Int × Int × Int × Str × Ls0 × Ls1
abbrev R_zdd := S1_ × Bool
abbrev T_zdd_0 := Int × Int × Str × Ls0 × Ls1 × Str
def A_zdd_1 (m : Nat) : T_zdd_1 → Stk → Rk'
 | (v1, v9, v10, v11, Br, Bs, Bt, Bu, Bv), stk => Ap 55 .frz 1 [.lp ⟨1, [1, 4, 9, 10, 11], [[4]]⟩, .blk 0, .sub ⟨4, [4], [[4]]⟩] ⟨[(1, (.d (.str v1))), (4, (.ref ⟨m, [4]⟩ 0)), (9, (.d (.sl (Ab Ac v9)))), (10, (.d (.int .i64 v10))), (11, (.d (.int .i64 v11)))], ⟨m, [([4], (.cells [(.d (.int .i64 Br)), (.d (.int .i64 Bs)), (.d (.str Bt)), (.d (.sl (Ab Ag Bu))), (.d (.sl (Ab Ac Bv)))]))]⟩ :: stk⟩
def O_zdd (m : Nat) : R_zdd → Stk → Rk'
 | (⟨Ce, Cf, Cg, Cv, Cw⟩, r1), stk => some (.ret (.d (.tup [(.agg [(.int .i64 Ce), (.int .i64 Cf), (.str Cg), (.sl (Ab Ag Cv)), (.sl (Ab Ac Cw))]), (.bool r1)])), stk)
abbrev H_zdd_1 (m : Nat) (l : T_zdd_1 → Option R_zdd) : Prop := Hd l (A_zdd_1 Ap @Ab Ag Ac m ) (O_zdd @Ab Ag Ac m )
def A_zdd_0 (m : Nat) : T_zdd_0 → Stk → Rk'
 | (Af, Ak, Aj, Ah, Ai, v1), stk => Ap 55 .frz 0 [] ⟨[(0, (.d (.agg [(.int .i64 Af), (.int .i64 Ak), (.str Aj), (.sl (Ab Ag Ah)), (.sl (Ab Ac Ai))]))), (1, (.d (.str v1)))], ⟨m, []⟩ :: stk⟩
abbrev H_zdd_0 (m : Nat) (l : T_zdd_0 → Option R_zdd) : Prop := Hd l (A_zdd_0 Ap @Ab Ag Ac m ) (O_zdd @Ab Ag Ac m )
abbrev Y_zc9 := S1_ → S1_ → Option (Bool)
def C_zc9 (c_zc9 : S1_ → S1_ → Option (Bool)) : Prop := ∀ {Af Ak : Int} {Aj : Str} {Ah : Ls0} {Ai : Ls1} {A3 Be : Int} {Bf : Str} {Bg : Ls0} {Bd : Ls1} {r0 : Bool}, c_zc9 ⟨Af, Ak, Aj, Ah, Ai⟩ ⟨A3, Be, Bf, Bg, Bd⟩ = some r0 → ∀ (stk : Stk) , As 61 [(.d (.agg [(.int .i64 Af), (.int .i64 Ak), (.str Aj), (.sl (Ab Ag Ah)), (.sl (Ab Ac Ai))])), (.d (.agg [(.int .i64 A3), (.int .i64 Be), (.str Bf), (.sl (Ab Ag Bg)), (.sl (Ab Ac Bd))]))] stk = some (.d (.bool r0)) ∧ Am 61 [(.d (.agg [(.int .i64 Af), (.int .i64 Ak), (.str Aj), (.sl (Ab Ag Ah)), (.sl (Ab Ac Ai))])), (.d (.agg [(.int .i64 A3), (.int .i64 Be), (.str Bf), (.sl (Ab Ag Bg)), (.sl (Ab Ac Bd))]))] stk = some (.d (.bool r0), stk)
abbrev T_zb6_2 := Ls0 × Ls0 × Int × Int
abbrev R_zb6 := Bool
abbrev T_zb6_0 := Ls0 × Ls0
def A_zb6_2 (m : Nat) : T_zb6_2 → Stk → Rk'
 | (v1, v15, v16, v17), stk => Ap 73 .frz 2 [.lp ⟨2, [1, 2, 15, 16, 17], []⟩, .blk 0, .sub ⟨5, [], []⟩] ⟨[(1, (.d (.sl (Ab Ag v1)))), (2, (.d (.func (.func 61) [] []))), (15, (.d (.sl (Ab Ag v15)))), (16, (.d (.int .i64 v16))), (17, (.d (.int .i64 v17)))], ⟨m, []⟩ :: stk⟩
def O_zb6 (m : Nat) : R_zb6 → Stk → Rk'
 | r0, stk => some (.ret (.d (.bool r0)), stk)
abbrev H_zb6_2 (m : Nat) (l : T_zb6_2 → Option R_zb6) : Prop := Hd l (A_zb6_2 Ap @Ab Ag m ) (O_zb6 m )
def A_zb6_0 (m : Nat) : T_zb6_0 → Stk → Rk'
 | (v0, v1), stk => Ap 73 .frz 0 [] ⟨[(0, (.d (.sl (Ab Ag v0)))), (1, (.d (.sl (Ab Ag v1)))), (2, (.d (.func (.func 61) [] [])))], ⟨m, []⟩ :: stk⟩
abbrev H_zb6_0 (m : Nat) (l : T_zb6_0 → Option R_zb6) : Prop := Hd l (A_zb6_0 Ap @Ab Ag m ) (O_zb6 m )
abbrev Y_zb6 := Ls0 → Ls0 → Option (Bool)
abbrev Y_zdd := S1_ → Str → Option (S1_ × Bool)
def C_zb6 (c_zb6 : Ls0 → Ls0 → Option (Bool)) : Prop := ∀ {v0 v1 : Ls0} {r0 : Bool}, c_zb6 v0 v1 = some r0 → ∀ (stk : Stk) , As 73 [(.d (.sl (Ab Ag v0))), (.d (.sl (Ab Ag v1))), (.d (.func (.func 61) [] []))] stk = some (.d (.bool r0)) ∧ Am 73 [(.d (.sl (Ab Ag v0))), (.d (.sl (Ab Ag v1))), (.d (.func (.func 61) [] []))] stk = some (.d (.bool r0), stk)
def C_zdd (c_zdd : S1_ → Str → Option (S1_ × Bool)) : Prop := ∀ {Af Ak : Int} {Aj : Str} {Ah : Ls0} {Ai : Ls1} {v1 : Str} {Ce Cf : Int} {Cg : Str} {Cv : Ls0} {Cw : Ls1} {r1 : Bool}, c_zdd ⟨Af, Ak, Aj, Ah, Ai⟩ v1 = some (⟨Ce, Cf, Cg, Cv, Cw⟩, r1) → ∀ (stk : Stk) , As 55 [(.d (.agg [(.int .i64 Af), (.int .i64 Ak), (.str Aj), (.sl (Ab Ag Ah)), (.sl (Ab Ac Ai))])), (.d (.str v1))] stk = some (.d (.tup [(.agg [(.int .i64 Ce), (.int .i64 Cf), (.str Cg), (.sl (Ab Ag Cv)), (.sl (Ab Ac Cw))]), (.bool r1)])) ∧ Am 55 [(.d (.agg [(.int .i64 Af), (.int .i64 Ak), (.str Aj), (.sl (Ab Ag Ah)), (.sl (Ab Ac Ai))])), (.d (.str v1))] stk = some (.d (.tup [(.agg [(.int .i64 Ce), (.int .i64 Cf), (.str Cg), (.sl (Ab Ag Cv)), (.sl (Ab Ac Cw))]), (.bool r1)]), stk)
abbrev T_zc9_2 := Int × Int × Str × Ls0 × Ls1 × Ls1 × Int × Int
abbrev R_zc9 := Bool
abbrev T_zc9_0 := Int × Int × Str × Ls0 × Ls1 × Int × Int × Str × Ls0 × Ls1
def A_zc9_2 (m : Nat) : T_zc9_2 → Stk → Rk'
 | (Cb, Dz, D0, C6, C7, v46, v47, v48), stk => Ap 61 .frz 2 [.lp ⟨2, [3, 46, 47, 48], []⟩, .blk 0, .sub ⟨5, [], []⟩] ⟨[(3, (.d (.iptr [(.int .i64 Cb), (.int .i64 Dz), (.str D0), (.sl (Ab Ag C6)), (.sl (Ab Ac C7))]))), (46, (.d (.sl (Ab Ac v46)))), (47, (.d (.int .i64 v47))), (48, (.d (.int .i64 v48)))], ⟨m, []⟩ :: stk⟩
def O_zc9 (m : Nat) : R_zc9 → Stk → Rk'
 | r0, stk => some (.ret (.d (.bool r0)), stk)
abbrev H_zc9_2 (m : Nat) (l : T_zc9_2 → Option R_zc9) : Prop := Hd l (A_zc9_2 Ap @Ab Ag Ac m ) (O_zc9 m )
def A_zc9_0 (m : Nat) : T_zc9_0 → Stk → Rk'
 | (Af, Ak, Aj, Ah, Ai, A3, Be, Bf, Bg, Bd), stk => Ap 61 .frz 0 [] ⟨[(0, (.d (.agg [(.int .i64 Af), (.int .i64 Ak), (.str Aj), (.sl (Ab Ag Ah)), (.sl (Ab Ac Ai))]))), (1, (.d (.agg [(.int .i64 A3), (.int .i64 Be), (.str Bf), (.sl (Ab Ag Bg)), (.sl (Ab Ac Bd))])))], ⟨m, []⟩ :: stk⟩
abbrev H_zc9_0 (m : Nat) (l : T_zc9_0 → Option R_zc9) : Prop := Hd l (A_zc9_0 Ap @Ab Ag Ac m ) (O_zc9 m )
abbrev T_zcq_0 := Int × Int × Str × Ls0 × Ls1 × Int × Int × Str × Ls0 × Ls1
abbrev R_zcq := Bool
def A_zcq_0 (m : Nat) : T_zcq_0 → Stk → Rk'
 | (Af, Ak, Aj, Ah, Ai, A3, Be, Bf, Bg, Bd), stk => Ap 27 .frz 0 [] ⟨[(0, (.d (.agg [(.int .i64 Af), (.int .i64 Ak), (.str Aj), (.sl (Ab Ag Ah)), (.sl (Ab Ac Ai))]))), (1, (.d (.agg [(.int .i64 A3), (.int .i64 Be), (.str Bf), (.sl (Ab Ag Bg)), (.sl (Ab Ac Bd))])))], ⟨m, []⟩ :: stk⟩
def O_zcq (m : Nat) : R_zcq → Stk → Rk'
 | r0, stk => some (.ret (.d (.bool r0)), stk)
abbrev H_zcq_0 (m : Nat) (l : T_zcq_0 → Option R_zcq) : Prop := Hd l (A_zcq_0 Ap @Ab Ag Ac m ) (O_zcq m )
abbrev Y_zdg := S1_ → S1_ → Option (Bool)
def C_zdg (c_zdg : S1_ → S1_ → Option (Bool)) : Prop := ∀ {Af Ak : Int} {Aj : Str} {Ah : Ls0} {Ai : Ls1} {A3 Be : Int} {Bf : Str} {Bg : Ls0} {Bd : Ls1} {r0 : Bool}, c_zdg ⟨Af, Ak, Aj, Ah, Ai⟩ ⟨A3, Be, Bf, Bg, Bd⟩ = some r0 → ∀ (stk : Stk) , As 60 [(.d (.agg [(.int .i64 Af), (.int .i64 Ak), (.str Aj), (.sl (Ab Ag Ah)), (.sl (Ab Ac Ai))])), (.d (.agg [(.int .i64 A3), (.int .i64 Be), (.str Bf), (.sl (Ab Ag Bg)), (.sl (Ab Ac Bd))]))] stk = some (.d (.bool r0)) ∧ Am 60 [(.d (.agg [(.int .i64 Af), (.int .i64 Ak), (.str Aj), (.sl (Ab Ag Ah)), (.sl (Ab Ac Ai))])), (.d (.agg [(.int .i64 A3), (.int .i64 Be), (.str Bf), (.sl (Ab Ag Bg)), (.sl (Ab Ac Bd))]))] stk = some (.d (.bool r0), stk)
abbrev T_zb7_2 := Ls0 × Ls0 × Int × Int
abbrev R_zb7 := Bool
abbrev T_zb7_0 := Ls0 × Ls0
def A_zb7_2 (m : Nat) : T_zb7_2 → Stk → Rk'
 | (v1, v15, v16, v17), stk => Ap 73 .frz 2 [.lp ⟨2, [1, 2, 15, 16, 17], []⟩, .blk 0, .sub ⟨5, [], []⟩] ⟨[(1, (.d (.sl (Ab Ag v1)))), (2, (.d (.func (.func 60) [] []))), (15, (.d (.sl (Ab Ag v15)))), (16, (.d (.int .i64 v16))), (17, (.d (.int .i64 v17)))], ⟨m, []⟩ :: stk⟩
def O_zb7 (m : Nat) : R_zb7 → Stk → Rk'
 | r0, stk => some (.ret (.d (.bool r0)), stk)
abbrev H_zb7_2 (m : Nat) (l : T_zb7_2 → Option R_zb7) : Prop := Hd l (A_zb7_2 Ap @Ab Ag m ) (O_zb7 m )
def A_zb7_0 (m : Nat) : T_zb7_0 → Stk → Rk'
 | (v0, v1), stk => Ap 73 .frz 0 [] ⟨[(0, (.d (.sl (Ab Ag v0)))), (1, (.d (.sl (Ab Ag v1)))), (2, (.d (.func (.func 60) [] [])))], ⟨m, []⟩ :: stk⟩
abbrev H_zb7_0 (m : Nat) (l : T_zb7_0 → Option R_zb7) : Prop := Hd l (A_zb7_0 Ap @Ab Ag m ) (O_zb7 m )
abbrev Y_zb7 := Ls0 → Ls0 → Option (Bool)
abbrev Y_zb4 := Ls1 → Ls1 → Option (Bool)
def C_zb7 (c_zb7 : Ls0 → Ls0 → Option (Bool)) : Prop := ∀ {v0 v1 : Ls0} {r0 : Bool}, c_zb7 v0 v1 = some r0 → ∀ (stk : Stk) , As 73 [(.d (.sl (Ab Ag v0))), (.d (.sl (Ab Ag v1))), (.d (.func (.func 60) [] []))] stk = some (.d (.bool r0)) ∧ Am 73 [(.d (.sl (Ab Ag v0))), (.d (.sl (Ab Ag v1))), (.d (.func (.func 60) [] []))] stk = some (.d (.bool r0), stk)
def C_zb4 (c_zb4 : Ls1 → Ls1 → Option (Bool)) : Prop := ∀ {v0 v1 : Ls1} {r0 : Bool}, c_zb4 v0 v1 = some r0 → ∀ (stk : Stk) , As 74 [(.d (.sl (Ab Ac v0))), (.d (.sl (Ab Ac v1))), (.d (.func (.func 72) [] []))] stk = some (.d (.bool r0)) ∧ Am 74 [(.d (.sl (Ab Ac v0))), (.d (.sl (Ab Ac v1))), (.d (.func (.func 72) [] []))] stk = some (.d (.bool r0), stk)
abbrev T_zdg_0 := Int × Int × Str × Ls0 × Ls1 × Int × Int × Str × Ls0 × Ls1
abbrev R_zdg := Bool
def A_zdg_0 (m : Nat) : T_zdg_0 → Stk → Rk'
 | (Af, Ak, Aj, Ah, Ai, A3, Be, Bf, Bg, Bd), stk => Ap 60 .frz 0 [] ⟨[(0, (.d (.agg [(.int .i64 Af), (.int .i64 Ak), (.str Aj), (.sl (Ab Ag Ah)), (.sl (Ab Ac Ai))]))), (1, (.d (.agg [(.int .i64 A3), (.int .i64 Be), (.str Bf), (.sl (Ab Ag Bg)), (.sl (Ab Ac Bd))])))], ⟨m, []⟩ :: stk⟩
def O_zdg (m : Nat) : R_zdg → Stk → Rk'
 | r0, stk => some (.ret (.d (.bool r0)), stk)
abbrev H_zdg_0 (m : Nat) (l : T_zdg_0 → Option R_zdg) : Prop := Hd l (A_zdg_0 Ap @Ab Ag Ac m ) (O_zdg m )
abbrev Y_zdh := S0_ → S0_ → Option (Bool)
def C_zdh (c_zdh : S0_ → S0_ → Option (Bool)) : Prop := ∀ {Af : Str} {A6 A7 : Int} {A8 : Str} {A9 : Ls0} {Ba : Ls1} {A3 : Str} {Bl Bm : Int} {Bn : Str} {Bo : Ls0} {Bp : Ls1} {r0 : Bool}, c_zdh ⟨Af, ⟨A6, A7, A8, A9, Ba⟩⟩ ⟨A3, ⟨Bl, Bm, Bn, Bo, Bp⟩⟩ = some r0 → ∀ (stk : Stk) , As 72 [(.d (.agg [(.str Af), (.int .i64 A6), (.int .i64 A7), (.str A8), (.sl (Ab Ag A9)), (.sl (Ab Ac Ba))])), (.d (.agg [(.str A3), (.int .i64 Bl), (.int .i64 Bm), (.str Bn), (.sl (Ab Ag Bo)), (.sl (Ab Ac Bp))]))] stk = some (.d (.bool r0)) ∧ Am 72 [(.d (.agg [(.str Af), (.int .i64 A6), (.int .i64 A7), (.str A8), (.sl (Ab Ag A9)), (.sl (Ab Ac Ba))])), (.d (.agg [(.str A3), (.int .i64 Bl), (.int .i64 Bm), (.str Bn), (.sl (Ab Ag Bo)), (.sl (Ab Ac Bp))]))] stk = some (.d (.bool r0), stk)
abbrev T_zb4_2 := Ls1 × Ls1 × Int × Int
abbrev R_zb4 := Bool
abbrev T_zb4_0 := Ls1 × Ls1
def A_zb4_2 (m : Nat) : T_zb4_2 → Stk → Rk'
 | (v1, v15, v16, v17), stk => Ap 74 .frz 2 [.lp ⟨2, [1, 2, 15, 16, 17], []⟩, .blk 0, .sub ⟨5, [], []⟩] ⟨[(1, (.d (.sl (Ab Ac v1)))), (2, (.d (.func (.func 72) [] []))), (15, (.d (.sl (Ab Ac v15)))), (16, (.d (.int .i64 v16))), (17, (.d (.int .i64 v17)))], ⟨m, []⟩ :: stk⟩
def O_zb4 (m : Nat) : R_zb4 → Stk → Rk'
 | r0, stk => some (.ret (.d (.bool r0)), stk)
abbrev H_zb4_2 (m : Nat) (l : T_zb4_2 → Option R_zb4) : Prop := Hd l (A_zb4_2 Ap @Ab Ac m ) (O_zb4 m )
def A_zb4_0 (m : Nat) : T_zb4_0 → Stk → Rk'
 | (v0, v1), stk => Ap 74 .frz 0 [] ⟨[(0, (.d (.sl (Ab Ac v0)))), (1, (.d (.sl (Ab Ac v1)))), (2, (.d (.func (.func 72) [] [])))], ⟨m, []⟩ :: stk⟩
abbrev H_zb4_0 (m : Nat) (l : T_zb4_0 → Option R_zb4) : Prop := Hd l (A_zb4_0 Ap @Ab Ac m ) (O_zb4 m )
abbrev T_zdh_0 := Str × Int × Int × Str × Ls0 × Ls1 × Str × Int × Int × Str × Ls0 × Ls1
abbrev R_zdh := Bool
def A_zdh_0 (m : Nat) : T_zdh_0 → Stk → Rk'
 | (Af, A6, A7, A8, A9, Ba, A3, Bl, Bm, Bn, Bo, Bp), stk => Ap 72 .frz 0 [] ⟨[(0, (.d (.agg [(.str Af), (.int .i64 A6), (.int .i64 A7), (.str A8), (.sl (Ab Ag A9)), (.sl (Ab Ac Ba))]))), (1, (.d (.agg [(.str A3), (.int .i64 Bl), (.int .i64 Bm), (.str Bn), (.sl (Ab Ag Bo)), (.sl (Ab Ac Bp))])))], ⟨m, []⟩ :: stk⟩
def O_zdh (m : Nat) : R_zdh → Stk → Rk'
 | r0, stk => some (.ret (.d (.bool r0)), stk)
abbrev H_zdh_0 (m : Nat) (l : T_zdh_0 → Option R_zdh) : Prop := Hd l (A_zdh_0 Ap @Ab Ag Ac m ) (O_zdh m )
abbrev T_zc6_0 := Int × Int × Str × Ls0 × Ls1 × Int × Int × Str × Ls0 × Ls1
abbrev R_zc6 := Bool
def A_zc6_0 (m : Nat) : T_zc6_0 → Stk → Rk'
 | (Af, Ak, Aj, Ah, Ai, A3, Be, Bf, Bg, Bd), stk => Ap 26 .frz 0 [] ⟨[(0, (.d (.agg [(.int .i64 Af), (.int .i64 Ak), (.str Aj), (.sl (Ab Ag Ah)), (.sl (Ab Ac Ai))]))), (1, (.d (.agg [(.int .i64 A3), (.int .i64 Be), (.str Bf), (.sl (Ab Ag Bg)), (.sl (Ab Ac Bd))])))], ⟨m, []⟩ :: stk⟩
def O_zc6 (m : Nat) : R_zc6 → Stk → Rk'
 | r0, stk => some (.ret (.d (.bool r0)), stk)
abbrev H_zc6_0 (m : Nat) (l : T_zc6_0 → Option R_zc6) : Prop := Hd l (A_zc6_0 Ap @Ab Ag Ac m ) (O_zc6 m )
abbrev Y_zg := Option (Bool)
abbrev Y_zv := S1_ → Int → Option (Bool)
abbrev Y_zh := Ss → Option (Bool)
abbrev Y_zcu := S1_ → Ss → Option (S1_ × Int)
abbrev Y_zk := S1_ → Option (Bool)
abbrev Y_zx := S1_ → Option (Bool)
abbrev Y_zj := Ss → Option (Bool)
abbrev Y_zw := S1_ → Ss → Option (S1_)
abbrev Y_zcq := S1_ → S1_ → Option (Bool)
abbrev Y_zc6 := S1_ → S1_ → Option (Bool)
def C_zg (c_zg : Option (Bool)) : Prop := ∀ {r0 : Bool}, c_zg = some r0 → ∀ (stk : Stk) , As 12 [] stk = some (.d (.bool r0)) ∧ Am 12 [] stk = some (.d (.bool r0), stk)
def C_zv (c_zv : S1_ → Int → Option (Bool)) : Prop := ∀ {Af Ak : Int} {Aj : Str} {Ah : Ls0} {Ai : Ls1} {v1 : Int} {r0 : Bool}, c_zv ⟨Af, Ak, Aj, Ah, Ai⟩ v1 = some r0 → ∀ (stk : Stk) , As 13 [(.d (.agg [(.int .i64 Af), (.int .i64 Ak), (.str Aj), (.sl (Ab Ag Ah)), (.sl (Ab Ac Ai))])), (.d (.int .i64 v1))] stk = some (.d (.bool r0)) ∧ Am 13 [(.d (.agg [(.int .i64 Af), (.int .i64 Ak), (.str Aj), (.sl (Ab Ag Ah)), (.sl (Ab Ac Ai))])), (.d (.int .i64 v1))] stk = some (.d (.bool r0), stk)
def C_zh (c_zh : Ss → Option (Bool)) : Prop := ∀ {v0 : Ss} {r0 : Bool}, c_zh v0 = some r0 → ∀ (stk : Stk) , As 40 [(.d (.sl (Ab Ax v0)))] stk = some (.d (.bool r0)) ∧ Am 40 [(.d (.sl (Ab Ax v0)))] stk = some (.d (.bool r0), stk)
def C_zcu (c_zcu : S1_ → Ss → Option (S1_ × Int)) : Prop := ∀ {Af Ak : Int} {Aj : Str} {Ah : Ls0} {Ai : Ls1} {v1 : Ss} {Ce Cf : Int} {Cg : Str} {Cv : Ls0} {Cw : Ls1} {r1 : Int}, c_zcu ⟨Af, Ak, Aj, Ah, Ai⟩ v1 = some (⟨Ce, Cf, Cg, Cv, Cw⟩, r1) → ∀ (stk : Stk) , As 38 [(.d (.agg [(.int .i64 Af), (.int .i64 Ak), (.str Aj), (.sl (Ab Ag Ah)), (.sl (Ab Ac Ai))])), (.d (.sl (Ab Ax v1)))] stk = some (.d (.tup [(.agg [(.int .i64 Ce), (.int .i64 Cf), (.str Cg), (.sl (Ab Ag Cv)), (.sl (Ab Ac Cw))]), (.int .i64 r1)])) ∧ Am 38 [(.d (.agg [(.int .i64 Af), (.int .i64 Ak), (.str Aj), (.sl (Ab Ag Ah)), (.sl (Ab Ac Ai))])), (.d (.sl (Ab Ax v1)))] stk = some (.d (.tup [(.agg [(.int .i64 Ce), (.int .i64 Cf), (.str Cg), (.sl (Ab Ag Cv)), (.sl (Ab Ac Cw))]), (.int .i64 r1)]), stk)
def C_zk (c_zk : S1_ → Option (Bool)) : Prop := ∀ {Af Ak : Int} {Aj : Str} {Ah : Ls0} {Ai : Ls1} {r0 : Bool}, c_zk ⟨Af, Ak, Aj, Ah, Ai⟩ = some r0 → ∀ (stk : Stk) , As 20 [(.d (.agg [(.int .i64 Af), (.int .i64 Ak), (.str Aj), (.sl (Ab Ag Ah)), (.sl (Ab Ac Ai))]))] stk = some (.d (.bool r0)) ∧ Am 20 [(.d (.agg [(.int .i64 Af), (.int .i64 Ak), (.str Aj), (.sl (Ab Ag Ah)), (.sl (Ab Ac Ai))]))] stk = some (.d (.bool r0), stk)
def C_zx (c_zx : S1_ → Option (Bool)) : Prop := ∀ {Af Ak : Int} {Aj : Str} {Ah : Ls0} {Ai : Ls1} {r0 : Bool}, c_zx ⟨Af, Ak, Aj, Ah, Ai⟩ = some r0 → ∀ (stk : Stk) , As 14 [(.d (.agg [(.int .i64 Af), (.int .i64 Ak), (.str Aj), (.sl (Ab Ag Ah)), (.sl (Ab Ac Ai))]))] stk = some (.d (.bool r0)) ∧ Am 14 [(.d (.agg [(.int .i64 Af), (.int .i64 Ak), (.str Aj), (.sl (Ab Ag Ah)), (.sl (Ab Ac Ai))]))] stk = some (.d (.bool r0), stk)
def C_zj (c_zj : Ss → Option (Bool)) : Prop := ∀ {v0 : Ss} {r0 : Bool}, c_zj v0 = some r0 → ∀ (stk : Stk) , As 41 [(.d (.sl (Ab Ax v0)))] stk = some (.d (.bool r0)) ∧ Am 41 [(.d (.sl (Ab Ax v0)))] stk = some (.d (.bool r0), stk)
def C_zw (c_zw : S1_ → Ss → Option (S1_)) : Prop := ∀ {Af Ak : Int} {Aj : Str} {Ah : Ls0} {Ai : Ls1} {v1 : Ss} {Ce Cf : Int} {Cg : Str} {Cv : Ls0} {Cw : Ls1}, c_zw ⟨Af, Ak, Aj, Ah, Ai⟩ v1 = some ⟨Ce, Cf, Cg, Cv, Cw⟩ → ∀ (stk : Stk) , As 42 [(.d (.agg [(.int .i64 Af), (.int .i64 Ak), (.str Aj), (.sl (Ab Ag Ah)), (.sl (Ab Ac Ai))])), (.d (.sl (Ab Ax v1)))] stk = some (.d (.agg [(.int .i64 Ce), (.int .i64 Cf), (.str Cg), (.sl (Ab Ag Cv)), (.sl (Ab Ac Cw))])) ∧ Am 42 [(.d (.agg [(.int .i64 Af), (.int .i64 Ak), (.str Aj), (.sl (Ab Ag Ah)), (.sl (Ab Ac Ai))])), (.d (.sl (Ab Ax v1)))] stk = some (.d (.agg [(.int .i64 Ce), (.int .i64 Cf), (.str Cg), (.sl (Ab Ag Cv)), (.sl (Ab Ac Cw))]), stk)
def C_zcq (c_zcq : S1_ → S1_ → Option (Bool)) : Prop := ∀ {Af Ak : Int} {Aj : Str} {Ah : Ls0} {Ai : Ls1} {A3 Be : Int} {Bf : Str} {Bg : Ls0} {Bd : Ls1} {r0 : Bool}, c_zcq ⟨Af, Ak, Aj, Ah, Ai⟩ ⟨A3, Be, Bf, Bg, Bd⟩ = some r0 → ∀ (stk : Stk) , As 27 [(.d (.agg [(.int .i64 Af), (.int .i64 Ak), (.str Aj), (.sl (Ab Ag Ah)), (.sl (Ab Ac Ai))])), (.d (.agg [(.int .i64 A3), (.int .i64 Be), (.str Bf), (.sl (Ab Ag Bg)), (.sl (Ab Ac Bd))]))] stk = some (.d (.bool r0)) ∧ Am 27 [(.d (.agg [(.int .i64 Af), (.int .i64 Ak), (.str Aj), (.sl (Ab Ag Ah)), (.sl (Ab Ac Ai))])), (.d (.agg [(.int .i64 A3), (.int .i64 Be), (.str Bf), (.sl (Ab Ag Bg)), (.sl (Ab Ac Bd))]))] stk = some (.d (.bool r0), stk)
def C_zc6 (c_zc6 : S1_ → S1_ → Option (Bool)) : Prop := ∀ {Af Ak : Int} {Aj : Str} {Ah : Ls0} {Ai : Ls1} {A3 Be : Int} {Bf : Str} {Bg : Ls0} {Bd : Ls1} {r0 : Bool}, c_zc6 ⟨Af, Ak, Aj, Ah, Ai⟩ ⟨A3, Be, Bf, Bg, Bd⟩ = some r0 → ∀ (stk : Stk) , As 26 [(.d (.agg [(.int .i64 Af), (.int .i64 Ak), (.str Aj), (.sl (Ab Ag Ah)), (.sl (Ab Ac Ai))])), (.d (.agg [(.int .i64 A3), (.int .i64 Be), (.str Bf), (.sl (Ab Ag Bg)), (.sl (Ab Ac Bd))]))] stk = some (.d (.bool r0)) ∧ Am 26 [(.d (.agg [(.int .i64 Af), (.int .i64 Ak), (.str Aj), (.sl (Ab Ag Ah)), (.sl (Ab Ac Ai))])), (.d (.agg [(.int .i64 A3), (.int .i64 Be), (.str Bf), (.sl (Ab Ag Bg)), (.sl (Ab Ac Bd))]))] stk = some (.d (.bool r0), stk)
abbrev T_zb_0 := Int × Int × Str × Ls0 × Ls1 × Ss
abbrev R_zb := Bool
def A_zb_0 (m : Nat) : T_zb_0 → Stk → Rk'
 | (Af, Ak, Aj, Ah, Ai, v1), stk => Ap 11 .frz 0 [] ⟨[(0, (.d (.agg [(.int .i64 Af), (.int .i64 Ak), (.str Aj), (.sl (Ab Ag Ah)), (.sl (Ab Ac Ai))]))), (1, (.d (.sl (Ab Ax v1))))], ⟨m, []⟩ :: stk⟩
def O_zb (m : Nat) : R_zb → Stk → Rk'
 | r0, stk => some (.ret (.d (.bool r0)), stk)
abbrev H_zb_0 (m : Nat) (l : T_zb_0 → Option R_zb) : Prop := Hd l (A_zb_0 Ap @Ab Ag Ac Ax m ) (O_zb m )
def C_zb (c_zb : S1_ → Ss → Option (Bool)) : Prop := ∀ {Af Ak : Int} {Aj : Str} {Ah : Ls0} {Ai : Ls1} {v1 : Ss} {r0 : Bool}, c_zb ⟨Af, Ak, Aj, Ah, Ai⟩ v1 = some r0 → ∀ (stk : Stk) , As 11 [(.d (.agg [(.int .i64 Af), (.int .i64 Ak), (.str Aj), (.sl (Ab Ag Ah)), (.sl (Ab Ac Ai))])), (.d (.sl (Ab Ax v1)))] stk = some (.d (.bool r0)) ∧ Am 11 [(.d (.agg [(.int .i64 Af), (.int .i64 Ak), (.str Aj), (.sl (Ab Ag Ah)), (.sl (Ab Ac Ai))])), (.d (.sl (Ab Ax v1)))] stk = some (.d (.bool r0), stk)
end
end Go.Abs.T
