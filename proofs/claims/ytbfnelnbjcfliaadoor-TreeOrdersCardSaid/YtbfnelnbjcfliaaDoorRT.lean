import Derived.Test.YtbfnelnbjcfliaaDoorWTb
import Derived.KernelRfl
set_option linter.unusedVariables false
set_option linter.unusedSimpArgs false
namespace Go.Abs.T
set_option maxRecDepth 100000
theorem table_ok : ∀ f kf, table f = some kf → kf.ok = true := by
  intro f kf h
  unfold table at h
  split at h <;> first | (cases h; done) | (cases h; kernel_rfl)
theorem LW : KLaws (oldT table) iterW glob (callW (oldT table) glob) (sysW table glob).pcall (sysW table glob).fcall (sysW table glob).kcall (List.length) (fun xs i => xs[i]?) (fun xs lo hi => (xs.take hi).drop lo) (fun xs ys => xs ++ ys) (fun xs i x => xs.set i x) (fun n x => List.replicate n x) (allSz) (List.length) (fun s i => s[i]?) (fun s lo hi => (s.take hi).drop lo) (fun a b => a ++ b) (fun a b => a == b) (fun a b => Op.bytesLess a b) (fun s => s.map fun b => .int .u8 b.toNat) (bytesOf) (fun s i => Utf8.decode ⟨⟨s⟩⟩ i) (fun n => (Utf8.encode n).data.toList) (intAr) (intCmp) (fun k n => k.wrap n) (fun n => decide (n = 0)) (fun n => decide (n < 0)) (fun n => n.toNat) (fun (n : Nat) => (n : Int)) (fun (b : UInt8) => (b.toNat : Int)) (fun a b => decide (a ≤ b)) (fun a b => a + b) (fun a b => a - b) (fun n b => decide (n * b ≤ room ∧ n ≤ room)) (findE) (Go.Abs.putE) (Go.Abs.findK) (List.length) (frzMap) (sameV) (atW table glob) setO (fun s => topN s + 1) sameStk (fun {_} e l => List.map e l) (fun {_} e l => mapE e l) Pr.quo Pr.shf Pr.slen Pr.sidx Pr.ssub Pr.scat Pr.sit Pr.slist Pr.ofBytes @Pr.len @Pr.idx @Pr.sub @Pr.app @Pr.set @Pr.make @Pr.mfind @Pr.mput @Pr.loop table := KLaws.real (G := glob) table_ok
abbrev XM {α : Type} (e : α → D) (l : List α) : List D := List.map e l
noncomputable section
abbrev XE {α : Type} (e : α → D) (l : List (Str × Nat × α)) := mapE e l
abbrev AT := atW table glob
abbrev PC := (sysW table glob).pcall
abbrev FC := (sysW table glob).fcall
abbrev KC_ := (sysW table glob).kcall
mutual
def E_e3 : S1_ → D
  | ⟨x_0, x_1, x_2, x_3, x_4⟩ => (.agg [(.int .i64 x_0), (.int .i64 x_1), (.str x_2), (.sl (E_e3_l x_3)), (.sl (E_e0_l x_4))])
def E_e3_l : List S1_ → List D
  | [] => []
  | x :: r => E_e3 x :: E_e3_l r
def E_e0 : S0_ → D
  | ⟨x_0, ⟨x_1_0, x_1_1, x_1_2, x_1_3, x_1_4⟩⟩ => (.agg [(.str x_0), (.int .i64 x_1_0), (.int .i64 x_1_1), (.str x_1_2), (.sl (E_e3_l x_1_3)), (.sl (E_e0_l x_1_4))])
def E_e0_l : List S0_ → List D
  | [] => []
  | x :: r => E_e0 x :: E_e0_l r
end
theorem E_e3_map : ∀ l, E_e3_l l = l.map E_e3
  | [] => by simp only [E_e3_l, List.map_nil]
  | x :: r => by simp only [E_e3_l, List.map_cons, E_e3_map r]
theorem E_e0_map : ∀ l, E_e0_l l = l.map E_e0
  | [] => by simp only [E_e0_l, List.map_nil]
  | x :: r => by simp only [E_e0_l, List.map_cons, E_e0_map r]
theorem he_E_e3 (x_0 x_1 : Int) (x_2 : Str) (x_3 : Ls0) (x_4 : Ls1) : E_e3 ⟨x_0, x_1, x_2, x_3, x_4⟩ = (.agg [(.int .i64 x_0), (.int .i64 x_1), (.str x_2), (.sl (List.map E_e3 x_3)), (.sl (List.map E_e0 x_4))]) := by simp only [E_e3, E_e3_map, E_e0_map]
theorem he_E_e0 (x_0 : Str) (x_1_0 x_1_1 : Int) (x_1_2 : Str) (x_1_3 : Ls0) (x_1_4 : Ls1) : E_e0 ⟨x_0, ⟨x_1_0, x_1_1, x_1_2, x_1_3, x_1_4⟩⟩ = (.agg [(.str x_0), (.int .i64 x_1_0), (.int .i64 x_1_1), (.str x_1_2), (.sl (List.map E_e3 x_1_3)), (.sl (List.map E_e0 x_1_4))]) := by simp only [E_e0, E_e3_map, E_e0_map]
theorem hz_E_e3 (l : List S1_) : allSz 5 (l.map E_e3) = true := LW.allsz E_e3 5 (fun a => by obtain ⟨_, _, _, _, _⟩ := a; rw [he_E_e3]; exact ⟨rfl, rfl⟩) l
theorem hz_E_e0 (l : List S0_) : allSz 6 (l.map E_e0) = true := LW.allsz E_e0 6 (fun a => by obtain ⟨_, ⟨_, _, _, _, _⟩⟩ := a; rw [he_E_e0]; exact ⟨rfl, rfl⟩) l
def E_e6 : Int → D := fun x => (.int .i64 x)
theorem he_E_e6 (x : Int) : E_e6 x = (.int .i64 x) := rfl
theorem hz_E_e6 (l : List Int) : allSz 1 (l.map E_e6) = true := LW.allsz E_e6 1 (fun a => ⟨rfl, rfl⟩) l
def E_e7 : Str → D := fun x => (.str x)
theorem he_E_e7 (x : Str) : E_e7 x = (.str x) := rfl
theorem hz_E_e7 (l : List Str) : allSz 1 (l.map E_e7) = true := LW.allsz E_e7 1 (fun a => ⟨rfl, rfl⟩) l
theorem HA : (∀ (x_0 x_1 : Int) (x_2 : Str) (x_3 : Ls0) (x_4 : Ls1), E_e3 ⟨x_0, x_1, x_2, x_3, x_4⟩ = (.agg [(.int .i64 x_0), (.int .i64 x_1), (.str x_2), (.sl (List.map E_e3 x_3)), (.sl (List.map E_e0 x_4))])) ∧ (∀ (x_0 : Str) (x_1_0 x_1_1 : Int) (x_1_2 : Str) (x_1_3 : Ls0) (x_1_4 : Ls1), E_e0 ⟨x_0, ⟨x_1_0, x_1_1, x_1_2, x_1_3, x_1_4⟩⟩ = (.agg [(.str x_0), (.int .i64 x_1_0), (.int .i64 x_1_1), (.str x_1_2), (.sl (List.map E_e3 x_1_3)), (.sl (List.map E_e0 x_1_4))])) ∧ (∀ (x : Int), E_e6 x = (.int .i64 x)) ∧ (∀ (x : Str), E_e7 x = (.str x)) := And.intro @he_E_e3 (And.intro @he_E_e0 (And.intro @he_E_e6 (@he_E_e7)))
theorem HZ : (∀ l, allSz 5 (List.map E_e3 l) = true) ∧ (∀ l, allSz 6 (List.map E_e0 l) = true) ∧ (∀ l, allSz 1 (List.map E_e6 l) = true) ∧ (∀ l, allSz 1 (List.map E_e7 l) = true) := And.intro @hz_E_e3 (And.intro @hz_E_e0 (And.intro @hz_E_e6 (@hz_E_e7)))
def p_zdi_0 : T_zdi_0 → Option R_zdi := (b_zdi_0 Prims.real )
theorem s_zdi_0 (m : Nat) : H_zdi_0 AT @XM E_e3 E_e0 m (p_zdi_0 ) := (o_zdi_0 LW rfl rfl HA HZ m )
def p_zdi : S1_ → Option (Bool) := fun ⟨Af, Ak, Aj, Ah, Ai⟩ => p_zdi_0 (Af, Ak, Aj, Ah, Ai)
theorem s_zdi : (C_zdi PC FC @XM E_e3 E_e0 p_zdi) := by
  intro Af Ak Aj Ah Ai _ hp stk
  exact pf_of (T := table) (G := glob) (f := 47) rfl rfl (Hd.on (s_zdi_0 (topN stk + 1) ) (Af, Ak, Aj, Ah, Ai) hp stk )
theorem s_zdj : (C_zdj PC FC p_zdj) := by
  intro _ _ _ hp stk
  exact ⟨pcall_ext (T := table) (G := glob) (f := 76) (e := ext_zdj) rfl rfl (x_zdj hp) stk, fcall_ext (T := table) (G := glob) (f := 76) (e := ext_zdj) rfl rfl (x_zdj hp) stk⟩
def p_zco_1 : T_zco_1 → Option R_zco := Prims.real.loop (b_zco_1 Prims.real p_zdj )
theorem u_zco_1 (s : T_zco_1) : p_zco_1 s = (match b_zco_1 Prims.real p_zdj s with | some (.inl t) => p_zco_1 t | some (.inr r) => some r | none => none) := (Pr.loop_eq' _ s).trans (by rcases b_zco_1 Prims.real p_zdj s with _|_|_ <;> rfl)
def p_zco_0 : T_zco_0 → Option R_zco := (b_zco_0 Prims.real p_zdj p_zco_1)
theorem s_zco_1 (m : Nat) : H_zco_1 AT m (p_zco_1 ) := loopH (o_zco_1 LW rfl rfl HA HZ p_zdj s_zdj m )
theorem s_zco_0 (m : Nat) : H_zco_0 AT m (p_zco_0 ) := (o_zco_0 LW rfl rfl HA HZ p_zdj s_zdj m (s_zco_1 m ))
def p_zco : Str → Option (Int) := fun v0 => p_zco_0 v0
theorem s_zco : (C_zco PC FC p_zco) := by
  intro v0 _ hp stk
  exact pf_of (T := table) (G := glob) (f := 69) rfl rfl (Hd.on (s_zco_0 (topN stk + 1) ) v0 hp stk )
def p_zcp_0 : T_zcp_0 → Option R_zcp := (b_zcp_0 Prims.real p_zco )
theorem s_zcp_0 (m : Nat) : H_zcp_0 AT m (p_zcp_0 ) := (o_zcp_0 LW rfl rfl HA HZ p_zco s_zco m )
def p_zcp : Str → Option (Bool) := fun v0 => p_zcp_0 v0
theorem s_zcp : (C_zcp PC FC p_zcp) := by
  intro v0 _ hp stk
  exact pf_of (T := table) (G := glob) (f := 48) rfl rfl (Hd.on (s_zcp_0 (topN stk + 1) ) v0 hp stk )
def p_zde_3 : T_zde_3 → Option (T_zde_1 ⊕ R_zde) := (b_zde_3 Prims.real p_zcp )
def p_zde_1 : T_zde_1 → Option R_zde := Prims.real.loop (b_zde_1 Prims.real p_zcp p_zde_3)
theorem u_zde_1 (s : T_zde_1) : p_zde_1 s = (match b_zde_1 Prims.real p_zcp p_zde_3 s with | some (.inl t) => p_zde_1 t | some (.inr r) => some r | none => none) := (Pr.loop_eq' _ s).trans (by rcases b_zde_1 Prims.real p_zcp p_zde_3 s with _|_|_ <;> rfl)
def p_zde_0 : T_zde_0 → Option R_zde := (b_zde_0 Prims.real p_zcp p_zde_1)
theorem s_zde_3 (m : Nat) : H_zde_3 AT @XM @XE E_e0 E_e6 m (p_zde_3 ) := (o_zde_3 LW rfl rfl HA HZ p_zcp s_zcp m )
theorem s_zde_1 (m : Nat) : H_zde_1 AT @XM @XE E_e0 E_e6 m (p_zde_1 ) := loopH (o_zde_1 LW rfl rfl HA HZ p_zcp s_zcp m (s_zde_3 m ))
theorem s_zde_0 (m : Nat) : H_zde_0 AT @XM E_e0 m (p_zde_0 ) := (o_zde_0 LW rfl rfl HA HZ p_zcp s_zcp m (s_zde_1 m ))
def p_zde : Ls1 → Option (Bool) := fun v0 => p_zde_0 v0
theorem s_zde : (C_zde PC FC @XM E_e0 p_zde) := by
  intro v0 _ hp stk
  exact pf_of (T := table) (G := glob) (f := 51) rfl rfl (Hd.on (s_zde_0 (topN stk + 1) ) v0 hp stk )
def p_zc2_0 (c_zc5 : S1_ → Int → Option (Bool)) : T_zc2_0 → Option R_zc2 := (b_zc2_0 Prims.real c_zc5 )
section
variable (m : Nat) (n0 : Nat) (k0 : Kl) (hl0 : n0 < m)
include m n0 k0 hl0
theorem s_zc2_0 (c_zc5 : S1_ → Int → Option (Bool)) (h_zc5 : (C_zc5 PC FC @XM E_e3 E_e0 c_zc5)) : H_zc2_0 AT @XM E_e3 E_e0 m n0 k0 (p_zc2_0 c_zc5 ) := (o_zc2_0 LW rfl rfl HA HZ c_zc5 h_zc5 m n0 k0 hl0 )
end
def p_zc5_0 (c_zb2 : Ls0 → Int → Option (Bool)) (c_zb0 : Ls1 → Int → Option (Bool)) : T_zc5_0 → Option R_zc5 := (b_zc5_0 Prims.real p_zdi p_zcp c_zb2 p_zde c_zb0 )
section
variable (m : Nat) (n0 : Nat) (k0 : Kl) (hl0 : n0 < m)
include m n0 k0 hl0
theorem s_zc5_0 (c_zb2 : Ls0 → Int → Option (Bool)) (c_zb0 : Ls1 → Int → Option (Bool)) (h_zb2 : (C_zb2 PC FC @XM E_e3 c_zb2)) (h_zb0 : (C_zb0 PC FC @XM E_e0 c_zb0)) : H_zc5_0 AT @XM E_e3 E_e0 m n0 k0 (p_zc5_0 c_zb2 c_zb0 ) := (o_zc5_0 LW rfl rfl HA HZ p_zdi p_zcp c_zb2 p_zde c_zb0 s_zdi s_zcp h_zb2 s_zde h_zb0 m n0 k0 hl0 )
end
def p_zb2_0 (c_zcb : Ls0 → Int → Option (Int)) : T_zb2_0 → Option R_zb2 := (b_zb2_0 Prims.real c_zcb )
section
variable (m : Nat) (n0 : Nat) (k0 : Kl) (hl0 : n0 < m)
include m n0 k0 hl0
theorem s_zb2_0 (c_zcb : Ls0 → Int → Option (Int)) (h_zcb : (C_zcb PC FC @XM E_e3 c_zcb)) : H_zb2_0 AT @XM E_e3 m n0 k0 (p_zb2_0 c_zcb ) := (o_zb2_0 LW rfl rfl HA HZ c_zcb h_zcb m n0 k0 hl0 )
end
def p_zcb_1 (c_zc2 : S1_ → Int → Option (Bool)) : T_zcb_1 → Option R_zcb := Prims.real.loop (b_zcb_1 Prims.real c_zc2 )
theorem u_zcb_1 (c_zc2 : S1_ → Int → Option (Bool)) (s : T_zcb_1) : p_zcb_1 c_zc2 s = (match b_zcb_1 Prims.real c_zc2 s with | some (.inl t) => p_zcb_1 c_zc2 t | some (.inr r) => some r | none => none) := (Pr.loop_eq' _ s).trans (by rcases b_zcb_1 Prims.real c_zc2 s with _|_|_ <;> rfl)
def p_zcb_0 (c_zc2 : S1_ → Int → Option (Bool)) : T_zcb_0 → Option R_zcb := (b_zcb_0 Prims.real c_zc2 (p_zcb_1 c_zc2 ))
section
variable (m : Nat) (n0 : Nat) (k0 : Kl) (hl0 : n0 < m)
include m n0 k0 hl0
theorem s_zcb_1 (c_zc2 : S1_ → Int → Option (Bool)) (h_zc2 : (C_zc2 PC FC @XM E_e3 E_e0 c_zc2)) : H_zcb_1 AT @XM E_e3 m n0 k0 (p_zcb_1 c_zc2 ) := loopS (o_zcb_1 LW rfl rfl HA HZ c_zc2 h_zc2 m n0 k0 hl0 )
theorem s_zcb_0 (c_zc2 : S1_ → Int → Option (Bool)) (h_zc2 : (C_zc2 PC FC @XM E_e3 E_e0 c_zc2)) : H_zcb_0 AT @XM E_e3 m n0 k0 (p_zcb_0 c_zc2 ) := (o_zcb_0 LW rfl rfl HA HZ c_zc2 h_zc2 m n0 k0 hl0 (s_zcb_1 m n0 k0 hl0 c_zc2 h_zc2 ))
end
def p_zb0_0 (c_zb9 : Ls1 → Int → Option (Int)) : T_zb0_0 → Option R_zb0 := (b_zb0_0 Prims.real c_zb9 )
section
variable (m : Nat) (n0 : Nat) (k0 : Kl) (hl0 : n0 < m)
include m n0 k0 hl0
theorem s_zb0_0 (c_zb9 : Ls1 → Int → Option (Int)) (h_zb9 : (C_zb9 PC FC @XM E_e0 c_zb9)) : H_zb0_0 AT @XM E_e0 m n0 k0 (p_zb0_0 c_zb9 ) := (o_zb0_0 LW rfl rfl HA HZ c_zb9 h_zb9 m n0 k0 hl0 )
end
def p_zb9_1 (c_zc4 : S0_ → Int → Option (Bool)) : T_zb9_1 → Option R_zb9 := Prims.real.loop (b_zb9_1 Prims.real c_zc4 )
theorem u_zb9_1 (c_zc4 : S0_ → Int → Option (Bool)) (s : T_zb9_1) : p_zb9_1 c_zc4 s = (match b_zb9_1 Prims.real c_zc4 s with | some (.inl t) => p_zb9_1 c_zc4 t | some (.inr r) => some r | none => none) := (Pr.loop_eq' _ s).trans (by rcases b_zb9_1 Prims.real c_zc4 s with _|_|_ <;> rfl)
def p_zb9_0 (c_zc4 : S0_ → Int → Option (Bool)) : T_zb9_0 → Option R_zb9 := (b_zb9_0 Prims.real c_zc4 (p_zb9_1 c_zc4 ))
section
variable (m : Nat) (n0 : Nat) (k0 : Kl) (hl0 : n0 < m)
include m n0 k0 hl0
theorem s_zb9_1 (c_zc4 : S0_ → Int → Option (Bool)) (h_zc4 : (C_zc4 PC FC @XM E_e3 E_e0 c_zc4)) : H_zb9_1 AT @XM E_e0 m n0 k0 (p_zb9_1 c_zc4 ) := loopS (o_zb9_1 LW rfl rfl HA HZ c_zc4 h_zc4 m n0 k0 hl0 )
theorem s_zb9_0 (c_zc4 : S0_ → Int → Option (Bool)) (h_zc4 : (C_zc4 PC FC @XM E_e3 E_e0 c_zc4)) : H_zb9_0 AT @XM E_e0 m n0 k0 (p_zb9_0 c_zc4 ) := (o_zb9_0 LW rfl rfl HA HZ c_zc4 h_zc4 m n0 k0 hl0 (s_zb9_1 m n0 k0 hl0 c_zc4 h_zc4 ))
end
def p_zc4_0 (c_zc5 : S1_ → Int → Option (Bool)) : T_zc4_0 → Option R_zc4 := (b_zc4_0 Prims.real c_zc5 )
section
variable (m : Nat) (n0 : Nat) (k0 : Kl) (hl0 : n0 < m)
include m n0 k0 hl0
theorem s_zc4_0 (c_zc5 : S1_ → Int → Option (Bool)) (h_zc5 : (C_zc5 PC FC @XM E_e3 E_e0 c_zc5)) : H_zc4_0 AT @XM E_e3 E_e0 m n0 k0 (p_zc4_0 c_zc5 ) := (o_zc4_0 LW rfl rfl HA HZ c_zc5 h_zc5 m n0 k0 hl0 )
end
def pk_zc2 : Nat → (S1_ → Int → Option (Bool)) × (S1_ → Int → Option (Bool)) × (Ls0 → Int → Option (Bool)) × (Ls0 → Int → Option (Int)) × (Ls1 → Int → Option (Bool)) × (Ls1 → Int → Option (Int)) × (S0_ → Int → Option (Bool))
  | 0 => (fun _ _ => none, fun _ _ => none, fun _ _ => none, fun _ _ => none, fun _ _ => none, fun _ _ => none, fun _ _ => none)
  | k + 1 => (fun ⟨Af, Ak, Aj, Ah, Ai⟩ A1 => p_zc2_0 ((pk_zc2 k).2.1) (Af, Ak, Aj, Ah, Ai, A1), fun ⟨Af, Ak, Aj, Ah, Ai⟩ v1 => p_zc5_0 ((pk_zc2 k).2.2.1) ((pk_zc2 k).2.2.2.2.1) (Af, Ak, Aj, Ah, Ai, v1), fun v0 Az => p_zb2_0 ((pk_zc2 k).2.2.2.1) (v0, Az), fun v0 Az => p_zcb_0 ((pk_zc2 k).1) (v0, Az), fun v0 Az => p_zb0_0 ((pk_zc2 k).2.2.2.2.2.1) (v0, Az), fun v0 Az => p_zb9_0 ((pk_zc2 k).2.2.2.2.2.2) (v0, Az), fun ⟨Af, ⟨A6, A7, A8, A9, Ba⟩⟩ A1 => p_zc4_0 ((pk_zc2 k).2.1) (Af, A6, A7, A8, A9, Ba, A1))
theorem sk_zc2 : ∀ k, ((C_zc2 PC FC @XM E_e3 E_e0 ((pk_zc2 k).1))) ∧ ((C_zc5 PC FC @XM E_e3 E_e0 ((pk_zc2 k).2.1))) ∧ ((C_zb2 PC FC @XM E_e3 ((pk_zc2 k).2.2.1))) ∧ ((C_zcb PC FC @XM E_e3 ((pk_zc2 k).2.2.2.1))) ∧ ((C_zb0 PC FC @XM E_e0 ((pk_zc2 k).2.2.2.2.1))) ∧ ((C_zb9 PC FC @XM E_e0 ((pk_zc2 k).2.2.2.2.2.1))) ∧ ((C_zc4 PC FC @XM E_e3 E_e0 ((pk_zc2 k).2.2.2.2.2.2))) ∧ True
  | 0 => by
    refine ⟨?_, ?_, ?_, ?_, ?_, ?_, ?_, trivial⟩
    · intro _ _ _ _ _ _ _ hp; exact nomatch (show none = some _ from hp)
    · intro _ _ _ _ _ _ _ hp; exact nomatch (show none = some _ from hp)
    · intro _ _ _ hp; exact nomatch (show none = some _ from hp)
    · intro _ _ _ hp; exact nomatch (show none = some _ from hp)
    · intro _ _ _ hp; exact nomatch (show none = some _ from hp)
    · intro _ _ _ hp; exact nomatch (show none = some _ from hp)
    · intro _ _ _ _ _ _ _ _ hp; exact nomatch (show none = some _ from hp)
  | k + 1 => by
    obtain ⟨ih0, ih1, ih2, ih3, ih4, ih5, ih6, _⟩ := sk_zc2 k
    refine ⟨?_, ?_, ?_, ?_, ?_, ?_, ?_, trivial⟩
    · intro Af Ak Aj Ah Ai A1 _ hp stk n0 k0 hg0 hl0
      exact pf_of (T := table) (G := glob) (f := 50) rfl rfl (HdS.on (s_zc2_0 (topN stk + 1) n0 k0 (Nat.lt_succ_of_le hl0) ((pk_zc2 k).2.1) ih1 ) (Af, Ak, Aj, Ah, Ai, A1) hp stk ⟨hg0, trivial⟩)
    · intro Af Ak Aj Ah Ai v1 _ hp stk n0 k0 hg0 hl0
      exact pf_of (T := table) (G := glob) (f := 46) rfl rfl (HdS.on (s_zc5_0 (topN stk + 1) n0 k0 (Nat.lt_succ_of_le hl0) ((pk_zc2 k).2.2.1) ((pk_zc2 k).2.2.2.2.1) ih2 ih4 ) (Af, Ak, Aj, Ah, Ai, v1) hp stk ⟨hg0, trivial⟩)
    · intro v0 Az _ hp stk n0 k0 hg0 hl0
      exact pf_of (T := table) (G := glob) (f := 49) rfl rfl (HdS.on (s_zb2_0 (topN stk + 1) n0 k0 (Nat.lt_succ_of_le hl0) ((pk_zc2 k).2.2.2.1) ih3 ) (v0, Az) hp stk ⟨hg0, trivial⟩)
    · intro v0 Az _ hp stk n0 k0 hg0 hl0
      exact pf_of (T := table) (G := glob) (f := 70) rfl rfl (HdS.on (s_zcb_0 (topN stk + 1) n0 k0 (Nat.lt_succ_of_le hl0) ((pk_zc2 k).1) ih0 ) (v0, Az) hp stk ⟨hg0, trivial⟩)
    · intro v0 Az _ hp stk n0 k0 hg0 hl0
      exact pf_of (T := table) (G := glob) (f := 52) rfl rfl (HdS.on (s_zb0_0 (topN stk + 1) n0 k0 (Nat.lt_succ_of_le hl0) ((pk_zc2 k).2.2.2.2.2.1) ih5 ) (v0, Az) hp stk ⟨hg0, trivial⟩)
    · intro v0 Az _ hp stk n0 k0 hg0 hl0
      exact pf_of (T := table) (G := glob) (f := 57) rfl rfl (HdS.on (s_zb9_0 (topN stk + 1) n0 k0 (Nat.lt_succ_of_le hl0) ((pk_zc2 k).2.2.2.2.2.2) ih6 ) (v0, Az) hp stk ⟨hg0, trivial⟩)
    · intro Af A6 A7 A8 A9 Ba A1 _ hp stk n0 k0 hg0 hl0
      exact pf_of (T := table) (G := glob) (f := 53) rfl rfl (HdS.on (s_zc4_0 (topN stk + 1) n0 k0 (Nat.lt_succ_of_le hl0) ((pk_zc2 k).2.1) ih1 ) (Af, A6, A7, A8, A9, Ba, A1) hp stk ⟨hg0, trivial⟩)
def p_zc5 : S1_ → Int → Option (Bool) := (pk_zc2 1000000).2.1
theorem s_zc5 : (C_zc5 PC FC @XM E_e3 E_e0 p_zc5) := (sk_zc2 1000000).2.1
def p_zcz_0 : T_zcz_0 → Option R_zcz := (b_zcz_0 Prims.real p_zc5 )
theorem s_zcz_0 (m : Nat) : H_zcz_0 AT @XM E_e3 E_e0 m (p_zcz_0 ) := (o_zcz_0 LW rfl rfl HA HZ p_zc5 s_zc5 m )
def p_zcz : S1_ → Option (Bool) := fun ⟨Af, Ak, Aj, Ah, Ai⟩ => p_zcz_0 (Af, Ak, Aj, Ah, Ai)
theorem s_zcz : (C_zcz PC FC @XM E_e3 E_e0 p_zcz) := by
  intro Af Ak Aj Ah Ai _ hp stk
  exact pf_of (T := table) (G := glob) (f := 17) rfl rfl (Hd.on (s_zcz_0 (topN stk + 1) ) (Af, Ak, Aj, Ah, Ai) hp stk )
def p_zdc_5 (c_zdc : S1_ → Option (Int)) : T_zdc_5 → Option R_zdc := Prims.real.loop (b_zdc_5 Prims.real c_zdc )
theorem u_zdc_5 (c_zdc : S1_ → Option (Int)) (s : T_zdc_5) : p_zdc_5 c_zdc s = (match b_zdc_5 Prims.real c_zdc s with | some (.inl t) => p_zdc_5 c_zdc t | some (.inr r) => some r | none => none) := (Pr.loop_eq' _ s).trans (by rcases b_zdc_5 Prims.real c_zdc s with _|_|_ <;> rfl)
def p_zdc_1 (c_zdc : S1_ → Option (Int)) : T_zdc_1 → Option R_zdc := Prims.real.loop (b_zdc_1 Prims.real c_zdc (p_zdc_5 c_zdc ))
theorem u_zdc_1 (c_zdc : S1_ → Option (Int)) (s : T_zdc_1) : p_zdc_1 c_zdc s = (match b_zdc_1 Prims.real c_zdc (p_zdc_5 c_zdc ) s with | some (.inl t) => p_zdc_1 c_zdc t | some (.inr r) => some r | none => none) := (Pr.loop_eq' _ s).trans (by rcases b_zdc_1 Prims.real c_zdc (p_zdc_5 c_zdc ) s with _|_|_ <;> rfl)
def p_zdc_0 (c_zdc : S1_ → Option (Int)) : T_zdc_0 → Option R_zdc := (b_zdc_0 Prims.real c_zdc (p_zdc_1 c_zdc ))
theorem s_zdc_5 (c_zdc : S1_ → Option (Int)) (h_zdc : (C_zdc PC FC @XM E_e3 E_e0 c_zdc)) (m : Nat) : H_zdc_5 AT @XM E_e0 m (p_zdc_5 c_zdc ) := loopH (o_zdc_5 LW rfl rfl HA HZ c_zdc h_zdc m )
theorem s_zdc_1 (c_zdc : S1_ → Option (Int)) (h_zdc : (C_zdc PC FC @XM E_e3 E_e0 c_zdc)) (m : Nat) : H_zdc_1 AT @XM E_e3 E_e0 m (p_zdc_1 c_zdc ) := loopH (o_zdc_1 LW rfl rfl HA HZ c_zdc h_zdc m (s_zdc_5 c_zdc h_zdc m ))
theorem s_zdc_0 (c_zdc : S1_ → Option (Int)) (h_zdc : (C_zdc PC FC @XM E_e3 E_e0 c_zdc)) (m : Nat) : H_zdc_0 AT @XM E_e3 E_e0 m (p_zdc_0 c_zdc ) := (o_zdc_0 LW rfl rfl HA HZ c_zdc h_zdc m (s_zdc_1 c_zdc h_zdc m ))
def pk_zdc : Nat → (S1_ → Option (Int))
  | 0 => fun _ => none
  | k + 1 => fun ⟨Af, Ak, Aj, Ah, Ai⟩ => p_zdc_0 ((pk_zdc k)) (Af, Ak, Aj, Ah, Ai)
theorem sk_zdc : ∀ k, ((C_zdc PC FC @XM E_e3 E_e0 ((pk_zdc k)))) ∧ True
  | 0 => by
    refine ⟨?_, trivial⟩
    · intro _ _ _ _ _ _ hp; exact nomatch (show none = some _ from hp)
  | k + 1 => by
    obtain ⟨ih0, _⟩ := sk_zdc k
    refine ⟨?_, trivial⟩
    · intro Af Ak Aj Ah Ai _ hp stk
      exact pf_of (T := table) (G := glob) (f := 54) rfl rfl (Hd.on (s_zdc_0 ((pk_zdc k)) ih0 (topN stk + 1) ) (Af, Ak, Aj, Ah, Ai) hp stk )
def p_zdc : S1_ → Option (Int) := (pk_zdc 1000000)
theorem s_zdc : (C_zdc PC FC @XM E_e3 E_e0 p_zdc) := (sk_zdc 1000000).1
def p_zcs_0 : T_zcs_0 → Option R_zcs := (b_zcs_0 Prims.real p_zcz p_zdc )
theorem s_zcs_0 (m : Nat) : H_zcs_0 AT @XM E_e3 E_e0 m (p_zcs_0 ) := (o_zcs_0 LW rfl rfl HA HZ p_zcz p_zdc s_zcz s_zdc m )
def p_zcs : S1_ → Option (Int) := fun ⟨Af, Ak, Aj, Ah, Ai⟩ => p_zcs_0 (Af, Ak, Aj, Ah, Ai)
theorem s_zcs : (C_zcs PC FC @XM E_e3 E_e0 p_zcs) := by
  intro Af Ak Aj Ah Ai _ hp stk
  exact pf_of (T := table) (G := glob) (f := 18) rfl rfl (Hd.on (s_zcs_0 (topN stk + 1) ) (Af, Ak, Aj, Ah, Ai) hp stk )
def p_zg_0 : T_zg_0 → Option R_zg := (b_zg_0 Prims.real p_zcz p_zcs )
theorem s_zg_0 (m : Nat) : H_zg_0 AT m (p_zg_0 ) := (o_zg_0 LW rfl rfl HA HZ p_zcz p_zcs s_zcz s_zcs m )
def p_zg : Option (Bool) := p_zg_0 ()
theorem s_zg : (C_zg PC FC p_zg) := by
  intro _ hp stk
  exact pf_of (T := table) (G := glob) (f := 12) rfl rfl (Hd.on (s_zg_0 (topN stk + 1) ) () hp stk )
def p_z1_10 (c_z1 : S1_ → Int → Option (Int)) : T_z1_10 → Option R_z1 := (b_z1_10 Prims.real c_z1 )
def p_z1_6 (c_z1 : S1_ → Int → Option (Int)) : T_z1_6 → Option R_z1 := Prims.real.loop (b_z1_6 Prims.real c_z1 (p_z1_10 c_z1 ))
theorem u_z1_6 (c_z1 : S1_ → Int → Option (Int)) (s : T_z1_6) : p_z1_6 c_z1 s = (match b_z1_6 Prims.real c_z1 (p_z1_10 c_z1 ) s with | some (.inl t) => p_z1_6 c_z1 t | some (.inr r) => some r | none => none) := (Pr.loop_eq' _ s).trans (by rcases b_z1_6 Prims.real c_z1 (p_z1_10 c_z1 ) s with _|_|_ <;> rfl)
def p_z1_5 (c_z1 : S1_ → Int → Option (Int)) : T_z1_5 → Option R_z1 := (b_z1_5 Prims.real c_z1 (p_z1_6 c_z1 ))
def p_z1_2 (c_z1 : S1_ → Int → Option (Int)) : T_z1_2 → Option R_z1 := Prims.real.loop (b_z1_2 Prims.real c_z1 (p_z1_5 c_z1 ))
theorem u_z1_2 (c_z1 : S1_ → Int → Option (Int)) (s : T_z1_2) : p_z1_2 c_z1 s = (match b_z1_2 Prims.real c_z1 (p_z1_5 c_z1 ) s with | some (.inl t) => p_z1_2 c_z1 t | some (.inr r) => some r | none => none) := (Pr.loop_eq' _ s).trans (by rcases b_z1_2 Prims.real c_z1 (p_z1_5 c_z1 ) s with _|_|_ <;> rfl)
def p_z1_0 (c_z1 : S1_ → Int → Option (Int)) : T_z1_0 → Option R_z1 := (b_z1_0 Prims.real c_z1 (p_z1_2 c_z1 ))
theorem s_z1_10 (c_z1 : S1_ → Int → Option (Int)) (h_z1 : (C_z1 PC FC @XM E_e3 E_e0 c_z1)) (m : Nat) : H_z1_10 AT m (p_z1_10 c_z1 ) := (o_z1_10 LW rfl rfl HA HZ c_z1 h_z1 m )
theorem s_z1_6 (c_z1 : S1_ → Int → Option (Int)) (h_z1 : (C_z1 PC FC @XM E_e3 E_e0 c_z1)) (m : Nat) : H_z1_6 AT @XM E_e3 E_e0 m (p_z1_6 c_z1 ) := loopH (o_z1_6 LW rfl rfl HA HZ c_z1 h_z1 m (s_z1_10 c_z1 h_z1 m ))
theorem s_z1_5 (c_z1 : S1_ → Int → Option (Int)) (h_z1 : (C_z1 PC FC @XM E_e3 E_e0 c_z1)) (m : Nat) : H_z1_5 AT @XM E_e3 E_e0 m (p_z1_5 c_z1 ) := (o_z1_5 LW rfl rfl HA HZ c_z1 h_z1 m (s_z1_6 c_z1 h_z1 m ))
theorem s_z1_2 (c_z1 : S1_ → Int → Option (Int)) (h_z1 : (C_z1 PC FC @XM E_e3 E_e0 c_z1)) (m : Nat) : H_z1_2 AT @XM E_e3 E_e0 m (p_z1_2 c_z1 ) := loopH (o_z1_2 LW rfl rfl HA HZ c_z1 h_z1 m (s_z1_5 c_z1 h_z1 m ))
theorem s_z1_0 (c_z1 : S1_ → Int → Option (Int)) (h_z1 : (C_z1 PC FC @XM E_e3 E_e0 c_z1)) (m : Nat) : H_z1_0 AT @XM E_e3 E_e0 m (p_z1_0 c_z1 ) := (o_z1_0 LW rfl rfl HA HZ c_z1 h_z1 m (s_z1_2 c_z1 h_z1 m ))
def pk_z1 : Nat → (S1_ → Int → Option (Int))
  | 0 => fun _ _ => none
  | k + 1 => fun ⟨Af, Ak, Aj, Ah, Ai⟩ v1 => p_z1_0 ((pk_z1 k)) (Af, Ak, Aj, Ah, Ai, v1)
theorem sk_z1 : ∀ k, ((C_z1 PC FC @XM E_e3 E_e0 ((pk_z1 k)))) ∧ True
  | 0 => by
    refine ⟨?_, trivial⟩
    · intro _ _ _ _ _ _ _ hp; exact nomatch (show none = some _ from hp)
  | k + 1 => by
    obtain ⟨ih0, _⟩ := sk_z1 k
    refine ⟨?_, trivial⟩
    · intro Af Ak Aj Ah Ai v1 _ hp stk
      exact pf_of (T := table) (G := glob) (f := 43) rfl rfl (Hd.on (s_z1_0 ((pk_z1 k)) ih0 (topN stk + 1) ) (Af, Ak, Aj, Ah, Ai, v1) hp stk )
def p_z1 : S1_ → Int → Option (Int) := (pk_z1 1000000)
theorem s_z1 : (C_z1 PC FC @XM E_e3 E_e0 p_z1) := (sk_z1 1000000).1
def p_zv_0 : T_zv_0 → Option R_zv := (b_zv_0 Prims.real p_z1 )
theorem s_zv_0 (m : Nat) : H_zv_0 AT @XM E_e3 E_e0 m (p_zv_0 ) := (o_zv_0 LW rfl rfl HA HZ p_z1 s_z1 m )
def p_zv : S1_ → Int → Option (Bool) := fun ⟨Af, Ak, Aj, Ah, Ai⟩ v1 => p_zv_0 (Af, Ak, Aj, Ah, Ai, v1)
theorem s_zv : (C_zv PC FC @XM E_e3 E_e0 p_zv) := by
  intro Af Ak Aj Ah Ai v1 _ hp stk
  exact pf_of (T := table) (G := glob) (f := 13) rfl rfl (Hd.on (s_zv_0 (topN stk + 1) ) (Af, Ak, Aj, Ah, Ai, v1) hp stk )
def p_zh_4 : T_zh_4 → Option R_zh := (b_zh_4 Prims.real )
def p_zh_1 : T_zh_1 → Option R_zh := Prims.real.loop (b_zh_1 Prims.real p_zh_4)
theorem u_zh_1 (s : T_zh_1) : p_zh_1 s = (match b_zh_1 Prims.real p_zh_4 s with | some (.inl t) => p_zh_1 t | some (.inr r) => some r | none => none) := (Pr.loop_eq' _ s).trans (by rcases b_zh_1 Prims.real p_zh_4 s with _|_|_ <;> rfl)
def p_zh_0 : T_zh_0 → Option R_zh := (b_zh_0 Prims.real p_zh_1)
theorem s_zh_4 (m : Nat) : H_zh_4 AT @XM E_e7 m (p_zh_4 ) := (o_zh_4 LW rfl rfl HA HZ m )
theorem s_zh_1 (m : Nat) : H_zh_1 AT @XM E_e7 m (p_zh_1 ) := loopH (o_zh_1 LW rfl rfl HA HZ m (s_zh_4 m ))
theorem s_zh_0 (m : Nat) : H_zh_0 AT @XM E_e7 m (p_zh_0 ) := (o_zh_0 LW rfl rfl HA HZ m (s_zh_1 m ))
def p_zh : Ss → Option (Bool) := fun v0 => p_zh_0 v0
theorem s_zh : (C_zh PC FC @XM E_e7 p_zh) := by
  intro v0 _ hp stk
  exact pf_of (T := table) (G := glob) (f := 40) rfl rfl (Hd.on (s_zh_0 (topN stk + 1) ) v0 hp stk )
def p_zdf_0 : T_zdf_0 → Option R_zdf := (b_zdf_0 Prims.real p_zcz )
theorem s_zdf_0 (m : Nat) : H_zdf_0 AT @XM E_e3 E_e0 m (p_zdf_0 ) := (o_zdf_0 LW rfl rfl HA HZ p_zcz s_zcz m )
def p_zdf : S1_ → Option (Bool) := fun ⟨Af, Ak, Aj, Ah, Ai⟩ => p_zdf_0 (Af, Ak, Aj, Ah, Ai)
theorem s_zdf : (C_zdf PC FC @XM E_e3 E_e0 p_zdf) := by
  intro Af Ak Aj Ah Ai _ hp stk
  exact pf_of (T := table) (G := glob) (f := 56) rfl rfl (Hd.on (s_zdf_0 (topN stk + 1) ) (Af, Ak, Aj, Ah, Ai) hp stk )
def p_zda_5 (c_zda : S1_ → Option (S1_)) : T_zda_5 → Option R_zda := Prims.real.loop (b_zda_5 Prims.real c_zda )
theorem u_zda_5 (c_zda : S1_ → Option (S1_)) (s : T_zda_5) : p_zda_5 c_zda s = (match b_zda_5 Prims.real c_zda s with | some (.inl t) => p_zda_5 c_zda t | some (.inr r) => some r | none => none) := (Pr.loop_eq' _ s).trans (by rcases b_zda_5 Prims.real c_zda s with _|_|_ <;> rfl)
def p_zda_1 (c_zda : S1_ → Option (S1_)) : T_zda_1 → Option R_zda := Prims.real.loop (b_zda_1 Prims.real c_zda (p_zda_5 c_zda ))
theorem u_zda_1 (c_zda : S1_ → Option (S1_)) (s : T_zda_1) : p_zda_1 c_zda s = (match b_zda_1 Prims.real c_zda (p_zda_5 c_zda ) s with | some (.inl t) => p_zda_1 c_zda t | some (.inr r) => some r | none => none) := (Pr.loop_eq' _ s).trans (by rcases b_zda_1 Prims.real c_zda (p_zda_5 c_zda ) s with _|_|_ <;> rfl)
def p_zda_0 (c_zda : S1_ → Option (S1_)) : T_zda_0 → Option R_zda := (b_zda_0 Prims.real c_zda (p_zda_1 c_zda ))
theorem s_zda_5 (c_zda : S1_ → Option (S1_)) (h_zda : (C_zda PC FC @XM E_e3 E_e0 c_zda)) (m : Nat) : H_zda_5 AT @XM List.length E_e3 E_e0 m (p_zda_5 c_zda ) := loopH (o_zda_5 LW rfl rfl HA HZ c_zda h_zda m )
theorem s_zda_1 (c_zda : S1_ → Option (S1_)) (h_zda : (C_zda PC FC @XM E_e3 E_e0 c_zda)) (m : Nat) : H_zda_1 AT @XM List.length E_e3 E_e0 m (p_zda_1 c_zda ) := loopH (o_zda_1 LW rfl rfl HA HZ c_zda h_zda m (s_zda_5 c_zda h_zda m ))
theorem s_zda_0 (c_zda : S1_ → Option (S1_)) (h_zda : (C_zda PC FC @XM E_e3 E_e0 c_zda)) (m : Nat) : H_zda_0 AT @XM E_e3 E_e0 m (p_zda_0 c_zda ) := (o_zda_0 LW rfl rfl HA HZ c_zda h_zda m (s_zda_1 c_zda h_zda m ))
def pk_zda : Nat → (S1_ → Option (S1_))
  | 0 => fun _ => none
  | k + 1 => fun ⟨Af, Ak, Aj, Ah, Ai⟩ => p_zda_0 ((pk_zda k)) (Af, Ak, Aj, Ah, Ai)
theorem sk_zda : ∀ k, ((C_zda PC FC @XM E_e3 E_e0 ((pk_zda k)))) ∧ True
  | 0 => by
    refine ⟨?_, trivial⟩
    · intro _ _ _ _ _ _ _ _ _ _ hp; exact nomatch (show none = some _ from hp)
  | k + 1 => by
    obtain ⟨ih0, _⟩ := sk_zda k
    refine ⟨?_, trivial⟩
    · intro Af Ak Aj Ah Ai _ _ _ _ _ hp stk
      exact pf_of (T := table) (G := glob) (f := 45) rfl rfl (Hd.on (s_zda_0 ((pk_zda k)) ih0 (topN stk + 1) ) (Af, Ak, Aj, Ah, Ai) hp stk )
def p_zda : S1_ → Option (S1_) := (pk_zda 1000000)
theorem s_zda : (C_zda PC FC @XM E_e3 E_e0 p_zda) := (sk_zda 1000000).1
def p_zdb_5 : T_zdb_5 → Option R_zdb := Prims.real.loop (b_zdb_5 Prims.real p_zda )
theorem u_zdb_5 (s : T_zdb_5) : p_zdb_5 s = (match b_zdb_5 Prims.real p_zda s with | some (.inl t) => p_zdb_5 t | some (.inr r) => some r | none => none) := (Pr.loop_eq' _ s).trans (by rcases b_zdb_5 Prims.real p_zda s with _|_|_ <;> rfl)
def p_zdb_1 : T_zdb_1 → Option R_zdb := Prims.real.loop (b_zdb_1 Prims.real p_zda p_zdb_5)
theorem u_zdb_1 (s : T_zdb_1) : p_zdb_1 s = (match b_zdb_1 Prims.real p_zda p_zdb_5 s with | some (.inl t) => p_zdb_1 t | some (.inr r) => some r | none => none) := (Pr.loop_eq' _ s).trans (by rcases b_zdb_1 Prims.real p_zda p_zdb_5 s with _|_|_ <;> rfl)
def p_zdb_0 : T_zdb_0 → Option R_zdb := (b_zdb_0 Prims.real p_zda p_zdb_1)
theorem s_zdb_5 (m : Nat) : H_zdb_5 AT @XM List.length E_e3 E_e0 m (p_zdb_5 ) := loopH (o_zdb_5 LW rfl rfl HA HZ p_zda s_zda m )
theorem s_zdb_1 (m : Nat) : H_zdb_1 AT @XM List.length E_e3 E_e0 m (p_zdb_1 ) := loopH (o_zdb_1 LW rfl rfl HA HZ p_zda s_zda m (s_zdb_5 m ))
theorem s_zdb_0 (m : Nat) : H_zdb_0 AT @XM List.length E_e3 E_e0 m (p_zdb_0 ) := (o_zdb_0 LW rfl rfl HA HZ p_zda s_zda m (s_zdb_1 m ))
def p_zdb : S1_ → Option (Int × Int × Str × Nat × Ls0 × Nat × Ls1) := fun ⟨Af, Ak, Aj, Ah, Ai⟩ => p_zdb_0 (Af, Ak, Aj, Ah, Ai)
theorem s_zdb : (C_zdb KC_ @XM List.length E_e3 E_e0 p_zdb) := by
  intro Af Ak Aj Ah Ai _ _ _ _ _ _ _ hp stk
  intro m hm
  subst hm
  exact kcall_of (T := table) (G := glob) (f := 45) (ks := [[3, 3], [3, 4]]) rfl rfl (Hd.on (s_zdb_0 (topN stk + 1) ) (Af, Ak, Aj, Ah, Ai) hp stk )
def p_zcw_0 (Cp : Nat) (L1 : Mi) : T_zcw_0 → Option R_zcw := (b_zcw_0 Prims.real Cp L1 )
section
variable (m : Nat) (n0 n1 : Nat) (k0 k1 : Kl) (hl0 : n0 < m) (hl1 : n1 < m) (Al : NE n0 k0 n1 k1)
include m n0 n1 k0 k1 hl0 hl1 Al
theorem s_zcw_0 (Cp : Nat) (L1 : Mi) : H_zcw_0 AT @XM @XE E_e3 E_e0 E_e6 E_e7 m n0 n1 k0 k1 Cp L1 (p_zcw_0 Cp L1) := (o_zcw_0 LW rfl rfl HA HZ m n0 n1 k0 k1 Cp L1 hl0 hl1 Al )
end
def p_zcw : S0_ → Ss → Nat → Mi → Option (Int) := fun ⟨Af, ⟨A6, A7, A8, A9, Ba⟩⟩ A1 Cp L1 => p_zcw_0 Cp L1 (Af, A6, A7, A8, A9, Ba, A1)
theorem s_zcw : (C_zcw PC FC @XM @XE E_e3 E_e0 E_e6 E_e7 p_zcw) := by
  intro Af A6 A7 A8 A9 Ba A1 Cp L1 _ hp stk n0 k0 n1 k1 hg0 hg1 hl0 hl1 Al
  exact pf_of (T := table) (G := glob) (f := 66) rfl rfl (HdS.on (s_zcw_0 (topN stk + 1) n0 n1 k0 k1 (Nat.lt_succ_of_le hl0) (Nat.lt_succ_of_le hl1) Al Cp L1) (Af, A6, A7, A8, A9, Ba, A1) hp stk ⟨hg0, hg1, trivial⟩)
def p_zcy_0 (Bc : Ss) (Cc : Nat) (L2 : Mi) : T_zcy_0 → Option R_zcy := (b_zcy_0 Prims.real p_zcw Bc Cc L2 )
section
variable (m : Nat) (n0 n1 n2 : Nat) (k0 k1 k2 : Kl) (hl0 : n0 < m) (hl1 : n1 < m) (hl2 : n2 < m) (Al : NE n0 k0 n1 k1) (Ao : NE n0 k0 n2 k2) (Ar : NE n1 k1 n2 k2)
include m n0 n1 n2 k0 k1 k2 hl0 hl1 hl2 Al Ao Ar
theorem s_zcy_0 (Bc : Ss) (Cc : Nat) (L2 : Mi) : H_zcy_0 AT @XM @XE E_e3 E_e0 E_e6 E_e7 m n0 n1 n2 k0 k1 k2 Bc Cc L2 (p_zcy_0 Bc Cc L2) := (o_zcy_0 LW rfl rfl HA HZ p_zcw s_zcw m n0 n1 n2 k0 k1 k2 Bc Cc L2 hl0 hl1 hl2 Al Ao Ar )
end
def p_zcy : S0_ → S0_ → Ss → Nat → Mi → Option (Int) := fun ⟨Af, ⟨A6, A7, A8, A9, Ba⟩⟩ ⟨A3, ⟨Bl, Bm, Bn, Bo, Bp⟩⟩ Bc Cc L2 => p_zcy_0 Bc Cc L2 (Af, A6, A7, A8, A9, Ba, A3, Bl, Bm, Bn, Bo, Bp)
theorem s_zcy : (C_zcy PC FC @XM @XE E_e3 E_e0 E_e6 E_e7 p_zcy) := by
  intro Af A6 A7 A8 A9 Ba A3 Bl Bm Bn Bo Bp Bc Cc L2 _ hp stk n0 k0 n1 k1 n2 k2 hg0 hg1 hg2 hl0 hl1 hl2 Al Ao Ar
  exact pf_of (T := table) (G := glob) (f := 68) rfl rfl (HdS.on (s_zcy_0 (topN stk + 1) n0 n1 n2 k0 k1 k2 (Nat.lt_succ_of_le hl0) (Nat.lt_succ_of_le hl1) (Nat.lt_succ_of_le hl2) Al Ao Ar Bc Cc L2) (Af, A6, A7, A8, A9, Ba, A3, Bl, Bm, Bn, Bo, Bp) hp stk ⟨hg0, hg1, hg2, trivial⟩)
def p_zcf_6 (Ad : Nat) (Aa : Ss) (Ae : Nat) (L3 : Mi) : T_zcf_6 → Option (T_zcf_1 ⊕ R_zcf) := (b_zcf_6 Prims.real p_zcy Ad Aa Ae L3 )
def p_zcf_3 (Ad : Nat) (Aa : Ss) (Ae : Nat) (L3 : Mi) : T_zcf_3 → Option (T_zcf_1 ⊕ R_zcf) := Prims.real.loop (b_zcf_3 Prims.real p_zcy Ad Aa Ae L3 (p_zcf_6 Ad Aa Ae L3))
theorem u_zcf_3 (Ad : Nat) (Aa : Ss) (Ae : Nat) (L3 : Mi) (s : T_zcf_3) : p_zcf_3 Ad Aa Ae L3 s = (match b_zcf_3 Prims.real p_zcy Ad Aa Ae L3 (p_zcf_6 Ad Aa Ae L3) s with | some (.inl t) => p_zcf_3 Ad Aa Ae L3 t | some (.inr r) => some r | none => none) := (Pr.loop_eq' _ s).trans (by rcases b_zcf_3 Prims.real p_zcy Ad Aa Ae L3 (p_zcf_6 Ad Aa Ae L3) s with _|_|_ <;> rfl)
def p_zcf_1 (Ad : Nat) (Aa : Ss) (Ae : Nat) (L3 : Mi) : T_zcf_1 → Option R_zcf := Prims.real.loop (b_zcf_1 Prims.real p_zcy Ad Aa Ae L3 (p_zcf_3 Ad Aa Ae L3))
theorem u_zcf_1 (Ad : Nat) (Aa : Ss) (Ae : Nat) (L3 : Mi) (s : T_zcf_1) : p_zcf_1 Ad Aa Ae L3 s = (match b_zcf_1 Prims.real p_zcy Ad Aa Ae L3 (p_zcf_3 Ad Aa Ae L3) s with | some (.inl t) => p_zcf_1 Ad Aa Ae L3 t | some (.inr r) => some r | none => none) := (Pr.loop_eq' _ s).trans (by rcases b_zcf_1 Prims.real p_zcy Ad Aa Ae L3 (p_zcf_3 Ad Aa Ae L3) s with _|_|_ <;> rfl)
def p_zcf_0 (Ad : Nat) (Aa : Ss) (Ae : Nat) (L3 : Mi) : T_zcf_0 → Option R_zcf := (b_zcf_0 Prims.real p_zcy Ad Aa Ae L3 (p_zcf_1 Ad Aa Ae L3))
section
variable (m : Nat) (n0 n1 n2 n3 : Nat) (k0 k1 k2 k3 : Kl) (hl0 : n0 < m) (hl1 : n1 < m) (hl2 : n2 < m) (hl3 : n3 < m) (Al : NE n0 k0 n1 k1) (Ao : NE n0 k0 n2 k2) (Aq : NE n0 k0 n3 k3) (Ar : NE n1 k1 n2 k2) (At : NE n1 k1 n3 k3) (Au : NE n2 k2 n3 k3)
include m n0 n1 n2 n3 k0 k1 k2 k3 hl0 hl1 hl2 hl3 Al Ao Aq Ar At Au
theorem s_zcf_6 (Ad : Nat) (Aa : Ss) (Ae : Nat) (L3 : Mi) : H_zcf_6 AT @XM List.length @XE setO E_e0 E_e6 E_e7 m n0 n1 n2 n3 k0 k1 k2 k3 Ad Aa Ae L3 (p_zcf_6 Ad Aa Ae L3) := (o_zcf_6 LW rfl rfl HA HZ p_zcy s_zcy m n0 n1 n2 n3 k0 k1 k2 k3 Ad Aa Ae L3 hl0 hl1 hl2 hl3 Al Ao Aq Ar At Au )
theorem s_zcf_3 (Ad : Nat) (Aa : Ss) (Ae : Nat) (L3 : Mi) : H_zcf_3 AT @XM List.length @XE setO E_e0 E_e6 E_e7 m n0 n1 n2 n3 k0 k1 k2 k3 Ad Aa Ae L3 (p_zcf_3 Ad Aa Ae L3) := by
  refine loopG (U := fun (L0', v1', v2', v8', v9') stk => (setO stk ⟨n0, k0⟩ (.arr Ad 6 (List.map E_e0 L0')))) (fun ⟨L0', v1', v2', v8', v9'⟩ _ => rfl) (fun s t stk hg => ?_) (fun t r stk => ?_) (o_zcf_3 LW rfl rfl HA HZ p_zcy s_zcy m n0 n1 n2 n3 k0 k1 k2 k3 Ad Aa Ae L3 hl0 hl1 hl2 hl3 Al Ao Aq Ar At Au (s_zcf_6 m n0 n1 n2 n3 k0 k1 k2 k3 hl0 hl1 hl2 hl3 Al Ao Aq Ar At Au Ad Aa Ae L3))
  · obtain ⟨L0, v1, v2, v8, v9⟩ := s
    obtain ⟨L0', v1', v2', v8', v9'⟩ := t
    obtain ⟨hg0, hg1, hg2, hg3, _⟩ := hg
    exact ⟨(LW.gs (hg0) _), ((LW.gn (Ne.symm Al) _ _).trans (hg1)), ((LW.gn (Ne.symm Ao) _ _).trans (hg2)), ((LW.gn (Ne.symm Aq) _ _).trans (hg3)), trivial⟩
  · obtain ⟨L0', v1', v2', v8', v9'⟩ := t
    rcases r with ⟨_, _, _, _⟩ | (_) <;> simp only [LW.so, LW.sc Al, LW.sc Ao, LW.sc Aq, LW.sc Ar, LW.sc At, LW.sc Au, el, O_zcf, B_zcf_1, A_zcf_1]
theorem s_zcf_1 (Ad : Nat) (Aa : Ss) (Ae : Nat) (L3 : Mi) : H_zcf_1 AT @XM List.length @XE setO E_e0 E_e6 E_e7 m n0 n1 n2 n3 k0 k1 k2 k3 Ad Aa Ae L3 (p_zcf_1 Ad Aa Ae L3) := by
  refine loopG (U := fun (L0', v1', v2', v8') stk => (setO stk ⟨n0, k0⟩ (.arr Ad 6 (List.map E_e0 L0')))) (fun ⟨L0', v1', v2', v8'⟩ _ => rfl) (fun s t stk hg => ?_) (fun t r stk => ?_) (o_zcf_1 LW rfl rfl HA HZ p_zcy s_zcy m n0 n1 n2 n3 k0 k1 k2 k3 Ad Aa Ae L3 hl0 hl1 hl2 hl3 Al Ao Aq Ar At Au (s_zcf_3 m n0 n1 n2 n3 k0 k1 k2 k3 hl0 hl1 hl2 hl3 Al Ao Aq Ar At Au Ad Aa Ae L3))
  · obtain ⟨L0, v1, v2, v8⟩ := s
    obtain ⟨L0', v1', v2', v8'⟩ := t
    obtain ⟨hg0, hg1, hg2, hg3, _⟩ := hg
    exact ⟨(LW.gs (hg0) _), ((LW.gn (Ne.symm Al) _ _).trans (hg1)), ((LW.gn (Ne.symm Ao) _ _).trans (hg2)), ((LW.gn (Ne.symm Aq) _ _).trans (hg3)), trivial⟩
  · obtain ⟨L0', v1', v2', v8'⟩ := t
    rcases r with _ <;> simp only [LW.so, LW.sc Al, LW.sc Ao, LW.sc Aq, LW.sc Ar, LW.sc At, LW.sc Au, el, O_zcf]
theorem s_zcf_0 (Ad : Nat) (Aa : Ss) (Ae : Nat) (L3 : Mi) : H_zcf_0 AT @XM List.length @XE setO E_e0 E_e6 E_e7 m n0 n1 n2 n3 k0 k1 k2 k3 Ad Aa Ae L3 (p_zcf_0 Ad Aa Ae L3) := (o_zcf_0 LW rfl rfl HA HZ p_zcy s_zcy m n0 n1 n2 n3 k0 k1 k2 k3 Ad Aa Ae L3 hl0 hl1 hl2 hl3 Al Ao Aq Ar At Au (s_zcf_1 m n0 n1 n2 n3 k0 k1 k2 k3 hl0 hl1 hl2 hl3 Al Ao Aq Ar At Au Ad Aa Ae L3))
end
def p_zcf : Int → Int → Nat → Ls1 → Ss → Nat → Mi → Option (Ls1) := fun v1 v2 Ad L0 Aa Ae L3 => p_zcf_0 Ad Aa Ae L3 (v1, v2, L0)
theorem s_zcf : (C_zcf FC @XM List.length @XE setO E_e0 E_e6 E_e7 p_zcf) := by
  intro v1 v2 Ad L0 Aa Ae L3 _ hp stk n0 k0 n1 k1 n2 k2 n3 k3 hg0 hg1 hg2 hg3 hl0 hl1 hl2 hl3 Al Ao Aq Ar At Au
  exact fcall_of (T := table) (G := glob) (f := 77) rfl rfl (HdG.on (s_zcf_0 (topN stk + 1) n0 n1 n2 n3 k0 k1 k2 k3 (Nat.lt_succ_of_le hl0) (Nat.lt_succ_of_le hl1) (Nat.lt_succ_of_le hl2) (Nat.lt_succ_of_le hl3) Al Ao Aq Ar At Au Ad Aa Ae L3) (v1, v2, L0) hp stk ⟨hg0, hg1, hg2, hg3, trivial⟩)
def p_zcl_1 (Ad : Nat) (Aa : Ss) (Ae : Nat) (L3 : Mi) : T_zcl_1 → Option R_zcl := Prims.real.loop (b_zcl_1 Prims.real Ad Aa Ae L3 )
theorem u_zcl_1 (Ad : Nat) (Aa : Ss) (Ae : Nat) (L3 : Mi) (s : T_zcl_1) : p_zcl_1 Ad Aa Ae L3 s = (match b_zcl_1 Prims.real Ad Aa Ae L3 s with | some (.inl t) => p_zcl_1 Ad Aa Ae L3 t | some (.inr r) => some r | none => none) := (Pr.loop_eq' _ s).trans (by rcases b_zcl_1 Prims.real Ad Aa Ae L3 s with _|_|_ <;> rfl)
def p_zcl_0 (Ad : Nat) (Aa : Ss) (Ae : Nat) (L3 : Mi) : T_zcl_0 → Option R_zcl := (b_zcl_0 Prims.real Ad Aa Ae L3 (p_zcl_1 Ad Aa Ae L3))
section
variable (m : Nat) (n0 n1 n2 n3 : Nat) (k0 k1 k2 k3 : Kl) (hl0 : n0 < m) (hl1 : n1 < m) (hl2 : n2 < m) (hl3 : n3 < m) (Al : NE n0 k0 n1 k1) (Ao : NE n0 k0 n2 k2) (Aq : NE n0 k0 n3 k3) (Ar : NE n1 k1 n2 k2) (At : NE n1 k1 n3 k3) (Au : NE n2 k2 n3 k3)
include m n0 n1 n2 n3 k0 k1 k2 k3 hl0 hl1 hl2 hl3 Al Ao Aq Ar At Au
theorem s_zcl_1 (Ad : Nat) (Aa : Ss) (Ae : Nat) (L3 : Mi) : H_zcl_1 AT @XM List.length @XE setO E_e0 E_e6 E_e7 m n0 n1 n2 n3 k0 k1 k2 k3 Ad Aa Ae L3 (p_zcl_1 Ad Aa Ae L3) := by
  refine loopG (U := fun (L0', v1', v2', v3', v10') stk => (setO stk ⟨n0, k0⟩ (.arr Ad 6 (List.map E_e0 L0')))) (fun ⟨L0', v1', v2', v3', v10'⟩ _ => rfl) (fun s t stk hg => ?_) (fun t r stk => ?_) (o_zcl_1 LW rfl rfl HA HZ m n0 n1 n2 n3 k0 k1 k2 k3 Ad Aa Ae L3 hl0 hl1 hl2 hl3 Al Ao Aq Ar At Au )
  · obtain ⟨L0, v1, v2, v3, v10⟩ := s
    obtain ⟨L0', v1', v2', v3', v10'⟩ := t
    obtain ⟨hg0, hg1, hg2, hg3, _⟩ := hg
    exact ⟨(LW.gs (hg0) _), ((LW.gn (Ne.symm Al) _ _).trans (hg1)), ((LW.gn (Ne.symm Ao) _ _).trans (hg2)), ((LW.gn (Ne.symm Aq) _ _).trans (hg3)), trivial⟩
  · obtain ⟨L0', v1', v2', v3', v10'⟩ := t
    rcases r with _ <;> simp only [LW.so, LW.sc Al, LW.sc Ao, LW.sc Aq, LW.sc Ar, LW.sc At, LW.sc Au, el, O_zcl]
theorem s_zcl_0 (Ad : Nat) (Aa : Ss) (Ae : Nat) (L3 : Mi) : H_zcl_0 AT @XM List.length @XE setO E_e0 E_e6 E_e7 m n0 n1 n2 n3 k0 k1 k2 k3 Ad Aa Ae L3 (p_zcl_0 Ad Aa Ae L3) := (o_zcl_0 LW rfl rfl HA HZ m n0 n1 n2 n3 k0 k1 k2 k3 Ad Aa Ae L3 hl0 hl1 hl2 hl3 Al Ao Aq Ar At Au (s_zcl_1 m n0 n1 n2 n3 k0 k1 k2 k3 hl0 hl1 hl2 hl3 Al Ao Aq Ar At Au Ad Aa Ae L3))
end
def p_zcl : Int → Int → Int → Nat → Ls1 → Ss → Nat → Mi → Option (Ls1) := fun v1 v2 v3 Ad L0 Aa Ae L3 => p_zcl_0 Ad Aa Ae L3 (v1, v2, v3, L0)
theorem s_zcl : (C_zcl FC @XM List.length @XE setO E_e0 E_e6 E_e7 p_zcl) := by
  intro v1 v2 v3 Ad L0 Aa Ae L3 _ hp stk n0 k0 n1 k1 n2 k2 n3 k3 hg0 hg1 hg2 hg3 hl0 hl1 hl2 hl3 Al Ao Aq Ar At Au
  exact fcall_of (T := table) (G := glob) (f := 81) rfl rfl (HdG.on (s_zcl_0 (topN stk + 1) n0 n1 n2 n3 k0 k1 k2 k3 (Nat.lt_succ_of_le hl0) (Nat.lt_succ_of_le hl1) (Nat.lt_succ_of_le hl2) (Nat.lt_succ_of_le hl3) Al Ao Aq Ar At Au Ad Aa Ae L3) (v1, v2, v3, L0) hp stk ⟨hg0, hg1, hg2, hg3, trivial⟩)
def p_zch_1 (Ad : Nat) (Aa : Ss) (Ae : Nat) (L3 : Mi) : T_zch_1 → Option R_zch := Prims.real.loop (b_zch_1 Prims.real p_zcl Ad Aa Ae L3 )
theorem u_zch_1 (Ad : Nat) (Aa : Ss) (Ae : Nat) (L3 : Mi) (s : T_zch_1) : p_zch_1 Ad Aa Ae L3 s = (match b_zch_1 Prims.real p_zcl Ad Aa Ae L3 s with | some (.inl t) => p_zch_1 Ad Aa Ae L3 t | some (.inr r) => some r | none => none) := (Pr.loop_eq' _ s).trans (by rcases b_zch_1 Prims.real p_zcl Ad Aa Ae L3 s with _|_|_ <;> rfl)
def p_zch_0 (Ad : Nat) (Aa : Ss) (Ae : Nat) (L3 : Mi) : T_zch_0 → Option R_zch := (b_zch_0 Prims.real p_zcl Ad Aa Ae L3 (p_zch_1 Ad Aa Ae L3))
section
variable (m : Nat) (n0 n1 n2 n3 : Nat) (k0 k1 k2 k3 : Kl) (hl0 : n0 < m) (hl1 : n1 < m) (hl2 : n2 < m) (hl3 : n3 < m) (Al : NE n0 k0 n1 k1) (Ao : NE n0 k0 n2 k2) (Aq : NE n0 k0 n3 k3) (Ar : NE n1 k1 n2 k2) (At : NE n1 k1 n3 k3) (Au : NE n2 k2 n3 k3)
include m n0 n1 n2 n3 k0 k1 k2 k3 hl0 hl1 hl2 hl3 Al Ao Aq Ar At Au
theorem s_zch_1 (Ad : Nat) (Aa : Ss) (Ae : Nat) (L3 : Mi) : H_zch_1 AT @XM List.length @XE setO E_e0 E_e6 E_e7 m n0 n1 n2 n3 k0 k1 k2 k3 Ad Aa Ae L3 (p_zch_1 Ad Aa Ae L3) := by
  refine loopG (U := fun (L0', v2', v10', v11') stk => (setO stk ⟨n0, k0⟩ (.arr Ad 6 (List.map E_e0 L0')))) (fun ⟨L0', v2', v10', v11'⟩ _ => rfl) (fun s t stk hg => ?_) (fun t r stk => ?_) (o_zch_1 LW rfl rfl HA HZ p_zcl s_zcl m n0 n1 n2 n3 k0 k1 k2 k3 Ad Aa Ae L3 hl0 hl1 hl2 hl3 Al Ao Aq Ar At Au )
  · obtain ⟨L0, v2, v10, v11⟩ := s
    obtain ⟨L0', v2', v10', v11'⟩ := t
    obtain ⟨hg0, hg1, hg2, hg3, _⟩ := hg
    exact ⟨(LW.gs (hg0) _), ((LW.gn (Ne.symm Al) _ _).trans (hg1)), ((LW.gn (Ne.symm Ao) _ _).trans (hg2)), ((LW.gn (Ne.symm Aq) _ _).trans (hg3)), trivial⟩
  · obtain ⟨L0', v2', v10', v11'⟩ := t
    rcases r with _ <;> simp only [LW.so, LW.sc Al, LW.sc Ao, LW.sc Aq, LW.sc Ar, LW.sc At, LW.sc Au, el, O_zch]
theorem s_zch_0 (Ad : Nat) (Aa : Ss) (Ae : Nat) (L3 : Mi) : H_zch_0 AT @XM List.length @XE setO E_e0 E_e6 E_e7 m n0 n1 n2 n3 k0 k1 k2 k3 Ad Aa Ae L3 (p_zch_0 Ad Aa Ae L3) := (o_zch_0 LW rfl rfl HA HZ p_zcl s_zcl m n0 n1 n2 n3 k0 k1 k2 k3 Ad Aa Ae L3 hl0 hl1 hl2 hl3 Al Ao Aq Ar At Au (s_zch_1 m n0 n1 n2 n3 k0 k1 k2 k3 hl0 hl1 hl2 hl3 Al Ao Aq Ar At Au Ad Aa Ae L3))
end
def p_zch : Int → Int → Int → Nat → Ls1 → Ss → Nat → Mi → Option (Ls1) := fun v1 v2 v3 Ad L0 Aa Ae L3 => p_zch_0 Ad Aa Ae L3 (v1, v2, v3, L0)
theorem s_zch : (C_zch FC @XM List.length @XE setO E_e0 E_e6 E_e7 p_zch) := by
  intro v1 v2 v3 Ad L0 Aa Ae L3 _ hp stk n0 k0 n1 k1 n2 k2 n3 k3 hg0 hg1 hg2 hg3 hl0 hl1 hl2 hl3 Al Ao Aq Ar At Au
  exact fcall_of (T := table) (G := glob) (f := 80) rfl rfl (HdG.on (s_zch_0 (topN stk + 1) n0 n1 n2 n3 k0 k1 k2 k3 (Nat.lt_succ_of_le hl0) (Nat.lt_succ_of_le hl1) (Nat.lt_succ_of_le hl2) (Nat.lt_succ_of_le hl3) Al Ao Aq Ar At Au Ad Aa Ae L3) (v1, v2, v3, L0) hp stk ⟨hg0, hg1, hg2, hg3, trivial⟩)
def p_zcn_4 (c_zcn : Int → Int → Int → Nat → Ls1 → Ss → Nat → Mi → Option (Ls1)) (Ad : Nat) (Aa : Ss) (Ae : Nat) (L3 : Mi) : T_zcn_4 → Option R_zcn := Prims.real.loop (b_zcn_4 Prims.real p_zcy p_zch c_zcn Ad Aa Ae L3 )
theorem u_zcn_4 (c_zcn : Int → Int → Int → Nat → Ls1 → Ss → Nat → Mi → Option (Ls1)) (Ad : Nat) (Aa : Ss) (Ae : Nat) (L3 : Mi) (s : T_zcn_4) : p_zcn_4 c_zcn Ad Aa Ae L3 s = (match b_zcn_4 Prims.real p_zcy p_zch c_zcn Ad Aa Ae L3 s with | some (.inl t) => p_zcn_4 c_zcn Ad Aa Ae L3 t | some (.inr r) => some r | none => none) := (Pr.loop_eq' _ s).trans (by rcases b_zcn_4 Prims.real p_zcy p_zch c_zcn Ad Aa Ae L3 s with _|_|_ <;> rfl)
def p_zcn_1 (c_zcn : Int → Int → Int → Nat → Ls1 → Ss → Nat → Mi → Option (Ls1)) (Ad : Nat) (Aa : Ss) (Ae : Nat) (L3 : Mi) : T_zcn_1 → Option R_zcn := Prims.real.loop (b_zcn_1 Prims.real p_zcy p_zch c_zcn Ad Aa Ae L3 (p_zcn_4 c_zcn Ad Aa Ae L3))
theorem u_zcn_1 (c_zcn : Int → Int → Int → Nat → Ls1 → Ss → Nat → Mi → Option (Ls1)) (Ad : Nat) (Aa : Ss) (Ae : Nat) (L3 : Mi) (s : T_zcn_1) : p_zcn_1 c_zcn Ad Aa Ae L3 s = (match b_zcn_1 Prims.real p_zcy p_zch c_zcn Ad Aa Ae L3 (p_zcn_4 c_zcn Ad Aa Ae L3) s with | some (.inl t) => p_zcn_1 c_zcn Ad Aa Ae L3 t | some (.inr r) => some r | none => none) := (Pr.loop_eq' _ s).trans (by rcases b_zcn_1 Prims.real p_zcy p_zch c_zcn Ad Aa Ae L3 (p_zcn_4 c_zcn Ad Aa Ae L3) s with _|_|_ <;> rfl)
def p_zcn_12 (c_zcn : Int → Int → Int → Nat → Ls1 → Ss → Nat → Mi → Option (Ls1)) (Ad : Nat) (Aa : Ss) (Ae : Nat) (L3 : Mi) : T_zcn_12 → Option R_zcn := Prims.real.loop (b_zcn_12 Prims.real p_zcy p_zch c_zcn Ad Aa Ae L3 )
theorem u_zcn_12 (c_zcn : Int → Int → Int → Nat → Ls1 → Ss → Nat → Mi → Option (Ls1)) (Ad : Nat) (Aa : Ss) (Ae : Nat) (L3 : Mi) (s : T_zcn_12) : p_zcn_12 c_zcn Ad Aa Ae L3 s = (match b_zcn_12 Prims.real p_zcy p_zch c_zcn Ad Aa Ae L3 s with | some (.inl t) => p_zcn_12 c_zcn Ad Aa Ae L3 t | some (.inr r) => some r | none => none) := (Pr.loop_eq' _ s).trans (by rcases b_zcn_12 Prims.real p_zcy p_zch c_zcn Ad Aa Ae L3 s with _|_|_ <;> rfl)
def p_zcn_9 (c_zcn : Int → Int → Int → Nat → Ls1 → Ss → Nat → Mi → Option (Ls1)) (Ad : Nat) (Aa : Ss) (Ae : Nat) (L3 : Mi) : T_zcn_9 → Option R_zcn := Prims.real.loop (b_zcn_9 Prims.real p_zcy p_zch c_zcn Ad Aa Ae L3 (p_zcn_12 c_zcn Ad Aa Ae L3))
theorem u_zcn_9 (c_zcn : Int → Int → Int → Nat → Ls1 → Ss → Nat → Mi → Option (Ls1)) (Ad : Nat) (Aa : Ss) (Ae : Nat) (L3 : Mi) (s : T_zcn_9) : p_zcn_9 c_zcn Ad Aa Ae L3 s = (match b_zcn_9 Prims.real p_zcy p_zch c_zcn Ad Aa Ae L3 (p_zcn_12 c_zcn Ad Aa Ae L3) s with | some (.inl t) => p_zcn_9 c_zcn Ad Aa Ae L3 t | some (.inr r) => some r | none => none) := (Pr.loop_eq' _ s).trans (by rcases b_zcn_9 Prims.real p_zcy p_zch c_zcn Ad Aa Ae L3 (p_zcn_12 c_zcn Ad Aa Ae L3) s with _|_|_ <;> rfl)
def p_zcn_22 (c_zcn : Int → Int → Int → Nat → Ls1 → Ss → Nat → Mi → Option (Ls1)) (Ad : Nat) (Aa : Ss) (Ae : Nat) (L3 : Mi) : T_zcn_22 → Option R_zcn := (b_zcn_22 Prims.real p_zcy p_zch c_zcn Ad Aa Ae L3 )
def p_zcn_21 (c_zcn : Int → Int → Int → Nat → Ls1 → Ss → Nat → Mi → Option (Ls1)) (Ad : Nat) (Aa : Ss) (Ae : Nat) (L3 : Mi) : T_zcn_21 → Option R_zcn := (b_zcn_21 Prims.real p_zcy p_zch c_zcn Ad Aa Ae L3 (p_zcn_22 c_zcn Ad Aa Ae L3))
def p_zcn_18 (c_zcn : Int → Int → Int → Nat → Ls1 → Ss → Nat → Mi → Option (Ls1)) (Ad : Nat) (Aa : Ss) (Ae : Nat) (L3 : Mi) : T_zcn_18 → Option R_zcn := Prims.real.loop (b_zcn_18 Prims.real p_zcy p_zch c_zcn Ad Aa Ae L3 (p_zcn_21 c_zcn Ad Aa Ae L3))
theorem u_zcn_18 (c_zcn : Int → Int → Int → Nat → Ls1 → Ss → Nat → Mi → Option (Ls1)) (Ad : Nat) (Aa : Ss) (Ae : Nat) (L3 : Mi) (s : T_zcn_18) : p_zcn_18 c_zcn Ad Aa Ae L3 s = (match b_zcn_18 Prims.real p_zcy p_zch c_zcn Ad Aa Ae L3 (p_zcn_21 c_zcn Ad Aa Ae L3) s with | some (.inl t) => p_zcn_18 c_zcn Ad Aa Ae L3 t | some (.inr r) => some r | none => none) := (Pr.loop_eq' _ s).trans (by rcases b_zcn_18 Prims.real p_zcy p_zch c_zcn Ad Aa Ae L3 (p_zcn_21 c_zcn Ad Aa Ae L3) s with _|_|_ <;> rfl)
def p_zcn_17 (c_zcn : Int → Int → Int → Nat → Ls1 → Ss → Nat → Mi → Option (Ls1)) (Ad : Nat) (Aa : Ss) (Ae : Nat) (L3 : Mi) : T_zcn_17 → Option R_zcn := (b_zcn_17 Prims.real p_zcy p_zch c_zcn Ad Aa Ae L3 (p_zcn_18 c_zcn Ad Aa Ae L3))
def p_zcn_0 (c_zcn : Int → Int → Int → Nat → Ls1 → Ss → Nat → Mi → Option (Ls1)) (Ad : Nat) (Aa : Ss) (Ae : Nat) (L3 : Mi) : T_zcn_0 → Option R_zcn := (b_zcn_0 Prims.real p_zcy p_zch c_zcn Ad Aa Ae L3 (p_zcn_1 c_zcn Ad Aa Ae L3) (p_zcn_9 c_zcn Ad Aa Ae L3) (p_zcn_17 c_zcn Ad Aa Ae L3))
section
variable (m : Nat) (n0 n1 n2 n3 : Nat) (k0 k1 k2 k3 : Kl) (hl0 : n0 < m) (hl1 : n1 < m) (hl2 : n2 < m) (hl3 : n3 < m) (Al : NE n0 k0 n1 k1) (Ao : NE n0 k0 n2 k2) (Aq : NE n0 k0 n3 k3) (Ar : NE n1 k1 n2 k2) (At : NE n1 k1 n3 k3) (Au : NE n2 k2 n3 k3)
include m n0 n1 n2 n3 k0 k1 k2 k3 hl0 hl1 hl2 hl3 Al Ao Aq Ar At Au
theorem s_zcn_4 (c_zcn : Int → Int → Int → Nat → Ls1 → Ss → Nat → Mi → Option (Ls1)) (h_zcn : (C_zcn FC @XM List.length @XE setO E_e0 E_e6 E_e7 c_zcn)) (Ad : Nat) (Aa : Ss) (Ae : Nat) (L3 : Mi) : H_zcn_4 AT @XM List.length @XE setO E_e0 E_e6 E_e7 m n0 n1 n2 n3 k0 k1 k2 k3 Ad Aa Ae L3 (p_zcn_4 c_zcn Ad Aa Ae L3) := by
  refine loopG (U := fun (L0', v10', v13') stk => (setO stk ⟨n0, k0⟩ (.arr Ad 6 (List.map E_e0 L0')))) (fun ⟨L0', v10', v13'⟩ _ => rfl) (fun s t stk hg => ?_) (fun t r stk => ?_) (o_zcn_4 LW rfl rfl HA HZ p_zcy p_zch c_zcn s_zcy s_zch h_zcn m n0 n1 n2 n3 k0 k1 k2 k3 Ad Aa Ae L3 hl0 hl1 hl2 hl3 Al Ao Aq Ar At Au )
  · obtain ⟨L0, v10, v13⟩ := s
    obtain ⟨L0', v10', v13'⟩ := t
    obtain ⟨hg0, hg1, hg2, hg3, _⟩ := hg
    exact ⟨(LW.gs (hg0) _), ((LW.gn (Ne.symm Al) _ _).trans (hg1)), ((LW.gn (Ne.symm Ao) _ _).trans (hg2)), ((LW.gn (Ne.symm Aq) _ _).trans (hg3)), trivial⟩
  · obtain ⟨L0', v10', v13'⟩ := t
    rcases r with _ <;> simp only [LW.so, LW.sc Al, LW.sc Ao, LW.sc Aq, LW.sc Ar, LW.sc At, LW.sc Au, el, O_zcn]
theorem s_zcn_1 (c_zcn : Int → Int → Int → Nat → Ls1 → Ss → Nat → Mi → Option (Ls1)) (h_zcn : (C_zcn FC @XM List.length @XE setO E_e0 E_e6 E_e7 c_zcn)) (Ad : Nat) (Aa : Ss) (Ae : Nat) (L3 : Mi) : H_zcn_1 AT @XM List.length @XE setO E_e0 E_e6 E_e7 m n0 n1 n2 n3 k0 k1 k2 k3 Ad Aa Ae L3 (p_zcn_1 c_zcn Ad Aa Ae L3) := by
  refine loopG (U := fun (L0', v1', v10', v11') stk => (setO stk ⟨n0, k0⟩ (.arr Ad 6 (List.map E_e0 L0')))) (fun ⟨L0', v1', v10', v11'⟩ _ => rfl) (fun s t stk hg => ?_) (fun t r stk => ?_) (o_zcn_1 LW rfl rfl HA HZ p_zcy p_zch c_zcn s_zcy s_zch h_zcn m n0 n1 n2 n3 k0 k1 k2 k3 Ad Aa Ae L3 hl0 hl1 hl2 hl3 Al Ao Aq Ar At Au (s_zcn_4 m n0 n1 n2 n3 k0 k1 k2 k3 hl0 hl1 hl2 hl3 Al Ao Aq Ar At Au c_zcn h_zcn Ad Aa Ae L3))
  · obtain ⟨L0, v1, v10, v11⟩ := s
    obtain ⟨L0', v1', v10', v11'⟩ := t
    obtain ⟨hg0, hg1, hg2, hg3, _⟩ := hg
    exact ⟨(LW.gs (hg0) _), ((LW.gn (Ne.symm Al) _ _).trans (hg1)), ((LW.gn (Ne.symm Ao) _ _).trans (hg2)), ((LW.gn (Ne.symm Aq) _ _).trans (hg3)), trivial⟩
  · obtain ⟨L0', v1', v10', v11'⟩ := t
    rcases r with _ <;> simp only [LW.so, LW.sc Al, LW.sc Ao, LW.sc Aq, LW.sc Ar, LW.sc At, LW.sc Au, el, O_zcn]
theorem s_zcn_12 (c_zcn : Int → Int → Int → Nat → Ls1 → Ss → Nat → Mi → Option (Ls1)) (h_zcn : (C_zcn FC @XM List.length @XE setO E_e0 E_e6 E_e7 c_zcn)) (Ad : Nat) (Aa : Ss) (Ae : Nat) (L3 : Mi) : H_zcn_12 AT @XM List.length @XE setO E_e0 E_e6 E_e7 m n0 n1 n2 n3 k0 k1 k2 k3 Ad Aa Ae L3 (p_zcn_12 c_zcn Ad Aa Ae L3) := by
  refine loopG (U := fun (L0', v14', v17') stk => (setO stk ⟨n0, k0⟩ (.arr Ad 6 (List.map E_e0 L0')))) (fun ⟨L0', v14', v17'⟩ _ => rfl) (fun s t stk hg => ?_) (fun t r stk => ?_) (o_zcn_12 LW rfl rfl HA HZ p_zcy p_zch c_zcn s_zcy s_zch h_zcn m n0 n1 n2 n3 k0 k1 k2 k3 Ad Aa Ae L3 hl0 hl1 hl2 hl3 Al Ao Aq Ar At Au )
  · obtain ⟨L0, v14, v17⟩ := s
    obtain ⟨L0', v14', v17'⟩ := t
    obtain ⟨hg0, hg1, hg2, hg3, _⟩ := hg
    exact ⟨(LW.gs (hg0) _), ((LW.gn (Ne.symm Al) _ _).trans (hg1)), ((LW.gn (Ne.symm Ao) _ _).trans (hg2)), ((LW.gn (Ne.symm Aq) _ _).trans (hg3)), trivial⟩
  · obtain ⟨L0', v14', v17'⟩ := t
    rcases r with _ <;> simp only [LW.so, LW.sc Al, LW.sc Ao, LW.sc Aq, LW.sc Ar, LW.sc At, LW.sc Au, el, O_zcn]
theorem s_zcn_9 (c_zcn : Int → Int → Int → Nat → Ls1 → Ss → Nat → Mi → Option (Ls1)) (h_zcn : (C_zcn FC @XM List.length @XE setO E_e0 E_e6 E_e7 c_zcn)) (Ad : Nat) (Aa : Ss) (Ae : Nat) (L3 : Mi) : H_zcn_9 AT @XM List.length @XE setO E_e0 E_e6 E_e7 m n0 n1 n2 n3 k0 k1 k2 k3 Ad Aa Ae L3 (p_zcn_9 c_zcn Ad Aa Ae L3) := by
  refine loopG (U := fun (L0', v2', v14', v15') stk => (setO stk ⟨n0, k0⟩ (.arr Ad 6 (List.map E_e0 L0')))) (fun ⟨L0', v2', v14', v15'⟩ _ => rfl) (fun s t stk hg => ?_) (fun t r stk => ?_) (o_zcn_9 LW rfl rfl HA HZ p_zcy p_zch c_zcn s_zcy s_zch h_zcn m n0 n1 n2 n3 k0 k1 k2 k3 Ad Aa Ae L3 hl0 hl1 hl2 hl3 Al Ao Aq Ar At Au (s_zcn_12 m n0 n1 n2 n3 k0 k1 k2 k3 hl0 hl1 hl2 hl3 Al Ao Aq Ar At Au c_zcn h_zcn Ad Aa Ae L3))
  · obtain ⟨L0, v2, v14, v15⟩ := s
    obtain ⟨L0', v2', v14', v15'⟩ := t
    obtain ⟨hg0, hg1, hg2, hg3, _⟩ := hg
    exact ⟨(LW.gs (hg0) _), ((LW.gn (Ne.symm Al) _ _).trans (hg1)), ((LW.gn (Ne.symm Ao) _ _).trans (hg2)), ((LW.gn (Ne.symm Aq) _ _).trans (hg3)), trivial⟩
  · obtain ⟨L0', v2', v14', v15'⟩ := t
    rcases r with _ <;> simp only [LW.so, LW.sc Al, LW.sc Ao, LW.sc Aq, LW.sc Ar, LW.sc At, LW.sc Au, el, O_zcn]
theorem s_zcn_22 (c_zcn : Int → Int → Int → Nat → Ls1 → Ss → Nat → Mi → Option (Ls1)) (h_zcn : (C_zcn FC @XM List.length @XE setO E_e0 E_e6 E_e7 c_zcn)) (Ad : Nat) (Aa : Ss) (Ae : Nat) (L3 : Mi) : H_zcn_22 AT @XM List.length @XE setO E_e0 E_e6 E_e7 m n0 n1 n2 n3 k0 k1 k2 k3 Ad Aa Ae L3 (p_zcn_22 c_zcn Ad Aa Ae L3) := (o_zcn_22 LW rfl rfl HA HZ p_zcy p_zch c_zcn s_zcy s_zch h_zcn m n0 n1 n2 n3 k0 k1 k2 k3 Ad Aa Ae L3 hl0 hl1 hl2 hl3 Al Ao Aq Ar At Au )
theorem s_zcn_21 (c_zcn : Int → Int → Int → Nat → Ls1 → Ss → Nat → Mi → Option (Ls1)) (h_zcn : (C_zcn FC @XM List.length @XE setO E_e0 E_e6 E_e7 c_zcn)) (Ad : Nat) (Aa : Ss) (Ae : Nat) (L3 : Mi) : H_zcn_21 AT @XM List.length @XE setO E_e0 E_e6 E_e7 m n0 n1 n2 n3 k0 k1 k2 k3 Ad Aa Ae L3 (p_zcn_21 c_zcn Ad Aa Ae L3) := (o_zcn_21 LW rfl rfl HA HZ p_zcy p_zch c_zcn s_zcy s_zch h_zcn m n0 n1 n2 n3 k0 k1 k2 k3 Ad Aa Ae L3 hl0 hl1 hl2 hl3 Al Ao Aq Ar At Au (s_zcn_22 m n0 n1 n2 n3 k0 k1 k2 k3 hl0 hl1 hl2 hl3 Al Ao Aq Ar At Au c_zcn h_zcn Ad Aa Ae L3))
theorem s_zcn_18 (c_zcn : Int → Int → Int → Nat → Ls1 → Ss → Nat → Mi → Option (Ls1)) (h_zcn : (C_zcn FC @XM List.length @XE setO E_e0 E_e6 E_e7 c_zcn)) (Ad : Nat) (Aa : Ss) (Ae : Nat) (L3 : Mi) : H_zcn_18 AT @XM List.length @XE setO E_e0 E_e6 E_e7 m n0 n1 n2 n3 k0 k1 k2 k3 Ad Aa Ae L3 (p_zcn_18 c_zcn Ad Aa Ae L3) := by
  refine loopG (U := fun (L0', v1', v2', v3', v18', v19', v20', v21', v22') stk => (setO stk ⟨n0, k0⟩ (.arr Ad 6 (List.map E_e0 L0')))) (fun ⟨L0', v1', v2', v3', v18', v19', v20', v21', v22'⟩ _ => rfl) (fun s t stk hg => ?_) (fun t r stk => ?_) (o_zcn_18 LW rfl rfl HA HZ p_zcy p_zch c_zcn s_zcy s_zch h_zcn m n0 n1 n2 n3 k0 k1 k2 k3 Ad Aa Ae L3 hl0 hl1 hl2 hl3 Al Ao Aq Ar At Au (s_zcn_21 m n0 n1 n2 n3 k0 k1 k2 k3 hl0 hl1 hl2 hl3 Al Ao Aq Ar At Au c_zcn h_zcn Ad Aa Ae L3))
  · obtain ⟨L0, v1, v2, v3, v18, v19, v20, v21, v22⟩ := s
    obtain ⟨L0', v1', v2', v3', v18', v19', v20', v21', v22'⟩ := t
    obtain ⟨hg0, hg1, hg2, hg3, _⟩ := hg
    exact ⟨(LW.gs (hg0) _), ((LW.gn (Ne.symm Al) _ _).trans (hg1)), ((LW.gn (Ne.symm Ao) _ _).trans (hg2)), ((LW.gn (Ne.symm Aq) _ _).trans (hg3)), trivial⟩
  · obtain ⟨L0', v1', v2', v3', v18', v19', v20', v21', v22'⟩ := t
    rcases r with _ <;> simp only [LW.so, LW.sc Al, LW.sc Ao, LW.sc Aq, LW.sc Ar, LW.sc At, LW.sc Au, el, O_zcn]
theorem s_zcn_17 (c_zcn : Int → Int → Int → Nat → Ls1 → Ss → Nat → Mi → Option (Ls1)) (h_zcn : (C_zcn FC @XM List.length @XE setO E_e0 E_e6 E_e7 c_zcn)) (Ad : Nat) (Aa : Ss) (Ae : Nat) (L3 : Mi) : H_zcn_17 AT @XM List.length @XE setO E_e0 E_e6 E_e7 m n0 n1 n2 n3 k0 k1 k2 k3 Ad Aa Ae L3 (p_zcn_17 c_zcn Ad Aa Ae L3) := (o_zcn_17 LW rfl rfl HA HZ p_zcy p_zch c_zcn s_zcy s_zch h_zcn m n0 n1 n2 n3 k0 k1 k2 k3 Ad Aa Ae L3 hl0 hl1 hl2 hl3 Al Ao Aq Ar At Au (s_zcn_18 m n0 n1 n2 n3 k0 k1 k2 k3 hl0 hl1 hl2 hl3 Al Ao Aq Ar At Au c_zcn h_zcn Ad Aa Ae L3))
theorem s_zcn_0 (c_zcn : Int → Int → Int → Nat → Ls1 → Ss → Nat → Mi → Option (Ls1)) (h_zcn : (C_zcn FC @XM List.length @XE setO E_e0 E_e6 E_e7 c_zcn)) (Ad : Nat) (Aa : Ss) (Ae : Nat) (L3 : Mi) : H_zcn_0 AT @XM List.length @XE setO E_e0 E_e6 E_e7 m n0 n1 n2 n3 k0 k1 k2 k3 Ad Aa Ae L3 (p_zcn_0 c_zcn Ad Aa Ae L3) := (o_zcn_0 LW rfl rfl HA HZ p_zcy p_zch c_zcn s_zcy s_zch h_zcn m n0 n1 n2 n3 k0 k1 k2 k3 Ad Aa Ae L3 hl0 hl1 hl2 hl3 Al Ao Aq Ar At Au (s_zcn_1 m n0 n1 n2 n3 k0 k1 k2 k3 hl0 hl1 hl2 hl3 Al Ao Aq Ar At Au c_zcn h_zcn Ad Aa Ae L3) (s_zcn_9 m n0 n1 n2 n3 k0 k1 k2 k3 hl0 hl1 hl2 hl3 Al Ao Aq Ar At Au c_zcn h_zcn Ad Aa Ae L3) (s_zcn_17 m n0 n1 n2 n3 k0 k1 k2 k3 hl0 hl1 hl2 hl3 Al Ao Aq Ar At Au c_zcn h_zcn Ad Aa Ae L3))
end
def pk_zcn : Nat → (Int → Int → Int → Nat → Ls1 → Ss → Nat → Mi → Option (Ls1))
  | 0 => fun _ _ _ _ _ _ _ _ => none
  | k + 1 => fun v1 v2 v3 Ad L0 Aa Ae L3 => p_zcn_0 ((pk_zcn k)) Ad Aa Ae L3 (v1, v2, v3, L0)
theorem sk_zcn : ∀ k, ((C_zcn FC @XM List.length @XE setO E_e0 E_e6 E_e7 ((pk_zcn k)))) ∧ True
  | 0 => by
    refine ⟨?_, trivial⟩
    · intro _ _ _ _ _ _ _ _ _ hp; exact nomatch (show none = some _ from hp)
  | k + 1 => by
    obtain ⟨ih0, _⟩ := sk_zcn k
    refine ⟨?_, trivial⟩
    · intro v1 v2 v3 Ad L0 Aa Ae L3 _ hp stk n0 k0 n1 k1 n2 k2 n3 k3 hg0 hg1 hg2 hg3 hl0 hl1 hl2 hl3 Al Ao Aq Ar At Au
      exact fcall_of (T := table) (G := glob) (f := 78) rfl rfl (HdG.on (s_zcn_0 (topN stk + 1) n0 n1 n2 n3 k0 k1 k2 k3 (Nat.lt_succ_of_le hl0) (Nat.lt_succ_of_le hl1) (Nat.lt_succ_of_le hl2) (Nat.lt_succ_of_le hl3) Al Ao Aq Ar At Au ((pk_zcn k)) ih0 Ad Aa Ae L3) (v1, v2, v3, L0) hp stk ⟨hg0, hg1, hg2, hg3, trivial⟩)
def p_zcn : Int → Int → Int → Nat → Ls1 → Ss → Nat → Mi → Option (Ls1) := (pk_zcn 1000000)
theorem s_zcn : (C_zcn FC @XM List.length @XE setO E_e0 E_e6 E_e7 p_zcn) := (sk_zcn 1000000).1
def p_zcj_9 (Ad : Nat) (Aa : Ss) (Ae : Nat) (L3 : Mi) : T_zcj_9 → Option (T_zcj_4 ⊕ R_zcj) := (b_zcj_9 Prims.real p_zcf p_zcn Ad Aa Ae L3 )
def p_zcj_6 (Ad : Nat) (Aa : Ss) (Ae : Nat) (L3 : Mi) : T_zcj_6 → Option (T_zcj_4 ⊕ R_zcj) := Prims.real.loop (b_zcj_6 Prims.real p_zcf p_zcn Ad Aa Ae L3 (p_zcj_9 Ad Aa Ae L3))
theorem u_zcj_6 (Ad : Nat) (Aa : Ss) (Ae : Nat) (L3 : Mi) (s : T_zcj_6) : p_zcj_6 Ad Aa Ae L3 s = (match b_zcj_6 Prims.real p_zcf p_zcn Ad Aa Ae L3 (p_zcj_9 Ad Aa Ae L3) s with | some (.inl t) => p_zcj_6 Ad Aa Ae L3 t | some (.inr r) => some r | none => none) := (Pr.loop_eq' _ s).trans (by rcases b_zcj_6 Prims.real p_zcf p_zcn Ad Aa Ae L3 (p_zcj_9 Ad Aa Ae L3) s with _|_|_ <;> rfl)
def p_zcj_4 (Ad : Nat) (Aa : Ss) (Ae : Nat) (L3 : Mi) : T_zcj_4 → Option R_zcj := Prims.real.loop (b_zcj_4 Prims.real p_zcf p_zcn Ad Aa Ae L3 (p_zcj_6 Ad Aa Ae L3))
theorem u_zcj_4 (Ad : Nat) (Aa : Ss) (Ae : Nat) (L3 : Mi) (s : T_zcj_4) : p_zcj_4 Ad Aa Ae L3 s = (match b_zcj_4 Prims.real p_zcf p_zcn Ad Aa Ae L3 (p_zcj_6 Ad Aa Ae L3) s with | some (.inl t) => p_zcj_4 Ad Aa Ae L3 t | some (.inr r) => some r | none => none) := (Pr.loop_eq' _ s).trans (by rcases b_zcj_4 Prims.real p_zcf p_zcn Ad Aa Ae L3 (p_zcj_6 Ad Aa Ae L3) s with _|_|_ <;> rfl)
def p_zcj_1 (Ad : Nat) (Aa : Ss) (Ae : Nat) (L3 : Mi) : T_zcj_1 → Option R_zcj := Prims.real.loop (b_zcj_1 Prims.real p_zcf p_zcn Ad Aa Ae L3 (p_zcj_4 Ad Aa Ae L3))
theorem u_zcj_1 (Ad : Nat) (Aa : Ss) (Ae : Nat) (L3 : Mi) (s : T_zcj_1) : p_zcj_1 Ad Aa Ae L3 s = (match b_zcj_1 Prims.real p_zcf p_zcn Ad Aa Ae L3 (p_zcj_4 Ad Aa Ae L3) s with | some (.inl t) => p_zcj_1 Ad Aa Ae L3 t | some (.inr r) => some r | none => none) := (Pr.loop_eq' _ s).trans (by rcases b_zcj_1 Prims.real p_zcf p_zcn Ad Aa Ae L3 (p_zcj_4 Ad Aa Ae L3) s with _|_|_ <;> rfl)
def p_zcj_0 (Ad : Nat) (Aa : Ss) (Ae : Nat) (L3 : Mi) : T_zcj_0 → Option R_zcj := (b_zcj_0 Prims.real p_zcf p_zcn Ad Aa Ae L3 (p_zcj_1 Ad Aa Ae L3))
section
variable (m : Nat) (n0 n1 n2 n3 : Nat) (k0 k1 k2 k3 : Kl) (hl0 : n0 < m) (hl1 : n1 < m) (hl2 : n2 < m) (hl3 : n3 < m) (Al : NE n0 k0 n1 k1) (Ao : NE n0 k0 n2 k2) (Aq : NE n0 k0 n3 k3) (Ar : NE n1 k1 n2 k2) (At : NE n1 k1 n3 k3) (Au : NE n2 k2 n3 k3)
include m n0 n1 n2 n3 k0 k1 k2 k3 hl0 hl1 hl2 hl3 Al Ao Aq Ar At Au
theorem s_zcj_9 (Ad : Nat) (Aa : Ss) (Ae : Nat) (L3 : Mi) : H_zcj_9 AT @XM List.length @XE setO E_e0 E_e6 E_e7 m n0 n1 n2 n3 k0 k1 k2 k3 Ad Aa Ae L3 (p_zcj_9 Ad Aa Ae L3) := (o_zcj_9 LW rfl rfl HA HZ p_zcf p_zcn s_zcf s_zcn m n0 n1 n2 n3 k0 k1 k2 k3 Ad Aa Ae L3 hl0 hl1 hl2 hl3 Al Ao Aq Ar At Au )
theorem s_zcj_6 (Ad : Nat) (Aa : Ss) (Ae : Nat) (L3 : Mi) : H_zcj_6 AT @XM List.length @XE setO E_e0 E_e6 E_e7 m n0 n1 n2 n3 k0 k1 k2 k3 Ad Aa Ae L3 (p_zcj_6 Ad Aa Ae L3) := by
  refine loopG (U := fun (L0', v1', v6', v7', v8') stk => (setO stk ⟨n0, k0⟩ (.arr Ad 6 (List.map E_e0 L0')))) (fun ⟨L0', v1', v6', v7', v8'⟩ _ => rfl) (fun s t stk hg => ?_) (fun t r stk => ?_) (o_zcj_6 LW rfl rfl HA HZ p_zcf p_zcn s_zcf s_zcn m n0 n1 n2 n3 k0 k1 k2 k3 Ad Aa Ae L3 hl0 hl1 hl2 hl3 Al Ao Aq Ar At Au (s_zcj_9 m n0 n1 n2 n3 k0 k1 k2 k3 hl0 hl1 hl2 hl3 Al Ao Aq Ar At Au Ad Aa Ae L3))
  · obtain ⟨L0, v1, v6, v7, v8⟩ := s
    obtain ⟨L0', v1', v6', v7', v8'⟩ := t
    obtain ⟨hg0, hg1, hg2, hg3, _⟩ := hg
    exact ⟨(LW.gs (hg0) _), ((LW.gn (Ne.symm Al) _ _).trans (hg1)), ((LW.gn (Ne.symm Ao) _ _).trans (hg2)), ((LW.gn (Ne.symm Aq) _ _).trans (hg3)), trivial⟩
  · obtain ⟨L0', v1', v6', v7', v8'⟩ := t
    rcases r with ⟨_, _, _⟩ | (_) <;> simp only [LW.so, LW.sc Al, LW.sc Ao, LW.sc Aq, LW.sc Ar, LW.sc At, LW.sc Au, el, O_zcj, B_zcj_4, A_zcj_4]
theorem s_zcj_4 (Ad : Nat) (Aa : Ss) (Ae : Nat) (L3 : Mi) : H_zcj_4 AT @XM List.length @XE setO E_e0 E_e6 E_e7 m n0 n1 n2 n3 k0 k1 k2 k3 Ad Aa Ae L3 (p_zcj_4 Ad Aa Ae L3) := by
  refine loopG (U := fun (L0', v1', v6') stk => (setO stk ⟨n0, k0⟩ (.arr Ad 6 (List.map E_e0 L0')))) (fun ⟨L0', v1', v6'⟩ _ => rfl) (fun s t stk hg => ?_) (fun t r stk => ?_) (o_zcj_4 LW rfl rfl HA HZ p_zcf p_zcn s_zcf s_zcn m n0 n1 n2 n3 k0 k1 k2 k3 Ad Aa Ae L3 hl0 hl1 hl2 hl3 Al Ao Aq Ar At Au (s_zcj_6 m n0 n1 n2 n3 k0 k1 k2 k3 hl0 hl1 hl2 hl3 Al Ao Aq Ar At Au Ad Aa Ae L3))
  · obtain ⟨L0, v1, v6⟩ := s
    obtain ⟨L0', v1', v6'⟩ := t
    obtain ⟨hg0, hg1, hg2, hg3, _⟩ := hg
    exact ⟨(LW.gs (hg0) _), ((LW.gn (Ne.symm Al) _ _).trans (hg1)), ((LW.gn (Ne.symm Ao) _ _).trans (hg2)), ((LW.gn (Ne.symm Aq) _ _).trans (hg3)), trivial⟩
  · obtain ⟨L0', v1', v6'⟩ := t
    rcases r with _ <;> simp only [LW.so, LW.sc Al, LW.sc Ao, LW.sc Aq, LW.sc Ar, LW.sc At, LW.sc Au, el, O_zcj]
theorem s_zcj_1 (Ad : Nat) (Aa : Ss) (Ae : Nat) (L3 : Mi) : H_zcj_1 AT @XM List.length @XE setO E_e0 E_e6 E_e7 m n0 n1 n2 n3 k0 k1 k2 k3 Ad Aa Ae L3 (p_zcj_1 Ad Aa Ae L3) := by
  refine loopG (U := fun (L0', v1', v6', v7', v8') stk => (setO stk ⟨n0, k0⟩ (.arr Ad 6 (List.map E_e0 L0')))) (fun ⟨L0', v1', v6', v7', v8'⟩ _ => rfl) (fun s t stk hg => ?_) (fun t r stk => ?_) (o_zcj_1 LW rfl rfl HA HZ p_zcf p_zcn s_zcf s_zcn m n0 n1 n2 n3 k0 k1 k2 k3 Ad Aa Ae L3 hl0 hl1 hl2 hl3 Al Ao Aq Ar At Au (s_zcj_4 m n0 n1 n2 n3 k0 k1 k2 k3 hl0 hl1 hl2 hl3 Al Ao Aq Ar At Au Ad Aa Ae L3))
  · obtain ⟨L0, v1, v6, v7, v8⟩ := s
    obtain ⟨L0', v1', v6', v7', v8'⟩ := t
    obtain ⟨hg0, hg1, hg2, hg3, _⟩ := hg
    exact ⟨(LW.gs (hg0) _), ((LW.gn (Ne.symm Al) _ _).trans (hg1)), ((LW.gn (Ne.symm Ao) _ _).trans (hg2)), ((LW.gn (Ne.symm Aq) _ _).trans (hg3)), trivial⟩
  · obtain ⟨L0', v1', v6', v7', v8'⟩ := t
    rcases r with _ <;> simp only [LW.so, LW.sc Al, LW.sc Ao, LW.sc Aq, LW.sc Ar, LW.sc At, LW.sc Au, el, O_zcj]
theorem s_zcj_0 (Ad : Nat) (Aa : Ss) (Ae : Nat) (L3 : Mi) : H_zcj_0 AT @XM List.length @XE setO E_e0 E_e6 E_e7 m n0 n1 n2 n3 k0 k1 k2 k3 Ad Aa Ae L3 (p_zcj_0 Ad Aa Ae L3) := (o_zcj_0 LW rfl rfl HA HZ p_zcf p_zcn s_zcf s_zcn m n0 n1 n2 n3 k0 k1 k2 k3 Ad Aa Ae L3 hl0 hl1 hl2 hl3 Al Ao Aq Ar At Au (s_zcj_1 m n0 n1 n2 n3 k0 k1 k2 k3 hl0 hl1 hl2 hl3 Al Ao Aq Ar At Au Ad Aa Ae L3))
end
def p_zcj : Int → Nat → Ls1 → Ss → Nat → Mi → Option (Ls1) := fun v1 Ad L0 Aa Ae L3 => p_zcj_0 Ad Aa Ae L3 (v1, L0)
theorem s_zcj : (C_zcj FC @XM List.length @XE setO E_e0 E_e6 E_e7 p_zcj) := by
  intro v1 Ad L0 Aa Ae L3 _ hp stk n0 k0 n1 k1 n2 k2 n3 k3 hg0 hg1 hg2 hg3 hl0 hl1 hl2 hl3 Al Ao Aq Ar At Au
  exact fcall_of (T := table) (G := glob) (f := 75) rfl rfl (HdG.on (s_zcj_0 (topN stk + 1) n0 n1 n2 n3 k0 k1 k2 k3 (Nat.lt_succ_of_le hl0) (Nat.lt_succ_of_le hl1) (Nat.lt_succ_of_le hl2) (Nat.lt_succ_of_le hl3) Al Ao Aq Ar At Au Ad Aa Ae L3) (v1, L0) hp stk ⟨hg0, hg1, hg2, hg3, trivial⟩)
def p_zcd_0 (Ad : Nat) (Aa : Ss) (Ae : Nat) (L3 : Mi) : T_zcd_0 → Option R_zcd := (b_zcd_0 Prims.real p_zcj Ad Aa Ae L3 )
section
variable (m : Nat) (n0 n1 n2 n3 : Nat) (k0 k1 k2 k3 : Kl) (hl0 : n0 < m) (hl1 : n1 < m) (hl2 : n2 < m) (hl3 : n3 < m) (Al : NE n0 k0 n1 k1) (Ao : NE n0 k0 n2 k2) (Aq : NE n0 k0 n3 k3) (Ar : NE n1 k1 n2 k2) (At : NE n1 k1 n3 k3) (Au : NE n2 k2 n3 k3)
include m n0 n1 n2 n3 k0 k1 k2 k3 hl0 hl1 hl2 hl3 Al Ao Aq Ar At Au
theorem s_zcd_0 (Ad : Nat) (Aa : Ss) (Ae : Nat) (L3 : Mi) : H_zcd_0 AT @XM List.length @XE setO E_e0 E_e6 E_e7 m n0 n1 n2 n3 k0 k1 k2 k3 Ad Aa Ae L3 (p_zcd_0 Ad Aa Ae L3) := (o_zcd_0 LW rfl rfl HA HZ p_zcj s_zcj m n0 n1 n2 n3 k0 k1 k2 k3 Ad Aa Ae L3 hl0 hl1 hl2 hl3 Al Ao Aq Ar At Au )
end
def p_zcd : Nat → Ls1 → Ss → Nat → Mi → Option (Ls1) := fun Ad L0 Aa Ae L3 => p_zcd_0 Ad Aa Ae L3 L0
theorem s_zcd : (C_zcd FC @XM List.length @XE setO E_e0 E_e6 E_e7 p_zcd) := by
  intro Ad L0 Aa Ae L3 _ hp stk n0 k0 n1 k1 n2 k2 n3 k3 hg0 hg1 hg2 hg3 hl0 hl1 hl2 hl3 Al Ao Aq Ar At Au
  exact fcall_of (T := table) (G := glob) (f := 67) rfl rfl (HdG.on (s_zcd_0 (topN stk + 1) n0 n1 n2 n3 k0 k1 k2 k3 (Nat.lt_succ_of_le hl0) (Nat.lt_succ_of_le hl1) (Nat.lt_succ_of_le hl2) (Nat.lt_succ_of_le hl3) Al Ao Aq Ar At Au Ad Aa Ae L3) L0 hp stk ⟨hg0, hg1, hg2, hg3, trivial⟩)
def p_zcu_5 : T_zcu_5 → Option (T_zcx ⊕ R_zcu) := (b_zcu_5 Prims.real p_zdf p_zdb p_zcd )
def p_zcx : T_zcx → Option R_zcu := Prims.real.loop (b_zcx Prims.real p_zdf p_zdb p_zcd p_zcu_5)
theorem u_zcx (s : T_zcx) : p_zcx s = (match b_zcx Prims.real p_zdf p_zdb p_zcd p_zcu_5 s with | some (.inl t) => p_zcx t | some (.inr r) => some r | none => none) := (Pr.loop_eq' _ s).trans (by rcases b_zcx Prims.real p_zdf p_zdb p_zcd p_zcu_5 s with _|_|_ <;> rfl)
def p_zcu_0 : T_zcu_0 → Option R_zcu := (b_zcu_0 Prims.real p_zdf p_zdb p_zcd p_zcx)
theorem s_zcu_5 (m : Nat) : H_zcu_5 AT @XM @XE E_e3 E_e0 E_e6 E_e7 m (p_zcu_5 ) := (o_zcu_5 LW rfl rfl HA HZ p_zdf p_zdb p_zcd s_zdf s_zdb s_zcd m )
theorem s_zcx (m : Nat) : H_zcx AT @XM @XE E_e3 E_e0 E_e6 E_e7 m (p_zcx ) := loopH (o_zcx LW rfl rfl HA HZ p_zdf p_zdb p_zcd s_zdf s_zdb s_zcd m (s_zcu_5 m ))
theorem s_zcu_0 (m : Nat) : H_zcu_0 AT @XM E_e3 E_e0 E_e7 m (p_zcu_0 ) := (o_zcu_0 LW rfl rfl HA HZ p_zdf p_zdb p_zcd s_zdf s_zdb s_zcd m (s_zcx m ))
def p_zcu : S1_ → Ss → Option (S1_ × Int) := fun ⟨Af, Ak, Aj, Ah, Ai⟩ v1 => p_zcu_0 (Af, Ak, Aj, Ah, Ai, v1)
theorem s_zcu : (C_zcu PC FC @XM E_e3 E_e0 E_e7 p_zcu) := by
  intro Af Ak Aj Ah Ai v1 _ _ _ _ _ _ hp stk
  exact pf_of (T := table) (G := glob) (f := 38) rfl rfl (Hd.on (s_zcu_0 (topN stk + 1) ) (Af, Ak, Aj, Ah, Ai, v1) hp stk )
def p_zy_6 (c_zy : S1_ → S1_ → Option (Bool)) : T_zy_6 → Option R_zy := Prims.real.loop (b_zy_6 Prims.real c_zy )
theorem u_zy_6 (c_zy : S1_ → S1_ → Option (Bool)) (s : T_zy_6) : p_zy_6 c_zy s = (match b_zy_6 Prims.real c_zy s with | some (.inl t) => p_zy_6 c_zy t | some (.inr r) => some r | none => none) := (Pr.loop_eq' _ s).trans (by rcases b_zy_6 Prims.real c_zy s with _|_|_ <;> rfl)
def p_zy_2 (c_zy : S1_ → S1_ → Option (Bool)) : T_zy_2 → Option R_zy := Prims.real.loop (b_zy_2 Prims.real c_zy (p_zy_6 c_zy ))
theorem u_zy_2 (c_zy : S1_ → S1_ → Option (Bool)) (s : T_zy_2) : p_zy_2 c_zy s = (match b_zy_2 Prims.real c_zy (p_zy_6 c_zy ) s with | some (.inl t) => p_zy_2 c_zy t | some (.inr r) => some r | none => none) := (Pr.loop_eq' _ s).trans (by rcases b_zy_2 Prims.real c_zy (p_zy_6 c_zy ) s with _|_|_ <;> rfl)
def p_zy_0 (c_zy : S1_ → S1_ → Option (Bool)) : T_zy_0 → Option R_zy := (b_zy_0 Prims.real c_zy (p_zy_2 c_zy ))
theorem s_zy_6 (c_zy : S1_ → S1_ → Option (Bool)) (h_zy : (C_zy PC FC @XM E_e3 E_e0 c_zy)) (m : Nat) : H_zy_6 AT @XM E_e3 E_e0 m (p_zy_6 c_zy ) := loopH (o_zy_6 LW rfl rfl HA HZ c_zy h_zy m )
theorem s_zy_2 (c_zy : S1_ → S1_ → Option (Bool)) (h_zy : (C_zy PC FC @XM E_e3 E_e0 c_zy)) (m : Nat) : H_zy_2 AT @XM E_e3 E_e0 m (p_zy_2 c_zy ) := loopH (o_zy_2 LW rfl rfl HA HZ c_zy h_zy m (s_zy_6 c_zy h_zy m ))
theorem s_zy_0 (c_zy : S1_ → S1_ → Option (Bool)) (h_zy : (C_zy PC FC @XM E_e3 E_e0 c_zy)) (m : Nat) : H_zy_0 AT @XM E_e3 E_e0 m (p_zy_0 c_zy ) := (o_zy_0 LW rfl rfl HA HZ c_zy h_zy m (s_zy_2 c_zy h_zy m ))
def pk_zy : Nat → (S1_ → S1_ → Option (Bool))
  | 0 => fun _ _ => none
  | k + 1 => fun ⟨Af, Ak, Aj, Ah, Ai⟩ ⟨A3, Be, Bf, Bg, Bd⟩ => p_zy_0 ((pk_zy k)) (Af, Ak, Aj, Ah, Ai, A3, Be, Bf, Bg, Bd)
theorem sk_zy : ∀ k, ((C_zy PC FC @XM E_e3 E_e0 ((pk_zy k)))) ∧ True
  | 0 => by
    refine ⟨?_, trivial⟩
    · intro _ _ _ _ _ _ _ _ _ _ _ hp; exact nomatch (show none = some _ from hp)
  | k + 1 => by
    obtain ⟨ih0, _⟩ := sk_zy k
    refine ⟨?_, trivial⟩
    · intro Af Ak Aj Ah Ai A3 Be Bf Bg Bd _ hp stk
      exact pf_of (T := table) (G := glob) (f := 19) rfl rfl (Hd.on (s_zy_0 ((pk_zy k)) ih0 (topN stk + 1) ) (Af, Ak, Aj, Ah, Ai, A3, Be, Bf, Bg, Bd) hp stk )
def p_zy : S1_ → S1_ → Option (Bool) := (pk_zy 1000000)
theorem s_zy : (C_zy PC FC @XM E_e3 E_e0 p_zy) := (sk_zy 1000000).1
def p_zk_0 : T_zk_0 → Option R_zk := (b_zk_0 Prims.real p_zy )
theorem s_zk_0 (m : Nat) : H_zk_0 AT @XM E_e3 E_e0 m (p_zk_0 ) := (o_zk_0 LW rfl rfl HA HZ p_zy s_zy m )
def p_zk : S1_ → Option (Bool) := fun ⟨Af, Ak, Aj, Ah, Ai⟩ => p_zk_0 (Af, Ak, Aj, Ah, Ai)
theorem s_zk : (C_zk PC FC @XM E_e3 E_e0 p_zk) := by
  intro Af Ak Aj Ah Ai _ hp stk
  exact pf_of (T := table) (G := glob) (f := 20) rfl rfl (Hd.on (s_zk_0 (topN stk + 1) ) (Af, Ak, Aj, Ah, Ai) hp stk )
def p_zr_11 : T_zr_11 → Option R_zr := (b_zr_11 Prims.real )
def p_zr_6 : T_zr_6 → Option R_zr := Prims.real.loop (b_zr_6 Prims.real p_zr_11)
theorem u_zr_6 (s : T_zr_6) : p_zr_6 s = (match b_zr_6 Prims.real p_zr_11 s with | some (.inl t) => p_zr_6 t | some (.inr r) => some r | none => none) := (Pr.loop_eq' _ s).trans (by rcases b_zr_6 Prims.real p_zr_11 s with _|_|_ <;> rfl)
def p_zr_4 : T_zr_4 → Option R_zr := (b_zr_4 Prims.real p_zr_6)
def p_zr_3 : T_zr_3 → Option R_zr := (b_zr_3 Prims.real p_zr_4)
def p_zr_2 : T_zr_2 → Option R_zr := (b_zr_2 Prims.real p_zr_3)
def p_zr_0 : T_zr_0 → Option R_zr := (b_zr_0 Prims.real p_zr_2)
theorem s_zr_11 (m : Nat) : H_zr_11 AT m (p_zr_11 ) := (o_zr_11 LW rfl rfl HA HZ m )
theorem s_zr_6 (m : Nat) : H_zr_6 AT m (p_zr_6 ) := loopH (o_zr_6 LW rfl rfl HA HZ m (s_zr_11 m ))
theorem s_zr_4 (m : Nat) : H_zr_4 AT m (p_zr_4 ) := (o_zr_4 LW rfl rfl HA HZ m (s_zr_6 m ))
theorem s_zr_3 (m : Nat) : H_zr_3 AT m (p_zr_3 ) := (o_zr_3 LW rfl rfl HA HZ m (s_zr_4 m ))
theorem s_zr_2 (m : Nat) : H_zr_2 AT m (p_zr_2 ) := (o_zr_2 LW rfl rfl HA HZ m (s_zr_3 m ))
theorem s_zr_0 (m : Nat) : H_zr_0 AT m (p_zr_0 ) := (o_zr_0 LW rfl rfl HA HZ m (s_zr_2 m ))
def p_zr : Str → Int → Option (Int × Int) := fun v0 v1 => p_zr_0 (v0, v1)
theorem s_zr : (C_zr PC FC p_zr) := by
  intro v0 v1 _ _ hp stk
  exact pf_of (T := table) (G := glob) (f := 71) rfl rfl (Hd.on (s_zr_0 (topN stk + 1) ) (v0, v1) hp stk )
def p_zp_1 : T_zp_1 → Option R_zp := Prims.real.loop (b_zp_1 Prims.real p_zr )
theorem u_zp_1 (s : T_zp_1) : p_zp_1 s = (match b_zp_1 Prims.real p_zr s with | some (.inl t) => p_zp_1 t | some (.inr r) => some r | none => none) := (Pr.loop_eq' _ s).trans (by rcases b_zp_1 Prims.real p_zr s with _|_|_ <;> rfl)
def p_zp_0 : T_zp_0 → Option R_zp := (b_zp_0 Prims.real p_zr p_zp_1)
theorem s_zp_1 (m : Nat) : H_zp_1 AT m (p_zp_1 ) := loopH (o_zp_1 LW rfl rfl HA HZ p_zr s_zr m )
theorem s_zp_0 (m : Nat) : H_zp_0 AT m (p_zp_0 ) := (o_zp_0 LW rfl rfl HA HZ p_zr s_zr m (s_zp_1 m ))
def p_zp : Str → Option (Int) := fun v0 => p_zp_0 v0
theorem s_zp : (C_zp PC FC p_zp) := by
  intro v0 _ hp stk
  exact pf_of (T := table) (G := glob) (f := 59) rfl rfl (Hd.on (s_zp_0 (topN stk + 1) ) v0 hp stk )
def p_zq_0 : T_zq_0 → Option R_zq := (b_zq_0 Prims.real p_zp )
theorem s_zq_0 (m : Nat) : H_zq_0 AT m (p_zq_0 ) := (o_zq_0 LW rfl rfl HA HZ p_zp s_zp m )
def p_zq : Str → Option (Bool) := fun v0 => p_zq_0 v0
theorem s_zq : (C_zq PC FC p_zq) := by
  intro v0 _ hp stk
  exact pf_of (T := table) (G := glob) (f := 24) rfl rfl (Hd.on (s_zq_0 (topN stk + 1) ) v0 hp stk )
def p_z2_11 (c_z2 : S1_ → Int → Option (Bool)) : T_z2_11 → Option (T_z2_8 ⊕ R_z2) := Prims.real.loop (b_z2_11 Prims.real p_zq c_z2 )
theorem u_z2_11 (c_z2 : S1_ → Int → Option (Bool)) (s : T_z2_11) : p_z2_11 c_z2 s = (match b_z2_11 Prims.real p_zq c_z2 s with | some (.inl t) => p_z2_11 c_z2 t | some (.inr r) => some r | none => none) := (Pr.loop_eq' _ s).trans (by rcases b_z2_11 Prims.real p_zq c_z2 s with _|_|_ <;> rfl)
def p_z2_8 (c_z2 : S1_ → Int → Option (Bool)) : T_z2_8 → Option R_z2 := Prims.real.loop (b_z2_8 Prims.real p_zq c_z2 (p_z2_11 c_z2 ))
theorem u_z2_8 (c_z2 : S1_ → Int → Option (Bool)) (s : T_z2_8) : p_z2_8 c_z2 s = (match b_z2_8 Prims.real p_zq c_z2 (p_z2_11 c_z2 ) s with | some (.inl t) => p_z2_8 c_z2 t | some (.inr r) => some r | none => none) := (Pr.loop_eq' _ s).trans (by rcases b_z2_8 Prims.real p_zq c_z2 (p_z2_11 c_z2 ) s with _|_|_ <;> rfl)
def p_z2_4 (c_z2 : S1_ → Int → Option (Bool)) : T_z2_4 → Option R_z2 := Prims.real.loop (b_z2_4 Prims.real p_zq c_z2 (p_z2_8 c_z2 ))
theorem u_z2_4 (c_z2 : S1_ → Int → Option (Bool)) (s : T_z2_4) : p_z2_4 c_z2 s = (match b_z2_4 Prims.real p_zq c_z2 (p_z2_8 c_z2 ) s with | some (.inl t) => p_z2_4 c_z2 t | some (.inr r) => some r | none => none) := (Pr.loop_eq' _ s).trans (by rcases b_z2_4 Prims.real p_zq c_z2 (p_z2_8 c_z2 ) s with _|_|_ <;> rfl)
def p_z2_3 (c_z2 : S1_ → Int → Option (Bool)) : T_z2_3 → Option R_z2 := (b_z2_3 Prims.real p_zq c_z2 (p_z2_4 c_z2 ))
def p_z2_2 (c_z2 : S1_ → Int → Option (Bool)) : T_z2_2 → Option R_z2 := (b_z2_2 Prims.real p_zq c_z2 (p_z2_3 c_z2 ))
def p_z2_0 (c_z2 : S1_ → Int → Option (Bool)) : T_z2_0 → Option R_z2 := (b_z2_0 Prims.real p_zq c_z2 (p_z2_2 c_z2 ))
theorem s_z2_11 (c_z2 : S1_ → Int → Option (Bool)) (h_z2 : (C_z2 PC FC @XM E_e3 E_e0 c_z2)) (m : Nat) : H_z2_11 AT @XM E_e3 E_e0 m (p_z2_11 c_z2 ) := loopH (o_z2_11 LW rfl rfl HA HZ p_zq c_z2 s_zq h_z2 m )
theorem s_z2_8 (c_z2 : S1_ → Int → Option (Bool)) (h_z2 : (C_z2 PC FC @XM E_e3 E_e0 c_z2)) (m : Nat) : H_z2_8 AT @XM E_e3 E_e0 m (p_z2_8 c_z2 ) := loopH (o_z2_8 LW rfl rfl HA HZ p_zq c_z2 s_zq h_z2 m (s_z2_11 c_z2 h_z2 m ))
theorem s_z2_4 (c_z2 : S1_ → Int → Option (Bool)) (h_z2 : (C_z2 PC FC @XM E_e3 E_e0 c_z2)) (m : Nat) : H_z2_4 AT @XM E_e3 E_e0 m (p_z2_4 c_z2 ) := loopH (o_z2_4 LW rfl rfl HA HZ p_zq c_z2 s_zq h_z2 m (s_z2_8 c_z2 h_z2 m ))
theorem s_z2_3 (c_z2 : S1_ → Int → Option (Bool)) (h_z2 : (C_z2 PC FC @XM E_e3 E_e0 c_z2)) (m : Nat) : H_z2_3 AT @XM E_e3 E_e0 m (p_z2_3 c_z2 ) := (o_z2_3 LW rfl rfl HA HZ p_zq c_z2 s_zq h_z2 m (s_z2_4 c_z2 h_z2 m ))
theorem s_z2_2 (c_z2 : S1_ → Int → Option (Bool)) (h_z2 : (C_z2 PC FC @XM E_e3 E_e0 c_z2)) (m : Nat) : H_z2_2 AT @XM E_e3 E_e0 m (p_z2_2 c_z2 ) := (o_z2_2 LW rfl rfl HA HZ p_zq c_z2 s_zq h_z2 m (s_z2_3 c_z2 h_z2 m ))
theorem s_z2_0 (c_z2 : S1_ → Int → Option (Bool)) (h_z2 : (C_z2 PC FC @XM E_e3 E_e0 c_z2)) (m : Nat) : H_z2_0 AT @XM E_e3 E_e0 m (p_z2_0 c_z2 ) := (o_z2_0 LW rfl rfl HA HZ p_zq c_z2 s_zq h_z2 m (s_z2_2 c_z2 h_z2 m ))
def pk_z2 : Nat → (S1_ → Int → Option (Bool))
  | 0 => fun _ _ => none
  | k + 1 => fun ⟨Af, Ak, Aj, Ah, Ai⟩ v1 => p_z2_0 ((pk_z2 k)) (Af, Ak, Aj, Ah, Ai, v1)
theorem sk_z2 : ∀ k, ((C_z2 PC FC @XM E_e3 E_e0 ((pk_z2 k)))) ∧ True
  | 0 => by
    refine ⟨?_, trivial⟩
    · intro _ _ _ _ _ _ _ hp; exact nomatch (show none = some _ from hp)
  | k + 1 => by
    obtain ⟨ih0, _⟩ := sk_z2 k
    refine ⟨?_, trivial⟩
    · intro Af Ak Aj Ah Ai v1 _ hp stk
      exact pf_of (T := table) (G := glob) (f := 44) rfl rfl (Hd.on (s_z2_0 ((pk_z2 k)) ih0 (topN stk + 1) ) (Af, Ak, Aj, Ah, Ai, v1) hp stk )
def p_z2 : S1_ → Int → Option (Bool) := (pk_z2 1000000)
theorem s_z2 : (C_z2 PC FC @XM E_e3 E_e0 p_z2) := (sk_z2 1000000).1
def p_zx_0 : T_zx_0 → Option R_zx := (b_zx_0 Prims.real p_z2 )
theorem s_zx_0 (m : Nat) : H_zx_0 AT @XM E_e3 E_e0 m (p_zx_0 ) := (o_zx_0 LW rfl rfl HA HZ p_z2 s_z2 m )
def p_zx : S1_ → Option (Bool) := fun ⟨Af, Ak, Aj, Ah, Ai⟩ => p_zx_0 (Af, Ak, Aj, Ah, Ai)
theorem s_zx : (C_zx PC FC @XM E_e3 E_e0 p_zx) := by
  intro Af Ak Aj Ah Ai _ hp stk
  exact pf_of (T := table) (G := glob) (f := 14) rfl rfl (Hd.on (s_zx_0 (topN stk + 1) ) (Af, Ak, Aj, Ah, Ai) hp stk )
def p_zj_3 : T_zj_3 → Option (T_zj_1 ⊕ R_zj) := Prims.real.loop (b_zj_3 Prims.real )
theorem u_zj_3 (s : T_zj_3) : p_zj_3 s = (match b_zj_3 Prims.real s with | some (.inl t) => p_zj_3 t | some (.inr r) => some r | none => none) := (Pr.loop_eq' _ s).trans (by rcases b_zj_3 Prims.real s with _|_|_ <;> rfl)
def p_zj_1 : T_zj_1 → Option R_zj := Prims.real.loop (b_zj_1 Prims.real p_zj_3)
theorem u_zj_1 (s : T_zj_1) : p_zj_1 s = (match b_zj_1 Prims.real p_zj_3 s with | some (.inl t) => p_zj_1 t | some (.inr r) => some r | none => none) := (Pr.loop_eq' _ s).trans (by rcases b_zj_1 Prims.real p_zj_3 s with _|_|_ <;> rfl)
def p_zj_0 : T_zj_0 → Option R_zj := (b_zj_0 Prims.real p_zj_1)
theorem s_zj_3 (m : Nat) : H_zj_3 AT @XM E_e7 m (p_zj_3 ) := loopH (o_zj_3 LW rfl rfl HA HZ m )
theorem s_zj_1 (m : Nat) : H_zj_1 AT @XM E_e7 m (p_zj_1 ) := loopH (o_zj_1 LW rfl rfl HA HZ m (s_zj_3 m ))
theorem s_zj_0 (m : Nat) : H_zj_0 AT @XM E_e7 m (p_zj_0 ) := (o_zj_0 LW rfl rfl HA HZ m (s_zj_1 m ))
def p_zj : Ss → Option (Bool) := fun v0 => p_zj_0 v0
theorem s_zj : (C_zj PC FC @XM E_e7 p_zj) := by
  intro v0 _ hp stk
  exact pf_of (T := table) (G := glob) (f := 41) rfl rfl (Hd.on (s_zj_0 (topN stk + 1) ) v0 hp stk )
def p_zs_1 : T_zs_1 → Option R_zs := Prims.real.loop (b_zs_1 Prims.real )
theorem u_zs_1 (s : T_zs_1) : p_zs_1 s = (match b_zs_1 Prims.real s with | some (.inl t) => p_zs_1 t | some (.inr r) => some r | none => none) := (Pr.loop_eq' _ s).trans (by rcases b_zs_1 Prims.real s with _|_|_ <;> rfl)
def p_zs_0 : T_zs_0 → Option R_zs := (b_zs_0 Prims.real p_zs_1)
theorem s_zs_1 (m : Nat) : H_zs_1 AT @XM E_e3 E_e0 m (p_zs_1 ) := loopH (o_zs_1 LW rfl rfl HA HZ m )
theorem s_zs_0 (m : Nat) : H_zs_0 AT @XM E_e3 E_e0 m (p_zs_0 ) := (o_zs_0 LW rfl rfl HA HZ m (s_zs_1 m ))
def p_zs : S1_ → Str → Option (Int) := fun ⟨Af, Ak, Aj, Ah, Ai⟩ v1 => p_zs_0 (Af, Ak, Aj, Ah, Ai, v1)
theorem s_zs : (C_zs PC FC @XM E_e3 E_e0 p_zs) := by
  intro Af Ak Aj Ah Ai v1 _ hp stk
  exact pf_of (T := table) (G := glob) (f := 22) rfl rfl (Hd.on (s_zs_0 (topN stk + 1) ) (Af, Ak, Aj, Ah, Ai, v1) hp stk )
def p_zt_1 (Ad : Nat) (L0 : Ls1) : T_zt_1 → Option R_zt := Prims.real.loop (b_zt_1 Prims.real Ad L0 )
theorem u_zt_1 (Ad : Nat) (L0 : Ls1) (s : T_zt_1) : p_zt_1 Ad L0 s = (match b_zt_1 Prims.real Ad L0 s with | some (.inl t) => p_zt_1 Ad L0 t | some (.inr r) => some r | none => none) := (Pr.loop_eq' _ s).trans (by rcases b_zt_1 Prims.real Ad L0 s with _|_|_ <;> rfl)
def p_zt_0 (Ad : Nat) (L0 : Ls1) : T_zt_0 → Option R_zt := (b_zt_0 Prims.real Ad L0 (p_zt_1 Ad L0))
section
variable (m : Nat) (n0 : Nat) (k0 : Kl) (hl0 : n0 < m)
include m n0 k0 hl0
theorem s_zt_1 (Ad : Nat) (L0 : Ls1) : H_zt_1 AT @XM List.length E_e3 E_e0 m n0 k0 Ad L0 (p_zt_1 Ad L0) := loopS (o_zt_1 LW rfl rfl HA HZ m n0 k0 Ad L0 hl0 )
theorem s_zt_0 (Ad : Nat) (L0 : Ls1) : H_zt_0 AT @XM List.length E_e3 E_e0 m n0 k0 Ad L0 (p_zt_0 Ad L0) := (o_zt_0 LW rfl rfl HA HZ m n0 k0 Ad L0 hl0 (s_zt_1 m n0 k0 hl0 Ad L0))
end
def p_zt : Str → Int → Int → Str → Ls0 → Nat → Ls1 → Option (Int) := fun v1 Af Ak Aj Ah Ad L0 => p_zt_0 Ad L0 (v1, Af, Ak, Aj, Ah)
theorem s_zt : (C_zt PC FC @XM List.length E_e3 E_e0 p_zt) := by
  intro v1 Af Ak Aj Ah Ad L0 _ hp stk n0 k0 hg0 hl0
  exact pf_of (T := table) (G := glob) (f := 22) rfl rfl (HdS.on (s_zt_0 (topN stk + 1) n0 k0 (Nat.lt_succ_of_le hl0) Ad L0) (v1, Af, Ak, Aj, Ah) hp stk ⟨hg0, trivial⟩)
def p_zw_3 : T_zw_3 → Option (T_zw_1 ⊕ R_zw) := (b_zw_3 Prims.real p_zs p_zt )
def p_zw_7 : T_zw_7 → Option (T_zw_5 ⊕ R_zw) := (b_zw_7 Prims.real p_zs p_zt )
def p_zw_5 : T_zw_5 → Option R_zw := Prims.real.loop (b_zw_5 Prims.real p_zs p_zt p_zw_7)
theorem u_zw_5 (s : T_zw_5) : p_zw_5 s = (match b_zw_5 Prims.real p_zs p_zt p_zw_7 s with | some (.inl t) => p_zw_5 t | some (.inr r) => some r | none => none) := (Pr.loop_eq' _ s).trans (by rcases b_zw_5 Prims.real p_zs p_zt p_zw_7 s with _|_|_ <;> rfl)
def p_zw_1 : T_zw_1 → Option R_zw := Prims.real.loop (b_zw_1 Prims.real p_zs p_zt p_zw_3 p_zw_5)
theorem u_zw_1 (s : T_zw_1) : p_zw_1 s = (match b_zw_1 Prims.real p_zs p_zt p_zw_3 p_zw_5 s with | some (.inl t) => p_zw_1 t | some (.inr r) => some r | none => none) := (Pr.loop_eq' _ s).trans (by rcases b_zw_1 Prims.real p_zs p_zt p_zw_3 p_zw_5 s with _|_|_ <;> rfl)
def p_zw_0 : T_zw_0 → Option R_zw := (b_zw_0 Prims.real p_zs p_zt p_zw_1)
theorem s_zw_3 (m : Nat) : H_zw_3 AT @XM List.length E_e3 E_e0 E_e7 m (p_zw_3 ) := (o_zw_3 LW rfl rfl HA HZ p_zs p_zt s_zs s_zt m )
theorem s_zw_7 (m : Nat) : H_zw_7 AT @XM List.length E_e3 E_e0 m (p_zw_7 ) := (o_zw_7 LW rfl rfl HA HZ p_zs p_zt s_zs s_zt m )
theorem s_zw_5 (m : Nat) : H_zw_5 AT @XM List.length E_e3 E_e0 m (p_zw_5 ) := loopH (o_zw_5 LW rfl rfl HA HZ p_zs p_zt s_zs s_zt m (s_zw_7 m ))
theorem s_zw_1 (m : Nat) : H_zw_1 AT @XM List.length E_e3 E_e0 E_e7 m (p_zw_1 ) := loopH (o_zw_1 LW rfl rfl HA HZ p_zs p_zt s_zs s_zt m (s_zw_3 m ) (s_zw_5 m ))
theorem s_zw_0 (m : Nat) : H_zw_0 AT @XM E_e3 E_e0 E_e7 m (p_zw_0 ) := (o_zw_0 LW rfl rfl HA HZ p_zs p_zt s_zs s_zt m (s_zw_1 m ))
def p_zw : S1_ → Ss → Option (S1_) := fun ⟨Af, Ak, Aj, Ah, Ai⟩ v1 => p_zw_0 (Af, Ak, Aj, Ah, Ai, v1)
theorem s_zw : (C_zw PC FC @XM E_e3 E_e0 E_e7 p_zw) := by
  intro Af Ak Aj Ah Ai v1 _ _ _ _ _ hp stk
  exact pf_of (T := table) (G := glob) (f := 42) rfl rfl (Hd.on (s_zw_0 (topN stk + 1) ) (Af, Ak, Aj, Ah, Ai, v1) hp stk )
def p_zdd_1 : T_zdd_1 → Option R_zdd := Prims.real.loop (b_zdd_1 Prims.real )
theorem u_zdd_1 (s : T_zdd_1) : p_zdd_1 s = (match b_zdd_1 Prims.real s with | some (.inl t) => p_zdd_1 t | some (.inr r) => some r | none => none) := (Pr.loop_eq' _ s).trans (by rcases b_zdd_1 Prims.real s with _|_|_ <;> rfl)
def p_zdd_0 : T_zdd_0 → Option R_zdd := (b_zdd_0 Prims.real p_zdd_1)
theorem s_zdd_1 (m : Nat) : H_zdd_1 AT @XM E_e3 E_e0 m (p_zdd_1 ) := loopH (o_zdd_1 LW rfl rfl HA HZ m )
theorem s_zdd_0 (m : Nat) : H_zdd_0 AT @XM E_e3 E_e0 m (p_zdd_0 ) := (o_zdd_0 LW rfl rfl HA HZ m (s_zdd_1 m ))
def p_zdd : S1_ → Str → Option (S1_ × Bool) := fun ⟨Af, Ak, Aj, Ah, Ai⟩ v1 => p_zdd_0 (Af, Ak, Aj, Ah, Ai, v1)
theorem s_zdd : (C_zdd PC FC @XM E_e3 E_e0 p_zdd) := by
  intro Af Ak Aj Ah Ai v1 _ _ _ _ _ _ hp stk
  exact pf_of (T := table) (G := glob) (f := 55) rfl rfl (Hd.on (s_zdd_0 (topN stk + 1) ) (Af, Ak, Aj, Ah, Ai, v1) hp stk )
def p_zb6_2 (c_zc9 : S1_ → S1_ → Option (Bool)) : T_zb6_2 → Option R_zb6 := Prims.real.loop (b_zb6_2 Prims.real c_zc9 )
theorem u_zb6_2 (c_zc9 : S1_ → S1_ → Option (Bool)) (s : T_zb6_2) : p_zb6_2 c_zc9 s = (match b_zb6_2 Prims.real c_zc9 s with | some (.inl t) => p_zb6_2 c_zc9 t | some (.inr r) => some r | none => none) := (Pr.loop_eq' _ s).trans (by rcases b_zb6_2 Prims.real c_zc9 s with _|_|_ <;> rfl)
def p_zb6_0 (c_zc9 : S1_ → S1_ → Option (Bool)) : T_zb6_0 → Option R_zb6 := (b_zb6_0 Prims.real c_zc9 (p_zb6_2 c_zc9 ))
theorem s_zb6_2 (c_zc9 : S1_ → S1_ → Option (Bool)) (h_zc9 : (C_zc9 PC FC @XM E_e3 E_e0 c_zc9)) (m : Nat) : H_zb6_2 AT @XM E_e3 m (p_zb6_2 c_zc9 ) := loopH (o_zb6_2 LW rfl rfl HA HZ c_zc9 h_zc9 m )
theorem s_zb6_0 (c_zc9 : S1_ → S1_ → Option (Bool)) (h_zc9 : (C_zc9 PC FC @XM E_e3 E_e0 c_zc9)) (m : Nat) : H_zb6_0 AT @XM E_e3 m (p_zb6_0 c_zc9 ) := (o_zb6_0 LW rfl rfl HA HZ c_zc9 h_zc9 m (s_zb6_2 c_zc9 h_zc9 m ))
def p_zc9_2 (c_zb6 : Ls0 → Ls0 → Option (Bool)) (c_zc9 : S1_ → S1_ → Option (Bool)) : T_zc9_2 → Option R_zc9 := Prims.real.loop (b_zc9_2 Prims.real c_zb6 p_zdd c_zc9 )
theorem u_zc9_2 (c_zb6 : Ls0 → Ls0 → Option (Bool)) (c_zc9 : S1_ → S1_ → Option (Bool)) (s : T_zc9_2) : p_zc9_2 c_zb6 c_zc9 s = (match b_zc9_2 Prims.real c_zb6 p_zdd c_zc9 s with | some (.inl t) => p_zc9_2 c_zb6 c_zc9 t | some (.inr r) => some r | none => none) := (Pr.loop_eq' _ s).trans (by rcases b_zc9_2 Prims.real c_zb6 p_zdd c_zc9 s with _|_|_ <;> rfl)
def p_zc9_0 (c_zb6 : Ls0 → Ls0 → Option (Bool)) (c_zc9 : S1_ → S1_ → Option (Bool)) : T_zc9_0 → Option R_zc9 := (b_zc9_0 Prims.real c_zb6 p_zdd c_zc9 (p_zc9_2 c_zb6 c_zc9 ))
theorem s_zc9_2 (c_zb6 : Ls0 → Ls0 → Option (Bool)) (c_zc9 : S1_ → S1_ → Option (Bool)) (h_zb6 : (C_zb6 PC FC @XM E_e3 c_zb6)) (h_zc9 : (C_zc9 PC FC @XM E_e3 E_e0 c_zc9)) (m : Nat) : H_zc9_2 AT @XM E_e3 E_e0 m (p_zc9_2 c_zb6 c_zc9 ) := loopH (o_zc9_2 LW rfl rfl HA HZ c_zb6 p_zdd c_zc9 h_zb6 s_zdd h_zc9 m )
theorem s_zc9_0 (c_zb6 : Ls0 → Ls0 → Option (Bool)) (c_zc9 : S1_ → S1_ → Option (Bool)) (h_zb6 : (C_zb6 PC FC @XM E_e3 c_zb6)) (h_zc9 : (C_zc9 PC FC @XM E_e3 E_e0 c_zc9)) (m : Nat) : H_zc9_0 AT @XM E_e3 E_e0 m (p_zc9_0 c_zb6 c_zc9 ) := (o_zc9_0 LW rfl rfl HA HZ c_zb6 p_zdd c_zc9 h_zb6 s_zdd h_zc9 m (s_zc9_2 c_zb6 c_zc9 h_zb6 h_zc9 m ))
def pk_zb6 : Nat → (Ls0 → Ls0 → Option (Bool)) × (S1_ → S1_ → Option (Bool))
  | 0 => (fun _ _ => none, fun _ _ => none)
  | k + 1 => (fun v0 v1 => p_zb6_0 ((pk_zb6 k).2) (v0, v1), fun ⟨Af, Ak, Aj, Ah, Ai⟩ ⟨A3, Be, Bf, Bg, Bd⟩ => p_zc9_0 ((pk_zb6 k).1) ((pk_zb6 k).2) (Af, Ak, Aj, Ah, Ai, A3, Be, Bf, Bg, Bd))
theorem sk_zb6 : ∀ k, ((C_zb6 PC FC @XM E_e3 ((pk_zb6 k).1))) ∧ ((C_zc9 PC FC @XM E_e3 E_e0 ((pk_zb6 k).2))) ∧ True
  | 0 => by
    refine ⟨?_, ?_, trivial⟩
    · intro _ _ _ hp; exact nomatch (show none = some _ from hp)
    · intro _ _ _ _ _ _ _ _ _ _ _ hp; exact nomatch (show none = some _ from hp)
  | k + 1 => by
    obtain ⟨ih0, ih1, _⟩ := sk_zb6 k
    refine ⟨?_, ?_, trivial⟩
    · intro v0 v1 _ hp stk
      exact pf_of (T := table) (G := glob) (f := 73) rfl rfl (Hd.on (s_zb6_0 ((pk_zb6 k).2) ih1 (topN stk + 1) ) (v0, v1) hp stk )
    · intro Af Ak Aj Ah Ai A3 Be Bf Bg Bd _ hp stk
      exact pf_of (T := table) (G := glob) (f := 61) rfl rfl (Hd.on (s_zc9_0 ((pk_zb6 k).1) ((pk_zb6 k).2) ih0 ih1 (topN stk + 1) ) (Af, Ak, Aj, Ah, Ai, A3, Be, Bf, Bg, Bd) hp stk )
def p_zc9 : S1_ → S1_ → Option (Bool) := (pk_zb6 1000000).2
theorem s_zc9 : (C_zc9 PC FC @XM E_e3 E_e0 p_zc9) := (sk_zb6 1000000).2.1
def p_zcq_0 : T_zcq_0 → Option R_zcq := (b_zcq_0 Prims.real p_zcz p_zc9 )
theorem s_zcq_0 (m : Nat) : H_zcq_0 AT @XM E_e3 E_e0 m (p_zcq_0 ) := (o_zcq_0 LW rfl rfl HA HZ p_zcz p_zc9 s_zcz s_zc9 m )
def p_zcq : S1_ → S1_ → Option (Bool) := fun ⟨Af, Ak, Aj, Ah, Ai⟩ ⟨A3, Be, Bf, Bg, Bd⟩ => p_zcq_0 (Af, Ak, Aj, Ah, Ai, A3, Be, Bf, Bg, Bd)
theorem s_zcq : (C_zcq PC FC @XM E_e3 E_e0 p_zcq) := by
  intro Af Ak Aj Ah Ai A3 Be Bf Bg Bd _ hp stk
  exact pf_of (T := table) (G := glob) (f := 27) rfl rfl (Hd.on (s_zcq_0 (topN stk + 1) ) (Af, Ak, Aj, Ah, Ai, A3, Be, Bf, Bg, Bd) hp stk )
def p_zb7_2 (c_zdg : S1_ → S1_ → Option (Bool)) : T_zb7_2 → Option R_zb7 := Prims.real.loop (b_zb7_2 Prims.real c_zdg )
def p_zb7_0 (c_zdg : S1_ → S1_ → Option (Bool)) : T_zb7_0 → Option R_zb7 := (b_zb7_0 Prims.real c_zdg (p_zb7_2 c_zdg ))
theorem s_zb7_2 (c_zdg : S1_ → S1_ → Option (Bool)) (h_zdg : (C_zdg PC FC @XM E_e3 E_e0 c_zdg)) (m : Nat) : H_zb7_2 AT @XM E_e3 m (p_zb7_2 c_zdg ) := loopH (o_zb7_2 LW rfl rfl HA HZ c_zdg h_zdg m )
theorem s_zb7_0 (c_zdg : S1_ → S1_ → Option (Bool)) (h_zdg : (C_zdg PC FC @XM E_e3 E_e0 c_zdg)) (m : Nat) : H_zb7_0 AT @XM E_e3 m (p_zb7_0 c_zdg ) := (o_zb7_0 LW rfl rfl HA HZ c_zdg h_zdg m (s_zb7_2 c_zdg h_zdg m ))
def p_zdg_0 (c_zb7 : Ls0 → Ls0 → Option (Bool)) (c_zb4 : Ls1 → Ls1 → Option (Bool)) : T_zdg_0 → Option R_zdg := (b_zdg_0 Prims.real c_zb7 c_zb4 )
theorem s_zdg_0 (c_zb7 : Ls0 → Ls0 → Option (Bool)) (c_zb4 : Ls1 → Ls1 → Option (Bool)) (h_zb7 : (C_zb7 PC FC @XM E_e3 c_zb7)) (h_zb4 : (C_zb4 PC FC @XM E_e0 c_zb4)) (m : Nat) : H_zdg_0 AT @XM E_e3 E_e0 m (p_zdg_0 c_zb7 c_zb4 ) := (o_zdg_0 LW rfl rfl HA HZ c_zb7 c_zb4 h_zb7 h_zb4 m )
def p_zb4_2 (c_zdh : S0_ → S0_ → Option (Bool)) : T_zb4_2 → Option R_zb4 := Prims.real.loop (b_zb4_2 Prims.real c_zdh )
theorem u_zb4_2 (c_zdh : S0_ → S0_ → Option (Bool)) (s : T_zb4_2) : p_zb4_2 c_zdh s = (match b_zb4_2 Prims.real c_zdh s with | some (.inl t) => p_zb4_2 c_zdh t | some (.inr r) => some r | none => none) := (Pr.loop_eq' _ s).trans (by rcases b_zb4_2 Prims.real c_zdh s with _|_|_ <;> rfl)
def p_zb4_0 (c_zdh : S0_ → S0_ → Option (Bool)) : T_zb4_0 → Option R_zb4 := (b_zb4_0 Prims.real c_zdh (p_zb4_2 c_zdh ))
theorem s_zb4_2 (c_zdh : S0_ → S0_ → Option (Bool)) (h_zdh : (C_zdh PC FC @XM E_e3 E_e0 c_zdh)) (m : Nat) : H_zb4_2 AT @XM E_e0 m (p_zb4_2 c_zdh ) := loopH (o_zb4_2 LW rfl rfl HA HZ c_zdh h_zdh m )
theorem s_zb4_0 (c_zdh : S0_ → S0_ → Option (Bool)) (h_zdh : (C_zdh PC FC @XM E_e3 E_e0 c_zdh)) (m : Nat) : H_zb4_0 AT @XM E_e0 m (p_zb4_0 c_zdh ) := (o_zb4_0 LW rfl rfl HA HZ c_zdh h_zdh m (s_zb4_2 c_zdh h_zdh m ))
def p_zdh_0 (c_zdg : S1_ → S1_ → Option (Bool)) : T_zdh_0 → Option R_zdh := (b_zdh_0 Prims.real c_zdg )
theorem s_zdh_0 (c_zdg : S1_ → S1_ → Option (Bool)) (h_zdg : (C_zdg PC FC @XM E_e3 E_e0 c_zdg)) (m : Nat) : H_zdh_0 AT @XM E_e3 E_e0 m (p_zdh_0 c_zdg ) := (o_zdh_0 LW rfl rfl HA HZ c_zdg h_zdg m )
def pk_zb7 : Nat → (Ls0 → Ls0 → Option (Bool)) × (S1_ → S1_ → Option (Bool)) × (Ls1 → Ls1 → Option (Bool)) × (S0_ → S0_ → Option (Bool))
  | 0 => (fun _ _ => none, fun _ _ => none, fun _ _ => none, fun _ _ => none)
  | k + 1 => (fun v0 v1 => p_zb7_0 ((pk_zb7 k).2.1) (v0, v1), fun ⟨Af, Ak, Aj, Ah, Ai⟩ ⟨A3, Be, Bf, Bg, Bd⟩ => p_zdg_0 ((pk_zb7 k).1) ((pk_zb7 k).2.2.1) (Af, Ak, Aj, Ah, Ai, A3, Be, Bf, Bg, Bd), fun v0 v1 => p_zb4_0 ((pk_zb7 k).2.2.2) (v0, v1), fun ⟨Af, ⟨A6, A7, A8, A9, Ba⟩⟩ ⟨A3, ⟨Bl, Bm, Bn, Bo, Bp⟩⟩ => p_zdh_0 ((pk_zb7 k).2.1) (Af, A6, A7, A8, A9, Ba, A3, Bl, Bm, Bn, Bo, Bp))
theorem sk_zb7 : ∀ k, ((C_zb7 PC FC @XM E_e3 ((pk_zb7 k).1))) ∧ ((C_zdg PC FC @XM E_e3 E_e0 ((pk_zb7 k).2.1))) ∧ ((C_zb4 PC FC @XM E_e0 ((pk_zb7 k).2.2.1))) ∧ ((C_zdh PC FC @XM E_e3 E_e0 ((pk_zb7 k).2.2.2))) ∧ True
  | 0 => by
    refine ⟨?_, ?_, ?_, ?_, trivial⟩
    · intro _ _ _ hp; exact nomatch (show none = some _ from hp)
    · intro _ _ _ _ _ _ _ _ _ _ _ hp; exact nomatch (show none = some _ from hp)
    · intro _ _ _ hp; exact nomatch (show none = some _ from hp)
    · intro _ _ _ _ _ _ _ _ _ _ _ _ _ hp; exact nomatch (show none = some _ from hp)
  | k + 1 => by
    obtain ⟨ih0, ih1, ih2, ih3, _⟩ := sk_zb7 k
    refine ⟨?_, ?_, ?_, ?_, trivial⟩
    · intro v0 v1 _ hp stk
      exact pf_of (T := table) (G := glob) (f := 73) rfl rfl (Hd.on (s_zb7_0 ((pk_zb7 k).2.1) ih1 (topN stk + 1) ) (v0, v1) hp stk )
    · intro Af Ak Aj Ah Ai A3 Be Bf Bg Bd _ hp stk
      exact pf_of (T := table) (G := glob) (f := 60) rfl rfl (Hd.on (s_zdg_0 ((pk_zb7 k).1) ((pk_zb7 k).2.2.1) ih0 ih2 (topN stk + 1) ) (Af, Ak, Aj, Ah, Ai, A3, Be, Bf, Bg, Bd) hp stk )
    · intro v0 v1 _ hp stk
      exact pf_of (T := table) (G := glob) (f := 74) rfl rfl (Hd.on (s_zb4_0 ((pk_zb7 k).2.2.2) ih3 (topN stk + 1) ) (v0, v1) hp stk )
    · intro Af A6 A7 A8 A9 Ba A3 Bl Bm Bn Bo Bp _ hp stk
      exact pf_of (T := table) (G := glob) (f := 72) rfl rfl (Hd.on (s_zdh_0 ((pk_zb7 k).2.1) ih1 (topN stk + 1) ) (Af, A6, A7, A8, A9, Ba, A3, Bl, Bm, Bn, Bo, Bp) hp stk )
def p_zdg : S1_ → S1_ → Option (Bool) := (pk_zb7 1000000).2.1
theorem s_zdg : (C_zdg PC FC @XM E_e3 E_e0 p_zdg) := (sk_zb7 1000000).2.1
def p_zc6_0 : T_zc6_0 → Option R_zc6 := (b_zc6_0 Prims.real p_zcz p_zdg )
theorem s_zc6_0 (m : Nat) : H_zc6_0 AT @XM E_e3 E_e0 m (p_zc6_0 ) := (o_zc6_0 LW rfl rfl HA HZ p_zcz p_zdg s_zcz s_zdg m )
def p_zc6 : S1_ → S1_ → Option (Bool) := fun ⟨Af, Ak, Aj, Ah, Ai⟩ ⟨A3, Be, Bf, Bg, Bd⟩ => p_zc6_0 (Af, Ak, Aj, Ah, Ai, A3, Be, Bf, Bg, Bd)
theorem s_zc6 : (C_zc6 PC FC @XM E_e3 E_e0 p_zc6) := by
  intro Af Ak Aj Ah Ai A3 Be Bf Bg Bd _ hp stk
  exact pf_of (T := table) (G := glob) (f := 26) rfl rfl (Hd.on (s_zc6_0 (topN stk + 1) ) (Af, Ak, Aj, Ah, Ai, A3, Be, Bf, Bg, Bd) hp stk )
def p_zb_0 : T_zb_0 → Option R_zb := (b_zb_0 Prims.real p_zg p_zv p_zh p_zcu p_zk p_zx p_zj p_zw p_zy p_zcq p_zc6 )
theorem s_zb_0 (m : Nat) : H_zb_0 AT @XM E_e3 E_e0 E_e7 m (p_zb_0 ) := (o_zb_0 LW rfl rfl HA HZ p_zg p_zv p_zh p_zcu p_zk p_zx p_zj p_zw p_zy p_zcq p_zc6 s_zg s_zv s_zh s_zcu s_zk s_zx s_zj s_zw s_zy s_zcq s_zc6 m )
def p_zb : S1_ → Ss → Option (Bool) := fun ⟨Af, Ak, Aj, Ah, Ai⟩ v1 => p_zb_0 (Af, Ak, Aj, Ah, Ai, v1)
theorem s_zb : (C_zb PC FC @XM E_e3 E_e0 E_e7 p_zb) := by
  intro Af Ak Aj Ah Ai v1 _ hp stk
  exact pf_of (T := table) (G := glob) (f := 11) rfl rfl (Hd.on (s_zb_0 (topN stk + 1) ) (Af, Ak, Aj, Ah, Ai, v1) hp stk )
end
end Go.Abs.T
