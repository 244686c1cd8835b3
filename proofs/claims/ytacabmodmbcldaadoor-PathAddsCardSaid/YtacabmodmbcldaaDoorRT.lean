import Derived.Test.YtacabmodmbcldaaDoorWTb
import Derived.KernelRfl
set_option linter.unusedVariables false
set_option linter.unusedSimpArgs false
namespace Go.Abs.T
set_option maxRecDepth 100000
theorem table_ok : ∀ f kf, table f = some kf → kf.ok = true := by
  intro f kf h
  unfold table at h
  split at h <;> first | (cases h; done) | (cases h; kernel_rfl)
theorem LW : KLaws (oldT table) iterW glob (callW (oldT table) glob) (sysW table glob).pcall (sysW table glob).fcall (sysW table glob).kcall (List.length) (fun xs i => xs[i]?) (fun xs lo hi => (xs.take hi).drop lo) (fun xs ys => xs ++ ys) (fun xs i x => xs.set i x) (fun n x => List.replicate n x) (allSz) (List.length) (fun s i => s[i]?) (fun s lo hi => (s.take hi).drop lo) (fun a b => a ++ b) (fun a b => a == b) (fun a b => Op.bytesLess a b) (fun s => s.map fun b => .int .u8 b.toNat) (bytesOf) (fun s i => Utf8.decode ⟨⟨s⟩⟩ i) (fun n => (Utf8.encode n).data.toList) (intAr) (intCmp) (fun k n => k.wrap n) (fun n => decide (n = 0)) (fun n => decide (n < 0)) (fun n => n.toNat) (fun (n : Nat) => (n : Int)) (fun (b : UInt8) => (b.toNat : Int)) (fun a b => decide (a ≤ b)) (fun a b => a + b) (fun a b => a - b) (fun n b => decide (n * b ≤ room ∧ n ≤ room)) (findE) (Go.Abs.putE) (Go.Abs.findK) (List.length) (frzMap) (sameV) (atW table glob) setO (fun s => topN s + 1) sameStk (fun {_} e l => List.map e l) (fun {_} e l => mapE e l) Pr.quo Pr.shf Pr.slen Pr.sidx Pr.ssub Pr.scat Pr.sit Pr.slist Pr.ofBytes @Pr.len @Pr.idx @Pr.sub @Pr.app @Pr.set @Pr.make @Pr.mfind @Pr.mput @Pr.loop table := KLaws.real (G := glob) table_ok
abbrev XM {α : Type} (e : α → D) (l : List α) : List D := List.map e l
noncomputable section
abbrev XE {α : Type} (e : α → D) (l : List (Str × Nat × α)) := mapE e l
abbrev AT := atW table glob
abbrev PC := (sysW table glob).pcall
abbrev FC := (sysW table glob).fcall
abbrev KC_ := (sysW table glob).kcall
def E_e4 : S1_ → D := fun ⟨x_0, x_1, x_2⟩ => (.agg [(.str x_0), (.int .i64 x_1), (.bool x_2)])
theorem he_E_e4 (x_0 : Str) (x_1 : Int) (x_2 : Bool) : E_e4 ⟨x_0, x_1, x_2⟩ = (.agg [(.str x_0), (.int .i64 x_1), (.bool x_2)]) := rfl
theorem hz_E_e4 (l : List S1_) : allSz 3 (l.map E_e4) = true := LW.allsz E_e4 3 (fun a => ⟨rfl, rfl⟩) l
mutual
def E_e5 : S2_ → D
  | ⟨x_0, x_1, x_2, x_3, x_4⟩ => (.agg [(.int .i64 x_0), (.int .i64 x_1), (.str x_2), (.sl (E_e5_l x_3)), (.sl (E_e1_l x_4))])
def E_e5_l : List S2_ → List D
  | [] => []
  | x :: r => E_e5 x :: E_e5_l r
def E_e1 : S0_ → D
  | ⟨x_0, ⟨x_1_0, x_1_1, x_1_2, x_1_3, x_1_4⟩⟩ => (.agg [(.str x_0), (.int .i64 x_1_0), (.int .i64 x_1_1), (.str x_1_2), (.sl (E_e5_l x_1_3)), (.sl (E_e1_l x_1_4))])
def E_e1_l : List S0_ → List D
  | [] => []
  | x :: r => E_e1 x :: E_e1_l r
end
theorem E_e5_map : ∀ l, E_e5_l l = l.map E_e5
  | [] => by simp only [E_e5_l, List.map_nil]
  | x :: r => by simp only [E_e5_l, List.map_cons, E_e5_map r]
theorem E_e1_map : ∀ l, E_e1_l l = l.map E_e1
  | [] => by simp only [E_e1_l, List.map_nil]
  | x :: r => by simp only [E_e1_l, List.map_cons, E_e1_map r]
theorem he_E_e5 (x_0 x_1 : Int) (x_2 : Str) (x_3 : Ls0) (x_4 : Ls1) : E_e5 ⟨x_0, x_1, x_2, x_3, x_4⟩ = (.agg [(.int .i64 x_0), (.int .i64 x_1), (.str x_2), (.sl (List.map E_e5 x_3)), (.sl (List.map E_e1 x_4))]) := by simp only [E_e5, E_e5_map, E_e1_map]
theorem he_E_e1 (x_0 : Str) (x_1_0 x_1_1 : Int) (x_1_2 : Str) (x_1_3 : Ls0) (x_1_4 : Ls1) : E_e1 ⟨x_0, ⟨x_1_0, x_1_1, x_1_2, x_1_3, x_1_4⟩⟩ = (.agg [(.str x_0), (.int .i64 x_1_0), (.int .i64 x_1_1), (.str x_1_2), (.sl (List.map E_e5 x_1_3)), (.sl (List.map E_e1 x_1_4))]) := by simp only [E_e1, E_e5_map, E_e1_map]
theorem hz_E_e5 (l : List S2_) : allSz 5 (l.map E_e5) = true := LW.allsz E_e5 5 (fun a => by obtain ⟨_, _, _, _, _⟩ := a; rw [he_E_e5]; exact ⟨rfl, rfl⟩) l
theorem hz_E_e1 (l : List S0_) : allSz 6 (l.map E_e1) = true := LW.allsz E_e1 6 (fun a => by obtain ⟨_, ⟨_, _, _, _, _⟩⟩ := a; rw [he_E_e1]; exact ⟨rfl, rfl⟩) l
def E_e8 : Int → D := fun x => (.int .i64 x)
theorem he_E_e8 (x : Int) : E_e8 x = (.int .i64 x) := rfl
theorem hz_E_e8 (l : List Int) : allSz 1 (l.map E_e8) = true := LW.allsz E_e8 1 (fun a => ⟨rfl, rfl⟩) l
def E_e0 : Ls0 → D := fun x => (.sl (List.map E_e5 x))
theorem he_E_e0 (x : Ls0) : E_e0 x = (.sl (List.map E_e5 x)) := rfl
theorem hz_E_e0 (l : List Ls0) : allSz 1 (l.map E_e0) = true := LW.allsz E_e0 1 (fun a => ⟨rfl, rfl⟩) l
theorem HA : (∀ (x_0 : Str) (x_1 : Int) (x_2 : Bool), E_e4 ⟨x_0, x_1, x_2⟩ = (.agg [(.str x_0), (.int .i64 x_1), (.bool x_2)])) ∧ (∀ (x_0 x_1 : Int) (x_2 : Str) (x_3 : Ls0) (x_4 : Ls1), E_e5 ⟨x_0, x_1, x_2, x_3, x_4⟩ = (.agg [(.int .i64 x_0), (.int .i64 x_1), (.str x_2), (.sl (List.map E_e5 x_3)), (.sl (List.map E_e1 x_4))])) ∧ (∀ (x_0 : Str) (x_1_0 x_1_1 : Int) (x_1_2 : Str) (x_1_3 : Ls0) (x_1_4 : Ls1), E_e1 ⟨x_0, ⟨x_1_0, x_1_1, x_1_2, x_1_3, x_1_4⟩⟩ = (.agg [(.str x_0), (.int .i64 x_1_0), (.int .i64 x_1_1), (.str x_1_2), (.sl (List.map E_e5 x_1_3)), (.sl (List.map E_e1 x_1_4))])) ∧ (∀ (x : Int), E_e8 x = (.int .i64 x)) ∧ (∀ (x : Ls0), E_e0 x = (.sl (List.map E_e5 x))) := And.intro @he_E_e4 (And.intro @he_E_e5 (And.intro @he_E_e1 (And.intro @he_E_e8 (@he_E_e0))))
theorem HZ : (∀ l, allSz 3 (List.map E_e4 l) = true) ∧ (∀ l, allSz 5 (List.map E_e5 l) = true) ∧ (∀ l, allSz 6 (List.map E_e1 l) = true) ∧ (∀ l, allSz 1 (List.map E_e8 l) = true) ∧ (∀ l, allSz 1 (List.map E_e0 l) = true) := And.intro @hz_E_e4 (And.intro @hz_E_e5 (And.intro @hz_E_e1 (And.intro @hz_E_e8 (@hz_E_e0))))
def p_zdr : List Ls0 → Option Ls0
  | [a, b] => if (a.length + b.length) * 80 ≤ room then some (a ++ b) else none
  | _ => none
theorem x_zdr {v0 : List Ls0} {r0 : Ls0} (h : p_zdr v0 = some r0) : ext_zdr [.d (.sl (XM E_e0 v0))] = some (.sl (XM E_e5 r0)) := by
  unfold p_zdr at h
  split at h <;> try (cases h; done)
  rename_i a b
  split at h <;> try (cases h; done)
  rename_i hr
  cases h
  have e : ∀ l : Ls0, E_e0 l = .sl (List.map E_e5 l) := fun _ => rfl
  simp only [ext_zdr, XM, List.map_cons, List.map_nil, e, catD]
  rw [if_pos ⟨by simpa using hr, hz_E_e5 a, hz_E_e5 b⟩, List.map_append]
def p_zcs_0 : T_zcs_0 → Option R_zcs := (b_zcs_0 Prims.real )
theorem s_zcs_0 (m : Nat) : H_zcs_0 AT m (p_zcs_0 ) := (o_zcs_0 LW rfl rfl HA HZ m )
def p_zcs : Int → Option (S1_) := fun v0 => p_zcs_0 v0
theorem s_zcs : (C_zcs PC FC p_zcs) := by
  intro v0 _ _ _ hp stk
  exact pf_of (T := table) (G := glob) (f := 29) rfl rfl (Hd.on (s_zcs_0 (topN stk + 1) ) v0 hp stk )
theorem s_zfl : (C_zfl PC FC p_zfl) := by
  intro _ _ _ hp stk
  exact ⟨pcall_ext (T := table) (G := glob) (f := 136) (e := ext_zfl) rfl rfl (x_zfl hp) stk, fcall_ext (T := table) (G := glob) (f := 136) (e := ext_zfl) rfl rfl (x_zfl hp) stk⟩
def p_ze3_1 : T_ze3_1 → Option R_ze3 := Prims.real.loop (b_ze3_1 Prims.real p_zfl )
theorem u_ze3_1 (s : T_ze3_1) : p_ze3_1 s = (match b_ze3_1 Prims.real p_zfl s with | some (.inl t) => p_ze3_1 t | some (.inr r) => some r | none => none) := (Pr.loop_eq' _ s).trans (by rcases b_ze3_1 Prims.real p_zfl s with _|_|_ <;> rfl)
def p_ze3_0 : T_ze3_0 → Option R_ze3 := (b_ze3_0 Prims.real p_zfl p_ze3_1)
theorem s_ze3_1 (m : Nat) : H_ze3_1 AT m (p_ze3_1 ) := loopH (o_ze3_1 LW rfl rfl HA HZ p_zfl s_zfl m )
theorem s_ze3_0 (m : Nat) : H_ze3_0 AT m (p_ze3_0 ) := (o_ze3_0 LW rfl rfl HA HZ p_zfl s_zfl m (s_ze3_1 m ))
def p_ze3 : Str → Option (Int) := fun v0 => p_ze3_0 v0
theorem s_ze3 : (C_ze3 PC FC p_ze3) := by
  intro v0 _ hp stk
  exact pf_of (T := table) (G := glob) (f := 124) rfl rfl (Hd.on (s_ze3_0 (topN stk + 1) ) v0 hp stk )
def p_ze5_0 : T_ze5_0 → Option R_ze5 := (b_ze5_0 Prims.real p_ze3 )
theorem s_ze5_0 (m : Nat) : H_ze5_0 AT m (p_ze5_0 ) := (o_ze5_0 LW rfl rfl HA HZ p_ze3 s_ze3 m )
def p_ze5 : Str → Option (Bool) := fun v0 => p_ze5_0 v0
theorem s_ze5 : (C_ze5 PC FC p_ze5) := by
  intro v0 _ hp stk
  exact pf_of (T := table) (G := glob) (f := 93) rfl rfl (Hd.on (s_ze5_0 (topN stk + 1) ) v0 hp stk )
def p_zc8_0 : T_zc8_0 → Option R_zc8 := (b_zc8_0 Prims.real p_ze5 )
theorem s_zc8_0 (m : Nat) : H_zc8_0 AT m (p_zc8_0 ) := (o_zc8_0 LW rfl rfl HA HZ p_ze5 s_ze5 m )
def p_zc8 : S1_ → Option (Bool) := fun ⟨v0_0, v0_1, v0_2⟩ => p_zc8_0 (v0_0, v0_1, v0_2)
theorem s_zc8 : (C_zc8 PC FC p_zc8) := by
  intro v0_0 v0_1 v0_2 _ hp stk
  exact pf_of (T := table) (G := glob) (f := 52) rfl rfl (Hd.on (s_zc8_0 (topN stk + 1) ) (v0_0, v0_1, v0_2) hp stk )
def p_zcw_0 : T_zcw_0 → Option R_zcw := (b_zcw_0 Prims.real p_zc8 )
theorem s_zcw_0 (m : Nat) : H_zcw_0 AT m (p_zcw_0 ) := (o_zcw_0 LW rfl rfl HA HZ p_zc8 s_zc8 m )
def p_zcw : S1_ → Option (Bool) := fun ⟨v0_0, v0_1, v0_2⟩ => p_zcw_0 (v0_0, v0_1, v0_2)
theorem s_zcw : (C_zcw PC FC p_zcw) := by
  intro v0_0 v0_1 v0_2 _ hp stk
  exact pf_of (T := table) (G := glob) (f := 51) rfl rfl (Hd.on (s_zcw_0 (topN stk + 1) ) (v0_0, v0_1, v0_2) hp stk )
def p_zd6_1 : T_zd6_1 → Option R_zd6 := Prims.real.loop (b_zd6_1 Prims.real p_zcw )
theorem u_zd6_1 (s : T_zd6_1) : p_zd6_1 s = (match b_zd6_1 Prims.real p_zcw s with | some (.inl t) => p_zd6_1 t | some (.inr r) => some r | none => none) := (Pr.loop_eq' _ s).trans (by rcases b_zd6_1 Prims.real p_zcw s with _|_|_ <;> rfl)
def p_zd6_0 : T_zd6_0 → Option R_zd6 := (b_zd6_0 Prims.real p_zcw p_zd6_1)
theorem s_zd6_1 (m : Nat) : H_zd6_1 AT @XM E_e4 m (p_zd6_1 ) := loopH (o_zd6_1 LW rfl rfl HA HZ p_zcw s_zcw m )
theorem s_zd6_0 (m : Nat) : H_zd6_0 AT @XM E_e4 m (p_zd6_0 ) := (o_zd6_0 LW rfl rfl HA HZ p_zcw s_zcw m (s_zd6_1 m ))
def p_zd6 : Ls2 → Option (Int) := fun v0 => p_zd6_0 v0
theorem s_zd6 : (C_zd6 PC FC @XM E_e4 p_zd6) := by
  intro v0 _ hp stk
  exact pf_of (T := table) (G := glob) (f := 92) rfl rfl (Hd.on (s_zd6_0 (topN stk + 1) ) v0 hp stk )
def p_zdv_0 : T_zdv_0 → Option R_zdv := (b_zdv_0 Prims.real p_zd6 )
theorem s_zdv_0 (m : Nat) : H_zdv_0 AT @XM E_e4 m (p_zdv_0 ) := (o_zdv_0 LW rfl rfl HA HZ p_zd6 s_zd6 m )
def p_zdv : Ls2 → Option (Bool) := fun v0 => p_zdv_0 v0
theorem s_zdv : (C_zdv PC FC @XM E_e4 p_zdv) := by
  intro v0 _ hp stk
  exact pf_of (T := table) (G := glob) (f := 50) rfl rfl (Hd.on (s_zdv_0 (topN stk + 1) ) v0 hp stk )
def p_zcv_0 : T_zcv_0 → Option R_zcv := (b_zcv_0 Prims.real p_zdv )
theorem s_zcv_0 (m : Nat) : H_zcv_0 AT @XM E_e4 m (p_zcv_0 ) := (o_zcv_0 LW rfl rfl HA HZ p_zdv s_zdv m )
def p_zcv : Ls2 → Option (Bool) := fun v0 => p_zcv_0 v0
theorem s_zcv : (C_zcv PC FC @XM E_e4 p_zcv) := by
  intro v0 _ hp stk
  exact pf_of (T := table) (G := glob) (f := 19) rfl rfl (Hd.on (s_zcv_0 (topN stk + 1) ) v0 hp stk )
def p_zcz_4 : T_zcz_4 → Option (T_zcz_2 ⊕ R_zcz) := (b_zcz_4 Prims.real p_zcv )
def p_zcz_2 : T_zcz_2 → Option R_zcz := Prims.real.loop (b_zcz_2 Prims.real p_zcv p_zcz_4)
theorem u_zcz_2 (s : T_zcz_2) : p_zcz_2 s = (match b_zcz_2 Prims.real p_zcv p_zcz_4 s with | some (.inl t) => p_zcz_2 t | some (.inr r) => some r | none => none) := (Pr.loop_eq' _ s).trans (by rcases b_zcz_2 Prims.real p_zcv p_zcz_4 s with _|_|_ <;> rfl)
def p_zcz_0 : T_zcz_0 → Option R_zcz := (b_zcz_0 Prims.real p_zcv p_zcz_2)
theorem s_zcz_4 (m : Nat) : H_zcz_4 AT @XM List.length E_e4 E_e5 E_e1 m (p_zcz_4 ) := (o_zcz_4 LW rfl rfl HA HZ p_zcv s_zcv m )
theorem s_zcz_2 (m : Nat) : H_zcz_2 AT @XM List.length E_e4 E_e5 E_e1 m (p_zcz_2 ) := loopH (o_zcz_2 LW rfl rfl HA HZ p_zcv s_zcv m (s_zcz_4 m ))
theorem s_zcz_0 (m : Nat) : H_zcz_0 AT @XM E_e4 E_e5 E_e1 m (p_zcz_0 ) := (o_zcz_0 LW rfl rfl HA HZ p_zcv s_zcv m (s_zcz_2 m ))
def p_zcz : Ls2 → Option (S2_ × Int) := fun v0 => p_zcz_0 v0
theorem s_zcz : (C_zcz PC FC @XM E_e4 E_e5 E_e1 p_zcz) := by
  intro v0 _ _ _ _ _ _ hp stk
  exact pf_of (T := table) (G := glob) (f := 18) rfl rfl (Hd.on (s_zcz_0 (topN stk + 1) ) v0 hp stk )
def p_zo_0 : T_zo_0 → Option R_zo := (b_zo_0 Prims.real p_zcs p_zcz )
theorem s_zo_0 (m : Nat) : H_zo_0 AT m (p_zo_0 ) := (o_zo_0 LW rfl rfl HA HZ p_zcs p_zcz s_zcs s_zcz m )
def p_zo : Option (Bool) := p_zo_0 ()
theorem s_zo : (C_zo PC FC p_zo) := by
  intro _ hp stk
  exact pf_of (T := table) (G := glob) (f := 15) rfl rfl (Hd.on (s_zo_0 (topN stk + 1) ) () hp stk )
def p_z4_10 (c_z4 : S2_ → Int → Option (Int)) : T_z4_10 → Option R_z4 := (b_z4_10 Prims.real c_z4 )
def p_z4_6 (c_z4 : S2_ → Int → Option (Int)) : T_z4_6 → Option R_z4 := Prims.real.loop (b_z4_6 Prims.real c_z4 (p_z4_10 c_z4 ))
theorem u_z4_6 (c_z4 : S2_ → Int → Option (Int)) (s : T_z4_6) : p_z4_6 c_z4 s = (match b_z4_6 Prims.real c_z4 (p_z4_10 c_z4 ) s with | some (.inl t) => p_z4_6 c_z4 t | some (.inr r) => some r | none => none) := (Pr.loop_eq' _ s).trans (by rcases b_z4_6 Prims.real c_z4 (p_z4_10 c_z4 ) s with _|_|_ <;> rfl)
def p_z4_5 (c_z4 : S2_ → Int → Option (Int)) : T_z4_5 → Option R_z4 := (b_z4_5 Prims.real c_z4 (p_z4_6 c_z4 ))
def p_z4_2 (c_z4 : S2_ → Int → Option (Int)) : T_z4_2 → Option R_z4 := Prims.real.loop (b_z4_2 Prims.real c_z4 (p_z4_5 c_z4 ))
theorem u_z4_2 (c_z4 : S2_ → Int → Option (Int)) (s : T_z4_2) : p_z4_2 c_z4 s = (match b_z4_2 Prims.real c_z4 (p_z4_5 c_z4 ) s with | some (.inl t) => p_z4_2 c_z4 t | some (.inr r) => some r | none => none) := (Pr.loop_eq' _ s).trans (by rcases b_z4_2 Prims.real c_z4 (p_z4_5 c_z4 ) s with _|_|_ <;> rfl)
def p_z4_0 (c_z4 : S2_ → Int → Option (Int)) : T_z4_0 → Option R_z4 := (b_z4_0 Prims.real c_z4 (p_z4_2 c_z4 ))
theorem s_z4_10 (c_z4 : S2_ → Int → Option (Int)) (h_z4 : (C_z4 PC FC @XM E_e5 E_e1 c_z4)) (m : Nat) : H_z4_10 AT m (p_z4_10 c_z4 ) := (o_z4_10 LW rfl rfl HA HZ c_z4 h_z4 m )
theorem s_z4_6 (c_z4 : S2_ → Int → Option (Int)) (h_z4 : (C_z4 PC FC @XM E_e5 E_e1 c_z4)) (m : Nat) : H_z4_6 AT @XM E_e5 E_e1 m (p_z4_6 c_z4 ) := loopH (o_z4_6 LW rfl rfl HA HZ c_z4 h_z4 m (s_z4_10 c_z4 h_z4 m ))
theorem s_z4_5 (c_z4 : S2_ → Int → Option (Int)) (h_z4 : (C_z4 PC FC @XM E_e5 E_e1 c_z4)) (m : Nat) : H_z4_5 AT @XM E_e5 E_e1 m (p_z4_5 c_z4 ) := (o_z4_5 LW rfl rfl HA HZ c_z4 h_z4 m (s_z4_6 c_z4 h_z4 m ))
theorem s_z4_2 (c_z4 : S2_ → Int → Option (Int)) (h_z4 : (C_z4 PC FC @XM E_e5 E_e1 c_z4)) (m : Nat) : H_z4_2 AT @XM E_e5 E_e1 m (p_z4_2 c_z4 ) := loopH (o_z4_2 LW rfl rfl HA HZ c_z4 h_z4 m (s_z4_5 c_z4 h_z4 m ))
theorem s_z4_0 (c_z4 : S2_ → Int → Option (Int)) (h_z4 : (C_z4 PC FC @XM E_e5 E_e1 c_z4)) (m : Nat) : H_z4_0 AT @XM E_e5 E_e1 m (p_z4_0 c_z4 ) := (o_z4_0 LW rfl rfl HA HZ c_z4 h_z4 m (s_z4_2 c_z4 h_z4 m ))
def pk_z4 : Nat → (S2_ → Int → Option (Int))
  | 0 => fun _ _ => none
  | k + 1 => fun ⟨v0_0, v0_1, v0_2, v0_3, v0_4⟩ v1 => p_z4_0 ((pk_z4 k)) (v0_0, v0_1, v0_2, v0_3, v0_4, v1)
theorem sk_z4 : ∀ k, ((C_z4 PC FC @XM E_e5 E_e1 ((pk_z4 k)))) ∧ True
  | 0 => by
    refine ⟨?_, trivial⟩
    · intro _ _ _ _ _ _ _ hp; exact nomatch (show none = some _ from hp)
  | k + 1 => by
    obtain ⟨ih0, _⟩ := sk_z4 k
    refine ⟨?_, trivial⟩
    · intro v0_0 v0_1 v0_2 v0_3 v0_4 v1 _ hp stk
      exact pf_of (T := table) (G := glob) (f := 54) rfl rfl (Hd.on (s_z4_0 ((pk_z4 k)) ih0 (topN stk + 1) ) (v0_0, v0_1, v0_2, v0_3, v0_4, v1) hp stk )
def p_z4 : S2_ → Int → Option (Int) := (pk_z4 1000000)
theorem s_z4 : (C_z4 PC FC @XM E_e5 E_e1 p_z4) := (sk_z4 1000000).1
def p_z0_0 : T_z0_0 → Option R_z0 := (b_z0_0 Prims.real p_z4 )
theorem s_z0_0 (m : Nat) : H_z0_0 AT @XM E_e5 E_e1 m (p_z0_0 ) := (o_z0_0 LW rfl rfl HA HZ p_z4 s_z4 m )
def p_z0 : S2_ → Int → Option (Bool) := fun ⟨v0_0, v0_1, v0_2, v0_3, v0_4⟩ v1 => p_z0_0 (v0_0, v0_1, v0_2, v0_3, v0_4, v1)
theorem s_z0 : (C_z0 PC FC @XM E_e5 E_e1 p_z0) := by
  intro v0_0 v0_1 v0_2 v0_3 v0_4 v1 _ hp stk
  exact pf_of (T := table) (G := glob) (f := 25) rfl rfl (Hd.on (s_z0_0 (topN stk + 1) ) (v0_0, v0_1, v0_2, v0_3, v0_4, v1) hp stk )
def p_z7_4 : T_z7_4 → Option R_z7 := (b_z7_4 Prims.real )
def p_z7_1 : T_z7_1 → Option R_z7 := Prims.real.loop (b_z7_1 Prims.real p_z7_4)
theorem u_z7_1 (s : T_z7_1) : p_z7_1 s = (match b_z7_1 Prims.real p_z7_4 s with | some (.inl t) => p_z7_1 t | some (.inr r) => some r | none => none) := (Pr.loop_eq' _ s).trans (by rcases b_z7_1 Prims.real p_z7_4 s with _|_|_ <;> rfl)
def p_z7_0 : T_z7_0 → Option R_z7 := (b_z7_0 Prims.real p_z7_1)
theorem s_z7_4 (m : Nat) : H_z7_4 AT @XM E_e4 m (p_z7_4 ) := (o_z7_4 LW rfl rfl HA HZ m )
theorem s_z7_1 (m : Nat) : H_z7_1 AT @XM E_e4 m (p_z7_1 ) := loopH (o_z7_1 LW rfl rfl HA HZ m (s_z7_4 m ))
theorem s_z7_0 (m : Nat) : H_z7_0 AT @XM E_e4 m (p_z7_0 ) := (o_z7_0 LW rfl rfl HA HZ m (s_z7_1 m ))
def p_z7 : Ls2 → Option (Bool) := fun v0 => p_z7_0 v0
theorem s_z7 : (C_z7 PC FC @XM E_e4 p_z7) := by
  intro v0 _ hp stk
  exact pf_of (T := table) (G := glob) (f := 16) rfl rfl (Hd.on (s_z7_0 (topN stk + 1) ) v0 hp stk )
def p_zfk_0 : T_zfk_0 → Option R_zfk := (b_zfk_0 Prims.real )
theorem s_zfk_0 (m : Nat) : H_zfk_0 AT @XM E_e5 E_e1 m (p_zfk_0 ) := (o_zfk_0 LW rfl rfl HA HZ m )
def p_zfk : S2_ → Option (Bool) := fun ⟨v0_0, v0_1, v0_2, v0_3, v0_4⟩ => p_zfk_0 (v0_0, v0_1, v0_2, v0_3, v0_4)
theorem s_zfk : (C_zfk PC FC @XM E_e5 E_e1 p_zfk) := by
  intro v0_0 v0_1 v0_2 v0_3 v0_4 _ hp stk
  exact pf_of (T := table) (G := glob) (f := 95) rfl rfl (Hd.on (s_zfk_0 (topN stk + 1) ) (v0_0, v0_1, v0_2, v0_3, v0_4) hp stk )
def p_zfi_3 : T_zfi_3 → Option (T_zfi_1 ⊕ R_zfi) := (b_zfi_3 Prims.real p_ze5 )
def p_zfi_1 : T_zfi_1 → Option R_zfi := Prims.real.loop (b_zfi_1 Prims.real p_ze5 p_zfi_3)
theorem u_zfi_1 (s : T_zfi_1) : p_zfi_1 s = (match b_zfi_1 Prims.real p_ze5 p_zfi_3 s with | some (.inl t) => p_zfi_1 t | some (.inr r) => some r | none => none) := (Pr.loop_eq' _ s).trans (by rcases b_zfi_1 Prims.real p_ze5 p_zfi_3 s with _|_|_ <;> rfl)
def p_zfi_0 : T_zfi_0 → Option R_zfi := (b_zfi_0 Prims.real p_ze5 p_zfi_1)
theorem s_zfi_3 (m : Nat) : H_zfi_3 AT @XM @XE E_e1 E_e8 m (p_zfi_3 ) := (o_zfi_3 LW rfl rfl HA HZ p_ze5 s_ze5 m )
theorem s_zfi_1 (m : Nat) : H_zfi_1 AT @XM @XE E_e1 E_e8 m (p_zfi_1 ) := loopH (o_zfi_1 LW rfl rfl HA HZ p_ze5 s_ze5 m (s_zfi_3 m ))
theorem s_zfi_0 (m : Nat) : H_zfi_0 AT @XM E_e1 m (p_zfi_0 ) := (o_zfi_0 LW rfl rfl HA HZ p_ze5 s_ze5 m (s_zfi_1 m ))
def p_zfi : Ls1 → Option (Bool) := fun v0 => p_zfi_0 v0
theorem s_zfi : (C_zfi PC FC @XM E_e1 p_zfi) := by
  intro v0 _ hp stk
  exact pf_of (T := table) (G := glob) (f := 97) rfl rfl (Hd.on (s_zfi_0 (topN stk + 1) ) v0 hp stk )
def p_zfd_0 (c_zfg : S2_ → Int → Option (Bool)) : T_zfd_0 → Option R_zfd := (b_zfd_0 Prims.real c_zfg )
section
variable (m : Nat) (n0 : Nat) (k0 : Kl) (hl0 : n0 < m)
include m n0 k0 hl0
theorem s_zfd_0 (c_zfg : S2_ → Int → Option (Bool)) (h_zfg : (C_zfg PC FC @XM E_e5 E_e1 c_zfg)) : H_zfd_0 AT @XM E_e5 E_e1 m n0 k0 (p_zfd_0 c_zfg ) := (o_zfd_0 LW rfl rfl HA HZ c_zfg h_zfg m n0 k0 hl0 )
end
def p_zfg_0 (c_zdx : Ls0 → Int → Option (Bool)) (c_zdt : Ls1 → Int → Option (Bool)) : T_zfg_0 → Option R_zfg := (b_zfg_0 Prims.real p_zfk p_ze5 c_zdx p_zfi c_zdt )
section
variable (m : Nat) (n0 : Nat) (k0 : Kl) (hl0 : n0 < m)
include m n0 k0 hl0
theorem s_zfg_0 (c_zdx : Ls0 → Int → Option (Bool)) (c_zdt : Ls1 → Int → Option (Bool)) (h_zdx : (C_zdx PC FC @XM E_e5 c_zdx)) (h_zdt : (C_zdt PC FC @XM E_e1 c_zdt)) : H_zfg_0 AT @XM E_e5 E_e1 m n0 k0 (p_zfg_0 c_zdx c_zdt ) := (o_zfg_0 LW rfl rfl HA HZ p_zfk p_ze5 c_zdx p_zfi c_zdt s_zfk s_ze5 h_zdx s_zfi h_zdt m n0 k0 hl0 )
end
def p_zdx_0 (c_zd8 : Ls0 → Int → Option (Int)) : T_zdx_0 → Option R_zdx := (b_zdx_0 Prims.real c_zd8 )
section
variable (m : Nat) (n0 : Nat) (k0 : Kl) (hl0 : n0 < m)
include m n0 k0 hl0
theorem s_zdx_0 (c_zd8 : Ls0 → Int → Option (Int)) (h_zd8 : (C_zd8 PC FC @XM E_e5 c_zd8)) : H_zdx_0 AT @XM E_e5 m n0 k0 (p_zdx_0 c_zd8 ) := (o_zdx_0 LW rfl rfl HA HZ c_zd8 h_zd8 m n0 k0 hl0 )
end
def p_zd8_1 (c_zfd : S2_ → Int → Option (Bool)) : T_zd8_1 → Option R_zd8 := Prims.real.loop (b_zd8_1 Prims.real c_zfd )
theorem u_zd8_1 (c_zfd : S2_ → Int → Option (Bool)) (s : T_zd8_1) : p_zd8_1 c_zfd s = (match b_zd8_1 Prims.real c_zfd s with | some (.inl t) => p_zd8_1 c_zfd t | some (.inr r) => some r | none => none) := (Pr.loop_eq' _ s).trans (by rcases b_zd8_1 Prims.real c_zfd s with _|_|_ <;> rfl)
def p_zd8_0 (c_zfd : S2_ → Int → Option (Bool)) : T_zd8_0 → Option R_zd8 := (b_zd8_0 Prims.real c_zfd (p_zd8_1 c_zfd ))
section
variable (m : Nat) (n0 : Nat) (k0 : Kl) (hl0 : n0 < m)
include m n0 k0 hl0
theorem s_zd8_1 (c_zfd : S2_ → Int → Option (Bool)) (h_zfd : (C_zfd PC FC @XM E_e5 E_e1 c_zfd)) : H_zd8_1 AT @XM E_e5 m n0 k0 (p_zd8_1 c_zfd ) := loopS (o_zd8_1 LW rfl rfl HA HZ c_zfd h_zfd m n0 k0 hl0 )
theorem s_zd8_0 (c_zfd : S2_ → Int → Option (Bool)) (h_zfd : (C_zfd PC FC @XM E_e5 E_e1 c_zfd)) : H_zd8_0 AT @XM E_e5 m n0 k0 (p_zd8_0 c_zfd ) := (o_zd8_0 LW rfl rfl HA HZ c_zfd h_zfd m n0 k0 hl0 (s_zd8_1 m n0 k0 hl0 c_zfd h_zfd ))
end
def p_zdt_0 (c_zd3 : Ls1 → Int → Option (Int)) : T_zdt_0 → Option R_zdt := (b_zdt_0 Prims.real c_zd3 )
section
variable (m : Nat) (n0 : Nat) (k0 : Kl) (hl0 : n0 < m)
include m n0 k0 hl0
theorem s_zdt_0 (c_zd3 : Ls1 → Int → Option (Int)) (h_zd3 : (C_zd3 PC FC @XM E_e1 c_zd3)) : H_zdt_0 AT @XM E_e1 m n0 k0 (p_zdt_0 c_zd3 ) := (o_zdt_0 LW rfl rfl HA HZ c_zd3 h_zd3 m n0 k0 hl0 )
end
def p_zd3_1 (c_zff : S0_ → Int → Option (Bool)) : T_zd3_1 → Option R_zd3 := Prims.real.loop (b_zd3_1 Prims.real c_zff )
theorem u_zd3_1 (c_zff : S0_ → Int → Option (Bool)) (s : T_zd3_1) : p_zd3_1 c_zff s = (match b_zd3_1 Prims.real c_zff s with | some (.inl t) => p_zd3_1 c_zff t | some (.inr r) => some r | none => none) := (Pr.loop_eq' _ s).trans (by rcases b_zd3_1 Prims.real c_zff s with _|_|_ <;> rfl)
def p_zd3_0 (c_zff : S0_ → Int → Option (Bool)) : T_zd3_0 → Option R_zd3 := (b_zd3_0 Prims.real c_zff (p_zd3_1 c_zff ))
section
variable (m : Nat) (n0 : Nat) (k0 : Kl) (hl0 : n0 < m)
include m n0 k0 hl0
theorem s_zd3_1 (c_zff : S0_ → Int → Option (Bool)) (h_zff : (C_zff PC FC @XM E_e5 E_e1 c_zff)) : H_zd3_1 AT @XM E_e1 m n0 k0 (p_zd3_1 c_zff ) := loopS (o_zd3_1 LW rfl rfl HA HZ c_zff h_zff m n0 k0 hl0 )
theorem s_zd3_0 (c_zff : S0_ → Int → Option (Bool)) (h_zff : (C_zff PC FC @XM E_e5 E_e1 c_zff)) : H_zd3_0 AT @XM E_e1 m n0 k0 (p_zd3_0 c_zff ) := (o_zd3_0 LW rfl rfl HA HZ c_zff h_zff m n0 k0 hl0 (s_zd3_1 m n0 k0 hl0 c_zff h_zff ))
end
def p_zff_0 (c_zfg : S2_ → Int → Option (Bool)) : T_zff_0 → Option R_zff := (b_zff_0 Prims.real c_zfg )
section
variable (m : Nat) (n0 : Nat) (k0 : Kl) (hl0 : n0 < m)
include m n0 k0 hl0
theorem s_zff_0 (c_zfg : S2_ → Int → Option (Bool)) (h_zfg : (C_zfg PC FC @XM E_e5 E_e1 c_zfg)) : H_zff_0 AT @XM E_e5 E_e1 m n0 k0 (p_zff_0 c_zfg ) := (o_zff_0 LW rfl rfl HA HZ c_zfg h_zfg m n0 k0 hl0 )
end
def pk_zfd : Nat → (S2_ → Int → Option (Bool)) × (S2_ → Int → Option (Bool)) × (Ls0 → Int → Option (Bool)) × (Ls0 → Int → Option (Int)) × (Ls1 → Int → Option (Bool)) × (Ls1 → Int → Option (Int)) × (S0_ → Int → Option (Bool))
  | 0 => (fun _ _ => none, fun _ _ => none, fun _ _ => none, fun _ _ => none, fun _ _ => none, fun _ _ => none, fun _ _ => none)
  | k + 1 => (fun ⟨v0_0, v0_1, v0_2, v0_3, v0_4⟩ v2_0 => p_zfd_0 ((pk_zfd k).2.1) (v0_0, v0_1, v0_2, v0_3, v0_4, v2_0), fun ⟨v0_0, v0_1, v0_2, v0_3, v0_4⟩ v1 => p_zfg_0 ((pk_zfd k).2.2.1) ((pk_zfd k).2.2.2.2.1) (v0_0, v0_1, v0_2, v0_3, v0_4, v1), fun v0 v1_c1_0 => p_zdx_0 ((pk_zfd k).2.2.2.1) (v0, v1_c1_0), fun v0 v1_c1_0 => p_zd8_0 ((pk_zfd k).1) (v0, v1_c1_0), fun v0 v1_c1_0 => p_zdt_0 ((pk_zfd k).2.2.2.2.2.1) (v0, v1_c1_0), fun v0 v1_c1_0 => p_zd3_0 ((pk_zfd k).2.2.2.2.2.2) (v0, v1_c1_0), fun ⟨v0_0, ⟨v0_1_0, v0_1_1, v0_1_2, v0_1_3, v0_1_4⟩⟩ v2_0 => p_zff_0 ((pk_zfd k).2.1) (v0_0, v0_1_0, v0_1_1, v0_1_2, v0_1_3, v0_1_4, v2_0))
theorem sk_zfd : ∀ k, ((C_zfd PC FC @XM E_e5 E_e1 ((pk_zfd k).1))) ∧ ((C_zfg PC FC @XM E_e5 E_e1 ((pk_zfd k).2.1))) ∧ ((C_zdx PC FC @XM E_e5 ((pk_zfd k).2.2.1))) ∧ ((C_zd8 PC FC @XM E_e5 ((pk_zfd k).2.2.2.1))) ∧ ((C_zdt PC FC @XM E_e1 ((pk_zfd k).2.2.2.2.1))) ∧ ((C_zd3 PC FC @XM E_e1 ((pk_zfd k).2.2.2.2.2.1))) ∧ ((C_zff PC FC @XM E_e5 E_e1 ((pk_zfd k).2.2.2.2.2.2))) ∧ True
  | 0 => by
    refine ⟨?_, ?_, ?_, ?_, ?_, ?_, ?_, trivial⟩
    · intro _ _ _ _ _ _ _ hp; exact nomatch (show none = some _ from hp)
    · intro _ _ _ _ _ _ _ hp; exact nomatch (show none = some _ from hp)
    · intro _ _ _ hp; exact nomatch (show none = some _ from hp)
    · intro _ _ _ hp; exact nomatch (show none = some _ from hp)
    · intro _ _ _ hp; exact nomatch (show none = some _ from hp)
    · intro _ _ _ hp; exact nomatch (show none = some _ from hp)
    · intro _ _ _ _ _ _ _ _ hp; exact nomatch (show none = some _ from hp)
  | k + 1 => by
    obtain ⟨ih0, ih1, ih2, ih3, ih4, ih5, ih6, _⟩ := sk_zfd k
    refine ⟨?_, ?_, ?_, ?_, ?_, ?_, ?_, trivial⟩
    · intro v0_0 v0_1 v0_2 v0_3 v0_4 v2_0 _ hp stk n0 k0 hg0 hl0
      exact pf_of (T := table) (G := glob) (f := 96) rfl rfl (HdS.on (s_zfd_0 (topN stk + 1) n0 k0 (Nat.lt_succ_of_le hl0) ((pk_zfd k).2.1) ih1 ) (v0_0, v0_1, v0_2, v0_3, v0_4, v2_0) hp stk ⟨hg0, trivial⟩)
    · intro v0_0 v0_1 v0_2 v0_3 v0_4 v1 _ hp stk n0 k0 hg0 hl0
      exact pf_of (T := table) (G := glob) (f := 94) rfl rfl (HdS.on (s_zfg_0 (topN stk + 1) n0 k0 (Nat.lt_succ_of_le hl0) ((pk_zfd k).2.2.1) ((pk_zfd k).2.2.2.2.1) ih2 ih4 ) (v0_0, v0_1, v0_2, v0_3, v0_4, v1) hp stk ⟨hg0, trivial⟩)
    · intro v0 v1_c1_0 _ hp stk n0 k0 hg0 hl0
      exact pf_of (T := table) (G := glob) (f := 68) rfl rfl (HdS.on (s_zdx_0 (topN stk + 1) n0 k0 (Nat.lt_succ_of_le hl0) ((pk_zfd k).2.2.2.1) ih3 ) (v0, v1_c1_0) hp stk ⟨hg0, trivial⟩)
    · intro v0 v1_c1_0 _ hp stk n0 k0 hg0 hl0
      exact pf_of (T := table) (G := glob) (f := 107) rfl rfl (HdS.on (s_zd8_0 (topN stk + 1) n0 k0 (Nat.lt_succ_of_le hl0) ((pk_zfd k).1) ih0 ) (v0, v1_c1_0) hp stk ⟨hg0, trivial⟩)
    · intro v0 v1_c1_0 _ hp stk n0 k0 hg0 hl0
      exact pf_of (T := table) (G := glob) (f := 73) rfl rfl (HdS.on (s_zdt_0 (topN stk + 1) n0 k0 (Nat.lt_succ_of_le hl0) ((pk_zfd k).2.2.2.2.2.1) ih5 ) (v0, v1_c1_0) hp stk ⟨hg0, trivial⟩)
    · intro v0 v1_c1_0 _ hp stk n0 k0 hg0 hl0
      exact pf_of (T := table) (G := glob) (f := 77) rfl rfl (HdS.on (s_zd3_0 (topN stk + 1) n0 k0 (Nat.lt_succ_of_le hl0) ((pk_zfd k).2.2.2.2.2.2) ih6 ) (v0, v1_c1_0) hp stk ⟨hg0, trivial⟩)
    · intro v0_0 v0_1_0 v0_1_1 v0_1_2 v0_1_3 v0_1_4 v2_0 _ hp stk n0 k0 hg0 hl0
      exact pf_of (T := table) (G := glob) (f := 98) rfl rfl (HdS.on (s_zff_0 (topN stk + 1) n0 k0 (Nat.lt_succ_of_le hl0) ((pk_zfd k).2.1) ih1 ) (v0_0, v0_1_0, v0_1_1, v0_1_2, v0_1_3, v0_1_4, v2_0) hp stk ⟨hg0, trivial⟩)
def p_zfg : S2_ → Int → Option (Bool) := (pk_zfd 1000000).2.1
theorem s_zfg : (C_zfg PC FC @XM E_e5 E_e1 p_zfg) := (sk_zfd 1000000).2.1
def p_zfa_0 : T_zfa_0 → Option R_zfa := (b_zfa_0 Prims.real p_zfg )
theorem s_zfa_0 (m : Nat) : H_zfa_0 AT @XM E_e5 E_e1 m (p_zfa_0 ) := (o_zfa_0 LW rfl rfl HA HZ p_zfg s_zfg m )
def p_zfa : S2_ → Option (Bool) := fun ⟨v0_0, v0_1, v0_2, v0_3, v0_4⟩ => p_zfa_0 (v0_0, v0_1, v0_2, v0_3, v0_4)
theorem s_zfa : (C_zfa PC FC @XM E_e5 E_e1 p_zfa) := by
  intro v0_0 v0_1 v0_2 v0_3 v0_4 _ hp stk
  exact pf_of (T := table) (G := glob) (f := 53) rfl rfl (Hd.on (s_zfa_0 (topN stk + 1) ) (v0_0, v0_1, v0_2, v0_3, v0_4) hp stk )
def p_zcg_0 : T_zcg_0 → Option R_zcg := (b_zcg_0 Prims.real p_zfa )
theorem s_zcg_0 (m : Nat) : H_zcg_0 AT @XM E_e5 E_e1 m (p_zcg_0 ) := (o_zcg_0 LW rfl rfl HA HZ p_zfa s_zfa m )
def p_zcg : S2_ → Option (Bool) := fun ⟨v0_0, v0_1, v0_2, v0_3, v0_4⟩ => p_zcg_0 (v0_0, v0_1, v0_2, v0_3, v0_4)
theorem s_zcg : (C_zcg PC FC @XM E_e5 E_e1 p_zcg) := by
  intro v0_0 v0_1 v0_2 v0_3 v0_4 _ hp stk
  exact pf_of (T := table) (G := glob) (f := 69) rfl rfl (Hd.on (s_zcg_0 (topN stk + 1) ) (v0_0, v0_1, v0_2, v0_3, v0_4) hp stk )
def p_zd9_1 : T_zd9_1 → Option R_zd9 := Prims.real.loop (b_zd9_1 Prims.real p_zcg )
theorem u_zd9_1 (s : T_zd9_1) : p_zd9_1 s = (match b_zd9_1 Prims.real p_zcg s with | some (.inl t) => p_zd9_1 t | some (.inr r) => some r | none => none) := (Pr.loop_eq' _ s).trans (by rcases b_zd9_1 Prims.real p_zcg s with _|_|_ <;> rfl)
def p_zd9_0 : T_zd9_0 → Option R_zd9 := (b_zd9_0 Prims.real p_zcg p_zd9_1)
theorem s_zd9_1 (m : Nat) : H_zd9_1 AT @XM E_e5 m (p_zd9_1 ) := loopH (o_zd9_1 LW rfl rfl HA HZ p_zcg s_zcg m )
theorem s_zd9_0 (m : Nat) : H_zd9_0 AT @XM E_e5 m (p_zd9_0 ) := (o_zd9_0 LW rfl rfl HA HZ p_zcg s_zcg m (s_zd9_1 m ))
def p_zd9 : Ls0 → Option (Int) := fun v0 => p_zd9_0 v0
theorem s_zd9 : (C_zd9 PC FC @XM E_e5 p_zd9) := by
  intro v0 _ hp stk
  exact pf_of (T := table) (G := glob) (f := 107) rfl rfl (Hd.on (s_zd9_0 (topN stk + 1) ) v0 hp stk )
def p_zdy_0 : T_zdy_0 → Option R_zdy := (b_zdy_0 Prims.real p_zd9 )
theorem s_zdy_0 (m : Nat) : H_zdy_0 AT @XM E_e5 m (p_zdy_0 ) := (o_zdy_0 LW rfl rfl HA HZ p_zd9 s_zd9 m )
def p_zdy : Ls0 → Option (Bool) := fun v0 => p_zdy_0 v0
theorem s_zdy : (C_zdy PC FC @XM E_e5 p_zdy) := by
  intro v0 _ hp stk
  exact pf_of (T := table) (G := glob) (f := 68) rfl rfl (Hd.on (s_zdy_0 (topN stk + 1) ) v0 hp stk )
theorem s_zdr : (C_zdr PC FC @XM E_e5 E_e0 p_zdr) := by
  intro _ _ hp stk
  exact ⟨pcall_ext (T := table) (G := glob) (f := 71) (e := ext_zdr) rfl rfl (x_zdr hp) stk, fcall_ext (T := table) (G := glob) (f := 71) (e := ext_zdr) rfl rfl (x_zdr hp) stk⟩
def p_zci_0 : T_zci_0 → Option R_zci := (b_zci_0 Prims.real p_zdr )
theorem s_zci_0 (m : Nat) : H_zci_0 AT @XM E_e5 E_e1 m (p_zci_0 ) := (o_zci_0 LW rfl rfl HA HZ p_zdr s_zdr m )
def p_zci : S2_ → Ls0 → Option (S2_ × Int) := fun ⟨v0_0, v0_1, v0_2, v0_3, v0_4⟩ v1_0 => p_zci_0 (v0_0, v0_1, v0_2, v0_3, v0_4, v1_0)
theorem s_zci : (C_zci PC FC @XM E_e5 E_e1 p_zci) := by
  intro v0_0 v0_1 v0_2 v0_3 v0_4 v1_0 _ _ _ _ _ _ hp stk
  exact pf_of (T := table) (G := glob) (f := 70) rfl rfl (Hd.on (s_zci_0 (topN stk + 1) ) (v0_0, v0_1, v0_2, v0_3, v0_4, v1_0) hp stk )
def p_zdo_0 : T_zdo_0 → Option R_zdo := (b_zdo_0 Prims.real )
theorem s_zdo_0 (m : Nat) : H_zdo_0 AT @XM List.length E_e5 m (p_zdo_0 ) := (o_zdo_0 LW rfl rfl HA HZ m )
def p_zdo : Ls0 → Option (Nat × Ls0) := fun v0 => p_zdo_0 v0
theorem s_zdo : (C_zdo KC_ @XM List.length E_e5 p_zdo) := by
  intro v0 _ _ hp stk
  intro m hm
  subst hm
  exact kcall_of (T := table) (G := glob) (f := 102) (ks := [[5]]) rfl rfl (Hd.on (s_zdo_0 (topN stk + 1) ) v0 hp stk )
def p_zc2_0 (L0_0 : Str) (L0_1 : Int) (L0_2 : Bool) : T_zc2_0 → Option R_zc2 := (b_zc2_0 Prims.real L0_0 L0_1 L0_2 )
section
variable (m : Nat) (n0 : Nat) (k0 : Kl) (hl0 : n0 < m)
include m n0 k0 hl0
theorem s_zc2_0 (L0_0 : Str) (L0_1 : Int) (L0_2 : Bool) : H_zc2_0 AT @XM E_e5 E_e1 m n0 k0 L0_0 L0_1 L0_2 (p_zc2_0 L0_0 L0_1 L0_2) := (o_zc2_0 LW rfl rfl HA HZ m n0 k0 L0_0 L0_1 L0_2 hl0 )
end
def p_zc2 : S0_ → Str → Int → Bool → Option (Bool) := fun ⟨v0_0, ⟨v0_1_0, v0_1_1, v0_1_2, v0_1_3, v0_1_4⟩⟩ L0_0 L0_1 L0_2 => p_zc2_0 L0_0 L0_1 L0_2 (v0_0, v0_1_0, v0_1_1, v0_1_2, v0_1_3, v0_1_4)
theorem s_zc2 : (C_zc2 PC FC @XM E_e5 E_e1 p_zc2) := by
  intro v0_0 v0_1_0 v0_1_1 v0_1_2 v0_1_3 v0_1_4 L0_0 L0_1 L0_2 _ hp stk n0 k0 hg0 hl0
  exact pf_of (T := table) (G := glob) (f := 103) rfl rfl (HdS.on (s_zc2_0 (topN stk + 1) n0 k0 (Nat.lt_succ_of_le hl0) L0_0 L0_1 L0_2) (v0_0, v0_1_0, v0_1_1, v0_1_2, v0_1_3, v0_1_4) hp stk ⟨hg0, trivial⟩)
def p_zd4_1 (L0_0 : Str) (L0_1 : Int) (L0_2 : Bool) : T_zd4_1 → Option R_zd4 := Prims.real.loop (b_zd4_1 Prims.real p_zc2 L0_0 L0_1 L0_2 )
theorem u_zd4_1 (L0_0 : Str) (L0_1 : Int) (L0_2 : Bool) (s : T_zd4_1) : p_zd4_1 L0_0 L0_1 L0_2 s = (match b_zd4_1 Prims.real p_zc2 L0_0 L0_1 L0_2 s with | some (.inl t) => p_zd4_1 L0_0 L0_1 L0_2 t | some (.inr r) => some r | none => none) := (Pr.loop_eq' _ s).trans (by rcases b_zd4_1 Prims.real p_zc2 L0_0 L0_1 L0_2 s with _|_|_ <;> rfl)
def p_zd4_0 (L0_0 : Str) (L0_1 : Int) (L0_2 : Bool) : T_zd4_0 → Option R_zd4 := (b_zd4_0 Prims.real p_zc2 L0_0 L0_1 L0_2 (p_zd4_1 L0_0 L0_1 L0_2))
section
variable (m : Nat) (n0 : Nat) (k0 : Kl) (hl0 : n0 < m)
include m n0 k0 hl0
theorem s_zd4_1 (L0_0 : Str) (L0_1 : Int) (L0_2 : Bool) : H_zd4_1 AT @XM E_e1 m n0 k0 L0_0 L0_1 L0_2 (p_zd4_1 L0_0 L0_1 L0_2) := loopS (o_zd4_1 LW rfl rfl HA HZ p_zc2 s_zc2 m n0 k0 L0_0 L0_1 L0_2 hl0 )
theorem s_zd4_0 (L0_0 : Str) (L0_1 : Int) (L0_2 : Bool) : H_zd4_0 AT @XM E_e1 m n0 k0 L0_0 L0_1 L0_2 (p_zd4_0 L0_0 L0_1 L0_2) := (o_zd4_0 LW rfl rfl HA HZ p_zc2 s_zc2 m n0 k0 L0_0 L0_1 L0_2 hl0 (s_zd4_1 m n0 k0 hl0 L0_0 L0_1 L0_2))
end
def p_zd4 : Ls1 → Str → Int → Bool → Option (Int) := fun v0 L0_0 L0_1 L0_2 => p_zd4_0 L0_0 L0_1 L0_2 v0
theorem s_zd4 : (C_zd4 PC FC @XM E_e1 p_zd4) := by
  intro v0 L0_0 L0_1 L0_2 _ hp stk n0 k0 hg0 hl0
  exact pf_of (T := table) (G := glob) (f := 77) rfl rfl (HdS.on (s_zd4_0 (topN stk + 1) n0 k0 (Nat.lt_succ_of_le hl0) L0_0 L0_1 L0_2) v0 hp stk ⟨hg0, trivial⟩)
def p_zdm_0 : T_zdm_0 → Option R_zdm := (b_zdm_0 Prims.real )
theorem s_zdm_0 (m : Nat) : H_zdm_0 AT @XM List.length E_e1 m (p_zdm_0 ) := (o_zdm_0 LW rfl rfl HA HZ m )
def p_zdm : Ls1 → Option (Nat × Ls1) := fun v0 => p_zdm_0 v0
theorem s_zdm : (C_zdm KC_ @XM List.length E_e1 p_zdm) := by
  intro v0 _ _ hp stk
  intro m hm
  subst hm
  exact kcall_of (T := table) (G := glob) (f := 104) (ks := [[5]]) rfl rfl (Hd.on (s_zdm_0 (topN stk + 1) ) v0 hp stk )
def p_zc3_2 (c_zc3 : S2_ → Ls2 → Ls0 → Option (S2_ × Int)) : T_zc3_2 → Option R_zc3 := (b_zc3_2 Prims.real p_zci p_zdo c_zc3 p_zd4 p_zdm )
def p_zc3_0 (c_zc3 : S2_ → Ls2 → Ls0 → Option (S2_ × Int)) : T_zc3_0 → Option R_zc3 := (b_zc3_0 Prims.real p_zci p_zdo c_zc3 p_zd4 p_zdm (p_zc3_2 c_zc3 ))
theorem s_zc3_2 (c_zc3 : S2_ → Ls2 → Ls0 → Option (S2_ × Int)) (h_zc3 : (C_zc3 PC FC @XM E_e4 E_e5 E_e1 c_zc3)) (m : Nat) : H_zc3_2 AT @XM E_e5 E_e1 m (p_zc3_2 c_zc3 ) := (o_zc3_2 LW rfl rfl HA HZ p_zci p_zdo c_zc3 p_zd4 p_zdm s_zci s_zdo h_zc3 s_zd4 s_zdm m )
theorem s_zc3_0 (c_zc3 : S2_ → Ls2 → Ls0 → Option (S2_ × Int)) (h_zc3 : (C_zc3 PC FC @XM E_e4 E_e5 E_e1 c_zc3)) (m : Nat) : H_zc3_0 AT @XM E_e4 E_e5 E_e1 m (p_zc3_0 c_zc3 ) := (o_zc3_0 LW rfl rfl HA HZ p_zci p_zdo c_zc3 p_zd4 p_zdm s_zci s_zdo h_zc3 s_zd4 s_zdm m (s_zc3_2 c_zc3 h_zc3 m ))
def pk_zc3 : Nat → (S2_ → Ls2 → Ls0 → Option (S2_ × Int))
  | 0 => fun _ _ _ => none
  | k + 1 => fun ⟨v0_0, v0_1, v0_2, v0_3, v0_4⟩ v1 v2_c0_0 => p_zc3_0 ((pk_zc3 k)) (v0_0, v0_1, v0_2, v0_3, v0_4, v1, v2_c0_0)
theorem sk_zc3 : ∀ k, ((C_zc3 PC FC @XM E_e4 E_e5 E_e1 ((pk_zc3 k)))) ∧ True
  | 0 => by
    refine ⟨?_, trivial⟩
    · intro _ _ _ _ _ _ _ _ _ _ _ _ _ hp; exact nomatch (show none = some _ from hp)
  | k + 1 => by
    obtain ⟨ih0, _⟩ := sk_zc3 k
    refine ⟨?_, trivial⟩
    · intro v0_0 v0_1 v0_2 v0_3 v0_4 v1 v2_c0_0 _ _ _ _ _ _ hp stk
      exact pf_of (T := table) (G := glob) (f := 59) rfl rfl (Hd.on (s_zc3_0 ((pk_zc3 k)) ih0 (topN stk + 1) ) (v0_0, v0_1, v0_2, v0_3, v0_4, v1, v2_c0_0) hp stk )
def p_zc3 : S2_ → Ls2 → Ls0 → Option (S2_ × Int) := (pk_zc3 1000000)
theorem s_zc3 : (C_zc3 PC FC @XM E_e4 E_e5 E_e1 p_zc3) := (sk_zc3 1000000).1
def p_zfh_5 (c_zfh : S2_ → Option (S2_)) : T_zfh_5 → Option R_zfh := Prims.real.loop (b_zfh_5 Prims.real c_zfh )
theorem u_zfh_5 (c_zfh : S2_ → Option (S2_)) (s : T_zfh_5) : p_zfh_5 c_zfh s = (match b_zfh_5 Prims.real c_zfh s with | some (.inl t) => p_zfh_5 c_zfh t | some (.inr r) => some r | none => none) := (Pr.loop_eq' _ s).trans (by rcases b_zfh_5 Prims.real c_zfh s with _|_|_ <;> rfl)
def p_zfh_1 (c_zfh : S2_ → Option (S2_)) : T_zfh_1 → Option R_zfh := Prims.real.loop (b_zfh_1 Prims.real c_zfh (p_zfh_5 c_zfh ))
theorem u_zfh_1 (c_zfh : S2_ → Option (S2_)) (s : T_zfh_1) : p_zfh_1 c_zfh s = (match b_zfh_1 Prims.real c_zfh (p_zfh_5 c_zfh ) s with | some (.inl t) => p_zfh_1 c_zfh t | some (.inr r) => some r | none => none) := (Pr.loop_eq' _ s).trans (by rcases b_zfh_1 Prims.real c_zfh (p_zfh_5 c_zfh ) s with _|_|_ <;> rfl)
def p_zfh_0 (c_zfh : S2_ → Option (S2_)) : T_zfh_0 → Option R_zfh := (b_zfh_0 Prims.real c_zfh (p_zfh_1 c_zfh ))
theorem s_zfh_5 (c_zfh : S2_ → Option (S2_)) (h_zfh : (C_zfh PC FC @XM E_e5 E_e1 c_zfh)) (m : Nat) : H_zfh_5 AT @XM List.length E_e5 E_e1 m (p_zfh_5 c_zfh ) := loopH (o_zfh_5 LW rfl rfl HA HZ c_zfh h_zfh m )
theorem s_zfh_1 (c_zfh : S2_ → Option (S2_)) (h_zfh : (C_zfh PC FC @XM E_e5 E_e1 c_zfh)) (m : Nat) : H_zfh_1 AT @XM List.length E_e5 E_e1 m (p_zfh_1 c_zfh ) := loopH (o_zfh_1 LW rfl rfl HA HZ c_zfh h_zfh m (s_zfh_5 c_zfh h_zfh m ))
theorem s_zfh_0 (c_zfh : S2_ → Option (S2_)) (h_zfh : (C_zfh PC FC @XM E_e5 E_e1 c_zfh)) (m : Nat) : H_zfh_0 AT @XM E_e5 E_e1 m (p_zfh_0 c_zfh ) := (o_zfh_0 LW rfl rfl HA HZ c_zfh h_zfh m (s_zfh_1 c_zfh h_zfh m ))
def pk_zfh : Nat → (S2_ → Option (S2_))
  | 0 => fun _ => none
  | k + 1 => fun ⟨v0_0, v0_1, v0_2, v0_3, v0_4⟩ => p_zfh_0 ((pk_zfh k)) (v0_0, v0_1, v0_2, v0_3, v0_4)
theorem sk_zfh : ∀ k, ((C_zfh PC FC @XM E_e5 E_e1 ((pk_zfh k)))) ∧ True
  | 0 => by
    refine ⟨?_, trivial⟩
    · intro _ _ _ _ _ _ _ _ _ _ hp; exact nomatch (show none = some _ from hp)
  | k + 1 => by
    obtain ⟨ih0, _⟩ := sk_zfh k
    refine ⟨?_, trivial⟩
    · intro v0_0 v0_1 v0_2 v0_3 v0_4 _ _ _ _ _ hp stk
      exact pf_of (T := table) (G := glob) (f := 105) rfl rfl (Hd.on (s_zfh_0 ((pk_zfh k)) ih0 (topN stk + 1) ) (v0_0, v0_1, v0_2, v0_3, v0_4) hp stk )
def p_zfh : S2_ → Option (S2_) := (pk_zfh 1000000)
theorem s_zfh : (C_zfh PC FC @XM E_e5 E_e1 p_zfh) := (sk_zfh 1000000).1
def p_ze6_0 : T_ze6_0 → Option R_ze6 := (b_ze6_0 Prims.real p_zfa p_zfh )
theorem s_ze6_0 (m : Nat) : H_ze6_0 AT @XM E_e5 E_e1 m (p_ze6_0 ) := (o_ze6_0 LW rfl rfl HA HZ p_zfa p_zfh s_zfa s_zfh m )
def p_ze6 : S2_ → Option (S2_) := fun ⟨v0_0, v0_1, v0_2, v0_3, v0_4⟩ => p_ze6_0 (v0_0, v0_1, v0_2, v0_3, v0_4)
theorem s_ze6 : (C_ze6 PC FC @XM E_e5 E_e1 p_ze6) := by
  intro v0_0 v0_1 v0_2 v0_3 v0_4 _ _ _ _ _ hp stk
  exact pf_of (T := table) (G := glob) (f := 61) rfl rfl (Hd.on (s_ze6_0 (topN stk + 1) ) (v0_0, v0_1, v0_2, v0_3, v0_4) hp stk )
def p_zc5_0 : T_zc5_0 → Option R_zc5 := (b_zc5_0 Prims.real p_zc3 p_zfa p_ze6 )
theorem s_zc5_0 (m : Nat) : H_zc5_0 AT @XM E_e4 E_e5 E_e1 m (p_zc5_0 ) := (o_zc5_0 LW rfl rfl HA HZ p_zc3 p_zfa p_ze6 s_zc3 s_zfa s_ze6 m )
def p_zc5 : S2_ → Ls2 → Ls0 → Option (S2_ × Int) := fun ⟨v0_0, v0_1, v0_2, v0_3, v0_4⟩ v1 v2_c0_0 => p_zc5_0 (v0_0, v0_1, v0_2, v0_3, v0_4, v1, v2_c0_0)
theorem s_zc5 : (C_zc5 PC FC @XM E_e4 E_e5 E_e1 p_zc5) := by
  intro v0_0 v0_1 v0_2 v0_3 v0_4 v1 v2_c0_0 _ _ _ _ _ _ hp stk
  exact pf_of (T := table) (G := glob) (f := 64) rfl rfl (Hd.on (s_zc5_0 (topN stk + 1) ) (v0_0, v0_1, v0_2, v0_3, v0_4, v1, v2_c0_0) hp stk )
def p_zcf_0 : T_zcf_0 → Option R_zcf := (b_zcf_0 Prims.real p_zfa p_zcv p_zdy p_zc5 )
theorem s_zcf_0 (m : Nat) : H_zcf_0 AT @XM E_e4 E_e5 E_e1 m (p_zcf_0 ) := (o_zcf_0 LW rfl rfl HA HZ p_zfa p_zcv p_zdy p_zc5 s_zfa s_zcv s_zdy s_zc5 m )
def p_zcf : S2_ → Ls2 → Ls0 → Option (S2_ × Int) := fun ⟨v0_0, v0_1, v0_2, v0_3, v0_4⟩ v1 v2 => p_zcf_0 (v0_0, v0_1, v0_2, v0_3, v0_4, v1, v2)
theorem s_zcf : (C_zcf PC FC @XM E_e4 E_e5 E_e1 p_zcf) := by
  intro v0_0 v0_1 v0_2 v0_3 v0_4 v1 v2 _ _ _ _ _ _ hp stk
  exact pf_of (T := table) (G := glob) (f := 38) rfl rfl (Hd.on (s_zcf_0 (topN stk + 1) ) (v0_0, v0_1, v0_2, v0_3, v0_4, v1, v2) hp stk )
def p_zy_11 : T_zy_11 → Option R_zy := (b_zy_11 Prims.real )
def p_zy_6 : T_zy_6 → Option R_zy := Prims.real.loop (b_zy_6 Prims.real p_zy_11)
theorem u_zy_6 (s : T_zy_6) : p_zy_6 s = (match b_zy_6 Prims.real p_zy_11 s with | some (.inl t) => p_zy_6 t | some (.inr r) => some r | none => none) := (Pr.loop_eq' _ s).trans (by rcases b_zy_6 Prims.real p_zy_11 s with _|_|_ <;> rfl)
def p_zy_4 : T_zy_4 → Option R_zy := (b_zy_4 Prims.real p_zy_6)
def p_zy_3 : T_zy_3 → Option R_zy := (b_zy_3 Prims.real p_zy_4)
def p_zy_2 : T_zy_2 → Option R_zy := (b_zy_2 Prims.real p_zy_3)
def p_zy_0 : T_zy_0 → Option R_zy := (b_zy_0 Prims.real p_zy_2)
theorem s_zy_11 (m : Nat) : H_zy_11 AT m (p_zy_11 ) := (o_zy_11 LW rfl rfl HA HZ m )
theorem s_zy_6 (m : Nat) : H_zy_6 AT m (p_zy_6 ) := loopH (o_zy_6 LW rfl rfl HA HZ m (s_zy_11 m ))
theorem s_zy_4 (m : Nat) : H_zy_4 AT m (p_zy_4 ) := (o_zy_4 LW rfl rfl HA HZ m (s_zy_6 m ))
theorem s_zy_3 (m : Nat) : H_zy_3 AT m (p_zy_3 ) := (o_zy_3 LW rfl rfl HA HZ m (s_zy_4 m ))
theorem s_zy_2 (m : Nat) : H_zy_2 AT m (p_zy_2 ) := (o_zy_2 LW rfl rfl HA HZ m (s_zy_3 m ))
theorem s_zy_0 (m : Nat) : H_zy_0 AT m (p_zy_0 ) := (o_zy_0 LW rfl rfl HA HZ m (s_zy_2 m ))
def p_zy : Str → Int → Option (Int × Int) := fun v0 v1 => p_zy_0 (v0, v1)
theorem s_zy : (C_zy PC FC p_zy) := by
  intro v0 v1 _ _ hp stk
  exact pf_of (T := table) (G := glob) (f := 123) rfl rfl (Hd.on (s_zy_0 (topN stk + 1) ) (v0, v1) hp stk )
def p_zv_1 : T_zv_1 → Option R_zv := Prims.real.loop (b_zv_1 Prims.real p_zy )
theorem u_zv_1 (s : T_zv_1) : p_zv_1 s = (match b_zv_1 Prims.real p_zy s with | some (.inl t) => p_zv_1 t | some (.inr r) => some r | none => none) := (Pr.loop_eq' _ s).trans (by rcases b_zv_1 Prims.real p_zy s with _|_|_ <;> rfl)
def p_zv_0 : T_zv_0 → Option R_zv := (b_zv_0 Prims.real p_zy p_zv_1)
theorem s_zv_1 (m : Nat) : H_zv_1 AT m (p_zv_1 ) := loopH (o_zv_1 LW rfl rfl HA HZ p_zy s_zy m )
theorem s_zv_0 (m : Nat) : H_zv_0 AT m (p_zv_0 ) := (o_zv_0 LW rfl rfl HA HZ p_zy s_zy m (s_zv_1 m ))
def p_zv : Str → Option (Int) := fun v0 => p_zv_0 v0
theorem s_zv : (C_zv PC FC p_zv) := by
  intro v0 _ hp stk
  exact pf_of (T := table) (G := glob) (f := 91) rfl rfl (Hd.on (s_zv_0 (topN stk + 1) ) v0 hp stk )
def p_zx_0 : T_zx_0 → Option R_zx := (b_zx_0 Prims.real p_zv )
theorem s_zx_0 (m : Nat) : H_zx_0 AT m (p_zx_0 ) := (o_zx_0 LW rfl rfl HA HZ p_zv s_zv m )
def p_zx : Str → Option (Bool) := fun v0 => p_zx_0 v0
theorem s_zx : (C_zx PC FC p_zx) := by
  intro v0 _ hp stk
  exact pf_of (T := table) (G := glob) (f := 49) rfl rfl (Hd.on (s_zx_0 (topN stk + 1) ) v0 hp stk )
def p_z5_11 (c_z5 : S2_ → Int → Option (Bool)) : T_z5_11 → Option (T_z5_8 ⊕ R_z5) := Prims.real.loop (b_z5_11 Prims.real p_zx c_z5 )
theorem u_z5_11 (c_z5 : S2_ → Int → Option (Bool)) (s : T_z5_11) : p_z5_11 c_z5 s = (match b_z5_11 Prims.real p_zx c_z5 s with | some (.inl t) => p_z5_11 c_z5 t | some (.inr r) => some r | none => none) := (Pr.loop_eq' _ s).trans (by rcases b_z5_11 Prims.real p_zx c_z5 s with _|_|_ <;> rfl)
def p_z5_8 (c_z5 : S2_ → Int → Option (Bool)) : T_z5_8 → Option R_z5 := Prims.real.loop (b_z5_8 Prims.real p_zx c_z5 (p_z5_11 c_z5 ))
theorem u_z5_8 (c_z5 : S2_ → Int → Option (Bool)) (s : T_z5_8) : p_z5_8 c_z5 s = (match b_z5_8 Prims.real p_zx c_z5 (p_z5_11 c_z5 ) s with | some (.inl t) => p_z5_8 c_z5 t | some (.inr r) => some r | none => none) := (Pr.loop_eq' _ s).trans (by rcases b_z5_8 Prims.real p_zx c_z5 (p_z5_11 c_z5 ) s with _|_|_ <;> rfl)
def p_z5_4 (c_z5 : S2_ → Int → Option (Bool)) : T_z5_4 → Option R_z5 := Prims.real.loop (b_z5_4 Prims.real p_zx c_z5 (p_z5_8 c_z5 ))
theorem u_z5_4 (c_z5 : S2_ → Int → Option (Bool)) (s : T_z5_4) : p_z5_4 c_z5 s = (match b_z5_4 Prims.real p_zx c_z5 (p_z5_8 c_z5 ) s with | some (.inl t) => p_z5_4 c_z5 t | some (.inr r) => some r | none => none) := (Pr.loop_eq' _ s).trans (by rcases b_z5_4 Prims.real p_zx c_z5 (p_z5_8 c_z5 ) s with _|_|_ <;> rfl)
def p_z5_3 (c_z5 : S2_ → Int → Option (Bool)) : T_z5_3 → Option R_z5 := (b_z5_3 Prims.real p_zx c_z5 (p_z5_4 c_z5 ))
def p_z5_2 (c_z5 : S2_ → Int → Option (Bool)) : T_z5_2 → Option R_z5 := (b_z5_2 Prims.real p_zx c_z5 (p_z5_3 c_z5 ))
def p_z5_0 (c_z5 : S2_ → Int → Option (Bool)) : T_z5_0 → Option R_z5 := (b_z5_0 Prims.real p_zx c_z5 (p_z5_2 c_z5 ))
theorem s_z5_11 (c_z5 : S2_ → Int → Option (Bool)) (h_z5 : (C_z5 PC FC @XM E_e5 E_e1 c_z5)) (m : Nat) : H_z5_11 AT @XM E_e5 E_e1 m (p_z5_11 c_z5 ) := loopH (o_z5_11 LW rfl rfl HA HZ p_zx c_z5 s_zx h_z5 m )
theorem s_z5_8 (c_z5 : S2_ → Int → Option (Bool)) (h_z5 : (C_z5 PC FC @XM E_e5 E_e1 c_z5)) (m : Nat) : H_z5_8 AT @XM E_e5 E_e1 m (p_z5_8 c_z5 ) := loopH (o_z5_8 LW rfl rfl HA HZ p_zx c_z5 s_zx h_z5 m (s_z5_11 c_z5 h_z5 m ))
theorem s_z5_4 (c_z5 : S2_ → Int → Option (Bool)) (h_z5 : (C_z5 PC FC @XM E_e5 E_e1 c_z5)) (m : Nat) : H_z5_4 AT @XM E_e5 E_e1 m (p_z5_4 c_z5 ) := loopH (o_z5_4 LW rfl rfl HA HZ p_zx c_z5 s_zx h_z5 m (s_z5_8 c_z5 h_z5 m ))
theorem s_z5_3 (c_z5 : S2_ → Int → Option (Bool)) (h_z5 : (C_z5 PC FC @XM E_e5 E_e1 c_z5)) (m : Nat) : H_z5_3 AT @XM E_e5 E_e1 m (p_z5_3 c_z5 ) := (o_z5_3 LW rfl rfl HA HZ p_zx c_z5 s_zx h_z5 m (s_z5_4 c_z5 h_z5 m ))
theorem s_z5_2 (c_z5 : S2_ → Int → Option (Bool)) (h_z5 : (C_z5 PC FC @XM E_e5 E_e1 c_z5)) (m : Nat) : H_z5_2 AT @XM E_e5 E_e1 m (p_z5_2 c_z5 ) := (o_z5_2 LW rfl rfl HA HZ p_zx c_z5 s_zx h_z5 m (s_z5_3 c_z5 h_z5 m ))
theorem s_z5_0 (c_z5 : S2_ → Int → Option (Bool)) (h_z5 : (C_z5 PC FC @XM E_e5 E_e1 c_z5)) (m : Nat) : H_z5_0 AT @XM E_e5 E_e1 m (p_z5_0 c_z5 ) := (o_z5_0 LW rfl rfl HA HZ p_zx c_z5 s_zx h_z5 m (s_z5_2 c_z5 h_z5 m ))
def pk_z5 : Nat → (S2_ → Int → Option (Bool))
  | 0 => fun _ _ => none
  | k + 1 => fun ⟨v0_0, v0_1, v0_2, v0_3, v0_4⟩ v1 => p_z5_0 ((pk_z5 k)) (v0_0, v0_1, v0_2, v0_3, v0_4, v1)
theorem sk_z5 : ∀ k, ((C_z5 PC FC @XM E_e5 E_e1 ((pk_z5 k)))) ∧ True
  | 0 => by
    refine ⟨?_, trivial⟩
    · intro _ _ _ _ _ _ _ hp; exact nomatch (show none = some _ from hp)
  | k + 1 => by
    obtain ⟨ih0, _⟩ := sk_z5 k
    refine ⟨?_, trivial⟩
    · intro v0_0 v0_1 v0_2 v0_3 v0_4 v1 _ hp stk
      exact pf_of (T := table) (G := glob) (f := 62) rfl rfl (Hd.on (s_z5_0 ((pk_z5 k)) ih0 (topN stk + 1) ) (v0_0, v0_1, v0_2, v0_3, v0_4, v1) hp stk )
def p_z5 : S2_ → Int → Option (Bool) := (pk_z5 1000000)
theorem s_z5 : (C_z5 PC FC @XM E_e5 E_e1 p_z5) := (sk_z5 1000000).1
def p_z2_0 : T_z2_0 → Option R_z2 := (b_z2_0 Prims.real p_z5 )
theorem s_z2_0 (m : Nat) : H_z2_0 AT @XM E_e5 E_e1 m (p_z2_0 ) := (o_z2_0 LW rfl rfl HA HZ p_z5 s_z5 m )
def p_z2 : S2_ → Option (Bool) := fun ⟨v0_0, v0_1, v0_2, v0_3, v0_4⟩ => p_z2_0 (v0_0, v0_1, v0_2, v0_3, v0_4)
theorem s_z2 : (C_z2 PC FC @XM E_e5 E_e1 p_z2) := by
  intro v0_0 v0_1 v0_2 v0_3 v0_4 _ hp stk
  exact pf_of (T := table) (G := glob) (f := 33) rfl rfl (Hd.on (s_z2_0 (topN stk + 1) ) (v0_0, v0_1, v0_2, v0_3, v0_4) hp stk )
def p_zbd_3 : T_zbd_3 → Option (T_zbd_1 ⊕ R_zbd) := (b_zbd_3 Prims.real p_zx )
def p_zbd_4 : T_zbd_4 → Option R_zbd := (b_zbd_4 Prims.real p_zx )
def p_zbd_1 : T_zbd_1 → Option R_zbd := Prims.real.loop (b_zbd_1 Prims.real p_zx p_zbd_3 p_zbd_4)
theorem u_zbd_1 (s : T_zbd_1) : p_zbd_1 s = (match b_zbd_1 Prims.real p_zx p_zbd_3 p_zbd_4 s with | some (.inl t) => p_zbd_1 t | some (.inr r) => some r | none => none) := (Pr.loop_eq' _ s).trans (by rcases b_zbd_1 Prims.real p_zx p_zbd_3 p_zbd_4 s with _|_|_ <;> rfl)
def p_zbd_0 : T_zbd_0 → Option R_zbd := (b_zbd_0 Prims.real p_zx p_zbd_1)
theorem s_zbd_3 (m : Nat) : H_zbd_3 AT @XM E_e4 m (p_zbd_3 ) := (o_zbd_3 LW rfl rfl HA HZ p_zx s_zx m )
theorem s_zbd_4 (m : Nat) : H_zbd_4 AT @XM E_e4 m (p_zbd_4 ) := (o_zbd_4 LW rfl rfl HA HZ p_zx s_zx m )
theorem s_zbd_1 (m : Nat) : H_zbd_1 AT @XM E_e4 m (p_zbd_1 ) := loopH (o_zbd_1 LW rfl rfl HA HZ p_zx s_zx m (s_zbd_3 m ) (s_zbd_4 m ))
theorem s_zbd_0 (m : Nat) : H_zbd_0 AT @XM E_e4 m (p_zbd_0 ) := (o_zbd_0 LW rfl rfl HA HZ p_zx s_zx m (s_zbd_1 m ))
def p_zbd : Ls2 → Option (Bool) := fun v0 => p_zbd_0 v0
theorem s_zbd : (C_zbd PC FC @XM E_e4 p_zbd) := by
  intro v0 _ hp stk
  exact pf_of (T := table) (G := glob) (f := 17) rfl rfl (Hd.on (s_zbd_0 (topN stk + 1) ) v0 hp stk )
def p_zz_1 : T_zz_1 → Option R_zz := Prims.real.loop (b_zz_1 Prims.real )
theorem u_zz_1 (s : T_zz_1) : p_zz_1 s = (match b_zz_1 Prims.real s with | some (.inl t) => p_zz_1 t | some (.inr r) => some r | none => none) := (Pr.loop_eq' _ s).trans (by rcases b_zz_1 Prims.real s with _|_|_ <;> rfl)
def p_zz_0 : T_zz_0 → Option R_zz := (b_zz_0 Prims.real p_zz_1)
theorem s_zz_1 (m : Nat) : H_zz_1 AT @XM E_e5 E_e1 m (p_zz_1 ) := loopH (o_zz_1 LW rfl rfl HA HZ m )
theorem s_zz_0 (m : Nat) : H_zz_0 AT @XM E_e5 E_e1 m (p_zz_0 ) := (o_zz_0 LW rfl rfl HA HZ m (s_zz_1 m ))
def p_zz : S2_ → Str → Option (Int) := fun ⟨v0_0, v0_1, v0_2, v0_3, v0_4⟩ v1 => p_zz_0 (v0_0, v0_1, v0_2, v0_3, v0_4, v1)
theorem s_zz : (C_zz PC FC @XM E_e5 E_e1 p_zz) := by
  intro v0_0 v0_1 v0_2 v0_3 v0_4 v1 _ hp stk
  exact pf_of (T := table) (G := glob) (f := 79) rfl rfl (Hd.on (s_zz_0 (topN stk + 1) ) (v0_0, v0_1, v0_2, v0_3, v0_4, v1) hp stk )
def p_zbj_1 : T_zbj_1 → Option R_zbj := (b_zbj_1 Prims.real p_zz )
def p_zbj_0 : T_zbj_0 → Option R_zbj := (b_zbj_0 Prims.real p_zz p_zbj_1)
theorem s_zbj_1 (m : Nat) : H_zbj_1 AT m (p_zbj_1 ) := (o_zbj_1 LW rfl rfl HA HZ p_zz s_zz m )
theorem s_zbj_0 (m : Nat) : H_zbj_0 AT @XM E_e5 E_e1 m (p_zbj_0 ) := (o_zbj_0 LW rfl rfl HA HZ p_zz s_zz m (s_zbj_1 m ))
def p_zbj : S2_ → S1_ → Option (Int) := fun ⟨v0_0, v0_1, v0_2, v0_3, v0_4⟩ ⟨v1_0, v1_1, v1_2⟩ => p_zbj_0 (v0_0, v0_1, v0_2, v0_3, v0_4, v1_0, v1_1, v1_2)
theorem s_zbj : (C_zbj PC FC @XM E_e5 E_e1 p_zbj) := by
  intro v0_0 v0_1 v0_2 v0_3 v0_4 v1_0 v1_1 v1_2 _ hp stk
  exact pf_of (T := table) (G := glob) (f := 63) rfl rfl (Hd.on (s_zbj_0 (topN stk + 1) ) (v0_0, v0_1, v0_2, v0_3, v0_4, v1_0, v1_1, v1_2) hp stk )
def p_z8_4 : T_z8_4 → Option (T_z8_1 ⊕ R_z8) := (b_z8_4 Prims.real p_zbj )
def p_z8_1 : T_z8_1 → Option R_z8 := Prims.real.loop (b_z8_1 Prims.real p_zbj p_z8_4)
theorem u_z8_1 (s : T_z8_1) : p_z8_1 s = (match b_z8_1 Prims.real p_zbj p_z8_4 s with | some (.inl t) => p_z8_1 t | some (.inr r) => some r | none => none) := (Pr.loop_eq' _ s).trans (by rcases b_z8_1 Prims.real p_zbj p_z8_4 s with _|_|_ <;> rfl)
def p_z8_0 : T_z8_0 → Option R_z8 := (b_z8_0 Prims.real p_zbj p_z8_1)
theorem s_z8_4 (m : Nat) : H_z8_4 AT @XM E_e4 E_e5 E_e1 m (p_z8_4 ) := (o_z8_4 LW rfl rfl HA HZ p_zbj s_zbj m )
theorem s_z8_1 (m : Nat) : H_z8_1 AT @XM E_e4 E_e5 E_e1 m (p_z8_1 ) := loopH (o_z8_1 LW rfl rfl HA HZ p_zbj s_zbj m (s_z8_4 m ))
theorem s_z8_0 (m : Nat) : H_z8_0 AT @XM E_e4 E_e5 E_e1 m (p_z8_0 ) := (o_z8_0 LW rfl rfl HA HZ p_zbj s_zbj m (s_z8_1 m ))
def p_z8 : S2_ → Ls2 → Option (S2_ × Bool) := fun ⟨v0_0, v0_1, v0_2, v0_3, v0_4⟩ v1 => p_z8_0 (v0_0, v0_1, v0_2, v0_3, v0_4, v1)
theorem s_z8 : (C_z8 PC FC @XM E_e4 E_e5 E_e1 p_z8) := by
  intro v0_0 v0_1 v0_2 v0_3 v0_4 v1 _ _ _ _ _ _ hp stk
  exact pf_of (T := table) (G := glob) (f := 34) rfl rfl (Hd.on (s_z8_0 (topN stk + 1) ) (v0_0, v0_1, v0_2, v0_3, v0_4, v1) hp stk )
def p_zbi_0 : T_zbi_0 → Option R_zbi := (b_zbi_0 Prims.real p_z2 p_zbd p_z8 )
theorem s_zbi_0 (m : Nat) : H_zbi_0 AT @XM E_e4 E_e5 E_e1 m (p_zbi_0 ) := (o_zbi_0 LW rfl rfl HA HZ p_z2 p_zbd p_z8 s_z2 s_zbd s_z8 m )
def p_zbi : S2_ → Ls2 → Option (S2_ × Int) := fun ⟨v0_0, v0_1, v0_2, v0_3, v0_4⟩ v1 => p_zbi_0 (v0_0, v0_1, v0_2, v0_3, v0_4, v1)
theorem s_zbi : (C_zbi PC FC @XM E_e4 E_e5 E_e1 p_zbi) := by
  intro v0_0 v0_1 v0_2 v0_3 v0_4 v1 _ _ _ _ _ _ hp stk
  exact pf_of (T := table) (G := glob) (f := 66) rfl rfl (Hd.on (s_zbi_0 (topN stk + 1) ) (v0_0, v0_1, v0_2, v0_3, v0_4, v1) hp stk )
def p_zbb_4 (c_zbb : S2_ → Ls2 → S2_ → Option (S2_)) : T_zbb_4 → Option (T_zbb_2 ⊕ R_zbb) := (b_zbb_4 Prims.real p_zbj c_zbb )
def p_zbb_9 (c_zbb : S2_ → Ls2 → S2_ → Option (S2_)) : T_zbb_9 → Option (T_zbb_7 ⊕ R_zbb) := (b_zbb_9 Prims.real p_zbj c_zbb )
def p_zbb_7 (c_zbb : S2_ → Ls2 → S2_ → Option (S2_)) : T_zbb_7 → Option R_zbb := Prims.real.loop (b_zbb_7 Prims.real p_zbj c_zbb (p_zbb_9 c_zbb ))
theorem u_zbb_7 (c_zbb : S2_ → Ls2 → S2_ → Option (S2_)) (s : T_zbb_7) : p_zbb_7 c_zbb s = (match b_zbb_7 Prims.real p_zbj c_zbb (p_zbb_9 c_zbb ) s with | some (.inl t) => p_zbb_7 c_zbb t | some (.inr r) => some r | none => none) := (Pr.loop_eq' _ s).trans (by rcases b_zbb_7 Prims.real p_zbj c_zbb (p_zbb_9 c_zbb ) s with _|_|_ <;> rfl)
def p_zbb_2 (c_zbb : S2_ → Ls2 → S2_ → Option (S2_)) : T_zbb_2 → Option R_zbb := Prims.real.loop (b_zbb_2 Prims.real p_zbj c_zbb (p_zbb_4 c_zbb ) (p_zbb_7 c_zbb ))
theorem u_zbb_2 (c_zbb : S2_ → Ls2 → S2_ → Option (S2_)) (s : T_zbb_2) : p_zbb_2 c_zbb s = (match b_zbb_2 Prims.real p_zbj c_zbb (p_zbb_4 c_zbb ) (p_zbb_7 c_zbb ) s with | some (.inl t) => p_zbb_2 c_zbb t | some (.inr r) => some r | none => none) := (Pr.loop_eq' _ s).trans (by rcases b_zbb_2 Prims.real p_zbj c_zbb (p_zbb_4 c_zbb ) (p_zbb_7 c_zbb ) s with _|_|_ <;> rfl)
def p_zbb_0 (c_zbb : S2_ → Ls2 → S2_ → Option (S2_)) : T_zbb_0 → Option R_zbb := (b_zbb_0 Prims.real p_zbj c_zbb (p_zbb_2 c_zbb ))
theorem s_zbb_4 (c_zbb : S2_ → Ls2 → S2_ → Option (S2_)) (h_zbb : (C_zbb PC FC @XM E_e4 E_e5 E_e1 c_zbb)) (m : Nat) : H_zbb_4 AT @XM List.length E_e4 E_e5 E_e1 m (p_zbb_4 c_zbb ) := (o_zbb_4 LW rfl rfl HA HZ p_zbj c_zbb s_zbj h_zbb m )
theorem s_zbb_9 (c_zbb : S2_ → Ls2 → S2_ → Option (S2_)) (h_zbb : (C_zbb PC FC @XM E_e4 E_e5 E_e1 c_zbb)) (m : Nat) : H_zbb_9 AT @XM List.length E_e4 E_e5 E_e1 m (p_zbb_9 c_zbb ) := (o_zbb_9 LW rfl rfl HA HZ p_zbj c_zbb s_zbj h_zbb m )
theorem s_zbb_7 (c_zbb : S2_ → Ls2 → S2_ → Option (S2_)) (h_zbb : (C_zbb PC FC @XM E_e4 E_e5 E_e1 c_zbb)) (m : Nat) : H_zbb_7 AT @XM List.length E_e4 E_e5 E_e1 m (p_zbb_7 c_zbb ) := loopH (o_zbb_7 LW rfl rfl HA HZ p_zbj c_zbb s_zbj h_zbb m (s_zbb_9 c_zbb h_zbb m ))
theorem s_zbb_2 (c_zbb : S2_ → Ls2 → S2_ → Option (S2_)) (h_zbb : (C_zbb PC FC @XM E_e4 E_e5 E_e1 c_zbb)) (m : Nat) : H_zbb_2 AT @XM List.length E_e4 E_e5 E_e1 m (p_zbb_2 c_zbb ) := loopH (o_zbb_2 LW rfl rfl HA HZ p_zbj c_zbb s_zbj h_zbb m (s_zbb_4 c_zbb h_zbb m ) (s_zbb_7 c_zbb h_zbb m ))
theorem s_zbb_0 (c_zbb : S2_ → Ls2 → S2_ → Option (S2_)) (h_zbb : (C_zbb PC FC @XM E_e4 E_e5 E_e1 c_zbb)) (m : Nat) : H_zbb_0 AT @XM E_e4 E_e5 E_e1 m (p_zbb_0 c_zbb ) := (o_zbb_0 LW rfl rfl HA HZ p_zbj c_zbb s_zbj h_zbb m (s_zbb_2 c_zbb h_zbb m ))
def pk_zbb : Nat → (S2_ → Ls2 → S2_ → Option (S2_))
  | 0 => fun _ _ _ => none
  | k + 1 => fun ⟨v0_0, v0_1, v0_2, v0_3, v0_4⟩ v1 ⟨v2_0, v2_1, v2_2, v2_3, v2_4⟩ => p_zbb_0 ((pk_zbb k)) (v0_0, v0_1, v0_2, v0_3, v0_4, v1, v2_0, v2_1, v2_2, v2_3, v2_4)
theorem sk_zbb : ∀ k, ((C_zbb PC FC @XM E_e4 E_e5 E_e1 ((pk_zbb k)))) ∧ True
  | 0 => by
    refine ⟨?_, trivial⟩
    · intro _ _ _ _ _ _ _ _ _ _ _ _ _ _ _ _ hp; exact nomatch (show none = some _ from hp)
  | k + 1 => by
    obtain ⟨ih0, _⟩ := sk_zbb k
    refine ⟨?_, trivial⟩
    · intro v0_0 v0_1 v0_2 v0_3 v0_4 v1 v2_0 v2_1 v2_2 v2_3 v2_4 _ _ _ _ _ hp stk
      exact pf_of (T := table) (G := glob) (f := 106) rfl rfl (Hd.on (s_zbb_0 ((pk_zbb k)) ih0 (topN stk + 1) ) (v0_0, v0_1, v0_2, v0_3, v0_4, v1, v2_0, v2_1, v2_2, v2_3, v2_4) hp stk )
def p_zbb : S2_ → Ls2 → S2_ → Option (S2_) := (pk_zbb 1000000)
theorem s_zbb : (C_zbb PC FC @XM E_e4 E_e5 E_e1 p_zbb) := (sk_zbb 1000000).1
def p_zbh_0 : T_zbh_0 → Option R_zbh := (b_zbh_0 Prims.real p_zbb p_z2 )
theorem s_zbh_0 (m : Nat) : H_zbh_0 AT @XM E_e4 E_e5 E_e1 m (p_zbh_0 ) := (o_zbh_0 LW rfl rfl HA HZ p_zbb p_z2 s_zbb s_z2 m )
def p_zbh : S2_ → Ls2 → S2_ → Option (S2_ × Int) := fun ⟨v0_0, v0_1, v0_2, v0_3, v0_4⟩ v1 ⟨v2_0, v2_1, v2_2, v2_3, v2_4⟩ => p_zbh_0 (v0_0, v0_1, v0_2, v0_3, v0_4, v1, v2_0, v2_1, v2_2, v2_3, v2_4)
theorem s_zbh : (C_zbh PC FC @XM E_e4 E_e5 E_e1 p_zbh) := by
  intro v0_0 v0_1 v0_2 v0_3 v0_4 v1 v2_0 v2_1 v2_2 v2_3 v2_4 _ _ _ _ _ _ hp stk
  exact pf_of (T := table) (G := glob) (f := 67) rfl rfl (Hd.on (s_zbh_0 (topN stk + 1) ) (v0_0, v0_1, v0_2, v0_3, v0_4, v1, v2_0, v2_1, v2_2, v2_3, v2_4) hp stk )
def p_z6_1 : T_z6_1 → Option R_z6 := Prims.real.loop (b_z6_1 Prims.real p_z2 p_zbi p_zbh )
theorem u_z6_1 (s : T_z6_1) : p_z6_1 s = (match b_z6_1 Prims.real p_z2 p_zbi p_zbh s with | some (.inl t) => p_z6_1 t | some (.inr r) => some r | none => none) := (Pr.loop_eq' _ s).trans (by rcases b_z6_1 Prims.real p_z2 p_zbi p_zbh s with _|_|_ <;> rfl)
def p_z6_0 : T_z6_0 → Option R_z6 := (b_z6_0 Prims.real p_z2 p_zbi p_zbh p_z6_1)
theorem s_z6_1 (m : Nat) : H_z6_1 AT @XM E_e4 E_e5 E_e1 m (p_z6_1 ) := loopH (o_z6_1 LW rfl rfl HA HZ p_z2 p_zbi p_zbh s_z2 s_zbi s_zbh m )
theorem s_z6_0 (m : Nat) : H_z6_0 AT @XM E_e4 E_e5 E_e1 m (p_z6_0 ) := (o_z6_0 LW rfl rfl HA HZ p_z2 p_zbi p_zbh s_z2 s_zbi s_zbh m (s_z6_1 m ))
def p_z6 : S2_ → Ls2 → Ls0 → Option (S2_ × Int) := fun ⟨v0_0, v0_1, v0_2, v0_3, v0_4⟩ v1 v2 => p_z6_0 (v0_0, v0_1, v0_2, v0_3, v0_4, v1, v2)
theorem s_z6 : (C_z6 PC FC @XM E_e4 E_e5 E_e1 p_z6) := by
  intro v0_0 v0_1 v0_2 v0_3 v0_4 v1 v2 _ _ _ _ _ _ hp stk
  exact pf_of (T := table) (G := glob) (f := 39) rfl rfl (Hd.on (s_z6_0 (topN stk + 1) ) (v0_0, v0_1, v0_2, v0_3, v0_4, v1, v2) hp stk )
def p_z3_6 (c_z3 : S2_ → S2_ → Option (Bool)) : T_z3_6 → Option R_z3 := Prims.real.loop (b_z3_6 Prims.real c_z3 )
theorem u_z3_6 (c_z3 : S2_ → S2_ → Option (Bool)) (s : T_z3_6) : p_z3_6 c_z3 s = (match b_z3_6 Prims.real c_z3 s with | some (.inl t) => p_z3_6 c_z3 t | some (.inr r) => some r | none => none) := (Pr.loop_eq' _ s).trans (by rcases b_z3_6 Prims.real c_z3 s with _|_|_ <;> rfl)
def p_z3_2 (c_z3 : S2_ → S2_ → Option (Bool)) : T_z3_2 → Option R_z3 := Prims.real.loop (b_z3_2 Prims.real c_z3 (p_z3_6 c_z3 ))
theorem u_z3_2 (c_z3 : S2_ → S2_ → Option (Bool)) (s : T_z3_2) : p_z3_2 c_z3 s = (match b_z3_2 Prims.real c_z3 (p_z3_6 c_z3 ) s with | some (.inl t) => p_z3_2 c_z3 t | some (.inr r) => some r | none => none) := (Pr.loop_eq' _ s).trans (by rcases b_z3_2 Prims.real c_z3 (p_z3_6 c_z3 ) s with _|_|_ <;> rfl)
def p_z3_0 (c_z3 : S2_ → S2_ → Option (Bool)) : T_z3_0 → Option R_z3 := (b_z3_0 Prims.real c_z3 (p_z3_2 c_z3 ))
theorem s_z3_6 (c_z3 : S2_ → S2_ → Option (Bool)) (h_z3 : (C_z3 PC FC @XM E_e5 E_e1 c_z3)) (m : Nat) : H_z3_6 AT @XM E_e5 E_e1 m (p_z3_6 c_z3 ) := loopH (o_z3_6 LW rfl rfl HA HZ c_z3 h_z3 m )
theorem s_z3_2 (c_z3 : S2_ → S2_ → Option (Bool)) (h_z3 : (C_z3 PC FC @XM E_e5 E_e1 c_z3)) (m : Nat) : H_z3_2 AT @XM E_e5 E_e1 m (p_z3_2 c_z3 ) := loopH (o_z3_2 LW rfl rfl HA HZ c_z3 h_z3 m (s_z3_6 c_z3 h_z3 m ))
theorem s_z3_0 (c_z3 : S2_ → S2_ → Option (Bool)) (h_z3 : (C_z3 PC FC @XM E_e5 E_e1 c_z3)) (m : Nat) : H_z3_0 AT @XM E_e5 E_e1 m (p_z3_0 c_z3 ) := (o_z3_0 LW rfl rfl HA HZ c_z3 h_z3 m (s_z3_2 c_z3 h_z3 m ))
def pk_z3 : Nat → (S2_ → S2_ → Option (Bool))
  | 0 => fun _ _ => none
  | k + 1 => fun ⟨v0_0, v0_1, v0_2, v0_3, v0_4⟩ ⟨v1_0, v1_1, v1_2, v1_3, v1_4⟩ => p_z3_0 ((pk_z3 k)) (v0_0, v0_1, v0_2, v0_3, v0_4, v1_0, v1_1, v1_2, v1_3, v1_4)
theorem sk_z3 : ∀ k, ((C_z3 PC FC @XM E_e5 E_e1 ((pk_z3 k)))) ∧ True
  | 0 => by
    refine ⟨?_, trivial⟩
    · intro _ _ _ _ _ _ _ _ _ _ _ hp; exact nomatch (show none = some _ from hp)
  | k + 1 => by
    obtain ⟨ih0, _⟩ := sk_z3 k
    refine ⟨?_, trivial⟩
    · intro v0_0 v0_1 v0_2 v0_3 v0_4 v1_0 v1_1 v1_2 v1_3 v1_4 _ hp stk
      exact pf_of (T := table) (G := glob) (f := 22) rfl rfl (Hd.on (s_z3_0 ((pk_z3 k)) ih0 (topN stk + 1) ) (v0_0, v0_1, v0_2, v0_3, v0_4, v1_0, v1_1, v1_2, v1_3, v1_4) hp stk )
def p_z3 : S2_ → S2_ → Option (Bool) := (pk_z3 1000000)
theorem s_z3 : (C_z3 PC FC @XM E_e5 E_e1 p_z3) := (sk_z3 1000000).1
def p_zg_0 : T_zg_0 → Option R_zg := (b_zg_0 Prims.real p_zo p_z0 p_z7 p_zcf p_z6 p_z3 )
theorem s_zg_0 (m : Nat) : H_zg_0 AT @XM E_e4 E_e5 E_e1 m (p_zg_0 ) := (o_zg_0 LW rfl rfl HA HZ p_zo p_z0 p_z7 p_zcf p_z6 p_z3 s_zo s_z0 s_z7 s_zcf s_z6 s_z3 m )
def p_zg : S2_ → Ls2 → Ls0 → Option (Bool) := fun ⟨v0_0, v0_1, v0_2, v0_3, v0_4⟩ v1 v2 => p_zg_0 (v0_0, v0_1, v0_2, v0_3, v0_4, v1, v2)
theorem s_zg : (C_zg PC FC @XM E_e4 E_e5 E_e1 p_zg) := by
  intro v0_0 v0_1 v0_2 v0_3 v0_4 v1 v2 _ hp stk
  exact pf_of (T := table) (G := glob) (f := 9) rfl rfl (Hd.on (s_zg_0 (topN stk + 1) ) (v0_0, v0_1, v0_2, v0_3, v0_4, v1, v2) hp stk )
end
end Go.Abs.T
