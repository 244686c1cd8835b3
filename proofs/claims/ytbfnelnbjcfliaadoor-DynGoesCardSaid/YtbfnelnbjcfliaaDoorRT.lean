import Derived.Test.YtbfnelnbjcfliaaDoorWTb
import Derived.KernelRfl
set_option linter.unusedVariables false
set_option linter.unusedSimpArgs false
namespace Go.Abs.T
set_option maxRecDepth 100000
theorem table_ok : ∀ f kf, table f = some kf → kf.ok = true := by
  intro f kf h
  unfold table at h
  split at h <;> first | (cases h; done) | (cases h; kernel_rfl)
theorem LW : KLaws (oldT table) iterW glob (callW (oldT table) glob) (sysW table glob).pcall (sysW table glob).fcall (sysW table glob).kcall (List.length) (fun xs i => xs[i]?) (fun xs lo hi => (xs.take hi).drop lo) (fun xs ys => xs ++ ys) (fun xs i x => xs.set i x) (fun n x => List.replicate n x) (allSz) (List.length) (fun s i => s[i]?) (fun s lo hi => (s.take hi).drop lo) (fun a b => a ++ b) (fun a b => a == b) (fun a b => Op.bytesLess a b) (fun s => s.map fun b => .int .u8 b.toNat) (bytesOf) (fun s i => Utf8.decode ⟨⟨s⟩⟩ i) (fun n => (Utf8.encode n).data.toList) (intAr) (intCmp) (fun k n => k.wrap n) (fun n => decide (n = 0)) (fun n => decide (n < 0)) (fun n => n.toNat) (fun (n : Nat) => (n : Int)) (fun (b : UInt8) => (b.toNat : Int)) (fun a b => decide (a ≤ b)) (fun a b => a + b) (fun a b => a - b) (fun n b => decide (n * b ≤ room ∧ n ≤ room)) (findE) (Go.Abs.putE) (Go.Abs.findK) (List.length) (frzMap) (sameV) (atW table glob) setO (fun s => topN s + 1) sameStk (fun {_} e l => List.map e l) (fun {_} e l => mapE e l) Pr.quo Pr.shf Pr.slen Pr.sidx Pr.ssub Pr.scat Pr.sit Pr.slist Pr.ofBytes @Pr.len @Pr.idx @Pr.sub @Pr.app @Pr.set @Pr.make @Pr.mfind @Pr.mput @Pr.loop table := KLaws.real (G := glob) table_ok
abbrev XM {α : Type} (e : α → D) (l : List α) : List D := List.map e l
noncomputable abbrev AT := atW table glob
noncomputable abbrev PC := (sysW table glob).pcall
noncomputable abbrev FC := (sysW table glob).fcall
noncomputable abbrev KC_ := (sysW table glob).kcall
mutual
def E_any : S_any → D
  | .n => .nili
  | .c2 x => (.iface 2 (.int .i64 x))
  | .c3 x => (.iface 3 (.int .i64 x))
  | .c4 x => (.iface 4 (.bool x))
  | .c9 x => (.iface 9 (.str x))
  | .c66 x => (.iface 66 (.sl (E_any_l x)))
  | .c68 x => (.iface 68 (.sl (E_dyn_Member_l x)))
  | .c71 => (.iface 71 .any)
def E_any_l : List S_any → List D
  | [] => []
  | x :: r => E_any x :: E_any_l r
def E_dyn_Member : S_dyn_Member → D
  | ⟨x_0, x_1⟩ => (.agg [(.str x_0), (E_any x_1)])
def E_dyn_Member_l : List S_dyn_Member → List D
  | [] => []
  | x :: r => E_dyn_Member x :: E_dyn_Member_l r
end
theorem E_any_map : ∀ l, E_any_l l = l.map E_any
  | [] => by simp only [E_any_l, List.map_nil]
  | x :: r => by simp only [E_any_l, List.map_cons, E_any_map r]
theorem E_dyn_Member_map : ∀ l, E_dyn_Member_l l = l.map E_dyn_Member
  | [] => by simp only [E_dyn_Member_l, List.map_nil]
  | x :: r => by simp only [E_dyn_Member_l, List.map_cons, E_dyn_Member_map r]
theorem he_E_any : (E_any .n = .nili) ∧ (∀ (x : Int), E_any (.c2 x) = (.iface 2 (.int .i64 x))) ∧ (∀ (x : Int), E_any (.c3 x) = (.iface 3 (.int .i64 x))) ∧ (∀ (x : Bool), E_any (.c4 x) = (.iface 4 (.bool x))) ∧ (∀ (x : Str), E_any (.c9 x) = (.iface 9 (.str x))) ∧ (∀ (x : Ls2), E_any (.c66 x) = (.iface 66 (.sl (List.map E_any x)))) ∧ (∀ (x : Ls3), E_any (.c68 x) = (.iface 68 (.sl (List.map E_dyn_Member x)))) ∧ (E_any .c71 = (.iface 71 .any)) := by refine ⟨?_, ?_, ?_, ?_, ?_, ?_, ?_, ?_⟩ <;> intros <;> simp only [E_any, E_any_map, E_dyn_Member_map]
theorem he_E_dyn_Member (x_0 : Str) (x_1 : S_any) : E_dyn_Member ⟨x_0, x_1⟩ = (.agg [(.str x_0), (E_any x_1)]) := by simp only [E_dyn_Member, E_any_map, E_dyn_Member_map]
theorem hz_E_any (l : List S_any) : allSz 1 (l.map E_any) = true := LW.allsz E_any 1 (fun a => by cases a <;> simp only [he_E_any] <;> exact ⟨rfl, rfl⟩) l
theorem hz_E_dyn_Member (l : List S_dyn_Member) : allSz 2 (l.map E_dyn_Member) = true := LW.allsz E_dyn_Member 2 (fun a => by obtain ⟨_, _⟩ := a; rw [he_E_dyn_Member]; exact ⟨rfl, rfl⟩) l
mutual
def E_api_Value : S_api_Value → D
  | ⟨x_0, x_1, x_2, x_3, x_4⟩ => (.agg [(.int .i64 x_0), (.int .i64 x_1), (.str x_2), (.sl (E_api_Value_l x_3)), (.sl (E_api_Pair_l x_4))])
def E_api_Value_l : List S_api_Value → List D
  | [] => []
  | x :: r => E_api_Value x :: E_api_Value_l r
def E_api_Pair : S_api_Pair → D
  | ⟨x_0, ⟨x_1_0, x_1_1, x_1_2, x_1_3, x_1_4⟩⟩ => (.agg [(.str x_0), (.int .i64 x_1_0), (.int .i64 x_1_1), (.str x_1_2), (.sl (E_api_Value_l x_1_3)), (.sl (E_api_Pair_l x_1_4))])
def E_api_Pair_l : List S_api_Pair → List D
  | [] => []
  | x :: r => E_api_Pair x :: E_api_Pair_l r
end
theorem E_api_Value_map : ∀ l, E_api_Value_l l = l.map E_api_Value
  | [] => by simp only [E_api_Value_l, List.map_nil]
  | x :: r => by simp only [E_api_Value_l, List.map_cons, E_api_Value_map r]
theorem E_api_Pair_map : ∀ l, E_api_Pair_l l = l.map E_api_Pair
  | [] => by simp only [E_api_Pair_l, List.map_nil]
  | x :: r => by simp only [E_api_Pair_l, List.map_cons, E_api_Pair_map r]
theorem he_E_api_Value (x_0 x_1 : Int) (x_2 : Str) (x_3 : Ls0) (x_4 : Ls1) : E_api_Value ⟨x_0, x_1, x_2, x_3, x_4⟩ = (.agg [(.int .i64 x_0), (.int .i64 x_1), (.str x_2), (.sl (List.map E_api_Value x_3)), (.sl (List.map E_api_Pair x_4))]) := by simp only [E_api_Value, E_api_Value_map, E_api_Pair_map]
theorem he_E_api_Pair (x_0 : Str) (x_1_0 x_1_1 : Int) (x_1_2 : Str) (x_1_3 : Ls0) (x_1_4 : Ls1) : E_api_Pair ⟨x_0, ⟨x_1_0, x_1_1, x_1_2, x_1_3, x_1_4⟩⟩ = (.agg [(.str x_0), (.int .i64 x_1_0), (.int .i64 x_1_1), (.str x_1_2), (.sl (List.map E_api_Value x_1_3)), (.sl (List.map E_api_Pair x_1_4))]) := by simp only [E_api_Pair, E_api_Value_map, E_api_Pair_map]
theorem hz_E_api_Value (l : List S_api_Value) : allSz 5 (l.map E_api_Value) = true := LW.allsz E_api_Value 5 (fun a => by obtain ⟨_, _, _, _, _⟩ := a; rw [he_E_api_Value]; exact ⟨rfl, rfl⟩) l
theorem hz_E_api_Pair (l : List S_api_Pair) : allSz 6 (l.map E_api_Pair) = true := LW.allsz E_api_Pair 6 (fun a => by obtain ⟨_, ⟨_, _, _, _, _⟩⟩ := a; rw [he_E_api_Pair]; exact ⟨rfl, rfl⟩) l
def E_int : Int → D := fun x => (.int .i64 x)
theorem he_E_int (x : Int) : E_int x = (.int .i64 x) := rfl
theorem hz_E_int (l : List Int) : allSz 1 (l.map E_int) = true := LW.allsz E_int 1 (fun a => ⟨rfl, rfl⟩) l
def E_string : Str → D := fun x => (.str x)
theorem he_E_string (x : Str) : E_string x = (.str x) := rfl
theorem hz_E_string (l : List Str) : allSz 1 (l.map E_string) = true := LW.allsz E_string 1 (fun a => ⟨rfl, rfl⟩) l
theorem HF : ∀ v, (E_any v).flat = true ∧ (E_any v).cells = [E_any v] := fun v => by cases v <;> simp only [he_E_any] <;> exact ⟨rfl, rfl⟩
theorem HA : ((E_any .n = .nili) ∧ (∀ (x : Int), E_any (.c2 x) = (.iface 2 (.int .i64 x))) ∧ (∀ (x : Int), E_any (.c3 x) = (.iface 3 (.int .i64 x))) ∧ (∀ (x : Bool), E_any (.c4 x) = (.iface 4 (.bool x))) ∧ (∀ (x : Str), E_any (.c9 x) = (.iface 9 (.str x))) ∧ (∀ (x : Ls2), E_any (.c66 x) = (.iface 66 (.sl (List.map E_any x)))) ∧ (∀ (x : Ls3), E_any (.c68 x) = (.iface 68 (.sl (List.map E_dyn_Member x)))) ∧ (E_any .c71 = (.iface 71 .any))) ∧ (∀ (x_0 : Str) (x_1 : S_any), E_dyn_Member ⟨x_0, x_1⟩ = (.agg [(.str x_0), (E_any x_1)])) ∧ (∀ (x_0 x_1 : Int) (x_2 : Str) (x_3 : Ls0) (x_4 : Ls1), E_api_Value ⟨x_0, x_1, x_2, x_3, x_4⟩ = (.agg [(.int .i64 x_0), (.int .i64 x_1), (.str x_2), (.sl (List.map E_api_Value x_3)), (.sl (List.map E_api_Pair x_4))])) ∧ (∀ (x_0 : Str) (x_1_0 x_1_1 : Int) (x_1_2 : Str) (x_1_3 : Ls0) (x_1_4 : Ls1), E_api_Pair ⟨x_0, ⟨x_1_0, x_1_1, x_1_2, x_1_3, x_1_4⟩⟩ = (.agg [(.str x_0), (.int .i64 x_1_0), (.int .i64 x_1_1), (.str x_1_2), (.sl (List.map E_api_Value x_1_3)), (.sl (List.map E_api_Pair x_1_4))])) ∧ (∀ (x : Int), E_int x = (.int .i64 x)) ∧ (∀ (x : Str), E_string x = (.str x)) := And.intro @he_E_any (And.intro @he_E_dyn_Member (And.intro @he_E_api_Value (And.intro @he_E_api_Pair (And.intro @he_E_int (@he_E_string)))))
theorem HZ : (∀ l, allSz 1 (List.map E_any l) = true) ∧ (∀ l, allSz 2 (List.map E_dyn_Member l) = true) ∧ (∀ l, allSz 5 (List.map E_api_Value l) = true) ∧ (∀ l, allSz 6 (List.map E_api_Pair l) = true) ∧ (∀ l, allSz 1 (List.map E_int l) = true) ∧ (∀ l, allSz 1 (List.map E_string l) = true) := And.intro @hz_E_any (And.intro @hz_E_dyn_Member (And.intro @hz_E_api_Value (And.intro @hz_E_api_Pair (And.intro @hz_E_int (@hz_E_string)))))
noncomputable def p_dyn_Kind_0  (v0 : S_any) : Option (Int) := b_dyn_Kind_0 Prims.real   v0
theorem s_dyn_Kind_0   (m : Nat)    : H_dyn_Kind_0 AT E_any m  p_dyn_Kind_0 := by
  intro v0 out hp stk 
  exact o_dyn_Kind_0 LW rfl rfl HA HZ HF stk m v0 hp
noncomputable def p_dyn_Kind : S_any → Option (Int) := fun v0 => p_dyn_Kind_0  v0
theorem s_dyn_Kind : (C_dyn_Kind PC FC E_any p_dyn_Kind) := by
  intro _ _ hp stk    
  exact pf_of (T := table) (G := glob) (f := 33) rfl rfl (s_dyn_Kind_0   (topN stk + 1)    hp stk )
noncomputable def p_cascadelaw04_awake_0   : Option (Bool) := b_cascadelaw04_awake_0 Prims.real p_dyn_Kind  
theorem s_cascadelaw04_awake_0   (m : Nat)    : H_cascadelaw04_awake_0 AT m  p_cascadelaw04_awake_0 := by
  intro  out hp stk 
  exact o_cascadelaw04_awake_0 LW rfl rfl HA HZ HF p_dyn_Kind s_dyn_Kind stk m hp
noncomputable def p_cascadelaw04_awake : Option (Bool) := p_cascadelaw04_awake_0 
theorem s_cascadelaw04_awake : (C_cascadelaw04_awake PC FC p_cascadelaw04_awake) := by
  intro _ hp stk    
  exact pf_of (T := table) (G := glob) (f := 29) rfl rfl (s_cascadelaw04_awake_0   (topN stk + 1)    hp stk )
noncomputable def p_cascaderef03_few_10 (c_cascaderef03_few : S_api_Value → Int → Option (Int)) (v1 : Int) : Option (Int) := b_cascaderef03_few_10 Prims.real c_cascaderef03_few  v1
theorem s_cascaderef03_few_10 (c_cascaderef03_few : S_api_Value → Int → Option (Int)) (h_cascaderef03_few : (C_cascaderef03_few PC FC @XM E_api_Value E_api_Pair c_cascaderef03_few)) (m : Nat)    : H_cascaderef03_few_10 AT m  (p_cascaderef03_few_10 c_cascaderef03_few) := by
  intro v1 out hp stk 
  exact o_cascaderef03_few_10 LW rfl rfl HA HZ HF c_cascaderef03_few h_cascaderef03_few stk m v1 hp
noncomputable def p_cascaderef03_few_6 (c_cascaderef03_few : S_api_Value → Int → Option (Int)) (v1 v2_0 v2_1 : Int) (v2_2 : Str) (v2_3 : Ls0) (v2_4 : Ls1) (v6 : Int) : Option (Int) := Prims.real.loop (fun (s : Int × Int × Int × Str × Ls0 × Ls1 × Int) => match s with | (v1, v2_0, v2_1, v2_2, v2_3, v2_4, v6) => b_cascaderef03_few_6 Prims.real c_cascaderef03_few (p_cascaderef03_few_10 c_cascaderef03_few) v1 v2_0 v2_1 v2_2 v2_3 v2_4 v6) (v1, v2_0, v2_1, v2_2, v2_3, v2_4, v6)
theorem u_cascaderef03_few_6 (c_cascaderef03_few : S_api_Value → Int → Option (Int)) (v1 v2_0 v2_1 : Int) (v2_2 : Str) (v2_3 : Ls0) (v2_4 : Ls1) (v6 : Int) : p_cascaderef03_few_6 c_cascaderef03_few v1 v2_0 v2_1 v2_2 v2_3 v2_4 v6 = match b_cascaderef03_few_6 Prims.real c_cascaderef03_few (p_cascaderef03_few_10 c_cascaderef03_few) v1 v2_0 v2_1 v2_2 v2_3 v2_4 v6 with
    | some (.inl (v1', v2_0', v2_1', v2_2', v2_3', v2_4', v6')) => p_cascaderef03_few_6 c_cascaderef03_few v1' v2_0' v2_1' v2_2' v2_3' v2_4' v6'
    | some (.inr r) => some r
    | none => none := by
  show Pr.loop _ _ = _
  rw [Pr.loop_eq]
  try dsimp only
  generalize b_cascaderef03_few_6 Prims.real c_cascaderef03_few (p_cascaderef03_few_10 c_cascaderef03_few) v1 v2_0 v2_1 v2_2 v2_3 v2_4 v6 = y
  cases y with
  | none => rfl
  | some y => cases y <;> rfl
theorem s_cascaderef03_few_6 (c_cascaderef03_few : S_api_Value → Int → Option (Int)) (h_cascaderef03_few : (C_cascaderef03_few PC FC @XM E_api_Value E_api_Pair c_cascaderef03_few)) (m : Nat)    : H_cascaderef03_few_6 AT @XM E_api_Value E_api_Pair m  (p_cascaderef03_few_6 c_cascaderef03_few) := by
  intro v1 v2_0 v2_1 v2_2 v2_3 v2_4 v6 out hp stk 
  refine LW.ind _ (fun (s : Int × Int × Int × Str × Ls0 × Ls1 × Int) o => match s with | (v1, v2_0, v2_1, v2_2, v2_3, v2_4, v6) => ∀ (stk : Stk), (A_cascaderef03_few_6 AT @XM E_api_Value E_api_Pair m  v1 v2_0 v2_1 v2_2 v2_3 v2_4 v6 stk) = (O_cascaderef03_few  m  stk) o) (fun s r e => ?_) (fun s t r e ih => ?_) (v1, v2_0, v2_1, v2_2, v2_3, v2_4, v6) out hp stk 
  · obtain ⟨v1, v2_0, v2_1, v2_2, v2_3, v2_4, v6⟩ := s
    intro stk 
    exact o_cascaderef03_few_6 LW rfl rfl HA HZ HF c_cascaderef03_few h_cascaderef03_few stk m (p_cascaderef03_few_10 c_cascaderef03_few) v1 v2_0 v2_1 v2_2 v2_3 v2_4 v6 (s_cascaderef03_few_10 c_cascaderef03_few h_cascaderef03_few m ) e
  · obtain ⟨v1, v2_0, v2_1, v2_2, v2_3, v2_4, v6⟩ := s; obtain ⟨v1', v2_0', v2_1', v2_2', v2_3', v2_4', v6'⟩ := t
    intro stk 
    exact (o_cascaderef03_few_6 LW rfl rfl HA HZ HF c_cascaderef03_few h_cascaderef03_few stk m (p_cascaderef03_few_10 c_cascaderef03_few) v1 v2_0 v2_1 v2_2 v2_3 v2_4 v6 (s_cascaderef03_few_10 c_cascaderef03_few h_cascaderef03_few m ) e).trans (ih stk )
noncomputable def p_cascaderef03_few_5 (c_cascaderef03_few : S_api_Value → Int → Option (Int)) (v1 v2_0 v2_1 : Int) (v2_2 : Str) (v2_3 : Ls0) (v2_4 : Ls1) : Option (Int) := b_cascaderef03_few_5 Prims.real c_cascaderef03_few (p_cascaderef03_few_6 c_cascaderef03_few) v1 v2_0 v2_1 v2_2 v2_3 v2_4
theorem s_cascaderef03_few_5 (c_cascaderef03_few : S_api_Value → Int → Option (Int)) (h_cascaderef03_few : (C_cascaderef03_few PC FC @XM E_api_Value E_api_Pair c_cascaderef03_few)) (m : Nat)    : H_cascaderef03_few_5 AT @XM E_api_Value E_api_Pair m  (p_cascaderef03_few_5 c_cascaderef03_few) := by
  intro v1 v2_0 v2_1 v2_2 v2_3 v2_4 out hp stk 
  exact o_cascaderef03_few_5 LW rfl rfl HA HZ HF c_cascaderef03_few h_cascaderef03_few stk m (p_cascaderef03_few_6 c_cascaderef03_few) v1 v2_0 v2_1 v2_2 v2_3 v2_4 (s_cascaderef03_few_6 c_cascaderef03_few h_cascaderef03_few m ) hp
noncomputable def p_cascaderef03_few_2 (c_cascaderef03_few : S_api_Value → Int → Option (Int)) (v1 v2_0 v2_1 : Int) (v2_2 : Str) (v2_3 : Ls0) (v2_4 : Ls1) (v5 : Int) : Option (Int) := Prims.real.loop (fun (s : Int × Int × Int × Str × Ls0 × Ls1 × Int) => match s with | (v1, v2_0, v2_1, v2_2, v2_3, v2_4, v5) => b_cascaderef03_few_2 Prims.real c_cascaderef03_few (p_cascaderef03_few_5 c_cascaderef03_few) v1 v2_0 v2_1 v2_2 v2_3 v2_4 v5) (v1, v2_0, v2_1, v2_2, v2_3, v2_4, v5)
theorem u_cascaderef03_few_2 (c_cascaderef03_few : S_api_Value → Int → Option (Int)) (v1 v2_0 v2_1 : Int) (v2_2 : Str) (v2_3 : Ls0) (v2_4 : Ls1) (v5 : Int) : p_cascaderef03_few_2 c_cascaderef03_few v1 v2_0 v2_1 v2_2 v2_3 v2_4 v5 = match b_cascaderef03_few_2 Prims.real c_cascaderef03_few (p_cascaderef03_few_5 c_cascaderef03_few) v1 v2_0 v2_1 v2_2 v2_3 v2_4 v5 with
    | some (.inl (v1', v2_0', v2_1', v2_2', v2_3', v2_4', v5')) => p_cascaderef03_few_2 c_cascaderef03_few v1' v2_0' v2_1' v2_2' v2_3' v2_4' v5'
    | some (.inr r) => some r
    | none => none := by
  show Pr.loop _ _ = _
  rw [Pr.loop_eq]
  try dsimp only
  generalize b_cascaderef03_few_2 Prims.real c_cascaderef03_few (p_cascaderef03_few_5 c_cascaderef03_few) v1 v2_0 v2_1 v2_2 v2_3 v2_4 v5 = y
  cases y with
  | none => rfl
  | some y => cases y <;> rfl
theorem s_cascaderef03_few_2 (c_cascaderef03_few : S_api_Value → Int → Option (Int)) (h_cascaderef03_few : (C_cascaderef03_few PC FC @XM E_api_Value E_api_Pair c_cascaderef03_few)) (m : Nat)    : H_cascaderef03_few_2 AT @XM E_api_Value E_api_Pair m  (p_cascaderef03_few_2 c_cascaderef03_few) := by
  intro v1 v2_0 v2_1 v2_2 v2_3 v2_4 v5 out hp stk 
  refine LW.ind _ (fun (s : Int × Int × Int × Str × Ls0 × Ls1 × Int) o => match s with | (v1, v2_0, v2_1, v2_2, v2_3, v2_4, v5) => ∀ (stk : Stk), (A_cascaderef03_few_2 AT @XM E_api_Value E_api_Pair m  v1 v2_0 v2_1 v2_2 v2_3 v2_4 v5 stk) = (O_cascaderef03_few  m  stk) o) (fun s r e => ?_) (fun s t r e ih => ?_) (v1, v2_0, v2_1, v2_2, v2_3, v2_4, v5) out hp stk 
  · obtain ⟨v1, v2_0, v2_1, v2_2, v2_3, v2_4, v5⟩ := s
    intro stk 
    exact o_cascaderef03_few_2 LW rfl rfl HA HZ HF c_cascaderef03_few h_cascaderef03_few stk m (p_cascaderef03_few_5 c_cascaderef03_few) v1 v2_0 v2_1 v2_2 v2_3 v2_4 v5 (s_cascaderef03_few_5 c_cascaderef03_few h_cascaderef03_few m ) e
  · obtain ⟨v1, v2_0, v2_1, v2_2, v2_3, v2_4, v5⟩ := s; obtain ⟨v1', v2_0', v2_1', v2_2', v2_3', v2_4', v5'⟩ := t
    intro stk 
    exact (o_cascaderef03_few_2 LW rfl rfl HA HZ HF c_cascaderef03_few h_cascaderef03_few stk m (p_cascaderef03_few_5 c_cascaderef03_few) v1 v2_0 v2_1 v2_2 v2_3 v2_4 v5 (s_cascaderef03_few_5 c_cascaderef03_few h_cascaderef03_few m ) e).trans (ih stk )
noncomputable def p_cascaderef03_few_0 (c_cascaderef03_few : S_api_Value → Int → Option (Int)) (v0_0 v0_1 : Int) (v0_2 : Str) (v0_3 : Ls0) (v0_4 : Ls1) (v1 : Int) : Option (Int) := b_cascaderef03_few_0 Prims.real c_cascaderef03_few (p_cascaderef03_few_2 c_cascaderef03_few) v0_0 v0_1 v0_2 v0_3 v0_4 v1
theorem s_cascaderef03_few_0 (c_cascaderef03_few : S_api_Value → Int → Option (Int)) (h_cascaderef03_few : (C_cascaderef03_few PC FC @XM E_api_Value E_api_Pair c_cascaderef03_few)) (m : Nat)    : H_cascaderef03_few_0 AT @XM E_api_Value E_api_Pair m  (p_cascaderef03_few_0 c_cascaderef03_few) := by
  intro v0_0 v0_1 v0_2 v0_3 v0_4 v1 out hp stk 
  exact o_cascaderef03_few_0 LW rfl rfl HA HZ HF c_cascaderef03_few h_cascaderef03_few stk m (p_cascaderef03_few_2 c_cascaderef03_few) v0_0 v0_1 v0_2 v0_3 v0_4 v1 (s_cascaderef03_few_2 c_cascaderef03_few h_cascaderef03_few m ) hp
noncomputable def pk_cascaderef03_few : Nat → (S_api_Value → Int → Option (Int))
  | 0 => fun _ _ => none
  | k + 1 => fun ⟨v0_0, v0_1, v0_2, v0_3, v0_4⟩ v1 => p_cascaderef03_few_0 ((pk_cascaderef03_few k)) v0_0 v0_1 v0_2 v0_3 v0_4 v1
theorem sk_cascaderef03_few : ∀ k, ((C_cascaderef03_few PC FC @XM E_api_Value E_api_Pair ((pk_cascaderef03_few k)))) ∧ True
  | 0 => by
    refine ⟨?_, trivial⟩
    · intro _ _ _ _ _ _ _ hp; exact nomatch (show none = some _ from hp)
  | k + 1 => by
    obtain ⟨ih0, _⟩ := sk_cascaderef03_few k
    refine ⟨?_, trivial⟩
    · intro _ _ _ _ _ _ _ hp stk    
      exact pf_of (T := table) (G := glob) (f := 43) rfl rfl (s_cascaderef03_few_0 ((pk_cascaderef03_few k)) ih0 (topN stk + 1)    hp stk )
noncomputable def p_cascaderef03_few : S_api_Value → Int → Option (Int) := (pk_cascaderef03_few 1000000)
theorem s_cascaderef03_few : (C_cascaderef03_few PC FC @XM E_api_Value E_api_Pair p_cascaderef03_few) := (sk_cascaderef03_few 1000000).1
noncomputable def p_cascaderef03_Few_0  (v0_0 v0_1 : Int) (v0_2 : Str) (v0_3 : Ls0) (v0_4 : Ls1) (v1 : Int) : Option (Bool) := b_cascaderef03_Few_0 Prims.real p_cascaderef03_few  v0_0 v0_1 v0_2 v0_3 v0_4 v1
theorem s_cascaderef03_Few_0   (m : Nat)    : H_cascaderef03_Few_0 AT @XM E_api_Value E_api_Pair m  p_cascaderef03_Few_0 := by
  intro v0_0 v0_1 v0_2 v0_3 v0_4 v1 out hp stk 
  exact o_cascaderef03_Few_0 LW rfl rfl HA HZ HF p_cascaderef03_few s_cascaderef03_few stk m v0_0 v0_1 v0_2 v0_3 v0_4 v1 hp
noncomputable def p_cascaderef03_Few : S_api_Value → Int → Option (Bool) := fun ⟨v0_0, v0_1, v0_2, v0_3, v0_4⟩ v1 => p_cascaderef03_Few_0  v0_0 v0_1 v0_2 v0_3 v0_4 v1
theorem s_cascaderef03_Few : (C_cascaderef03_Few PC FC @XM E_api_Value E_api_Pair p_cascaderef03_Few) := by
  intro _ _ _ _ _ _ _ hp stk    
  exact pf_of (T := table) (G := glob) (f := 13) rfl rfl (s_cascaderef03_Few_0   (topN stk + 1)    hp stk )
noncomputable def p_dyn_to_1 (c_dyn_to : S_api_Value → Option (S_any)) (o29_g : Nat) (o29 : Ls2) (v31 : Ls0) (v32 v33 : Int) : Option (S_any) := Prims.real.loop (fun (s : Nat × Ls2 × Ls0 × Int × Int) => match s with | (o29_g, o29, v31, v32, v33) => b_dyn_to_1 Prims.real c_dyn_to  o29_g o29 v31 v32 v33) (o29_g, o29, v31, v32, v33)
theorem u_dyn_to_1 (c_dyn_to : S_api_Value → Option (S_any)) (o29_g : Nat) (o29 : Ls2) (v31 : Ls0) (v32 v33 : Int) : p_dyn_to_1 c_dyn_to o29_g o29 v31 v32 v33 = match b_dyn_to_1 Prims.real c_dyn_to  o29_g o29 v31 v32 v33 with
    | some (.inl (o29_g', o29', v31', v32', v33')) => p_dyn_to_1 c_dyn_to o29_g' o29' v31' v32' v33'
    | some (.inr r) => some r
    | none => none := by
  show Pr.loop _ _ = _
  rw [Pr.loop_eq]
  try dsimp only
  generalize b_dyn_to_1 Prims.real c_dyn_to  o29_g o29 v31 v32 v33 = y
  cases y with
  | none => rfl
  | some y => cases y <;> rfl
theorem s_dyn_to_1 (c_dyn_to : S_api_Value → Option (S_any)) (h_dyn_to : (C_dyn_to PC FC @XM E_any E_api_Value E_api_Pair c_dyn_to)) (m : Nat)    : H_dyn_to_1 AT @XM List.length E_any E_api_Value m  (p_dyn_to_1 c_dyn_to) := by
  intro o29_g o29 v31 v32 v33 out hp stk 
  refine LW.ind _ (fun (s : Nat × Ls2 × Ls0 × Int × Int) o => match s with | (o29_g, o29, v31, v32, v33) => ∀ (stk : Stk), (A_dyn_to_1 AT @XM List.length E_any E_api_Value m  o29_g o29 v31 v32 v33 stk) = (O_dyn_to E_any m  stk) o) (fun s r e => ?_) (fun s t r e ih => ?_) (o29_g, o29, v31, v32, v33) out hp stk 
  · obtain ⟨o29_g, o29, v31, v32, v33⟩ := s
    intro stk 
    exact o_dyn_to_1 LW rfl rfl HA HZ HF c_dyn_to h_dyn_to stk m o29_g o29 v31 v32 v33 e
  · obtain ⟨o29_g, o29, v31, v32, v33⟩ := s; obtain ⟨o29_g', o29', v31', v32', v33'⟩ := t
    intro stk 
    exact (o_dyn_to_1 LW rfl rfl HA HZ HF c_dyn_to h_dyn_to stk m o29_g o29 v31 v32 v33 e).trans (ih stk )
noncomputable def p_dyn_to_5 (c_dyn_to : S_api_Value → Option (S_any)) (o47_g : Nat) (o47 : Ls3) (v49 : Ls1) (v50 v51 : Int) : Option (S_any) := Prims.real.loop (fun (s : Nat × Ls3 × Ls1 × Int × Int) => match s with | (o47_g, o47, v49, v50, v51) => b_dyn_to_5 Prims.real c_dyn_to  o47_g o47 v49 v50 v51) (o47_g, o47, v49, v50, v51)
theorem u_dyn_to_5 (c_dyn_to : S_api_Value → Option (S_any)) (o47_g : Nat) (o47 : Ls3) (v49 : Ls1) (v50 v51 : Int) : p_dyn_to_5 c_dyn_to o47_g o47 v49 v50 v51 = match b_dyn_to_5 Prims.real c_dyn_to  o47_g o47 v49 v50 v51 with
    | some (.inl (o47_g', o47', v49', v50', v51')) => p_dyn_to_5 c_dyn_to o47_g' o47' v49' v50' v51'
    | some (.inr r) => some r
    | none => none := by
  show Pr.loop _ _ = _
  rw [Pr.loop_eq]
  try dsimp only
  generalize b_dyn_to_5 Prims.real c_dyn_to  o47_g o47 v49 v50 v51 = y
  cases y with
  | none => rfl
  | some y => cases y <;> rfl
theorem s_dyn_to_5 (c_dyn_to : S_api_Value → Option (S_any)) (h_dyn_to : (C_dyn_to PC FC @XM E_any E_api_Value E_api_Pair c_dyn_to)) (m : Nat)    : H_dyn_to_5 AT @XM List.length E_any E_dyn_Member E_api_Pair m  (p_dyn_to_5 c_dyn_to) := by
  intro o47_g o47 v49 v50 v51 out hp stk 
  refine LW.ind _ (fun (s : Nat × Ls3 × Ls1 × Int × Int) o => match s with | (o47_g, o47, v49, v50, v51) => ∀ (stk : Stk), (A_dyn_to_5 AT @XM List.length E_dyn_Member E_api_Pair m  o47_g o47 v49 v50 v51 stk) = (O_dyn_to E_any m  stk) o) (fun s r e => ?_) (fun s t r e ih => ?_) (o47_g, o47, v49, v50, v51) out hp stk 
  · obtain ⟨o47_g, o47, v49, v50, v51⟩ := s
    intro stk 
    exact o_dyn_to_5 LW rfl rfl HA HZ HF c_dyn_to h_dyn_to stk m o47_g o47 v49 v50 v51 e
  · obtain ⟨o47_g, o47, v49, v50, v51⟩ := s; obtain ⟨o47_g', o47', v49', v50', v51'⟩ := t
    intro stk 
    exact (o_dyn_to_5 LW rfl rfl HA HZ HF c_dyn_to h_dyn_to stk m o47_g o47 v49 v50 v51 e).trans (ih stk )
noncomputable def p_dyn_to_0 (c_dyn_to : S_api_Value → Option (S_any)) (v0_0 v0_1 : Int) (v0_2 : Str) (v0_3 : Ls0) (v0_4 : Ls1) : Option (S_any) := b_dyn_to_0 Prims.real c_dyn_to (p_dyn_to_1 c_dyn_to) (p_dyn_to_5 c_dyn_to) v0_0 v0_1 v0_2 v0_3 v0_4
theorem s_dyn_to_0 (c_dyn_to : S_api_Value → Option (S_any)) (h_dyn_to : (C_dyn_to PC FC @XM E_any E_api_Value E_api_Pair c_dyn_to)) (m : Nat)    : H_dyn_to_0 AT @XM E_any E_api_Value E_api_Pair m  (p_dyn_to_0 c_dyn_to) := by
  intro v0_0 v0_1 v0_2 v0_3 v0_4 out hp stk 
  exact o_dyn_to_0 LW rfl rfl HA HZ HF c_dyn_to h_dyn_to stk m (p_dyn_to_1 c_dyn_to) (p_dyn_to_5 c_dyn_to) v0_0 v0_1 v0_2 v0_3 v0_4 (s_dyn_to_1 c_dyn_to h_dyn_to m ) (s_dyn_to_5 c_dyn_to h_dyn_to m ) hp
noncomputable def pk_dyn_to : Nat → (S_api_Value → Option (S_any))
  | 0 => fun _ => none
  | k + 1 => fun ⟨v0_0, v0_1, v0_2, v0_3, v0_4⟩ => p_dyn_to_0 ((pk_dyn_to k)) v0_0 v0_1 v0_2 v0_3 v0_4
theorem sk_dyn_to : ∀ k, ((C_dyn_to PC FC @XM E_any E_api_Value E_api_Pair ((pk_dyn_to k)))) ∧ True
  | 0 => by
    refine ⟨?_, trivial⟩
    · intro _ _ _ _ _ _ hp; exact nomatch (show none = some _ from hp)
  | k + 1 => by
    obtain ⟨ih0, _⟩ := sk_dyn_to k
    refine ⟨?_, trivial⟩
    · intro _ _ _ _ _ _ hp stk    
      exact pf_of (T := table) (G := glob) (f := 62) rfl rfl (s_dyn_to_0 ((pk_dyn_to k)) ih0 (topN stk + 1)    hp stk )
noncomputable def p_dyn_to : S_api_Value → Option (S_any) := (pk_dyn_to 1000000)
theorem s_dyn_to : (C_dyn_to PC FC @XM E_any E_api_Value E_api_Pair p_dyn_to) := (sk_dyn_to 1000000).1
noncomputable def p_dyn_Odd_1 (c_dyn_Odd : S_api_Value → Option (S_any)) (o13_g : Nat) (o13 : Ls2) (v15 : Ls0) (v16 v17 : Int) : Option (S_any) := Prims.real.loop (fun (s : Nat × Ls2 × Ls0 × Int × Int) => match s with | (o13_g, o13, v15, v16, v17) => b_dyn_Odd_1 Prims.real p_dyn_to c_dyn_Odd  o13_g o13 v15 v16 v17) (o13_g, o13, v15, v16, v17)
theorem u_dyn_Odd_1 (c_dyn_Odd : S_api_Value → Option (S_any)) (o13_g : Nat) (o13 : Ls2) (v15 : Ls0) (v16 v17 : Int) : p_dyn_Odd_1 c_dyn_Odd o13_g o13 v15 v16 v17 = match b_dyn_Odd_1 Prims.real p_dyn_to c_dyn_Odd  o13_g o13 v15 v16 v17 with
    | some (.inl (o13_g', o13', v15', v16', v17')) => p_dyn_Odd_1 c_dyn_Odd o13_g' o13' v15' v16' v17'
    | some (.inr r) => some r
    | none => none := by
  show Pr.loop _ _ = _
  rw [Pr.loop_eq]
  try dsimp only
  generalize b_dyn_Odd_1 Prims.real p_dyn_to c_dyn_Odd  o13_g o13 v15 v16 v17 = y
  cases y with
  | none => rfl
  | some y => cases y <;> rfl
theorem s_dyn_Odd_1 (c_dyn_Odd : S_api_Value → Option (S_any)) (h_dyn_Odd : (C_dyn_Odd PC FC @XM E_any E_api_Value E_api_Pair c_dyn_Odd)) (m : Nat)    : H_dyn_Odd_1 AT @XM List.length E_any E_api_Value m  (p_dyn_Odd_1 c_dyn_Odd) := by
  intro o13_g o13 v15 v16 v17 out hp stk 
  refine LW.ind _ (fun (s : Nat × Ls2 × Ls0 × Int × Int) o => match s with | (o13_g, o13, v15, v16, v17) => ∀ (stk : Stk), (A_dyn_Odd_1 AT @XM List.length E_any E_api_Value m  o13_g o13 v15 v16 v17 stk) = (O_dyn_Odd E_any m  stk) o) (fun s r e => ?_) (fun s t r e ih => ?_) (o13_g, o13, v15, v16, v17) out hp stk 
  · obtain ⟨o13_g, o13, v15, v16, v17⟩ := s
    intro stk 
    exact o_dyn_Odd_1 LW rfl rfl HA HZ HF p_dyn_to c_dyn_Odd s_dyn_to h_dyn_Odd stk m o13_g o13 v15 v16 v17 e
  · obtain ⟨o13_g, o13, v15, v16, v17⟩ := s; obtain ⟨o13_g', o13', v15', v16', v17'⟩ := t
    intro stk 
    exact (o_dyn_Odd_1 LW rfl rfl HA HZ HF p_dyn_to c_dyn_Odd s_dyn_to h_dyn_Odd stk m o13_g o13 v15 v16 v17 e).trans (ih stk )
noncomputable def p_dyn_Odd_5 (c_dyn_Odd : S_api_Value → Option (S_any)) (o31_g : Nat) (o31 : Ls3) (v33 : Ls1) (v34 v35 : Int) : Option (S_any) := Prims.real.loop (fun (s : Nat × Ls3 × Ls1 × Int × Int) => match s with | (o31_g, o31, v33, v34, v35) => b_dyn_Odd_5 Prims.real p_dyn_to c_dyn_Odd  o31_g o31 v33 v34 v35) (o31_g, o31, v33, v34, v35)
theorem u_dyn_Odd_5 (c_dyn_Odd : S_api_Value → Option (S_any)) (o31_g : Nat) (o31 : Ls3) (v33 : Ls1) (v34 v35 : Int) : p_dyn_Odd_5 c_dyn_Odd o31_g o31 v33 v34 v35 = match b_dyn_Odd_5 Prims.real p_dyn_to c_dyn_Odd  o31_g o31 v33 v34 v35 with
    | some (.inl (o31_g', o31', v33', v34', v35')) => p_dyn_Odd_5 c_dyn_Odd o31_g' o31' v33' v34' v35'
    | some (.inr r) => some r
    | none => none := by
  show Pr.loop _ _ = _
  rw [Pr.loop_eq]
  try dsimp only
  generalize b_dyn_Odd_5 Prims.real p_dyn_to c_dyn_Odd  o31_g o31 v33 v34 v35 = y
  cases y with
  | none => rfl
  | some y => cases y <;> rfl
theorem s_dyn_Odd_5 (c_dyn_Odd : S_api_Value → Option (S_any)) (h_dyn_Odd : (C_dyn_Odd PC FC @XM E_any E_api_Value E_api_Pair c_dyn_Odd)) (m : Nat)    : H_dyn_Odd_5 AT @XM List.length E_any E_dyn_Member E_api_Pair m  (p_dyn_Odd_5 c_dyn_Odd) := by
  intro o31_g o31 v33 v34 v35 out hp stk 
  refine LW.ind _ (fun (s : Nat × Ls3 × Ls1 × Int × Int) o => match s with | (o31_g, o31, v33, v34, v35) => ∀ (stk : Stk), (A_dyn_Odd_5 AT @XM List.length E_dyn_Member E_api_Pair m  o31_g o31 v33 v34 v35 stk) = (O_dyn_Odd E_any m  stk) o) (fun s r e => ?_) (fun s t r e ih => ?_) (o31_g, o31, v33, v34, v35) out hp stk 
  · obtain ⟨o31_g, o31, v33, v34, v35⟩ := s
    intro stk 
    exact o_dyn_Odd_5 LW rfl rfl HA HZ HF p_dyn_to c_dyn_Odd s_dyn_to h_dyn_Odd stk m o31_g o31 v33 v34 v35 e
  · obtain ⟨o31_g, o31, v33, v34, v35⟩ := s; obtain ⟨o31_g', o31', v33', v34', v35'⟩ := t
    intro stk 
    exact (o_dyn_Odd_5 LW rfl rfl HA HZ HF p_dyn_to c_dyn_Odd s_dyn_to h_dyn_Odd stk m o31_g o31 v33 v34 v35 e).trans (ih stk )
noncomputable def p_dyn_Odd_0 (c_dyn_Odd : S_api_Value → Option (S_any)) (v0_0 v0_1 : Int) (v0_2 : Str) (v0_3 : Ls0) (v0_4 : Ls1) : Option (S_any) := b_dyn_Odd_0 Prims.real p_dyn_to c_dyn_Odd (p_dyn_Odd_1 c_dyn_Odd) (p_dyn_Odd_5 c_dyn_Odd) v0_0 v0_1 v0_2 v0_3 v0_4
theorem s_dyn_Odd_0 (c_dyn_Odd : S_api_Value → Option (S_any)) (h_dyn_Odd : (C_dyn_Odd PC FC @XM E_any E_api_Value E_api_Pair c_dyn_Odd)) (m : Nat)    : H_dyn_Odd_0 AT @XM E_any E_api_Value E_api_Pair m  (p_dyn_Odd_0 c_dyn_Odd) := by
  intro v0_0 v0_1 v0_2 v0_3 v0_4 out hp stk 
  exact o_dyn_Odd_0 LW rfl rfl HA HZ HF p_dyn_to c_dyn_Odd s_dyn_to h_dyn_Odd stk m (p_dyn_Odd_1 c_dyn_Odd) (p_dyn_Odd_5 c_dyn_Odd) v0_0 v0_1 v0_2 v0_3 v0_4 (s_dyn_Odd_1 c_dyn_Odd h_dyn_Odd m ) (s_dyn_Odd_5 c_dyn_Odd h_dyn_Odd m ) hp
noncomputable def pk_dyn_Odd : Nat → (S_api_Value → Option (S_any))
  | 0 => fun _ => none
  | k + 1 => fun ⟨v0_0, v0_1, v0_2, v0_3, v0_4⟩ => p_dyn_Odd_0 ((pk_dyn_Odd k)) v0_0 v0_1 v0_2 v0_3 v0_4
theorem sk_dyn_Odd : ∀ k, ((C_dyn_Odd PC FC @XM E_any E_api_Value E_api_Pair ((pk_dyn_Odd k)))) ∧ True
  | 0 => by
    refine ⟨?_, trivial⟩
    · intro _ _ _ _ _ _ hp; exact nomatch (show none = some _ from hp)
  | k + 1 => by
    obtain ⟨ih0, _⟩ := sk_dyn_Odd k
    refine ⟨?_, trivial⟩
    · intro _ _ _ _ _ _ hp stk    
      exact pf_of (T := table) (G := glob) (f := 30) rfl rfl (s_dyn_Odd_0 ((pk_dyn_Odd k)) ih0 (topN stk + 1)    hp stk )
noncomputable def p_dyn_Odd : S_api_Value → Option (S_any) := (pk_dyn_Odd 1000000)
theorem s_dyn_Odd : (C_dyn_Odd PC FC @XM E_any E_api_Value E_api_Pair p_dyn_Odd) := (sk_dyn_Odd 1000000).1
noncomputable def p_dyn_from_7 (c_dyn_from : S_any → Int → Option (S_api_Value × Bool)) (v7 : Bool) (o4_0 o4_1 : Int) (o4_2 : Str) (o4_3 : Ls0) (o4_4 : Ls1) (o6_0 o6_1 : Int) (o6_2 : Str) (o6_3_g : Nat) (o6_3 : Ls0) (o6_4_g : Nat) (o6_4 : Ls1) : Option (S_api_Value × Bool) := b_dyn_from_7 Prims.real p_dyn_Kind c_dyn_from  v7 o4_0 o4_1 o4_2 o4_3 o4_4 o6_0 o6_1 o6_2 o6_3_g o6_3 o6_4_g o6_4
theorem s_dyn_from_7 (c_dyn_from : S_any → Int → Option (S_api_Value × Bool)) (h_dyn_from : (C_dyn_from PC FC @XM E_any E_api_Value E_api_Pair c_dyn_from)) (m : Nat)    : H_dyn_from_7 AT @XM List.length E_api_Value E_api_Pair m  (p_dyn_from_7 c_dyn_from) := by
  intro v7 o4_0 o4_1 o4_2 o4_3 o4_4 o6_0 o6_1 o6_2 o6_3_g o6_3 o6_4_g o6_4 out hp stk 
  exact o_dyn_from_7 LW rfl rfl HA HZ HF p_dyn_Kind c_dyn_from s_dyn_Kind h_dyn_from stk m v7 o4_0 o4_1 o4_2 o4_3 o4_4 o6_0 o6_1 o6_2 o6_3_g o6_3 o6_4_g o6_4 hp
noncomputable def p_dyn_from_1 (c_dyn_from : S_any → Int → Option (S_api_Value × Bool)) (v1 : Int) (v7 : Bool) (v12 : Ls2) (v13 o4_0 o4_1 : Int) (o4_2 : Str) (o4_3 : Ls0) (o4_4 : Ls1) (o6_0 o6_1 : Int) (o6_2 : Str) (o6_3_g : Nat) (o6_3 : Ls0) (o6_4_g : Nat) (o6_4 : Ls1) : Option (S_api_Value × Bool) := Prims.real.loop (fun (s : Int × Bool × Ls2 × Int × Int × Int × Str × Ls0 × Ls1 × Int × Int × Str × Nat × Ls0 × Nat × Ls1) => match s with | (v1, v7, v12, v13, o4_0, o4_1, o4_2, o4_3, o4_4, o6_0, o6_1, o6_2, o6_3_g, o6_3, o6_4_g, o6_4) => b_dyn_from_1 Prims.real p_dyn_Kind c_dyn_from (p_dyn_from_7 c_dyn_from) v1 v7 v12 v13 o4_0 o4_1 o4_2 o4_3 o4_4 o6_0 o6_1 o6_2 o6_3_g o6_3 o6_4_g o6_4) (v1, v7, v12, v13, o4_0, o4_1, o4_2, o4_3, o4_4, o6_0, o6_1, o6_2, o6_3_g, o6_3, o6_4_g, o6_4)
theorem u_dyn_from_1 (c_dyn_from : S_any → Int → Option (S_api_Value × Bool)) (v1 : Int) (v7 : Bool) (v12 : Ls2) (v13 o4_0 o4_1 : Int) (o4_2 : Str) (o4_3 : Ls0) (o4_4 : Ls1) (o6_0 o6_1 : Int) (o6_2 : Str) (o6_3_g : Nat) (o6_3 : Ls0) (o6_4_g : Nat) (o6_4 : Ls1) : p_dyn_from_1 c_dyn_from v1 v7 v12 v13 o4_0 o4_1 o4_2 o4_3 o4_4 o6_0 o6_1 o6_2 o6_3_g o6_3 o6_4_g o6_4 = match b_dyn_from_1 Prims.real p_dyn_Kind c_dyn_from (p_dyn_from_7 c_dyn_from) v1 v7 v12 v13 o4_0 o4_1 o4_2 o4_3 o4_4 o6_0 o6_1 o6_2 o6_3_g o6_3 o6_4_g o6_4 with
    | some (.inl (v1', v7', v12', v13', o4_0', o4_1', o4_2', o4_3', o4_4', o6_0', o6_1', o6_2', o6_3_g', o6_3', o6_4_g', o6_4')) => p_dyn_from_1 c_dyn_from v1' v7' v12' v13' o4_0' o4_1' o4_2' o4_3' o4_4' o6_0' o6_1' o6_2' o6_3_g' o6_3' o6_4_g' o6_4'
    | some (.inr r) => some r
    | none => none := by
  show Pr.loop _ _ = _
  rw [Pr.loop_eq]
  try dsimp only
  generalize b_dyn_from_1 Prims.real p_dyn_Kind c_dyn_from (p_dyn_from_7 c_dyn_from) v1 v7 v12 v13 o4_0 o4_1 o4_2 o4_3 o4_4 o6_0 o6_1 o6_2 o6_3_g o6_3 o6_4_g o6_4 = y
  cases y with
  | none => rfl
  | some y => cases y <;> rfl
theorem s_dyn_from_1 (c_dyn_from : S_any → Int → Option (S_api_Value × Bool)) (h_dyn_from : (C_dyn_from PC FC @XM E_any E_api_Value E_api_Pair c_dyn_from)) (m : Nat)    : H_dyn_from_1 AT @XM List.length E_any E_api_Value E_api_Pair m  (p_dyn_from_1 c_dyn_from) := by
  intro v1 v7 v12 v13 o4_0 o4_1 o4_2 o4_3 o4_4 o6_0 o6_1 o6_2 o6_3_g o6_3 o6_4_g o6_4 out hp stk 
  refine LW.ind _ (fun (s : Int × Bool × Ls2 × Int × Int × Int × Str × Ls0 × Ls1 × Int × Int × Str × Nat × Ls0 × Nat × Ls1) o => match s with | (v1, v7, v12, v13, o4_0, o4_1, o4_2, o4_3, o4_4, o6_0, o6_1, o6_2, o6_3_g, o6_3, o6_4_g, o6_4) => ∀ (stk : Stk), (A_dyn_from_1 AT @XM List.length E_any E_api_Value E_api_Pair m  v1 v7 v12 v13 o4_0 o4_1 o4_2 o4_3 o4_4 o6_0 o6_1 o6_2 o6_3_g o6_3 o6_4_g o6_4 stk) = (O_dyn_from @XM E_api_Value E_api_Pair m  stk) o) (fun s r e => ?_) (fun s t r e ih => ?_) (v1, v7, v12, v13, o4_0, o4_1, o4_2, o4_3, o4_4, o6_0, o6_1, o6_2, o6_3_g, o6_3, o6_4_g, o6_4) out hp stk 
  · obtain ⟨v1, v7, v12, v13, o4_0, o4_1, o4_2, o4_3, o4_4, o6_0, o6_1, o6_2, o6_3_g, o6_3, o6_4_g, o6_4⟩ := s
    intro stk 
    exact o_dyn_from_1 LW rfl rfl HA HZ HF p_dyn_Kind c_dyn_from s_dyn_Kind h_dyn_from stk m (p_dyn_from_7 c_dyn_from) v1 v7 v12 v13 o4_0 o4_1 o4_2 o4_3 o4_4 o6_0 o6_1 o6_2 o6_3_g o6_3 o6_4_g o6_4 (s_dyn_from_7 c_dyn_from h_dyn_from m ) e
  · obtain ⟨v1, v7, v12, v13, o4_0, o4_1, o4_2, o4_3, o4_4, o6_0, o6_1, o6_2, o6_3_g, o6_3, o6_4_g, o6_4⟩ := s; obtain ⟨v1', v7', v12', v13', o4_0', o4_1', o4_2', o4_3', o4_4', o6_0', o6_1', o6_2', o6_3_g', o6_3', o6_4_g', o6_4'⟩ := t
    intro stk 
    exact (o_dyn_from_1 LW rfl rfl HA HZ HF p_dyn_Kind c_dyn_from s_dyn_Kind h_dyn_from stk m (p_dyn_from_7 c_dyn_from) v1 v7 v12 v13 o4_0 o4_1 o4_2 o4_3 o4_4 o6_0 o6_1 o6_2 o6_3_g o6_3 o6_4_g o6_4 (s_dyn_from_7 c_dyn_from h_dyn_from m ) e).trans (ih stk )
noncomputable def p_dyn_from_4 (c_dyn_from : S_any → Int → Option (S_api_Value × Bool)) (v1 : Int) (v7 : Bool) (v15 : Ls3) (v16 o4_0 o4_1 : Int) (o4_2 : Str) (o4_3 : Ls0) (o4_4 : Ls1) (o6_0 o6_1 : Int) (o6_2 : Str) (o6_3_g : Nat) (o6_3 : Ls0) (o6_4_g : Nat) (o6_4 : Ls1) : Option (S_api_Value × Bool) := Prims.real.loop (fun (s : Int × Bool × Ls3 × Int × Int × Int × Str × Ls0 × Ls1 × Int × Int × Str × Nat × Ls0 × Nat × Ls1) => match s with | (v1, v7, v15, v16, o4_0, o4_1, o4_2, o4_3, o4_4, o6_0, o6_1, o6_2, o6_3_g, o6_3, o6_4_g, o6_4) => b_dyn_from_4 Prims.real p_dyn_Kind c_dyn_from (p_dyn_from_7 c_dyn_from) v1 v7 v15 v16 o4_0 o4_1 o4_2 o4_3 o4_4 o6_0 o6_1 o6_2 o6_3_g o6_3 o6_4_g o6_4) (v1, v7, v15, v16, o4_0, o4_1, o4_2, o4_3, o4_4, o6_0, o6_1, o6_2, o6_3_g, o6_3, o6_4_g, o6_4)
theorem u_dyn_from_4 (c_dyn_from : S_any → Int → Option (S_api_Value × Bool)) (v1 : Int) (v7 : Bool) (v15 : Ls3) (v16 o4_0 o4_1 : Int) (o4_2 : Str) (o4_3 : Ls0) (o4_4 : Ls1) (o6_0 o6_1 : Int) (o6_2 : Str) (o6_3_g : Nat) (o6_3 : Ls0) (o6_4_g : Nat) (o6_4 : Ls1) : p_dyn_from_4 c_dyn_from v1 v7 v15 v16 o4_0 o4_1 o4_2 o4_3 o4_4 o6_0 o6_1 o6_2 o6_3_g o6_3 o6_4_g o6_4 = match b_dyn_from_4 Prims.real p_dyn_Kind c_dyn_from (p_dyn_from_7 c_dyn_from) v1 v7 v15 v16 o4_0 o4_1 o4_2 o4_3 o4_4 o6_0 o6_1 o6_2 o6_3_g o6_3 o6_4_g o6_4 with
    | some (.inl (v1', v7', v15', v16', o4_0', o4_1', o4_2', o4_3', o4_4', o6_0', o6_1', o6_2', o6_3_g', o6_3', o6_4_g', o6_4')) => p_dyn_from_4 c_dyn_from v1' v7' v15' v16' o4_0' o4_1' o4_2' o4_3' o4_4' o6_0' o6_1' o6_2' o6_3_g' o6_3' o6_4_g' o6_4'
    | some (.inr r) => some r
    | none => none := by
  show Pr.loop _ _ = _
  rw [Pr.loop_eq]
  try dsimp only
  generalize b_dyn_from_4 Prims.real p_dyn_Kind c_dyn_from (p_dyn_from_7 c_dyn_from) v1 v7 v15 v16 o4_0 o4_1 o4_2 o4_3 o4_4 o6_0 o6_1 o6_2 o6_3_g o6_3 o6_4_g o6_4 = y
  cases y with
  | none => rfl
  | some y => cases y <;> rfl
theorem s_dyn_from_4 (c_dyn_from : S_any → Int → Option (S_api_Value × Bool)) (h_dyn_from : (C_dyn_from PC FC @XM E_any E_api_Value E_api_Pair c_dyn_from)) (m : Nat)    : H_dyn_from_4 AT @XM List.length E_dyn_Member E_api_Value E_api_Pair m  (p_dyn_from_4 c_dyn_from) := by
  intro v1 v7 v15 v16 o4_0 o4_1 o4_2 o4_3 o4_4 o6_0 o6_1 o6_2 o6_3_g o6_3 o6_4_g o6_4 out hp stk 
  refine LW.ind _ (fun (s : Int × Bool × Ls3 × Int × Int × Int × Str × Ls0 × Ls1 × Int × Int × Str × Nat × Ls0 × Nat × Ls1) o => match s with | (v1, v7, v15, v16, o4_0, o4_1, o4_2, o4_3, o4_4, o6_0, o6_1, o6_2, o6_3_g, o6_3, o6_4_g, o6_4) => ∀ (stk : Stk), (A_dyn_from_4 AT @XM List.length E_dyn_Member E_api_Value E_api_Pair m  v1 v7 v15 v16 o4_0 o4_1 o4_2 o4_3 o4_4 o6_0 o6_1 o6_2 o6_3_g o6_3 o6_4_g o6_4 stk) = (O_dyn_from @XM E_api_Value E_api_Pair m  stk) o) (fun s r e => ?_) (fun s t r e ih => ?_) (v1, v7, v15, v16, o4_0, o4_1, o4_2, o4_3, o4_4, o6_0, o6_1, o6_2, o6_3_g, o6_3, o6_4_g, o6_4) out hp stk 
  · obtain ⟨v1, v7, v15, v16, o4_0, o4_1, o4_2, o4_3, o4_4, o6_0, o6_1, o6_2, o6_3_g, o6_3, o6_4_g, o6_4⟩ := s
    intro stk 
    exact o_dyn_from_4 LW rfl rfl HA HZ HF p_dyn_Kind c_dyn_from s_dyn_Kind h_dyn_from stk m (p_dyn_from_7 c_dyn_from) v1 v7 v15 v16 o4_0 o4_1 o4_2 o4_3 o4_4 o6_0 o6_1 o6_2 o6_3_g o6_3 o6_4_g o6_4 (s_dyn_from_7 c_dyn_from h_dyn_from m ) e
  · obtain ⟨v1, v7, v15, v16, o4_0, o4_1, o4_2, o4_3, o4_4, o6_0, o6_1, o6_2, o6_3_g, o6_3, o6_4_g, o6_4⟩ := s; obtain ⟨v1', v7', v15', v16', o4_0', o4_1', o4_2', o4_3', o4_4', o6_0', o6_1', o6_2', o6_3_g', o6_3', o6_4_g', o6_4'⟩ := t
    intro stk 
    exact (o_dyn_from_4 LW rfl rfl HA HZ HF p_dyn_Kind c_dyn_from s_dyn_Kind h_dyn_from stk m (p_dyn_from_7 c_dyn_from) v1 v7 v15 v16 o4_0 o4_1 o4_2 o4_3 o4_4 o6_0 o6_1 o6_2 o6_3_g o6_3 o6_4_g o6_4 (s_dyn_from_7 c_dyn_from h_dyn_from m ) e).trans (ih stk )
noncomputable def p_dyn_from_0 (c_dyn_from : S_any → Int → Option (S_api_Value × Bool)) (v0 : S_any) (v1 : Int) : Option (S_api_Value × Bool) := b_dyn_from_0 Prims.real p_dyn_Kind c_dyn_from (p_dyn_from_1 c_dyn_from) (p_dyn_from_4 c_dyn_from) (p_dyn_from_7 c_dyn_from) v0 v1
theorem s_dyn_from_0 (c_dyn_from : S_any → Int → Option (S_api_Value × Bool)) (h_dyn_from : (C_dyn_from PC FC @XM E_any E_api_Value E_api_Pair c_dyn_from)) (m : Nat)    : H_dyn_from_0 AT @XM E_any E_api_Value E_api_Pair m  (p_dyn_from_0 c_dyn_from) := by
  intro v0 v1 out hp stk 
  exact o_dyn_from_0 LW rfl rfl HA HZ HF p_dyn_Kind c_dyn_from s_dyn_Kind h_dyn_from stk m (p_dyn_from_1 c_dyn_from) (p_dyn_from_4 c_dyn_from) (p_dyn_from_7 c_dyn_from) v0 v1 (s_dyn_from_1 c_dyn_from h_dyn_from m ) (s_dyn_from_4 c_dyn_from h_dyn_from m ) (s_dyn_from_7 c_dyn_from h_dyn_from m ) hp
noncomputable def pk_dyn_from : Nat → (S_any → Int → Option (S_api_Value × Bool))
  | 0 => fun _ _ => none
  | k + 1 => fun v0 v1 => p_dyn_from_0 ((pk_dyn_from k)) v0 v1
theorem sk_dyn_from : ∀ k, ((C_dyn_from PC FC @XM E_any E_api_Value E_api_Pair ((pk_dyn_from k)))) ∧ True
  | 0 => by
    refine ⟨?_, trivial⟩
    · intro _ _ _ _ _ _ _ _ hp; exact nomatch (show none = some _ from hp)
  | k + 1 => by
    obtain ⟨ih0, _⟩ := sk_dyn_from k
    refine ⟨?_, trivial⟩
    · intro _ _ _ _ _ _ _ _ hp stk    
      exact pf_of (T := table) (G := glob) (f := 63) rfl rfl (s_dyn_from_0 ((pk_dyn_from k)) ih0 (topN stk + 1)    hp stk )
noncomputable def p_dyn_from : S_any → Int → Option (S_api_Value × Bool) := (pk_dyn_from 1000000)
theorem s_dyn_from : (C_dyn_from PC FC @XM E_any E_api_Value E_api_Pair p_dyn_from) := (sk_dyn_from 1000000).1
noncomputable def p_tree_unused_0  (v0_0 v0_1 : Int) (v0_2 : Str) (v0_3 : Ls0) (v0_4 : Ls1) : Option (Bool) := b_tree_unused_0 Prims.real   v0_0 v0_1 v0_2 v0_3 v0_4
theorem s_tree_unused_0   (m : Nat)    : H_tree_unused_0 AT @XM E_api_Value E_api_Pair m  p_tree_unused_0 := by
  intro v0_0 v0_1 v0_2 v0_3 v0_4 out hp stk 
  exact o_tree_unused_0 LW rfl rfl HA HZ HF stk m v0_0 v0_1 v0_2 v0_3 v0_4 hp
noncomputable def p_tree_unused : S_api_Value → Option (Bool) := fun ⟨v0_0, v0_1, v0_2, v0_3, v0_4⟩ => p_tree_unused_0  v0_0 v0_1 v0_2 v0_3 v0_4
theorem s_tree_unused : (C_tree_unused PC FC @XM E_api_Value E_api_Pair p_tree_unused) := by
  intro _ _ _ _ _ _ hp stk    
  exact pf_of (T := table) (G := glob) (f := 47) rfl rfl (s_tree_unused_0   (topN stk + 1)    hp stk )
theorem s_unicode_utf8_DecodeRuneInString : (C_unicode_utf8_DecodeRuneInString PC FC p_unicode_utf8_DecodeRuneInString) := by
  intro _ _ _ hp stk
  exact ⟨pcall_ext (T := table) (G := glob) (f := 76) (e := ext_unicode_utf8_DecodeRuneInString) rfl rfl (x_unicode_utf8_DecodeRuneInString hp) stk, fcall_ext (T := table) (G := glob) (f := 76) (e := ext_unicode_utf8_DecodeRuneInString) rfl rfl (x_unicode_utf8_DecodeRuneInString hp) stk⟩
noncomputable def p_text_Bad_1  (v0 o8_s : Str) (o8_p : Nat) : Option (Int) := Prims.real.loop (fun (s : Str × Str × Nat) => match s with | (v0, o8_s, o8_p) => b_text_Bad_1 Prims.real p_unicode_utf8_DecodeRuneInString  v0 o8_s o8_p) (v0, o8_s, o8_p)
theorem u_text_Bad_1  (v0 o8_s : Str) (o8_p : Nat) : p_text_Bad_1  v0 o8_s o8_p = match b_text_Bad_1 Prims.real p_unicode_utf8_DecodeRuneInString  v0 o8_s o8_p with
    | some (.inl (v0', o8_s', o8_p')) => p_text_Bad_1  v0' o8_s' o8_p'
    | some (.inr r) => some r
    | none => none := by
  show Pr.loop _ _ = _
  rw [Pr.loop_eq]
  try dsimp only
  generalize b_text_Bad_1 Prims.real p_unicode_utf8_DecodeRuneInString  v0 o8_s o8_p = y
  cases y with
  | none => rfl
  | some y => cases y <;> rfl
theorem s_text_Bad_1   (m : Nat)    : H_text_Bad_1 AT m  p_text_Bad_1 := by
  intro v0 o8_s o8_p out hp stk 
  refine LW.ind _ (fun (s : Str × Str × Nat) o => match s with | (v0, o8_s, o8_p) => ∀ (stk : Stk), (A_text_Bad_1 AT m  v0 o8_s o8_p stk) = (O_text_Bad  m  stk) o) (fun s r e => ?_) (fun s t r e ih => ?_) (v0, o8_s, o8_p) out hp stk 
  · obtain ⟨v0, o8_s, o8_p⟩ := s
    intro stk 
    exact o_text_Bad_1 LW rfl rfl HA HZ HF p_unicode_utf8_DecodeRuneInString s_unicode_utf8_DecodeRuneInString stk m v0 o8_s o8_p e
  · obtain ⟨v0, o8_s, o8_p⟩ := s; obtain ⟨v0', o8_s', o8_p'⟩ := t
    intro stk 
    exact (o_text_Bad_1 LW rfl rfl HA HZ HF p_unicode_utf8_DecodeRuneInString s_unicode_utf8_DecodeRuneInString stk m v0 o8_s o8_p e).trans (ih stk )
noncomputable def p_text_Bad_0  (v0 : Str) : Option (Int) := b_text_Bad_0 Prims.real p_unicode_utf8_DecodeRuneInString p_text_Bad_1 v0
theorem s_text_Bad_0   (m : Nat)    : H_text_Bad_0 AT m  p_text_Bad_0 := by
  intro v0 out hp stk 
  exact o_text_Bad_0 LW rfl rfl HA HZ HF p_unicode_utf8_DecodeRuneInString s_unicode_utf8_DecodeRuneInString stk m p_text_Bad_1 v0 (s_text_Bad_1 m ) hp
noncomputable def p_text_Bad : Str → Option (Int) := fun v0 => p_text_Bad_0  v0
theorem s_text_Bad : (C_text_Bad PC FC p_text_Bad) := by
  intro _ _ hp stk    
  exact pf_of (T := table) (G := glob) (f := 69) rfl rfl (s_text_Bad_0   (topN stk + 1)    hp stk )
noncomputable def p_text_Right_0  (v0 : Str) : Option (Bool) := b_text_Right_0 Prims.real p_text_Bad  v0
theorem s_text_Right_0   (m : Nat)    : H_text_Right_0 AT m  p_text_Right_0 := by
  intro v0 out hp stk 
  exact o_text_Right_0 LW rfl rfl HA HZ HF p_text_Bad s_text_Bad stk m v0 hp
noncomputable def p_text_Right : Str → Option (Bool) := fun v0 => p_text_Right_0  v0
theorem s_text_Right : (C_text_Right PC FC p_text_Right) := by
  intro _ _ hp stk    
  exact pf_of (T := table) (G := glob) (f := 48) rfl rfl (s_text_Right_0   (topN stk + 1)    hp stk )
noncomputable def p_tree_keys_3  (v7 : Ls1) (v8 v9 : Int) (o6_c : Nat) (o6 : (List (Str × Nat × Int))) : Option ((Ls1 × Int × Int × Nat × (List (Str × Nat × Int))) ⊕ (Bool)) := b_tree_keys_3 Prims.real p_text_Right  v7 v8 v9 o6_c o6
theorem s_tree_keys_3   (m : Nat)    : H_tree_keys_3 AT @XM (fun {_} e l => mapE e l) E_api_Pair E_int m  p_tree_keys_3 := by
  intro v7 v8 v9 o6_c o6 out hp stk 
  exact o_tree_keys_3 LW rfl rfl HA HZ HF p_text_Right s_text_Right stk m v7 v8 v9 o6_c o6 hp
noncomputable def p_tree_keys_1  (v7 : Ls1) (v8 v9 : Int) (o6_c : Nat) (o6 : (List (Str × Nat × Int))) : Option (Bool) := Prims.real.loop (fun (s : Ls1 × Int × Int × Nat × (List (Str × Nat × Int))) => match s with | (v7, v8, v9, o6_c, o6) => b_tree_keys_1 Prims.real p_text_Right p_tree_keys_3 v7 v8 v9 o6_c o6) (v7, v8, v9, o6_c, o6)
theorem u_tree_keys_1  (v7 : Ls1) (v8 v9 : Int) (o6_c : Nat) (o6 : (List (Str × Nat × Int))) : p_tree_keys_1  v7 v8 v9 o6_c o6 = match b_tree_keys_1 Prims.real p_text_Right p_tree_keys_3 v7 v8 v9 o6_c o6 with
    | some (.inl (v7', v8', v9', o6_c', o6')) => p_tree_keys_1  v7' v8' v9' o6_c' o6'
    | some (.inr r) => some r
    | none => none := by
  show Pr.loop _ _ = _
  rw [Pr.loop_eq]
  try dsimp only
  generalize b_tree_keys_1 Prims.real p_text_Right p_tree_keys_3 v7 v8 v9 o6_c o6 = y
  cases y with
  | none => rfl
  | some y => cases y <;> rfl
theorem s_tree_keys_1   (m : Nat)    : H_tree_keys_1 AT @XM (fun {_} e l => mapE e l) E_api_Pair E_int m  p_tree_keys_1 := by
  intro v7 v8 v9 o6_c o6 out hp stk 
  refine LW.ind _ (fun (s : Ls1 × Int × Int × Nat × (List (Str × Nat × Int))) o => match s with | (v7, v8, v9, o6_c, o6) => ∀ (stk : Stk), (A_tree_keys_1 AT @XM (fun {_} e l => mapE e l) E_api_Pair E_int m  v7 v8 v9 o6_c o6 stk) = (O_tree_keys  m  stk) o) (fun s r e => ?_) (fun s t r e ih => ?_) (v7, v8, v9, o6_c, o6) out hp stk 
  · obtain ⟨v7, v8, v9, o6_c, o6⟩ := s
    intro stk 
    exact o_tree_keys_1 LW rfl rfl HA HZ HF p_text_Right s_text_Right stk m p_tree_keys_3 v7 v8 v9 o6_c o6 (s_tree_keys_3 m ) e
  · obtain ⟨v7, v8, v9, o6_c, o6⟩ := s; obtain ⟨v7', v8', v9', o6_c', o6'⟩ := t
    intro stk 
    exact (o_tree_keys_1 LW rfl rfl HA HZ HF p_text_Right s_text_Right stk m p_tree_keys_3 v7 v8 v9 o6_c o6 (s_tree_keys_3 m ) e).trans (ih stk )
noncomputable def p_tree_keys_0  (v0 : Ls1) : Option (Bool) := b_tree_keys_0 Prims.real p_text_Right p_tree_keys_1 v0
theorem s_tree_keys_0   (m : Nat)    : H_tree_keys_0 AT @XM E_api_Pair m  p_tree_keys_0 := by
  intro v0 out hp stk 
  exact o_tree_keys_0 LW rfl rfl HA HZ HF p_text_Right s_text_Right stk m p_tree_keys_1 v0 (s_tree_keys_1 m ) hp
noncomputable def p_tree_keys : Ls1 → Option (Bool) := fun v0 => p_tree_keys_0  v0
theorem s_tree_keys : (C_tree_keys PC FC @XM E_api_Pair p_tree_keys) := by
  intro _ _ hp stk    
  exact pf_of (T := table) (G := glob) (f := 51) rfl rfl (s_tree_keys_0   (topN stk + 1)    hp stk )
noncomputable def p_tree_Right_1_1__0_0 (c_tree_Right_1__0 : S_api_Value → Int → Option (Bool)) (v0_0 v0_1 : Int) (v0_2 : Str) (v0_3 : Ls0) (v0_4 : Ls1) (v2_0 : Int) : Option (Bool) := b_tree_Right_1_1__0_0 Prims.real c_tree_Right_1__0  v0_0 v0_1 v0_2 v0_3 v0_4 v2_0
theorem s_tree_Right_1_1__0_0 (c_tree_Right_1__0 : S_api_Value → Int → Option (Bool)) (h_tree_Right_1__0 : (C_tree_Right_1__0 PC FC @XM E_api_Value E_api_Pair c_tree_Right_1__0)) (m : Nat) (n0 : Nat) (k0 : List Nat) (hl0 : n0 < m)  : H_tree_Right_1_1__0_0 AT @XM E_api_Value E_api_Pair m n0 k0 (p_tree_Right_1_1__0_0 c_tree_Right_1__0) := by
  intro v0_0 v0_1 v0_2 v0_3 v0_4 v2_0 out hp stk hg0
  exact o_tree_Right_1_1__0_0 LW rfl rfl HA HZ HF c_tree_Right_1__0 h_tree_Right_1__0 stk m n0 k0 hl0 v0_0 v0_1 v0_2 v0_3 v0_4 v2_0 hg0 hp
noncomputable def p_tree_Right_1__0_0 (c_slices_ContainsFunc__api_Value_api_Value__0 : Ls0 → Int → Option (Bool)) (c_slices_ContainsFunc__api_Pair_api_Pair__0 : Ls1 → Int → Option (Bool)) (v0_0 v0_1 : Int) (v0_2 : Str) (v0_3 : Ls0) (v0_4 : Ls1) (v1 : Int) : Option (Bool) := b_tree_Right_1__0_0 Prims.real p_tree_unused p_text_Right c_slices_ContainsFunc__api_Value_api_Value__0 p_tree_keys c_slices_ContainsFunc__api_Pair_api_Pair__0  v0_0 v0_1 v0_2 v0_3 v0_4 v1
theorem s_tree_Right_1__0_0 (c_slices_ContainsFunc__api_Value_api_Value__0 : Ls0 → Int → Option (Bool)) (c_slices_ContainsFunc__api_Pair_api_Pair__0 : Ls1 → Int → Option (Bool)) (h_slices_ContainsFunc__api_Value_api_Value__0 : (C_slices_ContainsFunc__api_Value_api_Value__0 PC FC @XM E_api_Value c_slices_ContainsFunc__api_Value_api_Value__0)) (h_slices_ContainsFunc__api_Pair_api_Pair__0 : (C_slices_ContainsFunc__api_Pair_api_Pair__0 PC FC @XM E_api_Pair c_slices_ContainsFunc__api_Pair_api_Pair__0)) (m : Nat) (n0 : Nat) (k0 : List Nat) (hl0 : n0 < m)  : H_tree_Right_1__0_0 AT @XM E_api_Value E_api_Pair m n0 k0 (p_tree_Right_1__0_0 c_slices_ContainsFunc__api_Value_api_Value__0 c_slices_ContainsFunc__api_Pair_api_Pair__0) := by
  intro v0_0 v0_1 v0_2 v0_3 v0_4 v1 out hp stk hg0
  exact o_tree_Right_1__0_0 LW rfl rfl HA HZ HF p_tree_unused p_text_Right c_slices_ContainsFunc__api_Value_api_Value__0 p_tree_keys c_slices_ContainsFunc__api_Pair_api_Pair__0 s_tree_unused s_text_Right h_slices_ContainsFunc__api_Value_api_Value__0 s_tree_keys h_slices_ContainsFunc__api_Pair_api_Pair__0 stk m n0 k0 hl0 v0_0 v0_1 v0_2 v0_3 v0_4 v1 hg0 hp
noncomputable def p_slices_ContainsFunc__api_Value_api_Value__0_0 (c_slices_IndexFunc__api_Value_api_Value__0 : Ls0 → Int → Option (Int)) (v0 : Ls0) (v1_c1_0 : Int) : Option (Bool) := b_slices_ContainsFunc__api_Value_api_Value__0_0 Prims.real c_slices_IndexFunc__api_Value_api_Value__0  v0 v1_c1_0
theorem s_slices_ContainsFunc__api_Value_api_Value__0_0 (c_slices_IndexFunc__api_Value_api_Value__0 : Ls0 → Int → Option (Int)) (h_slices_IndexFunc__api_Value_api_Value__0 : (C_slices_IndexFunc__api_Value_api_Value__0 PC FC @XM E_api_Value c_slices_IndexFunc__api_Value_api_Value__0)) (m : Nat) (n0 : Nat) (k0 : List Nat) (hl0 : n0 < m)  : H_slices_ContainsFunc__api_Value_api_Value__0_0 AT @XM E_api_Value m n0 k0 (p_slices_ContainsFunc__api_Value_api_Value__0_0 c_slices_IndexFunc__api_Value_api_Value__0) := by
  intro v0 v1_c1_0 out hp stk hg0
  exact o_slices_ContainsFunc__api_Value_api_Value__0_0 LW rfl rfl HA HZ HF c_slices_IndexFunc__api_Value_api_Value__0 h_slices_IndexFunc__api_Value_api_Value__0 stk m n0 k0 hl0 v0 v1_c1_0 hg0 hp
noncomputable def p_slices_IndexFunc__api_Value_api_Value__0_1 (c_tree_Right_1_1__0 : S_api_Value → Int → Option (Bool)) (v0 : Ls0) (v1_c1_0 v7 v8 : Int) : Option (Int) := Prims.real.loop (fun (s : Ls0 × Int × Int × Int) => match s with | (v0, v1_c1_0, v7, v8) => b_slices_IndexFunc__api_Value_api_Value__0_1 Prims.real c_tree_Right_1_1__0  v0 v1_c1_0 v7 v8) (v0, v1_c1_0, v7, v8)
theorem u_slices_IndexFunc__api_Value_api_Value__0_1 (c_tree_Right_1_1__0 : S_api_Value → Int → Option (Bool)) (v0 : Ls0) (v1_c1_0 v7 v8 : Int) : p_slices_IndexFunc__api_Value_api_Value__0_1 c_tree_Right_1_1__0 v0 v1_c1_0 v7 v8 = match b_slices_IndexFunc__api_Value_api_Value__0_1 Prims.real c_tree_Right_1_1__0  v0 v1_c1_0 v7 v8 with
    | some (.inl (v0', v1_c1_0', v7', v8')) => p_slices_IndexFunc__api_Value_api_Value__0_1 c_tree_Right_1_1__0 v0' v1_c1_0' v7' v8'
    | some (.inr r) => some r
    | none => none := by
  show Pr.loop _ _ = _
  rw [Pr.loop_eq]
  try dsimp only
  generalize b_slices_IndexFunc__api_Value_api_Value__0_1 Prims.real c_tree_Right_1_1__0  v0 v1_c1_0 v7 v8 = y
  cases y with
  | none => rfl
  | some y => cases y <;> rfl
theorem s_slices_IndexFunc__api_Value_api_Value__0_1 (c_tree_Right_1_1__0 : S_api_Value → Int → Option (Bool)) (h_tree_Right_1_1__0 : (C_tree_Right_1_1__0 PC FC @XM E_api_Value E_api_Pair c_tree_Right_1_1__0)) (m : Nat) (n0 : Nat) (k0 : List Nat) (hl0 : n0 < m)  : H_slices_IndexFunc__api_Value_api_Value__0_1 AT @XM E_api_Value m n0 k0 (p_slices_IndexFunc__api_Value_api_Value__0_1 c_tree_Right_1_1__0) := by
  intro v0 v1_c1_0 v7 v8 out hp stk hg0
  refine LW.ind _ (fun (s : Ls0 × Int × Int × Int) o => match s with | (v0, v1_c1_0, v7, v8) => ∀ (stk : Stk), getO stk ⟨n0, k0⟩ = some (.cells [(.clos (.func F.tree_Right_1) [] [(.ref ⟨n0, k0⟩ 0)])]) → (A_slices_IndexFunc__api_Value_api_Value__0_1 AT @XM E_api_Value m n0 k0 v0 v1_c1_0 v7 v8 stk) = (O_slices_IndexFunc__api_Value_api_Value__0  m n0 k0 stk) o) (fun s r e => ?_) (fun s t r e ih => ?_) (v0, v1_c1_0, v7, v8) out hp stk hg0
  · obtain ⟨v0, v1_c1_0, v7, v8⟩ := s
    intro stk hg0
    exact o_slices_IndexFunc__api_Value_api_Value__0_1 LW rfl rfl HA HZ HF c_tree_Right_1_1__0 h_tree_Right_1_1__0 stk m n0 k0 hl0 v0 v1_c1_0 v7 v8 hg0 e
  · obtain ⟨v0, v1_c1_0, v7, v8⟩ := s; obtain ⟨v0', v1_c1_0', v7', v8'⟩ := t
    intro stk hg0
    exact (o_slices_IndexFunc__api_Value_api_Value__0_1 LW rfl rfl HA HZ HF c_tree_Right_1_1__0 h_tree_Right_1_1__0 stk m n0 k0 hl0 v0 v1_c1_0 v7 v8 hg0 e).trans (ih stk (hg0))
noncomputable def p_slices_IndexFunc__api_Value_api_Value__0_0 (c_tree_Right_1_1__0 : S_api_Value → Int → Option (Bool)) (v0 : Ls0) (v1_c1_0 : Int) : Option (Int) := b_slices_IndexFunc__api_Value_api_Value__0_0 Prims.real c_tree_Right_1_1__0 (p_slices_IndexFunc__api_Value_api_Value__0_1 c_tree_Right_1_1__0) v0 v1_c1_0
theorem s_slices_IndexFunc__api_Value_api_Value__0_0 (c_tree_Right_1_1__0 : S_api_Value → Int → Option (Bool)) (h_tree_Right_1_1__0 : (C_tree_Right_1_1__0 PC FC @XM E_api_Value E_api_Pair c_tree_Right_1_1__0)) (m : Nat) (n0 : Nat) (k0 : List Nat) (hl0 : n0 < m)  : H_slices_IndexFunc__api_Value_api_Value__0_0 AT @XM E_api_Value m n0 k0 (p_slices_IndexFunc__api_Value_api_Value__0_0 c_tree_Right_1_1__0) := by
  intro v0 v1_c1_0 out hp stk hg0
  exact o_slices_IndexFunc__api_Value_api_Value__0_0 LW rfl rfl HA HZ HF c_tree_Right_1_1__0 h_tree_Right_1_1__0 stk m n0 k0 hl0 (p_slices_IndexFunc__api_Value_api_Value__0_1 c_tree_Right_1_1__0) v0 v1_c1_0 hg0 (s_slices_IndexFunc__api_Value_api_Value__0_1 c_tree_Right_1_1__0 h_tree_Right_1_1__0 m n0 k0 hl0 ) hp
noncomputable def p_slices_ContainsFunc__api_Pair_api_Pair__0_0 (c_slices_IndexFunc__api_Pair_api_Pair__0 : Ls1 → Int → Option (Int)) (v0 : Ls1) (v1_c1_0 : Int) : Option (Bool) := b_slices_ContainsFunc__api_Pair_api_Pair__0_0 Prims.real c_slices_IndexFunc__api_Pair_api_Pair__0  v0 v1_c1_0
theorem s_slices_ContainsFunc__api_Pair_api_Pair__0_0 (c_slices_IndexFunc__api_Pair_api_Pair__0 : Ls1 → Int → Option (Int)) (h_slices_IndexFunc__api_Pair_api_Pair__0 : (C_slices_IndexFunc__api_Pair_api_Pair__0 PC FC @XM E_api_Pair c_slices_IndexFunc__api_Pair_api_Pair__0)) (m : Nat) (n0 : Nat) (k0 : List Nat) (hl0 : n0 < m)  : H_slices_ContainsFunc__api_Pair_api_Pair__0_0 AT @XM E_api_Pair m n0 k0 (p_slices_ContainsFunc__api_Pair_api_Pair__0_0 c_slices_IndexFunc__api_Pair_api_Pair__0) := by
  intro v0 v1_c1_0 out hp stk hg0
  exact o_slices_ContainsFunc__api_Pair_api_Pair__0_0 LW rfl rfl HA HZ HF c_slices_IndexFunc__api_Pair_api_Pair__0 h_slices_IndexFunc__api_Pair_api_Pair__0 stk m n0 k0 hl0 v0 v1_c1_0 hg0 hp
noncomputable def p_slices_IndexFunc__api_Pair_api_Pair__0_1 (c_tree_Right_1_2__0 : S_api_Pair → Int → Option (Bool)) (v0 : Ls1) (v1_c1_0 v7 v8 : Int) : Option (Int) := Prims.real.loop (fun (s : Ls1 × Int × Int × Int) => match s with | (v0, v1_c1_0, v7, v8) => b_slices_IndexFunc__api_Pair_api_Pair__0_1 Prims.real c_tree_Right_1_2__0  v0 v1_c1_0 v7 v8) (v0, v1_c1_0, v7, v8)
theorem u_slices_IndexFunc__api_Pair_api_Pair__0_1 (c_tree_Right_1_2__0 : S_api_Pair → Int → Option (Bool)) (v0 : Ls1) (v1_c1_0 v7 v8 : Int) : p_slices_IndexFunc__api_Pair_api_Pair__0_1 c_tree_Right_1_2__0 v0 v1_c1_0 v7 v8 = match b_slices_IndexFunc__api_Pair_api_Pair__0_1 Prims.real c_tree_Right_1_2__0  v0 v1_c1_0 v7 v8 with
    | some (.inl (v0', v1_c1_0', v7', v8')) => p_slices_IndexFunc__api_Pair_api_Pair__0_1 c_tree_Right_1_2__0 v0' v1_c1_0' v7' v8'
    | some (.inr r) => some r
    | none => none := by
  show Pr.loop _ _ = _
  rw [Pr.loop_eq]
  try dsimp only
  generalize b_slices_IndexFunc__api_Pair_api_Pair__0_1 Prims.real c_tree_Right_1_2__0  v0 v1_c1_0 v7 v8 = y
  cases y with
  | none => rfl
  | some y => cases y <;> rfl
theorem s_slices_IndexFunc__api_Pair_api_Pair__0_1 (c_tree_Right_1_2__0 : S_api_Pair → Int → Option (Bool)) (h_tree_Right_1_2__0 : (C_tree_Right_1_2__0 PC FC @XM E_api_Value E_api_Pair c_tree_Right_1_2__0)) (m : Nat) (n0 : Nat) (k0 : List Nat) (hl0 : n0 < m)  : H_slices_IndexFunc__api_Pair_api_Pair__0_1 AT @XM E_api_Pair m n0 k0 (p_slices_IndexFunc__api_Pair_api_Pair__0_1 c_tree_Right_1_2__0) := by
  intro v0 v1_c1_0 v7 v8 out hp stk hg0
  refine LW.ind _ (fun (s : Ls1 × Int × Int × Int) o => match s with | (v0, v1_c1_0, v7, v8) => ∀ (stk : Stk), getO stk ⟨n0, k0⟩ = some (.cells [(.clos (.func F.tree_Right_1) [] [(.ref ⟨n0, k0⟩ 0)])]) → (A_slices_IndexFunc__api_Pair_api_Pair__0_1 AT @XM E_api_Pair m n0 k0 v0 v1_c1_0 v7 v8 stk) = (O_slices_IndexFunc__api_Pair_api_Pair__0  m n0 k0 stk) o) (fun s r e => ?_) (fun s t r e ih => ?_) (v0, v1_c1_0, v7, v8) out hp stk hg0
  · obtain ⟨v0, v1_c1_0, v7, v8⟩ := s
    intro stk hg0
    exact o_slices_IndexFunc__api_Pair_api_Pair__0_1 LW rfl rfl HA HZ HF c_tree_Right_1_2__0 h_tree_Right_1_2__0 stk m n0 k0 hl0 v0 v1_c1_0 v7 v8 hg0 e
  · obtain ⟨v0, v1_c1_0, v7, v8⟩ := s; obtain ⟨v0', v1_c1_0', v7', v8'⟩ := t
    intro stk hg0
    exact (o_slices_IndexFunc__api_Pair_api_Pair__0_1 LW rfl rfl HA HZ HF c_tree_Right_1_2__0 h_tree_Right_1_2__0 stk m n0 k0 hl0 v0 v1_c1_0 v7 v8 hg0 e).trans (ih stk (hg0))
noncomputable def p_slices_IndexFunc__api_Pair_api_Pair__0_0 (c_tree_Right_1_2__0 : S_api_Pair → Int → Option (Bool)) (v0 : Ls1) (v1_c1_0 : Int) : Option (Int) := b_slices_IndexFunc__api_Pair_api_Pair__0_0 Prims.real c_tree_Right_1_2__0 (p_slices_IndexFunc__api_Pair_api_Pair__0_1 c_tree_Right_1_2__0) v0 v1_c1_0
theorem s_slices_IndexFunc__api_Pair_api_Pair__0_0 (c_tree_Right_1_2__0 : S_api_Pair → Int → Option (Bool)) (h_tree_Right_1_2__0 : (C_tree_Right_1_2__0 PC FC @XM E_api_Value E_api_Pair c_tree_Right_1_2__0)) (m : Nat) (n0 : Nat) (k0 : List Nat) (hl0 : n0 < m)  : H_slices_IndexFunc__api_Pair_api_Pair__0_0 AT @XM E_api_Pair m n0 k0 (p_slices_IndexFunc__api_Pair_api_Pair__0_0 c_tree_Right_1_2__0) := by
  intro v0 v1_c1_0 out hp stk hg0
  exact o_slices_IndexFunc__api_Pair_api_Pair__0_0 LW rfl rfl HA HZ HF c_tree_Right_1_2__0 h_tree_Right_1_2__0 stk m n0 k0 hl0 (p_slices_IndexFunc__api_Pair_api_Pair__0_1 c_tree_Right_1_2__0) v0 v1_c1_0 hg0 (s_slices_IndexFunc__api_Pair_api_Pair__0_1 c_tree_Right_1_2__0 h_tree_Right_1_2__0 m n0 k0 hl0 ) hp
noncomputable def p_tree_Right_1_2__0_0 (c_tree_Right_1__0 : S_api_Value → Int → Option (Bool)) (v0_0 : Str) (v0_1_0 v0_1_1 : Int) (v0_1_2 : Str) (v0_1_3 : Ls0) (v0_1_4 : Ls1) (v2_0 : Int) : Option (Bool) := b_tree_Right_1_2__0_0 Prims.real c_tree_Right_1__0  v0_0 v0_1_0 v0_1_1 v0_1_2 v0_1_3 v0_1_4 v2_0
theorem s_tree_Right_1_2__0_0 (c_tree_Right_1__0 : S_api_Value → Int → Option (Bool)) (h_tree_Right_1__0 : (C_tree_Right_1__0 PC FC @XM E_api_Value E_api_Pair c_tree_Right_1__0)) (m : Nat) (n0 : Nat) (k0 : List Nat) (hl0 : n0 < m)  : H_tree_Right_1_2__0_0 AT @XM E_api_Value E_api_Pair m n0 k0 (p_tree_Right_1_2__0_0 c_tree_Right_1__0) := by
  intro v0_0 v0_1_0 v0_1_1 v0_1_2 v0_1_3 v0_1_4 v2_0 out hp stk hg0
  exact o_tree_Right_1_2__0_0 LW rfl rfl HA HZ HF c_tree_Right_1__0 h_tree_Right_1__0 stk m n0 k0 hl0 v0_0 v0_1_0 v0_1_1 v0_1_2 v0_1_3 v0_1_4 v2_0 hg0 hp
noncomputable def pk_tree_Right_1_1__0 : Nat → (S_api_Value → Int → Option (Bool)) × (S_api_Value → Int → Option (Bool)) × (Ls0 → Int → Option (Bool)) × (Ls0 → Int → Option (Int)) × (Ls1 → Int → Option (Bool)) × (Ls1 → Int → Option (Int)) × (S_api_Pair → Int → Option (Bool))
  | 0 => (fun _ _ => none, fun _ _ => none, fun _ _ => none, fun _ _ => none, fun _ _ => none, fun _ _ => none, fun _ _ => none)
  | k + 1 => (fun ⟨v0_0, v0_1, v0_2, v0_3, v0_4⟩ v2_0 => p_tree_Right_1_1__0_0 ((pk_tree_Right_1_1__0 k).2.1) v0_0 v0_1 v0_2 v0_3 v0_4 v2_0, fun ⟨v0_0, v0_1, v0_2, v0_3, v0_4⟩ v1 => p_tree_Right_1__0_0 ((pk_tree_Right_1_1__0 k).2.2.1) ((pk_tree_Right_1_1__0 k).2.2.2.2.1) v0_0 v0_1 v0_2 v0_3 v0_4 v1, fun v0 v1_c1_0 => p_slices_ContainsFunc__api_Value_api_Value__0_0 ((pk_tree_Right_1_1__0 k).2.2.2.1) v0 v1_c1_0, fun v0 v1_c1_0 => p_slices_IndexFunc__api_Value_api_Value__0_0 ((pk_tree_Right_1_1__0 k).1) v0 v1_c1_0, fun v0 v1_c1_0 => p_slices_ContainsFunc__api_Pair_api_Pair__0_0 ((pk_tree_Right_1_1__0 k).2.2.2.2.2.1) v0 v1_c1_0, fun v0 v1_c1_0 => p_slices_IndexFunc__api_Pair_api_Pair__0_0 ((pk_tree_Right_1_1__0 k).2.2.2.2.2.2) v0 v1_c1_0, fun ⟨v0_0, ⟨v0_1_0, v0_1_1, v0_1_2, v0_1_3, v0_1_4⟩⟩ v2_0 => p_tree_Right_1_2__0_0 ((pk_tree_Right_1_1__0 k).2.1) v0_0 v0_1_0 v0_1_1 v0_1_2 v0_1_3 v0_1_4 v2_0)
theorem sk_tree_Right_1_1__0 : ∀ k, ((C_tree_Right_1_1__0 PC FC @XM E_api_Value E_api_Pair ((pk_tree_Right_1_1__0 k).1))) ∧ ((C_tree_Right_1__0 PC FC @XM E_api_Value E_api_Pair ((pk_tree_Right_1_1__0 k).2.1))) ∧ ((C_slices_ContainsFunc__api_Value_api_Value__0 PC FC @XM E_api_Value ((pk_tree_Right_1_1__0 k).2.2.1))) ∧ ((C_slices_IndexFunc__api_Value_api_Value__0 PC FC @XM E_api_Value ((pk_tree_Right_1_1__0 k).2.2.2.1))) ∧ ((C_slices_ContainsFunc__api_Pair_api_Pair__0 PC FC @XM E_api_Pair ((pk_tree_Right_1_1__0 k).2.2.2.2.1))) ∧ ((C_slices_IndexFunc__api_Pair_api_Pair__0 PC FC @XM E_api_Pair ((pk_tree_Right_1_1__0 k).2.2.2.2.2.1))) ∧ ((C_tree_Right_1_2__0 PC FC @XM E_api_Value E_api_Pair ((pk_tree_Right_1_1__0 k).2.2.2.2.2.2))) ∧ True
  | 0 => by
    refine ⟨?_, ?_, ?_, ?_, ?_, ?_, ?_, trivial⟩
    · intro _ _ _ _ _ _ _ hp; exact nomatch (show none = some _ from hp)
    · intro _ _ _ _ _ _ _ hp; exact nomatch (show none = some _ from hp)
    · intro _ _ _ hp; exact nomatch (show none = some _ from hp)
    · intro _ _ _ hp; exact nomatch (show none = some _ from hp)
    · intro _ _ _ hp; exact nomatch (show none = some _ from hp)
    · intro _ _ _ hp; exact nomatch (show none = some _ from hp)
    · intro _ _ _ _ _ _ _ _ hp; exact nomatch (show none = some _ from hp)
  | k + 1 => by
    obtain ⟨ih0, ih1, ih2, ih3, ih4, ih5, ih6, _⟩ := sk_tree_Right_1_1__0 k
    refine ⟨?_, ?_, ?_, ?_, ?_, ?_, ?_, trivial⟩
    · intro _ _ _ _ _ _ _ hp stk n0 k0 hg0 hl0 
      exact pf_of (T := table) (G := glob) (f := 50) rfl rfl (s_tree_Right_1_1__0_0 ((pk_tree_Right_1_1__0 k).2.1) ih1 (topN stk + 1) n0 k0 (Nat.lt_succ_of_le hl0)  hp stk hg0)
    · intro _ _ _ _ _ _ _ hp stk n0 k0 hg0 hl0 
      exact pf_of (T := table) (G := glob) (f := 46) rfl rfl (s_tree_Right_1__0_0 ((pk_tree_Right_1_1__0 k).2.2.1) ((pk_tree_Right_1_1__0 k).2.2.2.2.1) ih2 ih4 (topN stk + 1) n0 k0 (Nat.lt_succ_of_le hl0)  hp stk hg0)
    · intro _ _ _ hp stk n0 k0 hg0 hl0 
      exact pf_of (T := table) (G := glob) (f := 49) rfl rfl (s_slices_ContainsFunc__api_Value_api_Value__0_0 ((pk_tree_Right_1_1__0 k).2.2.2.1) ih3 (topN stk + 1) n0 k0 (Nat.lt_succ_of_le hl0)  hp stk hg0)
    · intro _ _ _ hp stk n0 k0 hg0 hl0 
      exact pf_of (T := table) (G := glob) (f := 70) rfl rfl (s_slices_IndexFunc__api_Value_api_Value__0_0 ((pk_tree_Right_1_1__0 k).1) ih0 (topN stk + 1) n0 k0 (Nat.lt_succ_of_le hl0)  hp stk hg0)
    · intro _ _ _ hp stk n0 k0 hg0 hl0 
      exact pf_of (T := table) (G := glob) (f := 52) rfl rfl (s_slices_ContainsFunc__api_Pair_api_Pair__0_0 ((pk_tree_Right_1_1__0 k).2.2.2.2.2.1) ih5 (topN stk + 1) n0 k0 (Nat.lt_succ_of_le hl0)  hp stk hg0)
    · intro _ _ _ hp stk n0 k0 hg0 hl0 
      exact pf_of (T := table) (G := glob) (f := 57) rfl rfl (s_slices_IndexFunc__api_Pair_api_Pair__0_0 ((pk_tree_Right_1_1__0 k).2.2.2.2.2.2) ih6 (topN stk + 1) n0 k0 (Nat.lt_succ_of_le hl0)  hp stk hg0)
    · intro _ _ _ _ _ _ _ _ hp stk n0 k0 hg0 hl0 
      exact pf_of (T := table) (G := glob) (f := 53) rfl rfl (s_tree_Right_1_2__0_0 ((pk_tree_Right_1_1__0 k).2.1) ih1 (topN stk + 1) n0 k0 (Nat.lt_succ_of_le hl0)  hp stk hg0)
noncomputable def p_tree_Right_1_1__0 : S_api_Value → Int → Option (Bool) := (pk_tree_Right_1_1__0 1000000).1
theorem s_tree_Right_1_1__0 : (C_tree_Right_1_1__0 PC FC @XM E_api_Value E_api_Pair p_tree_Right_1_1__0) := (sk_tree_Right_1_1__0 1000000).1
noncomputable def p_tree_Right_1__0 : S_api_Value → Int → Option (Bool) := (pk_tree_Right_1_1__0 1000000).2.1
theorem s_tree_Right_1__0 : (C_tree_Right_1__0 PC FC @XM E_api_Value E_api_Pair p_tree_Right_1__0) := (sk_tree_Right_1_1__0 1000000).2.1
noncomputable def p_slices_ContainsFunc__api_Value_api_Value__0 : Ls0 → Int → Option (Bool) := (pk_tree_Right_1_1__0 1000000).2.2.1
theorem s_slices_ContainsFunc__api_Value_api_Value__0 : (C_slices_ContainsFunc__api_Value_api_Value__0 PC FC @XM E_api_Value p_slices_ContainsFunc__api_Value_api_Value__0) := (sk_tree_Right_1_1__0 1000000).2.2.1
noncomputable def p_slices_IndexFunc__api_Value_api_Value__0 : Ls0 → Int → Option (Int) := (pk_tree_Right_1_1__0 1000000).2.2.2.1
theorem s_slices_IndexFunc__api_Value_api_Value__0 : (C_slices_IndexFunc__api_Value_api_Value__0 PC FC @XM E_api_Value p_slices_IndexFunc__api_Value_api_Value__0) := (sk_tree_Right_1_1__0 1000000).2.2.2.1
noncomputable def p_slices_ContainsFunc__api_Pair_api_Pair__0 : Ls1 → Int → Option (Bool) := (pk_tree_Right_1_1__0 1000000).2.2.2.2.1
theorem s_slices_ContainsFunc__api_Pair_api_Pair__0 : (C_slices_ContainsFunc__api_Pair_api_Pair__0 PC FC @XM E_api_Pair p_slices_ContainsFunc__api_Pair_api_Pair__0) := (sk_tree_Right_1_1__0 1000000).2.2.2.2.1
noncomputable def p_slices_IndexFunc__api_Pair_api_Pair__0 : Ls1 → Int → Option (Int) := (pk_tree_Right_1_1__0 1000000).2.2.2.2.2.1
theorem s_slices_IndexFunc__api_Pair_api_Pair__0 : (C_slices_IndexFunc__api_Pair_api_Pair__0 PC FC @XM E_api_Pair p_slices_IndexFunc__api_Pair_api_Pair__0) := (sk_tree_Right_1_1__0 1000000).2.2.2.2.2.1
noncomputable def p_tree_Right_1_2__0 : S_api_Pair → Int → Option (Bool) := (pk_tree_Right_1_1__0 1000000).2.2.2.2.2.2
theorem s_tree_Right_1_2__0 : (C_tree_Right_1_2__0 PC FC @XM E_api_Value E_api_Pair p_tree_Right_1_2__0) := (sk_tree_Right_1_1__0 1000000).2.2.2.2.2.2.1
noncomputable def p_tree_Right_0  (v0_0 v0_1 : Int) (v0_2 : Str) (v0_3 : Ls0) (v0_4 : Ls1) : Option (Bool) := b_tree_Right_0 Prims.real p_tree_Right_1__0  v0_0 v0_1 v0_2 v0_3 v0_4
theorem s_tree_Right_0   (m : Nat)    : H_tree_Right_0 AT @XM E_api_Value E_api_Pair m  p_tree_Right_0 := by
  intro v0_0 v0_1 v0_2 v0_3 v0_4 out hp stk 
  exact o_tree_Right_0 LW rfl rfl HA HZ HF p_tree_Right_1__0 s_tree_Right_1__0 stk m v0_0 v0_1 v0_2 v0_3 v0_4 hp
noncomputable def p_tree_Right : S_api_Value → Option (Bool) := fun ⟨v0_0, v0_1, v0_2, v0_3, v0_4⟩ => p_tree_Right_0  v0_0 v0_1 v0_2 v0_3 v0_4
theorem s_tree_Right : (C_tree_Right PC FC @XM E_api_Value E_api_Pair p_tree_Right) := by
  intro _ _ _ _ _ _ hp stk    
  exact pf_of (T := table) (G := glob) (f := 17) rfl rfl (s_tree_Right_0   (topN stk + 1)    hp stk )
noncomputable def p_dyn_From_0  (v0 : S_any) : Option (S_api_Value × Int) := b_dyn_From_0 Prims.real p_dyn_from p_tree_Right  v0
theorem s_dyn_From_0   (m : Nat)    : H_dyn_From_0 AT @XM E_any E_api_Value E_api_Pair m  p_dyn_From_0 := by
  intro v0 out hp stk 
  exact o_dyn_From_0 LW rfl rfl HA HZ HF p_dyn_from p_tree_Right s_dyn_from s_tree_Right stk m v0 hp
noncomputable def p_dyn_From : S_any → Option (S_api_Value × Int) := fun v0 => p_dyn_From_0  v0
theorem s_dyn_From : (C_dyn_From PC FC @XM E_any E_api_Value E_api_Pair p_dyn_From) := by
  intro _ _ _ _ _ _ _ hp stk    
  exact pf_of (T := table) (G := glob) (f := 31) rfl rfl (s_dyn_From_0   (topN stk + 1)    hp stk )
noncomputable def p_cascaderef04_Stands_4 (c_cascaderef04_Stands : S_api_Value → Option (S_api_Value × Bool)) (v1_0 v1_1 : Int) (v1_2 : Str) (v1_3 : Ls0) (v1_4 : Ls1) (v5 : Bool) (v6 o2_0 o2_1 : Int) (o2_2 : Str) (o2_3 : Ls0) (o2_4 : Ls1) (o4_0 o4_1 : Int) (o4_2 : Str) (o4_3_g : Nat) (o4_3 : Ls0) (o4_4_g : Nat) (o4_4 : Ls1) : Option ((Int × Int × Str × Ls0 × Ls1 × Bool × Int × Int × Int × Str × Ls0 × Ls1 × Int × Int × Str × Nat × Ls0 × Nat × Ls1) ⊕ (S_api_Value × Bool)) := b_cascaderef04_Stands_4 Prims.real c_cascaderef04_Stands  v1_0 v1_1 v1_2 v1_3 v1_4 v5 v6 o2_0 o2_1 o2_2 o2_3 o2_4 o4_0 o4_1 o4_2 o4_3_g o4_3 o4_4_g o4_4
theorem s_cascaderef04_Stands_4 (c_cascaderef04_Stands : S_api_Value → Option (S_api_Value × Bool)) (h_cascaderef04_Stands : (C_cascaderef04_Stands PC FC @XM E_api_Value E_api_Pair c_cascaderef04_Stands)) (m : Nat)    : H_cascaderef04_Stands_4 AT @XM List.length E_api_Value E_api_Pair m  (p_cascaderef04_Stands_4 c_cascaderef04_Stands) := by
  intro v1_0 v1_1 v1_2 v1_3 v1_4 v5 v6 o2_0 o2_1 o2_2 o2_3 o2_4 o4_0 o4_1 o4_2 o4_3_g o4_3 o4_4_g o4_4 out hp stk 
  exact o_cascaderef04_Stands_4 LW rfl rfl HA HZ HF c_cascaderef04_Stands h_cascaderef04_Stands stk m v1_0 v1_1 v1_2 v1_3 v1_4 v5 v6 o2_0 o2_1 o2_2 o2_3 o2_4 o4_0 o4_1 o4_2 o4_3_g o4_3 o4_4_g o4_4 hp
noncomputable def p_cascaderef04_Stands_8 (c_cascaderef04_Stands : S_api_Value → Option (S_api_Value × Bool)) (v5 : Bool) (o2_0 o2_1 : Int) (o2_2 : Str) (o2_3 : Ls0) (o2_4 : Ls1) (o4_0 o4_1 : Int) (o4_2 : Str) (o4_3_g : Nat) (o4_3 : Ls0) (o4_4_g : Nat) (o4_4 : Ls1) : Option (S_api_Value × Bool) := b_cascaderef04_Stands_8 Prims.real c_cascaderef04_Stands  v5 o2_0 o2_1 o2_2 o2_3 o2_4 o4_0 o4_1 o4_2 o4_3_g o4_3 o4_4_g o4_4
theorem s_cascaderef04_Stands_8 (c_cascaderef04_Stands : S_api_Value → Option (S_api_Value × Bool)) (h_cascaderef04_Stands : (C_cascaderef04_Stands PC FC @XM E_api_Value E_api_Pair c_cascaderef04_Stands)) (m : Nat)    : H_cascaderef04_Stands_8 AT @XM List.length E_api_Value E_api_Pair m  (p_cascaderef04_Stands_8 c_cascaderef04_Stands) := by
  intro v5 o2_0 o2_1 o2_2 o2_3 o2_4 o4_0 o4_1 o4_2 o4_3_g o4_3 o4_4_g o4_4 out hp stk 
  exact o_cascaderef04_Stands_8 LW rfl rfl HA HZ HF c_cascaderef04_Stands h_cascaderef04_Stands stk m v5 o2_0 o2_1 o2_2 o2_3 o2_4 o4_0 o4_1 o4_2 o4_3_g o4_3 o4_4_g o4_4 hp
noncomputable def p_cascaderef04_Stands_2 (c_cascaderef04_Stands : S_api_Value → Option (S_api_Value × Bool)) (v1_0 v1_1 : Int) (v1_2 : Str) (v1_3 : Ls0) (v1_4 : Ls1) (v5 : Bool) (v6 o2_0 o2_1 : Int) (o2_2 : Str) (o2_3 : Ls0) (o2_4 : Ls1) (o4_0 o4_1 : Int) (o4_2 : Str) (o4_3_g : Nat) (o4_3 : Ls0) (o4_4_g : Nat) (o4_4 : Ls1) : Option (S_api_Value × Bool) := Prims.real.loop (fun (s : Int × Int × Str × Ls0 × Ls1 × Bool × Int × Int × Int × Str × Ls0 × Ls1 × Int × Int × Str × Nat × Ls0 × Nat × Ls1) => match s with | (v1_0, v1_1, v1_2, v1_3, v1_4, v5, v6, o2_0, o2_1, o2_2, o2_3, o2_4, o4_0, o4_1, o4_2, o4_3_g, o4_3, o4_4_g, o4_4) => b_cascaderef04_Stands_2 Prims.real c_cascaderef04_Stands (p_cascaderef04_Stands_4 c_cascaderef04_Stands) (p_cascaderef04_Stands_8 c_cascaderef04_Stands) v1_0 v1_1 v1_2 v1_3 v1_4 v5 v6 o2_0 o2_1 o2_2 o2_3 o2_4 o4_0 o4_1 o4_2 o4_3_g o4_3 o4_4_g o4_4) (v1_0, v1_1, v1_2, v1_3, v1_4, v5, v6, o2_0, o2_1, o2_2, o2_3, o2_4, o4_0, o4_1, o4_2, o4_3_g, o4_3, o4_4_g, o4_4)
theorem u_cascaderef04_Stands_2 (c_cascaderef04_Stands : S_api_Value → Option (S_api_Value × Bool)) (v1_0 v1_1 : Int) (v1_2 : Str) (v1_3 : Ls0) (v1_4 : Ls1) (v5 : Bool) (v6 o2_0 o2_1 : Int) (o2_2 : Str) (o2_3 : Ls0) (o2_4 : Ls1) (o4_0 o4_1 : Int) (o4_2 : Str) (o4_3_g : Nat) (o4_3 : Ls0) (o4_4_g : Nat) (o4_4 : Ls1) : p_cascaderef04_Stands_2 c_cascaderef04_Stands v1_0 v1_1 v1_2 v1_3 v1_4 v5 v6 o2_0 o2_1 o2_2 o2_3 o2_4 o4_0 o4_1 o4_2 o4_3_g o4_3 o4_4_g o4_4 = match b_cascaderef04_Stands_2 Prims.real c_cascaderef04_Stands (p_cascaderef04_Stands_4 c_cascaderef04_Stands) (p_cascaderef04_Stands_8 c_cascaderef04_Stands) v1_0 v1_1 v1_2 v1_3 v1_4 v5 v6 o2_0 o2_1 o2_2 o2_3 o2_4 o4_0 o4_1 o4_2 o4_3_g o4_3 o4_4_g o4_4 with
    | some (.inl (v1_0', v1_1', v1_2', v1_3', v1_4', v5', v6', o2_0', o2_1', o2_2', o2_3', o2_4', o4_0', o4_1', o4_2', o4_3_g', o4_3', o4_4_g', o4_4')) => p_cascaderef04_Stands_2 c_cascaderef04_Stands v1_0' v1_1' v1_2' v1_3' v1_4' v5' v6' o2_0' o2_1' o2_2' o2_3' o2_4' o4_0' o4_1' o4_2' o4_3_g' o4_3' o4_4_g' o4_4'
    | some (.inr r) => some r
    | none => none := by
  show Pr.loop _ _ = _
  rw [Pr.loop_eq]
  try dsimp only
  generalize b_cascaderef04_Stands_2 Prims.real c_cascaderef04_Stands (p_cascaderef04_Stands_4 c_cascaderef04_Stands) (p_cascaderef04_Stands_8 c_cascaderef04_Stands) v1_0 v1_1 v1_2 v1_3 v1_4 v5 v6 o2_0 o2_1 o2_2 o2_3 o2_4 o4_0 o4_1 o4_2 o4_3_g o4_3 o4_4_g o4_4 = y
  cases y with
  | none => rfl
  | some y => cases y <;> rfl
theorem s_cascaderef04_Stands_2 (c_cascaderef04_Stands : S_api_Value → Option (S_api_Value × Bool)) (h_cascaderef04_Stands : (C_cascaderef04_Stands PC FC @XM E_api_Value E_api_Pair c_cascaderef04_Stands)) (m : Nat)    : H_cascaderef04_Stands_2 AT @XM List.length E_api_Value E_api_Pair m  (p_cascaderef04_Stands_2 c_cascaderef04_Stands) := by
  intro v1_0 v1_1 v1_2 v1_3 v1_4 v5 v6 o2_0 o2_1 o2_2 o2_3 o2_4 o4_0 o4_1 o4_2 o4_3_g o4_3 o4_4_g o4_4 out hp stk 
  refine LW.ind _ (fun (s : Int × Int × Str × Ls0 × Ls1 × Bool × Int × Int × Int × Str × Ls0 × Ls1 × Int × Int × Str × Nat × Ls0 × Nat × Ls1) o => match s with | (v1_0, v1_1, v1_2, v1_3, v1_4, v5, v6, o2_0, o2_1, o2_2, o2_3, o2_4, o4_0, o4_1, o4_2, o4_3_g, o4_3, o4_4_g, o4_4) => ∀ (stk : Stk), (A_cascaderef04_Stands_2 AT @XM List.length E_api_Value E_api_Pair m  v1_0 v1_1 v1_2 v1_3 v1_4 v5 v6 o2_0 o2_1 o2_2 o2_3 o2_4 o4_0 o4_1 o4_2 o4_3_g o4_3 o4_4_g o4_4 stk) = (O_cascaderef04_Stands @XM E_api_Value E_api_Pair m  stk) o) (fun s r e => ?_) (fun s t r e ih => ?_) (v1_0, v1_1, v1_2, v1_3, v1_4, v5, v6, o2_0, o2_1, o2_2, o2_3, o2_4, o4_0, o4_1, o4_2, o4_3_g, o4_3, o4_4_g, o4_4) out hp stk 
  · obtain ⟨v1_0, v1_1, v1_2, v1_3, v1_4, v5, v6, o2_0, o2_1, o2_2, o2_3, o2_4, o4_0, o4_1, o4_2, o4_3_g, o4_3, o4_4_g, o4_4⟩ := s
    intro stk 
    exact o_cascaderef04_Stands_2 LW rfl rfl HA HZ HF c_cascaderef04_Stands h_cascaderef04_Stands stk m (p_cascaderef04_Stands_4 c_cascaderef04_Stands) (p_cascaderef04_Stands_8 c_cascaderef04_Stands) v1_0 v1_1 v1_2 v1_3 v1_4 v5 v6 o2_0 o2_1 o2_2 o2_3 o2_4 o4_0 o4_1 o4_2 o4_3_g o4_3 o4_4_g o4_4 (s_cascaderef04_Stands_4 c_cascaderef04_Stands h_cascaderef04_Stands m ) (s_cascaderef04_Stands_8 c_cascaderef04_Stands h_cascaderef04_Stands m ) e
  · obtain ⟨v1_0, v1_1, v1_2, v1_3, v1_4, v5, v6, o2_0, o2_1, o2_2, o2_3, o2_4, o4_0, o4_1, o4_2, o4_3_g, o4_3, o4_4_g, o4_4⟩ := s; obtain ⟨v1_0', v1_1', v1_2', v1_3', v1_4', v5', v6', o2_0', o2_1', o2_2', o2_3', o2_4', o4_0', o4_1', o4_2', o4_3_g', o4_3', o4_4_g', o4_4'⟩ := t
    intro stk 
    exact (o_cascaderef04_Stands_2 LW rfl rfl HA HZ HF c_cascaderef04_Stands h_cascaderef04_Stands stk m (p_cascaderef04_Stands_4 c_cascaderef04_Stands) (p_cascaderef04_Stands_8 c_cascaderef04_Stands) v1_0 v1_1 v1_2 v1_3 v1_4 v5 v6 o2_0 o2_1 o2_2 o2_3 o2_4 o4_0 o4_1 o4_2 o4_3_g o4_3 o4_4_g o4_4 (s_cascaderef04_Stands_4 c_cascaderef04_Stands h_cascaderef04_Stands m ) (s_cascaderef04_Stands_8 c_cascaderef04_Stands h_cascaderef04_Stands m ) e).trans (ih stk )
noncomputable def p_cascaderef04_Stands_7 (c_cascaderef04_Stands : S_api_Value → Option (S_api_Value × Bool)) (v1_0 v1_1 : Int) (v1_2 : Str) (v1_3 : Ls0) (v1_4 : Ls1) (v5 : Bool) (v9 o2_0 o2_1 : Int) (o2_2 : Str) (o2_3 : Ls0) (o2_4 : Ls1) (o4_0 o4_1 : Int) (o4_2 : Str) (o4_3_g : Nat) (o4_3 : Ls0) (o4_4_g : Nat) (o4_4 : Ls1) : Option ((Int × Int × Str × Ls0 × Ls1 × Bool × Int × Int × Int × Str × Ls0 × Ls1 × Int × Int × Str × Nat × Ls0 × Nat × Ls1) ⊕ (S_api_Value × Bool)) := b_cascaderef04_Stands_7 Prims.real c_cascaderef04_Stands  v1_0 v1_1 v1_2 v1_3 v1_4 v5 v9 o2_0 o2_1 o2_2 o2_3 o2_4 o4_0 o4_1 o4_2 o4_3_g o4_3 o4_4_g o4_4
theorem s_cascaderef04_Stands_7 (c_cascaderef04_Stands : S_api_Value → Option (S_api_Value × Bool)) (h_cascaderef04_Stands : (C_cascaderef04_Stands PC FC @XM E_api_Value E_api_Pair c_cascaderef04_Stands)) (m : Nat)    : H_cascaderef04_Stands_7 AT @XM List.length E_api_Value E_api_Pair m  (p_cascaderef04_Stands_7 c_cascaderef04_Stands) := by
  intro v1_0 v1_1 v1_2 v1_3 v1_4 v5 v9 o2_0 o2_1 o2_2 o2_3 o2_4 o4_0 o4_1 o4_2 o4_3_g o4_3 o4_4_g o4_4 out hp stk 
  exact o_cascaderef04_Stands_7 LW rfl rfl HA HZ HF c_cascaderef04_Stands h_cascaderef04_Stands stk m v1_0 v1_1 v1_2 v1_3 v1_4 v5 v9 o2_0 o2_1 o2_2 o2_3 o2_4 o4_0 o4_1 o4_2 o4_3_g o4_3 o4_4_g o4_4 hp
noncomputable def p_cascaderef04_Stands_5 (c_cascaderef04_Stands : S_api_Value → Option (S_api_Value × Bool)) (v1_0 v1_1 : Int) (v1_2 : Str) (v1_3 : Ls0) (v1_4 : Ls1) (v5 : Bool) (v9 o2_0 o2_1 : Int) (o2_2 : Str) (o2_3 : Ls0) (o2_4 : Ls1) (o4_0 o4_1 : Int) (o4_2 : Str) (o4_3_g : Nat) (o4_3 : Ls0) (o4_4_g : Nat) (o4_4 : Ls1) : Option (S_api_Value × Bool) := Prims.real.loop (fun (s : Int × Int × Str × Ls0 × Ls1 × Bool × Int × Int × Int × Str × Ls0 × Ls1 × Int × Int × Str × Nat × Ls0 × Nat × Ls1) => match s with | (v1_0, v1_1, v1_2, v1_3, v1_4, v5, v9, o2_0, o2_1, o2_2, o2_3, o2_4, o4_0, o4_1, o4_2, o4_3_g, o4_3, o4_4_g, o4_4) => b_cascaderef04_Stands_5 Prims.real c_cascaderef04_Stands (p_cascaderef04_Stands_7 c_cascaderef04_Stands) (p_cascaderef04_Stands_8 c_cascaderef04_Stands) v1_0 v1_1 v1_2 v1_3 v1_4 v5 v9 o2_0 o2_1 o2_2 o2_3 o2_4 o4_0 o4_1 o4_2 o4_3_g o4_3 o4_4_g o4_4) (v1_0, v1_1, v1_2, v1_3, v1_4, v5, v9, o2_0, o2_1, o2_2, o2_3, o2_4, o4_0, o4_1, o4_2, o4_3_g, o4_3, o4_4_g, o4_4)
theorem u_cascaderef04_Stands_5 (c_cascaderef04_Stands : S_api_Value → Option (S_api_Value × Bool)) (v1_0 v1_1 : Int) (v1_2 : Str) (v1_3 : Ls0) (v1_4 : Ls1) (v5 : Bool) (v9 o2_0 o2_1 : Int) (o2_2 : Str) (o2_3 : Ls0) (o2_4 : Ls1) (o4_0 o4_1 : Int) (o4_2 : Str) (o4_3_g : Nat) (o4_3 : Ls0) (o4_4_g : Nat) (o4_4 : Ls1) : p_cascaderef04_Stands_5 c_cascaderef04_Stands v1_0 v1_1 v1_2 v1_3 v1_4 v5 v9 o2_0 o2_1 o2_2 o2_3 o2_4 o4_0 o4_1 o4_2 o4_3_g o4_3 o4_4_g o4_4 = match b_cascaderef04_Stands_5 Prims.real c_cascaderef04_Stands (p_cascaderef04_Stands_7 c_cascaderef04_Stands) (p_cascaderef04_Stands_8 c_cascaderef04_Stands) v1_0 v1_1 v1_2 v1_3 v1_4 v5 v9 o2_0 o2_1 o2_2 o2_3 o2_4 o4_0 o4_1 o4_2 o4_3_g o4_3 o4_4_g o4_4 with
    | some (.inl (v1_0', v1_1', v1_2', v1_3', v1_4', v5', v9', o2_0', o2_1', o2_2', o2_3', o2_4', o4_0', o4_1', o4_2', o4_3_g', o4_3', o4_4_g', o4_4')) => p_cascaderef04_Stands_5 c_cascaderef04_Stands v1_0' v1_1' v1_2' v1_3' v1_4' v5' v9' o2_0' o2_1' o2_2' o2_3' o2_4' o4_0' o4_1' o4_2' o4_3_g' o4_3' o4_4_g' o4_4'
    | some (.inr r) => some r
    | none => none := by
  show Pr.loop _ _ = _
  rw [Pr.loop_eq]
  try dsimp only
  generalize b_cascaderef04_Stands_5 Prims.real c_cascaderef04_Stands (p_cascaderef04_Stands_7 c_cascaderef04_Stands) (p_cascaderef04_Stands_8 c_cascaderef04_Stands) v1_0 v1_1 v1_2 v1_3 v1_4 v5 v9 o2_0 o2_1 o2_2 o2_3 o2_4 o4_0 o4_1 o4_2 o4_3_g o4_3 o4_4_g o4_4 = y
  cases y with
  | none => rfl
  | some y => cases y <;> rfl
theorem s_cascaderef04_Stands_5 (c_cascaderef04_Stands : S_api_Value → Option (S_api_Value × Bool)) (h_cascaderef04_Stands : (C_cascaderef04_Stands PC FC @XM E_api_Value E_api_Pair c_cascaderef04_Stands)) (m : Nat)    : H_cascaderef04_Stands_5 AT @XM List.length E_api_Value E_api_Pair m  (p_cascaderef04_Stands_5 c_cascaderef04_Stands) := by
  intro v1_0 v1_1 v1_2 v1_3 v1_4 v5 v9 o2_0 o2_1 o2_2 o2_3 o2_4 o4_0 o4_1 o4_2 o4_3_g o4_3 o4_4_g o4_4 out hp stk 
  refine LW.ind _ (fun (s : Int × Int × Str × Ls0 × Ls1 × Bool × Int × Int × Int × Str × Ls0 × Ls1 × Int × Int × Str × Nat × Ls0 × Nat × Ls1) o => match s with | (v1_0, v1_1, v1_2, v1_3, v1_4, v5, v9, o2_0, o2_1, o2_2, o2_3, o2_4, o4_0, o4_1, o4_2, o4_3_g, o4_3, o4_4_g, o4_4) => ∀ (stk : Stk), (A_cascaderef04_Stands_5 AT @XM List.length E_api_Value E_api_Pair m  v1_0 v1_1 v1_2 v1_3 v1_4 v5 v9 o2_0 o2_1 o2_2 o2_3 o2_4 o4_0 o4_1 o4_2 o4_3_g o4_3 o4_4_g o4_4 stk) = (O_cascaderef04_Stands @XM E_api_Value E_api_Pair m  stk) o) (fun s r e => ?_) (fun s t r e ih => ?_) (v1_0, v1_1, v1_2, v1_3, v1_4, v5, v9, o2_0, o2_1, o2_2, o2_3, o2_4, o4_0, o4_1, o4_2, o4_3_g, o4_3, o4_4_g, o4_4) out hp stk 
  · obtain ⟨v1_0, v1_1, v1_2, v1_3, v1_4, v5, v9, o2_0, o2_1, o2_2, o2_3, o2_4, o4_0, o4_1, o4_2, o4_3_g, o4_3, o4_4_g, o4_4⟩ := s
    intro stk 
    exact o_cascaderef04_Stands_5 LW rfl rfl HA HZ HF c_cascaderef04_Stands h_cascaderef04_Stands stk m (p_cascaderef04_Stands_7 c_cascaderef04_Stands) (p_cascaderef04_Stands_8 c_cascaderef04_Stands) v1_0 v1_1 v1_2 v1_3 v1_4 v5 v9 o2_0 o2_1 o2_2 o2_3 o2_4 o4_0 o4_1 o4_2 o4_3_g o4_3 o4_4_g o4_4 (s_cascaderef04_Stands_7 c_cascaderef04_Stands h_cascaderef04_Stands m ) (s_cascaderef04_Stands_8 c_cascaderef04_Stands h_cascaderef04_Stands m ) e
  · obtain ⟨v1_0, v1_1, v1_2, v1_3, v1_4, v5, v9, o2_0, o2_1, o2_2, o2_3, o2_4, o4_0, o4_1, o4_2, o4_3_g, o4_3, o4_4_g, o4_4⟩ := s; obtain ⟨v1_0', v1_1', v1_2', v1_3', v1_4', v5', v9', o2_0', o2_1', o2_2', o2_3', o2_4', o4_0', o4_1', o4_2', o4_3_g', o4_3', o4_4_g', o4_4'⟩ := t
    intro stk 
    exact (o_cascaderef04_Stands_5 LW rfl rfl HA HZ HF c_cascaderef04_Stands h_cascaderef04_Stands stk m (p_cascaderef04_Stands_7 c_cascaderef04_Stands) (p_cascaderef04_Stands_8 c_cascaderef04_Stands) v1_0 v1_1 v1_2 v1_3 v1_4 v5 v9 o2_0 o2_1 o2_2 o2_3 o2_4 o4_0 o4_1 o4_2 o4_3_g o4_3 o4_4_g o4_4 (s_cascaderef04_Stands_7 c_cascaderef04_Stands h_cascaderef04_Stands m ) (s_cascaderef04_Stands_8 c_cascaderef04_Stands h_cascaderef04_Stands m ) e).trans (ih stk )
noncomputable def p_cascaderef04_Stands_1 (c_cascaderef04_Stands : S_api_Value → Option (S_api_Value × Bool)) (v1_0 v1_1 : Int) (v1_2 : Str) (v1_3 : Ls0) (v1_4 : Ls1) (v5 : Bool) (v16 : Int) (v18 : Bool) (o2_0 o2_1 : Int) (o2_2 : Str) (o2_3 : Ls0) (o2_4 : Ls1) (o4_0 o4_1 : Int) (o4_2 : Str) (o4_3_g : Nat) (o4_3 : Ls0) (o4_4_g : Nat) (o4_4 : Ls1) : Option (S_api_Value × Bool) := b_cascaderef04_Stands_1 Prims.real c_cascaderef04_Stands (p_cascaderef04_Stands_2 c_cascaderef04_Stands) (p_cascaderef04_Stands_5 c_cascaderef04_Stands) (p_cascaderef04_Stands_8 c_cascaderef04_Stands) v1_0 v1_1 v1_2 v1_3 v1_4 v5 v16 v18 o2_0 o2_1 o2_2 o2_3 o2_4 o4_0 o4_1 o4_2 o4_3_g o4_3 o4_4_g o4_4
theorem s_cascaderef04_Stands_1 (c_cascaderef04_Stands : S_api_Value → Option (S_api_Value × Bool)) (h_cascaderef04_Stands : (C_cascaderef04_Stands PC FC @XM E_api_Value E_api_Pair c_cascaderef04_Stands)) (m : Nat)    : H_cascaderef04_Stands_1 AT @XM List.length E_api_Value E_api_Pair m  (p_cascaderef04_Stands_1 c_cascaderef04_Stands) := by
  intro v1_0 v1_1 v1_2 v1_3 v1_4 v5 v16 v18 o2_0 o2_1 o2_2 o2_3 o2_4 o4_0 o4_1 o4_2 o4_3_g o4_3 o4_4_g o4_4 out hp stk 
  exact o_cascaderef04_Stands_1 LW rfl rfl HA HZ HF c_cascaderef04_Stands h_cascaderef04_Stands stk m (p_cascaderef04_Stands_2 c_cascaderef04_Stands) (p_cascaderef04_Stands_5 c_cascaderef04_Stands) (p_cascaderef04_Stands_8 c_cascaderef04_Stands) v1_0 v1_1 v1_2 v1_3 v1_4 v5 v16 v18 o2_0 o2_1 o2_2 o2_3 o2_4 o4_0 o4_1 o4_2 o4_3_g o4_3 o4_4_g o4_4 (s_cascaderef04_Stands_2 c_cascaderef04_Stands h_cascaderef04_Stands m ) (s_cascaderef04_Stands_5 c_cascaderef04_Stands h_cascaderef04_Stands m ) (s_cascaderef04_Stands_8 c_cascaderef04_Stands h_cascaderef04_Stands m ) hp
noncomputable def p_cascaderef04_Stands_0 (c_cascaderef04_Stands : S_api_Value → Option (S_api_Value × Bool)) (v0_0 v0_1 : Int) (v0_2 : Str) (v0_3 : Ls0) (v0_4 : Ls1) : Option (S_api_Value × Bool) := b_cascaderef04_Stands_0 Prims.real c_cascaderef04_Stands (p_cascaderef04_Stands_1 c_cascaderef04_Stands) v0_0 v0_1 v0_2 v0_3 v0_4
theorem s_cascaderef04_Stands_0 (c_cascaderef04_Stands : S_api_Value → Option (S_api_Value × Bool)) (h_cascaderef04_Stands : (C_cascaderef04_Stands PC FC @XM E_api_Value E_api_Pair c_cascaderef04_Stands)) (m : Nat)    : H_cascaderef04_Stands_0 AT @XM E_api_Value E_api_Pair m  (p_cascaderef04_Stands_0 c_cascaderef04_Stands) := by
  intro v0_0 v0_1 v0_2 v0_3 v0_4 out hp stk 
  exact o_cascaderef04_Stands_0 LW rfl rfl HA HZ HF c_cascaderef04_Stands h_cascaderef04_Stands stk m (p_cascaderef04_Stands_1 c_cascaderef04_Stands) v0_0 v0_1 v0_2 v0_3 v0_4 (s_cascaderef04_Stands_1 c_cascaderef04_Stands h_cascaderef04_Stands m ) hp
noncomputable def pk_cascaderef04_Stands : Nat → (S_api_Value → Option (S_api_Value × Bool))
  | 0 => fun _ => none
  | k + 1 => fun ⟨v0_0, v0_1, v0_2, v0_3, v0_4⟩ => p_cascaderef04_Stands_0 ((pk_cascaderef04_Stands k)) v0_0 v0_1 v0_2 v0_3 v0_4
theorem sk_cascaderef04_Stands : ∀ k, ((C_cascaderef04_Stands PC FC @XM E_api_Value E_api_Pair ((pk_cascaderef04_Stands k)))) ∧ True
  | 0 => by
    refine ⟨?_, trivial⟩
    · intro _ _ _ _ _ _ _ _ _ _ _ hp; exact nomatch (show none = some _ from hp)
  | k + 1 => by
    obtain ⟨ih0, _⟩ := sk_cascaderef04_Stands k
    refine ⟨?_, trivial⟩
    · intro _ _ _ _ _ _ _ _ _ _ _ hp stk    
      exact pf_of (T := table) (G := glob) (f := 64) rfl rfl (s_cascaderef04_Stands_0 ((pk_cascaderef04_Stands k)) ih0 (topN stk + 1)    hp stk )
noncomputable def p_cascaderef04_Stands : S_api_Value → Option (S_api_Value × Bool) := (pk_cascaderef04_Stands 1000000)
theorem s_cascaderef04_Stands : (C_cascaderef04_Stands PC FC @XM E_api_Value E_api_Pair p_cascaderef04_Stands) := (sk_cascaderef04_Stands 1000000).1
noncomputable def p_cascaderef01_Size_11  (v7 v8 : Int) : Option (Int × Int) := b_cascaderef01_Size_11 Prims.real   v7 v8
theorem s_cascaderef01_Size_11   (m : Nat)    : H_cascaderef01_Size_11 AT m  p_cascaderef01_Size_11 := by
  intro v7 v8 out hp stk 
  exact o_cascaderef01_Size_11 LW rfl rfl HA HZ HF stk m v7 v8 hp
noncomputable def p_cascaderef01_Size_6  (v0 : Str) (v1 v7 v8 v9 v10 : Int) : Option (Int × Int) := Prims.real.loop (fun (s : Str × Int × Int × Int × Int × Int) => match s with | (v0, v1, v7, v8, v9, v10) => b_cascaderef01_Size_6 Prims.real  p_cascaderef01_Size_11 v0 v1 v7 v8 v9 v10) (v0, v1, v7, v8, v9, v10)
theorem u_cascaderef01_Size_6  (v0 : Str) (v1 v7 v8 v9 v10 : Int) : p_cascaderef01_Size_6  v0 v1 v7 v8 v9 v10 = match b_cascaderef01_Size_6 Prims.real  p_cascaderef01_Size_11 v0 v1 v7 v8 v9 v10 with
    | some (.inl (v0', v1', v7', v8', v9', v10')) => p_cascaderef01_Size_6  v0' v1' v7' v8' v9' v10'
    | some (.inr r) => some r
    | none => none := by
  show Pr.loop _ _ = _
  rw [Pr.loop_eq]
  try dsimp only
  generalize b_cascaderef01_Size_6 Prims.real  p_cascaderef01_Size_11 v0 v1 v7 v8 v9 v10 = y
  cases y with
  | none => rfl
  | some y => cases y <;> rfl
theorem s_cascaderef01_Size_6   (m : Nat)    : H_cascaderef01_Size_6 AT m  p_cascaderef01_Size_6 := by
  intro v0 v1 v7 v8 v9 v10 out hp stk 
  refine LW.ind _ (fun (s : Str × Int × Int × Int × Int × Int) o => match s with | (v0, v1, v7, v8, v9, v10) => ∀ (stk : Stk), (A_cascaderef01_Size_6 AT m  v0 v1 v7 v8 v9 v10 stk) = (O_cascaderef01_Size  m  stk) o) (fun s r e => ?_) (fun s t r e ih => ?_) (v0, v1, v7, v8, v9, v10) out hp stk 
  · obtain ⟨v0, v1, v7, v8, v9, v10⟩ := s
    intro stk 
    exact o_cascaderef01_Size_6 LW rfl rfl HA HZ HF stk m p_cascaderef01_Size_11 v0 v1 v7 v8 v9 v10 (s_cascaderef01_Size_11 m ) e
  · obtain ⟨v0, v1, v7, v8, v9, v10⟩ := s; obtain ⟨v0', v1', v7', v8', v9', v10'⟩ := t
    intro stk 
    exact (o_cascaderef01_Size_6 LW rfl rfl HA HZ HF stk m p_cascaderef01_Size_11 v0 v1 v7 v8 v9 v10 (s_cascaderef01_Size_11 m ) e).trans (ih stk )
noncomputable def p_cascaderef01_Size_4  (v0 : Str) (v1 v7 v8 v9 : Int) : Option (Int × Int) := b_cascaderef01_Size_4 Prims.real  p_cascaderef01_Size_6 v0 v1 v7 v8 v9
theorem s_cascaderef01_Size_4   (m : Nat)    : H_cascaderef01_Size_4 AT m  p_cascaderef01_Size_4 := by
  intro v0 v1 v7 v8 v9 out hp stk 
  exact o_cascaderef01_Size_4 LW rfl rfl HA HZ HF stk m p_cascaderef01_Size_6 v0 v1 v7 v8 v9 (s_cascaderef01_Size_6 m ) hp
noncomputable def p_cascaderef01_Size_3  (v0 : Str) (v1 v6 v7 v8 v9 : Int) : Option (Int × Int) := b_cascaderef01_Size_3 Prims.real  p_cascaderef01_Size_4 v0 v1 v6 v7 v8 v9
theorem s_cascaderef01_Size_3   (m : Nat)    : H_cascaderef01_Size_3 AT m  p_cascaderef01_Size_3 := by
  intro v0 v1 v6 v7 v8 v9 out hp stk 
  exact o_cascaderef01_Size_3 LW rfl rfl HA HZ HF stk m p_cascaderef01_Size_4 v0 v1 v6 v7 v8 v9 (s_cascaderef01_Size_4 m ) hp
noncomputable def p_cascaderef01_Size_2  (v0 : Str) (v1 v6 v7 v8 v9 : Int) : Option (Int × Int) := b_cascaderef01_Size_2 Prims.real  p_cascaderef01_Size_3 v0 v1 v6 v7 v8 v9
theorem s_cascaderef01_Size_2   (m : Nat)    : H_cascaderef01_Size_2 AT m  p_cascaderef01_Size_2 := by
  intro v0 v1 v6 v7 v8 v9 out hp stk 
  exact o_cascaderef01_Size_2 LW rfl rfl HA HZ HF stk m p_cascaderef01_Size_3 v0 v1 v6 v7 v8 v9 (s_cascaderef01_Size_3 m ) hp
noncomputable def p_cascaderef01_Size_0  (v0 : Str) (v1 : Int) : Option (Int × Int) := b_cascaderef01_Size_0 Prims.real  p_cascaderef01_Size_2 v0 v1
theorem s_cascaderef01_Size_0   (m : Nat)    : H_cascaderef01_Size_0 AT m  p_cascaderef01_Size_0 := by
  intro v0 v1 out hp stk 
  exact o_cascaderef01_Size_0 LW rfl rfl HA HZ HF stk m p_cascaderef01_Size_2 v0 v1 (s_cascaderef01_Size_2 m ) hp
noncomputable def p_cascaderef01_Size : Str → Int → Option (Int × Int) := fun v0 v1 => p_cascaderef01_Size_0  v0 v1
theorem s_cascaderef01_Size : (C_cascaderef01_Size PC FC p_cascaderef01_Size) := by
  intro _ _ _ _ hp stk    
  exact pf_of (T := table) (G := glob) (f := 71) rfl rfl (s_cascaderef01_Size_0   (topN stk + 1)    hp stk )
noncomputable def p_cascaderef01_Bad_1  (v0 : Str) (v3 : Int) : Option (Int) := Prims.real.loop (fun (s : Str × Int) => match s with | (v0, v3) => b_cascaderef01_Bad_1 Prims.real p_cascaderef01_Size  v0 v3) (v0, v3)
theorem u_cascaderef01_Bad_1  (v0 : Str) (v3 : Int) : p_cascaderef01_Bad_1  v0 v3 = match b_cascaderef01_Bad_1 Prims.real p_cascaderef01_Size  v0 v3 with
    | some (.inl (v0', v3')) => p_cascaderef01_Bad_1  v0' v3'
    | some (.inr r) => some r
    | none => none := by
  show Pr.loop _ _ = _
  rw [Pr.loop_eq]
  try dsimp only
  generalize b_cascaderef01_Bad_1 Prims.real p_cascaderef01_Size  v0 v3 = y
  cases y with
  | none => rfl
  | some y => cases y <;> rfl
theorem s_cascaderef01_Bad_1   (m : Nat)    : H_cascaderef01_Bad_1 AT m  p_cascaderef01_Bad_1 := by
  intro v0 v3 out hp stk 
  refine LW.ind _ (fun (s : Str × Int) o => match s with | (v0, v3) => ∀ (stk : Stk), (A_cascaderef01_Bad_1 AT m  v0 v3 stk) = (O_cascaderef01_Bad  m  stk) o) (fun s r e => ?_) (fun s t r e ih => ?_) (v0, v3) out hp stk 
  · obtain ⟨v0, v3⟩ := s
    intro stk 
    exact o_cascaderef01_Bad_1 LW rfl rfl HA HZ HF p_cascaderef01_Size s_cascaderef01_Size stk m v0 v3 e
  · obtain ⟨v0, v3⟩ := s; obtain ⟨v0', v3'⟩ := t
    intro stk 
    exact (o_cascaderef01_Bad_1 LW rfl rfl HA HZ HF p_cascaderef01_Size s_cascaderef01_Size stk m v0 v3 e).trans (ih stk )
noncomputable def p_cascaderef01_Bad_0  (v0 : Str) : Option (Int) := b_cascaderef01_Bad_0 Prims.real p_cascaderef01_Size p_cascaderef01_Bad_1 v0
theorem s_cascaderef01_Bad_0   (m : Nat)    : H_cascaderef01_Bad_0 AT m  p_cascaderef01_Bad_0 := by
  intro v0 out hp stk 
  exact o_cascaderef01_Bad_0 LW rfl rfl HA HZ HF p_cascaderef01_Size s_cascaderef01_Size stk m p_cascaderef01_Bad_1 v0 (s_cascaderef01_Bad_1 m ) hp
noncomputable def p_cascaderef01_Bad : Str → Option (Int) := fun v0 => p_cascaderef01_Bad_0  v0
theorem s_cascaderef01_Bad : (C_cascaderef01_Bad PC FC p_cascaderef01_Bad) := by
  intro _ _ hp stk    
  exact pf_of (T := table) (G := glob) (f := 59) rfl rfl (s_cascaderef01_Bad_0   (topN stk + 1)    hp stk )
noncomputable def p_cascaderef01_Right_0  (v0 : Str) : Option (Bool) := b_cascaderef01_Right_0 Prims.real p_cascaderef01_Bad  v0
theorem s_cascaderef01_Right_0   (m : Nat)    : H_cascaderef01_Right_0 AT m  p_cascaderef01_Right_0 := by
  intro v0 out hp stk 
  exact o_cascaderef01_Right_0 LW rfl rfl HA HZ HF p_cascaderef01_Bad s_cascaderef01_Bad stk m v0 hp
noncomputable def p_cascaderef01_Right : Str → Option (Bool) := fun v0 => p_cascaderef01_Right_0  v0
theorem s_cascaderef01_Right : (C_cascaderef01_Right PC FC p_cascaderef01_Right) := by
  intro _ _ hp stk    
  exact pf_of (T := table) (G := glob) (f := 24) rfl rfl (s_cascaderef01_Right_0   (topN stk + 1)    hp stk )
noncomputable def p_cascaderef03_right_11 (c_cascaderef03_right : S_api_Value → Int → Option (Bool)) (v1 v2_0 v2_1 : Int) (v2_2 : Str) (v2_3 : Ls0) (v2_4 : Ls1) (v6 v7 : Int) : Option ((Int × Int × Int × Str × Ls0 × Ls1 × Int) ⊕ (Bool)) := Prims.real.loop (fun (s : Int × Int × Int × Str × Ls0 × Ls1 × Int × Int) => match s with | (v1, v2_0, v2_1, v2_2, v2_3, v2_4, v6, v7) => b_cascaderef03_right_11 Prims.real p_cascaderef01_Right c_cascaderef03_right  v1 v2_0 v2_1 v2_2 v2_3 v2_4 v6 v7) (v1, v2_0, v2_1, v2_2, v2_3, v2_4, v6, v7)
theorem u_cascaderef03_right_11 (c_cascaderef03_right : S_api_Value → Int → Option (Bool)) (v1 v2_0 v2_1 : Int) (v2_2 : Str) (v2_3 : Ls0) (v2_4 : Ls1) (v6 v7 : Int) : p_cascaderef03_right_11 c_cascaderef03_right v1 v2_0 v2_1 v2_2 v2_3 v2_4 v6 v7 = match b_cascaderef03_right_11 Prims.real p_cascaderef01_Right c_cascaderef03_right  v1 v2_0 v2_1 v2_2 v2_3 v2_4 v6 v7 with
    | some (.inl (v1', v2_0', v2_1', v2_2', v2_3', v2_4', v6', v7')) => p_cascaderef03_right_11 c_cascaderef03_right v1' v2_0' v2_1' v2_2' v2_3' v2_4' v6' v7'
    | some (.inr r) => some r
    | none => none := by
  show Pr.loop _ _ = _
  rw [Pr.loop_eq]
  try dsimp only
  generalize b_cascaderef03_right_11 Prims.real p_cascaderef01_Right c_cascaderef03_right  v1 v2_0 v2_1 v2_2 v2_3 v2_4 v6 v7 = y
  cases y with
  | none => rfl
  | some y => cases y <;> rfl
theorem s_cascaderef03_right_11 (c_cascaderef03_right : S_api_Value → Int → Option (Bool)) (h_cascaderef03_right : (C_cascaderef03_right PC FC @XM E_api_Value E_api_Pair c_cascaderef03_right)) (m : Nat)    : H_cascaderef03_right_11 AT @XM E_api_Value E_api_Pair m  (p_cascaderef03_right_11 c_cascaderef03_right) := by
  intro v1 v2_0 v2_1 v2_2 v2_3 v2_4 v6 v7 out hp stk 
  refine LW.ind _ (fun (s : Int × Int × Int × Str × Ls0 × Ls1 × Int × Int) o => match s with | (v1, v2_0, v2_1, v2_2, v2_3, v2_4, v6, v7) => ∀ (stk : Stk), (A_cascaderef03_right_11 AT @XM E_api_Value E_api_Pair m  v1 v2_0 v2_1 v2_2 v2_3 v2_4 v6 v7 stk) = (Sum.elim (fun (v1, v2_0, v2_1, v2_2, v2_3, v2_4, v6) => (A_cascaderef03_right_8 AT @XM E_api_Value E_api_Pair m  v1 v2_0 v2_1 v2_2 v2_3 v2_4 v6 stk)) (O_cascaderef03_right  m  stk)) o) (fun s r e => ?_) (fun s t r e ih => ?_) (v1, v2_0, v2_1, v2_2, v2_3, v2_4, v6, v7) out hp stk 
  · obtain ⟨v1, v2_0, v2_1, v2_2, v2_3, v2_4, v6, v7⟩ := s
    intro stk 
    exact o_cascaderef03_right_11 LW rfl rfl HA HZ HF p_cascaderef01_Right c_cascaderef03_right s_cascaderef01_Right h_cascaderef03_right stk m v1 v2_0 v2_1 v2_2 v2_3 v2_4 v6 v7 e
  · obtain ⟨v1, v2_0, v2_1, v2_2, v2_3, v2_4, v6, v7⟩ := s; obtain ⟨v1', v2_0', v2_1', v2_2', v2_3', v2_4', v6', v7'⟩ := t
    intro stk 
    exact (o_cascaderef03_right_11 LW rfl rfl HA HZ HF p_cascaderef01_Right c_cascaderef03_right s_cascaderef01_Right h_cascaderef03_right stk m v1 v2_0 v2_1 v2_2 v2_3 v2_4 v6 v7 e).trans (ih stk )
noncomputable def p_cascaderef03_right_8 (c_cascaderef03_right : S_api_Value → Int → Option (Bool)) (v1 v2_0 v2_1 : Int) (v2_2 : Str) (v2_3 : Ls0) (v2_4 : Ls1) (v6 : Int) : Option (Bool) := Prims.real.loop (fun (s : Int × Int × Int × Str × Ls0 × Ls1 × Int) => match s with | (v1, v2_0, v2_1, v2_2, v2_3, v2_4, v6) => b_cascaderef03_right_8 Prims.real p_cascaderef01_Right c_cascaderef03_right (p_cascaderef03_right_11 c_cascaderef03_right) v1 v2_0 v2_1 v2_2 v2_3 v2_4 v6) (v1, v2_0, v2_1, v2_2, v2_3, v2_4, v6)
theorem u_cascaderef03_right_8 (c_cascaderef03_right : S_api_Value → Int → Option (Bool)) (v1 v2_0 v2_1 : Int) (v2_2 : Str) (v2_3 : Ls0) (v2_4 : Ls1) (v6 : Int) : p_cascaderef03_right_8 c_cascaderef03_right v1 v2_0 v2_1 v2_2 v2_3 v2_4 v6 = match b_cascaderef03_right_8 Prims.real p_cascaderef01_Right c_cascaderef03_right (p_cascaderef03_right_11 c_cascaderef03_right) v1 v2_0 v2_1 v2_2 v2_3 v2_4 v6 with
    | some (.inl (v1', v2_0', v2_1', v2_2', v2_3', v2_4', v6')) => p_cascaderef03_right_8 c_cascaderef03_right v1' v2_0' v2_1' v2_2' v2_3' v2_4' v6'
    | some (.inr r) => some r
    | none => none := by
  show Pr.loop _ _ = _
  rw [Pr.loop_eq]
  try dsimp only
  generalize b_cascaderef03_right_8 Prims.real p_cascaderef01_Right c_cascaderef03_right (p_cascaderef03_right_11 c_cascaderef03_right) v1 v2_0 v2_1 v2_2 v2_3 v2_4 v6 = y
  cases y with
  | none => rfl
  | some y => cases y <;> rfl
theorem s_cascaderef03_right_8 (c_cascaderef03_right : S_api_Value → Int → Option (Bool)) (h_cascaderef03_right : (C_cascaderef03_right PC FC @XM E_api_Value E_api_Pair c_cascaderef03_right)) (m : Nat)    : H_cascaderef03_right_8 AT @XM E_api_Value E_api_Pair m  (p_cascaderef03_right_8 c_cascaderef03_right) := by
  intro v1 v2_0 v2_1 v2_2 v2_3 v2_4 v6 out hp stk 
  refine LW.ind _ (fun (s : Int × Int × Int × Str × Ls0 × Ls1 × Int) o => match s with | (v1, v2_0, v2_1, v2_2, v2_3, v2_4, v6) => ∀ (stk : Stk), (A_cascaderef03_right_8 AT @XM E_api_Value E_api_Pair m  v1 v2_0 v2_1 v2_2 v2_3 v2_4 v6 stk) = (O_cascaderef03_right  m  stk) o) (fun s r e => ?_) (fun s t r e ih => ?_) (v1, v2_0, v2_1, v2_2, v2_3, v2_4, v6) out hp stk 
  · obtain ⟨v1, v2_0, v2_1, v2_2, v2_3, v2_4, v6⟩ := s
    intro stk 
    exact o_cascaderef03_right_8 LW rfl rfl HA HZ HF p_cascaderef01_Right c_cascaderef03_right s_cascaderef01_Right h_cascaderef03_right stk m (p_cascaderef03_right_11 c_cascaderef03_right) v1 v2_0 v2_1 v2_2 v2_3 v2_4 v6 (s_cascaderef03_right_11 c_cascaderef03_right h_cascaderef03_right m ) e
  · obtain ⟨v1, v2_0, v2_1, v2_2, v2_3, v2_4, v6⟩ := s; obtain ⟨v1', v2_0', v2_1', v2_2', v2_3', v2_4', v6'⟩ := t
    intro stk 
    exact (o_cascaderef03_right_8 LW rfl rfl HA HZ HF p_cascaderef01_Right c_cascaderef03_right s_cascaderef01_Right h_cascaderef03_right stk m (p_cascaderef03_right_11 c_cascaderef03_right) v1 v2_0 v2_1 v2_2 v2_3 v2_4 v6 (s_cascaderef03_right_11 c_cascaderef03_right h_cascaderef03_right m ) e).trans (ih stk )
noncomputable def p_cascaderef03_right_4 (c_cascaderef03_right : S_api_Value → Int → Option (Bool)) (v1 v2_0 v2_1 : Int) (v2_2 : Str) (v2_3 : Ls0) (v2_4 : Ls1) (v5 : Int) : Option (Bool) := Prims.real.loop (fun (s : Int × Int × Int × Str × Ls0 × Ls1 × Int) => match s with | (v1, v2_0, v2_1, v2_2, v2_3, v2_4, v5) => b_cascaderef03_right_4 Prims.real p_cascaderef01_Right c_cascaderef03_right (p_cascaderef03_right_8 c_cascaderef03_right) v1 v2_0 v2_1 v2_2 v2_3 v2_4 v5) (v1, v2_0, v2_1, v2_2, v2_3, v2_4, v5)
theorem u_cascaderef03_right_4 (c_cascaderef03_right : S_api_Value → Int → Option (Bool)) (v1 v2_0 v2_1 : Int) (v2_2 : Str) (v2_3 : Ls0) (v2_4 : Ls1) (v5 : Int) : p_cascaderef03_right_4 c_cascaderef03_right v1 v2_0 v2_1 v2_2 v2_3 v2_4 v5 = match b_cascaderef03_right_4 Prims.real p_cascaderef01_Right c_cascaderef03_right (p_cascaderef03_right_8 c_cascaderef03_right) v1 v2_0 v2_1 v2_2 v2_3 v2_4 v5 with
    | some (.inl (v1', v2_0', v2_1', v2_2', v2_3', v2_4', v5')) => p_cascaderef03_right_4 c_cascaderef03_right v1' v2_0' v2_1' v2_2' v2_3' v2_4' v5'
    | some (.inr r) => some r
    | none => none := by
  show Pr.loop _ _ = _
  rw [Pr.loop_eq]
  try dsimp only
  generalize b_cascaderef03_right_4 Prims.real p_cascaderef01_Right c_cascaderef03_right (p_cascaderef03_right_8 c_cascaderef03_right) v1 v2_0 v2_1 v2_2 v2_3 v2_4 v5 = y
  cases y with
  | none => rfl
  | some y => cases y <;> rfl
theorem s_cascaderef03_right_4 (c_cascaderef03_right : S_api_Value → Int → Option (Bool)) (h_cascaderef03_right : (C_cascaderef03_right PC FC @XM E_api_Value E_api_Pair c_cascaderef03_right)) (m : Nat)    : H_cascaderef03_right_4 AT @XM E_api_Value E_api_Pair m  (p_cascaderef03_right_4 c_cascaderef03_right) := by
  intro v1 v2_0 v2_1 v2_2 v2_3 v2_4 v5 out hp stk 
  refine LW.ind _ (fun (s : Int × Int × Int × Str × Ls0 × Ls1 × Int) o => match s with | (v1, v2_0, v2_1, v2_2, v2_3, v2_4, v5) => ∀ (stk : Stk), (A_cascaderef03_right_4 AT @XM E_api_Value E_api_Pair m  v1 v2_0 v2_1 v2_2 v2_3 v2_4 v5 stk) = (O_cascaderef03_right  m  stk) o) (fun s r e => ?_) (fun s t r e ih => ?_) (v1, v2_0, v2_1, v2_2, v2_3, v2_4, v5) out hp stk 
  · obtain ⟨v1, v2_0, v2_1, v2_2, v2_3, v2_4, v5⟩ := s
    intro stk 
    exact o_cascaderef03_right_4 LW rfl rfl HA HZ HF p_cascaderef01_Right c_cascaderef03_right s_cascaderef01_Right h_cascaderef03_right stk m (p_cascaderef03_right_8 c_cascaderef03_right) v1 v2_0 v2_1 v2_2 v2_3 v2_4 v5 (s_cascaderef03_right_8 c_cascaderef03_right h_cascaderef03_right m ) e
  · obtain ⟨v1, v2_0, v2_1, v2_2, v2_3, v2_4, v5⟩ := s; obtain ⟨v1', v2_0', v2_1', v2_2', v2_3', v2_4', v5'⟩ := t
    intro stk 
    exact (o_cascaderef03_right_4 LW rfl rfl HA HZ HF p_cascaderef01_Right c_cascaderef03_right s_cascaderef01_Right h_cascaderef03_right stk m (p_cascaderef03_right_8 c_cascaderef03_right) v1 v2_0 v2_1 v2_2 v2_3 v2_4 v5 (s_cascaderef03_right_8 c_cascaderef03_right h_cascaderef03_right m ) e).trans (ih stk )
noncomputable def p_cascaderef03_right_3 (c_cascaderef03_right : S_api_Value → Int → Option (Bool)) (v1 v2_0 v2_1 : Int) (v2_2 : Str) (v2_3 : Ls0) (v2_4 : Ls1) : Option (Bool) := b_cascaderef03_right_3 Prims.real p_cascaderef01_Right c_cascaderef03_right (p_cascaderef03_right_4 c_cascaderef03_right) v1 v2_0 v2_1 v2_2 v2_3 v2_4
theorem s_cascaderef03_right_3 (c_cascaderef03_right : S_api_Value → Int → Option (Bool)) (h_cascaderef03_right : (C_cascaderef03_right PC FC @XM E_api_Value E_api_Pair c_cascaderef03_right)) (m : Nat)    : H_cascaderef03_right_3 AT @XM E_api_Value E_api_Pair m  (p_cascaderef03_right_3 c_cascaderef03_right) := by
  intro v1 v2_0 v2_1 v2_2 v2_3 v2_4 out hp stk 
  exact o_cascaderef03_right_3 LW rfl rfl HA HZ HF p_cascaderef01_Right c_cascaderef03_right s_cascaderef01_Right h_cascaderef03_right stk m (p_cascaderef03_right_4 c_cascaderef03_right) v1 v2_0 v2_1 v2_2 v2_3 v2_4 (s_cascaderef03_right_4 c_cascaderef03_right h_cascaderef03_right m ) hp
noncomputable def p_cascaderef03_right_2 (c_cascaderef03_right : S_api_Value → Int → Option (Bool)) (v1 v2_0 v2_1 : Int) (v2_2 : Str) (v2_3 : Ls0) (v2_4 : Ls1) : Option (Bool) := b_cascaderef03_right_2 Prims.real p_cascaderef01_Right c_cascaderef03_right (p_cascaderef03_right_3 c_cascaderef03_right) v1 v2_0 v2_1 v2_2 v2_3 v2_4
theorem s_cascaderef03_right_2 (c_cascaderef03_right : S_api_Value → Int → Option (Bool)) (h_cascaderef03_right : (C_cascaderef03_right PC FC @XM E_api_Value E_api_Pair c_cascaderef03_right)) (m : Nat)    : H_cascaderef03_right_2 AT @XM E_api_Value E_api_Pair m  (p_cascaderef03_right_2 c_cascaderef03_right) := by
  intro v1 v2_0 v2_1 v2_2 v2_3 v2_4 out hp stk 
  exact o_cascaderef03_right_2 LW rfl rfl HA HZ HF p_cascaderef01_Right c_cascaderef03_right s_cascaderef01_Right h_cascaderef03_right stk m (p_cascaderef03_right_3 c_cascaderef03_right) v1 v2_0 v2_1 v2_2 v2_3 v2_4 (s_cascaderef03_right_3 c_cascaderef03_right h_cascaderef03_right m ) hp
noncomputable def p_cascaderef03_right_0 (c_cascaderef03_right : S_api_Value → Int → Option (Bool)) (v0_0 v0_1 : Int) (v0_2 : Str) (v0_3 : Ls0) (v0_4 : Ls1) (v1 : Int) : Option (Bool) := b_cascaderef03_right_0 Prims.real p_cascaderef01_Right c_cascaderef03_right (p_cascaderef03_right_2 c_cascaderef03_right) v0_0 v0_1 v0_2 v0_3 v0_4 v1
theorem s_cascaderef03_right_0 (c_cascaderef03_right : S_api_Value → Int → Option (Bool)) (h_cascaderef03_right : (C_cascaderef03_right PC FC @XM E_api_Value E_api_Pair c_cascaderef03_right)) (m : Nat)    : H_cascaderef03_right_0 AT @XM E_api_Value E_api_Pair m  (p_cascaderef03_right_0 c_cascaderef03_right) := by
  intro v0_0 v0_1 v0_2 v0_3 v0_4 v1 out hp stk 
  exact o_cascaderef03_right_0 LW rfl rfl HA HZ HF p_cascaderef01_Right c_cascaderef03_right s_cascaderef01_Right h_cascaderef03_right stk m (p_cascaderef03_right_2 c_cascaderef03_right) v0_0 v0_1 v0_2 v0_3 v0_4 v1 (s_cascaderef03_right_2 c_cascaderef03_right h_cascaderef03_right m ) hp
noncomputable def pk_cascaderef03_right : Nat → (S_api_Value → Int → Option (Bool))
  | 0 => fun _ _ => none
  | k + 1 => fun ⟨v0_0, v0_1, v0_2, v0_3, v0_4⟩ v1 => p_cascaderef03_right_0 ((pk_cascaderef03_right k)) v0_0 v0_1 v0_2 v0_3 v0_4 v1
theorem sk_cascaderef03_right : ∀ k, ((C_cascaderef03_right PC FC @XM E_api_Value E_api_Pair ((pk_cascaderef03_right k)))) ∧ True
  | 0 => by
    refine ⟨?_, trivial⟩
    · intro _ _ _ _ _ _ _ hp; exact nomatch (show none = some _ from hp)
  | k + 1 => by
    obtain ⟨ih0, _⟩ := sk_cascaderef03_right k
    refine ⟨?_, trivial⟩
    · intro _ _ _ _ _ _ _ hp stk    
      exact pf_of (T := table) (G := glob) (f := 44) rfl rfl (s_cascaderef03_right_0 ((pk_cascaderef03_right k)) ih0 (topN stk + 1)    hp stk )
noncomputable def p_cascaderef03_right : S_api_Value → Int → Option (Bool) := (pk_cascaderef03_right 1000000)
theorem s_cascaderef03_right : (C_cascaderef03_right PC FC @XM E_api_Value E_api_Pair p_cascaderef03_right) := (sk_cascaderef03_right 1000000).1
noncomputable def p_cascaderef03_Right_0  (v0_0 v0_1 : Int) (v0_2 : Str) (v0_3 : Ls0) (v0_4 : Ls1) : Option (Bool) := b_cascaderef03_Right_0 Prims.real p_cascaderef03_right  v0_0 v0_1 v0_2 v0_3 v0_4
theorem s_cascaderef03_Right_0   (m : Nat)    : H_cascaderef03_Right_0 AT @XM E_api_Value E_api_Pair m  p_cascaderef03_Right_0 := by
  intro v0_0 v0_1 v0_2 v0_3 v0_4 out hp stk 
  exact o_cascaderef03_Right_0 LW rfl rfl HA HZ HF p_cascaderef03_right s_cascaderef03_right stk m v0_0 v0_1 v0_2 v0_3 v0_4 hp
noncomputable def p_cascaderef03_Right : S_api_Value → Option (Bool) := fun ⟨v0_0, v0_1, v0_2, v0_3, v0_4⟩ => p_cascaderef03_Right_0  v0_0 v0_1 v0_2 v0_3 v0_4
theorem s_cascaderef03_Right : (C_cascaderef03_Right PC FC @XM E_api_Value E_api_Pair p_cascaderef03_Right) := by
  intro _ _ _ _ _ _ hp stk    
  exact pf_of (T := table) (G := glob) (f := 14) rfl rfl (s_cascaderef03_Right_0   (topN stk + 1)    hp stk )
noncomputable def p_cascaderef04_From_0  (v0_0 v0_1 : Int) (v0_2 : Str) (v0_3 : Ls0) (v0_4 : Ls1) : Option (S_api_Value × Int) := b_cascaderef04_From_0 Prims.real p_cascaderef04_Stands p_cascaderef03_Right  v0_0 v0_1 v0_2 v0_3 v0_4
theorem s_cascaderef04_From_0   (m : Nat)    : H_cascaderef04_From_0 AT @XM E_api_Value E_api_Pair m  p_cascaderef04_From_0 := by
  intro v0_0 v0_1 v0_2 v0_3 v0_4 out hp stk 
  exact o_cascaderef04_From_0 LW rfl rfl HA HZ HF p_cascaderef04_Stands p_cascaderef03_Right s_cascaderef04_Stands s_cascaderef03_Right stk m v0_0 v0_1 v0_2 v0_3 v0_4 hp
noncomputable def p_cascaderef04_From : S_api_Value → Option (S_api_Value × Int) := fun ⟨v0_0, v0_1, v0_2, v0_3, v0_4⟩ => p_cascaderef04_From_0  v0_0 v0_1 v0_2 v0_3 v0_4
theorem s_cascaderef04_From : (C_cascaderef04_From PC FC @XM E_api_Value E_api_Pair p_cascaderef04_From) := by
  intro _ _ _ _ _ _ _ _ _ _ _ hp stk    
  exact pf_of (T := table) (G := glob) (f := 32) rfl rfl (s_cascaderef04_From_0   (topN stk + 1)    hp stk )
noncomputable def p_cascaderef03_Same_6 (c_cascaderef03_Same : S_api_Value → S_api_Value → Option (Bool)) (v2_0 v2_1 : Int) (v2_2 : Str) (v2_3 : Ls0) (v2_4 : Ls1) (v3_0 v3_1 : Int) (v3_2 : Str) (v3_3 : Ls0) (v3_4 : Ls1) (v6 : Int) : Option (Bool) := Prims.real.loop (fun (s : Int × Int × Str × Ls0 × Ls1 × Int × Int × Str × Ls0 × Ls1 × Int) => match s with | (v2_0, v2_1, v2_2, v2_3, v2_4, v3_0, v3_1, v3_2, v3_3, v3_4, v6) => b_cascaderef03_Same_6 Prims.real c_cascaderef03_Same  v2_0 v2_1 v2_2 v2_3 v2_4 v3_0 v3_1 v3_2 v3_3 v3_4 v6) (v2_0, v2_1, v2_2, v2_3, v2_4, v3_0, v3_1, v3_2, v3_3, v3_4, v6)
theorem u_cascaderef03_Same_6 (c_cascaderef03_Same : S_api_Value → S_api_Value → Option (Bool)) (v2_0 v2_1 : Int) (v2_2 : Str) (v2_3 : Ls0) (v2_4 : Ls1) (v3_0 v3_1 : Int) (v3_2 : Str) (v3_3 : Ls0) (v3_4 : Ls1) (v6 : Int) : p_cascaderef03_Same_6 c_cascaderef03_Same v2_0 v2_1 v2_2 v2_3 v2_4 v3_0 v3_1 v3_2 v3_3 v3_4 v6 = match b_cascaderef03_Same_6 Prims.real c_cascaderef03_Same  v2_0 v2_1 v2_2 v2_3 v2_4 v3_0 v3_1 v3_2 v3_3 v3_4 v6 with
    | some (.inl (v2_0', v2_1', v2_2', v2_3', v2_4', v3_0', v3_1', v3_2', v3_3', v3_4', v6')) => p_cascaderef03_Same_6 c_cascaderef03_Same v2_0' v2_1' v2_2' v2_3' v2_4' v3_0' v3_1' v3_2' v3_3' v3_4' v6'
    | some (.inr r) => some r
    | none => none := by
  show Pr.loop _ _ = _
  rw [Pr.loop_eq]
  try dsimp only
  generalize b_cascaderef03_Same_6 Prims.real c_cascaderef03_Same  v2_0 v2_1 v2_2 v2_3 v2_4 v3_0 v3_1 v3_2 v3_3 v3_4 v6 = y
  cases y with
  | none => rfl
  | some y => cases y <;> rfl
theorem s_cascaderef03_Same_6 (c_cascaderef03_Same : S_api_Value → S_api_Value → Option (Bool)) (h_cascaderef03_Same : (C_cascaderef03_Same PC FC @XM E_api_Value E_api_Pair c_cascaderef03_Same)) (m : Nat)    : H_cascaderef03_Same_6 AT @XM E_api_Value E_api_Pair m  (p_cascaderef03_Same_6 c_cascaderef03_Same) := by
  intro v2_0 v2_1 v2_2 v2_3 v2_4 v3_0 v3_1 v3_2 v3_3 v3_4 v6 out hp stk 
  refine LW.ind _ (fun (s : Int × Int × Str × Ls0 × Ls1 × Int × Int × Str × Ls0 × Ls1 × Int) o => match s with | (v2_0, v2_1, v2_2, v2_3, v2_4, v3_0, v3_1, v3_2, v3_3, v3_4, v6) => ∀ (stk : Stk), (A_cascaderef03_Same_6 AT @XM E_api_Value E_api_Pair m  v2_0 v2_1 v2_2 v2_3 v2_4 v3_0 v3_1 v3_2 v3_3 v3_4 v6 stk) = (O_cascaderef03_Same  m  stk) o) (fun s r e => ?_) (fun s t r e ih => ?_) (v2_0, v2_1, v2_2, v2_3, v2_4, v3_0, v3_1, v3_2, v3_3, v3_4, v6) out hp stk 
  · obtain ⟨v2_0, v2_1, v2_2, v2_3, v2_4, v3_0, v3_1, v3_2, v3_3, v3_4, v6⟩ := s
    intro stk 
    exact o_cascaderef03_Same_6 LW rfl rfl HA HZ HF c_cascaderef03_Same h_cascaderef03_Same stk m v2_0 v2_1 v2_2 v2_3 v2_4 v3_0 v3_1 v3_2 v3_3 v3_4 v6 e
  · obtain ⟨v2_0, v2_1, v2_2, v2_3, v2_4, v3_0, v3_1, v3_2, v3_3, v3_4, v6⟩ := s; obtain ⟨v2_0', v2_1', v2_2', v2_3', v2_4', v3_0', v3_1', v3_2', v3_3', v3_4', v6'⟩ := t
    intro stk 
    exact (o_cascaderef03_Same_6 LW rfl rfl HA HZ HF c_cascaderef03_Same h_cascaderef03_Same stk m v2_0 v2_1 v2_2 v2_3 v2_4 v3_0 v3_1 v3_2 v3_3 v3_4 v6 e).trans (ih stk )
noncomputable def p_cascaderef03_Same_2 (c_cascaderef03_Same : S_api_Value → S_api_Value → Option (Bool)) (v2_0 v2_1 : Int) (v2_2 : Str) (v2_3 : Ls0) (v2_4 : Ls1) (v3_0 v3_1 : Int) (v3_2 : Str) (v3_3 : Ls0) (v3_4 : Ls1) (v5 : Int) : Option (Bool) := Prims.real.loop (fun (s : Int × Int × Str × Ls0 × Ls1 × Int × Int × Str × Ls0 × Ls1 × Int) => match s with | (v2_0, v2_1, v2_2, v2_3, v2_4, v3_0, v3_1, v3_2, v3_3, v3_4, v5) => b_cascaderef03_Same_2 Prims.real c_cascaderef03_Same (p_cascaderef03_Same_6 c_cascaderef03_Same) v2_0 v2_1 v2_2 v2_3 v2_4 v3_0 v3_1 v3_2 v3_3 v3_4 v5) (v2_0, v2_1, v2_2, v2_3, v2_4, v3_0, v3_1, v3_2, v3_3, v3_4, v5)
theorem u_cascaderef03_Same_2 (c_cascaderef03_Same : S_api_Value → S_api_Value → Option (Bool)) (v2_0 v2_1 : Int) (v2_2 : Str) (v2_3 : Ls0) (v2_4 : Ls1) (v3_0 v3_1 : Int) (v3_2 : Str) (v3_3 : Ls0) (v3_4 : Ls1) (v5 : Int) : p_cascaderef03_Same_2 c_cascaderef03_Same v2_0 v2_1 v2_2 v2_3 v2_4 v3_0 v3_1 v3_2 v3_3 v3_4 v5 = match b_cascaderef03_Same_2 Prims.real c_cascaderef03_Same (p_cascaderef03_Same_6 c_cascaderef03_Same) v2_0 v2_1 v2_2 v2_3 v2_4 v3_0 v3_1 v3_2 v3_3 v3_4 v5 with
    | some (.inl (v2_0', v2_1', v2_2', v2_3', v2_4', v3_0', v3_1', v3_2', v3_3', v3_4', v5')) => p_cascaderef03_Same_2 c_cascaderef03_Same v2_0' v2_1' v2_2' v2_3' v2_4' v3_0' v3_1' v3_2' v3_3' v3_4' v5'
    | some (.inr r) => some r
    | none => none := by
  show Pr.loop _ _ = _
  rw [Pr.loop_eq]
  try dsimp only
  generalize b_cascaderef03_Same_2 Prims.real c_cascaderef03_Same (p_cascaderef03_Same_6 c_cascaderef03_Same) v2_0 v2_1 v2_2 v2_3 v2_4 v3_0 v3_1 v3_2 v3_3 v3_4 v5 = y
  cases y with
  | none => rfl
  | some y => cases y <;> rfl
theorem s_cascaderef03_Same_2 (c_cascaderef03_Same : S_api_Value → S_api_Value → Option (Bool)) (h_cascaderef03_Same : (C_cascaderef03_Same PC FC @XM E_api_Value E_api_Pair c_cascaderef03_Same)) (m : Nat)    : H_cascaderef03_Same_2 AT @XM E_api_Value E_api_Pair m  (p_cascaderef03_Same_2 c_cascaderef03_Same) := by
  intro v2_0 v2_1 v2_2 v2_3 v2_4 v3_0 v3_1 v3_2 v3_3 v3_4 v5 out hp stk 
  refine LW.ind _ (fun (s : Int × Int × Str × Ls0 × Ls1 × Int × Int × Str × Ls0 × Ls1 × Int) o => match s with | (v2_0, v2_1, v2_2, v2_3, v2_4, v3_0, v3_1, v3_2, v3_3, v3_4, v5) => ∀ (stk : Stk), (A_cascaderef03_Same_2 AT @XM E_api_Value E_api_Pair m  v2_0 v2_1 v2_2 v2_3 v2_4 v3_0 v3_1 v3_2 v3_3 v3_4 v5 stk) = (O_cascaderef03_Same  m  stk) o) (fun s r e => ?_) (fun s t r e ih => ?_) (v2_0, v2_1, v2_2, v2_3, v2_4, v3_0, v3_1, v3_2, v3_3, v3_4, v5) out hp stk 
  · obtain ⟨v2_0, v2_1, v2_2, v2_3, v2_4, v3_0, v3_1, v3_2, v3_3, v3_4, v5⟩ := s
    intro stk 
    exact o_cascaderef03_Same_2 LW rfl rfl HA HZ HF c_cascaderef03_Same h_cascaderef03_Same stk m (p_cascaderef03_Same_6 c_cascaderef03_Same) v2_0 v2_1 v2_2 v2_3 v2_4 v3_0 v3_1 v3_2 v3_3 v3_4 v5 (s_cascaderef03_Same_6 c_cascaderef03_Same h_cascaderef03_Same m ) e
  · obtain ⟨v2_0, v2_1, v2_2, v2_3, v2_4, v3_0, v3_1, v3_2, v3_3, v3_4, v5⟩ := s; obtain ⟨v2_0', v2_1', v2_2', v2_3', v2_4', v3_0', v3_1', v3_2', v3_3', v3_4', v5'⟩ := t
    intro stk 
    exact (o_cascaderef03_Same_2 LW rfl rfl HA HZ HF c_cascaderef03_Same h_cascaderef03_Same stk m (p_cascaderef03_Same_6 c_cascaderef03_Same) v2_0 v2_1 v2_2 v2_3 v2_4 v3_0 v3_1 v3_2 v3_3 v3_4 v5 (s_cascaderef03_Same_6 c_cascaderef03_Same h_cascaderef03_Same m ) e).trans (ih stk )
noncomputable def p_cascaderef03_Same_0 (c_cascaderef03_Same : S_api_Value → S_api_Value → Option (Bool)) (v0_0 v0_1 : Int) (v0_2 : Str) (v0_3 : Ls0) (v0_4 : Ls1) (v1_0 v1_1 : Int) (v1_2 : Str) (v1_3 : Ls0) (v1_4 : Ls1) : Option (Bool) := b_cascaderef03_Same_0 Prims.real c_cascaderef03_Same (p_cascaderef03_Same_2 c_cascaderef03_Same) v0_0 v0_1 v0_2 v0_3 v0_4 v1_0 v1_1 v1_2 v1_3 v1_4
theorem s_cascaderef03_Same_0 (c_cascaderef03_Same : S_api_Value → S_api_Value → Option (Bool)) (h_cascaderef03_Same : (C_cascaderef03_Same PC FC @XM E_api_Value E_api_Pair c_cascaderef03_Same)) (m : Nat)    : H_cascaderef03_Same_0 AT @XM E_api_Value E_api_Pair m  (p_cascaderef03_Same_0 c_cascaderef03_Same) := by
  intro v0_0 v0_1 v0_2 v0_3 v0_4 v1_0 v1_1 v1_2 v1_3 v1_4 out hp stk 
  exact o_cascaderef03_Same_0 LW rfl rfl HA HZ HF c_cascaderef03_Same h_cascaderef03_Same stk m (p_cascaderef03_Same_2 c_cascaderef03_Same) v0_0 v0_1 v0_2 v0_3 v0_4 v1_0 v1_1 v1_2 v1_3 v1_4 (s_cascaderef03_Same_2 c_cascaderef03_Same h_cascaderef03_Same m ) hp
noncomputable def pk_cascaderef03_Same : Nat → (S_api_Value → S_api_Value → Option (Bool))
  | 0 => fun _ _ => none
  | k + 1 => fun ⟨v0_0, v0_1, v0_2, v0_3, v0_4⟩ ⟨v1_0, v1_1, v1_2, v1_3, v1_4⟩ => p_cascaderef03_Same_0 ((pk_cascaderef03_Same k)) v0_0 v0_1 v0_2 v0_3 v0_4 v1_0 v1_1 v1_2 v1_3 v1_4
theorem sk_cascaderef03_Same : ∀ k, ((C_cascaderef03_Same PC FC @XM E_api_Value E_api_Pair ((pk_cascaderef03_Same k)))) ∧ True
  | 0 => by
    refine ⟨?_, trivial⟩
    · intro _ _ _ _ _ _ _ _ _ _ _ hp; exact nomatch (show none = some _ from hp)
  | k + 1 => by
    obtain ⟨ih0, _⟩ := sk_cascaderef03_Same k
    refine ⟨?_, trivial⟩
    · intro _ _ _ _ _ _ _ _ _ _ _ hp stk    
      exact pf_of (T := table) (G := glob) (f := 19) rfl rfl (s_cascaderef03_Same_0 ((pk_cascaderef03_Same k)) ih0 (topN stk + 1)    hp stk )
noncomputable def p_cascaderef03_Same : S_api_Value → S_api_Value → Option (Bool) := (pk_cascaderef03_Same 1000000)
theorem s_cascaderef03_Same : (C_cascaderef03_Same PC FC @XM E_api_Value E_api_Pair p_cascaderef03_Same) := (sk_cascaderef03_Same 1000000).1
noncomputable def p_cascaderef04_Kind_0  (v0_0 v0_1 : Int) (v0_2 : Str) (v0_3 : Ls0) (v0_4 : Ls1) : Option (Int) := b_cascaderef04_Kind_0 Prims.real p_cascaderef04_Stands  v0_0 v0_1 v0_2 v0_3 v0_4
theorem s_cascaderef04_Kind_0   (m : Nat)    : H_cascaderef04_Kind_0 AT @XM E_api_Value E_api_Pair m  p_cascaderef04_Kind_0 := by
  intro v0_0 v0_1 v0_2 v0_3 v0_4 out hp stk 
  exact o_cascaderef04_Kind_0 LW rfl rfl HA HZ HF p_cascaderef04_Stands s_cascaderef04_Stands stk m v0_0 v0_1 v0_2 v0_3 v0_4 hp
noncomputable def p_cascaderef04_Kind : S_api_Value → Option (Int) := fun ⟨v0_0, v0_1, v0_2, v0_3, v0_4⟩ => p_cascaderef04_Kind_0  v0_0 v0_1 v0_2 v0_3 v0_4
theorem s_cascaderef04_Kind : (C_cascaderef04_Kind PC FC @XM E_api_Value E_api_Pair p_cascaderef04_Kind) := by
  intro _ _ _ _ _ _ hp stk    
  exact pf_of (T := table) (G := glob) (f := 34) rfl rfl (s_cascaderef04_Kind_0   (topN stk + 1)    hp stk )
noncomputable def p_cascadelaw04_DynFrom_0  (v0_0 v0_1 : Int) (v0_2 : Str) (v0_3 : Ls0) (v0_4 : Ls1) : Option (Bool) := b_cascadelaw04_DynFrom_0 Prims.real p_cascadelaw04_awake p_cascaderef03_Few p_dyn_Odd p_dyn_From p_cascaderef04_From p_cascaderef03_Same p_dyn_Kind p_cascaderef04_Kind  v0_0 v0_1 v0_2 v0_3 v0_4
theorem s_cascadelaw04_DynFrom_0   (m : Nat)    : H_cascadelaw04_DynFrom_0 AT @XM E_api_Value E_api_Pair m  p_cascadelaw04_DynFrom_0 := by
  intro v0_0 v0_1 v0_2 v0_3 v0_4 out hp stk 
  exact o_cascadelaw04_DynFrom_0 LW rfl rfl HA HZ HF p_cascadelaw04_awake p_cascaderef03_Few p_dyn_Odd p_dyn_From p_cascaderef04_From p_cascaderef03_Same p_dyn_Kind p_cascaderef04_Kind s_cascadelaw04_awake s_cascaderef03_Few s_dyn_Odd s_dyn_From s_cascaderef04_From s_cascaderef03_Same s_dyn_Kind s_cascaderef04_Kind stk m v0_0 v0_1 v0_2 v0_3 v0_4 hp
noncomputable def p_cascadelaw04_DynFrom : S_api_Value → Option (Bool) := fun ⟨v0_0, v0_1, v0_2, v0_3, v0_4⟩ => p_cascadelaw04_DynFrom_0  v0_0 v0_1 v0_2 v0_3 v0_4
theorem s_cascadelaw04_DynFrom : (C_cascadelaw04_DynFrom PC FC @XM E_api_Value E_api_Pair p_cascadelaw04_DynFrom) := by
  intro _ _ _ _ _ _ hp stk    
  exact pf_of (T := table) (G := glob) (f := 7) rfl rfl (s_cascadelaw04_DynFrom_0   (topN stk + 1)    hp stk )
noncomputable def p_dyn_To_0  (v0_0 v0_1 : Int) (v0_2 : Str) (v0_3 : Ls0) (v0_4 : Ls1) : Option (S_any × Int) := b_dyn_To_0 Prims.real p_tree_Right p_dyn_to  v0_0 v0_1 v0_2 v0_3 v0_4
theorem s_dyn_To_0   (m : Nat)    : H_dyn_To_0 AT @XM E_any E_api_Value E_api_Pair m  p_dyn_To_0 := by
  intro v0_0 v0_1 v0_2 v0_3 v0_4 out hp stk 
  exact o_dyn_To_0 LW rfl rfl HA HZ HF p_tree_Right p_dyn_to s_tree_Right s_dyn_to stk m v0_0 v0_1 v0_2 v0_3 v0_4 hp
noncomputable def p_dyn_To : S_api_Value → Option (S_any × Int) := fun ⟨v0_0, v0_1, v0_2, v0_3, v0_4⟩ => p_dyn_To_0  v0_0 v0_1 v0_2 v0_3 v0_4
theorem s_dyn_To : (C_dyn_To PC FC @XM E_any E_api_Value E_api_Pair p_dyn_To) := by
  intro _ _ _ _ _ _ _ hp stk    
  exact pf_of (T := table) (G := glob) (f := 35) rfl rfl (s_dyn_To_0   (topN stk + 1)    hp stk )
noncomputable def p_cascadelaw04_DynTo_0  (v0_0 v0_1 : Int) (v0_2 : Str) (v0_3 : Ls0) (v0_4 : Ls1) : Option (Bool) := b_cascadelaw04_DynTo_0 Prims.real p_cascadelaw04_awake p_cascaderef03_Few p_dyn_To p_cascaderef03_Right p_dyn_From p_dyn_Odd p_cascaderef03_Same p_dyn_Kind  v0_0 v0_1 v0_2 v0_3 v0_4
theorem s_cascadelaw04_DynTo_0   (m : Nat)    : H_cascadelaw04_DynTo_0 AT @XM E_api_Value E_api_Pair m  p_cascadelaw04_DynTo_0 := by
  intro v0_0 v0_1 v0_2 v0_3 v0_4 out hp stk 
  exact o_cascadelaw04_DynTo_0 LW rfl rfl HA HZ HF p_cascadelaw04_awake p_cascaderef03_Few p_dyn_To p_cascaderef03_Right p_dyn_From p_dyn_Odd p_cascaderef03_Same p_dyn_Kind s_cascadelaw04_awake s_cascaderef03_Few s_dyn_To s_cascaderef03_Right s_dyn_From s_dyn_Odd s_cascaderef03_Same s_dyn_Kind stk m v0_0 v0_1 v0_2 v0_3 v0_4 hp
noncomputable def p_cascadelaw04_DynTo : S_api_Value → Option (Bool) := fun ⟨v0_0, v0_1, v0_2, v0_3, v0_4⟩ => p_cascadelaw04_DynTo_0  v0_0 v0_1 v0_2 v0_3 v0_4
theorem s_cascadelaw04_DynTo : (C_cascadelaw04_DynTo PC FC @XM E_api_Value E_api_Pair p_cascadelaw04_DynTo) := by
  intro _ _ _ _ _ _ hp stk    
  exact pf_of (T := table) (G := glob) (f := 8) rfl rfl (s_cascadelaw04_DynTo_0   (topN stk + 1)    hp stk )
noncomputable def p_dyn_member_1  (v1 : Str) (v8 : Ls3) (v9 v10 : Int) : Option (S_any × Bool) := Prims.real.loop (fun (s : Str × Ls3 × Int × Int) => match s with | (v1, v8, v9, v10) => b_dyn_member_1 Prims.real   v1 v8 v9 v10) (v1, v8, v9, v10)
theorem u_dyn_member_1  (v1 : Str) (v8 : Ls3) (v9 v10 : Int) : p_dyn_member_1  v1 v8 v9 v10 = match b_dyn_member_1 Prims.real   v1 v8 v9 v10 with
    | some (.inl (v1', v8', v9', v10')) => p_dyn_member_1  v1' v8' v9' v10'
    | some (.inr r) => some r
    | none => none := by
  show Pr.loop _ _ = _
  rw [Pr.loop_eq]
  try dsimp only
  generalize b_dyn_member_1 Prims.real   v1 v8 v9 v10 = y
  cases y with
  | none => rfl
  | some y => cases y <;> rfl
theorem s_dyn_member_1   (m : Nat)    : H_dyn_member_1 AT @XM E_any E_dyn_Member m  p_dyn_member_1 := by
  intro v1 v8 v9 v10 out hp stk 
  refine LW.ind _ (fun (s : Str × Ls3 × Int × Int) o => match s with | (v1, v8, v9, v10) => ∀ (stk : Stk), (A_dyn_member_1 AT @XM E_dyn_Member m  v1 v8 v9 v10 stk) = (O_dyn_member E_any m  stk) o) (fun s r e => ?_) (fun s t r e ih => ?_) (v1, v8, v9, v10) out hp stk 
  · obtain ⟨v1, v8, v9, v10⟩ := s
    intro stk 
    exact o_dyn_member_1 LW rfl rfl HA HZ HF stk m v1 v8 v9 v10 e
  · obtain ⟨v1, v8, v9, v10⟩ := s; obtain ⟨v1', v8', v9', v10'⟩ := t
    intro stk 
    exact (o_dyn_member_1 LW rfl rfl HA HZ HF stk m v1 v8 v9 v10 e).trans (ih stk )
noncomputable def p_dyn_member_0  (v0 : Ls3) (v1 : Str) : Option (S_any × Bool) := b_dyn_member_0 Prims.real  p_dyn_member_1 v0 v1
theorem s_dyn_member_0   (m : Nat)    : H_dyn_member_0 AT @XM E_any E_dyn_Member m  p_dyn_member_0 := by
  intro v0 v1 out hp stk 
  exact o_dyn_member_0 LW rfl rfl HA HZ HF stk m p_dyn_member_1 v0 v1 (s_dyn_member_1 m ) hp
noncomputable def p_dyn_member : Ls3 → Str → Option (S_any × Bool) := fun v0 v1 => p_dyn_member_0  v0 v1
theorem s_dyn_member : (C_dyn_member PC FC @XM E_any E_dyn_Member p_dyn_member) := by
  intro _ _ _ _ hp stk    
  exact pf_of (T := table) (G := glob) (f := 65) rfl rfl (s_dyn_member_0   (topN stk + 1)    hp stk )
noncomputable def p_dyn_Go_1  (v0 : S_any) (v10 : (List Str)) (v11 v12 : Int) : Option (S_any × Bool) := Prims.real.loop (fun (s : S_any × (List Str) × Int × Int) => match s with | (v0, v10, v11, v12) => b_dyn_Go_1 Prims.real p_dyn_member  v0 v10 v11 v12) (v0, v10, v11, v12)
theorem u_dyn_Go_1  (v0 : S_any) (v10 : (List Str)) (v11 v12 : Int) : p_dyn_Go_1  v0 v10 v11 v12 = match b_dyn_Go_1 Prims.real p_dyn_member  v0 v10 v11 v12 with
    | some (.inl (v0', v10', v11', v12')) => p_dyn_Go_1  v0' v10' v11' v12'
    | some (.inr r) => some r
    | none => none := by
  show Pr.loop _ _ = _
  rw [Pr.loop_eq]
  try dsimp only
  generalize b_dyn_Go_1 Prims.real p_dyn_member  v0 v10 v11 v12 = y
  cases y with
  | none => rfl
  | some y => cases y <;> rfl
theorem s_dyn_Go_1   (m : Nat)    : H_dyn_Go_1 AT @XM E_any E_string m  p_dyn_Go_1 := by
  intro v0 v10 v11 v12 out hp stk 
  refine LW.ind _ (fun (s : S_any × (List Str) × Int × Int) o => match s with | (v0, v10, v11, v12) => ∀ (stk : Stk), (A_dyn_Go_1 AT @XM E_any E_string m  v0 v10 v11 v12 stk) = (O_dyn_Go E_any m  stk) o) (fun s r e => ?_) (fun s t r e ih => ?_) (v0, v10, v11, v12) out hp stk 
  · obtain ⟨v0, v10, v11, v12⟩ := s
    intro stk 
    exact o_dyn_Go_1 LW rfl rfl HA HZ HF p_dyn_member s_dyn_member stk m v0 v10 v11 v12 e
  · obtain ⟨v0, v10, v11, v12⟩ := s; obtain ⟨v0', v10', v11', v12'⟩ := t
    intro stk 
    exact (o_dyn_Go_1 LW rfl rfl HA HZ HF p_dyn_member s_dyn_member stk m v0 v10 v11 v12 e).trans (ih stk )
noncomputable def p_dyn_Go_0  (v0 : S_any) (v1 : (List Str)) : Option (S_any × Bool) := b_dyn_Go_0 Prims.real p_dyn_member p_dyn_Go_1 v0 v1
theorem s_dyn_Go_0   (m : Nat)    : H_dyn_Go_0 AT @XM E_any E_string m  p_dyn_Go_0 := by
  intro v0 v1 out hp stk 
  exact o_dyn_Go_0 LW rfl rfl HA HZ HF p_dyn_member s_dyn_member stk m p_dyn_Go_1 v0 v1 (s_dyn_Go_1 m ) hp
noncomputable def p_dyn_Go : S_any → (List Str) → Option (S_any × Bool) := fun v0 v1 => p_dyn_Go_0  v0 v1
theorem s_dyn_Go : (C_dyn_Go PC FC @XM E_any E_string p_dyn_Go) := by
  intro _ _ _ _ hp stk    
  exact pf_of (T := table) (G := glob) (f := 36) rfl rfl (s_dyn_Go_0   (topN stk + 1)    hp stk )
noncomputable def p_cascaderef03_At_1  (v1 : Str) (v2_0 v2_1 : Int) (v2_2 : Str) (v2_3 : Ls0) (v2_4 : Ls1) (v5 : Int) : Option (Int) := Prims.real.loop (fun (s : Str × Int × Int × Str × Ls0 × Ls1 × Int) => match s with | (v1, v2_0, v2_1, v2_2, v2_3, v2_4, v5) => b_cascaderef03_At_1 Prims.real   v1 v2_0 v2_1 v2_2 v2_3 v2_4 v5) (v1, v2_0, v2_1, v2_2, v2_3, v2_4, v5)
theorem u_cascaderef03_At_1  (v1 : Str) (v2_0 v2_1 : Int) (v2_2 : Str) (v2_3 : Ls0) (v2_4 : Ls1) (v5 : Int) : p_cascaderef03_At_1  v1 v2_0 v2_1 v2_2 v2_3 v2_4 v5 = match b_cascaderef03_At_1 Prims.real   v1 v2_0 v2_1 v2_2 v2_3 v2_4 v5 with
    | some (.inl (v1', v2_0', v2_1', v2_2', v2_3', v2_4', v5')) => p_cascaderef03_At_1  v1' v2_0' v2_1' v2_2' v2_3' v2_4' v5'
    | some (.inr r) => some r
    | none => none := by
  show Pr.loop _ _ = _
  rw [Pr.loop_eq]
  try dsimp only
  generalize b_cascaderef03_At_1 Prims.real   v1 v2_0 v2_1 v2_2 v2_3 v2_4 v5 = y
  cases y with
  | none => rfl
  | some y => cases y <;> rfl
theorem s_cascaderef03_At_1   (m : Nat)    : H_cascaderef03_At_1 AT @XM E_api_Value E_api_Pair m  p_cascaderef03_At_1 := by
  intro v1 v2_0 v2_1 v2_2 v2_3 v2_4 v5 out hp stk 
  refine LW.ind _ (fun (s : Str × Int × Int × Str × Ls0 × Ls1 × Int) o => match s with | (v1, v2_0, v2_1, v2_2, v2_3, v2_4, v5) => ∀ (stk : Stk), (A_cascaderef03_At_1 AT @XM E_api_Value E_api_Pair m  v1 v2_0 v2_1 v2_2 v2_3 v2_4 v5 stk) = (O_cascaderef03_At  m  stk) o) (fun s r e => ?_) (fun s t r e ih => ?_) (v1, v2_0, v2_1, v2_2, v2_3, v2_4, v5) out hp stk 
  · obtain ⟨v1, v2_0, v2_1, v2_2, v2_3, v2_4, v5⟩ := s
    intro stk 
    exact o_cascaderef03_At_1 LW rfl rfl HA HZ HF stk m v1 v2_0 v2_1 v2_2 v2_3 v2_4 v5 e
  · obtain ⟨v1, v2_0, v2_1, v2_2, v2_3, v2_4, v5⟩ := s; obtain ⟨v1', v2_0', v2_1', v2_2', v2_3', v2_4', v5'⟩ := t
    intro stk 
    exact (o_cascaderef03_At_1 LW rfl rfl HA HZ HF stk m v1 v2_0 v2_1 v2_2 v2_3 v2_4 v5 e).trans (ih stk )
noncomputable def p_cascaderef03_At_0  (v0_0 v0_1 : Int) (v0_2 : Str) (v0_3 : Ls0) (v0_4 : Ls1) (v1 : Str) : Option (Int) := b_cascaderef03_At_0 Prims.real  p_cascaderef03_At_1 v0_0 v0_1 v0_2 v0_3 v0_4 v1
theorem s_cascaderef03_At_0   (m : Nat)    : H_cascaderef03_At_0 AT @XM E_api_Value E_api_Pair m  p_cascaderef03_At_0 := by
  intro v0_0 v0_1 v0_2 v0_3 v0_4 v1 out hp stk 
  exact o_cascaderef03_At_0 LW rfl rfl HA HZ HF stk m p_cascaderef03_At_1 v0_0 v0_1 v0_2 v0_3 v0_4 v1 (s_cascaderef03_At_1 m ) hp
noncomputable def p_cascaderef03_At : S_api_Value → Str → Option (Int) := fun ⟨v0_0, v0_1, v0_2, v0_3, v0_4⟩ v1 => p_cascaderef03_At_0  v0_0 v0_1 v0_2 v0_3 v0_4 v1
theorem s_cascaderef03_At : (C_cascaderef03_At PC FC @XM E_api_Value E_api_Pair p_cascaderef03_At) := by
  intro _ _ _ _ _ _ _ hp stk    
  exact pf_of (T := table) (G := glob) (f := 22) rfl rfl (s_cascaderef03_At_0   (topN stk + 1)    hp stk )
noncomputable def p_cascaderef04_Go_1  (v1 : (List Str)) (v6 o2_0 o2_1 : Int) (o2_2 : Str) (o2_3 : Ls0) (o2_4 : Ls1) (o4_0 o4_1 : Int) (o4_2 : Str) (o4_3 : Ls0) (o4_4 : Ls1) : Option (S_api_Value × Bool) := Prims.real.loop (fun (s : (List Str) × Int × Int × Int × Str × Ls0 × Ls1 × Int × Int × Str × Ls0 × Ls1) => match s with | (v1, v6, o2_0, o2_1, o2_2, o2_3, o2_4, o4_0, o4_1, o4_2, o4_3, o4_4) => b_cascaderef04_Go_1 Prims.real p_cascaderef03_At  v1 v6 o2_0 o2_1 o2_2 o2_3 o2_4 o4_0 o4_1 o4_2 o4_3 o4_4) (v1, v6, o2_0, o2_1, o2_2, o2_3, o2_4, o4_0, o4_1, o4_2, o4_3, o4_4)
theorem u_cascaderef04_Go_1  (v1 : (List Str)) (v6 o2_0 o2_1 : Int) (o2_2 : Str) (o2_3 : Ls0) (o2_4 : Ls1) (o4_0 o4_1 : Int) (o4_2 : Str) (o4_3 : Ls0) (o4_4 : Ls1) : p_cascaderef04_Go_1  v1 v6 o2_0 o2_1 o2_2 o2_3 o2_4 o4_0 o4_1 o4_2 o4_3 o4_4 = match b_cascaderef04_Go_1 Prims.real p_cascaderef03_At  v1 v6 o2_0 o2_1 o2_2 o2_3 o2_4 o4_0 o4_1 o4_2 o4_3 o4_4 with
    | some (.inl (v1', v6', o2_0', o2_1', o2_2', o2_3', o2_4', o4_0', o4_1', o4_2', o4_3', o4_4')) => p_cascaderef04_Go_1  v1' v6' o2_0' o2_1' o2_2' o2_3' o2_4' o4_0' o4_1' o4_2' o4_3' o4_4'
    | some (.inr r) => some r
    | none => none := by
  show Pr.loop _ _ = _
  rw [Pr.loop_eq]
  try dsimp only
  generalize b_cascaderef04_Go_1 Prims.real p_cascaderef03_At  v1 v6 o2_0 o2_1 o2_2 o2_3 o2_4 o4_0 o4_1 o4_2 o4_3 o4_4 = y
  cases y with
  | none => rfl
  | some y => cases y <;> rfl
theorem s_cascaderef04_Go_1   (m : Nat)    : H_cascaderef04_Go_1 AT @XM E_api_Value E_api_Pair E_string m  p_cascaderef04_Go_1 := by
  intro v1 v6 o2_0 o2_1 o2_2 o2_3 o2_4 o4_0 o4_1 o4_2 o4_3 o4_4 out hp stk 
  refine LW.ind _ (fun (s : (List Str) × Int × Int × Int × Str × Ls0 × Ls1 × Int × Int × Str × Ls0 × Ls1) o => match s with | (v1, v6, o2_0, o2_1, o2_2, o2_3, o2_4, o4_0, o4_1, o4_2, o4_3, o4_4) => ∀ (stk : Stk), (A_cascaderef04_Go_1 AT @XM E_api_Value E_api_Pair E_string m  v1 v6 o2_0 o2_1 o2_2 o2_3 o2_4 o4_0 o4_1 o4_2 o4_3 o4_4 stk) = (O_cascaderef04_Go @XM E_api_Value E_api_Pair m  stk) o) (fun s r e => ?_) (fun s t r e ih => ?_) (v1, v6, o2_0, o2_1, o2_2, o2_3, o2_4, o4_0, o4_1, o4_2, o4_3, o4_4) out hp stk 
  · obtain ⟨v1, v6, o2_0, o2_1, o2_2, o2_3, o2_4, o4_0, o4_1, o4_2, o4_3, o4_4⟩ := s
    intro stk 
    exact o_cascaderef04_Go_1 LW rfl rfl HA HZ HF p_cascaderef03_At s_cascaderef03_At stk m v1 v6 o2_0 o2_1 o2_2 o2_3 o2_4 o4_0 o4_1 o4_2 o4_3 o4_4 e
  · obtain ⟨v1, v6, o2_0, o2_1, o2_2, o2_3, o2_4, o4_0, o4_1, o4_2, o4_3, o4_4⟩ := s; obtain ⟨v1', v6', o2_0', o2_1', o2_2', o2_3', o2_4', o4_0', o4_1', o4_2', o4_3', o4_4'⟩ := t
    intro stk 
    exact (o_cascaderef04_Go_1 LW rfl rfl HA HZ HF p_cascaderef03_At s_cascaderef03_At stk m v1 v6 o2_0 o2_1 o2_2 o2_3 o2_4 o4_0 o4_1 o4_2 o4_3 o4_4 e).trans (ih stk )
noncomputable def p_cascaderef04_Go_0  (v0_0 v0_1 : Int) (v0_2 : Str) (v0_3 : Ls0) (v0_4 : Ls1) (v1 : (List Str)) : Option (S_api_Value × Bool) := b_cascaderef04_Go_0 Prims.real p_cascaderef03_At p_cascaderef04_Go_1 v0_0 v0_1 v0_2 v0_3 v0_4 v1
theorem s_cascaderef04_Go_0   (m : Nat)    : H_cascaderef04_Go_0 AT @XM E_api_Value E_api_Pair E_string m  p_cascaderef04_Go_0 := by
  intro v0_0 v0_1 v0_2 v0_3 v0_4 v1 out hp stk 
  exact o_cascaderef04_Go_0 LW rfl rfl HA HZ HF p_cascaderef03_At s_cascaderef03_At stk m p_cascaderef04_Go_1 v0_0 v0_1 v0_2 v0_3 v0_4 v1 (s_cascaderef04_Go_1 m ) hp
noncomputable def p_cascaderef04_Go : S_api_Value → (List Str) → Option (S_api_Value × Bool) := fun ⟨v0_0, v0_1, v0_2, v0_3, v0_4⟩ v1 => p_cascaderef04_Go_0  v0_0 v0_1 v0_2 v0_3 v0_4 v1
theorem s_cascaderef04_Go : (C_cascaderef04_Go PC FC @XM E_api_Value E_api_Pair E_string p_cascaderef04_Go) := by
  intro _ _ _ _ _ _ _ _ _ _ _ _ hp stk    
  exact pf_of (T := table) (G := glob) (f := 37) rfl rfl (s_cascaderef04_Go_0   (topN stk + 1)    hp stk )
noncomputable def p_cascadelaw04_DynGoes_2  (v5 : S_any) (v6 : Bool) (o7_0 o7_1 : Int) (o7_2 : Str) (o7_3 : Ls0) (o7_4 : Ls1) : Option (Bool) := b_cascadelaw04_DynGoes_2 Prims.real p_cascadelaw04_awake p_cascaderef03_Few p_dyn_Odd p_dyn_Go p_cascaderef04_Go p_dyn_From p_cascaderef04_From p_cascaderef03_Same p_dyn_Kind p_cascaderef04_Kind  v5 v6 o7_0 o7_1 o7_2 o7_3 o7_4
theorem s_cascadelaw04_DynGoes_2   (m : Nat)    : H_cascadelaw04_DynGoes_2 AT @XM E_any E_api_Value E_api_Pair m  p_cascadelaw04_DynGoes_2 := by
  intro v5 v6 o7_0 o7_1 o7_2 o7_3 o7_4 out hp stk 
  exact o_cascadelaw04_DynGoes_2 LW rfl rfl HA HZ HF p_cascadelaw04_awake p_cascaderef03_Few p_dyn_Odd p_dyn_Go p_cascaderef04_Go p_dyn_From p_cascaderef04_From p_cascaderef03_Same p_dyn_Kind p_cascaderef04_Kind s_cascadelaw04_awake s_cascaderef03_Few s_dyn_Odd s_dyn_Go s_cascaderef04_Go s_dyn_From s_cascaderef04_From s_cascaderef03_Same s_dyn_Kind s_cascaderef04_Kind stk m v5 v6 o7_0 o7_1 o7_2 o7_3 o7_4 hp
noncomputable def p_cascadelaw04_DynGoes_3  (v6 : Bool) (o7_0 o7_1 : Int) (o7_2 : Str) (o7_3 : Ls0) (o7_4 : Ls1) : Option (Bool) := b_cascadelaw04_DynGoes_3 Prims.real p_cascadelaw04_awake p_cascaderef03_Few p_dyn_Odd p_dyn_Go p_cascaderef04_Go p_dyn_From p_cascaderef04_From p_cascaderef03_Same p_dyn_Kind p_cascaderef04_Kind  v6 o7_0 o7_1 o7_2 o7_3 o7_4
theorem s_cascadelaw04_DynGoes_3   (m : Nat)    : H_cascadelaw04_DynGoes_3 AT @XM E_api_Value E_api_Pair m  p_cascadelaw04_DynGoes_3 := by
  intro v6 o7_0 o7_1 o7_2 o7_3 o7_4 out hp stk 
  exact o_cascadelaw04_DynGoes_3 LW rfl rfl HA HZ HF p_cascadelaw04_awake p_cascaderef03_Few p_dyn_Odd p_dyn_Go p_cascaderef04_Go p_dyn_From p_cascaderef04_From p_cascaderef03_Same p_dyn_Kind p_cascaderef04_Kind s_cascadelaw04_awake s_cascaderef03_Few s_dyn_Odd s_dyn_Go s_cascaderef04_Go s_dyn_From s_cascaderef04_From s_cascaderef03_Same s_dyn_Kind s_cascaderef04_Kind stk m v6 o7_0 o7_1 o7_2 o7_3 o7_4 hp
noncomputable def p_cascadelaw04_DynGoes_0  (v0_0 v0_1 : Int) (v0_2 : Str) (v0_3 : Ls0) (v0_4 : Ls1) (v1 : (List Str)) : Option (Bool) := b_cascadelaw04_DynGoes_0 Prims.real p_cascadelaw04_awake p_cascaderef03_Few p_dyn_Odd p_dyn_Go p_cascaderef04_Go p_dyn_From p_cascaderef04_From p_cascaderef03_Same p_dyn_Kind p_cascaderef04_Kind p_cascadelaw04_DynGoes_2 p_cascadelaw04_DynGoes_3 v0_0 v0_1 v0_2 v0_3 v0_4 v1
theorem s_cascadelaw04_DynGoes_0   (m : Nat)    : H_cascadelaw04_DynGoes_0 AT @XM E_api_Value E_api_Pair E_string m  p_cascadelaw04_DynGoes_0 := by
  intro v0_0 v0_1 v0_2 v0_3 v0_4 v1 out hp stk 
  exact o_cascadelaw04_DynGoes_0 LW rfl rfl HA HZ HF p_cascadelaw04_awake p_cascaderef03_Few p_dyn_Odd p_dyn_Go p_cascaderef04_Go p_dyn_From p_cascaderef04_From p_cascaderef03_Same p_dyn_Kind p_cascaderef04_Kind s_cascadelaw04_awake s_cascaderef03_Few s_dyn_Odd s_dyn_Go s_cascaderef04_Go s_dyn_From s_cascaderef04_From s_cascaderef03_Same s_dyn_Kind s_cascaderef04_Kind stk m p_cascadelaw04_DynGoes_2 p_cascadelaw04_DynGoes_3 v0_0 v0_1 v0_2 v0_3 v0_4 v1 (s_cascadelaw04_DynGoes_2 m ) (s_cascadelaw04_DynGoes_3 m ) hp
noncomputable def p_cascadelaw04_DynGoes : S_api_Value → (List Str) → Option (Bool) := fun ⟨v0_0, v0_1, v0_2, v0_3, v0_4⟩ v1 => p_cascadelaw04_DynGoes_0  v0_0 v0_1 v0_2 v0_3 v0_4 v1
theorem s_cascadelaw04_DynGoes : (C_cascadelaw04_DynGoes PC FC @XM E_api_Value E_api_Pair E_string p_cascadelaw04_DynGoes) := by
  intro _ _ _ _ _ _ _ hp stk    
  exact pf_of (T := table) (G := glob) (f := 9) rfl rfl (s_cascadelaw04_DynGoes_0   (topN stk + 1)    hp stk )
end Go.Abs.T
