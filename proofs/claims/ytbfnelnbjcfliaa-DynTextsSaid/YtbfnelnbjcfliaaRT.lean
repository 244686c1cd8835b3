import Derived.Test.YtbfnelnbjcfliaaWT
import Derived.KernelRfl
set_option linter.unusedVariables false
set_option linter.unusedSimpArgs false
namespace Go.Abs.T
set_option maxRecDepth 100000
def glob : Nat → Option (List D) := fun _ => none
theorem table_ok : ∀ f kf, table f = some kf → kf.ok = true := by
  intro f kf h
  unfold table at h
  split at h <;> first | (cases h; done) | (cases h; kernel_rfl)
theorem LW : KLaws (oldT table) iterW glob (callW (oldT table) glob) (sysW table glob).pcall (sysW table glob).fcall (sysW table glob).kcall (List.length) (fun xs i => xs[i]?) (fun xs lo hi => (xs.take hi).drop lo) (fun xs ys => xs ++ ys) (fun xs i x => xs.set i x) (fun n x => List.replicate n x) (allSz) (List.length) (fun s i => s[i]?) (fun s lo hi => (s.take hi).drop lo) (fun a b => a ++ b) (fun a b => a == b) (fun a b => Op.bytesLess a b) (fun s => s.map fun b => .int .u8 b.toNat) (bytesOf) (fun s i => Utf8.decode ⟨⟨s⟩⟩ i) (fun n => (Utf8.encode n).data.toList) (intAr) (intCmp) (fun k n => k.wrap n) (fun n => decide (n = 0)) (fun n => decide (n < 0)) (fun n => n.toNat) (fun (n : Nat) => (n : Int)) (fun (b : UInt8) => (b.toNat : Int)) (fun a b => decide (a ≤ b)) (fun a b => a + b) (fun a b => a - b) (fun n b => decide (n * b ≤ room ∧ n ≤ room)) (findE) (Go.Abs.putE) (Go.Abs.findK) (List.length) (frzMap) (sameV) (atW table glob) setO (fun s => topN s + 1) sameStk (fun {_} e l => List.map e l) (fun {_} e l => mapE e l) Pr.quo Pr.shf Pr.slen Pr.sidx Pr.ssub Pr.scat Pr.sit Pr.slist Pr.ofBytes @Pr.len @Pr.idx @Pr.sub @Pr.app @Pr.set @Pr.make @Pr.mfind @Pr.mput @Pr.loop table := KLaws.real (G := glob) table_ok
abbrev XM {α : Type} (e : α → D) (l : List α) : List D := List.map e l
noncomputable section
abbrev XE {α : Type} (e : α → D) (l : List (Str × Nat × α)) := mapE e l
abbrev AT := atW table glob
abbrev PC := (sysW table glob).pcall
abbrev FC := (sysW table glob).fcall
abbrev KC_ := (sysW table glob).kcall
mutual
def E_any : S_any → D
  | .n => .nili
  | .c2 x => (.iface 2 (.int .i64 x))
  | .c3 x => (.iface 3 (.int .i64 x))
  | .c4 x => (.iface 4 (.bool x))
  | .c9 x => (.iface 9 (.str x))
  | .c15 => (.iface 15 .any)
  | .c42 x => (.iface 42 (.sl (E_any_l x)))
  | .c44 x => (.iface 44 (.sl (E_dyn_Member_l x)))
  | .c49 => (.iface 49 .any)
  | .c52 => (.iface 52 (.agg []))
def E_any_l : List S_any → List D
  | [] => []
  | x :: r => E_any x :: E_any_l r
def E_dyn_Member : S_dyn_Member → D
  | ⟨x_0, x_1⟩ => (.agg [(.str x_0), (E_any x_1)])
def E_dyn_Member_l : List S_dyn_Member → List D
  | [] => []
  | x :: r => E_dyn_Member x :: E_dyn_Member_l r
end
theorem E_any_map : ∀ l, E_any_l l = l.map E_any
  | [] => by simp only [E_any_l, List.map_nil]
  | x :: r => by simp only [E_any_l, List.map_cons, E_any_map r]
theorem E_dyn_Member_map : ∀ l, E_dyn_Member_l l = l.map E_dyn_Member
  | [] => by simp only [E_dyn_Member_l, List.map_nil]
  | x :: r => by simp only [E_dyn_Member_l, List.map_cons, E_dyn_Member_map r]
theorem he_E_any : (E_any .n = .nili) ∧ (∀ (x : Int), E_any (.c2 x) = (.iface 2 (.int .i64 x))) ∧ (∀ (x : Int), E_any (.c3 x) = (.iface 3 (.int .i64 x))) ∧ (∀ (x : Bool), E_any (.c4 x) = (.iface 4 (.bool x))) ∧ (∀ (x : Str), E_any (.c9 x) = (.iface 9 (.str x))) ∧ (E_any .c15 = (.iface 15 .any)) ∧ (∀ (x : Ls2), E_any (.c42 x) = (.iface 42 (.sl (List.map E_any x)))) ∧ (∀ (x : Ls3), E_any (.c44 x) = (.iface 44 (.sl (List.map E_dyn_Member x)))) ∧ (E_any .c49 = (.iface 49 .any)) ∧ (E_any .c52 = (.iface 52 (.agg []))) := by refine ⟨?_, ?_, ?_, ?_, ?_, ?_, ?_, ?_, ?_, ?_⟩ <;> intros <;> simp only [E_any, E_any_map, E_dyn_Member_map]
theorem he_E_dyn_Member (x_0 : Str) (x_1 : S_any) : E_dyn_Member ⟨x_0, x_1⟩ = (.agg [(.str x_0), (E_any x_1)]) := by simp only [E_dyn_Member, E_any_map, E_dyn_Member_map]
theorem hz_E_any (l : List S_any) : allSz 1 (l.map E_any) = true := LW.allsz E_any 1 (fun a => by cases a <;> simp only [he_E_any] <;> exact ⟨rfl, rfl⟩) l
theorem hz_E_dyn_Member (l : List S_dyn_Member) : allSz 2 (l.map E_dyn_Member) = true := LW.allsz E_dyn_Member 2 (fun a => by obtain ⟨_, _⟩ := a; rw [he_E_dyn_Member]; exact ⟨rfl, rfl⟩) l
mutual
def E_api_Value : S_api_Value → D
  | ⟨x_0, x_1, x_2, x_3, x_4⟩ => (.agg [(.int .i64 x_0), (.int .i64 x_1), (.str x_2), (.sl (E_api_Value_l x_3)), (.sl (E_api_Pair_l x_4))])
def E_api_Value_l : List S_api_Value → List D
  | [] => []
  | x :: r => E_api_Value x :: E_api_Value_l r
def E_api_Pair : S_api_Pair → D
  | ⟨x_0, ⟨x_1_0, x_1_1, x_1_2, x_1_3, x_1_4⟩⟩ => (.agg [(.str x_0), (.int .i64 x_1_0), (.int .i64 x_1_1), (.str x_1_2), (.sl (E_api_Value_l x_1_3)), (.sl (E_api_Pair_l x_1_4))])
def E_api_Pair_l : List S_api_Pair → List D
  | [] => []
  | x :: r => E_api_Pair x :: E_api_Pair_l r
end
theorem E_api_Value_map : ∀ l, E_api_Value_l l = l.map E_api_Value
  | [] => by simp only [E_api_Value_l, List.map_nil]
  | x :: r => by simp only [E_api_Value_l, List.map_cons, E_api_Value_map r]
theorem E_api_Pair_map : ∀ l, E_api_Pair_l l = l.map E_api_Pair
  | [] => by simp only [E_api_Pair_l, List.map_nil]
  | x :: r => by simp only [E_api_Pair_l, List.map_cons, E_api_Pair_map r]
theorem he_E_api_Value (x_0 x_1 : Int) (x_2 : Str) (x_3 : Ls0) (x_4 : Ls1) : E_api_Value ⟨x_0, x_1, x_2, x_3, x_4⟩ = (.agg [(.int .i64 x_0), (.int .i64 x_1), (.str x_2), (.sl (List.map E_api_Value x_3)), (.sl (List.map E_api_Pair x_4))]) := by simp only [E_api_Value, E_api_Value_map, E_api_Pair_map]
theorem he_E_api_Pair (x_0 : Str) (x_1_0 x_1_1 : Int) (x_1_2 : Str) (x_1_3 : Ls0) (x_1_4 : Ls1) : E_api_Pair ⟨x_0, ⟨x_1_0, x_1_1, x_1_2, x_1_3, x_1_4⟩⟩ = (.agg [(.str x_0), (.int .i64 x_1_0), (.int .i64 x_1_1), (.str x_1_2), (.sl (List.map E_api_Value x_1_3)), (.sl (List.map E_api_Pair x_1_4))]) := by simp only [E_api_Pair, E_api_Value_map, E_api_Pair_map]
theorem hz_E_api_Value (l : List S_api_Value) : allSz 5 (l.map E_api_Value) = true := LW.allsz E_api_Value 5 (fun a => by obtain ⟨_, _, _, _, _⟩ := a; rw [he_E_api_Value]; exact ⟨rfl, rfl⟩) l
theorem hz_E_api_Pair (l : List S_api_Pair) : allSz 6 (l.map E_api_Pair) = true := LW.allsz E_api_Pair 6 (fun a => by obtain ⟨_, ⟨_, _, _, _, _⟩⟩ := a; rw [he_E_api_Pair]; exact ⟨rfl, rfl⟩) l
def E_string : Str → D := fun x => (.str x)
theorem he_E_string (x : Str) : E_string x = (.str x) := rfl
theorem hz_E_string (l : List Str) : allSz 1 (l.map E_string) = true := LW.allsz E_string 1 (fun a => ⟨rfl, rfl⟩) l
theorem HF : ∀ v, (E_any v).flat = true ∧ (E_any v).cells = [E_any v] := fun v => by cases v <;> simp only [he_E_any] <;> exact ⟨rfl, rfl⟩
theorem HA : ((E_any .n = .nili) ∧ (∀ (x : Int), E_any (.c2 x) = (.iface 2 (.int .i64 x))) ∧ (∀ (x : Int), E_any (.c3 x) = (.iface 3 (.int .i64 x))) ∧ (∀ (x : Bool), E_any (.c4 x) = (.iface 4 (.bool x))) ∧ (∀ (x : Str), E_any (.c9 x) = (.iface 9 (.str x))) ∧ (E_any .c15 = (.iface 15 .any)) ∧ (∀ (x : Ls2), E_any (.c42 x) = (.iface 42 (.sl (List.map E_any x)))) ∧ (∀ (x : Ls3), E_any (.c44 x) = (.iface 44 (.sl (List.map E_dyn_Member x)))) ∧ (E_any .c49 = (.iface 49 .any)) ∧ (E_any .c52 = (.iface 52 (.agg [])))) ∧ (∀ (x_0 : Str) (x_1 : S_any), E_dyn_Member ⟨x_0, x_1⟩ = (.agg [(.str x_0), (E_any x_1)])) ∧ (∀ (x_0 x_1 : Int) (x_2 : Str) (x_3 : Ls0) (x_4 : Ls1), E_api_Value ⟨x_0, x_1, x_2, x_3, x_4⟩ = (.agg [(.int .i64 x_0), (.int .i64 x_1), (.str x_2), (.sl (List.map E_api_Value x_3)), (.sl (List.map E_api_Pair x_4))])) ∧ (∀ (x_0 : Str) (x_1_0 x_1_1 : Int) (x_1_2 : Str) (x_1_3 : Ls0) (x_1_4 : Ls1), E_api_Pair ⟨x_0, ⟨x_1_0, x_1_1, x_1_2, x_1_3, x_1_4⟩⟩ = (.agg [(.str x_0), (.int .i64 x_1_0), (.int .i64 x_1_1), (.str x_1_2), (.sl (List.map E_api_Value x_1_3)), (.sl (List.map E_api_Pair x_1_4))])) ∧ (∀ (x : Str), E_string x = (.str x)) := And.intro @he_E_any (And.intro @he_E_dyn_Member (And.intro @he_E_api_Value (And.intro @he_E_api_Pair (@he_E_string))))
theorem HZ : (∀ l, allSz 1 (List.map E_any l) = true) ∧ (∀ l, allSz 2 (List.map E_dyn_Member l) = true) ∧ (∀ l, allSz 5 (List.map E_api_Value l) = true) ∧ (∀ l, allSz 6 (List.map E_api_Pair l) = true) ∧ (∀ l, allSz 1 (List.map E_string l) = true) := And.intro @hz_E_any (And.intro @hz_E_dyn_Member (And.intro @hz_E_api_Value (And.intro @hz_E_api_Pair (@hz_E_string))))
def p_dyn_Kind_1   : T_dyn_Kind_1 → Option R_dyn_Kind := (b_dyn_Kind_1 Prims.real   )
def p_dyn_Kind_0   : T_dyn_Kind_0 → Option R_dyn_Kind := (b_dyn_Kind_0 Prims.real   p_dyn_Kind_1)
theorem s_dyn_Kind_1   (m : Nat)  : H_dyn_Kind_1 AT m   (p_dyn_Kind_1  ) := (o_dyn_Kind_1 LW rfl rfl HA HZ HF   m     )
theorem s_dyn_Kind_0   (m : Nat)  : H_dyn_Kind_0 AT E_any m   (p_dyn_Kind_0  ) := (o_dyn_Kind_0 LW rfl rfl HA HZ HF   m     (s_dyn_Kind_1   m ))
def p_dyn_Kind : S_any → Option (Int) := fun v0 => p_dyn_Kind_0   v0
theorem s_dyn_Kind : (C_dyn_Kind PC FC E_any p_dyn_Kind) := by
  intro v0 _ hp stk    
  exact pf_of (T := table) (G := glob) (f := 12) rfl rfl (Hd.on (s_dyn_Kind_0   (topN stk + 1) ) v0 hp stk )
def p_cascadelaw04_awake_0   : T_cascadelaw04_awake_0 → Option R_cascadelaw04_awake := (b_cascadelaw04_awake_0 Prims.real p_dyn_Kind  )
theorem s_cascadelaw04_awake_0   (m : Nat)  : H_cascadelaw04_awake_0 AT m   (p_cascadelaw04_awake_0  ) := (o_cascadelaw04_awake_0 LW rfl rfl HA HZ HF p_dyn_Kind s_dyn_Kind m     )
def p_cascadelaw04_awake : Option (Bool) := p_cascadelaw04_awake_0  ()
theorem s_cascadelaw04_awake : (C_cascadelaw04_awake PC FC p_cascadelaw04_awake) := by
  intro _ hp stk    
  exact pf_of (T := table) (G := glob) (f := 5) rfl rfl (Hd.on (s_cascadelaw04_awake_0   (topN stk + 1) ) () hp stk )
def p_cascaderef03_few_10 (c_cascaderef03_few : S_api_Value → Int → Option (Int))  : T_cascaderef03_few_10 → Option R_cascaderef03_few := (b_cascaderef03_few_10 Prims.real c_cascaderef03_few  )
def p_cascaderef03_few_6 (c_cascaderef03_few : S_api_Value → Int → Option (Int))  : T_cascaderef03_few_6 → Option R_cascaderef03_few := Prims.real.loop (b_cascaderef03_few_6 Prims.real c_cascaderef03_few  (p_cascaderef03_few_10 c_cascaderef03_few ))
theorem u_cascaderef03_few_6 (c_cascaderef03_few : S_api_Value → Int → Option (Int))  (s : T_cascaderef03_few_6) : p_cascaderef03_few_6 c_cascaderef03_few  s = (match b_cascaderef03_few_6 Prims.real c_cascaderef03_few  (p_cascaderef03_few_10 c_cascaderef03_few ) s with | some (.inl t) => p_cascaderef03_few_6 c_cascaderef03_few  t | some (.inr r) => some r | none => none) := (Pr.loop_eq' _ s).trans (by rcases b_cascaderef03_few_6 Prims.real c_cascaderef03_few  (p_cascaderef03_few_10 c_cascaderef03_few ) s with _|_|_ <;> rfl)
def p_cascaderef03_few_5 (c_cascaderef03_few : S_api_Value → Int → Option (Int))  : T_cascaderef03_few_5 → Option R_cascaderef03_few := (b_cascaderef03_few_5 Prims.real c_cascaderef03_few  (p_cascaderef03_few_6 c_cascaderef03_few ))
def p_cascaderef03_few_2 (c_cascaderef03_few : S_api_Value → Int → Option (Int))  : T_cascaderef03_few_2 → Option R_cascaderef03_few := Prims.real.loop (b_cascaderef03_few_2 Prims.real c_cascaderef03_few  (p_cascaderef03_few_5 c_cascaderef03_few ))
theorem u_cascaderef03_few_2 (c_cascaderef03_few : S_api_Value → Int → Option (Int))  (s : T_cascaderef03_few_2) : p_cascaderef03_few_2 c_cascaderef03_few  s = (match b_cascaderef03_few_2 Prims.real c_cascaderef03_few  (p_cascaderef03_few_5 c_cascaderef03_few ) s with | some (.inl t) => p_cascaderef03_few_2 c_cascaderef03_few  t | some (.inr r) => some r | none => none) := (Pr.loop_eq' _ s).trans (by rcases b_cascaderef03_few_2 Prims.real c_cascaderef03_few  (p_cascaderef03_few_5 c_cascaderef03_few ) s with _|_|_ <;> rfl)
def p_cascaderef03_few_0 (c_cascaderef03_few : S_api_Value → Int → Option (Int))  : T_cascaderef03_few_0 → Option R_cascaderef03_few := (b_cascaderef03_few_0 Prims.real c_cascaderef03_few  (p_cascaderef03_few_2 c_cascaderef03_few ))
theorem s_cascaderef03_few_10 (c_cascaderef03_few : S_api_Value → Int → Option (Int)) (h_cascaderef03_few : (C_cascaderef03_few PC FC @XM E_api_Value E_api_Pair c_cascaderef03_few)) (m : Nat)  : H_cascaderef03_few_10 AT m   (p_cascaderef03_few_10 c_cascaderef03_few ) := (o_cascaderef03_few_10 LW rfl rfl HA HZ HF c_cascaderef03_few h_cascaderef03_few m     )
theorem s_cascaderef03_few_6 (c_cascaderef03_few : S_api_Value → Int → Option (Int)) (h_cascaderef03_few : (C_cascaderef03_few PC FC @XM E_api_Value E_api_Pair c_cascaderef03_few)) (m : Nat)  : H_cascaderef03_few_6 AT @XM E_api_Value E_api_Pair m   (p_cascaderef03_few_6 c_cascaderef03_few ) := loopH (o_cascaderef03_few_6 LW rfl rfl HA HZ HF c_cascaderef03_few h_cascaderef03_few m     (s_cascaderef03_few_10 c_cascaderef03_few h_cascaderef03_few m ))
theorem s_cascaderef03_few_5 (c_cascaderef03_few : S_api_Value → Int → Option (Int)) (h_cascaderef03_few : (C_cascaderef03_few PC FC @XM E_api_Value E_api_Pair c_cascaderef03_few)) (m : Nat)  : H_cascaderef03_few_5 AT @XM E_api_Value E_api_Pair m   (p_cascaderef03_few_5 c_cascaderef03_few ) := (o_cascaderef03_few_5 LW rfl rfl HA HZ HF c_cascaderef03_few h_cascaderef03_few m     (s_cascaderef03_few_6 c_cascaderef03_few h_cascaderef03_few m ))
theorem s_cascaderef03_few_2 (c_cascaderef03_few : S_api_Value → Int → Option (Int)) (h_cascaderef03_few : (C_cascaderef03_few PC FC @XM E_api_Value E_api_Pair c_cascaderef03_few)) (m : Nat)  : H_cascaderef03_few_2 AT @XM E_api_Value E_api_Pair m   (p_cascaderef03_few_2 c_cascaderef03_few ) := loopH (o_cascaderef03_few_2 LW rfl rfl HA HZ HF c_cascaderef03_few h_cascaderef03_few m     (s_cascaderef03_few_5 c_cascaderef03_few h_cascaderef03_few m ))
theorem s_cascaderef03_few_0 (c_cascaderef03_few : S_api_Value → Int → Option (Int)) (h_cascaderef03_few : (C_cascaderef03_few PC FC @XM E_api_Value E_api_Pair c_cascaderef03_few)) (m : Nat)  : H_cascaderef03_few_0 AT @XM E_api_Value E_api_Pair m   (p_cascaderef03_few_0 c_cascaderef03_few ) := (o_cascaderef03_few_0 LW rfl rfl HA HZ HF c_cascaderef03_few h_cascaderef03_few m     (s_cascaderef03_few_2 c_cascaderef03_few h_cascaderef03_few m ))
def pk_cascaderef03_few : Nat → (S_api_Value → Int → Option (Int))
  | 0 => fun _ _ => none
  | k + 1 => fun ⟨v0_0, v0_1, v0_2, v0_3, v0_4⟩ v1 => p_cascaderef03_few_0 ((pk_cascaderef03_few k))  (v0_0, v0_1, v0_2, v0_3, v0_4, v1)
theorem sk_cascaderef03_few : ∀ k, ((C_cascaderef03_few PC FC @XM E_api_Value E_api_Pair ((pk_cascaderef03_few k)))) ∧ True
  | 0 => by
    refine ⟨?_, trivial⟩
    · intro _ _ _ _ _ _ _ hp; exact nomatch (show none = some _ from hp)
  | k + 1 => by
    obtain ⟨ih0, _⟩ := sk_cascaderef03_few k
    refine ⟨?_, trivial⟩
    · intro v0_0 v0_1 v0_2 v0_3 v0_4 v1 _ hp stk    
      exact pf_of (T := table) (G := glob) (f := 13) rfl rfl (Hd.on (s_cascaderef03_few_0 ((pk_cascaderef03_few k)) ih0 (topN stk + 1) ) (v0_0, v0_1, v0_2, v0_3, v0_4, v1) hp stk )
def p_cascaderef03_few : S_api_Value → Int → Option (Int) := (pk_cascaderef03_few 1000000)
theorem s_cascaderef03_few : (C_cascaderef03_few PC FC @XM E_api_Value E_api_Pair p_cascaderef03_few) := (sk_cascaderef03_few 1000000).1
def p_cascaderef03_Few_0   : T_cascaderef03_Few_0 → Option R_cascaderef03_Few := (b_cascaderef03_Few_0 Prims.real p_cascaderef03_few  )
theorem s_cascaderef03_Few_0   (m : Nat)  : H_cascaderef03_Few_0 AT @XM E_api_Value E_api_Pair m   (p_cascaderef03_Few_0  ) := (o_cascaderef03_Few_0 LW rfl rfl HA HZ HF p_cascaderef03_few s_cascaderef03_few m     )
def p_cascaderef03_Few : S_api_Value → Int → Option (Bool) := fun ⟨v0_0, v0_1, v0_2, v0_3, v0_4⟩ v1 => p_cascaderef03_Few_0   (v0_0, v0_1, v0_2, v0_3, v0_4, v1)
theorem s_cascaderef03_Few : (C_cascaderef03_Few PC FC @XM E_api_Value E_api_Pair p_cascaderef03_Few) := by
  intro v0_0 v0_1 v0_2 v0_3 v0_4 v1 _ hp stk    
  exact pf_of (T := table) (G := glob) (f := 6) rfl rfl (Hd.on (s_cascaderef03_Few_0   (topN stk + 1) ) (v0_0, v0_1, v0_2, v0_3, v0_4, v1) hp stk )
def p_dyn_to_1 (c_dyn_to : S_api_Value → Option (S_any))  : T_dyn_to_1 → Option R_dyn_to := Prims.real.loop (b_dyn_to_1 Prims.real c_dyn_to  )
theorem u_dyn_to_1 (c_dyn_to : S_api_Value → Option (S_any))  (s : T_dyn_to_1) : p_dyn_to_1 c_dyn_to  s = (match b_dyn_to_1 Prims.real c_dyn_to   s with | some (.inl t) => p_dyn_to_1 c_dyn_to  t | some (.inr r) => some r | none => none) := (Pr.loop_eq' _ s).trans (by rcases b_dyn_to_1 Prims.real c_dyn_to   s with _|_|_ <;> rfl)
def p_dyn_to_5 (c_dyn_to : S_api_Value → Option (S_any))  : T_dyn_to_5 → Option R_dyn_to := Prims.real.loop (b_dyn_to_5 Prims.real c_dyn_to  )
theorem u_dyn_to_5 (c_dyn_to : S_api_Value → Option (S_any))  (s : T_dyn_to_5) : p_dyn_to_5 c_dyn_to  s = (match b_dyn_to_5 Prims.real c_dyn_to   s with | some (.inl t) => p_dyn_to_5 c_dyn_to  t | some (.inr r) => some r | none => none) := (Pr.loop_eq' _ s).trans (by rcases b_dyn_to_5 Prims.real c_dyn_to   s with _|_|_ <;> rfl)
def p_dyn_to_0 (c_dyn_to : S_api_Value → Option (S_any))  : T_dyn_to_0 → Option R_dyn_to := (b_dyn_to_0 Prims.real c_dyn_to  (p_dyn_to_1 c_dyn_to ) (p_dyn_to_5 c_dyn_to ))
theorem s_dyn_to_1 (c_dyn_to : S_api_Value → Option (S_any)) (h_dyn_to : (C_dyn_to PC FC @XM E_any E_api_Value E_api_Pair c_dyn_to)) (m : Nat)  : H_dyn_to_1 AT @XM List.length E_any E_api_Value m   (p_dyn_to_1 c_dyn_to ) := loopH (o_dyn_to_1 LW rfl rfl HA HZ HF c_dyn_to h_dyn_to m     )
theorem s_dyn_to_5 (c_dyn_to : S_api_Value → Option (S_any)) (h_dyn_to : (C_dyn_to PC FC @XM E_any E_api_Value E_api_Pair c_dyn_to)) (m : Nat)  : H_dyn_to_5 AT @XM List.length E_any E_dyn_Member E_api_Pair m   (p_dyn_to_5 c_dyn_to ) := loopH (o_dyn_to_5 LW rfl rfl HA HZ HF c_dyn_to h_dyn_to m     )
theorem s_dyn_to_0 (c_dyn_to : S_api_Value → Option (S_any)) (h_dyn_to : (C_dyn_to PC FC @XM E_any E_api_Value E_api_Pair c_dyn_to)) (m : Nat)  : H_dyn_to_0 AT @XM E_any E_api_Value E_api_Pair m   (p_dyn_to_0 c_dyn_to ) := (o_dyn_to_0 LW rfl rfl HA HZ HF c_dyn_to h_dyn_to m     (s_dyn_to_1 c_dyn_to h_dyn_to m ) (s_dyn_to_5 c_dyn_to h_dyn_to m ))
def pk_dyn_to : Nat → (S_api_Value → Option (S_any))
  | 0 => fun _ => none
  | k + 1 => fun ⟨v0_0, v0_1, v0_2, v0_3, v0_4⟩ => p_dyn_to_0 ((pk_dyn_to k))  (v0_0, v0_1, v0_2, v0_3, v0_4)
theorem sk_dyn_to : ∀ k, ((C_dyn_to PC FC @XM E_any E_api_Value E_api_Pair ((pk_dyn_to k)))) ∧ True
  | 0 => by
    refine ⟨?_, trivial⟩
    · intro _ _ _ _ _ _ hp; exact nomatch (show none = some _ from hp)
  | k + 1 => by
    obtain ⟨ih0, _⟩ := sk_dyn_to k
    refine ⟨?_, trivial⟩
    · intro v0_0 v0_1 v0_2 v0_3 v0_4 _ hp stk    
      exact pf_of (T := table) (G := glob) (f := 16) rfl rfl (Hd.on (s_dyn_to_0 ((pk_dyn_to k)) ih0 (topN stk + 1) ) (v0_0, v0_1, v0_2, v0_3, v0_4) hp stk )
def p_dyn_to : S_api_Value → Option (S_any) := (pk_dyn_to 1000000)
theorem s_dyn_to : (C_dyn_to PC FC @XM E_any E_api_Value E_api_Pair p_dyn_to) := (sk_dyn_to 1000000).1
def p_dyn_Odd_1 (c_dyn_Odd : S_api_Value → Option (S_any))  : T_dyn_Odd_1 → Option R_dyn_Odd := Prims.real.loop (b_dyn_Odd_1 Prims.real p_dyn_to c_dyn_Odd  )
theorem u_dyn_Odd_1 (c_dyn_Odd : S_api_Value → Option (S_any))  (s : T_dyn_Odd_1) : p_dyn_Odd_1 c_dyn_Odd  s = (match b_dyn_Odd_1 Prims.real p_dyn_to c_dyn_Odd   s with | some (.inl t) => p_dyn_Odd_1 c_dyn_Odd  t | some (.inr r) => some r | none => none) := (Pr.loop_eq' _ s).trans (by rcases b_dyn_Odd_1 Prims.real p_dyn_to c_dyn_Odd   s with _|_|_ <;> rfl)
def p_dyn_Odd_5 (c_dyn_Odd : S_api_Value → Option (S_any))  : T_dyn_Odd_5 → Option R_dyn_Odd := Prims.real.loop (b_dyn_Odd_5 Prims.real p_dyn_to c_dyn_Odd  )
theorem u_dyn_Odd_5 (c_dyn_Odd : S_api_Value → Option (S_any))  (s : T_dyn_Odd_5) : p_dyn_Odd_5 c_dyn_Odd  s = (match b_dyn_Odd_5 Prims.real p_dyn_to c_dyn_Odd   s with | some (.inl t) => p_dyn_Odd_5 c_dyn_Odd  t | some (.inr r) => some r | none => none) := (Pr.loop_eq' _ s).trans (by rcases b_dyn_Odd_5 Prims.real p_dyn_to c_dyn_Odd   s with _|_|_ <;> rfl)
def p_dyn_Odd_0 (c_dyn_Odd : S_api_Value → Option (S_any))  : T_dyn_Odd_0 → Option R_dyn_Odd := (b_dyn_Odd_0 Prims.real p_dyn_to c_dyn_Odd  (p_dyn_Odd_1 c_dyn_Odd ) (p_dyn_Odd_5 c_dyn_Odd ))
theorem s_dyn_Odd_1 (c_dyn_Odd : S_api_Value → Option (S_any)) (h_dyn_Odd : (C_dyn_Odd PC FC @XM E_any E_api_Value E_api_Pair c_dyn_Odd)) (m : Nat)  : H_dyn_Odd_1 AT @XM List.length E_any E_api_Value m   (p_dyn_Odd_1 c_dyn_Odd ) := loopH (o_dyn_Odd_1 LW rfl rfl HA HZ HF p_dyn_to c_dyn_Odd s_dyn_to h_dyn_Odd m     )
theorem s_dyn_Odd_5 (c_dyn_Odd : S_api_Value → Option (S_any)) (h_dyn_Odd : (C_dyn_Odd PC FC @XM E_any E_api_Value E_api_Pair c_dyn_Odd)) (m : Nat)  : H_dyn_Odd_5 AT @XM List.length E_any E_dyn_Member E_api_Pair m   (p_dyn_Odd_5 c_dyn_Odd ) := loopH (o_dyn_Odd_5 LW rfl rfl HA HZ HF p_dyn_to c_dyn_Odd s_dyn_to h_dyn_Odd m     )
theorem s_dyn_Odd_0 (c_dyn_Odd : S_api_Value → Option (S_any)) (h_dyn_Odd : (C_dyn_Odd PC FC @XM E_any E_api_Value E_api_Pair c_dyn_Odd)) (m : Nat)  : H_dyn_Odd_0 AT @XM E_any E_api_Value E_api_Pair m   (p_dyn_Odd_0 c_dyn_Odd ) := (o_dyn_Odd_0 LW rfl rfl HA HZ HF p_dyn_to c_dyn_Odd s_dyn_to h_dyn_Odd m     (s_dyn_Odd_1 c_dyn_Odd h_dyn_Odd m ) (s_dyn_Odd_5 c_dyn_Odd h_dyn_Odd m ))
def pk_dyn_Odd : Nat → (S_api_Value → Option (S_any))
  | 0 => fun _ => none
  | k + 1 => fun ⟨v0_0, v0_1, v0_2, v0_3, v0_4⟩ => p_dyn_Odd_0 ((pk_dyn_Odd k))  (v0_0, v0_1, v0_2, v0_3, v0_4)
theorem sk_dyn_Odd : ∀ k, ((C_dyn_Odd PC FC @XM E_any E_api_Value E_api_Pair ((pk_dyn_Odd k)))) ∧ True
  | 0 => by
    refine ⟨?_, trivial⟩
    · intro _ _ _ _ _ _ hp; exact nomatch (show none = some _ from hp)
  | k + 1 => by
    obtain ⟨ih0, _⟩ := sk_dyn_Odd k
    refine ⟨?_, trivial⟩
    · intro v0_0 v0_1 v0_2 v0_3 v0_4 _ hp stk    
      exact pf_of (T := table) (G := glob) (f := 8) rfl rfl (Hd.on (s_dyn_Odd_0 ((pk_dyn_Odd k)) ih0 (topN stk + 1) ) (v0_0, v0_1, v0_2, v0_3, v0_4) hp stk )
def p_dyn_Odd : S_api_Value → Option (S_any) := (pk_dyn_Odd 1000000)
theorem s_dyn_Odd : (C_dyn_Odd PC FC @XM E_any E_api_Value E_api_Pair p_dyn_Odd) := (sk_dyn_Odd 1000000).1
def p_dyn_caught_1   : T_dyn_caught_1 → Option R_dyn_caught := (b_dyn_caught_1 Prims.real   )
def p_dyn_caught_0   : T_dyn_caught_0 → Option R_dyn_caught := (b_dyn_caught_0 Prims.real   p_dyn_caught_1)
theorem s_dyn_caught_1   (m : Nat)  : H_dyn_caught_1 AT m   (p_dyn_caught_1  ) := (o_dyn_caught_1 LW rfl rfl HA HZ HF   m     )
theorem s_dyn_caught_0   (m : Nat)  : H_dyn_caught_0 AT E_any m   (p_dyn_caught_0  ) := (o_dyn_caught_0 LW rfl rfl HA HZ HF   m     (s_dyn_caught_1   m ))
def p_dyn_caught : S_any → Option (Int) := fun v0 => p_dyn_caught_0   v0
theorem s_dyn_caught : (C_dyn_caught PC FC E_any p_dyn_caught) := by
  intro v0 _ hp stk    
  exact pf_of (T := table) (G := glob) (f := 15) rfl rfl (Hd.on (s_dyn_caught_0   (topN stk + 1) ) v0 hp stk )
def p_dyn_Texts_1_h__0_0   : T_dyn_Texts_1_h__0_0 → Option R_dyn_Texts_1_h__0 := (b_dyn_Texts_1_h__0_0 Prims.real p_dyn_caught  )
section
variable (m : Nat) (n0 n1 : Nat) (k0 k1 : Kl) (hl0 : n0 < m) (hl1 : n1 < m) (hd0_1 : NE n0 k0 n1 k1)
include m n0 n1 k0 k1 hl0 hl1 hd0_1
theorem s_dyn_Texts_1_h__0_0    : H_dyn_Texts_1_h__0_0 AT @XM setO E_any E_string m n0 n1 k0 k1  (p_dyn_Texts_1_h__0_0  ) := (o_dyn_Texts_1_h__0_0 LW rfl rfl HA HZ HF p_dyn_caught s_dyn_caught m n0 n1 k0 k1  hl0 hl1 hd0_1 )
end
def p_dyn_Texts_1_h__0 : S_any → Int → (List Str) → Option (Int × (List Str)) := fun v0 L0_0 L1_0 => p_dyn_Texts_1_h__0_0   (v0, L0_0, L1_0)
theorem s_dyn_Texts_1_h__0 : (C_dyn_Texts_1_h__0 FC @XM setO E_any E_string p_dyn_Texts_1_h__0) := by
  intro v0 L0_0 L1_0 _ _ hp stk n0 k0 n1 k1 hg0 hg1 hl0 hl1 hd0_1
  exact fcall_hnd (T := table) (G := glob) (f := 1000014) (tr := 2) rfl rfl rfl (HdG.on (s_dyn_Texts_1_h__0_0 (topN stk + 1) n0 n1 k0 k1 (Nat.lt_succ_of_le hl0) (Nat.lt_succ_of_le hl1) hd0_1   ) (v0, L0_0, L1_0) hp stk ⟨hg0, hg1, trivial⟩)
def p_dyn_Texts_1   : T_dyn_Texts_1 → Option R_dyn_Texts := Prims.real.loop (b_dyn_Texts_1 Prims.real p_dyn_Texts_1_h__0  )
theorem u_dyn_Texts_1   (s : T_dyn_Texts_1) : p_dyn_Texts_1   s = (match b_dyn_Texts_1 Prims.real p_dyn_Texts_1_h__0   s with | some (.inl t) => p_dyn_Texts_1   t | some (.inr r) => some r | none => none) := (Pr.loop_eq' _ s).trans (by rcases b_dyn_Texts_1 Prims.real p_dyn_Texts_1_h__0   s with _|_|_ <;> rfl)
def p_dyn_Texts_0   : T_dyn_Texts_0 → Option R_dyn_Texts := (b_dyn_Texts_0 Prims.real p_dyn_Texts_1_h__0  p_dyn_Texts_1)
theorem s_dyn_Texts_1   (m : Nat)  : H_dyn_Texts_1 AT @XM List.length E_any E_string m   (p_dyn_Texts_1  ) := loopH (o_dyn_Texts_1 LW rfl rfl HA HZ HF p_dyn_Texts_1_h__0 s_dyn_Texts_1_h__0 m     )
theorem s_dyn_Texts_0   (m : Nat)  : H_dyn_Texts_0 AT @XM E_any E_string m   (p_dyn_Texts_0  ) := (o_dyn_Texts_0 LW rfl rfl HA HZ HF p_dyn_Texts_1_h__0 s_dyn_Texts_1_h__0 m     (s_dyn_Texts_1   m ))
def p_dyn_Texts : S_any → Option ((List Str) × Int) := fun v0 => p_dyn_Texts_0   v0
theorem s_dyn_Texts : (C_dyn_Texts PC FC @XM E_any E_string p_dyn_Texts) := by
  intro v0 _ _ hp stk    
  exact pf_of (T := table) (G := glob) (f := 7) rfl rfl (Hd.on (s_dyn_Texts_0   (topN stk + 1) ) v0 hp stk )
def p_cascaderef04_Texts_3   : T_cascaderef04_Texts_3 → Option R_cascaderef04_Texts := Prims.real.loop (b_cascaderef04_Texts_3 Prims.real   )
theorem u_cascaderef04_Texts_3   (s : T_cascaderef04_Texts_3) : p_cascaderef04_Texts_3   s = (match b_cascaderef04_Texts_3 Prims.real    s with | some (.inl t) => p_cascaderef04_Texts_3   t | some (.inr r) => some r | none => none) := (Pr.loop_eq' _ s).trans (by rcases b_cascaderef04_Texts_3 Prims.real    s with _|_|_ <;> rfl)
def p_cascaderef04_Texts_1   : T_cascaderef04_Texts_1 → Option R_cascaderef04_Texts := (b_cascaderef04_Texts_1 Prims.real   p_cascaderef04_Texts_3)
def p_cascaderef04_Texts_0   : T_cascaderef04_Texts_0 → Option R_cascaderef04_Texts := (b_cascaderef04_Texts_0 Prims.real   p_cascaderef04_Texts_1)
theorem s_cascaderef04_Texts_3   (m : Nat)  : H_cascaderef04_Texts_3 AT @XM List.length E_api_Value E_api_Pair E_string m   (p_cascaderef04_Texts_3  ) := loopH (o_cascaderef04_Texts_3 LW rfl rfl HA HZ HF   m     )
theorem s_cascaderef04_Texts_1   (m : Nat)  : H_cascaderef04_Texts_1 AT @XM List.length E_api_Value E_api_Pair E_string m   (p_cascaderef04_Texts_1  ) := (o_cascaderef04_Texts_1 LW rfl rfl HA HZ HF   m     (s_cascaderef04_Texts_3   m ))
theorem s_cascaderef04_Texts_0   (m : Nat)  : H_cascaderef04_Texts_0 AT @XM E_api_Value E_api_Pair E_string m   (p_cascaderef04_Texts_0  ) := (o_cascaderef04_Texts_0 LW rfl rfl HA HZ HF   m     (s_cascaderef04_Texts_1   m ))
def p_cascaderef04_Texts : S_api_Value → Option ((List Str) × Bool) := fun ⟨v0_0, v0_1, v0_2, v0_3, v0_4⟩ => p_cascaderef04_Texts_0   (v0_0, v0_1, v0_2, v0_3, v0_4)
theorem s_cascaderef04_Texts : (C_cascaderef04_Texts PC FC @XM E_api_Value E_api_Pair E_string p_cascaderef04_Texts) := by
  intro v0_0 v0_1 v0_2 v0_3 v0_4 _ _ hp stk    
  exact pf_of (T := table) (G := glob) (f := 9) rfl rfl (Hd.on (s_cascaderef04_Texts_0   (topN stk + 1) ) (v0_0, v0_1, v0_2, v0_3, v0_4) hp stk )
def p_cascadelaw04_DynTexts_3   : T_cascadelaw04_DynTexts_3 → Option R_cascadelaw04_DynTexts := Prims.real.loop (b_cascadelaw04_DynTexts_3 Prims.real p_cascadelaw04_awake p_cascaderef03_Few p_dyn_Odd p_dyn_Texts p_cascaderef04_Texts  )
theorem u_cascadelaw04_DynTexts_3   (s : T_cascadelaw04_DynTexts_3) : p_cascadelaw04_DynTexts_3   s = (match b_cascadelaw04_DynTexts_3 Prims.real p_cascadelaw04_awake p_cascaderef03_Few p_dyn_Odd p_dyn_Texts p_cascaderef04_Texts   s with | some (.inl t) => p_cascadelaw04_DynTexts_3   t | some (.inr r) => some r | none => none) := (Pr.loop_eq' _ s).trans (by rcases b_cascadelaw04_DynTexts_3 Prims.real p_cascadelaw04_awake p_cascaderef03_Few p_dyn_Odd p_dyn_Texts p_cascaderef04_Texts   s with _|_|_ <;> rfl)
def p_cascadelaw04_DynTexts_2   : T_cascadelaw04_DynTexts_2 → Option R_cascadelaw04_DynTexts := (b_cascadelaw04_DynTexts_2 Prims.real p_cascadelaw04_awake p_cascaderef03_Few p_dyn_Odd p_dyn_Texts p_cascaderef04_Texts  p_cascadelaw04_DynTexts_3)
def p_cascadelaw04_DynTexts_0   : T_cascadelaw04_DynTexts_0 → Option R_cascadelaw04_DynTexts := (b_cascadelaw04_DynTexts_0 Prims.real p_cascadelaw04_awake p_cascaderef03_Few p_dyn_Odd p_dyn_Texts p_cascaderef04_Texts  p_cascadelaw04_DynTexts_2)
theorem s_cascadelaw04_DynTexts_3   (m : Nat)  : H_cascadelaw04_DynTexts_3 AT @XM E_string m   (p_cascadelaw04_DynTexts_3  ) := loopH (o_cascadelaw04_DynTexts_3 LW rfl rfl HA HZ HF p_cascadelaw04_awake p_cascaderef03_Few p_dyn_Odd p_dyn_Texts p_cascaderef04_Texts s_cascadelaw04_awake s_cascaderef03_Few s_dyn_Odd s_dyn_Texts s_cascaderef04_Texts m     )
theorem s_cascadelaw04_DynTexts_2   (m : Nat)  : H_cascadelaw04_DynTexts_2 AT @XM E_string m   (p_cascadelaw04_DynTexts_2  ) := (o_cascadelaw04_DynTexts_2 LW rfl rfl HA HZ HF p_cascadelaw04_awake p_cascaderef03_Few p_dyn_Odd p_dyn_Texts p_cascaderef04_Texts s_cascadelaw04_awake s_cascaderef03_Few s_dyn_Odd s_dyn_Texts s_cascaderef04_Texts m     (s_cascadelaw04_DynTexts_3   m ))
theorem s_cascadelaw04_DynTexts_0   (m : Nat)  : H_cascadelaw04_DynTexts_0 AT @XM E_api_Value E_api_Pair m   (p_cascadelaw04_DynTexts_0  ) := (o_cascadelaw04_DynTexts_0 LW rfl rfl HA HZ HF p_cascadelaw04_awake p_cascaderef03_Few p_dyn_Odd p_dyn_Texts p_cascaderef04_Texts s_cascadelaw04_awake s_cascaderef03_Few s_dyn_Odd s_dyn_Texts s_cascaderef04_Texts m     (s_cascadelaw04_DynTexts_2   m ))
def p_cascadelaw04_DynTexts : S_api_Value → Option (Bool) := fun ⟨v0_0, v0_1, v0_2, v0_3, v0_4⟩ => p_cascadelaw04_DynTexts_0   (v0_0, v0_1, v0_2, v0_3, v0_4)
theorem s_cascadelaw04_DynTexts : (C_cascadelaw04_DynTexts PC FC @XM E_api_Value E_api_Pair p_cascadelaw04_DynTexts) := by
  intro v0_0 v0_1 v0_2 v0_3 v0_4 _ hp stk    
  exact pf_of (T := table) (G := glob) (f := 3) rfl rfl (Hd.on (s_cascadelaw04_DynTexts_0   (topN stk + 1) ) (v0_0, v0_1, v0_2, v0_3, v0_4) hp stk )
end
end Go.Abs.T
