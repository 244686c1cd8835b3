import Derived.Test.YtacabmodmbcldaaDoorWQ
import Derived.KernelRfl
set_option linter.unusedVariables false
namespace Go.Abs.Q
set_option maxRecDepth 100000
theorem table_ok : ∀ f kf, table f = some kf → kf.ok = true := by
  intro f kf h
  unfold table at h
  split at h <;> first | (cases h; done) | (cases h; kernel_rfl)
theorem LW : KLaws (oldT table) iterW glob (callW (oldT table) glob) (sysW table glob).pcall (sysW table glob).fcall (sysW table glob).kcall (List.length) (fun xs i => xs[i]?) (fun xs lo hi => (xs.take hi).drop lo) (fun xs ys => xs ++ ys) (fun xs i x => xs.set i x) (fun n x => List.replicate n x) (allSz) (List.length) (fun s i => s[i]?) (fun s lo hi => (s.take hi).drop lo) (fun a b => a ++ b) (fun a b => a == b) (fun a b => Op.bytesLess a b) (fun s => s.map fun b => .int .u8 b.toNat) (bytesOf) (fun s i => Utf8.decode ⟨⟨s⟩⟩ i) (fun n => (Utf8.encode n).data.toList) (intAr) (intCmp) (fun k n => k.wrap n) (fun n => decide (n = 0)) (fun n => decide (n < 0)) (fun n => n.toNat) (fun (n : Nat) => (n : Int)) (fun (b : UInt8) => (b.toNat : Int)) (fun a b => decide (a ≤ b)) (fun a b => a + b) (fun a b => a - b) (fun n b => decide (n * b ≤ room ∧ n ≤ room)) (findE) (Go.Abs.putE) (Go.Abs.findK) (List.length) (frzMap) (atW table glob) setO (fun s => topN s + 1) sameStk (fun {_} e l => List.map e l) (fun {_} e l => mapE e l) Pr.quo Pr.shf Pr.slen Pr.sidx Pr.ssub Pr.scat Pr.sit Pr.slist Pr.ofBytes @Pr.len @Pr.idx @Pr.sub @Pr.app @Pr.set @Pr.make @Pr.mfind @Pr.mput @Pr.loop table := KLaws.real (G := glob) table_ok
abbrev XM {α : Type} (e : α → D) (l : List α) : List D := List.map e l
noncomputable abbrev AT := atW table glob
noncomputable abbrev PC := (sysW table glob).pcall
noncomputable abbrev FC := (sysW table glob).fcall
noncomputable abbrev KC_ := (sysW table glob).kcall
def E_string : Str → D := fun x => (.str x)
theorem he_E_string (x : Str) : E_string x = (.str x) := rfl
theorem hz_E_string (l : List Str) : allSz 1 (l.map E_string) = true := LW.allsz E_string 1 (fun a => ⟨rfl, rfl⟩) l
theorem s_strings_ReplaceAll : (C_strings_ReplaceAll PC FC p_strings_ReplaceAll) := by
  intro _ _ _ _ hp stk
  exact ⟨pcall_ext (T := table) (G := glob) (f := 85) (e := ext_strings_ReplaceAll) rfl rfl (x_strings_ReplaceAll hp) stk, fcall_ext (T := table) (G := glob) (f := 85) (e := ext_strings_ReplaceAll) rfl rfl (x_strings_ReplaceAll hp) stk⟩
theorem s_strings_IndexByte : (C_strings_IndexByte PC FC p_strings_IndexByte) := by
  intro _ _ _ hp stk
  exact ⟨pcall_ext (T := table) (G := glob) (f := 115) (e := ext_strings_IndexByte) rfl rfl (x_strings_IndexByte hp) stk, fcall_ext (T := table) (G := glob) (f := 115) (e := ext_strings_IndexByte) rfl rfl (x_strings_IndexByte hp) stk⟩
theorem s_strings_HasPrefix : (C_strings_HasPrefix PC FC p_strings_HasPrefix) := by
  intro _ _ _ hp stk
  exact ⟨pcall_ext (T := table) (G := glob) (f := 116) (e := ext_strings_HasPrefix) rfl rfl (x_strings_HasPrefix hp) stk, fcall_ext (T := table) (G := glob) (f := 116) (e := ext_strings_HasPrefix) rfl rfl (x_strings_HasPrefix hp) stk⟩
noncomputable def p_text_Lines__0_4  (v0 : Str) (o3_g : Nat) (o3 : (List Str)) (v4 : Int) : Option ((Str × Nat × (List Str)) ⊕ (Nat × (List Str))) := b_text_Lines__0_4 Prims.real p_strings_IndexByte p_strings_HasPrefix  v0 o3_g o3 v4
theorem s_text_Lines__0_4   (m : Nat)    : H_text_Lines__0_4 AT @XM List.length E_string m  p_text_Lines__0_4 := by
  intro v0 o3_g o3 v4 out hp stk 
  exact o_text_Lines__0_4 LW rfl rfl he_E_string hz_E_string p_strings_IndexByte p_strings_HasPrefix s_strings_IndexByte s_strings_HasPrefix stk m v0 o3_g o3 v4 hp
noncomputable def p_text_Lines__0_2  (v0 : Str) (o3_g : Nat) (o3 : (List Str)) (v4 : Int) : Option ((Str × Nat × (List Str)) ⊕ (Nat × (List Str))) := b_text_Lines__0_2 Prims.real p_strings_IndexByte p_strings_HasPrefix p_text_Lines__0_4 v0 o3_g o3 v4
theorem s_text_Lines__0_2   (m : Nat)    : H_text_Lines__0_2 AT @XM List.length E_string m  p_text_Lines__0_2 := by
  intro v0 o3_g o3 v4 out hp stk 
  exact o_text_Lines__0_2 LW rfl rfl he_E_string hz_E_string p_strings_IndexByte p_strings_HasPrefix s_strings_IndexByte s_strings_HasPrefix stk m p_text_Lines__0_4 v0 o3_g o3 v4 (s_text_Lines__0_4 m ) hp
noncomputable def p_text_Lines__0_1  (v0 : Str) (o3_g : Nat) (o3 : (List Str)) : Option (Nat × (List Str)) := Prims.real.loop (fun (s : Str × Nat × (List Str)) => match s with | (v0, o3_g, o3) => b_text_Lines__0_1 Prims.real p_strings_IndexByte p_strings_HasPrefix p_text_Lines__0_2 v0 o3_g o3) (v0, o3_g, o3)
theorem u_text_Lines__0_1  (v0 : Str) (o3_g : Nat) (o3 : (List Str)) : p_text_Lines__0_1  v0 o3_g o3 = match b_text_Lines__0_1 Prims.real p_strings_IndexByte p_strings_HasPrefix p_text_Lines__0_2 v0 o3_g o3 with
    | some (.inl (v0', o3_g', o3')) => p_text_Lines__0_1  v0' o3_g' o3'
    | some (.inr r) => some r
    | none => none := by
  show Pr.loop _ _ = _
  rw [Pr.loop_eq]
  try dsimp only
  generalize b_text_Lines__0_1 Prims.real p_strings_IndexByte p_strings_HasPrefix p_text_Lines__0_2 v0 o3_g o3 = y
  cases y with
  | none => rfl
  | some y => cases y <;> rfl
theorem s_text_Lines__0_1   (m : Nat)    : H_text_Lines__0_1 AT @XM List.length E_string m  p_text_Lines__0_1 := by
  intro v0 o3_g o3 out hp stk 
  refine LW.ind _ (fun (s : Str × Nat × (List Str)) o => match s with | (v0, o3_g, o3) => ∀ (stk : Stk), (A_text_Lines__0_1 AT @XM List.length E_string m  v0 o3_g o3 stk) = (O_text_Lines__0 @XM List.length E_string m  stk) o) (fun s r e => ?_) (fun s t r e ih => ?_) (v0, o3_g, o3) out hp stk 
  · obtain ⟨v0, o3_g, o3⟩ := s
    intro stk 
    exact o_text_Lines__0_1 LW rfl rfl he_E_string hz_E_string p_strings_IndexByte p_strings_HasPrefix s_strings_IndexByte s_strings_HasPrefix stk m p_text_Lines__0_2 v0 o3_g o3 (s_text_Lines__0_2 m ) e
  · obtain ⟨v0, o3_g, o3⟩ := s; obtain ⟨v0', o3_g', o3'⟩ := t
    intro stk 
    exact (o_text_Lines__0_1 LW rfl rfl he_E_string hz_E_string p_strings_IndexByte p_strings_HasPrefix s_strings_IndexByte s_strings_HasPrefix stk m p_text_Lines__0_2 v0 o3_g o3 (s_text_Lines__0_2 m ) e).trans (ih stk )
noncomputable def p_text_Lines__0_0  (v0 : Str) : Option (Nat × (List Str)) := b_text_Lines__0_0 Prims.real p_strings_IndexByte p_strings_HasPrefix p_text_Lines__0_1 v0
theorem s_text_Lines__0_0   (m : Nat)    : H_text_Lines__0_0 AT @XM List.length E_string m  p_text_Lines__0_0 := by
  intro v0 out hp stk 
  exact o_text_Lines__0_0 LW rfl rfl he_E_string hz_E_string p_strings_IndexByte p_strings_HasPrefix s_strings_IndexByte s_strings_HasPrefix stk m p_text_Lines__0_1 v0 (s_text_Lines__0_1 m ) hp
noncomputable def p_text_Lines__0 : Str → Option (Nat × (List Str)) := fun v0 => p_text_Lines__0_0  v0
theorem s_text_Lines__0 : (C_text_Lines__0 KC_ @XM List.length E_string p_text_Lines__0) := by
  intro _ _ _ hp stk    
  intro m hm
  subst hm
  exact kcall_of (T := table) (G := glob) (f := 84) (ks := [[3]]) rfl rfl (s_text_Lines__0_0   (topN stk + 1)    hp stk )
theorem s_strings_TrimLeft : (C_strings_TrimLeft PC FC p_strings_TrimLeft) := by
  intro _ _ _ hp stk
  exact ⟨pcall_ext (T := table) (G := glob) (f := 114) (e := ext_strings_TrimLeft) rfl rfl (x_strings_TrimLeft hp) stk, fcall_ext (T := table) (G := glob) (f := 114) (e := ext_strings_TrimLeft) rfl rfl (x_strings_TrimLeft hp) stk⟩
noncomputable def p_block_lead_0  (v0 : Str) : Option (Int × Bool) := b_block_lead_0 Prims.real p_strings_TrimLeft  v0
theorem s_block_lead_0   (m : Nat)    : H_block_lead_0 AT m  p_block_lead_0 := by
  intro v0 out hp stk 
  exact o_block_lead_0 LW rfl rfl he_E_string hz_E_string p_strings_TrimLeft s_strings_TrimLeft stk m v0 hp
noncomputable def p_block_lead : Str → Option (Int × Bool) := fun v0 => p_block_lead_0  v0
theorem s_block_lead : (C_block_lead PC FC p_block_lead) := by
  intro _ _ _ hp stk    
  exact pf_of (T := table) (G := glob) (f := 82) rfl rfl (s_block_lead_0   (topN stk + 1)    hp stk )
noncomputable def p_block_Indent__0_5  (v3 : Int) (v4 : Bool) (L0_g : Nat) (L0 : (List Str)) (v10 v11 : Int) : Option ((Int × Bool × Int × Int) ⊕ (Int)) := b_block_Indent__0_5 Prims.real p_block_lead  v3 v4 L0_g L0 v10 v11
theorem s_block_Indent__0_5   (m : Nat) (n0 : Nat) (k0 : List Nat) (hl0 : n0 < m)  : H_block_Indent__0_5 AT @XM List.length E_string m n0 k0 p_block_Indent__0_5 := by
  intro v3 v4 L0_g L0 v10 v11 out hp stk hg0
  exact o_block_Indent__0_5 LW rfl rfl he_E_string hz_E_string p_block_lead s_block_lead stk m n0 k0 hl0 v3 v4 L0_g L0 v10 v11 hg0 hp
noncomputable def p_block_Indent__0_4  (v3 : Int) (L0_g : Nat) (L0 : (List Str)) (v10 v11 : Int) : Option ((Int × Bool × Int × Int) ⊕ (Int)) := b_block_Indent__0_4 Prims.real p_block_lead p_block_Indent__0_5 v3 L0_g L0 v10 v11
theorem s_block_Indent__0_4   (m : Nat) (n0 : Nat) (k0 : List Nat) (hl0 : n0 < m)  : H_block_Indent__0_4 AT @XM List.length E_string m n0 k0 p_block_Indent__0_4 := by
  intro v3 L0_g L0 v10 v11 out hp stk hg0
  exact o_block_Indent__0_4 LW rfl rfl he_E_string hz_E_string p_block_lead s_block_lead stk m n0 k0 hl0 p_block_Indent__0_5 v3 L0_g L0 v10 v11 hg0 (s_block_Indent__0_5 m n0 k0 hl0 ) hp
noncomputable def p_block_Indent__0_1  (v3 : Int) (v4 : Bool) (L0_g : Nat) (L0 : (List Str)) (v10 v11 : Int) : Option (Int) := Prims.real.loop (fun (s : Int × Bool × Int × Int) => match s with | (v3, v4, v10, v11) => b_block_Indent__0_1 Prims.real p_block_lead p_block_Indent__0_4 p_block_Indent__0_5 v3 v4 L0_g L0 v10 v11) (v3, v4, v10, v11)
theorem u_block_Indent__0_1  (v3 : Int) (v4 : Bool) (L0_g : Nat) (L0 : (List Str)) (v10 v11 : Int) : p_block_Indent__0_1  v3 v4 L0_g L0 v10 v11 = match b_block_Indent__0_1 Prims.real p_block_lead p_block_Indent__0_4 p_block_Indent__0_5 v3 v4 L0_g L0 v10 v11 with
    | some (.inl (v3', v4', v10', v11')) => p_block_Indent__0_1  v3' v4' L0_g L0 v10' v11'
    | some (.inr r) => some r
    | none => none := by
  show Pr.loop _ _ = _
  rw [Pr.loop_eq]
  try dsimp only
  generalize b_block_Indent__0_1 Prims.real p_block_lead p_block_Indent__0_4 p_block_Indent__0_5 v3 v4 L0_g L0 v10 v11 = y
  cases y with
  | none => rfl
  | some y => cases y <;> rfl
theorem s_block_Indent__0_1   (m : Nat) (n0 : Nat) (k0 : List Nat) (hl0 : n0 < m)  : H_block_Indent__0_1 AT @XM List.length E_string m n0 k0 p_block_Indent__0_1 := by
  intro v3 v4 L0_g L0 v10 v11 out hp stk hg0
  refine LW.ind _ (fun (s : Int × Bool × Int × Int) o => match s with | (v3, v4, v10, v11) => ∀ (stk : Stk), getO stk ⟨n0, k0⟩ = some (.arr L0_g 1 (List.map E_string L0)) → (A_block_Indent__0_1 AT @XM List.length E_string m n0 k0 v3 v4 L0_g L0 v10 v11 stk) = (O_block_Indent__0  m n0 k0 stk) o) (fun s r e => ?_) (fun s t r e ih => ?_) (v3, v4, v10, v11) out hp stk hg0
  · obtain ⟨v3, v4, v10, v11⟩ := s
    intro stk hg0
    exact o_block_Indent__0_1 LW rfl rfl he_E_string hz_E_string p_block_lead s_block_lead stk m n0 k0 hl0 p_block_Indent__0_4 p_block_Indent__0_5 v3 v4 L0_g L0 v10 v11 hg0 (s_block_Indent__0_4 m n0 k0 hl0 ) (s_block_Indent__0_5 m n0 k0 hl0 ) e
  · obtain ⟨v3, v4, v10, v11⟩ := s; obtain ⟨v3', v4', v10', v11'⟩ := t
    intro stk hg0
    exact (o_block_Indent__0_1 LW rfl rfl he_E_string hz_E_string p_block_lead s_block_lead stk m n0 k0 hl0 p_block_Indent__0_4 p_block_Indent__0_5 v3 v4 L0_g L0 v10 v11 hg0 (s_block_Indent__0_4 m n0 k0 hl0 ) (s_block_Indent__0_5 m n0 k0 hl0 ) e).trans (ih stk (hg0))
noncomputable def p_block_Indent__0_0  (L0_g : Nat) (L0 : (List Str)) : Option (Int) := b_block_Indent__0_0 Prims.real p_block_lead p_block_Indent__0_1 L0_g L0
theorem s_block_Indent__0_0   (m : Nat) (n0 : Nat) (k0 : List Nat) (hl0 : n0 < m)  : H_block_Indent__0_0 AT @XM List.length E_string m n0 k0 p_block_Indent__0_0 := by
  intro L0_g L0 out hp stk hg0
  exact o_block_Indent__0_0 LW rfl rfl he_E_string hz_E_string p_block_lead s_block_lead stk m n0 k0 hl0 p_block_Indent__0_1 L0_g L0 hg0 (s_block_Indent__0_1 m n0 k0 hl0 ) hp
noncomputable def p_block_Indent__0 : Nat → (List Str) → Option (Int) := fun L0_g L0 => p_block_Indent__0_0  L0_g L0
theorem s_block_Indent__0 : (C_block_Indent__0 PC FC @XM List.length E_string p_block_Indent__0) := by
  intro _ _ _ hp stk n0 k0 hg0 hl0 
  exact pf_of (T := table) (G := glob) (f := 43) rfl rfl (s_block_Indent__0_0   (topN stk + 1) n0 k0 (Nat.lt_succ_of_le hl0)  hp stk hg0)
noncomputable def p_block_empty_0  (v0 : Str) : Option (Bool) := b_block_empty_0 Prims.real p_block_lead  v0
theorem s_block_empty_0   (m : Nat)    : H_block_empty_0 AT m  p_block_empty_0 := by
  intro v0 out hp stk 
  exact o_block_empty_0 LW rfl rfl he_E_string hz_E_string p_block_lead s_block_lead stk m v0 hp
noncomputable def p_block_empty : Str → Option (Bool) := fun v0 => p_block_empty_0  v0
theorem s_block_empty : (C_block_empty PC FC p_block_empty) := by
  intro _ _ hp stk    
  exact pf_of (T := table) (G := glob) (f := 86) rfl rfl (s_block_empty_0   (topN stk + 1)    hp stk )
theorem s_strings_Join : (C_strings_Join PC FC @XM E_string p_strings_Join) := by
  intro _ _ _ hp stk
  exact ⟨pcall_ext (T := table) (G := glob) (f := 87) (e := ext_strings_Join) rfl rfl (x_strings_Join hp) stk, fcall_ext (T := table) (G := glob) (f := 87) (e := ext_strings_Join) rfl rfl (x_strings_Join hp) stk⟩
noncomputable def p_block_Value_3  (o8_3_g : Nat) (o8_3 : (List Str)) (v4 v12 v13 : Int) : Option ((Nat × (List Str) × Int × Int × Int) ⊕ (Str)) := b_block_Value_3 Prims.real p_strings_ReplaceAll p_text_Lines__0 p_block_Indent__0 p_block_empty p_strings_Join  o8_3_g o8_3 v4 v12 v13
theorem s_block_Value_3   (m : Nat)    : H_block_Value_3 AT @XM List.length E_string m  p_block_Value_3 := by
  intro o8_3_g o8_3 v4 v12 v13 out hp stk 
  exact o_block_Value_3 LW rfl rfl he_E_string hz_E_string p_strings_ReplaceAll p_text_Lines__0 p_block_Indent__0 p_block_empty p_strings_Join s_strings_ReplaceAll s_text_Lines__0 s_block_Indent__0 s_block_empty s_strings_Join stk m o8_3_g o8_3 v4 v12 v13 hp
noncomputable def p_block_Value_10  (v3 : (List Str)) : Option (Str) := b_block_Value_10 Prims.real p_strings_ReplaceAll p_text_Lines__0 p_block_Indent__0 p_block_empty p_strings_Join  v3
theorem s_block_Value_10   (m : Nat)    : H_block_Value_10 AT @XM E_string m  p_block_Value_10 := by
  intro v3 out hp stk 
  exact o_block_Value_10 LW rfl rfl he_E_string hz_E_string p_strings_ReplaceAll p_text_Lines__0 p_block_Indent__0 p_block_empty p_strings_Join s_strings_ReplaceAll s_text_Lines__0 s_block_Indent__0 s_block_empty s_strings_Join stk m v3 hp
noncomputable def p_block_Value_8  (v3 : (List Str)) : Option (Str) := Prims.real.loop (fun (v3 : (List Str)) => b_block_Value_8 Prims.real p_strings_ReplaceAll p_text_Lines__0 p_block_Indent__0 p_block_empty p_strings_Join p_block_Value_10 v3) v3
theorem u_block_Value_8  (v3 : (List Str)) : p_block_Value_8  v3 = match b_block_Value_8 Prims.real p_strings_ReplaceAll p_text_Lines__0 p_block_Indent__0 p_block_empty p_strings_Join p_block_Value_10 v3 with
    | some (.inl v3') => p_block_Value_8  v3'
    | some (.inr r) => some r
    | none => none := by
  show Pr.loop _ _ = _
  rw [Pr.loop_eq]
  try dsimp only
  generalize b_block_Value_8 Prims.real p_strings_ReplaceAll p_text_Lines__0 p_block_Indent__0 p_block_empty p_strings_Join p_block_Value_10 v3 = y
  cases y with
  | none => rfl
  | some y => cases y <;> rfl
theorem s_block_Value_8   (m : Nat)    : H_block_Value_8 AT @XM E_string m  p_block_Value_8 := by
  intro v3 out hp stk 
  refine LW.ind _ (fun (v3 : (List Str)) o => ∀ (stk : Stk), (A_block_Value_8 AT @XM E_string m  v3 stk) = (O_block_Value  m  stk) o) (fun s r e => ?_) (fun s t r e ih => ?_) v3 out hp stk 
  · revert e; revert s; intro v3 e
    intro stk 
    exact o_block_Value_8 LW rfl rfl he_E_string hz_E_string p_strings_ReplaceAll p_text_Lines__0 p_block_Indent__0 p_block_empty p_strings_Join s_strings_ReplaceAll s_text_Lines__0 s_block_Indent__0 s_block_empty s_strings_Join stk m p_block_Value_10 v3 (s_block_Value_10 m ) e
  · revert ih e; revert s t; intro v3 v3' e ih
    intro stk 
    exact (o_block_Value_8 LW rfl rfl he_E_string hz_E_string p_strings_ReplaceAll p_text_Lines__0 p_block_Indent__0 p_block_empty p_strings_Join s_strings_ReplaceAll s_text_Lines__0 s_block_Indent__0 s_block_empty s_strings_Join stk m p_block_Value_10 v3 (s_block_Value_10 m ) e).trans (ih stk )
noncomputable def p_block_Value_7  (v3 : (List Str)) : Option (Str) := b_block_Value_7 Prims.real p_strings_ReplaceAll p_text_Lines__0 p_block_Indent__0 p_block_empty p_strings_Join p_block_Value_8 v3
theorem s_block_Value_7   (m : Nat)    : H_block_Value_7 AT @XM E_string m  p_block_Value_7 := by
  intro v3 out hp stk 
  exact o_block_Value_7 LW rfl rfl he_E_string hz_E_string p_strings_ReplaceAll p_text_Lines__0 p_block_Indent__0 p_block_empty p_strings_Join s_strings_ReplaceAll s_text_Lines__0 s_block_Indent__0 s_block_empty s_strings_Join stk m p_block_Value_8 v3 (s_block_Value_8 m ) hp
noncomputable def p_block_Value_12  (v3 : (List Str)) : Option (((List Str)) ⊕ (Str)) := b_block_Value_12 Prims.real p_strings_ReplaceAll p_text_Lines__0 p_block_Indent__0 p_block_empty p_strings_Join  v3
theorem s_block_Value_12   (m : Nat)    : H_block_Value_12 AT @XM E_string m  p_block_Value_12 := by
  intro v3 out hp stk 
  exact o_block_Value_12 LW rfl rfl he_E_string hz_E_string p_strings_ReplaceAll p_text_Lines__0 p_block_Indent__0 p_block_empty p_strings_Join s_strings_ReplaceAll s_text_Lines__0 s_block_Indent__0 s_block_empty s_strings_Join stk m v3 hp
noncomputable def p_block_Value_11  (v3 : (List Str)) : Option (Str) := Prims.real.loop (fun (v3 : (List Str)) => b_block_Value_11 Prims.real p_strings_ReplaceAll p_text_Lines__0 p_block_Indent__0 p_block_empty p_strings_Join p_block_Value_7 p_block_Value_12 v3) v3
theorem u_block_Value_11  (v3 : (List Str)) : p_block_Value_11  v3 = match b_block_Value_11 Prims.real p_strings_ReplaceAll p_text_Lines__0 p_block_Indent__0 p_block_empty p_strings_Join p_block_Value_7 p_block_Value_12 v3 with
    | some (.inl v3') => p_block_Value_11  v3'
    | some (.inr r) => some r
    | none => none := by
  show Pr.loop _ _ = _
  rw [Pr.loop_eq]
  try dsimp only
  generalize b_block_Value_11 Prims.real p_strings_ReplaceAll p_text_Lines__0 p_block_Indent__0 p_block_empty p_strings_Join p_block_Value_7 p_block_Value_12 v3 = y
  cases y with
  | none => rfl
  | some y => cases y <;> rfl
theorem s_block_Value_11   (m : Nat)    : H_block_Value_11 AT @XM E_string m  p_block_Value_11 := by
  intro v3 out hp stk 
  refine LW.ind _ (fun (v3 : (List Str)) o => ∀ (stk : Stk), (A_block_Value_11 AT @XM E_string m  v3 stk) = (O_block_Value  m  stk) o) (fun s r e => ?_) (fun s t r e ih => ?_) v3 out hp stk 
  · revert e; revert s; intro v3 e
    intro stk 
    exact o_block_Value_11 LW rfl rfl he_E_string hz_E_string p_strings_ReplaceAll p_text_Lines__0 p_block_Indent__0 p_block_empty p_strings_Join s_strings_ReplaceAll s_text_Lines__0 s_block_Indent__0 s_block_empty s_strings_Join stk m p_block_Value_7 p_block_Value_12 v3 (s_block_Value_7 m ) (s_block_Value_12 m ) e
  · revert ih e; revert s t; intro v3 v3' e ih
    intro stk 
    exact (o_block_Value_11 LW rfl rfl he_E_string hz_E_string p_strings_ReplaceAll p_text_Lines__0 p_block_Indent__0 p_block_empty p_strings_Join s_strings_ReplaceAll s_text_Lines__0 s_block_Indent__0 s_block_empty s_strings_Join stk m p_block_Value_7 p_block_Value_12 v3 (s_block_Value_7 m ) (s_block_Value_12 m ) e).trans (ih stk )
noncomputable def p_block_Value_6  (v3 : (List Str)) : Option ((Nat × (List Str)) ⊕ (Str)) := b_block_Value_6 Prims.real p_strings_ReplaceAll p_text_Lines__0 p_block_Indent__0 p_block_empty p_strings_Join p_block_Value_11 v3
theorem s_block_Value_6   (m : Nat)    : H_block_Value_6 AT @XM List.length E_string m  p_block_Value_6 := by
  intro v3 out hp stk 
  exact o_block_Value_6 LW rfl rfl he_E_string hz_E_string p_strings_ReplaceAll p_text_Lines__0 p_block_Indent__0 p_block_empty p_strings_Join s_strings_ReplaceAll s_text_Lines__0 s_block_Indent__0 s_block_empty s_strings_Join stk m p_block_Value_11 v3 (s_block_Value_11 m ) hp
noncomputable def p_block_Value_5  (o8_3_g : Nat) (o8_3 : (List Str)) : Option (Str) := Prims.real.loop (fun (s : Nat × (List Str)) => match s with | (o8_3_g, o8_3) => b_block_Value_5 Prims.real p_strings_ReplaceAll p_text_Lines__0 p_block_Indent__0 p_block_empty p_strings_Join p_block_Value_6 p_block_Value_7 o8_3_g o8_3) (o8_3_g, o8_3)
theorem u_block_Value_5  (o8_3_g : Nat) (o8_3 : (List Str)) : p_block_Value_5  o8_3_g o8_3 = match b_block_Value_5 Prims.real p_strings_ReplaceAll p_text_Lines__0 p_block_Indent__0 p_block_empty p_strings_Join p_block_Value_6 p_block_Value_7 o8_3_g o8_3 with
    | some (.inl (o8_3_g', o8_3')) => p_block_Value_5  o8_3_g' o8_3'
    | some (.inr r) => some r
    | none => none := by
  show Pr.loop _ _ = _
  rw [Pr.loop_eq]
  try dsimp only
  generalize b_block_Value_5 Prims.real p_strings_ReplaceAll p_text_Lines__0 p_block_Indent__0 p_block_empty p_strings_Join p_block_Value_6 p_block_Value_7 o8_3_g o8_3 = y
  cases y with
  | none => rfl
  | some y => cases y <;> rfl
theorem s_block_Value_5   (m : Nat)    : H_block_Value_5 AT @XM List.length E_string m  p_block_Value_5 := by
  intro o8_3_g o8_3 out hp stk 
  refine LW.ind _ (fun (s : Nat × (List Str)) o => match s with | (o8_3_g, o8_3) => ∀ (stk : Stk), (A_block_Value_5 AT @XM List.length E_string m  o8_3_g o8_3 stk) = (O_block_Value  m  stk) o) (fun s r e => ?_) (fun s t r e ih => ?_) (o8_3_g, o8_3) out hp stk 
  · obtain ⟨o8_3_g, o8_3⟩ := s
    intro stk 
    exact o_block_Value_5 LW rfl rfl he_E_string hz_E_string p_strings_ReplaceAll p_text_Lines__0 p_block_Indent__0 p_block_empty p_strings_Join s_strings_ReplaceAll s_text_Lines__0 s_block_Indent__0 s_block_empty s_strings_Join stk m p_block_Value_6 p_block_Value_7 o8_3_g o8_3 (s_block_Value_6 m ) (s_block_Value_7 m ) e
  · obtain ⟨o8_3_g, o8_3⟩ := s; obtain ⟨o8_3_g', o8_3'⟩ := t
    intro stk 
    exact (o_block_Value_5 LW rfl rfl he_E_string hz_E_string p_strings_ReplaceAll p_text_Lines__0 p_block_Indent__0 p_block_empty p_strings_Join s_strings_ReplaceAll s_text_Lines__0 s_block_Indent__0 s_block_empty s_strings_Join stk m p_block_Value_6 p_block_Value_7 o8_3_g o8_3 (s_block_Value_6 m ) (s_block_Value_7 m ) e).trans (ih stk )
noncomputable def p_block_Value_1  (o8_3_g : Nat) (o8_3 : (List Str)) (v4 v12 v13 : Int) : Option (Str) := Prims.real.loop (fun (s : Nat × (List Str) × Int × Int × Int) => match s with | (o8_3_g, o8_3, v4, v12, v13) => b_block_Value_1 Prims.real p_strings_ReplaceAll p_text_Lines__0 p_block_Indent__0 p_block_empty p_strings_Join p_block_Value_3 p_block_Value_5 o8_3_g o8_3 v4 v12 v13) (o8_3_g, o8_3, v4, v12, v13)
theorem u_block_Value_1  (o8_3_g : Nat) (o8_3 : (List Str)) (v4 v12 v13 : Int) : p_block_Value_1  o8_3_g o8_3 v4 v12 v13 = match b_block_Value_1 Prims.real p_strings_ReplaceAll p_text_Lines__0 p_block_Indent__0 p_block_empty p_strings_Join p_block_Value_3 p_block_Value_5 o8_3_g o8_3 v4 v12 v13 with
    | some (.inl (o8_3_g', o8_3', v4', v12', v13')) => p_block_Value_1  o8_3_g' o8_3' v4' v12' v13'
    | some (.inr r) => some r
    | none => none := by
  show Pr.loop _ _ = _
  rw [Pr.loop_eq]
  try dsimp only
  generalize b_block_Value_1 Prims.real p_strings_ReplaceAll p_text_Lines__0 p_block_Indent__0 p_block_empty p_strings_Join p_block_Value_3 p_block_Value_5 o8_3_g o8_3 v4 v12 v13 = y
  cases y with
  | none => rfl
  | some y => cases y <;> rfl
theorem s_block_Value_1   (m : Nat)    : H_block_Value_1 AT @XM List.length E_string m  p_block_Value_1 := by
  intro o8_3_g o8_3 v4 v12 v13 out hp stk 
  refine LW.ind _ (fun (s : Nat × (List Str) × Int × Int × Int) o => match s with | (o8_3_g, o8_3, v4, v12, v13) => ∀ (stk : Stk), (A_block_Value_1 AT @XM List.length E_string m  o8_3_g o8_3 v4 v12 v13 stk) = (O_block_Value  m  stk) o) (fun s r e => ?_) (fun s t r e ih => ?_) (o8_3_g, o8_3, v4, v12, v13) out hp stk 
  · obtain ⟨o8_3_g, o8_3, v4, v12, v13⟩ := s
    intro stk 
    exact o_block_Value_1 LW rfl rfl he_E_string hz_E_string p_strings_ReplaceAll p_text_Lines__0 p_block_Indent__0 p_block_empty p_strings_Join s_strings_ReplaceAll s_text_Lines__0 s_block_Indent__0 s_block_empty s_strings_Join stk m p_block_Value_3 p_block_Value_5 o8_3_g o8_3 v4 v12 v13 (s_block_Value_3 m ) (s_block_Value_5 m ) e
  · obtain ⟨o8_3_g, o8_3, v4, v12, v13⟩ := s; obtain ⟨o8_3_g', o8_3', v4', v12', v13'⟩ := t
    intro stk 
    exact (o_block_Value_1 LW rfl rfl he_E_string hz_E_string p_strings_ReplaceAll p_text_Lines__0 p_block_Indent__0 p_block_empty p_strings_Join s_strings_ReplaceAll s_text_Lines__0 s_block_Indent__0 s_block_empty s_strings_Join stk m p_block_Value_3 p_block_Value_5 o8_3_g o8_3 v4 v12 v13 (s_block_Value_3 m ) (s_block_Value_5 m ) e).trans (ih stk )
noncomputable def p_block_Value_0  (v0 : Str) : Option (Str) := b_block_Value_0 Prims.real p_strings_ReplaceAll p_text_Lines__0 p_block_Indent__0 p_block_empty p_strings_Join p_block_Value_1 v0
theorem s_block_Value_0   (m : Nat)    : H_block_Value_0 AT m  p_block_Value_0 := by
  intro v0 out hp stk 
  exact o_block_Value_0 LW rfl rfl he_E_string hz_E_string p_strings_ReplaceAll p_text_Lines__0 p_block_Indent__0 p_block_empty p_strings_Join s_strings_ReplaceAll s_text_Lines__0 s_block_Indent__0 s_block_empty s_strings_Join stk m p_block_Value_1 v0 (s_block_Value_1 m ) hp
noncomputable def p_block_Value : Str → Option (Str) := fun v0 => p_block_Value_0  v0
theorem s_block_Value : (C_block_Value PC FC p_block_Value) := by
  intro _ _ hp stk    
  exact pf_of (T := table) (G := glob) (f := 45) rfl rfl (s_block_Value_0   (topN stk + 1)    hp stk )
noncomputable def p_block_Indent_5  (v3 : Int) (v4 : Bool) (v9 : (List Str)) (v10 v11 : Int) : Option ((Int × Bool × (List Str) × Int × Int) ⊕ (Int)) := b_block_Indent_5 Prims.real p_block_lead  v3 v4 v9 v10 v11
theorem s_block_Indent_5   (m : Nat)    : H_block_Indent_5 AT @XM E_string m  p_block_Indent_5 := by
  intro v3 v4 v9 v10 v11 out hp stk 
  exact o_block_Indent_5 LW rfl rfl he_E_string hz_E_string p_block_lead s_block_lead stk m v3 v4 v9 v10 v11 hp
noncomputable def p_block_Indent_4  (v3 : Int) (v9 : (List Str)) (v10 v11 : Int) : Option ((Int × Bool × (List Str) × Int × Int) ⊕ (Int)) := b_block_Indent_4 Prims.real p_block_lead p_block_Indent_5 v3 v9 v10 v11
theorem s_block_Indent_4   (m : Nat)    : H_block_Indent_4 AT @XM E_string m  p_block_Indent_4 := by
  intro v3 v9 v10 v11 out hp stk 
  exact o_block_Indent_4 LW rfl rfl he_E_string hz_E_string p_block_lead s_block_lead stk m p_block_Indent_5 v3 v9 v10 v11 (s_block_Indent_5 m ) hp
noncomputable def p_block_Indent_1  (v3 : Int) (v4 : Bool) (v9 : (List Str)) (v10 v11 : Int) : Option (Int) := Prims.real.loop (fun (s : Int × Bool × (List Str) × Int × Int) => match s with | (v3, v4, v9, v10, v11) => b_block_Indent_1 Prims.real p_block_lead p_block_Indent_4 p_block_Indent_5 v3 v4 v9 v10 v11) (v3, v4, v9, v10, v11)
theorem u_block_Indent_1  (v3 : Int) (v4 : Bool) (v9 : (List Str)) (v10 v11 : Int) : p_block_Indent_1  v3 v4 v9 v10 v11 = match b_block_Indent_1 Prims.real p_block_lead p_block_Indent_4 p_block_Indent_5 v3 v4 v9 v10 v11 with
    | some (.inl (v3', v4', v9', v10', v11')) => p_block_Indent_1  v3' v4' v9' v10' v11'
    | some (.inr r) => some r
    | none => none := by
  show Pr.loop _ _ = _
  rw [Pr.loop_eq]
  try dsimp only
  generalize b_block_Indent_1 Prims.real p_block_lead p_block_Indent_4 p_block_Indent_5 v3 v4 v9 v10 v11 = y
  cases y with
  | none => rfl
  | some y => cases y <;> rfl
theorem s_block_Indent_1   (m : Nat)    : H_block_Indent_1 AT @XM E_string m  p_block_Indent_1 := by
  intro v3 v4 v9 v10 v11 out hp stk 
  refine LW.ind _ (fun (s : Int × Bool × (List Str) × Int × Int) o => match s with | (v3, v4, v9, v10, v11) => ∀ (stk : Stk), (A_block_Indent_1 AT @XM E_string m  v3 v4 v9 v10 v11 stk) = (O_block_Indent  m  stk) o) (fun s r e => ?_) (fun s t r e ih => ?_) (v3, v4, v9, v10, v11) out hp stk 
  · obtain ⟨v3, v4, v9, v10, v11⟩ := s
    intro stk 
    exact o_block_Indent_1 LW rfl rfl he_E_string hz_E_string p_block_lead s_block_lead stk m p_block_Indent_4 p_block_Indent_5 v3 v4 v9 v10 v11 (s_block_Indent_4 m ) (s_block_Indent_5 m ) e
  · obtain ⟨v3, v4, v9, v10, v11⟩ := s; obtain ⟨v3', v4', v9', v10', v11'⟩ := t
    intro stk 
    exact (o_block_Indent_1 LW rfl rfl he_E_string hz_E_string p_block_lead s_block_lead stk m p_block_Indent_4 p_block_Indent_5 v3 v4 v9 v10 v11 (s_block_Indent_4 m ) (s_block_Indent_5 m ) e).trans (ih stk )
noncomputable def p_block_Indent_0  (v0 : (List Str)) : Option (Int) := b_block_Indent_0 Prims.real p_block_lead p_block_Indent_1 v0
theorem s_block_Indent_0   (m : Nat)    : H_block_Indent_0 AT @XM E_string m  p_block_Indent_0 := by
  intro v0 out hp stk 
  exact o_block_Indent_0 LW rfl rfl he_E_string hz_E_string p_block_lead s_block_lead stk m p_block_Indent_1 v0 (s_block_Indent_1 m ) hp
noncomputable def p_block_Indent : (List Str) → Option (Int) := fun v0 => p_block_Indent_0  v0
theorem s_block_Indent : (C_block_Indent PC FC @XM E_string p_block_Indent) := by
  intro _ _ hp stk    
  exact pf_of (T := table) (G := glob) (f := 43) rfl rfl (s_block_Indent_0   (topN stk + 1)    hp stk )
noncomputable def p_cascadelaw07_awake_0   : Option (Bool) := b_cascadelaw07_awake_0 Prims.real p_block_Value p_block_Indent  
theorem s_cascadelaw07_awake_0   (m : Nat)    : H_cascadelaw07_awake_0 AT m  p_cascadelaw07_awake_0 := by
  intro  out hp stk 
  exact o_cascadelaw07_awake_0 LW rfl rfl he_E_string hz_E_string p_block_Value p_block_Indent s_block_Value s_block_Indent stk m hp
noncomputable def p_cascadelaw07_awake : Option (Bool) := p_cascadelaw07_awake_0 
theorem s_cascadelaw07_awake : (C_cascadelaw07_awake PC FC p_cascadelaw07_awake) := by
  intro _ hp stk    
  exact pf_of (T := table) (G := glob) (f := 42) rfl rfl (s_cascadelaw07_awake_0   (topN stk + 1)    hp stk )
noncomputable def p_cascaderef07_first_3  (v0 : Str) (v3 : Int) : Option ((Str × Int) ⊕ (Int)) := b_cascaderef07_first_3 Prims.real   v0 v3
theorem s_cascaderef07_first_3   (m : Nat)    : H_cascaderef07_first_3 AT m  p_cascaderef07_first_3 := by
  intro v0 v3 out hp stk 
  exact o_cascaderef07_first_3 LW rfl rfl he_E_string hz_E_string stk m v0 v3 hp
noncomputable def p_cascaderef07_first_1  (v0 : Str) (v3 : Int) : Option (Int) := Prims.real.loop (fun (s : Str × Int) => match s with | (v0, v3) => b_cascaderef07_first_1 Prims.real  p_cascaderef07_first_3 v0 v3) (v0, v3)
theorem u_cascaderef07_first_1  (v0 : Str) (v3 : Int) : p_cascaderef07_first_1  v0 v3 = match b_cascaderef07_first_1 Prims.real  p_cascaderef07_first_3 v0 v3 with
    | some (.inl (v0', v3')) => p_cascaderef07_first_1  v0' v3'
    | some (.inr r) => some r
    | none => none := by
  show Pr.loop _ _ = _
  rw [Pr.loop_eq]
  try dsimp only
  generalize b_cascaderef07_first_1 Prims.real  p_cascaderef07_first_3 v0 v3 = y
  cases y with
  | none => rfl
  | some y => cases y <;> rfl
theorem s_cascaderef07_first_1   (m : Nat)    : H_cascaderef07_first_1 AT m  p_cascaderef07_first_1 := by
  intro v0 v3 out hp stk 
  refine LW.ind _ (fun (s : Str × Int) o => match s with | (v0, v3) => ∀ (stk : Stk), (A_cascaderef07_first_1 AT m  v0 v3 stk) = (O_cascaderef07_first  m  stk) o) (fun s r e => ?_) (fun s t r e ih => ?_) (v0, v3) out hp stk 
  · obtain ⟨v0, v3⟩ := s
    intro stk 
    exact o_cascaderef07_first_1 LW rfl rfl he_E_string hz_E_string stk m p_cascaderef07_first_3 v0 v3 (s_cascaderef07_first_3 m ) e
  · obtain ⟨v0, v3⟩ := s; obtain ⟨v0', v3'⟩ := t
    intro stk 
    exact (o_cascaderef07_first_1 LW rfl rfl he_E_string hz_E_string stk m p_cascaderef07_first_3 v0 v3 (s_cascaderef07_first_3 m ) e).trans (ih stk )
noncomputable def p_cascaderef07_first_0  (v0 : Str) : Option (Int) := b_cascaderef07_first_0 Prims.real  p_cascaderef07_first_1 v0
theorem s_cascaderef07_first_0   (m : Nat)    : H_cascaderef07_first_0 AT m  p_cascaderef07_first_0 := by
  intro v0 out hp stk 
  exact o_cascaderef07_first_0 LW rfl rfl he_E_string hz_E_string stk m p_cascaderef07_first_1 v0 (s_cascaderef07_first_1 m ) hp
noncomputable def p_cascaderef07_first : Str → Option (Int) := fun v0 => p_cascaderef07_first_0  v0
theorem s_cascaderef07_first : (C_cascaderef07_first PC FC p_cascaderef07_first) := by
  intro _ _ hp stk    
  exact pf_of (T := table) (G := glob) (f := 83) rfl rfl (s_cascaderef07_first_0   (topN stk + 1)    hp stk )
noncomputable def p_cascaderef07_Indent_3  (v0 : (List Str)) (v3 v4 : Int) : Option (((List Str) × Int × Int) ⊕ (Int)) := b_cascaderef07_Indent_3 Prims.real p_cascaderef07_first  v0 v3 v4
theorem s_cascaderef07_Indent_3   (m : Nat)    : H_cascaderef07_Indent_3 AT @XM E_string m  p_cascaderef07_Indent_3 := by
  intro v0 v3 v4 out hp stk 
  exact o_cascaderef07_Indent_3 LW rfl rfl he_E_string hz_E_string p_cascaderef07_first s_cascaderef07_first stk m v0 v3 v4 hp
noncomputable def p_cascaderef07_Indent_1  (v0 : (List Str)) (v3 v4 : Int) : Option (Int) := Prims.real.loop (fun (s : (List Str) × Int × Int) => match s with | (v0, v3, v4) => b_cascaderef07_Indent_1 Prims.real p_cascaderef07_first p_cascaderef07_Indent_3 v0 v3 v4) (v0, v3, v4)
theorem u_cascaderef07_Indent_1  (v0 : (List Str)) (v3 v4 : Int) : p_cascaderef07_Indent_1  v0 v3 v4 = match b_cascaderef07_Indent_1 Prims.real p_cascaderef07_first p_cascaderef07_Indent_3 v0 v3 v4 with
    | some (.inl (v0', v3', v4')) => p_cascaderef07_Indent_1  v0' v3' v4'
    | some (.inr r) => some r
    | none => none := by
  show Pr.loop _ _ = _
  rw [Pr.loop_eq]
  try dsimp only
  generalize b_cascaderef07_Indent_1 Prims.real p_cascaderef07_first p_cascaderef07_Indent_3 v0 v3 v4 = y
  cases y with
  | none => rfl
  | some y => cases y <;> rfl
theorem s_cascaderef07_Indent_1   (m : Nat)    : H_cascaderef07_Indent_1 AT @XM E_string m  p_cascaderef07_Indent_1 := by
  intro v0 v3 v4 out hp stk 
  refine LW.ind _ (fun (s : (List Str) × Int × Int) o => match s with | (v0, v3, v4) => ∀ (stk : Stk), (A_cascaderef07_Indent_1 AT @XM E_string m  v0 v3 v4 stk) = (O_cascaderef07_Indent  m  stk) o) (fun s r e => ?_) (fun s t r e ih => ?_) (v0, v3, v4) out hp stk 
  · obtain ⟨v0, v3, v4⟩ := s
    intro stk 
    exact o_cascaderef07_Indent_1 LW rfl rfl he_E_string hz_E_string p_cascaderef07_first s_cascaderef07_first stk m p_cascaderef07_Indent_3 v0 v3 v4 (s_cascaderef07_Indent_3 m ) e
  · obtain ⟨v0, v3, v4⟩ := s; obtain ⟨v0', v3', v4'⟩ := t
    intro stk 
    exact (o_cascaderef07_Indent_1 LW rfl rfl he_E_string hz_E_string p_cascaderef07_first s_cascaderef07_first stk m p_cascaderef07_Indent_3 v0 v3 v4 (s_cascaderef07_Indent_3 m ) e).trans (ih stk )
noncomputable def p_cascaderef07_Indent_0  (v0 : (List Str)) : Option (Int) := b_cascaderef07_Indent_0 Prims.real p_cascaderef07_first p_cascaderef07_Indent_1 v0
theorem s_cascaderef07_Indent_0   (m : Nat)    : H_cascaderef07_Indent_0 AT @XM E_string m  p_cascaderef07_Indent_0 := by
  intro v0 out hp stk 
  exact o_cascaderef07_Indent_0 LW rfl rfl he_E_string hz_E_string p_cascaderef07_first s_cascaderef07_first stk m p_cascaderef07_Indent_1 v0 (s_cascaderef07_Indent_1 m ) hp
noncomputable def p_cascaderef07_Indent : (List Str) → Option (Int) := fun v0 => p_cascaderef07_Indent_0  v0
theorem s_cascaderef07_Indent : (C_cascaderef07_Indent PC FC @XM E_string p_cascaderef07_Indent) := by
  intro _ _ hp stk    
  exact pf_of (T := table) (G := glob) (f := 44) rfl rfl (s_cascaderef07_Indent_0   (topN stk + 1)    hp stk )
noncomputable def p_cascadelaw07_BlockIndents_2  (v0 : (List Str)) (v3 : Int) : Option (Bool) := Prims.real.loop (fun (s : (List Str) × Int) => match s with | (v0, v3) => b_cascadelaw07_BlockIndents_2 Prims.real p_cascadelaw07_awake p_block_Indent p_cascaderef07_Indent  v0 v3) (v0, v3)
theorem u_cascadelaw07_BlockIndents_2  (v0 : (List Str)) (v3 : Int) : p_cascadelaw07_BlockIndents_2  v0 v3 = match b_cascadelaw07_BlockIndents_2 Prims.real p_cascadelaw07_awake p_block_Indent p_cascaderef07_Indent  v0 v3 with
    | some (.inl (v0', v3')) => p_cascadelaw07_BlockIndents_2  v0' v3'
    | some (.inr r) => some r
    | none => none := by
  show Pr.loop _ _ = _
  rw [Pr.loop_eq]
  try dsimp only
  generalize b_cascadelaw07_BlockIndents_2 Prims.real p_cascadelaw07_awake p_block_Indent p_cascaderef07_Indent  v0 v3 = y
  cases y with
  | none => rfl
  | some y => cases y <;> rfl
theorem s_cascadelaw07_BlockIndents_2   (m : Nat)    : H_cascadelaw07_BlockIndents_2 AT @XM E_string m  p_cascadelaw07_BlockIndents_2 := by
  intro v0 v3 out hp stk 
  refine LW.ind _ (fun (s : (List Str) × Int) o => match s with | (v0, v3) => ∀ (stk : Stk), (A_cascadelaw07_BlockIndents_2 AT @XM E_string m  v0 v3 stk) = (O_cascadelaw07_BlockIndents  m  stk) o) (fun s r e => ?_) (fun s t r e ih => ?_) (v0, v3) out hp stk 
  · obtain ⟨v0, v3⟩ := s
    intro stk 
    exact o_cascadelaw07_BlockIndents_2 LW rfl rfl he_E_string hz_E_string p_cascadelaw07_awake p_block_Indent p_cascaderef07_Indent s_cascadelaw07_awake s_block_Indent s_cascaderef07_Indent stk m v0 v3 e
  · obtain ⟨v0, v3⟩ := s; obtain ⟨v0', v3'⟩ := t
    intro stk 
    exact (o_cascadelaw07_BlockIndents_2 LW rfl rfl he_E_string hz_E_string p_cascadelaw07_awake p_block_Indent p_cascaderef07_Indent s_cascadelaw07_awake s_block_Indent s_cascaderef07_Indent stk m v0 v3 e).trans (ih stk )
noncomputable def p_cascadelaw07_BlockIndents_0  (v0 : (List Str)) : Option (Bool) := b_cascadelaw07_BlockIndents_0 Prims.real p_cascadelaw07_awake p_block_Indent p_cascaderef07_Indent p_cascadelaw07_BlockIndents_2 v0
theorem s_cascadelaw07_BlockIndents_0   (m : Nat)    : H_cascadelaw07_BlockIndents_0 AT @XM E_string m  p_cascadelaw07_BlockIndents_0 := by
  intro v0 out hp stk 
  exact o_cascadelaw07_BlockIndents_0 LW rfl rfl he_E_string hz_E_string p_cascadelaw07_awake p_block_Indent p_cascaderef07_Indent s_cascadelaw07_awake s_block_Indent s_cascaderef07_Indent stk m p_cascadelaw07_BlockIndents_2 v0 (s_cascadelaw07_BlockIndents_2 m ) hp
noncomputable def p_cascadelaw07_BlockIndents : (List Str) → Option (Bool) := fun v0 => p_cascadelaw07_BlockIndents_0  v0
theorem s_cascadelaw07_BlockIndents : (C_cascadelaw07_BlockIndents PC FC @XM E_string p_cascadelaw07_BlockIndents) := by
  intro _ _ hp stk    
  exact pf_of (T := table) (G := glob) (f := 11) rfl rfl (s_cascadelaw07_BlockIndents_0   (topN stk + 1)    hp stk )
noncomputable def p_cascaderef07_turned_1  (v0 v1 v2 v7 : Str) (v8 : Int) : Option (Str) := Prims.real.loop (fun (s : Str × Str × Str × Str × Int) => match s with | (v0, v1, v2, v7, v8) => b_cascaderef07_turned_1 Prims.real   v0 v1 v2 v7 v8) (v0, v1, v2, v7, v8)
theorem u_cascaderef07_turned_1  (v0 v1 v2 v7 : Str) (v8 : Int) : p_cascaderef07_turned_1  v0 v1 v2 v7 v8 = match b_cascaderef07_turned_1 Prims.real   v0 v1 v2 v7 v8 with
    | some (.inl (v0', v1', v2', v7', v8')) => p_cascaderef07_turned_1  v0' v1' v2' v7' v8'
    | some (.inr r) => some r
    | none => none := by
  show Pr.loop _ _ = _
  rw [Pr.loop_eq]
  try dsimp only
  generalize b_cascaderef07_turned_1 Prims.real   v0 v1 v2 v7 v8 = y
  cases y with
  | none => rfl
  | some y => cases y <;> rfl
theorem s_cascaderef07_turned_1   (m : Nat)    : H_cascaderef07_turned_1 AT m  p_cascaderef07_turned_1 := by
  intro v0 v1 v2 v7 v8 out hp stk 
  refine LW.ind _ (fun (s : Str × Str × Str × Str × Int) o => match s with | (v0, v1, v2, v7, v8) => ∀ (stk : Stk), (A_cascaderef07_turned_1 AT m  v0 v1 v2 v7 v8 stk) = (O_cascaderef07_turned  m  stk) o) (fun s r e => ?_) (fun s t r e ih => ?_) (v0, v1, v2, v7, v8) out hp stk 
  · obtain ⟨v0, v1, v2, v7, v8⟩ := s
    intro stk 
    exact o_cascaderef07_turned_1 LW rfl rfl he_E_string hz_E_string stk m v0 v1 v2 v7 v8 e
  · obtain ⟨v0, v1, v2, v7, v8⟩ := s; obtain ⟨v0', v1', v2', v7', v8'⟩ := t
    intro stk 
    exact (o_cascaderef07_turned_1 LW rfl rfl he_E_string hz_E_string stk m v0 v1 v2 v7 v8 e).trans (ih stk )
noncomputable def p_cascaderef07_turned_0  (v0 v1 v2 : Str) : Option (Str) := b_cascaderef07_turned_0 Prims.real  p_cascaderef07_turned_1 v0 v1 v2
theorem s_cascaderef07_turned_0   (m : Nat)    : H_cascaderef07_turned_0 AT m  p_cascaderef07_turned_0 := by
  intro v0 v1 v2 out hp stk 
  exact o_cascaderef07_turned_0 LW rfl rfl he_E_string hz_E_string stk m p_cascaderef07_turned_1 v0 v1 v2 (s_cascaderef07_turned_1 m ) hp
noncomputable def p_cascaderef07_turned : Str → Str → Str → Option (Str) := fun v0 v1 v2 => p_cascaderef07_turned_0  v0 v1 v2
theorem s_cascaderef07_turned : (C_cascaderef07_turned PC FC p_cascaderef07_turned) := by
  intro _ _ _ _ hp stk    
  exact pf_of (T := table) (G := glob) (f := 89) rfl rfl (s_cascaderef07_turned_0   (topN stk + 1)    hp stk )
noncomputable def p_cascaderef01_Lines_5  (v0 : Str) (o3_g : Nat) (o3 : (List Str)) (v4 v5 : Int) : Option ((Str × Nat × (List Str) × Int × Int) ⊕ ((List Str))) := b_cascaderef01_Lines_5 Prims.real   v0 o3_g o3 v4 v5
theorem s_cascaderef01_Lines_5   (m : Nat)    : H_cascaderef01_Lines_5 AT @XM List.length E_string m  p_cascaderef01_Lines_5 := by
  intro v0 o3_g o3 v4 v5 out hp stk 
  exact o_cascaderef01_Lines_5 LW rfl rfl he_E_string hz_E_string stk m v0 o3_g o3 v4 v5 hp
noncomputable def p_cascaderef01_Lines_4  (v0 : Str) (o3_g : Nat) (o3 : (List Str)) (v5 : Int) : Option ((Str × Nat × (List Str) × Int × Int) ⊕ ((List Str))) := b_cascaderef01_Lines_4 Prims.real  p_cascaderef01_Lines_5 v0 o3_g o3 v5
theorem s_cascaderef01_Lines_4   (m : Nat)    : H_cascaderef01_Lines_4 AT @XM List.length E_string m  p_cascaderef01_Lines_4 := by
  intro v0 o3_g o3 v5 out hp stk 
  exact o_cascaderef01_Lines_4 LW rfl rfl he_E_string hz_E_string stk m p_cascaderef01_Lines_5 v0 o3_g o3 v5 (s_cascaderef01_Lines_5 m ) hp
noncomputable def p_cascaderef01_Lines_3  (v0 : Str) (o3_g : Nat) (o3 : (List Str)) (v4 v5 : Int) : Option ((Str × Nat × (List Str) × Int × Int) ⊕ ((List Str))) := b_cascaderef01_Lines_3 Prims.real  p_cascaderef01_Lines_4 v0 o3_g o3 v4 v5
theorem s_cascaderef01_Lines_3   (m : Nat)    : H_cascaderef01_Lines_3 AT @XM List.length E_string m  p_cascaderef01_Lines_3 := by
  intro v0 o3_g o3 v4 v5 out hp stk 
  exact o_cascaderef01_Lines_3 LW rfl rfl he_E_string hz_E_string stk m p_cascaderef01_Lines_4 v0 o3_g o3 v4 v5 (s_cascaderef01_Lines_4 m ) hp
noncomputable def p_cascaderef01_Lines_1  (v0 : Str) (o3_g : Nat) (o3 : (List Str)) (v4 v5 : Int) : Option ((List Str)) := Prims.real.loop (fun (s : Str × Nat × (List Str) × Int × Int) => match s with | (v0, o3_g, o3, v4, v5) => b_cascaderef01_Lines_1 Prims.real  p_cascaderef01_Lines_3 p_cascaderef01_Lines_5 v0 o3_g o3 v4 v5) (v0, o3_g, o3, v4, v5)
theorem u_cascaderef01_Lines_1  (v0 : Str) (o3_g : Nat) (o3 : (List Str)) (v4 v5 : Int) : p_cascaderef01_Lines_1  v0 o3_g o3 v4 v5 = match b_cascaderef01_Lines_1 Prims.real  p_cascaderef01_Lines_3 p_cascaderef01_Lines_5 v0 o3_g o3 v4 v5 with
    | some (.inl (v0', o3_g', o3', v4', v5')) => p_cascaderef01_Lines_1  v0' o3_g' o3' v4' v5'
    | some (.inr r) => some r
    | none => none := by
  show Pr.loop _ _ = _
  rw [Pr.loop_eq]
  try dsimp only
  generalize b_cascaderef01_Lines_1 Prims.real  p_cascaderef01_Lines_3 p_cascaderef01_Lines_5 v0 o3_g o3 v4 v5 = y
  cases y with
  | none => rfl
  | some y => cases y <;> rfl
theorem s_cascaderef01_Lines_1   (m : Nat)    : H_cascaderef01_Lines_1 AT @XM List.length E_string m  p_cascaderef01_Lines_1 := by
  intro v0 o3_g o3 v4 v5 out hp stk 
  refine LW.ind _ (fun (s : Str × Nat × (List Str) × Int × Int) o => match s with | (v0, o3_g, o3, v4, v5) => ∀ (stk : Stk), (A_cascaderef01_Lines_1 AT @XM List.length E_string m  v0 o3_g o3 v4 v5 stk) = (O_cascaderef01_Lines @XM E_string m  stk) o) (fun s r e => ?_) (fun s t r e ih => ?_) (v0, o3_g, o3, v4, v5) out hp stk 
  · obtain ⟨v0, o3_g, o3, v4, v5⟩ := s
    intro stk 
    exact o_cascaderef01_Lines_1 LW rfl rfl he_E_string hz_E_string stk m p_cascaderef01_Lines_3 p_cascaderef01_Lines_5 v0 o3_g o3 v4 v5 (s_cascaderef01_Lines_3 m ) (s_cascaderef01_Lines_5 m ) e
  · obtain ⟨v0, o3_g, o3, v4, v5⟩ := s; obtain ⟨v0', o3_g', o3', v4', v5'⟩ := t
    intro stk 
    exact (o_cascaderef01_Lines_1 LW rfl rfl he_E_string hz_E_string stk m p_cascaderef01_Lines_3 p_cascaderef01_Lines_5 v0 o3_g o3 v4 v5 (s_cascaderef01_Lines_3 m ) (s_cascaderef01_Lines_5 m ) e).trans (ih stk )
noncomputable def p_cascaderef01_Lines_0  (v0 : Str) : Option ((List Str)) := b_cascaderef01_Lines_0 Prims.real  p_cascaderef01_Lines_1 v0
theorem s_cascaderef01_Lines_0   (m : Nat)    : H_cascaderef01_Lines_0 AT @XM E_string m  p_cascaderef01_Lines_0 := by
  intro v0 out hp stk 
  exact o_cascaderef01_Lines_0 LW rfl rfl he_E_string hz_E_string stk m p_cascaderef01_Lines_1 v0 (s_cascaderef01_Lines_1 m ) hp
noncomputable def p_cascaderef01_Lines : Str → Option ((List Str)) := fun v0 => p_cascaderef01_Lines_0  v0
theorem s_cascaderef01_Lines : (C_cascaderef01_Lines PC FC @XM E_string p_cascaderef01_Lines) := by
  intro _ _ hp stk    
  exact pf_of (T := table) (G := glob) (f := 88) rfl rfl (s_cascaderef01_Lines_0   (topN stk + 1)    hp stk )
noncomputable def p_cascaderef07_Value_4  (v3 : (List Str)) (v4 v5 v6 : Int) (o7_g : Nat) (o7 : (List Str)) (v8 : Int) (v9 : Str) : Option (((List Str) × Int × Int × Int × Nat × (List Str) × Int) ⊕ (Str)) := b_cascaderef07_Value_4 Prims.real p_cascaderef07_turned p_cascaderef01_Lines p_cascaderef07_Indent p_cascaderef07_first  v3 v4 v5 v6 o7_g o7 v8 v9
theorem s_cascaderef07_Value_4   (m : Nat)    : H_cascaderef07_Value_4 AT @XM List.length E_string m  p_cascaderef07_Value_4 := by
  intro v3 v4 v5 v6 o7_g o7 v8 v9 out hp stk 
  exact o_cascaderef07_Value_4 LW rfl rfl he_E_string hz_E_string p_cascaderef07_turned p_cascaderef01_Lines p_cascaderef07_Indent p_cascaderef07_first s_cascaderef07_turned s_cascaderef01_Lines s_cascaderef07_Indent s_cascaderef07_first stk m v3 v4 v5 v6 o7_g o7 v8 v9 hp
noncomputable def p_cascaderef07_Value_3  (v3 : (List Str)) (v4 v5 v6 : Int) (o7_g : Nat) (o7 : (List Str)) (v8 : Int) (v9 : Str) : Option (((List Str) × Int × Int × Int × Nat × (List Str) × Int) ⊕ (Str)) := b_cascaderef07_Value_3 Prims.real p_cascaderef07_turned p_cascaderef01_Lines p_cascaderef07_Indent p_cascaderef07_first p_cascaderef07_Value_4 v3 v4 v5 v6 o7_g o7 v8 v9
theorem s_cascaderef07_Value_3   (m : Nat)    : H_cascaderef07_Value_3 AT @XM List.length E_string m  p_cascaderef07_Value_3 := by
  intro v3 v4 v5 v6 o7_g o7 v8 v9 out hp stk 
  exact o_cascaderef07_Value_3 LW rfl rfl he_E_string hz_E_string p_cascaderef07_turned p_cascaderef01_Lines p_cascaderef07_Indent p_cascaderef07_first s_cascaderef07_turned s_cascaderef01_Lines s_cascaderef07_Indent s_cascaderef07_first stk m p_cascaderef07_Value_4 v3 v4 v5 v6 o7_g o7 v8 v9 (s_cascaderef07_Value_4 m ) hp
noncomputable def p_cascaderef07_Value_9  (v5 v6 : Int) (o7_g : Nat) (o7 : (List Str)) (v10 : Str) (v11 : Int) : Option ((Int × Int × Nat × (List Str) × Str × Int) ⊕ (Str)) := b_cascaderef07_Value_9 Prims.real p_cascaderef07_turned p_cascaderef01_Lines p_cascaderef07_Indent p_cascaderef07_first  v5 v6 o7_g o7 v10 v11
theorem s_cascaderef07_Value_9   (m : Nat)    : H_cascaderef07_Value_9 AT @XM List.length E_string m  p_cascaderef07_Value_9 := by
  intro v5 v6 o7_g o7 v10 v11 out hp stk 
  exact o_cascaderef07_Value_9 LW rfl rfl he_E_string hz_E_string p_cascaderef07_turned p_cascaderef01_Lines p_cascaderef07_Indent p_cascaderef07_first s_cascaderef07_turned s_cascaderef01_Lines s_cascaderef07_Indent s_cascaderef07_first stk m v5 v6 o7_g o7 v10 v11 hp
noncomputable def p_cascaderef07_Value_7  (v5 v6 : Int) (o7_g : Nat) (o7 : (List Str)) (v10 : Str) (v11 : Int) : Option (Str) := Prims.real.loop (fun (s : Int × Int × Nat × (List Str) × Str × Int) => match s with | (v5, v6, o7_g, o7, v10, v11) => b_cascaderef07_Value_7 Prims.real p_cascaderef07_turned p_cascaderef01_Lines p_cascaderef07_Indent p_cascaderef07_first p_cascaderef07_Value_9 v5 v6 o7_g o7 v10 v11) (v5, v6, o7_g, o7, v10, v11)
theorem u_cascaderef07_Value_7  (v5 v6 : Int) (o7_g : Nat) (o7 : (List Str)) (v10 : Str) (v11 : Int) : p_cascaderef07_Value_7  v5 v6 o7_g o7 v10 v11 = match b_cascaderef07_Value_7 Prims.real p_cascaderef07_turned p_cascaderef01_Lines p_cascaderef07_Indent p_cascaderef07_first p_cascaderef07_Value_9 v5 v6 o7_g o7 v10 v11 with
    | some (.inl (v5', v6', o7_g', o7', v10', v11')) => p_cascaderef07_Value_7  v5' v6' o7_g' o7' v10' v11'
    | some (.inr r) => some r
    | none => none := by
  show Pr.loop _ _ = _
  rw [Pr.loop_eq]
  try dsimp only
  generalize b_cascaderef07_Value_7 Prims.real p_cascaderef07_turned p_cascaderef01_Lines p_cascaderef07_Indent p_cascaderef07_first p_cascaderef07_Value_9 v5 v6 o7_g o7 v10 v11 = y
  cases y with
  | none => rfl
  | some y => cases y <;> rfl
theorem s_cascaderef07_Value_7   (m : Nat)    : H_cascaderef07_Value_7 AT @XM List.length E_string m  p_cascaderef07_Value_7 := by
  intro v5 v6 o7_g o7 v10 v11 out hp stk 
  refine LW.ind _ (fun (s : Int × Int × Nat × (List Str) × Str × Int) o => match s with | (v5, v6, o7_g, o7, v10, v11) => ∀ (stk : Stk), (A_cascaderef07_Value_7 AT @XM List.length E_string m  v5 v6 o7_g o7 v10 v11 stk) = (O_cascaderef07_Value  m  stk) o) (fun s r e => ?_) (fun s t r e ih => ?_) (v5, v6, o7_g, o7, v10, v11) out hp stk 
  · obtain ⟨v5, v6, o7_g, o7, v10, v11⟩ := s
    intro stk 
    exact o_cascaderef07_Value_7 LW rfl rfl he_E_string hz_E_string p_cascaderef07_turned p_cascaderef01_Lines p_cascaderef07_Indent p_cascaderef07_first s_cascaderef07_turned s_cascaderef01_Lines s_cascaderef07_Indent s_cascaderef07_first stk m p_cascaderef07_Value_9 v5 v6 o7_g o7 v10 v11 (s_cascaderef07_Value_9 m ) e
  · obtain ⟨v5, v6, o7_g, o7, v10, v11⟩ := s; obtain ⟨v5', v6', o7_g', o7', v10', v11'⟩ := t
    intro stk 
    exact (o_cascaderef07_Value_7 LW rfl rfl he_E_string hz_E_string p_cascaderef07_turned p_cascaderef01_Lines p_cascaderef07_Indent p_cascaderef07_first s_cascaderef07_turned s_cascaderef01_Lines s_cascaderef07_Indent s_cascaderef07_first stk m p_cascaderef07_Value_9 v5 v6 o7_g o7 v10 v11 (s_cascaderef07_Value_9 m ) e).trans (ih stk )
noncomputable def p_cascaderef07_Value_1  (v3 : (List Str)) (v4 v5 v6 : Int) (o7_g : Nat) (o7 : (List Str)) (v8 : Int) : Option (Str) := Prims.real.loop (fun (s : (List Str) × Int × Int × Int × Nat × (List Str) × Int) => match s with | (v3, v4, v5, v6, o7_g, o7, v8) => b_cascaderef07_Value_1 Prims.real p_cascaderef07_turned p_cascaderef01_Lines p_cascaderef07_Indent p_cascaderef07_first p_cascaderef07_Value_3 p_cascaderef07_Value_7 v3 v4 v5 v6 o7_g o7 v8) (v3, v4, v5, v6, o7_g, o7, v8)
theorem u_cascaderef07_Value_1  (v3 : (List Str)) (v4 v5 v6 : Int) (o7_g : Nat) (o7 : (List Str)) (v8 : Int) : p_cascaderef07_Value_1  v3 v4 v5 v6 o7_g o7 v8 = match b_cascaderef07_Value_1 Prims.real p_cascaderef07_turned p_cascaderef01_Lines p_cascaderef07_Indent p_cascaderef07_first p_cascaderef07_Value_3 p_cascaderef07_Value_7 v3 v4 v5 v6 o7_g o7 v8 with
    | some (.inl (v3', v4', v5', v6', o7_g', o7', v8')) => p_cascaderef07_Value_1  v3' v4' v5' v6' o7_g' o7' v8'
    | some (.inr r) => some r
    | none => none := by
  show Pr.loop _ _ = _
  rw [Pr.loop_eq]
  try dsimp only
  generalize b_cascaderef07_Value_1 Prims.real p_cascaderef07_turned p_cascaderef01_Lines p_cascaderef07_Indent p_cascaderef07_first p_cascaderef07_Value_3 p_cascaderef07_Value_7 v3 v4 v5 v6 o7_g o7 v8 = y
  cases y with
  | none => rfl
  | some y => cases y <;> rfl
theorem s_cascaderef07_Value_1   (m : Nat)    : H_cascaderef07_Value_1 AT @XM List.length E_string m  p_cascaderef07_Value_1 := by
  intro v3 v4 v5 v6 o7_g o7 v8 out hp stk 
  refine LW.ind _ (fun (s : (List Str) × Int × Int × Int × Nat × (List Str) × Int) o => match s with | (v3, v4, v5, v6, o7_g, o7, v8) => ∀ (stk : Stk), (A_cascaderef07_Value_1 AT @XM List.length E_string m  v3 v4 v5 v6 o7_g o7 v8 stk) = (O_cascaderef07_Value  m  stk) o) (fun s r e => ?_) (fun s t r e ih => ?_) (v3, v4, v5, v6, o7_g, o7, v8) out hp stk 
  · obtain ⟨v3, v4, v5, v6, o7_g, o7, v8⟩ := s
    intro stk 
    exact o_cascaderef07_Value_1 LW rfl rfl he_E_string hz_E_string p_cascaderef07_turned p_cascaderef01_Lines p_cascaderef07_Indent p_cascaderef07_first s_cascaderef07_turned s_cascaderef01_Lines s_cascaderef07_Indent s_cascaderef07_first stk m p_cascaderef07_Value_3 p_cascaderef07_Value_7 v3 v4 v5 v6 o7_g o7 v8 (s_cascaderef07_Value_3 m ) (s_cascaderef07_Value_7 m ) e
  · obtain ⟨v3, v4, v5, v6, o7_g, o7, v8⟩ := s; obtain ⟨v3', v4', v5', v6', o7_g', o7', v8'⟩ := t
    intro stk 
    exact (o_cascaderef07_Value_1 LW rfl rfl he_E_string hz_E_string p_cascaderef07_turned p_cascaderef01_Lines p_cascaderef07_Indent p_cascaderef07_first s_cascaderef07_turned s_cascaderef01_Lines s_cascaderef07_Indent s_cascaderef07_first stk m p_cascaderef07_Value_3 p_cascaderef07_Value_7 v3 v4 v5 v6 o7_g o7 v8 (s_cascaderef07_Value_3 m ) (s_cascaderef07_Value_7 m ) e).trans (ih stk )
noncomputable def p_cascaderef07_Value_0  (v0 : Str) : Option (Str) := b_cascaderef07_Value_0 Prims.real p_cascaderef07_turned p_cascaderef01_Lines p_cascaderef07_Indent p_cascaderef07_first p_cascaderef07_Value_1 v0
theorem s_cascaderef07_Value_0   (m : Nat)    : H_cascaderef07_Value_0 AT m  p_cascaderef07_Value_0 := by
  intro v0 out hp stk 
  exact o_cascaderef07_Value_0 LW rfl rfl he_E_string hz_E_string p_cascaderef07_turned p_cascaderef01_Lines p_cascaderef07_Indent p_cascaderef07_first s_cascaderef07_turned s_cascaderef01_Lines s_cascaderef07_Indent s_cascaderef07_first stk m p_cascaderef07_Value_1 v0 (s_cascaderef07_Value_1 m ) hp
noncomputable def p_cascaderef07_Value : Str → Option (Str) := fun v0 => p_cascaderef07_Value_0  v0
theorem s_cascaderef07_Value : (C_cascaderef07_Value PC FC p_cascaderef07_Value) := by
  intro _ _ hp stk    
  exact pf_of (T := table) (G := glob) (f := 46) rfl rfl (s_cascaderef07_Value_0   (topN stk + 1)    hp stk )
noncomputable def p_cascadelaw07_BlockValues_0  (v0 : Str) : Option (Bool) := b_cascadelaw07_BlockValues_0 Prims.real p_cascadelaw07_awake p_block_Value p_cascaderef07_Value  v0
theorem s_cascadelaw07_BlockValues_0   (m : Nat)    : H_cascadelaw07_BlockValues_0 AT m  p_cascadelaw07_BlockValues_0 := by
  intro v0 out hp stk 
  exact o_cascadelaw07_BlockValues_0 LW rfl rfl he_E_string hz_E_string p_cascadelaw07_awake p_block_Value p_cascaderef07_Value s_cascadelaw07_awake s_block_Value s_cascaderef07_Value stk m v0 hp
noncomputable def p_cascadelaw07_BlockValues : Str → Option (Bool) := fun v0 => p_cascadelaw07_BlockValues_0  v0
theorem s_cascadelaw07_BlockValues : (C_cascadelaw07_BlockValues PC FC p_cascadelaw07_BlockValues) := by
  intro _ _ hp stk    
  exact pf_of (T := table) (G := glob) (f := 12) rfl rfl (s_cascadelaw07_BlockValues_0   (topN stk + 1)    hp stk )
theorem s_strings_Contains : (C_strings_Contains PC FC p_strings_Contains) := by
  intro _ _ _ hp stk
  exact ⟨pcall_ext (T := table) (G := glob) (f := 121) (e := ext_strings_Contains) rfl rfl (x_strings_Contains hp) stk, fcall_ext (T := table) (G := glob) (f := 121) (e := ext_strings_Contains) rfl rfl (x_strings_Contains hp) stk⟩
theorem s_strings_HasSuffix : (C_strings_HasSuffix PC FC p_strings_HasSuffix) := by
  intro _ _ _ hp stk
  exact ⟨pcall_ext (T := table) (G := glob) (f := 122) (e := ext_strings_HasSuffix) rfl rfl (x_strings_HasSuffix hp) stk, fcall_ext (T := table) (G := glob) (f := 122) (e := ext_strings_HasSuffix) rfl rfl (x_strings_HasSuffix hp) stk⟩
noncomputable def p_text_Lines_4  (v0 : Str) (o3_g : Nat) (o3 : (List Str)) (v4 : Int) : Option ((Str × Nat × (List Str)) ⊕ ((List Str))) := b_text_Lines_4 Prims.real p_strings_IndexByte p_strings_HasPrefix  v0 o3_g o3 v4
theorem s_text_Lines_4   (m : Nat)    : H_text_Lines_4 AT @XM List.length E_string m  p_text_Lines_4 := by
  intro v0 o3_g o3 v4 out hp stk 
  exact o_text_Lines_4 LW rfl rfl he_E_string hz_E_string p_strings_IndexByte p_strings_HasPrefix s_strings_IndexByte s_strings_HasPrefix stk m v0 o3_g o3 v4 hp
noncomputable def p_text_Lines_2  (v0 : Str) (o3_g : Nat) (o3 : (List Str)) (v4 : Int) : Option ((Str × Nat × (List Str)) ⊕ ((List Str))) := b_text_Lines_2 Prims.real p_strings_IndexByte p_strings_HasPrefix p_text_Lines_4 v0 o3_g o3 v4
theorem s_text_Lines_2   (m : Nat)    : H_text_Lines_2 AT @XM List.length E_string m  p_text_Lines_2 := by
  intro v0 o3_g o3 v4 out hp stk 
  exact o_text_Lines_2 LW rfl rfl he_E_string hz_E_string p_strings_IndexByte p_strings_HasPrefix s_strings_IndexByte s_strings_HasPrefix stk m p_text_Lines_4 v0 o3_g o3 v4 (s_text_Lines_4 m ) hp
noncomputable def p_text_Lines_1  (v0 : Str) (o3_g : Nat) (o3 : (List Str)) : Option ((List Str)) := Prims.real.loop (fun (s : Str × Nat × (List Str)) => match s with | (v0, o3_g, o3) => b_text_Lines_1 Prims.real p_strings_IndexByte p_strings_HasPrefix p_text_Lines_2 v0 o3_g o3) (v0, o3_g, o3)
theorem u_text_Lines_1  (v0 : Str) (o3_g : Nat) (o3 : (List Str)) : p_text_Lines_1  v0 o3_g o3 = match b_text_Lines_1 Prims.real p_strings_IndexByte p_strings_HasPrefix p_text_Lines_2 v0 o3_g o3 with
    | some (.inl (v0', o3_g', o3')) => p_text_Lines_1  v0' o3_g' o3'
    | some (.inr r) => some r
    | none => none := by
  show Pr.loop _ _ = _
  rw [Pr.loop_eq]
  try dsimp only
  generalize b_text_Lines_1 Prims.real p_strings_IndexByte p_strings_HasPrefix p_text_Lines_2 v0 o3_g o3 = y
  cases y with
  | none => rfl
  | some y => cases y <;> rfl
theorem s_text_Lines_1   (m : Nat)    : H_text_Lines_1 AT @XM List.length E_string m  p_text_Lines_1 := by
  intro v0 o3_g o3 out hp stk 
  refine LW.ind _ (fun (s : Str × Nat × (List Str)) o => match s with | (v0, o3_g, o3) => ∀ (stk : Stk), (A_text_Lines_1 AT @XM List.length E_string m  v0 o3_g o3 stk) = (O_text_Lines @XM E_string m  stk) o) (fun s r e => ?_) (fun s t r e ih => ?_) (v0, o3_g, o3) out hp stk 
  · obtain ⟨v0, o3_g, o3⟩ := s
    intro stk 
    exact o_text_Lines_1 LW rfl rfl he_E_string hz_E_string p_strings_IndexByte p_strings_HasPrefix s_strings_IndexByte s_strings_HasPrefix stk m p_text_Lines_2 v0 o3_g o3 (s_text_Lines_2 m ) e
  · obtain ⟨v0, o3_g, o3⟩ := s; obtain ⟨v0', o3_g', o3'⟩ := t
    intro stk 
    exact (o_text_Lines_1 LW rfl rfl he_E_string hz_E_string p_strings_IndexByte p_strings_HasPrefix s_strings_IndexByte s_strings_HasPrefix stk m p_text_Lines_2 v0 o3_g o3 (s_text_Lines_2 m ) e).trans (ih stk )
noncomputable def p_text_Lines_0  (v0 : Str) : Option ((List Str)) := b_text_Lines_0 Prims.real p_strings_IndexByte p_strings_HasPrefix p_text_Lines_1 v0
theorem s_text_Lines_0   (m : Nat)    : H_text_Lines_0 AT @XM E_string m  p_text_Lines_0 := by
  intro v0 out hp stk 
  exact o_text_Lines_0 LW rfl rfl he_E_string hz_E_string p_strings_IndexByte p_strings_HasPrefix s_strings_IndexByte s_strings_HasPrefix stk m p_text_Lines_1 v0 (s_text_Lines_1 m ) hp
noncomputable def p_text_Lines : Str → Option ((List Str)) := fun v0 => p_text_Lines_0  v0
theorem s_text_Lines : (C_text_Lines PC FC @XM E_string p_text_Lines) := by
  intro _ _ hp stk    
  exact pf_of (T := table) (G := glob) (f := 84) rfl rfl (s_text_Lines_0   (topN stk + 1)    hp stk )
noncomputable def p_block_comes_2  (v3 : (List Str)) : Option (Bool) := b_block_comes_2 Prims.real p_strings_Contains p_strings_HasSuffix p_text_Lines p_block_empty p_block_Indent__0  v3
theorem s_block_comes_2   (m : Nat)    : H_block_comes_2 AT @XM E_string m  p_block_comes_2 := by
  intro v3 out hp stk 
  exact o_block_comes_2 LW rfl rfl he_E_string hz_E_string p_strings_Contains p_strings_HasSuffix p_text_Lines p_block_empty p_block_Indent__0 s_strings_Contains s_strings_HasSuffix s_text_Lines s_block_empty s_block_Indent__0 stk m v3 hp
noncomputable def p_block_comes_0  (v0 : Str) : Option (Bool) := b_block_comes_0 Prims.real p_strings_Contains p_strings_HasSuffix p_text_Lines p_block_empty p_block_Indent__0 p_block_comes_2 v0
theorem s_block_comes_0   (m : Nat)    : H_block_comes_0 AT m  p_block_comes_0 := by
  intro v0 out hp stk 
  exact o_block_comes_0 LW rfl rfl he_E_string hz_E_string p_strings_Contains p_strings_HasSuffix p_text_Lines p_block_empty p_block_Indent__0 s_strings_Contains s_strings_HasSuffix s_text_Lines s_block_empty s_block_Indent__0 stk m p_block_comes_2 v0 (s_block_comes_2 m ) hp
noncomputable def p_block_comes : Str → Option (Bool) := fun v0 => p_block_comes_0  v0
theorem s_block_comes : (C_block_comes PC FC p_block_comes) := by
  intro _ _ hp stk    
  exact pf_of (T := table) (G := glob) (f := 90) rfl rfl (s_block_comes_0   (topN stk + 1)    hp stk )
noncomputable def p_block_Raw_0  (v0 : Str) : Option (Str × Int) := b_block_Raw_0 Prims.real p_block_comes p_strings_ReplaceAll  v0
theorem s_block_Raw_0   (m : Nat)    : H_block_Raw_0 AT m  p_block_Raw_0 := by
  intro v0 out hp stk 
  exact o_block_Raw_0 LW rfl rfl he_E_string hz_E_string p_block_comes p_strings_ReplaceAll s_block_comes s_strings_ReplaceAll stk m v0 hp
noncomputable def p_block_Raw : Str → Option (Str × Int) := fun v0 => p_block_Raw_0  v0
theorem s_block_Raw : (C_block_Raw PC FC p_block_Raw) := by
  intro _ _ _ hp stk    
  exact pf_of (T := table) (G := glob) (f := 47) rfl rfl (s_block_Raw_0   (topN stk + 1)    hp stk )
noncomputable def p_cascaderef07_Indent__1_3  (L0_g : Nat) (L0 : (List Str)) (v3 v4 : Int) : Option ((Int × Int) ⊕ (Int)) := b_cascaderef07_Indent__1_3 Prims.real p_cascaderef07_first  L0_g L0 v3 v4
theorem s_cascaderef07_Indent__1_3   (m : Nat) (n0 : Nat) (k0 : List Nat) (hl0 : n0 < m)  : H_cascaderef07_Indent__1_3 AT @XM List.length E_string m n0 k0 p_cascaderef07_Indent__1_3 := by
  intro L0_g L0 v3 v4 out hp stk hg0
  exact o_cascaderef07_Indent__1_3 LW rfl rfl he_E_string hz_E_string p_cascaderef07_first s_cascaderef07_first stk m n0 k0 hl0 L0_g L0 v3 v4 hg0 hp
noncomputable def p_cascaderef07_Indent__1_1  (L0_g : Nat) (L0 : (List Str)) (v3 v4 : Int) : Option (Int) := Prims.real.loop (fun (s : Int × Int) => match s with | (v3, v4) => b_cascaderef07_Indent__1_1 Prims.real p_cascaderef07_first p_cascaderef07_Indent__1_3 L0_g L0 v3 v4) (v3, v4)
theorem u_cascaderef07_Indent__1_1  (L0_g : Nat) (L0 : (List Str)) (v3 v4 : Int) : p_cascaderef07_Indent__1_1  L0_g L0 v3 v4 = match b_cascaderef07_Indent__1_1 Prims.real p_cascaderef07_first p_cascaderef07_Indent__1_3 L0_g L0 v3 v4 with
    | some (.inl (v3', v4')) => p_cascaderef07_Indent__1_1  L0_g L0 v3' v4'
    | some (.inr r) => some r
    | none => none := by
  show Pr.loop _ _ = _
  rw [Pr.loop_eq]
  try dsimp only
  generalize b_cascaderef07_Indent__1_1 Prims.real p_cascaderef07_first p_cascaderef07_Indent__1_3 L0_g L0 v3 v4 = y
  cases y with
  | none => rfl
  | some y => cases y <;> rfl
theorem s_cascaderef07_Indent__1_1   (m : Nat) (n0 : Nat) (k0 : List Nat) (hl0 : n0 < m)  : H_cascaderef07_Indent__1_1 AT @XM List.length E_string m n0 k0 p_cascaderef07_Indent__1_1 := by
  intro L0_g L0 v3 v4 out hp stk hg0
  refine LW.ind _ (fun (s : Int × Int) o => match s with | (v3, v4) => ∀ (stk : Stk), getO stk ⟨n0, k0⟩ = some (.arr L0_g 1 (List.map E_string L0)) → (A_cascaderef07_Indent__1_1 AT @XM List.length E_string m n0 k0 L0_g L0 v3 v4 stk) = (O_cascaderef07_Indent__1  m n0 k0 stk) o) (fun s r e => ?_) (fun s t r e ih => ?_) (v3, v4) out hp stk hg0
  · obtain ⟨v3, v4⟩ := s
    intro stk hg0
    exact o_cascaderef07_Indent__1_1 LW rfl rfl he_E_string hz_E_string p_cascaderef07_first s_cascaderef07_first stk m n0 k0 hl0 p_cascaderef07_Indent__1_3 L0_g L0 v3 v4 hg0 (s_cascaderef07_Indent__1_3 m n0 k0 hl0 ) e
  · obtain ⟨v3, v4⟩ := s; obtain ⟨v3', v4'⟩ := t
    intro stk hg0
    exact (o_cascaderef07_Indent__1_1 LW rfl rfl he_E_string hz_E_string p_cascaderef07_first s_cascaderef07_first stk m n0 k0 hl0 p_cascaderef07_Indent__1_3 L0_g L0 v3 v4 hg0 (s_cascaderef07_Indent__1_3 m n0 k0 hl0 ) e).trans (ih stk (hg0))
noncomputable def p_cascaderef07_Indent__1_0  (L0_g : Nat) (L0 : (List Str)) : Option (Int) := b_cascaderef07_Indent__1_0 Prims.real p_cascaderef07_first p_cascaderef07_Indent__1_1 L0_g L0
theorem s_cascaderef07_Indent__1_0   (m : Nat) (n0 : Nat) (k0 : List Nat) (hl0 : n0 < m)  : H_cascaderef07_Indent__1_0 AT @XM List.length E_string m n0 k0 p_cascaderef07_Indent__1_0 := by
  intro L0_g L0 out hp stk hg0
  exact o_cascaderef07_Indent__1_0 LW rfl rfl he_E_string hz_E_string p_cascaderef07_first s_cascaderef07_first stk m n0 k0 hl0 p_cascaderef07_Indent__1_1 L0_g L0 hg0 (s_cascaderef07_Indent__1_1 m n0 k0 hl0 ) hp
noncomputable def p_cascaderef07_Indent__1 : Nat → (List Str) → Option (Int) := fun L0_g L0 => p_cascaderef07_Indent__1_0  L0_g L0
theorem s_cascaderef07_Indent__1 : (C_cascaderef07_Indent__1 PC FC @XM List.length E_string p_cascaderef07_Indent__1) := by
  intro _ _ _ hp stk n0 k0 hg0 hl0 
  exact pf_of (T := table) (G := glob) (f := 44) rfl rfl (s_cascaderef07_Indent__1_0   (topN stk + 1) n0 k0 (Nat.lt_succ_of_le hl0)  hp stk hg0)
noncomputable def p_cascaderef07_Raw_3  (v0 : Str) (v4 : Int) : Option ((Str × Int) ⊕ (Str × Int)) := b_cascaderef07_Raw_3 Prims.real p_cascaderef01_Lines p_cascaderef07_first p_cascaderef07_Indent__1 p_cascaderef07_turned  v0 v4
theorem s_cascaderef07_Raw_3   (m : Nat)    : H_cascaderef07_Raw_3 AT m  p_cascaderef07_Raw_3 := by
  intro v0 v4 out hp stk 
  exact o_cascaderef07_Raw_3 LW rfl rfl he_E_string hz_E_string p_cascaderef01_Lines p_cascaderef07_first p_cascaderef07_Indent__1 p_cascaderef07_turned s_cascaderef01_Lines s_cascaderef07_first s_cascaderef07_Indent__1 s_cascaderef07_turned stk m v0 v4 hp
noncomputable def p_cascaderef07_Raw_5  (v0 : Str) (v5 : (List Str)) : Option (Str × Int) := b_cascaderef07_Raw_5 Prims.real p_cascaderef01_Lines p_cascaderef07_first p_cascaderef07_Indent__1 p_cascaderef07_turned  v0 v5
theorem s_cascaderef07_Raw_5   (m : Nat)    : H_cascaderef07_Raw_5 AT @XM E_string m  p_cascaderef07_Raw_5 := by
  intro v0 v5 out hp stk 
  exact o_cascaderef07_Raw_5 LW rfl rfl he_E_string hz_E_string p_cascaderef01_Lines p_cascaderef07_first p_cascaderef07_Indent__1 p_cascaderef07_turned s_cascaderef01_Lines s_cascaderef07_first s_cascaderef07_Indent__1 s_cascaderef07_turned stk m v0 v5 hp
noncomputable def p_cascaderef07_Raw_1  (v0 : Str) (v4 : Int) : Option (Str × Int) := Prims.real.loop (fun (s : Str × Int) => match s with | (v0, v4) => b_cascaderef07_Raw_1 Prims.real p_cascaderef01_Lines p_cascaderef07_first p_cascaderef07_Indent__1 p_cascaderef07_turned p_cascaderef07_Raw_3 p_cascaderef07_Raw_5 v0 v4) (v0, v4)
theorem u_cascaderef07_Raw_1  (v0 : Str) (v4 : Int) : p_cascaderef07_Raw_1  v0 v4 = match b_cascaderef07_Raw_1 Prims.real p_cascaderef01_Lines p_cascaderef07_first p_cascaderef07_Indent__1 p_cascaderef07_turned p_cascaderef07_Raw_3 p_cascaderef07_Raw_5 v0 v4 with
    | some (.inl (v0', v4')) => p_cascaderef07_Raw_1  v0' v4'
    | some (.inr r) => some r
    | none => none := by
  show Pr.loop _ _ = _
  rw [Pr.loop_eq]
  try dsimp only
  generalize b_cascaderef07_Raw_1 Prims.real p_cascaderef01_Lines p_cascaderef07_first p_cascaderef07_Indent__1 p_cascaderef07_turned p_cascaderef07_Raw_3 p_cascaderef07_Raw_5 v0 v4 = y
  cases y with
  | none => rfl
  | some y => cases y <;> rfl
theorem s_cascaderef07_Raw_1   (m : Nat)    : H_cascaderef07_Raw_1 AT m  p_cascaderef07_Raw_1 := by
  intro v0 v4 out hp stk 
  refine LW.ind _ (fun (s : Str × Int) o => match s with | (v0, v4) => ∀ (stk : Stk), (A_cascaderef07_Raw_1 AT m  v0 v4 stk) = (O_cascaderef07_Raw  m  stk) o) (fun s r e => ?_) (fun s t r e ih => ?_) (v0, v4) out hp stk 
  · obtain ⟨v0, v4⟩ := s
    intro stk 
    exact o_cascaderef07_Raw_1 LW rfl rfl he_E_string hz_E_string p_cascaderef01_Lines p_cascaderef07_first p_cascaderef07_Indent__1 p_cascaderef07_turned s_cascaderef01_Lines s_cascaderef07_first s_cascaderef07_Indent__1 s_cascaderef07_turned stk m p_cascaderef07_Raw_3 p_cascaderef07_Raw_5 v0 v4 (s_cascaderef07_Raw_3 m ) (s_cascaderef07_Raw_5 m ) e
  · obtain ⟨v0, v4⟩ := s; obtain ⟨v0', v4'⟩ := t
    intro stk 
    exact (o_cascaderef07_Raw_1 LW rfl rfl he_E_string hz_E_string p_cascaderef01_Lines p_cascaderef07_first p_cascaderef07_Indent__1 p_cascaderef07_turned s_cascaderef01_Lines s_cascaderef07_first s_cascaderef07_Indent__1 s_cascaderef07_turned stk m p_cascaderef07_Raw_3 p_cascaderef07_Raw_5 v0 v4 (s_cascaderef07_Raw_3 m ) (s_cascaderef07_Raw_5 m ) e).trans (ih stk )
noncomputable def p_cascaderef07_Raw_0  (v0 : Str) : Option (Str × Int) := b_cascaderef07_Raw_0 Prims.real p_cascaderef01_Lines p_cascaderef07_first p_cascaderef07_Indent__1 p_cascaderef07_turned p_cascaderef07_Raw_1 v0
theorem s_cascaderef07_Raw_0   (m : Nat)    : H_cascaderef07_Raw_0 AT m  p_cascaderef07_Raw_0 := by
  intro v0 out hp stk 
  exact o_cascaderef07_Raw_0 LW rfl rfl he_E_string hz_E_string p_cascaderef01_Lines p_cascaderef07_first p_cascaderef07_Indent__1 p_cascaderef07_turned s_cascaderef01_Lines s_cascaderef07_first s_cascaderef07_Indent__1 s_cascaderef07_turned stk m p_cascaderef07_Raw_1 v0 (s_cascaderef07_Raw_1 m ) hp
noncomputable def p_cascaderef07_Raw : Str → Option (Str × Int) := fun v0 => p_cascaderef07_Raw_0  v0
theorem s_cascaderef07_Raw : (C_cascaderef07_Raw PC FC p_cascaderef07_Raw) := by
  intro _ _ _ hp stk    
  exact pf_of (T := table) (G := glob) (f := 48) rfl rfl (s_cascaderef07_Raw_0   (topN stk + 1)    hp stk )
noncomputable def p_cascadelaw07_BlockRaws_0  (v0 : Str) : Option (Bool) := b_cascadelaw07_BlockRaws_0 Prims.real p_cascadelaw07_awake p_block_Raw p_cascaderef07_Raw p_block_Value  v0
theorem s_cascadelaw07_BlockRaws_0   (m : Nat)    : H_cascadelaw07_BlockRaws_0 AT m  p_cascadelaw07_BlockRaws_0 := by
  intro v0 out hp stk 
  exact o_cascadelaw07_BlockRaws_0 LW rfl rfl he_E_string hz_E_string p_cascadelaw07_awake p_block_Raw p_cascaderef07_Raw p_block_Value s_cascadelaw07_awake s_block_Raw s_cascaderef07_Raw s_block_Value stk m v0 hp
noncomputable def p_cascadelaw07_BlockRaws : Str → Option (Bool) := fun v0 => p_cascadelaw07_BlockRaws_0  v0
theorem s_cascadelaw07_BlockRaws : (C_cascadelaw07_BlockRaws PC FC p_cascadelaw07_BlockRaws) := by
  intro _ _ hp stk    
  exact pf_of (T := table) (G := glob) (f := 14) rfl rfl (s_cascadelaw07_BlockRaws_0   (topN stk + 1)    hp stk )
noncomputable def p_cascadelaw07_BlockClean_9  (v0 v5 v6 v8 : Str) (v9 : Int) : Option ((Str × Str × Str × Str × Int) ⊕ (Bool)) := b_cascadelaw07_BlockClean_9 Prims.real p_cascadelaw07_awake p_block_Value  v0 v5 v6 v8 v9
theorem s_cascadelaw07_BlockClean_9   (m : Nat)    : H_cascadelaw07_BlockClean_9 AT m  p_cascadelaw07_BlockClean_9 := by
  intro v0 v5 v6 v8 v9 out hp stk 
  exact o_cascadelaw07_BlockClean_9 LW rfl rfl he_E_string hz_E_string p_cascadelaw07_awake p_block_Value s_cascadelaw07_awake s_block_Value stk m v0 v5 v6 v8 v9 hp
noncomputable def p_cascadelaw07_BlockClean_7  (v0 v5 v6 v8 : Str) (v9 : Int) : Option (Bool) := Prims.real.loop (fun (s : Str × Str × Str × Str × Int) => match s with | (v0, v5, v6, v8, v9) => b_cascadelaw07_BlockClean_7 Prims.real p_cascadelaw07_awake p_block_Value p_cascadelaw07_BlockClean_9 v0 v5 v6 v8 v9) (v0, v5, v6, v8, v9)
theorem u_cascadelaw07_BlockClean_7  (v0 v5 v6 v8 : Str) (v9 : Int) : p_cascadelaw07_BlockClean_7  v0 v5 v6 v8 v9 = match b_cascadelaw07_BlockClean_7 Prims.real p_cascadelaw07_awake p_block_Value p_cascadelaw07_BlockClean_9 v0 v5 v6 v8 v9 with
    | some (.inl (v0', v5', v6', v8', v9')) => p_cascadelaw07_BlockClean_7  v0' v5' v6' v8' v9'
    | some (.inr r) => some r
    | none => none := by
  show Pr.loop _ _ = _
  rw [Pr.loop_eq]
  try dsimp only
  generalize b_cascadelaw07_BlockClean_7 Prims.real p_cascadelaw07_awake p_block_Value p_cascadelaw07_BlockClean_9 v0 v5 v6 v8 v9 = y
  cases y with
  | none => rfl
  | some y => cases y <;> rfl
theorem s_cascadelaw07_BlockClean_7   (m : Nat)    : H_cascadelaw07_BlockClean_7 AT m  p_cascadelaw07_BlockClean_7 := by
  intro v0 v5 v6 v8 v9 out hp stk 
  refine LW.ind _ (fun (s : Str × Str × Str × Str × Int) o => match s with | (v0, v5, v6, v8, v9) => ∀ (stk : Stk), (A_cascadelaw07_BlockClean_7 AT m  v0 v5 v6 v8 v9 stk) = (O_cascadelaw07_BlockClean  m  stk) o) (fun s r e => ?_) (fun s t r e ih => ?_) (v0, v5, v6, v8, v9) out hp stk 
  · obtain ⟨v0, v5, v6, v8, v9⟩ := s
    intro stk 
    exact o_cascadelaw07_BlockClean_7 LW rfl rfl he_E_string hz_E_string p_cascadelaw07_awake p_block_Value s_cascadelaw07_awake s_block_Value stk m p_cascadelaw07_BlockClean_9 v0 v5 v6 v8 v9 (s_cascadelaw07_BlockClean_9 m ) e
  · obtain ⟨v0, v5, v6, v8, v9⟩ := s; obtain ⟨v0', v5', v6', v8', v9'⟩ := t
    intro stk 
    exact (o_cascadelaw07_BlockClean_7 LW rfl rfl he_E_string hz_E_string p_cascadelaw07_awake p_block_Value s_cascadelaw07_awake s_block_Value stk m p_cascadelaw07_BlockClean_9 v0 v5 v6 v8 v9 (s_cascadelaw07_BlockClean_9 m ) e).trans (ih stk )
noncomputable def p_cascadelaw07_BlockClean_3  (v0 : Str) (v1 : Int) (v5 v6 : Str) (v7 : Int) : Option (Bool) := Prims.real.loop (fun (s : Str × Int × Str × Str × Int) => match s with | (v0, v1, v5, v6, v7) => b_cascadelaw07_BlockClean_3 Prims.real p_cascadelaw07_awake p_block_Value p_cascadelaw07_BlockClean_7 v0 v1 v5 v6 v7) (v0, v1, v5, v6, v7)
theorem u_cascadelaw07_BlockClean_3  (v0 : Str) (v1 : Int) (v5 v6 : Str) (v7 : Int) : p_cascadelaw07_BlockClean_3  v0 v1 v5 v6 v7 = match b_cascadelaw07_BlockClean_3 Prims.real p_cascadelaw07_awake p_block_Value p_cascadelaw07_BlockClean_7 v0 v1 v5 v6 v7 with
    | some (.inl (v0', v1', v5', v6', v7')) => p_cascadelaw07_BlockClean_3  v0' v1' v5' v6' v7'
    | some (.inr r) => some r
    | none => none := by
  show Pr.loop _ _ = _
  rw [Pr.loop_eq]
  try dsimp only
  generalize b_cascadelaw07_BlockClean_3 Prims.real p_cascadelaw07_awake p_block_Value p_cascadelaw07_BlockClean_7 v0 v1 v5 v6 v7 = y
  cases y with
  | none => rfl
  | some y => cases y <;> rfl
theorem s_cascadelaw07_BlockClean_3   (m : Nat)    : H_cascadelaw07_BlockClean_3 AT m  p_cascadelaw07_BlockClean_3 := by
  intro v0 v1 v5 v6 v7 out hp stk 
  refine LW.ind _ (fun (s : Str × Int × Str × Str × Int) o => match s with | (v0, v1, v5, v6, v7) => ∀ (stk : Stk), (A_cascadelaw07_BlockClean_3 AT m  v0 v1 v5 v6 v7 stk) = (O_cascadelaw07_BlockClean  m  stk) o) (fun s r e => ?_) (fun s t r e ih => ?_) (v0, v1, v5, v6, v7) out hp stk 
  · obtain ⟨v0, v1, v5, v6, v7⟩ := s
    intro stk 
    exact o_cascadelaw07_BlockClean_3 LW rfl rfl he_E_string hz_E_string p_cascadelaw07_awake p_block_Value s_cascadelaw07_awake s_block_Value stk m p_cascadelaw07_BlockClean_7 v0 v1 v5 v6 v7 (s_cascadelaw07_BlockClean_7 m ) e
  · obtain ⟨v0, v1, v5, v6, v7⟩ := s; obtain ⟨v0', v1', v5', v6', v7'⟩ := t
    intro stk 
    exact (o_cascadelaw07_BlockClean_3 LW rfl rfl he_E_string hz_E_string p_cascadelaw07_awake p_block_Value s_cascadelaw07_awake s_block_Value stk m p_cascadelaw07_BlockClean_7 v0 v1 v5 v6 v7 (s_cascadelaw07_BlockClean_7 m ) e).trans (ih stk )
noncomputable def p_cascadelaw07_BlockClean_0  (v0 : Str) (v1 : Int) : Option (Bool) := b_cascadelaw07_BlockClean_0 Prims.real p_cascadelaw07_awake p_block_Value p_cascadelaw07_BlockClean_3 v0 v1
theorem s_cascadelaw07_BlockClean_0   (m : Nat)    : H_cascadelaw07_BlockClean_0 AT m  p_cascadelaw07_BlockClean_0 := by
  intro v0 v1 out hp stk 
  exact o_cascadelaw07_BlockClean_0 LW rfl rfl he_E_string hz_E_string p_cascadelaw07_awake p_block_Value s_cascadelaw07_awake s_block_Value stk m p_cascadelaw07_BlockClean_3 v0 v1 (s_cascadelaw07_BlockClean_3 m ) hp
noncomputable def p_cascadelaw07_BlockClean : Str → Int → Option (Bool) := fun v0 v1 => p_cascadelaw07_BlockClean_0  v0 v1
theorem s_cascadelaw07_BlockClean : (C_cascadelaw07_BlockClean PC FC p_cascadelaw07_BlockClean) := by
  intro _ _ _ hp stk    
  exact pf_of (T := table) (G := glob) (f := 13) rfl rfl (s_cascadelaw07_BlockClean_0   (topN stk + 1)    hp stk )
end Go.Abs.Q
