import Derived.Test.YtcoajejhnlcmmaaDoorWB
import Derived.KernelRfl
set_option linter.unusedVariables false
namespace Go.Abs.B
set_option maxRecDepth 100000
theorem table_ok : ∀ f kf, table f = some kf → kf.ok = true := by
  intro f kf h
  unfold table at h
  split at h <;> first | (cases h; done) | (cases h; kernel_rfl)
theorem LW : KLaws (oldT table) iterW glob (callW (oldT table) glob) (sysW table glob).pcall (sysW table glob).fcall (sysW table glob).kcall (List.length) (fun xs i => xs[i]?) (fun xs lo hi => (xs.take hi).drop lo) (fun xs ys => xs ++ ys) (fun xs i x => xs.set i x) (fun n x => List.replicate n x) (allSz) (List.length) (fun s i => s[i]?) (fun s lo hi => (s.take hi).drop lo) (fun a b => a ++ b) (fun a b => a == b) (fun a b => Op.bytesLess a b) (fun s => s.map fun b => .int .u8 b.toNat) (bytesOf) (fun s i => Utf8.decode ⟨⟨s⟩⟩ i) (fun n => (Utf8.encode n).data.toList) (intAr) (intCmp) (fun k n => k.wrap n) (fun n => decide (n = 0)) (fun n => decide (n < 0)) (fun n => n.toNat) (fun (n : Nat) => (n : Int)) (fun (b : UInt8) => (b.toNat : Int)) (fun a b => decide (a ≤ b)) (fun a b => a + b) (fun a b => a - b) (fun n b => decide (n * b ≤ room ∧ n ≤ room)) (findE) (Go.Abs.putE) (Go.Abs.findK) (List.length) (frzMap) (atW table glob) setO (fun s => topN s + 1) sameStk (fun {_} e l => List.map e l) (fun {_} e l => mapE e l) Pr.quo Pr.shf Pr.slen Pr.sidx Pr.ssub Pr.scat Pr.sit Pr.slist Pr.ofBytes @Pr.len @Pr.idx @Pr.sub @Pr.app @Pr.set @Pr.make @Pr.mfind @Pr.mput @Pr.loop table := KLaws.real (G := glob) table_ok
def E_string : Str → D := fun x => (.str x)
theorem he_E_string (x : Str) : E_string x = (.str x) := rfl
theorem hz_E_string (l : List Str) : allSz 1 (l.map E_string) = true := LW.allsz E_string 1 (fun a => ⟨rfl, rfl⟩) l
def E_uint8 : Int → D := fun x => (.int .u8 x)
theorem he_E_uint8 (x : Int) : E_uint8 x = (.int .u8 x) := rfl
theorem hz_E_uint8 (l : List Int) : allSz 1 (l.map E_uint8) = true := LW.allsz E_uint8 1 (fun a => ⟨rfl, rfl⟩) l
def p_strings_Builder_String : Str → Option Str := btext
theorem s_strings_Builder_String : (C_strings_Builder_String (sysW table glob).fcall p_strings_Builder_String) := by
  intro _ _ hp stk l l1 u g h1 h2
  exact fcall_eff (T := table) (G := glob) (f := 19) rfl rfl (btext_at h1 h2 hp)
def p_strings_Builder_WriteString : Str → Str → Option (Str × Int) := bstr
theorem s_strings_Builder_WriteString : (C_strings_Builder_WriteString (sysW table glob).fcall p_strings_Builder_WriteString) := by
  intro _ _ _ _ hp stk l l1 u g h1 h2
  exact fcall_eff (T := table) (G := glob) (f := 18) rfl rfl (bstr_at h1 h2 hp)
noncomputable def p_parts_End_0   : Option (Str) := b_parts_End_0 Prims.real   
theorem s_parts_End_0   (m : Nat)    : H_parts_End_0 (atW table glob) m  p_parts_End_0 := by
  intro  out hp stk 
  exact o_parts_End_0 (h := LW) (hT := rfl) (hPP := rfl) (he_e_string := he_E_string) (hz_e_string := hz_E_string) (he_e_uint8 := he_E_uint8) (hz_e_uint8 := hz_E_uint8)     stk m      hp
noncomputable def p_parts_End : Option (Str) := p_parts_End_0 
theorem s_parts_End : (C_parts_End (sysW table glob).pcall (sysW table glob).fcall p_parts_End) := by
  intro _ hp stk    
  exact pf_of (T := table) (G := glob) (f := 8) rfl rfl (s_parts_End_0   (topN stk + 1)    hp stk )
noncomputable def p_parts_New__0_0   : Option (Str × Int × Bool × Int) := b_parts_New__0_0 Prims.real   
theorem s_parts_New__0_0   (m : Nat)    : H_parts_New__0_0 (atW table glob) m  p_parts_New__0_0 := by
  intro  out hp stk 
  exact o_parts_New__0_0 (h := LW) (hT := rfl) (hPP := rfl) (he_e_string := he_E_string) (hz_e_string := hz_E_string) (he_e_uint8 := he_E_uint8) (hz_e_uint8 := hz_E_uint8)     stk m      hp
noncomputable def p_parts_New__0 : Option (Str × Int × Bool × Int) := p_parts_New__0_0 
theorem s_parts_New__0 : (C_parts_New__0 (sysW table glob).kcall p_parts_New__0) := by
  intro _ _ _ _ hp stk    
  intro m hm
  subst hm
  exact kcall_of (T := table) (G := glob) (f := 11) (ks := [[2]]) rfl rfl (s_parts_New__0_0   (topN stk + 1)    hp stk )
noncomputable def p_cascadelaw28_awake_0   : Option (Bool) := b_cascadelaw28_awake_0 Prims.real p_parts_End p_parts_New__0  
theorem s_cascadelaw28_awake_0   (m : Nat)    : H_cascadelaw28_awake_0 (atW table glob) m  p_cascadelaw28_awake_0 := by
  intro  out hp stk 
  exact o_cascadelaw28_awake_0 (h := LW) (hT := rfl) (hPP := rfl) (he_e_string := he_E_string) (hz_e_string := hz_E_string) (he_e_uint8 := he_E_uint8) (hz_e_uint8 := hz_E_uint8) (c_parts_End := p_parts_End) (c_parts_New__0 := p_parts_New__0) (h_parts_End := s_parts_End) (h_parts_New__0 := s_parts_New__0)   stk m      hp
noncomputable def p_cascadelaw28_awake : Option (Bool) := p_cascadelaw28_awake_0 
theorem s_cascadelaw28_awake : (C_cascadelaw28_awake (sysW table glob).pcall (sysW table glob).fcall p_cascadelaw28_awake) := by
  intro _ hp stk    
  exact pf_of (T := table) (G := glob) (f := 5) rfl rfl (s_cascadelaw28_awake_0   (topN stk + 1)    hp stk )
noncomputable def p_cascadelaw28_few_4  (v0 : (List Str)) (v1 : Int) : Option (Bool) := b_cascadelaw28_few_4 Prims.real   v0 v1
theorem s_cascadelaw28_few_4   (m : Nat)    : H_cascadelaw28_few_4 (atW table glob) (fun {_} e l => List.map e l) E_string m  p_cascadelaw28_few_4 := by
  intro v0 v1 out hp stk 
  exact o_cascadelaw28_few_4 (h := LW) (hT := rfl) (hPP := rfl) (he_e_string := he_E_string) (hz_e_string := hz_E_string) (he_e_uint8 := he_E_uint8) (hz_e_uint8 := hz_E_uint8)     stk m    v0 v1  hp
noncomputable def p_cascadelaw28_few_1  (v0 : (List Str)) (v1 : Int) (v2 : Int) (v7 : Int) : Option (Bool) := Prims.real.loop (fun (s : (List Str) × Int × Int × Int) => match s with | (v0, v1, v2, v7) => b_cascadelaw28_few_1 Prims.real  p_cascadelaw28_few_4 v0 v1 v2 v7) (v0, v1, v2, v7)
theorem u_cascadelaw28_few_1  (v0 : (List Str)) (v1 : Int) (v2 : Int) (v7 : Int) : p_cascadelaw28_few_1  v0 v1 v2 v7 = match b_cascadelaw28_few_1 Prims.real  p_cascadelaw28_few_4 v0 v1 v2 v7 with
    | some (.inl (v0', v1', v2', v7')) => p_cascadelaw28_few_1  v0' v1' v2' v7'
    | some (.inr r) => some r
    | none => none := by
  show Pr.loop _ _ = _
  rw [Pr.loop_eq]
  dsimp only
  generalize b_cascadelaw28_few_1 Prims.real  p_cascadelaw28_few_4 v0 v1 v2 v7 = y
  cases y with
  | none => rfl
  | some y => cases y <;> rfl
theorem s_cascadelaw28_few_1   (m : Nat)    : H_cascadelaw28_few_1 (atW table glob) (fun {_} e l => List.map e l) E_string m  p_cascadelaw28_few_1 := by
  intro v0 v1 v2 v7 out hp stk 
  refine LW.ind (fun (s : (List Str) × Int × Int × Int) => match s with | (v0, v1, v2, v7) => b_cascadelaw28_few_1 Prims.real  p_cascadelaw28_few_4 v0 v1 v2 v7) (fun (s : (List Str) × Int × Int × Int) o => match s with | (v0, v1, v2, v7) => ∀ (stk : Stk), (A_cascadelaw28_few_1 (atW table glob) (fun {_} e l => List.map e l) E_string m  v0 v1 v2 v7 stk) = (O_cascadelaw28_few  m  stk) o) (fun s r e => ?_) (fun s t r e ih => ?_) (v0, v1, v2, v7) out hp stk 
  · obtain ⟨v0, v1, v2, v7⟩ := s
    intro stk 
    exact o_cascadelaw28_few_1 (h := LW) (hT := rfl) (hPP := rfl) (he_e_string := he_E_string) (hz_e_string := hz_E_string) (he_e_uint8 := he_E_uint8) (hz_e_uint8 := hz_E_uint8)   (l_4 := p_cascadelaw28_few_4 ) (h_l_4 := s_cascadelaw28_few_4   m   ) stk m    v0 v1 v2 v7  e
  · obtain ⟨v0, v1, v2, v7⟩ := s; obtain ⟨v0', v1', v2', v7'⟩ := t
    intro stk 
    exact (o_cascadelaw28_few_1 (h := LW) (hT := rfl) (hPP := rfl) (he_e_string := he_E_string) (hz_e_string := hz_E_string) (he_e_uint8 := he_E_uint8) (hz_e_uint8 := hz_E_uint8)   (l_4 := p_cascadelaw28_few_4 ) (h_l_4 := s_cascadelaw28_few_4   m   ) stk m    v0 v1 v2 v7  e).trans (ih stk )
noncomputable def p_cascadelaw28_few_0  (v0 : (List Str)) (v1 : Int) (v2 : Int) : Option (Bool) := b_cascadelaw28_few_0 Prims.real  p_cascadelaw28_few_1 v0 v1 v2
theorem s_cascadelaw28_few_0   (m : Nat)    : H_cascadelaw28_few_0 (atW table glob) (fun {_} e l => List.map e l) E_string m  p_cascadelaw28_few_0 := by
  intro v0 v1 v2 out hp stk 
  exact o_cascadelaw28_few_0 (h := LW) (hT := rfl) (hPP := rfl) (he_e_string := he_E_string) (hz_e_string := hz_E_string) (he_e_uint8 := he_E_uint8) (hz_e_uint8 := hz_E_uint8)   (l_1 := p_cascadelaw28_few_1 ) (h_l_1 := s_cascadelaw28_few_1   m   ) stk m    v0 v1 v2  hp
noncomputable def p_cascadelaw28_few : (List Str) → Int → Int → Option (Bool) := fun v0 v1 v2 => p_cascadelaw28_few_0  v0 v1 v2
theorem s_cascadelaw28_few : (C_cascadelaw28_few (sysW table glob).pcall (sysW table glob).fcall (fun {_} e l => List.map e l) E_string p_cascadelaw28_few) := by
  intro _ _ _ _ hp stk    
  exact pf_of (T := table) (G := glob) (f := 6) rfl rfl (s_cascadelaw28_few_0   (topN stk + 1)    hp stk )
theorem s_strconv_Itoa : (C_strconv_Itoa (sysW table glob).pcall (sysW table glob).fcall p_strconv_Itoa) := by
  intro _ _ hp stk
  exact ⟨pcall_ext (T := table) (G := glob) (f := 20) (e := ext_strconv_Itoa) rfl rfl (x_strconv_Itoa hp) stk, fcall_ext (T := table) (G := glob) (f := 20) (e := ext_strconv_Itoa) rfl rfl (x_strconv_Itoa hp) stk⟩
noncomputable def p_parts_Part_0  (v0 : Str) : Option (Str × Int) := b_parts_Part_0 Prims.real p_strconv_Itoa  v0
theorem s_parts_Part_0   (m : Nat)    : H_parts_Part_0 (atW table glob) m  p_parts_Part_0 := by
  intro v0 out hp stk 
  exact o_parts_Part_0 (h := LW) (hT := rfl) (hPP := rfl) (he_e_string := he_E_string) (hz_e_string := hz_E_string) (he_e_uint8 := he_E_uint8) (hz_e_uint8 := hz_E_uint8) (c_strconv_Itoa := p_strconv_Itoa) (h_strconv_Itoa := s_strconv_Itoa)   stk m    v0  hp
noncomputable def p_parts_Part : Str → Option (Str × Int) := fun v0 => p_parts_Part_0  v0
theorem s_parts_Part : (C_parts_Part (sysW table glob).pcall (sysW table glob).fcall p_parts_Part) := by
  intro _ _ _ hp stk    
  exact pf_of (T := table) (G := glob) (f := 9) rfl rfl (s_parts_Part_0   (topN stk + 1)    hp stk )
noncomputable def p_parts_Whole_1  (v9 : (List Str)) (v10 : Int) (v11 : Int) (o4_u : Bool) (o4_1_g : Nat) (o4_1_s : Str) : Option (Str × Int) := Prims.real.loop (fun (s : (List Str) × Int × Int × Bool × Nat × Str) => match s with | (v9, v10, v11, o4_u, o4_1_g, o4_1_s) => b_parts_Whole_1 Prims.real p_parts_Part p_strings_Builder_WriteString p_parts_End p_strings_Builder_String  v9 v10 v11 o4_u o4_1_g o4_1_s) (v9, v10, v11, o4_u, o4_1_g, o4_1_s)
theorem u_parts_Whole_1  (v9 : (List Str)) (v10 : Int) (v11 : Int) (o4_u : Bool) (o4_1_g : Nat) (o4_1_s : Str) : p_parts_Whole_1  v9 v10 v11 o4_u o4_1_g o4_1_s = match b_parts_Whole_1 Prims.real p_parts_Part p_strings_Builder_WriteString p_parts_End p_strings_Builder_String  v9 v10 v11 o4_u o4_1_g o4_1_s with
    | some (.inl (v9', v10', v11', o4_u', o4_1_g', o4_1_s')) => p_parts_Whole_1  v9' v10' v11' o4_u' o4_1_g' o4_1_s'
    | some (.inr r) => some r
    | none => none := by
  show Pr.loop _ _ = _
  rw [Pr.loop_eq]
  dsimp only
  generalize b_parts_Whole_1 Prims.real p_parts_Part p_strings_Builder_WriteString p_parts_End p_strings_Builder_String  v9 v10 v11 o4_u o4_1_g o4_1_s = y
  cases y with
  | none => rfl
  | some y => cases y <;> rfl
theorem s_parts_Whole_1   (m : Nat)    : H_parts_Whole_1 (atW table glob) (fun {_} e l => List.map e l) E_string m  p_parts_Whole_1 := by
  intro v9 v10 v11 o4_u o4_1_g o4_1_s out hp stk 
  refine LW.ind (fun (s : (List Str) × Int × Int × Bool × Nat × Str) => match s with | (v9, v10, v11, o4_u, o4_1_g, o4_1_s) => b_parts_Whole_1 Prims.real p_parts_Part p_strings_Builder_WriteString p_parts_End p_strings_Builder_String  v9 v10 v11 o4_u o4_1_g o4_1_s) (fun (s : (List Str) × Int × Int × Bool × Nat × Str) o => match s with | (v9, v10, v11, o4_u, o4_1_g, o4_1_s) => ∀ (stk : Stk), (A_parts_Whole_1 (atW table glob) (fun {_} e l => List.map e l) E_string m  v9 v10 v11 o4_u o4_1_g o4_1_s stk) = (O_parts_Whole  m  stk) o) (fun s r e => ?_) (fun s t r e ih => ?_) (v9, v10, v11, o4_u, o4_1_g, o4_1_s) out hp stk 
  · obtain ⟨v9, v10, v11, o4_u, o4_1_g, o4_1_s⟩ := s
    intro stk 
    exact o_parts_Whole_1 (h := LW) (hT := rfl) (hPP := rfl) (he_e_string := he_E_string) (hz_e_string := hz_E_string) (he_e_uint8 := he_E_uint8) (hz_e_uint8 := hz_E_uint8) (c_parts_Part := p_parts_Part) (c_strings_Builder_WriteString := p_strings_Builder_WriteString) (c_parts_End := p_parts_End) (c_strings_Builder_String := p_strings_Builder_String) (h_parts_Part := s_parts_Part) (h_strings_Builder_WriteString := s_strings_Builder_WriteString) (h_parts_End := s_parts_End) (h_strings_Builder_String := s_strings_Builder_String)   stk m    v9 v10 v11 o4_u o4_1_g o4_1_s  e
  · obtain ⟨v9, v10, v11, o4_u, o4_1_g, o4_1_s⟩ := s; obtain ⟨v9', v10', v11', o4_u', o4_1_g', o4_1_s'⟩ := t
    intro stk 
    exact (o_parts_Whole_1 (h := LW) (hT := rfl) (hPP := rfl) (he_e_string := he_E_string) (hz_e_string := hz_E_string) (he_e_uint8 := he_E_uint8) (hz_e_uint8 := hz_E_uint8) (c_parts_Part := p_parts_Part) (c_strings_Builder_WriteString := p_strings_Builder_WriteString) (c_parts_End := p_parts_End) (c_strings_Builder_String := p_strings_Builder_String) (h_parts_Part := s_parts_Part) (h_strings_Builder_WriteString := s_strings_Builder_WriteString) (h_parts_End := s_parts_End) (h_strings_Builder_String := s_strings_Builder_String)   stk m    v9 v10 v11 o4_u o4_1_g o4_1_s  e).trans (ih stk )
noncomputable def p_parts_Whole_0  (v0 : (List Str)) : Option (Str × Int) := b_parts_Whole_0 Prims.real p_parts_Part p_strings_Builder_WriteString p_parts_End p_strings_Builder_String p_parts_Whole_1 v0
theorem s_parts_Whole_0   (m : Nat)    : H_parts_Whole_0 (atW table glob) (fun {_} e l => List.map e l) E_string m  p_parts_Whole_0 := by
  intro v0 out hp stk 
  exact o_parts_Whole_0 (h := LW) (hT := rfl) (hPP := rfl) (he_e_string := he_E_string) (hz_e_string := hz_E_string) (he_e_uint8 := he_E_uint8) (hz_e_uint8 := hz_E_uint8) (c_parts_Part := p_parts_Part) (c_strings_Builder_WriteString := p_strings_Builder_WriteString) (c_parts_End := p_parts_End) (c_strings_Builder_String := p_strings_Builder_String) (h_parts_Part := s_parts_Part) (h_strings_Builder_WriteString := s_strings_Builder_WriteString) (h_parts_End := s_parts_End) (h_strings_Builder_String := s_strings_Builder_String) (l_1 := p_parts_Whole_1 ) (h_l_1 := s_parts_Whole_1   m   ) stk m    v0  hp
noncomputable def p_parts_Whole : (List Str) → Option (Str × Int) := fun v0 => p_parts_Whole_0  v0
theorem s_parts_Whole : (C_parts_Whole (sysW table glob).pcall (sysW table glob).fcall (fun {_} e l => List.map e l) E_string p_parts_Whole) := by
  intro _ _ _ hp stk    
  exact pf_of (T := table) (G := glob) (f := 7) rfl rfl (s_parts_Whole_0   (topN stk + 1)    hp stk )
noncomputable def p_parts_Whole__1_1  (L0_g : Nat) (L0 : (List Str)) (v10 : Int) (v11 : Int) (o4_u : Bool) (o4_1_g : Nat) (o4_1_s : Str) : Option (Str × Int) := Prims.real.loop (fun (s : Int × Int × Bool × Nat × Str) => match s with | (v10, v11, o4_u, o4_1_g, o4_1_s) => b_parts_Whole__1_1 Prims.real p_parts_Part p_strings_Builder_WriteString p_parts_End p_strings_Builder_String  L0_g L0 v10 v11 o4_u o4_1_g o4_1_s) (v10, v11, o4_u, o4_1_g, o4_1_s)
theorem u_parts_Whole__1_1  (L0_g : Nat) (L0 : (List Str)) (v10 : Int) (v11 : Int) (o4_u : Bool) (o4_1_g : Nat) (o4_1_s : Str) : p_parts_Whole__1_1  L0_g L0 v10 v11 o4_u o4_1_g o4_1_s = match b_parts_Whole__1_1 Prims.real p_parts_Part p_strings_Builder_WriteString p_parts_End p_strings_Builder_String  L0_g L0 v10 v11 o4_u o4_1_g o4_1_s with
    | some (.inl (v10', v11', o4_u', o4_1_g', o4_1_s')) => p_parts_Whole__1_1  L0_g L0 v10' v11' o4_u' o4_1_g' o4_1_s'
    | some (.inr r) => some r
    | none => none := by
  show Pr.loop _ _ = _
  rw [Pr.loop_eq]
  dsimp only
  generalize b_parts_Whole__1_1 Prims.real p_parts_Part p_strings_Builder_WriteString p_parts_End p_strings_Builder_String  L0_g L0 v10 v11 o4_u o4_1_g o4_1_s = y
  cases y with
  | none => rfl
  | some y => cases y <;> rfl
theorem s_parts_Whole__1_1   (m : Nat) (n0 : Nat) (k0 : List Nat) (hl0 : n0 < m)  : H_parts_Whole__1_1 (atW table glob) (fun {_} e l => List.map e l) List.length E_string m n0 k0 p_parts_Whole__1_1 := by
  intro L0_g L0 v10 v11 o4_u o4_1_g o4_1_s out hp stk hg0
  refine LW.ind (fun (s : Int × Int × Bool × Nat × Str) => match s with | (v10, v11, o4_u, o4_1_g, o4_1_s) => b_parts_Whole__1_1 Prims.real p_parts_Part p_strings_Builder_WriteString p_parts_End p_strings_Builder_String  L0_g L0 v10 v11 o4_u o4_1_g o4_1_s) (fun (s : Int × Int × Bool × Nat × Str) o => match s with | (v10, v11, o4_u, o4_1_g, o4_1_s) => ∀ (stk : Stk), getO stk ⟨n0, k0⟩ = some (.arr L0_g 1 (List.map E_string L0)) → (A_parts_Whole__1_1 (atW table glob) (fun {_} e l => List.map e l) List.length E_string m n0 k0 L0_g L0 v10 v11 o4_u o4_1_g o4_1_s stk) = (O_parts_Whole__1  m n0 k0 stk) o) (fun s r e => ?_) (fun s t r e ih => ?_) (v10, v11, o4_u, o4_1_g, o4_1_s) out hp stk hg0
  · obtain ⟨v10, v11, o4_u, o4_1_g, o4_1_s⟩ := s
    intro stk hg0
    exact o_parts_Whole__1_1 (h := LW) (hT := rfl) (hPP := rfl) (he_e_string := he_E_string) (hz_e_string := hz_E_string) (he_e_uint8 := he_E_uint8) (hz_e_uint8 := hz_E_uint8) (c_parts_Part := p_parts_Part) (c_strings_Builder_WriteString := p_strings_Builder_WriteString) (c_parts_End := p_parts_End) (c_strings_Builder_String := p_strings_Builder_String) (h_parts_Part := s_parts_Part) (h_strings_Builder_WriteString := s_strings_Builder_WriteString) (h_parts_End := s_parts_End) (h_strings_Builder_String := s_strings_Builder_String)   stk m n0 k0 hl0  L0_g L0 v10 v11 o4_u o4_1_g o4_1_s hg0 e
  · obtain ⟨v10, v11, o4_u, o4_1_g, o4_1_s⟩ := s; obtain ⟨v10', v11', o4_u', o4_1_g', o4_1_s'⟩ := t
    intro stk hg0
    exact (o_parts_Whole__1_1 (h := LW) (hT := rfl) (hPP := rfl) (he_e_string := he_E_string) (hz_e_string := hz_E_string) (he_e_uint8 := he_E_uint8) (hz_e_uint8 := hz_E_uint8) (c_parts_Part := p_parts_Part) (c_strings_Builder_WriteString := p_strings_Builder_WriteString) (c_parts_End := p_parts_End) (c_strings_Builder_String := p_strings_Builder_String) (h_parts_Part := s_parts_Part) (h_strings_Builder_WriteString := s_strings_Builder_WriteString) (h_parts_End := s_parts_End) (h_strings_Builder_String := s_strings_Builder_String)   stk m n0 k0 hl0  L0_g L0 v10 v11 o4_u o4_1_g o4_1_s hg0 e).trans (ih stk (hg0))
noncomputable def p_parts_Whole__1_0  (L0_g : Nat) (L0 : (List Str)) : Option (Str × Int) := b_parts_Whole__1_0 Prims.real p_parts_Part p_strings_Builder_WriteString p_parts_End p_strings_Builder_String p_parts_Whole__1_1 L0_g L0
theorem s_parts_Whole__1_0   (m : Nat) (n0 : Nat) (k0 : List Nat) (hl0 : n0 < m)  : H_parts_Whole__1_0 (atW table glob) (fun {_} e l => List.map e l) List.length E_string m n0 k0 p_parts_Whole__1_0 := by
  intro L0_g L0 out hp stk hg0
  exact o_parts_Whole__1_0 (h := LW) (hT := rfl) (hPP := rfl) (he_e_string := he_E_string) (hz_e_string := hz_E_string) (he_e_uint8 := he_E_uint8) (hz_e_uint8 := hz_E_uint8) (c_parts_Part := p_parts_Part) (c_strings_Builder_WriteString := p_strings_Builder_WriteString) (c_parts_End := p_parts_End) (c_strings_Builder_String := p_strings_Builder_String) (h_parts_Part := s_parts_Part) (h_strings_Builder_WriteString := s_strings_Builder_WriteString) (h_parts_End := s_parts_End) (h_strings_Builder_String := s_strings_Builder_String) (l_1 := p_parts_Whole__1_1 ) (h_l_1 := s_parts_Whole__1_1   m n0 k0 hl0 ) stk m n0 k0 hl0  L0_g L0 hg0 hp
noncomputable def p_parts_Whole__1 : Nat → (List Str) → Option (Str × Int) := fun L0_g L0 => p_parts_Whole__1_0  L0_g L0
theorem s_parts_Whole__1 : (C_parts_Whole__1 (sysW table glob).pcall (sysW table glob).fcall (fun {_} e l => List.map e l) List.length E_string p_parts_Whole__1) := by
  intro _ _ _ _ hp stk n0 k0 hg0 hl0 
  exact pf_of (T := table) (G := glob) (f := 7) rfl rfl (s_parts_Whole__1_0   (topN stk + 1) n0 k0 (Nat.lt_succ_of_le hl0)  hp stk hg0)
noncomputable def p_cascadelaw28_PartsTwo_0  (v0 : (List Str)) (v1 : (List Str)) : Option (Bool) := b_cascadelaw28_PartsTwo_0 Prims.real p_cascadelaw28_awake p_cascadelaw28_few p_parts_Whole p_parts_Whole__1 p_parts_End  v0 v1
theorem s_cascadelaw28_PartsTwo_0   (m : Nat)    : H_cascadelaw28_PartsTwo_0 (atW table glob) (fun {_} e l => List.map e l) E_string m  p_cascadelaw28_PartsTwo_0 := by
  intro v0 v1 out hp stk 
  exact o_cascadelaw28_PartsTwo_0 (h := LW) (hT := rfl) (hPP := rfl) (he_e_string := he_E_string) (hz_e_string := hz_E_string) (he_e_uint8 := he_E_uint8) (hz_e_uint8 := hz_E_uint8) (c_cascadelaw28_awake := p_cascadelaw28_awake) (c_cascadelaw28_few := p_cascadelaw28_few) (c_parts_Whole := p_parts_Whole) (c_parts_Whole__1 := p_parts_Whole__1) (c_parts_End := p_parts_End) (h_cascadelaw28_awake := s_cascadelaw28_awake) (h_cascadelaw28_few := s_cascadelaw28_few) (h_parts_Whole := s_parts_Whole) (h_parts_Whole__1 := s_parts_Whole__1) (h_parts_End := s_parts_End)   stk m    v0 v1  hp
noncomputable def p_cascadelaw28_PartsTwo : (List Str) → (List Str) → Option (Bool) := fun v0 v1 => p_cascadelaw28_PartsTwo_0  v0 v1
theorem s_cascadelaw28_PartsTwo : (C_cascadelaw28_PartsTwo (sysW table glob).pcall (sysW table glob).fcall (fun {_} e l => List.map e l) E_string p_cascadelaw28_PartsTwo) := by
  intro _ _ _ hp stk    
  exact pf_of (T := table) (G := glob) (f := 3) rfl rfl (s_cascadelaw28_PartsTwo_0   (topN stk + 1)    hp stk )
noncomputable def p_cascaderef05_Number_5  (v0 : Int) (v3 : Str) (v4 : Str) (v5 : Int) (v6 : Int) : Option ((Int × Str × Str × Int) ⊕ (Str)) := b_cascaderef05_Number_5 Prims.real   v0 v3 v4 v5 v6
theorem s_cascaderef05_Number_5   (m : Nat)    : H_cascaderef05_Number_5 (atW table glob) m  p_cascaderef05_Number_5 := by
  intro v0 v3 v4 v5 v6 out hp stk 
  exact o_cascaderef05_Number_5 (h := LW) (hT := rfl) (hPP := rfl) (he_e_string := he_E_string) (hz_e_string := hz_E_string) (he_e_uint8 := he_E_uint8) (hz_e_uint8 := hz_E_uint8)     stk m    v0 v3 v4 v5 v6  hp
noncomputable def p_cascaderef05_Number_7  (v3 : Str) (v4 : Str) : Option (Str) := b_cascaderef05_Number_7 Prims.real   v3 v4
theorem s_cascaderef05_Number_7   (m : Nat)    : H_cascaderef05_Number_7 (atW table glob) m  p_cascaderef05_Number_7 := by
  intro v3 v4 out hp stk 
  exact o_cascaderef05_Number_7 (h := LW) (hT := rfl) (hPP := rfl) (he_e_string := he_E_string) (hz_e_string := hz_E_string) (he_e_uint8 := he_E_uint8) (hz_e_uint8 := hz_E_uint8)     stk m    v3 v4  hp
noncomputable def p_cascaderef05_Number_3  (v0 : Int) (v3 : Str) (v4 : Str) (v5 : Int) : Option (Str) := Prims.real.loop (fun (s : Int × Str × Str × Int) => match s with | (v0, v3, v4, v5) => b_cascaderef05_Number_3 Prims.real  p_cascaderef05_Number_5 p_cascaderef05_Number_7 v0 v3 v4 v5) (v0, v3, v4, v5)
theorem u_cascaderef05_Number_3  (v0 : Int) (v3 : Str) (v4 : Str) (v5 : Int) : p_cascaderef05_Number_3  v0 v3 v4 v5 = match b_cascaderef05_Number_3 Prims.real  p_cascaderef05_Number_5 p_cascaderef05_Number_7 v0 v3 v4 v5 with
    | some (.inl (v0', v3', v4', v5')) => p_cascaderef05_Number_3  v0' v3' v4' v5'
    | some (.inr r) => some r
    | none => none := by
  show Pr.loop _ _ = _
  rw [Pr.loop_eq]
  dsimp only
  generalize b_cascaderef05_Number_3 Prims.real  p_cascaderef05_Number_5 p_cascaderef05_Number_7 v0 v3 v4 v5 = y
  cases y with
  | none => rfl
  | some y => cases y <;> rfl
theorem s_cascaderef05_Number_3   (m : Nat)    : H_cascaderef05_Number_3 (atW table glob) m  p_cascaderef05_Number_3 := by
  intro v0 v3 v4 v5 out hp stk 
  refine LW.ind (fun (s : Int × Str × Str × Int) => match s with | (v0, v3, v4, v5) => b_cascaderef05_Number_3 Prims.real  p_cascaderef05_Number_5 p_cascaderef05_Number_7 v0 v3 v4 v5) (fun (s : Int × Str × Str × Int) o => match s with | (v0, v3, v4, v5) => ∀ (stk : Stk), (A_cascaderef05_Number_3 (atW table glob) m  v0 v3 v4 v5 stk) = (O_cascaderef05_Number  m  stk) o) (fun s r e => ?_) (fun s t r e ih => ?_) (v0, v3, v4, v5) out hp stk 
  · obtain ⟨v0, v3, v4, v5⟩ := s
    intro stk 
    exact o_cascaderef05_Number_3 (h := LW) (hT := rfl) (hPP := rfl) (he_e_string := he_E_string) (hz_e_string := hz_E_string) (he_e_uint8 := he_E_uint8) (hz_e_uint8 := hz_E_uint8)   (l_5 := p_cascaderef05_Number_5 ) (l_7 := p_cascaderef05_Number_7 ) (h_l_5 := s_cascaderef05_Number_5   m   ) (h_l_7 := s_cascaderef05_Number_7   m   ) stk m    v0 v3 v4 v5  e
  · obtain ⟨v0, v3, v4, v5⟩ := s; obtain ⟨v0', v3', v4', v5'⟩ := t
    intro stk 
    exact (o_cascaderef05_Number_3 (h := LW) (hT := rfl) (hPP := rfl) (he_e_string := he_E_string) (hz_e_string := hz_E_string) (he_e_uint8 := he_E_uint8) (hz_e_uint8 := hz_E_uint8)   (l_5 := p_cascaderef05_Number_5 ) (l_7 := p_cascaderef05_Number_7 ) (h_l_5 := s_cascaderef05_Number_5   m   ) (h_l_7 := s_cascaderef05_Number_7   m   ) stk m    v0 v3 v4 v5  e).trans (ih stk )
noncomputable def p_cascaderef05_Number_2  (v0 : Int) (v3 : Str) (v4 : Str) : Option (Str) := b_cascaderef05_Number_2 Prims.real  p_cascaderef05_Number_3 v0 v3 v4
theorem s_cascaderef05_Number_2   (m : Nat)    : H_cascaderef05_Number_2 (atW table glob) m  p_cascaderef05_Number_2 := by
  intro v0 v3 v4 out hp stk 
  exact o_cascaderef05_Number_2 (h := LW) (hT := rfl) (hPP := rfl) (he_e_string := he_E_string) (hz_e_string := hz_E_string) (he_e_uint8 := he_E_uint8) (hz_e_uint8 := hz_E_uint8)   (l_3 := p_cascaderef05_Number_3 ) (h_l_3 := s_cascaderef05_Number_3   m   ) stk m    v0 v3 v4  hp
noncomputable def p_cascaderef05_Number_0  (v0 : Int) : Option (Str) := b_cascaderef05_Number_0 Prims.real  p_cascaderef05_Number_2 v0
theorem s_cascaderef05_Number_0   (m : Nat)    : H_cascaderef05_Number_0 (atW table glob) m  p_cascaderef05_Number_0 := by
  intro v0 out hp stk 
  exact o_cascaderef05_Number_0 (h := LW) (hT := rfl) (hPP := rfl) (he_e_string := he_E_string) (hz_e_string := hz_E_string) (he_e_uint8 := he_E_uint8) (hz_e_uint8 := hz_E_uint8)   (l_2 := p_cascaderef05_Number_2 ) (h_l_2 := s_cascaderef05_Number_2   m   ) stk m    v0  hp
noncomputable def p_cascaderef05_Number : Int → Option (Str) := fun v0 => p_cascaderef05_Number_0  v0
theorem s_cascaderef05_Number : (C_cascaderef05_Number (sysW table glob).pcall (sysW table glob).fcall p_cascaderef05_Number) := by
  intro _ _ hp stk    
  exact pf_of (T := table) (G := glob) (f := 21) rfl rfl (s_cascaderef05_Number_0   (topN stk + 1)    hp stk )
noncomputable def p_cascaderef28_Part_0  (v0 : Str) : Option (Str) := b_cascaderef28_Part_0 Prims.real p_cascaderef05_Number  v0
theorem s_cascaderef28_Part_0   (m : Nat)    : H_cascaderef28_Part_0 (atW table glob) m  p_cascaderef28_Part_0 := by
  intro v0 out hp stk 
  exact o_cascaderef28_Part_0 (h := LW) (hT := rfl) (hPP := rfl) (he_e_string := he_E_string) (hz_e_string := hz_E_string) (he_e_uint8 := he_E_uint8) (hz_e_uint8 := hz_E_uint8) (c_cascaderef05_Number := p_cascaderef05_Number) (h_cascaderef05_Number := s_cascaderef05_Number)   stk m    v0  hp
noncomputable def p_cascaderef28_Part : Str → Option (Str) := fun v0 => p_cascaderef28_Part_0  v0
theorem s_cascaderef28_Part : (C_cascaderef28_Part (sysW table glob).pcall (sysW table glob).fcall p_cascaderef28_Part) := by
  intro _ _ hp stk    
  exact pf_of (T := table) (G := glob) (f := 10) rfl rfl (s_cascaderef28_Part_0   (topN stk + 1)    hp stk )
noncomputable def p_parts_Reader_Feed__0_0  (v1 : Str) (L0_0 : Str) (L0_1 : Int) (L0_2 : Bool) (L0_3 : Int) : Option (Str × Int × Bool × Int) := b_parts_Reader_Feed__0_0 Prims.real   v1 L0_0 L0_1 L0_2 L0_3
theorem s_parts_Reader_Feed__0_0   (m : Nat) (n0 : Nat) (k0 : List Nat) (hl0 : n0 < m)  : H_parts_Reader_Feed__0_0 (atW table glob) setO m n0 k0 p_parts_Reader_Feed__0_0 := by
  intro v1 L0_0 L0_1 L0_2 L0_3 out hp stk hg0
  exact o_parts_Reader_Feed__0_0 (h := LW) (hT := rfl) (hPP := rfl) (he_e_string := he_E_string) (hz_e_string := hz_E_string) (he_e_uint8 := he_E_uint8) (hz_e_uint8 := hz_E_uint8)     stk m n0 k0 hl0  v1 L0_0 L0_1 L0_2 L0_3 hg0 hp
noncomputable def p_parts_Reader_Feed__0 : Str → Str → Int → Bool → Int → Option (Str × Int × Bool × Int) := fun v1 L0_0 L0_1 L0_2 L0_3 => p_parts_Reader_Feed__0_0  v1 L0_0 L0_1 L0_2 L0_3
theorem s_parts_Reader_Feed__0 : (C_parts_Reader_Feed__0 (sysW table glob).fcall setO p_parts_Reader_Feed__0) := by
  intro _ _ _ _ _ _ _ _ _ hp stk n0 k0 hg0 hl0 
  exact fcall_of (T := table) (G := glob) (f := 12) rfl rfl (s_parts_Reader_Feed__0_0   (topN stk + 1) n0 k0 (Nat.lt_succ_of_le hl0)  hp stk hg0)
noncomputable def p_parts_scan_text__0_3  (v1 : Str) (v4 : Int) (L0_0 : Str) (L0_1 : Int) (L0_2 : Int) : Option ((Str × Int × Str × Int × Int) ⊕ (Str × Int × Int)) := b_parts_scan_text__0_3 Prims.real   v1 v4 L0_0 L0_1 L0_2
theorem s_parts_scan_text__0_3   (m : Nat) (n0 : Nat) (k0 : List Nat) (hl0 : n0 < m)  : H_parts_scan_text__0_3 (atW table glob) setO m n0 k0 p_parts_scan_text__0_3 := by
  intro v1 v4 L0_0 L0_1 L0_2 out hp stk hg0
  exact o_parts_scan_text__0_3 (h := LW) (hT := rfl) (hPP := rfl) (he_e_string := he_E_string) (hz_e_string := hz_E_string) (he_e_uint8 := he_E_uint8) (hz_e_uint8 := hz_E_uint8)     stk m n0 k0 hl0  v1 v4 L0_0 L0_1 L0_2 hg0 hp
noncomputable def p_parts_scan_text__0_1  (v1 : Str) (v4 : Int) (L0_0 : Str) (L0_1 : Int) (L0_2 : Int) : Option (Str × Int × Int) := Prims.real.loop (fun (s : Str × Int × Str × Int × Int) => match s with | (v1, v4, L0_0, L0_1, L0_2) => b_parts_scan_text__0_1 Prims.real  p_parts_scan_text__0_3 v1 v4 L0_0 L0_1 L0_2) (v1, v4, L0_0, L0_1, L0_2)
theorem u_parts_scan_text__0_1  (v1 : Str) (v4 : Int) (L0_0 : Str) (L0_1 : Int) (L0_2 : Int) : p_parts_scan_text__0_1  v1 v4 L0_0 L0_1 L0_2 = match b_parts_scan_text__0_1 Prims.real  p_parts_scan_text__0_3 v1 v4 L0_0 L0_1 L0_2 with
    | some (.inl (v1', v4', L0_0', L0_1', L0_2')) => p_parts_scan_text__0_1  v1' v4' L0_0' L0_1' L0_2'
    | some (.inr r) => some r
    | none => none := by
  show Pr.loop _ _ = _
  rw [Pr.loop_eq]
  dsimp only
  generalize b_parts_scan_text__0_1 Prims.real  p_parts_scan_text__0_3 v1 v4 L0_0 L0_1 L0_2 = y
  cases y with
  | none => rfl
  | some y => cases y <;> rfl
theorem s_parts_scan_text__0_1   (m : Nat) (n0 : Nat) (k0 : List Nat) (hl0 : n0 < m)  : H_parts_scan_text__0_1 (atW table glob) setO m n0 k0 p_parts_scan_text__0_1 := by
  intro v1 v4 L0_0 L0_1 L0_2 out hp stk hg0
  refine LW.ind (fun (s : Str × Int × Str × Int × Int) => match s with | (v1, v4, L0_0, L0_1, L0_2) => b_parts_scan_text__0_1 Prims.real  p_parts_scan_text__0_3 v1 v4 L0_0 L0_1 L0_2) (fun (s : Str × Int × Str × Int × Int) o => match s with | (v1, v4, L0_0, L0_1, L0_2) => ∀ (stk : Stk), getO stk ⟨n0, k0⟩ = some (.cells [(.d (.str L0_0)), (.d (.int .i64 L0_1)), (.d (.int .i64 L0_2))]) → (A_parts_scan_text__0_1 (atW table glob) m n0 k0 v1 v4 L0_0 L0_1 L0_2 stk) = (O_parts_scan_text__0 setO m n0 k0 stk) o) (fun s r e => ?_) (fun s t r e ih => ?_) (v1, v4, L0_0, L0_1, L0_2) out hp stk hg0
  · obtain ⟨v1, v4, L0_0, L0_1, L0_2⟩ := s
    intro stk hg0
    exact o_parts_scan_text__0_1 (h := LW) (hT := rfl) (hPP := rfl) (he_e_string := he_E_string) (hz_e_string := hz_E_string) (he_e_uint8 := he_E_uint8) (hz_e_uint8 := hz_E_uint8)   (l_3 := p_parts_scan_text__0_3 ) (h_l_3 := s_parts_scan_text__0_3   m n0 k0 hl0 ) stk m n0 k0 hl0  v1 v4 L0_0 L0_1 L0_2 hg0 e
  · obtain ⟨v1, v4, L0_0, L0_1, L0_2⟩ := s; obtain ⟨v1', v4', L0_0', L0_1', L0_2'⟩ := t
    intro stk hg0
    exact (o_parts_scan_text__0_1 (h := LW) (hT := rfl) (hPP := rfl) (he_e_string := he_E_string) (hz_e_string := hz_E_string) (he_e_uint8 := he_E_uint8) (hz_e_uint8 := hz_E_uint8)   (l_3 := p_parts_scan_text__0_3 ) (h_l_3 := s_parts_scan_text__0_3   m n0 k0 hl0 ) stk m n0 k0 hl0  v1 v4 L0_0 L0_1 L0_2 hg0 e).trans ((ih (setO stk ⟨n0, k0⟩ (.cells [(.d (.str L0_0')), (.d (.int .i64 L0_1')), (.d (.int .i64 L0_2'))])) ((LW.gs (hg0) _))).trans (by first | (simp only [LW.so, O_parts_scan_text__0, A_parts_scan_text__0_1]; done) | (rcases r with ⟨_, _, _⟩ <;> simp only [Sum.elim_inl, Sum.elim_inr, LW.so, O_parts_scan_text__0, A_parts_scan_text__0_1])))
noncomputable def p_parts_scan_text__0_0  (v1 : Str) (L0_0 : Str) (L0_1 : Int) (L0_2 : Int) : Option (Str × Int × Int) := b_parts_scan_text__0_0 Prims.real  p_parts_scan_text__0_1 v1 L0_0 L0_1 L0_2
theorem s_parts_scan_text__0_0   (m : Nat) (n0 : Nat) (k0 : List Nat) (hl0 : n0 < m)  : H_parts_scan_text__0_0 (atW table glob) setO m n0 k0 p_parts_scan_text__0_0 := by
  intro v1 L0_0 L0_1 L0_2 out hp stk hg0
  exact o_parts_scan_text__0_0 (h := LW) (hT := rfl) (hPP := rfl) (he_e_string := he_E_string) (hz_e_string := hz_E_string) (he_e_uint8 := he_E_uint8) (hz_e_uint8 := hz_E_uint8)   (l_1 := p_parts_scan_text__0_1 ) (h_l_1 := s_parts_scan_text__0_1   m n0 k0 hl0 ) stk m n0 k0 hl0  v1 L0_0 L0_1 L0_2 hg0 hp
noncomputable def p_parts_scan_text__0 : Str → Str → Int → Int → Option (Str × Int × Int) := fun v1 L0_0 L0_1 L0_2 => p_parts_scan_text__0_0  v1 L0_0 L0_1 L0_2
theorem s_parts_scan_text__0 : (C_parts_scan_text__0 (sysW table glob).fcall setO p_parts_scan_text__0) := by
  intro _ _ _ _ _ _ _ hp stk n0 k0 hg0 hl0 
  exact fcall_of (T := table) (G := glob) (f := 28) rfl rfl (s_parts_scan_text__0_0   (topN stk + 1) n0 k0 (Nat.lt_succ_of_le hl0)  hp stk hg0)
noncomputable def p_parts_scan_is__0_0  (v1 : Int) (L0_0 : Str) (L0_1 : Int) (L0_2 : Int) : Option (Bool) := b_parts_scan_is__0_0 Prims.real   v1 L0_0 L0_1 L0_2
theorem s_parts_scan_is__0_0   (m : Nat) (n0 : Nat) (k0 : List Nat) (hl0 : n0 < m)  : H_parts_scan_is__0_0 (atW table glob) m n0 k0 p_parts_scan_is__0_0 := by
  intro v1 L0_0 L0_1 L0_2 out hp stk hg0
  exact o_parts_scan_is__0_0 (h := LW) (hT := rfl) (hPP := rfl) (he_e_string := he_E_string) (hz_e_string := hz_E_string) (he_e_uint8 := he_E_uint8) (hz_e_uint8 := hz_E_uint8)     stk m n0 k0 hl0  v1 L0_0 L0_1 L0_2 hg0 hp
noncomputable def p_parts_scan_is__0 : Int → Str → Int → Int → Option (Bool) := fun v1 L0_0 L0_1 L0_2 => p_parts_scan_is__0_0  v1 L0_0 L0_1 L0_2
theorem s_parts_scan_is__0 : (C_parts_scan_is__0 (sysW table glob).pcall (sysW table glob).fcall p_parts_scan_is__0) := by
  intro _ _ _ _ _ hp stk n0 k0 hg0 hl0 
  exact pf_of (T := table) (G := glob) (f := 29) rfl rfl (s_parts_scan_is__0_0   (topN stk + 1) n0 k0 (Nat.lt_succ_of_le hl0)  hp stk hg0)
noncomputable def p_parts_scan_number_1__0_0  (L1_0 : Str) (L1_1 : Int) (L1_2 : Int) : Option (Bool) := b_parts_scan_number_1__0_0 Prims.real   L1_0 L1_1 L1_2
theorem s_parts_scan_number_1__0_0   (m : Nat) (n0 : Nat) (k0 : List Nat) (n1 : Nat) (k1 : List Nat) (hl0 : n0 < m) (hl1 : n1 < m) (hd0_1 : (⟨n0, k0⟩ : Lab) ≠ ⟨n1, k1⟩) : H_parts_scan_number_1__0_0 (atW table glob) m n0 k0 n1 k1 p_parts_scan_number_1__0_0 := by
  intro L1_0 L1_1 L1_2 out hp stk hg0 hg1
  exact o_parts_scan_number_1__0_0 (h := LW) (hT := rfl) (hPP := rfl) (he_e_string := he_E_string) (hz_e_string := hz_E_string) (he_e_uint8 := he_E_uint8) (hz_e_uint8 := hz_E_uint8)     stk m n0 k0 n1 k1 hl0 hl1 hd0_1 L1_0 L1_1 L1_2 hg0 hg1 hp
noncomputable def p_parts_scan_number_1__0 : Str → Int → Int → Option (Bool) := fun L1_0 L1_1 L1_2 => p_parts_scan_number_1__0_0  L1_0 L1_1 L1_2
theorem s_parts_scan_number_1__0 : (C_parts_scan_number_1__0 (sysW table glob).pcall (sysW table glob).fcall p_parts_scan_number_1__0) := by
  intro _ _ _ _ hp stk n0 k0 n1 k1 hg0 hg1 hl0 hl1 hd0_1
  exact pf_of (T := table) (G := glob) (f := 36) rfl rfl (s_parts_scan_number_1__0_0   (topN stk + 1) n0 k0 n1 k1 (Nat.lt_succ_of_le hl0) (Nat.lt_succ_of_le hl1) hd0_1 hp stk hg0 hg1)
noncomputable def p_parts_scan_number__0_3  (v3 : Int) (v4 : Int) (v6 : Int) (L0_0 : Str) (L0_1 : Int) (L0_2 : Int) : Option ((Int × Int × Str × Int × Int) ⊕ (Int × Str × Int × Int)) := b_parts_scan_number__0_3 Prims.real p_parts_scan_number_1__0  v3 v4 v6 L0_0 L0_1 L0_2
theorem s_parts_scan_number__0_3   (m : Nat) (n0 : Nat) (k0 : List Nat) (hl0 : n0 < m)  : H_parts_scan_number__0_3 (atW table glob) setO m n0 k0 p_parts_scan_number__0_3 := by
  intro v3 v4 v6 L0_0 L0_1 L0_2 out hp stk hg0
  exact o_parts_scan_number__0_3 (h := LW) (hT := rfl) (hPP := rfl) (he_e_string := he_E_string) (hz_e_string := hz_E_string) (he_e_uint8 := he_E_uint8) (hz_e_uint8 := hz_E_uint8) (c_parts_scan_number_1__0 := p_parts_scan_number_1__0) (h_parts_scan_number_1__0 := s_parts_scan_number_1__0)   stk m n0 k0 hl0  v3 v4 v6 L0_0 L0_1 L0_2 hg0 hp
noncomputable def p_parts_scan_number__0_5  (v3 : Int) (L0_0 : Str) (L0_1 : Int) (L0_2 : Int) : Option (Int × Str × Int × Int) := b_parts_scan_number__0_5 Prims.real p_parts_scan_number_1__0  v3 L0_0 L0_1 L0_2
theorem s_parts_scan_number__0_5   (m : Nat) (n0 : Nat) (k0 : List Nat) (hl0 : n0 < m)  : H_parts_scan_number__0_5 (atW table glob) setO m n0 k0 p_parts_scan_number__0_5 := by
  intro v3 L0_0 L0_1 L0_2 out hp stk hg0
  exact o_parts_scan_number__0_5 (h := LW) (hT := rfl) (hPP := rfl) (he_e_string := he_E_string) (hz_e_string := hz_E_string) (he_e_uint8 := he_E_uint8) (hz_e_uint8 := hz_E_uint8) (c_parts_scan_number_1__0 := p_parts_scan_number_1__0) (h_parts_scan_number_1__0 := s_parts_scan_number_1__0)   stk m n0 k0 hl0  v3 L0_0 L0_1 L0_2 hg0 hp
noncomputable def p_parts_scan_number__0_1  (v3 : Int) (v4 : Int) (L0_0 : Str) (L0_1 : Int) (L0_2 : Int) : Option (Int × Str × Int × Int) := Prims.real.loop (fun (s : Int × Int × Str × Int × Int) => match s with | (v3, v4, L0_0, L0_1, L0_2) => b_parts_scan_number__0_1 Prims.real p_parts_scan_number_1__0 p_parts_scan_number__0_3 p_parts_scan_number__0_5 v3 v4 L0_0 L0_1 L0_2) (v3, v4, L0_0, L0_1, L0_2)
theorem u_parts_scan_number__0_1  (v3 : Int) (v4 : Int) (L0_0 : Str) (L0_1 : Int) (L0_2 : Int) : p_parts_scan_number__0_1  v3 v4 L0_0 L0_1 L0_2 = match b_parts_scan_number__0_1 Prims.real p_parts_scan_number_1__0 p_parts_scan_number__0_3 p_parts_scan_number__0_5 v3 v4 L0_0 L0_1 L0_2 with
    | some (.inl (v3', v4', L0_0', L0_1', L0_2')) => p_parts_scan_number__0_1  v3' v4' L0_0' L0_1' L0_2'
    | some (.inr r) => some r
    | none => none := by
  show Pr.loop _ _ = _
  rw [Pr.loop_eq]
  dsimp only
  generalize b_parts_scan_number__0_1 Prims.real p_parts_scan_number_1__0 p_parts_scan_number__0_3 p_parts_scan_number__0_5 v3 v4 L0_0 L0_1 L0_2 = y
  cases y with
  | none => rfl
  | some y => cases y <;> rfl
theorem s_parts_scan_number__0_1   (m : Nat) (n0 : Nat) (k0 : List Nat) (hl0 : n0 < m)  : H_parts_scan_number__0_1 (atW table glob) setO m n0 k0 p_parts_scan_number__0_1 := by
  intro v3 v4 L0_0 L0_1 L0_2 out hp stk hg0
  refine LW.ind (fun (s : Int × Int × Str × Int × Int) => match s with | (v3, v4, L0_0, L0_1, L0_2) => b_parts_scan_number__0_1 Prims.real p_parts_scan_number_1__0 p_parts_scan_number__0_3 p_parts_scan_number__0_5 v3 v4 L0_0 L0_1 L0_2) (fun (s : Int × Int × Str × Int × Int) o => match s with | (v3, v4, L0_0, L0_1, L0_2) => ∀ (stk : Stk), getO stk ⟨n0, k0⟩ = some (.cells [(.d (.str L0_0)), (.d (.int .i64 L0_1)), (.d (.int .i64 L0_2))]) → (A_parts_scan_number__0_1 (atW table glob) m n0 k0 v3 v4 L0_0 L0_1 L0_2 stk) = (O_parts_scan_number__0 setO m n0 k0 stk) o) (fun s r e => ?_) (fun s t r e ih => ?_) (v3, v4, L0_0, L0_1, L0_2) out hp stk hg0
  · obtain ⟨v3, v4, L0_0, L0_1, L0_2⟩ := s
    intro stk hg0
    exact o_parts_scan_number__0_1 (h := LW) (hT := rfl) (hPP := rfl) (he_e_string := he_E_string) (hz_e_string := hz_E_string) (he_e_uint8 := he_E_uint8) (hz_e_uint8 := hz_E_uint8) (c_parts_scan_number_1__0 := p_parts_scan_number_1__0) (h_parts_scan_number_1__0 := s_parts_scan_number_1__0) (l_3 := p_parts_scan_number__0_3 ) (l_5 := p_parts_scan_number__0_5 ) (h_l_3 := s_parts_scan_number__0_3   m n0 k0 hl0 ) (h_l_5 := s_parts_scan_number__0_5   m n0 k0 hl0 ) stk m n0 k0 hl0  v3 v4 L0_0 L0_1 L0_2 hg0 e
  · obtain ⟨v3, v4, L0_0, L0_1, L0_2⟩ := s; obtain ⟨v3', v4', L0_0', L0_1', L0_2'⟩ := t
    intro stk hg0
    exact (o_parts_scan_number__0_1 (h := LW) (hT := rfl) (hPP := rfl) (he_e_string := he_E_string) (hz_e_string := hz_E_string) (he_e_uint8 := he_E_uint8) (hz_e_uint8 := hz_E_uint8) (c_parts_scan_number_1__0 := p_parts_scan_number_1__0) (h_parts_scan_number_1__0 := s_parts_scan_number_1__0) (l_3 := p_parts_scan_number__0_3 ) (l_5 := p_parts_scan_number__0_5 ) (h_l_3 := s_parts_scan_number__0_3   m n0 k0 hl0 ) (h_l_5 := s_parts_scan_number__0_5   m n0 k0 hl0 ) stk m n0 k0 hl0  v3 v4 L0_0 L0_1 L0_2 hg0 e).trans ((ih (setO stk ⟨n0, k0⟩ (.cells [(.d (.str L0_0')), (.d (.int .i64 L0_1')), (.d (.int .i64 L0_2'))])) ((LW.gs (hg0) _))).trans (by first | (simp only [LW.so, O_parts_scan_number__0, A_parts_scan_number__0_1]; done) | (rcases r with ⟨_, _, _, _⟩ <;> simp only [Sum.elim_inl, Sum.elim_inr, LW.so, O_parts_scan_number__0, A_parts_scan_number__0_1])))
noncomputable def p_parts_scan_number__0_0  (L0_0 : Str) (L0_1 : Int) (L0_2 : Int) : Option (Int × Str × Int × Int) := b_parts_scan_number__0_0 Prims.real p_parts_scan_number_1__0 p_parts_scan_number__0_1 L0_0 L0_1 L0_2
theorem s_parts_scan_number__0_0   (m : Nat) (n0 : Nat) (k0 : List Nat) (hl0 : n0 < m)  : H_parts_scan_number__0_0 (atW table glob) setO m n0 k0 p_parts_scan_number__0_0 := by
  intro L0_0 L0_1 L0_2 out hp stk hg0
  exact o_parts_scan_number__0_0 (h := LW) (hT := rfl) (hPP := rfl) (he_e_string := he_E_string) (hz_e_string := hz_E_string) (he_e_uint8 := he_E_uint8) (hz_e_uint8 := hz_E_uint8) (c_parts_scan_number_1__0 := p_parts_scan_number_1__0) (h_parts_scan_number_1__0 := s_parts_scan_number_1__0) (l_1 := p_parts_scan_number__0_1 ) (h_l_1 := s_parts_scan_number__0_1   m n0 k0 hl0 ) stk m n0 k0 hl0  L0_0 L0_1 L0_2 hg0 hp
noncomputable def p_parts_scan_number__0 : Str → Int → Int → Option (Int × Str × Int × Int) := fun L0_0 L0_1 L0_2 => p_parts_scan_number__0_0  L0_0 L0_1 L0_2
theorem s_parts_scan_number__0 : (C_parts_scan_number__0 (sysW table glob).fcall setO p_parts_scan_number__0) := by
  intro _ _ _ _ _ _ _ hp stk n0 k0 hg0 hl0 
  exact fcall_of (T := table) (G := glob) (f := 30) rfl rfl (s_parts_scan_number__0_0   (topN stk + 1) n0 k0 (Nat.lt_succ_of_le hl0)  hp stk hg0)
noncomputable def p_parts_scan_take__0_0  (v1 : Int) (L0_0 : Str) (L0_1 : Int) (L0_2 : Int) : Option (Str × Str × Int × Int) := b_parts_scan_take__0_0 Prims.real   v1 L0_0 L0_1 L0_2
theorem s_parts_scan_take__0_0   (m : Nat) (n0 : Nat) (k0 : List Nat) (hl0 : n0 < m)  : H_parts_scan_take__0_0 (atW table glob) setO m n0 k0 p_parts_scan_take__0_0 := by
  intro v1 L0_0 L0_1 L0_2 out hp stk hg0
  exact o_parts_scan_take__0_0 (h := LW) (hT := rfl) (hPP := rfl) (he_e_string := he_E_string) (hz_e_string := hz_E_string) (he_e_uint8 := he_E_uint8) (hz_e_uint8 := hz_E_uint8)     stk m n0 k0 hl0  v1 L0_0 L0_1 L0_2 hg0 hp
noncomputable def p_parts_scan_take__0 : Int → Str → Int → Int → Option (Str × Str × Int × Int) := fun v1 L0_0 L0_1 L0_2 => p_parts_scan_take__0_0  v1 L0_0 L0_1 L0_2
theorem s_parts_scan_take__0 : (C_parts_scan_take__0 (sysW table glob).fcall setO p_parts_scan_take__0) := by
  intro _ _ _ _ _ _ _ _ hp stk n0 k0 hg0 hl0 
  exact fcall_of (T := table) (G := glob) (f := 31) rfl rfl (s_parts_scan_take__0_0   (topN stk + 1) n0 k0 (Nat.lt_succ_of_le hl0)  hp stk hg0)
noncomputable def p_parts_scan_part__0_0  (L0_0 : Str) (L0_1 : Int) (L0_2 : Int) : Option (Str × Bool × Str × Int × Int) := b_parts_scan_part__0_0 Prims.real p_parts_scan_text__0 p_parts_scan_is__0 p_parts_scan_number__0 p_parts_scan_take__0  L0_0 L0_1 L0_2
theorem s_parts_scan_part__0_0   (m : Nat) (n0 : Nat) (k0 : List Nat) (hl0 : n0 < m)  : H_parts_scan_part__0_0 (atW table glob) setO m n0 k0 p_parts_scan_part__0_0 := by
  intro L0_0 L0_1 L0_2 out hp stk hg0
  exact o_parts_scan_part__0_0 (h := LW) (hT := rfl) (hPP := rfl) (he_e_string := he_E_string) (hz_e_string := hz_E_string) (he_e_uint8 := he_E_uint8) (hz_e_uint8 := hz_E_uint8) (c_parts_scan_text__0 := p_parts_scan_text__0) (c_parts_scan_is__0 := p_parts_scan_is__0) (c_parts_scan_number__0 := p_parts_scan_number__0) (c_parts_scan_take__0 := p_parts_scan_take__0) (h_parts_scan_text__0 := s_parts_scan_text__0) (h_parts_scan_is__0 := s_parts_scan_is__0) (h_parts_scan_number__0 := s_parts_scan_number__0) (h_parts_scan_take__0 := s_parts_scan_take__0)   stk m n0 k0 hl0  L0_0 L0_1 L0_2 hg0 hp
noncomputable def p_parts_scan_part__0 : Str → Int → Int → Option (Str × Bool × Str × Int × Int) := fun L0_0 L0_1 L0_2 => p_parts_scan_part__0_0  L0_0 L0_1 L0_2
theorem s_parts_scan_part__0 : (C_parts_scan_part__0 (sysW table glob).fcall setO p_parts_scan_part__0) := by
  intro _ _ _ _ _ _ _ _ hp stk n0 k0 hg0 hl0 
  exact fcall_of (T := table) (G := glob) (f := 25) rfl rfl (s_parts_scan_part__0_0   (topN stk + 1) n0 k0 (Nat.lt_succ_of_le hl0)  hp stk hg0)
noncomputable def p_parts_Reader_Next__0_0 (c_parts_Reader_Next__0 : Str → Int → Bool → Int → Option (Str × Bool × Str × Int × Bool × Int)) (L0_0 : Str) (L0_1 : Int) (L0_2 : Bool) (L0_3 : Int) : Option (Str × Bool × Str × Int × Bool × Int) := b_parts_Reader_Next__0_0 Prims.real p_parts_scan_part__0 c_parts_Reader_Next__0  L0_0 L0_1 L0_2 L0_3
theorem s_parts_Reader_Next__0_0 (c_parts_Reader_Next__0 : Str → Int → Bool → Int → Option (Str × Bool × Str × Int × Bool × Int)) (h_parts_Reader_Next__0 : (C_parts_Reader_Next__0 (sysW table glob).fcall setO c_parts_Reader_Next__0)) (m : Nat) (n0 : Nat) (k0 : List Nat) (hl0 : n0 < m)  : H_parts_Reader_Next__0_0 (atW table glob) setO m n0 k0 (p_parts_Reader_Next__0_0 c_parts_Reader_Next__0) := by
  intro L0_0 L0_1 L0_2 L0_3 out hp stk hg0
  exact o_parts_Reader_Next__0_0 (h := LW) (hT := rfl) (hPP := rfl) (he_e_string := he_E_string) (hz_e_string := hz_E_string) (he_e_uint8 := he_E_uint8) (hz_e_uint8 := hz_E_uint8) (c_parts_scan_part__0 := p_parts_scan_part__0) (c_parts_Reader_Next__0 := c_parts_Reader_Next__0) (h_parts_scan_part__0 := s_parts_scan_part__0) (h_parts_Reader_Next__0 := h_parts_Reader_Next__0)   stk m n0 k0 hl0  L0_0 L0_1 L0_2 L0_3 hg0 hp
noncomputable def pk_parts_Reader_Next__0 : Nat → (Str → Int → Bool → Int → Option (Str × Bool × Str × Int × Bool × Int))
  | 0 => fun _ _ _ _ => none
  | k + 1 => fun L0_0 L0_1 L0_2 L0_3 => p_parts_Reader_Next__0_0 ((pk_parts_Reader_Next__0 k)) L0_0 L0_1 L0_2 L0_3
theorem sk_parts_Reader_Next__0 : ∀ k, ((C_parts_Reader_Next__0 (sysW table glob).fcall setO ((pk_parts_Reader_Next__0 k)))) ∧ True
  | 0 => by
    refine ⟨?_, trivial⟩
    · intro _ _ _ _ _ _ _ _ _ _ hp; exact nomatch (show none = some _ from hp)
  | k + 1 => by
    obtain ⟨ih0, _⟩ := sk_parts_Reader_Next__0 k
    refine ⟨?_, trivial⟩
    · intro _ _ _ _ _ _ _ _ _ _ hp stk n0 k0 hg0 hl0 
      exact fcall_of (T := table) (G := glob) (f := 22) rfl rfl (s_parts_Reader_Next__0_0 ((pk_parts_Reader_Next__0 k)) ih0 (topN stk + 1) n0 k0 (Nat.lt_succ_of_le hl0)  hp stk hg0)
noncomputable def p_parts_Reader_Next__0 : Str → Int → Bool → Int → Option (Str × Bool × Str × Int × Bool × Int) := (pk_parts_Reader_Next__0 1000000)
theorem s_parts_Reader_Next__0 : (C_parts_Reader_Next__0 (sysW table glob).fcall setO p_parts_Reader_Next__0) := (sk_parts_Reader_Next__0 1000000).1
noncomputable def p_cascadelaw28_drain__0_10  (o23_g : Nat) (o23 : (List Str)) (v5 : Int) (L0_0 : Str) (L0_1 : Int) (L0_2 : Bool) (L0_3 : Int) : Option ((Nat × (List Str) × Int × Str × Int × Bool × Int) ⊕ ((List Str) × Str × Int × Bool × Int)) := b_cascadelaw28_drain__0_10 Prims.real p_parts_Reader_Next__0  o23_g o23 v5 L0_0 L0_1 L0_2 L0_3
theorem s_cascadelaw28_drain__0_10   (m : Nat) (n0 : Nat) (k0 : List Nat) (hl0 : n0 < m)  : H_cascadelaw28_drain__0_10 (atW table glob) (fun {_} e l => List.map e l) List.length setO E_string m n0 k0 p_cascadelaw28_drain__0_10 := by
  intro o23_g o23 v5 L0_0 L0_1 L0_2 L0_3 out hp stk hg0
  exact o_cascadelaw28_drain__0_10 (h := LW) (hT := rfl) (hPP := rfl) (he_e_string := he_E_string) (hz_e_string := hz_E_string) (he_e_uint8 := he_E_uint8) (hz_e_uint8 := hz_E_uint8) (c_parts_Reader_Next__0 := p_parts_Reader_Next__0) (h_parts_Reader_Next__0 := s_parts_Reader_Next__0)   stk m n0 k0 hl0  o23_g o23 v5 L0_0 L0_1 L0_2 L0_3 hg0 hp
noncomputable def p_cascadelaw28_drain__0_9  (o23_g : Nat) (o23 : (List Str)) (v5 : Int) (v6 : Str) (L0_0 : Str) (L0_1 : Int) (L0_2 : Bool) (L0_3 : Int) : Option ((Nat × (List Str) × Int × Str × Int × Bool × Int) ⊕ ((List Str) × Str × Int × Bool × Int)) := b_cascadelaw28_drain__0_9 Prims.real p_parts_Reader_Next__0 p_cascadelaw28_drain__0_10 o23_g o23 v5 v6 L0_0 L0_1 L0_2 L0_3
theorem s_cascadelaw28_drain__0_9   (m : Nat) (n0 : Nat) (k0 : List Nat) (hl0 : n0 < m)  : H_cascadelaw28_drain__0_9 (atW table glob) (fun {_} e l => List.map e l) List.length setO E_string m n0 k0 p_cascadelaw28_drain__0_9 := by
  intro o23_g o23 v5 v6 L0_0 L0_1 L0_2 L0_3 out hp stk hg0
  exact o_cascadelaw28_drain__0_9 (h := LW) (hT := rfl) (hPP := rfl) (he_e_string := he_E_string) (hz_e_string := hz_E_string) (he_e_uint8 := he_E_uint8) (hz_e_uint8 := hz_E_uint8) (c_parts_Reader_Next__0 := p_parts_Reader_Next__0) (h_parts_Reader_Next__0 := s_parts_Reader_Next__0) (l_10 := p_cascadelaw28_drain__0_10 ) (h_l_10 := s_cascadelaw28_drain__0_10   m n0 k0 hl0 ) stk m n0 k0 hl0  o23_g o23 v5 v6 L0_0 L0_1 L0_2 L0_3 hg0 hp
noncomputable def p_cascadelaw28_drain__0_7  (o23_g : Nat) (o23 : (List Str)) (v5 : Int) (L0_0 : Str) (L0_1 : Int) (L0_2 : Bool) (L0_3 : Int) : Option ((Nat × (List Str) × Int × Str × Int × Bool × Int) ⊕ ((List Str) × Str × Int × Bool × Int)) := b_cascadelaw28_drain__0_7 Prims.real p_parts_Reader_Next__0 p_cascadelaw28_drain__0_9 o23_g o23 v5 L0_0 L0_1 L0_2 L0_3
theorem s_cascadelaw28_drain__0_7   (m : Nat) (n0 : Nat) (k0 : List Nat) (hl0 : n0 < m)  : H_cascadelaw28_drain__0_7 (atW table glob) (fun {_} e l => List.map e l) List.length setO E_string m n0 k0 p_cascadelaw28_drain__0_7 := by
  intro o23_g o23 v5 L0_0 L0_1 L0_2 L0_3 out hp stk hg0
  exact o_cascadelaw28_drain__0_7 (h := LW) (hT := rfl) (hPP := rfl) (he_e_string := he_E_string) (hz_e_string := hz_E_string) (he_e_uint8 := he_E_uint8) (hz_e_uint8 := hz_E_uint8) (c_parts_Reader_Next__0 := p_parts_Reader_Next__0) (h_parts_Reader_Next__0 := s_parts_Reader_Next__0) (l_9 := p_cascadelaw28_drain__0_9 ) (h_l_9 := s_cascadelaw28_drain__0_9   m n0 k0 hl0 ) stk m n0 k0 hl0  o23_g o23 v5 L0_0 L0_1 L0_2 L0_3 hg0 hp
noncomputable def p_cascadelaw28_drain__0_8  (o23_g : Nat) (o23 : (List Str)) (L0_0 : Str) (L0_1 : Int) (L0_2 : Bool) (L0_3 : Int) : Option ((List Str) × Str × Int × Bool × Int) := b_cascadelaw28_drain__0_8 Prims.real p_parts_Reader_Next__0  o23_g o23 L0_0 L0_1 L0_2 L0_3
theorem s_cascadelaw28_drain__0_8   (m : Nat) (n0 : Nat) (k0 : List Nat) (hl0 : n0 < m)  : H_cascadelaw28_drain__0_8 (atW table glob) (fun {_} e l => List.map e l) List.length setO E_string m n0 k0 p_cascadelaw28_drain__0_8 := by
  intro o23_g o23 L0_0 L0_1 L0_2 L0_3 out hp stk hg0
  exact o_cascadelaw28_drain__0_8 (h := LW) (hT := rfl) (hPP := rfl) (he_e_string := he_E_string) (hz_e_string := hz_E_string) (he_e_uint8 := he_E_uint8) (hz_e_uint8 := hz_E_uint8) (c_parts_Reader_Next__0 := p_parts_Reader_Next__0) (h_parts_Reader_Next__0 := s_parts_Reader_Next__0)   stk m n0 k0 hl0  o23_g o23 L0_0 L0_1 L0_2 L0_3 hg0 hp
noncomputable def p_cascadelaw28_drain__0_6  (o23_g : Nat) (o23 : (List Str)) (v5 : Int) (L0_0 : Str) (L0_1 : Int) (L0_2 : Bool) (L0_3 : Int) : Option ((List Str) × Str × Int × Bool × Int) := Prims.real.loop (fun (s : Nat × (List Str) × Int × Str × Int × Bool × Int) => match s with | (o23_g, o23, v5, L0_0, L0_1, L0_2, L0_3) => b_cascadelaw28_drain__0_6 Prims.real p_parts_Reader_Next__0 p_cascadelaw28_drain__0_7 p_cascadelaw28_drain__0_8 o23_g o23 v5 L0_0 L0_1 L0_2 L0_3) (o23_g, o23, v5, L0_0, L0_1, L0_2, L0_3)
theorem u_cascadelaw28_drain__0_6  (o23_g : Nat) (o23 : (List Str)) (v5 : Int) (L0_0 : Str) (L0_1 : Int) (L0_2 : Bool) (L0_3 : Int) : p_cascadelaw28_drain__0_6  o23_g o23 v5 L0_0 L0_1 L0_2 L0_3 = match b_cascadelaw28_drain__0_6 Prims.real p_parts_Reader_Next__0 p_cascadelaw28_drain__0_7 p_cascadelaw28_drain__0_8 o23_g o23 v5 L0_0 L0_1 L0_2 L0_3 with
    | some (.inl (o23_g', o23', v5', L0_0', L0_1', L0_2', L0_3')) => p_cascadelaw28_drain__0_6  o23_g' o23' v5' L0_0' L0_1' L0_2' L0_3'
    | some (.inr r) => some r
    | none => none := by
  show Pr.loop _ _ = _
  rw [Pr.loop_eq]
  dsimp only
  generalize b_cascadelaw28_drain__0_6 Prims.real p_parts_Reader_Next__0 p_cascadelaw28_drain__0_7 p_cascadelaw28_drain__0_8 o23_g o23 v5 L0_0 L0_1 L0_2 L0_3 = y
  cases y with
  | none => rfl
  | some y => cases y <;> rfl
theorem s_cascadelaw28_drain__0_6   (m : Nat) (n0 : Nat) (k0 : List Nat) (hl0 : n0 < m)  : H_cascadelaw28_drain__0_6 (atW table glob) (fun {_} e l => List.map e l) List.length setO E_string m n0 k0 p_cascadelaw28_drain__0_6 := by
  intro o23_g o23 v5 L0_0 L0_1 L0_2 L0_3 out hp stk hg0
  refine LW.ind (fun (s : Nat × (List Str) × Int × Str × Int × Bool × Int) => match s with | (o23_g, o23, v5, L0_0, L0_1, L0_2, L0_3) => b_cascadelaw28_drain__0_6 Prims.real p_parts_Reader_Next__0 p_cascadelaw28_drain__0_7 p_cascadelaw28_drain__0_8 o23_g o23 v5 L0_0 L0_1 L0_2 L0_3) (fun (s : Nat × (List Str) × Int × Str × Int × Bool × Int) o => match s with | (o23_g, o23, v5, L0_0, L0_1, L0_2, L0_3) => ∀ (stk : Stk), getO stk ⟨n0, k0⟩ = some (.cells [(.d (.str L0_0)), (.d (.int .i64 L0_1)), (.d (.bool L0_2)), (.d (.int .i64 L0_3))]) → (A_cascadelaw28_drain__0_6 (atW table glob) (fun {_} e l => List.map e l) List.length E_string m n0 k0 o23_g o23 v5 L0_0 L0_1 L0_2 L0_3 stk) = (O_cascadelaw28_drain__0 (fun {_} e l => List.map e l) setO E_string m n0 k0 stk) o) (fun s r e => ?_) (fun s t r e ih => ?_) (o23_g, o23, v5, L0_0, L0_1, L0_2, L0_3) out hp stk hg0
  · obtain ⟨o23_g, o23, v5, L0_0, L0_1, L0_2, L0_3⟩ := s
    intro stk hg0
    exact o_cascadelaw28_drain__0_6 (h := LW) (hT := rfl) (hPP := rfl) (he_e_string := he_E_string) (hz_e_string := hz_E_string) (he_e_uint8 := he_E_uint8) (hz_e_uint8 := hz_E_uint8) (c_parts_Reader_Next__0 := p_parts_Reader_Next__0) (h_parts_Reader_Next__0 := s_parts_Reader_Next__0) (l_7 := p_cascadelaw28_drain__0_7 ) (l_8 := p_cascadelaw28_drain__0_8 ) (h_l_7 := s_cascadelaw28_drain__0_7   m n0 k0 hl0 ) (h_l_8 := s_cascadelaw28_drain__0_8   m n0 k0 hl0 ) stk m n0 k0 hl0  o23_g o23 v5 L0_0 L0_1 L0_2 L0_3 hg0 e
  · obtain ⟨o23_g, o23, v5, L0_0, L0_1, L0_2, L0_3⟩ := s; obtain ⟨o23_g', o23', v5', L0_0', L0_1', L0_2', L0_3'⟩ := t
    intro stk hg0
    exact (o_cascadelaw28_drain__0_6 (h := LW) (hT := rfl) (hPP := rfl) (he_e_string := he_E_string) (hz_e_string := hz_E_string) (he_e_uint8 := he_E_uint8) (hz_e_uint8 := hz_E_uint8) (c_parts_Reader_Next__0 := p_parts_Reader_Next__0) (h_parts_Reader_Next__0 := s_parts_Reader_Next__0) (l_7 := p_cascadelaw28_drain__0_7 ) (l_8 := p_cascadelaw28_drain__0_8 ) (h_l_7 := s_cascadelaw28_drain__0_7   m n0 k0 hl0 ) (h_l_8 := s_cascadelaw28_drain__0_8   m n0 k0 hl0 ) stk m n0 k0 hl0  o23_g o23 v5 L0_0 L0_1 L0_2 L0_3 hg0 e).trans ((ih (setO stk ⟨n0, k0⟩ (.cells [(.d (.str L0_0')), (.d (.int .i64 L0_1')), (.d (.bool L0_2')), (.d (.int .i64 L0_3'))])) ((LW.gs (hg0) _))).trans (by first | (simp only [LW.so, O_cascadelaw28_drain__0, A_cascadelaw28_drain__0_6]; done) | (rcases r with ⟨_, _, _, _, _⟩ <;> simp only [Sum.elim_inl, Sum.elim_inr, LW.so, O_cascadelaw28_drain__0, A_cascadelaw28_drain__0_6])))
noncomputable def p_cascadelaw28_drain__0_4  (o23_g : Nat) (o23 : (List Str)) (v5 : Int) (L0_0 : Str) (L0_1 : Int) (L0_2 : Bool) (L0_3 : Int) : Option ((Int × Str × Int × Bool × Int) ⊕ ((List Str) × Str × Int × Bool × Int)) := b_cascadelaw28_drain__0_4 Prims.real p_parts_Reader_Next__0 p_cascadelaw28_drain__0_6 o23_g o23 v5 L0_0 L0_1 L0_2 L0_3
theorem s_cascadelaw28_drain__0_4   (m : Nat) (n0 : Nat) (k0 : List Nat) (hl0 : n0 < m)  : H_cascadelaw28_drain__0_4 (atW table glob) (fun {_} e l => List.map e l) List.length setO E_string m n0 k0 p_cascadelaw28_drain__0_4 := by
  intro o23_g o23 v5 L0_0 L0_1 L0_2 L0_3 out hp stk hg0
  exact o_cascadelaw28_drain__0_4 (h := LW) (hT := rfl) (hPP := rfl) (he_e_string := he_E_string) (hz_e_string := hz_E_string) (he_e_uint8 := he_E_uint8) (hz_e_uint8 := hz_E_uint8) (c_parts_Reader_Next__0 := p_parts_Reader_Next__0) (h_parts_Reader_Next__0 := s_parts_Reader_Next__0) (l_6 := p_cascadelaw28_drain__0_6 ) (h_l_6 := s_cascadelaw28_drain__0_6   m n0 k0 hl0 ) stk m n0 k0 hl0  o23_g o23 v5 L0_0 L0_1 L0_2 L0_3 hg0 hp
noncomputable def p_cascadelaw28_drain__0_3  (v5 : Int) (v6 : Str) (L0_0 : Str) (L0_1 : Int) (L0_2 : Bool) (L0_3 : Int) : Option ((Int × Str × Int × Bool × Int) ⊕ ((List Str) × Str × Int × Bool × Int)) := b_cascadelaw28_drain__0_3 Prims.real p_parts_Reader_Next__0 p_cascadelaw28_drain__0_4 v5 v6 L0_0 L0_1 L0_2 L0_3
theorem s_cascadelaw28_drain__0_3   (m : Nat) (n0 : Nat) (k0 : List Nat) (hl0 : n0 < m)  : H_cascadelaw28_drain__0_3 (atW table glob) (fun {_} e l => List.map e l) setO E_string m n0 k0 p_cascadelaw28_drain__0_3 := by
  intro v5 v6 L0_0 L0_1 L0_2 L0_3 out hp stk hg0
  exact o_cascadelaw28_drain__0_3 (h := LW) (hT := rfl) (hPP := rfl) (he_e_string := he_E_string) (hz_e_string := hz_E_string) (he_e_uint8 := he_E_uint8) (hz_e_uint8 := hz_E_uint8) (c_parts_Reader_Next__0 := p_parts_Reader_Next__0) (h_parts_Reader_Next__0 := s_parts_Reader_Next__0) (l_4 := p_cascadelaw28_drain__0_4 ) (h_l_4 := s_cascadelaw28_drain__0_4   m n0 k0 hl0 ) stk m n0 k0 hl0  v5 v6 L0_0 L0_1 L0_2 L0_3 hg0 hp
noncomputable def p_cascadelaw28_drain__0_2  (v5 : Int) (L0_0 : Str) (L0_1 : Int) (L0_2 : Bool) (L0_3 : Int) : Option ((Int × Str × Int × Bool × Int) ⊕ ((List Str) × Str × Int × Bool × Int)) := b_cascadelaw28_drain__0_2 Prims.real p_parts_Reader_Next__0 p_cascadelaw28_drain__0_3 v5 L0_0 L0_1 L0_2 L0_3
theorem s_cascadelaw28_drain__0_2   (m : Nat) (n0 : Nat) (k0 : List Nat) (hl0 : n0 < m)  : H_cascadelaw28_drain__0_2 (atW table glob) (fun {_} e l => List.map e l) setO E_string m n0 k0 p_cascadelaw28_drain__0_2 := by
  intro v5 L0_0 L0_1 L0_2 L0_3 out hp stk hg0
  exact o_cascadelaw28_drain__0_2 (h := LW) (hT := rfl) (hPP := rfl) (he_e_string := he_E_string) (hz_e_string := hz_E_string) (he_e_uint8 := he_E_uint8) (hz_e_uint8 := hz_E_uint8) (c_parts_Reader_Next__0 := p_parts_Reader_Next__0) (h_parts_Reader_Next__0 := s_parts_Reader_Next__0) (l_3 := p_cascadelaw28_drain__0_3 ) (h_l_3 := s_cascadelaw28_drain__0_3   m n0 k0 hl0 ) stk m n0 k0 hl0  v5 L0_0 L0_1 L0_2 L0_3 hg0 hp
noncomputable def p_cascadelaw28_drain__0_5  (L0_0 : Str) (L0_1 : Int) (L0_2 : Bool) (L0_3 : Int) : Option ((List Str) × Str × Int × Bool × Int) := b_cascadelaw28_drain__0_5 Prims.real p_parts_Reader_Next__0  L0_0 L0_1 L0_2 L0_3
theorem s_cascadelaw28_drain__0_5   (m : Nat) (n0 : Nat) (k0 : List Nat) (hl0 : n0 < m)  : H_cascadelaw28_drain__0_5 (atW table glob) (fun {_} e l => List.map e l) setO E_string m n0 k0 p_cascadelaw28_drain__0_5 := by
  intro L0_0 L0_1 L0_2 L0_3 out hp stk hg0
  exact o_cascadelaw28_drain__0_5 (h := LW) (hT := rfl) (hPP := rfl) (he_e_string := he_E_string) (hz_e_string := hz_E_string) (he_e_uint8 := he_E_uint8) (hz_e_uint8 := hz_E_uint8) (c_parts_Reader_Next__0 := p_parts_Reader_Next__0) (h_parts_Reader_Next__0 := s_parts_Reader_Next__0)   stk m n0 k0 hl0  L0_0 L0_1 L0_2 L0_3 hg0 hp
noncomputable def p_cascadelaw28_drain__0_1  (v5 : Int) (L0_0 : Str) (L0_1 : Int) (L0_2 : Bool) (L0_3 : Int) : Option ((List Str) × Str × Int × Bool × Int) := Prims.real.loop (fun (s : Int × Str × Int × Bool × Int) => match s with | (v5, L0_0, L0_1, L0_2, L0_3) => b_cascadelaw28_drain__0_1 Prims.real p_parts_Reader_Next__0 p_cascadelaw28_drain__0_2 p_cascadelaw28_drain__0_5 v5 L0_0 L0_1 L0_2 L0_3) (v5, L0_0, L0_1, L0_2, L0_3)
theorem u_cascadelaw28_drain__0_1  (v5 : Int) (L0_0 : Str) (L0_1 : Int) (L0_2 : Bool) (L0_3 : Int) : p_cascadelaw28_drain__0_1  v5 L0_0 L0_1 L0_2 L0_3 = match b_cascadelaw28_drain__0_1 Prims.real p_parts_Reader_Next__0 p_cascadelaw28_drain__0_2 p_cascadelaw28_drain__0_5 v5 L0_0 L0_1 L0_2 L0_3 with
    | some (.inl (v5', L0_0', L0_1', L0_2', L0_3')) => p_cascadelaw28_drain__0_1  v5' L0_0' L0_1' L0_2' L0_3'
    | some (.inr r) => some r
    | none => none := by
  show Pr.loop _ _ = _
  rw [Pr.loop_eq]
  dsimp only
  generalize b_cascadelaw28_drain__0_1 Prims.real p_parts_Reader_Next__0 p_cascadelaw28_drain__0_2 p_cascadelaw28_drain__0_5 v5 L0_0 L0_1 L0_2 L0_3 = y
  cases y with
  | none => rfl
  | some y => cases y <;> rfl
theorem s_cascadelaw28_drain__0_1   (m : Nat) (n0 : Nat) (k0 : List Nat) (hl0 : n0 < m)  : H_cascadelaw28_drain__0_1 (atW table glob) (fun {_} e l => List.map e l) setO E_string m n0 k0 p_cascadelaw28_drain__0_1 := by
  intro v5 L0_0 L0_1 L0_2 L0_3 out hp stk hg0
  refine LW.ind (fun (s : Int × Str × Int × Bool × Int) => match s with | (v5, L0_0, L0_1, L0_2, L0_3) => b_cascadelaw28_drain__0_1 Prims.real p_parts_Reader_Next__0 p_cascadelaw28_drain__0_2 p_cascadelaw28_drain__0_5 v5 L0_0 L0_1 L0_2 L0_3) (fun (s : Int × Str × Int × Bool × Int) o => match s with | (v5, L0_0, L0_1, L0_2, L0_3) => ∀ (stk : Stk), getO stk ⟨n0, k0⟩ = some (.cells [(.d (.str L0_0)), (.d (.int .i64 L0_1)), (.d (.bool L0_2)), (.d (.int .i64 L0_3))]) → (A_cascadelaw28_drain__0_1 (atW table glob) m n0 k0 v5 L0_0 L0_1 L0_2 L0_3 stk) = (O_cascadelaw28_drain__0 (fun {_} e l => List.map e l) setO E_string m n0 k0 stk) o) (fun s r e => ?_) (fun s t r e ih => ?_) (v5, L0_0, L0_1, L0_2, L0_3) out hp stk hg0
  · obtain ⟨v5, L0_0, L0_1, L0_2, L0_3⟩ := s
    intro stk hg0
    exact o_cascadelaw28_drain__0_1 (h := LW) (hT := rfl) (hPP := rfl) (he_e_string := he_E_string) (hz_e_string := hz_E_string) (he_e_uint8 := he_E_uint8) (hz_e_uint8 := hz_E_uint8) (c_parts_Reader_Next__0 := p_parts_Reader_Next__0) (h_parts_Reader_Next__0 := s_parts_Reader_Next__0) (l_2 := p_cascadelaw28_drain__0_2 ) (l_5 := p_cascadelaw28_drain__0_5 ) (h_l_2 := s_cascadelaw28_drain__0_2   m n0 k0 hl0 ) (h_l_5 := s_cascadelaw28_drain__0_5   m n0 k0 hl0 ) stk m n0 k0 hl0  v5 L0_0 L0_1 L0_2 L0_3 hg0 e
  · obtain ⟨v5, L0_0, L0_1, L0_2, L0_3⟩ := s; obtain ⟨v5', L0_0', L0_1', L0_2', L0_3'⟩ := t
    intro stk hg0
    exact (o_cascadelaw28_drain__0_1 (h := LW) (hT := rfl) (hPP := rfl) (he_e_string := he_E_string) (hz_e_string := hz_E_string) (he_e_uint8 := he_E_uint8) (hz_e_uint8 := hz_E_uint8) (c_parts_Reader_Next__0 := p_parts_Reader_Next__0) (h_parts_Reader_Next__0 := s_parts_Reader_Next__0) (l_2 := p_cascadelaw28_drain__0_2 ) (l_5 := p_cascadelaw28_drain__0_5 ) (h_l_2 := s_cascadelaw28_drain__0_2   m n0 k0 hl0 ) (h_l_5 := s_cascadelaw28_drain__0_5   m n0 k0 hl0 ) stk m n0 k0 hl0  v5 L0_0 L0_1 L0_2 L0_3 hg0 e).trans ((ih (setO stk ⟨n0, k0⟩ (.cells [(.d (.str L0_0')), (.d (.int .i64 L0_1')), (.d (.bool L0_2')), (.d (.int .i64 L0_3'))])) ((LW.gs (hg0) _))).trans (by first | (simp only [LW.so, O_cascadelaw28_drain__0, A_cascadelaw28_drain__0_1]; done) | (rcases r with ⟨_, _, _, _, _⟩ <;> simp only [Sum.elim_inl, Sum.elim_inr, LW.so, O_cascadelaw28_drain__0, A_cascadelaw28_drain__0_1])))
noncomputable def p_cascadelaw28_drain__0_0  (L0_0 : Str) (L0_1 : Int) (L0_2 : Bool) (L0_3 : Int) : Option ((List Str) × Str × Int × Bool × Int) := b_cascadelaw28_drain__0_0 Prims.real p_parts_Reader_Next__0 p_cascadelaw28_drain__0_1 L0_0 L0_1 L0_2 L0_3
theorem s_cascadelaw28_drain__0_0   (m : Nat) (n0 : Nat) (k0 : List Nat) (hl0 : n0 < m)  : H_cascadelaw28_drain__0_0 (atW table glob) (fun {_} e l => List.map e l) setO E_string m n0 k0 p_cascadelaw28_drain__0_0 := by
  intro L0_0 L0_1 L0_2 L0_3 out hp stk hg0
  exact o_cascadelaw28_drain__0_0 (h := LW) (hT := rfl) (hPP := rfl) (he_e_string := he_E_string) (hz_e_string := hz_E_string) (he_e_uint8 := he_E_uint8) (hz_e_uint8 := hz_E_uint8) (c_parts_Reader_Next__0 := p_parts_Reader_Next__0) (h_parts_Reader_Next__0 := s_parts_Reader_Next__0) (l_1 := p_cascadelaw28_drain__0_1 ) (h_l_1 := s_cascadelaw28_drain__0_1   m n0 k0 hl0 ) stk m n0 k0 hl0  L0_0 L0_1 L0_2 L0_3 hg0 hp
noncomputable def p_cascadelaw28_drain__0 : Str → Int → Bool → Int → Option ((List Str) × Str × Int × Bool × Int) := fun L0_0 L0_1 L0_2 L0_3 => p_cascadelaw28_drain__0_0  L0_0 L0_1 L0_2 L0_3
theorem s_cascadelaw28_drain__0 : (C_cascadelaw28_drain__0 (sysW table glob).fcall (fun {_} e l => List.map e l) setO E_string p_cascadelaw28_drain__0) := by
  intro _ _ _ _ _ _ _ _ _ hp stk n0 k0 hg0 hl0 
  exact fcall_of (T := table) (G := glob) (f := 13) rfl rfl (s_cascadelaw28_drain__0_0   (topN stk + 1) n0 k0 (Nat.lt_succ_of_le hl0)  hp stk hg0)
noncomputable def p_cascaderef28_Whole_1  (v0 : (List Str)) (v3 : Str) (v4 : Int) : Option (Str) := Prims.real.loop (fun (s : (List Str) × Str × Int) => match s with | (v0, v3, v4) => b_cascaderef28_Whole_1 Prims.real p_cascaderef28_Part  v0 v3 v4) (v0, v3, v4)
theorem u_cascaderef28_Whole_1  (v0 : (List Str)) (v3 : Str) (v4 : Int) : p_cascaderef28_Whole_1  v0 v3 v4 = match b_cascaderef28_Whole_1 Prims.real p_cascaderef28_Part  v0 v3 v4 with
    | some (.inl (v0', v3', v4')) => p_cascaderef28_Whole_1  v0' v3' v4'
    | some (.inr r) => some r
    | none => none := by
  show Pr.loop _ _ = _
  rw [Pr.loop_eq]
  dsimp only
  generalize b_cascaderef28_Whole_1 Prims.real p_cascaderef28_Part  v0 v3 v4 = y
  cases y with
  | none => rfl
  | some y => cases y <;> rfl
theorem s_cascaderef28_Whole_1   (m : Nat)    : H_cascaderef28_Whole_1 (atW table glob) (fun {_} e l => List.map e l) E_string m  p_cascaderef28_Whole_1 := by
  intro v0 v3 v4 out hp stk 
  refine LW.ind (fun (s : (List Str) × Str × Int) => match s with | (v0, v3, v4) => b_cascaderef28_Whole_1 Prims.real p_cascaderef28_Part  v0 v3 v4) (fun (s : (List Str) × Str × Int) o => match s with | (v0, v3, v4) => ∀ (stk : Stk), (A_cascaderef28_Whole_1 (atW table glob) (fun {_} e l => List.map e l) E_string m  v0 v3 v4 stk) = (O_cascaderef28_Whole  m  stk) o) (fun s r e => ?_) (fun s t r e ih => ?_) (v0, v3, v4) out hp stk 
  · obtain ⟨v0, v3, v4⟩ := s
    intro stk 
    exact o_cascaderef28_Whole_1 (h := LW) (hT := rfl) (hPP := rfl) (he_e_string := he_E_string) (hz_e_string := hz_E_string) (he_e_uint8 := he_E_uint8) (hz_e_uint8 := hz_E_uint8) (c_cascaderef28_Part := p_cascaderef28_Part) (h_cascaderef28_Part := s_cascaderef28_Part)   stk m    v0 v3 v4  e
  · obtain ⟨v0, v3, v4⟩ := s; obtain ⟨v0', v3', v4'⟩ := t
    intro stk 
    exact (o_cascaderef28_Whole_1 (h := LW) (hT := rfl) (hPP := rfl) (he_e_string := he_E_string) (hz_e_string := hz_E_string) (he_e_uint8 := he_E_uint8) (hz_e_uint8 := hz_E_uint8) (c_cascaderef28_Part := p_cascaderef28_Part) (h_cascaderef28_Part := s_cascaderef28_Part)   stk m    v0 v3 v4  e).trans (ih stk )
noncomputable def p_cascaderef28_Whole_0  (v0 : (List Str)) : Option (Str) := b_cascaderef28_Whole_0 Prims.real p_cascaderef28_Part p_cascaderef28_Whole_1 v0
theorem s_cascaderef28_Whole_0   (m : Nat)    : H_cascaderef28_Whole_0 (atW table glob) (fun {_} e l => List.map e l) E_string m  p_cascaderef28_Whole_0 := by
  intro v0 out hp stk 
  exact o_cascaderef28_Whole_0 (h := LW) (hT := rfl) (hPP := rfl) (he_e_string := he_E_string) (hz_e_string := hz_E_string) (he_e_uint8 := he_E_uint8) (hz_e_uint8 := hz_E_uint8) (c_cascaderef28_Part := p_cascaderef28_Part) (h_cascaderef28_Part := s_cascaderef28_Part) (l_1 := p_cascaderef28_Whole_1 ) (h_l_1 := s_cascaderef28_Whole_1   m   ) stk m    v0  hp
noncomputable def p_cascaderef28_Whole : (List Str) → Option (Str) := fun v0 => p_cascaderef28_Whole_0  v0
theorem s_cascaderef28_Whole : (C_cascaderef28_Whole (sysW table glob).pcall (sysW table glob).fcall (fun {_} e l => List.map e l) E_string p_cascaderef28_Whole) := by
  intro _ _ hp stk    
  exact pf_of (T := table) (G := glob) (f := 14) rfl rfl (s_cascaderef28_Whole_0   (topN stk + 1)    hp stk )
noncomputable def p_cascaderef12_SameNames_2  (v0 : (List Str)) (v1 : (List Str)) (v5 : Int) : Option (Bool) := Prims.real.loop (fun (s : (List Str) × (List Str) × Int) => match s with | (v0, v1, v5) => b_cascaderef12_SameNames_2 Prims.real   v0 v1 v5) (v0, v1, v5)
theorem u_cascaderef12_SameNames_2  (v0 : (List Str)) (v1 : (List Str)) (v5 : Int) : p_cascaderef12_SameNames_2  v0 v1 v5 = match b_cascaderef12_SameNames_2 Prims.real   v0 v1 v5 with
    | some (.inl (v0', v1', v5')) => p_cascaderef12_SameNames_2  v0' v1' v5'
    | some (.inr r) => some r
    | none => none := by
  show Pr.loop _ _ = _
  rw [Pr.loop_eq]
  dsimp only
  generalize b_cascaderef12_SameNames_2 Prims.real   v0 v1 v5 = y
  cases y with
  | none => rfl
  | some y => cases y <;> rfl
theorem s_cascaderef12_SameNames_2   (m : Nat)    : H_cascaderef12_SameNames_2 (atW table glob) (fun {_} e l => List.map e l) E_string m  p_cascaderef12_SameNames_2 := by
  intro v0 v1 v5 out hp stk 
  refine LW.ind (fun (s : (List Str) × (List Str) × Int) => match s with | (v0, v1, v5) => b_cascaderef12_SameNames_2 Prims.real   v0 v1 v5) (fun (s : (List Str) × (List Str) × Int) o => match s with | (v0, v1, v5) => ∀ (stk : Stk), (A_cascaderef12_SameNames_2 (atW table glob) (fun {_} e l => List.map e l) E_string m  v0 v1 v5 stk) = (O_cascaderef12_SameNames  m  stk) o) (fun s r e => ?_) (fun s t r e ih => ?_) (v0, v1, v5) out hp stk 
  · obtain ⟨v0, v1, v5⟩ := s
    intro stk 
    exact o_cascaderef12_SameNames_2 (h := LW) (hT := rfl) (hPP := rfl) (he_e_string := he_E_string) (hz_e_string := hz_E_string) (he_e_uint8 := he_E_uint8) (hz_e_uint8 := hz_E_uint8)     stk m    v0 v1 v5  e
  · obtain ⟨v0, v1, v5⟩ := s; obtain ⟨v0', v1', v5'⟩ := t
    intro stk 
    exact (o_cascaderef12_SameNames_2 (h := LW) (hT := rfl) (hPP := rfl) (he_e_string := he_E_string) (hz_e_string := hz_E_string) (he_e_uint8 := he_E_uint8) (hz_e_uint8 := hz_E_uint8)     stk m    v0 v1 v5  e).trans (ih stk )
noncomputable def p_cascaderef12_SameNames_0  (v0 : (List Str)) (v1 : (List Str)) : Option (Bool) := b_cascaderef12_SameNames_0 Prims.real  p_cascaderef12_SameNames_2 v0 v1
theorem s_cascaderef12_SameNames_0   (m : Nat)    : H_cascaderef12_SameNames_0 (atW table glob) (fun {_} e l => List.map e l) E_string m  p_cascaderef12_SameNames_0 := by
  intro v0 v1 out hp stk 
  exact o_cascaderef12_SameNames_0 (h := LW) (hT := rfl) (hPP := rfl) (he_e_string := he_E_string) (hz_e_string := hz_E_string) (he_e_uint8 := he_E_uint8) (hz_e_uint8 := hz_E_uint8)   (l_2 := p_cascaderef12_SameNames_2 ) (h_l_2 := s_cascaderef12_SameNames_2   m   ) stk m    v0 v1  hp
noncomputable def p_cascaderef12_SameNames : (List Str) → (List Str) → Option (Bool) := fun v0 v1 => p_cascaderef12_SameNames_0  v0 v1
theorem s_cascaderef12_SameNames : (C_cascaderef12_SameNames (sysW table glob).pcall (sysW table glob).fcall (fun {_} e l => List.map e l) E_string p_cascaderef12_SameNames) := by
  intro _ _ _ hp stk    
  exact pf_of (T := table) (G := glob) (f := 15) rfl rfl (s_cascaderef12_SameNames_0   (topN stk + 1)    hp stk )
noncomputable def p_parts_Reader_Over__0_0  (L0_0 : Str) (L0_1 : Int) (L0_2 : Bool) (L0_3 : Int) : Option (Bool) := b_parts_Reader_Over__0_0 Prims.real   L0_0 L0_1 L0_2 L0_3
theorem s_parts_Reader_Over__0_0   (m : Nat) (n0 : Nat) (k0 : List Nat) (hl0 : n0 < m)  : H_parts_Reader_Over__0_0 (atW table glob) m n0 k0 p_parts_Reader_Over__0_0 := by
  intro L0_0 L0_1 L0_2 L0_3 out hp stk hg0
  exact o_parts_Reader_Over__0_0 (h := LW) (hT := rfl) (hPP := rfl) (he_e_string := he_E_string) (hz_e_string := hz_E_string) (he_e_uint8 := he_E_uint8) (hz_e_uint8 := hz_E_uint8)     stk m n0 k0 hl0  L0_0 L0_1 L0_2 L0_3 hg0 hp
noncomputable def p_parts_Reader_Over__0 : Str → Int → Bool → Int → Option (Bool) := fun L0_0 L0_1 L0_2 L0_3 => p_parts_Reader_Over__0_0  L0_0 L0_1 L0_2 L0_3
theorem s_parts_Reader_Over__0 : (C_parts_Reader_Over__0 (sysW table glob).pcall (sysW table glob).fcall p_parts_Reader_Over__0) := by
  intro _ _ _ _ _ hp stk n0 k0 hg0 hl0 
  exact pf_of (T := table) (G := glob) (f := 16) rfl rfl (s_parts_Reader_Over__0_0   (topN stk + 1) n0 k0 (Nat.lt_succ_of_le hl0)  hp stk hg0)
noncomputable def p_parts_Reader_Bad__0_0  (L0_0 : Str) (L0_1 : Int) (L0_2 : Bool) (L0_3 : Int) : Option (Int) := b_parts_Reader_Bad__0_0 Prims.real   L0_0 L0_1 L0_2 L0_3
theorem s_parts_Reader_Bad__0_0   (m : Nat) (n0 : Nat) (k0 : List Nat) (hl0 : n0 < m)  : H_parts_Reader_Bad__0_0 (atW table glob) m n0 k0 p_parts_Reader_Bad__0_0 := by
  intro L0_0 L0_1 L0_2 L0_3 out hp stk hg0
  exact o_parts_Reader_Bad__0_0 (h := LW) (hT := rfl) (hPP := rfl) (he_e_string := he_E_string) (hz_e_string := hz_E_string) (he_e_uint8 := he_E_uint8) (hz_e_uint8 := hz_E_uint8)     stk m n0 k0 hl0  L0_0 L0_1 L0_2 L0_3 hg0 hp
noncomputable def p_parts_Reader_Bad__0 : Str → Int → Bool → Int → Option (Int) := fun L0_0 L0_1 L0_2 L0_3 => p_parts_Reader_Bad__0_0  L0_0 L0_1 L0_2 L0_3
theorem s_parts_Reader_Bad__0 : (C_parts_Reader_Bad__0 (sysW table glob).pcall (sysW table glob).fcall p_parts_Reader_Bad__0) := by
  intro _ _ _ _ _ hp stk n0 k0 hg0 hl0 
  exact pf_of (T := table) (G := glob) (f := 17) rfl rfl (s_parts_Reader_Bad__0_0   (topN stk + 1) n0 k0 (Nat.lt_succ_of_le hl0)  hp stk hg0)
noncomputable def p_cascadelaw28_PartsWhole_2  (v0 : (List Str)) (v3 : Int) : Option (Bool) := Prims.real.loop (fun (s : (List Str) × Int) => match s with | (v0, v3) => b_cascadelaw28_PartsWhole_2 Prims.real p_cascadelaw28_awake p_cascadelaw28_few p_parts_Part p_cascaderef28_Part p_parts_Whole p_parts_New__0 p_parts_Reader_Feed__0 p_cascadelaw28_drain__0 p_cascaderef28_Whole p_cascaderef12_SameNames p_parts_Reader_Over__0 p_parts_Reader_Bad__0  v0 v3) (v0, v3)
theorem u_cascadelaw28_PartsWhole_2  (v0 : (List Str)) (v3 : Int) : p_cascadelaw28_PartsWhole_2  v0 v3 = match b_cascadelaw28_PartsWhole_2 Prims.real p_cascadelaw28_awake p_cascadelaw28_few p_parts_Part p_cascaderef28_Part p_parts_Whole p_parts_New__0 p_parts_Reader_Feed__0 p_cascadelaw28_drain__0 p_cascaderef28_Whole p_cascaderef12_SameNames p_parts_Reader_Over__0 p_parts_Reader_Bad__0  v0 v3 with
    | some (.inl (v0', v3')) => p_cascadelaw28_PartsWhole_2  v0' v3'
    | some (.inr r) => some r
    | none => none := by
  show Pr.loop _ _ = _
  rw [Pr.loop_eq]
  dsimp only
  generalize b_cascadelaw28_PartsWhole_2 Prims.real p_cascadelaw28_awake p_cascadelaw28_few p_parts_Part p_cascaderef28_Part p_parts_Whole p_parts_New__0 p_parts_Reader_Feed__0 p_cascadelaw28_drain__0 p_cascaderef28_Whole p_cascaderef12_SameNames p_parts_Reader_Over__0 p_parts_Reader_Bad__0  v0 v3 = y
  cases y with
  | none => rfl
  | some y => cases y <;> rfl
theorem s_cascadelaw28_PartsWhole_2   (m : Nat)    : H_cascadelaw28_PartsWhole_2 (atW table glob) (fun {_} e l => List.map e l) E_string m  p_cascadelaw28_PartsWhole_2 := by
  intro v0 v3 out hp stk 
  refine LW.ind (fun (s : (List Str) × Int) => match s with | (v0, v3) => b_cascadelaw28_PartsWhole_2 Prims.real p_cascadelaw28_awake p_cascadelaw28_few p_parts_Part p_cascaderef28_Part p_parts_Whole p_parts_New__0 p_parts_Reader_Feed__0 p_cascadelaw28_drain__0 p_cascaderef28_Whole p_cascaderef12_SameNames p_parts_Reader_Over__0 p_parts_Reader_Bad__0  v0 v3) (fun (s : (List Str) × Int) o => match s with | (v0, v3) => ∀ (stk : Stk), (A_cascadelaw28_PartsWhole_2 (atW table glob) (fun {_} e l => List.map e l) E_string m  v0 v3 stk) = (O_cascadelaw28_PartsWhole  m  stk) o) (fun s r e => ?_) (fun s t r e ih => ?_) (v0, v3) out hp stk 
  · obtain ⟨v0, v3⟩ := s
    intro stk 
    exact o_cascadelaw28_PartsWhole_2 (h := LW) (hT := rfl) (hPP := rfl) (he_e_string := he_E_string) (hz_e_string := hz_E_string) (he_e_uint8 := he_E_uint8) (hz_e_uint8 := hz_E_uint8) (c_cascadelaw28_awake := p_cascadelaw28_awake) (c_cascadelaw28_few := p_cascadelaw28_few) (c_parts_Part := p_parts_Part) (c_cascaderef28_Part := p_cascaderef28_Part) (c_parts_Whole := p_parts_Whole) (c_parts_New__0 := p_parts_New__0) (c_parts_Reader_Feed__0 := p_parts_Reader_Feed__0) (c_cascadelaw28_drain__0 := p_cascadelaw28_drain__0) (c_cascaderef28_Whole := p_cascaderef28_Whole) (c_cascaderef12_SameNames := p_cascaderef12_SameNames) (c_parts_Reader_Over__0 := p_parts_Reader_Over__0) (c_parts_Reader_Bad__0 := p_parts_Reader_Bad__0) (h_cascadelaw28_awake := s_cascadelaw28_awake) (h_cascadelaw28_few := s_cascadelaw28_few) (h_parts_Part := s_parts_Part) (h_cascaderef28_Part := s_cascaderef28_Part) (h_parts_Whole := s_parts_Whole) (h_parts_New__0 := s_parts_New__0) (h_parts_Reader_Feed__0 := s_parts_Reader_Feed__0) (h_cascadelaw28_drain__0 := s_cascadelaw28_drain__0) (h_cascaderef28_Whole := s_cascaderef28_Whole) (h_cascaderef12_SameNames := s_cascaderef12_SameNames) (h_parts_Reader_Over__0 := s_parts_Reader_Over__0) (h_parts_Reader_Bad__0 := s_parts_Reader_Bad__0)   stk m    v0 v3  e
  · obtain ⟨v0, v3⟩ := s; obtain ⟨v0', v3'⟩ := t
    intro stk 
    exact (o_cascadelaw28_PartsWhole_2 (h := LW) (hT := rfl) (hPP := rfl) (he_e_string := he_E_string) (hz_e_string := hz_E_string) (he_e_uint8 := he_E_uint8) (hz_e_uint8 := hz_E_uint8) (c_cascadelaw28_awake := p_cascadelaw28_awake) (c_cascadelaw28_few := p_cascadelaw28_few) (c_parts_Part := p_parts_Part) (c_cascaderef28_Part := p_cascaderef28_Part) (c_parts_Whole := p_parts_Whole) (c_parts_New__0 := p_parts_New__0) (c_parts_Reader_Feed__0 := p_parts_Reader_Feed__0) (c_cascadelaw28_drain__0 := p_cascadelaw28_drain__0) (c_cascaderef28_Whole := p_cascaderef28_Whole) (c_cascaderef12_SameNames := p_cascaderef12_SameNames) (c_parts_Reader_Over__0 := p_parts_Reader_Over__0) (c_parts_Reader_Bad__0 := p_parts_Reader_Bad__0) (h_cascadelaw28_awake := s_cascadelaw28_awake) (h_cascadelaw28_few := s_cascadelaw28_few) (h_parts_Part := s_parts_Part) (h_cascaderef28_Part := s_cascaderef28_Part) (h_parts_Whole := s_parts_Whole) (h_parts_New__0 := s_parts_New__0) (h_parts_Reader_Feed__0 := s_parts_Reader_Feed__0) (h_cascadelaw28_drain__0 := s_cascadelaw28_drain__0) (h_cascaderef28_Whole := s_cascaderef28_Whole) (h_cascaderef12_SameNames := s_cascaderef12_SameNames) (h_parts_Reader_Over__0 := s_parts_Reader_Over__0) (h_parts_Reader_Bad__0 := s_parts_Reader_Bad__0)   stk m    v0 v3  e).trans (ih stk )
noncomputable def p_cascadelaw28_PartsWhole_0  (v0 : (List Str)) : Option (Bool) := b_cascadelaw28_PartsWhole_0 Prims.real p_cascadelaw28_awake p_cascadelaw28_few p_parts_Part p_cascaderef28_Part p_parts_Whole p_parts_New__0 p_parts_Reader_Feed__0 p_cascadelaw28_drain__0 p_cascaderef28_Whole p_cascaderef12_SameNames p_parts_Reader_Over__0 p_parts_Reader_Bad__0 p_cascadelaw28_PartsWhole_2 v0
theorem s_cascadelaw28_PartsWhole_0   (m : Nat)    : H_cascadelaw28_PartsWhole_0 (atW table glob) (fun {_} e l => List.map e l) E_string m  p_cascadelaw28_PartsWhole_0 := by
  intro v0 out hp stk 
  exact o_cascadelaw28_PartsWhole_0 (h := LW) (hT := rfl) (hPP := rfl) (he_e_string := he_E_string) (hz_e_string := hz_E_string) (he_e_uint8 := he_E_uint8) (hz_e_uint8 := hz_E_uint8) (c_cascadelaw28_awake := p_cascadelaw28_awake) (c_cascadelaw28_few := p_cascadelaw28_few) (c_parts_Part := p_parts_Part) (c_cascaderef28_Part := p_cascaderef28_Part) (c_parts_Whole := p_parts_Whole) (c_parts_New__0 := p_parts_New__0) (c_parts_Reader_Feed__0 := p_parts_Reader_Feed__0) (c_cascadelaw28_drain__0 := p_cascadelaw28_drain__0) (c_cascaderef28_Whole := p_cascaderef28_Whole) (c_cascaderef12_SameNames := p_cascaderef12_SameNames) (c_parts_Reader_Over__0 := p_parts_Reader_Over__0) (c_parts_Reader_Bad__0 := p_parts_Reader_Bad__0) (h_cascadelaw28_awake := s_cascadelaw28_awake) (h_cascadelaw28_few := s_cascadelaw28_few) (h_parts_Part := s_parts_Part) (h_cascaderef28_Part := s_cascaderef28_Part) (h_parts_Whole := s_parts_Whole) (h_parts_New__0 := s_parts_New__0) (h_parts_Reader_Feed__0 := s_parts_Reader_Feed__0) (h_cascadelaw28_drain__0 := s_cascadelaw28_drain__0) (h_cascaderef28_Whole := s_cascaderef28_Whole) (h_cascaderef12_SameNames := s_cascaderef12_SameNames) (h_parts_Reader_Over__0 := s_parts_Reader_Over__0) (h_parts_Reader_Bad__0 := s_parts_Reader_Bad__0) (l_2 := p_cascadelaw28_PartsWhole_2 ) (h_l_2 := s_cascadelaw28_PartsWhole_2   m   ) stk m    v0  hp
noncomputable def p_cascadelaw28_PartsWhole : (List Str) → Option (Bool) := fun v0 => p_cascadelaw28_PartsWhole_0  v0
theorem s_cascadelaw28_PartsWhole : (C_cascadelaw28_PartsWhole (sysW table glob).pcall (sysW table glob).fcall (fun {_} e l => List.map e l) E_string p_cascadelaw28_PartsWhole) := by
  intro _ _ hp stk    
  exact pf_of (T := table) (G := glob) (f := 4) rfl rfl (s_cascadelaw28_PartsWhole_0   (topN stk + 1)    hp stk )
end Go.Abs.B
