import Derived.Test.YtacabmodmbcldaaDoorWT
import Derived.KernelRfl
set_option linter.unusedVariables false
namespace Go.Abs.T
set_option maxRecDepth 100000
theorem table_ok : ∀ f kf, table f = some kf → kf.ok = true := by
  intro f kf h
  unfold table at h
  split at h <;> first | (cases h; done) | (cases h; kernel_rfl)
theorem LW : KLaws (oldT table) iterW glob (callW (oldT table) glob) (sysW table glob).pcall (sysW table glob).fcall (sysW table glob).kcall (List.length) (fun xs i => xs[i]?) (fun xs lo hi => (xs.take hi).drop lo) (fun xs ys => xs ++ ys) (fun xs i x => xs.set i x) (fun n x => List.replicate n x) (allSz) (List.length) (fun s i => s[i]?) (fun s lo hi => (s.take hi).drop lo) (fun a b => a ++ b) (fun a b => a == b) (fun a b => Op.bytesLess a b) (fun s => s.map fun b => .int .u8 b.toNat) (bytesOf) (fun s i => Utf8.decode ⟨⟨s⟩⟩ i) (fun n => (Utf8.encode n).data.toList) (intAr) (intCmp) (fun k n => k.wrap n) (fun n => decide (n = 0)) (fun n => decide (n < 0)) (fun n => n.toNat) (fun (n : Nat) => (n : Int)) (fun (b : UInt8) => (b.toNat : Int)) (fun a b => decide (a ≤ b)) (fun a b => a + b) (fun a b => a - b) (fun n b => decide (n * b ≤ room ∧ n ≤ room)) (findE) (Go.Abs.putE) (Go.Abs.findK) (List.length) (frzMap) (sameV) (atW table glob) setO (fun s => topN s + 1) sameStk (fun {_} e l => List.map e l) (fun {_} e l => mapE e l) Pr.quo Pr.shf Pr.slen Pr.sidx Pr.ssub Pr.scat Pr.sit Pr.slist Pr.ofBytes @Pr.len @Pr.idx @Pr.sub @Pr.app @Pr.set @Pr.make @Pr.mfind @Pr.mput @Pr.loop table := KLaws.real (G := glob) table_ok
abbrev XM {α : Type} (e : α → D) (l : List α) : List D := List.map e l
noncomputable abbrev AT := atW table glob
noncomputable abbrev PC := (sysW table glob).pcall
noncomputable abbrev FC := (sysW table glob).fcall
noncomputable abbrev KC_ := (sysW table glob).kcall
def E_api_Step : S_api_Step → D := fun ⟨x_0, x_1, x_2⟩ => (.agg [(.str x_0), (.int .i64 x_1), (.bool x_2)])
theorem he_E_api_Step (x_0 : Str) (x_1 : Int) (x_2 : Bool) : E_api_Step ⟨x_0, x_1, x_2⟩ = (.agg [(.str x_0), (.int .i64 x_1), (.bool x_2)]) := rfl
theorem hz_E_api_Step (l : List S_api_Step) : allSz 3 (l.map E_api_Step) = true := LW.allsz E_api_Step 3 (fun a => ⟨rfl, rfl⟩) l
mutual
def E_api_Value : S_api_Value → D
  | ⟨x_0, x_1, x_2, x_3, x_4⟩ => (.agg [(.int .i64 x_0), (.int .i64 x_1), (.str x_2), (.sl (E_api_Value_l x_3)), (.sl (E_api_Pair_l x_4))])
def E_api_Value_l : List S_api_Value → List D
  | [] => []
  | x :: r => E_api_Value x :: E_api_Value_l r
def E_api_Pair : S_api_Pair → D
  | ⟨x_0, ⟨x_1_0, x_1_1, x_1_2, x_1_3, x_1_4⟩⟩ => (.agg [(.str x_0), (.int .i64 x_1_0), (.int .i64 x_1_1), (.str x_1_2), (.sl (E_api_Value_l x_1_3)), (.sl (E_api_Pair_l x_1_4))])
def E_api_Pair_l : List S_api_Pair → List D
  | [] => []
  | x :: r => E_api_Pair x :: E_api_Pair_l r
end
theorem E_api_Value_map : ∀ l, E_api_Value_l l = l.map E_api_Value
  | [] => by simp only [E_api_Value_l, List.map_nil]
  | x :: r => by simp only [E_api_Value_l, List.map_cons, E_api_Value_map r]
theorem E_api_Pair_map : ∀ l, E_api_Pair_l l = l.map E_api_Pair
  | [] => by simp only [E_api_Pair_l, List.map_nil]
  | x :: r => by simp only [E_api_Pair_l, List.map_cons, E_api_Pair_map r]
theorem he_E_api_Value (x_0 x_1 : Int) (x_2 : Str) (x_3 : Ls0) (x_4 : Ls1) : E_api_Value ⟨x_0, x_1, x_2, x_3, x_4⟩ = (.agg [(.int .i64 x_0), (.int .i64 x_1), (.str x_2), (.sl (List.map E_api_Value x_3)), (.sl (List.map E_api_Pair x_4))]) := by simp only [E_api_Value, E_api_Value_map, E_api_Pair_map]
theorem he_E_api_Pair (x_0 : Str) (x_1_0 x_1_1 : Int) (x_1_2 : Str) (x_1_3 : Ls0) (x_1_4 : Ls1) : E_api_Pair ⟨x_0, ⟨x_1_0, x_1_1, x_1_2, x_1_3, x_1_4⟩⟩ = (.agg [(.str x_0), (.int .i64 x_1_0), (.int .i64 x_1_1), (.str x_1_2), (.sl (List.map E_api_Value x_1_3)), (.sl (List.map E_api_Pair x_1_4))]) := by simp only [E_api_Pair, E_api_Value_map, E_api_Pair_map]
theorem hz_E_api_Value (l : List S_api_Value) : allSz 5 (l.map E_api_Value) = true := LW.allsz E_api_Value 5 (fun a => by obtain ⟨_, _, _, _, _⟩ := a; rw [he_E_api_Value]; exact ⟨rfl, rfl⟩) l
theorem hz_E_api_Pair (l : List S_api_Pair) : allSz 6 (l.map E_api_Pair) = true := LW.allsz E_api_Pair 6 (fun a => by obtain ⟨_, ⟨_, _, _, _, _⟩⟩ := a; rw [he_E_api_Pair]; exact ⟨rfl, rfl⟩) l
def E_int : Int → D := fun x => (.int .i64 x)
theorem he_E_int (x : Int) : E_int x = (.int .i64 x) := rfl
theorem hz_E_int (l : List Int) : allSz 1 (l.map E_int) = true := LW.allsz E_int 1 (fun a => ⟨rfl, rfl⟩) l
noncomputable def p_path_Place_0  (v0 : Int) : Option (S_api_Step) := b_path_Place_0 Prims.real   v0
theorem s_path_Place_0   (m : Nat)    : H_path_Place_0 AT m  p_path_Place_0 := by
  intro v0 out hp stk 
  exact o_path_Place_0 LW rfl rfl he_E_api_Step hz_E_api_Step he_E_api_Value hz_E_api_Value he_E_api_Pair hz_E_api_Pair he_E_int hz_E_int stk m v0 hp
noncomputable def p_path_Place : Int → Option (S_api_Step) := fun v0 => p_path_Place_0  v0
theorem s_path_Place : (C_path_Place PC FC p_path_Place) := by
  intro _ _ _ _ hp stk    
  exact pf_of (T := table) (G := glob) (f := 29) rfl rfl (s_path_Place_0   (topN stk + 1)    hp stk )
theorem s_unicode_utf8_DecodeRuneInString : (C_unicode_utf8_DecodeRuneInString PC FC p_unicode_utf8_DecodeRuneInString) := by
  intro _ _ _ hp stk
  exact ⟨pcall_ext (T := table) (G := glob) (f := 136) (e := ext_unicode_utf8_DecodeRuneInString) rfl rfl (x_unicode_utf8_DecodeRuneInString hp) stk, fcall_ext (T := table) (G := glob) (f := 136) (e := ext_unicode_utf8_DecodeRuneInString) rfl rfl (x_unicode_utf8_DecodeRuneInString hp) stk⟩
noncomputable def p_text_Bad_1  (v0 o8_s : Str) (o8_p : Nat) : Option (Int) := Prims.real.loop (fun (s : Str × Str × Nat) => match s with | (v0, o8_s, o8_p) => b_text_Bad_1 Prims.real p_unicode_utf8_DecodeRuneInString  v0 o8_s o8_p) (v0, o8_s, o8_p)
theorem u_text_Bad_1  (v0 o8_s : Str) (o8_p : Nat) : p_text_Bad_1  v0 o8_s o8_p = match b_text_Bad_1 Prims.real p_unicode_utf8_DecodeRuneInString  v0 o8_s o8_p with
    | some (.inl (v0', o8_s', o8_p')) => p_text_Bad_1  v0' o8_s' o8_p'
    | some (.inr r) => some r
    | none => none := by
  show Pr.loop _ _ = _
  rw [Pr.loop_eq]
  try dsimp only
  generalize b_text_Bad_1 Prims.real p_unicode_utf8_DecodeRuneInString  v0 o8_s o8_p = y
  cases y with
  | none => rfl
  | some y => cases y <;> rfl
theorem s_text_Bad_1   (m : Nat)    : H_text_Bad_1 AT m  p_text_Bad_1 := by
  intro v0 o8_s o8_p out hp stk 
  refine LW.ind _ (fun (s : Str × Str × Nat) o => match s with | (v0, o8_s, o8_p) => ∀ (stk : Stk), (A_text_Bad_1 AT m  v0 o8_s o8_p stk) = (O_text_Bad  m  stk) o) (fun s r e => ?_) (fun s t r e ih => ?_) (v0, o8_s, o8_p) out hp stk 
  · obtain ⟨v0, o8_s, o8_p⟩ := s
    intro stk 
    exact o_text_Bad_1 LW rfl rfl he_E_api_Step hz_E_api_Step he_E_api_Value hz_E_api_Value he_E_api_Pair hz_E_api_Pair he_E_int hz_E_int p_unicode_utf8_DecodeRuneInString s_unicode_utf8_DecodeRuneInString stk m v0 o8_s o8_p e
  · obtain ⟨v0, o8_s, o8_p⟩ := s; obtain ⟨v0', o8_s', o8_p'⟩ := t
    intro stk 
    exact (o_text_Bad_1 LW rfl rfl he_E_api_Step hz_E_api_Step he_E_api_Value hz_E_api_Value he_E_api_Pair hz_E_api_Pair he_E_int hz_E_int p_unicode_utf8_DecodeRuneInString s_unicode_utf8_DecodeRuneInString stk m v0 o8_s o8_p e).trans (ih stk )
noncomputable def p_text_Bad_0  (v0 : Str) : Option (Int) := b_text_Bad_0 Prims.real p_unicode_utf8_DecodeRuneInString p_text_Bad_1 v0
theorem s_text_Bad_0   (m : Nat)    : H_text_Bad_0 AT m  p_text_Bad_0 := by
  intro v0 out hp stk 
  exact o_text_Bad_0 LW rfl rfl he_E_api_Step hz_E_api_Step he_E_api_Value hz_E_api_Value he_E_api_Pair hz_E_api_Pair he_E_int hz_E_int p_unicode_utf8_DecodeRuneInString s_unicode_utf8_DecodeRuneInString stk m p_text_Bad_1 v0 (s_text_Bad_1 m ) hp
noncomputable def p_text_Bad : Str → Option (Int) := fun v0 => p_text_Bad_0  v0
theorem s_text_Bad : (C_text_Bad PC FC p_text_Bad) := by
  intro _ _ hp stk    
  exact pf_of (T := table) (G := glob) (f := 124) rfl rfl (s_text_Bad_0   (topN stk + 1)    hp stk )
noncomputable def p_text_Right_0  (v0 : Str) : Option (Bool) := b_text_Right_0 Prims.real p_text_Bad  v0
theorem s_text_Right_0   (m : Nat)    : H_text_Right_0 AT m  p_text_Right_0 := by
  intro v0 out hp stk 
  exact o_text_Right_0 LW rfl rfl he_E_api_Step hz_E_api_Step he_E_api_Value hz_E_api_Value he_E_api_Pair hz_E_api_Pair he_E_int hz_E_int p_text_Bad s_text_Bad stk m v0 hp
noncomputable def p_text_Right : Str → Option (Bool) := fun v0 => p_text_Right_0  v0
theorem s_text_Right : (C_text_Right PC FC p_text_Right) := by
  intro _ _ hp stk    
  exact pf_of (T := table) (G := glob) (f := 93) rfl rfl (s_text_Right_0   (topN stk + 1)    hp stk )
noncomputable def p_path_right_0  (v0_0 : Str) (v0_1 : Int) (v0_2 : Bool) : Option (Bool) := b_path_right_0 Prims.real p_text_Right  v0_0 v0_1 v0_2
theorem s_path_right_0   (m : Nat)    : H_path_right_0 AT m  p_path_right_0 := by
  intro v0_0 v0_1 v0_2 out hp stk 
  exact o_path_right_0 LW rfl rfl he_E_api_Step hz_E_api_Step he_E_api_Value hz_E_api_Value he_E_api_Pair hz_E_api_Pair he_E_int hz_E_int p_text_Right s_text_Right stk m v0_0 v0_1 v0_2 hp
noncomputable def p_path_right : S_api_Step → Option (Bool) := fun ⟨v0_0, v0_1, v0_2⟩ => p_path_right_0  v0_0 v0_1 v0_2
theorem s_path_right : (C_path_right PC FC p_path_right) := by
  intro _ _ _ _ hp stk    
  exact pf_of (T := table) (G := glob) (f := 52) rfl rfl (s_path_right_0   (topN stk + 1)    hp stk )
noncomputable def p_path_Right_1_0  (v0_0 : Str) (v0_1 : Int) (v0_2 : Bool) : Option (Bool) := b_path_Right_1_0 Prims.real p_path_right  v0_0 v0_1 v0_2
theorem s_path_Right_1_0   (m : Nat)    : H_path_Right_1_0 AT m  p_path_Right_1_0 := by
  intro v0_0 v0_1 v0_2 out hp stk 
  exact o_path_Right_1_0 LW rfl rfl he_E_api_Step hz_E_api_Step he_E_api_Value hz_E_api_Value he_E_api_Pair hz_E_api_Pair he_E_int hz_E_int p_path_right s_path_right stk m v0_0 v0_1 v0_2 hp
noncomputable def p_path_Right_1 : S_api_Step → Option (Bool) := fun ⟨v0_0, v0_1, v0_2⟩ => p_path_Right_1_0  v0_0 v0_1 v0_2
theorem s_path_Right_1 : (C_path_Right_1 PC FC p_path_Right_1) := by
  intro _ _ _ _ hp stk    
  exact pf_of (T := table) (G := glob) (f := 51) rfl rfl (s_path_Right_1_0   (topN stk + 1)    hp stk )
noncomputable def p_slices_IndexFunc__api_Step_api_Step__0_1  (v0 : Ls2) (v7 v8 : Int) : Option (Int) := Prims.real.loop (fun (s : Ls2 × Int × Int) => match s with | (v0, v7, v8) => b_slices_IndexFunc__api_Step_api_Step__0_1 Prims.real p_path_Right_1  v0 v7 v8) (v0, v7, v8)
theorem u_slices_IndexFunc__api_Step_api_Step__0_1  (v0 : Ls2) (v7 v8 : Int) : p_slices_IndexFunc__api_Step_api_Step__0_1  v0 v7 v8 = match b_slices_IndexFunc__api_Step_api_Step__0_1 Prims.real p_path_Right_1  v0 v7 v8 with
    | some (.inl (v0', v7', v8')) => p_slices_IndexFunc__api_Step_api_Step__0_1  v0' v7' v8'
    | some (.inr r) => some r
    | none => none := by
  show Pr.loop _ _ = _
  rw [Pr.loop_eq]
  try dsimp only
  generalize b_slices_IndexFunc__api_Step_api_Step__0_1 Prims.real p_path_Right_1  v0 v7 v8 = y
  cases y with
  | none => rfl
  | some y => cases y <;> rfl
theorem s_slices_IndexFunc__api_Step_api_Step__0_1   (m : Nat)    : H_slices_IndexFunc__api_Step_api_Step__0_1 AT @XM E_api_Step m  p_slices_IndexFunc__api_Step_api_Step__0_1 := by
  intro v0 v7 v8 out hp stk 
  refine LW.ind _ (fun (s : Ls2 × Int × Int) o => match s with | (v0, v7, v8) => ∀ (stk : Stk), (A_slices_IndexFunc__api_Step_api_Step__0_1 AT @XM E_api_Step m  v0 v7 v8 stk) = (O_slices_IndexFunc__api_Step_api_Step__0  m  stk) o) (fun s r e => ?_) (fun s t r e ih => ?_) (v0, v7, v8) out hp stk 
  · obtain ⟨v0, v7, v8⟩ := s
    intro stk 
    exact o_slices_IndexFunc__api_Step_api_Step__0_1 LW rfl rfl he_E_api_Step hz_E_api_Step he_E_api_Value hz_E_api_Value he_E_api_Pair hz_E_api_Pair he_E_int hz_E_int p_path_Right_1 s_path_Right_1 stk m v0 v7 v8 e
  · obtain ⟨v0, v7, v8⟩ := s; obtain ⟨v0', v7', v8'⟩ := t
    intro stk 
    exact (o_slices_IndexFunc__api_Step_api_Step__0_1 LW rfl rfl he_E_api_Step hz_E_api_Step he_E_api_Value hz_E_api_Value he_E_api_Pair hz_E_api_Pair he_E_int hz_E_int p_path_Right_1 s_path_Right_1 stk m v0 v7 v8 e).trans (ih stk )
noncomputable def p_slices_IndexFunc__api_Step_api_Step__0_0  (v0 : Ls2) : Option (Int) := b_slices_IndexFunc__api_Step_api_Step__0_0 Prims.real p_path_Right_1 p_slices_IndexFunc__api_Step_api_Step__0_1 v0
theorem s_slices_IndexFunc__api_Step_api_Step__0_0   (m : Nat)    : H_slices_IndexFunc__api_Step_api_Step__0_0 AT @XM E_api_Step m  p_slices_IndexFunc__api_Step_api_Step__0_0 := by
  intro v0 out hp stk 
  exact o_slices_IndexFunc__api_Step_api_Step__0_0 LW rfl rfl he_E_api_Step hz_E_api_Step he_E_api_Value hz_E_api_Value he_E_api_Pair hz_E_api_Pair he_E_int hz_E_int p_path_Right_1 s_path_Right_1 stk m p_slices_IndexFunc__api_Step_api_Step__0_1 v0 (s_slices_IndexFunc__api_Step_api_Step__0_1 m ) hp
noncomputable def p_slices_IndexFunc__api_Step_api_Step__0 : Ls2 → Option (Int) := fun v0 => p_slices_IndexFunc__api_Step_api_Step__0_0  v0
theorem s_slices_IndexFunc__api_Step_api_Step__0 : (C_slices_IndexFunc__api_Step_api_Step__0 PC FC @XM E_api_Step p_slices_IndexFunc__api_Step_api_Step__0) := by
  intro _ _ hp stk    
  exact pf_of (T := table) (G := glob) (f := 92) rfl rfl (s_slices_IndexFunc__api_Step_api_Step__0_0   (topN stk + 1)    hp stk )
noncomputable def p_slices_ContainsFunc__api_Step_api_Step__0_0  (v0 : Ls2) : Option (Bool) := b_slices_ContainsFunc__api_Step_api_Step__0_0 Prims.real p_slices_IndexFunc__api_Step_api_Step__0  v0
theorem s_slices_ContainsFunc__api_Step_api_Step__0_0   (m : Nat)    : H_slices_ContainsFunc__api_Step_api_Step__0_0 AT @XM E_api_Step m  p_slices_ContainsFunc__api_Step_api_Step__0_0 := by
  intro v0 out hp stk 
  exact o_slices_ContainsFunc__api_Step_api_Step__0_0 LW rfl rfl he_E_api_Step hz_E_api_Step he_E_api_Value hz_E_api_Value he_E_api_Pair hz_E_api_Pair he_E_int hz_E_int p_slices_IndexFunc__api_Step_api_Step__0 s_slices_IndexFunc__api_Step_api_Step__0 stk m v0 hp
noncomputable def p_slices_ContainsFunc__api_Step_api_Step__0 : Ls2 → Option (Bool) := fun v0 => p_slices_ContainsFunc__api_Step_api_Step__0_0  v0
theorem s_slices_ContainsFunc__api_Step_api_Step__0 : (C_slices_ContainsFunc__api_Step_api_Step__0 PC FC @XM E_api_Step p_slices_ContainsFunc__api_Step_api_Step__0) := by
  intro _ _ hp stk    
  exact pf_of (T := table) (G := glob) (f := 50) rfl rfl (s_slices_ContainsFunc__api_Step_api_Step__0_0   (topN stk + 1)    hp stk )
noncomputable def p_path_Right_0  (v0 : Ls2) : Option (Bool) := b_path_Right_0 Prims.real p_slices_ContainsFunc__api_Step_api_Step__0  v0
theorem s_path_Right_0   (m : Nat)    : H_path_Right_0 AT @XM E_api_Step m  p_path_Right_0 := by
  intro v0 out hp stk 
  exact o_path_Right_0 LW rfl rfl he_E_api_Step hz_E_api_Step he_E_api_Value hz_E_api_Value he_E_api_Pair hz_E_api_Pair he_E_int hz_E_int p_slices_ContainsFunc__api_Step_api_Step__0 s_slices_ContainsFunc__api_Step_api_Step__0 stk m v0 hp
noncomputable def p_path_Right : Ls2 → Option (Bool) := fun v0 => p_path_Right_0  v0
theorem s_path_Right : (C_path_Right PC FC @XM E_api_Step p_path_Right) := by
  intro _ _ hp stk    
  exact pf_of (T := table) (G := glob) (f := 19) rfl rfl (s_path_Right_0   (topN stk + 1)    hp stk )
noncomputable def p_path_Value_4  (v12 : Ls2) (v13 v14 o2_0 o2_1 : Int) (o2_2 : Str) (o2_3 : Ls0) (o2_4 : Ls1) (o4_0 o4_1 : Int) (o4_2 : Str) (o4_3_g : Nat) (o4_3 : Ls0) (o4_4 : Ls1) : Option ((Ls2 × Int × Int × Int × Int × Str × Ls0 × Ls1 × Int × Int × Str × Nat × Ls0 × Ls1) ⊕ (S_api_Value × Int)) := b_path_Value_4 Prims.real p_path_Right  v12 v13 v14 o2_0 o2_1 o2_2 o2_3 o2_4 o4_0 o4_1 o4_2 o4_3_g o4_3 o4_4
theorem s_path_Value_4   (m : Nat)    : H_path_Value_4 AT @XM List.length E_api_Step E_api_Value E_api_Pair m  p_path_Value_4 := by
  intro v12 v13 v14 o2_0 o2_1 o2_2 o2_3 o2_4 o4_0 o4_1 o4_2 o4_3_g o4_3 o4_4 out hp stk 
  exact o_path_Value_4 LW rfl rfl he_E_api_Step hz_E_api_Step he_E_api_Value hz_E_api_Value he_E_api_Pair hz_E_api_Pair he_E_int hz_E_int p_path_Right s_path_Right stk m v12 v13 v14 o2_0 o2_1 o2_2 o2_3 o2_4 o4_0 o4_1 o4_2 o4_3_g o4_3 o4_4 hp
noncomputable def p_path_Value_2  (v12 : Ls2) (v13 v14 o2_0 o2_1 : Int) (o2_2 : Str) (o2_3 : Ls0) (o2_4 : Ls1) (o4_0 o4_1 : Int) (o4_2 : Str) (o4_3_g : Nat) (o4_3 : Ls0) (o4_4 : Ls1) : Option (S_api_Value × Int) := Prims.real.loop (fun (s : Ls2 × Int × Int × Int × Int × Str × Ls0 × Ls1 × Int × Int × Str × Nat × Ls0 × Ls1) => match s with | (v12, v13, v14, o2_0, o2_1, o2_2, o2_3, o2_4, o4_0, o4_1, o4_2, o4_3_g, o4_3, o4_4) => b_path_Value_2 Prims.real p_path_Right p_path_Value_4 v12 v13 v14 o2_0 o2_1 o2_2 o2_3 o2_4 o4_0 o4_1 o4_2 o4_3_g o4_3 o4_4) (v12, v13, v14, o2_0, o2_1, o2_2, o2_3, o2_4, o4_0, o4_1, o4_2, o4_3_g, o4_3, o4_4)
theorem u_path_Value_2  (v12 : Ls2) (v13 v14 o2_0 o2_1 : Int) (o2_2 : Str) (o2_3 : Ls0) (o2_4 : Ls1) (o4_0 o4_1 : Int) (o4_2 : Str) (o4_3_g : Nat) (o4_3 : Ls0) (o4_4 : Ls1) : p_path_Value_2  v12 v13 v14 o2_0 o2_1 o2_2 o2_3 o2_4 o4_0 o4_1 o4_2 o4_3_g o4_3 o4_4 = match b_path_Value_2 Prims.real p_path_Right p_path_Value_4 v12 v13 v14 o2_0 o2_1 o2_2 o2_3 o2_4 o4_0 o4_1 o4_2 o4_3_g o4_3 o4_4 with
    | some (.inl (v12', v13', v14', o2_0', o2_1', o2_2', o2_3', o2_4', o4_0', o4_1', o4_2', o4_3_g', o4_3', o4_4')) => p_path_Value_2  v12' v13' v14' o2_0' o2_1' o2_2' o2_3' o2_4' o4_0' o4_1' o4_2' o4_3_g' o4_3' o4_4'
    | some (.inr r) => some r
    | none => none := by
  show Pr.loop _ _ = _
  rw [Pr.loop_eq]
  try dsimp only
  generalize b_path_Value_2 Prims.real p_path_Right p_path_Value_4 v12 v13 v14 o2_0 o2_1 o2_2 o2_3 o2_4 o4_0 o4_1 o4_2 o4_3_g o4_3 o4_4 = y
  cases y with
  | none => rfl
  | some y => cases y <;> rfl
theorem s_path_Value_2   (m : Nat)    : H_path_Value_2 AT @XM List.length E_api_Step E_api_Value E_api_Pair m  p_path_Value_2 := by
  intro v12 v13 v14 o2_0 o2_1 o2_2 o2_3 o2_4 o4_0 o4_1 o4_2 o4_3_g o4_3 o4_4 out hp stk 
  refine LW.ind _ (fun (s : Ls2 × Int × Int × Int × Int × Str × Ls0 × Ls1 × Int × Int × Str × Nat × Ls0 × Ls1) o => match s with | (v12, v13, v14, o2_0, o2_1, o2_2, o2_3, o2_4, o4_0, o4_1, o4_2, o4_3_g, o4_3, o4_4) => ∀ (stk : Stk), (A_path_Value_2 AT @XM List.length E_api_Step E_api_Value E_api_Pair m  v12 v13 v14 o2_0 o2_1 o2_2 o2_3 o2_4 o4_0 o4_1 o4_2 o4_3_g o4_3 o4_4 stk) = (O_path_Value @XM E_api_Value E_api_Pair m  stk) o) (fun s r e => ?_) (fun s t r e ih => ?_) (v12, v13, v14, o2_0, o2_1, o2_2, o2_3, o2_4, o4_0, o4_1, o4_2, o4_3_g, o4_3, o4_4) out hp stk 
  · obtain ⟨v12, v13, v14, o2_0, o2_1, o2_2, o2_3, o2_4, o4_0, o4_1, o4_2, o4_3_g, o4_3, o4_4⟩ := s
    intro stk 
    exact o_path_Value_2 LW rfl rfl he_E_api_Step hz_E_api_Step he_E_api_Value hz_E_api_Value he_E_api_Pair hz_E_api_Pair he_E_int hz_E_int p_path_Right s_path_Right stk m p_path_Value_4 v12 v13 v14 o2_0 o2_1 o2_2 o2_3 o2_4 o4_0 o4_1 o4_2 o4_3_g o4_3 o4_4 (s_path_Value_4 m ) e
  · obtain ⟨v12, v13, v14, o2_0, o2_1, o2_2, o2_3, o2_4, o4_0, o4_1, o4_2, o4_3_g, o4_3, o4_4⟩ := s; obtain ⟨v12', v13', v14', o2_0', o2_1', o2_2', o2_3', o2_4', o4_0', o4_1', o4_2', o4_3_g', o4_3', o4_4'⟩ := t
    intro stk 
    exact (o_path_Value_2 LW rfl rfl he_E_api_Step hz_E_api_Step he_E_api_Value hz_E_api_Value he_E_api_Pair hz_E_api_Pair he_E_int hz_E_int p_path_Right s_path_Right stk m p_path_Value_4 v12 v13 v14 o2_0 o2_1 o2_2 o2_3 o2_4 o4_0 o4_1 o4_2 o4_3_g o4_3 o4_4 (s_path_Value_4 m ) e).trans (ih stk )
noncomputable def p_path_Value_0  (v0 : Ls2) : Option (S_api_Value × Int) := b_path_Value_0 Prims.real p_path_Right p_path_Value_2 v0
theorem s_path_Value_0   (m : Nat)    : H_path_Value_0 AT @XM E_api_Step E_api_Value E_api_Pair m  p_path_Value_0 := by
  intro v0 out hp stk 
  exact o_path_Value_0 LW rfl rfl he_E_api_Step hz_E_api_Step he_E_api_Value hz_E_api_Value he_E_api_Pair hz_E_api_Pair he_E_int hz_E_int p_path_Right s_path_Right stk m p_path_Value_2 v0 (s_path_Value_2 m ) hp
noncomputable def p_path_Value : Ls2 → Option (S_api_Value × Int) := fun v0 => p_path_Value_0  v0
theorem s_path_Value : (C_path_Value PC FC @XM E_api_Step E_api_Value E_api_Pair p_path_Value) := by
  intro _ _ _ _ _ _ _ hp stk    
  exact pf_of (T := table) (G := glob) (f := 18) rfl rfl (s_path_Value_0   (topN stk + 1)    hp stk )
noncomputable def p_cascadelaw06_awake_0   : Option (Bool) := b_cascadelaw06_awake_0 Prims.real p_path_Place p_path_Value  
theorem s_cascadelaw06_awake_0   (m : Nat)    : H_cascadelaw06_awake_0 AT m  p_cascadelaw06_awake_0 := by
  intro  out hp stk 
  exact o_cascadelaw06_awake_0 LW rfl rfl he_E_api_Step hz_E_api_Step he_E_api_Value hz_E_api_Value he_E_api_Pair hz_E_api_Pair he_E_int hz_E_int p_path_Place p_path_Value s_path_Place s_path_Value stk m hp
noncomputable def p_cascadelaw06_awake : Option (Bool) := p_cascadelaw06_awake_0 
theorem s_cascadelaw06_awake : (C_cascadelaw06_awake PC FC p_cascadelaw06_awake) := by
  intro _ hp stk    
  exact pf_of (T := table) (G := glob) (f := 15) rfl rfl (s_cascadelaw06_awake_0   (topN stk + 1)    hp stk )
noncomputable def p_cascaderef03_few_10 (c_cascaderef03_few : S_api_Value → Int → Option (Int)) (v1 : Int) : Option (Int) := b_cascaderef03_few_10 Prims.real c_cascaderef03_few  v1
theorem s_cascaderef03_few_10 (c_cascaderef03_few : S_api_Value → Int → Option (Int)) (h_cascaderef03_few : (C_cascaderef03_few PC FC @XM E_api_Value E_api_Pair c_cascaderef03_few)) (m : Nat)    : H_cascaderef03_few_10 AT m  (p_cascaderef03_few_10 c_cascaderef03_few) := by
  intro v1 out hp stk 
  exact o_cascaderef03_few_10 LW rfl rfl he_E_api_Step hz_E_api_Step he_E_api_Value hz_E_api_Value he_E_api_Pair hz_E_api_Pair he_E_int hz_E_int c_cascaderef03_few h_cascaderef03_few stk m v1 hp
noncomputable def p_cascaderef03_few_6 (c_cascaderef03_few : S_api_Value → Int → Option (Int)) (v1 v2_0 v2_1 : Int) (v2_2 : Str) (v2_3 : Ls0) (v2_4 : Ls1) (v6 : Int) : Option (Int) := Prims.real.loop (fun (s : Int × Int × Int × Str × Ls0 × Ls1 × Int) => match s with | (v1, v2_0, v2_1, v2_2, v2_3, v2_4, v6) => b_cascaderef03_few_6 Prims.real c_cascaderef03_few (p_cascaderef03_few_10 c_cascaderef03_few) v1 v2_0 v2_1 v2_2 v2_3 v2_4 v6) (v1, v2_0, v2_1, v2_2, v2_3, v2_4, v6)
theorem u_cascaderef03_few_6 (c_cascaderef03_few : S_api_Value → Int → Option (Int)) (v1 v2_0 v2_1 : Int) (v2_2 : Str) (v2_3 : Ls0) (v2_4 : Ls1) (v6 : Int) : p_cascaderef03_few_6 c_cascaderef03_few v1 v2_0 v2_1 v2_2 v2_3 v2_4 v6 = match b_cascaderef03_few_6 Prims.real c_cascaderef03_few (p_cascaderef03_few_10 c_cascaderef03_few) v1 v2_0 v2_1 v2_2 v2_3 v2_4 v6 with
    | some (.inl (v1', v2_0', v2_1', v2_2', v2_3', v2_4', v6')) => p_cascaderef03_few_6 c_cascaderef03_few v1' v2_0' v2_1' v2_2' v2_3' v2_4' v6'
    | some (.inr r) => some r
    | none => none := by
  show Pr.loop _ _ = _
  rw [Pr.loop_eq]
  try dsimp only
  generalize b_cascaderef03_few_6 Prims.real c_cascaderef03_few (p_cascaderef03_few_10 c_cascaderef03_few) v1 v2_0 v2_1 v2_2 v2_3 v2_4 v6 = y
  cases y with
  | none => rfl
  | some y => cases y <;> rfl
theorem s_cascaderef03_few_6 (c_cascaderef03_few : S_api_Value → Int → Option (Int)) (h_cascaderef03_few : (C_cascaderef03_few PC FC @XM E_api_Value E_api_Pair c_cascaderef03_few)) (m : Nat)    : H_cascaderef03_few_6 AT @XM E_api_Value E_api_Pair m  (p_cascaderef03_few_6 c_cascaderef03_few) := by
  intro v1 v2_0 v2_1 v2_2 v2_3 v2_4 v6 out hp stk 
  refine LW.ind _ (fun (s : Int × Int × Int × Str × Ls0 × Ls1 × Int) o => match s with | (v1, v2_0, v2_1, v2_2, v2_3, v2_4, v6) => ∀ (stk : Stk), (A_cascaderef03_few_6 AT @XM E_api_Value E_api_Pair m  v1 v2_0 v2_1 v2_2 v2_3 v2_4 v6 stk) = (O_cascaderef03_few  m  stk) o) (fun s r e => ?_) (fun s t r e ih => ?_) (v1, v2_0, v2_1, v2_2, v2_3, v2_4, v6) out hp stk 
  · obtain ⟨v1, v2_0, v2_1, v2_2, v2_3, v2_4, v6⟩ := s
    intro stk 
    exact o_cascaderef03_few_6 LW rfl rfl he_E_api_Step hz_E_api_Step he_E_api_Value hz_E_api_Value he_E_api_Pair hz_E_api_Pair he_E_int hz_E_int c_cascaderef03_few h_cascaderef03_few stk m (p_cascaderef03_few_10 c_cascaderef03_few) v1 v2_0 v2_1 v2_2 v2_3 v2_4 v6 (s_cascaderef03_few_10 c_cascaderef03_few h_cascaderef03_few m ) e
  · obtain ⟨v1, v2_0, v2_1, v2_2, v2_3, v2_4, v6⟩ := s; obtain ⟨v1', v2_0', v2_1', v2_2', v2_3', v2_4', v6'⟩ := t
    intro stk 
    exact (o_cascaderef03_few_6 LW rfl rfl he_E_api_Step hz_E_api_Step he_E_api_Value hz_E_api_Value he_E_api_Pair hz_E_api_Pair he_E_int hz_E_int c_cascaderef03_few h_cascaderef03_few stk m (p_cascaderef03_few_10 c_cascaderef03_few) v1 v2_0 v2_1 v2_2 v2_3 v2_4 v6 (s_cascaderef03_few_10 c_cascaderef03_few h_cascaderef03_few m ) e).trans (ih stk )
noncomputable def p_cascaderef03_few_5 (c_cascaderef03_few : S_api_Value → Int → Option (Int)) (v1 v2_0 v2_1 : Int) (v2_2 : Str) (v2_3 : Ls0) (v2_4 : Ls1) : Option (Int) := b_cascaderef03_few_5 Prims.real c_cascaderef03_few (p_cascaderef03_few_6 c_cascaderef03_few) v1 v2_0 v2_1 v2_2 v2_3 v2_4
theorem s_cascaderef03_few_5 (c_cascaderef03_few : S_api_Value → Int → Option (Int)) (h_cascaderef03_few : (C_cascaderef03_few PC FC @XM E_api_Value E_api_Pair c_cascaderef03_few)) (m : Nat)    : H_cascaderef03_few_5 AT @XM E_api_Value E_api_Pair m  (p_cascaderef03_few_5 c_cascaderef03_few) := by
  intro v1 v2_0 v2_1 v2_2 v2_3 v2_4 out hp stk 
  exact o_cascaderef03_few_5 LW rfl rfl he_E_api_Step hz_E_api_Step he_E_api_Value hz_E_api_Value he_E_api_Pair hz_E_api_Pair he_E_int hz_E_int c_cascaderef03_few h_cascaderef03_few stk m (p_cascaderef03_few_6 c_cascaderef03_few) v1 v2_0 v2_1 v2_2 v2_3 v2_4 (s_cascaderef03_few_6 c_cascaderef03_few h_cascaderef03_few m ) hp
noncomputable def p_cascaderef03_few_2 (c_cascaderef03_few : S_api_Value → Int → Option (Int)) (v1 v2_0 v2_1 : Int) (v2_2 : Str) (v2_3 : Ls0) (v2_4 : Ls1) (v5 : Int) : Option (Int) := Prims.real.loop (fun (s : Int × Int × Int × Str × Ls0 × Ls1 × Int) => match s with | (v1, v2_0, v2_1, v2_2, v2_3, v2_4, v5) => b_cascaderef03_few_2 Prims.real c_cascaderef03_few (p_cascaderef03_few_5 c_cascaderef03_few) v1 v2_0 v2_1 v2_2 v2_3 v2_4 v5) (v1, v2_0, v2_1, v2_2, v2_3, v2_4, v5)
theorem u_cascaderef03_few_2 (c_cascaderef03_few : S_api_Value → Int → Option (Int)) (v1 v2_0 v2_1 : Int) (v2_2 : Str) (v2_3 : Ls0) (v2_4 : Ls1) (v5 : Int) : p_cascaderef03_few_2 c_cascaderef03_few v1 v2_0 v2_1 v2_2 v2_3 v2_4 v5 = match b_cascaderef03_few_2 Prims.real c_cascaderef03_few (p_cascaderef03_few_5 c_cascaderef03_few) v1 v2_0 v2_1 v2_2 v2_3 v2_4 v5 with
    | some (.inl (v1', v2_0', v2_1', v2_2', v2_3', v2_4', v5')) => p_cascaderef03_few_2 c_cascaderef03_few v1' v2_0' v2_1' v2_2' v2_3' v2_4' v5'
    | some (.inr r) => some r
    | none => none := by
  show Pr.loop _ _ = _
  rw [Pr.loop_eq]
  try dsimp only
  generalize b_cascaderef03_few_2 Prims.real c_cascaderef03_few (p_cascaderef03_few_5 c_cascaderef03_few) v1 v2_0 v2_1 v2_2 v2_3 v2_4 v5 = y
  cases y with
  | none => rfl
  | some y => cases y <;> rfl
theorem s_cascaderef03_few_2 (c_cascaderef03_few : S_api_Value → Int → Option (Int)) (h_cascaderef03_few : (C_cascaderef03_few PC FC @XM E_api_Value E_api_Pair c_cascaderef03_few)) (m : Nat)    : H_cascaderef03_few_2 AT @XM E_api_Value E_api_Pair m  (p_cascaderef03_few_2 c_cascaderef03_few) := by
  intro v1 v2_0 v2_1 v2_2 v2_3 v2_4 v5 out hp stk 
  refine LW.ind _ (fun (s : Int × Int × Int × Str × Ls0 × Ls1 × Int) o => match s with | (v1, v2_0, v2_1, v2_2, v2_3, v2_4, v5) => ∀ (stk : Stk), (A_cascaderef03_few_2 AT @XM E_api_Value E_api_Pair m  v1 v2_0 v2_1 v2_2 v2_3 v2_4 v5 stk) = (O_cascaderef03_few  m  stk) o) (fun s r e => ?_) (fun s t r e ih => ?_) (v1, v2_0, v2_1, v2_2, v2_3, v2_4, v5) out hp stk 
  · obtain ⟨v1, v2_0, v2_1, v2_2, v2_3, v2_4, v5⟩ := s
    intro stk 
    exact o_cascaderef03_few_2 LW rfl rfl he_E_api_Step hz_E_api_Step he_E_api_Value hz_E_api_Value he_E_api_Pair hz_E_api_Pair he_E_int hz_E_int c_cascaderef03_few h_cascaderef03_few stk m (p_cascaderef03_few_5 c_cascaderef03_few) v1 v2_0 v2_1 v2_2 v2_3 v2_4 v5 (s_cascaderef03_few_5 c_cascaderef03_few h_cascaderef03_few m ) e
  · obtain ⟨v1, v2_0, v2_1, v2_2, v2_3, v2_4, v5⟩ := s; obtain ⟨v1', v2_0', v2_1', v2_2', v2_3', v2_4', v5'⟩ := t
    intro stk 
    exact (o_cascaderef03_few_2 LW rfl rfl he_E_api_Step hz_E_api_Step he_E_api_Value hz_E_api_Value he_E_api_Pair hz_E_api_Pair he_E_int hz_E_int c_cascaderef03_few h_cascaderef03_few stk m (p_cascaderef03_few_5 c_cascaderef03_few) v1 v2_0 v2_1 v2_2 v2_3 v2_4 v5 (s_cascaderef03_few_5 c_cascaderef03_few h_cascaderef03_few m ) e).trans (ih stk )
noncomputable def p_cascaderef03_few_0 (c_cascaderef03_few : S_api_Value → Int → Option (Int)) (v0_0 v0_1 : Int) (v0_2 : Str) (v0_3 : Ls0) (v0_4 : Ls1) (v1 : Int) : Option (Int) := b_cascaderef03_few_0 Prims.real c_cascaderef03_few (p_cascaderef03_few_2 c_cascaderef03_few) v0_0 v0_1 v0_2 v0_3 v0_4 v1
theorem s_cascaderef03_few_0 (c_cascaderef03_few : S_api_Value → Int → Option (Int)) (h_cascaderef03_few : (C_cascaderef03_few PC FC @XM E_api_Value E_api_Pair c_cascaderef03_few)) (m : Nat)    : H_cascaderef03_few_0 AT @XM E_api_Value E_api_Pair m  (p_cascaderef03_few_0 c_cascaderef03_few) := by
  intro v0_0 v0_1 v0_2 v0_3 v0_4 v1 out hp stk 
  exact o_cascaderef03_few_0 LW rfl rfl he_E_api_Step hz_E_api_Step he_E_api_Value hz_E_api_Value he_E_api_Pair hz_E_api_Pair he_E_int hz_E_int c_cascaderef03_few h_cascaderef03_few stk m (p_cascaderef03_few_2 c_cascaderef03_few) v0_0 v0_1 v0_2 v0_3 v0_4 v1 (s_cascaderef03_few_2 c_cascaderef03_few h_cascaderef03_few m ) hp
noncomputable def pk_cascaderef03_few : Nat → (S_api_Value → Int → Option (Int))
  | 0 => fun _ _ => none
  | k + 1 => fun ⟨v0_0, v0_1, v0_2, v0_3, v0_4⟩ v1 => p_cascaderef03_few_0 ((pk_cascaderef03_few k)) v0_0 v0_1 v0_2 v0_3 v0_4 v1
theorem sk_cascaderef03_few : ∀ k, ((C_cascaderef03_few PC FC @XM E_api_Value E_api_Pair ((pk_cascaderef03_few k)))) ∧ True
  | 0 => by
    refine ⟨?_, trivial⟩
    · intro _ _ _ _ _ _ _ hp; exact nomatch (show none = some _ from hp)
  | k + 1 => by
    obtain ⟨ih0, _⟩ := sk_cascaderef03_few k
    refine ⟨?_, trivial⟩
    · intro _ _ _ _ _ _ _ hp stk    
      exact pf_of (T := table) (G := glob) (f := 54) rfl rfl (s_cascaderef03_few_0 ((pk_cascaderef03_few k)) ih0 (topN stk + 1)    hp stk )
noncomputable def p_cascaderef03_few : S_api_Value → Int → Option (Int) := (pk_cascaderef03_few 1000000)
theorem s_cascaderef03_few : (C_cascaderef03_few PC FC @XM E_api_Value E_api_Pair p_cascaderef03_few) := (sk_cascaderef03_few 1000000).1
noncomputable def p_cascaderef03_Few_0  (v0_0 v0_1 : Int) (v0_2 : Str) (v0_3 : Ls0) (v0_4 : Ls1) (v1 : Int) : Option (Bool) := b_cascaderef03_Few_0 Prims.real p_cascaderef03_few  v0_0 v0_1 v0_2 v0_3 v0_4 v1
theorem s_cascaderef03_Few_0   (m : Nat)    : H_cascaderef03_Few_0 AT @XM E_api_Value E_api_Pair m  p_cascaderef03_Few_0 := by
  intro v0_0 v0_1 v0_2 v0_3 v0_4 v1 out hp stk 
  exact o_cascaderef03_Few_0 LW rfl rfl he_E_api_Step hz_E_api_Step he_E_api_Value hz_E_api_Value he_E_api_Pair hz_E_api_Pair he_E_int hz_E_int p_cascaderef03_few s_cascaderef03_few stk m v0_0 v0_1 v0_2 v0_3 v0_4 v1 hp
noncomputable def p_cascaderef03_Few : S_api_Value → Int → Option (Bool) := fun ⟨v0_0, v0_1, v0_2, v0_3, v0_4⟩ v1 => p_cascaderef03_Few_0  v0_0 v0_1 v0_2 v0_3 v0_4 v1
theorem s_cascaderef03_Few : (C_cascaderef03_Few PC FC @XM E_api_Value E_api_Pair p_cascaderef03_Few) := by
  intro _ _ _ _ _ _ _ hp stk    
  exact pf_of (T := table) (G := glob) (f := 25) rfl rfl (s_cascaderef03_Few_0   (topN stk + 1)    hp stk )
noncomputable def p_cascaderef06_Few_4  (v0 : Ls2) : Option (Bool) := b_cascaderef06_Few_4 Prims.real   v0
theorem s_cascaderef06_Few_4   (m : Nat)    : H_cascaderef06_Few_4 AT @XM E_api_Step m  p_cascaderef06_Few_4 := by
  intro v0 out hp stk 
  exact o_cascaderef06_Few_4 LW rfl rfl he_E_api_Step hz_E_api_Step he_E_api_Value hz_E_api_Value he_E_api_Pair hz_E_api_Pair he_E_int hz_E_int stk m v0 hp
noncomputable def p_cascaderef06_Few_1  (v0 : Ls2) (v3 : Int) : Option (Bool) := Prims.real.loop (fun (s : Ls2 × Int) => match s with | (v0, v3) => b_cascaderef06_Few_1 Prims.real  p_cascaderef06_Few_4 v0 v3) (v0, v3)
theorem u_cascaderef06_Few_1  (v0 : Ls2) (v3 : Int) : p_cascaderef06_Few_1  v0 v3 = match b_cascaderef06_Few_1 Prims.real  p_cascaderef06_Few_4 v0 v3 with
    | some (.inl (v0', v3')) => p_cascaderef06_Few_1  v0' v3'
    | some (.inr r) => some r
    | none => none := by
  show Pr.loop _ _ = _
  rw [Pr.loop_eq]
  try dsimp only
  generalize b_cascaderef06_Few_1 Prims.real  p_cascaderef06_Few_4 v0 v3 = y
  cases y with
  | none => rfl
  | some y => cases y <;> rfl
theorem s_cascaderef06_Few_1   (m : Nat)    : H_cascaderef06_Few_1 AT @XM E_api_Step m  p_cascaderef06_Few_1 := by
  intro v0 v3 out hp stk 
  refine LW.ind _ (fun (s : Ls2 × Int) o => match s with | (v0, v3) => ∀ (stk : Stk), (A_cascaderef06_Few_1 AT @XM E_api_Step m  v0 v3 stk) = (O_cascaderef06_Few  m  stk) o) (fun s r e => ?_) (fun s t r e ih => ?_) (v0, v3) out hp stk 
  · obtain ⟨v0, v3⟩ := s
    intro stk 
    exact o_cascaderef06_Few_1 LW rfl rfl he_E_api_Step hz_E_api_Step he_E_api_Value hz_E_api_Value he_E_api_Pair hz_E_api_Pair he_E_int hz_E_int stk m p_cascaderef06_Few_4 v0 v3 (s_cascaderef06_Few_4 m ) e
  · obtain ⟨v0, v3⟩ := s; obtain ⟨v0', v3'⟩ := t
    intro stk 
    exact (o_cascaderef06_Few_1 LW rfl rfl he_E_api_Step hz_E_api_Step he_E_api_Value hz_E_api_Value he_E_api_Pair hz_E_api_Pair he_E_int hz_E_int stk m p_cascaderef06_Few_4 v0 v3 (s_cascaderef06_Few_4 m ) e).trans (ih stk )
noncomputable def p_cascaderef06_Few_0  (v0 : Ls2) : Option (Bool) := b_cascaderef06_Few_0 Prims.real  p_cascaderef06_Few_1 v0
theorem s_cascaderef06_Few_0   (m : Nat)    : H_cascaderef06_Few_0 AT @XM E_api_Step m  p_cascaderef06_Few_0 := by
  intro v0 out hp stk 
  exact o_cascaderef06_Few_0 LW rfl rfl he_E_api_Step hz_E_api_Step he_E_api_Value hz_E_api_Value he_E_api_Pair hz_E_api_Pair he_E_int hz_E_int stk m p_cascaderef06_Few_1 v0 (s_cascaderef06_Few_1 m ) hp
noncomputable def p_cascaderef06_Few : Ls2 → Option (Bool) := fun v0 => p_cascaderef06_Few_0  v0
theorem s_cascaderef06_Few : (C_cascaderef06_Few PC FC @XM E_api_Step p_cascaderef06_Few) := by
  intro _ _ hp stk    
  exact pf_of (T := table) (G := glob) (f := 16) rfl rfl (s_cascaderef06_Few_0   (topN stk + 1)    hp stk )
noncomputable def p_tree_unused_0  (v0_0 v0_1 : Int) (v0_2 : Str) (v0_3 : Ls0) (v0_4 : Ls1) : Option (Bool) := b_tree_unused_0 Prims.real   v0_0 v0_1 v0_2 v0_3 v0_4
theorem s_tree_unused_0   (m : Nat)    : H_tree_unused_0 AT @XM E_api_Value E_api_Pair m  p_tree_unused_0 := by
  intro v0_0 v0_1 v0_2 v0_3 v0_4 out hp stk 
  exact o_tree_unused_0 LW rfl rfl he_E_api_Step hz_E_api_Step he_E_api_Value hz_E_api_Value he_E_api_Pair hz_E_api_Pair he_E_int hz_E_int stk m v0_0 v0_1 v0_2 v0_3 v0_4 hp
noncomputable def p_tree_unused : S_api_Value → Option (Bool) := fun ⟨v0_0, v0_1, v0_2, v0_3, v0_4⟩ => p_tree_unused_0  v0_0 v0_1 v0_2 v0_3 v0_4
theorem s_tree_unused : (C_tree_unused PC FC @XM E_api_Value E_api_Pair p_tree_unused) := by
  intro _ _ _ _ _ _ hp stk    
  exact pf_of (T := table) (G := glob) (f := 95) rfl rfl (s_tree_unused_0   (topN stk + 1)    hp stk )
noncomputable def p_tree_keys_3  (v7 : Ls1) (v8 v9 : Int) (o6_c : Nat) (o6 : (List (Str × Nat × Int))) : Option ((Ls1 × Int × Int × Nat × (List (Str × Nat × Int))) ⊕ (Bool)) := b_tree_keys_3 Prims.real p_text_Right  v7 v8 v9 o6_c o6
theorem s_tree_keys_3   (m : Nat)    : H_tree_keys_3 AT @XM (fun {_} e l => mapE e l) E_api_Pair E_int m  p_tree_keys_3 := by
  intro v7 v8 v9 o6_c o6 out hp stk 
  exact o_tree_keys_3 LW rfl rfl he_E_api_Step hz_E_api_Step he_E_api_Value hz_E_api_Value he_E_api_Pair hz_E_api_Pair he_E_int hz_E_int p_text_Right s_text_Right stk m v7 v8 v9 o6_c o6 hp
noncomputable def p_tree_keys_1  (v7 : Ls1) (v8 v9 : Int) (o6_c : Nat) (o6 : (List (Str × Nat × Int))) : Option (Bool) := Prims.real.loop (fun (s : Ls1 × Int × Int × Nat × (List (Str × Nat × Int))) => match s with | (v7, v8, v9, o6_c, o6) => b_tree_keys_1 Prims.real p_text_Right p_tree_keys_3 v7 v8 v9 o6_c o6) (v7, v8, v9, o6_c, o6)
theorem u_tree_keys_1  (v7 : Ls1) (v8 v9 : Int) (o6_c : Nat) (o6 : (List (Str × Nat × Int))) : p_tree_keys_1  v7 v8 v9 o6_c o6 = match b_tree_keys_1 Prims.real p_text_Right p_tree_keys_3 v7 v8 v9 o6_c o6 with
    | some (.inl (v7', v8', v9', o6_c', o6')) => p_tree_keys_1  v7' v8' v9' o6_c' o6'
    | some (.inr r) => some r
    | none => none := by
  show Pr.loop _ _ = _
  rw [Pr.loop_eq]
  try dsimp only
  generalize b_tree_keys_1 Prims.real p_text_Right p_tree_keys_3 v7 v8 v9 o6_c o6 = y
  cases y with
  | none => rfl
  | some y => cases y <;> rfl
theorem s_tree_keys_1   (m : Nat)    : H_tree_keys_1 AT @XM (fun {_} e l => mapE e l) E_api_Pair E_int m  p_tree_keys_1 := by
  intro v7 v8 v9 o6_c o6 out hp stk 
  refine LW.ind _ (fun (s : Ls1 × Int × Int × Nat × (List (Str × Nat × Int))) o => match s with | (v7, v8, v9, o6_c, o6) => ∀ (stk : Stk), (A_tree_keys_1 AT @XM (fun {_} e l => mapE e l) E_api_Pair E_int m  v7 v8 v9 o6_c o6 stk) = (O_tree_keys  m  stk) o) (fun s r e => ?_) (fun s t r e ih => ?_) (v7, v8, v9, o6_c, o6) out hp stk 
  · obtain ⟨v7, v8, v9, o6_c, o6⟩ := s
    intro stk 
    exact o_tree_keys_1 LW rfl rfl he_E_api_Step hz_E_api_Step he_E_api_Value hz_E_api_Value he_E_api_Pair hz_E_api_Pair he_E_int hz_E_int p_text_Right s_text_Right stk m p_tree_keys_3 v7 v8 v9 o6_c o6 (s_tree_keys_3 m ) e
  · obtain ⟨v7, v8, v9, o6_c, o6⟩ := s; obtain ⟨v7', v8', v9', o6_c', o6'⟩ := t
    intro stk 
    exact (o_tree_keys_1 LW rfl rfl he_E_api_Step hz_E_api_Step he_E_api_Value hz_E_api_Value he_E_api_Pair hz_E_api_Pair he_E_int hz_E_int p_text_Right s_text_Right stk m p_tree_keys_3 v7 v8 v9 o6_c o6 (s_tree_keys_3 m ) e).trans (ih stk )
noncomputable def p_tree_keys_0  (v0 : Ls1) : Option (Bool) := b_tree_keys_0 Prims.real p_text_Right p_tree_keys_1 v0
theorem s_tree_keys_0   (m : Nat)    : H_tree_keys_0 AT @XM E_api_Pair m  p_tree_keys_0 := by
  intro v0 out hp stk 
  exact o_tree_keys_0 LW rfl rfl he_E_api_Step hz_E_api_Step he_E_api_Value hz_E_api_Value he_E_api_Pair hz_E_api_Pair he_E_int hz_E_int p_text_Right s_text_Right stk m p_tree_keys_1 v0 (s_tree_keys_1 m ) hp
noncomputable def p_tree_keys : Ls1 → Option (Bool) := fun v0 => p_tree_keys_0  v0
theorem s_tree_keys : (C_tree_keys PC FC @XM E_api_Pair p_tree_keys) := by
  intro _ _ hp stk    
  exact pf_of (T := table) (G := glob) (f := 97) rfl rfl (s_tree_keys_0   (topN stk + 1)    hp stk )
noncomputable def p_tree_Right_1_1__0_0 (c_tree_Right_1__0 : S_api_Value → Int → Option (Bool)) (v0_0 v0_1 : Int) (v0_2 : Str) (v0_3 : Ls0) (v0_4 : Ls1) (v2_0 : Int) : Option (Bool) := b_tree_Right_1_1__0_0 Prims.real c_tree_Right_1__0  v0_0 v0_1 v0_2 v0_3 v0_4 v2_0
theorem s_tree_Right_1_1__0_0 (c_tree_Right_1__0 : S_api_Value → Int → Option (Bool)) (h_tree_Right_1__0 : (C_tree_Right_1__0 PC FC @XM E_api_Value E_api_Pair c_tree_Right_1__0)) (m : Nat) (n0 : Nat) (k0 : List Nat) (hl0 : n0 < m)  : H_tree_Right_1_1__0_0 AT @XM E_api_Value E_api_Pair m n0 k0 (p_tree_Right_1_1__0_0 c_tree_Right_1__0) := by
  intro v0_0 v0_1 v0_2 v0_3 v0_4 v2_0 out hp stk hg0
  exact o_tree_Right_1_1__0_0 LW rfl rfl he_E_api_Step hz_E_api_Step he_E_api_Value hz_E_api_Value he_E_api_Pair hz_E_api_Pair he_E_int hz_E_int c_tree_Right_1__0 h_tree_Right_1__0 stk m n0 k0 hl0 v0_0 v0_1 v0_2 v0_3 v0_4 v2_0 hg0 hp
noncomputable def p_tree_Right_1__0_0 (c_slices_ContainsFunc__api_Value_api_Value__0 : Ls0 → Int → Option (Bool)) (c_slices_ContainsFunc__api_Pair_api_Pair__0 : Ls1 → Int → Option (Bool)) (v0_0 v0_1 : Int) (v0_2 : Str) (v0_3 : Ls0) (v0_4 : Ls1) (v1 : Int) : Option (Bool) := b_tree_Right_1__0_0 Prims.real p_tree_unused p_text_Right c_slices_ContainsFunc__api_Value_api_Value__0 p_tree_keys c_slices_ContainsFunc__api_Pair_api_Pair__0  v0_0 v0_1 v0_2 v0_3 v0_4 v1
theorem s_tree_Right_1__0_0 (c_slices_ContainsFunc__api_Value_api_Value__0 : Ls0 → Int → Option (Bool)) (c_slices_ContainsFunc__api_Pair_api_Pair__0 : Ls1 → Int → Option (Bool)) (h_slices_ContainsFunc__api_Value_api_Value__0 : (C_slices_ContainsFunc__api_Value_api_Value__0 PC FC @XM E_api_Value c_slices_ContainsFunc__api_Value_api_Value__0)) (h_slices_ContainsFunc__api_Pair_api_Pair__0 : (C_slices_ContainsFunc__api_Pair_api_Pair__0 PC FC @XM E_api_Pair c_slices_ContainsFunc__api_Pair_api_Pair__0)) (m : Nat) (n0 : Nat) (k0 : List Nat) (hl0 : n0 < m)  : H_tree_Right_1__0_0 AT @XM E_api_Value E_api_Pair m n0 k0 (p_tree_Right_1__0_0 c_slices_ContainsFunc__api_Value_api_Value__0 c_slices_ContainsFunc__api_Pair_api_Pair__0) := by
  intro v0_0 v0_1 v0_2 v0_3 v0_4 v1 out hp stk hg0
  exact o_tree_Right_1__0_0 LW rfl rfl he_E_api_Step hz_E_api_Step he_E_api_Value hz_E_api_Value he_E_api_Pair hz_E_api_Pair he_E_int hz_E_int p_tree_unused p_text_Right c_slices_ContainsFunc__api_Value_api_Value__0 p_tree_keys c_slices_ContainsFunc__api_Pair_api_Pair__0 s_tree_unused s_text_Right h_slices_ContainsFunc__api_Value_api_Value__0 s_tree_keys h_slices_ContainsFunc__api_Pair_api_Pair__0 stk m n0 k0 hl0 v0_0 v0_1 v0_2 v0_3 v0_4 v1 hg0 hp
noncomputable def p_slices_ContainsFunc__api_Value_api_Value__0_0 (c_slices_IndexFunc__api_Value_api_Value__0 : Ls0 → Int → Option (Int)) (v0 : Ls0) (v1_c1_0 : Int) : Option (Bool) := b_slices_ContainsFunc__api_Value_api_Value__0_0 Prims.real c_slices_IndexFunc__api_Value_api_Value__0  v0 v1_c1_0
theorem s_slices_ContainsFunc__api_Value_api_Value__0_0 (c_slices_IndexFunc__api_Value_api_Value__0 : Ls0 → Int → Option (Int)) (h_slices_IndexFunc__api_Value_api_Value__0 : (C_slices_IndexFunc__api_Value_api_Value__0 PC FC @XM E_api_Value c_slices_IndexFunc__api_Value_api_Value__0)) (m : Nat) (n0 : Nat) (k0 : List Nat) (hl0 : n0 < m)  : H_slices_ContainsFunc__api_Value_api_Value__0_0 AT @XM E_api_Value m n0 k0 (p_slices_ContainsFunc__api_Value_api_Value__0_0 c_slices_IndexFunc__api_Value_api_Value__0) := by
  intro v0 v1_c1_0 out hp stk hg0
  exact o_slices_ContainsFunc__api_Value_api_Value__0_0 LW rfl rfl he_E_api_Step hz_E_api_Step he_E_api_Value hz_E_api_Value he_E_api_Pair hz_E_api_Pair he_E_int hz_E_int c_slices_IndexFunc__api_Value_api_Value__0 h_slices_IndexFunc__api_Value_api_Value__0 stk m n0 k0 hl0 v0 v1_c1_0 hg0 hp
noncomputable def p_slices_IndexFunc__api_Value_api_Value__0_1 (c_tree_Right_1_1__0 : S_api_Value → Int → Option (Bool)) (v0 : Ls0) (v1_c1_0 v7 v8 : Int) : Option (Int) := Prims.real.loop (fun (s : Ls0 × Int × Int × Int) => match s with | (v0, v1_c1_0, v7, v8) => b_slices_IndexFunc__api_Value_api_Value__0_1 Prims.real c_tree_Right_1_1__0  v0 v1_c1_0 v7 v8) (v0, v1_c1_0, v7, v8)
theorem u_slices_IndexFunc__api_Value_api_Value__0_1 (c_tree_Right_1_1__0 : S_api_Value → Int → Option (Bool)) (v0 : Ls0) (v1_c1_0 v7 v8 : Int) : p_slices_IndexFunc__api_Value_api_Value__0_1 c_tree_Right_1_1__0 v0 v1_c1_0 v7 v8 = match b_slices_IndexFunc__api_Value_api_Value__0_1 Prims.real c_tree_Right_1_1__0  v0 v1_c1_0 v7 v8 with
    | some (.inl (v0', v1_c1_0', v7', v8')) => p_slices_IndexFunc__api_Value_api_Value__0_1 c_tree_Right_1_1__0 v0' v1_c1_0' v7' v8'
    | some (.inr r) => some r
    | none => none := by
  show Pr.loop _ _ = _
  rw [Pr.loop_eq]
  try dsimp only
  generalize b_slices_IndexFunc__api_Value_api_Value__0_1 Prims.real c_tree_Right_1_1__0  v0 v1_c1_0 v7 v8 = y
  cases y with
  | none => rfl
  | some y => cases y <;> rfl
theorem s_slices_IndexFunc__api_Value_api_Value__0_1 (c_tree_Right_1_1__0 : S_api_Value → Int → Option (Bool)) (h_tree_Right_1_1__0 : (C_tree_Right_1_1__0 PC FC @XM E_api_Value E_api_Pair c_tree_Right_1_1__0)) (m : Nat) (n0 : Nat) (k0 : List Nat) (hl0 : n0 < m)  : H_slices_IndexFunc__api_Value_api_Value__0_1 AT @XM E_api_Value m n0 k0 (p_slices_IndexFunc__api_Value_api_Value__0_1 c_tree_Right_1_1__0) := by
  intro v0 v1_c1_0 v7 v8 out hp stk hg0
  refine LW.ind _ (fun (s : Ls0 × Int × Int × Int) o => match s with | (v0, v1_c1_0, v7, v8) => ∀ (stk : Stk), getO stk ⟨n0, k0⟩ = some (.cells [(.clos (.func F.tree_Right_1) [] [(.ref ⟨n0, k0⟩ 0)])]) → (A_slices_IndexFunc__api_Value_api_Value__0_1 AT @XM E_api_Value m n0 k0 v0 v1_c1_0 v7 v8 stk) = (O_slices_IndexFunc__api_Value_api_Value__0  m n0 k0 stk) o) (fun s r e => ?_) (fun s t r e ih => ?_) (v0, v1_c1_0, v7, v8) out hp stk hg0
  · obtain ⟨v0, v1_c1_0, v7, v8⟩ := s
    intro stk hg0
    exact o_slices_IndexFunc__api_Value_api_Value__0_1 LW rfl rfl he_E_api_Step hz_E_api_Step he_E_api_Value hz_E_api_Value he_E_api_Pair hz_E_api_Pair he_E_int hz_E_int c_tree_Right_1_1__0 h_tree_Right_1_1__0 stk m n0 k0 hl0 v0 v1_c1_0 v7 v8 hg0 e
  · obtain ⟨v0, v1_c1_0, v7, v8⟩ := s; obtain ⟨v0', v1_c1_0', v7', v8'⟩ := t
    intro stk hg0
    exact (o_slices_IndexFunc__api_Value_api_Value__0_1 LW rfl rfl he_E_api_Step hz_E_api_Step he_E_api_Value hz_E_api_Value he_E_api_Pair hz_E_api_Pair he_E_int hz_E_int c_tree_Right_1_1__0 h_tree_Right_1_1__0 stk m n0 k0 hl0 v0 v1_c1_0 v7 v8 hg0 e).trans (ih stk (hg0))
noncomputable def p_slices_IndexFunc__api_Value_api_Value__0_0 (c_tree_Right_1_1__0 : S_api_Value → Int → Option (Bool)) (v0 : Ls0) (v1_c1_0 : Int) : Option (Int) := b_slices_IndexFunc__api_Value_api_Value__0_0 Prims.real c_tree_Right_1_1__0 (p_slices_IndexFunc__api_Value_api_Value__0_1 c_tree_Right_1_1__0) v0 v1_c1_0
theorem s_slices_IndexFunc__api_Value_api_Value__0_0 (c_tree_Right_1_1__0 : S_api_Value → Int → Option (Bool)) (h_tree_Right_1_1__0 : (C_tree_Right_1_1__0 PC FC @XM E_api_Value E_api_Pair c_tree_Right_1_1__0)) (m : Nat) (n0 : Nat) (k0 : List Nat) (hl0 : n0 < m)  : H_slices_IndexFunc__api_Value_api_Value__0_0 AT @XM E_api_Value m n0 k0 (p_slices_IndexFunc__api_Value_api_Value__0_0 c_tree_Right_1_1__0) := by
  intro v0 v1_c1_0 out hp stk hg0
  exact o_slices_IndexFunc__api_Value_api_Value__0_0 LW rfl rfl he_E_api_Step hz_E_api_Step he_E_api_Value hz_E_api_Value he_E_api_Pair hz_E_api_Pair he_E_int hz_E_int c_tree_Right_1_1__0 h_tree_Right_1_1__0 stk m n0 k0 hl0 (p_slices_IndexFunc__api_Value_api_Value__0_1 c_tree_Right_1_1__0) v0 v1_c1_0 hg0 (s_slices_IndexFunc__api_Value_api_Value__0_1 c_tree_Right_1_1__0 h_tree_Right_1_1__0 m n0 k0 hl0 ) hp
noncomputable def p_slices_ContainsFunc__api_Pair_api_Pair__0_0 (c_slices_IndexFunc__api_Pair_api_Pair__0 : Ls1 → Int → Option (Int)) (v0 : Ls1) (v1_c1_0 : Int) : Option (Bool) := b_slices_ContainsFunc__api_Pair_api_Pair__0_0 Prims.real c_slices_IndexFunc__api_Pair_api_Pair__0  v0 v1_c1_0
theorem s_slices_ContainsFunc__api_Pair_api_Pair__0_0 (c_slices_IndexFunc__api_Pair_api_Pair__0 : Ls1 → Int → Option (Int)) (h_slices_IndexFunc__api_Pair_api_Pair__0 : (C_slices_IndexFunc__api_Pair_api_Pair__0 PC FC @XM E_api_Pair c_slices_IndexFunc__api_Pair_api_Pair__0)) (m : Nat) (n0 : Nat) (k0 : List Nat) (hl0 : n0 < m)  : H_slices_ContainsFunc__api_Pair_api_Pair__0_0 AT @XM E_api_Pair m n0 k0 (p_slices_ContainsFunc__api_Pair_api_Pair__0_0 c_slices_IndexFunc__api_Pair_api_Pair__0) := by
  intro v0 v1_c1_0 out hp stk hg0
  exact o_slices_ContainsFunc__api_Pair_api_Pair__0_0 LW rfl rfl he_E_api_Step hz_E_api_Step he_E_api_Value hz_E_api_Value he_E_api_Pair hz_E_api_Pair he_E_int hz_E_int c_slices_IndexFunc__api_Pair_api_Pair__0 h_slices_IndexFunc__api_Pair_api_Pair__0 stk m n0 k0 hl0 v0 v1_c1_0 hg0 hp
noncomputable def p_slices_IndexFunc__api_Pair_api_Pair__0_1 (c_tree_Right_1_2__0 : S_api_Pair → Int → Option (Bool)) (v0 : Ls1) (v1_c1_0 v7 v8 : Int) : Option (Int) := Prims.real.loop (fun (s : Ls1 × Int × Int × Int) => match s with | (v0, v1_c1_0, v7, v8) => b_slices_IndexFunc__api_Pair_api_Pair__0_1 Prims.real c_tree_Right_1_2__0  v0 v1_c1_0 v7 v8) (v0, v1_c1_0, v7, v8)
theorem u_slices_IndexFunc__api_Pair_api_Pair__0_1 (c_tree_Right_1_2__0 : S_api_Pair → Int → Option (Bool)) (v0 : Ls1) (v1_c1_0 v7 v8 : Int) : p_slices_IndexFunc__api_Pair_api_Pair__0_1 c_tree_Right_1_2__0 v0 v1_c1_0 v7 v8 = match b_slices_IndexFunc__api_Pair_api_Pair__0_1 Prims.real c_tree_Right_1_2__0  v0 v1_c1_0 v7 v8 with
    | some (.inl (v0', v1_c1_0', v7', v8')) => p_slices_IndexFunc__api_Pair_api_Pair__0_1 c_tree_Right_1_2__0 v0' v1_c1_0' v7' v8'
    | some (.inr r) => some r
    | none => none := by
  show Pr.loop _ _ = _
  rw [Pr.loop_eq]
  try dsimp only
  generalize b_slices_IndexFunc__api_Pair_api_Pair__0_1 Prims.real c_tree_Right_1_2__0  v0 v1_c1_0 v7 v8 = y
  cases y with
  | none => rfl
  | some y => cases y <;> rfl
theorem s_slices_IndexFunc__api_Pair_api_Pair__0_1 (c_tree_Right_1_2__0 : S_api_Pair → Int → Option (Bool)) (h_tree_Right_1_2__0 : (C_tree_Right_1_2__0 PC FC @XM E_api_Value E_api_Pair c_tree_Right_1_2__0)) (m : Nat) (n0 : Nat) (k0 : List Nat) (hl0 : n0 < m)  : H_slices_IndexFunc__api_Pair_api_Pair__0_1 AT @XM E_api_Pair m n0 k0 (p_slices_IndexFunc__api_Pair_api_Pair__0_1 c_tree_Right_1_2__0) := by
  intro v0 v1_c1_0 v7 v8 out hp stk hg0
  refine LW.ind _ (fun (s : Ls1 × Int × Int × Int) o => match s with | (v0, v1_c1_0, v7, v8) => ∀ (stk : Stk), getO stk ⟨n0, k0⟩ = some (.cells [(.clos (.func F.tree_Right_1) [] [(.ref ⟨n0, k0⟩ 0)])]) → (A_slices_IndexFunc__api_Pair_api_Pair__0_1 AT @XM E_api_Pair m n0 k0 v0 v1_c1_0 v7 v8 stk) = (O_slices_IndexFunc__api_Pair_api_Pair__0  m n0 k0 stk) o) (fun s r e => ?_) (fun s t r e ih => ?_) (v0, v1_c1_0, v7, v8) out hp stk hg0
  · obtain ⟨v0, v1_c1_0, v7, v8⟩ := s
    intro stk hg0
    exact o_slices_IndexFunc__api_Pair_api_Pair__0_1 LW rfl rfl he_E_api_Step hz_E_api_Step he_E_api_Value hz_E_api_Value he_E_api_Pair hz_E_api_Pair he_E_int hz_E_int c_tree_Right_1_2__0 h_tree_Right_1_2__0 stk m n0 k0 hl0 v0 v1_c1_0 v7 v8 hg0 e
  · obtain ⟨v0, v1_c1_0, v7, v8⟩ := s; obtain ⟨v0', v1_c1_0', v7', v8'⟩ := t
    intro stk hg0
    exact (o_slices_IndexFunc__api_Pair_api_Pair__0_1 LW rfl rfl he_E_api_Step hz_E_api_Step he_E_api_Value hz_E_api_Value he_E_api_Pair hz_E_api_Pair he_E_int hz_E_int c_tree_Right_1_2__0 h_tree_Right_1_2__0 stk m n0 k0 hl0 v0 v1_c1_0 v7 v8 hg0 e).trans (ih stk (hg0))
noncomputable def p_slices_IndexFunc__api_Pair_api_Pair__0_0 (c_tree_Right_1_2__0 : S_api_Pair → Int → Option (Bool)) (v0 : Ls1) (v1_c1_0 : Int) : Option (Int) := b_slices_IndexFunc__api_Pair_api_Pair__0_0 Prims.real c_tree_Right_1_2__0 (p_slices_IndexFunc__api_Pair_api_Pair__0_1 c_tree_Right_1_2__0) v0 v1_c1_0
theorem s_slices_IndexFunc__api_Pair_api_Pair__0_0 (c_tree_Right_1_2__0 : S_api_Pair → Int → Option (Bool)) (h_tree_Right_1_2__0 : (C_tree_Right_1_2__0 PC FC @XM E_api_Value E_api_Pair c_tree_Right_1_2__0)) (m : Nat) (n0 : Nat) (k0 : List Nat) (hl0 : n0 < m)  : H_slices_IndexFunc__api_Pair_api_Pair__0_0 AT @XM E_api_Pair m n0 k0 (p_slices_IndexFunc__api_Pair_api_Pair__0_0 c_tree_Right_1_2__0) := by
  intro v0 v1_c1_0 out hp stk hg0
  exact o_slices_IndexFunc__api_Pair_api_Pair__0_0 LW rfl rfl he_E_api_Step hz_E_api_Step he_E_api_Value hz_E_api_Value he_E_api_Pair hz_E_api_Pair he_E_int hz_E_int c_tree_Right_1_2__0 h_tree_Right_1_2__0 stk m n0 k0 hl0 (p_slices_IndexFunc__api_Pair_api_Pair__0_1 c_tree_Right_1_2__0) v0 v1_c1_0 hg0 (s_slices_IndexFunc__api_Pair_api_Pair__0_1 c_tree_Right_1_2__0 h_tree_Right_1_2__0 m n0 k0 hl0 ) hp
noncomputable def p_tree_Right_1_2__0_0 (c_tree_Right_1__0 : S_api_Value → Int → Option (Bool)) (v0_0 : Str) (v0_1_0 v0_1_1 : Int) (v0_1_2 : Str) (v0_1_3 : Ls0) (v0_1_4 : Ls1) (v2_0 : Int) : Option (Bool) := b_tree_Right_1_2__0_0 Prims.real c_tree_Right_1__0  v0_0 v0_1_0 v0_1_1 v0_1_2 v0_1_3 v0_1_4 v2_0
theorem s_tree_Right_1_2__0_0 (c_tree_Right_1__0 : S_api_Value → Int → Option (Bool)) (h_tree_Right_1__0 : (C_tree_Right_1__0 PC FC @XM E_api_Value E_api_Pair c_tree_Right_1__0)) (m : Nat) (n0 : Nat) (k0 : List Nat) (hl0 : n0 < m)  : H_tree_Right_1_2__0_0 AT @XM E_api_Value E_api_Pair m n0 k0 (p_tree_Right_1_2__0_0 c_tree_Right_1__0) := by
  intro v0_0 v0_1_0 v0_1_1 v0_1_2 v0_1_3 v0_1_4 v2_0 out hp stk hg0
  exact o_tree_Right_1_2__0_0 LW rfl rfl he_E_api_Step hz_E_api_Step he_E_api_Value hz_E_api_Value he_E_api_Pair hz_E_api_Pair he_E_int hz_E_int c_tree_Right_1__0 h_tree_Right_1__0 stk m n0 k0 hl0 v0_0 v0_1_0 v0_1_1 v0_1_2 v0_1_3 v0_1_4 v2_0 hg0 hp
noncomputable def pk_tree_Right_1_1__0 : Nat → (S_api_Value → Int → Option (Bool)) × (S_api_Value → Int → Option (Bool)) × (Ls0 → Int → Option (Bool)) × (Ls0 → Int → Option (Int)) × (Ls1 → Int → Option (Bool)) × (Ls1 → Int → Option (Int)) × (S_api_Pair → Int → Option (Bool))
  | 0 => (fun _ _ => none, fun _ _ => none, fun _ _ => none, fun _ _ => none, fun _ _ => none, fun _ _ => none, fun _ _ => none)
  | k + 1 => (fun ⟨v0_0, v0_1, v0_2, v0_3, v0_4⟩ v2_0 => p_tree_Right_1_1__0_0 ((pk_tree_Right_1_1__0 k).2.1) v0_0 v0_1 v0_2 v0_3 v0_4 v2_0, fun ⟨v0_0, v0_1, v0_2, v0_3, v0_4⟩ v1 => p_tree_Right_1__0_0 ((pk_tree_Right_1_1__0 k).2.2.1) ((pk_tree_Right_1_1__0 k).2.2.2.2.1) v0_0 v0_1 v0_2 v0_3 v0_4 v1, fun v0 v1_c1_0 => p_slices_ContainsFunc__api_Value_api_Value__0_0 ((pk_tree_Right_1_1__0 k).2.2.2.1) v0 v1_c1_0, fun v0 v1_c1_0 => p_slices_IndexFunc__api_Value_api_Value__0_0 ((pk_tree_Right_1_1__0 k).1) v0 v1_c1_0, fun v0 v1_c1_0 => p_slices_ContainsFunc__api_Pair_api_Pair__0_0 ((pk_tree_Right_1_1__0 k).2.2.2.2.2.1) v0 v1_c1_0, fun v0 v1_c1_0 => p_slices_IndexFunc__api_Pair_api_Pair__0_0 ((pk_tree_Right_1_1__0 k).2.2.2.2.2.2) v0 v1_c1_0, fun ⟨v0_0, ⟨v0_1_0, v0_1_1, v0_1_2, v0_1_3, v0_1_4⟩⟩ v2_0 => p_tree_Right_1_2__0_0 ((pk_tree_Right_1_1__0 k).2.1) v0_0 v0_1_0 v0_1_1 v0_1_2 v0_1_3 v0_1_4 v2_0)
theorem sk_tree_Right_1_1__0 : ∀ k, ((C_tree_Right_1_1__0 PC FC @XM E_api_Value E_api_Pair ((pk_tree_Right_1_1__0 k).1))) ∧ ((C_tree_Right_1__0 PC FC @XM E_api_Value E_api_Pair ((pk_tree_Right_1_1__0 k).2.1))) ∧ ((C_slices_ContainsFunc__api_Value_api_Value__0 PC FC @XM E_api_Value ((pk_tree_Right_1_1__0 k).2.2.1))) ∧ ((C_slices_IndexFunc__api_Value_api_Value__0 PC FC @XM E_api_Value ((pk_tree_Right_1_1__0 k).2.2.2.1))) ∧ ((C_slices_ContainsFunc__api_Pair_api_Pair__0 PC FC @XM E_api_Pair ((pk_tree_Right_1_1__0 k).2.2.2.2.1))) ∧ ((C_slices_IndexFunc__api_Pair_api_Pair__0 PC FC @XM E_api_Pair ((pk_tree_Right_1_1__0 k).2.2.2.2.2.1))) ∧ ((C_tree_Right_1_2__0 PC FC @XM E_api_Value E_api_Pair ((pk_tree_Right_1_1__0 k).2.2.2.2.2.2))) ∧ True
  | 0 => by
    refine ⟨?_, ?_, ?_, ?_, ?_, ?_, ?_, trivial⟩
    · intro _ _ _ _ _ _ _ hp; exact nomatch (show none = some _ from hp)
    · intro _ _ _ _ _ _ _ hp; exact nomatch (show none = some _ from hp)
    · intro _ _ _ hp; exact nomatch (show none = some _ from hp)
    · intro _ _ _ hp; exact nomatch (show none = some _ from hp)
    · intro _ _ _ hp; exact nomatch (show none = some _ from hp)
    · intro _ _ _ hp; exact nomatch (show none = some _ from hp)
    · intro _ _ _ _ _ _ _ _ hp; exact nomatch (show none = some _ from hp)
  | k + 1 => by
    obtain ⟨ih0, ih1, ih2, ih3, ih4, ih5, ih6, _⟩ := sk_tree_Right_1_1__0 k
    refine ⟨?_, ?_, ?_, ?_, ?_, ?_, ?_, trivial⟩
    · intro _ _ _ _ _ _ _ hp stk n0 k0 hg0 hl0 
      exact pf_of (T := table) (G := glob) (f := 96) rfl rfl (s_tree_Right_1_1__0_0 ((pk_tree_Right_1_1__0 k).2.1) ih1 (topN stk + 1) n0 k0 (Nat.lt_succ_of_le hl0)  hp stk hg0)
    · intro _ _ _ _ _ _ _ hp stk n0 k0 hg0 hl0 
      exact pf_of (T := table) (G := glob) (f := 94) rfl rfl (s_tree_Right_1__0_0 ((pk_tree_Right_1_1__0 k).2.2.1) ((pk_tree_Right_1_1__0 k).2.2.2.2.1) ih2 ih4 (topN stk + 1) n0 k0 (Nat.lt_succ_of_le hl0)  hp stk hg0)
    · intro _ _ _ hp stk n0 k0 hg0 hl0 
      exact pf_of (T := table) (G := glob) (f := 68) rfl rfl (s_slices_ContainsFunc__api_Value_api_Value__0_0 ((pk_tree_Right_1_1__0 k).2.2.2.1) ih3 (topN stk + 1) n0 k0 (Nat.lt_succ_of_le hl0)  hp stk hg0)
    · intro _ _ _ hp stk n0 k0 hg0 hl0 
      exact pf_of (T := table) (G := glob) (f := 107) rfl rfl (s_slices_IndexFunc__api_Value_api_Value__0_0 ((pk_tree_Right_1_1__0 k).1) ih0 (topN stk + 1) n0 k0 (Nat.lt_succ_of_le hl0)  hp stk hg0)
    · intro _ _ _ hp stk n0 k0 hg0 hl0 
      exact pf_of (T := table) (G := glob) (f := 73) rfl rfl (s_slices_ContainsFunc__api_Pair_api_Pair__0_0 ((pk_tree_Right_1_1__0 k).2.2.2.2.2.1) ih5 (topN stk + 1) n0 k0 (Nat.lt_succ_of_le hl0)  hp stk hg0)
    · intro _ _ _ hp stk n0 k0 hg0 hl0 
      exact pf_of (T := table) (G := glob) (f := 77) rfl rfl (s_slices_IndexFunc__api_Pair_api_Pair__0_0 ((pk_tree_Right_1_1__0 k).2.2.2.2.2.2) ih6 (topN stk + 1) n0 k0 (Nat.lt_succ_of_le hl0)  hp stk hg0)
    · intro _ _ _ _ _ _ _ _ hp stk n0 k0 hg0 hl0 
      exact pf_of (T := table) (G := glob) (f := 98) rfl rfl (s_tree_Right_1_2__0_0 ((pk_tree_Right_1_1__0 k).2.1) ih1 (topN stk + 1) n0 k0 (Nat.lt_succ_of_le hl0)  hp stk hg0)
noncomputable def p_tree_Right_1_1__0 : S_api_Value → Int → Option (Bool) := (pk_tree_Right_1_1__0 1000000).1
theorem s_tree_Right_1_1__0 : (C_tree_Right_1_1__0 PC FC @XM E_api_Value E_api_Pair p_tree_Right_1_1__0) := (sk_tree_Right_1_1__0 1000000).1
noncomputable def p_tree_Right_1__0 : S_api_Value → Int → Option (Bool) := (pk_tree_Right_1_1__0 1000000).2.1
theorem s_tree_Right_1__0 : (C_tree_Right_1__0 PC FC @XM E_api_Value E_api_Pair p_tree_Right_1__0) := (sk_tree_Right_1_1__0 1000000).2.1
noncomputable def p_slices_ContainsFunc__api_Value_api_Value__0 : Ls0 → Int → Option (Bool) := (pk_tree_Right_1_1__0 1000000).2.2.1
theorem s_slices_ContainsFunc__api_Value_api_Value__0 : (C_slices_ContainsFunc__api_Value_api_Value__0 PC FC @XM E_api_Value p_slices_ContainsFunc__api_Value_api_Value__0) := (sk_tree_Right_1_1__0 1000000).2.2.1
noncomputable def p_slices_IndexFunc__api_Value_api_Value__0 : Ls0 → Int → Option (Int) := (pk_tree_Right_1_1__0 1000000).2.2.2.1
theorem s_slices_IndexFunc__api_Value_api_Value__0 : (C_slices_IndexFunc__api_Value_api_Value__0 PC FC @XM E_api_Value p_slices_IndexFunc__api_Value_api_Value__0) := (sk_tree_Right_1_1__0 1000000).2.2.2.1
noncomputable def p_slices_ContainsFunc__api_Pair_api_Pair__0 : Ls1 → Int → Option (Bool) := (pk_tree_Right_1_1__0 1000000).2.2.2.2.1
theorem s_slices_ContainsFunc__api_Pair_api_Pair__0 : (C_slices_ContainsFunc__api_Pair_api_Pair__0 PC FC @XM E_api_Pair p_slices_ContainsFunc__api_Pair_api_Pair__0) := (sk_tree_Right_1_1__0 1000000).2.2.2.2.1
noncomputable def p_slices_IndexFunc__api_Pair_api_Pair__0 : Ls1 → Int → Option (Int) := (pk_tree_Right_1_1__0 1000000).2.2.2.2.2.1
theorem s_slices_IndexFunc__api_Pair_api_Pair__0 : (C_slices_IndexFunc__api_Pair_api_Pair__0 PC FC @XM E_api_Pair p_slices_IndexFunc__api_Pair_api_Pair__0) := (sk_tree_Right_1_1__0 1000000).2.2.2.2.2.1
noncomputable def p_tree_Right_1_2__0 : S_api_Pair → Int → Option (Bool) := (pk_tree_Right_1_1__0 1000000).2.2.2.2.2.2
theorem s_tree_Right_1_2__0 : (C_tree_Right_1_2__0 PC FC @XM E_api_Value E_api_Pair p_tree_Right_1_2__0) := (sk_tree_Right_1_1__0 1000000).2.2.2.2.2.2.1
noncomputable def p_tree_Right_0  (v0_0 v0_1 : Int) (v0_2 : Str) (v0_3 : Ls0) (v0_4 : Ls1) : Option (Bool) := b_tree_Right_0 Prims.real p_tree_Right_1__0  v0_0 v0_1 v0_2 v0_3 v0_4
theorem s_tree_Right_0   (m : Nat)    : H_tree_Right_0 AT @XM E_api_Value E_api_Pair m  p_tree_Right_0 := by
  intro v0_0 v0_1 v0_2 v0_3 v0_4 out hp stk 
  exact o_tree_Right_0 LW rfl rfl he_E_api_Step hz_E_api_Step he_E_api_Value hz_E_api_Value he_E_api_Pair hz_E_api_Pair he_E_int hz_E_int p_tree_Right_1__0 s_tree_Right_1__0 stk m v0_0 v0_1 v0_2 v0_3 v0_4 hp
noncomputable def p_tree_Right : S_api_Value → Option (Bool) := fun ⟨v0_0, v0_1, v0_2, v0_3, v0_4⟩ => p_tree_Right_0  v0_0 v0_1 v0_2 v0_3 v0_4
theorem s_tree_Right : (C_tree_Right PC FC @XM E_api_Value E_api_Pair p_tree_Right) := by
  intro _ _ _ _ _ _ hp stk    
  exact pf_of (T := table) (G := glob) (f := 53) rfl rfl (s_tree_Right_0   (topN stk + 1)    hp stk )
noncomputable def p_path_Put_1__0_0  (v0_0 v0_1 : Int) (v0_2 : Str) (v0_3 : Ls0) (v0_4 : Ls1) (v1_0 v1_1 : Int) (v1_2 : Str) (v1_3 : Ls0) (v1_4 : Ls1) : Option (S_api_Value × Int) := b_path_Put_1__0_0 Prims.real   v0_0 v0_1 v0_2 v0_3 v0_4 v1_0 v1_1 v1_2 v1_3 v1_4
theorem s_path_Put_1__0_0   (m : Nat)    : H_path_Put_1__0_0 AT @XM E_api_Value E_api_Pair m  p_path_Put_1__0_0 := by
  intro v0_0 v0_1 v0_2 v0_3 v0_4 v1_0 v1_1 v1_2 v1_3 v1_4 out hp stk 
  exact o_path_Put_1__0_0 LW rfl rfl he_E_api_Step hz_E_api_Step he_E_api_Value hz_E_api_Value he_E_api_Pair hz_E_api_Pair he_E_int hz_E_int stk m v0_0 v0_1 v0_2 v0_3 v0_4 v1_0 v1_1 v1_2 v1_3 v1_4 hp
noncomputable def p_path_Put_1__0 : S_api_Value → Int → Int → Str → Ls0 → Ls1 → Option (S_api_Value × Int) := fun ⟨v0_0, v0_1, v0_2, v0_3, v0_4⟩ v1_0 v1_1 v1_2 v1_3 v1_4 => p_path_Put_1__0_0  v0_0 v0_1 v0_2 v0_3 v0_4 v1_0 v1_1 v1_2 v1_3 v1_4
theorem s_path_Put_1__0 : (C_path_Put_1__0 PC FC @XM E_api_Value E_api_Pair p_path_Put_1__0) := by
  intro _ _ _ _ _ _ _ _ _ _ _ _ _ _ _ _ hp stk    
  exact pf_of (T := table) (G := glob) (f := 65) rfl rfl (s_path_Put_1__0_0   (topN stk + 1)    hp stk )
noncomputable def p_slices_Clone__api_Value_api_Value__0_0  (v0 : Ls0) : Option (Nat × Ls0) := b_slices_Clone__api_Value_api_Value__0_0 Prims.real   v0
theorem s_slices_Clone__api_Value_api_Value__0_0   (m : Nat)    : H_slices_Clone__api_Value_api_Value__0_0 AT @XM List.length E_api_Value m  p_slices_Clone__api_Value_api_Value__0_0 := by
  intro v0 out hp stk 
  exact o_slices_Clone__api_Value_api_Value__0_0 LW rfl rfl he_E_api_Step hz_E_api_Step he_E_api_Value hz_E_api_Value he_E_api_Pair hz_E_api_Pair he_E_int hz_E_int stk m v0 hp
noncomputable def p_slices_Clone__api_Value_api_Value__0 : Ls0 → Option (Nat × Ls0) := fun v0 => p_slices_Clone__api_Value_api_Value__0_0  v0
theorem s_slices_Clone__api_Value_api_Value__0 : (C_slices_Clone__api_Value_api_Value__0 KC_ @XM List.length E_api_Value p_slices_Clone__api_Value_api_Value__0) := by
  intro _ _ _ hp stk    
  intro m hm
  subst hm
  exact kcall_of (T := table) (G := glob) (f := 102) (ks := [[5]]) rfl rfl (s_slices_Clone__api_Value_api_Value__0_0   (topN stk + 1)    hp stk )
noncomputable def p_path_at_1__0_0  (v0_0 : Str) (v0_1_0 v0_1_1 : Int) (v0_1_2 : Str) (v0_1_3 : Ls0) (v0_1_4 : Ls1) (L0_0 : Str) (L0_1 : Int) (L0_2 : Bool) : Option (Bool) := b_path_at_1__0_0 Prims.real   v0_0 v0_1_0 v0_1_1 v0_1_2 v0_1_3 v0_1_4 L0_0 L0_1 L0_2
theorem s_path_at_1__0_0   (m : Nat) (n0 : Nat) (k0 : List Nat) (hl0 : n0 < m)  : H_path_at_1__0_0 AT @XM E_api_Value E_api_Pair m n0 k0 p_path_at_1__0_0 := by
  intro v0_0 v0_1_0 v0_1_1 v0_1_2 v0_1_3 v0_1_4 L0_0 L0_1 L0_2 out hp stk hg0
  exact o_path_at_1__0_0 LW rfl rfl he_E_api_Step hz_E_api_Step he_E_api_Value hz_E_api_Value he_E_api_Pair hz_E_api_Pair he_E_int hz_E_int stk m n0 k0 hl0 v0_0 v0_1_0 v0_1_1 v0_1_2 v0_1_3 v0_1_4 L0_0 L0_1 L0_2 hg0 hp
noncomputable def p_path_at_1__0 : S_api_Pair → Str → Int → Bool → Option (Bool) := fun ⟨v0_0, ⟨v0_1_0, v0_1_1, v0_1_2, v0_1_3, v0_1_4⟩⟩ L0_0 L0_1 L0_2 => p_path_at_1__0_0  v0_0 v0_1_0 v0_1_1 v0_1_2 v0_1_3 v0_1_4 L0_0 L0_1 L0_2
theorem s_path_at_1__0 : (C_path_at_1__0 PC FC @XM E_api_Value E_api_Pair p_path_at_1__0) := by
  intro _ _ _ _ _ _ _ _ _ _ hp stk n0 k0 hg0 hl0 
  exact pf_of (T := table) (G := glob) (f := 103) rfl rfl (s_path_at_1__0_0   (topN stk + 1) n0 k0 (Nat.lt_succ_of_le hl0)  hp stk hg0)
noncomputable def p_slices_IndexFunc__api_Pair_api_Pair__1_1  (v0 : Ls1) (v7 v8 : Int) (L0_0 : Str) (L0_1 : Int) (L0_2 : Bool) : Option (Int) := Prims.real.loop (fun (s : Ls1 × Int × Int) => match s with | (v0, v7, v8) => b_slices_IndexFunc__api_Pair_api_Pair__1_1 Prims.real p_path_at_1__0  v0 v7 v8 L0_0 L0_1 L0_2) (v0, v7, v8)
theorem u_slices_IndexFunc__api_Pair_api_Pair__1_1  (v0 : Ls1) (v7 v8 : Int) (L0_0 : Str) (L0_1 : Int) (L0_2 : Bool) : p_slices_IndexFunc__api_Pair_api_Pair__1_1  v0 v7 v8 L0_0 L0_1 L0_2 = match b_slices_IndexFunc__api_Pair_api_Pair__1_1 Prims.real p_path_at_1__0  v0 v7 v8 L0_0 L0_1 L0_2 with
    | some (.inl (v0', v7', v8')) => p_slices_IndexFunc__api_Pair_api_Pair__1_1  v0' v7' v8' L0_0 L0_1 L0_2
    | some (.inr r) => some r
    | none => none := by
  show Pr.loop _ _ = _
  rw [Pr.loop_eq]
  try dsimp only
  generalize b_slices_IndexFunc__api_Pair_api_Pair__1_1 Prims.real p_path_at_1__0  v0 v7 v8 L0_0 L0_1 L0_2 = y
  cases y with
  | none => rfl
  | some y => cases y <;> rfl
theorem s_slices_IndexFunc__api_Pair_api_Pair__1_1   (m : Nat) (n0 : Nat) (k0 : List Nat) (hl0 : n0 < m)  : H_slices_IndexFunc__api_Pair_api_Pair__1_1 AT @XM E_api_Pair m n0 k0 p_slices_IndexFunc__api_Pair_api_Pair__1_1 := by
  intro v0 v7 v8 L0_0 L0_1 L0_2 out hp stk hg0
  refine LW.ind _ (fun (s : Ls1 × Int × Int) o => match s with | (v0, v7, v8) => ∀ (stk : Stk), getO stk ⟨n0, k0⟩ = some (.cells [(.d (.str L0_0)), (.d (.int .i64 L0_1)), (.d (.bool L0_2))]) → (A_slices_IndexFunc__api_Pair_api_Pair__1_1 AT @XM E_api_Pair m n0 k0 v0 v7 v8 L0_0 L0_1 L0_2 stk) = (O_slices_IndexFunc__api_Pair_api_Pair__1  m n0 k0 stk) o) (fun s r e => ?_) (fun s t r e ih => ?_) (v0, v7, v8) out hp stk hg0
  · obtain ⟨v0, v7, v8⟩ := s
    intro stk hg0
    exact o_slices_IndexFunc__api_Pair_api_Pair__1_1 LW rfl rfl he_E_api_Step hz_E_api_Step he_E_api_Value hz_E_api_Value he_E_api_Pair hz_E_api_Pair he_E_int hz_E_int p_path_at_1__0 s_path_at_1__0 stk m n0 k0 hl0 v0 v7 v8 L0_0 L0_1 L0_2 hg0 e
  · obtain ⟨v0, v7, v8⟩ := s; obtain ⟨v0', v7', v8'⟩ := t
    intro stk hg0
    exact (o_slices_IndexFunc__api_Pair_api_Pair__1_1 LW rfl rfl he_E_api_Step hz_E_api_Step he_E_api_Value hz_E_api_Value he_E_api_Pair hz_E_api_Pair he_E_int hz_E_int p_path_at_1__0 s_path_at_1__0 stk m n0 k0 hl0 v0 v7 v8 L0_0 L0_1 L0_2 hg0 e).trans (ih stk (hg0))
noncomputable def p_slices_IndexFunc__api_Pair_api_Pair__1_0  (v0 : Ls1) (L0_0 : Str) (L0_1 : Int) (L0_2 : Bool) : Option (Int) := b_slices_IndexFunc__api_Pair_api_Pair__1_0 Prims.real p_path_at_1__0 p_slices_IndexFunc__api_Pair_api_Pair__1_1 v0 L0_0 L0_1 L0_2
theorem s_slices_IndexFunc__api_Pair_api_Pair__1_0   (m : Nat) (n0 : Nat) (k0 : List Nat) (hl0 : n0 < m)  : H_slices_IndexFunc__api_Pair_api_Pair__1_0 AT @XM E_api_Pair m n0 k0 p_slices_IndexFunc__api_Pair_api_Pair__1_0 := by
  intro v0 L0_0 L0_1 L0_2 out hp stk hg0
  exact o_slices_IndexFunc__api_Pair_api_Pair__1_0 LW rfl rfl he_E_api_Step hz_E_api_Step he_E_api_Value hz_E_api_Value he_E_api_Pair hz_E_api_Pair he_E_int hz_E_int p_path_at_1__0 s_path_at_1__0 stk m n0 k0 hl0 p_slices_IndexFunc__api_Pair_api_Pair__1_1 v0 L0_0 L0_1 L0_2 hg0 (s_slices_IndexFunc__api_Pair_api_Pair__1_1 m n0 k0 hl0 ) hp
noncomputable def p_slices_IndexFunc__api_Pair_api_Pair__1 : Ls1 → Str → Int → Bool → Option (Int) := fun v0 L0_0 L0_1 L0_2 => p_slices_IndexFunc__api_Pair_api_Pair__1_0  v0 L0_0 L0_1 L0_2
theorem s_slices_IndexFunc__api_Pair_api_Pair__1 : (C_slices_IndexFunc__api_Pair_api_Pair__1 PC FC @XM E_api_Pair p_slices_IndexFunc__api_Pair_api_Pair__1) := by
  intro _ _ _ _ _ hp stk n0 k0 hg0 hl0 
  exact pf_of (T := table) (G := glob) (f := 77) rfl rfl (s_slices_IndexFunc__api_Pair_api_Pair__1_0   (topN stk + 1) n0 k0 (Nat.lt_succ_of_le hl0)  hp stk hg0)
noncomputable def p_slices_Clone__api_Pair_api_Pair__0_0  (v0 : Ls1) : Option (Nat × Ls1) := b_slices_Clone__api_Pair_api_Pair__0_0 Prims.real   v0
theorem s_slices_Clone__api_Pair_api_Pair__0_0   (m : Nat)    : H_slices_Clone__api_Pair_api_Pair__0_0 AT @XM List.length E_api_Pair m  p_slices_Clone__api_Pair_api_Pair__0_0 := by
  intro v0 out hp stk 
  exact o_slices_Clone__api_Pair_api_Pair__0_0 LW rfl rfl he_E_api_Step hz_E_api_Step he_E_api_Value hz_E_api_Value he_E_api_Pair hz_E_api_Pair he_E_int hz_E_int stk m v0 hp
noncomputable def p_slices_Clone__api_Pair_api_Pair__0 : Ls1 → Option (Nat × Ls1) := fun v0 => p_slices_Clone__api_Pair_api_Pair__0_0  v0
theorem s_slices_Clone__api_Pair_api_Pair__0 : (C_slices_Clone__api_Pair_api_Pair__0 KC_ @XM List.length E_api_Pair p_slices_Clone__api_Pair_api_Pair__0) := by
  intro _ _ _ hp stk    
  intro m hm
  subst hm
  exact kcall_of (T := table) (G := glob) (f := 104) (ks := [[5]]) rfl rfl (s_slices_Clone__api_Pair_api_Pair__0_0   (topN stk + 1)    hp stk )
noncomputable def p_path_at__0_2 (c_path_at__0 : S_api_Value → Ls2 → Int → Int → Str → Ls0 → Ls1 → Option (S_api_Value × Int)) (o6_0 o6_1 : Int) (o6_2 : Str) (o6_3 : Ls0) (o6_4 : Ls1) : Option (S_api_Value × Int) := b_path_at__0_2 Prims.real p_path_Put_1__0 p_slices_Clone__api_Value_api_Value__0 c_path_at__0 p_slices_IndexFunc__api_Pair_api_Pair__1 p_slices_Clone__api_Pair_api_Pair__0  o6_0 o6_1 o6_2 o6_3 o6_4
theorem s_path_at__0_2 (c_path_at__0 : S_api_Value → Ls2 → Int → Int → Str → Ls0 → Ls1 → Option (S_api_Value × Int)) (h_path_at__0 : (C_path_at__0 PC FC @XM E_api_Step E_api_Value E_api_Pair c_path_at__0)) (m : Nat)    : H_path_at__0_2 AT @XM E_api_Value E_api_Pair m  (p_path_at__0_2 c_path_at__0) := by
  intro o6_0 o6_1 o6_2 o6_3 o6_4 out hp stk 
  exact o_path_at__0_2 LW rfl rfl he_E_api_Step hz_E_api_Step he_E_api_Value hz_E_api_Value he_E_api_Pair hz_E_api_Pair he_E_int hz_E_int p_path_Put_1__0 p_slices_Clone__api_Value_api_Value__0 c_path_at__0 p_slices_IndexFunc__api_Pair_api_Pair__1 p_slices_Clone__api_Pair_api_Pair__0 s_path_Put_1__0 s_slices_Clone__api_Value_api_Value__0 h_path_at__0 s_slices_IndexFunc__api_Pair_api_Pair__1 s_slices_Clone__api_Pair_api_Pair__0 stk m o6_0 o6_1 o6_2 o6_3 o6_4 hp
noncomputable def p_path_at__0_0 (c_path_at__0 : S_api_Value → Ls2 → Int → Int → Str → Ls0 → Ls1 → Option (S_api_Value × Int)) (v0_0 v0_1 : Int) (v0_2 : Str) (v0_3 : Ls0) (v0_4 : Ls1) (v1 : Ls2) (v2_c0_0 v2_c0_1 : Int) (v2_c0_2 : Str) (v2_c0_3 : Ls0) (v2_c0_4 : Ls1) : Option (S_api_Value × Int) := b_path_at__0_0 Prims.real p_path_Put_1__0 p_slices_Clone__api_Value_api_Value__0 c_path_at__0 p_slices_IndexFunc__api_Pair_api_Pair__1 p_slices_Clone__api_Pair_api_Pair__0 (p_path_at__0_2 c_path_at__0) v0_0 v0_1 v0_2 v0_3 v0_4 v1 v2_c0_0 v2_c0_1 v2_c0_2 v2_c0_3 v2_c0_4
theorem s_path_at__0_0 (c_path_at__0 : S_api_Value → Ls2 → Int → Int → Str → Ls0 → Ls1 → Option (S_api_Value × Int)) (h_path_at__0 : (C_path_at__0 PC FC @XM E_api_Step E_api_Value E_api_Pair c_path_at__0)) (m : Nat)    : H_path_at__0_0 AT @XM E_api_Step E_api_Value E_api_Pair m  (p_path_at__0_0 c_path_at__0) := by
  intro v0_0 v0_1 v0_2 v0_3 v0_4 v1 v2_c0_0 v2_c0_1 v2_c0_2 v2_c0_3 v2_c0_4 out hp stk 
  exact o_path_at__0_0 LW rfl rfl he_E_api_Step hz_E_api_Step he_E_api_Value hz_E_api_Value he_E_api_Pair hz_E_api_Pair he_E_int hz_E_int p_path_Put_1__0 p_slices_Clone__api_Value_api_Value__0 c_path_at__0 p_slices_IndexFunc__api_Pair_api_Pair__1 p_slices_Clone__api_Pair_api_Pair__0 s_path_Put_1__0 s_slices_Clone__api_Value_api_Value__0 h_path_at__0 s_slices_IndexFunc__api_Pair_api_Pair__1 s_slices_Clone__api_Pair_api_Pair__0 stk m (p_path_at__0_2 c_path_at__0) v0_0 v0_1 v0_2 v0_3 v0_4 v1 v2_c0_0 v2_c0_1 v2_c0_2 v2_c0_3 v2_c0_4 (s_path_at__0_2 c_path_at__0 h_path_at__0 m ) hp
noncomputable def pk_path_at__0 : Nat → (S_api_Value → Ls2 → Int → Int → Str → Ls0 → Ls1 → Option (S_api_Value × Int))
  | 0 => fun _ _ _ _ _ _ _ => none
  | k + 1 => fun ⟨v0_0, v0_1, v0_2, v0_3, v0_4⟩ v1 v2_c0_0 v2_c0_1 v2_c0_2 v2_c0_3 v2_c0_4 => p_path_at__0_0 ((pk_path_at__0 k)) v0_0 v0_1 v0_2 v0_3 v0_4 v1 v2_c0_0 v2_c0_1 v2_c0_2 v2_c0_3 v2_c0_4
theorem sk_path_at__0 : ∀ k, ((C_path_at__0 PC FC @XM E_api_Step E_api_Value E_api_Pair ((pk_path_at__0 k)))) ∧ True
  | 0 => by
    refine ⟨?_, trivial⟩
    · intro _ _ _ _ _ _ _ _ _ _ _ _ _ _ _ _ _ hp; exact nomatch (show none = some _ from hp)
  | k + 1 => by
    obtain ⟨ih0, _⟩ := sk_path_at__0 k
    refine ⟨?_, trivial⟩
    · intro _ _ _ _ _ _ _ _ _ _ _ _ _ _ _ _ _ hp stk    
      exact pf_of (T := table) (G := glob) (f := 59) rfl rfl (s_path_at__0_0 ((pk_path_at__0 k)) ih0 (topN stk + 1)    hp stk )
noncomputable def p_path_at__0 : S_api_Value → Ls2 → Int → Int → Str → Ls0 → Ls1 → Option (S_api_Value × Int) := (pk_path_at__0 1000000)
theorem s_path_at__0 : (C_path_at__0 PC FC @XM E_api_Step E_api_Value E_api_Pair p_path_at__0) := (sk_path_at__0 1000000).1
noncomputable def p_tree_clone_5 (c_tree_clone : S_api_Value → Option (S_api_Value)) (v31 : Ls1) (v32 v33 o2_0 o2_1 : Int) (o2_2 : Str) (o2_3 : Ls0) (o2_4 : Ls1) (o3_0 o3_1 : Int) (o3_2 : Str) (o3_3_g : Nat) (o3_3 : Ls0) (o3_4_g : Nat) (o3_4 : Ls1) : Option (S_api_Value) := Prims.real.loop (fun (s : Ls1 × Int × Int × Int × Int × Str × Ls0 × Ls1 × Int × Int × Str × Nat × Ls0 × Nat × Ls1) => match s with | (v31, v32, v33, o2_0, o2_1, o2_2, o2_3, o2_4, o3_0, o3_1, o3_2, o3_3_g, o3_3, o3_4_g, o3_4) => b_tree_clone_5 Prims.real c_tree_clone  v31 v32 v33 o2_0 o2_1 o2_2 o2_3 o2_4 o3_0 o3_1 o3_2 o3_3_g o3_3 o3_4_g o3_4) (v31, v32, v33, o2_0, o2_1, o2_2, o2_3, o2_4, o3_0, o3_1, o3_2, o3_3_g, o3_3, o3_4_g, o3_4)
theorem u_tree_clone_5 (c_tree_clone : S_api_Value → Option (S_api_Value)) (v31 : Ls1) (v32 v33 o2_0 o2_1 : Int) (o2_2 : Str) (o2_3 : Ls0) (o2_4 : Ls1) (o3_0 o3_1 : Int) (o3_2 : Str) (o3_3_g : Nat) (o3_3 : Ls0) (o3_4_g : Nat) (o3_4 : Ls1) : p_tree_clone_5 c_tree_clone v31 v32 v33 o2_0 o2_1 o2_2 o2_3 o2_4 o3_0 o3_1 o3_2 o3_3_g o3_3 o3_4_g o3_4 = match b_tree_clone_5 Prims.real c_tree_clone  v31 v32 v33 o2_0 o2_1 o2_2 o2_3 o2_4 o3_0 o3_1 o3_2 o3_3_g o3_3 o3_4_g o3_4 with
    | some (.inl (v31', v32', v33', o2_0', o2_1', o2_2', o2_3', o2_4', o3_0', o3_1', o3_2', o3_3_g', o3_3', o3_4_g', o3_4')) => p_tree_clone_5 c_tree_clone v31' v32' v33' o2_0' o2_1' o2_2' o2_3' o2_4' o3_0' o3_1' o3_2' o3_3_g' o3_3' o3_4_g' o3_4'
    | some (.inr r) => some r
    | none => none := by
  show Pr.loop _ _ = _
  rw [Pr.loop_eq]
  try dsimp only
  generalize b_tree_clone_5 Prims.real c_tree_clone  v31 v32 v33 o2_0 o2_1 o2_2 o2_3 o2_4 o3_0 o3_1 o3_2 o3_3_g o3_3 o3_4_g o3_4 = y
  cases y with
  | none => rfl
  | some y => cases y <;> rfl
theorem s_tree_clone_5 (c_tree_clone : S_api_Value → Option (S_api_Value)) (h_tree_clone : (C_tree_clone PC FC @XM E_api_Value E_api_Pair c_tree_clone)) (m : Nat)    : H_tree_clone_5 AT @XM List.length E_api_Value E_api_Pair m  (p_tree_clone_5 c_tree_clone) := by
  intro v31 v32 v33 o2_0 o2_1 o2_2 o2_3 o2_4 o3_0 o3_1 o3_2 o3_3_g o3_3 o3_4_g o3_4 out hp stk 
  refine LW.ind _ (fun (s : Ls1 × Int × Int × Int × Int × Str × Ls0 × Ls1 × Int × Int × Str × Nat × Ls0 × Nat × Ls1) o => match s with | (v31, v32, v33, o2_0, o2_1, o2_2, o2_3, o2_4, o3_0, o3_1, o3_2, o3_3_g, o3_3, o3_4_g, o3_4) => ∀ (stk : Stk), (A_tree_clone_5 AT @XM List.length E_api_Value E_api_Pair m  v31 v32 v33 o2_0 o2_1 o2_2 o2_3 o2_4 o3_0 o3_1 o3_2 o3_3_g o3_3 o3_4_g o3_4 stk) = (O_tree_clone @XM E_api_Value E_api_Pair m  stk) o) (fun s r e => ?_) (fun s t r e ih => ?_) (v31, v32, v33, o2_0, o2_1, o2_2, o2_3, o2_4, o3_0, o3_1, o3_2, o3_3_g, o3_3, o3_4_g, o3_4) out hp stk 
  · obtain ⟨v31, v32, v33, o2_0, o2_1, o2_2, o2_3, o2_4, o3_0, o3_1, o3_2, o3_3_g, o3_3, o3_4_g, o3_4⟩ := s
    intro stk 
    exact o_tree_clone_5 LW rfl rfl he_E_api_Step hz_E_api_Step he_E_api_Value hz_E_api_Value he_E_api_Pair hz_E_api_Pair he_E_int hz_E_int c_tree_clone h_tree_clone stk m v31 v32 v33 o2_0 o2_1 o2_2 o2_3 o2_4 o3_0 o3_1 o3_2 o3_3_g o3_3 o3_4_g o3_4 e
  · obtain ⟨v31, v32, v33, o2_0, o2_1, o2_2, o2_3, o2_4, o3_0, o3_1, o3_2, o3_3_g, o3_3, o3_4_g, o3_4⟩ := s; obtain ⟨v31', v32', v33', o2_0', o2_1', o2_2', o2_3', o2_4', o3_0', o3_1', o3_2', o3_3_g', o3_3', o3_4_g', o3_4'⟩ := t
    intro stk 
    exact (o_tree_clone_5 LW rfl rfl he_E_api_Step hz_E_api_Step he_E_api_Value hz_E_api_Value he_E_api_Pair hz_E_api_Pair he_E_int hz_E_int c_tree_clone h_tree_clone stk m v31 v32 v33 o2_0 o2_1 o2_2 o2_3 o2_4 o3_0 o3_1 o3_2 o3_3_g o3_3 o3_4_g o3_4 e).trans (ih stk )
noncomputable def p_tree_clone_1 (c_tree_clone : S_api_Value → Option (S_api_Value)) (v1_0 v1_1 : Int) (v1_2 : Str) (v1_3 : Ls0) (v1_4 : Ls1) (v16 : Ls0) (v17 v18 o2_0 o2_1 : Int) (o2_2 : Str) (o2_3 : Ls0) (o2_4 : Ls1) (o3_0 o3_1 : Int) (o3_2 : Str) (o3_3_g : Nat) (o3_3 : Ls0) (o3_4_g : Nat) (o3_4 : Ls1) : Option (S_api_Value) := Prims.real.loop (fun (s : Int × Int × Str × Ls0 × Ls1 × Ls0 × Int × Int × Int × Int × Str × Ls0 × Ls1 × Int × Int × Str × Nat × Ls0 × Nat × Ls1) => match s with | (v1_0, v1_1, v1_2, v1_3, v1_4, v16, v17, v18, o2_0, o2_1, o2_2, o2_3, o2_4, o3_0, o3_1, o3_2, o3_3_g, o3_3, o3_4_g, o3_4) => b_tree_clone_1 Prims.real c_tree_clone (p_tree_clone_5 c_tree_clone) v1_0 v1_1 v1_2 v1_3 v1_4 v16 v17 v18 o2_0 o2_1 o2_2 o2_3 o2_4 o3_0 o3_1 o3_2 o3_3_g o3_3 o3_4_g o3_4) (v1_0, v1_1, v1_2, v1_3, v1_4, v16, v17, v18, o2_0, o2_1, o2_2, o2_3, o2_4, o3_0, o3_1, o3_2, o3_3_g, o3_3, o3_4_g, o3_4)
theorem u_tree_clone_1 (c_tree_clone : S_api_Value → Option (S_api_Value)) (v1_0 v1_1 : Int) (v1_2 : Str) (v1_3 : Ls0) (v1_4 : Ls1) (v16 : Ls0) (v17 v18 o2_0 o2_1 : Int) (o2_2 : Str) (o2_3 : Ls0) (o2_4 : Ls1) (o3_0 o3_1 : Int) (o3_2 : Str) (o3_3_g : Nat) (o3_3 : Ls0) (o3_4_g : Nat) (o3_4 : Ls1) : p_tree_clone_1 c_tree_clone v1_0 v1_1 v1_2 v1_3 v1_4 v16 v17 v18 o2_0 o2_1 o2_2 o2_3 o2_4 o3_0 o3_1 o3_2 o3_3_g o3_3 o3_4_g o3_4 = match b_tree_clone_1 Prims.real c_tree_clone (p_tree_clone_5 c_tree_clone) v1_0 v1_1 v1_2 v1_3 v1_4 v16 v17 v18 o2_0 o2_1 o2_2 o2_3 o2_4 o3_0 o3_1 o3_2 o3_3_g o3_3 o3_4_g o3_4 with
    | some (.inl (v1_0', v1_1', v1_2', v1_3', v1_4', v16', v17', v18', o2_0', o2_1', o2_2', o2_3', o2_4', o3_0', o3_1', o3_2', o3_3_g', o3_3', o3_4_g', o3_4')) => p_tree_clone_1 c_tree_clone v1_0' v1_1' v1_2' v1_3' v1_4' v16' v17' v18' o2_0' o2_1' o2_2' o2_3' o2_4' o3_0' o3_1' o3_2' o3_3_g' o3_3' o3_4_g' o3_4'
    | some (.inr r) => some r
    | none => none := by
  show Pr.loop _ _ = _
  rw [Pr.loop_eq]
  try dsimp only
  generalize b_tree_clone_1 Prims.real c_tree_clone (p_tree_clone_5 c_tree_clone) v1_0 v1_1 v1_2 v1_3 v1_4 v16 v17 v18 o2_0 o2_1 o2_2 o2_3 o2_4 o3_0 o3_1 o3_2 o3_3_g o3_3 o3_4_g o3_4 = y
  cases y with
  | none => rfl
  | some y => cases y <;> rfl
theorem s_tree_clone_1 (c_tree_clone : S_api_Value → Option (S_api_Value)) (h_tree_clone : (C_tree_clone PC FC @XM E_api_Value E_api_Pair c_tree_clone)) (m : Nat)    : H_tree_clone_1 AT @XM List.length E_api_Value E_api_Pair m  (p_tree_clone_1 c_tree_clone) := by
  intro v1_0 v1_1 v1_2 v1_3 v1_4 v16 v17 v18 o2_0 o2_1 o2_2 o2_3 o2_4 o3_0 o3_1 o3_2 o3_3_g o3_3 o3_4_g o3_4 out hp stk 
  refine LW.ind _ (fun (s : Int × Int × Str × Ls0 × Ls1 × Ls0 × Int × Int × Int × Int × Str × Ls0 × Ls1 × Int × Int × Str × Nat × Ls0 × Nat × Ls1) o => match s with | (v1_0, v1_1, v1_2, v1_3, v1_4, v16, v17, v18, o2_0, o2_1, o2_2, o2_3, o2_4, o3_0, o3_1, o3_2, o3_3_g, o3_3, o3_4_g, o3_4) => ∀ (stk : Stk), (A_tree_clone_1 AT @XM List.length E_api_Value E_api_Pair m  v1_0 v1_1 v1_2 v1_3 v1_4 v16 v17 v18 o2_0 o2_1 o2_2 o2_3 o2_4 o3_0 o3_1 o3_2 o3_3_g o3_3 o3_4_g o3_4 stk) = (O_tree_clone @XM E_api_Value E_api_Pair m  stk) o) (fun s r e => ?_) (fun s t r e ih => ?_) (v1_0, v1_1, v1_2, v1_3, v1_4, v16, v17, v18, o2_0, o2_1, o2_2, o2_3, o2_4, o3_0, o3_1, o3_2, o3_3_g, o3_3, o3_4_g, o3_4) out hp stk 
  · obtain ⟨v1_0, v1_1, v1_2, v1_3, v1_4, v16, v17, v18, o2_0, o2_1, o2_2, o2_3, o2_4, o3_0, o3_1, o3_2, o3_3_g, o3_3, o3_4_g, o3_4⟩ := s
    intro stk 
    exact o_tree_clone_1 LW rfl rfl he_E_api_Step hz_E_api_Step he_E_api_Value hz_E_api_Value he_E_api_Pair hz_E_api_Pair he_E_int hz_E_int c_tree_clone h_tree_clone stk m (p_tree_clone_5 c_tree_clone) v1_0 v1_1 v1_2 v1_3 v1_4 v16 v17 v18 o2_0 o2_1 o2_2 o2_3 o2_4 o3_0 o3_1 o3_2 o3_3_g o3_3 o3_4_g o3_4 (s_tree_clone_5 c_tree_clone h_tree_clone m ) e
  · obtain ⟨v1_0, v1_1, v1_2, v1_3, v1_4, v16, v17, v18, o2_0, o2_1, o2_2, o2_3, o2_4, o3_0, o3_1, o3_2, o3_3_g, o3_3, o3_4_g, o3_4⟩ := s; obtain ⟨v1_0', v1_1', v1_2', v1_3', v1_4', v16', v17', v18', o2_0', o2_1', o2_2', o2_3', o2_4', o3_0', o3_1', o3_2', o3_3_g', o3_3', o3_4_g', o3_4'⟩ := t
    intro stk 
    exact (o_tree_clone_1 LW rfl rfl he_E_api_Step hz_E_api_Step he_E_api_Value hz_E_api_Value he_E_api_Pair hz_E_api_Pair he_E_int hz_E_int c_tree_clone h_tree_clone stk m (p_tree_clone_5 c_tree_clone) v1_0 v1_1 v1_2 v1_3 v1_4 v16 v17 v18 o2_0 o2_1 o2_2 o2_3 o2_4 o3_0 o3_1 o3_2 o3_3_g o3_3 o3_4_g o3_4 (s_tree_clone_5 c_tree_clone h_tree_clone m ) e).trans (ih stk )
noncomputable def p_tree_clone_0 (c_tree_clone : S_api_Value → Option (S_api_Value)) (v0_0 v0_1 : Int) (v0_2 : Str) (v0_3 : Ls0) (v0_4 : Ls1) : Option (S_api_Value) := b_tree_clone_0 Prims.real c_tree_clone (p_tree_clone_1 c_tree_clone) v0_0 v0_1 v0_2 v0_3 v0_4
theorem s_tree_clone_0 (c_tree_clone : S_api_Value → Option (S_api_Value)) (h_tree_clone : (C_tree_clone PC FC @XM E_api_Value E_api_Pair c_tree_clone)) (m : Nat)    : H_tree_clone_0 AT @XM E_api_Value E_api_Pair m  (p_tree_clone_0 c_tree_clone) := by
  intro v0_0 v0_1 v0_2 v0_3 v0_4 out hp stk 
  exact o_tree_clone_0 LW rfl rfl he_E_api_Step hz_E_api_Step he_E_api_Value hz_E_api_Value he_E_api_Pair hz_E_api_Pair he_E_int hz_E_int c_tree_clone h_tree_clone stk m (p_tree_clone_1 c_tree_clone) v0_0 v0_1 v0_2 v0_3 v0_4 (s_tree_clone_1 c_tree_clone h_tree_clone m ) hp
noncomputable def pk_tree_clone : Nat → (S_api_Value → Option (S_api_Value))
  | 0 => fun _ => none
  | k + 1 => fun ⟨v0_0, v0_1, v0_2, v0_3, v0_4⟩ => p_tree_clone_0 ((pk_tree_clone k)) v0_0 v0_1 v0_2 v0_3 v0_4
theorem sk_tree_clone : ∀ k, ((C_tree_clone PC FC @XM E_api_Value E_api_Pair ((pk_tree_clone k)))) ∧ True
  | 0 => by
    refine ⟨?_, trivial⟩
    · intro _ _ _ _ _ _ _ _ _ _ hp; exact nomatch (show none = some _ from hp)
  | k + 1 => by
    obtain ⟨ih0, _⟩ := sk_tree_clone k
    refine ⟨?_, trivial⟩
    · intro _ _ _ _ _ _ _ _ _ _ hp stk    
      exact pf_of (T := table) (G := glob) (f := 105) rfl rfl (s_tree_clone_0 ((pk_tree_clone k)) ih0 (topN stk + 1)    hp stk )
noncomputable def p_tree_clone : S_api_Value → Option (S_api_Value) := (pk_tree_clone 1000000)
theorem s_tree_clone : (C_tree_clone PC FC @XM E_api_Value E_api_Pair p_tree_clone) := (sk_tree_clone 1000000).1
noncomputable def p_tree_Clone_0  (v0_0 v0_1 : Int) (v0_2 : Str) (v0_3 : Ls0) (v0_4 : Ls1) : Option (S_api_Value) := b_tree_Clone_0 Prims.real p_tree_Right p_tree_clone  v0_0 v0_1 v0_2 v0_3 v0_4
theorem s_tree_Clone_0   (m : Nat)    : H_tree_Clone_0 AT @XM E_api_Value E_api_Pair m  p_tree_Clone_0 := by
  intro v0_0 v0_1 v0_2 v0_3 v0_4 out hp stk 
  exact o_tree_Clone_0 LW rfl rfl he_E_api_Step hz_E_api_Step he_E_api_Value hz_E_api_Value he_E_api_Pair hz_E_api_Pair he_E_int hz_E_int p_tree_Right p_tree_clone s_tree_Right s_tree_clone stk m v0_0 v0_1 v0_2 v0_3 v0_4 hp
noncomputable def p_tree_Clone : S_api_Value → Option (S_api_Value) := fun ⟨v0_0, v0_1, v0_2, v0_3, v0_4⟩ => p_tree_Clone_0  v0_0 v0_1 v0_2 v0_3 v0_4
theorem s_tree_Clone : (C_tree_Clone PC FC @XM E_api_Value E_api_Pair p_tree_Clone) := by
  intro _ _ _ _ _ _ _ _ _ _ hp stk    
  exact pf_of (T := table) (G := glob) (f := 61) rfl rfl (s_tree_Clone_0   (topN stk + 1)    hp stk )
noncomputable def p_path_changed__0_0  (v0_0 v0_1 : Int) (v0_2 : Str) (v0_3 : Ls0) (v0_4 : Ls1) (v1 : Ls2) (v2_c0_0 v2_c0_1 : Int) (v2_c0_2 : Str) (v2_c0_3 : Ls0) (v2_c0_4 : Ls1) : Option (S_api_Value × Int) := b_path_changed__0_0 Prims.real p_path_at__0 p_tree_Right p_tree_Clone  v0_0 v0_1 v0_2 v0_3 v0_4 v1 v2_c0_0 v2_c0_1 v2_c0_2 v2_c0_3 v2_c0_4
theorem s_path_changed__0_0   (m : Nat)    : H_path_changed__0_0 AT @XM E_api_Step E_api_Value E_api_Pair m  p_path_changed__0_0 := by
  intro v0_0 v0_1 v0_2 v0_3 v0_4 v1 v2_c0_0 v2_c0_1 v2_c0_2 v2_c0_3 v2_c0_4 out hp stk 
  exact o_path_changed__0_0 LW rfl rfl he_E_api_Step hz_E_api_Step he_E_api_Value hz_E_api_Value he_E_api_Pair hz_E_api_Pair he_E_int hz_E_int p_path_at__0 p_tree_Right p_tree_Clone s_path_at__0 s_tree_Right s_tree_Clone stk m v0_0 v0_1 v0_2 v0_3 v0_4 v1 v2_c0_0 v2_c0_1 v2_c0_2 v2_c0_3 v2_c0_4 hp
noncomputable def p_path_changed__0 : S_api_Value → Ls2 → Int → Int → Str → Ls0 → Ls1 → Option (S_api_Value × Int) := fun ⟨v0_0, v0_1, v0_2, v0_3, v0_4⟩ v1 v2_c0_0 v2_c0_1 v2_c0_2 v2_c0_3 v2_c0_4 => p_path_changed__0_0  v0_0 v0_1 v0_2 v0_3 v0_4 v1 v2_c0_0 v2_c0_1 v2_c0_2 v2_c0_3 v2_c0_4
theorem s_path_changed__0 : (C_path_changed__0 PC FC @XM E_api_Step E_api_Value E_api_Pair p_path_changed__0) := by
  intro _ _ _ _ _ _ _ _ _ _ _ _ _ _ _ _ _ hp stk    
  exact pf_of (T := table) (G := glob) (f := 64) rfl rfl (s_path_changed__0_0   (topN stk + 1)    hp stk )
noncomputable def p_path_Put_0  (v0_0 v0_1 : Int) (v0_2 : Str) (v0_3 : Ls0) (v0_4 : Ls1) (v1 : Ls2) (v2_0 v2_1 : Int) (v2_2 : Str) (v2_3 : Ls0) (v2_4 : Ls1) : Option (S_api_Value × Int) := b_path_Put_0 Prims.real p_tree_Right p_path_Right p_path_changed__0  v0_0 v0_1 v0_2 v0_3 v0_4 v1 v2_0 v2_1 v2_2 v2_3 v2_4
theorem s_path_Put_0   (m : Nat)    : H_path_Put_0 AT @XM E_api_Step E_api_Value E_api_Pair m  p_path_Put_0 := by
  intro v0_0 v0_1 v0_2 v0_3 v0_4 v1 v2_0 v2_1 v2_2 v2_3 v2_4 out hp stk 
  exact o_path_Put_0 LW rfl rfl he_E_api_Step hz_E_api_Step he_E_api_Value hz_E_api_Value he_E_api_Pair hz_E_api_Pair he_E_int hz_E_int p_tree_Right p_path_Right p_path_changed__0 s_tree_Right s_path_Right s_path_changed__0 stk m v0_0 v0_1 v0_2 v0_3 v0_4 v1 v2_0 v2_1 v2_2 v2_3 v2_4 hp
noncomputable def p_path_Put : S_api_Value → Ls2 → S_api_Value → Option (S_api_Value × Int) := fun ⟨v0_0, v0_1, v0_2, v0_3, v0_4⟩ v1 ⟨v2_0, v2_1, v2_2, v2_3, v2_4⟩ => p_path_Put_0  v0_0 v0_1 v0_2 v0_3 v0_4 v1 v2_0 v2_1 v2_2 v2_3 v2_4
theorem s_path_Put : (C_path_Put PC FC @XM E_api_Step E_api_Value E_api_Pair p_path_Put) := by
  intro _ _ _ _ _ _ _ _ _ _ _ _ _ _ _ _ _ hp stk    
  exact pf_of (T := table) (G := glob) (f := 35) rfl rfl (s_path_Put_0   (topN stk + 1)    hp stk )
noncomputable def p_cascaderef03_Same_6 (c_cascaderef03_Same : S_api_Value → S_api_Value → Option (Bool)) (v2_0 v2_1 : Int) (v2_2 : Str) (v2_3 : Ls0) (v2_4 : Ls1) (v3_0 v3_1 : Int) (v3_2 : Str) (v3_3 : Ls0) (v3_4 : Ls1) (v6 : Int) : Option (Bool) := Prims.real.loop (fun (s : Int × Int × Str × Ls0 × Ls1 × Int × Int × Str × Ls0 × Ls1 × Int) => match s with | (v2_0, v2_1, v2_2, v2_3, v2_4, v3_0, v3_1, v3_2, v3_3, v3_4, v6) => b_cascaderef03_Same_6 Prims.real c_cascaderef03_Same  v2_0 v2_1 v2_2 v2_3 v2_4 v3_0 v3_1 v3_2 v3_3 v3_4 v6) (v2_0, v2_1, v2_2, v2_3, v2_4, v3_0, v3_1, v3_2, v3_3, v3_4, v6)
theorem u_cascaderef03_Same_6 (c_cascaderef03_Same : S_api_Value → S_api_Value → Option (Bool)) (v2_0 v2_1 : Int) (v2_2 : Str) (v2_3 : Ls0) (v2_4 : Ls1) (v3_0 v3_1 : Int) (v3_2 : Str) (v3_3 : Ls0) (v3_4 : Ls1) (v6 : Int) : p_cascaderef03_Same_6 c_cascaderef03_Same v2_0 v2_1 v2_2 v2_3 v2_4 v3_0 v3_1 v3_2 v3_3 v3_4 v6 = match b_cascaderef03_Same_6 Prims.real c_cascaderef03_Same  v2_0 v2_1 v2_2 v2_3 v2_4 v3_0 v3_1 v3_2 v3_3 v3_4 v6 with
    | some (.inl (v2_0', v2_1', v2_2', v2_3', v2_4', v3_0', v3_1', v3_2', v3_3', v3_4', v6')) => p_cascaderef03_Same_6 c_cascaderef03_Same v2_0' v2_1' v2_2' v2_3' v2_4' v3_0' v3_1' v3_2' v3_3' v3_4' v6'
    | some (.inr r) => some r
    | none => none := by
  show Pr.loop _ _ = _
  rw [Pr.loop_eq]
  try dsimp only
  generalize b_cascaderef03_Same_6 Prims.real c_cascaderef03_Same  v2_0 v2_1 v2_2 v2_3 v2_4 v3_0 v3_1 v3_2 v3_3 v3_4 v6 = y
  cases y with
  | none => rfl
  | some y => cases y <;> rfl
theorem s_cascaderef03_Same_6 (c_cascaderef03_Same : S_api_Value → S_api_Value → Option (Bool)) (h_cascaderef03_Same : (C_cascaderef03_Same PC FC @XM E_api_Value E_api_Pair c_cascaderef03_Same)) (m : Nat)    : H_cascaderef03_Same_6 AT @XM E_api_Value E_api_Pair m  (p_cascaderef03_Same_6 c_cascaderef03_Same) := by
  intro v2_0 v2_1 v2_2 v2_3 v2_4 v3_0 v3_1 v3_2 v3_3 v3_4 v6 out hp stk 
  refine LW.ind _ (fun (s : Int × Int × Str × Ls0 × Ls1 × Int × Int × Str × Ls0 × Ls1 × Int) o => match s with | (v2_0, v2_1, v2_2, v2_3, v2_4, v3_0, v3_1, v3_2, v3_3, v3_4, v6) => ∀ (stk : Stk), (A_cascaderef03_Same_6 AT @XM E_api_Value E_api_Pair m  v2_0 v2_1 v2_2 v2_3 v2_4 v3_0 v3_1 v3_2 v3_3 v3_4 v6 stk) = (O_cascaderef03_Same  m  stk) o) (fun s r e => ?_) (fun s t r e ih => ?_) (v2_0, v2_1, v2_2, v2_3, v2_4, v3_0, v3_1, v3_2, v3_3, v3_4, v6) out hp stk 
  · obtain ⟨v2_0, v2_1, v2_2, v2_3, v2_4, v3_0, v3_1, v3_2, v3_3, v3_4, v6⟩ := s
    intro stk 
    exact o_cascaderef03_Same_6 LW rfl rfl he_E_api_Step hz_E_api_Step he_E_api_Value hz_E_api_Value he_E_api_Pair hz_E_api_Pair he_E_int hz_E_int c_cascaderef03_Same h_cascaderef03_Same stk m v2_0 v2_1 v2_2 v2_3 v2_4 v3_0 v3_1 v3_2 v3_3 v3_4 v6 e
  · obtain ⟨v2_0, v2_1, v2_2, v2_3, v2_4, v3_0, v3_1, v3_2, v3_3, v3_4, v6⟩ := s; obtain ⟨v2_0', v2_1', v2_2', v2_3', v2_4', v3_0', v3_1', v3_2', v3_3', v3_4', v6'⟩ := t
    intro stk 
    exact (o_cascaderef03_Same_6 LW rfl rfl he_E_api_Step hz_E_api_Step he_E_api_Value hz_E_api_Value he_E_api_Pair hz_E_api_Pair he_E_int hz_E_int c_cascaderef03_Same h_cascaderef03_Same stk m v2_0 v2_1 v2_2 v2_3 v2_4 v3_0 v3_1 v3_2 v3_3 v3_4 v6 e).trans (ih stk )
noncomputable def p_cascaderef03_Same_2 (c_cascaderef03_Same : S_api_Value → S_api_Value → Option (Bool)) (v2_0 v2_1 : Int) (v2_2 : Str) (v2_3 : Ls0) (v2_4 : Ls1) (v3_0 v3_1 : Int) (v3_2 : Str) (v3_3 : Ls0) (v3_4 : Ls1) (v5 : Int) : Option (Bool) := Prims.real.loop (fun (s : Int × Int × Str × Ls0 × Ls1 × Int × Int × Str × Ls0 × Ls1 × Int) => match s with | (v2_0, v2_1, v2_2, v2_3, v2_4, v3_0, v3_1, v3_2, v3_3, v3_4, v5) => b_cascaderef03_Same_2 Prims.real c_cascaderef03_Same (p_cascaderef03_Same_6 c_cascaderef03_Same) v2_0 v2_1 v2_2 v2_3 v2_4 v3_0 v3_1 v3_2 v3_3 v3_4 v5) (v2_0, v2_1, v2_2, v2_3, v2_4, v3_0, v3_1, v3_2, v3_3, v3_4, v5)
theorem u_cascaderef03_Same_2 (c_cascaderef03_Same : S_api_Value → S_api_Value → Option (Bool)) (v2_0 v2_1 : Int) (v2_2 : Str) (v2_3 : Ls0) (v2_4 : Ls1) (v3_0 v3_1 : Int) (v3_2 : Str) (v3_3 : Ls0) (v3_4 : Ls1) (v5 : Int) : p_cascaderef03_Same_2 c_cascaderef03_Same v2_0 v2_1 v2_2 v2_3 v2_4 v3_0 v3_1 v3_2 v3_3 v3_4 v5 = match b_cascaderef03_Same_2 Prims.real c_cascaderef03_Same (p_cascaderef03_Same_6 c_cascaderef03_Same) v2_0 v2_1 v2_2 v2_3 v2_4 v3_0 v3_1 v3_2 v3_3 v3_4 v5 with
    | some (.inl (v2_0', v2_1', v2_2', v2_3', v2_4', v3_0', v3_1', v3_2', v3_3', v3_4', v5')) => p_cascaderef03_Same_2 c_cascaderef03_Same v2_0' v2_1' v2_2' v2_3' v2_4' v3_0' v3_1' v3_2' v3_3' v3_4' v5'
    | some (.inr r) => some r
    | none => none := by
  show Pr.loop _ _ = _
  rw [Pr.loop_eq]
  try dsimp only
  generalize b_cascaderef03_Same_2 Prims.real c_cascaderef03_Same (p_cascaderef03_Same_6 c_cascaderef03_Same) v2_0 v2_1 v2_2 v2_3 v2_4 v3_0 v3_1 v3_2 v3_3 v3_4 v5 = y
  cases y with
  | none => rfl
  | some y => cases y <;> rfl
theorem s_cascaderef03_Same_2 (c_cascaderef03_Same : S_api_Value → S_api_Value → Option (Bool)) (h_cascaderef03_Same : (C_cascaderef03_Same PC FC @XM E_api_Value E_api_Pair c_cascaderef03_Same)) (m : Nat)    : H_cascaderef03_Same_2 AT @XM E_api_Value E_api_Pair m  (p_cascaderef03_Same_2 c_cascaderef03_Same) := by
  intro v2_0 v2_1 v2_2 v2_3 v2_4 v3_0 v3_1 v3_2 v3_3 v3_4 v5 out hp stk 
  refine LW.ind _ (fun (s : Int × Int × Str × Ls0 × Ls1 × Int × Int × Str × Ls0 × Ls1 × Int) o => match s with | (v2_0, v2_1, v2_2, v2_3, v2_4, v3_0, v3_1, v3_2, v3_3, v3_4, v5) => ∀ (stk : Stk), (A_cascaderef03_Same_2 AT @XM E_api_Value E_api_Pair m  v2_0 v2_1 v2_2 v2_3 v2_4 v3_0 v3_1 v3_2 v3_3 v3_4 v5 stk) = (O_cascaderef03_Same  m  stk) o) (fun s r e => ?_) (fun s t r e ih => ?_) (v2_0, v2_1, v2_2, v2_3, v2_4, v3_0, v3_1, v3_2, v3_3, v3_4, v5) out hp stk 
  · obtain ⟨v2_0, v2_1, v2_2, v2_3, v2_4, v3_0, v3_1, v3_2, v3_3, v3_4, v5⟩ := s
    intro stk 
    exact o_cascaderef03_Same_2 LW rfl rfl he_E_api_Step hz_E_api_Step he_E_api_Value hz_E_api_Value he_E_api_Pair hz_E_api_Pair he_E_int hz_E_int c_cascaderef03_Same h_cascaderef03_Same stk m (p_cascaderef03_Same_6 c_cascaderef03_Same) v2_0 v2_1 v2_2 v2_3 v2_4 v3_0 v3_1 v3_2 v3_3 v3_4 v5 (s_cascaderef03_Same_6 c_cascaderef03_Same h_cascaderef03_Same m ) e
  · obtain ⟨v2_0, v2_1, v2_2, v2_3, v2_4, v3_0, v3_1, v3_2, v3_3, v3_4, v5⟩ := s; obtain ⟨v2_0', v2_1', v2_2', v2_3', v2_4', v3_0', v3_1', v3_2', v3_3', v3_4', v5'⟩ := t
    intro stk 
    exact (o_cascaderef03_Same_2 LW rfl rfl he_E_api_Step hz_E_api_Step he_E_api_Value hz_E_api_Value he_E_api_Pair hz_E_api_Pair he_E_int hz_E_int c_cascaderef03_Same h_cascaderef03_Same stk m (p_cascaderef03_Same_6 c_cascaderef03_Same) v2_0 v2_1 v2_2 v2_3 v2_4 v3_0 v3_1 v3_2 v3_3 v3_4 v5 (s_cascaderef03_Same_6 c_cascaderef03_Same h_cascaderef03_Same m ) e).trans (ih stk )
noncomputable def p_cascaderef03_Same_0 (c_cascaderef03_Same : S_api_Value → S_api_Value → Option (Bool)) (v0_0 v0_1 : Int) (v0_2 : Str) (v0_3 : Ls0) (v0_4 : Ls1) (v1_0 v1_1 : Int) (v1_2 : Str) (v1_3 : Ls0) (v1_4 : Ls1) : Option (Bool) := b_cascaderef03_Same_0 Prims.real c_cascaderef03_Same (p_cascaderef03_Same_2 c_cascaderef03_Same) v0_0 v0_1 v0_2 v0_3 v0_4 v1_0 v1_1 v1_2 v1_3 v1_4
theorem s_cascaderef03_Same_0 (c_cascaderef03_Same : S_api_Value → S_api_Value → Option (Bool)) (h_cascaderef03_Same : (C_cascaderef03_Same PC FC @XM E_api_Value E_api_Pair c_cascaderef03_Same)) (m : Nat)    : H_cascaderef03_Same_0 AT @XM E_api_Value E_api_Pair m  (p_cascaderef03_Same_0 c_cascaderef03_Same) := by
  intro v0_0 v0_1 v0_2 v0_3 v0_4 v1_0 v1_1 v1_2 v1_3 v1_4 out hp stk 
  exact o_cascaderef03_Same_0 LW rfl rfl he_E_api_Step hz_E_api_Step he_E_api_Value hz_E_api_Value he_E_api_Pair hz_E_api_Pair he_E_int hz_E_int c_cascaderef03_Same h_cascaderef03_Same stk m (p_cascaderef03_Same_2 c_cascaderef03_Same) v0_0 v0_1 v0_2 v0_3 v0_4 v1_0 v1_1 v1_2 v1_3 v1_4 (s_cascaderef03_Same_2 c_cascaderef03_Same h_cascaderef03_Same m ) hp
noncomputable def pk_cascaderef03_Same : Nat → (S_api_Value → S_api_Value → Option (Bool))
  | 0 => fun _ _ => none
  | k + 1 => fun ⟨v0_0, v0_1, v0_2, v0_3, v0_4⟩ ⟨v1_0, v1_1, v1_2, v1_3, v1_4⟩ => p_cascaderef03_Same_0 ((pk_cascaderef03_Same k)) v0_0 v0_1 v0_2 v0_3 v0_4 v1_0 v1_1 v1_2 v1_3 v1_4
theorem sk_cascaderef03_Same : ∀ k, ((C_cascaderef03_Same PC FC @XM E_api_Value E_api_Pair ((pk_cascaderef03_Same k)))) ∧ True
  | 0 => by
    refine ⟨?_, trivial⟩
    · intro _ _ _ _ _ _ _ _ _ _ _ hp; exact nomatch (show none = some _ from hp)
  | k + 1 => by
    obtain ⟨ih0, _⟩ := sk_cascaderef03_Same k
    refine ⟨?_, trivial⟩
    · intro _ _ _ _ _ _ _ _ _ _ _ hp stk    
      exact pf_of (T := table) (G := glob) (f := 22) rfl rfl (s_cascaderef03_Same_0 ((pk_cascaderef03_Same k)) ih0 (topN stk + 1)    hp stk )
noncomputable def p_cascaderef03_Same : S_api_Value → S_api_Value → Option (Bool) := (pk_cascaderef03_Same 1000000)
theorem s_cascaderef03_Same : (C_cascaderef03_Same PC FC @XM E_api_Value E_api_Pair p_cascaderef03_Same) := (sk_cascaderef03_Same 1000000).1
noncomputable def p_cascadelaw06_zero_0  (v0_0 v0_1 : Int) (v0_2 : Str) (v0_3 : Ls0) (v0_4 : Ls1) : Option (Bool) := b_cascadelaw06_zero_0 Prims.real p_cascaderef03_Same  v0_0 v0_1 v0_2 v0_3 v0_4
theorem s_cascadelaw06_zero_0   (m : Nat)    : H_cascadelaw06_zero_0 AT @XM E_api_Value E_api_Pair m  p_cascadelaw06_zero_0 := by
  intro v0_0 v0_1 v0_2 v0_3 v0_4 out hp stk 
  exact o_cascadelaw06_zero_0 LW rfl rfl he_E_api_Step hz_E_api_Step he_E_api_Value hz_E_api_Value he_E_api_Pair hz_E_api_Pair he_E_int hz_E_int p_cascaderef03_Same s_cascaderef03_Same stk m v0_0 v0_1 v0_2 v0_3 v0_4 hp
noncomputable def p_cascadelaw06_zero : S_api_Value → Option (Bool) := fun ⟨v0_0, v0_1, v0_2, v0_3, v0_4⟩ => p_cascadelaw06_zero_0  v0_0 v0_1 v0_2 v0_3 v0_4
theorem s_cascadelaw06_zero : (C_cascadelaw06_zero PC FC @XM E_api_Value E_api_Pair p_cascadelaw06_zero) := by
  intro _ _ _ _ _ _ hp stk    
  exact pf_of (T := table) (G := glob) (f := 20) rfl rfl (s_cascadelaw06_zero_0   (topN stk + 1)    hp stk )
noncomputable def p_path_Find_1__0_0  (v0_0 v0_1 : Int) (v0_2 : Str) (v0_3 : Ls0) (v0_4 : Ls1) (L0_0 L0_1 : Int) (L0_2 : Str) (L0_3 : Ls0) (L0_4 : Ls1) : Option (S_api_Value × Int × Int × Int × Str × Ls0 × Ls1) := b_path_Find_1__0_0 Prims.real p_tree_Clone  v0_0 v0_1 v0_2 v0_3 v0_4 L0_0 L0_1 L0_2 L0_3 L0_4
theorem s_path_Find_1__0_0   (m : Nat) (n0 : Nat) (k0 : List Nat) (hl0 : n0 < m)  : H_path_Find_1__0_0 AT @XM setO E_api_Value E_api_Pair m n0 k0 p_path_Find_1__0_0 := by
  intro v0_0 v0_1 v0_2 v0_3 v0_4 L0_0 L0_1 L0_2 L0_3 L0_4 out hp stk hg0
  exact o_path_Find_1__0_0 LW rfl rfl he_E_api_Step hz_E_api_Step he_E_api_Value hz_E_api_Value he_E_api_Pair hz_E_api_Pair he_E_int hz_E_int p_tree_Clone s_tree_Clone stk m n0 k0 hl0 v0_0 v0_1 v0_2 v0_3 v0_4 L0_0 L0_1 L0_2 L0_3 L0_4 hg0 hp
noncomputable def p_path_Find_1__0 : S_api_Value → Int → Int → Str → Ls0 → Ls1 → Option (S_api_Value × Int × Int × Int × Str × Ls0 × Ls1) := fun ⟨v0_0, v0_1, v0_2, v0_3, v0_4⟩ L0_0 L0_1 L0_2 L0_3 L0_4 => p_path_Find_1__0_0  v0_0 v0_1 v0_2 v0_3 v0_4 L0_0 L0_1 L0_2 L0_3 L0_4
theorem s_path_Find_1__0 : (C_path_Find_1__0 FC @XM setO E_api_Value E_api_Pair p_path_Find_1__0) := by
  intro _ _ _ _ _ _ _ _ _ _ _ _ _ _ _ _ _ _ _ _ _ hp stk n0 k0 hg0 hl0 
  exact fcall_of (T := table) (G := glob) (f := 60) rfl rfl (s_path_Find_1__0_0   (topN stk + 1) n0 k0 (Nat.lt_succ_of_le hl0)  hp stk hg0)
noncomputable def p_path_at__1_2 (c_path_at__1 : S_api_Value → Ls2 → Int → Int → Str → Ls0 → Ls1 → Option (S_api_Value × Int × Int × Int × Str × Ls0 × Ls1)) (o6_0 o6_1 : Int) (o6_2 : Str) (o6_3 : Ls0) (o6_4 : Ls1) (L0_0 L0_1 : Int) (L0_2 : Str) (L0_3 : Ls0) (L0_4 : Ls1) : Option (S_api_Value × Int × Int × Int × Str × Ls0 × Ls1) := b_path_at__1_2 Prims.real p_path_Find_1__0 p_slices_Clone__api_Value_api_Value__0 c_path_at__1 p_slices_IndexFunc__api_Pair_api_Pair__1 p_slices_Clone__api_Pair_api_Pair__0  o6_0 o6_1 o6_2 o6_3 o6_4 L0_0 L0_1 L0_2 L0_3 L0_4
theorem s_path_at__1_2 (c_path_at__1 : S_api_Value → Ls2 → Int → Int → Str → Ls0 → Ls1 → Option (S_api_Value × Int × Int × Int × Str × Ls0 × Ls1)) (h_path_at__1 : (C_path_at__1 FC @XM setO E_api_Step E_api_Value E_api_Pair c_path_at__1)) (m : Nat) (n0 : Nat) (k0 : List Nat) (hl0 : n0 < m)  : H_path_at__1_2 AT @XM setO E_api_Value E_api_Pair m n0 k0 (p_path_at__1_2 c_path_at__1) := by
  intro o6_0 o6_1 o6_2 o6_3 o6_4 L0_0 L0_1 L0_2 L0_3 L0_4 out hp stk hg0
  exact o_path_at__1_2 LW rfl rfl he_E_api_Step hz_E_api_Step he_E_api_Value hz_E_api_Value he_E_api_Pair hz_E_api_Pair he_E_int hz_E_int p_path_Find_1__0 p_slices_Clone__api_Value_api_Value__0 c_path_at__1 p_slices_IndexFunc__api_Pair_api_Pair__1 p_slices_Clone__api_Pair_api_Pair__0 s_path_Find_1__0 s_slices_Clone__api_Value_api_Value__0 h_path_at__1 s_slices_IndexFunc__api_Pair_api_Pair__1 s_slices_Clone__api_Pair_api_Pair__0 stk m n0 k0 hl0 o6_0 o6_1 o6_2 o6_3 o6_4 L0_0 L0_1 L0_2 L0_3 L0_4 hg0 hp
noncomputable def p_path_at__1_0 (c_path_at__1 : S_api_Value → Ls2 → Int → Int → Str → Ls0 → Ls1 → Option (S_api_Value × Int × Int × Int × Str × Ls0 × Ls1)) (v0_0 v0_1 : Int) (v0_2 : Str) (v0_3 : Ls0) (v0_4 : Ls1) (v1 : Ls2) (L0_0 L0_1 : Int) (L0_2 : Str) (L0_3 : Ls0) (L0_4 : Ls1) : Option (S_api_Value × Int × Int × Int × Str × Ls0 × Ls1) := b_path_at__1_0 Prims.real p_path_Find_1__0 p_slices_Clone__api_Value_api_Value__0 c_path_at__1 p_slices_IndexFunc__api_Pair_api_Pair__1 p_slices_Clone__api_Pair_api_Pair__0 (p_path_at__1_2 c_path_at__1) v0_0 v0_1 v0_2 v0_3 v0_4 v1 L0_0 L0_1 L0_2 L0_3 L0_4
theorem s_path_at__1_0 (c_path_at__1 : S_api_Value → Ls2 → Int → Int → Str → Ls0 → Ls1 → Option (S_api_Value × Int × Int × Int × Str × Ls0 × Ls1)) (h_path_at__1 : (C_path_at__1 FC @XM setO E_api_Step E_api_Value E_api_Pair c_path_at__1)) (m : Nat) (n0 : Nat) (k0 : List Nat) (hl0 : n0 < m)  : H_path_at__1_0 AT @XM setO E_api_Step E_api_Value E_api_Pair m n0 k0 (p_path_at__1_0 c_path_at__1) := by
  intro v0_0 v0_1 v0_2 v0_3 v0_4 v1 L0_0 L0_1 L0_2 L0_3 L0_4 out hp stk hg0
  exact o_path_at__1_0 LW rfl rfl he_E_api_Step hz_E_api_Step he_E_api_Value hz_E_api_Value he_E_api_Pair hz_E_api_Pair he_E_int hz_E_int p_path_Find_1__0 p_slices_Clone__api_Value_api_Value__0 c_path_at__1 p_slices_IndexFunc__api_Pair_api_Pair__1 p_slices_Clone__api_Pair_api_Pair__0 s_path_Find_1__0 s_slices_Clone__api_Value_api_Value__0 h_path_at__1 s_slices_IndexFunc__api_Pair_api_Pair__1 s_slices_Clone__api_Pair_api_Pair__0 stk m n0 k0 hl0 (p_path_at__1_2 c_path_at__1) v0_0 v0_1 v0_2 v0_3 v0_4 v1 L0_0 L0_1 L0_2 L0_3 L0_4 hg0 (s_path_at__1_2 c_path_at__1 h_path_at__1 m n0 k0 hl0 ) hp
noncomputable def pk_path_at__1 : Nat → (S_api_Value → Ls2 → Int → Int → Str → Ls0 → Ls1 → Option (S_api_Value × Int × Int × Int × Str × Ls0 × Ls1))
  | 0 => fun _ _ _ _ _ _ _ => none
  | k + 1 => fun ⟨v0_0, v0_1, v0_2, v0_3, v0_4⟩ v1 L0_0 L0_1 L0_2 L0_3 L0_4 => p_path_at__1_0 ((pk_path_at__1 k)) v0_0 v0_1 v0_2 v0_3 v0_4 v1 L0_0 L0_1 L0_2 L0_3 L0_4
theorem sk_path_at__1 : ∀ k, ((C_path_at__1 FC @XM setO E_api_Step E_api_Value E_api_Pair ((pk_path_at__1 k)))) ∧ True
  | 0 => by
    refine ⟨?_, trivial⟩
    · intro _ _ _ _ _ _ _ _ _ _ _ _ _ _ _ _ _ _ _ _ _ _ hp; exact nomatch (show none = some _ from hp)
  | k + 1 => by
    obtain ⟨ih0, _⟩ := sk_path_at__1 k
    refine ⟨?_, trivial⟩
    · intro _ _ _ _ _ _ _ _ _ _ _ _ _ _ _ _ _ _ _ _ _ _ hp stk n0 k0 hg0 hl0 
      exact fcall_of (T := table) (G := glob) (f := 59) rfl rfl (s_path_at__1_0 ((pk_path_at__1 k)) ih0 (topN stk + 1) n0 k0 (Nat.lt_succ_of_le hl0)  hp stk hg0)
noncomputable def p_path_at__1 : S_api_Value → Ls2 → Int → Int → Str → Ls0 → Ls1 → Option (S_api_Value × Int × Int × Int × Str × Ls0 × Ls1) := (pk_path_at__1 1000000)
theorem s_path_at__1 : (C_path_at__1 FC @XM setO E_api_Step E_api_Value E_api_Pair p_path_at__1) := (sk_path_at__1 1000000).1
noncomputable def p_path_Find_0  (v0_0 v0_1 : Int) (v0_2 : Str) (v0_3 : Ls0) (v0_4 : Ls1) (v1 : Ls2) : Option (S_api_Value × Bool) := b_path_Find_0 Prims.real p_tree_Right p_path_Right p_path_at__1  v0_0 v0_1 v0_2 v0_3 v0_4 v1
theorem s_path_Find_0   (m : Nat)    : H_path_Find_0 AT @XM E_api_Step E_api_Value E_api_Pair m  p_path_Find_0 := by
  intro v0_0 v0_1 v0_2 v0_3 v0_4 v1 out hp stk 
  exact o_path_Find_0 LW rfl rfl he_E_api_Step hz_E_api_Step he_E_api_Value hz_E_api_Value he_E_api_Pair hz_E_api_Pair he_E_int hz_E_int p_tree_Right p_path_Right p_path_at__1 s_tree_Right s_path_Right s_path_at__1 stk m v0_0 v0_1 v0_2 v0_3 v0_4 v1 hp
noncomputable def p_path_Find : S_api_Value → Ls2 → Option (S_api_Value × Bool) := fun ⟨v0_0, v0_1, v0_2, v0_3, v0_4⟩ v1 => p_path_Find_0  v0_0 v0_1 v0_2 v0_3 v0_4 v1
theorem s_path_Find : (C_path_Find PC FC @XM E_api_Step E_api_Value E_api_Pair p_path_Find) := by
  intro _ _ _ _ _ _ _ _ _ _ _ _ hp stk    
  exact pf_of (T := table) (G := glob) (f := 32) rfl rfl (s_path_Find_0   (topN stk + 1)    hp stk )
noncomputable def p_cascaderef06_Same_4  (v0 v1 : Ls2) (v5 : Int) : Option ((Ls2 × Ls2 × Int) ⊕ (Bool)) := b_cascaderef06_Same_4 Prims.real   v0 v1 v5
theorem s_cascaderef06_Same_4   (m : Nat)    : H_cascaderef06_Same_4 AT @XM E_api_Step m  p_cascaderef06_Same_4 := by
  intro v0 v1 v5 out hp stk 
  exact o_cascaderef06_Same_4 LW rfl rfl he_E_api_Step hz_E_api_Step he_E_api_Value hz_E_api_Value he_E_api_Pair hz_E_api_Pair he_E_int hz_E_int stk m v0 v1 v5 hp
noncomputable def p_cascaderef06_Same_2  (v0 v1 : Ls2) (v5 : Int) : Option (Bool) := Prims.real.loop (fun (s : Ls2 × Ls2 × Int) => match s with | (v0, v1, v5) => b_cascaderef06_Same_2 Prims.real  p_cascaderef06_Same_4 v0 v1 v5) (v0, v1, v5)
theorem u_cascaderef06_Same_2  (v0 v1 : Ls2) (v5 : Int) : p_cascaderef06_Same_2  v0 v1 v5 = match b_cascaderef06_Same_2 Prims.real  p_cascaderef06_Same_4 v0 v1 v5 with
    | some (.inl (v0', v1', v5')) => p_cascaderef06_Same_2  v0' v1' v5'
    | some (.inr r) => some r
    | none => none := by
  show Pr.loop _ _ = _
  rw [Pr.loop_eq]
  try dsimp only
  generalize b_cascaderef06_Same_2 Prims.real  p_cascaderef06_Same_4 v0 v1 v5 = y
  cases y with
  | none => rfl
  | some y => cases y <;> rfl
theorem s_cascaderef06_Same_2   (m : Nat)    : H_cascaderef06_Same_2 AT @XM E_api_Step m  p_cascaderef06_Same_2 := by
  intro v0 v1 v5 out hp stk 
  refine LW.ind _ (fun (s : Ls2 × Ls2 × Int) o => match s with | (v0, v1, v5) => ∀ (stk : Stk), (A_cascaderef06_Same_2 AT @XM E_api_Step m  v0 v1 v5 stk) = (O_cascaderef06_Same  m  stk) o) (fun s r e => ?_) (fun s t r e ih => ?_) (v0, v1, v5) out hp stk 
  · obtain ⟨v0, v1, v5⟩ := s
    intro stk 
    exact o_cascaderef06_Same_2 LW rfl rfl he_E_api_Step hz_E_api_Step he_E_api_Value hz_E_api_Value he_E_api_Pair hz_E_api_Pair he_E_int hz_E_int stk m p_cascaderef06_Same_4 v0 v1 v5 (s_cascaderef06_Same_4 m ) e
  · obtain ⟨v0, v1, v5⟩ := s; obtain ⟨v0', v1', v5'⟩ := t
    intro stk 
    exact (o_cascaderef06_Same_2 LW rfl rfl he_E_api_Step hz_E_api_Step he_E_api_Value hz_E_api_Value he_E_api_Pair hz_E_api_Pair he_E_int hz_E_int stk m p_cascaderef06_Same_4 v0 v1 v5 (s_cascaderef06_Same_4 m ) e).trans (ih stk )
noncomputable def p_cascaderef06_Same_0  (v0 v1 : Ls2) : Option (Bool) := b_cascaderef06_Same_0 Prims.real  p_cascaderef06_Same_2 v0 v1
theorem s_cascaderef06_Same_0   (m : Nat)    : H_cascaderef06_Same_0 AT @XM E_api_Step m  p_cascaderef06_Same_0 := by
  intro v0 v1 out hp stk 
  exact o_cascaderef06_Same_0 LW rfl rfl he_E_api_Step hz_E_api_Step he_E_api_Value hz_E_api_Value he_E_api_Pair hz_E_api_Pair he_E_int hz_E_int stk m p_cascaderef06_Same_2 v0 v1 (s_cascaderef06_Same_2 m ) hp
noncomputable def p_cascaderef06_Same : Ls2 → Ls2 → Option (Bool) := fun v0 v1 => p_cascaderef06_Same_0  v0 v1
theorem s_cascaderef06_Same : (C_cascaderef06_Same PC FC @XM E_api_Step p_cascaderef06_Same) := by
  intro _ _ _ hp stk    
  exact pf_of (T := table) (G := glob) (f := 24) rfl rfl (s_cascaderef06_Same_0   (topN stk + 1)    hp stk )
noncomputable def p_cascaderef06_Under_0  (v0 v1 : Ls2) : Option (Bool) := b_cascaderef06_Under_0 Prims.real p_cascaderef06_Same  v0 v1
theorem s_cascaderef06_Under_0   (m : Nat)    : H_cascaderef06_Under_0 AT @XM E_api_Step m  p_cascaderef06_Under_0 := by
  intro v0 v1 out hp stk 
  exact o_cascaderef06_Under_0 LW rfl rfl he_E_api_Step hz_E_api_Step he_E_api_Value hz_E_api_Value he_E_api_Pair hz_E_api_Pair he_E_int hz_E_int p_cascaderef06_Same s_cascaderef06_Same stk m v0 v1 hp
noncomputable def p_cascaderef06_Under : Ls2 → Ls2 → Option (Bool) := fun v0 v1 => p_cascaderef06_Under_0  v0 v1
theorem s_cascaderef06_Under : (C_cascaderef06_Under PC FC @XM E_api_Step p_cascaderef06_Under) := by
  intro _ _ _ hp stk    
  exact pf_of (T := table) (G := glob) (f := 37) rfl rfl (s_cascaderef06_Under_0   (topN stk + 1)    hp stk )
noncomputable def p_cascadelaw06_PathKeeps_0  (v0_0 v0_1 : Int) (v0_2 : Str) (v0_3 : Ls0) (v0_4 : Ls1) (v1_0 v1_1 : Int) (v1_2 : Str) (v1_3 : Ls0) (v1_4 : Ls1) (v2_0 v2_1 : Ls2) : Option (Bool) := b_cascadelaw06_PathKeeps_0 Prims.real p_cascadelaw06_awake p_cascaderef03_Few p_cascaderef06_Few p_path_Put p_cascadelaw06_zero p_path_Find p_cascaderef03_Same p_cascaderef06_Under  v0_0 v0_1 v0_2 v0_3 v0_4 v1_0 v1_1 v1_2 v1_3 v1_4 v2_0 v2_1
theorem s_cascadelaw06_PathKeeps_0   (m : Nat)    : H_cascadelaw06_PathKeeps_0 AT @XM E_api_Step E_api_Value E_api_Pair m  p_cascadelaw06_PathKeeps_0 := by
  intro v0_0 v0_1 v0_2 v0_3 v0_4 v1_0 v1_1 v1_2 v1_3 v1_4 v2_0 v2_1 out hp stk 
  exact o_cascadelaw06_PathKeeps_0 LW rfl rfl he_E_api_Step hz_E_api_Step he_E_api_Value hz_E_api_Value he_E_api_Pair hz_E_api_Pair he_E_int hz_E_int p_cascadelaw06_awake p_cascaderef03_Few p_cascaderef06_Few p_path_Put p_cascadelaw06_zero p_path_Find p_cascaderef03_Same p_cascaderef06_Under s_cascadelaw06_awake s_cascaderef03_Few s_cascaderef06_Few s_path_Put s_cascadelaw06_zero s_path_Find s_cascaderef03_Same s_cascaderef06_Under stk m v0_0 v0_1 v0_2 v0_3 v0_4 v1_0 v1_1 v1_2 v1_3 v1_4 v2_0 v2_1 hp
noncomputable def p_cascadelaw06_PathKeeps : S_api_Value → S_api_Value → S__2_api_Step → Option (Bool) := fun ⟨v0_0, v0_1, v0_2, v0_3, v0_4⟩ ⟨v1_0, v1_1, v1_2, v1_3, v1_4⟩ ⟨v2_0, v2_1⟩ => p_cascadelaw06_PathKeeps_0  v0_0 v0_1 v0_2 v0_3 v0_4 v1_0 v1_1 v1_2 v1_3 v1_4 v2_0 v2_1
theorem s_cascadelaw06_PathKeeps : (C_cascadelaw06_PathKeeps PC FC @XM E_api_Step E_api_Value E_api_Pair p_cascadelaw06_PathKeeps) := by
  intro _ _ _ _ _ _ _ _ _ _ _ _ _ hp stk    
  exact pf_of (T := table) (G := glob) (f := 8) rfl rfl (s_cascadelaw06_PathKeeps_0   (topN stk + 1)    hp stk )
end Go.Abs.T
