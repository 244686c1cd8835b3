import Derived.Test.YtacabmodmbcldaaDoorWTb
import Derived.KernelRfl
set_option linter.unusedVariables false
namespace Go.Abs.T
set_option maxRecDepth 100000
theorem table_ok : ∀ f kf, table f = some kf → kf.ok = true := by
  intro f kf h
  unfold table at h
  split at h <;> first | (cases h; done) | (cases h; kernel_rfl)
theorem LW : KLaws (oldT table) iterW glob (callW (oldT table) glob) (sysW table glob).pcall (sysW table glob).fcall (sysW table glob).kcall (List.length) (fun xs i => xs[i]?) (fun xs lo hi => (xs.take hi).drop lo) (fun xs ys => xs ++ ys) (fun xs i x => xs.set i x) (fun n x => List.replicate n x) (allSz) (List.length) (fun s i => s[i]?) (fun s lo hi => (s.take hi).drop lo) (fun a b => a ++ b) (fun a b => a == b) (fun a b => Op.bytesLess a b) (fun s => s.map fun b => .int .u8 b.toNat) (bytesOf) (fun s i => Utf8.decode ⟨⟨s⟩⟩ i) (fun n => (Utf8.encode n).data.toList) (intAr) (intCmp) (fun k n => k.wrap n) (fun n => decide (n = 0)) (fun n => decide (n < 0)) (fun n => n.toNat) (fun (n : Nat) => (n : Int)) (fun (b : UInt8) => (b.toNat : Int)) (fun a b => decide (a ≤ b)) (fun a b => a + b) (fun a b => a - b) (fun n b => decide (n * b ≤ room ∧ n ≤ room)) (findE) (Go.Abs.putE) (Go.Abs.findK) (List.length) (frzMap) (atW table glob) setO (fun s => topN s + 1) sameStk (fun {_} e l => List.map e l) (fun {_} e l => mapE e l) Pr.quo Pr.shf Pr.slen Pr.sidx Pr.ssub Pr.scat Pr.sit Pr.slist Pr.ofBytes @Pr.len @Pr.idx @Pr.sub @Pr.app @Pr.set @Pr.make @Pr.mfind @Pr.mput @Pr.loop table := KLaws.real (G := glob) table_ok
def E_api_Step : S_api_Step → D := fun ⟨x_0, x_1, x_2⟩ => (.agg [(.str x_0), (.int .i64 x_1), (.bool x_2)])
theorem he_E_api_Step (x_0 : Str) (x_1 : Int) (x_2 : Bool) : E_api_Step ⟨x_0, x_1, x_2⟩ = (.agg [(.str x_0), (.int .i64 x_1), (.bool x_2)]) := rfl
theorem hz_E_api_Step (l : List S_api_Step) : allSz 3 (l.map E_api_Step) = true := LW.allsz E_api_Step 3 (fun a => ⟨rfl, rfl⟩) l
mutual
def E_api_Value : S_api_Value → D
  | ⟨x_0, x_1, x_2, x_3, x_4⟩ => (.agg [(.int .i64 x_0), (.int .i64 x_1), (.str x_2), (.sl (E_api_Value_l x_3)), (.sl (E_api_Pair_l x_4))])
def E_api_Value_l : List S_api_Value → List D
  | [] => []
  | x :: r => E_api_Value x :: E_api_Value_l r
def E_api_Pair : S_api_Pair → D
  | ⟨x_0, ⟨x_1_0, x_1_1, x_1_2, x_1_3, x_1_4⟩⟩ => (.agg [(.str x_0), (.int .i64 x_1_0), (.int .i64 x_1_1), (.str x_1_2), (.sl (E_api_Value_l x_1_3)), (.sl (E_api_Pair_l x_1_4))])
def E_api_Pair_l : List S_api_Pair → List D
  | [] => []
  | x :: r => E_api_Pair x :: E_api_Pair_l r
end
theorem E_api_Value_map : ∀ l, E_api_Value_l l = l.map E_api_Value
  | [] => by simp only [E_api_Value_l, List.map_nil]
  | x :: r => by simp only [E_api_Value_l, List.map_cons, E_api_Value_map r]
theorem E_api_Pair_map : ∀ l, E_api_Pair_l l = l.map E_api_Pair
  | [] => by simp only [E_api_Pair_l, List.map_nil]
  | x :: r => by simp only [E_api_Pair_l, List.map_cons, E_api_Pair_map r]
theorem he_E_api_Value (x_0 : Int) (x_1 : Int) (x_2 : Str) (x_3 : (List S_api_Value)) (x_4 : (List S_api_Pair)) : E_api_Value ⟨x_0, x_1, x_2, x_3, x_4⟩ = (.agg [(.int .i64 x_0), (.int .i64 x_1), (.str x_2), (.sl (List.map E_api_Value x_3)), (.sl (List.map E_api_Pair x_4))]) := by simp only [E_api_Value, E_api_Value_map, E_api_Pair_map]
theorem he_E_api_Pair (x_0 : Str) (x_1_0 : Int) (x_1_1 : Int) (x_1_2 : Str) (x_1_3 : (List S_api_Value)) (x_1_4 : (List S_api_Pair)) : E_api_Pair ⟨x_0, ⟨x_1_0, x_1_1, x_1_2, x_1_3, x_1_4⟩⟩ = (.agg [(.str x_0), (.int .i64 x_1_0), (.int .i64 x_1_1), (.str x_1_2), (.sl (List.map E_api_Value x_1_3)), (.sl (List.map E_api_Pair x_1_4))]) := by simp only [E_api_Pair, E_api_Value_map, E_api_Pair_map]
theorem hz_E_api_Value (l : List S_api_Value) : allSz 5 (l.map E_api_Value) = true := LW.allsz E_api_Value 5 (fun a => by obtain ⟨_, _, _, _, _⟩ := a; rw [he_E_api_Value]; exact ⟨rfl, rfl⟩) l
theorem hz_E_api_Pair (l : List S_api_Pair) : allSz 6 (l.map E_api_Pair) = true := LW.allsz E_api_Pair 6 (fun a => by obtain ⟨_, ⟨_, _, _, _, _⟩⟩ := a; rw [he_E_api_Pair]; exact ⟨rfl, rfl⟩) l
def E_int : Int → D := fun x => (.int .i64 x)
theorem he_E_int (x : Int) : E_int x = (.int .i64 x) := rfl
theorem hz_E_int (l : List Int) : allSz 1 (l.map E_int) = true := LW.allsz E_int 1 (fun a => ⟨rfl, rfl⟩) l
noncomputable def p_path_Place_0  (v0 : Int) : Option (S_api_Step) := b_path_Place_0 Prims.real   v0
theorem s_path_Place_0   (m : Nat)    : H_path_Place_0 (atW table glob) m  p_path_Place_0 := by
  intro v0 out hp stk 
  exact o_path_Place_0 (h := LW) (hT := rfl) (hPP := rfl) (he_e_api_Step := he_E_api_Step) (hz_e_api_Step := hz_E_api_Step) (he_e_api_Value := he_E_api_Value) (hz_e_api_Value := hz_E_api_Value) (he_e_api_Pair := he_E_api_Pair) (hz_e_api_Pair := hz_E_api_Pair) (he_e_int := he_E_int) (hz_e_int := hz_E_int)     stk m    v0  hp
noncomputable def p_path_Place : Int → Option (S_api_Step) := fun v0 => p_path_Place_0  v0
theorem s_path_Place : (C_path_Place (sysW table glob).pcall (sysW table glob).fcall p_path_Place) := by
  intro _ _ _ _ hp stk    
  exact pf_of (T := table) (G := glob) (f := 29) rfl rfl (s_path_Place_0   (topN stk + 1)    hp stk )
theorem s_unicode_utf8_DecodeRuneInString : (C_unicode_utf8_DecodeRuneInString (sysW table glob).pcall (sysW table glob).fcall p_unicode_utf8_DecodeRuneInString) := by
  intro _ _ _ hp stk
  exact ⟨pcall_ext (T := table) (G := glob) (f := 136) (e := ext_unicode_utf8_DecodeRuneInString) rfl rfl (x_unicode_utf8_DecodeRuneInString hp) stk, fcall_ext (T := table) (G := glob) (f := 136) (e := ext_unicode_utf8_DecodeRuneInString) rfl rfl (x_unicode_utf8_DecodeRuneInString hp) stk⟩
noncomputable def p_text_Bad_1  (v0 : Str) (o8_s : Str) (o8_p : Nat) : Option (Int) := Prims.real.loop (fun (s : Str × Str × Nat) => match s with | (v0, o8_s, o8_p) => b_text_Bad_1 Prims.real p_unicode_utf8_DecodeRuneInString  v0 o8_s o8_p) (v0, o8_s, o8_p)
theorem u_text_Bad_1  (v0 : Str) (o8_s : Str) (o8_p : Nat) : p_text_Bad_1  v0 o8_s o8_p = match b_text_Bad_1 Prims.real p_unicode_utf8_DecodeRuneInString  v0 o8_s o8_p with
    | some (.inl (v0', o8_s', o8_p')) => p_text_Bad_1  v0' o8_s' o8_p'
    | some (.inr r) => some r
    | none => none := by
  show Pr.loop _ _ = _
  rw [Pr.loop_eq]
  try dsimp only
  generalize b_text_Bad_1 Prims.real p_unicode_utf8_DecodeRuneInString  v0 o8_s o8_p = y
  cases y with
  | none => rfl
  | some y => cases y <;> rfl
theorem s_text_Bad_1   (m : Nat)    : H_text_Bad_1 (atW table glob) m  p_text_Bad_1 := by
  intro v0 o8_s o8_p out hp stk 
  refine LW.ind (fun (s : Str × Str × Nat) => match s with | (v0, o8_s, o8_p) => b_text_Bad_1 Prims.real p_unicode_utf8_DecodeRuneInString  v0 o8_s o8_p) (fun (s : Str × Str × Nat) o => match s with | (v0, o8_s, o8_p) => ∀ (stk : Stk), (A_text_Bad_1 (atW table glob) m  v0 o8_s o8_p stk) = (O_text_Bad  m  stk) o) (fun s r e => ?_) (fun s t r e ih => ?_) (v0, o8_s, o8_p) out hp stk 
  · obtain ⟨v0, o8_s, o8_p⟩ := s
    intro stk 
    exact o_text_Bad_1 (h := LW) (hT := rfl) (hPP := rfl) (he_e_api_Step := he_E_api_Step) (hz_e_api_Step := hz_E_api_Step) (he_e_api_Value := he_E_api_Value) (hz_e_api_Value := hz_E_api_Value) (he_e_api_Pair := he_E_api_Pair) (hz_e_api_Pair := hz_E_api_Pair) (he_e_int := he_E_int) (hz_e_int := hz_E_int) (c_unicode_utf8_DecodeRuneInString := p_unicode_utf8_DecodeRuneInString) (h_unicode_utf8_DecodeRuneInString := s_unicode_utf8_DecodeRuneInString)   stk m    v0 o8_s o8_p  e
  · obtain ⟨v0, o8_s, o8_p⟩ := s; obtain ⟨v0', o8_s', o8_p'⟩ := t
    intro stk 
    exact (o_text_Bad_1 (h := LW) (hT := rfl) (hPP := rfl) (he_e_api_Step := he_E_api_Step) (hz_e_api_Step := hz_E_api_Step) (he_e_api_Value := he_E_api_Value) (hz_e_api_Value := hz_E_api_Value) (he_e_api_Pair := he_E_api_Pair) (hz_e_api_Pair := hz_E_api_Pair) (he_e_int := he_E_int) (hz_e_int := hz_E_int) (c_unicode_utf8_DecodeRuneInString := p_unicode_utf8_DecodeRuneInString) (h_unicode_utf8_DecodeRuneInString := s_unicode_utf8_DecodeRuneInString)   stk m    v0 o8_s o8_p  e).trans (ih stk )
noncomputable def p_text_Bad_0  (v0 : Str) : Option (Int) := b_text_Bad_0 Prims.real p_unicode_utf8_DecodeRuneInString p_text_Bad_1 v0
theorem s_text_Bad_0   (m : Nat)    : H_text_Bad_0 (atW table glob) m  p_text_Bad_0 := by
  intro v0 out hp stk 
  exact o_text_Bad_0 (h := LW) (hT := rfl) (hPP := rfl) (he_e_api_Step := he_E_api_Step) (hz_e_api_Step := hz_E_api_Step) (he_e_api_Value := he_E_api_Value) (hz_e_api_Value := hz_E_api_Value) (he_e_api_Pair := he_E_api_Pair) (hz_e_api_Pair := hz_E_api_Pair) (he_e_int := he_E_int) (hz_e_int := hz_E_int) (c_unicode_utf8_DecodeRuneInString := p_unicode_utf8_DecodeRuneInString) (h_unicode_utf8_DecodeRuneInString := s_unicode_utf8_DecodeRuneInString) (l_1 := p_text_Bad_1 ) (h_l_1 := s_text_Bad_1   m   ) stk m    v0  hp
noncomputable def p_text_Bad : Str → Option (Int) := fun v0 => p_text_Bad_0  v0
theorem s_text_Bad : (C_text_Bad (sysW table glob).pcall (sysW table glob).fcall p_text_Bad) := by
  intro _ _ hp stk    
  exact pf_of (T := table) (G := glob) (f := 124) rfl rfl (s_text_Bad_0   (topN stk + 1)    hp stk )
noncomputable def p_text_Right_0  (v0 : Str) : Option (Bool) := b_text_Right_0 Prims.real p_text_Bad  v0
theorem s_text_Right_0   (m : Nat)    : H_text_Right_0 (atW table glob) m  p_text_Right_0 := by
  intro v0 out hp stk 
  exact o_text_Right_0 (h := LW) (hT := rfl) (hPP := rfl) (he_e_api_Step := he_E_api_Step) (hz_e_api_Step := hz_E_api_Step) (he_e_api_Value := he_E_api_Value) (hz_e_api_Value := hz_E_api_Value) (he_e_api_Pair := he_E_api_Pair) (hz_e_api_Pair := hz_E_api_Pair) (he_e_int := he_E_int) (hz_e_int := hz_E_int) (c_text_Bad := p_text_Bad) (h_text_Bad := s_text_Bad)   stk m    v0  hp
noncomputable def p_text_Right : Str → Option (Bool) := fun v0 => p_text_Right_0  v0
theorem s_text_Right : (C_text_Right (sysW table glob).pcall (sysW table glob).fcall p_text_Right) := by
  intro _ _ hp stk    
  exact pf_of (T := table) (G := glob) (f := 93) rfl rfl (s_text_Right_0   (topN stk + 1)    hp stk )
noncomputable def p_path_right_0  (v0_0 : Str) (v0_1 : Int) (v0_2 : Bool) : Option (Bool) := b_path_right_0 Prims.real p_text_Right  v0_0 v0_1 v0_2
theorem s_path_right_0   (m : Nat)    : H_path_right_0 (atW table glob) m  p_path_right_0 := by
  intro v0_0 v0_1 v0_2 out hp stk 
  exact o_path_right_0 (h := LW) (hT := rfl) (hPP := rfl) (he_e_api_Step := he_E_api_Step) (hz_e_api_Step := hz_E_api_Step) (he_e_api_Value := he_E_api_Value) (hz_e_api_Value := hz_E_api_Value) (he_e_api_Pair := he_E_api_Pair) (hz_e_api_Pair := hz_E_api_Pair) (he_e_int := he_E_int) (hz_e_int := hz_E_int) (c_text_Right := p_text_Right) (h_text_Right := s_text_Right)   stk m    v0_0 v0_1 v0_2  hp
noncomputable def p_path_right : S_api_Step → Option (Bool) := fun ⟨v0_0, v0_1, v0_2⟩ => p_path_right_0  v0_0 v0_1 v0_2
theorem s_path_right : (C_path_right (sysW table glob).pcall (sysW table glob).fcall p_path_right) := by
  intro _ _ _ _ hp stk    
  exact pf_of (T := table) (G := glob) (f := 52) rfl rfl (s_path_right_0   (topN stk + 1)    hp stk )
noncomputable def p_path_Right_1_0  (v0_0 : Str) (v0_1 : Int) (v0_2 : Bool) : Option (Bool) := b_path_Right_1_0 Prims.real p_path_right  v0_0 v0_1 v0_2
theorem s_path_Right_1_0   (m : Nat)    : H_path_Right_1_0 (atW table glob) m  p_path_Right_1_0 := by
  intro v0_0 v0_1 v0_2 out hp stk 
  exact o_path_Right_1_0 (h := LW) (hT := rfl) (hPP := rfl) (he_e_api_Step := he_E_api_Step) (hz_e_api_Step := hz_E_api_Step) (he_e_api_Value := he_E_api_Value) (hz_e_api_Value := hz_E_api_Value) (he_e_api_Pair := he_E_api_Pair) (hz_e_api_Pair := hz_E_api_Pair) (he_e_int := he_E_int) (hz_e_int := hz_E_int) (c_path_right := p_path_right) (h_path_right := s_path_right)   stk m    v0_0 v0_1 v0_2  hp
noncomputable def p_path_Right_1 : S_api_Step → Option (Bool) := fun ⟨v0_0, v0_1, v0_2⟩ => p_path_Right_1_0  v0_0 v0_1 v0_2
theorem s_path_Right_1 : (C_path_Right_1 (sysW table glob).pcall (sysW table glob).fcall p_path_Right_1) := by
  intro _ _ _ _ hp stk    
  exact pf_of (T := table) (G := glob) (f := 51) rfl rfl (s_path_Right_1_0   (topN stk + 1)    hp stk )
noncomputable def p_slices_IndexFunc__api_Step_api_Step__0_1  (v0 : (List S_api_Step)) (v7 : Int) (v8 : Int) : Option (Int) := Prims.real.loop (fun (s : (List S_api_Step) × Int × Int) => match s with | (v0, v7, v8) => b_slices_IndexFunc__api_Step_api_Step__0_1 Prims.real p_path_Right_1  v0 v7 v8) (v0, v7, v8)
theorem u_slices_IndexFunc__api_Step_api_Step__0_1  (v0 : (List S_api_Step)) (v7 : Int) (v8 : Int) : p_slices_IndexFunc__api_Step_api_Step__0_1  v0 v7 v8 = match b_slices_IndexFunc__api_Step_api_Step__0_1 Prims.real p_path_Right_1  v0 v7 v8 with
    | some (.inl (v0', v7', v8')) => p_slices_IndexFunc__api_Step_api_Step__0_1  v0' v7' v8'
    | some (.inr r) => some r
    | none => none := by
  show Pr.loop _ _ = _
  rw [Pr.loop_eq]
  try dsimp only
  generalize b_slices_IndexFunc__api_Step_api_Step__0_1 Prims.real p_path_Right_1  v0 v7 v8 = y
  cases y with
  | none => rfl
  | some y => cases y <;> rfl
theorem s_slices_IndexFunc__api_Step_api_Step__0_1   (m : Nat)    : H_slices_IndexFunc__api_Step_api_Step__0_1 (atW table glob) (fun {_} e l => List.map e l) E_api_Step m  p_slices_IndexFunc__api_Step_api_Step__0_1 := by
  intro v0 v7 v8 out hp stk 
  refine LW.ind (fun (s : (List S_api_Step) × Int × Int) => match s with | (v0, v7, v8) => b_slices_IndexFunc__api_Step_api_Step__0_1 Prims.real p_path_Right_1  v0 v7 v8) (fun (s : (List S_api_Step) × Int × Int) o => match s with | (v0, v7, v8) => ∀ (stk : Stk), (A_slices_IndexFunc__api_Step_api_Step__0_1 (atW table glob) (fun {_} e l => List.map e l) E_api_Step m  v0 v7 v8 stk) = (O_slices_IndexFunc__api_Step_api_Step__0  m  stk) o) (fun s r e => ?_) (fun s t r e ih => ?_) (v0, v7, v8) out hp stk 
  · obtain ⟨v0, v7, v8⟩ := s
    intro stk 
    exact o_slices_IndexFunc__api_Step_api_Step__0_1 (h := LW) (hT := rfl) (hPP := rfl) (he_e_api_Step := he_E_api_Step) (hz_e_api_Step := hz_E_api_Step) (he_e_api_Value := he_E_api_Value) (hz_e_api_Value := hz_E_api_Value) (he_e_api_Pair := he_E_api_Pair) (hz_e_api_Pair := hz_E_api_Pair) (he_e_int := he_E_int) (hz_e_int := hz_E_int) (c_path_Right_1 := p_path_Right_1) (h_path_Right_1 := s_path_Right_1)   stk m    v0 v7 v8  e
  · obtain ⟨v0, v7, v8⟩ := s; obtain ⟨v0', v7', v8'⟩ := t
    intro stk 
    exact (o_slices_IndexFunc__api_Step_api_Step__0_1 (h := LW) (hT := rfl) (hPP := rfl) (he_e_api_Step := he_E_api_Step) (hz_e_api_Step := hz_E_api_Step) (he_e_api_Value := he_E_api_Value) (hz_e_api_Value := hz_E_api_Value) (he_e_api_Pair := he_E_api_Pair) (hz_e_api_Pair := hz_E_api_Pair) (he_e_int := he_E_int) (hz_e_int := hz_E_int) (c_path_Right_1 := p_path_Right_1) (h_path_Right_1 := s_path_Right_1)   stk m    v0 v7 v8  e).trans (ih stk )
noncomputable def p_slices_IndexFunc__api_Step_api_Step__0_0  (v0 : (List S_api_Step)) : Option (Int) := b_slices_IndexFunc__api_Step_api_Step__0_0 Prims.real p_path_Right_1 p_slices_IndexFunc__api_Step_api_Step__0_1 v0
theorem s_slices_IndexFunc__api_Step_api_Step__0_0   (m : Nat)    : H_slices_IndexFunc__api_Step_api_Step__0_0 (atW table glob) (fun {_} e l => List.map e l) E_api_Step m  p_slices_IndexFunc__api_Step_api_Step__0_0 := by
  intro v0 out hp stk 
  exact o_slices_IndexFunc__api_Step_api_Step__0_0 (h := LW) (hT := rfl) (hPP := rfl) (he_e_api_Step := he_E_api_Step) (hz_e_api_Step := hz_E_api_Step) (he_e_api_Value := he_E_api_Value) (hz_e_api_Value := hz_E_api_Value) (he_e_api_Pair := he_E_api_Pair) (hz_e_api_Pair := hz_E_api_Pair) (he_e_int := he_E_int) (hz_e_int := hz_E_int) (c_path_Right_1 := p_path_Right_1) (h_path_Right_1 := s_path_Right_1) (l_1 := p_slices_IndexFunc__api_Step_api_Step__0_1 ) (h_l_1 := s_slices_IndexFunc__api_Step_api_Step__0_1   m   ) stk m    v0  hp
noncomputable def p_slices_IndexFunc__api_Step_api_Step__0 : (List S_api_Step) → Option (Int) := fun v0 => p_slices_IndexFunc__api_Step_api_Step__0_0  v0
theorem s_slices_IndexFunc__api_Step_api_Step__0 : (C_slices_IndexFunc__api_Step_api_Step__0 (sysW table glob).pcall (sysW table glob).fcall (fun {_} e l => List.map e l) E_api_Step p_slices_IndexFunc__api_Step_api_Step__0) := by
  intro _ _ hp stk    
  exact pf_of (T := table) (G := glob) (f := 92) rfl rfl (s_slices_IndexFunc__api_Step_api_Step__0_0   (topN stk + 1)    hp stk )
noncomputable def p_slices_ContainsFunc__api_Step_api_Step__0_0  (v0 : (List S_api_Step)) : Option (Bool) := b_slices_ContainsFunc__api_Step_api_Step__0_0 Prims.real p_slices_IndexFunc__api_Step_api_Step__0  v0
theorem s_slices_ContainsFunc__api_Step_api_Step__0_0   (m : Nat)    : H_slices_ContainsFunc__api_Step_api_Step__0_0 (atW table glob) (fun {_} e l => List.map e l) E_api_Step m  p_slices_ContainsFunc__api_Step_api_Step__0_0 := by
  intro v0 out hp stk 
  exact o_slices_ContainsFunc__api_Step_api_Step__0_0 (h := LW) (hT := rfl) (hPP := rfl) (he_e_api_Step := he_E_api_Step) (hz_e_api_Step := hz_E_api_Step) (he_e_api_Value := he_E_api_Value) (hz_e_api_Value := hz_E_api_Value) (he_e_api_Pair := he_E_api_Pair) (hz_e_api_Pair := hz_E_api_Pair) (he_e_int := he_E_int) (hz_e_int := hz_E_int) (c_slices_IndexFunc__api_Step_api_Step__0 := p_slices_IndexFunc__api_Step_api_Step__0) (h_slices_IndexFunc__api_Step_api_Step__0 := s_slices_IndexFunc__api_Step_api_Step__0)   stk m    v0  hp
noncomputable def p_slices_ContainsFunc__api_Step_api_Step__0 : (List S_api_Step) → Option (Bool) := fun v0 => p_slices_ContainsFunc__api_Step_api_Step__0_0  v0
theorem s_slices_ContainsFunc__api_Step_api_Step__0 : (C_slices_ContainsFunc__api_Step_api_Step__0 (sysW table glob).pcall (sysW table glob).fcall (fun {_} e l => List.map e l) E_api_Step p_slices_ContainsFunc__api_Step_api_Step__0) := by
  intro _ _ hp stk    
  exact pf_of (T := table) (G := glob) (f := 50) rfl rfl (s_slices_ContainsFunc__api_Step_api_Step__0_0   (topN stk + 1)    hp stk )
noncomputable def p_path_Right_0  (v0 : (List S_api_Step)) : Option (Bool) := b_path_Right_0 Prims.real p_slices_ContainsFunc__api_Step_api_Step__0  v0
theorem s_path_Right_0   (m : Nat)    : H_path_Right_0 (atW table glob) (fun {_} e l => List.map e l) E_api_Step m  p_path_Right_0 := by
  intro v0 out hp stk 
  exact o_path_Right_0 (h := LW) (hT := rfl) (hPP := rfl) (he_e_api_Step := he_E_api_Step) (hz_e_api_Step := hz_E_api_Step) (he_e_api_Value := he_E_api_Value) (hz_e_api_Value := hz_E_api_Value) (he_e_api_Pair := he_E_api_Pair) (hz_e_api_Pair := hz_E_api_Pair) (he_e_int := he_E_int) (hz_e_int := hz_E_int) (c_slices_ContainsFunc__api_Step_api_Step__0 := p_slices_ContainsFunc__api_Step_api_Step__0) (h_slices_ContainsFunc__api_Step_api_Step__0 := s_slices_ContainsFunc__api_Step_api_Step__0)   stk m    v0  hp
noncomputable def p_path_Right : (List S_api_Step) → Option (Bool) := fun v0 => p_path_Right_0  v0
theorem s_path_Right : (C_path_Right (sysW table glob).pcall (sysW table glob).fcall (fun {_} e l => List.map e l) E_api_Step p_path_Right) := by
  intro _ _ hp stk    
  exact pf_of (T := table) (G := glob) (f := 19) rfl rfl (s_path_Right_0   (topN stk + 1)    hp stk )
noncomputable def p_path_Value_4  (v12 : (List S_api_Step)) (v13 : Int) (v14 : Int) (o2_0 : Int) (o2_1 : Int) (o2_2 : Str) (o2_3 : (List S_api_Value)) (o2_4 : (List S_api_Pair)) (o4_0 : Int) (o4_1 : Int) (o4_2 : Str) (o4_3_g : Nat) (o4_3 : (List S_api_Value)) (o4_4 : (List S_api_Pair)) : Option (((List S_api_Step) × Int × Int × Int × Int × Str × (List S_api_Value) × (List S_api_Pair) × Int × Int × Str × Nat × (List S_api_Value) × (List S_api_Pair)) ⊕ (S_api_Value × Int)) := b_path_Value_4 Prims.real p_path_Right  v12 v13 v14 o2_0 o2_1 o2_2 o2_3 o2_4 o4_0 o4_1 o4_2 o4_3_g o4_3 o4_4
theorem s_path_Value_4   (m : Nat)    : H_path_Value_4 (atW table glob) (fun {_} e l => List.map e l) List.length E_api_Step E_api_Value E_api_Pair m  p_path_Value_4 := by
  intro v12 v13 v14 o2_0 o2_1 o2_2 o2_3 o2_4 o4_0 o4_1 o4_2 o4_3_g o4_3 o4_4 out hp stk 
  exact o_path_Value_4 (h := LW) (hT := rfl) (hPP := rfl) (he_e_api_Step := he_E_api_Step) (hz_e_api_Step := hz_E_api_Step) (he_e_api_Value := he_E_api_Value) (hz_e_api_Value := hz_E_api_Value) (he_e_api_Pair := he_E_api_Pair) (hz_e_api_Pair := hz_E_api_Pair) (he_e_int := he_E_int) (hz_e_int := hz_E_int) (c_path_Right := p_path_Right) (h_path_Right := s_path_Right)   stk m    v12 v13 v14 o2_0 o2_1 o2_2 o2_3 o2_4 o4_0 o4_1 o4_2 o4_3_g o4_3 o4_4  hp
noncomputable def p_path_Value_2  (v12 : (List S_api_Step)) (v13 : Int) (v14 : Int) (o2_0 : Int) (o2_1 : Int) (o2_2 : Str) (o2_3 : (List S_api_Value)) (o2_4 : (List S_api_Pair)) (o4_0 : Int) (o4_1 : Int) (o4_2 : Str) (o4_3_g : Nat) (o4_3 : (List S_api_Value)) (o4_4 : (List S_api_Pair)) : Option (S_api_Value × Int) := Prims.real.loop (fun (s : (List S_api_Step) × Int × Int × Int × Int × Str × (List S_api_Value) × (List S_api_Pair) × Int × Int × Str × Nat × (List S_api_Value) × (List S_api_Pair)) => match s with | (v12, v13, v14, o2_0, o2_1, o2_2, o2_3, o2_4, o4_0, o4_1, o4_2, o4_3_g, o4_3, o4_4) => b_path_Value_2 Prims.real p_path_Right p_path_Value_4 v12 v13 v14 o2_0 o2_1 o2_2 o2_3 o2_4 o4_0 o4_1 o4_2 o4_3_g o4_3 o4_4) (v12, v13, v14, o2_0, o2_1, o2_2, o2_3, o2_4, o4_0, o4_1, o4_2, o4_3_g, o4_3, o4_4)
theorem u_path_Value_2  (v12 : (List S_api_Step)) (v13 : Int) (v14 : Int) (o2_0 : Int) (o2_1 : Int) (o2_2 : Str) (o2_3 : (List S_api_Value)) (o2_4 : (List S_api_Pair)) (o4_0 : Int) (o4_1 : Int) (o4_2 : Str) (o4_3_g : Nat) (o4_3 : (List S_api_Value)) (o4_4 : (List S_api_Pair)) : p_path_Value_2  v12 v13 v14 o2_0 o2_1 o2_2 o2_3 o2_4 o4_0 o4_1 o4_2 o4_3_g o4_3 o4_4 = match b_path_Value_2 Prims.real p_path_Right p_path_Value_4 v12 v13 v14 o2_0 o2_1 o2_2 o2_3 o2_4 o4_0 o4_1 o4_2 o4_3_g o4_3 o4_4 with
    | some (.inl (v12', v13', v14', o2_0', o2_1', o2_2', o2_3', o2_4', o4_0', o4_1', o4_2', o4_3_g', o4_3', o4_4')) => p_path_Value_2  v12' v13' v14' o2_0' o2_1' o2_2' o2_3' o2_4' o4_0' o4_1' o4_2' o4_3_g' o4_3' o4_4'
    | some (.inr r) => some r
    | none => none := by
  show Pr.loop _ _ = _
  rw [Pr.loop_eq]
  try dsimp only
  generalize b_path_Value_2 Prims.real p_path_Right p_path_Value_4 v12 v13 v14 o2_0 o2_1 o2_2 o2_3 o2_4 o4_0 o4_1 o4_2 o4_3_g o4_3 o4_4 = y
  cases y with
  | none => rfl
  | some y => cases y <;> rfl
theorem s_path_Value_2   (m : Nat)    : H_path_Value_2 (atW table glob) (fun {_} e l => List.map e l) List.length E_api_Step E_api_Value E_api_Pair m  p_path_Value_2 := by
  intro v12 v13 v14 o2_0 o2_1 o2_2 o2_3 o2_4 o4_0 o4_1 o4_2 o4_3_g o4_3 o4_4 out hp stk 
  refine LW.ind (fun (s : (List S_api_Step) × Int × Int × Int × Int × Str × (List S_api_Value) × (List S_api_Pair) × Int × Int × Str × Nat × (List S_api_Value) × (List S_api_Pair)) => match s with | (v12, v13, v14, o2_0, o2_1, o2_2, o2_3, o2_4, o4_0, o4_1, o4_2, o4_3_g, o4_3, o4_4) => b_path_Value_2 Prims.real p_path_Right p_path_Value_4 v12 v13 v14 o2_0 o2_1 o2_2 o2_3 o2_4 o4_0 o4_1 o4_2 o4_3_g o4_3 o4_4) (fun (s : (List S_api_Step) × Int × Int × Int × Int × Str × (List S_api_Value) × (List S_api_Pair) × Int × Int × Str × Nat × (List S_api_Value) × (List S_api_Pair)) o => match s with | (v12, v13, v14, o2_0, o2_1, o2_2, o2_3, o2_4, o4_0, o4_1, o4_2, o4_3_g, o4_3, o4_4) => ∀ (stk : Stk), (A_path_Value_2 (atW table glob) (fun {_} e l => List.map e l) List.length E_api_Step E_api_Value E_api_Pair m  v12 v13 v14 o2_0 o2_1 o2_2 o2_3 o2_4 o4_0 o4_1 o4_2 o4_3_g o4_3 o4_4 stk) = (O_path_Value (fun {_} e l => List.map e l) E_api_Value E_api_Pair m  stk) o) (fun s r e => ?_) (fun s t r e ih => ?_) (v12, v13, v14, o2_0, o2_1, o2_2, o2_3, o2_4, o4_0, o4_1, o4_2, o4_3_g, o4_3, o4_4) out hp stk 
  · obtain ⟨v12, v13, v14, o2_0, o2_1, o2_2, o2_3, o2_4, o4_0, o4_1, o4_2, o4_3_g, o4_3, o4_4⟩ := s
    intro stk 
    exact o_path_Value_2 (h := LW) (hT := rfl) (hPP := rfl) (he_e_api_Step := he_E_api_Step) (hz_e_api_Step := hz_E_api_Step) (he_e_api_Value := he_E_api_Value) (hz_e_api_Value := hz_E_api_Value) (he_e_api_Pair := he_E_api_Pair) (hz_e_api_Pair := hz_E_api_Pair) (he_e_int := he_E_int) (hz_e_int := hz_E_int) (c_path_Right := p_path_Right) (h_path_Right := s_path_Right) (l_4 := p_path_Value_4 ) (h_l_4 := s_path_Value_4   m   ) stk m    v12 v13 v14 o2_0 o2_1 o2_2 o2_3 o2_4 o4_0 o4_1 o4_2 o4_3_g o4_3 o4_4  e
  · obtain ⟨v12, v13, v14, o2_0, o2_1, o2_2, o2_3, o2_4, o4_0, o4_1, o4_2, o4_3_g, o4_3, o4_4⟩ := s; obtain ⟨v12', v13', v14', o2_0', o2_1', o2_2', o2_3', o2_4', o4_0', o4_1', o4_2', o4_3_g', o4_3', o4_4'⟩ := t
    intro stk 
    exact (o_path_Value_2 (h := LW) (hT := rfl) (hPP := rfl) (he_e_api_Step := he_E_api_Step) (hz_e_api_Step := hz_E_api_Step) (he_e_api_Value := he_E_api_Value) (hz_e_api_Value := hz_E_api_Value) (he_e_api_Pair := he_E_api_Pair) (hz_e_api_Pair := hz_E_api_Pair) (he_e_int := he_E_int) (hz_e_int := hz_E_int) (c_path_Right := p_path_Right) (h_path_Right := s_path_Right) (l_4 := p_path_Value_4 ) (h_l_4 := s_path_Value_4   m   ) stk m    v12 v13 v14 o2_0 o2_1 o2_2 o2_3 o2_4 o4_0 o4_1 o4_2 o4_3_g o4_3 o4_4  e).trans (ih stk )
noncomputable def p_path_Value_0  (v0 : (List S_api_Step)) : Option (S_api_Value × Int) := b_path_Value_0 Prims.real p_path_Right p_path_Value_2 v0
theorem s_path_Value_0   (m : Nat)    : H_path_Value_0 (atW table glob) (fun {_} e l => List.map e l) E_api_Step E_api_Value E_api_Pair m  p_path_Value_0 := by
  intro v0 out hp stk 
  exact o_path_Value_0 (h := LW) (hT := rfl) (hPP := rfl) (he_e_api_Step := he_E_api_Step) (hz_e_api_Step := hz_E_api_Step) (he_e_api_Value := he_E_api_Value) (hz_e_api_Value := hz_E_api_Value) (he_e_api_Pair := he_E_api_Pair) (hz_e_api_Pair := hz_E_api_Pair) (he_e_int := he_E_int) (hz_e_int := hz_E_int) (c_path_Right := p_path_Right) (h_path_Right := s_path_Right) (l_2 := p_path_Value_2 ) (h_l_2 := s_path_Value_2   m   ) stk m    v0  hp
noncomputable def p_path_Value : (List S_api_Step) → Option (S_api_Value × Int) := fun v0 => p_path_Value_0  v0
theorem s_path_Value : (C_path_Value (sysW table glob).pcall (sysW table glob).fcall (fun {_} e l => List.map e l) E_api_Step E_api_Value E_api_Pair p_path_Value) := by
  intro _ _ _ _ _ _ _ hp stk    
  exact pf_of (T := table) (G := glob) (f := 18) rfl rfl (s_path_Value_0   (topN stk + 1)    hp stk )
noncomputable def p_cascadelaw06_awake_0   : Option (Bool) := b_cascadelaw06_awake_0 Prims.real p_path_Place p_path_Value  
theorem s_cascadelaw06_awake_0   (m : Nat)    : H_cascadelaw06_awake_0 (atW table glob) m  p_cascadelaw06_awake_0 := by
  intro  out hp stk 
  exact o_cascadelaw06_awake_0 (h := LW) (hT := rfl) (hPP := rfl) (he_e_api_Step := he_E_api_Step) (hz_e_api_Step := hz_E_api_Step) (he_e_api_Value := he_E_api_Value) (hz_e_api_Value := hz_E_api_Value) (he_e_api_Pair := he_E_api_Pair) (hz_e_api_Pair := hz_E_api_Pair) (he_e_int := he_E_int) (hz_e_int := hz_E_int) (c_path_Place := p_path_Place) (c_path_Value := p_path_Value) (h_path_Place := s_path_Place) (h_path_Value := s_path_Value)   stk m      hp
noncomputable def p_cascadelaw06_awake : Option (Bool) := p_cascadelaw06_awake_0 
theorem s_cascadelaw06_awake : (C_cascadelaw06_awake (sysW table glob).pcall (sysW table glob).fcall p_cascadelaw06_awake) := by
  intro _ hp stk    
  exact pf_of (T := table) (G := glob) (f := 15) rfl rfl (s_cascadelaw06_awake_0   (topN stk + 1)    hp stk )
noncomputable def p_cascaderef06_Few_4  (v0 : (List S_api_Step)) : Option (Bool) := b_cascaderef06_Few_4 Prims.real   v0
theorem s_cascaderef06_Few_4   (m : Nat)    : H_cascaderef06_Few_4 (atW table glob) (fun {_} e l => List.map e l) E_api_Step m  p_cascaderef06_Few_4 := by
  intro v0 out hp stk 
  exact o_cascaderef06_Few_4 (h := LW) (hT := rfl) (hPP := rfl) (he_e_api_Step := he_E_api_Step) (hz_e_api_Step := hz_E_api_Step) (he_e_api_Value := he_E_api_Value) (hz_e_api_Value := hz_E_api_Value) (he_e_api_Pair := he_E_api_Pair) (hz_e_api_Pair := hz_E_api_Pair) (he_e_int := he_E_int) (hz_e_int := hz_E_int)     stk m    v0  hp
noncomputable def p_cascaderef06_Few_1  (v0 : (List S_api_Step)) (v3 : Int) : Option (Bool) := Prims.real.loop (fun (s : (List S_api_Step) × Int) => match s with | (v0, v3) => b_cascaderef06_Few_1 Prims.real  p_cascaderef06_Few_4 v0 v3) (v0, v3)
theorem u_cascaderef06_Few_1  (v0 : (List S_api_Step)) (v3 : Int) : p_cascaderef06_Few_1  v0 v3 = match b_cascaderef06_Few_1 Prims.real  p_cascaderef06_Few_4 v0 v3 with
    | some (.inl (v0', v3')) => p_cascaderef06_Few_1  v0' v3'
    | some (.inr r) => some r
    | none => none := by
  show Pr.loop _ _ = _
  rw [Pr.loop_eq]
  try dsimp only
  generalize b_cascaderef06_Few_1 Prims.real  p_cascaderef06_Few_4 v0 v3 = y
  cases y with
  | none => rfl
  | some y => cases y <;> rfl
theorem s_cascaderef06_Few_1   (m : Nat)    : H_cascaderef06_Few_1 (atW table glob) (fun {_} e l => List.map e l) E_api_Step m  p_cascaderef06_Few_1 := by
  intro v0 v3 out hp stk 
  refine LW.ind (fun (s : (List S_api_Step) × Int) => match s with | (v0, v3) => b_cascaderef06_Few_1 Prims.real  p_cascaderef06_Few_4 v0 v3) (fun (s : (List S_api_Step) × Int) o => match s with | (v0, v3) => ∀ (stk : Stk), (A_cascaderef06_Few_1 (atW table glob) (fun {_} e l => List.map e l) E_api_Step m  v0 v3 stk) = (O_cascaderef06_Few  m  stk) o) (fun s r e => ?_) (fun s t r e ih => ?_) (v0, v3) out hp stk 
  · obtain ⟨v0, v3⟩ := s
    intro stk 
    exact o_cascaderef06_Few_1 (h := LW) (hT := rfl) (hPP := rfl) (he_e_api_Step := he_E_api_Step) (hz_e_api_Step := hz_E_api_Step) (he_e_api_Value := he_E_api_Value) (hz_e_api_Value := hz_E_api_Value) (he_e_api_Pair := he_E_api_Pair) (hz_e_api_Pair := hz_E_api_Pair) (he_e_int := he_E_int) (hz_e_int := hz_E_int)   (l_4 := p_cascaderef06_Few_4 ) (h_l_4 := s_cascaderef06_Few_4   m   ) stk m    v0 v3  e
  · obtain ⟨v0, v3⟩ := s; obtain ⟨v0', v3'⟩ := t
    intro stk 
    exact (o_cascaderef06_Few_1 (h := LW) (hT := rfl) (hPP := rfl) (he_e_api_Step := he_E_api_Step) (hz_e_api_Step := hz_E_api_Step) (he_e_api_Value := he_E_api_Value) (hz_e_api_Value := hz_E_api_Value) (he_e_api_Pair := he_E_api_Pair) (hz_e_api_Pair := hz_E_api_Pair) (he_e_int := he_E_int) (hz_e_int := hz_E_int)   (l_4 := p_cascaderef06_Few_4 ) (h_l_4 := s_cascaderef06_Few_4   m   ) stk m    v0 v3  e).trans (ih stk )
noncomputable def p_cascaderef06_Few_0  (v0 : (List S_api_Step)) : Option (Bool) := b_cascaderef06_Few_0 Prims.real  p_cascaderef06_Few_1 v0
theorem s_cascaderef06_Few_0   (m : Nat)    : H_cascaderef06_Few_0 (atW table glob) (fun {_} e l => List.map e l) E_api_Step m  p_cascaderef06_Few_0 := by
  intro v0 out hp stk 
  exact o_cascaderef06_Few_0 (h := LW) (hT := rfl) (hPP := rfl) (he_e_api_Step := he_E_api_Step) (hz_e_api_Step := hz_E_api_Step) (he_e_api_Value := he_E_api_Value) (hz_e_api_Value := hz_E_api_Value) (he_e_api_Pair := he_E_api_Pair) (hz_e_api_Pair := hz_E_api_Pair) (he_e_int := he_E_int) (hz_e_int := hz_E_int)   (l_1 := p_cascaderef06_Few_1 ) (h_l_1 := s_cascaderef06_Few_1   m   ) stk m    v0  hp
noncomputable def p_cascaderef06_Few : (List S_api_Step) → Option (Bool) := fun v0 => p_cascaderef06_Few_0  v0
theorem s_cascaderef06_Few : (C_cascaderef06_Few (sysW table glob).pcall (sysW table glob).fcall (fun {_} e l => List.map e l) E_api_Step p_cascaderef06_Few) := by
  intro _ _ hp stk    
  exact pf_of (T := table) (G := glob) (f := 16) rfl rfl (s_cascaderef06_Few_0   (topN stk + 1)    hp stk )
noncomputable def p_cascaderef01_Size_11  (v7 : Int) (v8 : Int) : Option (Int × Int) := b_cascaderef01_Size_11 Prims.real   v7 v8
theorem s_cascaderef01_Size_11   (m : Nat)    : H_cascaderef01_Size_11 (atW table glob) m  p_cascaderef01_Size_11 := by
  intro v7 v8 out hp stk 
  exact o_cascaderef01_Size_11 (h := LW) (hT := rfl) (hPP := rfl) (he_e_api_Step := he_E_api_Step) (hz_e_api_Step := hz_E_api_Step) (he_e_api_Value := he_E_api_Value) (hz_e_api_Value := hz_E_api_Value) (he_e_api_Pair := he_E_api_Pair) (hz_e_api_Pair := hz_E_api_Pair) (he_e_int := he_E_int) (hz_e_int := hz_E_int)     stk m    v7 v8  hp
noncomputable def p_cascaderef01_Size_6  (v0 : Str) (v1 : Int) (v7 : Int) (v8 : Int) (v9 : Int) (v10 : Int) : Option (Int × Int) := Prims.real.loop (fun (s : Str × Int × Int × Int × Int × Int) => match s with | (v0, v1, v7, v8, v9, v10) => b_cascaderef01_Size_6 Prims.real  p_cascaderef01_Size_11 v0 v1 v7 v8 v9 v10) (v0, v1, v7, v8, v9, v10)
theorem u_cascaderef01_Size_6  (v0 : Str) (v1 : Int) (v7 : Int) (v8 : Int) (v9 : Int) (v10 : Int) : p_cascaderef01_Size_6  v0 v1 v7 v8 v9 v10 = match b_cascaderef01_Size_6 Prims.real  p_cascaderef01_Size_11 v0 v1 v7 v8 v9 v10 with
    | some (.inl (v0', v1', v7', v8', v9', v10')) => p_cascaderef01_Size_6  v0' v1' v7' v8' v9' v10'
    | some (.inr r) => some r
    | none => none := by
  show Pr.loop _ _ = _
  rw [Pr.loop_eq]
  try dsimp only
  generalize b_cascaderef01_Size_6 Prims.real  p_cascaderef01_Size_11 v0 v1 v7 v8 v9 v10 = y
  cases y with
  | none => rfl
  | some y => cases y <;> rfl
theorem s_cascaderef01_Size_6   (m : Nat)    : H_cascaderef01_Size_6 (atW table glob) m  p_cascaderef01_Size_6 := by
  intro v0 v1 v7 v8 v9 v10 out hp stk 
  refine LW.ind (fun (s : Str × Int × Int × Int × Int × Int) => match s with | (v0, v1, v7, v8, v9, v10) => b_cascaderef01_Size_6 Prims.real  p_cascaderef01_Size_11 v0 v1 v7 v8 v9 v10) (fun (s : Str × Int × Int × Int × Int × Int) o => match s with | (v0, v1, v7, v8, v9, v10) => ∀ (stk : Stk), (A_cascaderef01_Size_6 (atW table glob) m  v0 v1 v7 v8 v9 v10 stk) = (O_cascaderef01_Size  m  stk) o) (fun s r e => ?_) (fun s t r e ih => ?_) (v0, v1, v7, v8, v9, v10) out hp stk 
  · obtain ⟨v0, v1, v7, v8, v9, v10⟩ := s
    intro stk 
    exact o_cascaderef01_Size_6 (h := LW) (hT := rfl) (hPP := rfl) (he_e_api_Step := he_E_api_Step) (hz_e_api_Step := hz_E_api_Step) (he_e_api_Value := he_E_api_Value) (hz_e_api_Value := hz_E_api_Value) (he_e_api_Pair := he_E_api_Pair) (hz_e_api_Pair := hz_E_api_Pair) (he_e_int := he_E_int) (hz_e_int := hz_E_int)   (l_11 := p_cascaderef01_Size_11 ) (h_l_11 := s_cascaderef01_Size_11   m   ) stk m    v0 v1 v7 v8 v9 v10  e
  · obtain ⟨v0, v1, v7, v8, v9, v10⟩ := s; obtain ⟨v0', v1', v7', v8', v9', v10'⟩ := t
    intro stk 
    exact (o_cascaderef01_Size_6 (h := LW) (hT := rfl) (hPP := rfl) (he_e_api_Step := he_E_api_Step) (hz_e_api_Step := hz_E_api_Step) (he_e_api_Value := he_E_api_Value) (hz_e_api_Value := hz_E_api_Value) (he_e_api_Pair := he_E_api_Pair) (hz_e_api_Pair := hz_E_api_Pair) (he_e_int := he_E_int) (hz_e_int := hz_E_int)   (l_11 := p_cascaderef01_Size_11 ) (h_l_11 := s_cascaderef01_Size_11   m   ) stk m    v0 v1 v7 v8 v9 v10  e).trans (ih stk )
noncomputable def p_cascaderef01_Size_4  (v0 : Str) (v1 : Int) (v7 : Int) (v8 : Int) (v9 : Int) : Option (Int × Int) := b_cascaderef01_Size_4 Prims.real  p_cascaderef01_Size_6 v0 v1 v7 v8 v9
theorem s_cascaderef01_Size_4   (m : Nat)    : H_cascaderef01_Size_4 (atW table glob) m  p_cascaderef01_Size_4 := by
  intro v0 v1 v7 v8 v9 out hp stk 
  exact o_cascaderef01_Size_4 (h := LW) (hT := rfl) (hPP := rfl) (he_e_api_Step := he_E_api_Step) (hz_e_api_Step := hz_E_api_Step) (he_e_api_Value := he_E_api_Value) (hz_e_api_Value := hz_E_api_Value) (he_e_api_Pair := he_E_api_Pair) (hz_e_api_Pair := hz_E_api_Pair) (he_e_int := he_E_int) (hz_e_int := hz_E_int)   (l_6 := p_cascaderef01_Size_6 ) (h_l_6 := s_cascaderef01_Size_6   m   ) stk m    v0 v1 v7 v8 v9  hp
noncomputable def p_cascaderef01_Size_3  (v0 : Str) (v1 : Int) (v6 : Int) (v7 : Int) (v8 : Int) (v9 : Int) : Option (Int × Int) := b_cascaderef01_Size_3 Prims.real  p_cascaderef01_Size_4 v0 v1 v6 v7 v8 v9
theorem s_cascaderef01_Size_3   (m : Nat)    : H_cascaderef01_Size_3 (atW table glob) m  p_cascaderef01_Size_3 := by
  intro v0 v1 v6 v7 v8 v9 out hp stk 
  exact o_cascaderef01_Size_3 (h := LW) (hT := rfl) (hPP := rfl) (he_e_api_Step := he_E_api_Step) (hz_e_api_Step := hz_E_api_Step) (he_e_api_Value := he_E_api_Value) (hz_e_api_Value := hz_E_api_Value) (he_e_api_Pair := he_E_api_Pair) (hz_e_api_Pair := hz_E_api_Pair) (he_e_int := he_E_int) (hz_e_int := hz_E_int)   (l_4 := p_cascaderef01_Size_4 ) (h_l_4 := s_cascaderef01_Size_4   m   ) stk m    v0 v1 v6 v7 v8 v9  hp
noncomputable def p_cascaderef01_Size_2  (v0 : Str) (v1 : Int) (v6 : Int) (v7 : Int) (v8 : Int) (v9 : Int) : Option (Int × Int) := b_cascaderef01_Size_2 Prims.real  p_cascaderef01_Size_3 v0 v1 v6 v7 v8 v9
theorem s_cascaderef01_Size_2   (m : Nat)    : H_cascaderef01_Size_2 (atW table glob) m  p_cascaderef01_Size_2 := by
  intro v0 v1 v6 v7 v8 v9 out hp stk 
  exact o_cascaderef01_Size_2 (h := LW) (hT := rfl) (hPP := rfl) (he_e_api_Step := he_E_api_Step) (hz_e_api_Step := hz_E_api_Step) (he_e_api_Value := he_E_api_Value) (hz_e_api_Value := hz_E_api_Value) (he_e_api_Pair := he_E_api_Pair) (hz_e_api_Pair := hz_E_api_Pair) (he_e_int := he_E_int) (hz_e_int := hz_E_int)   (l_3 := p_cascaderef01_Size_3 ) (h_l_3 := s_cascaderef01_Size_3   m   ) stk m    v0 v1 v6 v7 v8 v9  hp
noncomputable def p_cascaderef01_Size_0  (v0 : Str) (v1 : Int) : Option (Int × Int) := b_cascaderef01_Size_0 Prims.real  p_cascaderef01_Size_2 v0 v1
theorem s_cascaderef01_Size_0   (m : Nat)    : H_cascaderef01_Size_0 (atW table glob) m  p_cascaderef01_Size_0 := by
  intro v0 v1 out hp stk 
  exact o_cascaderef01_Size_0 (h := LW) (hT := rfl) (hPP := rfl) (he_e_api_Step := he_E_api_Step) (hz_e_api_Step := hz_E_api_Step) (he_e_api_Value := he_E_api_Value) (hz_e_api_Value := hz_E_api_Value) (he_e_api_Pair := he_E_api_Pair) (hz_e_api_Pair := hz_E_api_Pair) (he_e_int := he_E_int) (hz_e_int := hz_E_int)   (l_2 := p_cascaderef01_Size_2 ) (h_l_2 := s_cascaderef01_Size_2   m   ) stk m    v0 v1  hp
noncomputable def p_cascaderef01_Size : Str → Int → Option (Int × Int) := fun v0 v1 => p_cascaderef01_Size_0  v0 v1
theorem s_cascaderef01_Size : (C_cascaderef01_Size (sysW table glob).pcall (sysW table glob).fcall p_cascaderef01_Size) := by
  intro _ _ _ _ hp stk    
  exact pf_of (T := table) (G := glob) (f := 123) rfl rfl (s_cascaderef01_Size_0   (topN stk + 1)    hp stk )
noncomputable def p_cascaderef01_Bad_1  (v0 : Str) (v3 : Int) : Option (Int) := Prims.real.loop (fun (s : Str × Int) => match s with | (v0, v3) => b_cascaderef01_Bad_1 Prims.real p_cascaderef01_Size  v0 v3) (v0, v3)
theorem u_cascaderef01_Bad_1  (v0 : Str) (v3 : Int) : p_cascaderef01_Bad_1  v0 v3 = match b_cascaderef01_Bad_1 Prims.real p_cascaderef01_Size  v0 v3 with
    | some (.inl (v0', v3')) => p_cascaderef01_Bad_1  v0' v3'
    | some (.inr r) => some r
    | none => none := by
  show Pr.loop _ _ = _
  rw [Pr.loop_eq]
  try dsimp only
  generalize b_cascaderef01_Bad_1 Prims.real p_cascaderef01_Size  v0 v3 = y
  cases y with
  | none => rfl
  | some y => cases y <;> rfl
theorem s_cascaderef01_Bad_1   (m : Nat)    : H_cascaderef01_Bad_1 (atW table glob) m  p_cascaderef01_Bad_1 := by
  intro v0 v3 out hp stk 
  refine LW.ind (fun (s : Str × Int) => match s with | (v0, v3) => b_cascaderef01_Bad_1 Prims.real p_cascaderef01_Size  v0 v3) (fun (s : Str × Int) o => match s with | (v0, v3) => ∀ (stk : Stk), (A_cascaderef01_Bad_1 (atW table glob) m  v0 v3 stk) = (O_cascaderef01_Bad  m  stk) o) (fun s r e => ?_) (fun s t r e ih => ?_) (v0, v3) out hp stk 
  · obtain ⟨v0, v3⟩ := s
    intro stk 
    exact o_cascaderef01_Bad_1 (h := LW) (hT := rfl) (hPP := rfl) (he_e_api_Step := he_E_api_Step) (hz_e_api_Step := hz_E_api_Step) (he_e_api_Value := he_E_api_Value) (hz_e_api_Value := hz_E_api_Value) (he_e_api_Pair := he_E_api_Pair) (hz_e_api_Pair := hz_E_api_Pair) (he_e_int := he_E_int) (hz_e_int := hz_E_int) (c_cascaderef01_Size := p_cascaderef01_Size) (h_cascaderef01_Size := s_cascaderef01_Size)   stk m    v0 v3  e
  · obtain ⟨v0, v3⟩ := s; obtain ⟨v0', v3'⟩ := t
    intro stk 
    exact (o_cascaderef01_Bad_1 (h := LW) (hT := rfl) (hPP := rfl) (he_e_api_Step := he_E_api_Step) (hz_e_api_Step := hz_E_api_Step) (he_e_api_Value := he_E_api_Value) (hz_e_api_Value := hz_E_api_Value) (he_e_api_Pair := he_E_api_Pair) (hz_e_api_Pair := hz_E_api_Pair) (he_e_int := he_E_int) (hz_e_int := hz_E_int) (c_cascaderef01_Size := p_cascaderef01_Size) (h_cascaderef01_Size := s_cascaderef01_Size)   stk m    v0 v3  e).trans (ih stk )
noncomputable def p_cascaderef01_Bad_0  (v0 : Str) : Option (Int) := b_cascaderef01_Bad_0 Prims.real p_cascaderef01_Size p_cascaderef01_Bad_1 v0
theorem s_cascaderef01_Bad_0   (m : Nat)    : H_cascaderef01_Bad_0 (atW table glob) m  p_cascaderef01_Bad_0 := by
  intro v0 out hp stk 
  exact o_cascaderef01_Bad_0 (h := LW) (hT := rfl) (hPP := rfl) (he_e_api_Step := he_E_api_Step) (hz_e_api_Step := hz_E_api_Step) (he_e_api_Value := he_E_api_Value) (hz_e_api_Value := hz_E_api_Value) (he_e_api_Pair := he_E_api_Pair) (hz_e_api_Pair := hz_E_api_Pair) (he_e_int := he_E_int) (hz_e_int := hz_E_int) (c_cascaderef01_Size := p_cascaderef01_Size) (h_cascaderef01_Size := s_cascaderef01_Size) (l_1 := p_cascaderef01_Bad_1 ) (h_l_1 := s_cascaderef01_Bad_1   m   ) stk m    v0  hp
noncomputable def p_cascaderef01_Bad : Str → Option (Int) := fun v0 => p_cascaderef01_Bad_0  v0
theorem s_cascaderef01_Bad : (C_cascaderef01_Bad (sysW table glob).pcall (sysW table glob).fcall p_cascaderef01_Bad) := by
  intro _ _ hp stk    
  exact pf_of (T := table) (G := glob) (f := 91) rfl rfl (s_cascaderef01_Bad_0   (topN stk + 1)    hp stk )
noncomputable def p_cascaderef01_Right_0  (v0 : Str) : Option (Bool) := b_cascaderef01_Right_0 Prims.real p_cascaderef01_Bad  v0
theorem s_cascaderef01_Right_0   (m : Nat)    : H_cascaderef01_Right_0 (atW table glob) m  p_cascaderef01_Right_0 := by
  intro v0 out hp stk 
  exact o_cascaderef01_Right_0 (h := LW) (hT := rfl) (hPP := rfl) (he_e_api_Step := he_E_api_Step) (hz_e_api_Step := hz_E_api_Step) (he_e_api_Value := he_E_api_Value) (hz_e_api_Value := hz_E_api_Value) (he_e_api_Pair := he_E_api_Pair) (hz_e_api_Pair := hz_E_api_Pair) (he_e_int := he_E_int) (hz_e_int := hz_E_int) (c_cascaderef01_Bad := p_cascaderef01_Bad) (h_cascaderef01_Bad := s_cascaderef01_Bad)   stk m    v0  hp
noncomputable def p_cascaderef01_Right : Str → Option (Bool) := fun v0 => p_cascaderef01_Right_0  v0
theorem s_cascaderef01_Right : (C_cascaderef01_Right (sysW table glob).pcall (sysW table glob).fcall p_cascaderef01_Right) := by
  intro _ _ hp stk    
  exact pf_of (T := table) (G := glob) (f := 49) rfl rfl (s_cascaderef01_Right_0   (topN stk + 1)    hp stk )
noncomputable def p_cascaderef06_Right_3  (v0 : (List S_api_Step)) (v3 : Int) : Option (((List S_api_Step) × Int) ⊕ (Bool)) := b_cascaderef06_Right_3 Prims.real p_cascaderef01_Right  v0 v3
theorem s_cascaderef06_Right_3   (m : Nat)    : H_cascaderef06_Right_3 (atW table glob) (fun {_} e l => List.map e l) E_api_Step m  p_cascaderef06_Right_3 := by
  intro v0 v3 out hp stk 
  exact o_cascaderef06_Right_3 (h := LW) (hT := rfl) (hPP := rfl) (he_e_api_Step := he_E_api_Step) (hz_e_api_Step := hz_E_api_Step) (he_e_api_Value := he_E_api_Value) (hz_e_api_Value := hz_E_api_Value) (he_e_api_Pair := he_E_api_Pair) (hz_e_api_Pair := hz_E_api_Pair) (he_e_int := he_E_int) (hz_e_int := hz_E_int) (c_cascaderef01_Right := p_cascaderef01_Right) (h_cascaderef01_Right := s_cascaderef01_Right)   stk m    v0 v3  hp
noncomputable def p_cascaderef06_Right_4  (v0 : (List S_api_Step)) : Option (Bool) := b_cascaderef06_Right_4 Prims.real p_cascaderef01_Right  v0
theorem s_cascaderef06_Right_4   (m : Nat)    : H_cascaderef06_Right_4 (atW table glob) (fun {_} e l => List.map e l) E_api_Step m  p_cascaderef06_Right_4 := by
  intro v0 out hp stk 
  exact o_cascaderef06_Right_4 (h := LW) (hT := rfl) (hPP := rfl) (he_e_api_Step := he_E_api_Step) (hz_e_api_Step := hz_E_api_Step) (he_e_api_Value := he_E_api_Value) (hz_e_api_Value := hz_E_api_Value) (he_e_api_Pair := he_E_api_Pair) (hz_e_api_Pair := hz_E_api_Pair) (he_e_int := he_E_int) (hz_e_int := hz_E_int) (c_cascaderef01_Right := p_cascaderef01_Right) (h_cascaderef01_Right := s_cascaderef01_Right)   stk m    v0  hp
noncomputable def p_cascaderef06_Right_1  (v0 : (List S_api_Step)) (v3 : Int) : Option (Bool) := Prims.real.loop (fun (s : (List S_api_Step) × Int) => match s with | (v0, v3) => b_cascaderef06_Right_1 Prims.real p_cascaderef01_Right p_cascaderef06_Right_3 p_cascaderef06_Right_4 v0 v3) (v0, v3)
theorem u_cascaderef06_Right_1  (v0 : (List S_api_Step)) (v3 : Int) : p_cascaderef06_Right_1  v0 v3 = match b_cascaderef06_Right_1 Prims.real p_cascaderef01_Right p_cascaderef06_Right_3 p_cascaderef06_Right_4 v0 v3 with
    | some (.inl (v0', v3')) => p_cascaderef06_Right_1  v0' v3'
    | some (.inr r) => some r
    | none => none := by
  show Pr.loop _ _ = _
  rw [Pr.loop_eq]
  try dsimp only
  generalize b_cascaderef06_Right_1 Prims.real p_cascaderef01_Right p_cascaderef06_Right_3 p_cascaderef06_Right_4 v0 v3 = y
  cases y with
  | none => rfl
  | some y => cases y <;> rfl
theorem s_cascaderef06_Right_1   (m : Nat)    : H_cascaderef06_Right_1 (atW table glob) (fun {_} e l => List.map e l) E_api_Step m  p_cascaderef06_Right_1 := by
  intro v0 v3 out hp stk 
  refine LW.ind (fun (s : (List S_api_Step) × Int) => match s with | (v0, v3) => b_cascaderef06_Right_1 Prims.real p_cascaderef01_Right p_cascaderef06_Right_3 p_cascaderef06_Right_4 v0 v3) (fun (s : (List S_api_Step) × Int) o => match s with | (v0, v3) => ∀ (stk : Stk), (A_cascaderef06_Right_1 (atW table glob) (fun {_} e l => List.map e l) E_api_Step m  v0 v3 stk) = (O_cascaderef06_Right  m  stk) o) (fun s r e => ?_) (fun s t r e ih => ?_) (v0, v3) out hp stk 
  · obtain ⟨v0, v3⟩ := s
    intro stk 
    exact o_cascaderef06_Right_1 (h := LW) (hT := rfl) (hPP := rfl) (he_e_api_Step := he_E_api_Step) (hz_e_api_Step := hz_E_api_Step) (he_e_api_Value := he_E_api_Value) (hz_e_api_Value := hz_E_api_Value) (he_e_api_Pair := he_E_api_Pair) (hz_e_api_Pair := hz_E_api_Pair) (he_e_int := he_E_int) (hz_e_int := hz_E_int) (c_cascaderef01_Right := p_cascaderef01_Right) (h_cascaderef01_Right := s_cascaderef01_Right) (l_3 := p_cascaderef06_Right_3 ) (l_4 := p_cascaderef06_Right_4 ) (h_l_3 := s_cascaderef06_Right_3   m   ) (h_l_4 := s_cascaderef06_Right_4   m   ) stk m    v0 v3  e
  · obtain ⟨v0, v3⟩ := s; obtain ⟨v0', v3'⟩ := t
    intro stk 
    exact (o_cascaderef06_Right_1 (h := LW) (hT := rfl) (hPP := rfl) (he_e_api_Step := he_E_api_Step) (hz_e_api_Step := hz_E_api_Step) (he_e_api_Value := he_E_api_Value) (hz_e_api_Value := hz_E_api_Value) (he_e_api_Pair := he_E_api_Pair) (hz_e_api_Pair := hz_E_api_Pair) (he_e_int := he_E_int) (hz_e_int := hz_E_int) (c_cascaderef01_Right := p_cascaderef01_Right) (h_cascaderef01_Right := s_cascaderef01_Right) (l_3 := p_cascaderef06_Right_3 ) (l_4 := p_cascaderef06_Right_4 ) (h_l_3 := s_cascaderef06_Right_3   m   ) (h_l_4 := s_cascaderef06_Right_4   m   ) stk m    v0 v3  e).trans (ih stk )
noncomputable def p_cascaderef06_Right_0  (v0 : (List S_api_Step)) : Option (Bool) := b_cascaderef06_Right_0 Prims.real p_cascaderef01_Right p_cascaderef06_Right_1 v0
theorem s_cascaderef06_Right_0   (m : Nat)    : H_cascaderef06_Right_0 (atW table glob) (fun {_} e l => List.map e l) E_api_Step m  p_cascaderef06_Right_0 := by
  intro v0 out hp stk 
  exact o_cascaderef06_Right_0 (h := LW) (hT := rfl) (hPP := rfl) (he_e_api_Step := he_E_api_Step) (hz_e_api_Step := hz_E_api_Step) (he_e_api_Value := he_E_api_Value) (hz_e_api_Value := hz_E_api_Value) (he_e_api_Pair := he_E_api_Pair) (hz_e_api_Pair := hz_E_api_Pair) (he_e_int := he_E_int) (hz_e_int := hz_E_int) (c_cascaderef01_Right := p_cascaderef01_Right) (h_cascaderef01_Right := s_cascaderef01_Right) (l_1 := p_cascaderef06_Right_1 ) (h_l_1 := s_cascaderef06_Right_1   m   ) stk m    v0  hp
noncomputable def p_cascaderef06_Right : (List S_api_Step) → Option (Bool) := fun v0 => p_cascaderef06_Right_0  v0
theorem s_cascaderef06_Right : (C_cascaderef06_Right (sysW table glob).pcall (sysW table glob).fcall (fun {_} e l => List.map e l) E_api_Step p_cascaderef06_Right) := by
  intro _ _ hp stk    
  exact pf_of (T := table) (G := glob) (f := 17) rfl rfl (s_cascaderef06_Right_0   (topN stk + 1)    hp stk )
noncomputable def p_cascaderef03_Same_6 (c_cascaderef03_Same : S_api_Value → S_api_Value → Option (Bool)) (v2_0 : Int) (v2_1 : Int) (v2_2 : Str) (v2_3 : (List S_api_Value)) (v2_4 : (List S_api_Pair)) (v3_0 : Int) (v3_1 : Int) (v3_2 : Str) (v3_3 : (List S_api_Value)) (v3_4 : (List S_api_Pair)) (v6 : Int) : Option (Bool) := Prims.real.loop (fun (s : Int × Int × Str × (List S_api_Value) × (List S_api_Pair) × Int × Int × Str × (List S_api_Value) × (List S_api_Pair) × Int) => match s with | (v2_0, v2_1, v2_2, v2_3, v2_4, v3_0, v3_1, v3_2, v3_3, v3_4, v6) => b_cascaderef03_Same_6 Prims.real c_cascaderef03_Same  v2_0 v2_1 v2_2 v2_3 v2_4 v3_0 v3_1 v3_2 v3_3 v3_4 v6) (v2_0, v2_1, v2_2, v2_3, v2_4, v3_0, v3_1, v3_2, v3_3, v3_4, v6)
theorem u_cascaderef03_Same_6 (c_cascaderef03_Same : S_api_Value → S_api_Value → Option (Bool)) (v2_0 : Int) (v2_1 : Int) (v2_2 : Str) (v2_3 : (List S_api_Value)) (v2_4 : (List S_api_Pair)) (v3_0 : Int) (v3_1 : Int) (v3_2 : Str) (v3_3 : (List S_api_Value)) (v3_4 : (List S_api_Pair)) (v6 : Int) : p_cascaderef03_Same_6 c_cascaderef03_Same v2_0 v2_1 v2_2 v2_3 v2_4 v3_0 v3_1 v3_2 v3_3 v3_4 v6 = match b_cascaderef03_Same_6 Prims.real c_cascaderef03_Same  v2_0 v2_1 v2_2 v2_3 v2_4 v3_0 v3_1 v3_2 v3_3 v3_4 v6 with
    | some (.inl (v2_0', v2_1', v2_2', v2_3', v2_4', v3_0', v3_1', v3_2', v3_3', v3_4', v6')) => p_cascaderef03_Same_6 c_cascaderef03_Same v2_0' v2_1' v2_2' v2_3' v2_4' v3_0' v3_1' v3_2' v3_3' v3_4' v6'
    | some (.inr r) => some r
    | none => none := by
  show Pr.loop _ _ = _
  rw [Pr.loop_eq]
  try dsimp only
  generalize b_cascaderef03_Same_6 Prims.real c_cascaderef03_Same  v2_0 v2_1 v2_2 v2_3 v2_4 v3_0 v3_1 v3_2 v3_3 v3_4 v6 = y
  cases y with
  | none => rfl
  | some y => cases y <;> rfl
theorem s_cascaderef03_Same_6 (c_cascaderef03_Same : S_api_Value → S_api_Value → Option (Bool)) (h_cascaderef03_Same : (C_cascaderef03_Same (sysW table glob).pcall (sysW table glob).fcall (fun {_} e l => List.map e l) E_api_Value E_api_Pair c_cascaderef03_Same)) (m : Nat)    : H_cascaderef03_Same_6 (atW table glob) (fun {_} e l => List.map e l) E_api_Value E_api_Pair m  (p_cascaderef03_Same_6 c_cascaderef03_Same) := by
  intro v2_0 v2_1 v2_2 v2_3 v2_4 v3_0 v3_1 v3_2 v3_3 v3_4 v6 out hp stk 
  refine LW.ind (fun (s : Int × Int × Str × (List S_api_Value) × (List S_api_Pair) × Int × Int × Str × (List S_api_Value) × (List S_api_Pair) × Int) => match s with | (v2_0, v2_1, v2_2, v2_3, v2_4, v3_0, v3_1, v3_2, v3_3, v3_4, v6) => b_cascaderef03_Same_6 Prims.real c_cascaderef03_Same  v2_0 v2_1 v2_2 v2_3 v2_4 v3_0 v3_1 v3_2 v3_3 v3_4 v6) (fun (s : Int × Int × Str × (List S_api_Value) × (List S_api_Pair) × Int × Int × Str × (List S_api_Value) × (List S_api_Pair) × Int) o => match s with | (v2_0, v2_1, v2_2, v2_3, v2_4, v3_0, v3_1, v3_2, v3_3, v3_4, v6) => ∀ (stk : Stk), (A_cascaderef03_Same_6 (atW table glob) (fun {_} e l => List.map e l) E_api_Value E_api_Pair m  v2_0 v2_1 v2_2 v2_3 v2_4 v3_0 v3_1 v3_2 v3_3 v3_4 v6 stk) = (O_cascaderef03_Same  m  stk) o) (fun s r e => ?_) (fun s t r e ih => ?_) (v2_0, v2_1, v2_2, v2_3, v2_4, v3_0, v3_1, v3_2, v3_3, v3_4, v6) out hp stk 
  · obtain ⟨v2_0, v2_1, v2_2, v2_3, v2_4, v3_0, v3_1, v3_2, v3_3, v3_4, v6⟩ := s
    intro stk 
    exact o_cascaderef03_Same_6 (h := LW) (hT := rfl) (hPP := rfl) (he_e_api_Step := he_E_api_Step) (hz_e_api_Step := hz_E_api_Step) (he_e_api_Value := he_E_api_Value) (hz_e_api_Value := hz_E_api_Value) (he_e_api_Pair := he_E_api_Pair) (hz_e_api_Pair := hz_E_api_Pair) (he_e_int := he_E_int) (hz_e_int := hz_E_int) (c_cascaderef03_Same := c_cascaderef03_Same) (h_cascaderef03_Same := h_cascaderef03_Same)   stk m    v2_0 v2_1 v2_2 v2_3 v2_4 v3_0 v3_1 v3_2 v3_3 v3_4 v6  e
  · obtain ⟨v2_0, v2_1, v2_2, v2_3, v2_4, v3_0, v3_1, v3_2, v3_3, v3_4, v6⟩ := s; obtain ⟨v2_0', v2_1', v2_2', v2_3', v2_4', v3_0', v3_1', v3_2', v3_3', v3_4', v6'⟩ := t
    intro stk 
    exact (o_cascaderef03_Same_6 (h := LW) (hT := rfl) (hPP := rfl) (he_e_api_Step := he_E_api_Step) (hz_e_api_Step := hz_E_api_Step) (he_e_api_Value := he_E_api_Value) (hz_e_api_Value := hz_E_api_Value) (he_e_api_Pair := he_E_api_Pair) (hz_e_api_Pair := hz_E_api_Pair) (he_e_int := he_E_int) (hz_e_int := hz_E_int) (c_cascaderef03_Same := c_cascaderef03_Same) (h_cascaderef03_Same := h_cascaderef03_Same)   stk m    v2_0 v2_1 v2_2 v2_3 v2_4 v3_0 v3_1 v3_2 v3_3 v3_4 v6  e).trans (ih stk )
noncomputable def p_cascaderef03_Same_2 (c_cascaderef03_Same : S_api_Value → S_api_Value → Option (Bool)) (v2_0 : Int) (v2_1 : Int) (v2_2 : Str) (v2_3 : (List S_api_Value)) (v2_4 : (List S_api_Pair)) (v3_0 : Int) (v3_1 : Int) (v3_2 : Str) (v3_3 : (List S_api_Value)) (v3_4 : (List S_api_Pair)) (v5 : Int) : Option (Bool) := Prims.real.loop (fun (s : Int × Int × Str × (List S_api_Value) × (List S_api_Pair) × Int × Int × Str × (List S_api_Value) × (List S_api_Pair) × Int) => match s with | (v2_0, v2_1, v2_2, v2_3, v2_4, v3_0, v3_1, v3_2, v3_3, v3_4, v5) => b_cascaderef03_Same_2 Prims.real c_cascaderef03_Same (p_cascaderef03_Same_6 c_cascaderef03_Same) v2_0 v2_1 v2_2 v2_3 v2_4 v3_0 v3_1 v3_2 v3_3 v3_4 v5) (v2_0, v2_1, v2_2, v2_3, v2_4, v3_0, v3_1, v3_2, v3_3, v3_4, v5)
theorem u_cascaderef03_Same_2 (c_cascaderef03_Same : S_api_Value → S_api_Value → Option (Bool)) (v2_0 : Int) (v2_1 : Int) (v2_2 : Str) (v2_3 : (List S_api_Value)) (v2_4 : (List S_api_Pair)) (v3_0 : Int) (v3_1 : Int) (v3_2 : Str) (v3_3 : (List S_api_Value)) (v3_4 : (List S_api_Pair)) (v5 : Int) : p_cascaderef03_Same_2 c_cascaderef03_Same v2_0 v2_1 v2_2 v2_3 v2_4 v3_0 v3_1 v3_2 v3_3 v3_4 v5 = match b_cascaderef03_Same_2 Prims.real c_cascaderef03_Same (p_cascaderef03_Same_6 c_cascaderef03_Same) v2_0 v2_1 v2_2 v2_3 v2_4 v3_0 v3_1 v3_2 v3_3 v3_4 v5 with
    | some (.inl (v2_0', v2_1', v2_2', v2_3', v2_4', v3_0', v3_1', v3_2', v3_3', v3_4', v5')) => p_cascaderef03_Same_2 c_cascaderef03_Same v2_0' v2_1' v2_2' v2_3' v2_4' v3_0' v3_1' v3_2' v3_3' v3_4' v5'
    | some (.inr r) => some r
    | none => none := by
  show Pr.loop _ _ = _
  rw [Pr.loop_eq]
  try dsimp only
  generalize b_cascaderef03_Same_2 Prims.real c_cascaderef03_Same (p_cascaderef03_Same_6 c_cascaderef03_Same) v2_0 v2_1 v2_2 v2_3 v2_4 v3_0 v3_1 v3_2 v3_3 v3_4 v5 = y
  cases y with
  | none => rfl
  | some y => cases y <;> rfl
theorem s_cascaderef03_Same_2 (c_cascaderef03_Same : S_api_Value → S_api_Value → Option (Bool)) (h_cascaderef03_Same : (C_cascaderef03_Same (sysW table glob).pcall (sysW table glob).fcall (fun {_} e l => List.map e l) E_api_Value E_api_Pair c_cascaderef03_Same)) (m : Nat)    : H_cascaderef03_Same_2 (atW table glob) (fun {_} e l => List.map e l) E_api_Value E_api_Pair m  (p_cascaderef03_Same_2 c_cascaderef03_Same) := by
  intro v2_0 v2_1 v2_2 v2_3 v2_4 v3_0 v3_1 v3_2 v3_3 v3_4 v5 out hp stk 
  refine LW.ind (fun (s : Int × Int × Str × (List S_api_Value) × (List S_api_Pair) × Int × Int × Str × (List S_api_Value) × (List S_api_Pair) × Int) => match s with | (v2_0, v2_1, v2_2, v2_3, v2_4, v3_0, v3_1, v3_2, v3_3, v3_4, v5) => b_cascaderef03_Same_2 Prims.real c_cascaderef03_Same (p_cascaderef03_Same_6 c_cascaderef03_Same) v2_0 v2_1 v2_2 v2_3 v2_4 v3_0 v3_1 v3_2 v3_3 v3_4 v5) (fun (s : Int × Int × Str × (List S_api_Value) × (List S_api_Pair) × Int × Int × Str × (List S_api_Value) × (List S_api_Pair) × Int) o => match s with | (v2_0, v2_1, v2_2, v2_3, v2_4, v3_0, v3_1, v3_2, v3_3, v3_4, v5) => ∀ (stk : Stk), (A_cascaderef03_Same_2 (atW table glob) (fun {_} e l => List.map e l) E_api_Value E_api_Pair m  v2_0 v2_1 v2_2 v2_3 v2_4 v3_0 v3_1 v3_2 v3_3 v3_4 v5 stk) = (O_cascaderef03_Same  m  stk) o) (fun s r e => ?_) (fun s t r e ih => ?_) (v2_0, v2_1, v2_2, v2_3, v2_4, v3_0, v3_1, v3_2, v3_3, v3_4, v5) out hp stk 
  · obtain ⟨v2_0, v2_1, v2_2, v2_3, v2_4, v3_0, v3_1, v3_2, v3_3, v3_4, v5⟩ := s
    intro stk 
    exact o_cascaderef03_Same_2 (h := LW) (hT := rfl) (hPP := rfl) (he_e_api_Step := he_E_api_Step) (hz_e_api_Step := hz_E_api_Step) (he_e_api_Value := he_E_api_Value) (hz_e_api_Value := hz_E_api_Value) (he_e_api_Pair := he_E_api_Pair) (hz_e_api_Pair := hz_E_api_Pair) (he_e_int := he_E_int) (hz_e_int := hz_E_int) (c_cascaderef03_Same := c_cascaderef03_Same) (h_cascaderef03_Same := h_cascaderef03_Same) (l_6 := p_cascaderef03_Same_6 c_cascaderef03_Same) (h_l_6 := s_cascaderef03_Same_6 c_cascaderef03_Same h_cascaderef03_Same m   ) stk m    v2_0 v2_1 v2_2 v2_3 v2_4 v3_0 v3_1 v3_2 v3_3 v3_4 v5  e
  · obtain ⟨v2_0, v2_1, v2_2, v2_3, v2_4, v3_0, v3_1, v3_2, v3_3, v3_4, v5⟩ := s; obtain ⟨v2_0', v2_1', v2_2', v2_3', v2_4', v3_0', v3_1', v3_2', v3_3', v3_4', v5'⟩ := t
    intro stk 
    exact (o_cascaderef03_Same_2 (h := LW) (hT := rfl) (hPP := rfl) (he_e_api_Step := he_E_api_Step) (hz_e_api_Step := hz_E_api_Step) (he_e_api_Value := he_E_api_Value) (hz_e_api_Value := hz_E_api_Value) (he_e_api_Pair := he_E_api_Pair) (hz_e_api_Pair := hz_E_api_Pair) (he_e_int := he_E_int) (hz_e_int := hz_E_int) (c_cascaderef03_Same := c_cascaderef03_Same) (h_cascaderef03_Same := h_cascaderef03_Same) (l_6 := p_cascaderef03_Same_6 c_cascaderef03_Same) (h_l_6 := s_cascaderef03_Same_6 c_cascaderef03_Same h_cascaderef03_Same m   ) stk m    v2_0 v2_1 v2_2 v2_3 v2_4 v3_0 v3_1 v3_2 v3_3 v3_4 v5  e).trans (ih stk )
noncomputable def p_cascaderef03_Same_0 (c_cascaderef03_Same : S_api_Value → S_api_Value → Option (Bool)) (v0_0 : Int) (v0_1 : Int) (v0_2 : Str) (v0_3 : (List S_api_Value)) (v0_4 : (List S_api_Pair)) (v1_0 : Int) (v1_1 : Int) (v1_2 : Str) (v1_3 : (List S_api_Value)) (v1_4 : (List S_api_Pair)) : Option (Bool) := b_cascaderef03_Same_0 Prims.real c_cascaderef03_Same (p_cascaderef03_Same_2 c_cascaderef03_Same) v0_0 v0_1 v0_2 v0_3 v0_4 v1_0 v1_1 v1_2 v1_3 v1_4
theorem s_cascaderef03_Same_0 (c_cascaderef03_Same : S_api_Value → S_api_Value → Option (Bool)) (h_cascaderef03_Same : (C_cascaderef03_Same (sysW table glob).pcall (sysW table glob).fcall (fun {_} e l => List.map e l) E_api_Value E_api_Pair c_cascaderef03_Same)) (m : Nat)    : H_cascaderef03_Same_0 (atW table glob) (fun {_} e l => List.map e l) E_api_Value E_api_Pair m  (p_cascaderef03_Same_0 c_cascaderef03_Same) := by
  intro v0_0 v0_1 v0_2 v0_3 v0_4 v1_0 v1_1 v1_2 v1_3 v1_4 out hp stk 
  exact o_cascaderef03_Same_0 (h := LW) (hT := rfl) (hPP := rfl) (he_e_api_Step := he_E_api_Step) (hz_e_api_Step := hz_E_api_Step) (he_e_api_Value := he_E_api_Value) (hz_e_api_Value := hz_E_api_Value) (he_e_api_Pair := he_E_api_Pair) (hz_e_api_Pair := hz_E_api_Pair) (he_e_int := he_E_int) (hz_e_int := hz_E_int) (c_cascaderef03_Same := c_cascaderef03_Same) (h_cascaderef03_Same := h_cascaderef03_Same) (l_2 := p_cascaderef03_Same_2 c_cascaderef03_Same) (h_l_2 := s_cascaderef03_Same_2 c_cascaderef03_Same h_cascaderef03_Same m   ) stk m    v0_0 v0_1 v0_2 v0_3 v0_4 v1_0 v1_1 v1_2 v1_3 v1_4  hp
noncomputable def pk_cascaderef03_Same : Nat → (S_api_Value → S_api_Value → Option (Bool))
  | 0 => fun _ _ => none
  | k + 1 => fun ⟨v0_0, v0_1, v0_2, v0_3, v0_4⟩ ⟨v1_0, v1_1, v1_2, v1_3, v1_4⟩ => p_cascaderef03_Same_0 ((pk_cascaderef03_Same k)) v0_0 v0_1 v0_2 v0_3 v0_4 v1_0 v1_1 v1_2 v1_3 v1_4
theorem sk_cascaderef03_Same : ∀ k, ((C_cascaderef03_Same (sysW table glob).pcall (sysW table glob).fcall (fun {_} e l => List.map e l) E_api_Value E_api_Pair ((pk_cascaderef03_Same k)))) ∧ True
  | 0 => by
    refine ⟨?_, trivial⟩
    · intro _ _ _ _ _ _ _ _ _ _ _ hp; exact nomatch (show none = some _ from hp)
  | k + 1 => by
    obtain ⟨ih0, _⟩ := sk_cascaderef03_Same k
    refine ⟨?_, trivial⟩
    · intro _ _ _ _ _ _ _ _ _ _ _ hp stk    
      exact pf_of (T := table) (G := glob) (f := 22) rfl rfl (s_cascaderef03_Same_0 ((pk_cascaderef03_Same k)) ih0 (topN stk + 1)    hp stk )
noncomputable def p_cascaderef03_Same : S_api_Value → S_api_Value → Option (Bool) := (pk_cascaderef03_Same 1000000)
theorem s_cascaderef03_Same : (C_cascaderef03_Same (sysW table glob).pcall (sysW table glob).fcall (fun {_} e l => List.map e l) E_api_Value E_api_Pair p_cascaderef03_Same) := (sk_cascaderef03_Same 1000000).1
noncomputable def p_cascadelaw06_zero_0  (v0_0 : Int) (v0_1 : Int) (v0_2 : Str) (v0_3 : (List S_api_Value)) (v0_4 : (List S_api_Pair)) : Option (Bool) := b_cascadelaw06_zero_0 Prims.real p_cascaderef03_Same  v0_0 v0_1 v0_2 v0_3 v0_4
theorem s_cascadelaw06_zero_0   (m : Nat)    : H_cascadelaw06_zero_0 (atW table glob) (fun {_} e l => List.map e l) E_api_Value E_api_Pair m  p_cascadelaw06_zero_0 := by
  intro v0_0 v0_1 v0_2 v0_3 v0_4 out hp stk 
  exact o_cascadelaw06_zero_0 (h := LW) (hT := rfl) (hPP := rfl) (he_e_api_Step := he_E_api_Step) (hz_e_api_Step := hz_E_api_Step) (he_e_api_Value := he_E_api_Value) (hz_e_api_Value := hz_E_api_Value) (he_e_api_Pair := he_E_api_Pair) (hz_e_api_Pair := hz_E_api_Pair) (he_e_int := he_E_int) (hz_e_int := hz_E_int) (c_cascaderef03_Same := p_cascaderef03_Same) (h_cascaderef03_Same := s_cascaderef03_Same)   stk m    v0_0 v0_1 v0_2 v0_3 v0_4  hp
noncomputable def p_cascadelaw06_zero : S_api_Value → Option (Bool) := fun ⟨v0_0, v0_1, v0_2, v0_3, v0_4⟩ => p_cascadelaw06_zero_0  v0_0 v0_1 v0_2 v0_3 v0_4
theorem s_cascadelaw06_zero : (C_cascadelaw06_zero (sysW table glob).pcall (sysW table glob).fcall (fun {_} e l => List.map e l) E_api_Value E_api_Pair p_cascadelaw06_zero) := by
  intro _ _ _ _ _ _ hp stk    
  exact pf_of (T := table) (G := glob) (f := 20) rfl rfl (s_cascadelaw06_zero_0   (topN stk + 1)    hp stk )
noncomputable def p_tree_unused_0  (v0_0 : Int) (v0_1 : Int) (v0_2 : Str) (v0_3 : (List S_api_Value)) (v0_4 : (List S_api_Pair)) : Option (Bool) := b_tree_unused_0 Prims.real   v0_0 v0_1 v0_2 v0_3 v0_4
theorem s_tree_unused_0   (m : Nat)    : H_tree_unused_0 (atW table glob) (fun {_} e l => List.map e l) E_api_Value E_api_Pair m  p_tree_unused_0 := by
  intro v0_0 v0_1 v0_2 v0_3 v0_4 out hp stk 
  exact o_tree_unused_0 (h := LW) (hT := rfl) (hPP := rfl) (he_e_api_Step := he_E_api_Step) (hz_e_api_Step := hz_E_api_Step) (he_e_api_Value := he_E_api_Value) (hz_e_api_Value := hz_E_api_Value) (he_e_api_Pair := he_E_api_Pair) (hz_e_api_Pair := hz_E_api_Pair) (he_e_int := he_E_int) (hz_e_int := hz_E_int)     stk m    v0_0 v0_1 v0_2 v0_3 v0_4  hp
noncomputable def p_tree_unused : S_api_Value → Option (Bool) := fun ⟨v0_0, v0_1, v0_2, v0_3, v0_4⟩ => p_tree_unused_0  v0_0 v0_1 v0_2 v0_3 v0_4
theorem s_tree_unused : (C_tree_unused (sysW table glob).pcall (sysW table glob).fcall (fun {_} e l => List.map e l) E_api_Value E_api_Pair p_tree_unused) := by
  intro _ _ _ _ _ _ hp stk    
  exact pf_of (T := table) (G := glob) (f := 95) rfl rfl (s_tree_unused_0   (topN stk + 1)    hp stk )
noncomputable def p_tree_keys_3  (v7 : (List S_api_Pair)) (v8 : Int) (v9 : Int) (o6_c : Nat) (o6 : (List (Str × Nat × Int))) : Option (((List S_api_Pair) × Int × Int × Nat × (List (Str × Nat × Int))) ⊕ (Bool)) := b_tree_keys_3 Prims.real p_text_Right  v7 v8 v9 o6_c o6
theorem s_tree_keys_3   (m : Nat)    : H_tree_keys_3 (atW table glob) (fun {_} e l => List.map e l) (fun {_} e l => mapE e l) E_api_Pair E_int m  p_tree_keys_3 := by
  intro v7 v8 v9 o6_c o6 out hp stk 
  exact o_tree_keys_3 (h := LW) (hT := rfl) (hPP := rfl) (he_e_api_Step := he_E_api_Step) (hz_e_api_Step := hz_E_api_Step) (he_e_api_Value := he_E_api_Value) (hz_e_api_Value := hz_E_api_Value) (he_e_api_Pair := he_E_api_Pair) (hz_e_api_Pair := hz_E_api_Pair) (he_e_int := he_E_int) (hz_e_int := hz_E_int) (c_text_Right := p_text_Right) (h_text_Right := s_text_Right)   stk m    v7 v8 v9 o6_c o6  hp
noncomputable def p_tree_keys_1  (v7 : (List S_api_Pair)) (v8 : Int) (v9 : Int) (o6_c : Nat) (o6 : (List (Str × Nat × Int))) : Option (Bool) := Prims.real.loop (fun (s : (List S_api_Pair) × Int × Int × Nat × (List (Str × Nat × Int))) => match s with | (v7, v8, v9, o6_c, o6) => b_tree_keys_1 Prims.real p_text_Right p_tree_keys_3 v7 v8 v9 o6_c o6) (v7, v8, v9, o6_c, o6)
theorem u_tree_keys_1  (v7 : (List S_api_Pair)) (v8 : Int) (v9 : Int) (o6_c : Nat) (o6 : (List (Str × Nat × Int))) : p_tree_keys_1  v7 v8 v9 o6_c o6 = match b_tree_keys_1 Prims.real p_text_Right p_tree_keys_3 v7 v8 v9 o6_c o6 with
    | some (.inl (v7', v8', v9', o6_c', o6')) => p_tree_keys_1  v7' v8' v9' o6_c' o6'
    | some (.inr r) => some r
    | none => none := by
  show Pr.loop _ _ = _
  rw [Pr.loop_eq]
  try dsimp only
  generalize b_tree_keys_1 Prims.real p_text_Right p_tree_keys_3 v7 v8 v9 o6_c o6 = y
  cases y with
  | none => rfl
  | some y => cases y <;> rfl
theorem s_tree_keys_1   (m : Nat)    : H_tree_keys_1 (atW table glob) (fun {_} e l => List.map e l) (fun {_} e l => mapE e l) E_api_Pair E_int m  p_tree_keys_1 := by
  intro v7 v8 v9 o6_c o6 out hp stk 
  refine LW.ind (fun (s : (List S_api_Pair) × Int × Int × Nat × (List (Str × Nat × Int))) => match s with | (v7, v8, v9, o6_c, o6) => b_tree_keys_1 Prims.real p_text_Right p_tree_keys_3 v7 v8 v9 o6_c o6) (fun (s : (List S_api_Pair) × Int × Int × Nat × (List (Str × Nat × Int))) o => match s with | (v7, v8, v9, o6_c, o6) => ∀ (stk : Stk), (A_tree_keys_1 (atW table glob) (fun {_} e l => List.map e l) (fun {_} e l => mapE e l) E_api_Pair E_int m  v7 v8 v9 o6_c o6 stk) = (O_tree_keys  m  stk) o) (fun s r e => ?_) (fun s t r e ih => ?_) (v7, v8, v9, o6_c, o6) out hp stk 
  · obtain ⟨v7, v8, v9, o6_c, o6⟩ := s
    intro stk 
    exact o_tree_keys_1 (h := LW) (hT := rfl) (hPP := rfl) (he_e_api_Step := he_E_api_Step) (hz_e_api_Step := hz_E_api_Step) (he_e_api_Value := he_E_api_Value) (hz_e_api_Value := hz_E_api_Value) (he_e_api_Pair := he_E_api_Pair) (hz_e_api_Pair := hz_E_api_Pair) (he_e_int := he_E_int) (hz_e_int := hz_E_int) (c_text_Right := p_text_Right) (h_text_Right := s_text_Right) (l_3 := p_tree_keys_3 ) (h_l_3 := s_tree_keys_3   m   ) stk m    v7 v8 v9 o6_c o6  e
  · obtain ⟨v7, v8, v9, o6_c, o6⟩ := s; obtain ⟨v7', v8', v9', o6_c', o6'⟩ := t
    intro stk 
    exact (o_tree_keys_1 (h := LW) (hT := rfl) (hPP := rfl) (he_e_api_Step := he_E_api_Step) (hz_e_api_Step := hz_E_api_Step) (he_e_api_Value := he_E_api_Value) (hz_e_api_Value := hz_E_api_Value) (he_e_api_Pair := he_E_api_Pair) (hz_e_api_Pair := hz_E_api_Pair) (he_e_int := he_E_int) (hz_e_int := hz_E_int) (c_text_Right := p_text_Right) (h_text_Right := s_text_Right) (l_3 := p_tree_keys_3 ) (h_l_3 := s_tree_keys_3   m   ) stk m    v7 v8 v9 o6_c o6  e).trans (ih stk )
noncomputable def p_tree_keys_0  (v0 : (List S_api_Pair)) : Option (Bool) := b_tree_keys_0 Prims.real p_text_Right p_tree_keys_1 v0
theorem s_tree_keys_0   (m : Nat)    : H_tree_keys_0 (atW table glob) (fun {_} e l => List.map e l) E_api_Pair m  p_tree_keys_0 := by
  intro v0 out hp stk 
  exact o_tree_keys_0 (h := LW) (hT := rfl) (hPP := rfl) (he_e_api_Step := he_E_api_Step) (hz_e_api_Step := hz_E_api_Step) (he_e_api_Value := he_E_api_Value) (hz_e_api_Value := hz_E_api_Value) (he_e_api_Pair := he_E_api_Pair) (hz_e_api_Pair := hz_E_api_Pair) (he_e_int := he_E_int) (hz_e_int := hz_E_int) (c_text_Right := p_text_Right) (h_text_Right := s_text_Right) (l_1 := p_tree_keys_1 ) (h_l_1 := s_tree_keys_1   m   ) stk m    v0  hp
noncomputable def p_tree_keys : (List S_api_Pair) → Option (Bool) := fun v0 => p_tree_keys_0  v0
theorem s_tree_keys : (C_tree_keys (sysW table glob).pcall (sysW table glob).fcall (fun {_} e l => List.map e l) E_api_Pair p_tree_keys) := by
  intro _ _ hp stk    
  exact pf_of (T := table) (G := glob) (f := 97) rfl rfl (s_tree_keys_0   (topN stk + 1)    hp stk )
noncomputable def p_tree_Right_1_1__0_0 (c_tree_Right_1__0 : S_api_Value → Int → Option (Bool)) (v0_0 : Int) (v0_1 : Int) (v0_2 : Str) (v0_3 : (List S_api_Value)) (v0_4 : (List S_api_Pair)) (v2_0 : Int) : Option (Bool) := b_tree_Right_1_1__0_0 Prims.real c_tree_Right_1__0  v0_0 v0_1 v0_2 v0_3 v0_4 v2_0
theorem s_tree_Right_1_1__0_0 (c_tree_Right_1__0 : S_api_Value → Int → Option (Bool)) (h_tree_Right_1__0 : (C_tree_Right_1__0 (sysW table glob).pcall (sysW table glob).fcall (fun {_} e l => List.map e l) E_api_Value E_api_Pair c_tree_Right_1__0)) (m : Nat) (n0 : Nat) (k0 : List Nat) (hl0 : n0 < m)  : H_tree_Right_1_1__0_0 (atW table glob) (fun {_} e l => List.map e l) E_api_Value E_api_Pair m n0 k0 (p_tree_Right_1_1__0_0 c_tree_Right_1__0) := by
  intro v0_0 v0_1 v0_2 v0_3 v0_4 v2_0 out hp stk hg0
  exact o_tree_Right_1_1__0_0 (h := LW) (hT := rfl) (hPP := rfl) (he_e_api_Step := he_E_api_Step) (hz_e_api_Step := hz_E_api_Step) (he_e_api_Value := he_E_api_Value) (hz_e_api_Value := hz_E_api_Value) (he_e_api_Pair := he_E_api_Pair) (hz_e_api_Pair := hz_E_api_Pair) (he_e_int := he_E_int) (hz_e_int := hz_E_int) (c_tree_Right_1__0 := c_tree_Right_1__0) (h_tree_Right_1__0 := h_tree_Right_1__0)   stk m n0 k0 hl0  v0_0 v0_1 v0_2 v0_3 v0_4 v2_0 hg0 hp
noncomputable def p_tree_Right_1__0_0 (c_slices_ContainsFunc__api_Value_api_Value__0 : (List S_api_Value) → Int → Option (Bool)) (c_slices_ContainsFunc__api_Pair_api_Pair__0 : (List S_api_Pair) → Int → Option (Bool)) (v0_0 : Int) (v0_1 : Int) (v0_2 : Str) (v0_3 : (List S_api_Value)) (v0_4 : (List S_api_Pair)) (v1 : Int) : Option (Bool) := b_tree_Right_1__0_0 Prims.real p_tree_unused p_text_Right c_slices_ContainsFunc__api_Value_api_Value__0 p_tree_keys c_slices_ContainsFunc__api_Pair_api_Pair__0  v0_0 v0_1 v0_2 v0_3 v0_4 v1
theorem s_tree_Right_1__0_0 (c_slices_ContainsFunc__api_Value_api_Value__0 : (List S_api_Value) → Int → Option (Bool)) (c_slices_ContainsFunc__api_Pair_api_Pair__0 : (List S_api_Pair) → Int → Option (Bool)) (h_slices_ContainsFunc__api_Value_api_Value__0 : (C_slices_ContainsFunc__api_Value_api_Value__0 (sysW table glob).pcall (sysW table glob).fcall (fun {_} e l => List.map e l) E_api_Value c_slices_ContainsFunc__api_Value_api_Value__0)) (h_slices_ContainsFunc__api_Pair_api_Pair__0 : (C_slices_ContainsFunc__api_Pair_api_Pair__0 (sysW table glob).pcall (sysW table glob).fcall (fun {_} e l => List.map e l) E_api_Pair c_slices_ContainsFunc__api_Pair_api_Pair__0)) (m : Nat) (n0 : Nat) (k0 : List Nat) (hl0 : n0 < m)  : H_tree_Right_1__0_0 (atW table glob) (fun {_} e l => List.map e l) E_api_Value E_api_Pair m n0 k0 (p_tree_Right_1__0_0 c_slices_ContainsFunc__api_Value_api_Value__0 c_slices_ContainsFunc__api_Pair_api_Pair__0) := by
  intro v0_0 v0_1 v0_2 v0_3 v0_4 v1 out hp stk hg0
  exact o_tree_Right_1__0_0 (h := LW) (hT := rfl) (hPP := rfl) (he_e_api_Step := he_E_api_Step) (hz_e_api_Step := hz_E_api_Step) (he_e_api_Value := he_E_api_Value) (hz_e_api_Value := hz_E_api_Value) (he_e_api_Pair := he_E_api_Pair) (hz_e_api_Pair := hz_E_api_Pair) (he_e_int := he_E_int) (hz_e_int := hz_E_int) (c_tree_unused := p_tree_unused) (c_text_Right := p_text_Right) (c_slices_ContainsFunc__api_Value_api_Value__0 := c_slices_ContainsFunc__api_Value_api_Value__0) (c_tree_keys := p_tree_keys) (c_slices_ContainsFunc__api_Pair_api_Pair__0 := c_slices_ContainsFunc__api_Pair_api_Pair__0) (h_tree_unused := s_tree_unused) (h_text_Right := s_text_Right) (h_slices_ContainsFunc__api_Value_api_Value__0 := h_slices_ContainsFunc__api_Value_api_Value__0) (h_tree_keys := s_tree_keys) (h_slices_ContainsFunc__api_Pair_api_Pair__0 := h_slices_ContainsFunc__api_Pair_api_Pair__0)   stk m n0 k0 hl0  v0_0 v0_1 v0_2 v0_3 v0_4 v1 hg0 hp
noncomputable def p_slices_ContainsFunc__api_Value_api_Value__0_0 (c_slices_IndexFunc__api_Value_api_Value__0 : (List S_api_Value) → Int → Option (Int)) (v0 : (List S_api_Value)) (v1_c1_0 : Int) : Option (Bool) := b_slices_ContainsFunc__api_Value_api_Value__0_0 Prims.real c_slices_IndexFunc__api_Value_api_Value__0  v0 v1_c1_0
theorem s_slices_ContainsFunc__api_Value_api_Value__0_0 (c_slices_IndexFunc__api_Value_api_Value__0 : (List S_api_Value) → Int → Option (Int)) (h_slices_IndexFunc__api_Value_api_Value__0 : (C_slices_IndexFunc__api_Value_api_Value__0 (sysW table glob).pcall (sysW table glob).fcall (fun {_} e l => List.map e l) E_api_Value c_slices_IndexFunc__api_Value_api_Value__0)) (m : Nat) (n0 : Nat) (k0 : List Nat) (hl0 : n0 < m)  : H_slices_ContainsFunc__api_Value_api_Value__0_0 (atW table glob) (fun {_} e l => List.map e l) E_api_Value m n0 k0 (p_slices_ContainsFunc__api_Value_api_Value__0_0 c_slices_IndexFunc__api_Value_api_Value__0) := by
  intro v0 v1_c1_0 out hp stk hg0
  exact o_slices_ContainsFunc__api_Value_api_Value__0_0 (h := LW) (hT := rfl) (hPP := rfl) (he_e_api_Step := he_E_api_Step) (hz_e_api_Step := hz_E_api_Step) (he_e_api_Value := he_E_api_Value) (hz_e_api_Value := hz_E_api_Value) (he_e_api_Pair := he_E_api_Pair) (hz_e_api_Pair := hz_E_api_Pair) (he_e_int := he_E_int) (hz_e_int := hz_E_int) (c_slices_IndexFunc__api_Value_api_Value__0 := c_slices_IndexFunc__api_Value_api_Value__0) (h_slices_IndexFunc__api_Value_api_Value__0 := h_slices_IndexFunc__api_Value_api_Value__0)   stk m n0 k0 hl0  v0 v1_c1_0 hg0 hp
noncomputable def p_slices_IndexFunc__api_Value_api_Value__0_1 (c_tree_Right_1_1__0 : S_api_Value → Int → Option (Bool)) (v0 : (List S_api_Value)) (v1_c1_0 : Int) (v7 : Int) (v8 : Int) : Option (Int) := Prims.real.loop (fun (s : (List S_api_Value) × Int × Int × Int) => match s with | (v0, v1_c1_0, v7, v8) => b_slices_IndexFunc__api_Value_api_Value__0_1 Prims.real c_tree_Right_1_1__0  v0 v1_c1_0 v7 v8) (v0, v1_c1_0, v7, v8)
theorem u_slices_IndexFunc__api_Value_api_Value__0_1 (c_tree_Right_1_1__0 : S_api_Value → Int → Option (Bool)) (v0 : (List S_api_Value)) (v1_c1_0 : Int) (v7 : Int) (v8 : Int) : p_slices_IndexFunc__api_Value_api_Value__0_1 c_tree_Right_1_1__0 v0 v1_c1_0 v7 v8 = match b_slices_IndexFunc__api_Value_api_Value__0_1 Prims.real c_tree_Right_1_1__0  v0 v1_c1_0 v7 v8 with
    | some (.inl (v0', v1_c1_0', v7', v8')) => p_slices_IndexFunc__api_Value_api_Value__0_1 c_tree_Right_1_1__0 v0' v1_c1_0' v7' v8'
    | some (.inr r) => some r
    | none => none := by
  show Pr.loop _ _ = _
  rw [Pr.loop_eq]
  try dsimp only
  generalize b_slices_IndexFunc__api_Value_api_Value__0_1 Prims.real c_tree_Right_1_1__0  v0 v1_c1_0 v7 v8 = y
  cases y with
  | none => rfl
  | some y => cases y <;> rfl
theorem s_slices_IndexFunc__api_Value_api_Value__0_1 (c_tree_Right_1_1__0 : S_api_Value → Int → Option (Bool)) (h_tree_Right_1_1__0 : (C_tree_Right_1_1__0 (sysW table glob).pcall (sysW table glob).fcall (fun {_} e l => List.map e l) E_api_Value E_api_Pair c_tree_Right_1_1__0)) (m : Nat) (n0 : Nat) (k0 : List Nat) (hl0 : n0 < m)  : H_slices_IndexFunc__api_Value_api_Value__0_1 (atW table glob) (fun {_} e l => List.map e l) E_api_Value m n0 k0 (p_slices_IndexFunc__api_Value_api_Value__0_1 c_tree_Right_1_1__0) := by
  intro v0 v1_c1_0 v7 v8 out hp stk hg0
  refine LW.ind (fun (s : (List S_api_Value) × Int × Int × Int) => match s with | (v0, v1_c1_0, v7, v8) => b_slices_IndexFunc__api_Value_api_Value__0_1 Prims.real c_tree_Right_1_1__0  v0 v1_c1_0 v7 v8) (fun (s : (List S_api_Value) × Int × Int × Int) o => match s with | (v0, v1_c1_0, v7, v8) => ∀ (stk : Stk), getO stk ⟨n0, k0⟩ = some (.cells [(.clos (.func F.tree_Right_1) [] [(.ref ⟨n0, k0⟩ 0)])]) → (A_slices_IndexFunc__api_Value_api_Value__0_1 (atW table glob) (fun {_} e l => List.map e l) E_api_Value m n0 k0 v0 v1_c1_0 v7 v8 stk) = (O_slices_IndexFunc__api_Value_api_Value__0  m n0 k0 stk) o) (fun s r e => ?_) (fun s t r e ih => ?_) (v0, v1_c1_0, v7, v8) out hp stk hg0
  · obtain ⟨v0, v1_c1_0, v7, v8⟩ := s
    intro stk hg0
    exact o_slices_IndexFunc__api_Value_api_Value__0_1 (h := LW) (hT := rfl) (hPP := rfl) (he_e_api_Step := he_E_api_Step) (hz_e_api_Step := hz_E_api_Step) (he_e_api_Value := he_E_api_Value) (hz_e_api_Value := hz_E_api_Value) (he_e_api_Pair := he_E_api_Pair) (hz_e_api_Pair := hz_E_api_Pair) (he_e_int := he_E_int) (hz_e_int := hz_E_int) (c_tree_Right_1_1__0 := c_tree_Right_1_1__0) (h_tree_Right_1_1__0 := h_tree_Right_1_1__0)   stk m n0 k0 hl0  v0 v1_c1_0 v7 v8 hg0 e
  · obtain ⟨v0, v1_c1_0, v7, v8⟩ := s; obtain ⟨v0', v1_c1_0', v7', v8'⟩ := t
    intro stk hg0
    exact (o_slices_IndexFunc__api_Value_api_Value__0_1 (h := LW) (hT := rfl) (hPP := rfl) (he_e_api_Step := he_E_api_Step) (hz_e_api_Step := hz_E_api_Step) (he_e_api_Value := he_E_api_Value) (hz_e_api_Value := hz_E_api_Value) (he_e_api_Pair := he_E_api_Pair) (hz_e_api_Pair := hz_E_api_Pair) (he_e_int := he_E_int) (hz_e_int := hz_E_int) (c_tree_Right_1_1__0 := c_tree_Right_1_1__0) (h_tree_Right_1_1__0 := h_tree_Right_1_1__0)   stk m n0 k0 hl0  v0 v1_c1_0 v7 v8 hg0 e).trans (ih stk (hg0))
noncomputable def p_slices_IndexFunc__api_Value_api_Value__0_0 (c_tree_Right_1_1__0 : S_api_Value → Int → Option (Bool)) (v0 : (List S_api_Value)) (v1_c1_0 : Int) : Option (Int) := b_slices_IndexFunc__api_Value_api_Value__0_0 Prims.real c_tree_Right_1_1__0 (p_slices_IndexFunc__api_Value_api_Value__0_1 c_tree_Right_1_1__0) v0 v1_c1_0
theorem s_slices_IndexFunc__api_Value_api_Value__0_0 (c_tree_Right_1_1__0 : S_api_Value → Int → Option (Bool)) (h_tree_Right_1_1__0 : (C_tree_Right_1_1__0 (sysW table glob).pcall (sysW table glob).fcall (fun {_} e l => List.map e l) E_api_Value E_api_Pair c_tree_Right_1_1__0)) (m : Nat) (n0 : Nat) (k0 : List Nat) (hl0 : n0 < m)  : H_slices_IndexFunc__api_Value_api_Value__0_0 (atW table glob) (fun {_} e l => List.map e l) E_api_Value m n0 k0 (p_slices_IndexFunc__api_Value_api_Value__0_0 c_tree_Right_1_1__0) := by
  intro v0 v1_c1_0 out hp stk hg0
  exact o_slices_IndexFunc__api_Value_api_Value__0_0 (h := LW) (hT := rfl) (hPP := rfl) (he_e_api_Step := he_E_api_Step) (hz_e_api_Step := hz_E_api_Step) (he_e_api_Value := he_E_api_Value) (hz_e_api_Value := hz_E_api_Value) (he_e_api_Pair := he_E_api_Pair) (hz_e_api_Pair := hz_E_api_Pair) (he_e_int := he_E_int) (hz_e_int := hz_E_int) (c_tree_Right_1_1__0 := c_tree_Right_1_1__0) (h_tree_Right_1_1__0 := h_tree_Right_1_1__0) (l_1 := p_slices_IndexFunc__api_Value_api_Value__0_1 c_tree_Right_1_1__0) (h_l_1 := s_slices_IndexFunc__api_Value_api_Value__0_1 c_tree_Right_1_1__0 h_tree_Right_1_1__0 m n0 k0 hl0 ) stk m n0 k0 hl0  v0 v1_c1_0 hg0 hp
noncomputable def p_slices_ContainsFunc__api_Pair_api_Pair__0_0 (c_slices_IndexFunc__api_Pair_api_Pair__0 : (List S_api_Pair) → Int → Option (Int)) (v0 : (List S_api_Pair)) (v1_c1_0 : Int) : Option (Bool) := b_slices_ContainsFunc__api_Pair_api_Pair__0_0 Prims.real c_slices_IndexFunc__api_Pair_api_Pair__0  v0 v1_c1_0
theorem s_slices_ContainsFunc__api_Pair_api_Pair__0_0 (c_slices_IndexFunc__api_Pair_api_Pair__0 : (List S_api_Pair) → Int → Option (Int)) (h_slices_IndexFunc__api_Pair_api_Pair__0 : (C_slices_IndexFunc__api_Pair_api_Pair__0 (sysW table glob).pcall (sysW table glob).fcall (fun {_} e l => List.map e l) E_api_Pair c_slices_IndexFunc__api_Pair_api_Pair__0)) (m : Nat) (n0 : Nat) (k0 : List Nat) (hl0 : n0 < m)  : H_slices_ContainsFunc__api_Pair_api_Pair__0_0 (atW table glob) (fun {_} e l => List.map e l) E_api_Pair m n0 k0 (p_slices_ContainsFunc__api_Pair_api_Pair__0_0 c_slices_IndexFunc__api_Pair_api_Pair__0) := by
  intro v0 v1_c1_0 out hp stk hg0
  exact o_slices_ContainsFunc__api_Pair_api_Pair__0_0 (h := LW) (hT := rfl) (hPP := rfl) (he_e_api_Step := he_E_api_Step) (hz_e_api_Step := hz_E_api_Step) (he_e_api_Value := he_E_api_Value) (hz_e_api_Value := hz_E_api_Value) (he_e_api_Pair := he_E_api_Pair) (hz_e_api_Pair := hz_E_api_Pair) (he_e_int := he_E_int) (hz_e_int := hz_E_int) (c_slices_IndexFunc__api_Pair_api_Pair__0 := c_slices_IndexFunc__api_Pair_api_Pair__0) (h_slices_IndexFunc__api_Pair_api_Pair__0 := h_slices_IndexFunc__api_Pair_api_Pair__0)   stk m n0 k0 hl0  v0 v1_c1_0 hg0 hp
noncomputable def p_slices_IndexFunc__api_Pair_api_Pair__0_1 (c_tree_Right_1_2__0 : S_api_Pair → Int → Option (Bool)) (v0 : (List S_api_Pair)) (v1_c1_0 : Int) (v7 : Int) (v8 : Int) : Option (Int) := Prims.real.loop (fun (s : (List S_api_Pair) × Int × Int × Int) => match s with | (v0, v1_c1_0, v7, v8) => b_slices_IndexFunc__api_Pair_api_Pair__0_1 Prims.real c_tree_Right_1_2__0  v0 v1_c1_0 v7 v8) (v0, v1_c1_0, v7, v8)
theorem u_slices_IndexFunc__api_Pair_api_Pair__0_1 (c_tree_Right_1_2__0 : S_api_Pair → Int → Option (Bool)) (v0 : (List S_api_Pair)) (v1_c1_0 : Int) (v7 : Int) (v8 : Int) : p_slices_IndexFunc__api_Pair_api_Pair__0_1 c_tree_Right_1_2__0 v0 v1_c1_0 v7 v8 = match b_slices_IndexFunc__api_Pair_api_Pair__0_1 Prims.real c_tree_Right_1_2__0  v0 v1_c1_0 v7 v8 with
    | some (.inl (v0', v1_c1_0', v7', v8')) => p_slices_IndexFunc__api_Pair_api_Pair__0_1 c_tree_Right_1_2__0 v0' v1_c1_0' v7' v8'
    | some (.inr r) => some r
    | none => none := by
  show Pr.loop _ _ = _
  rw [Pr.loop_eq]
  try dsimp only
  generalize b_slices_IndexFunc__api_Pair_api_Pair__0_1 Prims.real c_tree_Right_1_2__0  v0 v1_c1_0 v7 v8 = y
  cases y with
  | none => rfl
  | some y => cases y <;> rfl
theorem s_slices_IndexFunc__api_Pair_api_Pair__0_1 (c_tree_Right_1_2__0 : S_api_Pair → Int → Option (Bool)) (h_tree_Right_1_2__0 : (C_tree_Right_1_2__0 (sysW table glob).pcall (sysW table glob).fcall (fun {_} e l => List.map e l) E_api_Value E_api_Pair c_tree_Right_1_2__0)) (m : Nat) (n0 : Nat) (k0 : List Nat) (hl0 : n0 < m)  : H_slices_IndexFunc__api_Pair_api_Pair__0_1 (atW table glob) (fun {_} e l => List.map e l) E_api_Pair m n0 k0 (p_slices_IndexFunc__api_Pair_api_Pair__0_1 c_tree_Right_1_2__0) := by
  intro v0 v1_c1_0 v7 v8 out hp stk hg0
  refine LW.ind (fun (s : (List S_api_Pair) × Int × Int × Int) => match s with | (v0, v1_c1_0, v7, v8) => b_slices_IndexFunc__api_Pair_api_Pair__0_1 Prims.real c_tree_Right_1_2__0  v0 v1_c1_0 v7 v8) (fun (s : (List S_api_Pair) × Int × Int × Int) o => match s with | (v0, v1_c1_0, v7, v8) => ∀ (stk : Stk), getO stk ⟨n0, k0⟩ = some (.cells [(.clos (.func F.tree_Right_1) [] [(.ref ⟨n0, k0⟩ 0)])]) → (A_slices_IndexFunc__api_Pair_api_Pair__0_1 (atW table glob) (fun {_} e l => List.map e l) E_api_Pair m n0 k0 v0 v1_c1_0 v7 v8 stk) = (O_slices_IndexFunc__api_Pair_api_Pair__0  m n0 k0 stk) o) (fun s r e => ?_) (fun s t r e ih => ?_) (v0, v1_c1_0, v7, v8) out hp stk hg0
  · obtain ⟨v0, v1_c1_0, v7, v8⟩ := s
    intro stk hg0
    exact o_slices_IndexFunc__api_Pair_api_Pair__0_1 (h := LW) (hT := rfl) (hPP := rfl) (he_e_api_Step := he_E_api_Step) (hz_e_api_Step := hz_E_api_Step) (he_e_api_Value := he_E_api_Value) (hz_e_api_Value := hz_E_api_Value) (he_e_api_Pair := he_E_api_Pair) (hz_e_api_Pair := hz_E_api_Pair) (he_e_int := he_E_int) (hz_e_int := hz_E_int) (c_tree_Right_1_2__0 := c_tree_Right_1_2__0) (h_tree_Right_1_2__0 := h_tree_Right_1_2__0)   stk m n0 k0 hl0  v0 v1_c1_0 v7 v8 hg0 e
  · obtain ⟨v0, v1_c1_0, v7, v8⟩ := s; obtain ⟨v0', v1_c1_0', v7', v8'⟩ := t
    intro stk hg0
    exact (o_slices_IndexFunc__api_Pair_api_Pair__0_1 (h := LW) (hT := rfl) (hPP := rfl) (he_e_api_Step := he_E_api_Step) (hz_e_api_Step := hz_E_api_Step) (he_e_api_Value := he_E_api_Value) (hz_e_api_Value := hz_E_api_Value) (he_e_api_Pair := he_E_api_Pair) (hz_e_api_Pair := hz_E_api_Pair) (he_e_int := he_E_int) (hz_e_int := hz_E_int) (c_tree_Right_1_2__0 := c_tree_Right_1_2__0) (h_tree_Right_1_2__0 := h_tree_Right_1_2__0)   stk m n0 k0 hl0  v0 v1_c1_0 v7 v8 hg0 e).trans (ih stk (hg0))
noncomputable def p_slices_IndexFunc__api_Pair_api_Pair__0_0 (c_tree_Right_1_2__0 : S_api_Pair → Int → Option (Bool)) (v0 : (List S_api_Pair)) (v1_c1_0 : Int) : Option (Int) := b_slices_IndexFunc__api_Pair_api_Pair__0_0 Prims.real c_tree_Right_1_2__0 (p_slices_IndexFunc__api_Pair_api_Pair__0_1 c_tree_Right_1_2__0) v0 v1_c1_0
theorem s_slices_IndexFunc__api_Pair_api_Pair__0_0 (c_tree_Right_1_2__0 : S_api_Pair → Int → Option (Bool)) (h_tree_Right_1_2__0 : (C_tree_Right_1_2__0 (sysW table glob).pcall (sysW table glob).fcall (fun {_} e l => List.map e l) E_api_Value E_api_Pair c_tree_Right_1_2__0)) (m : Nat) (n0 : Nat) (k0 : List Nat) (hl0 : n0 < m)  : H_slices_IndexFunc__api_Pair_api_Pair__0_0 (atW table glob) (fun {_} e l => List.map e l) E_api_Pair m n0 k0 (p_slices_IndexFunc__api_Pair_api_Pair__0_0 c_tree_Right_1_2__0) := by
  intro v0 v1_c1_0 out hp stk hg0
  exact o_slices_IndexFunc__api_Pair_api_Pair__0_0 (h := LW) (hT := rfl) (hPP := rfl) (he_e_api_Step := he_E_api_Step) (hz_e_api_Step := hz_E_api_Step) (he_e_api_Value := he_E_api_Value) (hz_e_api_Value := hz_E_api_Value) (he_e_api_Pair := he_E_api_Pair) (hz_e_api_Pair := hz_E_api_Pair) (he_e_int := he_E_int) (hz_e_int := hz_E_int) (c_tree_Right_1_2__0 := c_tree_Right_1_2__0) (h_tree_Right_1_2__0 := h_tree_Right_1_2__0) (l_1 := p_slices_IndexFunc__api_Pair_api_Pair__0_1 c_tree_Right_1_2__0) (h_l_1 := s_slices_IndexFunc__api_Pair_api_Pair__0_1 c_tree_Right_1_2__0 h_tree_Right_1_2__0 m n0 k0 hl0 ) stk m n0 k0 hl0  v0 v1_c1_0 hg0 hp
noncomputable def p_tree_Right_1_2__0_0 (c_tree_Right_1__0 : S_api_Value → Int → Option (Bool)) (v0_0 : Str) (v0_1_0 : Int) (v0_1_1 : Int) (v0_1_2 : Str) (v0_1_3 : (List S_api_Value)) (v0_1_4 : (List S_api_Pair)) (v2_0 : Int) : Option (Bool) := b_tree_Right_1_2__0_0 Prims.real c_tree_Right_1__0  v0_0 v0_1_0 v0_1_1 v0_1_2 v0_1_3 v0_1_4 v2_0
theorem s_tree_Right_1_2__0_0 (c_tree_Right_1__0 : S_api_Value → Int → Option (Bool)) (h_tree_Right_1__0 : (C_tree_Right_1__0 (sysW table glob).pcall (sysW table glob).fcall (fun {_} e l => List.map e l) E_api_Value E_api_Pair c_tree_Right_1__0)) (m : Nat) (n0 : Nat) (k0 : List Nat) (hl0 : n0 < m)  : H_tree_Right_1_2__0_0 (atW table glob) (fun {_} e l => List.map e l) E_api_Value E_api_Pair m n0 k0 (p_tree_Right_1_2__0_0 c_tree_Right_1__0) := by
  intro v0_0 v0_1_0 v0_1_1 v0_1_2 v0_1_3 v0_1_4 v2_0 out hp stk hg0
  exact o_tree_Right_1_2__0_0 (h := LW) (hT := rfl) (hPP := rfl) (he_e_api_Step := he_E_api_Step) (hz_e_api_Step := hz_E_api_Step) (he_e_api_Value := he_E_api_Value) (hz_e_api_Value := hz_E_api_Value) (he_e_api_Pair := he_E_api_Pair) (hz_e_api_Pair := hz_E_api_Pair) (he_e_int := he_E_int) (hz_e_int := hz_E_int) (c_tree_Right_1__0 := c_tree_Right_1__0) (h_tree_Right_1__0 := h_tree_Right_1__0)   stk m n0 k0 hl0  v0_0 v0_1_0 v0_1_1 v0_1_2 v0_1_3 v0_1_4 v2_0 hg0 hp
noncomputable def pk_tree_Right_1_1__0 : Nat → (S_api_Value → Int → Option (Bool)) × (S_api_Value → Int → Option (Bool)) × ((List S_api_Value) → Int → Option (Bool)) × ((List S_api_Value) → Int → Option (Int)) × ((List S_api_Pair) → Int → Option (Bool)) × ((List S_api_Pair) → Int → Option (Int)) × (S_api_Pair → Int → Option (Bool))
  | 0 => (fun _ _ => none, fun _ _ => none, fun _ _ => none, fun _ _ => none, fun _ _ => none, fun _ _ => none, fun _ _ => none)
  | k + 1 => (fun ⟨v0_0, v0_1, v0_2, v0_3, v0_4⟩ v2_0 => p_tree_Right_1_1__0_0 ((pk_tree_Right_1_1__0 k).2.1) v0_0 v0_1 v0_2 v0_3 v0_4 v2_0, fun ⟨v0_0, v0_1, v0_2, v0_3, v0_4⟩ v1 => p_tree_Right_1__0_0 ((pk_tree_Right_1_1__0 k).2.2.1) ((pk_tree_Right_1_1__0 k).2.2.2.2.1) v0_0 v0_1 v0_2 v0_3 v0_4 v1, fun v0 v1_c1_0 => p_slices_ContainsFunc__api_Value_api_Value__0_0 ((pk_tree_Right_1_1__0 k).2.2.2.1) v0 v1_c1_0, fun v0 v1_c1_0 => p_slices_IndexFunc__api_Value_api_Value__0_0 ((pk_tree_Right_1_1__0 k).1) v0 v1_c1_0, fun v0 v1_c1_0 => p_slices_ContainsFunc__api_Pair_api_Pair__0_0 ((pk_tree_Right_1_1__0 k).2.2.2.2.2.1) v0 v1_c1_0, fun v0 v1_c1_0 => p_slices_IndexFunc__api_Pair_api_Pair__0_0 ((pk_tree_Right_1_1__0 k).2.2.2.2.2.2) v0 v1_c1_0, fun ⟨v0_0, ⟨v0_1_0, v0_1_1, v0_1_2, v0_1_3, v0_1_4⟩⟩ v2_0 => p_tree_Right_1_2__0_0 ((pk_tree_Right_1_1__0 k).2.1) v0_0 v0_1_0 v0_1_1 v0_1_2 v0_1_3 v0_1_4 v2_0)
theorem sk_tree_Right_1_1__0 : ∀ k, ((C_tree_Right_1_1__0 (sysW table glob).pcall (sysW table glob).fcall (fun {_} e l => List.map e l) E_api_Value E_api_Pair ((pk_tree_Right_1_1__0 k).1))) ∧ ((C_tree_Right_1__0 (sysW table glob).pcall (sysW table glob).fcall (fun {_} e l => List.map e l) E_api_Value E_api_Pair ((pk_tree_Right_1_1__0 k).2.1))) ∧ ((C_slices_ContainsFunc__api_Value_api_Value__0 (sysW table glob).pcall (sysW table glob).fcall (fun {_} e l => List.map e l) E_api_Value ((pk_tree_Right_1_1__0 k).2.2.1))) ∧ ((C_slices_IndexFunc__api_Value_api_Value__0 (sysW table glob).pcall (sysW table glob).fcall (fun {_} e l => List.map e l) E_api_Value ((pk_tree_Right_1_1__0 k).2.2.2.1))) ∧ ((C_slices_ContainsFunc__api_Pair_api_Pair__0 (sysW table glob).pcall (sysW table glob).fcall (fun {_} e l => List.map e l) E_api_Pair ((pk_tree_Right_1_1__0 k).2.2.2.2.1))) ∧ ((C_slices_IndexFunc__api_Pair_api_Pair__0 (sysW table glob).pcall (sysW table glob).fcall (fun {_} e l => List.map e l) E_api_Pair ((pk_tree_Right_1_1__0 k).2.2.2.2.2.1))) ∧ ((C_tree_Right_1_2__0 (sysW table glob).pcall (sysW table glob).fcall (fun {_} e l => List.map e l) E_api_Value E_api_Pair ((pk_tree_Right_1_1__0 k).2.2.2.2.2.2))) ∧ True
  | 0 => by
    refine ⟨?_, ?_, ?_, ?_, ?_, ?_, ?_, trivial⟩
    · intro _ _ _ _ _ _ _ hp; exact nomatch (show none = some _ from hp)
    · intro _ _ _ _ _ _ _ hp; exact nomatch (show none = some _ from hp)
    · intro _ _ _ hp; exact nomatch (show none = some _ from hp)
    · intro _ _ _ hp; exact nomatch (show none = some _ from hp)
    · intro _ _ _ hp; exact nomatch (show none = some _ from hp)
    · intro _ _ _ hp; exact nomatch (show none = some _ from hp)
    · intro _ _ _ _ _ _ _ _ hp; exact nomatch (show none = some _ from hp)
  | k + 1 => by
    obtain ⟨ih0, ih1, ih2, ih3, ih4, ih5, ih6, _⟩ := sk_tree_Right_1_1__0 k
    refine ⟨?_, ?_, ?_, ?_, ?_, ?_, ?_, trivial⟩
    · intro _ _ _ _ _ _ _ hp stk n0 k0 hg0 hl0 
      exact pf_of (T := table) (G := glob) (f := 96) rfl rfl (s_tree_Right_1_1__0_0 ((pk_tree_Right_1_1__0 k).2.1) ih1 (topN stk + 1) n0 k0 (Nat.lt_succ_of_le hl0)  hp stk hg0)
    · intro _ _ _ _ _ _ _ hp stk n0 k0 hg0 hl0 
      exact pf_of (T := table) (G := glob) (f := 94) rfl rfl (s_tree_Right_1__0_0 ((pk_tree_Right_1_1__0 k).2.2.1) ((pk_tree_Right_1_1__0 k).2.2.2.2.1) ih2 ih4 (topN stk + 1) n0 k0 (Nat.lt_succ_of_le hl0)  hp stk hg0)
    · intro _ _ _ hp stk n0 k0 hg0 hl0 
      exact pf_of (T := table) (G := glob) (f := 68) rfl rfl (s_slices_ContainsFunc__api_Value_api_Value__0_0 ((pk_tree_Right_1_1__0 k).2.2.2.1) ih3 (topN stk + 1) n0 k0 (Nat.lt_succ_of_le hl0)  hp stk hg0)
    · intro _ _ _ hp stk n0 k0 hg0 hl0 
      exact pf_of (T := table) (G := glob) (f := 107) rfl rfl (s_slices_IndexFunc__api_Value_api_Value__0_0 ((pk_tree_Right_1_1__0 k).1) ih0 (topN stk + 1) n0 k0 (Nat.lt_succ_of_le hl0)  hp stk hg0)
    · intro _ _ _ hp stk n0 k0 hg0 hl0 
      exact pf_of (T := table) (G := glob) (f := 73) rfl rfl (s_slices_ContainsFunc__api_Pair_api_Pair__0_0 ((pk_tree_Right_1_1__0 k).2.2.2.2.2.1) ih5 (topN stk + 1) n0 k0 (Nat.lt_succ_of_le hl0)  hp stk hg0)
    · intro _ _ _ hp stk n0 k0 hg0 hl0 
      exact pf_of (T := table) (G := glob) (f := 77) rfl rfl (s_slices_IndexFunc__api_Pair_api_Pair__0_0 ((pk_tree_Right_1_1__0 k).2.2.2.2.2.2) ih6 (topN stk + 1) n0 k0 (Nat.lt_succ_of_le hl0)  hp stk hg0)
    · intro _ _ _ _ _ _ _ _ hp stk n0 k0 hg0 hl0 
      exact pf_of (T := table) (G := glob) (f := 98) rfl rfl (s_tree_Right_1_2__0_0 ((pk_tree_Right_1_1__0 k).2.1) ih1 (topN stk + 1) n0 k0 (Nat.lt_succ_of_le hl0)  hp stk hg0)
noncomputable def p_tree_Right_1_1__0 : S_api_Value → Int → Option (Bool) := (pk_tree_Right_1_1__0 1000000).1
theorem s_tree_Right_1_1__0 : (C_tree_Right_1_1__0 (sysW table glob).pcall (sysW table glob).fcall (fun {_} e l => List.map e l) E_api_Value E_api_Pair p_tree_Right_1_1__0) := (sk_tree_Right_1_1__0 1000000).1
noncomputable def p_tree_Right_1__0 : S_api_Value → Int → Option (Bool) := (pk_tree_Right_1_1__0 1000000).2.1
theorem s_tree_Right_1__0 : (C_tree_Right_1__0 (sysW table glob).pcall (sysW table glob).fcall (fun {_} e l => List.map e l) E_api_Value E_api_Pair p_tree_Right_1__0) := (sk_tree_Right_1_1__0 1000000).2.1
noncomputable def p_slices_ContainsFunc__api_Value_api_Value__0 : (List S_api_Value) → Int → Option (Bool) := (pk_tree_Right_1_1__0 1000000).2.2.1
theorem s_slices_ContainsFunc__api_Value_api_Value__0 : (C_slices_ContainsFunc__api_Value_api_Value__0 (sysW table glob).pcall (sysW table glob).fcall (fun {_} e l => List.map e l) E_api_Value p_slices_ContainsFunc__api_Value_api_Value__0) := (sk_tree_Right_1_1__0 1000000).2.2.1
noncomputable def p_slices_IndexFunc__api_Value_api_Value__0 : (List S_api_Value) → Int → Option (Int) := (pk_tree_Right_1_1__0 1000000).2.2.2.1
theorem s_slices_IndexFunc__api_Value_api_Value__0 : (C_slices_IndexFunc__api_Value_api_Value__0 (sysW table glob).pcall (sysW table glob).fcall (fun {_} e l => List.map e l) E_api_Value p_slices_IndexFunc__api_Value_api_Value__0) := (sk_tree_Right_1_1__0 1000000).2.2.2.1
noncomputable def p_slices_ContainsFunc__api_Pair_api_Pair__0 : (List S_api_Pair) → Int → Option (Bool) := (pk_tree_Right_1_1__0 1000000).2.2.2.2.1
theorem s_slices_ContainsFunc__api_Pair_api_Pair__0 : (C_slices_ContainsFunc__api_Pair_api_Pair__0 (sysW table glob).pcall (sysW table glob).fcall (fun {_} e l => List.map e l) E_api_Pair p_slices_ContainsFunc__api_Pair_api_Pair__0) := (sk_tree_Right_1_1__0 1000000).2.2.2.2.1
noncomputable def p_slices_IndexFunc__api_Pair_api_Pair__0 : (List S_api_Pair) → Int → Option (Int) := (pk_tree_Right_1_1__0 1000000).2.2.2.2.2.1
theorem s_slices_IndexFunc__api_Pair_api_Pair__0 : (C_slices_IndexFunc__api_Pair_api_Pair__0 (sysW table glob).pcall (sysW table glob).fcall (fun {_} e l => List.map e l) E_api_Pair p_slices_IndexFunc__api_Pair_api_Pair__0) := (sk_tree_Right_1_1__0 1000000).2.2.2.2.2.1
noncomputable def p_tree_Right_1_2__0 : S_api_Pair → Int → Option (Bool) := (pk_tree_Right_1_1__0 1000000).2.2.2.2.2.2
theorem s_tree_Right_1_2__0 : (C_tree_Right_1_2__0 (sysW table glob).pcall (sysW table glob).fcall (fun {_} e l => List.map e l) E_api_Value E_api_Pair p_tree_Right_1_2__0) := (sk_tree_Right_1_1__0 1000000).2.2.2.2.2.2.1
noncomputable def p_tree_Right_0  (v0_0 : Int) (v0_1 : Int) (v0_2 : Str) (v0_3 : (List S_api_Value)) (v0_4 : (List S_api_Pair)) : Option (Bool) := b_tree_Right_0 Prims.real p_tree_Right_1__0  v0_0 v0_1 v0_2 v0_3 v0_4
theorem s_tree_Right_0   (m : Nat)    : H_tree_Right_0 (atW table glob) (fun {_} e l => List.map e l) E_api_Value E_api_Pair m  p_tree_Right_0 := by
  intro v0_0 v0_1 v0_2 v0_3 v0_4 out hp stk 
  exact o_tree_Right_0 (h := LW) (hT := rfl) (hPP := rfl) (he_e_api_Step := he_E_api_Step) (hz_e_api_Step := hz_E_api_Step) (he_e_api_Value := he_E_api_Value) (hz_e_api_Value := hz_E_api_Value) (he_e_api_Pair := he_E_api_Pair) (hz_e_api_Pair := hz_E_api_Pair) (he_e_int := he_E_int) (hz_e_int := hz_E_int) (c_tree_Right_1__0 := p_tree_Right_1__0) (h_tree_Right_1__0 := s_tree_Right_1__0)   stk m    v0_0 v0_1 v0_2 v0_3 v0_4  hp
noncomputable def p_tree_Right : S_api_Value → Option (Bool) := fun ⟨v0_0, v0_1, v0_2, v0_3, v0_4⟩ => p_tree_Right_0  v0_0 v0_1 v0_2 v0_3 v0_4
theorem s_tree_Right : (C_tree_Right (sysW table glob).pcall (sysW table glob).fcall (fun {_} e l => List.map e l) E_api_Value E_api_Pair p_tree_Right) := by
  intro _ _ _ _ _ _ hp stk    
  exact pf_of (T := table) (G := glob) (f := 53) rfl rfl (s_tree_Right_0   (topN stk + 1)    hp stk )
noncomputable def p_path_Key_0  (v0 : Str) : Option (S_api_Step) := b_path_Key_0 Prims.real   v0
theorem s_path_Key_0   (m : Nat)    : H_path_Key_0 (atW table glob) m  p_path_Key_0 := by
  intro v0 out hp stk 
  exact o_path_Key_0 (h := LW) (hT := rfl) (hPP := rfl) (he_e_api_Step := he_E_api_Step) (hz_e_api_Step := hz_E_api_Step) (he_e_api_Value := he_E_api_Value) (hz_e_api_Value := hz_E_api_Value) (he_e_api_Pair := he_E_api_Pair) (hz_e_api_Pair := hz_E_api_Pair) (he_e_int := he_E_int) (hz_e_int := hz_E_int)     stk m    v0  hp
noncomputable def p_path_Key : Str → Option (S_api_Step) := fun v0 => p_path_Key_0  v0
theorem s_path_Key : (C_path_Key (sysW table glob).pcall (sysW table glob).fcall p_path_Key) := by
  intro _ _ _ _ hp stk    
  exact pf_of (T := table) (G := glob) (f := 28) rfl rfl (s_path_Key_0   (topN stk + 1)    hp stk )
noncomputable def p_slices_IndexFunc__api_Step_api_Step__1_1  (L0_g : Nat) (L0 : (List S_api_Step)) (v7 : Int) (v8 : Int) : Option (Int) := Prims.real.loop (fun (s : Int × Int) => match s with | (v7, v8) => b_slices_IndexFunc__api_Step_api_Step__1_1 Prims.real p_path_Right_1  L0_g L0 v7 v8) (v7, v8)
theorem u_slices_IndexFunc__api_Step_api_Step__1_1  (L0_g : Nat) (L0 : (List S_api_Step)) (v7 : Int) (v8 : Int) : p_slices_IndexFunc__api_Step_api_Step__1_1  L0_g L0 v7 v8 = match b_slices_IndexFunc__api_Step_api_Step__1_1 Prims.real p_path_Right_1  L0_g L0 v7 v8 with
    | some (.inl (v7', v8')) => p_slices_IndexFunc__api_Step_api_Step__1_1  L0_g L0 v7' v8'
    | some (.inr r) => some r
    | none => none := by
  show Pr.loop _ _ = _
  rw [Pr.loop_eq]
  try dsimp only
  generalize b_slices_IndexFunc__api_Step_api_Step__1_1 Prims.real p_path_Right_1  L0_g L0 v7 v8 = y
  cases y with
  | none => rfl
  | some y => cases y <;> rfl
theorem s_slices_IndexFunc__api_Step_api_Step__1_1   (m : Nat) (n0 : Nat) (k0 : List Nat) (hl0 : n0 < m)  : H_slices_IndexFunc__api_Step_api_Step__1_1 (atW table glob) (fun {_} e l => List.map e l) List.length E_api_Step m n0 k0 p_slices_IndexFunc__api_Step_api_Step__1_1 := by
  intro L0_g L0 v7 v8 out hp stk hg0
  refine LW.ind (fun (s : Int × Int) => match s with | (v7, v8) => b_slices_IndexFunc__api_Step_api_Step__1_1 Prims.real p_path_Right_1  L0_g L0 v7 v8) (fun (s : Int × Int) o => match s with | (v7, v8) => ∀ (stk : Stk), getO stk ⟨n0, k0⟩ = some (.arr L0_g 3 (List.map E_api_Step L0)) → (A_slices_IndexFunc__api_Step_api_Step__1_1 (atW table glob) (fun {_} e l => List.map e l) List.length E_api_Step m n0 k0 L0_g L0 v7 v8 stk) = (O_slices_IndexFunc__api_Step_api_Step__1  m n0 k0 stk) o) (fun s r e => ?_) (fun s t r e ih => ?_) (v7, v8) out hp stk hg0
  · obtain ⟨v7, v8⟩ := s
    intro stk hg0
    exact o_slices_IndexFunc__api_Step_api_Step__1_1 (h := LW) (hT := rfl) (hPP := rfl) (he_e_api_Step := he_E_api_Step) (hz_e_api_Step := hz_E_api_Step) (he_e_api_Value := he_E_api_Value) (hz_e_api_Value := hz_E_api_Value) (he_e_api_Pair := he_E_api_Pair) (hz_e_api_Pair := hz_E_api_Pair) (he_e_int := he_E_int) (hz_e_int := hz_E_int) (c_path_Right_1 := p_path_Right_1) (h_path_Right_1 := s_path_Right_1)   stk m n0 k0 hl0  L0_g L0 v7 v8 hg0 e
  · obtain ⟨v7, v8⟩ := s; obtain ⟨v7', v8'⟩ := t
    intro stk hg0
    exact (o_slices_IndexFunc__api_Step_api_Step__1_1 (h := LW) (hT := rfl) (hPP := rfl) (he_e_api_Step := he_E_api_Step) (hz_e_api_Step := hz_E_api_Step) (he_e_api_Value := he_E_api_Value) (hz_e_api_Value := hz_E_api_Value) (he_e_api_Pair := he_E_api_Pair) (hz_e_api_Pair := hz_E_api_Pair) (he_e_int := he_E_int) (hz_e_int := hz_E_int) (c_path_Right_1 := p_path_Right_1) (h_path_Right_1 := s_path_Right_1)   stk m n0 k0 hl0  L0_g L0 v7 v8 hg0 e).trans (ih stk (hg0))
noncomputable def p_slices_IndexFunc__api_Step_api_Step__1_0  (L0_g : Nat) (L0 : (List S_api_Step)) : Option (Int) := b_slices_IndexFunc__api_Step_api_Step__1_0 Prims.real p_path_Right_1 p_slices_IndexFunc__api_Step_api_Step__1_1 L0_g L0
theorem s_slices_IndexFunc__api_Step_api_Step__1_0   (m : Nat) (n0 : Nat) (k0 : List Nat) (hl0 : n0 < m)  : H_slices_IndexFunc__api_Step_api_Step__1_0 (atW table glob) (fun {_} e l => List.map e l) List.length E_api_Step m n0 k0 p_slices_IndexFunc__api_Step_api_Step__1_0 := by
  intro L0_g L0 out hp stk hg0
  exact o_slices_IndexFunc__api_Step_api_Step__1_0 (h := LW) (hT := rfl) (hPP := rfl) (he_e_api_Step := he_E_api_Step) (hz_e_api_Step := hz_E_api_Step) (he_e_api_Value := he_E_api_Value) (hz_e_api_Value := hz_E_api_Value) (he_e_api_Pair := he_E_api_Pair) (hz_e_api_Pair := hz_E_api_Pair) (he_e_int := he_E_int) (hz_e_int := hz_E_int) (c_path_Right_1 := p_path_Right_1) (h_path_Right_1 := s_path_Right_1) (l_1 := p_slices_IndexFunc__api_Step_api_Step__1_1 ) (h_l_1 := s_slices_IndexFunc__api_Step_api_Step__1_1   m n0 k0 hl0 ) stk m n0 k0 hl0  L0_g L0 hg0 hp
noncomputable def p_slices_IndexFunc__api_Step_api_Step__1 : Nat → (List S_api_Step) → Option (Int) := fun L0_g L0 => p_slices_IndexFunc__api_Step_api_Step__1_0  L0_g L0
theorem s_slices_IndexFunc__api_Step_api_Step__1 : (C_slices_IndexFunc__api_Step_api_Step__1 (sysW table glob).pcall (sysW table glob).fcall (fun {_} e l => List.map e l) List.length E_api_Step p_slices_IndexFunc__api_Step_api_Step__1) := by
  intro _ _ _ hp stk n0 k0 hg0 hl0 
  exact pf_of (T := table) (G := glob) (f := 92) rfl rfl (s_slices_IndexFunc__api_Step_api_Step__1_0   (topN stk + 1) n0 k0 (Nat.lt_succ_of_le hl0)  hp stk hg0)
noncomputable def p_slices_ContainsFunc__api_Step_api_Step__1_0  (L0_g : Nat) (L0 : (List S_api_Step)) : Option (Bool) := b_slices_ContainsFunc__api_Step_api_Step__1_0 Prims.real p_slices_IndexFunc__api_Step_api_Step__1  L0_g L0
theorem s_slices_ContainsFunc__api_Step_api_Step__1_0   (m : Nat) (n0 : Nat) (k0 : List Nat) (hl0 : n0 < m)  : H_slices_ContainsFunc__api_Step_api_Step__1_0 (atW table glob) (fun {_} e l => List.map e l) List.length E_api_Step m n0 k0 p_slices_ContainsFunc__api_Step_api_Step__1_0 := by
  intro L0_g L0 out hp stk hg0
  exact o_slices_ContainsFunc__api_Step_api_Step__1_0 (h := LW) (hT := rfl) (hPP := rfl) (he_e_api_Step := he_E_api_Step) (hz_e_api_Step := hz_E_api_Step) (he_e_api_Value := he_E_api_Value) (hz_e_api_Value := hz_E_api_Value) (he_e_api_Pair := he_E_api_Pair) (hz_e_api_Pair := hz_E_api_Pair) (he_e_int := he_E_int) (hz_e_int := hz_E_int) (c_slices_IndexFunc__api_Step_api_Step__1 := p_slices_IndexFunc__api_Step_api_Step__1) (h_slices_IndexFunc__api_Step_api_Step__1 := s_slices_IndexFunc__api_Step_api_Step__1)   stk m n0 k0 hl0  L0_g L0 hg0 hp
noncomputable def p_slices_ContainsFunc__api_Step_api_Step__1 : Nat → (List S_api_Step) → Option (Bool) := fun L0_g L0 => p_slices_ContainsFunc__api_Step_api_Step__1_0  L0_g L0
theorem s_slices_ContainsFunc__api_Step_api_Step__1 : (C_slices_ContainsFunc__api_Step_api_Step__1 (sysW table glob).pcall (sysW table glob).fcall (fun {_} e l => List.map e l) List.length E_api_Step p_slices_ContainsFunc__api_Step_api_Step__1) := by
  intro _ _ _ hp stk n0 k0 hg0 hl0 
  exact pf_of (T := table) (G := glob) (f := 50) rfl rfl (s_slices_ContainsFunc__api_Step_api_Step__1_0   (topN stk + 1) n0 k0 (Nat.lt_succ_of_le hl0)  hp stk hg0)
noncomputable def p_path_Right__1_0  (L0_g : Nat) (L0 : (List S_api_Step)) : Option (Bool) := b_path_Right__1_0 Prims.real p_slices_ContainsFunc__api_Step_api_Step__1  L0_g L0
theorem s_path_Right__1_0   (m : Nat) (n0 : Nat) (k0 : List Nat) (hl0 : n0 < m)  : H_path_Right__1_0 (atW table glob) (fun {_} e l => List.map e l) List.length E_api_Step m n0 k0 p_path_Right__1_0 := by
  intro L0_g L0 out hp stk hg0
  exact o_path_Right__1_0 (h := LW) (hT := rfl) (hPP := rfl) (he_e_api_Step := he_E_api_Step) (hz_e_api_Step := hz_E_api_Step) (he_e_api_Value := he_E_api_Value) (hz_e_api_Value := hz_E_api_Value) (he_e_api_Pair := he_E_api_Pair) (hz_e_api_Pair := hz_E_api_Pair) (he_e_int := he_E_int) (hz_e_int := hz_E_int) (c_slices_ContainsFunc__api_Step_api_Step__1 := p_slices_ContainsFunc__api_Step_api_Step__1) (h_slices_ContainsFunc__api_Step_api_Step__1 := s_slices_ContainsFunc__api_Step_api_Step__1)   stk m n0 k0 hl0  L0_g L0 hg0 hp
noncomputable def p_path_Right__1 : Nat → (List S_api_Step) → Option (Bool) := fun L0_g L0 => p_path_Right__1_0  L0_g L0
theorem s_path_Right__1 : (C_path_Right__1 (sysW table glob).pcall (sysW table glob).fcall (fun {_} e l => List.map e l) List.length E_api_Step p_path_Right__1) := by
  intro _ _ _ hp stk n0 k0 hg0 hl0 
  exact pf_of (T := table) (G := glob) (f := 19) rfl rfl (s_path_Right__1_0   (topN stk + 1) n0 k0 (Nat.lt_succ_of_le hl0)  hp stk hg0)
noncomputable def p_path_Of_4  (o4_g : Nat) (o4 : (List S_api_Step)) (v16 : (List S_api_Value)) (v17 : Int) (v18 : Int) : Option ((Nat × (List S_api_Step) × (List S_api_Value) × Int × Int) ⊕ ((List S_api_Step) × Int)) := b_path_Of_4 Prims.real p_tree_Right p_path_Key p_path_Place p_path_Right__1  o4_g o4 v16 v17 v18
theorem s_path_Of_4   (m : Nat)    : H_path_Of_4 (atW table glob) (fun {_} e l => List.map e l) List.length E_api_Step E_api_Value m  p_path_Of_4 := by
  intro o4_g o4 v16 v17 v18 out hp stk 
  exact o_path_Of_4 (h := LW) (hT := rfl) (hPP := rfl) (he_e_api_Step := he_E_api_Step) (hz_e_api_Step := hz_E_api_Step) (he_e_api_Value := he_E_api_Value) (hz_e_api_Value := hz_E_api_Value) (he_e_api_Pair := he_E_api_Pair) (hz_e_api_Pair := hz_E_api_Pair) (he_e_int := he_E_int) (hz_e_int := hz_E_int) (c_tree_Right := p_tree_Right) (c_path_Key := p_path_Key) (c_path_Place := p_path_Place) (c_path_Right__1 := p_path_Right__1) (h_tree_Right := s_tree_Right) (h_path_Key := s_path_Key) (h_path_Place := s_path_Place) (h_path_Right__1 := s_path_Right__1)   stk m    o4_g o4 v16 v17 v18  hp
noncomputable def p_path_Of_2  (o4_g : Nat) (o4 : (List S_api_Step)) (v16 : (List S_api_Value)) (v17 : Int) (v18 : Int) : Option ((List S_api_Step) × Int) := Prims.real.loop (fun (s : Nat × (List S_api_Step) × (List S_api_Value) × Int × Int) => match s with | (o4_g, o4, v16, v17, v18) => b_path_Of_2 Prims.real p_tree_Right p_path_Key p_path_Place p_path_Right__1 p_path_Of_4 o4_g o4 v16 v17 v18) (o4_g, o4, v16, v17, v18)
theorem u_path_Of_2  (o4_g : Nat) (o4 : (List S_api_Step)) (v16 : (List S_api_Value)) (v17 : Int) (v18 : Int) : p_path_Of_2  o4_g o4 v16 v17 v18 = match b_path_Of_2 Prims.real p_tree_Right p_path_Key p_path_Place p_path_Right__1 p_path_Of_4 o4_g o4 v16 v17 v18 with
    | some (.inl (o4_g', o4', v16', v17', v18')) => p_path_Of_2  o4_g' o4' v16' v17' v18'
    | some (.inr r) => some r
    | none => none := by
  show Pr.loop _ _ = _
  rw [Pr.loop_eq]
  try dsimp only
  generalize b_path_Of_2 Prims.real p_tree_Right p_path_Key p_path_Place p_path_Right__1 p_path_Of_4 o4_g o4 v16 v17 v18 = y
  cases y with
  | none => rfl
  | some y => cases y <;> rfl
theorem s_path_Of_2   (m : Nat)    : H_path_Of_2 (atW table glob) (fun {_} e l => List.map e l) List.length E_api_Step E_api_Value m  p_path_Of_2 := by
  intro o4_g o4 v16 v17 v18 out hp stk 
  refine LW.ind (fun (s : Nat × (List S_api_Step) × (List S_api_Value) × Int × Int) => match s with | (o4_g, o4, v16, v17, v18) => b_path_Of_2 Prims.real p_tree_Right p_path_Key p_path_Place p_path_Right__1 p_path_Of_4 o4_g o4 v16 v17 v18) (fun (s : Nat × (List S_api_Step) × (List S_api_Value) × Int × Int) o => match s with | (o4_g, o4, v16, v17, v18) => ∀ (stk : Stk), (A_path_Of_2 (atW table glob) (fun {_} e l => List.map e l) List.length E_api_Step E_api_Value m  o4_g o4 v16 v17 v18 stk) = (O_path_Of (fun {_} e l => List.map e l) E_api_Step m  stk) o) (fun s r e => ?_) (fun s t r e ih => ?_) (o4_g, o4, v16, v17, v18) out hp stk 
  · obtain ⟨o4_g, o4, v16, v17, v18⟩ := s
    intro stk 
    exact o_path_Of_2 (h := LW) (hT := rfl) (hPP := rfl) (he_e_api_Step := he_E_api_Step) (hz_e_api_Step := hz_E_api_Step) (he_e_api_Value := he_E_api_Value) (hz_e_api_Value := hz_E_api_Value) (he_e_api_Pair := he_E_api_Pair) (hz_e_api_Pair := hz_E_api_Pair) (he_e_int := he_E_int) (hz_e_int := hz_E_int) (c_tree_Right := p_tree_Right) (c_path_Key := p_path_Key) (c_path_Place := p_path_Place) (c_path_Right__1 := p_path_Right__1) (h_tree_Right := s_tree_Right) (h_path_Key := s_path_Key) (h_path_Place := s_path_Place) (h_path_Right__1 := s_path_Right__1) (l_4 := p_path_Of_4 ) (h_l_4 := s_path_Of_4   m   ) stk m    o4_g o4 v16 v17 v18  e
  · obtain ⟨o4_g, o4, v16, v17, v18⟩ := s; obtain ⟨o4_g', o4', v16', v17', v18'⟩ := t
    intro stk 
    exact (o_path_Of_2 (h := LW) (hT := rfl) (hPP := rfl) (he_e_api_Step := he_E_api_Step) (hz_e_api_Step := hz_E_api_Step) (he_e_api_Value := he_E_api_Value) (hz_e_api_Value := hz_E_api_Value) (he_e_api_Pair := he_E_api_Pair) (hz_e_api_Pair := hz_E_api_Pair) (he_e_int := he_E_int) (hz_e_int := hz_E_int) (c_tree_Right := p_tree_Right) (c_path_Key := p_path_Key) (c_path_Place := p_path_Place) (c_path_Right__1 := p_path_Right__1) (h_tree_Right := s_tree_Right) (h_path_Key := s_path_Key) (h_path_Place := s_path_Place) (h_path_Right__1 := s_path_Right__1) (l_4 := p_path_Of_4 ) (h_l_4 := s_path_Of_4   m   ) stk m    o4_g o4 v16 v17 v18  e).trans (ih stk )
noncomputable def p_path_Of_0  (v0_0 : Int) (v0_1 : Int) (v0_2 : Str) (v0_3 : (List S_api_Value)) (v0_4 : (List S_api_Pair)) : Option ((List S_api_Step) × Int) := b_path_Of_0 Prims.real p_tree_Right p_path_Key p_path_Place p_path_Right__1 p_path_Of_2 v0_0 v0_1 v0_2 v0_3 v0_4
theorem s_path_Of_0   (m : Nat)    : H_path_Of_0 (atW table glob) (fun {_} e l => List.map e l) E_api_Step E_api_Value E_api_Pair m  p_path_Of_0 := by
  intro v0_0 v0_1 v0_2 v0_3 v0_4 out hp stk 
  exact o_path_Of_0 (h := LW) (hT := rfl) (hPP := rfl) (he_e_api_Step := he_E_api_Step) (hz_e_api_Step := hz_E_api_Step) (he_e_api_Value := he_E_api_Value) (hz_e_api_Value := hz_E_api_Value) (he_e_api_Pair := he_E_api_Pair) (hz_e_api_Pair := hz_E_api_Pair) (he_e_int := he_E_int) (hz_e_int := hz_E_int) (c_tree_Right := p_tree_Right) (c_path_Key := p_path_Key) (c_path_Place := p_path_Place) (c_path_Right__1 := p_path_Right__1) (h_tree_Right := s_tree_Right) (h_path_Key := s_path_Key) (h_path_Place := s_path_Place) (h_path_Right__1 := s_path_Right__1) (l_2 := p_path_Of_2 ) (h_l_2 := s_path_Of_2   m   ) stk m    v0_0 v0_1 v0_2 v0_3 v0_4  hp
noncomputable def p_path_Of : S_api_Value → Option ((List S_api_Step) × Int) := fun ⟨v0_0, v0_1, v0_2, v0_3, v0_4⟩ => p_path_Of_0  v0_0 v0_1 v0_2 v0_3 v0_4
theorem s_path_Of : (C_path_Of (sysW table glob).pcall (sysW table glob).fcall (fun {_} e l => List.map e l) E_api_Step E_api_Value E_api_Pair p_path_Of) := by
  intro _ _ _ _ _ _ _ hp stk    
  exact pf_of (T := table) (G := glob) (f := 21) rfl rfl (s_path_Of_0   (topN stk + 1)    hp stk )
noncomputable def p_cascaderef06_Value_3  (v0 : (List S_api_Step)) (v4 : Int) (o2_0 : Int) (o2_1 : Int) (o2_2 : Str) (o2_3 : (List S_api_Value)) (o2_4 : (List S_api_Pair)) (o3_0 : Int) (o3_1 : Int) (o3_2 : Str) (o3_3_g : Nat) (o3_3 : (List S_api_Value)) (o3_4 : (List S_api_Pair)) (o5_0 : Int) (o5_1 : Int) (o5_2 : Str) (o5_3 : (List S_api_Value)) (o5_4 : (List S_api_Pair)) : Option (((List S_api_Step) × Int × Int × Int × Str × (List S_api_Value) × (List S_api_Pair) × Int × Int × Str × Nat × (List S_api_Value) × (List S_api_Pair)) ⊕ (S_api_Value)) := b_cascaderef06_Value_3 Prims.real   v0 v4 o2_0 o2_1 o2_2 o2_3 o2_4 o3_0 o3_1 o3_2 o3_3_g o3_3 o3_4 o5_0 o5_1 o5_2 o5_3 o5_4
theorem s_cascaderef06_Value_3   (m : Nat)    : H_cascaderef06_Value_3 (atW table glob) (fun {_} e l => List.map e l) List.length E_api_Step E_api_Value E_api_Pair m  p_cascaderef06_Value_3 := by
  intro v0 v4 o2_0 o2_1 o2_2 o2_3 o2_4 o3_0 o3_1 o3_2 o3_3_g o3_3 o3_4 o5_0 o5_1 o5_2 o5_3 o5_4 out hp stk 
  exact o_cascaderef06_Value_3 (h := LW) (hT := rfl) (hPP := rfl) (he_e_api_Step := he_E_api_Step) (hz_e_api_Step := hz_E_api_Step) (he_e_api_Value := he_E_api_Value) (hz_e_api_Value := hz_E_api_Value) (he_e_api_Pair := he_E_api_Pair) (hz_e_api_Pair := hz_E_api_Pair) (he_e_int := he_E_int) (hz_e_int := hz_E_int)     stk m    v0 v4 o2_0 o2_1 o2_2 o2_3 o2_4 o3_0 o3_1 o3_2 o3_3_g o3_3 o3_4 o5_0 o5_1 o5_2 o5_3 o5_4  hp
noncomputable def p_cascaderef06_Value_1  (v0 : (List S_api_Step)) (v4 : Int) (o2_0 : Int) (o2_1 : Int) (o2_2 : Str) (o2_3 : (List S_api_Value)) (o2_4 : (List S_api_Pair)) (o3_0 : Int) (o3_1 : Int) (o3_2 : Str) (o3_3_g : Nat) (o3_3 : (List S_api_Value)) (o3_4 : (List S_api_Pair)) : Option (S_api_Value) := Prims.real.loop (fun (s : (List S_api_Step) × Int × Int × Int × Str × (List S_api_Value) × (List S_api_Pair) × Int × Int × Str × Nat × (List S_api_Value) × (List S_api_Pair)) => match s with | (v0, v4, o2_0, o2_1, o2_2, o2_3, o2_4, o3_0, o3_1, o3_2, o3_3_g, o3_3, o3_4) => b_cascaderef06_Value_1 Prims.real  p_cascaderef06_Value_3 v0 v4 o2_0 o2_1 o2_2 o2_3 o2_4 o3_0 o3_1 o3_2 o3_3_g o3_3 o3_4) (v0, v4, o2_0, o2_1, o2_2, o2_3, o2_4, o3_0, o3_1, o3_2, o3_3_g, o3_3, o3_4)
theorem u_cascaderef06_Value_1  (v0 : (List S_api_Step)) (v4 : Int) (o2_0 : Int) (o2_1 : Int) (o2_2 : Str) (o2_3 : (List S_api_Value)) (o2_4 : (List S_api_Pair)) (o3_0 : Int) (o3_1 : Int) (o3_2 : Str) (o3_3_g : Nat) (o3_3 : (List S_api_Value)) (o3_4 : (List S_api_Pair)) : p_cascaderef06_Value_1  v0 v4 o2_0 o2_1 o2_2 o2_3 o2_4 o3_0 o3_1 o3_2 o3_3_g o3_3 o3_4 = match b_cascaderef06_Value_1 Prims.real  p_cascaderef06_Value_3 v0 v4 o2_0 o2_1 o2_2 o2_3 o2_4 o3_0 o3_1 o3_2 o3_3_g o3_3 o3_4 with
    | some (.inl (v0', v4', o2_0', o2_1', o2_2', o2_3', o2_4', o3_0', o3_1', o3_2', o3_3_g', o3_3', o3_4')) => p_cascaderef06_Value_1  v0' v4' o2_0' o2_1' o2_2' o2_3' o2_4' o3_0' o3_1' o3_2' o3_3_g' o3_3' o3_4'
    | some (.inr r) => some r
    | none => none := by
  show Pr.loop _ _ = _
  rw [Pr.loop_eq]
  try dsimp only
  generalize b_cascaderef06_Value_1 Prims.real  p_cascaderef06_Value_3 v0 v4 o2_0 o2_1 o2_2 o2_3 o2_4 o3_0 o3_1 o3_2 o3_3_g o3_3 o3_4 = y
  cases y with
  | none => rfl
  | some y => cases y <;> rfl
theorem s_cascaderef06_Value_1   (m : Nat)    : H_cascaderef06_Value_1 (atW table glob) (fun {_} e l => List.map e l) List.length E_api_Step E_api_Value E_api_Pair m  p_cascaderef06_Value_1 := by
  intro v0 v4 o2_0 o2_1 o2_2 o2_3 o2_4 o3_0 o3_1 o3_2 o3_3_g o3_3 o3_4 out hp stk 
  refine LW.ind (fun (s : (List S_api_Step) × Int × Int × Int × Str × (List S_api_Value) × (List S_api_Pair) × Int × Int × Str × Nat × (List S_api_Value) × (List S_api_Pair)) => match s with | (v0, v4, o2_0, o2_1, o2_2, o2_3, o2_4, o3_0, o3_1, o3_2, o3_3_g, o3_3, o3_4) => b_cascaderef06_Value_1 Prims.real  p_cascaderef06_Value_3 v0 v4 o2_0 o2_1 o2_2 o2_3 o2_4 o3_0 o3_1 o3_2 o3_3_g o3_3 o3_4) (fun (s : (List S_api_Step) × Int × Int × Int × Str × (List S_api_Value) × (List S_api_Pair) × Int × Int × Str × Nat × (List S_api_Value) × (List S_api_Pair)) o => match s with | (v0, v4, o2_0, o2_1, o2_2, o2_3, o2_4, o3_0, o3_1, o3_2, o3_3_g, o3_3, o3_4) => ∀ (stk : Stk), (A_cascaderef06_Value_1 (atW table glob) (fun {_} e l => List.map e l) List.length E_api_Step E_api_Value E_api_Pair m  v0 v4 o2_0 o2_1 o2_2 o2_3 o2_4 o3_0 o3_1 o3_2 o3_3_g o3_3 o3_4 stk) = (O_cascaderef06_Value (fun {_} e l => List.map e l) E_api_Value E_api_Pair m  stk) o) (fun s r e => ?_) (fun s t r e ih => ?_) (v0, v4, o2_0, o2_1, o2_2, o2_3, o2_4, o3_0, o3_1, o3_2, o3_3_g, o3_3, o3_4) out hp stk 
  · obtain ⟨v0, v4, o2_0, o2_1, o2_2, o2_3, o2_4, o3_0, o3_1, o3_2, o3_3_g, o3_3, o3_4⟩ := s
    intro stk 
    exact o_cascaderef06_Value_1 (h := LW) (hT := rfl) (hPP := rfl) (he_e_api_Step := he_E_api_Step) (hz_e_api_Step := hz_E_api_Step) (he_e_api_Value := he_E_api_Value) (hz_e_api_Value := hz_E_api_Value) (he_e_api_Pair := he_E_api_Pair) (hz_e_api_Pair := hz_E_api_Pair) (he_e_int := he_E_int) (hz_e_int := hz_E_int)   (l_3 := p_cascaderef06_Value_3 ) (h_l_3 := s_cascaderef06_Value_3   m   ) stk m    v0 v4 o2_0 o2_1 o2_2 o2_3 o2_4 o3_0 o3_1 o3_2 o3_3_g o3_3 o3_4  e
  · obtain ⟨v0, v4, o2_0, o2_1, o2_2, o2_3, o2_4, o3_0, o3_1, o3_2, o3_3_g, o3_3, o3_4⟩ := s; obtain ⟨v0', v4', o2_0', o2_1', o2_2', o2_3', o2_4', o3_0', o3_1', o3_2', o3_3_g', o3_3', o3_4'⟩ := t
    intro stk 
    exact (o_cascaderef06_Value_1 (h := LW) (hT := rfl) (hPP := rfl) (he_e_api_Step := he_E_api_Step) (hz_e_api_Step := hz_E_api_Step) (he_e_api_Value := he_E_api_Value) (hz_e_api_Value := hz_E_api_Value) (he_e_api_Pair := he_E_api_Pair) (hz_e_api_Pair := hz_E_api_Pair) (he_e_int := he_E_int) (hz_e_int := hz_E_int)   (l_3 := p_cascaderef06_Value_3 ) (h_l_3 := s_cascaderef06_Value_3   m   ) stk m    v0 v4 o2_0 o2_1 o2_2 o2_3 o2_4 o3_0 o3_1 o3_2 o3_3_g o3_3 o3_4  e).trans (ih stk )
noncomputable def p_cascaderef06_Value_0  (v0 : (List S_api_Step)) : Option (S_api_Value) := b_cascaderef06_Value_0 Prims.real  p_cascaderef06_Value_1 v0
theorem s_cascaderef06_Value_0   (m : Nat)    : H_cascaderef06_Value_0 (atW table glob) (fun {_} e l => List.map e l) E_api_Step E_api_Value E_api_Pair m  p_cascaderef06_Value_0 := by
  intro v0 out hp stk 
  exact o_cascaderef06_Value_0 (h := LW) (hT := rfl) (hPP := rfl) (he_e_api_Step := he_E_api_Step) (hz_e_api_Step := hz_E_api_Step) (he_e_api_Value := he_E_api_Value) (hz_e_api_Value := hz_E_api_Value) (he_e_api_Pair := he_E_api_Pair) (hz_e_api_Pair := hz_E_api_Pair) (he_e_int := he_E_int) (hz_e_int := hz_E_int)   (l_1 := p_cascaderef06_Value_1 ) (h_l_1 := s_cascaderef06_Value_1   m   ) stk m    v0  hp
noncomputable def p_cascaderef06_Value : (List S_api_Step) → Option (S_api_Value) := fun v0 => p_cascaderef06_Value_0  v0
theorem s_cascaderef06_Value : (C_cascaderef06_Value (sysW table glob).pcall (sysW table glob).fcall (fun {_} e l => List.map e l) E_api_Step E_api_Value E_api_Pair p_cascaderef06_Value) := by
  intro _ _ _ _ _ _ hp stk    
  exact pf_of (T := table) (G := glob) (f := 23) rfl rfl (s_cascaderef06_Value_0   (topN stk + 1)    hp stk )
noncomputable def p_cascaderef06_Same_4  (v0 : (List S_api_Step)) (v1 : (List S_api_Step)) (v5 : Int) : Option (((List S_api_Step) × (List S_api_Step) × Int) ⊕ (Bool)) := b_cascaderef06_Same_4 Prims.real   v0 v1 v5
theorem s_cascaderef06_Same_4   (m : Nat)    : H_cascaderef06_Same_4 (atW table glob) (fun {_} e l => List.map e l) E_api_Step m  p_cascaderef06_Same_4 := by
  intro v0 v1 v5 out hp stk 
  exact o_cascaderef06_Same_4 (h := LW) (hT := rfl) (hPP := rfl) (he_e_api_Step := he_E_api_Step) (hz_e_api_Step := hz_E_api_Step) (he_e_api_Value := he_E_api_Value) (hz_e_api_Value := hz_E_api_Value) (he_e_api_Pair := he_E_api_Pair) (hz_e_api_Pair := hz_E_api_Pair) (he_e_int := he_E_int) (hz_e_int := hz_E_int)     stk m    v0 v1 v5  hp
noncomputable def p_cascaderef06_Same_2  (v0 : (List S_api_Step)) (v1 : (List S_api_Step)) (v5 : Int) : Option (Bool) := Prims.real.loop (fun (s : (List S_api_Step) × (List S_api_Step) × Int) => match s with | (v0, v1, v5) => b_cascaderef06_Same_2 Prims.real  p_cascaderef06_Same_4 v0 v1 v5) (v0, v1, v5)
theorem u_cascaderef06_Same_2  (v0 : (List S_api_Step)) (v1 : (List S_api_Step)) (v5 : Int) : p_cascaderef06_Same_2  v0 v1 v5 = match b_cascaderef06_Same_2 Prims.real  p_cascaderef06_Same_4 v0 v1 v5 with
    | some (.inl (v0', v1', v5')) => p_cascaderef06_Same_2  v0' v1' v5'
    | some (.inr r) => some r
    | none => none := by
  show Pr.loop _ _ = _
  rw [Pr.loop_eq]
  try dsimp only
  generalize b_cascaderef06_Same_2 Prims.real  p_cascaderef06_Same_4 v0 v1 v5 = y
  cases y with
  | none => rfl
  | some y => cases y <;> rfl
theorem s_cascaderef06_Same_2   (m : Nat)    : H_cascaderef06_Same_2 (atW table glob) (fun {_} e l => List.map e l) E_api_Step m  p_cascaderef06_Same_2 := by
  intro v0 v1 v5 out hp stk 
  refine LW.ind (fun (s : (List S_api_Step) × (List S_api_Step) × Int) => match s with | (v0, v1, v5) => b_cascaderef06_Same_2 Prims.real  p_cascaderef06_Same_4 v0 v1 v5) (fun (s : (List S_api_Step) × (List S_api_Step) × Int) o => match s with | (v0, v1, v5) => ∀ (stk : Stk), (A_cascaderef06_Same_2 (atW table glob) (fun {_} e l => List.map e l) E_api_Step m  v0 v1 v5 stk) = (O_cascaderef06_Same  m  stk) o) (fun s r e => ?_) (fun s t r e ih => ?_) (v0, v1, v5) out hp stk 
  · obtain ⟨v0, v1, v5⟩ := s
    intro stk 
    exact o_cascaderef06_Same_2 (h := LW) (hT := rfl) (hPP := rfl) (he_e_api_Step := he_E_api_Step) (hz_e_api_Step := hz_E_api_Step) (he_e_api_Value := he_E_api_Value) (hz_e_api_Value := hz_E_api_Value) (he_e_api_Pair := he_E_api_Pair) (hz_e_api_Pair := hz_E_api_Pair) (he_e_int := he_E_int) (hz_e_int := hz_E_int)   (l_4 := p_cascaderef06_Same_4 ) (h_l_4 := s_cascaderef06_Same_4   m   ) stk m    v0 v1 v5  e
  · obtain ⟨v0, v1, v5⟩ := s; obtain ⟨v0', v1', v5'⟩ := t
    intro stk 
    exact (o_cascaderef06_Same_2 (h := LW) (hT := rfl) (hPP := rfl) (he_e_api_Step := he_E_api_Step) (hz_e_api_Step := hz_E_api_Step) (he_e_api_Value := he_E_api_Value) (hz_e_api_Value := hz_E_api_Value) (he_e_api_Pair := he_E_api_Pair) (hz_e_api_Pair := hz_E_api_Pair) (he_e_int := he_E_int) (hz_e_int := hz_E_int)   (l_4 := p_cascaderef06_Same_4 ) (h_l_4 := s_cascaderef06_Same_4   m   ) stk m    v0 v1 v5  e).trans (ih stk )
noncomputable def p_cascaderef06_Same_0  (v0 : (List S_api_Step)) (v1 : (List S_api_Step)) : Option (Bool) := b_cascaderef06_Same_0 Prims.real  p_cascaderef06_Same_2 v0 v1
theorem s_cascaderef06_Same_0   (m : Nat)    : H_cascaderef06_Same_0 (atW table glob) (fun {_} e l => List.map e l) E_api_Step m  p_cascaderef06_Same_0 := by
  intro v0 v1 out hp stk 
  exact o_cascaderef06_Same_0 (h := LW) (hT := rfl) (hPP := rfl) (he_e_api_Step := he_E_api_Step) (hz_e_api_Step := hz_E_api_Step) (he_e_api_Value := he_E_api_Value) (hz_e_api_Value := hz_E_api_Value) (he_e_api_Pair := he_E_api_Pair) (hz_e_api_Pair := hz_E_api_Pair) (he_e_int := he_E_int) (hz_e_int := hz_E_int)   (l_2 := p_cascaderef06_Same_2 ) (h_l_2 := s_cascaderef06_Same_2   m   ) stk m    v0 v1  hp
noncomputable def p_cascaderef06_Same : (List S_api_Step) → (List S_api_Step) → Option (Bool) := fun v0 v1 => p_cascaderef06_Same_0  v0 v1
theorem s_cascaderef06_Same : (C_cascaderef06_Same (sysW table glob).pcall (sysW table glob).fcall (fun {_} e l => List.map e l) E_api_Step p_cascaderef06_Same) := by
  intro _ _ _ hp stk    
  exact pf_of (T := table) (G := glob) (f := 24) rfl rfl (s_cascaderef06_Same_0   (topN stk + 1)    hp stk )
noncomputable def p_cascadelaw06_PathRight_2  (v0 : (List S_api_Step)) (v3 : Bool) (v5 : Int) (o4_0 : Int) (o4_1 : Int) (o4_2 : Str) (o4_3 : (List S_api_Value)) (o4_4 : (List S_api_Pair)) : Option (Bool) := b_cascadelaw06_PathRight_2 Prims.real p_cascadelaw06_awake p_cascaderef06_Few p_cascaderef06_Right p_path_Value p_path_Right p_path_Of p_cascaderef06_Value p_cascaderef03_Same p_cascaderef06_Same p_cascadelaw06_zero  v0 v3 v5 o4_0 o4_1 o4_2 o4_3 o4_4
theorem s_cascadelaw06_PathRight_2   (m : Nat)    : H_cascadelaw06_PathRight_2 (atW table glob) (fun {_} e l => List.map e l) E_api_Step E_api_Value E_api_Pair m  p_cascadelaw06_PathRight_2 := by
  intro v0 v3 v5 o4_0 o4_1 o4_2 o4_3 o4_4 out hp stk 
  exact o_cascadelaw06_PathRight_2 (h := LW) (hT := rfl) (hPP := rfl) (he_e_api_Step := he_E_api_Step) (hz_e_api_Step := hz_E_api_Step) (he_e_api_Value := he_E_api_Value) (hz_e_api_Value := hz_E_api_Value) (he_e_api_Pair := he_E_api_Pair) (hz_e_api_Pair := hz_E_api_Pair) (he_e_int := he_E_int) (hz_e_int := hz_E_int) (c_cascadelaw06_awake := p_cascadelaw06_awake) (c_cascaderef06_Few := p_cascaderef06_Few) (c_cascaderef06_Right := p_cascaderef06_Right) (c_path_Value := p_path_Value) (c_path_Right := p_path_Right) (c_path_Of := p_path_Of) (c_cascaderef06_Value := p_cascaderef06_Value) (c_cascaderef03_Same := p_cascaderef03_Same) (c_cascaderef06_Same := p_cascaderef06_Same) (c_cascadelaw06_zero := p_cascadelaw06_zero) (h_cascadelaw06_awake := s_cascadelaw06_awake) (h_cascaderef06_Few := s_cascaderef06_Few) (h_cascaderef06_Right := s_cascaderef06_Right) (h_path_Value := s_path_Value) (h_path_Right := s_path_Right) (h_path_Of := s_path_Of) (h_cascaderef06_Value := s_cascaderef06_Value) (h_cascaderef03_Same := s_cascaderef03_Same) (h_cascaderef06_Same := s_cascaderef06_Same) (h_cascadelaw06_zero := s_cascadelaw06_zero)   stk m    v0 v3 v5 o4_0 o4_1 o4_2 o4_3 o4_4  hp
noncomputable def p_cascadelaw06_PathRight_0  (v0 : (List S_api_Step)) : Option (Bool) := b_cascadelaw06_PathRight_0 Prims.real p_cascadelaw06_awake p_cascaderef06_Few p_cascaderef06_Right p_path_Value p_path_Right p_path_Of p_cascaderef06_Value p_cascaderef03_Same p_cascaderef06_Same p_cascadelaw06_zero p_cascadelaw06_PathRight_2 v0
theorem s_cascadelaw06_PathRight_0   (m : Nat)    : H_cascadelaw06_PathRight_0 (atW table glob) (fun {_} e l => List.map e l) E_api_Step m  p_cascadelaw06_PathRight_0 := by
  intro v0 out hp stk 
  exact o_cascadelaw06_PathRight_0 (h := LW) (hT := rfl) (hPP := rfl) (he_e_api_Step := he_E_api_Step) (hz_e_api_Step := hz_E_api_Step) (he_e_api_Value := he_E_api_Value) (hz_e_api_Value := hz_E_api_Value) (he_e_api_Pair := he_E_api_Pair) (hz_e_api_Pair := hz_E_api_Pair) (he_e_int := he_E_int) (hz_e_int := hz_E_int) (c_cascadelaw06_awake := p_cascadelaw06_awake) (c_cascaderef06_Few := p_cascaderef06_Few) (c_cascaderef06_Right := p_cascaderef06_Right) (c_path_Value := p_path_Value) (c_path_Right := p_path_Right) (c_path_Of := p_path_Of) (c_cascaderef06_Value := p_cascaderef06_Value) (c_cascaderef03_Same := p_cascaderef03_Same) (c_cascaderef06_Same := p_cascaderef06_Same) (c_cascadelaw06_zero := p_cascadelaw06_zero) (h_cascadelaw06_awake := s_cascadelaw06_awake) (h_cascaderef06_Few := s_cascaderef06_Few) (h_cascaderef06_Right := s_cascaderef06_Right) (h_path_Value := s_path_Value) (h_path_Right := s_path_Right) (h_path_Of := s_path_Of) (h_cascaderef06_Value := s_cascaderef06_Value) (h_cascaderef03_Same := s_cascaderef03_Same) (h_cascaderef06_Same := s_cascaderef06_Same) (h_cascadelaw06_zero := s_cascadelaw06_zero) (l_2 := p_cascadelaw06_PathRight_2 ) (h_l_2 := s_cascadelaw06_PathRight_2   m   ) stk m    v0  hp
noncomputable def p_cascadelaw06_PathRight : (List S_api_Step) → Option (Bool) := fun v0 => p_cascadelaw06_PathRight_0  v0
theorem s_cascadelaw06_PathRight : (C_cascadelaw06_PathRight (sysW table glob).pcall (sysW table glob).fcall (fun {_} e l => List.map e l) E_api_Step p_cascadelaw06_PathRight) := by
  intro _ _ hp stk    
  exact pf_of (T := table) (G := glob) (f := 3) rfl rfl (s_cascadelaw06_PathRight_0   (topN stk + 1)    hp stk )
noncomputable def p_cascaderef03_few_10 (c_cascaderef03_few : S_api_Value → Int → Option (Int)) (v1 : Int) : Option (Int) := b_cascaderef03_few_10 Prims.real c_cascaderef03_few  v1
theorem s_cascaderef03_few_10 (c_cascaderef03_few : S_api_Value → Int → Option (Int)) (h_cascaderef03_few : (C_cascaderef03_few (sysW table glob).pcall (sysW table glob).fcall (fun {_} e l => List.map e l) E_api_Value E_api_Pair c_cascaderef03_few)) (m : Nat)    : H_cascaderef03_few_10 (atW table glob) m  (p_cascaderef03_few_10 c_cascaderef03_few) := by
  intro v1 out hp stk 
  exact o_cascaderef03_few_10 (h := LW) (hT := rfl) (hPP := rfl) (he_e_api_Step := he_E_api_Step) (hz_e_api_Step := hz_E_api_Step) (he_e_api_Value := he_E_api_Value) (hz_e_api_Value := hz_E_api_Value) (he_e_api_Pair := he_E_api_Pair) (hz_e_api_Pair := hz_E_api_Pair) (he_e_int := he_E_int) (hz_e_int := hz_E_int) (c_cascaderef03_few := c_cascaderef03_few) (h_cascaderef03_few := h_cascaderef03_few)   stk m    v1  hp
noncomputable def p_cascaderef03_few_6 (c_cascaderef03_few : S_api_Value → Int → Option (Int)) (v1 : Int) (v2_0 : Int) (v2_1 : Int) (v2_2 : Str) (v2_3 : (List S_api_Value)) (v2_4 : (List S_api_Pair)) (v6 : Int) : Option (Int) := Prims.real.loop (fun (s : Int × Int × Int × Str × (List S_api_Value) × (List S_api_Pair) × Int) => match s with | (v1, v2_0, v2_1, v2_2, v2_3, v2_4, v6) => b_cascaderef03_few_6 Prims.real c_cascaderef03_few (p_cascaderef03_few_10 c_cascaderef03_few) v1 v2_0 v2_1 v2_2 v2_3 v2_4 v6) (v1, v2_0, v2_1, v2_2, v2_3, v2_4, v6)
theorem u_cascaderef03_few_6 (c_cascaderef03_few : S_api_Value → Int → Option (Int)) (v1 : Int) (v2_0 : Int) (v2_1 : Int) (v2_2 : Str) (v2_3 : (List S_api_Value)) (v2_4 : (List S_api_Pair)) (v6 : Int) : p_cascaderef03_few_6 c_cascaderef03_few v1 v2_0 v2_1 v2_2 v2_3 v2_4 v6 = match b_cascaderef03_few_6 Prims.real c_cascaderef03_few (p_cascaderef03_few_10 c_cascaderef03_few) v1 v2_0 v2_1 v2_2 v2_3 v2_4 v6 with
    | some (.inl (v1', v2_0', v2_1', v2_2', v2_3', v2_4', v6')) => p_cascaderef03_few_6 c_cascaderef03_few v1' v2_0' v2_1' v2_2' v2_3' v2_4' v6'
    | some (.inr r) => some r
    | none => none := by
  show Pr.loop _ _ = _
  rw [Pr.loop_eq]
  try dsimp only
  generalize b_cascaderef03_few_6 Prims.real c_cascaderef03_few (p_cascaderef03_few_10 c_cascaderef03_few) v1 v2_0 v2_1 v2_2 v2_3 v2_4 v6 = y
  cases y with
  | none => rfl
  | some y => cases y <;> rfl
theorem s_cascaderef03_few_6 (c_cascaderef03_few : S_api_Value → Int → Option (Int)) (h_cascaderef03_few : (C_cascaderef03_few (sysW table glob).pcall (sysW table glob).fcall (fun {_} e l => List.map e l) E_api_Value E_api_Pair c_cascaderef03_few)) (m : Nat)    : H_cascaderef03_few_6 (atW table glob) (fun {_} e l => List.map e l) E_api_Value E_api_Pair m  (p_cascaderef03_few_6 c_cascaderef03_few) := by
  intro v1 v2_0 v2_1 v2_2 v2_3 v2_4 v6 out hp stk 
  refine LW.ind (fun (s : Int × Int × Int × Str × (List S_api_Value) × (List S_api_Pair) × Int) => match s with | (v1, v2_0, v2_1, v2_2, v2_3, v2_4, v6) => b_cascaderef03_few_6 Prims.real c_cascaderef03_few (p_cascaderef03_few_10 c_cascaderef03_few) v1 v2_0 v2_1 v2_2 v2_3 v2_4 v6) (fun (s : Int × Int × Int × Str × (List S_api_Value) × (List S_api_Pair) × Int) o => match s with | (v1, v2_0, v2_1, v2_2, v2_3, v2_4, v6) => ∀ (stk : Stk), (A_cascaderef03_few_6 (atW table glob) (fun {_} e l => List.map e l) E_api_Value E_api_Pair m  v1 v2_0 v2_1 v2_2 v2_3 v2_4 v6 stk) = (O_cascaderef03_few  m  stk) o) (fun s r e => ?_) (fun s t r e ih => ?_) (v1, v2_0, v2_1, v2_2, v2_3, v2_4, v6) out hp stk 
  · obtain ⟨v1, v2_0, v2_1, v2_2, v2_3, v2_4, v6⟩ := s
    intro stk 
    exact o_cascaderef03_few_6 (h := LW) (hT := rfl) (hPP := rfl) (he_e_api_Step := he_E_api_Step) (hz_e_api_Step := hz_E_api_Step) (he_e_api_Value := he_E_api_Value) (hz_e_api_Value := hz_E_api_Value) (he_e_api_Pair := he_E_api_Pair) (hz_e_api_Pair := hz_E_api_Pair) (he_e_int := he_E_int) (hz_e_int := hz_E_int) (c_cascaderef03_few := c_cascaderef03_few) (h_cascaderef03_few := h_cascaderef03_few) (l_10 := p_cascaderef03_few_10 c_cascaderef03_few) (h_l_10 := s_cascaderef03_few_10 c_cascaderef03_few h_cascaderef03_few m   ) stk m    v1 v2_0 v2_1 v2_2 v2_3 v2_4 v6  e
  · obtain ⟨v1, v2_0, v2_1, v2_2, v2_3, v2_4, v6⟩ := s; obtain ⟨v1', v2_0', v2_1', v2_2', v2_3', v2_4', v6'⟩ := t
    intro stk 
    exact (o_cascaderef03_few_6 (h := LW) (hT := rfl) (hPP := rfl) (he_e_api_Step := he_E_api_Step) (hz_e_api_Step := hz_E_api_Step) (he_e_api_Value := he_E_api_Value) (hz_e_api_Value := hz_E_api_Value) (he_e_api_Pair := he_E_api_Pair) (hz_e_api_Pair := hz_E_api_Pair) (he_e_int := he_E_int) (hz_e_int := hz_E_int) (c_cascaderef03_few := c_cascaderef03_few) (h_cascaderef03_few := h_cascaderef03_few) (l_10 := p_cascaderef03_few_10 c_cascaderef03_few) (h_l_10 := s_cascaderef03_few_10 c_cascaderef03_few h_cascaderef03_few m   ) stk m    v1 v2_0 v2_1 v2_2 v2_3 v2_4 v6  e).trans (ih stk )
noncomputable def p_cascaderef03_few_5 (c_cascaderef03_few : S_api_Value → Int → Option (Int)) (v1 : Int) (v2_0 : Int) (v2_1 : Int) (v2_2 : Str) (v2_3 : (List S_api_Value)) (v2_4 : (List S_api_Pair)) : Option (Int) := b_cascaderef03_few_5 Prims.real c_cascaderef03_few (p_cascaderef03_few_6 c_cascaderef03_few) v1 v2_0 v2_1 v2_2 v2_3 v2_4
theorem s_cascaderef03_few_5 (c_cascaderef03_few : S_api_Value → Int → Option (Int)) (h_cascaderef03_few : (C_cascaderef03_few (sysW table glob).pcall (sysW table glob).fcall (fun {_} e l => List.map e l) E_api_Value E_api_Pair c_cascaderef03_few)) (m : Nat)    : H_cascaderef03_few_5 (atW table glob) (fun {_} e l => List.map e l) E_api_Value E_api_Pair m  (p_cascaderef03_few_5 c_cascaderef03_few) := by
  intro v1 v2_0 v2_1 v2_2 v2_3 v2_4 out hp stk 
  exact o_cascaderef03_few_5 (h := LW) (hT := rfl) (hPP := rfl) (he_e_api_Step := he_E_api_Step) (hz_e_api_Step := hz_E_api_Step) (he_e_api_Value := he_E_api_Value) (hz_e_api_Value := hz_E_api_Value) (he_e_api_Pair := he_E_api_Pair) (hz_e_api_Pair := hz_E_api_Pair) (he_e_int := he_E_int) (hz_e_int := hz_E_int) (c_cascaderef03_few := c_cascaderef03_few) (h_cascaderef03_few := h_cascaderef03_few) (l_6 := p_cascaderef03_few_6 c_cascaderef03_few) (h_l_6 := s_cascaderef03_few_6 c_cascaderef03_few h_cascaderef03_few m   ) stk m    v1 v2_0 v2_1 v2_2 v2_3 v2_4  hp
noncomputable def p_cascaderef03_few_2 (c_cascaderef03_few : S_api_Value → Int → Option (Int)) (v1 : Int) (v2_0 : Int) (v2_1 : Int) (v2_2 : Str) (v2_3 : (List S_api_Value)) (v2_4 : (List S_api_Pair)) (v5 : Int) : Option (Int) := Prims.real.loop (fun (s : Int × Int × Int × Str × (List S_api_Value) × (List S_api_Pair) × Int) => match s with | (v1, v2_0, v2_1, v2_2, v2_3, v2_4, v5) => b_cascaderef03_few_2 Prims.real c_cascaderef03_few (p_cascaderef03_few_5 c_cascaderef03_few) v1 v2_0 v2_1 v2_2 v2_3 v2_4 v5) (v1, v2_0, v2_1, v2_2, v2_3, v2_4, v5)
theorem u_cascaderef03_few_2 (c_cascaderef03_few : S_api_Value → Int → Option (Int)) (v1 : Int) (v2_0 : Int) (v2_1 : Int) (v2_2 : Str) (v2_3 : (List S_api_Value)) (v2_4 : (List S_api_Pair)) (v5 : Int) : p_cascaderef03_few_2 c_cascaderef03_few v1 v2_0 v2_1 v2_2 v2_3 v2_4 v5 = match b_cascaderef03_few_2 Prims.real c_cascaderef03_few (p_cascaderef03_few_5 c_cascaderef03_few) v1 v2_0 v2_1 v2_2 v2_3 v2_4 v5 with
    | some (.inl (v1', v2_0', v2_1', v2_2', v2_3', v2_4', v5')) => p_cascaderef03_few_2 c_cascaderef03_few v1' v2_0' v2_1' v2_2' v2_3' v2_4' v5'
    | some (.inr r) => some r
    | none => none := by
  show Pr.loop _ _ = _
  rw [Pr.loop_eq]
  try dsimp only
  generalize b_cascaderef03_few_2 Prims.real c_cascaderef03_few (p_cascaderef03_few_5 c_cascaderef03_few) v1 v2_0 v2_1 v2_2 v2_3 v2_4 v5 = y
  cases y with
  | none => rfl
  | some y => cases y <;> rfl
theorem s_cascaderef03_few_2 (c_cascaderef03_few : S_api_Value → Int → Option (Int)) (h_cascaderef03_few : (C_cascaderef03_few (sysW table glob).pcall (sysW table glob).fcall (fun {_} e l => List.map e l) E_api_Value E_api_Pair c_cascaderef03_few)) (m : Nat)    : H_cascaderef03_few_2 (atW table glob) (fun {_} e l => List.map e l) E_api_Value E_api_Pair m  (p_cascaderef03_few_2 c_cascaderef03_few) := by
  intro v1 v2_0 v2_1 v2_2 v2_3 v2_4 v5 out hp stk 
  refine LW.ind (fun (s : Int × Int × Int × Str × (List S_api_Value) × (List S_api_Pair) × Int) => match s with | (v1, v2_0, v2_1, v2_2, v2_3, v2_4, v5) => b_cascaderef03_few_2 Prims.real c_cascaderef03_few (p_cascaderef03_few_5 c_cascaderef03_few) v1 v2_0 v2_1 v2_2 v2_3 v2_4 v5) (fun (s : Int × Int × Int × Str × (List S_api_Value) × (List S_api_Pair) × Int) o => match s with | (v1, v2_0, v2_1, v2_2, v2_3, v2_4, v5) => ∀ (stk : Stk), (A_cascaderef03_few_2 (atW table glob) (fun {_} e l => List.map e l) E_api_Value E_api_Pair m  v1 v2_0 v2_1 v2_2 v2_3 v2_4 v5 stk) = (O_cascaderef03_few  m  stk) o) (fun s r e => ?_) (fun s t r e ih => ?_) (v1, v2_0, v2_1, v2_2, v2_3, v2_4, v5) out hp stk 
  · obtain ⟨v1, v2_0, v2_1, v2_2, v2_3, v2_4, v5⟩ := s
    intro stk 
    exact o_cascaderef03_few_2 (h := LW) (hT := rfl) (hPP := rfl) (he_e_api_Step := he_E_api_Step) (hz_e_api_Step := hz_E_api_Step) (he_e_api_Value := he_E_api_Value) (hz_e_api_Value := hz_E_api_Value) (he_e_api_Pair := he_E_api_Pair) (hz_e_api_Pair := hz_E_api_Pair) (he_e_int := he_E_int) (hz_e_int := hz_E_int) (c_cascaderef03_few := c_cascaderef03_few) (h_cascaderef03_few := h_cascaderef03_few) (l_5 := p_cascaderef03_few_5 c_cascaderef03_few) (h_l_5 := s_cascaderef03_few_5 c_cascaderef03_few h_cascaderef03_few m   ) stk m    v1 v2_0 v2_1 v2_2 v2_3 v2_4 v5  e
  · obtain ⟨v1, v2_0, v2_1, v2_2, v2_3, v2_4, v5⟩ := s; obtain ⟨v1', v2_0', v2_1', v2_2', v2_3', v2_4', v5'⟩ := t
    intro stk 
    exact (o_cascaderef03_few_2 (h := LW) (hT := rfl) (hPP := rfl) (he_e_api_Step := he_E_api_Step) (hz_e_api_Step := hz_E_api_Step) (he_e_api_Value := he_E_api_Value) (hz_e_api_Value := hz_E_api_Value) (he_e_api_Pair := he_E_api_Pair) (hz_e_api_Pair := hz_E_api_Pair) (he_e_int := he_E_int) (hz_e_int := hz_E_int) (c_cascaderef03_few := c_cascaderef03_few) (h_cascaderef03_few := h_cascaderef03_few) (l_5 := p_cascaderef03_few_5 c_cascaderef03_few) (h_l_5 := s_cascaderef03_few_5 c_cascaderef03_few h_cascaderef03_few m   ) stk m    v1 v2_0 v2_1 v2_2 v2_3 v2_4 v5  e).trans (ih stk )
noncomputable def p_cascaderef03_few_0 (c_cascaderef03_few : S_api_Value → Int → Option (Int)) (v0_0 : Int) (v0_1 : Int) (v0_2 : Str) (v0_3 : (List S_api_Value)) (v0_4 : (List S_api_Pair)) (v1 : Int) : Option (Int) := b_cascaderef03_few_0 Prims.real c_cascaderef03_few (p_cascaderef03_few_2 c_cascaderef03_few) v0_0 v0_1 v0_2 v0_3 v0_4 v1
theorem s_cascaderef03_few_0 (c_cascaderef03_few : S_api_Value → Int → Option (Int)) (h_cascaderef03_few : (C_cascaderef03_few (sysW table glob).pcall (sysW table glob).fcall (fun {_} e l => List.map e l) E_api_Value E_api_Pair c_cascaderef03_few)) (m : Nat)    : H_cascaderef03_few_0 (atW table glob) (fun {_} e l => List.map e l) E_api_Value E_api_Pair m  (p_cascaderef03_few_0 c_cascaderef03_few) := by
  intro v0_0 v0_1 v0_2 v0_3 v0_4 v1 out hp stk 
  exact o_cascaderef03_few_0 (h := LW) (hT := rfl) (hPP := rfl) (he_e_api_Step := he_E_api_Step) (hz_e_api_Step := hz_E_api_Step) (he_e_api_Value := he_E_api_Value) (hz_e_api_Value := hz_E_api_Value) (he_e_api_Pair := he_E_api_Pair) (hz_e_api_Pair := hz_E_api_Pair) (he_e_int := he_E_int) (hz_e_int := hz_E_int) (c_cascaderef03_few := c_cascaderef03_few) (h_cascaderef03_few := h_cascaderef03_few) (l_2 := p_cascaderef03_few_2 c_cascaderef03_few) (h_l_2 := s_cascaderef03_few_2 c_cascaderef03_few h_cascaderef03_few m   ) stk m    v0_0 v0_1 v0_2 v0_3 v0_4 v1  hp
noncomputable def pk_cascaderef03_few : Nat → (S_api_Value → Int → Option (Int))
  | 0 => fun _ _ => none
  | k + 1 => fun ⟨v0_0, v0_1, v0_2, v0_3, v0_4⟩ v1 => p_cascaderef03_few_0 ((pk_cascaderef03_few k)) v0_0 v0_1 v0_2 v0_3 v0_4 v1
theorem sk_cascaderef03_few : ∀ k, ((C_cascaderef03_few (sysW table glob).pcall (sysW table glob).fcall (fun {_} e l => List.map e l) E_api_Value E_api_Pair ((pk_cascaderef03_few k)))) ∧ True
  | 0 => by
    refine ⟨?_, trivial⟩
    · intro _ _ _ _ _ _ _ hp; exact nomatch (show none = some _ from hp)
  | k + 1 => by
    obtain ⟨ih0, _⟩ := sk_cascaderef03_few k
    refine ⟨?_, trivial⟩
    · intro _ _ _ _ _ _ _ hp stk    
      exact pf_of (T := table) (G := glob) (f := 54) rfl rfl (s_cascaderef03_few_0 ((pk_cascaderef03_few k)) ih0 (topN stk + 1)    hp stk )
noncomputable def p_cascaderef03_few : S_api_Value → Int → Option (Int) := (pk_cascaderef03_few 1000000)
theorem s_cascaderef03_few : (C_cascaderef03_few (sysW table glob).pcall (sysW table glob).fcall (fun {_} e l => List.map e l) E_api_Value E_api_Pair p_cascaderef03_few) := (sk_cascaderef03_few 1000000).1
noncomputable def p_cascaderef03_Few_0  (v0_0 : Int) (v0_1 : Int) (v0_2 : Str) (v0_3 : (List S_api_Value)) (v0_4 : (List S_api_Pair)) (v1 : Int) : Option (Bool) := b_cascaderef03_Few_0 Prims.real p_cascaderef03_few  v0_0 v0_1 v0_2 v0_3 v0_4 v1
theorem s_cascaderef03_Few_0   (m : Nat)    : H_cascaderef03_Few_0 (atW table glob) (fun {_} e l => List.map e l) E_api_Value E_api_Pair m  p_cascaderef03_Few_0 := by
  intro v0_0 v0_1 v0_2 v0_3 v0_4 v1 out hp stk 
  exact o_cascaderef03_Few_0 (h := LW) (hT := rfl) (hPP := rfl) (he_e_api_Step := he_E_api_Step) (hz_e_api_Step := hz_E_api_Step) (he_e_api_Value := he_E_api_Value) (hz_e_api_Value := hz_E_api_Value) (he_e_api_Pair := he_E_api_Pair) (hz_e_api_Pair := hz_E_api_Pair) (he_e_int := he_E_int) (hz_e_int := hz_E_int) (c_cascaderef03_few := p_cascaderef03_few) (h_cascaderef03_few := s_cascaderef03_few)   stk m    v0_0 v0_1 v0_2 v0_3 v0_4 v1  hp
noncomputable def p_cascaderef03_Few : S_api_Value → Int → Option (Bool) := fun ⟨v0_0, v0_1, v0_2, v0_3, v0_4⟩ v1 => p_cascaderef03_Few_0  v0_0 v0_1 v0_2 v0_3 v0_4 v1
theorem s_cascaderef03_Few : (C_cascaderef03_Few (sysW table glob).pcall (sysW table glob).fcall (fun {_} e l => List.map e l) E_api_Value E_api_Pair p_cascaderef03_Few) := by
  intro _ _ _ _ _ _ _ hp stk    
  exact pf_of (T := table) (G := glob) (f := 25) rfl rfl (s_cascaderef03_Few_0   (topN stk + 1)    hp stk )
noncomputable def p_cascaderef03_right_11 (c_cascaderef03_right : S_api_Value → Int → Option (Bool)) (v1 : Int) (v2_0 : Int) (v2_1 : Int) (v2_2 : Str) (v2_3 : (List S_api_Value)) (v2_4 : (List S_api_Pair)) (v6 : Int) (v7 : Int) : Option ((Int × Int × Int × Str × (List S_api_Value) × (List S_api_Pair) × Int) ⊕ (Bool)) := Prims.real.loop (fun (s : Int × Int × Int × Str × (List S_api_Value) × (List S_api_Pair) × Int × Int) => match s with | (v1, v2_0, v2_1, v2_2, v2_3, v2_4, v6, v7) => b_cascaderef03_right_11 Prims.real p_cascaderef01_Right c_cascaderef03_right  v1 v2_0 v2_1 v2_2 v2_3 v2_4 v6 v7) (v1, v2_0, v2_1, v2_2, v2_3, v2_4, v6, v7)
theorem u_cascaderef03_right_11 (c_cascaderef03_right : S_api_Value → Int → Option (Bool)) (v1 : Int) (v2_0 : Int) (v2_1 : Int) (v2_2 : Str) (v2_3 : (List S_api_Value)) (v2_4 : (List S_api_Pair)) (v6 : Int) (v7 : Int) : p_cascaderef03_right_11 c_cascaderef03_right v1 v2_0 v2_1 v2_2 v2_3 v2_4 v6 v7 = match b_cascaderef03_right_11 Prims.real p_cascaderef01_Right c_cascaderef03_right  v1 v2_0 v2_1 v2_2 v2_3 v2_4 v6 v7 with
    | some (.inl (v1', v2_0', v2_1', v2_2', v2_3', v2_4', v6', v7')) => p_cascaderef03_right_11 c_cascaderef03_right v1' v2_0' v2_1' v2_2' v2_3' v2_4' v6' v7'
    | some (.inr r) => some r
    | none => none := by
  show Pr.loop _ _ = _
  rw [Pr.loop_eq]
  try dsimp only
  generalize b_cascaderef03_right_11 Prims.real p_cascaderef01_Right c_cascaderef03_right  v1 v2_0 v2_1 v2_2 v2_3 v2_4 v6 v7 = y
  cases y with
  | none => rfl
  | some y => cases y <;> rfl
theorem s_cascaderef03_right_11 (c_cascaderef03_right : S_api_Value → Int → Option (Bool)) (h_cascaderef03_right : (C_cascaderef03_right (sysW table glob).pcall (sysW table glob).fcall (fun {_} e l => List.map e l) E_api_Value E_api_Pair c_cascaderef03_right)) (m : Nat)    : H_cascaderef03_right_11 (atW table glob) (fun {_} e l => List.map e l) E_api_Value E_api_Pair m  (p_cascaderef03_right_11 c_cascaderef03_right) := by
  intro v1 v2_0 v2_1 v2_2 v2_3 v2_4 v6 v7 out hp stk 
  refine LW.ind (fun (s : Int × Int × Int × Str × (List S_api_Value) × (List S_api_Pair) × Int × Int) => match s with | (v1, v2_0, v2_1, v2_2, v2_3, v2_4, v6, v7) => b_cascaderef03_right_11 Prims.real p_cascaderef01_Right c_cascaderef03_right  v1 v2_0 v2_1 v2_2 v2_3 v2_4 v6 v7) (fun (s : Int × Int × Int × Str × (List S_api_Value) × (List S_api_Pair) × Int × Int) o => match s with | (v1, v2_0, v2_1, v2_2, v2_3, v2_4, v6, v7) => ∀ (stk : Stk), (A_cascaderef03_right_11 (atW table glob) (fun {_} e l => List.map e l) E_api_Value E_api_Pair m  v1 v2_0 v2_1 v2_2 v2_3 v2_4 v6 v7 stk) = (Sum.elim (fun (v1, v2_0, v2_1, v2_2, v2_3, v2_4, v6) => (A_cascaderef03_right_8 (atW table glob) (fun {_} e l => List.map e l) E_api_Value E_api_Pair m  v1 v2_0 v2_1 v2_2 v2_3 v2_4 v6 stk)) (O_cascaderef03_right  m  stk)) o) (fun s r e => ?_) (fun s t r e ih => ?_) (v1, v2_0, v2_1, v2_2, v2_3, v2_4, v6, v7) out hp stk 
  · obtain ⟨v1, v2_0, v2_1, v2_2, v2_3, v2_4, v6, v7⟩ := s
    intro stk 
    exact o_cascaderef03_right_11 (h := LW) (hT := rfl) (hPP := rfl) (he_e_api_Step := he_E_api_Step) (hz_e_api_Step := hz_E_api_Step) (he_e_api_Value := he_E_api_Value) (hz_e_api_Value := hz_E_api_Value) (he_e_api_Pair := he_E_api_Pair) (hz_e_api_Pair := hz_E_api_Pair) (he_e_int := he_E_int) (hz_e_int := hz_E_int) (c_cascaderef01_Right := p_cascaderef01_Right) (c_cascaderef03_right := c_cascaderef03_right) (h_cascaderef01_Right := s_cascaderef01_Right) (h_cascaderef03_right := h_cascaderef03_right)   stk m    v1 v2_0 v2_1 v2_2 v2_3 v2_4 v6 v7  e
  · obtain ⟨v1, v2_0, v2_1, v2_2, v2_3, v2_4, v6, v7⟩ := s; obtain ⟨v1', v2_0', v2_1', v2_2', v2_3', v2_4', v6', v7'⟩ := t
    intro stk 
    exact (o_cascaderef03_right_11 (h := LW) (hT := rfl) (hPP := rfl) (he_e_api_Step := he_E_api_Step) (hz_e_api_Step := hz_E_api_Step) (he_e_api_Value := he_E_api_Value) (hz_e_api_Value := hz_E_api_Value) (he_e_api_Pair := he_E_api_Pair) (hz_e_api_Pair := hz_E_api_Pair) (he_e_int := he_E_int) (hz_e_int := hz_E_int) (c_cascaderef01_Right := p_cascaderef01_Right) (c_cascaderef03_right := c_cascaderef03_right) (h_cascaderef01_Right := s_cascaderef01_Right) (h_cascaderef03_right := h_cascaderef03_right)   stk m    v1 v2_0 v2_1 v2_2 v2_3 v2_4 v6 v7  e).trans (ih stk )
noncomputable def p_cascaderef03_right_8 (c_cascaderef03_right : S_api_Value → Int → Option (Bool)) (v1 : Int) (v2_0 : Int) (v2_1 : Int) (v2_2 : Str) (v2_3 : (List S_api_Value)) (v2_4 : (List S_api_Pair)) (v6 : Int) : Option (Bool) := Prims.real.loop (fun (s : Int × Int × Int × Str × (List S_api_Value) × (List S_api_Pair) × Int) => match s with | (v1, v2_0, v2_1, v2_2, v2_3, v2_4, v6) => b_cascaderef03_right_8 Prims.real p_cascaderef01_Right c_cascaderef03_right (p_cascaderef03_right_11 c_cascaderef03_right) v1 v2_0 v2_1 v2_2 v2_3 v2_4 v6) (v1, v2_0, v2_1, v2_2, v2_3, v2_4, v6)
theorem u_cascaderef03_right_8 (c_cascaderef03_right : S_api_Value → Int → Option (Bool)) (v1 : Int) (v2_0 : Int) (v2_1 : Int) (v2_2 : Str) (v2_3 : (List S_api_Value)) (v2_4 : (List S_api_Pair)) (v6 : Int) : p_cascaderef03_right_8 c_cascaderef03_right v1 v2_0 v2_1 v2_2 v2_3 v2_4 v6 = match b_cascaderef03_right_8 Prims.real p_cascaderef01_Right c_cascaderef03_right (p_cascaderef03_right_11 c_cascaderef03_right) v1 v2_0 v2_1 v2_2 v2_3 v2_4 v6 with
    | some (.inl (v1', v2_0', v2_1', v2_2', v2_3', v2_4', v6')) => p_cascaderef03_right_8 c_cascaderef03_right v1' v2_0' v2_1' v2_2' v2_3' v2_4' v6'
    | some (.inr r) => some r
    | none => none := by
  show Pr.loop _ _ = _
  rw [Pr.loop_eq]
  try dsimp only
  generalize b_cascaderef03_right_8 Prims.real p_cascaderef01_Right c_cascaderef03_right (p_cascaderef03_right_11 c_cascaderef03_right) v1 v2_0 v2_1 v2_2 v2_3 v2_4 v6 = y
  cases y with
  | none => rfl
  | some y => cases y <;> rfl
theorem s_cascaderef03_right_8 (c_cascaderef03_right : S_api_Value → Int → Option (Bool)) (h_cascaderef03_right : (C_cascaderef03_right (sysW table glob).pcall (sysW table glob).fcall (fun {_} e l => List.map e l) E_api_Value E_api_Pair c_cascaderef03_right)) (m : Nat)    : H_cascaderef03_right_8 (atW table glob) (fun {_} e l => List.map e l) E_api_Value E_api_Pair m  (p_cascaderef03_right_8 c_cascaderef03_right) := by
  intro v1 v2_0 v2_1 v2_2 v2_3 v2_4 v6 out hp stk 
  refine LW.ind (fun (s : Int × Int × Int × Str × (List S_api_Value) × (List S_api_Pair) × Int) => match s with | (v1, v2_0, v2_1, v2_2, v2_3, v2_4, v6) => b_cascaderef03_right_8 Prims.real p_cascaderef01_Right c_cascaderef03_right (p_cascaderef03_right_11 c_cascaderef03_right) v1 v2_0 v2_1 v2_2 v2_3 v2_4 v6) (fun (s : Int × Int × Int × Str × (List S_api_Value) × (List S_api_Pair) × Int) o => match s with | (v1, v2_0, v2_1, v2_2, v2_3, v2_4, v6) => ∀ (stk : Stk), (A_cascaderef03_right_8 (atW table glob) (fun {_} e l => List.map e l) E_api_Value E_api_Pair m  v1 v2_0 v2_1 v2_2 v2_3 v2_4 v6 stk) = (O_cascaderef03_right  m  stk) o) (fun s r e => ?_) (fun s t r e ih => ?_) (v1, v2_0, v2_1, v2_2, v2_3, v2_4, v6) out hp stk 
  · obtain ⟨v1, v2_0, v2_1, v2_2, v2_3, v2_4, v6⟩ := s
    intro stk 
    exact o_cascaderef03_right_8 (h := LW) (hT := rfl) (hPP := rfl) (he_e_api_Step := he_E_api_Step) (hz_e_api_Step := hz_E_api_Step) (he_e_api_Value := he_E_api_Value) (hz_e_api_Value := hz_E_api_Value) (he_e_api_Pair := he_E_api_Pair) (hz_e_api_Pair := hz_E_api_Pair) (he_e_int := he_E_int) (hz_e_int := hz_E_int) (c_cascaderef01_Right := p_cascaderef01_Right) (c_cascaderef03_right := c_cascaderef03_right) (h_cascaderef01_Right := s_cascaderef01_Right) (h_cascaderef03_right := h_cascaderef03_right) (l_11 := p_cascaderef03_right_11 c_cascaderef03_right) (h_l_11 := s_cascaderef03_right_11 c_cascaderef03_right h_cascaderef03_right m   ) stk m    v1 v2_0 v2_1 v2_2 v2_3 v2_4 v6  e
  · obtain ⟨v1, v2_0, v2_1, v2_2, v2_3, v2_4, v6⟩ := s; obtain ⟨v1', v2_0', v2_1', v2_2', v2_3', v2_4', v6'⟩ := t
    intro stk 
    exact (o_cascaderef03_right_8 (h := LW) (hT := rfl) (hPP := rfl) (he_e_api_Step := he_E_api_Step) (hz_e_api_Step := hz_E_api_Step) (he_e_api_Value := he_E_api_Value) (hz_e_api_Value := hz_E_api_Value) (he_e_api_Pair := he_E_api_Pair) (hz_e_api_Pair := hz_E_api_Pair) (he_e_int := he_E_int) (hz_e_int := hz_E_int) (c_cascaderef01_Right := p_cascaderef01_Right) (c_cascaderef03_right := c_cascaderef03_right) (h_cascaderef01_Right := s_cascaderef01_Right) (h_cascaderef03_right := h_cascaderef03_right) (l_11 := p_cascaderef03_right_11 c_cascaderef03_right) (h_l_11 := s_cascaderef03_right_11 c_cascaderef03_right h_cascaderef03_right m   ) stk m    v1 v2_0 v2_1 v2_2 v2_3 v2_4 v6  e).trans (ih stk )
noncomputable def p_cascaderef03_right_4 (c_cascaderef03_right : S_api_Value → Int → Option (Bool)) (v1 : Int) (v2_0 : Int) (v2_1 : Int) (v2_2 : Str) (v2_3 : (List S_api_Value)) (v2_4 : (List S_api_Pair)) (v5 : Int) : Option (Bool) := Prims.real.loop (fun (s : Int × Int × Int × Str × (List S_api_Value) × (List S_api_Pair) × Int) => match s with | (v1, v2_0, v2_1, v2_2, v2_3, v2_4, v5) => b_cascaderef03_right_4 Prims.real p_cascaderef01_Right c_cascaderef03_right (p_cascaderef03_right_8 c_cascaderef03_right) v1 v2_0 v2_1 v2_2 v2_3 v2_4 v5) (v1, v2_0, v2_1, v2_2, v2_3, v2_4, v5)
theorem u_cascaderef03_right_4 (c_cascaderef03_right : S_api_Value → Int → Option (Bool)) (v1 : Int) (v2_0 : Int) (v2_1 : Int) (v2_2 : Str) (v2_3 : (List S_api_Value)) (v2_4 : (List S_api_Pair)) (v5 : Int) : p_cascaderef03_right_4 c_cascaderef03_right v1 v2_0 v2_1 v2_2 v2_3 v2_4 v5 = match b_cascaderef03_right_4 Prims.real p_cascaderef01_Right c_cascaderef03_right (p_cascaderef03_right_8 c_cascaderef03_right) v1 v2_0 v2_1 v2_2 v2_3 v2_4 v5 with
    | some (.inl (v1', v2_0', v2_1', v2_2', v2_3', v2_4', v5')) => p_cascaderef03_right_4 c_cascaderef03_right v1' v2_0' v2_1' v2_2' v2_3' v2_4' v5'
    | some (.inr r) => some r
    | none => none := by
  show Pr.loop _ _ = _
  rw [Pr.loop_eq]
  try dsimp only
  generalize b_cascaderef03_right_4 Prims.real p_cascaderef01_Right c_cascaderef03_right (p_cascaderef03_right_8 c_cascaderef03_right) v1 v2_0 v2_1 v2_2 v2_3 v2_4 v5 = y
  cases y with
  | none => rfl
  | some y => cases y <;> rfl
theorem s_cascaderef03_right_4 (c_cascaderef03_right : S_api_Value → Int → Option (Bool)) (h_cascaderef03_right : (C_cascaderef03_right (sysW table glob).pcall (sysW table glob).fcall (fun {_} e l => List.map e l) E_api_Value E_api_Pair c_cascaderef03_right)) (m : Nat)    : H_cascaderef03_right_4 (atW table glob) (fun {_} e l => List.map e l) E_api_Value E_api_Pair m  (p_cascaderef03_right_4 c_cascaderef03_right) := by
  intro v1 v2_0 v2_1 v2_2 v2_3 v2_4 v5 out hp stk 
  refine LW.ind (fun (s : Int × Int × Int × Str × (List S_api_Value) × (List S_api_Pair) × Int) => match s with | (v1, v2_0, v2_1, v2_2, v2_3, v2_4, v5) => b_cascaderef03_right_4 Prims.real p_cascaderef01_Right c_cascaderef03_right (p_cascaderef03_right_8 c_cascaderef03_right) v1 v2_0 v2_1 v2_2 v2_3 v2_4 v5) (fun (s : Int × Int × Int × Str × (List S_api_Value) × (List S_api_Pair) × Int) o => match s with | (v1, v2_0, v2_1, v2_2, v2_3, v2_4, v5) => ∀ (stk : Stk), (A_cascaderef03_right_4 (atW table glob) (fun {_} e l => List.map e l) E_api_Value E_api_Pair m  v1 v2_0 v2_1 v2_2 v2_3 v2_4 v5 stk) = (O_cascaderef03_right  m  stk) o) (fun s r e => ?_) (fun s t r e ih => ?_) (v1, v2_0, v2_1, v2_2, v2_3, v2_4, v5) out hp stk 
  · obtain ⟨v1, v2_0, v2_1, v2_2, v2_3, v2_4, v5⟩ := s
    intro stk 
    exact o_cascaderef03_right_4 (h := LW) (hT := rfl) (hPP := rfl) (he_e_api_Step := he_E_api_Step) (hz_e_api_Step := hz_E_api_Step) (he_e_api_Value := he_E_api_Value) (hz_e_api_Value := hz_E_api_Value) (he_e_api_Pair := he_E_api_Pair) (hz_e_api_Pair := hz_E_api_Pair) (he_e_int := he_E_int) (hz_e_int := hz_E_int) (c_cascaderef01_Right := p_cascaderef01_Right) (c_cascaderef03_right := c_cascaderef03_right) (h_cascaderef01_Right := s_cascaderef01_Right) (h_cascaderef03_right := h_cascaderef03_right) (l_8 := p_cascaderef03_right_8 c_cascaderef03_right) (h_l_8 := s_cascaderef03_right_8 c_cascaderef03_right h_cascaderef03_right m   ) stk m    v1 v2_0 v2_1 v2_2 v2_3 v2_4 v5  e
  · obtain ⟨v1, v2_0, v2_1, v2_2, v2_3, v2_4, v5⟩ := s; obtain ⟨v1', v2_0', v2_1', v2_2', v2_3', v2_4', v5'⟩ := t
    intro stk 
    exact (o_cascaderef03_right_4 (h := LW) (hT := rfl) (hPP := rfl) (he_e_api_Step := he_E_api_Step) (hz_e_api_Step := hz_E_api_Step) (he_e_api_Value := he_E_api_Value) (hz_e_api_Value := hz_E_api_Value) (he_e_api_Pair := he_E_api_Pair) (hz_e_api_Pair := hz_E_api_Pair) (he_e_int := he_E_int) (hz_e_int := hz_E_int) (c_cascaderef01_Right := p_cascaderef01_Right) (c_cascaderef03_right := c_cascaderef03_right) (h_cascaderef01_Right := s_cascaderef01_Right) (h_cascaderef03_right := h_cascaderef03_right) (l_8 := p_cascaderef03_right_8 c_cascaderef03_right) (h_l_8 := s_cascaderef03_right_8 c_cascaderef03_right h_cascaderef03_right m   ) stk m    v1 v2_0 v2_1 v2_2 v2_3 v2_4 v5  e).trans (ih stk )
noncomputable def p_cascaderef03_right_3 (c_cascaderef03_right : S_api_Value → Int → Option (Bool)) (v1 : Int) (v2_0 : Int) (v2_1 : Int) (v2_2 : Str) (v2_3 : (List S_api_Value)) (v2_4 : (List S_api_Pair)) : Option (Bool) := b_cascaderef03_right_3 Prims.real p_cascaderef01_Right c_cascaderef03_right (p_cascaderef03_right_4 c_cascaderef03_right) v1 v2_0 v2_1 v2_2 v2_3 v2_4
theorem s_cascaderef03_right_3 (c_cascaderef03_right : S_api_Value → Int → Option (Bool)) (h_cascaderef03_right : (C_cascaderef03_right (sysW table glob).pcall (sysW table glob).fcall (fun {_} e l => List.map e l) E_api_Value E_api_Pair c_cascaderef03_right)) (m : Nat)    : H_cascaderef03_right_3 (atW table glob) (fun {_} e l => List.map e l) E_api_Value E_api_Pair m  (p_cascaderef03_right_3 c_cascaderef03_right) := by
  intro v1 v2_0 v2_1 v2_2 v2_3 v2_4 out hp stk 
  exact o_cascaderef03_right_3 (h := LW) (hT := rfl) (hPP := rfl) (he_e_api_Step := he_E_api_Step) (hz_e_api_Step := hz_E_api_Step) (he_e_api_Value := he_E_api_Value) (hz_e_api_Value := hz_E_api_Value) (he_e_api_Pair := he_E_api_Pair) (hz_e_api_Pair := hz_E_api_Pair) (he_e_int := he_E_int) (hz_e_int := hz_E_int) (c_cascaderef01_Right := p_cascaderef01_Right) (c_cascaderef03_right := c_cascaderef03_right) (h_cascaderef01_Right := s_cascaderef01_Right) (h_cascaderef03_right := h_cascaderef03_right) (l_4 := p_cascaderef03_right_4 c_cascaderef03_right) (h_l_4 := s_cascaderef03_right_4 c_cascaderef03_right h_cascaderef03_right m   ) stk m    v1 v2_0 v2_1 v2_2 v2_3 v2_4  hp
noncomputable def p_cascaderef03_right_2 (c_cascaderef03_right : S_api_Value → Int → Option (Bool)) (v1 : Int) (v2_0 : Int) (v2_1 : Int) (v2_2 : Str) (v2_3 : (List S_api_Value)) (v2_4 : (List S_api_Pair)) : Option (Bool) := b_cascaderef03_right_2 Prims.real p_cascaderef01_Right c_cascaderef03_right (p_cascaderef03_right_3 c_cascaderef03_right) v1 v2_0 v2_1 v2_2 v2_3 v2_4
theorem s_cascaderef03_right_2 (c_cascaderef03_right : S_api_Value → Int → Option (Bool)) (h_cascaderef03_right : (C_cascaderef03_right (sysW table glob).pcall (sysW table glob).fcall (fun {_} e l => List.map e l) E_api_Value E_api_Pair c_cascaderef03_right)) (m : Nat)    : H_cascaderef03_right_2 (atW table glob) (fun {_} e l => List.map e l) E_api_Value E_api_Pair m  (p_cascaderef03_right_2 c_cascaderef03_right) := by
  intro v1 v2_0 v2_1 v2_2 v2_3 v2_4 out hp stk 
  exact o_cascaderef03_right_2 (h := LW) (hT := rfl) (hPP := rfl) (he_e_api_Step := he_E_api_Step) (hz_e_api_Step := hz_E_api_Step) (he_e_api_Value := he_E_api_Value) (hz_e_api_Value := hz_E_api_Value) (he_e_api_Pair := he_E_api_Pair) (hz_e_api_Pair := hz_E_api_Pair) (he_e_int := he_E_int) (hz_e_int := hz_E_int) (c_cascaderef01_Right := p_cascaderef01_Right) (c_cascaderef03_right := c_cascaderef03_right) (h_cascaderef01_Right := s_cascaderef01_Right) (h_cascaderef03_right := h_cascaderef03_right) (l_3 := p_cascaderef03_right_3 c_cascaderef03_right) (h_l_3 := s_cascaderef03_right_3 c_cascaderef03_right h_cascaderef03_right m   ) stk m    v1 v2_0 v2_1 v2_2 v2_3 v2_4  hp
noncomputable def p_cascaderef03_right_0 (c_cascaderef03_right : S_api_Value → Int → Option (Bool)) (v0_0 : Int) (v0_1 : Int) (v0_2 : Str) (v0_3 : (List S_api_Value)) (v0_4 : (List S_api_Pair)) (v1 : Int) : Option (Bool) := b_cascaderef03_right_0 Prims.real p_cascaderef01_Right c_cascaderef03_right (p_cascaderef03_right_2 c_cascaderef03_right) v0_0 v0_1 v0_2 v0_3 v0_4 v1
theorem s_cascaderef03_right_0 (c_cascaderef03_right : S_api_Value → Int → Option (Bool)) (h_cascaderef03_right : (C_cascaderef03_right (sysW table glob).pcall (sysW table glob).fcall (fun {_} e l => List.map e l) E_api_Value E_api_Pair c_cascaderef03_right)) (m : Nat)    : H_cascaderef03_right_0 (atW table glob) (fun {_} e l => List.map e l) E_api_Value E_api_Pair m  (p_cascaderef03_right_0 c_cascaderef03_right) := by
  intro v0_0 v0_1 v0_2 v0_3 v0_4 v1 out hp stk 
  exact o_cascaderef03_right_0 (h := LW) (hT := rfl) (hPP := rfl) (he_e_api_Step := he_E_api_Step) (hz_e_api_Step := hz_E_api_Step) (he_e_api_Value := he_E_api_Value) (hz_e_api_Value := hz_E_api_Value) (he_e_api_Pair := he_E_api_Pair) (hz_e_api_Pair := hz_E_api_Pair) (he_e_int := he_E_int) (hz_e_int := hz_E_int) (c_cascaderef01_Right := p_cascaderef01_Right) (c_cascaderef03_right := c_cascaderef03_right) (h_cascaderef01_Right := s_cascaderef01_Right) (h_cascaderef03_right := h_cascaderef03_right) (l_2 := p_cascaderef03_right_2 c_cascaderef03_right) (h_l_2 := s_cascaderef03_right_2 c_cascaderef03_right h_cascaderef03_right m   ) stk m    v0_0 v0_1 v0_2 v0_3 v0_4 v1  hp
noncomputable def pk_cascaderef03_right : Nat → (S_api_Value → Int → Option (Bool))
  | 0 => fun _ _ => none
  | k + 1 => fun ⟨v0_0, v0_1, v0_2, v0_3, v0_4⟩ v1 => p_cascaderef03_right_0 ((pk_cascaderef03_right k)) v0_0 v0_1 v0_2 v0_3 v0_4 v1
theorem sk_cascaderef03_right : ∀ k, ((C_cascaderef03_right (sysW table glob).pcall (sysW table glob).fcall (fun {_} e l => List.map e l) E_api_Value E_api_Pair ((pk_cascaderef03_right k)))) ∧ True
  | 0 => by
    refine ⟨?_, trivial⟩
    · intro _ _ _ _ _ _ _ hp; exact nomatch (show none = some _ from hp)
  | k + 1 => by
    obtain ⟨ih0, _⟩ := sk_cascaderef03_right k
    refine ⟨?_, trivial⟩
    · intro _ _ _ _ _ _ _ hp stk    
      exact pf_of (T := table) (G := glob) (f := 62) rfl rfl (s_cascaderef03_right_0 ((pk_cascaderef03_right k)) ih0 (topN stk + 1)    hp stk )
noncomputable def p_cascaderef03_right : S_api_Value → Int → Option (Bool) := (pk_cascaderef03_right 1000000)
theorem s_cascaderef03_right : (C_cascaderef03_right (sysW table glob).pcall (sysW table glob).fcall (fun {_} e l => List.map e l) E_api_Value E_api_Pair p_cascaderef03_right) := (sk_cascaderef03_right 1000000).1
noncomputable def p_cascaderef03_Right_0  (v0_0 : Int) (v0_1 : Int) (v0_2 : Str) (v0_3 : (List S_api_Value)) (v0_4 : (List S_api_Pair)) : Option (Bool) := b_cascaderef03_Right_0 Prims.real p_cascaderef03_right  v0_0 v0_1 v0_2 v0_3 v0_4
theorem s_cascaderef03_Right_0   (m : Nat)    : H_cascaderef03_Right_0 (atW table glob) (fun {_} e l => List.map e l) E_api_Value E_api_Pair m  p_cascaderef03_Right_0 := by
  intro v0_0 v0_1 v0_2 v0_3 v0_4 out hp stk 
  exact o_cascaderef03_Right_0 (h := LW) (hT := rfl) (hPP := rfl) (he_e_api_Step := he_E_api_Step) (hz_e_api_Step := hz_E_api_Step) (he_e_api_Value := he_E_api_Value) (hz_e_api_Value := hz_E_api_Value) (he_e_api_Pair := he_E_api_Pair) (hz_e_api_Pair := hz_E_api_Pair) (he_e_int := he_E_int) (hz_e_int := hz_E_int) (c_cascaderef03_right := p_cascaderef03_right) (h_cascaderef03_right := s_cascaderef03_right)   stk m    v0_0 v0_1 v0_2 v0_3 v0_4  hp
noncomputable def p_cascaderef03_Right : S_api_Value → Option (Bool) := fun ⟨v0_0, v0_1, v0_2, v0_3, v0_4⟩ => p_cascaderef03_Right_0  v0_0 v0_1 v0_2 v0_3 v0_4
theorem s_cascaderef03_Right : (C_cascaderef03_Right (sysW table glob).pcall (sysW table glob).fcall (fun {_} e l => List.map e l) E_api_Value E_api_Pair p_cascaderef03_Right) := by
  intro _ _ _ _ _ _ hp stk    
  exact pf_of (T := table) (G := glob) (f := 33) rfl rfl (s_cascaderef03_Right_0   (topN stk + 1)    hp stk )
noncomputable def p_cascaderef06_Right__1_3  (L0_g : Nat) (L0 : (List S_api_Step)) (v3 : Int) : Option ((Int) ⊕ (Bool)) := b_cascaderef06_Right__1_3 Prims.real p_cascaderef01_Right  L0_g L0 v3
theorem s_cascaderef06_Right__1_3   (m : Nat) (n0 : Nat) (k0 : List Nat) (hl0 : n0 < m)  : H_cascaderef06_Right__1_3 (atW table glob) (fun {_} e l => List.map e l) List.length E_api_Step m n0 k0 p_cascaderef06_Right__1_3 := by
  intro L0_g L0 v3 out hp stk hg0
  exact o_cascaderef06_Right__1_3 (h := LW) (hT := rfl) (hPP := rfl) (he_e_api_Step := he_E_api_Step) (hz_e_api_Step := hz_E_api_Step) (he_e_api_Value := he_E_api_Value) (hz_e_api_Value := hz_E_api_Value) (he_e_api_Pair := he_E_api_Pair) (hz_e_api_Pair := hz_E_api_Pair) (he_e_int := he_E_int) (hz_e_int := hz_E_int) (c_cascaderef01_Right := p_cascaderef01_Right) (h_cascaderef01_Right := s_cascaderef01_Right)   stk m n0 k0 hl0  L0_g L0 v3 hg0 hp
noncomputable def p_cascaderef06_Right__1_4  (L0_g : Nat) (L0 : (List S_api_Step)) : Option (Bool) := b_cascaderef06_Right__1_4 Prims.real p_cascaderef01_Right  L0_g L0
theorem s_cascaderef06_Right__1_4   (m : Nat) (n0 : Nat) (k0 : List Nat) (hl0 : n0 < m)  : H_cascaderef06_Right__1_4 (atW table glob) (fun {_} e l => List.map e l) List.length E_api_Step m n0 k0 p_cascaderef06_Right__1_4 := by
  intro L0_g L0 out hp stk hg0
  exact o_cascaderef06_Right__1_4 (h := LW) (hT := rfl) (hPP := rfl) (he_e_api_Step := he_E_api_Step) (hz_e_api_Step := hz_E_api_Step) (he_e_api_Value := he_E_api_Value) (hz_e_api_Value := hz_E_api_Value) (he_e_api_Pair := he_E_api_Pair) (hz_e_api_Pair := hz_E_api_Pair) (he_e_int := he_E_int) (hz_e_int := hz_E_int) (c_cascaderef01_Right := p_cascaderef01_Right) (h_cascaderef01_Right := s_cascaderef01_Right)   stk m n0 k0 hl0  L0_g L0 hg0 hp
noncomputable def p_cascaderef06_Right__1_1  (L0_g : Nat) (L0 : (List S_api_Step)) (v3 : Int) : Option (Bool) := Prims.real.loop (fun (v3 : Int) => b_cascaderef06_Right__1_1 Prims.real p_cascaderef01_Right p_cascaderef06_Right__1_3 p_cascaderef06_Right__1_4 L0_g L0 v3) v3
theorem u_cascaderef06_Right__1_1  (L0_g : Nat) (L0 : (List S_api_Step)) (v3 : Int) : p_cascaderef06_Right__1_1  L0_g L0 v3 = match b_cascaderef06_Right__1_1 Prims.real p_cascaderef01_Right p_cascaderef06_Right__1_3 p_cascaderef06_Right__1_4 L0_g L0 v3 with
    | some (.inl v3') => p_cascaderef06_Right__1_1  L0_g L0 v3'
    | some (.inr r) => some r
    | none => none := by
  show Pr.loop _ _ = _
  rw [Pr.loop_eq]
  try dsimp only
  generalize b_cascaderef06_Right__1_1 Prims.real p_cascaderef01_Right p_cascaderef06_Right__1_3 p_cascaderef06_Right__1_4 L0_g L0 v3 = y
  cases y with
  | none => rfl
  | some y => cases y <;> rfl
theorem s_cascaderef06_Right__1_1   (m : Nat) (n0 : Nat) (k0 : List Nat) (hl0 : n0 < m)  : H_cascaderef06_Right__1_1 (atW table glob) (fun {_} e l => List.map e l) List.length E_api_Step m n0 k0 p_cascaderef06_Right__1_1 := by
  intro L0_g L0 v3 out hp stk hg0
  refine LW.ind (fun (v3 : Int) => b_cascaderef06_Right__1_1 Prims.real p_cascaderef01_Right p_cascaderef06_Right__1_3 p_cascaderef06_Right__1_4 L0_g L0 v3) (fun (v3 : Int) o => ∀ (stk : Stk), getO stk ⟨n0, k0⟩ = some (.arr L0_g 3 (List.map E_api_Step L0)) → (A_cascaderef06_Right__1_1 (atW table glob) (fun {_} e l => List.map e l) List.length E_api_Step m n0 k0 L0_g L0 v3 stk) = (O_cascaderef06_Right__1  m n0 k0 stk) o) (fun s r e => ?_) (fun s t r e ih => ?_) v3 out hp stk hg0
  · revert e; revert s; intro v3 e
    intro stk hg0
    exact o_cascaderef06_Right__1_1 (h := LW) (hT := rfl) (hPP := rfl) (he_e_api_Step := he_E_api_Step) (hz_e_api_Step := hz_E_api_Step) (he_e_api_Value := he_E_api_Value) (hz_e_api_Value := hz_E_api_Value) (he_e_api_Pair := he_E_api_Pair) (hz_e_api_Pair := hz_E_api_Pair) (he_e_int := he_E_int) (hz_e_int := hz_E_int) (c_cascaderef01_Right := p_cascaderef01_Right) (h_cascaderef01_Right := s_cascaderef01_Right) (l_3 := p_cascaderef06_Right__1_3 ) (l_4 := p_cascaderef06_Right__1_4 ) (h_l_3 := s_cascaderef06_Right__1_3   m n0 k0 hl0 ) (h_l_4 := s_cascaderef06_Right__1_4   m n0 k0 hl0 ) stk m n0 k0 hl0  L0_g L0 v3 hg0 e
  · revert ih e; revert s t; intro v3 v3' e ih
    intro stk hg0
    exact (o_cascaderef06_Right__1_1 (h := LW) (hT := rfl) (hPP := rfl) (he_e_api_Step := he_E_api_Step) (hz_e_api_Step := hz_E_api_Step) (he_e_api_Value := he_E_api_Value) (hz_e_api_Value := hz_E_api_Value) (he_e_api_Pair := he_E_api_Pair) (hz_e_api_Pair := hz_E_api_Pair) (he_e_int := he_E_int) (hz_e_int := hz_E_int) (c_cascaderef01_Right := p_cascaderef01_Right) (h_cascaderef01_Right := s_cascaderef01_Right) (l_3 := p_cascaderef06_Right__1_3 ) (l_4 := p_cascaderef06_Right__1_4 ) (h_l_3 := s_cascaderef06_Right__1_3   m n0 k0 hl0 ) (h_l_4 := s_cascaderef06_Right__1_4   m n0 k0 hl0 ) stk m n0 k0 hl0  L0_g L0 v3 hg0 e).trans (ih stk (hg0))
noncomputable def p_cascaderef06_Right__1_0  (L0_g : Nat) (L0 : (List S_api_Step)) : Option (Bool) := b_cascaderef06_Right__1_0 Prims.real p_cascaderef01_Right p_cascaderef06_Right__1_1 L0_g L0
theorem s_cascaderef06_Right__1_0   (m : Nat) (n0 : Nat) (k0 : List Nat) (hl0 : n0 < m)  : H_cascaderef06_Right__1_0 (atW table glob) (fun {_} e l => List.map e l) List.length E_api_Step m n0 k0 p_cascaderef06_Right__1_0 := by
  intro L0_g L0 out hp stk hg0
  exact o_cascaderef06_Right__1_0 (h := LW) (hT := rfl) (hPP := rfl) (he_e_api_Step := he_E_api_Step) (hz_e_api_Step := hz_E_api_Step) (he_e_api_Value := he_E_api_Value) (hz_e_api_Value := hz_E_api_Value) (he_e_api_Pair := he_E_api_Pair) (hz_e_api_Pair := hz_E_api_Pair) (he_e_int := he_E_int) (hz_e_int := hz_E_int) (c_cascaderef01_Right := p_cascaderef01_Right) (h_cascaderef01_Right := s_cascaderef01_Right) (l_1 := p_cascaderef06_Right__1_1 ) (h_l_1 := s_cascaderef06_Right__1_1   m n0 k0 hl0 ) stk m n0 k0 hl0  L0_g L0 hg0 hp
noncomputable def p_cascaderef06_Right__1 : Nat → (List S_api_Step) → Option (Bool) := fun L0_g L0 => p_cascaderef06_Right__1_0  L0_g L0
theorem s_cascaderef06_Right__1 : (C_cascaderef06_Right__1 (sysW table glob).pcall (sysW table glob).fcall (fun {_} e l => List.map e l) List.length E_api_Step p_cascaderef06_Right__1) := by
  intro _ _ _ hp stk n0 k0 hg0 hl0 
  exact pf_of (T := table) (G := glob) (f := 17) rfl rfl (s_cascaderef06_Right__1_0   (topN stk + 1) n0 k0 (Nat.lt_succ_of_le hl0)  hp stk hg0)
noncomputable def p_cascaderef06_Of_3  (v1_0 : Int) (v1_1 : Int) (v1_2 : Str) (v1_3 : (List S_api_Value)) (v1_4 : (List S_api_Pair)) (o4_g : Nat) (o4 : (List S_api_Step)) (v5 : Int) (o6_0 : Int) (o6_1 : Int) (o6_2 : Str) (o6_3 : (List S_api_Value)) (o6_4 : (List S_api_Pair)) : Option ((Int × Int × Str × (List S_api_Value) × (List S_api_Pair) × Nat × (List S_api_Step) × Int) ⊕ ((List S_api_Step) × Bool)) := b_cascaderef06_Of_3 Prims.real p_cascaderef03_Right p_cascaderef06_Right__1  v1_0 v1_1 v1_2 v1_3 v1_4 o4_g o4 v5 o6_0 o6_1 o6_2 o6_3 o6_4
theorem s_cascaderef06_Of_3   (m : Nat)    : H_cascaderef06_Of_3 (atW table glob) (fun {_} e l => List.map e l) List.length E_api_Step E_api_Value E_api_Pair m  p_cascaderef06_Of_3 := by
  intro v1_0 v1_1 v1_2 v1_3 v1_4 o4_g o4 v5 o6_0 o6_1 o6_2 o6_3 o6_4 out hp stk 
  exact o_cascaderef06_Of_3 (h := LW) (hT := rfl) (hPP := rfl) (he_e_api_Step := he_E_api_Step) (hz_e_api_Step := hz_E_api_Step) (he_e_api_Value := he_E_api_Value) (hz_e_api_Value := hz_E_api_Value) (he_e_api_Pair := he_E_api_Pair) (hz_e_api_Pair := hz_E_api_Pair) (he_e_int := he_E_int) (hz_e_int := hz_E_int) (c_cascaderef03_Right := p_cascaderef03_Right) (c_cascaderef06_Right__1 := p_cascaderef06_Right__1) (h_cascaderef03_Right := s_cascaderef03_Right) (h_cascaderef06_Right__1 := s_cascaderef06_Right__1)   stk m    v1_0 v1_1 v1_2 v1_3 v1_4 o4_g o4 v5 o6_0 o6_1 o6_2 o6_3 o6_4  hp
noncomputable def p_cascaderef06_Of_1  (v1_0 : Int) (v1_1 : Int) (v1_2 : Str) (v1_3 : (List S_api_Value)) (v1_4 : (List S_api_Pair)) (o4_g : Nat) (o4 : (List S_api_Step)) (v5 : Int) : Option ((List S_api_Step) × Bool) := Prims.real.loop (fun (s : Int × Int × Str × (List S_api_Value) × (List S_api_Pair) × Nat × (List S_api_Step) × Int) => match s with | (v1_0, v1_1, v1_2, v1_3, v1_4, o4_g, o4, v5) => b_cascaderef06_Of_1 Prims.real p_cascaderef03_Right p_cascaderef06_Right__1 p_cascaderef06_Of_3 v1_0 v1_1 v1_2 v1_3 v1_4 o4_g o4 v5) (v1_0, v1_1, v1_2, v1_3, v1_4, o4_g, o4, v5)
theorem u_cascaderef06_Of_1  (v1_0 : Int) (v1_1 : Int) (v1_2 : Str) (v1_3 : (List S_api_Value)) (v1_4 : (List S_api_Pair)) (o4_g : Nat) (o4 : (List S_api_Step)) (v5 : Int) : p_cascaderef06_Of_1  v1_0 v1_1 v1_2 v1_3 v1_4 o4_g o4 v5 = match b_cascaderef06_Of_1 Prims.real p_cascaderef03_Right p_cascaderef06_Right__1 p_cascaderef06_Of_3 v1_0 v1_1 v1_2 v1_3 v1_4 o4_g o4 v5 with
    | some (.inl (v1_0', v1_1', v1_2', v1_3', v1_4', o4_g', o4', v5')) => p_cascaderef06_Of_1  v1_0' v1_1' v1_2' v1_3' v1_4' o4_g' o4' v5'
    | some (.inr r) => some r
    | none => none := by
  show Pr.loop _ _ = _
  rw [Pr.loop_eq]
  try dsimp only
  generalize b_cascaderef06_Of_1 Prims.real p_cascaderef03_Right p_cascaderef06_Right__1 p_cascaderef06_Of_3 v1_0 v1_1 v1_2 v1_3 v1_4 o4_g o4 v5 = y
  cases y with
  | none => rfl
  | some y => cases y <;> rfl
theorem s_cascaderef06_Of_1   (m : Nat)    : H_cascaderef06_Of_1 (atW table glob) (fun {_} e l => List.map e l) List.length E_api_Step E_api_Value E_api_Pair m  p_cascaderef06_Of_1 := by
  intro v1_0 v1_1 v1_2 v1_3 v1_4 o4_g o4 v5 out hp stk 
  refine LW.ind (fun (s : Int × Int × Str × (List S_api_Value) × (List S_api_Pair) × Nat × (List S_api_Step) × Int) => match s with | (v1_0, v1_1, v1_2, v1_3, v1_4, o4_g, o4, v5) => b_cascaderef06_Of_1 Prims.real p_cascaderef03_Right p_cascaderef06_Right__1 p_cascaderef06_Of_3 v1_0 v1_1 v1_2 v1_3 v1_4 o4_g o4 v5) (fun (s : Int × Int × Str × (List S_api_Value) × (List S_api_Pair) × Nat × (List S_api_Step) × Int) o => match s with | (v1_0, v1_1, v1_2, v1_3, v1_4, o4_g, o4, v5) => ∀ (stk : Stk), (A_cascaderef06_Of_1 (atW table glob) (fun {_} e l => List.map e l) List.length E_api_Step E_api_Value E_api_Pair m  v1_0 v1_1 v1_2 v1_3 v1_4 o4_g o4 v5 stk) = (O_cascaderef06_Of (fun {_} e l => List.map e l) E_api_Step m  stk) o) (fun s r e => ?_) (fun s t r e ih => ?_) (v1_0, v1_1, v1_2, v1_3, v1_4, o4_g, o4, v5) out hp stk 
  · obtain ⟨v1_0, v1_1, v1_2, v1_3, v1_4, o4_g, o4, v5⟩ := s
    intro stk 
    exact o_cascaderef06_Of_1 (h := LW) (hT := rfl) (hPP := rfl) (he_e_api_Step := he_E_api_Step) (hz_e_api_Step := hz_E_api_Step) (he_e_api_Value := he_E_api_Value) (hz_e_api_Value := hz_E_api_Value) (he_e_api_Pair := he_E_api_Pair) (hz_e_api_Pair := hz_E_api_Pair) (he_e_int := he_E_int) (hz_e_int := hz_E_int) (c_cascaderef03_Right := p_cascaderef03_Right) (c_cascaderef06_Right__1 := p_cascaderef06_Right__1) (h_cascaderef03_Right := s_cascaderef03_Right) (h_cascaderef06_Right__1 := s_cascaderef06_Right__1) (l_3 := p_cascaderef06_Of_3 ) (h_l_3 := s_cascaderef06_Of_3   m   ) stk m    v1_0 v1_1 v1_2 v1_3 v1_4 o4_g o4 v5  e
  · obtain ⟨v1_0, v1_1, v1_2, v1_3, v1_4, o4_g, o4, v5⟩ := s; obtain ⟨v1_0', v1_1', v1_2', v1_3', v1_4', o4_g', o4', v5'⟩ := t
    intro stk 
    exact (o_cascaderef06_Of_1 (h := LW) (hT := rfl) (hPP := rfl) (he_e_api_Step := he_E_api_Step) (hz_e_api_Step := hz_E_api_Step) (he_e_api_Value := he_E_api_Value) (hz_e_api_Value := hz_E_api_Value) (he_e_api_Pair := he_E_api_Pair) (hz_e_api_Pair := hz_E_api_Pair) (he_e_int := he_E_int) (hz_e_int := hz_E_int) (c_cascaderef03_Right := p_cascaderef03_Right) (c_cascaderef06_Right__1 := p_cascaderef06_Right__1) (h_cascaderef03_Right := s_cascaderef03_Right) (h_cascaderef06_Right__1 := s_cascaderef06_Right__1) (l_3 := p_cascaderef06_Of_3 ) (h_l_3 := s_cascaderef06_Of_3   m   ) stk m    v1_0 v1_1 v1_2 v1_3 v1_4 o4_g o4 v5  e).trans (ih stk )
noncomputable def p_cascaderef06_Of_0  (v0_0 : Int) (v0_1 : Int) (v0_2 : Str) (v0_3 : (List S_api_Value)) (v0_4 : (List S_api_Pair)) : Option ((List S_api_Step) × Bool) := b_cascaderef06_Of_0 Prims.real p_cascaderef03_Right p_cascaderef06_Right__1 p_cascaderef06_Of_1 v0_0 v0_1 v0_2 v0_3 v0_4
theorem s_cascaderef06_Of_0   (m : Nat)    : H_cascaderef06_Of_0 (atW table glob) (fun {_} e l => List.map e l) E_api_Step E_api_Value E_api_Pair m  p_cascaderef06_Of_0 := by
  intro v0_0 v0_1 v0_2 v0_3 v0_4 out hp stk 
  exact o_cascaderef06_Of_0 (h := LW) (hT := rfl) (hPP := rfl) (he_e_api_Step := he_E_api_Step) (hz_e_api_Step := hz_E_api_Step) (he_e_api_Value := he_E_api_Value) (hz_e_api_Value := hz_E_api_Value) (he_e_api_Pair := he_E_api_Pair) (hz_e_api_Pair := hz_E_api_Pair) (he_e_int := he_E_int) (hz_e_int := hz_E_int) (c_cascaderef03_Right := p_cascaderef03_Right) (c_cascaderef06_Right__1 := p_cascaderef06_Right__1) (h_cascaderef03_Right := s_cascaderef03_Right) (h_cascaderef06_Right__1 := s_cascaderef06_Right__1) (l_1 := p_cascaderef06_Of_1 ) (h_l_1 := s_cascaderef06_Of_1   m   ) stk m    v0_0 v0_1 v0_2 v0_3 v0_4  hp
noncomputable def p_cascaderef06_Of : S_api_Value → Option ((List S_api_Step) × Bool) := fun ⟨v0_0, v0_1, v0_2, v0_3, v0_4⟩ => p_cascaderef06_Of_0  v0_0 v0_1 v0_2 v0_3 v0_4
theorem s_cascaderef06_Of : (C_cascaderef06_Of (sysW table glob).pcall (sysW table glob).fcall (fun {_} e l => List.map e l) E_api_Step E_api_Value E_api_Pair p_cascaderef06_Of) := by
  intro _ _ _ _ _ _ _ hp stk    
  exact pf_of (T := table) (G := glob) (f := 26) rfl rfl (s_cascaderef06_Of_0   (topN stk + 1)    hp stk )
noncomputable def p_cascadelaw06_PathOf_0  (v0_0 : Int) (v0_1 : Int) (v0_2 : Str) (v0_3 : (List S_api_Value)) (v0_4 : (List S_api_Pair)) : Option (Bool) := b_cascadelaw06_PathOf_0 Prims.real p_cascadelaw06_awake p_cascaderef03_Few p_path_Of p_cascaderef06_Of p_cascaderef06_Same  v0_0 v0_1 v0_2 v0_3 v0_4
theorem s_cascadelaw06_PathOf_0   (m : Nat)    : H_cascadelaw06_PathOf_0 (atW table glob) (fun {_} e l => List.map e l) E_api_Value E_api_Pair m  p_cascadelaw06_PathOf_0 := by
  intro v0_0 v0_1 v0_2 v0_3 v0_4 out hp stk 
  exact o_cascadelaw06_PathOf_0 (h := LW) (hT := rfl) (hPP := rfl) (he_e_api_Step := he_E_api_Step) (hz_e_api_Step := hz_E_api_Step) (he_e_api_Value := he_E_api_Value) (hz_e_api_Value := hz_E_api_Value) (he_e_api_Pair := he_E_api_Pair) (hz_e_api_Pair := hz_E_api_Pair) (he_e_int := he_E_int) (hz_e_int := hz_E_int) (c_cascadelaw06_awake := p_cascadelaw06_awake) (c_cascaderef03_Few := p_cascaderef03_Few) (c_path_Of := p_path_Of) (c_cascaderef06_Of := p_cascaderef06_Of) (c_cascaderef06_Same := p_cascaderef06_Same) (h_cascadelaw06_awake := s_cascadelaw06_awake) (h_cascaderef03_Few := s_cascaderef03_Few) (h_path_Of := s_path_Of) (h_cascaderef06_Of := s_cascaderef06_Of) (h_cascaderef06_Same := s_cascaderef06_Same)   stk m    v0_0 v0_1 v0_2 v0_3 v0_4  hp
noncomputable def p_cascadelaw06_PathOf : S_api_Value → Option (Bool) := fun ⟨v0_0, v0_1, v0_2, v0_3, v0_4⟩ => p_cascadelaw06_PathOf_0  v0_0 v0_1 v0_2 v0_3 v0_4
theorem s_cascadelaw06_PathOf : (C_cascadelaw06_PathOf (sysW table glob).pcall (sysW table glob).fcall (fun {_} e l => List.map e l) E_api_Value E_api_Pair p_cascadelaw06_PathOf) := by
  intro _ _ _ _ _ _ hp stk    
  exact pf_of (T := table) (G := glob) (f := 4) rfl rfl (s_cascadelaw06_PathOf_0   (topN stk + 1)    hp stk )
end Go.Abs.T
